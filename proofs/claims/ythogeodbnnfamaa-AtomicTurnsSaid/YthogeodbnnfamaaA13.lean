/-
  A function's body, and a call from a greater heap. No conditions.
-/
import Derived.Test.YthogeodbnnfamaaA12
set_option linter.unusedVariables false
set_option linter.unusedSimpArgs false
namespace Go.AL
open Go

section
variable {P : Program}

theorem picks_get {α : Type} {l : List α} : ∀ {ks : List Nat} {vs : List α}, picks l ks = some vs → vs.length = ks.length ∧ ∀ (i k : Nat), ks[i]? = some k → ∃ v, vs[i]? = some v ∧ l[k]? = some v
  | [], vs, h => by simp [picks] at h; subst h; exact ⟨rfl, fun i k h => by simp at h⟩
  | k :: ks, vs, h => by
    simp only [picks] at h
    cases h1 : l[k]? with
    | none => rw [h1] at h; cases h
    | some v =>
      cases h2 : picks l ks with
      | none => rw [h1, h2] at h; cases h
      | some us =>
        rw [h1, h2] at h; simp at h; subst h
        obtain ⟨g1, g2⟩ := picks_get h2
        refine ⟨by simp [g1], fun i m hi => ?_⟩
        cases i with
        | zero => simp at hi; subst hi; exact ⟨v, rfl, h1⟩
        | succ i => simpa using g2 i m (by simpa using hi)

theorem posIn_get {ks : List Nat} : ∀ {m i j : Nat}, kap.posIn i ks m = some j → m ≤ j ∧ ks[j - m]? = some i := by
  induction ks with
  | nil => intro m i j h; cases h
  | cons k ks ih =>
    intro m i j h
    simp only [kap.posIn] at h
    cases hb : Nat.beq k i with
    | true =>
      rw [hb] at h; simp at h; subst h
      have := Nat.eq_of_beq_eq_true hb
      subst this; simp
    | false =>
      rw [hb] at h; simp at h
      obtain ⟨h1, h2⟩ := ih h
      refine ⟨by omega, ?_⟩
      rw [show j - m = (j - (m + 1)) + 1 by omega]
      simpa using h2

theorem posIn_none {ks : List Nat} : ∀ {m i : Nat}, kap.posIn i ks m = none → ∀ (j : Nat), ks[j]? ≠ some i := by
  induction ks with
  | nil => intro m i h j hj; simp at hj
  | cons k ks ih =>
    intro m i h j hj
    simp only [kap.posIn] at h
    cases hb : Nat.beq k i with
    | true => rw [hb] at h; simp at h
    | false =>
      rw [hb] at h; simp at h
      cases j with
      | zero => simp at hj; subst hj; simp at hb
      | succ j => exact ih h j (by simpa using hj)

theorem finOs_get {κ : Nat → Option Nat} {H : List AObj} {wk : Bool} : ∀ {os os' : List AObj}, finOs κ H wk os = some os' → os'.length = os.length ∧ ∀ (i : Nat) (o : AObj), os'[i]? = some o → ∃ o0, os[i]? = some o0 ∧ finO κ H wk o0 = some o
  | [], os', h => by simp [finOs] at h; subst h; exact ⟨rfl, fun i o h => by simp at h⟩
  | x :: xs, os', h => by
    simp only [finOs] at h
    cases h1 : finO κ H wk x with
    | none => rw [h1] at h; cases h
    | some v =>
      cases h2 : finOs κ H wk xs with
      | none => rw [h1, h2] at h; cases h
      | some us =>
        rw [h1, h2] at h; simp at h; subst h
        obtain ⟨g1, g2⟩ := finOs_get h2
        refine ⟨by simp [g1], fun i o hi => ?_⟩
        cases i with
        | zero => simp at hi; subst hi; exact ⟨x, rfl, h1⟩
        | succ i => simpa using g2 i o (by simpa using hi)

def keepOk (n : Nat) (ks : List Nat) : Bool := ks.all (fun k => Nat.ble n k) && nodupB ks
where nodupB : List Nat → Bool
  | [] => true
  | k :: ks => !(ks.any (Nat.beq k)) && nodupB ks

theorem nodupB_inj : ∀ {ks : List Nat}, keepOk.nodupB ks = true → ∀ (i j k : Nat), ks[i]? = some k → ks[j]? = some k → i = j
  | [], _, i, j, k, h, _ => by simp at h
  | x :: xs, hn, i, j, k, hi, hj => by
    simp only [keepOk.nodupB, Bool.and_eq_true, Bool.not_eq_true'] at hn
    have hx : ∀ (m : Nat), xs[m]? ≠ some x := fun m hm => by
      have : xs.any (Nat.beq x) = true := List.any_eq_true.2 ⟨x, List.mem_of_getElem? hm, by simp⟩
      rw [this] at hn; simp at hn
    cases i with
    | zero =>
      simp at hi; subst hi
      cases j with
      | zero => rfl
      | succ j => exact absurd (by simpa using hj) (hx j)
    | succ i =>
      cases j with
      | zero => simp at hj; subst hj; exact absurd (by simpa using hi) (hx i)
      | succ j => have := nodupB_inj hn.2 i j k (by simpa using hi) (by simpa using hj); omega

/-- what a function leaves is as 'finish' tells -/
theorem finish_came0 {ext : Nat → Prop} {w0 w : World} {β0 β : List Ent} {H H' : List AObj} {r r' : AVal} {u : Value} {n : Nat} {ks : List Nat} {wk : Bool} {k : AVal → ARes} (hI : Inv ext w H β) (hs : Step w0 β0 w β) (hn : β0.length ≤ n) (hnle : n ≤ β.length)
    (hr : Rel (ctx ext w β) r u) (hko : keepOk n ks = true) (h : finish n ks wk H r = some (r', H')) : Came ext w0 β0 (fun q G => q = k r' ∧ G = H') k u w := by
  unfold finish at h
  cases h1 : finV (kap n ks) H wk r with
  | none => rw [h1] at h; cases h
  | some v =>
    cases h2 : picks H ks with
    | none => rw [h1, h2] at h; cases h
    | some hs2 =>
      rw [h1, h2] at h
      simp only at h
      cases h3 : finOs (kap n ks) H wk (H.take n ++ hs2) with
      | none => rw [h3] at h; cases h
      | some G =>
        rw [h3] at h; simp at h
        obtain ⟨rfl, rfl⟩ := h
        obtain ⟨p1, p2⟩ := picks_get h2
        simp only [keepOk, Bool.and_eq_true] at hko
        obtain ⟨ko1, ko2⟩ := hko
        -- the entries that stay
        have hent : ∀ k ∈ ks, ∃ e, β[k]? = some e := fun k hk => by
          obtain ⟨i, hi, hik⟩ := List.getElem_of_mem hk
          obtain ⟨o, _, ho⟩ := p2 i k (by rw [List.getElem?_eq_getElem hi, hik])
          have : k < β.length := by rw [hI.len]; exact (List.getElem?_eq_some_iff.1 ho).1
          exact ⟨_, List.getElem?_eq_getElem this⟩
        let β' : List Ent := β.take n ++ ks.map (fun k => β.getD k ⟨none, 0, 1, 0, 0⟩)
        have hlo : ∀ (i : Nat), i < n → β'[i]? = β[i]? := fun i hi => by
          show (β.take n ++ _)[i]? = _
          rw [List.getElem?_append_left (by simp; omega), List.getElem?_take, if_pos hi]
        have hhi : ∀ (i k : Nat), ks[i]? = some k → β'[n + i]? = β[k]? := fun i k hi => by
          show (β.take n ++ _)[n + i]? = _
          have hl : (β.take n).length = n := by simp; omega
          rw [List.getElem?_append_right (by omega), hl, Nat.add_sub_cancel_left, List.getElem?_map, hi]
          obtain ⟨e, he⟩ := hent k (List.mem_of_getElem? hi)
          simp [he]
        have hlen : β'.length = n + ks.length := by simp [β']; omega
        have hcl : ∀ (i : Nat) (e : Ent), β'[i]? = some e → (i < n ∧ β[i]? = some e) ∨ ∃ j k, i = n + j ∧ ks[j]? = some k ∧ β[k]? = some e := fun i e hi => by
          rcases Nat.lt_or_ge i n with hlt | hge
          · exact .inl ⟨hlt, by rw [← hlo i hlt]; exact hi⟩
          · have hi' : i < n + ks.length := by rw [← hlen]; exact (List.getElem?_eq_some_iff.1 hi).1
            have hj : i - n < ks.length := by omega
            refine .inr ⟨i - n, ks[i - n], by omega, List.getElem?_eq_getElem hj, ?_⟩
            rw [← hhi (i - n) _ (List.getElem?_eq_getElem hj), show n + (i - n) = i by omega]; exact hi
        have hge : ∀ (j k : Nat), ks[j]? = some k → n ≤ k := fun j k hk => by
          have := List.all_eq_true.1 ko1 k (List.mem_of_getElem? hk)
          exact Nat.le_of_ble_eq_true this
        have hsub : ∀ b, Blk β' b → Blk β b := fun b ⟨i, e, hi, he⟩ => by
          rcases hcl i e hi with ⟨_, h4⟩ | ⟨j, k, _, _, h4⟩
          · exact ⟨i, e, h4, he⟩
          · exact ⟨k, e, h4, he⟩
        have hsrc : ∀ (i : Nat) (e : Ent), β'[i]? = some e → ∃ m, β[m]? = some e ∧ kap n ks m = some i ∨ False := fun i e hi => by
          rcases hcl i e hi with ⟨h4, h5⟩ | ⟨j, k, h4, h5, h6⟩
          · exact ⟨i, .inl ⟨h5, by simp [kap, Nat.blt, Nat.ble_eq_true_of_le h4]⟩⟩
          · have hk := hge j k h5
            refine ⟨k, .inl ⟨h6, ?_⟩⟩
            have hb : Nat.blt k n = false := by
              cases hb : Nat.blt k n with
              | false => rfl
              | true => have := Nat.le_of_ble_eq_true hb; omega
            simp only [kap, hb, cond_false]
            cases hp : kap.posIn k ks n with
            | none => exact absurd h5 (posIn_none hp j)
            | some m =>
              obtain ⟨h7, h8⟩ := posIn_get hp
              have := nodupB_inj ko2 j (m - n) k h5 h8
              rw [h4]; congr 1; omega
        have hfin : FinOk ext w H β β' (kap n ks) := by
          refine ⟨fun i j e hi he => ?_, hsub, fun i e b hi he hb ⟨m, f, hm, hf⟩ => ?_⟩
          · unfold kap at hi
            cases hb : Nat.blt i n with
            | true =>
              rw [hb] at hi; simp at hi; subst hi
              rw [hlo i (Nat.le_of_ble_eq_true hb)]; exact he
            | false =>
              rw [hb] at hi; simp at hi
              obtain ⟨h7, h8⟩ := posIn_get hi
              have := hhi (j - n) i h8
              rw [show n + (j - n) = j by omega] at this
              rw [this]; exact he
          · obtain ⟨q, hq⟩ := hsrc m f hm
            rcases hq with ⟨q1, q2⟩ | hq
            · have := hI.uniq q i f e b q1 he hf hb
              subst this
              rw [hi] at q2; cases q2
            · exact hq
        obtain ⟨g1, g2⟩ := finOs_get h3
        have hGlen : G.length = n + ks.length := by rw [g1, List.length_append, p1, List.length_take, ← hI.len]; omega
        have hle : Ctx.le { ctx ext w β with β := [] } { ctx ext w β' with β := [] } := hfin.le
        refine ⟨v, G, β', ⟨rfl, rfl⟩, finV_rel hI hfin _ _ _ h1 hr, ⟨by rw [hlen, hGlen], ?_, ?_, ?_⟩, ?_⟩
        · intro i o e ho he
          obtain ⟨o0, ho0, hof⟩ := g2 i o ho
          refine finO_rel hI hfin hof ?_
          rcases hcl i e he with ⟨h4, h5⟩ | ⟨j, k, h4, h5, h6⟩
          · have hl : (H.take n).length = n := by rw [List.length_take, ← hI.len]; omega
            rw [List.getElem?_append_left (by omega), List.getElem?_take, if_pos h4] at ho0
            exact hI.obj i o0 e ho0 h5
          · have hl : (H.take n).length = n := by rw [List.length_take, ← hI.len]; omega
            rw [List.getElem?_append_right (by omega), hl] at ho0
            obtain ⟨o1, q1, q2⟩ := p2 j k h5
            rw [show i - n = j by omega, q1] at ho0
            simp at ho0; subst ho0
            exact hI.obj k o1 e q2 h6
        · intro i j e f b hi hj he hf
          obtain ⟨x, hx⟩ := hsrc i e hi
          obtain ⟨y, hy⟩ := hsrc j f hj
          rcases hx with ⟨x1, x2⟩ | hx
          · rcases hy with ⟨y1, y2⟩ | hy
            · have := hI.uniq x y e f b x1 y1 he hf
              subst this
              rw [x2] at y2; simpa using y2
            · exact hy.elim
          · exact hx.elim
        · exact fun b hb => hI.sep b (hsub b hb)
        · refine ⟨hs.os, hs.tape, hs.output, hs.size, hs.keep, fun b hb => hs.fresh b (hsub b hb), fun j e he => ?_⟩
          obtain ⟨e', h4, h5⟩ := hs.ents j e he
          exact ⟨e', by rw [hlo j (Nat.lt_of_lt_of_le (List.getElem?_eq_some_iff.1 he).1 hn)]; exact h4, h5⟩

theorem Step.lens {w w' : World} {β β' : List Ent} (h : Step w β w' β') : β.length ≤ β'.length := by
  rcases Nat.lt_or_ge β'.length β.length with hlt | hge
  · exfalso
    obtain ⟨e', he', _⟩ := h.ents β'.length _ (List.getElem?_eq_getElem hlt)
    simp at he'
  · exact hge
theorem finish_came {ext : Nat → Prop} {w0 w : World} {β0 β : List Ent} {H H' : List AObj} {r r' : AVal} {u : Value} {n : Nat} {ks : List Nat} {wk : Bool} {k : AVal → ARes} (hI : Inv ext w H β) (hs : Step w0 β0 w β) (hn : β0.length = n)
    (hr : Rel (ctx ext w β) r u) (hko : keepOk n ks = true) (h : finish n ks wk H r = some (r', H')) : Came ext w0 β0 (fun q G => q = k r' ∧ G = H') k u w :=
  finish_came0 hI hs (by omega) (by have := hs.lens; omega) hr hko h

/-- what is asked where a body ends -/
def BodyQ (tab : List TyRow) (rs : List ResultVar) (n : Nat) (Q : Eff) : APost
  | .ret, F, H | .normal, F, H => ∃ r r' H' ks wk, resA tab rs F H = some r ∧ keepOk n ks = true ∧ finish n ks wk H r = some (r', H') ∧ Q (.ret r') H'
  | .panic v, F, H => ∃ r' H' ks wk, keepOk n ks = true ∧ finish n ks wk H v = some (r', H') ∧ Q (.pan r') H'
  | _, _, _ => False

theorem res1_run [T : TyTab P] {G : Gh} {β : List Ent} {F : Fr} {H : List AObj} {a : Act} {w : World} (hs : StB G β F H a w) : ∀ (r : ResultVar) (v : AVal), resA1 T.tab F H r = some v →
    ∃ u, (match r with | .tmp t => pure (a.tmps.getD t undef) | .cell q t => do loadVar t (← asAddr (a.tmps.getD q undef)) : Sem Value).run P w = .ok u w ∧ Rel (ctx G.ext w β) v u
  | .tmp t, v, h => by
    refine ⟨a.tmps.getD t undef, rfl, ?_⟩
    have : ev F (.tmp t) = some v := h
    exact hs.ev this
  | .cell q t, v, h => by
    simp only [resA1, loadB] at h
    split at h
    · rename_i j off r h1 h2
      split at h
      · rename_i bt cs h3
        have hu0 := hs.ev (x := .tmp q) h1
        obtain ⟨e, b, us, he, hb, hu, hc, hr, _⟩ := box_of hs.inv h3 hu0
        obtain ⟨u, h4, h5⟩ := takeA_load (P := P) h2 hr h (w := w) (b := b) (o := 0) (fun i u hi => by
          simp only [World.cell?, hc, Nat.zero_add, Option.isSome_none, Bool.false_eq_true, if_false]
          simpa using hi)
        simp only [Nat.zero_add] at h4
        refine ⟨u, ?_, h5⟩
        have hu' : a.tmps.getD q undef = .pointer (some ⟨b, off, none⟩) := hu
        simp only [Sem.run_bind, hu', asAddr, Sem.run_pure, Result.andThen_ok, h4]
      · cases h
    · cases h

theorem resAs_run [T : TyTab P] {G : Gh} {β : List Ent} {F : Fr} {H : List AObj} {a : Act} {w : World} (hs : StB G β F H a w) : ∀ (rs : List ResultVar) (vs : List AVal), resAs T.tab F H rs = some vs →
    ∃ us, (rs.mapM (fun r => match r with | .tmp t => pure (a.tmps.getD t undef) | .cell q t => do loadVar t (← asAddr (a.tmps.getD q undef)) : ResultVar → Sem Value)).run P w = .ok us w ∧ RelL (ctx G.ext w β) vs us
  | [], vs, h => by simp [resAs] at h; subst h; exact ⟨[], rfl, rfl⟩
  | r :: rs, vs, h => by
    simp only [resAs] at h
    cases h1 : resA1 T.tab F H r with
    | none => rw [h1] at h; cases h
    | some v =>
      cases h2 : resAs T.tab F H rs with
      | none => rw [h1, h2] at h; cases h
      | some us =>
        rw [h1, h2] at h; simp at h; subst h
        obtain ⟨u, h3, h4⟩ := res1_run hs r v h1
        obtain ⟨us', h5, h6⟩ := resAs_run hs rs us h2
        refine ⟨u :: us', ?_, u, us', rfl, h4, h6⟩
        simp only [List.mapM_cons, Sem.run_bind]
        rw [h3]
        simp only [Result.andThen_ok]
        rw [h5]
        rfl

theorem res_run [T : TyTab P] {G : Gh} {β : List Ent} {F : Fr} {H : List AObj} {a : Act} {w : World} (hs : StB G β F H a w) {fn : Func} {r : AVal} (h : resA T.tab fn.results.toList F H = some r) :
    ∃ u, (results fn a.tmps).run P w = .ok u w ∧ Rel (ctx G.ext w β) r u := by
  unfold resA at h
  cases h1 : resAs T.tab F H fn.results.toList with
  | none => rw [h1] at h; cases h
  | some vs =>
    rw [h1] at h
    obtain ⟨us, h2, h3⟩ := resAs_run hs _ _ h1
    have hm : (results fn a.tmps).run P w = .ok (if h : us.toArray.size = 1 then us.toArray[0] else .tuple us.toArray) w := by
      unfold results
      rw [Array.mapM_eq_mapM_toList]
      simp only [Sem.run_bind, Sem.run_map]
      generalize hR : Sem.run P (List.mapM _ fn.results.toList) w = R
      have hR2 : R = .ok us w := by rw [← hR]; exact h2
      rw [hR2]
      rfl
    cases vs with
    | nil =>
      cases h3
      simp at h; subst h
      exact ⟨_, hm, #[], rfl, rfl⟩
    | cons v vs =>
      obtain ⟨u, us', rfl, h4, h5⟩ := h3
      cases vs with
      | nil =>
        cases h5
        simp at h; subst h
        exact ⟨u, hm, h4⟩
      | cons x xs =>
        obtain ⟨u2, us2, rfl, h6, h7⟩ := h5
        simp at h; subst h
        refine ⟨.tuple (u :: u2 :: us2).toArray, ?_, _, rfl, u, u2 :: us2, rfl, h4, u2, us2, rfl, h6, h7⟩
        rw [hm]; simp

/-- WHAT A FUNCTION DOES, by a walk through its body. -/
theorem acalls_intro [T : TyTab P] {f : FuncId} {fn : Func} {c : Code} {args : List AVal} {H : List AObj} {Q : Eff} {N : Nat} {rs : List ResultVar} (hf : P.funcs[f]? = some fn) (hb : fn.body = some c) (hname : (fn.name == "runtime.NumGoroutine") = false)
    (hN : fn.ntmps = N) (hl : Nat.ble args.length N = true) (hrs : fn.results.toList = rs)
    (h : ∀ w0 β0 ext, β0.length = H.length → AW P ⟨w0, β0, ext, N, []⟩ c (BodyQ T.tab rs H.length Q) (params 0 args) H) : ACalls P f args H Q := by
  refine ⟨⟨fn, hf, hname, by rw [hb]; rfl⟩, fun ext w β us hI hx hr => ?_⟩
  have hlen := hr.length
  have hl' := Nat.le_of_ble_eq_true hl
  refine calls_of_wp hf hb ?_
  let G : Gh := ⟨w, β, ext, N, []⟩
  have hst : St G (params 0 args) H { tmps := us.toArray ++ Array.replicate (fn.ntmps - us.toArray.size) undef, defers := [] } w := by
    refine ⟨β, hI, Step.refl w β, hx, ?_, rfl, fun t v ht => ?_⟩
    · show (us.toArray ++ Array.replicate (fn.ntmps - us.toArray.size) undef).size = N
      simp; omega
    · obtain ⟨_, h1⟩ := params_get ht
      rw [Nat.sub_zero] at h1
      obtain ⟨u, h2, h3⟩ := hr.get h1
      have hlt : t < us.length := (List.getElem?_eq_some_iff.1 h2).1
      refine ⟨u, ?_, h3⟩
      show (us.toArray ++ Array.replicate (fn.ntmps - us.toArray.size) undef)[t]? = some u
      rw [Array.getElem?_append_left (by simpa using hlt)]
      simpa using h2
  refine wp_mono (h w β ext hI.len _ w hst) ?_
  have hn : β.length = H.length := hI.len
  have key : ∀ a' w', (∃ F' H', (∃ r r' Ho ks wk, resA T.tab rs F' H' = some r ∧ keepOk H.length ks = true ∧ finish H.length ks wk H' r = some (r', Ho) ∧ Q (.ret r') Ho) ∧ St G F' H' a' w') →
      a'.defers = [] ∧ ∃ v, (results fn a'.tmps).run P w' = .ok v w' ∧ Ended ext w β Q (.returned v) w' := by
    rintro a' w' ⟨F', H', ⟨r, r', Ho, ks, wk, h1, h2, h3, h4⟩, β', hs⟩
    subst hrs
    obtain ⟨u, h5, h6⟩ := res_run hs h1
    exact ⟨hs.defers, u, h5, Came.mono (fun q G' ⟨e1, e2⟩ => by subst e1; subst e2; exact h4) (finish_came (k := .ret) hs.inv hs.step hn h6 h2 h3)⟩
  intro e a' w' he
  cases e with
  | normal => exact key a' w' he
  | ret => exact key a' w' he
  | exit id => obtain ⟨F', H', h1, _⟩ := he; exact h1.elim
  | goto l => exact he.elim
  | outgrown => exact he.elim
  | panic ch =>
    obtain ⟨v, F', H', β', u, ⟨r', Ho, ks, wk, h2, h3, h4⟩, hs, h5, h6⟩ := he
    exact ⟨hs.defers, u, h5, Came.mono (fun q G' ⟨e1, e2⟩ => by subst e1; subst e2; exact h4) (finish_came (k := .pan) hs.inv hs.step hn h6 h2 h3)⟩
end
end Go.AL
