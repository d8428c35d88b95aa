/-
  The logic of walks, part 6. An empty slice in a box is taken for an owned one. Orders that are open: what is ahead through others. Quotients and remainders; elements of owned slices. No conditions.
-/
import Derived.Test.YthogeodbnnfamaaL4
set_option linter.unusedVariables false
set_option linter.unusedSimpArgs false
namespace Go.AL
open Go

theorem Inv.extend {ext : Nat → Prop} {w : World} {H : List AObj} {β : List Ent} (hI : Inv ext w H β) (bt : TypeId) (es : Nat) :
    Inv ext w (H ++ [.arr 1 bt es []]) (β ++ [⟨none, 1, es, 0, 0⟩]) ∧ Step w β w (β ++ [⟨none, 1, es, 0, 0⟩]) := by
  have hlen := hI.len
  have hst : Step w β w (β ++ [⟨none, 1, es, 0, 0⟩]) := by
    refine ⟨rfl, rfl, rfl, Nat.le_refl _, fun b hb _ => rfl, fun b hb => ?_, fun j e he => ⟨e, by rw [List.getElem?_append_left (List.getElem?_eq_some_iff.1 he).1]; exact he, Nat.le_refl _, fun _ => rfl, fun _ => rfl⟩⟩
    obtain ⟨j, e, he, hb⟩ := hb
    rcases Nat.lt_or_ge j β.length with hlt | hge
    · rw [List.getElem?_append_left hlt] at he; exact .inl ⟨j, e, he, hb⟩
    · rw [List.getElem?_append_right hge] at he
      have : j - β.length = 0 := by
        have := (List.getElem?_eq_some_iff.1 he).1
        simpa using this
      rw [this] at he; simp at he; subst he; cases hb
  have cls : ∀ (i : Nat) (f : Ent), (β ++ [⟨none, 1, es, 0, 0⟩])[i]? = some f → β[i]? = some f ∨ (i = β.length ∧ f = ⟨none, 1, es, 0, 0⟩) := fun i f hf => by
    rcases Nat.lt_or_ge i β.length with hlt | hge
    · rw [List.getElem?_append_left hlt] at hf; exact .inl hf
    · rw [List.getElem?_append_right hge] at hf
      have : i - β.length = 0 := by
        have := (List.getElem?_eq_some_iff.1 hf).1
        simpa using this
      rw [this] at hf; simp at hf; exact .inr ⟨by omega, hf.symm⟩
  refine ⟨?_, hst⟩
  refine hI.upd hst (by simp [hlen]) ?_ ?_ ?_
  · intro j o e ho he
    rcases cls j e he with h1 | ⟨h1, h2⟩
    · have hlt := (List.getElem?_eq_some_iff.1 h1).1
      rw [List.getElem?_append_left (by rw [← hlen]; exact hlt)] at ho
      exact .inl ⟨ho, h1, fun _ _ => rfl⟩
    · subst h2
      rw [h1, hlen] at ho
      simp at ho; subst ho
      exact .inr ⟨rfl, by decide, rfl, rfl, Nat.le_refl _, rfl⟩
  · intro i k e f b hi hk he hf
    rcases cls i e hi with h1 | ⟨h1, h2⟩ <;> rcases cls k f hk with h3 | ⟨h3, h4⟩
    · exact hI.uniq i k e f b h1 h3 he hf
    · subst h4; cases hf
    · subst h2; cases he
    · omega
  · intro b hb
    rcases hst.fresh b hb with h1 | h1
    · exact hI.sep b h1
    · obtain ⟨j, e, he, hb⟩ := hb
      rcases cls j e he with h2 | ⟨h2, h3⟩
      · exact hI.sep b ⟨j, e, h2, hb⟩
      · subst h3; cases hb

theorem aw_adoptB {P : Program} {G : Gh} {Q : APost} {c : Code} {F : Fr} {H : List AObj} (j i : Nat) (bt : TypeId) (es : Nat) {t : TypeId} {cs : List AVal} (hj : H[j]? = some (.box t cs)) (hi : cs[i]? = some (.slf []))
    (h : AW P G c Q F ((H ++ [AObj.arr 1 bt es []]).set j (.box t (cs.set i (.arr H.length 1))))) : AW P G c Q F H := by
  rintro a w ⟨β, hs⟩
  obtain ⟨hinv, hst⟩ := hs.inv.extend bt es
  have hlen := hs.inv.len
  have hjl := (List.getElem?_eq_some_iff.1 hj).1
  have hs1 := hs.world hinv hst
  refine h a w ⟨_, hs1.world ?_ (Step.refl _ _)⟩
  refine hinv.upd (Step.refl _ _) (by simp [hlen]) ?_ hinv.uniq (fun b hb => hinv.sep b hb)
  intro k o e ho he
  by_cases hk : k = j
  · subst hk
    rw [List.getElem?_set_self (by simp; omega)] at ho
    simp at ho; subst ho
    have hold := hinv.obj k (.box t cs) e (by rw [List.getElem?_append_left hjl]; exact hj) he
    obtain ⟨h0, h1, b, us, h2, h3, h4⟩ := hold
    refine .inr ⟨h0, ?_, b, us, h2, h3, ?_⟩
    · rw [List.all_eq_true] at h1 ⊢
      intro x hx
      rcases List.mem_or_eq_of_mem_set hx with hx | rfl
      · exact h1 x hx
      · rfl
    · obtain ⟨u, hu, hr⟩ := h4.get hi
      have hnew : Rel (ctx G.ext w (β ++ [⟨none, 1, es, 0, 0⟩])) (.arr H.length 1) u := by
        obtain ⟨A, es', g1, g2, g3⟩ := hr
        exact ⟨by subst g1; rfl, ⟨none, 1, es, 0, 0⟩, by rw [← hlen]; simp, Nat.le_refl _, fun _ => ⟨Nat.le_refl _, rfl, A, g1⟩⟩
      have := h4.set i hnew
      have e1 : us.toList.set i u = us.toList := by
        refine List.ext_getElem? fun q => ?_
        by_cases hq : q = i
        · subst hq; rw [List.getElem?_set_self (List.getElem?_eq_some_iff.1 hu).1, hu]
        · rw [List.getElem?_set_ne (by omega)]
      rwa [e1] at this
  · rw [List.getElem?_set_ne (by omega)] at ho
    exact .inl ⟨ho, he, fun _ _ => rfl⟩

theorem jadB {P : Program} {G : Gh} {Q : APost} {F : Fr} {H H' : List AObj} {k : Kt} {c : Code} (j i : Nat) (bt : TypeId) (es : Nat) {t : TypeId} {cs : List AVal} {n : Nat} (hj : H[j]? = some (.box t cs)) (hi : cs[i]? = some (.slf [])) (hn : lenH H = some n)
    (hH : nrmH ((H ++ [AObj.arr 1 bt es []]).set j (.box t (cs.set i (.arr n 1)))) = some H') (h : J P G Q (.c c k) F H') : J P G Q (.c c k) F H := by
  refine aw_adoptB j i bt es hj hi ?_
  rw [lenH_eq hn] at hH
  rw [nrmH_eq hH] at h
  exact h
end Go.AL

set_option linter.unusedVariables false
set_option linter.unusedSimpArgs false
namespace Go.AL
open Go

inductive Anc (ops : Array Oper) : Nat → Nat → Prop
  | base {x y : Nat} {o : Oper} {e : Edge} : ops[x]? = some o → e ∈ o.after → Region.binds .any e = true → e.on = y → Anc ops x y
  | step {x y : Nat} {o : Oper} {e : Edge} : ops[x]? = some o → e ∈ o.after → Region.binds .any e = true → Anc ops e.on y → Anc ops x y
def Closed (ops : Array Oper) (listed : Array Bool) : Prop := ∀ (z : Nat) (o : Oper), ops[z]? = some o → listed.getD z false = true → ∀ e ∈ o.after, Region.binds .any e = true → listed.getD e.on false = true
theorem anc_listed {ops : Array Oper} {listed : Array Bool} {n : Nat} (hcl : Closed ops listed) (hn : listed.size = n) {x y : Nat} (h : Anc ops x y) : (∀ o, ops[x]? = some o → ∀ e ∈ o.after, Region.binds .any e = true → listed.getD e.on false = true) → listed.getD y false = true := by
  induction h with
  | base h1 h2 h3 h4 => intro hx; rw [← h4]; exact hx _ h1 _ h2 h3
  | step h1 h2 h3 _ ih =>
    intro hx
    exact ih fun o ho e he hb => hcl _ o ho (hx _ h1 _ h2 h3) e he hb
/-- THE ORDER IS OPEN: the walk of one order serves them all. -/
theorem awd_anyT {P : Program} {G : Gh} {ops : Array Oper} {Q : APost} (hQ : ∀ F F' H, FrEq F F' → Q .normal F H → Q .normal F' H) :
    ∀ (m : Nat) (L : List (Nat × Oper × K)) (listed : Array Bool) (F : Fr) (H : List AObj), L.length = m → Left ops.size L listed →
      (∀ x ∈ L, ops[x.1]? = some x.2.1) → (L.map (·.1)).Nodup →
      (∀ L1 x L2, L = L1 ++ x :: L2 → (∀ y ∈ L2, y.1 ≠ x.1 → ∀ e ∈ x.2.1.after, Region.binds .any e = true → e.on ≠ y.1) ∧ (∀ e ∈ x.2.1.after, Region.binds .any e = true → e.on < ops.size ∧ e.on ≠ x.1) ∧
        ∀ y ∈ L1, Anc ops x.1 y.1 ∨ (y.2.1.apart ops x.2.1 = true ∧ y.2.2.apart x.2.2 = true)) → Closed ops listed →
      AWD P G ops (Q .normal) L F H → ∀ a w, St G F H a w → wpAny P .any ops (lift G Q) m listed a w
  | 0, L, listed, F, H, hm, hL, hops, hnd, hc, hcl, h, a, w, hs => by
    obtain rfl := List.length_eq_zero_iff.1 hm
    refine ⟨?_, F, H, h, hs⟩
    cases hr : Region.ready .any ops listed with
    | nil => rfl
    | cons i r =>
      have : i ∈ Region.ready .any ops listed := by rw [hr]; exact List.mem_cons_self ..
      obtain ⟨h0, o, ho, _⟩ := mem_ready.1 this
      obtain ⟨x, hx, _⟩ := (hL.2 i (Array.getElem?_eq_some_iff.1 ho).1).1 h0
      cases hx
  | m + 1, L, listed, F, H, hm, hL, hops, hnd, hc, hcl, h, a, w, hs => by
    refine ⟨fun hr => ?_, fun i hi => ?_⟩
    · -- the first of the walk is ready
      exfalso
      cases L with
      | nil => simp at hm
      | cons x L =>
        obtain ⟨h1, h2, _⟩ := hc [] x L rfl
        have hx := hops x (List.mem_cons_self ..)
        have hlt := (Array.getElem?_eq_some_iff.1 hx).1
        have : x.1 ∈ Region.ready .any ops listed := by
          refine mem_ready.2 ⟨(hL.2 x.1 hlt).2 ⟨x, List.mem_cons_self .., rfl⟩, x.2.1, hx, fun e he hb => ?_⟩
          obtain ⟨h3, h4⟩ := h2 e he hb
          have h5 : ¬ (listed.getD e.on true = false) := fun hf => by
            obtain ⟨y, hy, hye⟩ := (hL.2 e.on h3).1 hf
            cases List.mem_cons.1 hy with
            | inl hxy => subst hxy; exact h4 hye.symm
            | inr hm' => exact h1 y hm' (fun hyx => h4 (hye ▸ hyx)) e he hb hye.symm
          have hsz : e.on < listed.size := by rw [hL.1]; exact h3
          simp only [Array.getD_eq_getD_getElem?, Array.getElem?_eq_getElem hsz, Option.getD_some] at h5 ⊢
          simpa using h5
        rw [hr] at this
        cases this
    · obtain ⟨h0, o, ho, hall⟩ := mem_ready.1 hi
      have hlt := (Array.getElem?_eq_some_iff.1 ho).1
      obtain ⟨x, hx, hxi⟩ := (hL.2 i hlt).1 h0
      subst hxi
      have hox := hops x hx
      rw [ho] at hox
      simp at hox
      obtain ⟨L1, L2, hsplit⟩ := List.append_of_mem hx
      obtain ⟨h1, h2, h3⟩ := hc L1 x L2 hsplit
      obtain ⟨xi, xo, xk⟩ := x
      simp only at hox hsplit h1 h2 h3 ho hall hlt h0 hi hx
      subst hox
      have hun : ∀ y ∈ L1, listed.getD y.1 true = false := fun y hy => by
        have hyL : y ∈ L := by rw [hsplit]; exact List.mem_append_left _ hy
        exact (hL.2 y.1 (Array.getElem?_eq_some_iff.1 (hops y hyL)).1).2 ⟨y, hyL, rfl⟩
      have hap : ∀ y ∈ L1, y.2.1.apart ops o = true ∧ y.2.2.apart xk = true := fun y hy => by
        rcases h3 y hy with hA | h4
        · exfalso
          have h6 := hun y hy
          have hyL : y ∈ L := by rw [hsplit]; exact List.mem_append_left _ hy
          have hyl := (Array.getElem?_eq_some_iff.1 (hops y hyL)).1
          have h5 := anc_listed hcl (by rw [hL.1]) hA (fun o' ho' e he hb => by
            rw [ho] at ho'; injection ho' with ho'; subst ho'; exact hall e he hb)
          have hsz : y.1 < listed.size := by rw [hL.1]; exact hyl
          simp only [Array.getD_eq_getD_getElem?, Array.getElem?_eq_getElem hsz, Option.getD_some] at h5 h6
          rw [h5] at h6; cases h6
        · exact h4
      rw [hsplit] at h
      obtain ⟨hd, v, H1, hst, hrest⟩ := AWD.take hQ L1 F H hap h
      have hnd' : ((L1 ++ L2).map (·.1)).Nodup ∧ ∀ y ∈ L1 ++ L2, y.1 ≠ xi := by
        rw [hsplit] at hnd
        simp only [List.map_append, List.map_cons] at hnd ⊢
        rw [List.nodup_append] at hnd ⊢
        obtain ⟨n1, n2, n3⟩ := hnd
        rw [List.nodup_cons] at n2
        refine ⟨⟨n1, n2.2, fun a ha b hb => n3 a ha b (List.mem_cons_of_mem _ hb)⟩, fun y hy hyx => ?_⟩
        cases List.mem_append.1 hy with
        | inl hy => exact n3 y.1 (List.mem_map.2 ⟨y, hy, rfl⟩) xi (List.mem_cons_self ..) hyx
        | inr hy => exact n2.1 (List.mem_map.2 ⟨y, hy, hyx⟩)
      have hleft : Left ops.size (L1 ++ L2) (listed.setIfInBounds xi true) := by
        refine ⟨by simp [hL.1], fun j hj => ?_⟩
        by_cases hji : xi = j
        · subst hji
          rw [getD_set_self (by rw [hL.1]; exact hj)]
          constructor
          · intro h; cases h
          · rintro ⟨y, hy, hyx⟩; exact absurd hyx (hnd'.2 y hy)
        · rw [getD_set_ne true hji, hL.2 j hj, hsplit]
          constructor
          · rintro ⟨y, hy, hyj⟩
            rcases List.mem_append.1 hy with h4 | h4
            · exact ⟨y, List.mem_append_left _ h4, hyj⟩
            · cases List.mem_cons.1 h4 with
              | inl h5 => subst h5; exact absurd hyj hji
              | inr h5 => exact ⟨y, List.mem_append_right _ h5, hyj⟩
          · rintro ⟨y, hy, hyj⟩
            rcases List.mem_append.1 hy with h4 | h4
            · exact ⟨y, List.mem_append_left _ h4, hyj⟩
            · exact ⟨y, List.mem_append_right _ (List.mem_cons_of_mem _ h4), hyj⟩
      have hsub : ∀ y ∈ L1 ++ L2, y ∈ L := fun y hy => by
        rw [hsplit]
        rcases List.mem_append.1 hy with h4 | h4
        · exact List.mem_append_left _ h4
        · exact List.mem_append_right _ (List.mem_cons_of_mem _ h4)
      have hc' : ∀ M1 y M2, L1 ++ L2 = M1 ++ y :: M2 → (∀ z ∈ M2, z.1 ≠ y.1 → ∀ e ∈ y.2.1.after, Region.binds .any e = true → e.on ≠ z.1) ∧ (∀ e ∈ y.2.1.after, Region.binds .any e = true → e.on < ops.size ∧ e.on ≠ y.1) ∧
          ∀ z ∈ M1, Anc ops y.1 z.1 ∨ (z.2.1.apart ops y.2.1 = true ∧ z.2.2.apart y.2.2 = true) := by
        intro M1 y M2 hM
        rcases List.append_eq_append_iff.1 hM with ⟨as, ha1, ha2⟩ | ⟨bs, hb1, hb2⟩
        · -- M1 = L1 ++ as, L2 = as ++ y :: M2
          obtain ⟨c1, c2, c3⟩ := hc (L1 ++ (xi, o, xk) :: as) y M2 (by rw [hsplit, ha2]; simp)
          refine ⟨c1, c2, fun z hz => c3 z ?_⟩
          rw [ha1] at hz
          rcases List.mem_append.1 hz with h4 | h4
          · exact List.mem_append_left _ h4
          · exact List.mem_append_right _ (List.mem_cons_of_mem _ h4)
        · cases bs with
          | nil =>
            simp at hb1 hb2
            obtain ⟨c1, c2, c3⟩ := hc (L1 ++ [(xi, o, xk)]) y M2 (by rw [hsplit, ← hb2]; simp)
            refine ⟨c1, c2, fun z hz => c3 z ?_⟩
            rw [← hb1] at hz
            exact List.mem_append_left _ hz
          | cons b bs =>
            simp at hb2
            obtain ⟨hb2, hb3⟩ := hb2
            subst hb2
            obtain ⟨c1, c2, c3⟩ := hc M1 y (bs ++ (xi, o, xk) :: L2) (by rw [hsplit, hb1]; simp)
            refine ⟨fun z hz => c1 z ?_, c2, c3⟩
            rw [hb3] at hz
            rcases List.mem_append.1 hz with h4 | h4
            · exact List.mem_append_left _ h4
            · exact List.mem_append_right _ (List.mem_cons_of_mem _ h4)
      have hcl' : Closed ops (listed.setIfInBounds xi true) := by
        have hxs : xi < listed.size := by rw [hL.1]; exact hlt
        have mono : ∀ j, listed.getD j false = true → (listed.setIfInBounds xi true).getD j false = true := fun j hj => by
          by_cases hji : xi = j
          · subst hji; simp [hxs]
          · rw [getD_set_ne false hji]; exact hj
        intro z oz hoz hz e he hb
        by_cases hzi : xi = z
        · subst hzi
          rw [ho] at hoz; injection hoz with hoz; subst hoz
          exact mono _ (hall e he hb)
        · rw [getD_set_ne false hzi] at hz
          exact mono _ (hcl z oz hoz hz e he hb)
      have next : ∀ a w, St G (fput F o.dst v) H1 a w → wpAny P .any ops (lift G Q) m (listed.setIfInBounds xi true) a w :=
        awd_anyT hQ m (L1 ++ L2) _ _ H1 (by rw [hsplit] at hm; simp at hm ⊢; omega) hleft (fun y hy => hops y (hsub y hy)) hnd'.1 hc' hcl' hrest
      unfold wpOp
      simp only [ho]
      obtain ⟨β, hs'⟩ := id hs
      rcases hst with ⟨hg, hsem⟩ | ⟨hg, rfl, rfl⟩
      · rw [if_pos (guardA_ok hs' hg)]
        exact .inl (op_wp hd hsem.op hs fun r H' ⟨h4, h5⟩ => by subst h4; subst h5; exact next)
      · rw [if_neg (by rw [guardA_ok hs' hg]; simp)]
        exact next _ _ ⟨β, hs'.undef hd⟩

/-! ### the check -/
/-- what is ahead of an operation, as a row of bits -/
def maskOf : List (Nat × Oper × K × Nat) → Nat → Nat
  | [], _ => 0
  | x :: r, i => cond (Nat.beq x.1 i) x.2.2.2 (maskOf r i)
def maskE (ahead : List (Nat × Oper × K × Nat)) : List Edge → Nat
  | [] => 0
  | e :: r => cond (Region.binds .any e) (Nat.lor (Nat.lor (Nat.shiftLeft 1 e.on) (maskOf ahead e.on)) (maskE ahead r)) (maskE ahead r)
def drawGoT (ops : Array Oper) : List (Nat × Oper × K × Nat) → List (Nat × Oper × K) → Bool
  | _, [] => true
  | ahead, x :: r => x.2.1.after.toList.all (fun e => !Region.binds .any e || (ahead.any (fun y => Nat.beq y.1 e.on))) && Nat.blt x.1 ops.size && !(ahead.any (fun y => Nat.beq y.1 x.1)) &&
      ahead.all (fun y => Nat.testBit (maskE ahead x.2.1.after.toList) y.1 || (y.2.1.apart ops x.2.1 && y.2.2.1.apart x.2.2)) && drawGoT ops ((x.1, x.2.1, x.2.2, maskE ahead x.2.1.after.toList) :: ahead) r
def drawOkT (l : List Oper) (L : List (Nat × Oper × K)) : Bool := Nat.beq L.length l.length && drawGoT l.toArray [] L
def MaskOk (ops : Array Oper) (ahead : List (Nat × Oper × K × Nat)) : Prop := ∀ i y, (maskOf ahead i).testBit y = true → Anc ops i y
theorem maskE_ok {ops : Array Oper} {ahead : List (Nat × Oper × K × Nat)} (h : MaskOk ops ahead) {x : Nat} {o : Oper} (ho : ops[x]? = some o) : ∀ {es : List Edge}, (∀ e ∈ es, e ∈ o.after) → ∀ y, (maskE ahead es).testBit y = true → Anc ops x y
  | [], _, y, hy => by simp [maskE] at hy
  | e :: es, hes, y, hy => by
    simp only [maskE] at hy
    have ih := maskE_ok h ho (es := es) (fun e he => hes e (List.mem_cons_of_mem _ he)) y
    cases hb : Region.binds .any e with
    | false => rw [hb] at hy; exact ih hy
    | true =>
      rw [hb, cond_true] at hy
      have hy : ((1 <<< e.on ||| maskOf ahead e.on) ||| maskE ahead es).testBit y = true := hy
      rw [Nat.testBit_or, Nat.testBit_or, Nat.testBit_shiftLeft] at hy
      simp only [Bool.or_eq_true, Bool.and_eq_true, decide_eq_true_eq] at hy
      rcases hy with (⟨h1, h2⟩ | h1) | h1
      · refine .base ho (hes e (List.mem_cons_self ..)) hb ?_
        have h3 : y - e.on = 0 := by
          cases hq : y - e.on with
          | zero => rfl
          | succ q => rw [hq, Nat.testBit_succ] at h2; simp at h2
        omega
      · exact .step ho (hes e (List.mem_cons_self ..)) hb (h _ _ h1)
      · exact ih h1
theorem drawGoT_split {ops : Array Oper} : ∀ {L : List (Nat × Oper × K)} {ahead : List (Nat × Oper × K × Nat)}, MaskOk ops ahead → (∀ x ∈ L, ops[x.1]? = some x.2.1) → drawGoT ops ahead L = true → ∀ (L1 : List (Nat × Oper × K)) (x : Nat × Oper × K) (L2 : List (Nat × Oper × K)), L = L1 ++ x :: L2 →
    (∀ e ∈ x.2.1.after, Region.binds .any e = true → (∃ y ∈ L1, y.1 = e.on) ∨ ∃ y ∈ ahead, y.1 = e.on) ∧ x.1 < ops.size ∧ (∀ y ∈ L1, y.1 ≠ x.1) ∧ (∀ y ∈ ahead, y.1 ≠ x.1) ∧
      (∀ y ∈ L1, Anc ops x.1 y.1 ∨ (y.2.1.apart ops x.2.1 = true ∧ y.2.2.apart x.2.2 = true)) ∧ ∀ y ∈ ahead, Anc ops x.1 y.1 ∨ (y.2.1.apart ops x.2.1 = true ∧ y.2.2.1.apart x.2.2 = true)
  | [], ahead, _, _, _, L1, x, L2, h => by cases L1 <;> simp at h
  | z :: r, ahead, hM, hops, hg, L1, x, L2, h => by
    simp only [drawGoT, Bool.and_eq_true] at hg
    obtain ⟨⟨⟨⟨g1, g2⟩, g3⟩, g4⟩, g5⟩ := hg
    have hz := hops z (List.mem_cons_self ..)
    have hEok := fun y => maskE_ok hM hz (es := z.2.1.after.toList) (fun e he => by simpa using he) y
    cases L1 with
    | nil =>
      simp at h
      obtain ⟨rfl, rfl⟩ := h
      refine ⟨fun e he hb => .inr ?_, Nat.le_of_ble_eq_true g2, by simp, fun y hy hyz => ?_, by simp, fun y hy => ?_⟩
      · have := List.all_eq_true.1 g1 e (by simpa using he)
        rw [hb] at this
        simp only [Bool.not_true, Bool.false_or] at this
        obtain ⟨y, hy, hye⟩ := List.any_eq_true.1 this
        exact ⟨y, hy, Nat.eq_of_beq_eq_true hye⟩
      · have : ahead.any (fun y => Nat.beq y.1 z.1) = true := List.any_eq_true.2 ⟨y, hy, by rw [hyz]; simp⟩
        rw [this] at g3; simp at g3
      · have := List.all_eq_true.1 g4 y hy
        simp only [Bool.or_eq_true, Bool.and_eq_true] at this
        rcases this with h1 | h1
        · exact .inl (hEok _ h1)
        · exact .inr h1
    | cons z' L1 =>
      simp at h
      obtain ⟨rfl, rfl⟩ := h
      have hM' : MaskOk ops ((z.1, z.2.1, z.2.2, maskE ahead z.2.1.after.toList) :: ahead) := fun i y hy => by
        simp only [maskOf] at hy
        cases hb : Nat.beq z.1 i with
        | true =>
          rw [hb, cond_true] at hy
          have e := Nat.eq_of_beq_eq_true hb
          subst e
          exact hEok _ hy
        | false => rw [hb, cond_false] at hy; exact hM i y hy
      obtain ⟨s1, s2, s3, s4, s5, s6⟩ := drawGoT_split hM' (fun y hy => hops y (List.mem_cons_of_mem _ hy)) g5 L1 x L2 rfl
      refine ⟨fun e he hb => ?_, s2, fun y hy => ?_, fun y hy => s4 y (List.mem_cons_of_mem _ hy), fun y hy => ?_, fun y hy => s6 y (List.mem_cons_of_mem _ hy)⟩
      · rcases s1 e he hb with ⟨y, hy, hye⟩ | ⟨y, hy, hye⟩
        · exact .inl ⟨y, List.mem_cons_of_mem _ hy, hye⟩
        · rcases List.mem_cons.1 hy with rfl | hy
          · exact .inl ⟨z, List.mem_cons_self .., hye⟩
          · exact .inr ⟨y, hy, hye⟩
      · rcases List.mem_cons.1 hy with rfl | hy
        · exact s4 (y.1, y.2.1, y.2.2, _) (List.mem_cons_self ..)
        · exact s3 y hy
      · rcases List.mem_cons.1 hy with rfl | hy
        · exact s6 (y.1, y.2.1, y.2.2, _) (List.mem_cons_self ..)
        · exact s5 y hy
theorem split_nodup : ∀ {L : List (Nat × Oper × K)}, (∀ L1 x L2, L = L1 ++ x :: L2 → ∀ y ∈ L1, y.1 ≠ x.1) → (L.map (·.1)).Nodup
  | [], _ => List.nodup_nil
  | z :: r, h => by
    rw [List.map_cons, List.nodup_cons]
    refine ⟨fun hm => ?_, split_nodup fun L1 x L2 e y hy => h (z :: L1) x L2 (by rw [e]; rfl) y (List.mem_cons_of_mem _ hy)⟩
    obtain ⟨x, hx, hxz⟩ := List.mem_map.1 hm
    obtain ⟨A, B, e⟩ := List.append_of_mem hx
    exact h (z :: A) x B (by rw [e]; rfl) z (List.mem_cons_self ..) hxz.symm

theorem aw_drawLT {P : Program} {G : Gh} {Q : APost} [T : TyTab P] {id : Nat} {l : List Oper} {L : List (Nat × Oper × K)} {F : Fr} {H : List AObj} (hops : ∀ x ∈ L, l.toArray[x.1]? = some x.2.1) (hc : drawOkT l L = true)
    (h : AWD P G l.toArray (fun F H => Q .normal F H) L F H) : AW P G (.region id l.toArray true) Q F H := by
  intro a w hs
  simp only [drawOkT, Bool.and_eq_true] at hc
  obtain ⟨c1, c2⟩ := hc
  have c1 := Nat.eq_of_beq_eq_true c1
  have c3 := drawGoT_split (ops := l.toArray) (fun i y hy => by simp [maskOf] at hy) hops c2
  have n1 : (L.map (·.1)).Nodup := split_nodup fun L1 x L2 e y hy => (c3 L1 x L2 e).2.2.1 y hy
  let Q' : APost := fun e F H => ∃ F0, FrEq F0 F ∧ Q e F0 H
  have hQ' : ∀ F F' H, FrEq F F' → Q' .normal F H → Q' .normal F' H := fun F F' H he ⟨F0, h0, h1⟩ => ⟨F0, fun t => (h0 t).trans (he t), h1⟩
  have h' : AWD P G l.toArray (Q' .normal) L F H := by
    have : ∀ (L : List (Nat × Oper × K)) (F : Fr) (H : List AObj), AWD P G l.toArray (fun F H => Q .normal F H) L F H → AWD P G l.toArray (Q' .normal) L F H := by
      intro L
      induction L with
      | nil => intro F H h; exact ⟨F, fun _ => rfl, h⟩
      | cons x r ih => intro F H ⟨hd, v, H1, h1, h2⟩; exact ⟨hd, v, H1, h1, ih _ _ h2⟩
    exact this L F H h
  have hsame : ∀ (w' : World), SameMem w w' → St G F H a w' := fun w' hw => by
    obtain ⟨β, hs⟩ := hs
    exact ⟨β, hs.world (hs.inv.same hw) (hw.step β)⟩
  refine wp_mono (wp_region_any T.mixed (Q := lift G Q') ?_) ?_
  · refine awd_anyT hQ' _ L _ F H (by simpa using c1) ⟨by simp, fun i hi => ?_⟩ hops n1 ?_ ?_ h' a _ (hsame _ (drew_same w))
    · have hm : i ∈ L.map (·.1) := nodup_full n1 (by simpa using c1) (fun y hy => by
        obtain ⟨x, hx, rfl⟩ := List.mem_map.1 hy
        have := (Array.getElem?_eq_some_iff.1 (hops x hx)).1
        simpa using this) i (by simpa using hi)
      obtain ⟨x, hx, hxi⟩ := List.mem_map.1 hm
      have hi' : i < l.length := by simpa using hi
      constructor
      · intro _; exact ⟨x, hx, hxi⟩
      · intro _; simp [hi']
    · intro L1 x L2 hL
      obtain ⟨s1, s2, s3, s4, s5, s6⟩ := c3 L1 x L2 hL
      refine ⟨fun y hy hyx e he hb hey => ?_, fun e he hb => ?_, fun y hy => s5 y hy⟩
      · rcases s1 e he hb with ⟨z, hz, hze⟩ | ⟨z, hz, _⟩
        · rw [hL] at n1
          simp only [List.map_append, List.map_cons] at n1
          rw [List.nodup_append] at n1
          exact n1.2.2 z.1 (List.mem_map.2 ⟨z, hz, rfl⟩) y.1 (List.mem_cons_of_mem _ (List.mem_map.2 ⟨y, hy, rfl⟩)) (hze.trans hey)
        · cases hz
      · rcases s1 e he hb with ⟨z, hz, hze⟩ | ⟨z, hz, _⟩
        · have hz' : z ∈ L := by rw [hL]; exact List.mem_append_left _ hz
          have := (Array.getElem?_eq_some_iff.1 (hops z hz')).1
          exact ⟨by rw [← hze]; exact this, fun hex => s3 z hz (hze.trans hex)⟩
        · cases hz
    · intro z o ho hz
      have hlt := (Array.getElem?_eq_some_iff.1 ho).1
      simp at hlt
      simp [hlt] at hz
  · intro e a' w' he
    cases e with
    | normal => obtain ⟨F', H', ⟨F0, h0, h1⟩, h2⟩ := he; exact ⟨F0, H', h1, h2.eq (fun t => (h0 t).symm)⟩
    | ret => obtain ⟨F', H', ⟨F0, h0, h1⟩, h2⟩ := he; exact ⟨F0, H', h1, h2.eq (fun t => (h0 t).symm)⟩
    | exit id => obtain ⟨F', H', ⟨F0, h0, h1⟩, h2⟩ := he; exact ⟨F0, H', h1, h2.eq (fun t => (h0 t).symm)⟩
    | panic ch =>
      obtain ⟨v, F', H', β, u, ⟨F0, h0, h1⟩, h2, h3, h4⟩ := he
      exact ⟨v, F0, H', β, u, h1, ⟨h2.inv, h2.step, h2.extOk, h2.size, h2.defers, fun t v ht => h2.get t v (by rw [← h0 t]; exact ht)⟩, h3, h4⟩
    | goto l => exact he.elim
    | outgrown => exact he.elim

theorem jdrawT {P : Program} {G : Gh} {Q : APost} [T : TyTab P] {F : Fr} {H : List AObj} {k : Kt} {id : Nat} {l : List Oper} (hc : drawOkT l (plan0 0 l) = true) (next : J P G Q (.d l.toArray (plan0 0 l) k) F H) : J P G Q (.c (.region id l.toArray true) k) F H :=
  aw_drawLT (plan0_ops l 0 fun j => by simp) hc next
theorem jdrawPT {P : Program} {G : Gh} {Q : APost} [T : TyTab P] {F : Fr} {H : List AObj} {k : Kt} {id : Nat} {l : List Oper} (pl : List (Nat × K)) (hp : pl.all (fun x => Nat.blt x.1 l.length) = true) (hc : drawOkT l (plan l pl) = true)
    (next : J P G Q (.d l.toArray (plan l pl) k) F H) : J P G Q (.c (.region id l.toArray true) k) F H := aw_drawLT (plan_ops hp) hc next
end Go.AL

set_option linter.unusedVariables false
set_option linter.unusedSimpArgs false
namespace Go.AL
open Go
section
variable {P : Program} [T : TyTab P] {F : Fr} {H H' : List AObj} {dst : Option Tmp} {t yt : TypeId} {x y : Operand} {type : TypeId} {pos : String} {after : Array Edge} {guard : Option (Nat × Bool)} {a b : Int} {k : IntKind}
theorem rem_op (hx : ev F x = some (.v (.int k a))) (hy : ev F y = some (.v (.int k b))) (hb : b ≠ 0) : DSem P .p ⟨dst, .binOp .rem t x y yt, type, pos, after, guard⟩ F H (.v (.int k (a.tmod b))) H := by
  refine readP_dsem ?_
  simp only [readP, hx, hy, isShift, binI, decide_eq_false hb, decide_true, cond_false, cond_true]
theorem quo_op (hx : ev F x = some (.v (.int k a))) (hy : ev F y = some (.v (.int k b))) (hb : b ≠ 0) : DSem P .p ⟨dst, .binOp .quo t x y yt, type, pos, after, guard⟩ F H (.v (.int k (k.wrap (a.tdiv b)))) H := by
  refine readP_dsem ?_
  simp only [readP, hx, hy, isShift, binI, decide_eq_false hb, decide_true, cond_false, cond_true]
/-- a store into an element of an owned slice, told by a list -/
theorem store_enc {x' a' : Operand} {j g n off es : Nat} {bt : TypeId} {α : Type} {enc : α → AVal} {l l' : List α} {y v : AVal} {r : TyRow} (ha : ev F a' = some (.ep j g n off)) (hx : ev F x' = some v) (hj : H[j]? = some (.arr g bt es (l.map enc))) (hy : (l.map enc)[n]? = some y) (hyf : y.flat = true)
    (ht : tfind T.tab t = some r) (hl : v.cells.length = r.size) (hf : v.flat = true) (hfr : v.free = true) (hin : off + r.size ≤ y.cells.length) (hwhole : (∃ cs, y = .agg cs) ∨ y.one = true ∧ v.cells = [v]) (he : (l.map enc).set n (elemSet y off v.cells) = l'.map enc) (hH : hsetO H j (.arr g bt es (l'.map enc)) = some H') :
    DSem P .m ⟨dst, .store t a' x', type, pos, after, guard⟩ F H (.tup []) H' := by
  rw [hsetO_eq hH, ← he]
  exact store_own ha hx hj hy hyf ht hl hf hfr hin hwhole
end
theorem map_at {α : Type} [Inhabited α] {enc : α → AVal} {l : List α} {i : Nat} (h : i < l.length) : (l.map enc)[(i : Int).toNat]? = some (enc (at' l (i : Int))) := by
  rw [Int.toNat_natCast, List.getElem?_map, List.getElem?_eq_getElem h, at_nat l i h]; rfl
end Go.AL
