/-
  Part 5 of the proof texts: the program logic over the model, then the contracts of the functions that the laws reach. No conditions.
-/
import Derived.Test.YtplofnhnhfiokaaGreatDoorK4
import Derived.ChangeKeysEq
import Derived.Test.YtplofnhnhfiokaaGreatDoorProg
import Derived.KernelRfl
set_option linter.unusedVariables false
set_option linter.unusedSimpArgs false
section
namespace Go.AL
open Go
theorem drawn_any {P : Program} {G : Gh} {Q : APost} [T : TyTab P] {l : List Oper} {L : List (Nat × Oper × K)} {F : Fr} {H : List AObj} (hops : ∀ x ∈ L, l.toArray[x.1]? = some x.2.1) (hc : drawOkT l L = true)
    (h : AWD P G l.toArray (fun F H => Q .normal F H) L F H) {a : Act} {w : World} (hs : St G F H a w) : wpAnyIn (fz G.rd) 0 P .any l.toArray (lift G fun e F H => ∃ F0, FrEq F0 F ∧ Q e F0 H) l.toArray.size (Array.replicate l.toArray.size false) a w := by
  simp only [drawOkT, Bool.and_eq_true] at hc
  obtain ⟨c1, c2⟩ := hc
  have c1 := Nat.eq_of_beq_eq_true c1
  have c3 := drawGoT_split (ops := l.toArray) (fun i y hy => by simp [maskOf] at hy) hops c2
  have n1 : (L.map (·.1)).Nodup := split_nodup fun L1 x L2 e y hy => (c3 L1 x L2 e).2.2.1 y hy
  let Q' : APost := fun e F H => ∃ F0, FrEq F0 F ∧ Q e F0 H
  have hQ' : ∀ F F' H, FrEq F F' → Q' .normal F H → Q' .normal F' H := fun F F' H he ⟨F0, h0, h1⟩ => ⟨F0, fun t => (h0 t).trans (he t), h1⟩
  have h' : AWD P G l.toArray (Q' .normal) L F H := by
    have : ∀ (L : List (Nat × Oper × K)) (F : Fr) (H : List AObj), AWD P G l.toArray (fun F H => Q .normal F H) L F H → AWD P G l.toArray (Q' .normal) L F H := by
      intro L
      induction L with
      | nil => intro F H h; exact ⟨F, fun _ => rfl, h⟩
      | cons x r ih => intro F H ⟨hd, v, H1, h1, h2⟩; exact ⟨hd, v, H1, h1, ih _ _ h2⟩
    exact this L F H h
  refine awd_anyT hQ' _ L _ F H (by simpa using c1) ⟨by simp, fun i hi => ?_⟩ hops n1 ?_ ?_ h' a _ hs
  · have hm : i ∈ L.map (·.1) := nodup_full n1 (by simpa using c1) (fun y hy => by
      obtain ⟨x, hx, rfl⟩ := List.mem_map.1 hy
      have := (Array.getElem?_eq_some_iff.1 (hops x hx)).1
      simpa using this) i (by simpa using hi)
    obtain ⟨x, hx, hxi⟩ := List.mem_map.1 hm
    have hi' : i < l.length := by simpa using hi
    constructor
    · intro _; exact ⟨x, hx, hxi⟩
    · intro _; simp [hi']
  · intro L1 x L2 hL
    obtain ⟨s1, s2, s3, s4, s5, s6⟩ := c3 L1 x L2 hL
    refine ⟨fun y hy hyx e he hb hey => ?_, fun e he hb => ?_, fun y hy => s5 y hy⟩
    · rcases s1 e he hb with ⟨z, hz, hze⟩ | ⟨z, hz, _⟩
      · rw [hL] at n1
        simp only [List.map_append, List.map_cons] at n1
        rw [List.nodup_append] at n1
        exact n1.2.2 z.1 (List.mem_map.2 ⟨z, hz, rfl⟩) y.1 (List.mem_cons_of_mem _ (List.mem_map.2 ⟨y, hy, rfl⟩)) (hze.trans hey)
      · cases hz
    · rcases s1 e he hb with ⟨z, hz, hze⟩ | ⟨z, hz, _⟩
      · have hz' : z ∈ L := by rw [hL]; exact List.mem_append_left _ hz
        have := (Array.getElem?_eq_some_iff.1 (hops z hz')).1
        exact ⟨by rw [← hze]; exact this, fun hex => s3 z hz (hze.trans hex)⟩
      · cases hz
  · intro z o ho hz
    have hlt := (Array.getElem?_eq_some_iff.1 ho).1
    simp at hlt
    simp [hlt] at hz
def lastOk (l : List Oper) (o : Oper) : Bool :=
  (l ++ [o]).all (fun x => x.guard.isNone) && ((List.range l.length).all (fun i => (List.range (l.length + 1)).any fun j => Nat.blt i j && (match (l ++ [o])[j]? with | some x => waits x i | none => false)) &&
    (List.range (l.length + 1)).all (fun j => match (l ++ [o])[j]? with | some x => x.after.toList.all (fun e => !Region.binds .any e || Nat.blt e.on j) | none => true))
theorem push_get' {b : Array Bool} {i : Nat} {d : Bool} (h : i < b.size) : (b.push false).getD i d = b.getD i d := by
  simp only [Array.getD_eq_getD_getElem?, Array.getElem?_push_lt h, Array.getElem?_eq_getElem h]
theorem push_set {b : Array Bool} {i : Nat} (h : i < b.size) : (b.push false).setIfInBounds i true = (b.setIfInBounds i true).push false := by
  apply Array.ext_getElem?
  intro j
  rcases Nat.lt_trichotomy j b.size with hj | hj | hj
  · rw [Array.getElem?_setIfInBounds, Array.getElem?_push_lt (by simpa using hj)]
    by_cases e : i = j
    · subst e; simp [Array.getElem_setIfInBounds, h, Nat.lt_succ_of_lt h, Array.getElem_push_lt]
    · simp [e, Array.getElem?_push_lt hj, Array.getElem?_push_lt (show j < (b.setIfInBounds i true).size by simpa using hj), Array.getElem_setIfInBounds, hj]
  · subst hj
    rw [Array.getElem?_setIfInBounds_ne (by omega)]
    have e1 : (b.push false)[b.size]? = some false := by simp
    have e2 : ((b.setIfInBounds i true).push false)[b.size]? = some false := by
      have := Array.getElem?_push_size (xs := b.setIfInBounds i true) (x := false)
      simpa using this
    rw [e1, e2]
  · rw [Array.getElem?_eq_none (by simp; omega), Array.getElem?_eq_none (by simp; omega)]
theorem opIn_mono2 {P : Program} {Fn : Fence} {n : Nat} {o : Oper} {a : Act} {w : World} {K : Act → World → Prop} {Q Q' : Exit → Act → World → Prop} (h : o.wpIn Fn n P a w K Q) (hq : ∀ ch a w, Q (.panic ch) a w → Q' (.panic ch) a w) (hq2 : ∀ a w, Q .outgrown a w → Q' .outgrown a w) : o.wpIn Fn n P a w K Q' := by
  refine ⟨h.1, ?_⟩
  have h2 := h.2
  generalize (o.semAt Fn.round a.eval).run P w = r at h2
  cases r with
  | ok x w' =>
    cases x <;> simp only [Oper.uponIn] at h2 ⊢ <;> try exact h2
    · refine ⟨h2.1, CallsIn.mono h2.2 fun e w'' he => ?_⟩
      cases e with
      | returned v => exact he
      | panicked ch => exact hq _ _ _ he
      | outgrown => exact let ⟨a, w, h⟩ := he; ⟨a, w, hq2 _ _ h⟩
    · refine ⟨h2.1, RoundIn.mono h2.2 fun e w'' he => ?_⟩
      cases e with
      | returned v => exact he
      | panicked ch => exact hq _ _ _ he
      | outgrown => exact let ⟨a, w, h⟩ := he; ⟨a, w, hq2 _ _ h⟩
  | halt x w' =>
    cases x <;> simp only [Oper.uponIn] at h2 ⊢ <;> first | exact hq _ _ _ h2 | exact h2
section
variable {P : Program} {G : Gh} {Q Q1 : APost} {l : List Oper} {o : Oper}
def ClosedL (l : List Oper) (b : Array Bool) : Prop := ∀ i x, l[i]? = some x → b.getD i false = true → ∀ e ∈ x.after, Region.binds .any e = true → b.getD e.on false = true
theorem any_last (hl : lastOk l o = true) (hq1 : ∀ e F H, e ≠ .normal → ¬ Q1 e F H) (hQ : ∀ a w, lift G Q1 .normal a w → o.wpIn (fz G.rd) 0 P a w (fun a w => lift G Q .normal a w) (lift G Q)) :
    ∀ (m : Nat) (b : Array Bool) (a : Act) (w : World), b.size = l.length → ClosedL l b → wpAnyIn (fz G.rd) 0 P .any l.toArray (lift G Q1) m b a w → wpAnyIn (fz G.rd) 0 P .any (l ++ [o]).toArray (lift G Q) (m + 1) (b.push false) a w := by
  simp only [lastOk, Bool.and_eq_true, List.all_eq_true, List.mem_range] at hl
  obtain ⟨g1, g2, g3⟩ := hl
  have hgd : ∀ x ∈ l ++ [o], x.guard = none := fun x hx => by simpa using g1 x hx
  have hwn : ∀ x ∈ l ++ [o], ∀ y, Region.wanted x y = true := fun x hx y => by unfold Region.wanted; rw [hgd x hx]
  have hlow : ∀ j x, (l ++ [o])[j]? = some x → ∀ e ∈ x.after, Region.binds .any e = true → e.on < j := fun j x hx e he hb => by
    have hj : j < l.length + 1 := by have := (List.getElem?_eq_some_iff.1 hx).1; simpa using this
    have h := g3 j hj
    rw [hx] at h
    simp only [List.all_eq_true] at h
    have := h e (by simpa using he)
    rw [hb] at this
    simpa [Nat.blt_eq] using this
  have hop : ∀ i, i < l.length → (l ++ [o]).toArray[i]? = l.toArray[i]? := fun i hi => by
    simp [List.getElem?_append_left hi]
  have hbadE : ∀ e a w, e ≠ .normal → ¬ lift G Q1 e a w := by
    intro e a w hne h
    cases e with
    | normal => exact hne rfl
    | exit id => obtain ⟨F, H, h1, _⟩ := h; exact hq1 _ _ _ (by simp) h1
    | ret => obtain ⟨F, H, h1, _⟩ := h; exact hq1 _ _ _ (by simp) h1
    | panic ch => obtain ⟨v, F, H, β, u, h1, _⟩ := h; exact hq1 _ _ _ (by simp) h1
    | goto l => exact h.elim
    | outgrown => exact h.elim
  -- what is ready
  have rd : ∀ (b : Array Bool), b.size = l.length → ∀ i, i < l.length → (i ∈ Region.ready .any (l ++ [o]).toArray (b.push false) ↔ i ∈ Region.ready .any l.toArray b) := by
    intro b hb i hi
    rw [mem_ready, mem_ready, hop i hi, push_get' (by omega)]
    constructor
    · rintro ⟨h1, x, hx, h2⟩
      refine ⟨h1, x, hx, fun e he hbd => ?_⟩
      have hlt := hlow i x (by rw [← hop i hi] at hx; simpa using hx) e he hbd
      have := h2 e he hbd
      rwa [push_get' (by omega)] at this
    · rintro ⟨h1, x, hx, h2⟩
      refine ⟨h1, x, hx, fun e he hbd => ?_⟩
      have hlt := hlow i x (by rw [← hop i hi] at hx; simpa using hx) e he hbd
      rw [push_get' (by omega)]
      exact h2 e he hbd
  have hmin : ∀ (b : Array Bool), b.size = l.length → (∃ i, i < l.length ∧ b.getD i true = false) → ∃ i, i < l.length ∧ i ∈ Region.ready .any l.toArray b := by
    rintro b hb ⟨i, hi, hf⟩
    induction i using Nat.strongRecOn with
    | _ i ih =>
      by_cases hx : ∃ j, j < i ∧ b.getD j true = false
      · obtain ⟨j, hj, hjf⟩ := hx
        exact ih j hj (by omega) hjf
      · refine ⟨i, hi, mem_ready.2 ⟨hf, l[i], by simp [hi], fun e he hbd => ?_⟩⟩
        have hlt := hlow i l[i] (by rw [List.getElem?_append_left hi, List.getElem?_eq_getElem hi]) e he hbd
        have : ¬ b.getD e.on true = false := fun h => hx ⟨e.on, hlt, h⟩
        have hs : e.on < b.size := by omega
        simp only [Array.getD_eq_getD_getElem?, Array.getElem?_eq_getElem hs, Option.getD_some] at this ⊢
        simpa using this
  have hall : ∀ (b : Array Bool), b.size = l.length → ClosedL l b → l.length ∈ Region.ready .any (l ++ [o]).toArray (b.push false) → ∀ i, i < l.length → b.getD i false = true := by
    intro b hb hc hr
    obtain ⟨_, x, hx, h2⟩ := mem_ready.1 hr
    have hx : x = o := by simpa using hx.symm
    subst hx
    have : ∀ d i, i < l.length → l.length - i = d → b.getD i false = true := by
      intro d
      induction d using Nat.strongRecOn with
      | _ d ih =>
        intro i hi hd
        have h := g2 i hi
        obtain ⟨j, hj, hw⟩ := List.any_eq_true.1 h
        rw [Bool.and_eq_true, Nat.blt_eq] at hw
        obtain ⟨hij, hw⟩ := hw
        have hj : j < l.length + 1 := by simpa using hj
        cases hjx : (l ++ [x])[j]? with
        | none => rw [hjx] at hw; cases hw
        | some y =>
          rw [hjx] at hw
          simp only [waits, List.any_eq_true, Bool.and_eq_true] at hw
          obtain ⟨e, he, hbd, hon⟩ := hw
          have hon := Nat.eq_of_beq_eq_true hon
          by_cases hjl : j = l.length
          · subst hjl
            have hy : y = x := by simpa using hjx.symm
            subst hy
            have := h2 e (by simpa using he) hbd
            rw [hon, push_get' (by omega)] at this
            exact this
          · have hj2 : j < l.length := by omega
            have h3 := ih (l.length - j) (by omega) j hj2 rfl
            rw [List.getElem?_append_left hj2] at hjx
            have := hc j y hjx h3 e (by simpa using he) hbd
            rwa [hon] at this
    exact fun i hi => this _ i hi rfl
  -- the last one
  have hlast : ∀ (m : Nat) (b : Array Bool) (a : Act) (w : World), b.size = l.length → (∀ i, i < l.length → b.getD i false = true) → lift G Q1 .normal a w → wpAnyIn (fz G.rd) 0 P .any (l ++ [o]).toArray (lift G Q) (m + 1) (b.push false) a w := by
    intro m b a w hb hfull hq
    have hend : Region.ready .any (l ++ [o]).toArray ((b.push false).setIfInBounds l.length true) = [] := by
      cases hr : Region.ready .any (l ++ [o]).toArray ((b.push false).setIfInBounds l.length true) with
      | nil => rfl
      | cons i r =>
        exfalso
        have hi : i ∈ Region.ready .any (l ++ [o]).toArray ((b.push false).setIfInBounds l.length true) := by rw [hr]; exact List.mem_cons_self ..
        obtain ⟨h0, x, hx, _⟩ := mem_ready.1 hi
        have hlt : i < l.length + 1 := by have := (Array.getElem?_eq_some_iff.1 hx).1; simpa using this
        have : ((b.push false).setIfInBounds l.length true).getD i true = true := by
          by_cases e : i = l.length
          · subst e; simp [hb]
          · have h1 := hfull i (by omega)
            have hs : i < b.size := by omega
            have hne : l.length ≠ i := by omega
            simp only [Array.getD_eq_getD_getElem?, Array.getElem?_eq_getElem hs, Option.getD_some] at h1
            simp [Array.getD_eq_getD_getElem?, Array.getElem?_setIfInBounds_ne hne, Array.getElem?_push_lt hs, h1]
        rw [this] at h0; cases h0
    refine ⟨fun hr => ?_, fun i hi => ?_⟩
    · exfalso
      have : l.length ∈ Region.ready .any (l ++ [o]).toArray (b.push false) := by
        refine mem_ready.2 ⟨by simp [← hb], o, by simp, fun e he hbd => ?_⟩
        have hlt := hlow l.length o (by simp) e he hbd
        rw [push_get' (by omega)]
        exact hfull _ hlt
      rw [hr] at this; cases this
    · have hil : i = l.length := by
        obtain ⟨h0, x, hx, _⟩ := mem_ready.1 hi
        have hlt : i < l.length + 1 := by have := (Array.getElem?_eq_some_iff.1 hx).1; simpa using this
        by_cases e : i = l.length
        · exact e
        · exfalso
          have h1 := hfull i (by omega)
          rw [push_get' (by omega)] at h0
          have hs : i < b.size := by omega
          simp only [Array.getD_eq_getD_getElem?, Array.getElem?_eq_getElem hs, Option.getD_some] at h0 h1
          rw [h1] at h0; cases h0
      subst hil
      unfold wpOpIn
      have hoo : (l ++ [o]).toArray[l.length]? = some o := by simp
      rw [hoo]
      simp only
      rw [if_pos (hwn o (by simp) _)]
      refine Oper.wpIn_mono (fun a w h => ?_) (hQ a w hq)
      cases m with
      | zero => exact ⟨hend, h⟩
      | succ m => exact ⟨fun _ => h, fun i hi => by rw [hend] at hi; cases hi⟩
  intro m
  induction m with
  | zero =>
    intro b a w hb hc h
    refine hlast 0 b a w hb (fun i hi => ?_) h.2
    by_cases hf : b.getD i true = false
    · obtain ⟨j, _, hj⟩ := hmin b hb ⟨i, hi, hf⟩
      rw [h.1] at hj; cases hj
    · have hs : i < b.size := by omega
      simp only [Array.getD_eq_getD_getElem?, Array.getElem?_eq_getElem hs, Option.getD_some] at hf ⊢
      simpa using hf
  | succ m ih =>
    intro b a w hb hc h
    by_cases hfull : ∀ i, i < l.length → b.getD i false = true
    · refine hlast (m + 1) b a w hb hfull (h.1 ?_)
      cases hr : Region.ready .any l.toArray b with
      | nil => rfl
      | cons i r =>
        exfalso
        have hi : i ∈ Region.ready .any l.toArray b := by rw [hr]; exact List.mem_cons_self ..
        obtain ⟨h0, x, hx, _⟩ := mem_ready.1 hi
        have hlt : i < l.length := by have := (Array.getElem?_eq_some_iff.1 hx).1; simpa using this
        have h1 := hfull i hlt
        have hs : i < b.size := by omega
        simp only [Array.getD_eq_getD_getElem?, Array.getElem?_eq_getElem hs, Option.getD_some] at h0 h1
        rw [h1] at h0; cases h0
    · have hun : ∃ i, i < l.length ∧ b.getD i true = false := by
        rcases Classical.not_forall.1 hfull with ⟨i, hi⟩
        rcases Classical.not_imp.1 hi with ⟨hi, hf⟩
        refine ⟨i, hi, ?_⟩
        have hs : i < b.size := by omega
        simp only [Array.getD_eq_getD_getElem?, Array.getElem?_eq_getElem hs, Option.getD_some] at hf ⊢
        simpa using hf
      refine ⟨fun hr => ?_, fun i hi => ?_⟩
      · obtain ⟨j, hj, hjr⟩ := hmin b hb hun
        have := (rd b hb j hj).2 hjr
        rw [hr] at this; cases this
      · obtain ⟨h0, x, hx, h2⟩ := mem_ready.1 hi
        have hlt : i < l.length + 1 := by have := (Array.getElem?_eq_some_iff.1 hx).1; simpa using this
        by_cases e : i = l.length
        · exact absurd (hall b hb hc (e ▸ hi)) hfull
        · have hi2 : i < l.length := by omega
          have hir := (rd b hb i hi2).1 hi
          have hstep := h.2 i hir
          unfold wpOpIn at hstep ⊢
          rw [hop i hi2]
          have hxl : l.toArray[i]? = some x := by rw [← hop i hi2]; exact hx
          rw [hxl] at hstep ⊢
          simp only at hstep ⊢
          have hxm : x ∈ l ++ [o] := by
            have : l[i]? = some x := by simpa using hxl
            exact List.mem_append_left _ (List.mem_of_getElem? this)
          rw [if_pos (hwn x hxm _)] at hstep ⊢
          refine opIn_mono2 (Oper.wpIn_mono (fun a w hk => ?_) hstep) (fun ch a w he => absurd he (hbadE _ _ _ (by simp))) (fun a w he => absurd he (hbadE _ _ _ (by simp)))
          · rw [push_set (by omega)]
            refine ih _ a w (by simpa using hb) (fun j y hy hj e he hbd => ?_) hk
            have hset : ∀ q, b.getD q false = true → (b.setIfInBounds i true).getD q false = true := fun q hq => by
              by_cases eq : i = q
              · subst eq; simp [Array.getD_eq_getD_getElem?, show i < b.size by omega]
              · simpa [Array.getD_eq_getD_getElem?, Array.getElem?_setIfInBounds_ne eq] using hq
            by_cases ej : i = j
            · subst ej
              have hyx : y = x := by
                have : l[i]? = some x := by simpa using hxl
                rw [this] at hy; injection hy with hy; exact hy.symm
              subst hyx
              have hlt2 := hlow i y (by rw [List.getElem?_append_left hi2]; exact hy) e he hbd
              have := h2 e he hbd
              rw [push_get' (by omega)] at this
              exact hset _ this
            · have hj' : b.getD j false = true := by simpa [Array.getD_eq_getD_getElem?, Array.getElem?_setIfInBounds_ne ej] using hj
              exact hset _ (hc j y hy hj' e he hbd)
def spl {α : Type} : List α → Option (List α × α)
  | [] => none
  | [a] => some ([], a)
  | a :: b :: r => match spl (b :: r) with
    | some (l, o) => some (a :: l, o)
    | none => none
theorem spl_eq {α : Type} : ∀ {L l : List α} {o : α}, spl L = some (l, o) → L = l ++ [o]
  | [], _, _, h => by simp [spl] at h
  | [a], l, o, h => by simp [spl] at h; obtain ⟨rfl, rfl⟩ := h; rfl
  | a :: b :: r, l, o, h => by
    simp only [spl] at h
    split at h
    · rename_i l' o' he
      injection h with h; injection h with h1 h2; subst h1; subst h2
      rw [spl_eq he]; rfl
    · cases h
theorem jdrawE [T : TyTab P] {id : Nat} {L l : List Oper} {o : Oper} {F : Fr} {H : List AObj} {k : Kt} (pl : List (Nat × K)) (hs : spl L = some (l, o)) (hp : pl.all (fun x => Nat.blt x.1 l.length) = true) (hc : drawOkT l (plan l pl) = true) (hl : lastOk l o = true)
    (next : J P G (Only fun F' H' => J P G Q (.l L.toArray [o] k) F' H') (.d l.toArray (plan l pl) .nil) F H) : J P G Q (.c (.region id L.toArray true) k) F H := by
  intro a w hst
  rw [spl_eq hs] at next ⊢
  have hst' : St G F H a { w with drawn := w.drawn + 1 } := by
    obtain ⟨β, hs⟩ := hst
    exact ⟨β, hs.world (hs.inv.same (drew_same w)) ((drew_same w).step β)⟩
  refine wpIn_region_any T.mixed ?_
  have h1 := drawn_any (Q := Only fun F' H' => J P G Q (.l (l ++ [o]).toArray [o] k) F' H') (plan_ops hp) hc next hst'
  have h2 := any_last (P := P) (G := G) (Q := post P G Q k) hl (Q1 := fun e F H => ∃ F0, FrEq F0 F ∧ Only (fun F' H' => J P G Q (.l (l ++ [o]).toArray [o] k) F' H') e F0 H) (fun e F H hne ⟨F0, _, h⟩ => by cases e <;> first | exact hne rfl | exact h.elim) (fun a w ⟨F', H', ⟨F0, h0, hj⟩, hs⟩ => ?_) l.toArray.size (Array.replicate l.toArray.size false) a _ (by simp) (fun i x hx hi => by
      exfalso
      have : i < l.length := (List.getElem?_eq_some_iff.1 hx).1
      simp [Array.getD_eq_getD_getElem?, this] at hi) h1
  · have e1 : (l ++ [o]).toArray.size = l.toArray.size + 1 := by simp
    have e2 : Array.replicate ((l ++ [o]).toArray.size) false = (Array.replicate l.toArray.size false).push false := by rw [e1, Array.replicate_succ]
    rw [e2, e1]
    exact h2
  · have hs0 := hs.eq (fun t => (h0 t).symm)
    have hgn : o.guard = none := by
      simp only [lastOk, Bool.and_eq_true, List.all_eq_true] at hl
      simpa using hl.1 o (by simp)
    obtain ⟨hd, hx⟩ := hj
    rcases hx with ⟨_, res, ho, hr⟩ | ⟨hg, _⟩
    · exact op_wp hd ho hs0 fun r H' hres => by
        have := hr r H' hres
        cases r with
        | ret v => exact fun a w hs => ⟨_, _, this, hs⟩
        | pan v => exact this
    · simp [guardA, hgn] at hg
theorem jat {F : Fr} {H : List AObj} {x : AExit} (h : Q x F H) : J P G Q (.e x .nil) F H := h
theorem jonly {K : Fr → List AObj → Prop} {F : Fr} {H : List AObj} (h : K F H) : J P G (Only K) (.e .normal .nil) F H := h
end
end Go.AL
end
section
namespace Go.AL
open Go
theorem Came.weak {ext : Nat → Prop} {w : World} {β : List Ent} {v v' : AVal} {H : List AObj} (hr : ∀ (c : Ctx) u, Rel c v u → Rel c v' u) {u : Value} {w' : World} (h : Came ext w β (one v H) .ret u w') : Came ext w β (one v' H) .ret u w' := by
  obtain ⟨x, H', β', ⟨h1, h2⟩, h3, h4, h5⟩ := h
  injection h1 with h1
  subst h1; subst h2
  exact ⟨v', H', β', ⟨rfl, rfl⟩, hr _ _ h3, h4, h5⟩
theorem Ended.weak {ext : Nat → Prop} {w : World} {β : List Ent} {v v' : AVal} {H : List AObj} (hr : ∀ (c : Ctx) u, Rel c v u → Rel c v' u) : ∀ {e : Ending} {w' : World}, Ended ext w β (one v H) e w' → Ended ext w β (one v' H) e w'
  | .returned u, w', h => Came.weak hr h
  | .panicked ch, w', ⟨u, h1, x, H', β', ⟨h2, _⟩, _⟩ => by cases h2
  | .outgrown, _, h => h.elim
theorem Upon.weak {P : Program} {ext : Nat → Prop} {w : World} {β : List Ent} {v v' : AVal} {H : List AObj} (hr : ∀ (c : Ctx) u, Rel c v u → Rel c v' u) : ∀ {r : Result Next}, Upon P ext w β (one v H) r → Upon P ext w β (one v' H) r := by
  intro r h
  unfold Upon at *
  split at h
  · exact Came.weak hr h
  · exact Came.weak hr h
  · exact Calls.mono h fun e w'' he => Ended.weak hr he
  · exact RoundIn.mono h fun e w'' he => Ended.weak hr he
  · obtain ⟨x, H', β', ⟨h2, _⟩, _⟩ := h
    cases h2
  · exact h.elim
theorem DSem.wkn {P : Program} {k : K} {o : Oper} {F : Fr} {H H1 : List AObj} {v v' : AVal} (hr : ∀ (c : Ctx) u, Rel c v u → Rel c v' u) (h : DSem P k o F H v H1) : DSem P k o F H v' H1 := by
  cases k with
  | p => exact ⟨h.1, fun H' ext w β ρ a b c d => (h.2 H' ext w β ρ a b c d).weak hr⟩
  | r => exact ⟨h.1, fun H' hb ext w β ρ a b c d => (h.2 H' hb ext w β ρ a b c d).weak hr⟩
  | s => exact ⟨h.1, fun ext w β ρ a b c d => (h.2 ext w β ρ a b c d).weak hr⟩
  | x => exact ⟨h.1, fun ext w β ρ a b c d => (h.2 ext w β ρ a b c d).weak hr⟩
  | m => exact fun ext w β ρ a b c d => (h ext w β ρ a b c d).weak hr
theorem jow {P : Program} {G : Gh} {Q : APost} {F F' : Fr} {H H' : List AObj} {s s' : Pt} {ops : Array Oper} {o : Oper} {kk : Option K} {kd : K} {v v' : AVal} (h : nextO s = some (ops, o, kk, s')) (hg : guardA ops F o = some true) (hd : DSem P kd o F H v H') (hr : ∀ (c : Ctx) u, Rel c v u → Rel c v' u) (hk : okK kd kk = true) (hp : putA G.n o.dst v' F = some F')
    (next : J P G Q s' F' H') : J P G Q s F H := jo h hg (hd.wkn hr) hk hp next
theorem jfin {P : Program} {G : Gh} {Q : APost} {F : Fr} {H H' : List AObj} {c : Code} {k : Kt} (n : Nat) (ts : List Nat) {vs vs' : List AVal} (wk : Bool) (hp : fproj F ts = some vs) (hf : finish n [] wk H (.tup vs) = some (.tup vs', H')) (hn : Nat.ble n H.length = true) (hβ : G.β0.length ≤ n)
    (h : J P G Q (.c c k) (ts.zip vs') H') : J P G Q (.c c k) F H := aw_fin (Q := post P G Q k) n ts wk hp hf hn hβ h
end Go.AL
end
section
namespace Go.AL
open Go
section
variable {P : Program}
def allIntR (tab : List TyRow) (st : TypeId → Bool) : Nat → TypeId → Bool
  | 0, _ => false
  | n + 1, t => match tfind tab t with
    | some r => (match r.d with
      | .int .i64 => Nat.beq r.size 1
      | .struct fs => !st t && fieldsRun tab (allIntR tab st n) r.size 0 fs.toList
      | .array k e => (match tfind tab e with
        | some re => Nat.beq r.size (k * re.size) && allIntR tab st n e
        | none => false)
      | _ => false)
    | none => false
theorem items_run [T : TyTab P] {d : Nat} {e : TypeId} {re : TyRow} (he : tfind T.tab e = some re) (hs : aggB re.d = false → re.size = 1)
    (IH : ∀ (xs ys : List Int) (w : World), xs.length = re.size → ys.length = re.size → (Op.equalIn d e (valI (aggB re.d) xs) (valI (aggB re.d) ys)).run P w = .ok (decide (xs = ys)) w)
    (xs ys : List Int) : ∀ (m off : Nat) (w : World), xs.length = (off + m) * re.size → ys.length = (off + m) * re.size →
      (Op.eqItems d e re.size (intsV xs).toArray (intsV ys).toArray (List.range' off m)).run P w = .ok (decide (xs.drop (off * re.size) = ys.drop (off * re.size))) w
  | 0, off, w, hx, hy => by
    simp only [Nat.add_zero] at hx hy
    simp only [List.range', Op.eqItems, Sem.run_pure]
    rw [List.drop_of_length_le (by omega), List.drop_of_length_le (by omega)]
    simp
  | m + 1, off, w, hx, hy => by
    have hle : off * re.size + re.size ≤ (off + (m + 1)) * re.size := by
      rw [← Nat.succ_mul]
      exact Nat.mul_le_mul_right _ (by omega)
    have p1 := part_ints (P := P) he (xs := xs) (off := off * re.size) (by omega) hs w
    have p2 := part_ints (P := P) he (xs := ys) (off := off * re.size) (by omega) hs w
    have ee := IH ((xs.drop (off * re.size)).take re.size) ((ys.drop (off * re.size)).take re.size) w (by simp; omega) (by simp; omega)
    have hr := items_run (d := d) he hs IH xs ys m (off + 1) w (by rw [hx]; congr 1; omega) (by rw [hy]; congr 1; omega)
    simp only [List.range', Op.eqItems, Sem.run_bind, p1, p2, Result.andThen_ok, ee]
    have hsp := drop_split xs ys (off * re.size) re.size
    rw [← Nat.succ_mul] at hsp
    by_cases hq : (xs.drop (off * re.size)).take re.size = (ys.drop (off * re.size)).take re.size
    · simp only [hq, decide_true, Bool.not_true, Bool.false_eq_true, if_false]
      rw [hr]
      congr 1
      simp only [hq, true_and] at hsp
      exact decide_eq_decide.2 hsp.symm
    · have : ¬ (xs.drop (off * re.size) = ys.drop (off * re.size)) := fun h => hq (by rw [h])
      simp [hq, this]
theorem allIntR_run [T : TyTab P] : ∀ (n d : Nat) (t : TypeId) (r : TyRow), n ≤ d → allIntR T.tab P.stoodInHeld n t = true → tfind T.tab t = some r → (aggB r.d = false → r.size = 1) ∧
    ∀ (xs ys : List Int) (w : World), xs.length = r.size → ys.length = r.size → (Op.equalIn d t (valI (aggB r.d) xs) (valI (aggB r.d) ys)).run P w = .ok (decide (xs = ys)) w
  | 0, d, t, r, _, h, _ => by cases h
  | n + 1, 0, t, r, hd, _, _ => absurd hd (by omega)
  | n + 1, d + 1, t, r, hd, h, ht => by
    simp only [allIntR, ht] at h
    split at h
    · rename_i hk
      have h1 := Nat.eq_of_beq_eq_true h
      refine ⟨fun _ => h1, fun xs ys w hx hy => ?_⟩
      rw [h1] at hx hy
      obtain ⟨x, rfl⟩ := List.length_eq_one_iff.1 hx
      obtain ⟨y, rfl⟩ := List.length_eq_one_iff.1 hy
      have hu : P.underlying t = some (.int .i64) := by rw [ty_und ht, hk]
      rw [hk]
      show (Op.equalIn (d + 1) t (.int .i64 x) (.int .i64 y)).run P w = _
      rw [run_equalIn_int w d t .i64 .i64 x y hu]
      congr 1
      simp
      rfl
    · rename_i fs hk
      simp only [Bool.and_eq_true, Bool.not_eq_true'] at h
      obtain ⟨h1, h2⟩ := h
      have hu : P.underlying t = some (.struct fs) := by rw [ty_und ht, hk]
      have hfo : P.fieldsOf t = fs := by simp [Program.fieldsOf, hu]
      rw [hk]
      refine ⟨(fun h => by cases h), fun xs ys w hx hy => ?_⟩
      show (Op.equalIn (d + 1) t (.agg (intsV xs).toArray) (.agg (intsV ys).toArray)).run P w = _
      rw [run_equalIn_struct w d t _ _ (by rw [hfo]; exact hu) h1, hfo]
      have key : ∀ (gs : List Field) (off : Nat) (w : World), fieldsRun T.tab (allIntR T.tab P.stoodInHeld n) r.size off gs = true →
          (Op.eqFields d (intsV xs).toArray (intsV ys).toArray gs).run P w = .ok (decide (xs.drop off = ys.drop off)) w := by
        intro gs
        induction gs with
        | nil =>
          intro off w hg
          have := Nat.eq_of_beq_eq_true hg
          simp only [Op.eqFields, Sem.run_pure]
          rw [List.drop_of_length_le (by omega), List.drop_of_length_le (by omega)]
          simp
        | cons f gs ih =>
          intro off w hg
          have hle := fieldsRun_le hg
          simp only [fieldsRun, Bool.and_eq_true] at hg
          obtain ⟨⟨⟨g1, g2⟩, g3⟩, g4⟩ := hg
          split at g4
          · rename_i rf hrf
            have hle2 := fieldsRun_le g4
            have g1 := Nat.eq_of_beq_eq_true g1
            have g2 := of_decide_eq_true g2
            obtain ⟨a1, a2⟩ := allIntR_run n d f.type rf (by omega) g3 hrf
            have p1 := part_ints (P := P) hrf (xs := xs) (off := off) (by omega) a1 w
            have p2 := part_ints (P := P) hrf (xs := ys) (off := off) (by omega) a1 w
            have e := a2 ((xs.drop off).take rf.size) ((ys.drop off).take rf.size) w (by simp; omega) (by simp; omega)
            simp only [Op.eqFields, g2, ne_eq, not_false_eq_true, if_true, Sem.run_bind, g1, p1, p2, Result.andThen_ok, e]
            by_cases hq : (xs.drop off).take rf.size = (ys.drop off).take rf.size
            · simp only [hq, decide_true, Bool.not_true, Bool.false_eq_true, if_false]
              rw [ih _ w g4]
              congr 1
              have := drop_split xs ys off rf.size
              simp only [hq, true_and] at this
              exact decide_eq_decide.2 this.symm
            · have : ¬ (xs.drop off = ys.drop off) := fun h => hq (by rw [h])
              simp [hq, this]
          · cases g4
      have := key fs.toList 0 w h2
      simpa using this
    · rename_i k e hk
      split at h
      · rename_i re hre
        simp only [Bool.and_eq_true] at h
        have h1 := Nat.eq_of_beq_eq_true h.1
        obtain ⟨a1, a2⟩ := allIntR_run n d e re (by omega) h.2 hre
        have hu : P.underlying t = some (.array k e) := by rw [ty_und ht, hk]
        obtain ⟨i, i1, i2, i3, i4⟩ := ty_info hre
        have hcs : P.cellsOf e = re.size := by simp [Program.cellsOf, i1, i3]
        rw [hk]
        refine ⟨(fun h => by cases h), fun xs ys w hx hy => ?_⟩
        show (Op.equalIn (d + 1) t (.agg (intsV xs).toArray) (.agg (intsV ys).toArray)).run P w = _
        rw [run_equalIn_array w d _ _ hu i1, hcs, List.range_eq_range']
        have := items_run (P := P) (d := d) hre a1 a2 xs ys k 0 w (by rw [hx, h1, Nat.zero_add]) (by rw [hy, h1, Nat.zero_add])
        simpa using this
      · cases h
    · cases h
theorem eq_intsR [T : TyTab P] {dst : Option Tmp} {op : BinOp} {t yt : TypeId} {x y : Operand} {type : TypeId} {pos : String} {after : Array Edge} {guard : Option (Nat × Bool)} {F : Fr} {H : List AObj} {xs ys : List Int} {r : TyRow}
    (hop : op = .eql ∨ op = .neq) (hx : ev F x = some (.agg (intsA xs))) (hy : ev F y = some (.agg (intsA ys))) (ht : tfind T.tab t = some r) (hlx : xs.length = r.size) (hly : ys.length = r.size) (ha : aggB r.d = true)
    (hi : allIntR T.tab P.stoodInHeld 100 t = true) (hg : P.eqGuardType P.depth t = false) :
    DSem P .p ⟨dst, .binOp op t x y yt, type, pos, after, guard⟩ F H (.v (.bool (if op = .eql then decide (xs = ys) else !decide (xs = ys)))) H := by
  refine ⟨rfl, fun H' => ?_⟩
  intro ext w β ρ hI hext hκ hρ
  obtain ⟨a, e1, r1⟩ := hρ x (by simp [Op.operands]) _ hx
  obtain ⟨b, e2, r2⟩ := hρ y (by simp [Op.operands]) _ hy
  have h1 : a = (intsV xs).toArray := by apply Array.ext'; simpa using intsA_rel r1
  have h2 : b = (intsV ys).toArray := by apply Array.ext'; simpa using intsA_rel r2
  subst h1; subst h2
  have h3 := (allIntR_run (P := P) 100 10000 t r (by omega) hi ht).2 xs ys w hlx hly
  rw [ha] at h3
  have h3' : (Op.equal t (.agg (intsV xs).toArray) (.agg (intsV ys).toArray)).run P w = .ok (decide (xs = ys)) w := h3
  have h4 : (execOp ρ ⟨dst, .binOp op t x y yt, type, pos, after, guard⟩).run P w = .ok (.value (.bool (if op = .eql then decide (xs = ys) else !decide (xs = ys)))) w := by
    rcases hop with rfl | rfl
    · simp [execOp, e1, e2, eqGuard, hg, binOp, h3']
    · simp [execOp, e1, e2, eqGuard, hg, binOp, h3']
  rw [h4]
  exact came_same hI rfl
end
end Go.AL
end
section
namespace Go.AL
open Go
theorem relL_put {c : Ctx} {y : AVal} {u : Value} : ∀ {cs : List AVal} {us : List Value} {n : Nat}, us[n]? = some u → Rel c y u → RelL c cs us → RelL c (cs.set n y) us
  | [], us, n, hu, hr, h => by simp only [RelL] at h; subst h; simp at hu
  | a :: cs, us, 0, hu, hr, ⟨v, us', e, r, rs⟩ => by
    subst e
    simp at hu; subst hu
    exact ⟨v, us', rfl, hr, rs⟩
  | a :: cs, us, n + 1, hu, hr, ⟨v, us', e, r, rs⟩ => by
    subst e
    exact ⟨v, us', rfl, r, relL_put (by simpa using hu) hr rs⟩
theorem one_set {cs : List AVal} {n : Nat} {y : AVal} (h : cs.all AVal.one = true) (hy : y.one = true) : (cs.set n y).all AVal.one = true := by
  rw [List.all_eq_true] at *
  intro x hx
  rcases List.mem_or_eq_of_mem_set hx with hx | rfl
  · exact h x hx
  · exact hy
theorem aw_publishB {P : Program} {G : Gh} {Q : APost} {c : Code} {F : Fr} {H : List AObj} (j i a : Nat) {bt ty : TypeId} {cs : List AVal} {g es : Nat} {xs : List AVal} (hja : j ≠ a) (hj : H[j]? = some (.box ty cs)) (hi : cs[i]? = some (.arr a g)) (ha : H[a]? = some (.arr g bt es xs))
    (h : AW P G c Q F ((H.set a (.dead (g + 1))).set j (.box ty (cs.set i (.sl xs))))) : AW P G c Q F H := by
  rintro aa w ⟨β, hs⟩
  have hjl : j < β.length := by rw [hs.inv.len]; exact (List.getElem?_eq_some_iff.1 hj).1
  have hej : β[j]? = some β[j] := List.getElem?_eq_getElem hjl
  obtain ⟨g1, g2, b, us, g3, g4, g5⟩ := hs.inv.obj j _ _ hj hej
  obtain ⟨u, hu, hr⟩ := g5.get hi
  obtain ⟨ent, e1, e2, e3, e4, e5, e6, e7⟩ := arr_open hs.inv ha hr
  have hal := (List.getElem?_eq_some_iff.1 e1).1
  have hst : Step w β w (β.set a ⟨none, g + 1, es, 0, 0⟩) := Step.regen e1 (by omega) (by simp only; omega) (.inl rfl)
  have hinv := hs.inv.set hs.extOk e1 hst (fun c hc _ => rfl) (.inr (.inl rfl)) (a := .dead (g + 1)) ⟨rfl, by omega, rfl⟩
  have hs1 := hs.world hinv hst
  have hrel : Rel (ctx G.ext w (β.set a ⟨none, g + 1, es, 0, 0⟩)) (.sl xs) u := by
    rcases e7 with ⟨_, h8, _, A, h9⟩ | ⟨b', us', h8, h9, h10, h11, h12⟩
    · subst h8
      exact ⟨A, 0, 0, h9, Nat.le_refl _, fun hx => absurd rfl hx, trivial⟩
    · refine ⟨_, ent.cap, es, h9, e6, fun _ => ⟨b', 0, rfl, ?_, (hs.inv.sep b' ⟨a, ent, e1, h8⟩).2⟩, ?_⟩
      · rintro (hb | ⟨k, q, hq, hqb⟩)
        · exact (hs.inv.sep b' ⟨a, ent, e1, h8⟩).1 hb
        · by_cases hka : k = a
          · subst hka
            rw [List.getElem?_set_self hal] at hq
            injection hq with hq; subst hq; cases hqb
          · rw [List.getElem?_set_ne (by omega)] at hq
            exact hka (hs.inv.uniq k a q ent b' hq e1 hqb h8)
      · have : rdA w (some ⟨b', 0, none⟩) = fun (i : Nat) => us'[i]? := by
          funext i
          simp [rdA, World.cell?, h10]
        show RelR _ es (rdA w (some ⟨b', 0, none⟩)) 0 xs
        rw [this]
        exact h12.le (hst.le (ext := G.ext)).bare _ _ _ _
  refine h aa w ⟨β.set a ⟨none, g + 1, es, 0, 0⟩, hs1.world ?_ (Step.refl _ _)⟩
  refine ⟨hinv.len.trans (by simp), fun k o e hk he => ?_, hinv.uniq, hinv.sep⟩
  by_cases hkj : k = j
  · subst hkj
    have hlt : k < (H.set a (.dead (g + 1))).length := by rw [List.length_set]; exact (List.getElem?_eq_some_iff.1 hj).1
    rw [List.getElem?_set_self hlt] at hk
    injection hk with hk; subst hk
    have hj2 : (H.set a (.dead (g + 1)))[k]? = some (.box ty cs) := by rw [List.getElem?_set_ne (by omega)]; exact hj
    obtain ⟨q1, q2, b2, us2, q3, q4, q5⟩ := hinv.obj k _ e hj2 he
    have he2 : e = β[k] := by
      rw [List.getElem?_set_ne (by omega), hej] at he
      injection he with he; exact he.symm
    rw [he2, g3] at q3
    injection q3 with q3
    subst q3
    have q4' : w.heap[b]? = some (.cells us2 ty (0, 0)) := q4
    have g4' : w.heap[b]? = some (.cells us ty (0, 0)) := g4
    rw [g4'] at q4'
    injection q4' with q4'
    injection q4' with q4' _ _
    subst q4'
    exact ⟨q1, one_set q2 rfl, b, us, by rw [he2]; exact g3, g4, relL_put (by simpa using hu) hrel q5⟩
  · rw [List.getElem?_set_ne (by omega)] at hk
    exact hinv.obj k o e hk he
theorem jpubB {P : Program} {G : Gh} {Q : APost} {F : Fr} {H H1 H2 : List AObj} {k : Kt} {c : Code} (j i a : Nat) {bt ty : TypeId} {cs cs' : List AVal} {g es : Nat} {xs : List AVal} (hja : Nat.beq j a = false) (hj : H[j]? = some (.box ty cs)) (hi : cs[i]? = some (.arr a g)) (ha : H[a]? = some (.arr g bt es xs))
    (hc : spine (cs.set i (.sl xs)) = some cs') (h1 : hsetO H a (.dead (g + 1)) = some H1) (h2 : hsetO H1 j (.box ty cs') = some H2) (h : J P G Q (.c c k) F H2) : J P G Q (.c c k) F H := by
  refine aw_publishB (Q := post P G Q k) j i a (fun e => ?_) hj hi ha ?_
  · subst e
    rw [show Nat.beq j j = true from Nat.beq_refl j] at hja
    cases hja
  · rw [hsetO_eq h2, hsetO_eq h1, spine_eq hc] at h
    exact h
end Go.AL
end
section
namespace Go.AL
open Go
section
variable {P : Program}
theorem index_pp [T : TyTab P] {dst : Option Tmp} {t : TypeId} {x i : Operand} {type : TypeId} {pos : String} {after : Array Edge} {guard : Option (Nat × Bool)} {F : Fr} {H : List AObj} {cs : List AVal} {off : Nat} {k : IntKind} {n : Int} {e : TypeId} {len : Nat} {r r' : TyRow}
    (hx : ev F x = some (.pp cs off)) (hi : ev F i = some (.v (.int k n))) (ht : tfind T.tab t = some r') (hd : r'.d = .array len e) (he : tfind T.tab e = some r)
    (h0 : 0 ≤ n) (hn : n < len) : DSem P .p ⟨dst, .indexAddr t x i, type, pos, after, guard⟩ F H (.pp cs (off + n.toNat * r.size)) H := by
  refine ⟨rfl, fun H' => ?_⟩
  intro ext w β ρ hI hext hκ hρ
  obtain ⟨b, o, us, hu, h1, h2, h3, h4⟩ := hρ x (by simp [Op.operands]) _ hx
  have hni : ρ i = .int k n := hρ i (by simp [Op.operands]) _ hi
  have h5 : (execOp ρ ⟨dst, .indexAddr t x i, type, pos, after, guard⟩).run P w = .ok (.value (.pointer (some ⟨b, o + off + n.toNat * r.size, none⟩))) w := by
    have hcond : 0 ≤ n ∧ n < (len : Int) := ⟨h0, hn⟩
    simp only [execOp, Instr.indexAt, Sem.run_bind, hni, hu, asIntOf, Sem.run_pure, Result.andThen_ok, run_und ht, hd, Instr.sureAddr, if_pos hcond, run_size he, addr_add]
  rw [h5]
  exact came_same hI ⟨b, o, us, by rw [Nat.add_assoc], h1, h2, h3, h4⟩
end
end Go.AL
end
section
namespace Go.AL
open Go Go.Proofs
set_option maxRecDepth 100000
def ty1 : TyRow := ⟨1, .func #[] #[] false, .nilFunc, 1, 8⟩
def ty2 : TyRow := ⟨2, .int .i64, .int .i64 0, 1, 8⟩
def ty3 : TyRow := ⟨3, .int .i64, .int .i64 0, 1, 8⟩
def ty4 : TyRow := ⟨4, .bool, .bool false, 1, 1⟩
def ty5 : TyRow := ⟨5, .int .u8, .int .u8 0, 1, 1⟩
def ty6 : TyRow := ⟨6, .int .u8, .int .u8 0, 1, 1⟩
def ty7 : TyRow := ⟨7, .struct #[⟨"x", 2, 0, false, "", "runtime", 0⟩, ⟨"y", 3, 1, false, "", "runtime", 8⟩, ⟨"signed", 4, 2, false, "", "runtime", 16⟩, ⟨"code", 6, 3, false, "", "runtime", 17⟩], .agg #[.int .i64 0, .int .i64 0, .bool false, .int .u8 0], 4, 24⟩
def ty8 : TyRow := ⟨8, .struct #[⟨"x", 2, 0, false, "", "runtime", 0⟩, ⟨"y", 3, 1, false, "", "runtime", 8⟩, ⟨"signed", 4, 2, false, "", "runtime", 16⟩, ⟨"code", 6, 3, false, "", "runtime", 17⟩], .agg #[.int .i64 0, .int .i64 0, .bool false, .int .u8 0], 4, 24⟩
def ty9 : TyRow := ⟨9, .string, .string .empty, 1, 16⟩
def ty10 : TyRow := ⟨10, .string, .string .empty, 1, 16⟩
def ty11 : TyRow := ⟨11, .string, .string .empty, 1, 16⟩
def ty12 : TyRow := ⟨12, .int .u64, .int .u64 0, 1, 8⟩
def ty13 : TyRow := ⟨13, .struct #[⟨"msg", 9, 0, false, "", "runtime", 0⟩, ⟨"addr", 12, 1, false, "", "runtime", 16⟩], .agg #[.string .empty, .int .u64 0], 2, 24⟩
def ty14 : TyRow := ⟨14, .struct #[⟨"msg", 9, 0, false, "", "runtime", 0⟩, ⟨"addr", 12, 1, false, "", "runtime", 16⟩], .agg #[.string .empty, .int .u64 0], 2, 24⟩
def ty15 : TyRow := ⟨15, .pointer 349, .pointer none, 1, 8⟩
def ty16 : TyRow := ⟨16, .pointer 352, .pointer none, 1, 8⟩
def ty17 : TyRow := ⟨17, .pointer 359, .pointer none, 1, 8⟩
def ty18 : TyRow := ⟨18, .struct #[⟨"typ", 17, 0, false, "", "internal/runtime/maps", 0⟩], .agg #[.pointer none], 1, 8⟩
def ty19 : TyRow := ⟨19, .struct #[⟨"typ", 17, 0, false, "", "internal/runtime/maps", 0⟩], .agg #[.pointer none], 1, 8⟩
def ty20 : TyRow := ⟨20, .interface #[], .nilIface, 1, 16⟩
def ty21 : TyRow := ⟨21, .int .i32, .int .i32 0, 1, 4⟩
def ty22 : TyRow := ⟨22, .slice 9, .slice none 0 0, 1, 24⟩
def ty23 : TyRow := ⟨23, .slice 3, .slice none 0 0, 1, 24⟩
def ty24 : TyRow := ⟨24, .struct #[⟨"Words", 23, 0, false, "", "", 0⟩, ⟨"Tags", 23, 1, false, "", "", 24⟩], .agg #[.slice none 0 0, .slice none 0 0], 2, 48⟩
def ty25 : TyRow := ⟨25, .struct #[⟨"Words", 23, 0, false, "", "", 0⟩, ⟨"Tags", 23, 1, false, "", "", 24⟩], .agg #[.slice none 0 0, .slice none 0 0], 2, 48⟩
def ty26 : TyRow := ⟨26, .slice 98, .slice none 0 0, 1, 24⟩
def ty27 : TyRow := ⟨27, .slice 170, .slice none 0 0, 1, 24⟩
def ty28 : TyRow := ⟨28, .struct #[⟨"Memory", 25, 0, false, "", "", 0⟩, ⟨"Depth", 3, 2, false, "", "", 48⟩, ⟨"Buffers", 27, 3, false, "", "", 56⟩], .agg #[.slice none 0 0, .slice none 0 0, .int .i64 0, .slice none 0 0], 4, 80⟩
def ty29 : TyRow := ⟨29, .struct #[⟨"Memory", 25, 0, false, "", "", 0⟩, ⟨"Depth", 3, 2, false, "", "", 48⟩, ⟨"Buffers", 27, 3, false, "", "", 56⟩], .agg #[.slice none 0 0, .slice none 0 0, .int .i64 0, .slice none 0 0], 4, 80⟩
def ty30 : TyRow := ⟨30, .slice 53, .slice none 0 0, 1, 24⟩
def ty31 : TyRow := ⟨31, .slice 59, .slice none 0 0, 1, 24⟩
def ty32 : TyRow := ⟨32, .struct #[⟨"Code", 26, 0, false, "", "", 0⟩, ⟨"Tso", 29, 1, false, "", "", 24⟩, ⟨"Threads", 30, 5, false, "", "", 104⟩, ⟨"Events", 31, 6, false, "", "", 128⟩], .agg #[.slice none 0 0, .slice none 0 0, .slice none 0 0, .int .i64 0, .slice none 0 0, .slice none 0 0, .slice none 0 0], 7, 152⟩
def ty33 : TyRow := ⟨33, .struct #[⟨"Code", 26, 0, false, "", "", 0⟩, ⟨"Tso", 29, 1, false, "", "", 24⟩, ⟨"Threads", 30, 5, false, "", "", 104⟩, ⟨"Events", 31, 6, false, "", "", 128⟩], .agg #[.slice none 0 0, .slice none 0 0, .slice none 0 0, .int .i64 0, .slice none 0 0, .slice none 0 0, .slice none 0 0], 7, 152⟩
def ty34 : TyRow := ⟨34, .int .i64, .int .i64 0, 1, 8⟩
def ty36 : TyRow := ⟨36, .func #[9, 22, 25, 3] #[33, 34] false, .nilFunc, 1, 8⟩
def ty38 : TyRow := ⟨38, .func #[9] #[26, 3, 34] false, .nilFunc, 1, 8⟩
def ty40 : TyRow := ⟨40, .func #[9, 22] #[23, 4] false, .nilFunc, 1, 8⟩
def ty41 : TyRow := ⟨41, .func #[25] #[4] false, .nilFunc, 1, 8⟩
def ty42 : TyRow := ⟨42, .func #[] #[4] false, .nilFunc, 1, 8⟩
def ty43 : TyRow := ⟨43, .func #[33, 33] #[4] false, .nilFunc, 1, 8⟩
def ty44 : TyRow := ⟨44, .func #[9, 22, 25, 3] #[33] false, .nilFunc, 1, 8⟩
def ty45 : TyRow := ⟨45, .func #[9, 22, 23, 23, 3] #[4] false, .nilFunc, 1, 8⟩
def ty46 : TyRow := ⟨46, .slice 56, .slice none 0 0, 1, 24⟩
def ty47 : TyRow := ⟨47, .func #[46, 23, 3] #[33, 34] false, .nilFunc, 1, 8⟩
def ty49 : TyRow := ⟨49, .func #[33, 3] #[33, 3, 34] false, .nilFunc, 1, 8⟩
def ty50 : TyRow := ⟨50, .array 8 3, .agg #[.int .i64 0, .int .i64 0, .int .i64 0, .int .i64 0, .int .i64 0, .int .i64 0, .int .i64 0, .int .i64 0], 8, 64⟩
def ty51 : TyRow := ⟨51, .slice 168, .slice none 0 0, 1, 24⟩
def ty52 : TyRow := ⟨52, .struct #[⟨"Pc", 3, 0, false, "", "", 0⟩, ⟨"Regs", 50, 1, false, "", "", 8⟩, ⟨"Frames", 51, 9, false, "", "", 72⟩, ⟨"State", 3, 10, false, "", "", 96⟩, ⟨"Fault", 34, 11, false, "", "", 104⟩, ⟨"Left", 23, 12, false, "", "", 112⟩], .agg #[.int .i64 0, .int .i64 0, .int .i64 0, .int .i64 0, .int .i64 0, .int .i64 0, .int .i64 0, .int .i64 0, .int .i64 0, .slice none 0 0, .int .i64 0, .int .i64 0, .slice none 0 0], 13, 136⟩
def ty53 : TyRow := ⟨53, .struct #[⟨"Pc", 3, 0, false, "", "", 0⟩, ⟨"Regs", 50, 1, false, "", "", 8⟩, ⟨"Frames", 51, 9, false, "", "", 72⟩, ⟨"State", 3, 10, false, "", "", 96⟩, ⟨"Fault", 34, 11, false, "", "", 104⟩, ⟨"Left", 23, 12, false, "", "", 112⟩], .agg #[.int .i64 0, .int .i64 0, .int .i64 0, .int .i64 0, .int .i64 0, .int .i64 0, .int .i64 0, .int .i64 0, .int .i64 0, .slice none 0 0, .int .i64 0, .int .i64 0, .slice none 0 0], 13, 136⟩
def ty54 : TyRow := ⟨54, .func #[25, 25] #[4] false, .nilFunc, 1, 8⟩
def ty55 : TyRow := ⟨55, .struct #[⟨"Key", 3, 0, false, "", "", 0⟩, ⟨"Value", 3, 1, false, "", "", 8⟩], .agg #[.int .i64 0, .int .i64 0], 2, 16⟩
def ty56 : TyRow := ⟨56, .struct #[⟨"Key", 3, 0, false, "", "", 0⟩, ⟨"Value", 3, 1, false, "", "", 8⟩], .agg #[.int .i64 0, .int .i64 0], 2, 16⟩
def ty57 : TyRow := ⟨57, .array 4 3, .agg #[.int .i64 0, .int .i64 0, .int .i64 0, .int .i64 0], 4, 32⟩
def ty58 : TyRow := ⟨58, .struct #[⟨"Kind", 3, 0, false, "", "", 0⟩, ⟨"Thread", 3, 1, false, "", "", 8⟩, ⟨"Words", 57, 2, false, "", "", 16⟩], .agg #[.int .i64 0, .int .i64 0, .int .i64 0, .int .i64 0, .int .i64 0, .int .i64 0], 6, 48⟩
def ty59 : TyRow := ⟨59, .struct #[⟨"Kind", 3, 0, false, "", "", 0⟩, ⟨"Thread", 3, 1, false, "", "", 8⟩, ⟨"Words", 57, 2, false, "", "", 16⟩], .agg #[.int .i64 0, .int .i64 0, .int .i64 0, .int .i64 0, .int .i64 0, .int .i64 0], 6, 48⟩
def ty60 : TyRow := ⟨60, .func #[46, 23, 3] #[4] false, .nilFunc, 1, 8⟩
def ty61 : TyRow := ⟨61, .func #[] #[9] false, .nilFunc, 1, 8⟩
def ty62 : TyRow := ⟨62, .func #[46] #[4] false, .nilFunc, 1, 8⟩
def ty63 : TyRow := ⟨63, .func #[23] #[4] false, .nilFunc, 1, 8⟩
def ty64 : TyRow := ⟨64, .func #[46, 23, 3] #[33] false, .nilFunc, 1, 8⟩
def ty66 : TyRow := ⟨66, .func #[23] #[9, 34] false, .nilFunc, 1, 8⟩
def ty67 : TyRow := ⟨67, .func #[23, 3] #[33, 34] false, .nilFunc, 1, 8⟩
def ty68 : TyRow := ⟨68, .func #[23] #[9] false, .nilFunc, 1, 8⟩
def ty69 : TyRow := ⟨69, .func #[23, 3] #[33] false, .nilFunc, 1, 8⟩
def ty70 : TyRow := ⟨70, .func #[23, 3] #[4] false, .nilFunc, 1, 8⟩
def ty71 : TyRow := ⟨71, .slice 127, .slice none 0 0, 1, 24⟩
def ty73 : TyRow := ⟨73, .func #[23, 3] #[23, 3] false, .nilFunc, 1, 8⟩
def ty74 : TyRow := ⟨74, .func #[33, 71] #[33, 3, 34] false, .nilFunc, 1, 8⟩
def ty76 : TyRow := ⟨76, .func #[33, 71] #[33, 3] false, .nilFunc, 1, 8⟩
def ty77 : TyRow := ⟨77, .func #[23, 3, 71] #[4] false, .nilFunc, 1, 8⟩
def ty78 : TyRow := ⟨78, .func #[23, 23] #[25] false, .nilFunc, 1, 8⟩
def ty80 : TyRow := ⟨80, .func #[25, 3, 3, 46] #[25, 34] false, .nilFunc, 1, 8⟩
def ty82 : TyRow := ⟨82, .func #[25, 3] #[46, 34] false, .nilFunc, 1, 8⟩
def ty83 : TyRow := ⟨83, .func #[46, 46] #[4] false, .nilFunc, 1, 8⟩
def ty84 : TyRow := ⟨84, .func #[23, 23, 3, 3, 46] #[4] false, .nilFunc, 1, 8⟩
def ty85 : TyRow := ⟨85, .func #[23, 23, 3] #[4] false, .nilFunc, 1, 8⟩
def ty86 : TyRow := ⟨86, .interface #[("Error", 61)], .nilIface, 1, 16⟩
def ty87 : TyRow := ⟨87, .interface #[("Error", 61)], .nilIface, 1, 16⟩
def ty89 : TyRow := ⟨89, .func #[9, 22] #[23, 87] false, .nilFunc, 1, 8⟩
def ty90 : TyRow := ⟨90, .struct #[⟨"label", 9, 0, false, "", "respite/sched", 0⟩], .agg #[.string .empty], 1, 16⟩
def ty91 : TyRow := ⟨91, .struct #[⟨"label", 9, 0, false, "", "respite/sched", 0⟩], .agg #[.string .empty], 1, 16⟩
def ty92 : TyRow := ⟨92, .func #[87, 20] #[4] false, .nilFunc, 1, 8⟩
def ty93 : TyRow := ⟨93, .pointer 91, .pointer none, 1, 8⟩
def ty94 : TyRow := ⟨94, .func #[26, 23, 25, 3] #[33, 34] false, .nilFunc, 1, 8⟩
def ty95 : TyRow := ⟨95, .func #[9, 5] #[22] false, .nilFunc, 1, 8⟩
def ty96 : TyRow := ⟨96, .func #[9] #[4] false, .nilFunc, 1, 8⟩
def ty97 : TyRow := ⟨97, .struct #[⟨"Op", 3, 0, false, "", "", 0⟩, ⟨"A", 3, 1, false, "", "", 8⟩, ⟨"B", 3, 2, false, "", "", 16⟩, ⟨"C", 3, 3, false, "", "", 24⟩], .agg #[.int .i64 0, .int .i64 0, .int .i64 0, .int .i64 0], 4, 32⟩
def ty98 : TyRow := ⟨98, .struct #[⟨"Op", 3, 0, false, "", "", 0⟩, ⟨"A", 3, 1, false, "", "", 8⟩, ⟨"B", 3, 2, false, "", "", 16⟩, ⟨"C", 3, 3, false, "", "", 24⟩], .agg #[.int .i64 0, .int .i64 0, .int .i64 0, .int .i64 0], 4, 32⟩
def ty100 : TyRow := ⟨100, .func #[22, 9, 3] #[98, 34] false, .nilFunc, 1, 8⟩
def ty102 : TyRow := ⟨102, .func #[9, 9] #[3, 34] false, .nilFunc, 1, 8⟩
def ty103 : TyRow := ⟨103, .func #[53, 53] #[4] false, .nilFunc, 1, 8⟩
def ty104 : TyRow := ⟨104, .func #[26, 26] #[4] false, .nilFunc, 1, 8⟩
def ty105 : TyRow := ⟨105, .func #[29, 29] #[4] false, .nilFunc, 1, 8⟩
def ty106 : TyRow := ⟨106, .func #[31, 31] #[4] false, .nilFunc, 1, 8⟩
def ty107 : TyRow := ⟨107, .func #[26, 23, 25, 3] #[33] false, .nilFunc, 1, 8⟩
def ty108 : TyRow := ⟨108, .pointer 111, .pointer none, 1, 8⟩
def ty109 : TyRow := ⟨109, .slice 5, .slice none 0 0, 1, 24⟩
def ty110 : TyRow := ⟨110, .struct #[⟨"addr", 108, 0, false, "", "strings", 0⟩, ⟨"buf", 109, 1, false, "", "strings", 8⟩], .agg #[.pointer none, .slice none 0 0], 2, 32⟩
def ty111 : TyRow := ⟨111, .struct #[⟨"addr", 108, 0, false, "", "strings", 0⟩, ⟨"buf", 109, 1, false, "", "strings", 8⟩], .agg #[.pointer none, .slice none 0 0], 2, 32⟩
def ty113 : TyRow := ⟨113, .func #[9] #[3, 87] false, .nilFunc, 1, 8⟩
def ty114 : TyRow := ⟨114, .func #[3] #[9] false, .nilFunc, 1, 8⟩
def ty115 : TyRow := ⟨115, .func #[3] #[25, 34] false, .nilFunc, 1, 8⟩
def ty116 : TyRow := ⟨116, .func #[33] #[4] false, .nilFunc, 1, 8⟩
def ty117 : TyRow := ⟨117, .pointer 119, .pointer none, 1, 8⟩
def ty118 : TyRow := ⟨118, .struct #[⟨"w", 33, 0, false, "", "respite/sched", 0⟩, ⟨"done", 3, 7, false, "", "respite/sched", 152⟩], .agg #[.slice none 0 0, .slice none 0 0, .slice none 0 0, .int .i64 0, .slice none 0 0, .slice none 0 0, .slice none 0 0, .int .i64 0], 8, 160⟩
def ty119 : TyRow := ⟨119, .struct #[⟨"w", 33, 0, false, "", "respite/sched", 0⟩, ⟨"done", 3, 7, false, "", "respite/sched", 152⟩], .agg #[.slice none 0 0, .slice none 0 0, .slice none 0 0, .int .i64 0, .slice none 0 0, .slice none 0 0, .slice none 0 0, .int .i64 0], 8, 160⟩
def ty120 : TyRow := ⟨120, .func #[3] #[4] false, .nilFunc, 1, 8⟩
def ty121 : TyRow := ⟨121, .func #[23, 23] #[4] false, .nilFunc, 1, 8⟩
def ty122 : TyRow := ⟨122, .func #[3] #[25] false, .nilFunc, 1, 8⟩
def ty123 : TyRow := ⟨123, .func #[22] #[9] true, .nilFunc, 1, 8⟩
def ty124 : TyRow := ⟨124, .func #[25, 3, 3, 3] #[25, 34] false, .nilFunc, 1, 8⟩
def ty125 : TyRow := ⟨125, .func #[3] #[22] false, .nilFunc, 1, 8⟩
def ty126 : TyRow := ⟨126, .struct #[⟨"Kind", 3, 0, false, "", "", 0⟩, ⟨"Thread", 3, 1, false, "", "", 8⟩], .agg #[.int .i64 0, .int .i64 0], 2, 16⟩
def ty127 : TyRow := ⟨127, .struct #[⟨"Kind", 3, 0, false, "", "", 0⟩, ⟨"Thread", 3, 1, false, "", "", 8⟩], .agg #[.int .i64 0, .int .i64 0], 2, 16⟩
def ty128 : TyRow := ⟨128, .func #[127] #[4] false, .nilFunc, 1, 8⟩
def ty129 : TyRow := ⟨129, .func #[25, 3, 3] #[25, 34] false, .nilFunc, 1, 8⟩
def ty130 : TyRow := ⟨130, .func #[25, 3, 3, 46] #[25] false, .nilFunc, 1, 8⟩
def ty131 : TyRow := ⟨131, .pointer 133, .pointer none, 1, 8⟩
def ty132 : TyRow := ⟨132, .struct #[⟨"Memory", 25, 0, true, "", "", 0⟩, ⟨"bad", 34, 2, false, "", "respite/chain", 48⟩], .agg #[.slice none 0 0, .slice none 0 0, .int .i64 0], 3, 56⟩
def ty133 : TyRow := ⟨133, .struct #[⟨"Memory", 25, 0, true, "", "", 0⟩, ⟨"bad", 34, 2, false, "", "respite/chain", 48⟩], .agg #[.slice none 0 0, .slice none 0 0, .int .i64 0], 3, 56⟩
def ty134 : TyRow := ⟨134, .func #[189] #[] false, .nilFunc, 1, 8⟩
def ty135 : TyRow := ⟨135, .func #[189] #[] false, .nilFunc, 1, 8⟩
def ty136 : TyRow := ⟨136, .func #[3] #[135] false, .nilFunc, 1, 8⟩
def ty137 : TyRow := ⟨137, .func #[25, 3] #[3, 34] false, .nilFunc, 1, 8⟩
def ty138 : TyRow := ⟨138, .array 3 3, .agg #[.int .i64 0, .int .i64 0, .int .i64 0], 3, 24⟩
def ty139 : TyRow := ⟨139, .map 9 3, .map none, 1, 8⟩
def ty140 : TyRow := ⟨140, .func #[9] #[139] false, .nilFunc, 1, 8⟩
def ty141 : TyRow := ⟨141, .map 5 192, .map none, 1, 8⟩
def ty142 : TyRow := ⟨142, .func #[139] #[141] false, .nilFunc, 1, 8⟩
def ty143 : TyRow := ⟨143, .func #[96] #[] false, .nilFunc, 1, 8⟩
def ty144 : TyRow := ⟨144, .func #[96] #[] false, .nilFunc, 1, 8⟩
def ty145 : TyRow := ⟨145, .func #[9] #[144] false, .nilFunc, 1, 8⟩
def ty147 : TyRow := ⟨147, .func #[9, 9] #[9, 4] false, .nilFunc, 1, 8⟩
def ty148 : TyRow := ⟨148, .func #[9, 141] #[98, 34] false, .nilFunc, 1, 8⟩
def ty150 : TyRow := ⟨150, .int .u64, .int .u64 0, 1, 8⟩
def ty151 : TyRow := ⟨151, .struct #[⟨"typ_", 17, 0, false, "", "internal/reflectlite", 0⟩, ⟨"ptr", 149, 1, false, "", "internal/reflectlite", 8⟩, ⟨"flag", 150, 2, true, "", "internal/reflectlite", 16⟩], .agg #[.pointer none, .pointer none, .int .u64 0], 3, 24⟩
def ty152 : TyRow := ⟨152, .struct #[⟨"typ_", 17, 0, false, "", "internal/reflectlite", 0⟩, ⟨"ptr", 149, 1, false, "", "internal/reflectlite", 8⟩, ⟨"flag", 150, 2, true, "", "internal/reflectlite", 16⟩], .agg #[.pointer none, .pointer none, .int .u64 0], 3, 24⟩
def ty153 : TyRow := ⟨153, .func #[20] #[152] false, .nilFunc, 1, 8⟩
def ty154 : TyRow := ⟨154, .interface #[("AssignableTo", 159), ("Comparable", 42), ("Elem", 156), ("Implements", 159), ("Kind", 158), ("Name", 61), ("PkgPath", 61), ("Size", 360), ("String", 61), ("internal/reflectlite.common", 353), ("internal/reflectlite.uncommon", 361)], .nilIface, 1, 16⟩
def ty155 : TyRow := ⟨155, .interface #[("AssignableTo", 159), ("Comparable", 42), ("Elem", 156), ("Implements", 159), ("Kind", 158), ("Name", 61), ("PkgPath", 61), ("Size", 360), ("String", 61), ("internal/reflectlite.common", 353), ("internal/reflectlite.uncommon", 361)], .nilIface, 1, 16⟩
def ty156 : TyRow := ⟨156, .func #[] #[155] false, .nilFunc, 1, 8⟩
def ty157 : TyRow := ⟨157, .int .u8, .int .u8 0, 1, 1⟩
def ty158 : TyRow := ⟨158, .func #[] #[157] false, .nilFunc, 1, 8⟩
def ty159 : TyRow := ⟨159, .func #[155] #[4] false, .nilFunc, 1, 8⟩
def ty160 : TyRow := ⟨160, .func #[87, 20, 152, 155] #[4] false, .nilFunc, 1, 8⟩
def ty161 : TyRow := ⟨161, .func #[26] #[4] false, .nilFunc, 1, 8⟩
def ty163 : TyRow := ⟨163, .func #[25, 3, 3] #[29, 34] false, .nilFunc, 1, 8⟩
def ty164 : TyRow := ⟨164, .func #[22, 5, 9] #[3, 34] false, .nilFunc, 1, 8⟩
def ty166 : TyRow := ⟨166, .func #[22, 9] #[3, 4] false, .nilFunc, 1, 8⟩
def ty167 : TyRow := ⟨167, .struct #[⟨"Back", 3, 0, false, "", "", 0⟩, ⟨"Kept", 57, 1, false, "", "", 8⟩], .agg #[.int .i64 0, .int .i64 0, .int .i64 0, .int .i64 0, .int .i64 0], 5, 40⟩
def ty168 : TyRow := ⟨168, .struct #[⟨"Back", 3, 0, false, "", "", 0⟩, ⟨"Kept", 57, 1, false, "", "", 8⟩], .agg #[.int .i64 0, .int .i64 0, .int .i64 0, .int .i64 0, .int .i64 0], 5, 40⟩
def ty169 : TyRow := ⟨169, .func #[170, 170] #[4] false, .nilFunc, 1, 8⟩
def ty170 : TyRow := ⟨170, .slice 224, .slice none 0 0, 1, 24⟩
def ty171 : TyRow := ⟨171, .func #[25, 3, 3] #[29] false, .nilFunc, 1, 8⟩
def ty172 : TyRow := ⟨172, .map 3 3, .map none, 1, 8⟩
def ty173 : TyRow := ⟨173, .pointer 5, .pointer none, 1, 8⟩
def ty174 : TyRow := ⟨174, .func #[29] #[4] false, .nilFunc, 1, 8⟩
def ty175 : TyRow := ⟨175, .func #[30, 176] #[4] false, .nilFunc, 1, 8⟩
def ty176 : TyRow := ⟨176, .func #[53] #[4] false, .nilFunc, 1, 8⟩
def ty178 : TyRow := ⟨178, .func #[33, 3] #[4, 34] false, .nilFunc, 1, 8⟩
def ty179 : TyRow := ⟨179, .func #[33, 34] #[4] false, .nilFunc, 1, 8⟩
def ty180 : TyRow := ⟨180, .func #[33, 3] #[33, 34] false, .nilFunc, 1, 8⟩
def ty181 : TyRow := ⟨181, .func #[22, 9] #[9] false, .nilFunc, 1, 8⟩
def ty182 : TyRow := ⟨182, .func #[23] #[23] false, .nilFunc, 1, 8⟩
def ty183 : TyRow := ⟨183, .func #[3] #[34] false, .nilFunc, 1, 8⟩
def ty184 : TyRow := ⟨184, .func #[23, 3, 3] #[23] false, .nilFunc, 1, 8⟩
def ty185 : TyRow := ⟨185, .array 2 120, .agg #[.nilFunc, .nilFunc], 2, 16⟩
def ty186 : TyRow := ⟨186, .func #[33, 127] #[4] false, .nilFunc, 1, 8⟩
def ty187 : TyRow := ⟨187, .func #[33, 127] #[33] false, .nilFunc, 1, 8⟩
def ty188 : TyRow := ⟨188, .func #[25, 3] #[34] false, .nilFunc, 1, 8⟩
def ty189 : TyRow := ⟨189, .func #[56] #[4] false, .nilFunc, 1, 8⟩
def ty190 : TyRow := ⟨190, .func #[3] #[3] false, .nilFunc, 1, 8⟩
def ty191 : TyRow := ⟨191, .func #[3, 3, 3] #[4] false, .nilFunc, 1, 8⟩
def ty192 : TyRow := ⟨192, .func #[9] #[3, 34] false, .nilFunc, 1, 8⟩
def ty193 : TyRow := ⟨193, .func #[9] #[3, 4] false, .nilFunc, 1, 8⟩
def ty194 : TyRow := ⟨194, .func #[9, 5] #[3] false, .nilFunc, 1, 8⟩
def ty195 : TyRow := ⟨195, .func #[9, 196] #[4] false, .nilFunc, 1, 8⟩
def ty196 : TyRow := ⟨196, .func #[21] #[4] false, .nilFunc, 1, 8⟩
def ty197 : TyRow := ⟨197, .struct #[⟨"name", 9, 0, false, "", "respite/asm", 0⟩, ⟨"kinds", 9, 1, false, "", "respite/asm", 16⟩], .agg #[.string .empty, .string .empty], 2, 32⟩
def ty198 : TyRow := ⟨198, .struct #[⟨"name", 9, 0, false, "", "respite/asm", 0⟩, ⟨"kinds", 9, 1, false, "", "respite/asm", 16⟩], .agg #[.string .empty, .string .empty], 2, 32⟩
def ty199 : TyRow := ⟨199, .array 27 198, .agg #[.string .empty, .string .empty, .string .empty, .string .empty, .string .empty, .string .empty, .string .empty, .string .empty, .string .empty, .string .empty, .string .empty, .string .empty, .string .empty, .string .empty, .string .empty, .string .empty, .string .empty, .string .empty, .string .empty, .string .empty, .string .empty, .string .empty, .string .empty, .string .empty, .string .empty, .string .empty, .string .empty, .string .empty, .string .empty, .string .empty, .string .empty, .string .empty, .string .empty, .string .empty, .string .empty, .string .empty, .string .empty, .string .empty, .string .empty, .string .empty, .string .empty, .string .empty, .string .empty, .string .empty, .string .empty, .string .empty, .string .empty, .string .empty, .string .empty, .string .empty, .string .empty, .string .empty, .string .empty, .string .empty], 54, 864⟩
def ty200 : TyRow := ⟨200, .func #[] #[199] false, .nilFunc, 1, 8⟩
def ty201 : TyRow := ⟨201, .func #[9, 9] #[22] false, .nilFunc, 1, 8⟩
def ty202 : TyRow := ⟨202, .func #[203, 204] #[3] false, .nilFunc, 1, 8⟩
def ty203 : TyRow := ⟨203, .slice 198, .slice none 0 0, 1, 24⟩
def ty204 : TyRow := ⟨204, .func #[198] #[4] false, .nilFunc, 1, 8⟩
def ty205 : TyRow := ⟨205, .struct #[⟨"Type", 17, 0, true, "", "", 0⟩], .agg #[.pointer none], 1, 8⟩
def ty206 : TyRow := ⟨206, .struct #[⟨"Type", 17, 0, true, "", "", 0⟩], .agg #[.pointer none], 1, 8⟩
def ty207 : TyRow := ⟨207, .pointer 363, .pointer none, 1, 8⟩
def ty208 : TyRow := ⟨208, .func #[20] #[155] false, .nilFunc, 1, 8⟩
def ty209 : TyRow := ⟨209, .func #[] #[152] false, .nilFunc, 1, 8⟩
def ty210 : TyRow := ⟨210, .func #[152] #[] false, .nilFunc, 1, 8⟩
def ty211 : TyRow := ⟨211, .interface #[("As", 213)], .nilIface, 1, 16⟩
def ty213 : TyRow := ⟨213, .func #[20] #[4] false, .nilFunc, 1, 8⟩
def ty214 : TyRow := ⟨214, .interface #[("Unwrap", 215)], .nilIface, 1, 16⟩
def ty215 : TyRow := ⟨215, .func #[] #[87] false, .nilFunc, 1, 8⟩
def ty216 : TyRow := ⟨216, .interface #[("Unwrap", 218)], .nilIface, 1, 16⟩
def ty217 : TyRow := ⟨217, .slice 87, .slice none 0 0, 1, 24⟩
def ty218 : TyRow := ⟨218, .func #[] #[217] false, .nilFunc, 1, 8⟩
def ty219 : TyRow := ⟨219, .func #[98] #[138] false, .nilFunc, 1, 8⟩
def ty220 : TyRow := ⟨220, .func #[98] #[4] false, .nilFunc, 1, 8⟩
def ty221 : TyRow := ⟨221, .func #[26, 220] #[4] false, .nilFunc, 1, 8⟩
def ty222 : TyRow := ⟨222, .func #[3, 3] #[4] false, .nilFunc, 1, 8⟩
def ty223 : TyRow := ⟨223, .struct #[⟨"At", 3, 0, false, "", "", 0⟩, ⟨"Value", 3, 1, false, "", "", 8⟩], .agg #[.int .i64 0, .int .i64 0], 2, 16⟩
def ty224 : TyRow := ⟨224, .struct #[⟨"At", 3, 0, false, "", "", 0⟩, ⟨"Value", 3, 1, false, "", "", 8⟩], .agg #[.int .i64 0, .int .i64 0], 2, 16⟩
def ty225 : TyRow := ⟨225, .func #[149] #[149] false, .nilFunc, 1, 8⟩
def ty226 : TyRow := ⟨226, .func #[2, 3] #[9] false, .nilFunc, 1, 8⟩
def ty227 : TyRow := ⟨227, .func #[170, 228] #[4] false, .nilFunc, 1, 8⟩
def ty228 : TyRow := ⟨228, .func #[224] #[4] false, .nilFunc, 1, 8⟩
def ty229 : TyRow := ⟨229, .func #[30, 176] #[3] false, .nilFunc, 1, 8⟩
def ty230 : TyRow := ⟨230, .func #[51, 231] #[4] false, .nilFunc, 1, 8⟩
def ty231 : TyRow := ⟨231, .func #[168] #[4] false, .nilFunc, 1, 8⟩
def ty232 : TyRow := ⟨232, .func #[23, 120] #[4] false, .nilFunc, 1, 8⟩
def ty233 : TyRow := ⟨233, .pointer 238, .pointer none, 1, 8⟩
def ty235 : TyRow := ⟨235, .func #[33, 3] #[233, 34] false, .nilFunc, 1, 8⟩
def ty236 : TyRow := ⟨236, .func #[1] #[] false, .nilFunc, 1, 8⟩
def ty237 : TyRow := ⟨237, .struct #[⟨"World", 33, 0, true, "", "", 0⟩, ⟨"who", 3, 7, false, "", "respite/step", 152⟩, ⟨"own", 53, 8, false, "", "respite/step", 160⟩, ⟨"Instr", 98, 21, true, "", "", 296⟩], .agg #[.slice none 0 0, .slice none 0 0, .slice none 0 0, .int .i64 0, .slice none 0 0, .slice none 0 0, .slice none 0 0, .int .i64 0, .int .i64 0, .int .i64 0, .int .i64 0, .int .i64 0, .int .i64 0, .int .i64 0, .int .i64 0, .int .i64 0, .int .i64 0, .slice none 0 0, .int .i64 0, .int .i64 0, .slice none 0 0, .int .i64 0, .int .i64 0, .int .i64 0, .int .i64 0], 25, 328⟩
def ty238 : TyRow := ⟨238, .struct #[⟨"World", 33, 0, true, "", "", 0⟩, ⟨"who", 3, 7, false, "", "respite/step", 152⟩, ⟨"own", 53, 8, false, "", "respite/step", 160⟩, ⟨"Instr", 98, 21, true, "", "", 296⟩], .agg #[.slice none 0 0, .slice none 0 0, .slice none 0 0, .int .i64 0, .slice none 0 0, .slice none 0 0, .slice none 0 0, .int .i64 0, .int .i64 0, .int .i64 0, .int .i64 0, .int .i64 0, .int .i64 0, .int .i64 0, .int .i64 0, .int .i64 0, .int .i64 0, .slice none 0 0, .int .i64 0, .int .i64 0, .slice none 0 0, .int .i64 0, .int .i64 0, .int .i64 0, .int .i64 0], 25, 328⟩
def ty240 : TyRow := ⟨240, .func #[170] #[224, 170, 34] false, .nilFunc, 1, 8⟩
def ty241 : TyRow := ⟨241, .func #[27] #[27] false, .nilFunc, 1, 8⟩
def ty242 : TyRow := ⟨242, .func #[34] #[] false, .nilFunc, 1, 8⟩
def ty243 : TyRow := ⟨243, .func #[3] #[] false, .nilFunc, 1, 8⟩
def ty244 : TyRow := ⟨244, .array 3 34, .agg #[.int .i64 0, .int .i64 0, .int .i64 0], 3, 24⟩
def ty245 : TyRow := ⟨245, .func #[33, 3] #[4] false, .nilFunc, 1, 8⟩
def ty246 : TyRow := ⟨246, .func #[33, 3] #[33] false, .nilFunc, 1, 8⟩
def ty247 : TyRow := ⟨247, .func #[9, 9] #[4] false, .nilFunc, 1, 8⟩
def ty248 : TyRow := ⟨248, .func #[9, 196] #[3] false, .nilFunc, 1, 8⟩
def ty249 : TyRow := ⟨249, .func #[9, 9, 3, 3] #[22] false, .nilFunc, 1, 8⟩
def ty250 : TyRow := ⟨250, .func #[26, 220] #[3] false, .nilFunc, 1, 8⟩
def ty251 : TyRow := ⟨251, .array 24 5, .agg #[.int .u8 0, .int .u8 0, .int .u8 0, .int .u8 0, .int .u8 0, .int .u8 0, .int .u8 0, .int .u8 0, .int .u8 0, .int .u8 0, .int .u8 0, .int .u8 0, .int .u8 0, .int .u8 0, .int .u8 0, .int .u8 0, .int .u8 0, .int .u8 0, .int .u8 0, .int .u8 0, .int .u8 0, .int .u8 0, .int .u8 0, .int .u8 0], 24, 24⟩
def ty252 : TyRow := ⟨252, .int .u64, .int .u64 0, 1, 8⟩
def ty253 : TyRow := ⟨253, .func #[252] #[3] false, .nilFunc, 1, 8⟩
def ty254 : TyRow := ⟨254, .func #[109, 252] #[] false, .nilFunc, 1, 8⟩
def ty256 : TyRow := ⟨256, .func #[109, 252, 3, 4, 4] #[109, 9] false, .nilFunc, 1, 8⟩
def ty257 : TyRow := ⟨257, .func #[170, 228] #[3] false, .nilFunc, 1, 8⟩
def ty258 : TyRow := ⟨258, .func #[51, 231] #[3] false, .nilFunc, 1, 8⟩
def ty259 : TyRow := ⟨259, .func #[23, 120] #[3] false, .nilFunc, 1, 8⟩
def ty260 : TyRow := ⟨260, .struct #[⟨"why", 34, 0, false, "", "respite/step", 0⟩], .agg #[.int .i64 0], 1, 8⟩
def ty261 : TyRow := ⟨261, .struct #[⟨"why", 34, 0, false, "", "respite/step", 0⟩], .agg #[.int .i64 0], 1, 8⟩
def ty264 : TyRow := ⟨264, .func #[53, 3, 98] #[53, 34] false, .nilFunc, 1, 8⟩
def ty265 : TyRow := ⟨265, .func #[3, 3] #[] false, .nilFunc, 1, 8⟩
def ty266 : TyRow := ⟨266, .func #[31] #[31] false, .nilFunc, 1, 8⟩
def ty267 : TyRow := ⟨267, .func #[170] #[170] false, .nilFunc, 1, 8⟩
def ty268 : TyRow := ⟨268, .func #[30] #[30] false, .nilFunc, 1, 8⟩
def ty269 : TyRow := ⟨269, .func #[33, 3, 34] #[33] false, .nilFunc, 1, 8⟩
def ty270 : TyRow := ⟨270, .func #[33, 3, 53] #[33] false, .nilFunc, 1, 8⟩
def ty271 : TyRow := ⟨271, .func #[33, 3, 98] #[33] false, .nilFunc, 1, 8⟩
def ty272 : TyRow := ⟨272, .func #[29, 3] #[29] false, .nilFunc, 1, 8⟩
def ty273 : TyRow := ⟨273, .func #[9, 9, 3, 3, 87] #[87] false, .nilFunc, 1, 8⟩
def ty274 : TyRow := ⟨274, .func #[9, 196, 4] #[3] false, .nilFunc, 1, 8⟩
def ty275 : TyRow := ⟨275, .func #[9, 3] #[22] false, .nilFunc, 1, 8⟩
def ty276 : TyRow := ⟨276, .func #[9, 9] #[3] false, .nilFunc, 1, 8⟩
def ty277 : TyRow := ⟨277, .func #[4] #[3] false, .nilFunc, 1, 8⟩
def ty278 : TyRow := ⟨278, .array 20 252, .agg #[.int .u64 0, .int .u64 0, .int .u64 0, .int .u64 0, .int .u64 0, .int .u64 0, .int .u64 0, .int .u64 0, .int .u64 0, .int .u64 0, .int .u64 0, .int .u64 0, .int .u64 0, .int .u64 0, .int .u64 0, .int .u64 0, .int .u64 0, .int .u64 0, .int .u64 0, .int .u64 0], 20, 160⟩
def ty279 : TyRow := ⟨279, .int .u32, .int .u32 0, 1, 4⟩
def ty280 : TyRow := ⟨280, .array 65 5, .agg #[.int .u8 0, .int .u8 0, .int .u8 0, .int .u8 0, .int .u8 0, .int .u8 0, .int .u8 0, .int .u8 0, .int .u8 0, .int .u8 0, .int .u8 0, .int .u8 0, .int .u8 0, .int .u8 0, .int .u8 0, .int .u8 0, .int .u8 0, .int .u8 0, .int .u8 0, .int .u8 0, .int .u8 0, .int .u8 0, .int .u8 0, .int .u8 0, .int .u8 0, .int .u8 0, .int .u8 0, .int .u8 0, .int .u8 0, .int .u8 0, .int .u8 0, .int .u8 0, .int .u8 0, .int .u8 0, .int .u8 0, .int .u8 0, .int .u8 0, .int .u8 0, .int .u8 0, .int .u8 0, .int .u8 0, .int .u8 0, .int .u8 0, .int .u8 0, .int .u8 0, .int .u8 0, .int .u8 0, .int .u8 0, .int .u8 0, .int .u8 0, .int .u8 0, .int .u8 0, .int .u8 0, .int .u8 0, .int .u8 0, .int .u8 0, .int .u8 0, .int .u8 0, .int .u8 0, .int .u8 0, .int .u8 0, .int .u8 0, .int .u8 0, .int .u8 0, .int .u8 0], 65, 65⟩
def ty281 : TyRow := ⟨281, .int .u64, .int .u64 0, 1, 8⟩
def ty282 : TyRow := ⟨282, .func #[281] #[3] false, .nilFunc, 1, 8⟩
def ty283 : TyRow := ⟨283, .func #[53, 3] #[34] false, .nilFunc, 1, 8⟩
def ty284 : TyRow := ⟨284, .func #[292] #[] false, .nilFunc, 1, 8⟩
def ty285 : TyRow := ⟨285, .struct #[⟨"registers", 3, 0, false, "", "respite/local", 0⟩, ⟨"target", 3, 1, false, "", "respite/local", 8⟩, ⟨"do", 284, 2, false, "", "respite/local", 16⟩], .agg #[.int .i64 0, .int .i64 0, .nilFunc], 3, 24⟩
def ty286 : TyRow := ⟨286, .struct #[⟨"registers", 3, 0, false, "", "respite/local", 0⟩, ⟨"target", 3, 1, false, "", "respite/local", 8⟩, ⟨"do", 284, 2, false, "", "respite/local", 16⟩], .agg #[.int .i64 0, .int .i64 0, .nilFunc], 3, 24⟩
def ty287 : TyRow := ⟨287, .array 16 286, .agg #[.int .i64 0, .int .i64 0, .nilFunc, .int .i64 0, .int .i64 0, .nilFunc, .int .i64 0, .int .i64 0, .nilFunc, .int .i64 0, .int .i64 0, .nilFunc, .int .i64 0, .int .i64 0, .nilFunc, .int .i64 0, .int .i64 0, .nilFunc, .int .i64 0, .int .i64 0, .nilFunc, .int .i64 0, .int .i64 0, .nilFunc, .int .i64 0, .int .i64 0, .nilFunc, .int .i64 0, .int .i64 0, .nilFunc, .int .i64 0, .int .i64 0, .nilFunc, .int .i64 0, .int .i64 0, .nilFunc, .int .i64 0, .int .i64 0, .nilFunc, .int .i64 0, .int .i64 0, .nilFunc, .int .i64 0, .int .i64 0, .nilFunc, .int .i64 0, .int .i64 0, .nilFunc], 48, 384⟩
def ty288 : TyRow := ⟨288, .func #[] #[287] false, .nilFunc, 1, 8⟩
def ty289 : TyRow := ⟨289, .func #[286, 98] #[4] false, .nilFunc, 1, 8⟩
def ty290 : TyRow := ⟨290, .func #[53, 3] #[53, 34] false, .nilFunc, 1, 8⟩
def ty291 : TyRow := ⟨291, .func #[53] #[53, 34] false, .nilFunc, 1, 8⟩
def ty292 : TyRow := ⟨292, .pointer 294, .pointer none, 1, 8⟩
def ty293 : TyRow := ⟨293, .struct #[⟨"Thread", 53, 0, true, "", "", 0⟩, ⟨"self", 3, 13, false, "", "respite/local", 136⟩, ⟨"Instr", 98, 14, true, "", "", 144⟩], .agg #[.int .i64 0, .int .i64 0, .int .i64 0, .int .i64 0, .int .i64 0, .int .i64 0, .int .i64 0, .int .i64 0, .int .i64 0, .slice none 0 0, .int .i64 0, .int .i64 0, .slice none 0 0, .int .i64 0, .int .i64 0, .int .i64 0, .int .i64 0, .int .i64 0], 18, 176⟩
def ty294 : TyRow := ⟨294, .struct #[⟨"Thread", 53, 0, true, "", "", 0⟩, ⟨"self", 3, 13, false, "", "respite/local", 136⟩, ⟨"Instr", 98, 14, true, "", "", 144⟩], .agg #[.int .i64 0, .int .i64 0, .int .i64 0, .int .i64 0, .int .i64 0, .int .i64 0, .int .i64 0, .int .i64 0, .int .i64 0, .slice none 0 0, .int .i64 0, .int .i64 0, .slice none 0 0, .int .i64 0, .int .i64 0, .int .i64 0, .int .i64 0, .int .i64 0], 18, 176⟩
def ty295 : TyRow := ⟨295, .func #[29, 3, 3] #[3, 34] false, .nilFunc, 1, 8⟩
def ty296 : TyRow := ⟨296, .func #[29, 3, 3, 3] #[29, 34] false, .nilFunc, 1, 8⟩
def ty298 : TyRow := ⟨298, .func #[29, 3, 3, 3, 3, 3] #[29, 3, 34] false, .nilFunc, 1, 8⟩
def ty299 : TyRow := ⟨299, .func #[3] #[109] false, .nilFunc, 1, 8⟩
def ty300 : TyRow := ⟨300, .func #[30, 3, 53] #[30] false, .nilFunc, 1, 8⟩
def ty301 : TyRow := ⟨301, .func #[50, 3, 3] #[50] false, .nilFunc, 1, 8⟩
def ty302 : TyRow := ⟨302, .func #[27, 3, 170] #[27] false, .nilFunc, 1, 8⟩
def ty303 : TyRow := ⟨303, .int .i64, .int .i64 0, 1, 8⟩
def ty305 : TyRow := ⟨305, .func #[9, 3, 3] #[2, 87] false, .nilFunc, 1, 8⟩
def ty306 : TyRow := ⟨306, .pointer 328, .pointer none, 1, 8⟩
def ty307 : TyRow := ⟨307, .func #[9, 9] #[306] false, .nilFunc, 1, 8⟩
def ty308 : TyRow := ⟨308, .func #[9, 9, 3] #[306] false, .nilFunc, 1, 8⟩
def ty309 : TyRow := ⟨309, .func #[9] #[3] false, .nilFunc, 1, 8⟩
def ty311 : TyRow := ⟨311, .func #[9] #[21, 3] false, .nilFunc, 1, 8⟩
def ty312 : TyRow := ⟨312, .func #[279] #[3] false, .nilFunc, 1, 8⟩
def ty313 : TyRow := ⟨313, .func #[51] #[51] false, .nilFunc, 1, 8⟩
def ty314 : TyRow := ⟨314, .struct #[⟨"Tso", 29, 0, true, "", "", 0⟩], .agg #[.slice none 0 0, .slice none 0 0, .int .i64 0, .slice none 0 0], 4, 80⟩
def ty315 : TyRow := ⟨315, .struct #[⟨"Tso", 29, 0, true, "", "", 0⟩], .agg #[.slice none 0 0, .slice none 0 0, .int .i64 0, .slice none 0 0], 4, 80⟩
def ty316 : TyRow := ⟨316, .func #[170, 3] #[3, 4] false, .nilFunc, 1, 8⟩
def ty318 : TyRow := ⟨318, .func #[170, 3, 224] #[170, 34] false, .nilFunc, 1, 8⟩
def ty319 : TyRow := ⟨319, .func #[3, 170] #[] false, .nilFunc, 1, 8⟩
def ty320 : TyRow := ⟨320, .func #[3, 3, 3] #[3] false, .nilFunc, 1, 8⟩
def ty321 : TyRow := ⟨321, .array 3 320, .agg #[.nilFunc, .nilFunc, .nilFunc], 3, 24⟩
def ty322 : TyRow := ⟨322, .func #[] #[321] false, .nilFunc, 1, 8⟩
def ty323 : TyRow := ⟨323, .func #[170, 224] #[170] false, .nilFunc, 1, 8⟩
def ty325 : TyRow := ⟨325, .func #[9, 3, 3] #[252, 87] false, .nilFunc, 1, 8⟩
def ty326 : TyRow := ⟨326, .func #[9] #[9] false, .nilFunc, 1, 8⟩
def ty327 : TyRow := ⟨327, .struct #[⟨"Func", 9, 0, false, "", "", 0⟩, ⟨"Num", 9, 1, false, "", "", 16⟩, ⟨"Err", 87, 2, false, "", "", 32⟩], .agg #[.string .empty, .string .empty, .nilIface], 3, 48⟩
def ty328 : TyRow := ⟨328, .struct #[⟨"Func", 9, 0, false, "", "", 0⟩, ⟨"Num", 9, 1, false, "", "", 16⟩, ⟨"Err", 87, 2, false, "", "", 32⟩], .agg #[.string .empty, .string .empty, .nilIface], 3, 48⟩
def ty329 : TyRow := ⟨329, .func #[9] #[87] false, .nilFunc, 1, 8⟩
def ty330 : TyRow := ⟨330, .array 32 5, .agg #[.int .u8 0, .int .u8 0, .int .u8 0, .int .u8 0, .int .u8 0, .int .u8 0, .int .u8 0, .int .u8 0, .int .u8 0, .int .u8 0, .int .u8 0, .int .u8 0, .int .u8 0, .int .u8 0, .int .u8 0, .int .u8 0, .int .u8 0, .int .u8 0, .int .u8 0, .int .u8 0, .int .u8 0, .int .u8 0, .int .u8 0, .int .u8 0, .int .u8 0, .int .u8 0, .int .u8 0, .int .u8 0, .int .u8 0, .int .u8 0, .int .u8 0, .int .u8 0], 32, 32⟩
def ty331 : TyRow := ⟨331, .array 64 5, .agg #[.int .u8 0, .int .u8 0, .int .u8 0, .int .u8 0, .int .u8 0, .int .u8 0, .int .u8 0, .int .u8 0, .int .u8 0, .int .u8 0, .int .u8 0, .int .u8 0, .int .u8 0, .int .u8 0, .int .u8 0, .int .u8 0, .int .u8 0, .int .u8 0, .int .u8 0, .int .u8 0, .int .u8 0, .int .u8 0, .int .u8 0, .int .u8 0, .int .u8 0, .int .u8 0, .int .u8 0, .int .u8 0, .int .u8 0, .int .u8 0, .int .u8 0, .int .u8 0, .int .u8 0, .int .u8 0, .int .u8 0, .int .u8 0, .int .u8 0, .int .u8 0, .int .u8 0, .int .u8 0, .int .u8 0, .int .u8 0, .int .u8 0, .int .u8 0, .int .u8 0, .int .u8 0, .int .u8 0, .int .u8 0, .int .u8 0, .int .u8 0, .int .u8 0, .int .u8 0, .int .u8 0, .int .u8 0, .int .u8 0, .int .u8 0, .int .u8 0, .int .u8 0, .int .u8 0, .int .u8 0, .int .u8 0, .int .u8 0, .int .u8 0, .int .u8 0], 64, 64⟩
def ty332 : TyRow := ⟨332, .func #[] #[3] false, .nilFunc, 1, 8⟩
def ty333 : TyRow := ⟨333, .func #[347] #[] false, .nilFunc, 1, 8⟩
def ty334 : TyRow := ⟨334, .func #[347] #[] false, .nilFunc, 1, 8⟩
def ty335 : TyRow := ⟨335, .func #[170] #[334] false, .nilFunc, 1, 8⟩
def ty336 : TyRow := ⟨336, .pointer 315, .pointer none, 1, 8⟩
def ty337 : TyRow := ⟨337, .func #[5] #[5] false, .nilFunc, 1, 8⟩
def ty338 : TyRow := ⟨338, .pointer 340, .pointer none, 1, 8⟩
def ty339 : TyRow := ⟨339, .struct #[⟨"s", 9, 0, false, "", "errors", 0⟩], .agg #[.string .empty], 1, 16⟩
def ty340 : TyRow := ⟨340, .struct #[⟨"s", 9, 0, false, "", "errors", 0⟩], .agg #[.string .empty], 1, 16⟩
def ty341 : TyRow := ⟨341, .array 256 5, .agg #[.int .u8 0, .int .u8 0, .int .u8 0, .int .u8 0, .int .u8 0, .int .u8 0, .int .u8 0, .int .u8 0, .int .u8 0, .int .u8 0, .int .u8 0, .int .u8 0, .int .u8 0, .int .u8 0, .int .u8 0, .int .u8 0, .int .u8 0, .int .u8 0, .int .u8 0, .int .u8 0, .int .u8 0, .int .u8 0, .int .u8 0, .int .u8 0, .int .u8 0, .int .u8 0, .int .u8 0, .int .u8 0, .int .u8 0, .int .u8 0, .int .u8 0, .int .u8 0, .int .u8 0, .int .u8 0, .int .u8 0, .int .u8 0, .int .u8 0, .int .u8 0, .int .u8 0, .int .u8 0, .int .u8 0, .int .u8 0, .int .u8 0, .int .u8 0, .int .u8 0, .int .u8 0, .int .u8 0, .int .u8 0, .int .u8 0, .int .u8 0, .int .u8 0, .int .u8 0, .int .u8 0, .int .u8 0, .int .u8 0, .int .u8 0, .int .u8 0, .int .u8 0, .int .u8 0, .int .u8 0, .int .u8 0, .int .u8 0, .int .u8 0, .int .u8 0, .int .u8 0, .int .u8 0, .int .u8 0, .int .u8 0, .int .u8 0, .int .u8 0, .int .u8 0, .int .u8 0, .int .u8 0, .int .u8 0, .int .u8 0, .int .u8 0, .int .u8 0, .int .u8 0, .int .u8 0, .int .u8 0, .int .u8 0, .int .u8 0, .int .u8 0, .int .u8 0, .int .u8 0, .int .u8 0, .int .u8 0, .int .u8 0, .int .u8 0, .int .u8 0, .int .u8 0, .int .u8 0, .int .u8 0, .int .u8 0, .int .u8 0, .int .u8 0, .int .u8 0, .int .u8 0, .int .u8 0, .int .u8 0, .int .u8 0, .int .u8 0, .int .u8 0, .int .u8 0, .int .u8 0, .int .u8 0, .int .u8 0, .int .u8 0, .int .u8 0, .int .u8 0, .int .u8 0, .int .u8 0, .int .u8 0, .int .u8 0, .int .u8 0, .int .u8 0, .int .u8 0, .int .u8 0, .int .u8 0, .int .u8 0, .int .u8 0, .int .u8 0, .int .u8 0, .int .u8 0, .int .u8 0, .int .u8 0, .int .u8 0, .int .u8 0, .int .u8 0, .int .u8 0, .int .u8 0, .int .u8 0, .int .u8 0, .int .u8 0, .int .u8 0, .int .u8 0, .int .u8 0, .int .u8 0, .int .u8 0, .int .u8 0, .int .u8 0, .int .u8 0, .int .u8 0, .int .u8 0, .int .u8 0, .int .u8 0, .int .u8 0, .int .u8 0, .int .u8 0, .int .u8 0, .int .u8 0, .int .u8 0, .int .u8 0, .int .u8 0, .int .u8 0, .int .u8 0, .int .u8 0, .int .u8 0, .int .u8 0, .int .u8 0, .int .u8 0, .int .u8 0, .int .u8 0, .int .u8 0, .int .u8 0, .int .u8 0, .int .u8 0, .int .u8 0, .int .u8 0, .int .u8 0, .int .u8 0, .int .u8 0, .int .u8 0, .int .u8 0, .int .u8 0, .int .u8 0, .int .u8 0, .int .u8 0, .int .u8 0, .int .u8 0, .int .u8 0, .int .u8 0, .int .u8 0, .int .u8 0, .int .u8 0, .int .u8 0, .int .u8 0, .int .u8 0, .int .u8 0, .int .u8 0, .int .u8 0, .int .u8 0, .int .u8 0, .int .u8 0, .int .u8 0, .int .u8 0, .int .u8 0, .int .u8 0, .int .u8 0, .int .u8 0, .int .u8 0, .int .u8 0, .int .u8 0, .int .u8 0, .int .u8 0, .int .u8 0, .int .u8 0, .int .u8 0, .int .u8 0, .int .u8 0, .int .u8 0, .int .u8 0, .int .u8 0, .int .u8 0, .int .u8 0, .int .u8 0, .int .u8 0, .int .u8 0, .int .u8 0, .int .u8 0, .int .u8 0, .int .u8 0, .int .u8 0, .int .u8 0, .int .u8 0, .int .u8 0, .int .u8 0, .int .u8 0, .int .u8 0, .int .u8 0, .int .u8 0, .int .u8 0, .int .u8 0, .int .u8 0, .int .u8 0, .int .u8 0, .int .u8 0, .int .u8 0, .int .u8 0, .int .u8 0, .int .u8 0, .int .u8 0, .int .u8 0, .int .u8 0, .int .u8 0, .int .u8 0, .int .u8 0, .int .u8 0, .int .u8 0, .int .u8 0, .int .u8 0, .int .u8 0, .int .u8 0, .int .u8 0, .int .u8 0, .int .u8 0], 256, 256⟩
def ty342 : TyRow := ⟨342, .struct #[⟨"lo", 5, 0, false, "", "unicode/utf8", 0⟩, ⟨"hi", 5, 1, false, "", "unicode/utf8", 1⟩], .agg #[.int .u8 0, .int .u8 0], 2, 2⟩
def ty343 : TyRow := ⟨343, .struct #[⟨"lo", 5, 0, false, "", "unicode/utf8", 0⟩, ⟨"hi", 5, 1, false, "", "unicode/utf8", 1⟩], .agg #[.int .u8 0, .int .u8 0], 2, 2⟩
def ty344 : TyRow := ⟨344, .array 16 343, .agg #[.int .u8 0, .int .u8 0, .int .u8 0, .int .u8 0, .int .u8 0, .int .u8 0, .int .u8 0, .int .u8 0, .int .u8 0, .int .u8 0, .int .u8 0, .int .u8 0, .int .u8 0, .int .u8 0, .int .u8 0, .int .u8 0, .int .u8 0, .int .u8 0, .int .u8 0, .int .u8 0, .int .u8 0, .int .u8 0, .int .u8 0, .int .u8 0, .int .u8 0, .int .u8 0, .int .u8 0, .int .u8 0, .int .u8 0, .int .u8 0, .int .u8 0, .int .u8 0], 32, 32⟩
def ty346 : TyRow := ⟨346, .func #[9] #[279, 279] false, .nilFunc, 1, 8⟩
def ty347 : TyRow := ⟨347, .func #[3, 224] #[4] false, .nilFunc, 1, 8⟩
def ty348 : TyRow := ⟨348, .struct #[⟨"_interface", 17, 0, false, "", "runtime", 0⟩, ⟨"concrete", 17, 1, false, "", "runtime", 8⟩, ⟨"asserted", 17, 2, false, "", "runtime", 16⟩, ⟨"missingMethod", 9, 3, false, "", "runtime", 24⟩], .agg #[.pointer none, .pointer none, .pointer none, .string .empty], 4, 40⟩
def ty349 : TyRow := ⟨349, .struct #[⟨"_interface", 17, 0, false, "", "runtime", 0⟩, ⟨"concrete", 17, 1, false, "", "runtime", 8⟩, ⟨"asserted", 17, 2, false, "", "runtime", 16⟩, ⟨"missingMethod", 9, 3, false, "", "runtime", 24⟩], .agg #[.pointer none, .pointer none, .pointer none, .string .empty], 4, 40⟩
def ty350 : TyRow := ⟨350, .array 0 16, .agg #[], 0, 0⟩
def ty351 : TyRow := ⟨351, .struct #[⟨"_", 350, 0, false, "", "runtime", 0⟩], .agg #[], 0, 0⟩
def ty352 : TyRow := ⟨352, .struct #[⟨"_", 350, 0, false, "", "runtime", 0⟩], .agg #[], 0, 0⟩
def ty353 : TyRow := ⟨353, .func #[] #[17] false, .nilFunc, 1, 8⟩
def ty354 : TyRow := ⟨354, .int .u8, .int .u8 0, 1, 1⟩
def ty355 : TyRow := ⟨355, .func #[149, 149] #[4] false, .nilFunc, 1, 8⟩
def ty356 : TyRow := ⟨356, .int .i32, .int .i32 0, 1, 4⟩
def ty357 : TyRow := ⟨357, .int .i32, .int .i32 0, 1, 4⟩
def ty358 : TyRow := ⟨358, .struct #[⟨"Size_", 12, 0, false, "", "", 0⟩, ⟨"PtrBytes", 12, 1, false, "", "", 8⟩, ⟨"Hash", 279, 2, false, "", "", 16⟩, ⟨"TFlag", 354, 3, false, "", "", 20⟩, ⟨"Align_", 5, 4, false, "", "", 21⟩, ⟨"FieldAlign_", 5, 5, false, "", "", 22⟩, ⟨"Kind_", 157, 6, false, "", "", 23⟩, ⟨"Equal", 355, 7, false, "", "", 24⟩, ⟨"GCData", 173, 8, false, "", "", 32⟩, ⟨"Str", 356, 9, false, "", "", 40⟩, ⟨"PtrToThis", 357, 10, false, "", "", 44⟩], .agg #[.int .u64 0, .int .u64 0, .int .u32 0, .int .u8 0, .int .u8 0, .int .u8 0, .int .u8 0, .nilFunc, .pointer none, .int .i32 0, .int .i32 0], 11, 48⟩
def ty359 : TyRow := ⟨359, .struct #[⟨"Size_", 12, 0, false, "", "", 0⟩, ⟨"PtrBytes", 12, 1, false, "", "", 8⟩, ⟨"Hash", 279, 2, false, "", "", 16⟩, ⟨"TFlag", 354, 3, false, "", "", 20⟩, ⟨"Align_", 5, 4, false, "", "", 21⟩, ⟨"FieldAlign_", 5, 5, false, "", "", 22⟩, ⟨"Kind_", 157, 6, false, "", "", 23⟩, ⟨"Equal", 355, 7, false, "", "", 24⟩, ⟨"GCData", 173, 8, false, "", "", 32⟩, ⟨"Str", 356, 9, false, "", "", 40⟩, ⟨"PtrToThis", 357, 10, false, "", "", 44⟩], .agg #[.int .u64 0, .int .u64 0, .int .u32 0, .int .u8 0, .int .u8 0, .int .u8 0, .int .u8 0, .nilFunc, .pointer none, .int .i32 0, .int .i32 0], 11, 48⟩
def ty360 : TyRow := ⟨360, .func #[] #[12] false, .nilFunc, 1, 8⟩
def ty361 : TyRow := ⟨361, .func #[] #[364] false, .nilFunc, 1, 8⟩
def ty362 : TyRow := ⟨362, .struct #[⟨"Method", 9, 0, false, "", "", 0⟩, ⟨"Kind", 157, 1, false, "", "", 16⟩], .agg #[.string .empty, .int .u8 0], 2, 24⟩
def ty363 : TyRow := ⟨363, .struct #[⟨"Method", 9, 0, false, "", "", 0⟩, ⟨"Kind", 157, 1, false, "", "", 16⟩], .agg #[.string .empty, .int .u8 0], 2, 24⟩
def ty364 : TyRow := ⟨364, .pointer 368, .pointer none, 1, 8⟩
def ty365 : TyRow := ⟨365, .func #[] #[369] false, .nilFunc, 1, 8⟩
def ty366 : TyRow := ⟨366, .int .u16, .int .u16 0, 1, 2⟩
def ty367 : TyRow := ⟨367, .struct #[⟨"PkgPath", 356, 0, false, "", "", 0⟩, ⟨"Mcount", 366, 1, false, "", "", 4⟩, ⟨"Xcount", 366, 2, false, "", "", 6⟩, ⟨"Moff", 279, 3, false, "", "", 8⟩, ⟨"_", 279, 4, false, "", "internal/abi", 12⟩], .agg #[.int .i32 0, .int .u16 0, .int .u16 0, .int .u32 0, .int .u32 0], 5, 16⟩
def ty368 : TyRow := ⟨368, .struct #[⟨"PkgPath", 356, 0, false, "", "", 0⟩, ⟨"Mcount", 366, 1, false, "", "", 4⟩, ⟨"Xcount", 366, 2, false, "", "", 6⟩, ⟨"Moff", 279, 3, false, "", "", 8⟩, ⟨"_", 279, 4, false, "", "internal/abi", 12⟩], .agg #[.int .i32 0, .int .u16 0, .int .u16 0, .int .u32 0, .int .u32 0], 5, 16⟩
def ty369 : TyRow := ⟨369, .slice 372, .slice none 0 0, 1, 24⟩
def ty370 : TyRow := ⟨370, .int .i32, .int .i32 0, 1, 4⟩
def ty371 : TyRow := ⟨371, .struct #[⟨"Name", 356, 0, false, "", "", 0⟩, ⟨"Mtyp", 357, 1, false, "", "", 4⟩, ⟨"Ifn", 370, 2, false, "", "", 8⟩, ⟨"Tfn", 370, 3, false, "", "", 12⟩], .agg #[.int .i32 0, .int .i32 0, .int .i32 0, .int .i32 0], 4, 16⟩
def ty372 : TyRow := ⟨372, .struct #[⟨"Name", 356, 0, false, "", "", 0⟩, ⟨"Mtyp", 357, 1, false, "", "", 4⟩, ⟨"Ifn", 370, 2, false, "", "", 8⟩, ⟨"Tfn", 370, 3, false, "", "", 12⟩], .agg #[.int .i32 0, .int .i32 0, .int .i32 0, .int .i32 0], 4, 16⟩
def ty373 : TyRow := ⟨373, .pointer 87, .pointer none, 1, 8⟩
theorem ty1_ok : ty1.ok Tryz.prog := ⟨by kernel_rfl, by kernel_rfl⟩
theorem ty2_ok : ty2.ok Tryz.prog := ⟨Tryz.underlying2, by kernel_rfl⟩
theorem ty3_ok : ty3.ok Tryz.prog := ⟨Tryz.underlying3, by kernel_rfl⟩
theorem ty4_ok : ty4.ok Tryz.prog := ⟨Tryz.underlying4, by kernel_rfl⟩
theorem ty5_ok : ty5.ok Tryz.prog := ⟨Tryz.underlying5, by kernel_rfl⟩
theorem ty6_ok : ty6.ok Tryz.prog := ⟨Tryz.underlying6, by kernel_rfl⟩
theorem ty7_ok : ty7.ok Tryz.prog := ⟨Tryz.underlying7, by kernel_rfl⟩
theorem ty8_ok : ty8.ok Tryz.prog := ⟨Tryz.underlying8, by kernel_rfl⟩
theorem ty9_ok : ty9.ok Tryz.prog := ⟨Tryz.underlying9, by kernel_rfl⟩
theorem ty10_ok : ty10.ok Tryz.prog := ⟨Tryz.underlying10, by kernel_rfl⟩
theorem ty11_ok : ty11.ok Tryz.prog := ⟨Tryz.underlying11, by kernel_rfl⟩
theorem ty12_ok : ty12.ok Tryz.prog := ⟨Tryz.underlying12, by kernel_rfl⟩
theorem ty13_ok : ty13.ok Tryz.prog := ⟨Tryz.underlying13, by kernel_rfl⟩
theorem ty14_ok : ty14.ok Tryz.prog := ⟨Tryz.underlying14, by kernel_rfl⟩
theorem ty15_ok : ty15.ok Tryz.prog := ⟨Tryz.underlying15, by kernel_rfl⟩
theorem ty16_ok : ty16.ok Tryz.prog := ⟨Tryz.underlying16, by kernel_rfl⟩
theorem ty17_ok : ty17.ok Tryz.prog := ⟨Tryz.underlying17, by kernel_rfl⟩
theorem ty18_ok : ty18.ok Tryz.prog := ⟨Tryz.underlying18, by kernel_rfl⟩
theorem ty19_ok : ty19.ok Tryz.prog := ⟨Tryz.underlying19, by kernel_rfl⟩
theorem ty20_ok : ty20.ok Tryz.prog := ⟨Tryz.underlying20, by kernel_rfl⟩
theorem ty21_ok : ty21.ok Tryz.prog := ⟨Tryz.underlying21, by kernel_rfl⟩
theorem ty22_ok : ty22.ok Tryz.prog := ⟨Tryz.underlying22, by kernel_rfl⟩
theorem ty23_ok : ty23.ok Tryz.prog := ⟨Tryz.underlying23, by kernel_rfl⟩
theorem ty24_ok : ty24.ok Tryz.prog := ⟨Tryz.underlying24, by kernel_rfl⟩
theorem ty25_ok : ty25.ok Tryz.prog := ⟨Tryz.underlying25, by kernel_rfl⟩
theorem ty26_ok : ty26.ok Tryz.prog := ⟨Tryz.underlying26, by kernel_rfl⟩
theorem ty27_ok : ty27.ok Tryz.prog := ⟨Tryz.underlying27, by kernel_rfl⟩
theorem ty28_ok : ty28.ok Tryz.prog := ⟨Tryz.underlying28, by kernel_rfl⟩
theorem ty29_ok : ty29.ok Tryz.prog := ⟨Tryz.underlying29, by kernel_rfl⟩
theorem ty30_ok : ty30.ok Tryz.prog := ⟨Tryz.underlying30, by kernel_rfl⟩
theorem ty31_ok : ty31.ok Tryz.prog := ⟨Tryz.underlying31, by kernel_rfl⟩
theorem ty32_ok : ty32.ok Tryz.prog := ⟨Tryz.underlying32, by kernel_rfl⟩
theorem ty33_ok : ty33.ok Tryz.prog := ⟨Tryz.underlying33, by kernel_rfl⟩
theorem ty34_ok : ty34.ok Tryz.prog := ⟨Tryz.underlying34, by kernel_rfl⟩
theorem ty36_ok : ty36.ok Tryz.prog := ⟨by kernel_rfl, by kernel_rfl⟩
theorem ty38_ok : ty38.ok Tryz.prog := ⟨by kernel_rfl, by kernel_rfl⟩
theorem ty40_ok : ty40.ok Tryz.prog := ⟨by kernel_rfl, by kernel_rfl⟩
theorem ty41_ok : ty41.ok Tryz.prog := ⟨by kernel_rfl, by kernel_rfl⟩
theorem ty42_ok : ty42.ok Tryz.prog := ⟨by kernel_rfl, by kernel_rfl⟩
theorem ty43_ok : ty43.ok Tryz.prog := ⟨by kernel_rfl, by kernel_rfl⟩
theorem ty44_ok : ty44.ok Tryz.prog := ⟨by kernel_rfl, by kernel_rfl⟩
theorem ty45_ok : ty45.ok Tryz.prog := ⟨by kernel_rfl, by kernel_rfl⟩
theorem ty46_ok : ty46.ok Tryz.prog := ⟨Tryz.underlying46, by kernel_rfl⟩
theorem ty47_ok : ty47.ok Tryz.prog := ⟨by kernel_rfl, by kernel_rfl⟩
theorem ty49_ok : ty49.ok Tryz.prog := ⟨by kernel_rfl, by kernel_rfl⟩
theorem ty50_ok : ty50.ok Tryz.prog := ⟨Tryz.underlying50, by kernel_rfl⟩
theorem ty51_ok : ty51.ok Tryz.prog := ⟨Tryz.underlying51, by kernel_rfl⟩
theorem ty52_ok : ty52.ok Tryz.prog := ⟨Tryz.underlying52, by kernel_rfl⟩
theorem ty53_ok : ty53.ok Tryz.prog := ⟨Tryz.underlying53, by kernel_rfl⟩
theorem ty54_ok : ty54.ok Tryz.prog := ⟨by kernel_rfl, by kernel_rfl⟩
theorem ty55_ok : ty55.ok Tryz.prog := ⟨Tryz.underlying55, by kernel_rfl⟩
theorem ty56_ok : ty56.ok Tryz.prog := ⟨Tryz.underlying56, by kernel_rfl⟩
theorem ty57_ok : ty57.ok Tryz.prog := ⟨Tryz.underlying57, by kernel_rfl⟩
theorem ty58_ok : ty58.ok Tryz.prog := ⟨Tryz.underlying58, by kernel_rfl⟩
theorem ty59_ok : ty59.ok Tryz.prog := ⟨Tryz.underlying59, by kernel_rfl⟩
theorem ty60_ok : ty60.ok Tryz.prog := ⟨by kernel_rfl, by kernel_rfl⟩
theorem ty61_ok : ty61.ok Tryz.prog := ⟨by kernel_rfl, by kernel_rfl⟩
theorem ty62_ok : ty62.ok Tryz.prog := ⟨by kernel_rfl, by kernel_rfl⟩
theorem ty63_ok : ty63.ok Tryz.prog := ⟨by kernel_rfl, by kernel_rfl⟩
theorem ty64_ok : ty64.ok Tryz.prog := ⟨by kernel_rfl, by kernel_rfl⟩
theorem ty66_ok : ty66.ok Tryz.prog := ⟨by kernel_rfl, by kernel_rfl⟩
theorem ty67_ok : ty67.ok Tryz.prog := ⟨by kernel_rfl, by kernel_rfl⟩
theorem ty68_ok : ty68.ok Tryz.prog := ⟨by kernel_rfl, by kernel_rfl⟩
theorem ty69_ok : ty69.ok Tryz.prog := ⟨by kernel_rfl, by kernel_rfl⟩
theorem ty70_ok : ty70.ok Tryz.prog := ⟨by kernel_rfl, by kernel_rfl⟩
theorem ty71_ok : ty71.ok Tryz.prog := ⟨Tryz.underlying71, by kernel_rfl⟩
theorem ty73_ok : ty73.ok Tryz.prog := ⟨by kernel_rfl, by kernel_rfl⟩
theorem ty74_ok : ty74.ok Tryz.prog := ⟨by kernel_rfl, by kernel_rfl⟩
theorem ty76_ok : ty76.ok Tryz.prog := ⟨by kernel_rfl, by kernel_rfl⟩
theorem ty77_ok : ty77.ok Tryz.prog := ⟨by kernel_rfl, by kernel_rfl⟩
theorem ty78_ok : ty78.ok Tryz.prog := ⟨by kernel_rfl, by kernel_rfl⟩
theorem ty80_ok : ty80.ok Tryz.prog := ⟨by kernel_rfl, by kernel_rfl⟩
theorem ty82_ok : ty82.ok Tryz.prog := ⟨by kernel_rfl, by kernel_rfl⟩
theorem ty83_ok : ty83.ok Tryz.prog := ⟨by kernel_rfl, by kernel_rfl⟩
theorem ty84_ok : ty84.ok Tryz.prog := ⟨by kernel_rfl, by kernel_rfl⟩
theorem ty85_ok : ty85.ok Tryz.prog := ⟨by kernel_rfl, by kernel_rfl⟩
theorem ty86_ok : ty86.ok Tryz.prog := ⟨Tryz.underlying86, by kernel_rfl⟩
theorem ty87_ok : ty87.ok Tryz.prog := ⟨Tryz.underlying87, by kernel_rfl⟩
theorem ty89_ok : ty89.ok Tryz.prog := ⟨by kernel_rfl, by kernel_rfl⟩
theorem ty90_ok : ty90.ok Tryz.prog := ⟨Tryz.underlying90, by kernel_rfl⟩
theorem ty91_ok : ty91.ok Tryz.prog := ⟨Tryz.underlying91, by kernel_rfl⟩
theorem ty92_ok : ty92.ok Tryz.prog := ⟨by kernel_rfl, by kernel_rfl⟩
theorem ty93_ok : ty93.ok Tryz.prog := ⟨Tryz.underlying93, by kernel_rfl⟩
theorem ty94_ok : ty94.ok Tryz.prog := ⟨by kernel_rfl, by kernel_rfl⟩
theorem ty95_ok : ty95.ok Tryz.prog := ⟨by kernel_rfl, by kernel_rfl⟩
theorem ty96_ok : ty96.ok Tryz.prog := ⟨by kernel_rfl, by kernel_rfl⟩
theorem ty97_ok : ty97.ok Tryz.prog := ⟨Tryz.underlying97, by kernel_rfl⟩
theorem ty98_ok : ty98.ok Tryz.prog := ⟨Tryz.underlying98, by kernel_rfl⟩
theorem ty100_ok : ty100.ok Tryz.prog := ⟨by kernel_rfl, by kernel_rfl⟩
theorem ty102_ok : ty102.ok Tryz.prog := ⟨by kernel_rfl, by kernel_rfl⟩
theorem ty103_ok : ty103.ok Tryz.prog := ⟨by kernel_rfl, by kernel_rfl⟩
theorem ty104_ok : ty104.ok Tryz.prog := ⟨by kernel_rfl, by kernel_rfl⟩
theorem ty105_ok : ty105.ok Tryz.prog := ⟨by kernel_rfl, by kernel_rfl⟩
theorem ty106_ok : ty106.ok Tryz.prog := ⟨by kernel_rfl, by kernel_rfl⟩
theorem ty107_ok : ty107.ok Tryz.prog := ⟨by kernel_rfl, by kernel_rfl⟩
theorem ty108_ok : ty108.ok Tryz.prog := ⟨Tryz.underlying108, by kernel_rfl⟩
theorem ty109_ok : ty109.ok Tryz.prog := ⟨Tryz.underlying109, by kernel_rfl⟩
theorem ty110_ok : ty110.ok Tryz.prog := ⟨Tryz.underlying110, by kernel_rfl⟩
theorem ty111_ok : ty111.ok Tryz.prog := ⟨Tryz.underlying111, by kernel_rfl⟩
theorem ty113_ok : ty113.ok Tryz.prog := ⟨by kernel_rfl, by kernel_rfl⟩
theorem ty114_ok : ty114.ok Tryz.prog := ⟨by kernel_rfl, by kernel_rfl⟩
theorem ty115_ok : ty115.ok Tryz.prog := ⟨by kernel_rfl, by kernel_rfl⟩
theorem ty116_ok : ty116.ok Tryz.prog := ⟨by kernel_rfl, by kernel_rfl⟩
theorem ty117_ok : ty117.ok Tryz.prog := ⟨Tryz.underlying117, by kernel_rfl⟩
theorem ty118_ok : ty118.ok Tryz.prog := ⟨Tryz.underlying118, by kernel_rfl⟩
theorem ty119_ok : ty119.ok Tryz.prog := ⟨Tryz.underlying119, by kernel_rfl⟩
theorem ty120_ok : ty120.ok Tryz.prog := ⟨by kernel_rfl, by kernel_rfl⟩
theorem ty121_ok : ty121.ok Tryz.prog := ⟨by kernel_rfl, by kernel_rfl⟩
theorem ty122_ok : ty122.ok Tryz.prog := ⟨by kernel_rfl, by kernel_rfl⟩
theorem ty123_ok : ty123.ok Tryz.prog := ⟨by kernel_rfl, by kernel_rfl⟩
theorem ty124_ok : ty124.ok Tryz.prog := ⟨by kernel_rfl, by kernel_rfl⟩
theorem ty125_ok : ty125.ok Tryz.prog := ⟨by kernel_rfl, by kernel_rfl⟩
theorem ty126_ok : ty126.ok Tryz.prog := ⟨Tryz.underlying126, by kernel_rfl⟩
theorem ty127_ok : ty127.ok Tryz.prog := ⟨Tryz.underlying127, by kernel_rfl⟩
theorem ty128_ok : ty128.ok Tryz.prog := ⟨by kernel_rfl, by kernel_rfl⟩
theorem ty129_ok : ty129.ok Tryz.prog := ⟨by kernel_rfl, by kernel_rfl⟩
theorem ty130_ok : ty130.ok Tryz.prog := ⟨by kernel_rfl, by kernel_rfl⟩
theorem ty131_ok : ty131.ok Tryz.prog := ⟨Tryz.underlying131, by kernel_rfl⟩
theorem ty132_ok : ty132.ok Tryz.prog := ⟨Tryz.underlying132, by kernel_rfl⟩
theorem ty133_ok : ty133.ok Tryz.prog := ⟨Tryz.underlying133, by kernel_rfl⟩
theorem ty134_ok : ty134.ok Tryz.prog := ⟨by kernel_rfl, by kernel_rfl⟩
theorem ty135_ok : ty135.ok Tryz.prog := ⟨by kernel_rfl, by kernel_rfl⟩
theorem ty136_ok : ty136.ok Tryz.prog := ⟨by kernel_rfl, by kernel_rfl⟩
theorem ty137_ok : ty137.ok Tryz.prog := ⟨by kernel_rfl, by kernel_rfl⟩
theorem ty138_ok : ty138.ok Tryz.prog := ⟨Tryz.underlying138, by kernel_rfl⟩
theorem ty139_ok : ty139.ok Tryz.prog := ⟨Tryz.underlying139, by kernel_rfl⟩
theorem ty140_ok : ty140.ok Tryz.prog := ⟨by kernel_rfl, by kernel_rfl⟩
theorem ty141_ok : ty141.ok Tryz.prog := ⟨Tryz.underlying141, by kernel_rfl⟩
theorem ty142_ok : ty142.ok Tryz.prog := ⟨by kernel_rfl, by kernel_rfl⟩
theorem ty143_ok : ty143.ok Tryz.prog := ⟨by kernel_rfl, by kernel_rfl⟩
theorem ty144_ok : ty144.ok Tryz.prog := ⟨by kernel_rfl, by kernel_rfl⟩
theorem ty145_ok : ty145.ok Tryz.prog := ⟨by kernel_rfl, by kernel_rfl⟩
theorem ty147_ok : ty147.ok Tryz.prog := ⟨by kernel_rfl, by kernel_rfl⟩
theorem ty148_ok : ty148.ok Tryz.prog := ⟨by kernel_rfl, by kernel_rfl⟩
theorem ty150_ok : ty150.ok Tryz.prog := ⟨Tryz.underlying150, by kernel_rfl⟩
theorem ty151_ok : ty151.ok Tryz.prog := ⟨Tryz.underlying151, by kernel_rfl⟩
theorem ty152_ok : ty152.ok Tryz.prog := ⟨Tryz.underlying152, by kernel_rfl⟩
theorem ty153_ok : ty153.ok Tryz.prog := ⟨by kernel_rfl, by kernel_rfl⟩
theorem ty154_ok : ty154.ok Tryz.prog := ⟨Tryz.underlying154, by kernel_rfl⟩
theorem ty155_ok : ty155.ok Tryz.prog := ⟨Tryz.underlying155, by kernel_rfl⟩
theorem ty156_ok : ty156.ok Tryz.prog := ⟨by kernel_rfl, by kernel_rfl⟩
theorem ty157_ok : ty157.ok Tryz.prog := ⟨Tryz.underlying157, by kernel_rfl⟩
theorem ty158_ok : ty158.ok Tryz.prog := ⟨by kernel_rfl, by kernel_rfl⟩
theorem ty159_ok : ty159.ok Tryz.prog := ⟨by kernel_rfl, by kernel_rfl⟩
theorem ty160_ok : ty160.ok Tryz.prog := ⟨by kernel_rfl, by kernel_rfl⟩
theorem ty161_ok : ty161.ok Tryz.prog := ⟨by kernel_rfl, by kernel_rfl⟩
theorem ty163_ok : ty163.ok Tryz.prog := ⟨by kernel_rfl, by kernel_rfl⟩
theorem ty164_ok : ty164.ok Tryz.prog := ⟨by kernel_rfl, by kernel_rfl⟩
theorem ty166_ok : ty166.ok Tryz.prog := ⟨by kernel_rfl, by kernel_rfl⟩
theorem ty167_ok : ty167.ok Tryz.prog := ⟨Tryz.underlying167, by kernel_rfl⟩
theorem ty168_ok : ty168.ok Tryz.prog := ⟨Tryz.underlying168, by kernel_rfl⟩
theorem ty169_ok : ty169.ok Tryz.prog := ⟨by kernel_rfl, by kernel_rfl⟩
theorem ty170_ok : ty170.ok Tryz.prog := ⟨Tryz.underlying170, by kernel_rfl⟩
theorem ty171_ok : ty171.ok Tryz.prog := ⟨by kernel_rfl, by kernel_rfl⟩
theorem ty172_ok : ty172.ok Tryz.prog := ⟨Tryz.underlying172, by kernel_rfl⟩
theorem ty173_ok : ty173.ok Tryz.prog := ⟨Tryz.underlying173, by kernel_rfl⟩
theorem ty174_ok : ty174.ok Tryz.prog := ⟨by kernel_rfl, by kernel_rfl⟩
theorem ty175_ok : ty175.ok Tryz.prog := ⟨by kernel_rfl, by kernel_rfl⟩
theorem ty176_ok : ty176.ok Tryz.prog := ⟨by kernel_rfl, by kernel_rfl⟩
theorem ty178_ok : ty178.ok Tryz.prog := ⟨by kernel_rfl, by kernel_rfl⟩
theorem ty179_ok : ty179.ok Tryz.prog := ⟨by kernel_rfl, by kernel_rfl⟩
theorem ty180_ok : ty180.ok Tryz.prog := ⟨by kernel_rfl, by kernel_rfl⟩
theorem ty181_ok : ty181.ok Tryz.prog := ⟨by kernel_rfl, by kernel_rfl⟩
theorem ty182_ok : ty182.ok Tryz.prog := ⟨by kernel_rfl, by kernel_rfl⟩
theorem ty183_ok : ty183.ok Tryz.prog := ⟨by kernel_rfl, by kernel_rfl⟩
theorem ty184_ok : ty184.ok Tryz.prog := ⟨by kernel_rfl, by kernel_rfl⟩
theorem ty185_ok : ty185.ok Tryz.prog := ⟨Tryz.underlying185, by kernel_rfl⟩
theorem ty186_ok : ty186.ok Tryz.prog := ⟨by kernel_rfl, by kernel_rfl⟩
theorem ty187_ok : ty187.ok Tryz.prog := ⟨by kernel_rfl, by kernel_rfl⟩
theorem ty188_ok : ty188.ok Tryz.prog := ⟨by kernel_rfl, by kernel_rfl⟩
theorem ty189_ok : ty189.ok Tryz.prog := ⟨by kernel_rfl, by kernel_rfl⟩
theorem ty190_ok : ty190.ok Tryz.prog := ⟨by kernel_rfl, by kernel_rfl⟩
theorem ty191_ok : ty191.ok Tryz.prog := ⟨by kernel_rfl, by kernel_rfl⟩
theorem ty192_ok : ty192.ok Tryz.prog := ⟨by kernel_rfl, by kernel_rfl⟩
theorem ty193_ok : ty193.ok Tryz.prog := ⟨by kernel_rfl, by kernel_rfl⟩
theorem ty194_ok : ty194.ok Tryz.prog := ⟨by kernel_rfl, by kernel_rfl⟩
theorem ty195_ok : ty195.ok Tryz.prog := ⟨by kernel_rfl, by kernel_rfl⟩
theorem ty196_ok : ty196.ok Tryz.prog := ⟨by kernel_rfl, by kernel_rfl⟩
theorem ty197_ok : ty197.ok Tryz.prog := ⟨Tryz.underlying197, by kernel_rfl⟩
theorem ty198_ok : ty198.ok Tryz.prog := ⟨Tryz.underlying198, by kernel_rfl⟩
theorem ty199_ok : ty199.ok Tryz.prog := ⟨Tryz.underlying199, by kernel_rfl⟩
theorem ty200_ok : ty200.ok Tryz.prog := ⟨by kernel_rfl, by kernel_rfl⟩
theorem ty201_ok : ty201.ok Tryz.prog := ⟨by kernel_rfl, by kernel_rfl⟩
theorem ty202_ok : ty202.ok Tryz.prog := ⟨by kernel_rfl, by kernel_rfl⟩
theorem ty203_ok : ty203.ok Tryz.prog := ⟨Tryz.underlying203, by kernel_rfl⟩
theorem ty204_ok : ty204.ok Tryz.prog := ⟨by kernel_rfl, by kernel_rfl⟩
theorem ty205_ok : ty205.ok Tryz.prog := ⟨Tryz.underlying205, by kernel_rfl⟩
theorem ty206_ok : ty206.ok Tryz.prog := ⟨Tryz.underlying206, by kernel_rfl⟩
theorem ty207_ok : ty207.ok Tryz.prog := ⟨Tryz.underlying207, by kernel_rfl⟩
theorem ty208_ok : ty208.ok Tryz.prog := ⟨by kernel_rfl, by kernel_rfl⟩
theorem ty209_ok : ty209.ok Tryz.prog := ⟨by kernel_rfl, by kernel_rfl⟩
theorem ty210_ok : ty210.ok Tryz.prog := ⟨by kernel_rfl, by kernel_rfl⟩
theorem ty211_ok : ty211.ok Tryz.prog := ⟨Tryz.underlying211, by kernel_rfl⟩
theorem ty213_ok : ty213.ok Tryz.prog := ⟨by kernel_rfl, by kernel_rfl⟩
theorem ty214_ok : ty214.ok Tryz.prog := ⟨Tryz.underlying214, by kernel_rfl⟩
theorem ty215_ok : ty215.ok Tryz.prog := ⟨by kernel_rfl, by kernel_rfl⟩
theorem ty216_ok : ty216.ok Tryz.prog := ⟨Tryz.underlying216, by kernel_rfl⟩
theorem ty217_ok : ty217.ok Tryz.prog := ⟨Tryz.underlying217, by kernel_rfl⟩
theorem ty218_ok : ty218.ok Tryz.prog := ⟨by kernel_rfl, by kernel_rfl⟩
theorem ty219_ok : ty219.ok Tryz.prog := ⟨by kernel_rfl, by kernel_rfl⟩
theorem ty220_ok : ty220.ok Tryz.prog := ⟨by kernel_rfl, by kernel_rfl⟩
theorem ty221_ok : ty221.ok Tryz.prog := ⟨by kernel_rfl, by kernel_rfl⟩
theorem ty222_ok : ty222.ok Tryz.prog := ⟨by kernel_rfl, by kernel_rfl⟩
theorem ty223_ok : ty223.ok Tryz.prog := ⟨Tryz.underlying223, by kernel_rfl⟩
theorem ty224_ok : ty224.ok Tryz.prog := ⟨Tryz.underlying224, by kernel_rfl⟩
theorem ty225_ok : ty225.ok Tryz.prog := ⟨by kernel_rfl, by kernel_rfl⟩
theorem ty226_ok : ty226.ok Tryz.prog := ⟨by kernel_rfl, by kernel_rfl⟩
theorem ty227_ok : ty227.ok Tryz.prog := ⟨by kernel_rfl, by kernel_rfl⟩
theorem ty228_ok : ty228.ok Tryz.prog := ⟨by kernel_rfl, by kernel_rfl⟩
theorem ty229_ok : ty229.ok Tryz.prog := ⟨by kernel_rfl, by kernel_rfl⟩
theorem ty230_ok : ty230.ok Tryz.prog := ⟨by kernel_rfl, by kernel_rfl⟩
theorem ty231_ok : ty231.ok Tryz.prog := ⟨by kernel_rfl, by kernel_rfl⟩
theorem ty232_ok : ty232.ok Tryz.prog := ⟨by kernel_rfl, by kernel_rfl⟩
theorem ty233_ok : ty233.ok Tryz.prog := ⟨Tryz.underlying233, by kernel_rfl⟩
theorem ty235_ok : ty235.ok Tryz.prog := ⟨by kernel_rfl, by kernel_rfl⟩
theorem ty236_ok : ty236.ok Tryz.prog := ⟨by kernel_rfl, by kernel_rfl⟩
theorem ty237_ok : ty237.ok Tryz.prog := ⟨Tryz.underlying237, by kernel_rfl⟩
theorem ty238_ok : ty238.ok Tryz.prog := ⟨Tryz.underlying238, by kernel_rfl⟩
theorem ty240_ok : ty240.ok Tryz.prog := ⟨by kernel_rfl, by kernel_rfl⟩
theorem ty241_ok : ty241.ok Tryz.prog := ⟨by kernel_rfl, by kernel_rfl⟩
theorem ty242_ok : ty242.ok Tryz.prog := ⟨by kernel_rfl, by kernel_rfl⟩
theorem ty243_ok : ty243.ok Tryz.prog := ⟨by kernel_rfl, by kernel_rfl⟩
theorem ty244_ok : ty244.ok Tryz.prog := ⟨Tryz.underlying244, by kernel_rfl⟩
theorem ty245_ok : ty245.ok Tryz.prog := ⟨by kernel_rfl, by kernel_rfl⟩
theorem ty246_ok : ty246.ok Tryz.prog := ⟨by kernel_rfl, by kernel_rfl⟩
theorem ty247_ok : ty247.ok Tryz.prog := ⟨by kernel_rfl, by kernel_rfl⟩
theorem ty248_ok : ty248.ok Tryz.prog := ⟨by kernel_rfl, by kernel_rfl⟩
theorem ty249_ok : ty249.ok Tryz.prog := ⟨by kernel_rfl, by kernel_rfl⟩
theorem ty250_ok : ty250.ok Tryz.prog := ⟨by kernel_rfl, by kernel_rfl⟩
theorem ty251_ok : ty251.ok Tryz.prog := ⟨Tryz.underlying251, by kernel_rfl⟩
theorem ty252_ok : ty252.ok Tryz.prog := ⟨Tryz.underlying252, by kernel_rfl⟩
theorem ty253_ok : ty253.ok Tryz.prog := ⟨by kernel_rfl, by kernel_rfl⟩
theorem ty254_ok : ty254.ok Tryz.prog := ⟨by kernel_rfl, by kernel_rfl⟩
theorem ty256_ok : ty256.ok Tryz.prog := ⟨by kernel_rfl, by kernel_rfl⟩
theorem ty257_ok : ty257.ok Tryz.prog := ⟨by kernel_rfl, by kernel_rfl⟩
theorem ty258_ok : ty258.ok Tryz.prog := ⟨by kernel_rfl, by kernel_rfl⟩
theorem ty259_ok : ty259.ok Tryz.prog := ⟨by kernel_rfl, by kernel_rfl⟩
theorem ty260_ok : ty260.ok Tryz.prog := ⟨Tryz.underlying260, by kernel_rfl⟩
theorem ty261_ok : ty261.ok Tryz.prog := ⟨Tryz.underlying261, by kernel_rfl⟩
theorem ty264_ok : ty264.ok Tryz.prog := ⟨by kernel_rfl, by kernel_rfl⟩
theorem ty265_ok : ty265.ok Tryz.prog := ⟨by kernel_rfl, by kernel_rfl⟩
theorem ty266_ok : ty266.ok Tryz.prog := ⟨by kernel_rfl, by kernel_rfl⟩
theorem ty267_ok : ty267.ok Tryz.prog := ⟨by kernel_rfl, by kernel_rfl⟩
theorem ty268_ok : ty268.ok Tryz.prog := ⟨by kernel_rfl, by kernel_rfl⟩
theorem ty269_ok : ty269.ok Tryz.prog := ⟨by kernel_rfl, by kernel_rfl⟩
theorem ty270_ok : ty270.ok Tryz.prog := ⟨by kernel_rfl, by kernel_rfl⟩
theorem ty271_ok : ty271.ok Tryz.prog := ⟨by kernel_rfl, by kernel_rfl⟩
theorem ty272_ok : ty272.ok Tryz.prog := ⟨by kernel_rfl, by kernel_rfl⟩
theorem ty273_ok : ty273.ok Tryz.prog := ⟨by kernel_rfl, by kernel_rfl⟩
theorem ty274_ok : ty274.ok Tryz.prog := ⟨by kernel_rfl, by kernel_rfl⟩
theorem ty275_ok : ty275.ok Tryz.prog := ⟨by kernel_rfl, by kernel_rfl⟩
theorem ty276_ok : ty276.ok Tryz.prog := ⟨by kernel_rfl, by kernel_rfl⟩
theorem ty277_ok : ty277.ok Tryz.prog := ⟨by kernel_rfl, by kernel_rfl⟩
theorem ty278_ok : ty278.ok Tryz.prog := ⟨Tryz.underlying278, by kernel_rfl⟩
theorem ty279_ok : ty279.ok Tryz.prog := ⟨Tryz.underlying279, by kernel_rfl⟩
theorem ty280_ok : ty280.ok Tryz.prog := ⟨Tryz.underlying280, by kernel_rfl⟩
theorem ty281_ok : ty281.ok Tryz.prog := ⟨Tryz.underlying281, by kernel_rfl⟩
theorem ty282_ok : ty282.ok Tryz.prog := ⟨by kernel_rfl, by kernel_rfl⟩
theorem ty283_ok : ty283.ok Tryz.prog := ⟨by kernel_rfl, by kernel_rfl⟩
theorem ty284_ok : ty284.ok Tryz.prog := ⟨by kernel_rfl, by kernel_rfl⟩
theorem ty285_ok : ty285.ok Tryz.prog := ⟨Tryz.underlying285, by kernel_rfl⟩
theorem ty286_ok : ty286.ok Tryz.prog := ⟨Tryz.underlying286, by kernel_rfl⟩
theorem ty287_ok : ty287.ok Tryz.prog := ⟨Tryz.underlying287, by kernel_rfl⟩
theorem ty288_ok : ty288.ok Tryz.prog := ⟨by kernel_rfl, by kernel_rfl⟩
theorem ty289_ok : ty289.ok Tryz.prog := ⟨by kernel_rfl, by kernel_rfl⟩
theorem ty290_ok : ty290.ok Tryz.prog := ⟨by kernel_rfl, by kernel_rfl⟩
theorem ty291_ok : ty291.ok Tryz.prog := ⟨by kernel_rfl, by kernel_rfl⟩
theorem ty292_ok : ty292.ok Tryz.prog := ⟨Tryz.underlying292, by kernel_rfl⟩
theorem ty293_ok : ty293.ok Tryz.prog := ⟨Tryz.underlying293, by kernel_rfl⟩
theorem ty294_ok : ty294.ok Tryz.prog := ⟨Tryz.underlying294, by kernel_rfl⟩
theorem ty295_ok : ty295.ok Tryz.prog := ⟨by kernel_rfl, by kernel_rfl⟩
theorem ty296_ok : ty296.ok Tryz.prog := ⟨by kernel_rfl, by kernel_rfl⟩
theorem ty298_ok : ty298.ok Tryz.prog := ⟨by kernel_rfl, by kernel_rfl⟩
theorem ty299_ok : ty299.ok Tryz.prog := ⟨by kernel_rfl, by kernel_rfl⟩
theorem ty300_ok : ty300.ok Tryz.prog := ⟨by kernel_rfl, by kernel_rfl⟩
theorem ty301_ok : ty301.ok Tryz.prog := ⟨by kernel_rfl, by kernel_rfl⟩
theorem ty302_ok : ty302.ok Tryz.prog := ⟨by kernel_rfl, by kernel_rfl⟩
theorem ty303_ok : ty303.ok Tryz.prog := ⟨Tryz.underlying303, by kernel_rfl⟩
theorem ty305_ok : ty305.ok Tryz.prog := ⟨by kernel_rfl, by kernel_rfl⟩
theorem ty306_ok : ty306.ok Tryz.prog := ⟨Tryz.underlying306, by kernel_rfl⟩
theorem ty307_ok : ty307.ok Tryz.prog := ⟨by kernel_rfl, by kernel_rfl⟩
theorem ty308_ok : ty308.ok Tryz.prog := ⟨by kernel_rfl, by kernel_rfl⟩
theorem ty309_ok : ty309.ok Tryz.prog := ⟨by kernel_rfl, by kernel_rfl⟩
theorem ty311_ok : ty311.ok Tryz.prog := ⟨by kernel_rfl, by kernel_rfl⟩
theorem ty312_ok : ty312.ok Tryz.prog := ⟨by kernel_rfl, by kernel_rfl⟩
theorem ty313_ok : ty313.ok Tryz.prog := ⟨by kernel_rfl, by kernel_rfl⟩
theorem ty314_ok : ty314.ok Tryz.prog := ⟨Tryz.underlying314, by kernel_rfl⟩
theorem ty315_ok : ty315.ok Tryz.prog := ⟨Tryz.underlying315, by kernel_rfl⟩
theorem ty316_ok : ty316.ok Tryz.prog := ⟨by kernel_rfl, by kernel_rfl⟩
theorem ty318_ok : ty318.ok Tryz.prog := ⟨by kernel_rfl, by kernel_rfl⟩
theorem ty319_ok : ty319.ok Tryz.prog := ⟨by kernel_rfl, by kernel_rfl⟩
theorem ty320_ok : ty320.ok Tryz.prog := ⟨by kernel_rfl, by kernel_rfl⟩
theorem ty321_ok : ty321.ok Tryz.prog := ⟨Tryz.underlying321, by kernel_rfl⟩
theorem ty322_ok : ty322.ok Tryz.prog := ⟨by kernel_rfl, by kernel_rfl⟩
theorem ty323_ok : ty323.ok Tryz.prog := ⟨by kernel_rfl, by kernel_rfl⟩
theorem ty325_ok : ty325.ok Tryz.prog := ⟨by kernel_rfl, by kernel_rfl⟩
theorem ty326_ok : ty326.ok Tryz.prog := ⟨by kernel_rfl, by kernel_rfl⟩
theorem ty327_ok : ty327.ok Tryz.prog := ⟨Tryz.underlying327, by kernel_rfl⟩
theorem ty328_ok : ty328.ok Tryz.prog := ⟨Tryz.underlying328, by kernel_rfl⟩
theorem ty329_ok : ty329.ok Tryz.prog := ⟨by kernel_rfl, by kernel_rfl⟩
theorem ty330_ok : ty330.ok Tryz.prog := ⟨Tryz.underlying330, by kernel_rfl⟩
theorem ty331_ok : ty331.ok Tryz.prog := ⟨Tryz.underlying331, by kernel_rfl⟩
theorem ty332_ok : ty332.ok Tryz.prog := ⟨by kernel_rfl, by kernel_rfl⟩
theorem ty333_ok : ty333.ok Tryz.prog := ⟨by kernel_rfl, by kernel_rfl⟩
theorem ty334_ok : ty334.ok Tryz.prog := ⟨by kernel_rfl, by kernel_rfl⟩
theorem ty335_ok : ty335.ok Tryz.prog := ⟨by kernel_rfl, by kernel_rfl⟩
theorem ty336_ok : ty336.ok Tryz.prog := ⟨Tryz.underlying336, by kernel_rfl⟩
theorem ty337_ok : ty337.ok Tryz.prog := ⟨by kernel_rfl, by kernel_rfl⟩
theorem ty338_ok : ty338.ok Tryz.prog := ⟨Tryz.underlying338, by kernel_rfl⟩
theorem ty339_ok : ty339.ok Tryz.prog := ⟨Tryz.underlying339, by kernel_rfl⟩
theorem ty340_ok : ty340.ok Tryz.prog := ⟨Tryz.underlying340, by kernel_rfl⟩
theorem ty341_ok : ty341.ok Tryz.prog := ⟨Tryz.underlying341, by kernel_rfl⟩
theorem ty342_ok : ty342.ok Tryz.prog := ⟨Tryz.underlying342, by kernel_rfl⟩
theorem ty343_ok : ty343.ok Tryz.prog := ⟨Tryz.underlying343, by kernel_rfl⟩
theorem ty344_ok : ty344.ok Tryz.prog := ⟨Tryz.underlying344, by kernel_rfl⟩
theorem ty346_ok : ty346.ok Tryz.prog := ⟨by kernel_rfl, by kernel_rfl⟩
theorem ty347_ok : ty347.ok Tryz.prog := ⟨by kernel_rfl, by kernel_rfl⟩
theorem ty348_ok : ty348.ok Tryz.prog := ⟨Tryz.underlying348, by kernel_rfl⟩
theorem ty349_ok : ty349.ok Tryz.prog := ⟨Tryz.underlying349, by kernel_rfl⟩
theorem ty350_ok : ty350.ok Tryz.prog := ⟨Tryz.underlying350, by kernel_rfl⟩
theorem ty351_ok : ty351.ok Tryz.prog := ⟨Tryz.underlying351, by kernel_rfl⟩
theorem ty352_ok : ty352.ok Tryz.prog := ⟨Tryz.underlying352, by kernel_rfl⟩
theorem ty353_ok : ty353.ok Tryz.prog := ⟨by kernel_rfl, by kernel_rfl⟩
theorem ty354_ok : ty354.ok Tryz.prog := ⟨Tryz.underlying354, by kernel_rfl⟩
theorem ty355_ok : ty355.ok Tryz.prog := ⟨by kernel_rfl, by kernel_rfl⟩
theorem ty356_ok : ty356.ok Tryz.prog := ⟨Tryz.underlying356, by kernel_rfl⟩
theorem ty357_ok : ty357.ok Tryz.prog := ⟨Tryz.underlying357, by kernel_rfl⟩
theorem ty358_ok : ty358.ok Tryz.prog := ⟨Tryz.underlying358, by kernel_rfl⟩
theorem ty359_ok : ty359.ok Tryz.prog := ⟨Tryz.underlying359, by kernel_rfl⟩
theorem ty360_ok : ty360.ok Tryz.prog := ⟨by kernel_rfl, by kernel_rfl⟩
theorem ty361_ok : ty361.ok Tryz.prog := ⟨by kernel_rfl, by kernel_rfl⟩
theorem ty362_ok : ty362.ok Tryz.prog := ⟨Tryz.underlying362, by kernel_rfl⟩
theorem ty363_ok : ty363.ok Tryz.prog := ⟨Tryz.underlying363, by kernel_rfl⟩
theorem ty364_ok : ty364.ok Tryz.prog := ⟨Tryz.underlying364, by kernel_rfl⟩
theorem ty365_ok : ty365.ok Tryz.prog := ⟨by kernel_rfl, by kernel_rfl⟩
theorem ty366_ok : ty366.ok Tryz.prog := ⟨Tryz.underlying366, by kernel_rfl⟩
theorem ty367_ok : ty367.ok Tryz.prog := ⟨Tryz.underlying367, by kernel_rfl⟩
theorem ty368_ok : ty368.ok Tryz.prog := ⟨Tryz.underlying368, by kernel_rfl⟩
theorem ty369_ok : ty369.ok Tryz.prog := ⟨Tryz.underlying369, by kernel_rfl⟩
theorem ty370_ok : ty370.ok Tryz.prog := ⟨Tryz.underlying370, by kernel_rfl⟩
theorem ty371_ok : ty371.ok Tryz.prog := ⟨Tryz.underlying371, by kernel_rfl⟩
theorem ty372_ok : ty372.ok Tryz.prog := ⟨Tryz.underlying372, by kernel_rfl⟩
theorem ty373_ok : ty373.ok Tryz.prog := ⟨Tryz.underlying373, by kernel_rfl⟩
def tyRows : List TyRow := [ty1, ty2, ty3, ty4, ty5, ty6, ty7, ty8, ty9, ty10, ty11, ty12, ty13, ty14, ty15, ty16, ty17, ty18, ty19, ty20, ty21, ty22, ty23, ty24, ty25, ty26, ty27, ty28, ty29, ty30, ty31, ty32, ty33, ty34, ty36, ty38, ty40, ty41, ty42, ty43, ty44, ty45, ty46, ty47, ty49, ty50, ty51, ty52, ty53, ty54, ty55, ty56, ty57, ty58, ty59, ty60, ty61, ty62, ty63, ty64, ty66, ty67, ty68, ty69, ty70, ty71, ty73, ty74, ty76, ty77, ty78, ty80, ty82, ty83, ty84, ty85, ty86, ty87, ty89, ty90, ty91, ty92, ty93, ty94, ty95, ty96, ty97, ty98, ty100, ty102, ty103, ty104, ty105, ty106, ty107, ty108, ty109, ty110, ty111, ty113, ty114, ty115, ty116, ty117, ty118, ty119, ty120, ty121, ty122, ty123, ty124, ty125, ty126, ty127, ty128, ty129, ty130, ty131, ty132, ty133, ty134, ty135, ty136, ty137, ty138, ty139, ty140, ty141, ty142, ty143, ty144, ty145, ty147, ty148, ty150, ty151, ty152, ty153, ty154, ty155, ty156, ty157, ty158, ty159, ty160, ty161, ty163, ty164, ty166, ty167, ty168, ty169, ty170, ty171, ty172, ty173, ty174, ty175, ty176, ty178, ty179, ty180, ty181, ty182, ty183, ty184, ty185, ty186, ty187, ty188, ty189, ty190, ty191, ty192, ty193, ty194, ty195, ty196, ty197, ty198, ty199, ty200, ty201, ty202, ty203, ty204, ty205, ty206, ty207, ty208, ty209, ty210, ty211, ty213, ty214, ty215, ty216, ty217, ty218, ty219, ty220, ty221, ty222, ty223, ty224, ty225, ty226, ty227, ty228, ty229, ty230, ty231, ty232, ty233, ty235, ty236, ty237, ty238, ty240, ty241, ty242, ty243, ty244, ty245, ty246, ty247, ty248, ty249, ty250, ty251, ty252, ty253, ty254, ty256, ty257, ty258, ty259, ty260, ty261, ty264, ty265, ty266, ty267, ty268, ty269, ty270, ty271, ty272, ty273, ty274, ty275, ty276, ty277, ty278, ty279, ty280, ty281, ty282, ty283, ty284, ty285, ty286, ty287, ty288, ty289, ty290, ty291, ty292, ty293, ty294, ty295, ty296, ty298, ty299, ty300, ty301, ty302, ty303, ty305, ty306, ty307, ty308, ty309, ty311, ty312, ty313, ty314, ty315, ty316, ty318, ty319, ty320, ty321, ty322, ty323, ty325, ty326, ty327, ty328, ty329, ty330, ty331, ty332, ty333, ty334, ty335, ty336, ty337, ty338, ty339, ty340, ty341, ty342, ty343, ty344, ty346, ty347, ty348, ty349, ty350, ty351, ty352, ty353, ty354, ty355, ty356, ty357, ty358, ty359, ty360, ty361, ty362, ty363, ty364, ty365, ty366, ty367, ty368, ty369, ty370, ty371, ty372, ty373]
theorem tyRows_ok : TyOk Tryz.prog tyRows := ⟨ty1_ok, ⟨ty2_ok, ⟨ty3_ok, ⟨ty4_ok, ⟨ty5_ok, ⟨ty6_ok, ⟨ty7_ok, ⟨ty8_ok, ⟨ty9_ok, ⟨ty10_ok, ⟨ty11_ok, ⟨ty12_ok, ⟨ty13_ok, ⟨ty14_ok, ⟨ty15_ok, ⟨ty16_ok, ⟨ty17_ok, ⟨ty18_ok, ⟨ty19_ok, ⟨ty20_ok, ⟨ty21_ok, ⟨ty22_ok, ⟨ty23_ok, ⟨ty24_ok, ⟨ty25_ok, ⟨ty26_ok, ⟨ty27_ok, ⟨ty28_ok, ⟨ty29_ok, ⟨ty30_ok, ⟨ty31_ok, ⟨ty32_ok, ⟨ty33_ok, ⟨ty34_ok, ⟨ty36_ok, ⟨ty38_ok, ⟨ty40_ok, ⟨ty41_ok, ⟨ty42_ok, ⟨ty43_ok, ⟨ty44_ok, ⟨ty45_ok, ⟨ty46_ok, ⟨ty47_ok, ⟨ty49_ok, ⟨ty50_ok, ⟨ty51_ok, ⟨ty52_ok, ⟨ty53_ok, ⟨ty54_ok, ⟨ty55_ok, ⟨ty56_ok, ⟨ty57_ok, ⟨ty58_ok, ⟨ty59_ok, ⟨ty60_ok, ⟨ty61_ok, ⟨ty62_ok, ⟨ty63_ok, ⟨ty64_ok, ⟨ty66_ok, ⟨ty67_ok, ⟨ty68_ok, ⟨ty69_ok, ⟨ty70_ok, ⟨ty71_ok, ⟨ty73_ok, ⟨ty74_ok, ⟨ty76_ok, ⟨ty77_ok, ⟨ty78_ok, ⟨ty80_ok, ⟨ty82_ok, ⟨ty83_ok, ⟨ty84_ok, ⟨ty85_ok, ⟨ty86_ok, ⟨ty87_ok, ⟨ty89_ok, ⟨ty90_ok, ⟨ty91_ok, ⟨ty92_ok, ⟨ty93_ok, ⟨ty94_ok, ⟨ty95_ok, ⟨ty96_ok, ⟨ty97_ok, ⟨ty98_ok, ⟨ty100_ok, ⟨ty102_ok, ⟨ty103_ok, ⟨ty104_ok, ⟨ty105_ok, ⟨ty106_ok, ⟨ty107_ok, ⟨ty108_ok, ⟨ty109_ok, ⟨ty110_ok, ⟨ty111_ok, ⟨ty113_ok, ⟨ty114_ok, ⟨ty115_ok, ⟨ty116_ok, ⟨ty117_ok, ⟨ty118_ok, ⟨ty119_ok, ⟨ty120_ok, ⟨ty121_ok, ⟨ty122_ok, ⟨ty123_ok, ⟨ty124_ok, ⟨ty125_ok, ⟨ty126_ok, ⟨ty127_ok, ⟨ty128_ok, ⟨ty129_ok, ⟨ty130_ok, ⟨ty131_ok, ⟨ty132_ok, ⟨ty133_ok, ⟨ty134_ok, ⟨ty135_ok, ⟨ty136_ok, ⟨ty137_ok, ⟨ty138_ok, ⟨ty139_ok, ⟨ty140_ok, ⟨ty141_ok, ⟨ty142_ok, ⟨ty143_ok, ⟨ty144_ok, ⟨ty145_ok, ⟨ty147_ok, ⟨ty148_ok, ⟨ty150_ok, ⟨ty151_ok, ⟨ty152_ok, ⟨ty153_ok, ⟨ty154_ok, ⟨ty155_ok, ⟨ty156_ok, ⟨ty157_ok, ⟨ty158_ok, ⟨ty159_ok, ⟨ty160_ok, ⟨ty161_ok, ⟨ty163_ok, ⟨ty164_ok, ⟨ty166_ok, ⟨ty167_ok, ⟨ty168_ok, ⟨ty169_ok, ⟨ty170_ok, ⟨ty171_ok, ⟨ty172_ok, ⟨ty173_ok, ⟨ty174_ok, ⟨ty175_ok, ⟨ty176_ok, ⟨ty178_ok, ⟨ty179_ok, ⟨ty180_ok, ⟨ty181_ok, ⟨ty182_ok, ⟨ty183_ok, ⟨ty184_ok, ⟨ty185_ok, ⟨ty186_ok, ⟨ty187_ok, ⟨ty188_ok, ⟨ty189_ok, ⟨ty190_ok, ⟨ty191_ok, ⟨ty192_ok, ⟨ty193_ok, ⟨ty194_ok, ⟨ty195_ok, ⟨ty196_ok, ⟨ty197_ok, ⟨ty198_ok, ⟨ty199_ok, ⟨ty200_ok, ⟨ty201_ok, ⟨ty202_ok, ⟨ty203_ok, ⟨ty204_ok, ⟨ty205_ok, ⟨ty206_ok, ⟨ty207_ok, ⟨ty208_ok, ⟨ty209_ok, ⟨ty210_ok, ⟨ty211_ok, ⟨ty213_ok, ⟨ty214_ok, ⟨ty215_ok, ⟨ty216_ok, ⟨ty217_ok, ⟨ty218_ok, ⟨ty219_ok, ⟨ty220_ok, ⟨ty221_ok, ⟨ty222_ok, ⟨ty223_ok, ⟨ty224_ok, ⟨ty225_ok, ⟨ty226_ok, ⟨ty227_ok, ⟨ty228_ok, ⟨ty229_ok, ⟨ty230_ok, ⟨ty231_ok, ⟨ty232_ok, ⟨ty233_ok, ⟨ty235_ok, ⟨ty236_ok, ⟨ty237_ok, ⟨ty238_ok, ⟨ty240_ok, ⟨ty241_ok, ⟨ty242_ok, ⟨ty243_ok, ⟨ty244_ok, ⟨ty245_ok, ⟨ty246_ok, ⟨ty247_ok, ⟨ty248_ok, ⟨ty249_ok, ⟨ty250_ok, ⟨ty251_ok, ⟨ty252_ok, ⟨ty253_ok, ⟨ty254_ok, ⟨ty256_ok, ⟨ty257_ok, ⟨ty258_ok, ⟨ty259_ok, ⟨ty260_ok, ⟨ty261_ok, ⟨ty264_ok, ⟨ty265_ok, ⟨ty266_ok, ⟨ty267_ok, ⟨ty268_ok, ⟨ty269_ok, ⟨ty270_ok, ⟨ty271_ok, ⟨ty272_ok, ⟨ty273_ok, ⟨ty274_ok, ⟨ty275_ok, ⟨ty276_ok, ⟨ty277_ok, ⟨ty278_ok, ⟨ty279_ok, ⟨ty280_ok, ⟨ty281_ok, ⟨ty282_ok, ⟨ty283_ok, ⟨ty284_ok, ⟨ty285_ok, ⟨ty286_ok, ⟨ty287_ok, ⟨ty288_ok, ⟨ty289_ok, ⟨ty290_ok, ⟨ty291_ok, ⟨ty292_ok, ⟨ty293_ok, ⟨ty294_ok, ⟨ty295_ok, ⟨ty296_ok, ⟨ty298_ok, ⟨ty299_ok, ⟨ty300_ok, ⟨ty301_ok, ⟨ty302_ok, ⟨ty303_ok, ⟨ty305_ok, ⟨ty306_ok, ⟨ty307_ok, ⟨ty308_ok, ⟨ty309_ok, ⟨ty311_ok, ⟨ty312_ok, ⟨ty313_ok, ⟨ty314_ok, ⟨ty315_ok, ⟨ty316_ok, ⟨ty318_ok, ⟨ty319_ok, ⟨ty320_ok, ⟨ty321_ok, ⟨ty322_ok, ⟨ty323_ok, ⟨ty325_ok, ⟨ty326_ok, ⟨ty327_ok, ⟨ty328_ok, ⟨ty329_ok, ⟨ty330_ok, ⟨ty331_ok, ⟨ty332_ok, ⟨ty333_ok, ⟨ty334_ok, ⟨ty335_ok, ⟨ty336_ok, ⟨ty337_ok, ⟨ty338_ok, ⟨ty339_ok, ⟨ty340_ok, ⟨ty341_ok, ⟨ty342_ok, ⟨ty343_ok, ⟨ty344_ok, ⟨ty346_ok, ⟨ty347_ok, ⟨ty348_ok, ⟨ty349_ok, ⟨ty350_ok, ⟨ty351_ok, ⟨ty352_ok, ⟨ty353_ok, ⟨ty354_ok, ⟨ty355_ok, ⟨ty356_ok, ⟨ty357_ok, ⟨ty358_ok, ⟨ty359_ok, ⟨ty360_ok, ⟨ty361_ok, ⟨ty362_ok, ⟨ty363_ok, ⟨ty364_ok, ⟨ty365_ok, ⟨ty366_ok, ⟨ty367_ok, ⟨ty368_ok, ⟨ty369_ok, ⟨ty370_ok, ⟨ty371_ok, ⟨ty372_ok, ⟨ty373_ok, trivial⟩⟩⟩⟩⟩⟩⟩⟩⟩⟩⟩⟩⟩⟩⟩⟩⟩⟩⟩⟩⟩⟩⟩⟩⟩⟩⟩⟩⟩⟩⟩⟩⟩⟩⟩⟩⟩⟩⟩⟩⟩⟩⟩⟩⟩⟩⟩⟩⟩⟩⟩⟩⟩⟩⟩⟩⟩⟩⟩⟩⟩⟩⟩⟩⟩⟩⟩⟩⟩⟩⟩⟩⟩⟩⟩⟩⟩⟩⟩⟩⟩⟩⟩⟩⟩⟩⟩⟩⟩⟩⟩⟩⟩⟩⟩⟩⟩⟩⟩⟩⟩⟩⟩⟩⟩⟩⟩⟩⟩⟩⟩⟩⟩⟩⟩⟩⟩⟩⟩⟩⟩⟩⟩⟩⟩⟩⟩⟩⟩⟩⟩⟩⟩⟩⟩⟩⟩⟩⟩⟩⟩⟩⟩⟩⟩⟩⟩⟩⟩⟩⟩⟩⟩⟩⟩⟩⟩⟩⟩⟩⟩⟩⟩⟩⟩⟩⟩⟩⟩⟩⟩⟩⟩⟩⟩⟩⟩⟩⟩⟩⟩⟩⟩⟩⟩⟩⟩⟩⟩⟩⟩⟩⟩⟩⟩⟩⟩⟩⟩⟩⟩⟩⟩⟩⟩⟩⟩⟩⟩⟩⟩⟩⟩⟩⟩⟩⟩⟩⟩⟩⟩⟩⟩⟩⟩⟩⟩⟩⟩⟩⟩⟩⟩⟩⟩⟩⟩⟩⟩⟩⟩⟩⟩⟩⟩⟩⟩⟩⟩⟩⟩⟩⟩⟩⟩⟩⟩⟩⟩⟩⟩⟩⟩⟩⟩⟩⟩⟩⟩⟩⟩⟩⟩⟩⟩⟩⟩⟩⟩⟩⟩⟩⟩⟩⟩⟩⟩⟩⟩⟩⟩⟩⟩⟩⟩⟩⟩⟩⟩⟩⟩⟩⟩⟩⟩⟩⟩⟩⟩⟩⟩⟩⟩⟩⟩⟩⟩⟩⟩⟩⟩⟩⟩⟩⟩⟩⟩⟩⟩⟩⟩⟩⟩⟩⟩⟩⟩⟩⟩⟩⟩⟩⟩
instance tyTab : TyTab Tryz.prog := ⟨tyRows, tyRows_ok, by kernel_rfl⟩
end Go.AL
end
