/-
  The plain law of AsmJoins: two texts, one behind the other. No model.
-/
import Derived.Test.YtaoiflliakjhdaaDoorV16
set_option linter.unusedVariables false
set_option linter.unusedSimpArgs false
namespace Go.AL
open Go Go.Proofs

theorem cuts_app (c : UInt8) (t : Bs) : ∀ (s : Bs) (l : List Bs), cuts c s = l ++ [[]] → cuts c (s ++ t) = l ++ cuts c t
  | [], l, h => by
    cases l with
    | nil => rfl
    | cons a l => simp [cuts] at h
  | b :: r, l, h => by
    have ih := cuts_app c t r
    rw [List.cons_append, cuts]
    rw [cuts] at h
    by_cases hb : b = c
    · rw [if_pos hb] at h ⊢
      cases l with
      | nil => simp at h; exact absurd h (cuts_ne c r)
      | cons a l =>
        rw [List.cons_append] at h
        injection h with h1 h2
        rw [ih l h2, ← h1]; rfl
    · rw [if_neg hb] at h ⊢
      cases hk : cuts c r with
      | nil => exact absurd hk (cuts_ne c r)
      | cons x y =>
        rw [hk] at h
        simp only [consH] at h
        cases l with
        | nil => simp at h
        | cons a l =>
          rw [List.cons_append] at h
          injection h with h1 h2
          rw [ih (x :: l) (by rw [hk, h2]; rfl), List.cons_append, ← h1]
          simp [consH]
theorem nl_left (l1 l2 : List Bs) {i : Nat} (h : i ≤ l1.length) : nl (l1 ++ l2) i = nl l1 i := by
  unfold nl
  rw [List.take_append_of_le_length h]
theorem nl_right (l1 l2 : List Bs) (j : Nat) : nl (l1 ++ l2) (l1.length + j) = nl l1 l1.length + nl l2 j := by
  unfold nl
  rw [List.take_length_add_append, List.take_length, List.filter_append, List.length_append]
  omega
theorem nl_mono (ls : List Bs) {i j : Nat} (h : i ≤ j) : nl ls i ≤ nl ls j := by
  unfold nl
  have : (ls.take i) <+: (ls.take j) := List.take_prefix_take_left h
  have := (List.IsPrefix.filter (fun l => !rlab l) this).length_le
  omega
theorem rpSt_nl (ls : List Bs) : ∀ k, k ≤ ls.length → ((rpSt ls k).length : Int) = nl ls k
  | 0, _ => by simp [rpSt, nl]
  | k + 1, h => by
    have ih := rpSt_nl ls k (by omega)
    have hk : k < ls.length := by omega
    rw [rpSt_succ hk, nl_succ hk, ← ih]
    cases rlab ls[k] <;> simp
theorem tgt_l {l1 : List Bs} (l2 : List Bs) {w : Bs} (h : (rtarget l1 w).2 = true) : rtarget (l1 ++ l2) w = rtarget l1 w := by
  unfold rtarget at h ⊢
  rw [List.findIdx?_append]
  cases hf : l1.findIdx? (fun l => decide (l = w ++ [58])) with
  | none => rw [hf] at h; cases h
  | some i =>
    obtain ⟨hi, _⟩ := List.findIdx?_eq_some_iff_getElem.1 hf
    simp only [Option.some_or]
    rw [nl_left l1 l2 (by omega)]
theorem tgt_r (l1 : List Bs) {l2 : List Bs} {w : Bs} (h : (rtarget l2 w).2 = true) : (rtarget (l1 ++ l2) w).2 = true ∧ w ++ [58] ∈ l2 ∧ (w ++ [58] ∉ l1 → (rtarget (l1 ++ l2) w).1 = (rtarget l2 w).1 + nl l1 l1.length) := by
  unfold rtarget at h ⊢
  rw [List.findIdx?_append]
  cases hf : l2.findIdx? (fun l => decide (l = w ++ [58])) with
  | none => rw [hf] at h; cases h
  | some i =>
    obtain ⟨hi, hi2, _⟩ := List.findIdx?_eq_some_iff_getElem.1 hf
    have hi2 := of_decide_eq_true hi2
    refine ⟨?_, hi2 ▸ List.getElem_mem hi, fun hn => ?_⟩
    · cases l1.findIdx? (fun l => decide (l = w ++ [58])) <;> rfl
    · have : l1.findIdx? (fun l => decide (l = w ++ [58])) = none := by
        rw [List.findIdx?_eq_none_iff]
        intro x hx
        exact decide_eq_false fun e => hn (e ▸ hx)
      rw [this]
      simp only [Option.none_or, Option.map_some]
      rw [show i + l1.length = l1.length + i from Nat.add_comm _ _, nl_right]
      omega
def tk (c : UInt8) : Bool := !(decide (c = 114)) && !(decide (c = 110))
theorem rop_l {l1 : List Bs} (l2 : List Bs) {c : UInt8} {w : Bs} (h : (rop l1 c w).2 = 0) : rop (l1 ++ l2) c w = rop l1 c w := by
  unfold rop at h ⊢
  generalize decide (c = 114) = b1 at *
  generalize decide (c = 110) = b2 at *
  cases b1
  · cases b2
    · simp only [cond_false] at h ⊢
      unfold ropT at h ⊢
      generalize rname w = b3 at *
      cases b3
      · rfl
      · simp only [cond_true] at h ⊢
        cases ht : (rtarget l1 w).2
        · rw [ht] at h; exact absurd h (by simp)
        · rw [tgt_l l2 ht, ht]
    · rfl
  · rfl
theorem rop_r (l1 : List Bs) {l2 : List Bs} {c : UInt8} {w : Bs} (h : (rop l2 c w).2 = 0) : (rop (l1 ++ l2) c w).2 = 0 ∧ ((∀ l ∈ l2, rlab l = true → l ∉ l1) → (rop (l1 ++ l2) c w).1 = (rop l2 c w).1 + cond (tk c) (nl l1 l1.length) 0) := by
  unfold rop tk at *
  generalize decide (c = 114) = b1 at *
  generalize decide (c = 110) = b2 at *
  cases b1
  · cases b2
    · simp only [cond_false, Bool.not_false, Bool.and_true, cond_true] at h ⊢
      unfold ropT at h ⊢
      generalize rname w = b3 at *
      cases b3
      · exact absurd h (by simp)
      · simp only [cond_true] at h ⊢
        cases ht : (rtarget l2 w).2
        · rw [ht] at h; exact absurd h (by simp)
        · obtain ⟨t1, t2, t3⟩ := tgt_r l1 ht
          rw [t1]
          exact ⟨rfl, fun hn => t3 (hn _ t2 (rlab_end w))⟩
    · simp only [cond_false, cond_true] at h ⊢
      exact ⟨h, fun _ => by simp⟩
  · simp only [cond_true] at h ⊢
    exact ⟨h, fun _ => by simp⟩
theorem rAll_inv (ls : List Bs) : ∀ (kd : Bs) (ws : List Bs), ws.length = kd.length → (rAll ls kd ws).2 = 0 → ∀ q, q < kd.length → (rop ls (kd.getD q 0) (ws.getD q [])).2 = 0
  | [], ws, _, _, q, hq => absurd hq (by simp)
  | c :: kd, [], h, _, _, _ => by simp at h
  | c :: kd, w :: ws, h, ha, q, hq => by
    rw [rAll] at ha
    by_cases h0 : (rop ls c w).2 = 0
    · rw [decide_eq_true h0] at ha
      simp only [cond_true] at ha
      cases q with
      | zero => simpa using h0
      | succ q => simpa using rAll_inv ls kd ws (by simpa using h) ha q (by simpa using hq)
    · rw [decide_eq_false h0] at ha
      exact absurd ha h0
theorem rAll_get {ls : List Bs} {kd : Bs} {ws : List Bs} (hl : ws.length = kd.length) (h : ∀ q, q < kd.length → (rop ls (kd.getD q 0) (ws.getD q [])).2 = 0) (q : Nat) :
    (rAll ls kd ws).1.getD q 0 = cond (decide (q < kd.length)) (rop ls (kd.getD q 0) (ws.getD q [])).1 0 := by
  by_cases hq : q < kd.length
  · rw [decide_eq_true hq]
    exact (rAll_ok ls kd ws hl h).2 q hq
  · rw [decide_eq_false hq]
    have := rAll_len ls kd ws
    rw [List.getD, List.getElem?_eq_none (by omega)]; rfl
/-- what a line without fault is -/
def LineOk (ls : List Bs) (l : Bs) (k : Nat) (ws : List Bs) : Prop :=
  k < 27 ∧ (∃ w, rsplit 32 l = w :: ws ∧ findOp w = (k : Int)) ∧ ws.length = (at' opsT (k : Int)).2.length ∧ ∀ q, q < (at' opsT (k : Int)).2.length → (rop ls ((at' opsT (k : Int)).2.getD q 0) (ws.getD q [])).2 = 0
def insOf (ls : List Bs) (k : Nat) (ws : List Bs) : Ins :=
  ⟨k, (rAll ls (at' opsT (k : Int)).2 ws).1.getD 0 0, (rAll ls (at' opsT (k : Int)).2 ws).1.getD 1 0, (rAll ls (at' opsT (k : Int)).2 ws).1.getD 2 0⟩
theorem rinstr_of {ls : List Bs} {l : Bs} {k : Nat} {ws : List Bs} (h : LineOk ls l k ws) (n : Int) : rinstr ls l n = cond (decide (n ≥ 1000)) (default, 2) (insOf ls k ws, 0) := by
  obtain ⟨hk, ⟨w, hw, hf⟩, hl, ha⟩ := h
  unfold rinstr
  rw [hw]
  simp only
  have h0 : decide ((k : Int) < 0) = false := by simp
  rw [hf, h0, opK_at k hk]
  simp only [cond_false]
  unfold rinstrK
  rw [decide_eq_true hl, (rAll_ok ls _ ws hl ha).1]
  rfl
theorem rinstr_inv {ls : List Bs} {l : Bs} {n : Int} (h : (rinstr ls l n).2 = 0) : ∃ k ws, LineOk ls l k ws ∧ ¬ n ≥ 1000 ∧ rinstr ls l n = (insOf ls k ws, 0) := by
  have h' := h
  unfold rinstr at h
  cases hw : rsplit 32 l with
  | nil => rw [hw] at h; exact absurd h (by simp)
  | cons w ws =>
    rw [hw] at h
    simp only at h
    rcases findOp_cases w with hf | ⟨k, hk, hf⟩
    · rw [hf] at h; exact absurd h (by simp)
    · have h0 : decide ((k : Int) < 0) = false := by simp
      rw [hf, h0, opK_at k hk] at h
      simp only [cond_false] at h
      unfold rinstrK at h
      by_cases hl : ws.length = (at' opsT (k : Int)).2.length
      · rw [decide_eq_true hl] at h
        simp only [cond_true] at h
        by_cases hz : (rAll ls (at' opsT (k : Int)).2 ws).2 = 0
        · have hL : LineOk ls l k ws := ⟨hk, ⟨w, hw, hf⟩, hl, rAll_inv ls _ ws hl hz⟩
          have e := rinstr_of hL n
          by_cases hn : n ≥ 1000
          · rw [e, decide_eq_true hn] at h'; exact absurd h' (by simp)
          · rw [decide_eq_false hn] at e
            exact ⟨k, ws, hL, hn, e⟩
        · rw [decide_eq_false hz] at h
          exact absurd h hz
      · rw [decide_eq_false hl] at h
        exact absurd h (by simp)
/-- an instruction whose target is moved -/
def mv (n : Int) (i : Ins) : Ins := ⟨i.op, cond (decide (i.op = 10) || decide (i.op = 13)) (i.a + n) i.a, cond (decide (i.op = 11) || decide (i.op = 12)) (i.b + n) i.b, i.c⟩
theorem kinds_t : ∀ k : Nat, k < 27 → ((decide (0 < (at' opsT (k : Int)).2.length) && tk ((at' opsT (k : Int)).2.getD 0 0)) = (decide ((k : Int) = 10) || decide ((k : Int) = 13))) ∧ ((decide (1 < (at' opsT (k : Int)).2.length) && tk ((at' opsT (k : Int)).2.getD 1 0)) = (decide ((k : Int) = 11) || decide ((k : Int) = 12))) ∧ (decide (2 < (at' opsT (k : Int)).2.length) && tk ((at' opsT (k : Int)).2.getD 2 0)) = false := by decide
theorem insOf_l {l1 : List Bs} (l2 : List Bs) {l : Bs} {k : Nat} {ws : List Bs} (h : LineOk l1 l k ws) : LineOk (l1 ++ l2) l k ws ∧ insOf (l1 ++ l2) k ws = insOf l1 k ws := by
  obtain ⟨hk, hw, hl, ha⟩ := h
  have ha2 : ∀ q, q < (at' opsT (k : Int)).2.length → (rop (l1 ++ l2) ((at' opsT (k : Int)).2.getD q 0) (ws.getD q [])).2 = 0 := fun q hq => by rw [rop_l l2 (ha q hq)]; exact ha q hq
  have hg : ∀ q, (rAll (l1 ++ l2) (at' opsT (k : Int)).2 ws).1.getD q 0 = (rAll l1 (at' opsT (k : Int)).2 ws).1.getD q 0 := fun q => by
    rw [rAll_get hl ha, rAll_get hl ha2]
    by_cases hq : q < (at' opsT (k : Int)).2.length
    · rw [rop_l l2 (ha q hq)]
    · rw [decide_eq_false hq]; rfl
  refine ⟨⟨hk, hw, hl, ha2⟩, ?_⟩
  unfold insOf
  rw [hg, hg, hg]
theorem insOf_r (l1 : List Bs) {l2 : List Bs} {l : Bs} {k : Nat} {ws : List Bs} (h : LineOk l2 l k ws) : LineOk (l1 ++ l2) l k ws ∧ ((∀ l ∈ l2, rlab l = true → l ∉ l1) → insOf (l1 ++ l2) k ws = mv (nl l1 l1.length) (insOf l2 k ws)) := by
  obtain ⟨hk, hw, hl, ha⟩ := h
  have ha2 : ∀ q, q < (at' opsT (k : Int)).2.length → (rop (l1 ++ l2) ((at' opsT (k : Int)).2.getD q 0) (ws.getD q [])).2 = 0 := fun q hq => (rop_r l1 (ha q hq)).1
  refine ⟨⟨hk, hw, hl, ha2⟩, fun hn => ?_⟩
  have hg : ∀ q, (rAll (l1 ++ l2) (at' opsT (k : Int)).2 ws).1.getD q 0 = (rAll l2 (at' opsT (k : Int)).2 ws).1.getD q 0 + cond (decide (q < (at' opsT (k : Int)).2.length) && tk ((at' opsT (k : Int)).2.getD q 0)) (nl l1 l1.length) 0 := fun q => by
    rw [rAll_get hl ha, rAll_get hl ha2]
    by_cases hq : q < (at' opsT (k : Int)).2.length
    · rw [decide_eq_true hq]
      exact (rop_r l1 (ha q hq)).2 hn
    · rw [decide_eq_false hq]; rfl
  obtain ⟨k0, k1, k2⟩ := kinds_t k hk
  unfold insOf mv
  rw [hg, hg, hg, k0, k1, k2]
  simp only
  congr 1
  · cases (decide ((k : Int) = 10) || decide ((k : Int) = 13)) <;> simp
  · cases (decide ((k : Int) = 11) || decide ((k : Int) = 12)) <;> simp
  · simp
theorem getD_at {ls : List Bs} {k : Nat} (h : k < ls.length) : ls.getD k [] = ls[k] := by simp [List.getD, h]
theorem join_l (l1 l2 : List Bs) (hz : ∀ q, q < l1.length → rpE l1 q = 0) : ∀ k, k ≤ l1.length → rpSt (l1 ++ l2) k = rpSt l1 k ∧ ∀ q, q < k → rpE (l1 ++ l2) q = 0
  | 0, _ => ⟨rfl, fun q h => absurd h (by omega)⟩
  | k + 1, h => by
    obtain ⟨i1, i2⟩ := join_l l1 l2 hz k (by omega)
    have hk : k < l1.length := by omega
    have hk2 : k < (l1 ++ l2).length := by rw [List.length_append]; omega
    have hg : (l1 ++ l2)[k] = l1[k] := List.getElem_append_left hk
    have hE := hz k hk
    unfold rpE at hE
    rw [getD_at hk] at hE
    rw [rpSt_succ hk2, rpSt_succ hk, hg, i1]
    have key : (rlab l1[k] = false → rinstr (l1 ++ l2) l1[k] (rpSt l1 k).length = rinstr l1 l1[k] (rpSt l1 k).length) ∧ rpE (l1 ++ l2) k = 0 := by
      unfold rpE
      rw [getD_at hk2, hg, i1, List.take_append_of_le_length (by omega)]
      cases hr : rlab l1[k] with
      | true => rw [hr] at hE; exact ⟨fun h => (by cases h), hE⟩
      | false =>
        rw [hr] at hE
        simp only [cond_false] at hE ⊢
        obtain ⟨kk, ws, hL, hn, e⟩ := rinstr_inv hE
        obtain ⟨hL2, e2⟩ := insOf_l l2 hL
        have e3 := rinstr_of hL2 (rpSt l1 k).length
        rw [decide_eq_false hn, e2, ← e] at e3
        exact ⟨fun _ => e3, by rw [e3]; exact hE⟩
    refine ⟨?_, fun q hq => ?_⟩
    · cases hr : rlab l1[k] with
      | true => rfl
      | false => rw [key.1 hr]
    · by_cases e : q = k
      · rw [e]; exact key.2
      · exact i2 q (by omega)
theorem app_at (l1 l2 : List Bs) {j : Nat} (h : j < l2.length) : ∃ h2 : l1.length + j < (l1 ++ l2).length, (l1 ++ l2)[l1.length + j] = l2[j] :=
  ⟨by rw [List.length_append]; omega, by rw [List.getElem_append_right (by omega)]; simp⟩
theorem join_E (l1 l2 : List Bs) {j : Nat} (h : j < l2.length) (hz : rpE l2 j = 0) : rpE (l1 ++ l2) (l1.length + j) = 0 ∨ rpE (l1 ++ l2) (l1.length + j) = 11 ∨ (rlab l2[j] = false ∧ rpE (l1 ++ l2) (l1.length + j) = 2 ∧ (rpSt (l1 ++ l2) (l1.length + j)).length ≥ 1000) := by
  obtain ⟨h2, hg⟩ := app_at l1 l2 h
  unfold rpE at hz ⊢
  rw [getD_at h] at hz
  rw [getD_at h2, hg]
  cases hr : rlab l2[j] with
  | true =>
    rw [hr] at hz
    simp only [cond_true] at hz ⊢
    cases hn : rname l2[j].dropLast with
    | false => rw [hn] at hz; exact absurd hz (by simp)
    | true =>
      simp only [cond_true]
      cases ((l1 ++ l2).take (l1.length + j)).any fun l => decide (l = l2[j])
      · exact .inl rfl
      · exact .inr (.inl rfl)
  | false =>
    rw [hr] at hz
    simp only [cond_false] at hz ⊢
    obtain ⟨kk, ws, hL, hn, e⟩ := rinstr_inv hz
    obtain ⟨hL2, _⟩ := insOf_r l1 hL
    rw [rinstr_of hL2]
    by_cases hq : (((rpSt (l1 ++ l2) (l1.length + j)).length : Nat) : Int) ≥ 1000
    · rw [decide_eq_true hq]
      exact .inr (.inr ⟨trivial, rfl, by omega⟩)
    · rw [decide_eq_false hq]
      exact .inl rfl
theorem join_r (l1 l2 : List Bs) (hz : ∀ q, q < l2.length → rpE l2 q = 0) (h1 : rpSt (l1 ++ l2) l1.length = rpSt l1 l1.length) (hL : ∀ q, q < (l1 ++ l2).length → rpE (l1 ++ l2) q = 0) :
    ∀ j, j ≤ l2.length → rpSt (l1 ++ l2) (l1.length + j) = rpSt l1 l1.length ++ (rpSt l2 j).map (mv (nl l1 l1.length))
  | 0, _ => by simpa [rpSt] using h1
  | j + 1, h => by
    have ih := join_r l1 l2 hz h1 hL j (by omega)
    have hj : j < l2.length := by omega
    obtain ⟨h2, hg⟩ := app_at l1 l2 hj
    have hnd : ∀ l ∈ l2, rlab l = true → l ∉ l1 := fun l hl hr hm => by
      obtain ⟨q, hq, rfl⟩ := List.mem_iff_getElem.1 hl
      obtain ⟨h3, hg3⟩ := app_at l1 l2 hq
      have hE := hL _ h3
      unfold rpE at hE
      rw [getD_at h3, hg3, hr] at hE
      simp only [cond_true] at hE
      have ha : (((l1 ++ l2).take (l1.length + q)).any fun l => decide (l = l2[q])) = true := by
        rw [List.any_eq_true]
        refine ⟨l2[q], ?_, by simp⟩
        rw [List.take_length_add_append]
        exact List.mem_append_left _ hm
      rw [ha] at hE
      generalize rname l2[q].dropLast = b3 at *
      cases b3
      · exact absurd hE (by simp)
      · exact absurd hE (by simp)
    have hE := hz j hj
    have hE2 := hL _ h2
    unfold rpE at hE hE2
    rw [getD_at hj] at hE
    rw [getD_at h2, hg] at hE2
    rw [show l1.length + (j + 1) = l1.length + j + 1 from rfl, rpSt_succ h2, rpSt_succ hj, hg, ih]
    rw [ih] at hE2
    cases hr : rlab l2[j] with
    | true => rfl
    | false =>
      rw [hr] at hE hE2
      simp only [cond_false] at hE hE2 ⊢
      obtain ⟨kk, ws, hL1, hn, e⟩ := rinstr_inv hE
      obtain ⟨hL2, e2⟩ := insOf_r l1 hL1
      have e3 := rinstr_of hL2 ((rpSt l1 l1.length ++ (rpSt l2 j).map (mv (nl l1 l1.length))).length : Nat)
      rw [e3] at hE2 ⊢
      by_cases hq : (((rpSt l1 l1.length ++ (rpSt l2 j).map (mv (nl l1 l1.length))).length : Nat) : Int) ≥ 1000
      · rw [decide_eq_true hq] at hE2; exact absurd hE2 (by simp)
      · rw [decide_eq_false hq, e2 hnd, e]
        simp
theorem rparse_good {s : Bs} (h : (rparse s).2.2 = 0) : s.length ≤ 40000 ∧ rsplit 10 s = rlines s ++ [[]] ∧ (∀ q, q < (rlines s).length → rpE (rlines s) q = 0) ∧ rparse s = (rpSt (rlines s) (rlines s).length, 0, 0) := by
  obtain ⟨x, hs, _, _⟩ := lines_split s
  have hlx : (rsplit 10 s).getLast? = some x := by rw [hs]; simp
  have h' := h
  unfold rparse at h ⊢
  by_cases h4 : s.length > 40000
  · rw [decide_eq_true h4] at h; exact absurd h (by simp)
  · rw [decide_eq_false h4] at h ⊢
    simp only [cond_false] at h ⊢
    cases hb : bad1 (rpE (rlines s)) (rlines s).length with
    | some k =>
      rw [hb] at h
      exact absurd h ((bad1_inv.2 k hb).2.2)
    | none =>
      rw [hb, hlx] at h
      by_cases hx1 : x = []
      · rw [hx1] at hs hlx
        exact ⟨by omega, hs, bad1_inv.1 hb, by rw [hlx]; rfl⟩
      · rw [decide_eq_false (by simpa using hx1)] at h
        exact absurd h (by simp)
theorem rparse_bad {s : Bs} (h : (rparse s).2.2 ≠ 0) : (rparse s).1 = [] := by
  unfold rparse at h ⊢
  generalize decide (s.length > 40000) = b3 at *
  cases b3
  · simp only [cond_false] at h ⊢
    cases hb : bad1 (rpE (rlines s)) (rlines s).length with
    | some k => rfl
    | none =>
      rw [hb] at h
      simp only at h ⊢
      cases hx : decide ((rsplit 10 s).getLast? = some [])
      · rfl
      · rw [hx] at h; exact absurd rfl h
  · rfl
theorem join_eq (s t : Bs) (hs : s.length ≤ 3000) (ht : t.length ≤ 3000) (h1 : (rparse s).2.2 = 0) (h2 : (rparse t).2.2 = 0) :
    rparse (s ++ t) = ((rparse s).1 ++ (rparse t).1.map (mv ((rparse s).1.length : Nat)), 0, 0) ∨ (∃ k : Nat, k ≤ 6000 ∧ rparse (s ++ t) = ([], (k : Int) + 1, 11)) ∨ ∃ k : Nat, k ≤ 6000 ∧ rparse (s ++ t) = ([], (k : Int) + 1, 2) ∧ (rparse s).1.length + (rparse t).1.length > 1000 := by
  obtain ⟨_, s1, s2, s3⟩ := rparse_good h1
  obtain ⟨_, t1, t2, t3⟩ := rparse_good h2
  have hst : rsplit 10 (s ++ t) = (rlines s ++ rlines t) ++ [[]] := by
    rw [rsplit_eq] at s1 t1 ⊢
    rw [cuts_app 10 t s _ s1, t1, List.append_assoc]
  have hl : rlines (s ++ t) = rlines s ++ rlines t := by
    show (rsplit 10 (s ++ t)).dropLast = _
    rw [hst, List.dropLast_concat]
  have hll : (rlines s ++ rlines t).length ≤ 6000 := by
    have := (spSt_le 10 (s ++ t) (s ++ t).length).2
    have h9 : (rsplit 10 (s ++ t)).length ≤ 6001 := by
      unfold rsplit
      rw [List.length_append] at this ⊢
      simp only [List.length_append, List.length_cons, List.length_nil] at this ⊢
      omega
    rw [hst, List.length_append] at h9
    simp at h9 ⊢
    omega
  rw [s3, t3]
  generalize rlines s = l1 at *
  generalize rlines t = l2 at *
  obtain ⟨a1, a2⟩ := join_l l1 l2 s2 l1.length (Nat.le_refl _)
  have hL4 : decide ((s ++ t).length > 40000) = false := by rw [List.length_append]; simp; omega
  have hlx : (rsplit 10 (s ++ t)).getLast? = some [] := by rw [hst]; simp
  have hnl := rpSt_nl (l1 ++ l2) (l1 ++ l2).length (Nat.le_refl _)
  have hn1 := rpSt_nl l1 l1.length (Nat.le_refl _)
  have hn2 := rpSt_nl l2 l2.length (Nat.le_refl _)
  unfold rparse
  rw [hL4, hl, hlx]
  simp only [cond_false]
  cases hb : bad1 (rpE (l1 ++ l2)) (l1 ++ l2).length with
  | none =>
    left
    have e := join_r l1 l2 t2 a1 (bad1_inv.1 hb) l2.length (Nat.le_refl _)
    simp only [decide_true, cond_true]
    rw [List.length_append, e, hn1]
  | some k =>
    right
    obtain ⟨b1, b2, b3⟩ := bad1_inv.2 k hb
    have hk : ¬ k < l1.length := fun hk => b3 (a2 k hk)
    obtain ⟨j, rfl⟩ : ∃ j, k = l1.length + j := ⟨k - l1.length, by omega⟩
    have hj : j < l2.length := by rw [List.length_append] at b1; omega
    rcases join_E l1 l2 hj (t2 j hj) with h | h | ⟨hr, h, h3⟩
    · exact absurd h b3
    · left
      refine ⟨l1.length + j, by omega, ?_⟩
      simp only
      rw [h]
    · right
      refine ⟨l1.length + j, by omega, ?_, ?_⟩
      · simp only
        rw [h]
      · have hk2 := rpSt_nl (l1 ++ l2) (l1.length + j) (by omega)
        obtain ⟨h4, hg⟩ := app_at l1 l2 hj
        have hs2 := nl_succ h4
        rw [hg, hr] at hs2
        simp only [cond_false] at hs2
        have hm := nl_mono (l1 ++ l2) (show l1.length + j + 1 ≤ l1.length + l2.length by omega)
        rw [nl_right] at hm
        omega
end Go.AL
