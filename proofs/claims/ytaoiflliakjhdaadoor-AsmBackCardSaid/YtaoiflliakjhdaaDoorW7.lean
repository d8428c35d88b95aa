/-
  asm.targets: the walk. No conditions.
-/
import Derived.Test.YtaoiflliakjhdaaDoorW6
set_option linter.unusedVariables false
set_option linter.unusedSimpArgs false
set_option maxRecDepth 100000
namespace Go.AL
open Go Go.Proofs
attribute [local irreducible] J

abbrev Mn := List (Int × Int)
def encN (m : Mn) : List (Value × Value) := m.map fun p => (.int .i64 p.1, .int .i64 p.2)
theorem encN_find (m : Mn) (a : Int) : MFind (vals (encN m)) (.int .i64 a) ((m.lookup a).map iv) := by
  induction m with
  | nil => rfl
  | cons p m ih =>
    obtain ⟨q, n⟩ := p
    by_cases h : q = a
    · subst h
      exact .inl ⟨rfl, by simp [List.lookup, iv]⟩
    · refine .inr ⟨fun e => h (by injection e), ?_⟩
      have : List.lookup a ((q, n) :: m) = List.lookup a m := by
        simp only [List.lookup]
        have : (a == q) = false := by simp; exact fun e => h e.symm
        rw [this]
      rw [this]
      exact ih
theorem encN_keys (m : Mn) : MKeys (.int .i64) (vals (encN m)) := by
  intro p hp
  obtain ⟨q, hq, rfl⟩ := List.mem_map.1 hp
  obtain ⟨q', _, rfl⟩ := List.mem_map.1 hq
  rfl
def cntN (m : Mn) (s : Int) : Int := (m.lookup s).getD 0
def bumpN : Mn → Int → Mn
  | [], s => [(s, 1)]
  | (k, n) :: m, s => cond (decide (k = s)) ((s, n + 1) :: m) ((k, n) :: bumpN m s)
theorem bumpN_put : ∀ (m : Mn) (s : Int), MPut (vals (encN m)) (.int .i64 s) (iv (cntN m s + 1)) (vals (encN (bumpN m s)))
  | [], s => rfl
  | (k, n) :: m, s => by
    by_cases h : k = s
    · subst h
      have e1 : bumpN ((k, n) :: m) k = (k, n + 1) :: m := by simp [bumpN]
      have e2 : cntN ((k, n) :: m) k = n := by simp [cntN, List.lookup]
      rw [e1, e2]
      exact .inl ⟨rfl, rfl⟩
    · have e1 : bumpN ((k, n) :: m) s = (k, n) :: bumpN m s := by simp [bumpN, h]
      have e2 : cntN ((k, n) :: m) s = cntN m s := by
        have : (s == k) = false := by simp; exact fun e => h e.symm
        simp [cntN, List.lookup, this]
      rw [e1, e2]
      exact .inr ⟨fun e => h (by injection e), _, rfl, bumpN_put m s⟩
theorem bumpN_cnt : ∀ (m : Mn) (s t : Int), cntN (bumpN m s) t = cond (decide (s = t)) (cntN m s + 1) (cntN m t)
  | [], s, t => by
    by_cases h : s = t
    · subst h; simp [bumpN, cntN, List.lookup]
    · have : (t == s) = false := by simp; exact fun e => h e.symm
      simp [bumpN, cntN, List.lookup, this, h]
  | (k, n) :: m, s, t => by
    have ih := bumpN_cnt m s t
    by_cases h : k = s
    · subst h
      by_cases h2 : k = t
      · subst h2; simp [bumpN, cntN, List.lookup]
      · have : (t == k) = false := by simp; exact fun e => h2 e.symm
        simp [bumpN, cntN, List.lookup, this, h2]
    · have hs : (s == k) = false := by simp; exact fun e => h e.symm
      have e1 : bumpN ((k, n) :: m) s = (k, n) :: bumpN m s := by simp [bumpN, h]
      rw [e1]
      by_cases h2 : k = t
      · subst h2
        have h3 : ¬ s = k := fun e => h e.symm
        simp [cntN, List.lookup, h3]
      · have ht : (t == k) = false := by simp; exact fun e => h2 e.symm
        have e2 : ∀ mm : Mn, cntN ((k, n) :: mm) t = cntN mm t := fun mm => by simp [cntN, List.lookup, ht]
        have e3 : cntN ((k, n) :: m) s = cntN m s := by simp [cntN, List.lookup, hs]
        rw [e2, e2, e3]; exact ih
theorem cntN_val (m : Mn) (s : Int) : (cond false (.tup [((m.lookup s).map iv).getD (zeroA ty3), bv ((m.lookup s).map iv).isSome]) (((m.lookup s).map iv).getD (zeroA ty3))) = iv (cntN m s) := by
  unfold cntN
  cases m.lookup s <;> rfl
/-- where an instruction leads -/
def tOf (i : Ins) : Option Int := cond (decide (kdO i.op.toNat = [116])) (some i.a) (cond (decide (kdO i.op.toNat = [114, 116])) (some i.b) none)
theorem kd_t : ∀ k : Nat, k < 27 → (Lib.indexByte (kdO k) 116 = -1 ∧ (kdO k).all (fun c => decide (c ≠ 116)) = true) ∨ (Lib.indexByte (kdO k) 116 = 0 ∧ kdO k = [116]) ∨ (Lib.indexByte (kdO k) 116 = 1 ∧ kdO k = [114, 116]) := by decide +kernel
theorem hasT_of {i : Ins} (h : i.op.toNat < 27) (n : Int) : hasT i n = decide (tOf i = some n) := by
  unfold hasT tOf vals3
  rcases kd_t _ h with ⟨_, h1⟩ | ⟨_, h1⟩ | ⟨_, h1⟩
  · have e1 : ¬ kdO i.op.toNat = [116] := fun e => by rw [e] at h1; exact absurd h1 (by decide)
    have e2 : ¬ kdO i.op.toNat = [114, 116] := fun e => by rw [e] at h1; exact absurd h1 (by decide)
    rw [decide_eq_false e1, decide_eq_false e2]
    simp only [cond_false, reduceCtorEq, decide_false]
    rw [List.any_eq_false]
    intro p hp
    have := List.all_eq_true.1 h1 _ (List.of_mem_zip hp).1
    simp only [decide_eq_true_eq] at this
    simp [this]
  · rw [h1]; simp
  · rw [h1]; simp
def tSt (l : List Ins) (k : Nat) : Mn := (l.take k).foldl (fun m i => match tOf i with | some v => bumpN m v | none => m) []
theorem tSt_succ {l : List Ins} {k : Nat} (h : k < l.length) : tSt l (k + 1) = match tOf l[k] with | some v => bumpN (tSt l k) v | none => tSt l k := by
  unfold tSt
  rw [List.take_succ_eq_append_getElem h, List.foldl_append]; rfl
theorem tSt_cnt {l : List Ins} (hr : ∀ i ∈ l, i.op.toNat < 27) : ∀ k, k ≤ l.length → ∀ n, 0 ≤ cntN (tSt l k) n ∧ cntN (tSt l k) n ≤ k ∧ decide (cntN (tSt l k) n > 0) = (l.take k).any (hasT · n)
  | 0, _, n => by simp [tSt, cntN]
  | k + 1, h, n => by
    have hk : k < l.length := by omega
    have ih := tSt_cnt hr k (by omega)
    obtain ⟨i1, i2, i3⟩ := ih n
    have hh := hasT_of (hr l[k] (List.getElem_mem hk)) n
    rw [tSt_succ hk, List.take_succ_eq_append_getElem hk, List.any_append, ← i3]
    simp only [List.any_cons, List.any_nil, Bool.or_false]
    rw [hh]
    cases ht : tOf l[k] with
    | none => exact ⟨i1, by simp only; omega, by simp⟩
    | some v =>
      simp only
      rw [bumpN_cnt]
      obtain ⟨j1, j2, _⟩ := ih v
      by_cases e : v = n
      · subst e
        rw [decide_eq_true rfl]
        simp only [cond_true, decide_true, Bool.or_true, decide_eq_true_eq]
        exact ⟨by omega, by omega, by omega⟩
      · rw [decide_eq_false e]
        have : ¬ some v = some n := fun h => e (by injection h)
        rw [decide_eq_false this, Bool.or_false]
        exact ⟨i1, by simp only [cond_false]; omega, rfl⟩
def tgt (l : List Ins) : Mn := tSt l l.length
theorem tgt_is {l : List Ins} (hr : ∀ i ∈ l, i.op.toNat < 27) (n : Int) : decide (cntN (tgt l) n > 0) = isT l n := by
  have := (tSt_cnt hr l.length (Nat.le_refl _) n).2.2
  rw [List.take_length] at this
  exact this
theorem targets_ok (l : List Ins) (hl : l.length ≤ 1000000) (hr : ∀ i ∈ l, 0 ≤ i.op ∧ i.op < 27) : ACalls Tryd.prog 31 [encIs l] [] (one (.mp 0) [.vmap (encN (tgt l))]) := by
  have hop := operations_ok
  have hr' : ∀ i ∈ l, i.op.toNat < 27 := fun i hi => by have := hr i hi; omega
  unfold encIs
  refine jcalls Tryd.func31 rfl (by kernel_rfl) Tryd.ntmps31 rfl rfl (fun w0 β0 ext hβ => ?_)
  repeat (first | refine js rfl ?_ | (refine jdraw ?_ ?_; · kernel_rfl) | refine jbu rfl rfl rfl rfl ?_ | refine jo rfl rfl (map_newV) rfl rfl ?_)
  repeat (first | refine js rfl ?_ | (refine jdraw ?_ ?_; · kernel_rfl) | refine jbu rfl rfl rfl rfl ?_ | refine jv hop rfl rfl rfl rfl rfl ?_)
  refine jloop 2 (fun k : Nat => k ≤ l.length) [3, 4, 10, 11, 12] (fun k => [.mp 0, .ptr 1 0, .sl (l.map encIns), .v (.int .i64 ((l.map encIns).length : Int)), .v (.int .i64 (k : Int))])
    (fun k => [.vmap (encN (tSt l k)), .box 60 opsC]) (fun k => l.length - k) 0 (by rw [hβ]; decide) (Nat.zero_le _) rfl rfl (fun k hk => ?_)
  repeat (first | refine js rfl ?_ | (refine jdraw ?_ ?_; · kernel_rfl) | refine jbu rfl rfl rfl rfl ?_)
  refine jc rfl rfl rfl (fun h => ?_) (fun h => ?_)
  · have h := of_decide_eq_true h
    rw [List.length_map] at h
    have hk2 : k < l.length := by omega
    have hat := at_nat l k hk2
    have hnx := idx_next hk2 (by omega)
    have hst := tSt_succ hk2
    have hop2 := hr l[k] (List.getElem_mem hk2)
    have hcn := tSt_cnt hr' k hk
    repeat (first | refine js rfl ?_ | (refine jdraw ?_ ?_; · kernel_rfl) | refine jbu rfl rfl rfl rfl ?_ | refine jo rfl rfl (index_at rfl rfl rfl rfl rfl rfl rfl rfl (Int.natCast_nonneg k) h) rfl rfl ?_)
    rw [hat]
    generalize l[k] = i at *
    obtain ⟨op, a, b, c⟩ := i
    obtain ⟨q, rfl⟩ : ∃ q : Nat, op = q := ⟨op.toNat, by simp only at hop2; omega⟩
    have hq : q < 27 := by simp only at hop2; omega
    have hkd := ops_kind q hq
    have hib := indexByte_ok (kdO q) 116
    have hopn := operands_ok (q : Int) a b c
    have hkt := kd_t q hq
    unfold tOf at hst
    simp only at hst
    rw [show ((q : Int)).toNat = q from Int.toNat_natCast q] at hst
    rw [show (at' opsT (q : Int)).2 = kdO q from rfl] at hkd
    generalize kdO q = kd at *
    repeat (first | refine js rfl ?_ | (refine jdraw ?_ ?_; · kernel_rfl) | refine jbu rfl rfl rfl rfl ?_ | refine jo rfl rfl (index_arr rfl rfl rfl rfl rfl (by omega) (by omega)) rfl rfl ?_ | refine jo rfl rfl (load_dsem rfl rfl rfl hkd) rfl rfl ?_ | refine jv hib rfl rfl rfl rfl rfl ?_)
    rcases hkt with ⟨e1, h1⟩ | ⟨e1, h1⟩ | ⟨e1, h1⟩
    · rw [e1]
      have d1 : ¬ kd = [116] := fun e => by rw [e] at h1; exact absurd h1 (by decide)
      have d2 : ¬ kd = [114, 116] := fun e => by rw [e] at h1; exact absurd h1 (by decide)
      rw [decide_eq_false d1, decide_eq_false d2] at hst
      simp only [cond_false] at hst
      repeat (first | refine js rfl ?_ | (refine jdraw ?_ ?_; · kernel_rfl) | refine jbu rfl rfl rfl rfl ?_)
      refine jnext (k + 1) (by omega) (by omega) rfl rfl rfl ?_ ?_
      · rw [hnx]
      · rw [hst]; rfl
    · rw [e1]
      rw [decide_eq_true h1] at hst
      simp only [cond_true] at hst
      obtain ⟨c1, c2, _⟩ := hcn a
      have hf := encN_find (tSt l k) a
      have hks := encN_keys (tSt l k)
      have hpu := bumpN_put (tSt l k) a
      have hval := cntN_val (tSt l k) a
      have hw : IntKind.i64.wrap (cntN (tSt l k) a + 1) = cntN (tSt l k) a + 1 := wrap_id (by omega) (by omega)
      generalize hcv : cntN (tSt l k) a = cv at *
      repeat (first | refine js rfl ?_ | (refine jdraw ?_ ?_; · kernel_rfl) | refine jbu rfl rfl rfl rfl ?_ | refine jv hopn rfl rfl rfl rfl rfl ?_ | refine jo rfl rfl (index_agg rfl rfl rfl rfl rfl (by omega) (by omega) rfl) rfl rfl ?_ | refine jo rfl rfl (map_get rfl rfl rfl rfl rfl rfl rfl rfl rfl rfl hks hf hval) rfl rfl ?_)
      rw [hw]
      repeat (first | refine js rfl ?_ | (refine jdraw ?_ ?_; · kernel_rfl) | refine jbu rfl rfl rfl rfl ?_ | refine jo rfl rfl (map_put (mo' := .vmap (encN (bumpN (tSt l k) a))) (.inl rfl) rfl rfl rfl rfl rfl rfl rfl rfl rfl rfl hks hpu rfl) rfl rfl ?_)
      refine jnext (k + 1) (by omega) (by omega) rfl rfl rfl ?_ ?_
      · rw [hnx]
      · rw [hst]; rfl
    · rw [e1]
      have d1 : ¬ kd = [116] := fun e => by rw [h1] at e; exact absurd e (by decide)
      rw [decide_eq_false d1, decide_eq_true h1] at hst
      simp only [cond_true, cond_false] at hst
      obtain ⟨c1, c2, _⟩ := hcn b
      have hf := encN_find (tSt l k) b
      have hks := encN_keys (tSt l k)
      have hpu := bumpN_put (tSt l k) b
      have hval := cntN_val (tSt l k) b
      have hw : IntKind.i64.wrap (cntN (tSt l k) b + 1) = cntN (tSt l k) b + 1 := wrap_id (by omega) (by omega)
      generalize hcv : cntN (tSt l k) b = cv at *
      repeat (first | refine js rfl ?_ | (refine jdraw ?_ ?_; · kernel_rfl) | refine jbu rfl rfl rfl rfl ?_ | refine jv hopn rfl rfl rfl rfl rfl ?_ | refine jo rfl rfl (index_agg rfl rfl rfl rfl rfl (by omega) (by omega) rfl) rfl rfl ?_ | refine jo rfl rfl (map_get rfl rfl rfl rfl rfl rfl rfl rfl rfl rfl hks hf hval) rfl rfl ?_)
      rw [hw]
      repeat (first | refine js rfl ?_ | (refine jdraw ?_ ?_; · kernel_rfl) | refine jbu rfl rfl rfl rfl ?_ | refine jo rfl rfl (map_put (mo' := .vmap (encN (bumpN (tSt l k) b))) (.inl rfl) rfl rfl rfl rfl rfl rfl rfl rfl rfl rfl hks hpu rfl) rfl rfl ?_)
      refine jnext (k + 1) (by omega) (by omega) rfl rfl rfl ?_ ?_
      · rw [hnx]
      · rw [hst]; rfl
  · have h := of_decide_eq_false h
    rw [List.length_map] at h
    have hk2 : k = l.length := by omega
    subst hk2
    repeat (first | refine js rfl ?_ | (refine jdraw ?_ ?_; · kernel_rfl) | refine jbu rfl rfl rfl rfl ?_)
    exact jret [0] true rfl rfl rfl ⟨rfl, rfl⟩
end Go.AL
