/-
  The reference's words on texts: Split, label, isName. No conditions.
-/
import Derived.Test.YtaoiflliakjhdaaDoorU10
set_option linter.unusedVariables false
set_option linter.unusedSimpArgs false
set_option maxRecDepth 100000
namespace Go.AL
open Go Go.Proofs
attribute [local irreducible] J

theorem u8_eq (d c : UInt8) : ((d.toNat : Int) == (c.toNat : Int)) = decide (d = c) := by
  rw [Bool.eq_iff_iff]
  simp
  exact ⟨fun h => UInt8.toNat_inj.1 (by omega), fun h => by rw [h]⟩
theorem str_at {s : Bs} {i : Nat} {c : UInt8} (h : s[i]? = some c) : (⟨s.toArray⟩ : ByteArray)[((i : Int)).toNat]? = some c := by
  obtain ⟨hi, hc⟩ := List.getElem?_eq_some_iff.1 h
  have hsz : ((i : Int)).toNat < (⟨s.toArray⟩ : ByteArray).size := hi
  rw [getElem?_pos (⟨s.toArray⟩ : ByteArray) _ hsz]
  rw [← hc]; rfl
section
variable {P : Program} [T : TyTab P] {F : Fr} {H : List AObj} {dst : Option Tmp} {t : TypeId} {x o o' : Operand} {type : TypeId} {pos : String} {after : Array Edge} {guard : Option (Nat × Bool)} {s : Bs} {r' : TyRow}
theorem cutB {n1 n2 : Int} (a b : Nat) (hx : ev F x = some (sv s)) (ho : ev F o = some (.v (.int .i64 n1))) (ho' : ev F o' = some (.v (.int .i64 n2))) (ht : tfind T.tab t = some r') (hd : r'.d = .string) (hn1 : n1 = a) (hn2 : n2 = b) (hab : a ≤ b) (hb : b ≤ s.length) :
    DSem P .p ⟨dst, .slice t x (some o) (some o') none, type, pos, after, guard⟩ F H (sv ((s.take b).drop a)) H := by
  have := cut_str (P := P) (dst := dst) (type := type) (pos := pos) (after := after) (guard := guard) (H := H) (lo := some o) (hi := some o') (l := n1) (h := n2) hx ⟨.i64, ho⟩ ⟨.i64, ho'⟩ ht hd (by omega) (by omega) (by simp [ByteArray.size]; omega)
  rw [hn1, hn2] at this
  have e : AVal.v (.string ((⟨s.toArray⟩ : ByteArray).extract a b)) = sv ((s.take b).drop a) := by
    unfold sv S
    congr 2
    apply ByteArray.ext
    apply Array.ext'
    simp [ByteArray.data_extract, List.drop_take]
  rw [← e]
  simpa [hn1, hn2] using this
end

def spSt (c : UInt8) (s : Bs) : Nat → List Bs × Nat
  | 0 => ([], 0)
  | i + 1 => cond (decide (s.getD i 0 = c)) ((spSt c s i).1 ++ [(s.take i).drop (spSt c s i).2], i + 1) (spSt c s i)
def rsplit (c : UInt8) (s : Bs) : List Bs := (spSt c s s.length).1 ++ [s.drop (spSt c s s.length).2]
theorem spSt_le (c : UInt8) (s : Bs) : ∀ i, (spSt c s i).2 ≤ i ∧ (spSt c s i).1.length ≤ i
  | 0 => ⟨Nat.le_refl _, Nat.le_refl _⟩
  | i + 1 => by
    have ih := spSt_le c s i
    unfold spSt
    cases decide (s.getD i 0 = c) <;> simp <;> omega
theorem rsplit_ok (s : Bs) (c : UInt8) (hs : s.length ≤ 900000) : ACalls Tryd.prog 26 [sv s, .v (.int .u8 c.toNat)] [] (one (.sl ((rsplit c s).map sv)) []) := by
  refine jcalls Tryd.func26 rfl (by kernel_rfl) Tryd.ntmps26 rfl rfl (fun w0 β0 ext hβ => ?_)
  repeat (first | refine js rfl ?_ | (refine jdraw ?_ ?_; · kernel_rfl))
  refine jbo rfl rfl rfl rfl rfl rfl rfl rfl ?_
  repeat (first | refine js rfl ?_ | (refine jdraw ?_ ?_; · kernel_rfl) | refine jbu rfl rfl rfl rfl ?_)
  refine jloopI (fun i : Nat => i ≤ s.length) [0, 1, 5, 6, 7] (fun i => [sv s, .v (.int .u8 c.toNat), .arr 0 ((spSt c s i).1.length + 1), .v (.int .i64 ((spSt c s i).2 : Int)), .v (.int .i64 (i : Int))])
    (fun i => [.arr ((spSt c s i).1.length + 1) 9 ty9.size ((spSt c s i).1.map sv)]) (fun i => s.length - i) 0 (Nat.zero_le _) rfl rfl (fun i hi => ?_)
  have hle := spSt_le c s i
  have hl : ByteArray.size ⟨s.toArray⟩ = s.length := rfl
  repeat (first | refine js rfl ?_ | (refine jdraw ?_ ?_; · kernel_rfl) | refine jbu rfl rfl rfl rfl ?_)
  refine jc rfl rfl rfl (fun h => ?_) (fun h => ?_)
  · have h := of_decide_eq_true h
    have hi2 : i < s.length := by rw [hl] at h; omega
    obtain ⟨d, hd⟩ : ∃ d, s[i]? = some d := ⟨_, List.getElem?_eq_getElem hi2⟩
    have hdd : s.getD i 0 = d := by simp [List.getD, hd]
    have hat := str_at hd
    have hnx := idx_next hi2 (by omega)
    have hs1 : spSt c s (i + 1) = cond (decide (s.getD i 0 = c)) ((spSt c s i).1 ++ [(s.take i).drop (spSt c s i).2], i + 1) (spSt c s i) := rfl
    rw [hdd] at hs1
    have he : ((d.toNat : Int) == (c.toNat : Int)) = decide (d = c) := by
      rw [Bool.eq_iff_iff]
      simp
      exact ⟨fun h => UInt8.toNat_inj.1 (by omega), fun h => by rw [h]⟩
    generalize spSt c s i = st at *
    obtain ⟨o, f⟩ := st
    simp only at hle
    repeat (first | refine js rfl ?_ | (refine jdraw ?_ ?_; · kernel_rfl) | refine jbu rfl rfl rfl rfl ?_ | refine jo rfl rfl (index_str rfl rfl rfl rfl (Int.natCast_nonneg i) hat) rfl rfl ?_)
    rw [he]
    cases hc : decide (d = c) with
    | true =>
      rw [hc] at hs1
      repeat (first | refine jo rfl rfl (append_enc (enc := sv) (l := o) ((s.take i).drop f) rfl rfl rfl rfl rfl rfl rfl rfl rfl rfl (fun _ => ⟨rfl, rfl⟩) rfl (by omega) rfl rfl) rfl rfl ?_ | refine js rfl ?_ | (refine jdraw ?_ ?_; · kernel_rfl) | refine jbu rfl rfl rfl rfl ?_ | refine jo rfl rfl (cutB f i rfl rfl rfl rfl rfl rfl rfl hle.1 (by omega)) rfl rfl ?_)
      refine jnextI (i + 1) (by omega) ?_ ?_ (by omega)
      · rw [hs1]
        simp only [cond_true, List.length_append, hnx]
        rfl
      · rw [hs1]
        simp only [cond_true, List.length_append]
        rfl
    | false =>
      rw [hc] at hs1
      repeat (first | refine js rfl ?_ | (refine jdraw ?_ ?_; · kernel_rfl) | refine jbu rfl rfl rfl rfl ?_)
      refine jnextI (i + 1) (by omega) ?_ ?_ (by omega)
      · rw [hs1, ← hnx]; rfl
      · rw [hs1]; rfl
  · have h := of_decide_eq_false h
    have hi2 : i = s.length := by rw [hl] at h; omega
    subst hi2
    unfold rsplit
    generalize spSt c s s.length = st at *
    obtain ⟨o, f⟩ := st
    simp only at hle
    repeat (first | refine jo rfl rfl (append_enc (enc := sv) (l := o) (s.drop f) rfl rfl rfl rfl rfl rfl rfl rfl rfl rfl (fun _ => ⟨rfl, rfl⟩) rfl (by omega) rfl rfl) rfl rfl ?_ | refine js rfl ?_ | (refine jdraw ?_ ?_; · kernel_rfl) | refine jbu rfl rfl rfl rfl ?_ | refine jo rfl rfl (cutL f rfl rfl rfl rfl rfl hle.1) rfl rfl ?_)
    exact jr rfl (finish0_arr rfl) rfl rfl

/-- is a line one of a label? -/
def rlab (s : Bs) : Bool := match s.getLast? with | some c => decide (c = 58) | none => false
theorem rlab_ok (s : Bs) (hs : s.length ≤ 1000000) : ACalls Tryd.prog 27 [sv s] [] (one (bv (rlab s)) []) := by
  have hl : ByteArray.size ⟨s.toArray⟩ = s.length := rfl
  unfold rlab
  cases hg : s.getLast? with
  | none =>
    have h0 : s = [] := List.getLast?_eq_none_iff.1 hg
    subst h0
    unfold sv S
    refine jcalls Tryd.func27 rfl (by kernel_rfl) Tryd.ntmps27 rfl rfl (fun w0 β0 ext hβ => ?_)
    repeat (first | refine js rfl ?_ | (refine jdraw ?_ ?_; · kernel_rfl) | refine jbu rfl rfl rfl rfl ?_)
    exact jr rfl rfl rfl rfl
  | some c =>
    have hne : s ≠ [] := fun h => by subst h; simp at hg
    have hpos : 0 < s.length := by cases s with | nil => exact absurd rfl hne | cons => simp
    have hd : s[s.length - 1]? = some c := by rw [← hg, List.getLast?_eq_getElem?]
    have hgt : decide ((ByteArray.size ⟨s.toArray⟩ : Int) > 0) = true := decide_eq_true (by rw [hl]; omega)
    have hw : IntKind.i64.wrap ((ByteArray.size ⟨s.toArray⟩ : Int) - 1) = ((s.length - 1 : Nat) : Int) := by rw [hl, wrap_id (by omega) (by omega)]; omega
    have hat := str_at hd
    have he : ((c.toNat : Int) == 58) = decide (c = 58) := u8_eq c 58
    refine jcalls Tryd.func27 rfl (by kernel_rfl) Tryd.ntmps27 rfl rfl (fun w0 β0 ext hβ => ?_)
    repeat (first | refine js rfl ?_ | (refine jdraw ?_ ?_; · kernel_rfl) | refine jbu rfl rfl rfl rfl ?_)
    rw [hgt]
    repeat (first | refine js rfl ?_ | (refine jdraw ?_ ?_; · kernel_rfl) | refine jbu rfl rfl rfl rfl ?_)
    rw [hw]
    repeat (first | refine js rfl ?_ | (refine jdraw ?_ ?_; · kernel_rfl) | refine jbu rfl rfl rfl rfl ?_ | refine jo rfl rfl (index_str rfl rfl rfl rfl (Int.natCast_nonneg _) hat) rfl rfl ?_)
    simp only
    rw [← he]
    exact jr rfl rfl rfl rfl
end Go.AL
