/-
  The bounds of what is read. No model.
-/
import Derived.Test.YtaoiflliakjhdaaDoorV17
set_option linter.unusedVariables false
set_option linter.unusedSimpArgs false
namespace Go.AL
open Go Go.Proofs

def bd (v : Int) : Prop := -1000000000 ≤ v ∧ v ≤ 1000000000
theorem bd_zero : bd 0 := ⟨by decide, by decide⟩
theorem rdR_bd (s : Bs) : bd (rdR s).1 := by
  unfold rdR
  split
  · rename_i a b
    cases decide (a.toNat = 114)
    · exact bd_zero
    · cases inn b.toNat 48 55
      · exact bd_zero
      · have := b.toNat_lt
        simp only [cond_true]
        exact ⟨by omega, by omega⟩
  · exact bd_zero
theorem ropN_bd (s : Bs) : bd (ropN s).1 := by
  unfold ropN
  cases h : (rnum s).2 with
  | false => exact bd_zero
  | true =>
    obtain ⟨v, hv⟩ := can_rnum h
    rw [rnum_can hv]
    exact hv.2
theorem ropT_bd (ls : List Bs) (s : Bs) (hl : ls.length ≤ 1000000000) : bd (ropT ls s).1 := by
  unfold ropT
  cases rname s
  · exact bd_zero
  · unfold rtarget
    cases hf : ls.findIdx? (fun l => decide (l = s ++ [58])) with
    | none => exact bd_zero
    | some i =>
      obtain ⟨hi, _⟩ := List.findIdx?_eq_some_iff_getElem.1 hf
      have := nl_le ls i
      exact ⟨by simp; omega, by simp; omega⟩
theorem rop_bd (ls : List Bs) (c : UInt8) (s : Bs) (hl : ls.length ≤ 1000000000) : bd (rop ls c s).1 := by
  unfold rop
  cases decide (c = 114)
  · cases decide (c = 110)
    · exact ropT_bd ls s hl
    · exact ropN_bd s
  · exact rdR_bd s
def ibd (i : Ins) : Prop := (0 ≤ i.op ∧ i.op < 27) ∧ bd i.a ∧ bd i.b ∧ bd i.c
theorem insOf_bd {ls : List Bs} {l : Bs} {k : Nat} {ws : List Bs} (h : LineOk ls l k ws) (hl : ls.length ≤ 1000000000) : ibd (insOf ls k ws) := by
  obtain ⟨hk, hw, hln, ha⟩ := h
  have hg : ∀ q, bd ((rAll ls (at' opsT (k : Int)).2 ws).1.getD q 0) := fun q => by
    rw [rAll_get hln ha]
    cases decide (q < (at' opsT (k : Int)).2.length)
    · exact bd_zero
    · exact rop_bd _ _ _ hl
  exact ⟨⟨by simp [insOf], by simp [insOf]; omega⟩, hg 0, hg 1, hg 2⟩
theorem rpSt_bd (ls : List Bs) (hl : ls.length ≤ 1000000000) (hz : ∀ q, q < ls.length → rpE ls q = 0) : ∀ k, k ≤ ls.length → ∀ i ∈ rpSt ls k, ibd i
  | 0, _, i, h => absurd h (by simp [rpSt])
  | k + 1, hk, i, h => by
    have hk2 : k < ls.length := by omega
    have ih := rpSt_bd ls hl hz k (by omega)
    have hE := hz k hk2
    unfold rpE at hE
    rw [getD_at hk2] at hE
    rw [rpSt_succ hk2] at h
    cases hr : rlab ls[k] with
    | true => rw [hr] at h; exact ih i h
    | false =>
      rw [hr] at h hE
      simp only [cond_false] at h hE
      rcases List.mem_append.1 h with h | h
      · exact ih i h
      · obtain ⟨kk, ws, hL, hn, e⟩ := rinstr_inv hE
        rw [e] at h
        rw [List.mem_singleton.1 h]
        exact insOf_bd hL hl
theorem rparse_bd (s : Bs) (hs : s.length ≤ 900000) : ∀ i ∈ (rparse s).1, ibd i := by
  intro i hi
  by_cases h : (rparse s).2.2 = 0
  · obtain ⟨_, _, h2, h3⟩ := rparse_good h
    rw [h3] at hi
    have hll : (rlines s).length ≤ 1000000000 := by
      have := (spSt_le 10 s s.length).2
      unfold rlines rsplit
      rw [List.length_dropLast]
      simp
      omega
    exact rpSt_bd _ hll h2 _ (Nat.le_refl _) i hi
  · rw [rparse_bad h] at hi
    exact absurd hi (by simp)
end Go.AL
