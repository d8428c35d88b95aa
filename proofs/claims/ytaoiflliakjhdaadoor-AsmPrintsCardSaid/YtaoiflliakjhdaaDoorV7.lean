/-
  The reference's Parse: the walk. No conditions.
-/
import Derived.Test.YtaoiflliakjhdaaDoorV6
set_option linter.unusedVariables false
set_option linter.unusedSimpArgs false
set_option maxRecDepth 100000
namespace Go.AL
open Go Go.Proofs
attribute [local irreducible] J

def rpSt (ls : List Bs) (k : Nat) : List Ins := (ls.take k).foldl (fun cd l => cond (rlab l) cd (cd ++ [(rinstr ls l cd.length).1])) []
def rpE (ls : List Bs) (k : Nat) : Int := cond (rlab (ls.getD k [])) (cond (rname (ls.getD k []).dropLast) (cond ((ls.take k).any fun l => decide (l = ls.getD k [])) 11 0) 12) (rinstr ls (ls.getD k []) (rpSt ls k).length).2
def rlines (s : Bs) : List Bs := (rsplit 10 s).dropLast
def rparse (s : Bs) : List Ins × Int × Int :=
  cond (decide (s.length > 40000)) ([], 0, 2)
    (match bad1 (rpE (rlines s)) (rlines s).length with
     | some k => ([], (k : Int) + 1, rpE (rlines s) k)
     | none => cond (decide ((rsplit 10 s).getLast? = some [])) (rpSt (rlines s) (rlines s).length, 0, 0) ([], ((rsplit 10 s).length : Int), 12))
theorem rpSt_succ {ls : List Bs} {k : Nat} (h : k < ls.length) : rpSt ls (k + 1) = cond (rlab ls[k]) (rpSt ls k) (rpSt ls k ++ [(rinstr ls ls[k] (rpSt ls k).length).1]) := by
  unfold rpSt
  rw [List.take_succ_eq_append_getElem h, List.foldl_append]; rfl
theorem rpSt_le (ls : List Bs) : ∀ k, k ≤ ls.length → (rpSt ls k).length ≤ k
  | 0, _ => Nat.le_refl _
  | k + 1, hk => by
    have ih := rpSt_le ls k (by omega)
    rw [rpSt_succ (show k < ls.length by omega)]
    cases rlab ls[k] <;> simp <;> omega
theorem rlab_pos {s : Bs} (h : rlab s = true) : 0 < s.length := by
  cases s with
  | nil => simp [rlab] at h
  | cons a t => simp
theorem rparse_ok (s : Bs) (hs : s.length ≤ 900000) : ACalls Tryd.prog 10 [sv s] [] (one (.tup [encIs (rparse s).1, iv (rparse s).2.1, iv (rparse s).2.2]) []) := by
  have hsp := rsplit_ok s 10 hs
  unfold rparse
  have hsz : ((ByteArray.size ⟨s.toArray⟩ : Int) > 40000) = (s.length > 40000) := by
    rw [show ByteArray.size ⟨s.toArray⟩ = s.length from rfl]; apply propext; omega
  by_cases h4 : s.length > 40000
  · rw [decide_eq_true h4]
    have hd : decide ((ByteArray.size ⟨s.toArray⟩ : Int) > 40000) = true := decide_eq_true (hsz ▸ h4)
    refine jcalls Tryd.func10 rfl (by kernel_rfl) Tryd.ntmps10 rfl rfl (fun w0 β0 ext hβ => ?_)
    repeat (first | refine js rfl ?_ | (refine jdraw ?_ ?_; · kernel_rfl) | refine jbu rfl rfl rfl rfl ?_)
    rw [hd]
    repeat (first | refine js rfl ?_ | (refine jdraw ?_ ?_; · kernel_rfl) | refine jbu rfl rfl rfl rfl ?_)
    exact jr rfl rfl rfl rfl
  · rw [decide_eq_false h4]
    have hd : decide ((ByteArray.size ⟨s.toArray⟩ : Int) > 40000) = false := decide_eq_false (hsz ▸ h4)
    have hall : (rsplit 10 s).length ≤ 900001 := by
      have := (spSt_le 10 s s.length).2
      unfold rsplit
      simp
      omega
    have hpos : 0 < (rsplit 10 s).length := by unfold rsplit; simp
    have hlen := rsplit_len 10 s
    have hcut : IntKind.i64.wrap ((((rsplit 10 s).map sv).length : Int) - 1) = ((min (rsplit 10 s).length ((rsplit 10 s).length - 1) : Nat) : Int) := by
      rw [List.length_map, wrap_id (by omega) (by omega)]; omega
    have hdl : (rsplit 10 s).take ((rsplit 10 s).length - 1) = rlines s := by
      unfold rlines; rw [List.dropLast_eq_take]
    simp only [cond_false]
    refine jcalls Tryd.func10 rfl (by kernel_rfl) Tryd.ntmps10 rfl rfl (fun w0 β0 ext hβ => ?_)
    repeat (first | refine js rfl ?_ | (refine jdraw ?_ ?_; · kernel_rfl) | refine jv hsp rfl rfl rfl rfl rfl ?_)
    rw [hd]
    repeat (first | refine js rfl ?_ | (refine jdraw ?_ ?_; · kernel_rfl) | refine jv hsp rfl rfl rfl rfl rfl ?_)
    refine jo rfl rfl (cut_take ((rsplit 10 s).length - 1) rfl rfl rfl hcut rfl rfl rfl (fun _ => ⟨rfl, rfl⟩)) rfl rfl ?_
    rw [hdl]
    repeat (first | refine js rfl ?_ | (refine jdraw ?_ ?_; · kernel_rfl))
    refine jbo rfl rfl rfl rfl rfl rfl rfl rfl ?_
    repeat (first | refine js rfl ?_ | (refine jdraw ?_ ?_; · kernel_rfl) | refine jbu rfl rfl rfl rfl ?_)
    have hll : (rlines s).length ≤ 900000 := by unfold rlines; rw [List.length_dropLast]; omega
    have hlm : ∀ l ∈ rlines s, l.length ≤ 900000 := fun l hm => Nat.le_trans (hlen l (List.dropLast_subset _ hm)) hs
    have hend : rlines s = (rsplit 10 s).dropLast := rfl
    generalize rlines s = ls at *
    refine jloop 1 (fun k : Nat => k ≤ ls.length ∧ ∀ q, q < k → rpE ls q = 0) [5, 6, 7, 24, 25, 26] (fun k => [.sl ((rsplit 10 s).map sv), .sl (ls.map sv), .arr 0 ((rpSt ls k).length + 1), .sl (ls.map sv), .v (.int .i64 ((ls.map sv).length : Int)), .v (.int .i64 (k : Int))])
      (fun k => [.arr ((rpSt ls k).length + 1) 31 ty31.size ((rpSt ls k).map encIns)]) (fun k => ls.length - k) 0 (by rw [hβ]; decide) ⟨Nat.zero_le _, fun q h => absurd h (by omega)⟩ rfl rfl (fun k hk => ?_)
    obtain ⟨hk, hok⟩ := hk
    have hcd := rpSt_le ls k hk
    repeat (first | refine js rfl ?_ | (refine jdraw ?_ ?_; · kernel_rfl) | refine jbu rfl rfl rfl rfl ?_)
    refine jc rfl rfl rfl (fun h => ?_) (fun h => ?_)
    · have h := of_decide_eq_true h
      rw [List.length_map] at h
      have hk2 : k < ls.length := by omega
      have hat := at_nat ls k hk2
      have hgd : ls.getD k [] = at' ls (k : Int) := by rw [hat]; simp [List.getD, hk2]
      have hl9 : (at' ls (k : Int)).length ≤ 900000 := by rw [hat]; exact hlm _ (List.getElem_mem hk2)
      have hlab := rlab_ok (at' ls (k : Int)) (by omega)
      have hst := rpSt_succ hk2
      rw [← hat] at hst
      have hnx := idx_next hk2 (by omega)
      have hw1 : IntKind.i64.wrap ((k : Int) + 1) = (k : Int) + 1 := wrap_id (by omega) (by omega)
      have hE : rpE ls k = cond (rlab (at' ls (k : Int))) (cond (rname (at' ls (k : Int)).dropLast) (cond ((ls.take k).any fun l => decide (l = at' ls (k : Int))) 11 0) 12) (rinstr ls (at' ls (k : Int)) (rpSt ls k).length).2 := by
        unfold rpE; rw [hgd]
      unfold sv bv at hlab
      cases hr : rlab (at' ls (k : Int)) with
      | false =>
        rw [hr] at hlab hst hE
        simp only [cond_false] at hst hE
        have hin : ACalls Tryd.prog 29 [.sl (ls.map sv), .v (S (at' ls (k : Int))), .v (.int .i64 (((rpSt ls k).map encIns).length : Int))] [] (one (.tup [encIns (rinstr ls (at' ls (k : Int)) (rpSt ls k).length).1, iv (rinstr ls (at' ls (k : Int)) (rpSt ls k).length).2]) []) := by
          rw [List.length_map (f := encIns)]
          exact rinstr_ok ls (at' ls (k : Int)) ((rpSt ls k).length : Int) hl9 (by omega) (fun l hm => by have := hlm l hm; omega)
        have hnext : rpE ls k = 0 → ∀ q, q < k + 1 → rpE ls q = 0 := fun h0 q hq => by
          by_cases hqk : q = k
          · subst hqk; exact h0
          · exact hok q (by omega)
        generalize rinstr ls (at' ls (k : Int)) (rpSt ls k).length = ip at *
        obtain ⟨ins, bad⟩ := ip
        simp only at hst hE hin
        repeat (first | refine js rfl ?_ | (refine jdraw ?_ ?_; · kernel_rfl) | refine jbu rfl rfl rfl rfl ?_ | refine jo rfl rfl (index_at rfl rfl rfl rfl rfl rfl rfl rfl (Int.natCast_nonneg k) h) rfl rfl ?_ | refine jv hlab rfl rfl rfl rfl rfl ?_ | refine jo rfl rfl (len_arr rfl rfl rfl rfl) rfl rfl ?_ | refine jv hin rfl rfl rfl rfl rfl ?_)
        by_cases hb0 : bad = 0
        · subst hb0
          repeat (first | refine jo rfl rfl (append_enc (enc := encIns) (l := rpSt ls k) ins rfl rfl rfl rfl rfl rfl rfl rfl rfl rfl (fun _ => ⟨rfl, rfl⟩) rfl (by omega) rfl rfl) rfl rfl ?_ | refine js rfl ?_ | (refine jdraw ?_ ?_; · kernel_rfl) | refine jbu rfl rfl rfl rfl ?_)
          have el : (rpSt ls k).length + 1 = (rpSt ls (k + 1)).length := by rw [hst]; simp
          refine jnext (k + 1) ⟨by omega, hnext hE⟩ (by omega) rfl rfl rfl ?_ ?_
          · rw [hnx, ← el]
          · rw [hst]; simp
        · have e1 : (bad != 0) = true := by simpa using hb0
          rw [e1]
          rw [bad1_some hok (by rw [hE]; exact hb0) hk2]
          repeat (first | refine js rfl ?_ | (refine jdraw ?_ ?_; · kernel_rfl) | refine jbu rfl rfl rfl rfl ?_)
          rw [hw1]
          dsimp only
          rw [hE]
          exact jr rfl rfl rfl rfl
      | true =>
        rw [hr] at hlab hst hE
        simp only [cond_true] at hst hE
        have hne := rlab_pos hr
        have hnm := rname_ok (at' ls (k : Int)).dropLast (by rw [List.length_dropLast]; omega)
        have hsz2 : ByteArray.size ⟨(at' ls (k : Int)).toArray⟩ = (at' ls (k : Int)).length := rfl
        have hw : IntKind.i64.wrap (((at' ls (k : Int)).length : Int) - 1) = (((at' ls (k : Int)).length - 1 : Nat) : Int) := by
          rw [wrap_id (by omega) (by omega)]; omega
        have hdr : (at' ls (k : Int)).take ((at' ls (k : Int)).length - 1) = (at' ls (k : Int)).dropLast := by rw [List.dropLast_eq_take]
        unfold sv bv at hnm
        repeat (first | refine js rfl ?_ | (refine jdraw ?_ ?_; · kernel_rfl) | refine jbu rfl rfl rfl rfl ?_ | refine jo rfl rfl (index_at rfl rfl rfl rfl rfl rfl rfl rfl (Int.natCast_nonneg k) h) rfl rfl ?_ | refine jv hlab rfl rfl rfl rfl rfl ?_)
        rw [hsz2, hw]
        refine jo rfl rfl (cutH ((at' ls (k : Int)).length - 1) rfl rfl rfl rfl rfl (by omega)) rfl rfl ?_
        rw [hdr]
        cases hn : rname (at' ls (k : Int)).dropLast with
        | false =>
          rw [hn] at hnm hE
          simp only [cond_false] at hE
          rw [bad1_some hok (by rw [hE]; decide) hk2]
          repeat (first | refine js rfl ?_ | (refine jdraw ?_ ?_; · kernel_rfl) | refine jbu rfl rfl rfl rfl ?_ | refine jv hnm rfl rfl rfl rfl rfl ?_)
          rw [hw1]
          dsimp only
          rw [hE]
          exact jr rfl rfl rfl rfl
        | true =>
          rw [hn] at hnm hE
          simp only [cond_true] at hE
          repeat (first | refine js rfl ?_ | (refine jdraw ?_ ?_; · kernel_rfl) | refine jbu rfl rfl rfl rfl ?_ | refine jv hnm rfl rfl rfl rfl rfl ?_)
          refine jloopI (fun j : Nat => j ≤ k ∧ ((ls.take k).any fun l => decide (l = at' ls (k : Int))) = (((ls.take k).drop j).any fun l => decide (l = at' ls (k : Int)))) [5, 6, 7, 24, 25, 26, 8, 9, 10] (fun j => [.sl ((rsplit 10 s).map sv), .sl (ls.map sv), .arr 0 ((rpSt ls k).length + 1), .sl (ls.map sv), .v (.int .i64 ((ls.map sv).length : Int)), .v (.int .i64 (k : Int)), .v (.int .i64 (k : Int)), .v (S (at' ls (k : Int))), .v (.int .i64 (j : Int))])
            (fun _ => [.arr ((rpSt ls k).length + 1) 31 ty31.size ((rpSt ls k).map encIns)]) (fun j => k - j) 0 ⟨Nat.zero_le _, rfl⟩ rfl rfl (fun j hj => ?_)
          obtain ⟨hj, hjs⟩ := hj
          repeat (first | refine js rfl ?_ | (refine jdraw ?_ ?_; · kernel_rfl) | refine jbu rfl rfl rfl rfl ?_)
          refine jc rfl rfl rfl (fun h2 => ?_) (fun h2 => ?_)
          · have h2 := of_decide_eq_true h2
            have hj2 : j < ls.length := by omega
            have h2' : j < k := by omega
            have hat2 := at_nat ls j hj2
            repeat (first | refine js rfl ?_ | (refine jdraw ?_ ?_; · kernel_rfl) | refine jbu rfl rfl rfl rfl ?_ | refine jo rfl rfl (index_at rfl rfl rfl rfl rfl rfl rfl rfl (Int.natCast_nonneg j) (show (j : Int) < ls.length by omega)) rfl rfl ?_)
            rw [str_eq]
            have hjt : j < (ls.take k).length := by rw [List.length_take]; omega
            have hjd : ((ls.take k).drop j).any (fun l => decide (l = at' ls (k : Int))) = (decide (at' ls (j : Int) = at' ls (k : Int)) || ((ls.take k).drop (j + 1)).any (fun l => decide (l = at' ls (k : Int)))) := by
              rw [List.drop_eq_getElem_cons hjt, List.any_cons, List.getElem_take, ← hat2]
            rw [hjd] at hjs
            cases hc : decide (at' ls (j : Int) = at' ls (k : Int)) with
            | true =>
              rw [hjs, hc] at hE
              simp only [Bool.true_or, cond_true] at hE
              rw [bad1_some hok (by rw [hE]; decide) hk2]
              repeat (first | refine js rfl ?_ | (refine jdraw ?_ ?_; · kernel_rfl) | refine jbu rfl rfl rfl rfl ?_)
              rw [hw1]
              dsimp only
              rw [hE]
              exact jr rfl rfl rfl rfl
            | false =>
              rw [hc, Bool.false_or] at hjs
              have hnj := idx_next h2' (by omega)
              repeat (first | refine js rfl ?_ | (refine jdraw ?_ ?_; · kernel_rfl) | refine jbu rfl rfl rfl rfl ?_)
              refine jnextI (j + 1) ⟨by omega, hjs⟩ ?_ rfl (by omega)
              show some _ = some _
              rw [hnj]
          · have h2 := of_decide_eq_false h2
            have hj2 : j = k := by omega
            rw [hj2, List.drop_of_length_le (by rw [List.length_take]; omega)] at hjs
            rw [hjs] at hE
            simp only [List.any_nil, cond_false] at hE
            have hnext : ∀ q, q < k + 1 → rpE ls q = 0 := fun q hq => by
              by_cases hqk : q = k
              · subst hqk; exact hE
              · exact hok q (by omega)
            repeat (first | refine js rfl ?_ | (refine jdraw ?_ ?_; · kernel_rfl) | refine jbu rfl rfl rfl rfl ?_)
            refine jnext (k + 1) ⟨by omega, hnext⟩ (by omega) rfl rfl rfl ?_ ?_
            · rw [hnx, hst]
            · rw [hst]
    · have h := of_decide_eq_false h
      rw [List.length_map] at h
      have hk2 : k = ls.length := by omega
      subst hk2
      rw [bad1_none hok]
      have hw2 : IntKind.i64.wrap ((((rsplit 10 s).map sv).length : Int) - 1) = (((rsplit 10 s).length - 1 : Nat) : Int) := by
        rw [List.length_map, wrap_id (by omega) (by omega)]; omega
      repeat (first | refine js rfl ?_ | (refine jdraw ?_ ?_; · kernel_rfl) | refine jbu rfl rfl rfl rfl ?_)
      rw [hw2]
      repeat (first | refine js rfl ?_ | (refine jdraw ?_ ?_; · kernel_rfl) | refine jbu rfl rfl rfl rfl ?_ | refine jo rfl rfl (index_at rfl rfl rfl rfl rfl rfl rfl rfl (Int.natCast_nonneg _) (show (((rsplit 10 s).length - 1 : Nat) : Int) < (rsplit 10 s).length by omega)) rfl rfl ?_)
      have key : ((⟨(at' (rsplit 10 s) (((rsplit 10 s).length - 1 : Nat) : Int)).toArray⟩ : ByteArray).toList == ({data := #[]} : ByteArray).toList) = decide (at' (rsplit 10 s) (((rsplit 10 s).length - 1 : Nat) : Int) = []) := str_eq _ []
      have hlast : (rsplit 10 s).getLast? = some (at' (rsplit 10 s) (((rsplit 10 s).length - 1 : Nat) : Int)) := by
        rw [at_nat _ _ (show (rsplit 10 s).length - 1 < (rsplit 10 s).length by omega), List.getLast?_eq_getElem?, List.getElem?_eq_getElem]
      have hq : decide ((rsplit 10 s).getLast? = some []) = decide (at' (rsplit 10 s) (((rsplit 10 s).length - 1 : Nat) : Int) = []) := by
        rw [hlast]; simp
      rw [key, hq]
      cases hc : decide (at' (rsplit 10 s) (((rsplit 10 s).length - 1 : Nat) : Int) = []) with
      | false =>
        repeat (first | refine js rfl ?_ | (refine jdraw ?_ ?_; · kernel_rfl) | refine jbu rfl rfl rfl rfl ?_)
        rw [List.length_map]
        exact jr rfl rfl rfl rfl
      | true =>
        repeat (first | refine js rfl ?_ | (refine jdraw ?_ ?_; · kernel_rfl) | refine jbu rfl rfl rfl rfl ?_)
        exact jr rfl (fin_arr rfl rfl rfl rfl) rfl rfl
end Go.AL
