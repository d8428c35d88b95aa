/-
  Part 7 of the proof texts: the program logic over the model, then the contracts of the functions that the laws reach. No conditions.
-/
import Derived.Test.YtplofnhnhfiokaaGreatDoorQ6
import Derived.Laws.RangeString
import Derived.Laws.RangeAny
import Derived.WalkKit
set_option linter.unusedVariables false
set_option linter.unusedSimpArgs false
set_option maxHeartbeats 2000000
section
set_option maxRecDepth 100000
namespace Go.AL
open Go Go.Proofs
attribute [local irreducible] J
def rpSt (ls : List Bs) (k : Nat) : List Ins := (ls.take k).foldl (fun cd l => cond (rlab l) cd (cd ++ [(rinstr ls l cd.length).1])) []
def rpE (ls : List Bs) (k : Nat) : Int := cond (rlab (ls.getD k [])) (cond (rname (ls.getD k []).dropLast) (cond ((ls.take k).any fun l => decide (l = ls.getD k [])) 11 0) 12) (rinstr ls (ls.getD k []) (rpSt ls k).length).2
def rlines (s : Bs) : List Bs := (rsplit 10 s).dropLast
def rparse (s : Bs) : List Ins × Int × Int :=
  cond (decide (s.length > 40000)) ([], 0, 2)
    (match bad1 (rpE (rlines s)) (rlines s).length with
     | some k => ([], (k : Int) + 1, rpE (rlines s) k)
     | none => cond (decide ((rsplit 10 s).getLast? = some [])) (rpSt (rlines s) (rlines s).length, 0, 0) ([], ((rsplit 10 s).length : Int), 12))
theorem rpSt_succ {ls : List Bs} {k : Nat} (h : k < ls.length) : rpSt ls (k + 1) = cond (rlab ls[k]) (rpSt ls k) (rpSt ls k ++ [(rinstr ls ls[k] (rpSt ls k).length).1]) := by
 unfold rpSt
 rw [List.take_succ_eq_append_getElem h, List.foldl_append]; rfl
theorem rpSt_le (ls : List Bs) : ∀ k, k ≤ ls.length → (rpSt ls k).length ≤ k
 | 0, _ => Nat.le_refl _
 | k + 1, hk => by
  have ih := rpSt_le ls k (by omega)
  rw [rpSt_succ (show k < ls.length by omega)]
  cases rlab ls[k] <;> simp <;> omega
theorem rlab_pos {s : Bs} (h : rlab s = true) : 0 < s.length := by
 cases s with
 | nil => simp [rlab] at h
 | cons a t => simp
theorem rparse_ok (s : Bs) (hs : s.length ≤ 900000) : ACalls Tryz.prog 11 [sv s] [] (one (.tup [encIs (rparse s).1, iv (rparse s).2.1, iv (rparse s).2.2]) []) := by
 have hsp := rsplit_ok s 10 hs
 unfold rparse
 have hsz : ((ByteArray.size ⟨s.toArray⟩ : Int) > 40000) = (s.length > 40000) := by
  rw [show ByteArray.size ⟨s.toArray⟩ = s.length from rfl]; apply propext; omega
 by_cases h4 : s.length > 40000
 ·rw [decide_eq_true h4]
  have hd : decide ((ByteArray.size ⟨s.toArray⟩ : Int) > 40000) = true := decide_eq_true (hsz ▸ h4)
  refine jcalls Tryz.func11 rfl (by kernel_rfl) Tryz.ntmps11 rfl rfl (fun w0 β0 ext hβ => ?_)
  repeat (first | refine jS ?_ | refine jD ?_ | refine jB ?_)
  rw [hd]
  repeat (first | refine jS ?_ | refine jD ?_ | refine jB ?_)
  exact jR
 ·rw [decide_eq_false h4]
  have hd : decide ((ByteArray.size ⟨s.toArray⟩ : Int) > 40000) = false := decide_eq_false (hsz ▸ h4)
  have hall : (rsplit 10 s).length ≤ 900001 := by
   have := (spSt_le 10 s s.length).2
   unfold rsplit
   simp
   omega
  have hpos : 0 < (rsplit 10 s).length := by unfold rsplit; simp
  have hlen := rsplit_len 10 s
  have hcut : IntKind.i64.wrap ((((rsplit 10 s).map sv).length : Int) - 1) = ((min (rsplit 10 s).length ((rsplit 10 s).length - 1) : Nat) : Int) := by
   rw [List.length_map, wrap_id (by omega) (by omega)]; omega
  have hdl : (rsplit 10 s).take ((rsplit 10 s).length - 1) = rlines s := by
   unfold rlines; rw [List.dropLast_eq_take]
  simp only [cond_false]
  refine jcalls Tryz.func11 rfl (by kernel_rfl) Tryz.ntmps11 rfl rfl (fun w0 β0 ext hβ => ?_)
  repeat (first | refine jS ?_ | refine jD ?_ | refine jV hsp ?_)
  rw [hd]
  repeat (first | refine jS ?_ | refine jD ?_ | refine jV hsp ?_)
  refine jo rfl rfl (cut_take ((rsplit 10 s).length - 1) rfl rfl rfl hcut rfl rfl rfl (fun _ => ⟨rfl, rfl⟩)) rfl rfl ?_
  rw [hdl]
  repeat (first | refine jS ?_ | refine jD ?_)
  refine jbo rfl rfl rfl rfl rfl rfl rfl rfl ?_
  repeat (first | refine jS ?_ | refine jD ?_ | refine jB ?_)
  have hll : (rlines s).length ≤ 900000 := by unfold rlines; rw [List.length_dropLast]; omega
  have hlm : ∀ l ∈ rlines s, l.length ≤ 900000 := fun l hm => Nat.le_trans (hlen l (List.dropLast_subset _ hm)) hs
  have hend : rlines s = (rsplit 10 s).dropLast := rfl
  generalize rlines s = ls at *
  refine jloop 1 (fun k : Nat => k ≤ ls.length ∧ ∀ q, q < k → rpE ls q = 0) [5, 6, 7, 24, 25, 26] (fun k => [.sl ((rsplit 10 s).map sv), .sl (ls.map sv), .arr 0 ((rpSt ls k).length + 1), .sl (ls.map sv), .v (.int .i64 ((ls.map sv).length : Int)), .v (.int .i64 (k : Int))])
   (fun k => [.arr ((rpSt ls k).length + 1) 98 ty98.size ((rpSt ls k).map encIns)]) (fun k => ls.length - k) 0 (by rw [hβ]; decide) ⟨Nat.zero_le _, fun q h => absurd h (by omega)⟩ rfl rfl (fun k hk => ?_)
  obtain ⟨hk, hok⟩ := hk
  have hcd := rpSt_le ls k hk
  repeat (first | refine jS ?_ | refine jD ?_ | refine jB ?_)
  refine jc rfl rfl rfl (fun h => ?_) (fun h => ?_)
  ·have h := of_decide_eq_true h
   rw [List.length_map] at h
   have hk2 : k < ls.length := by omega
   have hat := at_nat ls k hk2
   have hgd : ls.getD k [] = at' ls (k : Int) := by rw [hat]; simp [List.getD, hk2]
   have hl9 : (at' ls (k : Int)).length ≤ 900000 := by rw [hat]; exact hlm _ (List.getElem_mem hk2)
   have hlab := rlab_ok (at' ls (k : Int)) (by omega)
   have hst := rpSt_succ hk2
   rw [← hat] at hst
   have hnx := idx_next hk2 (by omega)
   have hw1 : IntKind.i64.wrap ((k : Int) + 1) = (k : Int) + 1 := wrap_id (by omega) (by omega)
   have hE : rpE ls k = cond (rlab (at' ls (k : Int))) (cond (rname (at' ls (k : Int)).dropLast) (cond ((ls.take k).any fun l => decide (l = at' ls (k : Int))) 11 0) 12) (rinstr ls (at' ls (k : Int)) (rpSt ls k).length).2 := by
    unfold rpE; rw [hgd]
   unfold sv bv at hlab
   cases hr : rlab (at' ls (k : Int)) with
   | false =>
    rw [hr] at hlab hst hE
    simp only [cond_false] at hst hE
    have hin : ACalls Tryz.prog 48 [.sl (ls.map sv), .v (S (at' ls (k : Int))), .v (.int .i64 (((rpSt ls k).map encIns).length : Int))] [] (one (.tup [encIns (rinstr ls (at' ls (k : Int)) (rpSt ls k).length).1, iv (rinstr ls (at' ls (k : Int)) (rpSt ls k).length).2]) []) := by
     rw [List.length_map (f := encIns)]
     exact rinstr_ok ls (at' ls (k : Int)) ((rpSt ls k).length : Int) hl9 (by omega) (fun l hm => by have := hlm l hm; omega)
    have hnext : rpE ls k = 0 → ∀ q, q < k + 1 → rpE ls q = 0 := fun h0 q hq => by
     by_cases hqk : q = k
     ·subst hqk; exact h0
     ·exact hok q (by omega)
    generalize rinstr ls (at' ls (k : Int)) (rpSt ls k).length = ip at *
    obtain ⟨ins, bad⟩ := ip
    simp only at hst hE hin
    repeat (first | refine jS ?_ | refine jD ?_ | refine jB ?_ | refine jo rfl rfl (index_at rfl rfl rfl rfl rfl rfl rfl rfl (Int.natCast_nonneg k) h) rfl rfl ?_ | refine jV hlab ?_ | refine jo rfl rfl (len_arr rfl rfl rfl rfl) rfl rfl ?_ | refine jV hin ?_)
    by_cases hb0 : bad = 0
    ·subst hb0
     repeat (first | refine jo rfl rfl (append_enc (enc := encIns) (l := rpSt ls k) ins rfl rfl rfl rfl rfl rfl rfl rfl rfl rfl (fun _ => ⟨rfl, rfl⟩) rfl (by omega) rfl rfl) rfl rfl ?_ | refine jS ?_ | refine jD ?_ | refine jB ?_)
     have el : (rpSt ls k).length + 1 = (rpSt ls (k + 1)).length := by rw [hst]; simp
     refine jnext (k + 1) ⟨by omega, hnext hE⟩ (by omega) rfl rfl rfl ?_ ?_
     ·rw [hnx, ← el]
     ·rw [hst]; simp
    ·have e1 : (bad != 0) = true := by simpa using hb0
     rw [e1]
     rw [bad1_some hok (by rw [hE]; exact hb0) hk2]
     repeat (first | refine jS ?_ | refine jD ?_ | refine jB ?_)
     rw [hw1]
     dsimp only
     rw [hE]
     exact jR
   | true =>
    rw [hr] at hlab hst hE
    simp only [cond_true] at hst hE
    have hne := rlab_pos hr
    have hnm := rname_ok (at' ls (k : Int)).dropLast (by rw [List.length_dropLast]; omega)
    have hsz2 : ByteArray.size ⟨(at' ls (k : Int)).toArray⟩ = (at' ls (k : Int)).length := rfl
    have hw : IntKind.i64.wrap (((at' ls (k : Int)).length : Int) - 1) = (((at' ls (k : Int)).length - 1 : Nat) : Int) := by
     rw [wrap_id (by omega) (by omega)]; omega
    have hdr : (at' ls (k : Int)).take ((at' ls (k : Int)).length - 1) = (at' ls (k : Int)).dropLast := by rw [List.dropLast_eq_take]
    unfold sv bv at hnm
    repeat (first | refine jS ?_ | refine jD ?_ | refine jB ?_ | refine jo rfl rfl (index_at rfl rfl rfl rfl rfl rfl rfl rfl (Int.natCast_nonneg k) h) rfl rfl ?_ | refine jV hlab ?_)
    rw [hsz2, hw]
    refine jo rfl rfl (cutH ((at' ls (k : Int)).length - 1) rfl rfl rfl rfl rfl (by omega)) rfl rfl ?_
    rw [hdr]
    cases hn : rname (at' ls (k : Int)).dropLast with
    | false =>
     rw [hn] at hnm hE
     simp only [cond_false] at hE
     rw [bad1_some hok (by rw [hE]; decide) hk2]
     repeat (first | refine jS ?_ | refine jD ?_ | refine jB ?_ | refine jV hnm ?_)
     rw [hw1]
     dsimp only
     rw [hE]
     exact jR
    | true =>
     rw [hn] at hnm hE
     simp only [cond_true] at hE
     repeat (first | refine jS ?_ | refine jD ?_ | refine jB ?_ | refine jV hnm ?_)
     refine jloopI (fun j : Nat => j ≤ k ∧ ((ls.take k).any fun l => decide (l = at' ls (k : Int))) = (((ls.take k).drop j).any fun l => decide (l = at' ls (k : Int)))) [5, 6, 7, 24, 25, 26, 8, 9, 10] (fun j => [.sl ((rsplit 10 s).map sv), .sl (ls.map sv), .arr 0 ((rpSt ls k).length + 1), .sl (ls.map sv), .v (.int .i64 ((ls.map sv).length : Int)), .v (.int .i64 (k : Int)), .v (.int .i64 (k : Int)), .v (S (at' ls (k : Int))), .v (.int .i64 (j : Int))])
      (fun _ => [.arr ((rpSt ls k).length + 1) 98 ty98.size ((rpSt ls k).map encIns)]) (fun j => k - j) 0 ⟨Nat.zero_le _, rfl⟩ rfl rfl (fun j hj => ?_)
     obtain ⟨hj, hjs⟩ := hj
     repeat (first | refine jS ?_ | refine jD ?_ | refine jB ?_)
     refine jc rfl rfl rfl (fun h2 => ?_) (fun h2 => ?_)
     ·have h2 := of_decide_eq_true h2
      have hj2 : j < ls.length := by omega
      have h2' : j < k := by omega
      have hat2 := at_nat ls j hj2
      repeat (first | refine jS ?_ | refine jD ?_ | refine jB ?_ | refine jo rfl rfl (index_at rfl rfl rfl rfl rfl rfl rfl rfl (Int.natCast_nonneg j) (show (j : Int) < ls.length by omega)) rfl rfl ?_)
      rw [str_eq]
      have hjt : j < (ls.take k).length := by rw [List.length_take]; omega
      have hjd : ((ls.take k).drop j).any (fun l => decide (l = at' ls (k : Int))) = (decide (at' ls (j : Int) = at' ls (k : Int)) || ((ls.take k).drop (j + 1)).any (fun l => decide (l = at' ls (k : Int)))) := by
       rw [List.drop_eq_getElem_cons hjt, List.any_cons, List.getElem_take, ← hat2]
      rw [hjd] at hjs
      cases hc : decide (at' ls (j : Int) = at' ls (k : Int)) with
      | true =>
       rw [hjs, hc] at hE
       simp only [Bool.true_or, cond_true] at hE
       rw [bad1_some hok (by rw [hE]; decide) hk2]
       repeat (first | refine jS ?_ | refine jD ?_ | refine jB ?_)
       rw [hw1]
       dsimp only
       rw [hE]
       exact jR
      | false =>
       rw [hc, Bool.false_or] at hjs
       have hnj := idx_next h2' (by omega)
       repeat (first | refine jS ?_ | refine jD ?_ | refine jB ?_)
       refine jnextI (j + 1) ⟨by omega, hjs⟩ ?_ rfl (by omega)
       show some _ = some _
       rw [hnj]
     ·have h2 := of_decide_eq_false h2
      have hj2 : j = k := by omega
      rw [hj2, List.drop_of_length_le (by rw [List.length_take]; omega)] at hjs
      rw [hjs] at hE
      simp only [List.any_nil, cond_false] at hE
      have hnext : ∀ q, q < k + 1 → rpE ls q = 0 := fun q hq => by
       by_cases hqk : q = k
       ·subst hqk; exact hE
       ·exact hok q (by omega)
      repeat (first | refine jS ?_ | refine jD ?_ | refine jB ?_)
      refine jnext (k + 1) ⟨by omega, hnext⟩ (by omega) rfl rfl rfl ?_ ?_
      ·rw [hnx, hst]
      ·rw [hst]
  ·have h := of_decide_eq_false h
   rw [List.length_map] at h
   have hk2 : k = ls.length := by omega
   subst hk2
   rw [bad1_none hok]
   have hw2 : IntKind.i64.wrap ((((rsplit 10 s).map sv).length : Int) - 1) = (((rsplit 10 s).length - 1 : Nat) : Int) := by
    rw [List.length_map, wrap_id (by omega) (by omega)]; omega
   repeat (first | refine jS ?_ | refine jD ?_ | refine jB ?_)
   rw [hw2]
   repeat (first | refine jS ?_ | refine jD ?_ | refine jB ?_ | refine jo rfl rfl (index_at rfl rfl rfl rfl rfl rfl rfl rfl (Int.natCast_nonneg _) (show (((rsplit 10 s).length - 1 : Nat) : Int) < (rsplit 10 s).length by omega)) rfl rfl ?_)
   have key : ((⟨(at' (rsplit 10 s) (((rsplit 10 s).length - 1 : Nat) : Int)).toArray⟩ : ByteArray).toList == ({data := #[]} : ByteArray).toList) = decide (at' (rsplit 10 s) (((rsplit 10 s).length - 1 : Nat) : Int) = []) := str_eq _ []
   have hlast : (rsplit 10 s).getLast? = some (at' (rsplit 10 s) (((rsplit 10 s).length - 1 : Nat) : Int)) := by
    rw [at_nat _ _ (show (rsplit 10 s).length - 1 < (rsplit 10 s).length by omega), List.getLast?_eq_getElem?, List.getElem?_eq_getElem]
   have hq : decide ((rsplit 10 s).getLast? = some []) = decide (at' (rsplit 10 s) (((rsplit 10 s).length - 1 : Nat) : Int) = []) := by
    rw [hlast]; simp
   rw [key, hq]
   cases hc : decide (at' (rsplit 10 s) (((rsplit 10 s).length - 1 : Nat) : Int) = []) with
   | false =>
    repeat (first | refine jS ?_ | refine jD ?_ | refine jB ?_)
    rw [List.length_map]
    exact jR
   | true =>
    repeat (first | refine jS ?_ | refine jD ?_ | refine jB ?_)
    exact jr rfl (fin_arr rfl rfl rfl rfl) rfl rfl
end Go.AL
end
section
set_option maxRecDepth 100000
namespace Go.AL
open Go Go.Proofs
attribute [local irreducible] J
theorem same_ok (l : List Ins) (hl : l.length ≤ 1000000) : ACalls Tryz.prog 51 [encIs l, encIs l] [] (one (bv true) []) := by
 unfold encIs
 refine jcalls Tryz.func51 rfl (by kernel_rfl) Tryz.ntmps51 rfl rfl (fun w0 β0 ext hβ => ?_)
 repeat (first | refine jS ?_ | refine jD ?_ | refine jB ?_)
 refine jc rfl rfl rfl (fun h => absurd h (by simp)) (fun h => ?_)
 repeat (first | refine jS ?_ | refine jD ?_ | refine jB ?_)
 refine jloopI (fun i : Nat => i ≤ l.length) [0, 1, 12, 13] (fun i => [.sl (l.map encIns), .sl (l.map encIns), .v (.int .i64 (l.map encIns).length), .v (.int .i64 i)]) (fun _ => []) (fun i => l.length - i) 0 (by omega) rfl rfl (fun i hi => ?_)
 repeat (first | refine jS ?_ | refine jD ?_ | refine jB ?_)
 refine jc rfl rfl rfl (fun h => ?_) (fun h => ?_)
 ·have h := of_decide_eq_true h
  rw [List.length_map] at h
  have hi1 : i < l.length := by omega
  have w1 := idx_next hi1 (by omega)
  have hx : encIns (at' l (i : Int)) = .agg (intsA [(at' l (i : Int)).op, (at' l (i : Int)).a, (at' l (i : Int)).b, (at' l (i : Int)).c]) := rfl
  repeat (first | refine jS ?_ | refine jD ?_ | refine jB ?_ | refine jo rfl rfl (index_at rfl rfl rfl rfl rfl rfl rfl rfl (Int.natCast_nonneg i) h) rfl rfl ?_ | refine jo rfl rfl (eq_ints (xs := [(at' l (i : Int)).op, (at' l (i : Int)).a, (at' l (i : Int)).b, (at' l (i : Int)).c]) (ys := [(at' l (i : Int)).op, (at' l (i : Int)).a, (at' l (i : Int)).b, (at' l (i : Int)).c]) (Or.inr rfl) rfl rfl rfl rfl rfl rfl (by kernel_rfl) (by kernel_rfl)) rfl rfl ?_)
  refine jc rfl rfl rfl (fun h => absurd h (by simp)) (fun h => ?_)
  repeat (first | refine jS ?_ | refine jD ?_ | refine jB ?_)
  refine jnextI (i + 1) (by omega) ?_ rfl (by omega)
  show some _ = some _
  rw [w1]
 ·repeat (first | refine jS ?_ | refine jD ?_ | refine jB ?_)
  exact jR
deriving instance DecidableEq for Ins
end Go.AL
end
section
namespace Go.AL
open Go Go.Proofs
def consH (p : Bs) : List Bs → List Bs
 | [] => [p]
 | h :: t => (p ++ h) :: t
def cuts (c : UInt8) : Bs → List Bs
 | [] => [[]]
 | b :: r => if b = c then [] :: cuts c r else consH [b] (cuts c r)
theorem consH_ne (p : Bs) (l : List Bs) : consH p l ≠ [] := by cases l <;> simp [consH]
theorem cuts_ne (c : UInt8) (s : Bs) : cuts c s ≠ [] := by
  cases s with
  | nil => simp [cuts]
  | cons b r => unfold cuts; split; · simp
                · exact consH_ne _ _
theorem consH_nil {l : List Bs} (h : l ≠ []) : consH [] l = l := by
 cases l with
 | nil => exact absurd rfl h
 | cons a t => rfl
theorem consH_consH (p q : Bs) (l : List Bs) : consH p (consH q l) = consH (p ++ q) l := by
 cases l <;> simp [consH]
theorem rsplit_inv (c : UInt8) (s : Bs) : ∀ i, i ≤ s.length → cuts c s = (spSt c s i).1 ++ consH ((s.take i).drop (spSt c s i).2) (cuts c (s.drop i))
 | 0, _ => by simp [spSt, consH_nil (cuts_ne c s)]
 | i + 1, h => by
  have ih := rsplit_inv c s i (by omega)
  have hi : i < s.length := by omega
  have hle := (spSt_le c s i).1
  have hg : s.getD i 0 = s[i] := by simp [List.getD, hi]
  rw [List.drop_eq_getElem_cons hi] at ih
  rw [ih, show spSt c s (i + 1) = cond (decide (s.getD i 0 = c)) ((spSt c s i).1 ++ [(s.take i).drop (spSt c s i).2], i + 1) (spSt c s i) from rfl]
  rw [hg]
  rw [cuts]
  by_cases hb : s[i] = c
  ·rw [if_pos hb, decide_eq_true hb]
   simp only [cond_true]
   rw [show (s.take (i + 1)).drop (i + 1) = [] from by rw [List.drop_eq_nil_iff]; rw [List.length_take]; omega, consH_nil (cuts_ne _ _)]
   simp [consH]
  ·rw [if_neg hb, decide_eq_false hb]
   simp only [cond_false]
   rw [consH_consH, List.take_succ_eq_append_getElem hi, List.drop_append_of_le_length (by rw [List.length_take]; omega)]
theorem rsplit_eq (c : UInt8) (s : Bs) : rsplit c s = cuts c s := by
 have := rsplit_inv c s s.length (Nat.le_refl _)
 rw [this]
 simp [rsplit, cuts, consH]
theorem index1_cons (b c : UInt8) (l : Bs) : Lib.index (b :: l) [c] = if b = c then 0 else if Lib.index l [c] = -1 then -1 else Lib.index l [c] + 1 := by
 rw [Lib.index]
 by_cases h : b = c
 ·simp [h, List.isPrefixOf]
 ·have : ¬ c = b := fun e => h e.symm
  simp [h, this, List.isPrefixOf]
theorem splitK_cons (b c : UInt8) (l : Bs) (h : ¬ b = c) (k : Nat) : Lib.splitK [c] 0 k (b :: l) = consH [b] (Lib.splitK [c] 0 k l) := by
 cases k with
 | zero => rfl
 | succ k =>
  have hge := Lib.index_ge l [c]
  rw [Lib.splitK, Lib.splitK, index1_cons, if_neg h]
  by_cases h1 : Lib.index l [c] = -1
  ·simp [h1, consH]
  ·have e1 : (Lib.index l [c] + 1 == -1) = false := by simp; omega
   have e2 : (Lib.index l [c] == -1) = false := by simp [h1]
   have e3 : (Lib.index l [c] + 1).toNat = (Lib.index l [c]).toNat + 1 := by omega
   rw [if_neg h1, e1, e2, e3]
   simp [consH]
theorem splitK_eq (c : UInt8) : ∀ (s : Bs) (k : Nat), s.count c ≤ k → Lib.splitK [c] 0 k s = cuts c s
 | [], k, _ => by
  cases k with
  | zero => rfl
  | succ k => simp [Lib.splitK, Lib.index, cuts]
 | b :: l, k, h => by
  rw [cuts]
  by_cases hb : b = c
  ·subst hb
   rw [List.count_cons_self] at h
   rw [if_pos rfl]
   cases k with
   | zero => omega
   | succ k =>
    rw [← splitK_eq b l k (by omega), Lib.splitK, index1_cons, if_pos rfl]
    simp
  ·rw [if_neg hb, splitK_cons b c l hb, splitK_eq c l k (by rw [List.count_cons_of_ne (by simpa using hb)] at h; exact h)]
theorem countFrom_ge (c : UInt8) : ∀ (n : Nat) (s : Bs), s.length ≤ n → ∀ f, n < f → s.count c ≤ Lib.countFrom [c] f s
 | n, [], _, f, _ => by simp
 | 0, b :: l, h, f, _ => by simp at h
 | n + 1, b :: l, h, f, hf => by
  cases f with
  | zero => omega
  | succ f =>
   rw [Lib.countFrom, index1_cons]
   have hl : l.length ≤ n := by simpa using h
   by_cases hb : b = c
   ·subst hb
    rw [if_pos rfl, List.count_cons_self]
    have := countFrom_ge b n l hl f (by omega)
    simp
    omega
   ·rw [if_neg hb, List.count_cons_of_ne (by simpa using hb)]
    have ih := countFrom_ge c n l hl (f + 1) (by omega)
    rw [Lib.countFrom] at ih
    have hge := Lib.index_ge l [c]
    by_cases h1 : Lib.index l [c] = -1
    ·simpa [h1] using ih
    ·have e1 : (Lib.index l [c] + 1 == -1) = false := by simp; omega
     have e2 : (Lib.index l [c] == -1) = false := by simp [h1]
     have e3 : (Lib.index l [c] + 1).toNat = (Lib.index l [c]).toNat + 1 := by omega
     rw [e2] at ih
     rw [if_neg h1, e1, e3]
     simpa using ih
theorem split_eq (c : UInt8) (s : Bs) : Lib.split s [c] = cuts c s :=
 splitK_eq c s _ (countFrom_ge c s.length s (Nat.le_refl _) _ (by omega))
end Go.AL
end
section
namespace Go.AL
open Go Go.Proofs
theorem notN_azn (c : UInt8) : notN c.toNat = !azn c := by
 have : ∀ x : Fin 256, notN x.val = !(!((decide ((x.val : Int) < 97) || decide ((x.val : Int) > 122)) && (decide ((x.val : Int) < 48) || decide ((x.val : Int) > 57)))) := by decide +kernel
 exact this ⟨c.toNat, c.toNat_lt⟩
theorem notN_high (r : Nat) (h : 128 ≤ r) : notN r = true := by
 unfold notN inn
 have e1 : decide ((r : Int) ≤ 122) = false := by simp; omega
 have e2 : decide ((r : Int) ≤ 57) = false := by simp; omega
 simp [e1, e2]
theorem azn_low {c : UInt8} (h : azn c = true) : c.toNat < 128 := by
 unfold azn at h
 simp at h
 omega
theorem get_at (s : Bs) (i : Nat) (h : i < s.length) : ((⟨s.toArray⟩ : ByteArray)[i]'h) = s[i] := rfl
theorem idx_azn (s : Bs) : ∀ (f pos : Nat), s.length - pos ≤ f → pos ≤ s.length → decide (0 ≤ Lib.idxFuncFrom notN true ⟨s.toArray⟩ f pos) = !((s.drop pos).all azn)
 | 0, pos, h, hp => by
  rw [List.drop_of_length_le (by omega)]; rfl
 | f + 1, pos, h, hp => by
  unfold Lib.idxFuncFrom
  have hsz : (⟨s.toArray⟩ : ByteArray).size = s.length := rfl
  by_cases hlt : pos < s.length
  ·rw [if_pos (by rw [hsz]; exact hlt), List.drop_eq_getElem_cons hlt, List.all_cons]
   by_cases ha : s[pos].toNat < 128
   ·have hd := decode_ascii ⟨s.toArray⟩ pos (by rw [hsz]; exact hlt) (by rw [get_at s pos hlt]; exact ha)
    rw [hd, get_at s pos hlt]
    simp only
    rw [notN_azn]
    cases hz : azn s[pos]
    ·simp
    ·have ih := idx_azn s f (pos + 1) (by omega) (by omega)
     simp only [Bool.not_true, Bool.true_and]
     rw [← ih]
     simp
   ·have hd := decode_high ⟨s.toArray⟩ pos (by rw [hsz]; exact hlt) (by rw [get_at s pos hlt]; omega)
    rw [notN_high _ hd.1]
    have : azn s[pos] = false := by
     cases hz : azn s[pos]
     ·rfl
     ·exact absurd (azn_low hz) ha
    rw [this]
    simp
  ·rw [if_neg (by rw [hsz]; exact hlt), List.drop_of_length_le (by omega)]; rfl
theorem name_eq (s : Bs) : nameP s = rname s := by
 cases s with
 | nil => rfl
 | cons c r =>
  show (inn (r.length + 1 : Nat) 1 12 && (inn c.toNat 97 122 && !decide (0 ≤ Lib.idxFunc notN true ⟨(c :: r).toArray⟩))) = (decide (r.length + 1 ≤ 12) && !decide ((c.toNat : Int) < 97) && !decide ((c.toNat : Int) > 122) && (c :: r).all azn)
  have := idx_azn (c :: r) (c :: r).length 0 (by omega) (by omega)
  rw [List.drop_zero] at this
  have e : Lib.idxFunc notN true ⟨(c :: r).toArray⟩ = Lib.idxFuncFrom notN true ⟨(c :: r).toArray⟩ (c :: r).length 0 := rfl
  rw [e, this, Bool.not_not]
  generalize (c :: r).all azn = z
  unfold inn
  rw [Bool.eq_iff_iff]
  cases z
  ·simp
  ·simp
   omega
end Go.AL
end
section
namespace Go.AL
open Go Go.Proofs
def dgt (c : UInt8) : Bool := decide (48 ≤ c.toNat) && decide (c.toNat ≤ 57)
def dvA (a : Nat) (l : Bs) : Nat := l.foldl (fun n c => n * 10 + (c.toNat - 48)) a
theorem dvA_ge (l : Bs) : ∀ a, a ≤ dvA a l := by
 induction l with
 | nil => intro a; exact Nat.le_refl _
 | cons c r ih => intro a; have := ih (a * 10 + (c.toNat - 48)); simp only [dvA, List.foldl_cons] at this ⊢; omega
theorem dvA_snoc (a : Nat) (l : Bs) (c : UInt8) : dvA a (l ++ [c]) = dvA a l * 10 + (c.toNat - 48) := by simp [dvA]
theorem parse_dv : ∀ (l : Bs) (a : Nat), l.all dgt = true → dvA a l < 10000000000000000000 → Lib.parseUint10 a l = .ok (dvA a l)
 | [], a, _, _ => rfl
 | c :: r, a, h, hb => by
  rw [List.all_cons, Bool.and_eq_true] at h
  have hc := h.1
  unfold dgt at hc
  simp at hc
  have hge := dvA_ge r (a * 10 + (c.toNat - 48))
  have e : dvA a (c :: r) = dvA (a * 10 + (c.toNat - 48)) r := rfl
  rw [e] at hb ⊢
  rw [Lib.parseUint10, if_pos hc, if_neg (by omega), if_neg (by omega)]
  exact parse_dv r _ h.2 hb
theorem dgt_of (u : Nat) (h : u < 10) : dgt (UInt8.ofNat (48 + u)) = true ∧ (UInt8.ofNat (48 + u)).toNat = 48 + u := by
 have e : (UInt8.ofNat (48 + u)).toNat = 48 + u := by rw [UInt8.toNat_ofNat']; omega
 refine ⟨?_, e⟩
 unfold dgt
 rw [e]
 simp
 omega
theorem dd_all : ∀ u, (Lib.decDigits u).all dgt = true := by
 intro u
 induction u using Nat.strongRecOn with
 | _ u ih =>
  rw [Lib.decDigits]
  split
  ·rename_i h
   simp only [List.all_cons, List.all_nil, (dgt_of u h).1, Bool.and_self]
  ·rename_i h
   rw [List.all_append, ih (u / 10) (by omega)]
   simp only [List.all_cons, List.all_nil, (dgt_of (u % 10) (by omega)).1, Bool.and_self]
theorem dd_val : ∀ u, dvA 0 (Lib.decDigits u) = u := by
 intro u
 induction u using Nat.strongRecOn with
 | _ u ih =>
  rw [Lib.decDigits]
  split
  ·rename_i h
   show 0 * 10 + ((UInt8.ofNat (48 + u)).toNat - 48) = u
   rw [(dgt_of u h).2]
   omega
  ·rename_i h
   rw [dvA_snoc, ih (u / 10) (by omega), (dgt_of (u % 10) (by omega)).2]
   omega
theorem dd_ne (u : Nat) : Lib.decDigits u ≠ [] := by
 rw [Lib.decDigits]; split <;> simp
theorem dgt_back {c : UInt8} (h : dgt c = true) : UInt8.ofNat (48 + (c.toNat - 48)) = c ∧ c.toNat - 48 < 10 := by
 unfold dgt at h
 simp at h
 refine ⟨?_, by omega⟩
 rw [show 48 + (c.toNat - 48) = c.toNat from by omega]
 exact UInt8.ofNat_toNat
theorem dd_canon : ∀ (n : Nat) (l : Bs), l.length = n → l ≠ [] → l.all dgt = true → (l.head? = some 48 → l.length = 1) → Lib.decDigits (dvA 0 l) = l := by
 intro n
 induction n with
 | zero => intro l h hne; exact absurd (List.length_eq_zero_iff.1 h) hne
 | succ n ih =>
  intro l h hne ha hh
  obtain ⟨i, c, rfl⟩ : ∃ i c, l = i ++ [c] := ⟨l.dropLast, l.getLast hne, (List.dropLast_concat_getLast hne).symm⟩
  rw [List.all_append, Bool.and_eq_true] at ha
  have hc : dgt c = true := by simpa using ha.2
  obtain ⟨hb, hl⟩ := dgt_back hc
  rw [dvA_snoc]
  cases i with
  | nil =>
   rw [show dvA 0 [] * 10 + (c.toNat - 48) = c.toNat - 48 from by simp [dvA], Lib.decDigits_one hl, hb]; rfl
  | cons b t =>
   have h48 : b ≠ 48 := fun e => by
    have := hh (by simp [e])
    simp at this
   have e := ih (b :: t) (by simpa using h) (by simp) ha.1 (fun e => absurd (by simpa using e) h48)
   have hp : 1 ≤ dvA 0 (b :: t) := by
    rcases Nat.eq_zero_or_pos (dvA 0 (b :: t)) with h0 | h0
    ·rw [h0, Lib.decDigits_one (by omega)] at e
     injection e with e1 e2
     exact absurd (by rw [← e1]; rfl) h48
    ·exact h0
   rw [Lib.decDigits, dif_neg (by omega)]
   rw [show (dvA 0 (b :: t) * 10 + (c.toNat - 48)) / 10 = dvA 0 (b :: t) from by omega, show (dvA 0 (b :: t) * 10 + (c.toNat - 48)) % 10 = c.toNat - 48 from by omega, e, hb]
theorem dd_head : ∀ u, (Lib.decDigits u).head? = some 48 → u = 0 := by
 intro u
 induction u using Nat.strongRecOn with
 | _ u ih =>
  intro h
  rw [Lib.decDigits] at h
  split at h
  ·rename_i h1
   have e := (dgt_of u h1).2
   rw [List.head?_cons] at h
   injection h with h
   rw [h] at e
   have : (48 : UInt8).toNat = 48 := rfl
   omega
  ·rename_i h1
   have hne := dd_ne (u / 10)
   cases hd : Lib.decDigits (u / 10) with
   | nil => exact absurd hd hne
   | cons a t =>
    rw [hd] at h
    have := ih (u / 10) (by omega) (by rw [hd]; simpa using h)
    omega
end Go.AL
end
section
namespace Go.AL
open Go Go.Proofs
def chk : List Bs → List Bs
 | [] => []
 | [h] => if h = [] then [] else [h]
 | h :: g :: t => (h ++ [10]) :: chk (g :: t)
theorem chunks_eq : ∀ s, chunks s = chk (cuts 10 s)
 | [] => rfl
 | c :: r => by
  have ih := chunks_eq r
  have hne := cuts_ne 10 r
  rw [chunks, cuts]
  by_cases hc : c = 10
  ·rw [if_pos hc, if_pos hc, ih]
   cases hk : cuts 10 r with
   | nil => exact absurd hk hne
   | cons a t => rfl
  ·rw [if_neg hc, if_neg hc]
   cases hk : cuts 10 r with
   | nil => exact absurd hk hne
   | cons a t =>
    rw [hk] at ih
    rw [ih]
    cases t with
    | nil =>
     cases a with
     | nil => simp [chk, consH]
     | cons x y => simp [chk, consH]
    | cons b u => simp [chk, consH]
end Go.AL
end
section
namespace Go.AL
open Go Go.Proofs
theorem isDig_dgt (c : UInt8) : isDig c = dgt c := by
 unfold isDig dgt
 rw [Bool.eq_iff_iff]
 simp
 omega
theorem dsum_dv : ∀ (l : Bs) (a : Nat), l.all dgt = true → l.foldl (fun n c => 10 * n + ((c.toNat : Int) - 48)) (a : Int) = (dvA a l : Int)
 | [], a, _ => rfl
 | c :: r, a, h => by
  rw [List.all_cons, Bool.and_eq_true] at h
  have hc := h.1
  unfold dgt at hc
  simp at hc
  have ih := dsum_dv r (a * 10 + (c.toNat - 48)) h.2
  rw [List.foldl_cons, show (10 * (a : Int) + ((c.toNat : Int) - 48)) = ((a * 10 + (c.toNat - 48) : Nat) : Int) from by omega, ih]
  rfl
theorem dsum_all (l : Bs) (h : l.all dgt = true) : dsum l l.length = (dvA 0 l : Int) := by
 unfold dsum
 rw [List.take_length]
 exact dsum_dv l 0 h
theorem dd_len : ∀ (k u : Nat), u < 10 ^ (k + 1) → (Lib.decDigits u).length ≤ k + 1
 | 0, u, h => by rw [Lib.decDigits_one (by omega)]; simp
 | k + 1, u, h => by
  rw [Lib.decDigits]
  split
  ·simp
  ·have := dd_len k (u / 10) (by rw [Nat.pow_succ] at h; omega)
   rw [List.length_append]
   simp
   omega
def can (s : Bs) (v : Int) : Prop := s = Lib.itoa v ∧ -1000000000 ≤ v ∧ v ≤ 1000000000
theorem dd_first (u : Nat) : ∃ c r, Lib.decDigits u = c :: r ∧ dgt c = true := by
 cases hd : Lib.decDigits u with
 | nil => exact absurd hd (dd_ne u)
 | cons c r =>
  have := dd_all u
  rw [hd, List.all_cons, Bool.and_eq_true] at this
  exact ⟨c, r, rfl, this.1⟩
theorem mag_dd (u : Nat) (h : u ≤ 1000000000) : Lib.parseMag (Lib.decDigits u) = .ok u := by
 unfold Lib.parseMag
 rw [if_neg (dd_ne u), parse_dv _ 0 (dd_all u) (by rw [dd_val]; omega), dd_val]
theorem atoi_itoa (v : Int) (h1 : -1000000000 ≤ v) (h2 : v ≤ 1000000000) : Lib.atoiAll (Lib.itoa v) = .ok v := by
 unfold Lib.itoa
 by_cases hv : v < 0
 ·rw [if_pos hv]
  unfold Lib.atoiAll
  have : (45 : UInt8).toNat = 45 := rfl
  simp only [this, or_true, if_true, mag_dd v.natAbs (by omega)]
  rw [if_neg (by omega), if_neg (by omega)]
  congr 1
  omega
 ·rw [if_neg hv]
  have hm := mag_dd v.toNat (by omega)
  obtain ⟨c, r, e, hc⟩ := dd_first v.toNat
  unfold dgt at hc
  simp at hc
  rw [e] at hm ⊢
  unfold Lib.atoiAll
  simp only
  rw [if_neg (by omega), hm]
  simp only
  rw [if_neg (by omega), if_neg (by omega), if_neg (by omega)]
  congr 1
  omega
theorem numOk_can {s : Bs} {v : Int} (h : can s v) : numOk s = true ∧ numV s = v := by
 obtain ⟨rfl, h1, h2⟩ := h
 unfold numOk numV
 rw [atoi_itoa v h1 h2]
 simp [inn, h1, h2]
theorem can_numOk {s : Bs} (h : numOk s = true) : can s (numV s) := by
 unfold numOk at h
 unfold numV
 cases ha : Lib.atoiAll s with
 | ok v =>
  rw [ha] at h
  simp [inn] at h
  exact ⟨h.1.symm, h.2.1, h.2.2⟩
 | «syntax» => rw [ha] at h; cases h
 | range => rw [ha] at h; cases h
end Go.AL
end
section
namespace Go.AL
open Go Go.Proofs
theorem rnumT_dd (bl : Bool) (u : Nat) (h : u ≤ 1000000000) (hb : bl = true → 1 ≤ u) : rnumT bl (Lib.decDigits u) = (cond bl (0 - (u : Int)) u, true) := by
  have hl := dd_len 9 u (by omega)
  have ha := dd_all u
  have hv := dsum_all _ ha
  rw [dd_val] at hv
  have hh := dd_head u
  cases hd : Lib.decDigits u with
  | nil => exact absurd hd (dd_ne u)
  | cons c r =>
    rw [hd] at hl ha hv hh
    have ha2 : (c :: r).all isDig = true := by rw [← ha]; congr 1; funext x; exact isDig_dgt x
    simp only [List.length_cons] at hl hv
    have h0 : (decide (r.length + 1 > 10) || (decide (c = 48) && (decide (r.length + 1 > 1) || bl))) = false := by
      have e1 : decide (r.length + 1 > 10) = false := by simp; omega
      rw [e1, Bool.false_or]
      by_cases hc : c = 48
      · have hu := hh (by rw [hc]; rfl)
        have hbf : bl = false := by cases bl; · rfl
                                    · have := hb rfl; omega
        rw [hu, Lib.decDigits_one (by omega)] at hd
        injection hd with _ hr
        rw [← hr, hbf]
        simp
      · rw [decide_eq_false hc]; rfl
    show cond (decide (r.length + 1 > 10) || (decide (c = 48) && (decide (r.length + 1 > 1) || bl))) (0, false) (cond ((c :: r).all isDig) (cond (decide (dsum (c :: r) (r.length + 1) > 1000000000)) (0, false) (cond bl (0 - dsum (c :: r) (r.length + 1)) (dsum (c :: r) (r.length + 1)), true)) (0, false)) = _
    have e2 : decide ((u : Int) > 1000000000) = false := by simp; omega
    rw [h0, ha2, hv, e2]
    rfl
theorem rnumT_back {bl : Bool} {t : Bs} (h : (rnumT bl t).2 = true) : ∃ u : Nat, t = Lib.decDigits u ∧ u ≤ 1000000000 ∧ (bl = true → 1 ≤ u) := by
 cases t with
 | nil => exact absurd h (by simp [rnumT])
 | cons c r =>
  unfold rnumT at h
  simp only at h
  cases h0 : (decide (r.length + 1 > 10) || (decide (c = 48) && (decide (r.length + 1 > 1) || bl))) with
  | true => rw [h0] at h; exact absurd h (by simp)
  | false =>
   rw [h0] at h
   simp only [cond_false] at h
   cases ha2 : (c :: r).all isDig with
   | false => rw [ha2] at h; exact absurd h (by simp)
   | true =>
    rw [ha2] at h
    simp only [cond_true] at h
    have ha : (c :: r).all dgt = true := by rw [← ha2]; congr 1; funext x; exact (isDig_dgt x).symm
    have hv := dsum_all _ ha
    simp only [List.length_cons] at hv
    rw [hv] at h
    have hle : dvA 0 (c :: r) ≤ 1000000000 := by
     by_cases hq : (dvA 0 (c :: r) : Int) > 1000000000
     ·rw [decide_eq_true hq] at h; exact absurd h (by simp)
     ·omega
    rw [Bool.or_eq_false_iff] at h0
    have e := dd_canon _ (c :: r) rfl (by simp) ha (fun e => by
     rw [List.head?_cons] at e
     injection e with e
     have := h0.2
     rw [decide_eq_true e] at this
     simp at this
     simp [this.1])
    refine ⟨dvA 0 (c :: r), e.symm, hle, fun hb => ?_⟩
    rcases Nat.eq_zero_or_pos (dvA 0 (c :: r)) with hz | hz
    ·rw [hz, Lib.decDigits_one (by omega)] at e
     injection e with e1 e2
     have := h0.2
     rw [hb, ← e1, Bool.or_true, Bool.and_true] at this
     exact absurd this (by decide)
    ·exact hz
theorem rnum_can {s : Bs} {v : Int} (h : can s v) : rnum s = (v, true) := by
 obtain ⟨rfl, h1, h2⟩ := h
 unfold Lib.itoa
 by_cases hv : v < 0
 ·rw [if_pos hv]
  show rnumT true (Lib.decDigits v.natAbs) = _
  rw [rnumT_dd true _ (by omega) (fun _ => by omega)]
  simp only [cond_true]
  congr 1
  omega
 ·rw [if_neg hv]
  have e := rnumT_dd false v.toNat (by omega) (fun h => by cases h)
  obtain ⟨c, r, hd, hc⟩ := dd_first v.toNat
  rw [hd] at e ⊢
  have h45 : ¬ c = 45 := fun e => by rw [e] at hc; exact absurd hc (by decide)
  show cond (decide (c = 45)) (rnumT true r) (rnumT false (c :: r)) = _
  rw [decide_eq_false h45]
  simp only [cond_false]
  rw [e]
  simp only [cond_false]
  congr 1
  omega
theorem can_rnum {s : Bs} (h : (rnum s).2 = true) : ∃ v, can s v := by
 cases s with
 | nil => exact absurd h (by simp [rnum])
 | cons c r =>
  have e : rnum (c :: r) = cond (decide (c = 45)) (rnumT true r) (rnumT false (c :: r)) := rfl
  rw [e] at h
  by_cases hc : c = 45
  ·rw [decide_eq_true hc] at h
   obtain ⟨u, hu, hl, hp⟩ := rnumT_back h
   have := hp rfl
   refine ⟨-(u : Int), ?_, by omega, by omega⟩
   rw [hc, hu, Lib.itoa, if_pos (by omega)]
   congr 2
   omega
  ·rw [decide_eq_false hc] at h
   simp only [cond_false] at h
   obtain ⟨u, hu, hl, hp⟩ := rnumT_back h
   refine ⟨(u : Int), ?_, by omega, by omega⟩
   rw [hu, Lib.itoa, if_neg (by omega)]
   congr 1
theorem rdN_eq (s : Bs) : rdN s = ropN s := by
 unfold rdN ropN
 cases h : numOk s with
 | true => rw [rnum_can (can_numOk h)]
 | false =>
  cases h2 : (rnum s).2 with
  | false => rfl
  | true =>
   obtain ⟨v, hv⟩ := can_rnum h2
   rw [(numOk_can hv).1] at h
   cases h
end Go.AL
end
section
namespace Go.AL
open Go Go.Proofs
theorem suf1 (l : Bs) (c : UInt8) : Lib.hasSuffix l [c] = match l.getLast? with | some d => decide (d = c) | none => false := by
 rcases List.eq_nil_or_concat l with rfl | ⟨i, d, rfl⟩
 ·rfl
 ·rw [List.concat_eq_append, List.getLast?_concat]
  rw [Bool.eq_iff_iff]
  show [c].isSuffixOf (i ++ [d]) = true ↔ decide (d = c) = true
  rw [List.isSuffixOf_iff_suffix, decide_eq_true_iff]
  constructor
  ·rintro ⟨t, ht⟩
   have := List.append_inj' ht rfl
   have := this.2
   simp at this
   exact this.symm
  ·rintro rfl
   exact ⟨i, rfl⟩
theorem bare_end (l : Bs) : bare (l ++ [10]) = l := by
 unfold bare Lib.trimSuffix
 rw [suf1, List.getLast?_concat]
 simp
theorem ended_end (l : Bs) : ended (l ++ [10]) = true := by
 unfold ended
 rw [suf1, List.getLast?_concat]
 simp
theorem isLab_eq (l : Bs) : isLab l = rlab l := by
 unfold isLab rlab
 exact suf1 l 58
theorem labName_eq (l : Bs) (h : rlab l = true) : labName l = l.dropLast ∧ l = l.dropLast ++ [58] := by
 have h1 := isLab_eq l
 rw [h] at h1
 unfold isLab at h1
 unfold labName Lib.trimSuffix
 rw [if_pos h1]
 refine ⟨by rw [List.dropLast_eq_take]; rfl, ?_⟩
 unfold rlab at h
 rcases List.eq_nil_or_concat l with rfl | ⟨i, d, rfl⟩
 ·cases h
 ·rw [List.concat_eq_append, List.getLast?_concat] at h
  have : d = 58 := by simpa using h
  simp [this]
theorem rlab_end (w : Bs) : rlab (w ++ [58]) = true := by
 unfold rlab
 rw [List.getLast?_concat]; rfl
theorem cuts_no (c : UInt8) : ∀ s, ∀ l ∈ cuts c s, c ∉ l
 | [], l, h => by
  have : l = [] := by simpa [cuts] using h
  rw [this]; simp
 | b :: r, l, h => by
  have ih := cuts_no c r
  rw [cuts] at h
  by_cases hb : b = c
  ·rw [if_pos hb] at h
   rcases List.mem_cons.1 h with rfl | h
   ·simp
   ·exact ih l h
  ·rw [if_neg hb] at h
   cases hk : cuts c r with
   | nil => exact absurd hk (cuts_ne c r)
   | cons a t =>
    rw [hk] at h ih
    simp only [consH] at h
    rcases List.mem_cons.1 h with rfl | h
    ·intro hc
     rcases List.mem_cons.1 hc with e | hc
     ·exact hb e.symm
     ·exact ih a (by simp) hc
    ·exact ih l (List.mem_cons_of_mem _ h)
theorem no_end {l : Bs} (h : (10 : UInt8) ∉ l) : ended l = false ∧ bare l = l := by
 have e : Lib.hasSuffix l [10] = false := by
  rw [suf1]
  cases hg : l.getLast? with
  | none => rfl
  | some d =>
   have := List.mem_of_getLast? hg
   have : ¬ d = 10 := fun e => h (e ▸ this)
   simp [this]
 refine ⟨e, ?_⟩
 unfold bare Lib.trimSuffix
 rw [e]; rfl
theorem chk_eq : ∀ (ls : List Bs) (x : Bs), chk (ls ++ [x]) = ls.map (· ++ [10]) ++ (if x = [] then [] else [x])
 | [], x => by simp [chk]
 | [l], x => by simp [chk]
 | l :: g :: t, x => by
  have ih := chk_eq (g :: t) x
  simp only [List.cons_append] at ih ⊢
  rw [chk, ih]
  simp
theorem lines_split (s : Bs) : ∃ x, rsplit 10 s = rlines s ++ [x] ∧ chunks s = (rlines s).map (· ++ [10]) ++ (if x = [] then [] else [x]) ∧ (10 : UInt8) ∉ x := by
 have hne := cuts_ne 10 s
 refine ⟨(cuts 10 s).getLast hne, ?_, ?_, ?_⟩
 ·unfold rlines
  rw [rsplit_eq, List.dropLast_concat_getLast]
 ·rw [chunks_eq]
  unfold rlines
  rw [rsplit_eq]
  rw [← chk_eq, List.dropLast_concat_getLast]
 ·exact cuts_no 10 s _ (List.getLast_mem hne)
theorem lab_inv (ls : List Bs) : ∀ k, k ≤ ls.length → (labSt (ls.map (· ++ [10])) k).2 = nl ls k ∧ ∀ w, (labSt (ls.map (· ++ [10])) k).1.lookup w = ((ls.take k).findIdx? (fun l => decide (l = w ++ [58]))).map (nl ls)
 | 0, _ => ⟨by simp [labSt, nl], fun w => by simp [labSt]⟩
 | k + 1, h => by
  obtain ⟨ih1, ih2⟩ := lab_inv ls k (by omega)
  have hk : k < ls.length := by omega
  have hkm : k < (ls.map (· ++ [10])).length := by simpa using hk
  rw [labSt_succ hkm]
  have hg : (ls.map (· ++ [10]))[k] = ls[k] ++ [10] := by simp
  rw [hg]
  generalize labSt (ls.map (· ++ [10])) k = st at *
  obtain ⟨m, n⟩ := st
  simp only at ih1 ih2
  unfold stepL
  rw [bare_end, ended_end, isLab_eq, nl_succ hk, ih1]
  refine ⟨rfl, fun w => ?_⟩
  have hw := ih2 w
  rw [List.take_succ_eq_append_getElem hk, List.findIdx?_append]
  have hlen : (ls.take k).length = k := by rw [List.length_take]; omega
  rw [hlen]
  generalize (ls.take k).findIdx? (fun l => decide (l = w ++ [58])) = q at *
  simp only [Bool.true_and]
  cases hr : rlab ls[k] with
  | false =>
   have hn : ¬ ls[k] = w ++ [58] := fun e => by rw [e, rlab_end] at hr; cases hr
   simp only [Bool.false_and, cond_false, List.findIdx?_cons, List.findIdx?_nil, decide_eq_false hn]
   rw [hw]
   cases q <;> simp
  | true =>
   obtain ⟨hd, hl⟩ := labName_eq ls[k] hr
   have hp : decide (ls[k] = w ++ [58]) = decide (labName ls[k] = w) := by
    rw [hd]
    by_cases e : ls[k].dropLast = w
    ·rw [decide_eq_true e, decide_eq_true]
     rw [← e]; exact hl
    ·rw [decide_eq_false e, decide_eq_false]
     intro e2
     apply e
     rw [e2]; simp
   simp only [Bool.true_and, List.findIdx?_cons, List.findIdx?_nil, hp]
   generalize labName ls[k] = d at *
   by_cases e : d = w
   ·subst e
    simp only [decide_true]
    cases q with
    | some i => rw [hw]; simp [hw]
    | none =>
     rw [hw]
     simp only [Option.map_none, Option.isSome_none, Bool.not_false, cond_true]
     rw [List.lookup_append, hw]
     simp [List.lookup]
   ·have e2 : (w == d) = false := by simp; exact fun h => e h.symm
    simp only [decide_eq_false e]
    cases (m.lookup d).isSome
    ·simp only [Bool.not_false, cond_true]
     rw [List.lookup_append, hw]
     cases q <;> simp [List.lookup, e2]
    ·simp only [Bool.not_true, cond_false]
     rw [hw]
     cases q <;> simp
end Go.AL
end
section
namespace Go.AL
open Go Go.Proofs
theorem labels_look (s w : Bs) : (labels s).lookup w = ((rlines s).findIdx? (fun l => decide (l = w ++ [58]))).map (nl (rlines s)) := by
 obtain ⟨x, _, hc, hx⟩ := lines_split s
 have hi := (lab_inv (rlines s) (rlines s).length (Nat.le_refl _)).2 w
 rw [List.take_length] at hi
 rw [← hi]
 unfold labels labSt
 rw [hc, List.take_length]
 have hl : ((rlines s).map (· ++ [10])).take (rlines s).length = (rlines s).map (· ++ [10]) := List.take_of_length_le (by simp)
 rw [hl]
 by_cases h : x = []
 ·rw [if_pos h, List.append_nil]
 ·rw [if_neg h, List.foldl_append]
  generalize List.foldl stepL ([], 0) ((rlines s).map (· ++ [10])) = st
  show (stepL st x).1.lookup w = _
  unfold stepL
  rw [(no_end hx).1]
  rfl
theorem rdT_eq (s w : Bs) : rdT (labels s) w = ropT (rlines s) w := by
 unfold rdT ropT rtarget
 rw [name_eq, labels_look]
 cases (rlines s).findIdx? (fun l => decide (l = w ++ [58])) <;> rfl
theorem rd_eq (s : Bs) (c : UInt8) (w : Bs) : rd (labels s) c w = rop (rlines s) c w := by
 unfold rd rop
 rw [rdN_eq, rdT_eq]
theorem rdAll_eq (s : Bs) : ∀ (kd : Bs) (ws : List Bs), rdAll (labels s) kd ws = rAll (rlines s) kd ws
 | [], _ => rfl
 | _ :: _, [] => rfl
 | c :: cs, w :: ws => by
  rw [rdAll, rAll, rd_eq, rdAll_eq s cs ws]
theorem words_eq (l : Bs) : words l = rsplit 32 l := by
 unfold words
 rw [split_eq, rsplit_eq]
theorem instr_eq (s l : Bs) (n : Int) : rinstr (rlines s) l n = cond (decide ((instrP (labels s) l).2 = 0)) (cond (decide (n ≥ 1000)) (default, 2) (instrP (labels s) l)) (instrP (labels s) l) := by
 cases hw : rsplit 32 l with
 | nil =>
  have e1 : instrP (labels s) l = (default, 10) := by unfold instrP; rw [words_eq, hw]
  have e2 : rinstr (rlines s) l n = (default, 10) := by unfold rinstr; rw [hw]
  rw [e1, e2]; rfl
 | cons w ws =>
  have e1 : instrP (labels s) l = cond (decide (findOp w < 0)) (default, 10) (instrK (labels s) (findOp w) (at' opsT (findOp w)).2 ws) := by unfold instrP; rw [words_eq, hw]
  have e2 : rinstr (rlines s) l n = cond (decide (findOp w < 0)) (default, 10) (rinstrK (rlines s) (findOp w) (at' opK (findOp w)) ws n) := by unfold rinstr; rw [hw]
  rw [e1, e2]
  rcases findOp_cases w with h | ⟨k, hk, h⟩
  ·rw [h]; rfl
  ·have h0 : decide ((k : Int) < 0) = false := by simp
   rw [h, h0, opK_at k hk]
   simp only [cond_false]
   unfold rinstrK instrK
   rw [rdAll_eq]
   cases decide (ws.length = (at' opsT (k : Int)).2.length) with
   | false => rfl
   | true =>
    simp only [cond_true]
    by_cases hz : (rAll (rlines s) (at' opsT (k : Int)).2 ws).2 = 0
    ·rw [hz]; simp
    ·simp [hz]
theorem instr_lt (s l : Bs) (n : Nat) (h : (rinstr (rlines s) l n).2 = 0) : n < 1000 ∧ rinstr (rlines s) l n = instrP (labels s) l := by
 rw [instr_eq] at h ⊢
 by_cases h0 : (instrP (labels s) l).2 = 0
 ·rw [decide_eq_true h0] at h ⊢
  simp only [cond_true] at h ⊢
  by_cases hn : (n : Int) ≥ 1000
  ·rw [decide_eq_true hn] at h
   simp only [cond_true] at h
   exact absurd h (by decide)
  ·rw [decide_eq_false hn]
   exact ⟨by omega, rfl⟩
 ·rw [decide_eq_false h0] at h
  exact absurd h h0
theorem bad1_inv {e : Nat → Int} : ∀ {n : Nat}, (bad1 e n = none → ∀ q, q < n → e q = 0) ∧ (∀ k, bad1 e n = some k → k < n ∧ (∀ q, q < k → e q = 0) ∧ e k ≠ 0)
 | 0 => ⟨fun _ q h => absurd h (by omega), fun k h => by cases h⟩
 | n + 1 => by
  obtain ⟨i1, i2⟩ := bad1_inv (e := e) (n := n)
  rw [bad1]
  cases hb : bad1 e n with
  | some k =>
   refine ⟨fun h => (by cases h), fun q h => ?_⟩
   injection h with h
   subst h
   obtain ⟨a, b, c⟩ := i2 _ hb
   exact ⟨by omega, b, c⟩
  | none =>
   have i1 := i1 hb
   by_cases h0 : e n = 0
   ·rw [decide_eq_true h0]
    refine ⟨fun _ q hq => ?_, fun k h => (by cases h)⟩
    by_cases e : q = n
    ·rw [e]; exact h0
    ·exact i1 q (by omega)
   ·rw [decide_eq_false h0]
    refine ⟨fun h => (by cases h), fun k h => ?_⟩
    injection h with h
    subst h
    exact ⟨by omega, i1, h0⟩
def PInv (s : Bs) (k : Nat) : Prop :=
 (pSt (labels s) (chunks s) k).2 = rpSt (rlines s) k ∧ (rpSt (rlines s) k).length ≤ 1000 ∧ (∀ b, 0 ≤ cnt (pSt (labels s) (chunks s) k).1 b) ∧ ∀ b, decide (cnt (pSt (labels s) (chunks s) k).1 b + 1 > 1) = ((rlines s).take k).any fun l => decide (l = b)
theorem chunk_at (s : Bs) {k : Nat} (h : k < (rlines s).length) : ∃ h2 : k < (chunks s).length, (chunks s)[k] = (rlines s)[k] ++ [10] := by
 obtain ⟨x, _, hc, _⟩ := lines_split s
 have h2 : k < (chunks s).length := by rw [hc]; simp; omega
 refine ⟨h2, ?_⟩
 have : (chunks s)[k]? = some ((rlines s)[k] ++ [10]) := by
  rw [hc, List.getElem?_append_left (by simpa using h)]
  simp [h]
 rw [List.getElem?_eq_getElem h2] at this
 injection this
theorem rpE_eq (s : Bs) {k : Nat} (h : k < (rlines s).length) (hi : PInv s k) : pE (labels s) (chunks s) k = rpE (rlines s) k := by
 obtain ⟨h2, hc⟩ := chunk_at s h
 obtain ⟨i1, i2, _, i3⟩ := hi
 unfold pE rpE
 rw [List.getElem?_eq_getElem h2, hc]
 simp only
 have hg : (rlines s).getD k [] = (rlines s)[k] := by simp [List.getD, h]
 rw [hg]
 unfold lineE
 rw [bare_end, ended_end, isLab_eq, i3, i1]
 cases hr : rlab (rlines s)[k] with
 | true =>
  obtain ⟨hd, _⟩ := labName_eq _ hr
  rw [hd, name_eq]
  cases rname (rlines s)[k].dropLast <;> simp
 | false =>
  have e : decide ((rpSt (rlines s) k).length = 1000) = decide (((rpSt (rlines s) k).length : Int) ≥ 1000) := by
   by_cases h3 : (rpSt (rlines s) k).length = 1000
   ·rw [decide_eq_true h3, decide_eq_true (by omega)]
   ·rw [decide_eq_false h3, decide_eq_false (by omega)]
  rw [instr_eq, e]
  simp only [Bool.not_true, Bool.false_and, Bool.or_false, cond_false]
  by_cases h0 : (instrP (labels s) (rlines s)[k]).2 = 0
  ·rw [decide_eq_true h0]
   simp only [cond_true]
   cases decide (((rpSt (rlines s) k).length : Int) ≥ 1000)
   ·exact h0.symm
   ·rfl
  ·rw [decide_eq_false h0]
   rfl
theorem inv_all (s : Bs) : ∀ k, k ≤ (rlines s).length → (∀ q, q < k → rpE (rlines s) q = 0) → PInv s k
 | 0, _, _ => ⟨rfl, by simp [rpSt], fun b => by simp [pSt, cnt], fun b => by simp [pSt, cnt]⟩
 | k + 1, hk, hz => by
  have ih := inv_all s k (by omega) (fun q hq => hz q (by omega))
  have h : k < (rlines s).length := by omega
  have hE := hz k (by omega)
  obtain ⟨h2, hc⟩ := chunk_at s h
  obtain ⟨i1, i2, i0, i3⟩ := ih
  have hg : (rlines s).getD k [] = (rlines s)[k] := by simp [List.getD, h]
  unfold PInv
  rw [pSt_succ h2, hc, bare_end, rpSt_succ h]
  have hcd : lineC (labels s) (pSt (labels s) (chunks s) k).2 ((rlines s)[k] ++ [10]) = cond (rlab (rlines s)[k]) (rpSt (rlines s) k) (rpSt (rlines s) k ++ [(rinstr (rlines s) (rlines s)[k] (rpSt (rlines s) k).length).1]) ∧ (cond (rlab (rlines s)[k]) (rpSt (rlines s) k) (rpSt (rlines s) k ++ [(rinstr (rlines s) (rlines s)[k] (rpSt (rlines s) k).length).1])).length ≤ 1000 := by
   unfold lineC
   unfold rpE at hE
   rw [hg] at hE
   rw [bare_end, isLab_eq, i1]
   cases hr : rlab (rlines s)[k] with
   | true => exact ⟨rfl, i2⟩
   | false =>
    rw [hr] at hE
    obtain ⟨hn, he⟩ := instr_lt s _ _ hE
    simp only [cond_false]
    rw [he]
    refine ⟨rfl, ?_⟩
    rw [List.length_append]; simp; omega
  refine ⟨hcd.1, hcd.2, fun b => ?_, fun b => ?_⟩
  ·rw [bump_cnt]
   have a := i0 (rlines s)[k]; have c := i0 b
   cases decide ((rlines s)[k] = b) <;> simp <;> omega
  ·rw [bump_cnt, List.take_succ_eq_append_getElem h, List.any_append, ← i3]
   have a := i0 (rlines s)[k]
   by_cases e : (rlines s)[k] = b
   ·simp only [List.any_cons, List.any_nil, Bool.or_false, decide_eq_true e, cond_true, Bool.or_true, decide_eq_true_eq]
    omega
   ·simp only [List.any_cons, List.any_nil, Bool.or_false, decide_eq_false e, cond_false]
theorem parse_eq (s : Bs) : parseP s = rparse s := by
 unfold parseP rparse
 by_cases h4 : s.length > 40000
 ·rw [decide_eq_true h4]; rfl
 ·rw [decide_eq_false h4]
  simp only [cond_false]
  have hcut : chunks s = chunks s := rfl
  obtain ⟨x, hs, hc, hx⟩ := lines_split s
  obtain ⟨b1, b2⟩ := bad1_inv (e := rpE (rlines s)) (n := (rlines s).length)
  have hlen : (chunks s).length = (rlines s).length + (if x = [] then [] else [x] : List Bs).length := by rw [hc]; simp
  have hlx : (rsplit 10 s).getLast? = some x := by rw [hs]; simp
  have hln : (rsplit 10 s).length = (rlines s).length + 1 := by rw [hs]; simp
  cases hb : bad1 (rpE (rlines s)) (rlines s).length with
  | some k =>
   obtain ⟨k1, k2, k3⟩ := b2 k hb
   have hz : ∀ q, q ≤ k → pE (labels s) (chunks s) q = rpE (rlines s) q := fun q hq =>
    rpE_eq s (by omega) (inv_all s q (by omega) (fun p hp => k2 p (by omega)))
   have hp : bad1 (pE (labels s) (chunks s)) (chunks s).length = some k :=
    bad1_some (fun q hq => by rw [hz q (by omega)]; exact k2 q hq) (by rw [hz k (by omega)]; exact k3) (by omega)
   rw [hp]
   simp only
   rw [hz k (by omega)]
  | none =>
   have b1 := b1 hb
   have hi := inv_all s (rlines s).length (Nat.le_refl _) b1
   have hz : ∀ q, q < (rlines s).length → pE (labels s) (chunks s) q = 0 := fun q hq => by
    rw [rpE_eq s hq (inv_all s q (by omega) (fun p hp => b1 p (by omega)))]; exact b1 q hq
   rw [hlx]
   by_cases h0 : x = []
   ·have hn : (chunks s).length = (rlines s).length := by rw [hlen, if_pos h0]; rfl
    rw [bad1_none (fun q hq => hz q (by omega)), hn]
    simp only
    rw [hi.1, h0]
    rfl
   ·have hn : (chunks s).length = (rlines s).length + 1 := by rw [hlen, if_neg h0]; rfl
    have he : pE (labels s) (chunks s) (rlines s).length = 12 := by
     unfold pE
     rw [hc, List.getElem?_append_right (by simp), if_neg h0]
     simp only [List.length_map, Nat.sub_self, List.getElem?_cons_zero]
     unfold lineE
     rw [(no_end hx).1]
     rfl
    rw [bad1_some (k := (rlines s).length) hz (by rw [he]; decide) (by omega)]
    simp only
    rw [he, hln]
    have : decide (some x = some ([] : Bs)) = false := by simp [h0]
    rw [this]
    simp
end Go.AL
end
section
namespace Go.AL
open Go Go.Proofs
theorem nl_left (l1 l2 : List Bs) {i : Nat} (h : i ≤ l1.length) : nl (l1 ++ l2) i = nl l1 i := by
 unfold nl
 rw [List.take_append_of_le_length h]
theorem nl_mono (ls : List Bs) {i j : Nat} (h : i ≤ j) : nl ls i ≤ nl ls j := by
 unfold nl
 have : (ls.take i) <+: (ls.take j) := List.take_prefix_take_left h
 have := (List.IsPrefix.filter (fun l => !rlab l) this).length_le
 omega
theorem rpSt_nl (ls : List Bs) : ∀ k, k ≤ ls.length → ((rpSt ls k).length : Int) = nl ls k
 | 0, _ => by simp [rpSt, nl]
 | k + 1, h => by
  have ih := rpSt_nl ls k (by omega)
  have hk : k < ls.length := by omega
  rw [rpSt_succ hk, nl_succ hk, ← ih]
  cases rlab ls[k] <;> simp
theorem tgt_l {l1 : List Bs} (l2 : List Bs) {w : Bs} (h : (rtarget l1 w).2 = true) : rtarget (l1 ++ l2) w = rtarget l1 w := by
 unfold rtarget at h ⊢
 rw [List.findIdx?_append]
 cases hf : l1.findIdx? (fun l => decide (l = w ++ [58])) with
 | none => rw [hf] at h; cases h
 | some i =>
  obtain ⟨hi, _⟩ := List.findIdx?_eq_some_iff_getElem.1 hf
  simp only [Option.some_or]
  rw [nl_left l1 l2 (by omega)]
theorem rAll_inv (ls : List Bs) : ∀ (kd : Bs) (ws : List Bs), ws.length = kd.length → (rAll ls kd ws).2 = 0 → ∀ q, q < kd.length → (rop ls (kd.getD q 0) (ws.getD q [])).2 = 0
 | [], ws, _, _, q, hq => absurd hq (by simp)
 | c :: kd, [], h, _, _, _ => by simp at h
 | c :: kd, w :: ws, h, ha, q, hq => by
  rw [rAll] at ha
  by_cases h0 : (rop ls c w).2 = 0
  ·rw [decide_eq_true h0] at ha
   simp only [cond_true] at ha
   cases q with
   | zero => simpa using h0
   | succ q => simpa using rAll_inv ls kd ws (by simpa using h) ha q (by simpa using hq)
  ·rw [decide_eq_false h0] at ha
   exact absurd ha h0
theorem rAll_get {ls : List Bs} {kd : Bs} {ws : List Bs} (hl : ws.length = kd.length) (h : ∀ q, q < kd.length → (rop ls (kd.getD q 0) (ws.getD q [])).2 = 0) (q : Nat) :
  (rAll ls kd ws).1.getD q 0 = cond (decide (q < kd.length)) (rop ls (kd.getD q 0) (ws.getD q [])).1 0 := by
 by_cases hq : q < kd.length
 ·rw [decide_eq_true hq]
  exact (rAll_ok ls kd ws hl h).2 q hq
 ·rw [decide_eq_false hq]
  have := rAll_len ls kd ws
  rw [List.getD, List.getElem?_eq_none (by omega)]; rfl
def LineOk (ls : List Bs) (l : Bs) (k : Nat) (ws : List Bs) : Prop :=
 k < 27 ∧ (∃ w, rsplit 32 l = w :: ws ∧ findOp w = (k : Int)) ∧ ws.length = (at' opsT (k : Int)).2.length ∧ ∀ q, q < (at' opsT (k : Int)).2.length → (rop ls ((at' opsT (k : Int)).2.getD q 0) (ws.getD q [])).2 = 0
def insOf (ls : List Bs) (k : Nat) (ws : List Bs) : Ins :=
 ⟨k, (rAll ls (at' opsT (k : Int)).2 ws).1.getD 0 0, (rAll ls (at' opsT (k : Int)).2 ws).1.getD 1 0, (rAll ls (at' opsT (k : Int)).2 ws).1.getD 2 0⟩
theorem rinstr_of {ls : List Bs} {l : Bs} {k : Nat} {ws : List Bs} (h : LineOk ls l k ws) (n : Int) : rinstr ls l n = cond (decide (n ≥ 1000)) (default, 2) (insOf ls k ws, 0) := by
 obtain ⟨hk, ⟨w, hw, hf⟩, hl, ha⟩ := h
 unfold rinstr
 rw [hw]
 simp only
 have h0 : decide ((k : Int) < 0) = false := by simp
 rw [hf, h0, opK_at k hk]
 simp only [cond_false]
 unfold rinstrK
 rw [decide_eq_true hl, (rAll_ok ls _ ws hl ha).1]
 rfl
theorem rinstr_inv {ls : List Bs} {l : Bs} {n : Int} (h : (rinstr ls l n).2 = 0) : ∃ k ws, LineOk ls l k ws ∧ ¬ n ≥ 1000 ∧ rinstr ls l n = (insOf ls k ws, 0) := by
 have h' := h
 unfold rinstr at h
 cases hw : rsplit 32 l with
 | nil => rw [hw] at h; exact absurd h (by simp)
 | cons w ws =>
  rw [hw] at h
  simp only at h
  rcases findOp_cases w with hf | ⟨k, hk, hf⟩
  ·rw [hf] at h; exact absurd h (by simp)
  ·have h0 : decide ((k : Int) < 0) = false := by simp
   rw [hf, h0, opK_at k hk] at h
   simp only [cond_false] at h
   unfold rinstrK at h
   by_cases hl : ws.length = (at' opsT (k : Int)).2.length
   ·rw [decide_eq_true hl] at h
    simp only [cond_true] at h
    by_cases hz : (rAll ls (at' opsT (k : Int)).2 ws).2 = 0
    ·have hL : LineOk ls l k ws := ⟨hk, ⟨w, hw, hf⟩, hl, rAll_inv ls _ ws hl hz⟩
     have e := rinstr_of hL n
     by_cases hn : n ≥ 1000
     ·rw [e, decide_eq_true hn] at h'; exact absurd h' (by simp)
     ·rw [decide_eq_false hn] at e
      exact ⟨k, ws, hL, hn, e⟩
    ·rw [decide_eq_false hz] at h
     exact absurd h hz
   ·rw [decide_eq_false hl] at h
    exact absurd h (by simp)
theorem getD_at {ls : List Bs} {k : Nat} (h : k < ls.length) : ls.getD k [] = ls[k] := by simp [List.getD, h]
theorem rparse_good {s : Bs} (h : (rparse s).2.2 = 0) : s.length ≤ 40000 ∧ rsplit 10 s = rlines s ++ [[]] ∧ (∀ q, q < (rlines s).length → rpE (rlines s) q = 0) ∧ rparse s = (rpSt (rlines s) (rlines s).length, 0, 0) := by
 obtain ⟨x, hs, _, _⟩ := lines_split s
 have hlx : (rsplit 10 s).getLast? = some x := by rw [hs]; simp
 have h' := h
 unfold rparse at h ⊢
 by_cases h4 : s.length > 40000
 ·rw [decide_eq_true h4] at h; exact absurd h (by simp)
 ·rw [decide_eq_false h4] at h ⊢
  simp only [cond_false] at h ⊢
  cases hb : bad1 (rpE (rlines s)) (rlines s).length with
  | some k =>
   rw [hb] at h
   exact absurd h ((bad1_inv.2 k hb).2.2)
  | none =>
   rw [hb, hlx] at h
   by_cases hx1 : x = []
   ·rw [hx1] at hs hlx
    exact ⟨by omega, hs, bad1_inv.1 hb, by rw [hlx]; rfl⟩
   ·rw [decide_eq_false (by simpa using hx1)] at h
    exact absurd h (by simp)
end Go.AL
end
section
namespace Go.AL
open Go Go.Proofs
def bd (v : Int) : Prop := -1000000000 ≤ v ∧ v ≤ 1000000000
theorem bd_zero : bd 0 := ⟨by decide, by decide⟩
theorem ropN_bd (s : Bs) : bd (ropN s).1 := by
 unfold ropN
 cases h : (rnum s).2 with
 | false => exact bd_zero
 | true =>
  obtain ⟨v, hv⟩ := can_rnum h
  rw [rnum_can hv]
  exact hv.2
end Go.AL
end
section
namespace Go.AL
open Go Go.Proofs
def nm (k : Nat) : Bs := (at' opsT (k : Int)).1
def kdO (k : Nat) : Bs := (at' opsT (k : Int)).2
def pfx (c : UInt8) : Bs := cond (decide (c = 114)) [114] (cond (decide (c = 116)) [108] [])
def prW (c : UInt8) (v : Int) : Bs := pfx c ++ Lib.itoa v
def vals3 (i : Ins) : List Int := [i.a, i.b, i.c]
def prL (i : Ins) : Bs := nm i.op.toNat ++ (List.zipWith prW (kdO i.op.toNat) (vals3 i)).flatMap (32 :: ·)
def hasT (i : Ins) (n : Int) : Bool := (List.zip (kdO i.op.toNat) (vals3 i)).any fun p => decide (p.1 = 116) && decide (p.2 = n)
def isT (l : List Ins) (n : Int) : Bool := l.any (hasT · n)
def lname (n : Nat) : Bs := 108 :: Lib.itoa n
def lim (k : Option UInt8) (n : Nat) : Int × Int := match k with
 | none => (0, 0)
 | some c => cond (decide (c = 114)) (0, 7) (cond (decide (c = 110)) (-1000000000, 1000000000) (0, n))
def mayV (k : Option UInt8) (n : Nat) (v : Int) : Bool := inn v (lim k n).1 (lim k n).2
def mayI (n : Nat) (i : Ins) : Bool := inn i.op 0 26 && (mayV (kdO i.op.toNat)[0]? n i.a && (mayV (kdO i.op.toNat)[1]? n i.b && mayV (kdO i.op.toNat)[2]? n i.c))
def rightC (l : List Ins) : Bool := decide (l.length ≤ 1000) && l.all (mayI l.length)
theorem cuts_sep (c : UInt8) (r : Bs) : ∀ a : Bs, c ∉ a → cuts c (a ++ c :: r) = a :: cuts c r
 | [], _ => by simp [cuts]
 | b :: a, h => by
  have ih := cuts_sep c r a (fun hm => h (List.mem_cons_of_mem _ hm))
  have hb : ¬ b = c := fun e => h (by simp [e])
  rw [List.cons_append, cuts, if_neg hb, ih]; rfl
theorem cuts_one (c : UInt8) : ∀ a : Bs, c ∉ a → cuts c a = [a]
 | [], _ => by simp [cuts]
 | b :: a, h => by
  have ih := cuts_one c a (fun hm => h (List.mem_cons_of_mem _ hm))
  have hb : ¬ b = c := fun e => h (by simp [e])
  rw [cuts, if_neg hb, ih]; rfl
theorem cuts_words (c : UInt8) : ∀ (ws : List Bs) (a : Bs), c ∉ a → (∀ w ∈ ws, c ∉ w) → cuts c (a ++ ws.flatMap (c :: ·)) = a :: ws
 | [], a, h, _ => by simpa using cuts_one c a h
 | w :: ws, a, h, hw => by
  rw [List.flatMap_cons, List.cons_append, cuts_sep c _ a h, cuts_words c ws w (hw w (by simp)) (fun x hx => hw x (List.mem_cons_of_mem _ hx))]
theorem cuts_lines (c : UInt8) : ∀ (ls : List Bs), (∀ l ∈ ls, c ∉ l) → cuts c (ls.flatMap (· ++ [c])) = ls ++ [[]]
 | [], _ => by simp [cuts]
 | l :: ls, h => by
  rw [List.flatMap_cons, List.append_assoc, List.singleton_append, cuts_sep c _ l (h l (by simp)), cuts_lines c ls (fun x hx => h x (List.mem_cons_of_mem _ hx))]
  rfl
def wch (c : UInt8) : Bool := dgt c || (decide (97 ≤ c.toNat) && decide (c.toNat ≤ 122)) || decide (c = 45)
theorem wch_no {s : Bs} (h : s.all wch = true) {c : UInt8} (hc : wch c = false) : c ∉ s := fun hm => by
 have := List.all_eq_true.1 h c hm
 rw [hc] at this; cases this
theorem dgt_wch {s : Bs} (h : s.all dgt = true) : s.all wch = true := by
 rw [List.all_eq_true] at h ⊢
 intro x hx
 unfold wch
 rw [h x hx]; rfl
theorem itoa_wch (v : Int) : (Lib.itoa v).all wch = true := by
 unfold Lib.itoa
 split
 ·rw [List.all_cons, dgt_wch (dd_all _)]; rfl
 ·exact dgt_wch (dd_all _)
theorem itoa_nat (n : Nat) : Lib.itoa (n : Int) = Lib.decDigits n := by
 unfold Lib.itoa
 rw [if_neg (by omega)]; rfl
theorem itoa_len {v : Int} (h : bd v) : (Lib.itoa v).length ≤ 11 := by
 unfold bd at h
 unfold Lib.itoa
 split
 ·have := dd_len 9 v.natAbs (by omega)
  simp; omega
 ·have := dd_len 9 v.toNat (by omega)
  omega
theorem nm_wch : ∀ k : Nat, k < 27 → (nm k).all wch = true ∧ (nm k).length ≤ 5 ∧ findOp (nm k) = (k : Int) := by decide +kernel
theorem kd_of : ∀ k : Nat, k < 27 → (kdO k).length ≤ 3 ∧ (kdO k).all (fun c => decide (c = 114) || (decide (c = 110) || decide (c = 116))) = true := by decide
theorem prW_wch (c : UInt8) (v : Int) : (prW c v).all wch = true := by
 unfold prW pfx
 rw [List.all_append, itoa_wch]
 cases decide (c = 114)
 ·cases decide (c = 116) <;> rfl
 ·rfl
theorem mem_zipW {α β γ : Type} {f : α → β → γ} : ∀ {A : List α} {B : List β} {w : γ}, w ∈ List.zipWith f A B → ∃ a b, w = f a b
 | [], _, _, h => by simp at h
 | _ :: _, [], _, h => by simp at h
 | a :: A, b :: B, w, h => by
  rw [List.zipWith_cons_cons] at h
  rcases List.mem_cons.1 h with rfl | h
  ·exact ⟨a, b, rfl⟩
  ·exact mem_zipW h
theorem prL_words {i : Ins} (h : i.op.toNat < 27) : rsplit 32 (prL i) = nm i.op.toNat :: List.zipWith prW (kdO i.op.toNat) (vals3 i) := by
 rw [rsplit_eq]
 refine cuts_words 32 _ _ (wch_no (nm_wch _ h).1 (by decide)) (fun w hw => ?_)
 obtain ⟨a, b, rfl⟩ := mem_zipW hw
 exact wch_no (prW_wch _ _) (by decide)
theorem prL_no {i : Ins} (h : i.op.toNat < 27) {c : UInt8} (hc : wch c = false) (hc2 : c ≠ 32) : c ∉ prL i := by
 unfold prL
 intro hm
 rcases List.mem_append.1 hm with hm | hm
 ·exact wch_no (nm_wch _ h).1 hc hm
 ·obtain ⟨w, hw, hm⟩ := List.mem_flatMap.1 hm
  rcases List.mem_cons.1 hm with hm | hm
  ·exact hc2 hm
  ·obtain ⟨a, b, rfl⟩ := mem_zipW hw
   exact wch_no (prW_wch _ _) hc hm
theorem prL_lab {i : Ins} (h : i.op.toNat < 27) : rlab (prL i) = false := by
 unfold rlab
 cases hg : (prL i).getLast? with
 | none => rfl
 | some d =>
  have := List.mem_of_getLast? hg
  exact decide_eq_false fun e => prL_no h (c := 58) (by decide) (by decide) (e ▸ this)
theorem lname_name {n : Nat} (h : n ≤ 1000) : rname (lname n) = true := by
 have hl := dd_len 9 n (by omega)
 have ha := dd_all n
 unfold lname rname
 rw [itoa_nat]
 have e : (108 :: Lib.decDigits n).all azn = true := by
  rw [List.all_cons, List.all_eq_true.2]
  ·rfl
  ·intro x hx
   have := List.all_eq_true.1 ha x hx
   unfold dgt at this
   unfold azn
   simp at this ⊢
   omega
 simp only [e]
 simp
 omega
end Go.AL
end
section
namespace Go.AL
open Go Go.Proofs
theorem inn_iff {v a b : Int} : inn v a b = true ↔ a ≤ v ∧ v ≤ b := by
 unfold inn; simp
theorem rop_pr_r (ls : List Bs) {v : Int} (h0 : 0 ≤ v) (h7 : v ≤ 7) : rop ls 114 (prW 114 v) = (v, 0) := by
 obtain ⟨n, rfl⟩ : ∃ n : Nat, v = n := ⟨v.toNat, by omega⟩
 have hn : n ≤ 7 := by omega
 unfold prW pfx
 rw [itoa_nat, Lib.decDigits_one (by omega)]
 show rdR [114, UInt8.ofNat (48 + n)] = _
 have e := (dgt_of n (by omega)).2
 show cond (decide ((114 : UInt8).toNat = 114)) (cond (inn (UInt8.ofNat (48 + n)).toNat 48 55) (((UInt8.ofNat (48 + n)).toNat : Int) - 48, 0) (0, 3)) (0, 3) = _
 have e2 : ((UInt8.ofNat (48 + n)).toNat : Int) = 48 + n := by rw [e]; omega
 rw [e2]
 have h1 : inn (48 + (n : Int)) 48 55 = true := inn_iff.2 ⟨by omega, by omega⟩
 rw [h1]
 show ((48 + (n : Int)) - 48, (0 : Int)) = _
 congr 1
 omega
theorem rop_pr_n (ls : List Bs) {v : Int} (h0 : -1000000000 ≤ v) (h7 : v ≤ 1000000000) : rop ls 110 (prW 110 v) = (v, 0) := by
 show ropN (prW 110 v) = _
 have e : prW 110 v = Lib.itoa v := rfl
 unfold ropN
 rw [e, rnum_can ⟨rfl, h0, h7⟩]
 rfl
theorem rop_pr_t (ls : List Bs) {n : Nat} (hn : n ≤ 1000) (ht : rtarget ls (lname n) = ((n : Int), true)) : rop ls 116 (prW 116 n) = ((n : Int), 0) := by
 show ropT ls (lname n) = _
 unfold ropT
 rw [lname_name hn, ht]; rfl
def AllAt (l : List Ins) (ls : List Bs) : Prop := ∀ n : Nat, n ≤ l.length → isT l n = true → rtarget ls (lname n) = ((n : Int), true)
theorem rop_pr {l : List Ins} {ls : List Bs} (hl : l.length ≤ 1000) (hA : AllAt l ls) {c : UInt8} {v : Int} (hc : c = 114 ∨ c = 110 ∨ c = 116) (hm : mayV (some c) l.length v = true) (hT : c = 116 → isT l v = true) : rop ls c (prW c v) = (v, 0) := by
 unfold mayV lim at hm
 rcases hc with rfl | rfl | rfl
 ·obtain ⟨h0, h7⟩ := inn_iff.1 hm
  exact rop_pr_r ls h0 h7
 ·obtain ⟨h0, h7⟩ := inn_iff.1 hm
  exact rop_pr_n ls h0 h7
 ·obtain ⟨h0, h7⟩ := inn_iff.1 hm
  have h0 : 0 ≤ v := h0
  have h7 : v ≤ (l.length : Int) := h7
  obtain ⟨n, rfl⟩ : ∃ n : Nat, v = n := ⟨v.toNat, by omega⟩
  exact rop_pr_t ls (by omega) (hA n (by omega) (hT rfl))
theorem mayI_op {n : Nat} {i : Ins} (h : mayI n i = true) : ∃ k : Nat, k < 27 ∧ i.op = k := by
 unfold mayI at h
 rw [Bool.and_eq_true] at h
 obtain ⟨h1, h2⟩ := inn_iff.1 h.1
 exact ⟨i.op.toNat, by omega, by omega⟩
theorem mayI_val {n : Nat} {i : Ins} (h : mayI n i = true) : mayV (kdO i.op.toNat)[0]? n i.a = true ∧ mayV (kdO i.op.toNat)[1]? n i.b = true ∧ mayV (kdO i.op.toNat)[2]? n i.c = true := by
 unfold mayI at h
 simp only [Bool.and_eq_true] at h
 exact ⟨h.2.1, h.2.2.1, h.2.2.2⟩
theorem mayV_none {n : Nat} {v : Int} (h : mayV none n v = true) : v = 0 := by
 obtain ⟨h1, h2⟩ := inn_iff.1 h
 have h1 : 0 ≤ v := h1
 have h2 : v ≤ 0 := h2
 omega
theorem prL_ok {l : List Ins} {ls : List Bs} (hl : l.length ≤ 1000) (hA : AllAt l ls) {i : Ins} (hi : i ∈ l) (hm : mayI l.length i = true) : LineOk ls (prL i) i.op.toNat (List.zipWith prW (kdO i.op.toNat) (vals3 i)) ∧ insOf ls i.op.toNat (List.zipWith prW (kdO i.op.toNat) (vals3 i)) = i := by
 obtain ⟨k, hk, hop⟩ := mayI_op hm
 have hko : i.op.toNat = k := by omega
 obtain ⟨ma, mb, mc⟩ := mayI_val hm
 have hkl := prL_words (i := i) (by omega)
 have hko' := hko
 rw [hko] at ma mb mc hkl ⊢
 obtain ⟨hlen, hall⟩ := kd_of k hk
 have hkd : kdO k = (at' opsT (k : Int)).2 := rfl
 have hwl : (List.zipWith prW (kdO k) (vals3 i)).length = (kdO k).length := by
  rw [List.length_zipWith]
  show min (kdO k).length 3 = _
  omega
 have hv : ∀ q, q < (kdO k).length → ∃ v, (vals3 i)[q]? = some v ∧ mayV (kdO k)[q]? l.length v = true := fun q hq => by
  match q, hq with
  | 0, _ => exact ⟨_, rfl, ma⟩
  | 1, _ => exact ⟨_, rfl, mb⟩
  | 2, _ => exact ⟨_, rfl, mc⟩
  | q + 3, hq => omega
 have hrop : ∀ q, q < (kdO k).length → rop ls ((kdO k).getD q 0) ((List.zipWith prW (kdO k) (vals3 i)).getD q []) = ((vals3 i).getD q 0, 0) := fun q hq => by
  obtain ⟨v, h1, h2⟩ := hv q hq
  have hc : (kdO k)[q]? = some (kdO k)[q] := List.getElem?_eq_getElem hq
  have e1 : (kdO k).getD q 0 = (kdO k)[q] := by simp [List.getD, hc]
  have e2 : (vals3 i).getD q 0 = v := by simp [List.getD, h1]
  have e3 : (List.zipWith prW (kdO k) (vals3 i)).getD q [] = prW (kdO k)[q] v := by
   simp [List.getD, List.getElem?_zipWith, hc, h1]
  rw [e1, e2, e3]
  rw [hc] at h2
  have hcc : (kdO k)[q] = 114 ∨ (kdO k)[q] = 110 ∨ (kdO k)[q] = 116 := by
   have := List.all_eq_true.1 hall _ (List.getElem_mem hq)
   simpa using this
  refine rop_pr hl hA hcc h2 fun hc6 => ?_
  unfold isT
  rw [List.any_eq_true]
  refine ⟨i, hi, ?_⟩
  unfold hasT
  rw [List.any_eq_true]
  refine ⟨((kdO k)[q], v), ?_, by simp [hc6]⟩
  rw [hko']
  exact List.mem_of_getElem? (i := q) (by rw [List.getElem?_zip_eq_some]; exact ⟨hc, h1⟩)
 have hz : ∀ q, q < (kdO k).length → (rop ls ((kdO k).getD q 0) ((List.zipWith prW (kdO k) (vals3 i)).getD q [])).2 = 0 := fun q hq => by rw [hrop q hq]
 refine ⟨⟨hk, ⟨nm k, hkl, (nm_wch k hk).2.2⟩, hwl, hz⟩, ?_⟩
 have hg : ∀ q, (rAll ls (kdO k) (List.zipWith prW (kdO k) (vals3 i))).1.getD q 0 = cond (decide (q < (kdO k).length)) ((vals3 i).getD q 0) 0 := fun q => by
  rw [rAll_get hwl hz]
  by_cases hq : q < (kdO k).length
  ·rw [hrop q hq]
  ·rw [decide_eq_false hq]; rfl
 have fin : ∀ q v, (vals3 i).getD q 0 = v → (mayV (kdO k)[q]? l.length v = true) → (rAll ls (kdO k) (List.zipWith prW (kdO k) (vals3 i))).1.getD q 0 = v := fun q v h1 h2 => by
  rw [hg]
  by_cases hq : q < (kdO k).length
  ·rw [decide_eq_true hq]; exact h1
  ·rw [decide_eq_false hq]
   rw [List.getElem?_eq_none (by omega)] at h2
   exact (mayV_none h2).symm
 unfold insOf
 rw [← hkd, fin 0 i.a rfl ma, fin 1 i.b rfl mb, fin 2 i.c rfl mc, ← hop]
end Go.AL
end
section
set_option maxRecDepth 100000
namespace Go.AL
open Go Go.Proofs
attribute [local irreducible] J
def look2 (m : Mp) (w : Bs) : Int × Int := match m.lookup w with | some n => (n, 0) | none => (0, 8)
def whereP (s w : Bs) : Int × Int := cond (decide ((parseP s).2.2 = 0)) (look2 (labels s) w) (0, (parseP s).2.2)
theorem where_ok (g : Gl) (s w : Bs) (hs : s.length ≤ 1000000) : ACalls Tryz.prog 85 [sv s, sv w] (gls g) (one (.tup [iv (whereP s w).1, iv (whereP s w).2]) (gls g)) := by
 have hp := parse_ok g s hs
 have hl := labels_ok s hs
 have hf := encM_find (labels s) w
 have hks := encM_keys (labels s)
 unfold whereP look2
 generalize parseP s = r at *
 obtain ⟨r1, r2, r3⟩ := r
 simp only at hp ⊢
 by_cases h0 : r3 = 0
 ·subst h0
  simp only [decide_true, cond_true]
  cases hlk : (labels s).lookup w with
  | none =>
   rw [hlk] at hf
   simp only [Option.map_none] at hf
   refine jcalls Tryz.func85 rfl (by kernel_rfl) Tryz.ntmps85 rfl rfl (fun w0 β0 ext hβ => ?_)
   repeat (first | refine jS ?_ | refine jD ?_ | refine jB ?_)
   refine jb [0,1,2,3] hp rfl rfl rfl ⟨rfl, rfl, rfl, rfl, rfl, rfl⟩ rfl rfl rfl rfl ?_
   repeat (first | refine jS ?_ | refine jD ?_ | refine jB ?_)
   refine jb [] hl rfl rfl rfl ⟨rfl, rfl, rfl, rfl, rfl, rfl⟩ rfl rfl rfl rfl ?_
   repeat (first | refine jS ?_ | refine jD ?_ | refine jB ?_ | refine jo rfl rfl (map_get rfl rfl rfl rfl rfl rfl rfl rfl rfl trivial hks hf rfl) rfl rfl ?_)
   exact jR
  | some n =>
   rw [hlk] at hf
   simp only [Option.map_some] at hf
   refine jcalls Tryz.func85 rfl (by kernel_rfl) Tryz.ntmps85 rfl rfl (fun w0 β0 ext hβ => ?_)
   repeat (first | refine jS ?_ | refine jD ?_ | refine jB ?_)
   refine jb [0,1,2,3] hp rfl rfl rfl ⟨rfl, rfl, rfl, rfl, rfl, rfl⟩ rfl rfl rfl rfl ?_
   repeat (first | refine jS ?_ | refine jD ?_ | refine jB ?_)
   refine jb [] hl rfl rfl rfl ⟨rfl, rfl, rfl, rfl, rfl, rfl⟩ rfl rfl rfl rfl ?_
   repeat (first | refine jS ?_ | refine jD ?_ | refine jB ?_ | refine jo rfl rfl (map_get rfl rfl rfl rfl rfl rfl rfl rfl rfl trivial hks hf rfl) rfl rfl ?_)
   exact jR
 ·rw [decide_eq_false h0]
  have e1 : (r3 != 0) = true := by simpa using h0
  refine jcalls Tryz.func85 rfl (by kernel_rfl) Tryz.ntmps85 rfl rfl (fun w0 β0 ext hβ => ?_)
  repeat (first | refine jS ?_ | refine jD ?_ | refine jB ?_)
  refine jb [0,1,2,3] hp rfl rfl rfl ⟨rfl, rfl, rfl, rfl, rfl, rfl⟩ rfl rfl rfl rfl ?_
  repeat (first | refine jS ?_ | refine jD ?_ | refine jB ?_)
  rw [e1]
  repeat (first | refine jS ?_ | refine jD ?_ | refine jB ?_)
  exact jR
def rwhere (s w : Bs) : Int × Int := cond (rtarget (rsplit 10 s) w).2 ((rtarget (rsplit 10 s) w).1, 0) (0, 8)
theorem rwhere_ok (s w : Bs) (hs : s.length ≤ 900000) (hw : w.length ≤ 1000000) : ACalls Tryz.prog 49 [sv s, sv w] [] (one (.tup [iv (rwhere s w).1, iv (rwhere s w).2]) []) := by
 have hsp := rsplit_ok s 10 hs
 have hlen := rsplit_len 10 s
 have hall : (rsplit 10 s).length ≤ 900001 := by
  have := (spSt_le 10 s s.length).2
  unfold rsplit
  simp
  omega
 have ht := rtarget_ok (rsplit 10 s) w hw (by omega) (fun l hm => by have := hlen l hm; omega)
 unfold rwhere
 generalize rtarget (rsplit 10 s) w = t at *
 obtain ⟨n, b⟩ := t
 simp only at ht ⊢
 cases b
 all_goals refine jcalls Tryz.func49 rfl (by kernel_rfl) Tryz.ntmps49 rfl rfl (fun w0 β0 ext hβ => ?_)
 all_goals (
  repeat (first | refine jS ?_ | refine jD ?_ | refine jB ?_ | refine jV hsp ?_ | refine jV ht ?_)
 )
 all_goals exact jR
theorem where_eq (s w : Bs) : whereP s w = cond (decide ((rparse s).2.2 = 0)) (rwhere s w) (0, (rparse s).2.2) := by
 unfold whereP
 rw [parse_eq]
 by_cases h0 : (rparse s).2.2 = 0
 ·rw [decide_eq_true h0]
  simp only [cond_true]
  obtain ⟨x, hs, hc, hx⟩ := lines_split s
  have hx0 : x = [] := by
   unfold rparse at h0
   by_cases h4 : s.length > 40000
   ·rw [decide_eq_true h4] at h0; exact absurd h0 (by simp)
   ·rw [decide_eq_false h4] at h0
    simp only [cond_false] at h0
    have hlx : (rsplit 10 s).getLast? = some x := by rw [hs]; simp
    cases hb : bad1 (rpE (rlines s)) (rlines s).length with
    | some k =>
     rw [hb] at h0
     exact absurd h0 ((bad1_inv.2 k hb).2.2)
    | none =>
     rw [hb, hlx] at h0
     by_cases hx1 : x = []
     ·exact hx1
     ·rw [decide_eq_false (by simpa using hx1)] at h0
      exact absurd h0 (by simp)
  unfold look2 rwhere rtarget
  rw [labels_look, hs, hx0, List.findIdx?_append]
  have hno : ([([] : Bs)].findIdx? fun l => decide (l = w ++ [58])) = none := by
   simp [List.findIdx?_cons]
  rw [hno]
  cases hf : (rlines s).findIdx? (fun l => decide (l = w ++ [58])) with
  | none => simp
  | some i =>
   have hi : i < (rlines s).length := by
    have := List.findIdx?_eq_some_iff_getElem.1 hf
    obtain ⟨h, _⟩ := this
    exact h
   simp only [Option.map_some, Option.orElse_some, cond_true, Option.some_or]
   have : nl (rlines s ++ [[]]) i = nl (rlines s) i := by
    unfold nl
    rw [List.take_append_of_le_length (by omega)]
   simp [this]
 ·rw [decide_eq_false h0]; rfl
end Go.AL
end
section
set_option maxRecDepth 100000
namespace Go.AL
open Go Go.Proofs Go.RowKit
theorem cc_used (b : Nat) (w : World) (h0 : w.cell? ⟨b, 0, none⟩ = some (.pointer (some ⟨b, 0, none⟩))) :
  Calls Tryz.prog 98 #[.pointer (some ⟨b, 0, none⟩)] w fun e w' => e = .returned (.tuple #[]) ∧ w' = w := by
 obtain ⟨j, hj, _⟩ := Option.map_eq_some_iff.1 (show (Tryz.prog.info? 111).map (·.size) = some 2 by kernel_rfl)
 go_enter Tryz.func98, Tryz.ntmps98
 go_wp2
 rw [Lib.run_neq_ptr_same w _ Tryz.underlying108 hj]
 go_wp2
 go_end0
 exact ⟨rfl, rfl⟩
theorem cc_fresh (b : Nat) (w : World) (h0 : w.cell? ⟨b, 0, none⟩ = some (.pointer none)) (hsh : w.shape? b = some (111, 2)) (hfz : w.frozen? ⟨b, 0, none⟩ = false) :
  Calls Tryz.prog 98 #[.pointer (some ⟨b, 0, none⟩)] w fun e w' => e = .returned (.tuple #[]) ∧ w' = w.setCell ⟨b, 0, none⟩ (.pointer (some ⟨b, 0, none⟩)) := by
 obtain ⟨j, hj, hjs⟩ := Option.map_eq_some_iff.1 (show (Tryz.prog.info? 111).map (·.size) = some 2 by kernel_rfl)
 go_enter Tryz.func98, Tryz.ntmps98
 go_wp2
 rw [Lib.run_to_unsafe w ⟨b, 0, none⟩ Tryz.underlying108 Tryz.underlying149 hj (by rw [hjs]; decide) hsh (Nat.zero_lt_succ 1)]
 simp only [Result.andThen]
 rw [Oper.upon_value]
 go_wp2
 rw [run_callFunc_extern Tryz.func141 (by kernel_rfl) (by kernel_rfl) (by kernel_rfl) (e := Extern.AbiNoEscape.same) (by kernel_rfl)]
 rw [Lib.run_noEscape]
 simp only [Result.andThen]
 rw [Oper.upon_value]
 go_wp2
 rw [Lib.run_from_unsafe w ⟨b, 0, none⟩ Tryz.underlying149 Tryz.underlying108 hj hsh (by kernel_rfl)]
 simp only [Result.andThen]
 rw [Oper.upon_value]
 go_wp2
 go_end0
 exact ⟨rfl, rfl⟩
theorem bstr_row (b g cap : Nat) (p : Value) (cur : Array Value) (l : List UInt8) (w : World) (hbk : w.heap[b]? = some (.cells #[p, .slice (some ⟨g, 0, none⟩) l.length cap] 111 (0, 0))) (hg : w.heap[g]? = some (.cells cur 5 (0, 0)))
  (h0 : l ≠ []) (hcap : l.length ≤ cap) (hcur : cur.size = cap) (h63 : l.length ≤ 9223372036854775807) (hc : ∀ (j : Nat) (x : UInt8), l[j]? = some x → cur[j]? = some (Value.int .u8 x.toNat)) :
  Calls Tryz.prog 59 #[.pointer (some ⟨b, 0, none⟩)] w fun e w' => e = .returned (.string ⟨l.toArray⟩) ∧ w' = w.drew.freeze ⟨g, 0, none⟩ l.length := by
 have hl0 : 0 < l.length := List.length_pos_iff.2 h0
 have c1 : w.drew.cell? ⟨b, 1, none⟩ = some (.slice (some ⟨g, 0, none⟩) l.length cap) := by
  have : w.drew.heap[b]? = some (.cells #[p, .slice (some ⟨g, 0, none⟩) l.length cap] 111 (0, 0)) := hbk
  rw [Lib.cell_of_heap this]; rfl
 have hSD : (Builtin.unsafeSliceData_ #[109] 173 #[.slice (some ⟨g, 0, none⟩) l.length cap]).run Tryz.prog w.drew = .ok (.pointer (some ⟨g, 0, none⟩)) w.drew :=
  Lib.run_unsafeSliceData_row _ _ _ _ _ _ (by omega)
 have hUS : (Builtin.unsafeString_ #[173, 3] 9 #[.pointer (some ⟨g, 0, none⟩), .int .i64 l.length]).run Tryz.prog w.drew = .ok (.string ⟨l.toArray⟩) (w.drew.freeze ⟨g, 0, none⟩ l.length) := by
  refine Lib.run_unsafeString_row w.drew 173 3 9 5 Tryz.underlying173 (by kernel_rfl) g cur.size (by have hg' : w.drew.heap[g]? = some (.cells cur 5 (0, 0)) := hg; simp [World.shape?, hg']) l h0 (by omega) h63 ?_
  intro j x hx
  have hg' : w.drew.heap[g]? = some (.cells cur 5 (0, 0)) := hg
  have := hc j x hx
  simp only [Addr.add_lit, Nat.zero_add]
  rw [Lib.cell_of_heap hg']
  exact this
 go_enter Tryz.func59, Tryz.ntmps59
 go_wp2
 go_region
 all_goals (go_wp2; go_ret; exact ⟨rfl, rfl⟩)
end Go.AL
end
section
set_option maxRecDepth 100000
namespace Go.AL
open Go Go.Proofs
attribute [local irreducible] J
def adr (u : Bool) : AVal := cond u (.ptr 0 0) (.v (.pointer none))
def bldH (u : Bool) (g : Nat) (l : Bs) : List AObj := [.box 111 [adr u, .arr 1 g], .arr g 5 1 (l.map encB)]
theorem two_cells {vs : Array Value} {p s : Value} (h : vs.toList = [p, s]) : vs = #[p, s] := by
 apply Array.ext'; simpa using h
theorem cc_ok (u : Bool) (g : Nat) (l : Bs) : ACalls Tryz.prog 98 [.ptr 0 0] (bldH u g l) (one (.tup []) (bldH true g l)) := by
 refine ⟨⟨_, Tryz.func98, by kernel_rfl, by kernel_rfl⟩, fun ext w β us hI hx hr => ?_⟩
 obtain ⟨x, us', rfl, r0, rfl⟩ := hr
 obtain ⟨e, b, vs, he, hb, rfl, hc, hrl, hone, h0⟩ := box_of hI (j := 0) rfl r0
 obtain ⟨p, vs1, hvs, rp, s, vs2, rfl, rs, rfl⟩ := hrl
 obtain rfl := two_cells hvs
 have hcell : w.cell? ⟨b, 0, none⟩ = some p := by simp [World.cell?, hc]
 have hlt : b < w.heap.size := (Array.getElem?_eq_some_iff.1 hc).1
 cases u with
 | true =>
  obtain ⟨e', b', he', h0', hb', rfl⟩ := rp
  rw [he] at he'
  obtain rfl := Option.some.inj he'
  rw [hb] at hb'
  obtain rfl := Option.some.inj hb'
  refine (cc_used b w hcell).mono fun en w' ⟨h1, h2⟩ => ?_
  subst h1; subst h2
  exact ⟨.tup [], _, β, ⟨rfl, rfl⟩, ⟨#[], rfl, rfl⟩, hI, Step.refl _ _⟩
 | false =>
  have hp : p = .pointer none := rp
  subst hp
  refine (cc_fresh b w hcell (by simp [World.shape?, hc]) (by simp [World.frozen?, hc])).mono fun en w' ⟨h1, h2⟩ => ?_
  subst h1; subst h2
  have k1 : (w.setCell ⟨b, 0, none⟩ (.pointer (some ⟨b, 0, none⟩))).heap[b]? = some (.cells #[.pointer (some ⟨b, 0, none⟩), s] 111 (0, 0)) := by
   simp [World.setCell, Array.getElem?_modify, hc]
  have k2 : ∀ c, c ≠ b → (w.setCell ⟨b, 0, none⟩ (.pointer (some ⟨b, 0, none⟩))).heap[c]? = w.heap[c]? := fun c hne => RowKit.Below.heap_setCell _ _ _ _ hne
  have k3 : (w.setCell ⟨b, 0, none⟩ (.pointer (some ⟨b, 0, none⟩))).heap.size = w.heap.size := by simp [World.setCell]
  have hst : Step w β (w.setCell ⟨b, 0, none⟩ (.pointer (some ⟨b, 0, none⟩))) β := Step.write ⟨0, e, he, hb⟩ k3 k2 rfl rfl rfl
  have hI' := hI.write (a := .box 111 [.ptr 0 0, .arr 1 g]) he hb k3 k2 rfl rfl rfl ⟨h0, rfl, b, _, hb, k1, _, _, rfl, ⟨e, b, he, h0, hb, rfl⟩, _, _, rfl, rs.le (hst.le (ext := ext)), rfl⟩
  exact ⟨.tup [], _, β, ⟨rfl, rfl⟩, ⟨#[], rfl, rfl⟩, hI', hst⟩
theorem bld_regen {f : FuncId} {args : List AVal} {H : List AObj} {v : AVal} {g g' : Nat} {l : Bs} (hv : ∀ c c' u, Rel c v u → Rel c' v u) (h : ACalls Tryz.prog f args H (one v (bldH true g l))) (hg : g ≤ g') : ACalls Tryz.prog f args H (one v (bldH true g' l)) := by
 rcases Nat.eq_or_lt_of_le hg with rfl | hlt
 ·exact h
 refine ⟨h.enters, fun ext w β us hI hx hr => (h.calls ext w β us hI hx hr).mono fun en w' he => ?_⟩
 cases en with
 | returned u =>
  obtain ⟨v', H', β', ⟨h1, rfl⟩, h2, h3, h4⟩ := he
  injection h1 with h1
  subst h1
  have hl : β'.length = 2 := h3.len
  obtain ⟨e0, h0⟩ : ∃ e0, β'[0]? = some e0 := ⟨_, List.getElem?_eq_getElem (by omega)⟩
  obtain ⟨e1, h1⟩ : ∃ e1, β'[1]? = some e1 := ⟨_, List.getElem?_eq_getElem (by omega)⟩
  obtain ⟨q1, q0, q2, q3, q4, q5⟩ := h3.obj 1 _ e1 rfl h1
  obtain ⟨p1, p2, b, vs, hb, hc, p, vs1, hvs, rp, s, vs2, rfl, rs, rfl⟩ := h3.obj 0 _ e0 rfl h0
  obtain ⟨e2, f1, f2, f3, f4, f5⟩ : ∃ e2 : Ent, e2.blk = e1.blk ∧ e2.gen = g' ∧ e2.es = e1.es ∧ e2.cap = e1.cap ∧ e2.len = e1.len := ⟨{ e1 with gen := g' }, rfl, rfl, rfl, rfl, rfl⟩
  have hreg : Step w' β' w' (β'.set 1 e2) := Step.regen h1 (by omega) (by omega) (.inr f1)
  have hxt : ∀ b, ext b → b < w'.heap.size := fun b hb => Nat.lt_of_lt_of_le (hx b hb) h4.size
  have hI1 := h3.set (a := .arr g' 5 1 (l.map encB)) hxt h1 hreg (fun _ _ _ => rfl) (.inr (.inr f1)) ⟨f2, by omega, f3.trans q2, f5.trans q3, by rw [f4]; exact q4, by
   rw [f1, f4]
   cases hk : e1.blk with
   | none => rw [hk] at q5; exact q5
   | some bk =>
    rw [hk] at q5
    obtain ⟨cs, z1, z2, z3⟩ := q5
    exact ⟨cs, z1, z2, z3.le (hreg.le (ext := ext)).bare _ _ _ _⟩⟩
  have h0' : (β'.set 1 e2)[0]? = some e0 := by rw [List.getElem?_set_ne (by omega)]; exact h0
  have h1' : (β'.set 1 e2)[1]? = some e2 := List.getElem?_set_self (by omega)
  obtain ⟨rs1, ee, rs2, rs3, rs4⟩ := rs
  rw [h1] at rs2
  obtain rfl := Option.some.inj rs2
  have rsn : Rel (ctx ext w' (β'.set 1 e2)) (.arr 1 g') s := by
   obtain ⟨z1, z2⟩ := rs4 q1
   exact ⟨rs1, _, h1', by omega, fun _ => ⟨by omega, by rw [f1, f4, f5]; exact z2⟩⟩
  have hI2 := hI1.write (w' := w') (a := .box 111 [.ptr 0 0, .arr 1 g']) h0' hb rfl (fun _ _ => rfl) rfl rfl rfl ⟨p1, rfl, b, vs, hb, hc, p, _, hvs, rp.le (hreg.le (ext := ext)), s, [], rfl, rsn, rfl⟩
  exact ⟨_, _, _, ⟨rfl, rfl⟩, hv _ _ _ h2, hI2, h4.trans hreg⟩
 | panicked ch => obtain ⟨u, _, v', H', β', ⟨h1, _⟩, _⟩ := he; cases h1
 | outgrown => exact he.elim
theorem encB_elems (l : Bs) : ElemsOk 1 (l.map encB) := elems_map l fun x => ⟨rfl, rfl⟩
theorem wstr_g (u : Bool) (g : Nat) (l s : Bs) (hl : l.length + s.length ≤ 1000000000) : ACalls Tryz.prog 55 [.ptr 0 0, sv s] (bldH u g l) (one (.tup [iv s.length, .v .nilIface]) (bldH true (g + 1) (l ++ s))) := by
 have hc := cc_ok u g l
 have hlen : (l.map encB).length + s.length ≤ 140737488355328 := by rw [List.length_map]; omega
 have he := encB_elems l
 unfold bldH at *
 cases u
 all_goals refine jcalls Tryz.func55 rfl (by kernel_rfl) Tryz.ntmps55 rfl rfl (fun w0 β0 ext hβ => ?_)
 all_goals (
  repeat (first | refine jS ?_ | refine jD ?_ | refine jB ?_)
 )
 all_goals refine jb [0,1] hc rfl rfl rfl ⟨rfl, rfl, rfl, rfl, rfl, rfl⟩ rfl rfl rfl rfl ?_
 all_goals (
  repeat (first | refine jS ?_ | refine jD ?_ | refine jB ?_ | refine jo rfl rfl (append_text rfl rfl rfl rfl rfl rfl rfl rfl rfl rfl rfl he hlen) rfl rfl ?_)
 )
 all_goals rw [← List.map_append]
 all_goals exact jR
def bld (u : Bool) (l : Bs) : List AObj := bldH u (l.length + 1) l
theorem plainT (x y : Value) : ∀ c c' u, Rel c (.tup [.v x, .v y]) u → Rel c' (.tup [.v x, .v y]) u := fun c c' u ⟨a, h1, p, r, e, hp, q, r2, e2, hq, e3⟩ => ⟨a, h1, p, r, e, hp, q, r2, e2, hq, e3⟩
theorem wstr_ok (u : Bool) (l s : Bs) (hs : 0 < s.length) (hl : l.length + s.length ≤ 1000000000) : ACalls Tryz.prog 55 [.ptr 0 0, sv s] (bld u l) (one (.tup [iv s.length, .v .nilIface]) (bld true (l ++ s))) :=
 bld_regen (plainT _ _) (wstr_g u (l.length + 1) l s hl) (by rw [List.length_append]; omega)
theorem freeze_size (w : World) (a : Addr) (n : Nat) : (w.freeze a n).heap.size = w.heap.size := by
 unfold World.freeze; split <;> simp
theorem freeze_other (w : World) (a : Addr) (n : Nat) {c : Nat} (h : c ≠ a.block) : (w.freeze a n).heap[c]? = w.heap[c]? := by
 unfold World.freeze
 split
 ·rfl
 ·simp only [Array.getElem?_modify]
  rw [if_neg (fun e => h e.symm)]
theorem str_ok (u : Bool) (l : Bs) (h0 : l ≠ []) (h63 : l.length ≤ 1000000000) : ACalls Tryz.prog 59 [.ptr 0 0] (bld u l) (one (sv l) [.box 111 [adr u, .arr 1 (l.length + 1)], .dead (l.length + 2)]) := by
 unfold bld bldH
 refine ⟨⟨_, Tryz.func59, by kernel_rfl, by kernel_rfl⟩, fun ext w β us hI hx hr => ?_⟩
 obtain ⟨x, us', rfl, r0, rfl⟩ := hr
 obtain ⟨e, b, vs, he, hb, rfl, hc, hrl, hone, hg0⟩ := box_of hI (j := 0) rfl r0
 obtain ⟨p, vs1, hvs, rp, s, vs2, rfl, rs, rfl⟩ := hrl
 obtain rfl := two_cells hvs
 obtain ⟨e1, h1, q1, q0, q2, q3, q4, q5⟩ := arr_open hI (j := 1) rfl rs
 have hl0 : 0 < l.length := List.length_pos_iff.2 h0
 rw [List.length_map] at q3 q4
 rcases q5 with ⟨_, hn, _⟩ | ⟨bk, cs, hbk, rfl, hcs, hsz, hrow⟩
 ·exact absurd (List.map_eq_nil_iff.1 hn) h0
 rw [Nat.mul_one] at hsz
 rw [List.length_map] at hc
 refine (bstr_row b bk e1.cap p cs l w hc hcs h0 (by omega) hsz (by omega) fun j c hj => ?_).mono fun en w' ⟨k1, k2⟩ => ?_
 ·obtain ⟨v, hv1, hv2, hv3⟩ := hrow.get (i := j) (a := encB c) (by rw [List.getElem?_map, hj]; rfl)
  have hv : v = .int .u8 c.toNat := hv1
  subst hv
  have h9 := hv3 0 (by omega)
  simp only [Nat.zero_add, Nat.mul_one, Nat.add_zero] at h9
  exact h9.trans rfl
 ·subst k1; subst k2
  have hS1 : Step w β w.drew β := (drew_same w).step β
  have hS2 : Step w.drew β (w.drew.freeze ⟨bk, 0, none⟩ l.length) β := Step.write ⟨1, e1, h1, hbk⟩ (freeze_size _ _ _) (fun c hc => freeze_other _ _ _ hc) (by unfold World.freeze; split <;> rfl) (by unfold World.freeze; split <;> rfl) (by unfold World.freeze; split <;> rfl)
  have hS3 : Step (w.drew.freeze ⟨bk, 0, none⟩ l.length) β (w.drew.freeze ⟨bk, 0, none⟩ l.length) (β.set 1 ⟨none, l.length + 2, 1, 0, 0⟩) := Step.regen h1 (by omega) (by simp only; omega) (.inl rfl)
  have hS := (hS1.trans hS2).trans hS3
  refine ⟨_, _, _, ⟨rfl, rfl⟩, rfl, hI.set (a := .dead (l.length + 2)) hx h1 hS (fun c hc hne => ?_) (.inr (.inl rfl)) ⟨rfl, by omega, rfl⟩, hS⟩
  exact (freeze_other _ _ _ (fun e => hne (by rw [hbk, e]))).trans rfl
end Go.AL
end
section
set_option maxRecDepth 100000
namespace Go.AL
open Go Go.Proofs
def ltx (ls : List Bs) : Bs := ls.flatMap (· ++ [10])
theorem ltx_app (a b : List Bs) : ltx (a ++ b) = ltx a ++ ltx b := by simp [ltx]
theorem ltx_cons (a : Bs) (b : List Bs) : ltx (a :: b) = a ++ [10] ++ ltx b := by simp [ltx]
theorem rsplit_ltx {ls : List Bs} (h : ∀ l ∈ ls, (10 : UInt8) ∉ l) : rsplit 10 (ltx ls) = ls ++ [[]] := by
 rw [rsplit_eq]; exact cuts_lines 10 ls h
theorem rlines_ltx {ls : List Bs} (h : ∀ l ∈ ls, (10 : UInt8) ∉ l) : rlines (ltx ls) = ls := by
 unfold rlines; rw [rsplit_ltx h]; simp
def LnOk (ls : List Bs) (l : Bs) : Option Ins → Prop
 | none => rlab l = true ∧ rname l.dropLast = true
 | some i => rlab l = false ∧ ∃ k ws, LineOk ls l k ws ∧ insOf ls k ws = i
theorem lines_state (x : List (Bs × Option Ins)) (h : ∀ y ∈ x, LnOk (x.map (·.1)) y.1 y.2) (hd : ((x.map (·.1)).filter fun l => rlab l).Nodup) (hc : (x.filterMap (·.2)).length ≤ 1000) :
  ∀ k, k ≤ x.length → rpSt (x.map (·.1)) k = (x.take k).filterMap (·.2) ∧ ∀ q, q < k → rpE (x.map (·.1)) q = 0
 | 0, _ => ⟨by simp [rpSt], fun q hq => absurd hq (by omega)⟩
 | k + 1, hk => by
  obtain ⟨i1, i2⟩ := lines_state x h hd hc k (by omega)
  have hk2 : k < x.length := by omega
  have hkl : k < (x.map (·.1)).length := by rw [List.length_map]; exact hk2
  have hat : (x.map (·.1))[k] = x[k].1 := by simp
  have hs := rpSt_succ hkl
  have ht : (x.take (k + 1)).filterMap (·.2) = (x.take k).filterMap (·.2) ++ (match x[k].2 with | none => [] | some i => [i]) := by
   rw [List.take_succ_eq_append_getElem hk2, List.filterMap_append]
   congr 1
   cases e : x[k].2 <;> simp [e]
  have hlk := h x[k] (List.getElem_mem hk2)
  rw [hat] at hs
  have hE : rpE (x.map (·.1)) k = cond (rlab x[k].1) (cond (rname x[k].1.dropLast) (cond (((x.map (·.1)).take k).any fun l => decide (l = x[k].1)) 11 0) 12) (rinstr (x.map (·.1)) x[k].1 (rpSt (x.map (·.1)) k).length).2 := by
   unfold rpE
   rw [getD_at hkl, hat]
  have hnext : rpE (x.map (·.1)) k = 0 → ∀ q, q < k + 1 → rpE (x.map (·.1)) q = 0 := fun h0 q hq => by
   by_cases e : q = k
   ·subst e; exact h0
   ·exact i2 q (by omega)
  cases e : x[k].2 with
  | none =>
   rw [e] at hlk ht
   obtain ⟨l1, l2⟩ := hlk
   rw [l1] at hs hE
   rw [l2] at hE
   simp only [cond_true] at hs hE
   refine ⟨by rw [hs, ht, i1]; simp, hnext ?_⟩
   rw [hE]
   have hno : ((x.map (·.1)).take k).any (fun l => decide (l = x[k].1)) = false := by
    rw [List.any_eq_false]
    intro l hl e2
    have e2 := of_decide_eq_true e2
    subst e2
    have hsp : x.map (·.1) = (x.map (·.1)).take k ++ (x.map (·.1))[k] :: (x.map (·.1)).drop (k + 1) := by
     rw [← List.drop_eq_getElem_cons hkl, List.take_append_drop]
    rw [hsp, List.filter_append, hat, List.filter_cons_of_pos (by simpa using l1)] at hd
    have := (List.nodup_append.1 hd).2.2 x[k].1 (List.mem_filter.2 ⟨hl, by simpa using l1⟩) x[k].1 (List.mem_cons_self ..)
    exact this rfl
   rw [hno]; rfl
  | some i =>
   rw [e] at hlk ht
   obtain ⟨l1, kk, ws, l2, l3⟩ := hlk
   rw [l1] at hs hE
   simp only [cond_false] at hs hE
   have hlen : ((x.take (k + 1)).filterMap (·.2)).length ≤ (x.filterMap (·.2)).length := ((List.take_sublist (k + 1) x).filterMap _).length_le
   have hl2 : (rpSt (x.map (·.1)) k).length < 1000 := by
    rw [i1]
    rw [ht] at hlen
    simp at hlen
    omega
   have hr := rinstr_of l2 ((rpSt (x.map (·.1)) k).length : Int)
   rw [decide_eq_false (by omega : ¬ ((rpSt (x.map (·.1)) k).length : Int) ≥ 1000), l3] at hr
   simp only [cond_false] at hr
   rw [hr] at hs hE
   exact ⟨by rw [hs, ht, i1], hnext hE⟩
theorem of_lines (x : List (Bs × Option Ins)) (h : ∀ y ∈ x, LnOk (x.map (·.1)) y.1 y.2) (hd : ((x.map (·.1)).filter fun l => rlab l).Nodup) (hn : ∀ l ∈ x.map (·.1), (10 : UInt8) ∉ l)
  (hl : (ltx (x.map (·.1))).length ≤ 40000) (hc : (x.filterMap (·.2)).length ≤ 1000) : rparse (ltx (x.map (·.1))) = (x.filterMap (·.2), 0, 0) := by
 obtain ⟨h1, h2⟩ := lines_state x h hd hc x.length (Nat.le_refl _)
 rw [List.take_length] at h1
 have hll : (x.map (·.1)).length = x.length := List.length_map _
 unfold rparse
 rw [decide_eq_false (by omega : ¬ (ltx (x.map (·.1))).length > 40000), rlines_ltx hn, rsplit_ltx hn, hll, bad1_none h2]
 simp only [cond_false]
 rw [h1]
 simp
theorem where_ltx {ls : List Bs} (hn : ∀ l ∈ ls, (10 : UInt8) ∉ l) (hp : (rparse (ltx ls)).2.2 = 0) {w : Bs} {p : Int} (ht : rtarget ls w = (p, true)) : whereP (ltx ls) w = (p, 0) := by
 rw [where_eq, hp]
 unfold rwhere
 rw [rsplit_ltx hn, tgt_l [[]] (by rw [ht]), ht]; rfl
theorem tgt_pre {l1 : List Bs} (l2 : List Bs) {w : Bs} {p : Int} (h : rtarget l1 w = (p, true)) : rtarget (l1 ++ l2) w = (p, true) := by
 rw [tgt_l l2 (by rw [h]), h]
def tgD (tg : List (Bs × Int)) (s : Bs) : Int × Int := match tg.lookup s with | some p => (p, 0) | none => (0, 11)
def ropD (tg : List (Bs × Int)) (k : UInt8) (s : Bs) : Int × Int := cond (decide (k = 114)) (rdR s) (cond (decide (k = 110)) (ropN s) (cond (rname s) (tgD tg s) (0, 3)))
def tgOk (ls : List Bs) (tg : List (Bs × Int)) : Prop := ∀ w p, tg.lookup w = some p → rtarget ls w = (p, true)
theorem tgOk_of {ls : List Bs} {tg : List (Bs × Int)} (h : ∀ y ∈ tg, rtarget ls y.1 = (y.2, true)) : tgOk ls tg := fun w p hw => by
 induction tg with
 | nil => cases hw
 | cons y ys ih =>
  rw [List.lookup_cons] at hw
  split at hw
  ·rename_i he
   have e1 : w = y.1 := by simpa using he
   injection hw with e2
   rw [e1, ← e2]
   exact h y (List.mem_cons_self ..)
  ·exact ih (fun z hz => h z (List.mem_cons_of_mem _ hz)) hw
theorem ropD_ok {ls : List Bs} {tg : List (Bs × Int)} (h : tgOk ls tg) {k : UInt8} {s : Bs} (h0 : (ropD tg k s).2 = 0) : rop ls k s = ropD tg k s := by
 unfold ropD at h0 ⊢
 unfold rop ropT
 cases h1 : decide (k = 114) with
 | true => rfl
 | false =>
  cases h2 : decide (k = 110) with
  | true => rfl
  | false =>
   rw [h1, h2] at h0
   cases h3 : rname s with
   | false => rfl
   | true =>
    rw [h3] at h0
    simp only [cond_false, cond_true] at h0 ⊢
    unfold tgD at h0 ⊢
    cases h4 : tg.lookup s with
    | none => rw [h4] at h0; cases h0
    | some p => rw [h _ _ h4]; rfl
def allD (tg : List (Bs × Int)) : Bs → List Bs → Option (List Int)
 | [], [] => some []
 | c :: cs, w :: ws => cond (decide ((ropD tg c w).2 = 0)) ((allD tg cs ws).map ((ropD tg c w).1 :: ·)) none
 | _, _ => none
theorem allD_ok {ls : List Bs} {tg : List (Bs × Int)} (h : tgOk ls tg) : ∀ (kd : Bs) (ws : List Bs) (vs : List Int), allD tg kd ws = some vs →
  ws.length = kd.length ∧ (∀ q, q < kd.length → (rop ls (kd.getD q 0) (ws.getD q [])).2 = 0) ∧ (rAll ls kd ws).1 = vs
 | [], [], vs, e => by
  cases e
  exact ⟨rfl, fun q hq => absurd hq (by simp), by simp [rAll]⟩
 | [], _ :: _, vs, e => by cases e
 | _ :: _, [], vs, e => by cases e
 | c :: cs, w :: ws, vs, e => by
  unfold allD at e
  cases h1 : decide ((ropD tg c w).2 = 0) with
  | false => rw [h1] at e; cases e
  | true =>
   rw [h1] at e
   simp only [cond_true] at e
   have h1 := of_decide_eq_true h1
   have hr := ropD_ok h h1
   cases h2 : allD tg cs ws with
   | none => rw [h2] at e; cases e
   | some us =>
    rw [h2] at e
    simp only [Option.map_some, Option.some.injEq] at e
    subst e
    obtain ⟨k1, k2, k3⟩ := allD_ok h cs ws us h2
    refine ⟨by simp [k1], fun q hq => ?_, ?_⟩
    ·cases q with
     | zero => show (rop ls c w).2 = 0; rw [hr]; exact h1
     | succ q => exact k2 q (by simpa using hq)
    ·unfold rAll
     rw [hr, decide_eq_true h1, k3]; rfl
def lineD (tg : List (Bs × Int)) (l : Bs) : Option Ins :=
 match rsplit 32 l with
 | [] => none
 | w :: ws => cond (decide (0 ≤ findOp w) && decide ((findOp w).toNat < 27))
   ((allD tg (at' opsT (((findOp w).toNat : Nat) : Int)).2 ws).map fun vs => ⟨(((findOp w).toNat : Nat) : Int), vs.getD 0 0, vs.getD 1 0, vs.getD 2 0⟩) none
def lnD (tg : List (Bs × Int)) (l : Bs) : Option (Option Ins) := cond (rlab l) (cond (rname l.dropLast) (some none) none) ((lineD tg l).map some)
theorem lnD_ok {ls : List Bs} {tg : List (Bs × Int)} (h : tgOk ls tg) {l : Bs} {o : Option Ins} (e : lnD tg l = some o) : LnOk ls l o := by
 unfold lnD at e
 cases h1 : rlab l with
 | true =>
  rw [h1] at e
  cases h2 : rname l.dropLast with
  | false => rw [h2] at e; cases e
  | true =>
   rw [h2] at e
   cases e
   exact ⟨h1, h2⟩
 | false =>
  rw [h1] at e
  simp only [cond_false] at e
  unfold lineD at e
  cases h2 : rsplit 32 l with
  | nil => rw [h2] at e; cases e
  | cons w ws =>
   rw [h2] at e
   simp only at e
   cases h3 : decide (0 ≤ findOp w) && decide ((findOp w).toNat < 27) with
   | false => rw [h3] at e; cases e
   | true =>
    rw [h3] at e
    simp only [cond_true] at e
    rw [Bool.and_eq_true] at h3
    have h4 := of_decide_eq_true h3.1
    have h5 := of_decide_eq_true h3.2
    have hk : findOp w = (((findOp w).toNat : Nat) : Int) := by omega
    generalize (findOp w).toNat = k at *
    cases h6 : allD tg (at' opsT (k : Int)).2 ws with
    | none => rw [h6] at e; cases e
    | some vs =>
     rw [h6] at e
     simp only [Option.map_some, Option.some.injEq] at e
     subst e
     obtain ⟨k1, k2, k3⟩ := allD_ok h _ _ _ h6
     refine ⟨h1, k, ws, ⟨h5, ⟨w, h2, hk⟩, k1, k2⟩, ?_⟩
     unfold insOf
     rw [k3]
def blk (tg : List (Bs × Int)) (C : List Bs) : List (Bs × Option Ins) := C.map fun l => (l, (lnD tg l).getD none)
theorem blk_ok {ls : List Bs} {tg : List (Bs × Int)} (h : tgOk ls tg) {C : List Bs} (hC : (C.all fun l => (lnD tg l).isSome) = true) : ∀ y ∈ blk tg C, LnOk ls y.1 y.2 := fun y hy => by
 obtain ⟨l, hl, rfl⟩ := List.mem_map.1 hy
 have := List.all_eq_true.1 hC l hl
 cases e : lnD tg l with
 | none => rw [e] at this; cases this
 | some o =>
  simp only [e, Option.getD_some]
  exact lnD_ok h e
theorem blk_lines (tg : List (Bs × Int)) (C : List Bs) : (blk tg C).map (·.1) = C := by
 unfold blk
 rw [List.map_map]
 exact List.map_id'' (fun _ => rfl) C
theorem pr_ok (ls : List Bs) {i : Ins} (hm : mayI 1000 i = true) (ht : (kdO i.op.toNat).all (fun c => !decide (c = 116)) = true) : LnOk ls (prL i) (some i) := by
 obtain ⟨k, hk, hop⟩ := mayI_op hm
 have hko : i.op.toNat = k := by omega
 refine ⟨prL_lab (by omega), _, _, prL_ok (l := List.replicate 1000 i) (ls := ls) (by simp) (fun n hn hT => ?_) (List.mem_replicate.2 ⟨by decide, rfl⟩) (by rw [List.length_replicate]; exact hm)⟩
 exfalso
 unfold isT at hT
 obtain ⟨j, hj, hT⟩ := List.any_eq_true.1 hT
 rw [List.eq_of_mem_replicate hj] at hT
 unfold hasT at hT
 obtain ⟨p, hp, hT⟩ := List.any_eq_true.1 hT
 have h1 := List.all_eq_true.1 ht p.1 (List.of_mem_zip hp).1
 simp at h1 hT
 exact h1 hT.1
end Go.AL
end
section
set_option maxRecDepth 100000
namespace Go.AL
open Go Go.Proofs
theorem rop_may {ls : List Bs} {c : UInt8} {s : Bs} {N : Nat} (hN : nl ls ls.length = (N : Int)) (hc : c = 114 ∨ c = 110 ∨ c = 116) (h : (rop ls c s).2 = 0) : mayV (some c) N (rop ls c s).1 = true := by
 unfold mayV
 refine inn_iff.2 ?_
 rcases hc with rfl | rfl | rfl
 ·show (0 : Int) ≤ (rdR s).1 ∧ (rdR s).1 ≤ 7
  have h : (rdR s).2 = 0 := h
  rcases s with _ | ⟨a, _ | ⟨b, _ | ⟨c, t⟩⟩⟩
  ·exact absurd (show (3 : Int) = 0 from h) (by decide)
  ·exact absurd (show (3 : Int) = 0 from h) (by decide)
  ·have e0 : rdR [a, b] = cond (decide (a.toNat = 114)) (cond (inn b.toNat 48 55) ((b.toNat : Int) - 48, 0) (0, 3)) (0, 3) := rfl
   rw [e0] at h ⊢
   cases h1 : decide (a.toNat = 114) with
   | false => rw [h1] at h; exact absurd (show (3 : Int) = 0 from h) (by decide)
   | true =>
    rw [h1] at h
    cases h2 : inn b.toNat 48 55 with
    | false => rw [h2] at h; exact absurd (show (3 : Int) = 0 from h) (by decide)
    | true =>
     obtain ⟨k1, k2⟩ := inn_iff.1 h2
     simp only [cond_true]
     exact ⟨by omega, by omega⟩
  ·exact absurd (show (3 : Int) = 0 from h) (by decide)
 ·show (-1000000000 : Int) ≤ (ropN s).1 ∧ (ropN s).1 ≤ 1000000000
  exact ropN_bd s
 ·show (0 : Int) ≤ (ropT ls s).1 ∧ (ropT ls s).1 ≤ (N : Int)
  unfold ropT
  cases rname s
  ·exact ⟨Int.le_refl 0, by simp⟩
  ·unfold rtarget
   cases hf : ls.findIdx? (fun l => decide (l = s ++ [58])) with
   | none => exact ⟨Int.le_refl 0, by simp⟩
   | some i =>
    obtain ⟨hi, _⟩ := List.findIdx?_eq_some_iff_getElem.1 hf
    have h1 := nl_le ls i
    have h2 := nl_mono ls (show i ≤ ls.length by omega)
    simp only [cond_true]
    exact ⟨h1.1, by omega⟩
theorem insOf_may {ls : List Bs} {l : Bs} {k : Nat} {ws : List Bs} {N : Nat} (hN : nl ls ls.length = (N : Int)) (h : LineOk ls l k ws) : mayI N (insOf ls k ws) = true := by
 obtain ⟨hk, hw, hln, ha⟩ := h
 have hkd := (kd_of k hk).2
 have hg : ∀ q, mayV (kdO k)[q]? N ((rAll ls (at' opsT (k : Int)).2 ws).1.getD q 0) = true := fun q => by
  rw [rAll_get hln ha]
  by_cases hq : q < (at' opsT (k : Int)).2.length
  ·rw [decide_eq_true hq]
   have hq2 : q < (kdO k).length := hq
   rw [List.getElem?_eq_getElem hq2]
   have hm := List.all_eq_true.1 hkd _ (List.getElem_mem hq2)
   have he : (at' opsT (k : Int)).2.getD q 0 = (kdO k)[q] := by
    show (kdO k).getD q 0 = _
    simp [List.getD, hq2]
   rw [he]
   have ha := ha q hq
   rw [he] at ha
   refine rop_may hN ?_ ha
   simpa using hm
  ·rw [decide_eq_false hq]
   have hq2 : (kdO k).length ≤ q := by
    have : ¬ q < (kdO k).length := hq
    omega
   rw [List.getElem?_eq_none hq2]
   rfl
 unfold mayI insOf
 simp only
 have e : ((k : Int)).toNat = k := by omega
 rw [e, hg 0, hg 1, hg 2, inn_iff.2 (show (0 : Int) ≤ (k : Int) ∧ (k : Int) ≤ 26 from ⟨by omega, by omega⟩)]
 rfl
theorem rpSt_may {ls : List Bs} {N : Nat} (hN : nl ls ls.length = (N : Int)) (hz : ∀ q, q < ls.length → rpE ls q = 0) : ∀ k, k ≤ ls.length → (rpSt ls k).length ≤ 1000 ∧ ∀ i ∈ rpSt ls k, mayI N i = true
 | 0, _ => ⟨by simp [rpSt], fun i h => absurd h (by simp [rpSt])⟩
 | k + 1, hk => by
  have hk2 : k < ls.length := by omega
  obtain ⟨i1, i2⟩ := rpSt_may hN hz k (by omega)
  have hE := hz k hk2
  unfold rpE at hE
  rw [getD_at hk2] at hE
  rw [rpSt_succ hk2]
  cases hr : rlab ls[k] with
  | true => exact ⟨i1, i2⟩
  | false =>
   rw [hr] at hE
   simp only [cond_false] at hE ⊢
   obtain ⟨kk, ws, hL, hn, e⟩ := rinstr_inv hE
   rw [e]
   refine ⟨by simp; omega, fun i h => ?_⟩
   rcases List.mem_append.1 h with h | h
   ·exact i2 i h
   ·rw [List.mem_singleton.1 h]
    exact insOf_may hN hL
theorem parse_right {s : Bs} (h : (rparse s).2.2 = 0) : rightC (rparse s).1 = true := by
 obtain ⟨h1, h2, h3, h4⟩ := rparse_good h
 rw [h4]
 have hN := (rpSt_nl (rlines s) _ (Nat.le_refl _)).symm
 obtain ⟨k1, k2⟩ := rpSt_may hN h3 _ (Nat.le_refl _)
 unfold rightC
 rw [decide_eq_true k1, Bool.true_and, List.all_eq_true]
 exact k2
theorem where_right {s w : Bs} (h : (rparse s).2.2 = 0) : 0 ≤ (rwhere s w).1 ∧ (rwhere s w).1 ≤ (rparse s).1.length := by
 obtain ⟨h1, h2, h3, h4⟩ := rparse_good h
 rw [h4]
 unfold rwhere
 rw [h2]
 cases hb : (rtarget (rlines s ++ [[]]) w).2 with
 | false => exact ⟨Int.le_refl 0, by simp⟩
 | true =>
  simp only [cond_true]
  have hN := rpSt_nl (rlines s) _ (Nat.le_refl _)
  unfold rtarget at hb ⊢
  cases hf : (rlines s ++ [[]]).findIdx? (fun l => decide (l = w ++ [58])) with
  | none => rw [hf] at hb; cases hb
  | some i =>
   obtain ⟨hi, hi2, _⟩ := List.findIdx?_eq_some_iff_getElem.1 hf
   simp only
   rw [hN]
   have hil : i ≤ (rlines s).length := by simp at hi; omega
   rw [nl_left _ _ hil]
   have := nl_le (rlines s) i
   have := nl_mono (rlines s) hil
   omega
end Go.AL
end
section
set_option maxRecDepth 100000
namespace Go.AL
open Go Go.Proofs
def chC : List Bs := [[102,105,110,100,58], [108,111,97,100,32,114,48,32,114,48,32,48], [102,105,110,100,49,58], [122,101,114,111,32,114,48,32,102,111,117,110,100], [108,111,97,100,32,114,50,32,114,48,32,48], [115,117,98,32,114,50,32,114,50,32,114,49], [122,101,114,111,32,114,50,32,102,111,117,110,100], [108,111,97,100,32,114,48,32,114,48,32,50], [106,117,109,112,32,102,105,110,100,49], [102,111,117,110,100,58], [114,101,116], [115,101,101,107,58], [108,111,97,100,32,114,50,32,114,48,32,48], [122,101,114,111,32,114,50,32,115,111,117,103,104,116], [108,111,97,100,32,114,51,32,114,50,32,48], [115,117,98,32,114,51,32,114,51,32,114,49], [122,101,114,111,32,114,51,32,115,111,117,103,104,116], [112,108,117,115,32,114,48,32,114,50,32,50], [106,117,109,112,32,115,101,101,107], [115,111,117,103,104,116,58], [114,101,116], [116,48,58]]
def chTg : List (Bs × Int) := [([102,105,110,100], 0), ([102,105,110,100,49], 1), ([102,111,117,110,100], 7), ([115,101,101,107], 8), ([115,111,117,103,104,116], 15)]
def setK (k : Int) : Bs := [115,101,116,32,114,49,32] ++ Lib.itoa k
def kA : List Bs := [[115,101,116,32,114,48,32,49]]
def kB : List Bs := [[99,97,108,108,32,102,105,110,100], [109,97,114,107,32,54], [115,101,116,32,114,48,32,49]]
def kC : List Bs := [[99,97,108,108,32,115,101,101,107], [109,97,114,107,32,55]]
def kH : List Bs := [[104,97,108,116]]
def keyLn (k : Int) : List Bs := kA ++ setK k :: (kB ++ setK k :: kC)
def keyIt (k : Int) : List (Bs × Option Ins) := blk chTg kA ++ (setK k, some ⟨1, 1, k, 0⟩) :: (blk chTg kB ++ (setK k, some ⟨1, 1, k, 0⟩) :: blk chTg kC)
def chLn (ks : List Int) : List Bs := chC ++ (ks.flatMap keyLn ++ kH)
def chIt (ks : List Int) : List (Bs × Option Ins) := blk chTg chC ++ (ks.flatMap keyIt ++ blk chTg kH)
def chCode (ks : List Int) : List Ins := (chIt ks).filterMap (·.2)
theorem keyIt_ln (k : Int) : (keyIt k).map (·.1) = keyLn k := by
 unfold keyIt keyLn
 simp only [List.map_append, List.map_cons, blk_lines]
theorem chIt_ln (ks : List Int) : (chIt ks).map (·.1) = chLn ks := by
 unfold chIt chLn
 simp only [List.map_append, blk_lines, List.map_flatMap]
 simp only [keyIt_ln]
theorem ch_all : ((chC ++ (kA ++ (kB ++ (kC ++ kH)))).all fun l => (lnD chTg l).isSome) = true := by decide +kernel
theorem ch_tg (ks : List Int) : tgOk (chLn ks) chTg := by
 refine tgOk_of fun y hy => tgt_pre _ ?_
 revert y
 decide +kernel
theorem setK_pr (k : Int) : setK k = prL ⟨1, 1, k, 0⟩ := by
 unfold setK prL
 show _ = _ ++ ((32 :: prW 114 1) ++ ((32 :: prW 110 k) ++ []))
 show _ = nm 1 ++ ((32 :: prW 114 1) ++ ((32 :: (pfx 110 ++ Lib.itoa k)) ++ []))
 rw [show nm 1 = [115,101,116] by decide +kernel, show prW 114 1 = [114,49] by decide +kernel, show pfx 110 = [] from rfl]
 simp
theorem setK_ok (ls : List Bs) {k : Int} (h : bd k) : LnOk ls (setK k) (some ⟨1, 1, k, 0⟩) := by
 rw [setK_pr]
 refine pr_ok ls ?_ (show ((kdO 1).all fun c => !decide (c = 116)) = true by decide)
 unfold mayI
 rw [show inn (1 : Int) 0 26 = true by decide]
 simp only
 rw [show mayV (kdO (1 : Int).toNat)[0]? 1000 1 = true by decide, show mayV (kdO (1 : Int).toNat)[2]? 1000 0 = true by decide]
 show (true && (true && (inn k (-1000000000) 1000000000 && true))) = true
 rw [inn_iff.2 h]; rfl
theorem setK_lab (k : Int) : rlab (setK k) = false := by rw [setK_pr]; exact prL_lab (show (1 : Int).toNat < 27 by decide)
theorem setK_no (k : Int) : (10 : UInt8) ∉ setK k := by rw [setK_pr]; exact prL_no (show (1 : Int).toNat < 27 by decide) (by decide) (by decide)
theorem setK_len {k : Int} (h : bd k) : (setK k).length ≤ 18 := by
 have := itoa_len h
 unfold setK
 simp
 omega
theorem blk_mem {ls : List Bs} {tg : List (Bs × Int)} (h : tgOk ls tg) {C D : List Bs} (hC : (D.all fun l => (lnD tg l).isSome) = true) (hs : ∀ l ∈ C, l ∈ D) : ∀ y ∈ blk tg C, LnOk ls y.1 y.2 :=
 blk_ok h (List.all_eq_true.2 fun l hl => List.all_eq_true.1 hC l (hs l hl))
theorem key_ok (ks : List Int) {k : Int} (h : bd k) : ∀ y ∈ keyIt k, LnOk (chLn ks) y.1 y.2 := fun y hy => by
 have ht := ch_tg ks
 unfold keyIt at hy
 rcases List.mem_append.1 hy with h1 | h1
 ·exact blk_mem ht ch_all (fun l hl => by simp [hl]) y h1
 rcases List.mem_cons.1 h1 with rfl | h1
 ·exact setK_ok _ h
 rcases List.mem_append.1 h1 with h1 | h1
 ·exact blk_mem ht ch_all (fun l hl => by simp [hl]) y h1
 rcases List.mem_cons.1 h1 with rfl | h1
 ·exact setK_ok _ h
 ·exact blk_mem ht ch_all (fun l hl => by simp [hl]) y h1
theorem chIt_ok (ks : List Int) (h : ∀ k ∈ ks, bd k) : ∀ y ∈ chIt ks, LnOk (chLn ks) y.1 y.2 := fun y hy => by
 unfold chIt at hy
 rcases List.mem_append.1 hy with h1 | h1
 ·exact blk_mem (ch_tg ks) ch_all (fun l hl => by simp [hl]) y h1
 rcases List.mem_append.1 h1 with h1 | h1
 ·obtain ⟨k, hk, hy⟩ := List.mem_flatMap.1 h1
  exact key_ok ks (h k hk) y hy
 ·exact blk_mem (ch_tg ks) ch_all (fun l hl => by simp [hl]) y h1
theorem key_lab (k : Int) : (keyLn k).filter (fun l => rlab l) = [] := by
 unfold keyLn
 simp only [List.filter_append, List.filter_cons, setK_lab, Bool.false_eq_true, if_false]
 decide +kernel
theorem flat_nil {α β : Type} (f : α → List β) (l : List α) (h : ∀ x ∈ l, f x = []) : l.flatMap f = [] := List.flatMap_eq_nil_iff.2 h
theorem ch_lab (ks : List Int) : ((chLn ks).filter fun l => rlab l).Nodup := by
 unfold chLn
 rw [List.filter_append, List.filter_append, List.filter_flatMap, flat_nil _ ks (fun k _ => key_lab k)]
 decide +kernel
theorem key_no (k : Int) : ∀ l ∈ keyLn k, (10 : UInt8) ∉ l := fun l hl => by
 unfold keyLn at hl
 have hc : ∀ l ∈ kA ++ (kB ++ kC), (10 : UInt8) ∉ l := by decide +kernel
 rcases List.mem_append.1 hl with h1 | h1
 ·exact hc l (by simp [h1])
 rcases List.mem_cons.1 h1 with rfl | h1
 ·exact setK_no k
 rcases List.mem_append.1 h1 with h1 | h1
 ·exact hc l (by simp [h1])
 rcases List.mem_cons.1 h1 with rfl | h1
 ·exact setK_no k
 ·exact hc l (by simp [h1])
theorem ch_no (ks : List Int) : ∀ l ∈ chLn ks, (10 : UInt8) ∉ l := fun l hl => by
 unfold chLn at hl
 have hc : ∀ l ∈ chC ++ kH, (10 : UInt8) ∉ l := by decide +kernel
 rcases List.mem_append.1 hl with h1 | h1
 ·exact hc l (by simp [h1])
 rcases List.mem_append.1 h1 with h1 | h1
 ·obtain ⟨k, _, hy⟩ := List.mem_flatMap.1 h1
  exact key_no k l hy
 ·exact hc l (by simp [h1])
theorem key_len {k : Int} (h : bd k) : (ltx (keyLn k)).length ≤ 90 := by
 have := setK_len h
 unfold keyLn
 rw [ltx_app, ltx_cons, ltx_app, ltx_cons]
 simp only [List.length_append, List.length_cons, List.length_nil]
 rw [show (ltx kA).length = 9 by decide, show (ltx kB).length = 26 by decide, show (ltx kC).length = 17 by decide]
 omega
theorem flatL {α : Type} (f : α → List Bs) (n : Nat) : ∀ (l : List α), (∀ x ∈ l, (ltx (f x)).length ≤ n) → (ltx (l.flatMap f)).length ≤ n * l.length
 | [], _ => by simp [ltx]
 | x :: xs, h => by
  have := flatL f n xs fun y hy => h y (List.mem_cons_of_mem _ hy)
  have h1 := h x (List.mem_cons_self ..)
  rw [List.flatMap_cons, ltx_app, List.length_append, List.length_cons, Nat.mul_add]
  omega
theorem ch_len (ks : List Int) (h : ∀ k ∈ ks, bd k) (hl : ks.length ≤ 20) : (ltx (chLn ks)).length ≤ 3000 := by
 unfold chLn
 rw [ltx_app, ltx_app, List.length_append, List.length_append]
 have := flatL keyLn 90 ks fun k hk => key_len (h k hk)
 rw [show (ltx kH).length = 5 by decide]
 have : (ltx chC).length ≤ 1000 := by decide +kernel
 omega
theorem key_code (k : Int) : ((keyIt k).filterMap (·.2)).length ≤ 8 := by
 refine Nat.le_trans (List.length_filterMap_le _ _) ?_
 have : (keyIt k).length = (keyLn k).length := by rw [← keyIt_ln, List.length_map]
 rw [this]
 unfold keyLn
 simp [kA, kB, kC]
theorem flatC {α β γ : Type} (f : α → List β) (g : β → Option γ) (n : Nat) : ∀ (l : List α), (∀ x ∈ l, ((f x).filterMap g).length ≤ n) → ((l.flatMap f).filterMap g).length ≤ n * l.length
 | [], _ => by simp
 | x :: xs, h => by
  have := flatC f g n xs fun y hy => h y (List.mem_cons_of_mem _ hy)
  have h1 := h x (List.mem_cons_self ..)
  rw [List.flatMap_cons, List.filterMap_append, List.length_append, List.length_cons, Nat.mul_add]
  omega
theorem ch_code (ks : List Int) (hl : ks.length ≤ 20) : ((chIt ks).filterMap (·.2)).length ≤ 1000 := by
 unfold chIt
 rw [List.filterMap_append, List.filterMap_append, List.length_append, List.length_append]
 have := flatC keyIt (·.2) 8 ks fun k hk => key_code k
 have h2 : ((blk chTg chC).filterMap (·.2)).length ≤ 30 := Nat.le_trans (List.length_filterMap_le _ _) (by unfold blk; rw [List.length_map]; decide)
 have h3 : ((blk chTg kH).filterMap (·.2)).length ≤ 1 := Nat.le_trans (List.length_filterMap_le _ _) (by unfold blk; rw [List.length_map]; decide)
 omega
theorem ch_parse (ks : List Int) (h : ∀ k ∈ ks, bd k) (hl : ks.length ≤ 20) : rparse (ltx (chLn ks)) = (chCode ks, 0, 0) := by
 have hlen := ch_len ks h hl
 have := of_lines (chIt ks) (by rw [chIt_ln]; exact chIt_ok ks h) (by rw [chIt_ln]; exact ch_lab ks) (by rw [chIt_ln]; exact ch_no ks) (by rw [chIt_ln]; omega) (ch_code ks hl)
 rw [chIt_ln] at this
 exact this
theorem ch_where (ks : List Int) (h : ∀ k ∈ ks, bd k) (hl : ks.length ≤ 20) : whereP (ltx (chLn ks)) [116,48] = (16, 0) := by
 refine where_ltx (ch_no ks) (by rw [ch_parse ks h hl]) (tgt_pre _ ?_)
 decide +kernel
end Go.AL
end
section
set_option maxRecDepth 100000
namespace Go.AL
open Go Go.Proofs
end Go.AL
end
section
set_option maxRecDepth 100000
namespace Go.AL
open Go Go.Proofs
attribute [local irreducible] J
theorem operands_ok (op a b c : Int) : ACalls Tryz.prog 136 [.agg [iv op, iv a, iv b, iv c]] [] (one (.agg [iv a, iv b, iv c]) []) := by
 refine jcalls Tryz.func136 rfl (by kernel_rfl) Tryz.ntmps136 rfl rfl (fun w0 β0 ext hβ => ?_)
 repeat (first | refine jS ?_ | refine jD ?_ | refine jB ?_)
 exact jR
def mH (l : List Ins) : List AObj := [.box 199 opsC, .box 26 [.sl (l.map encIns)]]
theorem mayR {n : Nat} {kd : Bs} {a b c : Int} :
  ((∀ p, p < 3 → mayV kd[p]? n ([a, b, c].getD p 0) = true) → (mayV kd[0]? n a && (mayV kd[1]? n b && mayV kd[2]? n c)) = true) ∧
  ∀ p, p < 3 → mayV kd[p]? n ([a, b, c].getD p 0) = false → (mayV kd[0]? n a && (mayV kd[1]? n b && mayV kd[2]? n c)) = false := by
 refine ⟨fun h => ?_, fun p hp h => ?_⟩
 ·have h0 := h 0 (by omega); have h1 := h 1 (by omega); have h2 := h 2 (by omega)
  simp at h0 h1 h2
  rw [h0, h1, h2]; rfl
 ·match p, hp with
  | 0, _ => simp at h; rw [h]; rfl
  | 1, _ => simp at h; rw [h]; simp
  | 2, _ => simp at h; rw [h]; simp
  | p + 3, hp => omega
theorem str_idx {kd : Bs} {i : Nat} {c : UInt8} (hc : kd[i]? = some c) : (⟨kd.toArray⟩ : ByteArray)[((i : Int)).toNat]? = some c := by
 have hik : i < kd.length := (List.getElem?_eq_some_iff.1 hc).1
 have hsz : ((i : Int)).toNat < (⟨kd.toArray⟩ : ByteArray).size := hik
 rw [getElem?_pos (⟨kd.toArray⟩ : ByteArray) _ hsz]
 rw [List.getElem?_eq_getElem hik] at hc
 injection hc with hc
 rw [← hc]; rfl
theorem may1_ok (l : List Ins) (op a b c : Int) (hl : l.length ≤ 1000000) : ACalls Tryz.prog 135 [.agg [iv op, iv a, iv b, iv c], .ptr 0 0, .ptr 1 0] (mH l) (one (bv (mayI l.length ⟨op, a, b, c⟩)) (mH l)) := by
 have h1 := in_ok op 0 26
 have h2 := operands_ok op a b c
 unfold mayI mH
 simp only
 cases hop : inn op 0 26 with
 | false =>
  rw [hop] at h1
  simp only [Bool.false_and]
  refine jcalls Tryz.func135 rfl (by kernel_rfl) Tryz.ntmps135 rfl rfl (fun w0 β0 ext hβ => ?_)
  repeat (first | refine jS ?_ | refine jD ?_ | refine jB ?_ | refine jV h1 ?_)
  exact jR
 | true =>
  rw [hop] at h1
  simp only [Bool.true_and]
  obtain ⟨ho1, ho2⟩ := inn_iff.1 hop
  obtain ⟨k, rfl⟩ : ∃ k : Nat, op = k := ⟨op.toNat, by omega⟩
  have hk : k < 27 := by omega
  have hkd := ops_kind k hk
  obtain ⟨hk3, hkc⟩ := kinds_ok k hk
  rw [show ((k : Int)).toNat = k from Int.toNat_natCast k]
  unfold kdO
  generalize (at' opsT (k : Int)).2 = kd at *
  obtain ⟨rt, rf⟩ := mayR (n := l.length) (kd := kd) (a := a) (b := b) (c := c)
  generalize (mayV kd[0]? l.length a && (mayV kd[1]? l.length b && mayV kd[2]? l.length c)) = res at *
  refine jcalls Tryz.func135 rfl (by kernel_rfl) Tryz.ntmps135 rfl rfl (fun w0 β0 ext hβ => ?_)
  repeat (first | refine jS ?_ | refine jD ?_ | refine jB ?_ | refine jV h1 ?_ | refine jo rfl rfl (index_arr rfl rfl rfl rfl rfl (by omega) (by omega)) rfl rfl ?_ | refine jo rfl rfl (load_dsem rfl rfl rfl hkd) rfl rfl ?_ | refine jV h2 ?_)
  refine jloopI (fun q : Nat => q ≤ 3 ∧ ∀ p, p < q → mayV kd[p]? l.length ([a, b, c].getD p 0) = true) [3, 5, 20, 21, 1, 2] (fun q => [.ptr 2 0, sv kd, .agg [iv a, iv b, iv c], iv q, .ptr 0 0, .ptr 1 0])
   (fun _ => [.box 199 opsC, .box 26 [.sl (l.map encIns)], .box 98 [iv (k : Int), iv a, iv b, iv c]]) (fun q => 3 - q) 0 ⟨by omega, fun p hp => absurd hp (by omega)⟩ rfl rfl (fun q hq => ?_)
  obtain ⟨hq, hok⟩ := hq
  have hstep : ∀ q, q < 3 → (∀ p, p < q → mayV kd[p]? l.length ([a, b, c].getD p 0) = true) → mayV kd[q]? l.length ([a, b, c].getD q 0) = true → q + 1 ≤ 3 ∧ ∀ p, p < q + 1 → mayV kd[p]? l.length ([a, b, c].getD p 0) = true := fun q hq h1 h2 => ⟨by omega, fun p hp => by
   by_cases e : p = q
   ·rw [e]; exact h2
   ·exact h1 p (by omega)⟩
  by_cases hq3 : q = 3
  ·subst hq3
   rw [rt hok]
   repeat (first | refine jS ?_ | refine jD ?_ | refine jB ?_)
   exact jR
  ·have hql : q = 0 ∨ q = 1 ∨ q = 2 := by omega
   obtain ⟨v, hv⟩ : ∃ v, [a, b, c].getD q 0 = v := ⟨_, rfl⟩
   have rf' := rf q (by omega)
   have hst := hstep q (by omega) hok
   rw [hv] at rf' hst
   by_cases hqk : q < kd.length
   ·have hc : kd[q]? = some kd[q] := List.getElem?_eq_getElem hqk
    have hcb := str_idx hc
    have hcc := hkc kd[q] (List.getElem_mem hqk)
    have hd1 : decide ((q : Int) < ((ByteArray.size ⟨kd.toArray⟩ : Nat) : Int)) = true := decide_eq_true (by rw [show ByteArray.size ⟨kd.toArray⟩ = kd.length from rfl]; omega)
    rw [hc] at rf' hst
    generalize kd[q] = ch at *
    rcases hcc with rfl | rfl | rfl
    ·skip
     have h3 := in_ok v 0 7
     have e : mayV (some 114) l.length v = inn v 0 7 := rfl
     rw [e] at rf' hst
     cases hb : inn v 0 7 with
     | false =>
      rw [hb] at h3
      rw [rf' hb]
      rcases hql with rfl | rfl | rfl
      all_goals subst hv
      all_goals (
       repeat (first | refine jS ?_ | refine jD ?_ | refine jB ?_ | refine jo rfl rfl (index_agg rfl rfl rfl rfl rfl (by omega) (by omega) rfl) rfl rfl ?_ | refine jo rfl rfl (index_str rfl rfl rfl rfl (Int.natCast_nonneg _) hcb) rfl rfl ?_ | refine jV h3 ?_)
      )
      all_goals rw [hd1]
      all_goals (
       repeat (first | refine jS ?_ | refine jD ?_ | refine jB ?_ | refine jo rfl rfl (index_agg rfl rfl rfl rfl rfl (by omega) (by omega) rfl) rfl rfl ?_ | refine jo rfl rfl (index_str rfl rfl rfl rfl (Int.natCast_nonneg _) hcb) rfl rfl ?_ | refine jV h3 ?_)
      )
      all_goals exact jR
     | true =>
      rw [hb] at h3
      rcases hql with rfl | rfl | rfl
      all_goals subst hv
      all_goals (
       repeat (first | refine jS ?_ | refine jD ?_ | refine jB ?_ | refine jo rfl rfl (index_agg rfl rfl rfl rfl rfl (by omega) (by omega) rfl) rfl rfl ?_ | refine jo rfl rfl (index_str rfl rfl rfl rfl (Int.natCast_nonneg _) hcb) rfl rfl ?_ | refine jV h3 ?_)
      )
      all_goals rw [hd1]
      all_goals (
       repeat (first | refine jS ?_ | refine jD ?_ | refine jB ?_ | refine jo rfl rfl (index_agg rfl rfl rfl rfl rfl (by omega) (by omega) rfl) rfl rfl ?_ | refine jo rfl rfl (index_str rfl rfl rfl rfl (Int.natCast_nonneg _) hcb) rfl rfl ?_ | refine jV h3 ?_)
      )
      all_goals refine jnextI (_ + 1) (hst hb) rfl rfl (by omega)
    ·skip
     have h3 := in_ok v (-1000000000) 1000000000
     have e : mayV (some 110) l.length v = inn v (-1000000000) 1000000000 := rfl
     rw [e] at rf' hst
     cases hb : inn v (-1000000000) 1000000000 with
     | false =>
      rw [hb] at h3
      rw [rf' hb]
      rcases hql with rfl | rfl | rfl
      all_goals subst hv
      all_goals (
       repeat (first | refine jS ?_ | refine jD ?_ | refine jB ?_ | refine jo rfl rfl (index_agg rfl rfl rfl rfl rfl (by omega) (by omega) rfl) rfl rfl ?_ | refine jo rfl rfl (index_str rfl rfl rfl rfl (Int.natCast_nonneg _) hcb) rfl rfl ?_ | refine jV h3 ?_)
      )
      all_goals rw [hd1]
      all_goals (
       repeat (first | refine jS ?_ | refine jD ?_ | refine jB ?_ | refine jo rfl rfl (index_agg rfl rfl rfl rfl rfl (by omega) (by omega) rfl) rfl rfl ?_ | refine jo rfl rfl (index_str rfl rfl rfl rfl (Int.natCast_nonneg _) hcb) rfl rfl ?_ | refine jV h3 ?_)
      )
      all_goals exact jR
     | true =>
      rw [hb] at h3
      rcases hql with rfl | rfl | rfl
      all_goals subst hv
      all_goals (
       repeat (first | refine jS ?_ | refine jD ?_ | refine jB ?_ | refine jo rfl rfl (index_agg rfl rfl rfl rfl rfl (by omega) (by omega) rfl) rfl rfl ?_ | refine jo rfl rfl (index_str rfl rfl rfl rfl (Int.natCast_nonneg _) hcb) rfl rfl ?_ | refine jV h3 ?_)
      )
      all_goals rw [hd1]
      all_goals (
       repeat (first | refine jS ?_ | refine jD ?_ | refine jB ?_ | refine jo rfl rfl (index_agg rfl rfl rfl rfl rfl (by omega) (by omega) rfl) rfl rfl ?_ | refine jo rfl rfl (index_str rfl rfl rfl rfl (Int.natCast_nonneg _) hcb) rfl rfl ?_ | refine jV h3 ?_)
      )
      all_goals refine jnextI (_ + 1) (hst hb) rfl rfl (by omega)
    ·skip
     have h3 := in_ok v 0 ((l.map encIns).length : Int)
     have e : mayV (some 116) l.length v = inn v 0 ((l.map encIns).length : Int) := by rw [List.length_map]; rfl
     rw [e] at rf' hst
     cases hb : inn v 0 ((l.map encIns).length : Int) with
     | false =>
      rw [hb] at h3
      rw [rf' hb]
      rcases hql with rfl | rfl | rfl
      all_goals subst hv
      all_goals (
       repeat (first | refine jS ?_ | refine jD ?_ | refine jB ?_ | refine jo rfl rfl (index_agg rfl rfl rfl rfl rfl (by omega) (by omega) rfl) rfl rfl ?_ | refine jo rfl rfl (index_str rfl rfl rfl rfl (Int.natCast_nonneg _) hcb) rfl rfl ?_ | refine jV h3 ?_)
      )
      all_goals rw [hd1]
      all_goals (
       repeat (first | refine jS ?_ | refine jD ?_ | refine jB ?_ | refine jo rfl rfl (index_agg rfl rfl rfl rfl rfl (by omega) (by omega) rfl) rfl rfl ?_ | refine jo rfl rfl (index_str rfl rfl rfl rfl (Int.natCast_nonneg _) hcb) rfl rfl ?_ | refine jV h3 ?_)
      )
      all_goals exact jR
     | true =>
      rw [hb] at h3
      rcases hql with rfl | rfl | rfl
      all_goals subst hv
      all_goals (
       repeat (first | refine jS ?_ | refine jD ?_ | refine jB ?_ | refine jo rfl rfl (index_agg rfl rfl rfl rfl rfl (by omega) (by omega) rfl) rfl rfl ?_ | refine jo rfl rfl (index_str rfl rfl rfl rfl (Int.natCast_nonneg _) hcb) rfl rfl ?_ | refine jV h3 ?_)
      )
      all_goals rw [hd1]
      all_goals (
       repeat (first | refine jS ?_ | refine jD ?_ | refine jB ?_ | refine jo rfl rfl (index_agg rfl rfl rfl rfl rfl (by omega) (by omega) rfl) rfl rfl ?_ | refine jo rfl rfl (index_str rfl rfl rfl rfl (Int.natCast_nonneg _) hcb) rfl rfl ?_ | refine jV h3 ?_)
      )
      all_goals refine jnextI (_ + 1) (hst hb) rfl rfl (by omega)
   ·have hc : kd[q]? = none := List.getElem?_eq_none (by omega)
    have hd1 : decide ((q : Int) < ((ByteArray.size ⟨kd.toArray⟩ : Nat) : Int)) = false := decide_eq_false (by rw [show ByteArray.size ⟨kd.toArray⟩ = kd.length from rfl]; omega)
    rw [hc] at rf' hst
    have h3 := in_ok v 0 0
    have e : mayV none l.length v = inn v 0 0 := rfl
    rw [e] at rf' hst
    cases hb : inn v 0 0 with
    | false =>
     rw [hb] at h3
     rw [rf' hb]
     rcases hql with rfl | rfl | rfl
     all_goals subst hv
     all_goals (
      repeat (first | refine jS ?_ | refine jD ?_ | refine jB ?_ | refine jo rfl rfl (index_agg rfl rfl rfl rfl rfl (by omega) (by omega) rfl) rfl rfl ?_ | refine jV h3 ?_)
     )
     all_goals rw [hd1]
     all_goals (
      repeat (first | refine jS ?_ | refine jD ?_ | refine jB ?_ | refine jo rfl rfl (index_agg rfl rfl rfl rfl rfl (by omega) (by omega) rfl) rfl rfl ?_ | refine jV h3 ?_)
     )
     all_goals exact jR
    | true =>
     rw [hb] at h3
     rcases hql with rfl | rfl | rfl
     all_goals subst hv
     all_goals (
      repeat (first | refine jS ?_ | refine jD ?_ | refine jB ?_ | refine jo rfl rfl (index_agg rfl rfl rfl rfl rfl (by omega) (by omega) rfl) rfl rfl ?_ | refine jV h3 ?_)
     )
     all_goals rw [hd1]
     all_goals (
      repeat (first | refine jS ?_ | refine jD ?_ | refine jB ?_ | refine jo rfl rfl (index_agg rfl rfl rfl rfl rfl (by omega) (by omega) rfl) rfl rfl ?_ | refine jV h3 ?_)
     )
     all_goals refine jnextI (_ + 1) (hst hb) rfl rfl (by omega)
end Go.AL
namespace Go.AL
open Go Go.Proofs
attribute [local irreducible] J
def mH2 (l : List Ins) : List AObj := [.box 199 opsC, .box 26 [.sl (l.map encIns)], .box 220 [.fn (.func 135) [] [.ptr 0 0, .ptr 1 0]]]
theorem may2_ok (l : List Ins) (i : Ins) (hl : l.length ≤ 1000000) : ACalls Tryz.prog 138 [encIns i, .ptr 2 0] (mH2 l) (one (bv (!mayI l.length i)) (mH2 l)) := by
 obtain ⟨op, a, b, c⟩ := i
 have h1 := may1_ok l op a b c hl
 unfold mH at h1
 unfold mH2 encIns
 simp only
 generalize mayI l.length ⟨op, a, b, c⟩ = r at *
 refine jcalls Tryz.func138 rfl (by kernel_rfl) Tryz.ntmps138 rfl rfl (fun w0 β0 ext hβ => ?_)
 repeat (first | refine jS ?_ | refine jD ?_ | refine jB ?_)
 refine jb [0,1] h1 rfl rfl rfl ⟨rfl, rfl, rfl, rfl, rfl, rfl⟩ rfl rfl rfl rfl ?_
 cases r
 all_goals (
  repeat (first | refine jS ?_ | refine jD ?_ | refine jB ?_)
 )
 all_goals exact jR
def fidx (n : Nat) (l : List Ins) : Int := match l.findIdx? (fun i => !mayI n i) with | some i => i | none => -1
theorem findex_ok (l : List Ins) (hl : l.length ≤ 1000000) : ACalls Tryz.prog 171 [.sl (l.map encIns), .fn (.func 138) [] [.ptr 2 0]] (mH2 l) (one (iv (fidx l.length l)) (mH2 l)) := by
 unfold mH2
 refine jcalls Tryz.func171 rfl (by kernel_rfl) Tryz.ntmps171 rfl rfl (fun w0 β0 ext hβ => ?_)
 repeat (first | refine jS ?_ | refine jD ?_ | refine jB ?_)
 refine jloopI (fun k : Nat => k ≤ l.length ∧ ∀ q, q < k → mayI l.length (at' l (q : Int)) = true) [0, 1, 8, 7] (fun k => [.sl (l.map encIns), .fn (.func 138) [] [.ptr 2 0], .v (.int .i64 (k : Int)), .v (.int .i64 ((l.map encIns).length : Int))])
  (fun _ => [.box 199 opsC, .box 26 [.sl (l.map encIns)], .box 220 [.fn (.func 135) [] [.ptr 0 0, .ptr 1 0]]]) (fun k => l.length - k) 0 ⟨Nat.zero_le _, fun q h => absurd h (by omega)⟩ rfl rfl (fun k hk => ?_)
 obtain ⟨hk, hok⟩ := hk
 repeat (first | refine jS ?_ | refine jD ?_ | refine jB ?_)
 refine jc rfl rfl rfl (fun h => ?_) (fun h => ?_)
 ·have h := of_decide_eq_true h
  rw [List.length_map] at h
  have hk2 : k < l.length := by omega
  have hc := may2_ok l (at' l (k : Int)) hl
  unfold mH2 at hc
  repeat (first | refine jS ?_ | refine jD ?_ | refine jB ?_ | refine jo rfl rfl (index_at rfl rfl rfl rfl rfl rfl rfl rfl (Int.natCast_nonneg k) h) rfl rfl ?_)
  refine jb [0,1,2] hc rfl rfl rfl ⟨rfl, rfl, rfl, rfl, rfl, rfl⟩ rfl rfl rfl rfl ?_
  cases hb : mayI l.length (at' l (k : Int)) with
  | false =>
   repeat (first | refine jS ?_ | refine jD ?_ | refine jB ?_)
   have : fidx l.length l = (k : Int) := by
    unfold fidx
    rw [at_nat l k hk2] at hb
    rw [List.findIdx?_eq_some_iff_getElem.2 ⟨hk2, by rw [hb]; rfl, fun j hj => by
     have e2 := hok j hj
     rw [at_nat l j (by omega)] at e2
     simp [e2]⟩]
   rw [this]
   exact jR
  | true =>
   repeat (first | refine jS ?_ | refine jD ?_ | refine jB ?_)
   refine jnextI (k + 1) ⟨by omega, fun q hq => ?_⟩ ?_ rfl (by omega)
   ·by_cases e : q = k
    ·subst e; exact hb
    ·exact hok q (by omega)
   ·show some _ = some _
    rw [idx_next hk2 (by omega)]
 ·have h := of_decide_eq_false h
  rw [List.length_map] at h
  repeat (first | refine jS ?_ | refine jD ?_ | refine jB ?_)
  have : fidx l.length l = -1 := by
   unfold fidx
   rw [List.findIdx?_eq_none_iff.2 fun p hp => ?_]
   obtain ⟨i, hi, rfl⟩ := List.getElem_of_mem hp
   have e2 := hok i (by omega)
   rw [at_nat l i hi] at e2
   simp [e2]
  rw [this]
  exact jR
theorem containsI_ok (l : List Ins) (hl : l.length ≤ 1000000) : ACalls Tryz.prog 137 [.sl (l.map encIns), .fn (.func 138) [] [.ptr 2 0]] (mH2 l) (one (bv (!l.all (mayI l.length))) (mH2 l)) := by
 have h1 := findex_ok l hl
 have h2 : decide (fidx l.length l ≥ 0) = !l.all (mayI l.length) := by
  unfold fidx
  cases hf : l.findIdx? (fun i => !mayI l.length i) with
  | some i =>
   obtain ⟨hi, h3, _⟩ := List.findIdx?_eq_some_iff_getElem.1 hf
   have : l.all (mayI l.length) = false := by
    rw [List.all_eq_false]
    exact ⟨_, List.getElem_mem hi, by simpa using h3⟩
   rw [this]; simp
  | none =>
   rw [List.findIdx?_eq_none_iff] at hf
   have : l.all (mayI l.length) = true := by
    rw [List.all_eq_true]
    intro x hx
    simpa using hf x hx
   rw [this]; rfl
 unfold mH2 at *
 refine jcalls Tryz.func137 rfl (by kernel_rfl) Tryz.ntmps137 rfl rfl (fun w0 β0 ext hβ => ?_)
 repeat (first | refine jS ?_ | refine jD ?_ | refine jB ?_)
 refine jb [0,1,2] h1 rfl rfl rfl ⟨rfl, rfl, rfl, rfl, rfl, rfl⟩ rfl rfl rfl rfl ?_
 repeat (first | refine jS ?_ | refine jD ?_ | refine jB ?_)
 rw [h2]
 exact jR
theorem right_ok (l : List Ins) (hl : l.length ≤ 1000000) : ACalls Tryz.prog 90 [encIs l] [] (one (bv (rightC l)) []) := by
 have h1 := containsI_ok l hl
 have hop := operations_ok
 unfold rightC
 unfold mH2 at h1
 unfold encIs
 have hd : decide (((l.map encIns).length : Int) ≤ 1000) = decide (l.length ≤ 1000) := by
  rw [List.length_map]
  by_cases h : l.length ≤ 1000
  ·rw [decide_eq_true h, decide_eq_true (by omega)]
  ·rw [decide_eq_false h, decide_eq_false (by omega)]
 cases hb : decide (l.length ≤ 1000) with
 | false =>
  rw [hb] at hd
  refine jcalls Tryz.func90 rfl (by kernel_rfl) Tryz.ntmps90 rfl rfl (fun w0 β0 ext hβ => ?_)
  repeat (first | refine jS ?_ | refine jD ?_ | refine jB ?_ | refine jV hop ?_)
  rw [hd]
  repeat (first | refine jS ?_ | refine jD ?_ | refine jB ?_)
  exact jR
 | true =>
  rw [hb] at hd
  refine jcalls Tryz.func90 rfl (by kernel_rfl) Tryz.ntmps90 rfl rfl (fun w0 β0 ext hβ => ?_)
  repeat (first | refine jS ?_ | refine jD ?_ | refine jB ?_ | refine jV hop ?_)
  rw [hd]
  repeat (first | refine jS ?_ | refine jD ?_ | refine jB ?_)
  refine jb [1,0,2] h1 rfl rfl rfl ⟨rfl, rfl, rfl, rfl, rfl, rfl⟩ rfl rfl rfl rfl ?_
  cases l.all (mayI l.length)
  all_goals (
   repeat (first | refine jS ?_ | refine jD ?_ | refine jB ?_)
  )
  all_goals exact jR
end Go.AL
end
