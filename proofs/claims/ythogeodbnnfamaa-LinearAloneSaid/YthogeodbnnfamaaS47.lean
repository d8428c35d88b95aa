/-
  The law LinearAlone by contracts. No conditions.
-/
import Derived.Test.YthogeodbnnfamaaS46
set_option linter.unusedVariables false
set_option linter.unusedSimpArgs false
set_option maxRecDepth 100000
namespace Go.AL
open Go Go.Proofs
attribute [local irreducible] J inB right may

theorem clamp_mod {k : Int} {n : Nat} (hn : 0 < n) (h1000 : n ≤ 1000) : ∃ q : Nat, q < n ∧ (IntKind.i64.wrap (k.tmod (n : Int) + n)).tmod (n : Int) = (q : Int) := by
  have h0 : (n : Int) ≠ 0 := by omega
  have h1 : k.tmod (n : Int) < n := by
    have := Int.natAbs_tmod k n
    have h2 : (k.natAbs % (n : Int).natAbs) < n := by rw [Int.natAbs_natCast]; exact Nat.mod_lt _ hn
    omega
  have h3 : -(n : Int) < k.tmod (n : Int) := by
    have := Int.natAbs_tmod k n
    have h2 : (k.natAbs % (n : Int).natAbs) < n := by rw [Int.natAbs_natCast]; exact Nat.mod_lt _ hn
    omega
  rw [wrap_id (by omega) (by omega)]
  obtain ⟨w, hw⟩ : ∃ w : Nat, k.tmod (n : Int) + n = w := ⟨(k.tmod (n : Int) + n).toNat, by omega⟩
  rw [hw]
  exact ⟨w % n, Nat.mod_lt _ hn, rfl⟩
theorem odd_set {l : List Span} {q : Nat} (hq : q < l.length) (r : Reply) : (l.map encSp).set (q : Int).toNat (elemSet (encSp (at' l (q : Int))) (0 + 6) (encR r).cells) = (odd l q r).map encSp := by
  unfold odd
  rw [Int.toNat_natCast, List.map_set]
  rfl

set_option maxHeartbeats 1000000 in
theorem aloneL_ok (M : List Pair) (C : List Call) (k : Int) (r : Reply) (hM : M.length ≤ 9223372036854775807) (hC : C.length ≤ 9223372036854775807) :
    ACalls Try.prog 10 [.sl (M.map encP), .sl (C.map encC), .v (.int .i64 k), encR r] [] (one (.v (.bool true)) []) := by
  have hfew := lfew_ok M hM
  have hm : (M.take 14).length ≤ 14 := by rw [List.length_take]; omega
  generalize M.take 14 = m at hfew hm
  have hcut := min_if encC C 8
  have hl : (C.take 8).length ≤ 8 := by rw [List.length_take]; omega
  generalize hg : C.take 8 = cs at hl
  have hrun := run_ok m cs (by omega) (by omega)
  by_cases hx : right m = true ∧ cs.all may = true
  case neg =>
    have e : runA m cs = ([], [], 1) := by
      unfold runA
      rw [if_neg (by simpa using hx)]
    rw [e] at hrun
    refine jcalls Try.func10 rfl (by kernel_rfl) Try.ntmps10 rfl rfl (fun w0 β0 ext hβ => ?_)
    repeat (first | refine js rfl ?_ | (refine jdraw ?_ ?_; · kernel_rfl) | refine jbu rfl rfl rfl rfl ?_ | refine jv hfew rfl rfl rfl rfl rfl ?_)
    refine jo rfl rfl (cut_take 8 rfl rfl rfl hcut rfl rfl rfl (fun _ => ⟨rfl, rfl⟩)) rfl rfl ?_
    rw [hg]
    repeat (first | refine js rfl ?_ | (refine jdraw ?_ ?_; · kernel_rfl) | refine jbu rfl rfl rfl rfl ?_ | refine jv hrun rfl rfl rfl rfl rfl ?_ | refine jv lalive_ok rfl rfl rfl rfl rfl ?_)
    exact jr rfl rfl rfl rfl
  obtain ⟨hr, hc⟩ := hx
  have e : runA m cs = ((runS m cs).1, (runS m cs).2, 0) := by unfold runA; rw [hr, hc]; rfl
  have hlen := runS_len cs m
  have hgood := row_good hc (runS m cs).2
  have hrl := row_len cs (runS m cs).2
  have ho1 := alone_order hr hc
  have hm1 := alone_map0 hr hc
  have hsame := same_ok (runS m cs).1 (by have := right_len (runS_right cs hr hc); omega)
  have hodd := fun (q : Nat) (hq : q < cs.length) (h : (raccA (mapAt m cs q) (at' cs (q : Int)) r).2 = false) => odd_order hr hc hq h
  rw [e] at hrun
  have hat := fun (i : Nat) (hi : i < cs.length) => row_at cs (runS m cs).2 hi
  generalize hL : rowSp cs (runS m cs).2 = l at hgood hrl ho1 hm1 hodd hat
  generalize (runS m cs).1 = n at hrun hm1 hsame
  generalize (runS m cs).2 = rs at hrun hlen hat
  refine jcalls Try.func10 rfl (by kernel_rfl) Try.ntmps10 rfl rfl (fun w0 β0 ext hβ => ?_)
  repeat (first | refine js rfl ?_ | (refine jdraw ?_ ?_; · kernel_rfl) | refine jbu rfl rfl rfl rfl ?_ | refine jv hfew rfl rfl rfl rfl rfl ?_)
  refine jo rfl rfl (cut_take 8 rfl rfl rfl hcut rfl rfl rfl (fun _ => ⟨rfl, rfl⟩)) rfl rfl ?_
  rw [hg]
  repeat (first | refine js rfl ?_ | (refine jdraw ?_ ?_; · kernel_rfl) | refine jbu rfl rfl rfl rfl ?_ | refine jv hrun rfl rfl rfl rfl rfl ?_ | refine jv lalive_ok rfl rfl rfl rfl rfl ?_)
  refine jc rfl rfl rfl (fun h => absurd h (by simp [hlen])) (fun h => ?_)
  repeat (first | refine jad 12 65 10 rfl rfl rfl rfl ?_ | refine js rfl ?_ | (refine jdraw ?_ ?_; · kernel_rfl) | refine jbu rfl rfl rfl rfl ?_)
  refine jloop (ι := Nat × Nat) 2 (fun z => z.1 ≤ cs.length) [0, 1, 2, 7, 9, 10, 12, 62, 63, 64] (fun z => [.sl (m.map encP), .sl (cs.map encC), .v (.int .i64 k), .ptr 0 0, .sl (n.map encP), .sl (rs.map encR), .arr 1 z.2, .sl (cs.map encC), .v (.int .i64 cs.length), .v (.int .i64 z.1)])
    (fun z => [.box 28 [.v (.int .i64 r.why), .v (.int .i64 r.value)], .arr z.2 65 10 ((l.take z.1).map encSp)]) (fun z => cs.length - z.1) (0, 1) (by rw [hβ]; decide) (by simp) (by simp only [List.length_map]; rfl) rfl ?_
  rintro ⟨i, g⟩ hi
  have hi : i ≤ cs.length := hi
  repeat (first | refine js rfl ?_ | (refine jdraw ?_ ?_; · kernel_rfl) | refine jbu rfl rfl rfl rfl ?_)
  refine jc rfl rfl rfl (fun h => ?_) (fun h => ?_)
  · have h := of_decide_eq_true h
    have hi1 : i < cs.length := by dsimp only at h; omega
    have w1 := idx_next hi1 (by omega)
    have hati := hat i hi1
    have htk : l.take (i + 1) = l.take i ++ [at' l (i : Int)] := by rw [at_nat l i (by omega)]; exact List.take_succ_eq_append_getElem (by omega)
    repeat (first | refine js rfl ?_ | (refine jdraw ?_ ?_; · kernel_rfl) | refine jbu rfl rfl rfl rfl ?_)
    refine jo rfl rfl (index_at rfl rfl rfl rfl rfl rfl rfl rfl (by dsimp only; omega) (by dsimp only; omega)) rfl rfl ?_
    repeat (first | refine js rfl ?_ | (refine jdraw ?_ ?_; · kernel_rfl) | refine jbu rfl rfl rfl rfl ?_)
    refine jo rfl rfl (index_at rfl rfl rfl rfl rfl rfl rfl rfl (by dsimp only; omega) (by dsimp only; omega)) rfl rfl ?_
    repeat (first | refine js rfl ?_ | (refine jdraw ?_ ?_; · kernel_rfl) | refine jbu rfl rfl rfl rfl ?_)
    refine jo rfl rfl (append_enc (enc := encSp) (at' l (i : Int)) rfl rfl rfl rfl ?_ rfl rfl rfl rfl rfl (fun _ => ⟨rfl, rfl⟩) rfl (by dsimp only; rw [List.length_take]; omega) rfl rfl) rfl rfl ?_
    · have w2 : IntKind.i64.wrap (2 * (i : Int)) = 2 * (i : Int) := by rw [wrap_id] <;> omega
      have w3 : IntKind.i64.wrap (2 * (i : Int) + 1) = 2 * (i : Int) + 1 := by rw [wrap_id] <;> omega
      have w4 : (i : Int).tmod 2 = (i : Int) % 2 := by rw [Int.tmod_eq_emod_of_nonneg (by omega)]
      have w5 : IntKind.i64.wrap ((i : Int).tdiv 2) = (i : Int) / 2 := by rw [Int.tdiv_eq_ediv_of_nonneg (by omega), wrap_id] <;> omega
      rw [hati]
      show [AVal.agg [.v (.int .i64 ((i : Int).tmod 2)), .v (.int .i64 (IntKind.i64.wrap ((i : Int).tdiv 2))), _, _, _, _, _, _, .v (.int .i64 (IntKind.i64.wrap (2 * (i : Int)))), .v (.int .i64 (IntKind.i64.wrap (IntKind.i64.wrap (2 * (i : Int)) + 1)))]] = _
      rw [w2, w3, w4, w5]
      rfl
    repeat (first | refine js rfl ?_ | (refine jdraw ?_ ?_; · kernel_rfl) | refine jbu rfl rfl rfl rfl ?_)
    exact jnext (i + 1, g + 1) hi1 (by dsimp only; omega) rfl rfl rfl (by rw [w1]) (by dsimp only; rw [htk]; rfl)
  have h := of_decide_eq_false h
  have hi2 : i = cs.length := by dsimp only at h; omega
  subst hi2
  have hlt : l.take cs.length = l := by rw [← hrl]; exact List.take_length
  have hs8 : l.length ≤ 8 := by omega
  have hord := orderA_ok m l g hr hgood hs8 _ ho1
  have hmp := lmapA_ok m l (upI cs.length) g hr hgood hs8 (by rw [upI_len]; omega) (by rw [hm1])
  rw [hm1] at hmp
  dsimp only
  rw [hlt]
  repeat (first | refine js rfl ?_ | (refine jdraw ?_ ?_; · kernel_rfl) | refine jbu rfl rfl rfl rfl ?_)
  refine jb [1] hord rfl rfl rfl ⟨rfl, rfl, rfl, rfl, rfl, rfl⟩ rfl rfl rfl rfl ?_
  repeat (first | refine js rfl ?_ | (refine jdraw ?_ ?_; · kernel_rfl) | refine jbu rfl rfl rfl rfl ?_)
  refine jb [1] hmp rfl rfl rfl ⟨rfl, rfl, rfl, rfl, rfl, rfl⟩ rfl rfl rfl rfl ?_
  repeat (first | refine js rfl ?_ | (refine jdraw ?_ ?_; · kernel_rfl) | refine jbu rfl rfl rfl rfl ?_ | refine jo rfl rfl (len_arr rfl rfl rfl rfl) rfl rfl ?_ | refine jv hsame rfl rfl rfl rfl rfl ?_ | refine jv lalive_ok rfl rfl rfl rfl rfl ?_)
  refine jg rfl rfl rfl rfl (fun h => absurd h (by simp [upI_len, hrl])) (fun h => ?_)
  repeat (first | refine js rfl ?_ | (refine jdraw ?_ ?_; · kernel_rfl) | refine jbu rfl rfl rfl rfl ?_ | refine jo rfl rfl (len_arr rfl rfl rfl rfl) rfl rfl ?_ | refine jv hsame rfl rfl rfl rfl rfl ?_ | refine jv lalive_ok rfl rfl rfl rfl rfl ?_)
  refine jloop (ι := Nat) 2 (fun i => i ≤ cs.length) [0, 1, 2, 7, 12, 124, 125, 126] (fun i => [.sl (m.map encP), .sl (cs.map encC), .v (.int .i64 k), .ptr 0 0, .arr 1 g, .sl ((upI cs.length).map encI), .v (.int .i64 cs.length), .v (.int .i64 i)])
    (fun _ => [.box 28 [.v (.int .i64 r.why), .v (.int .i64 r.value)], .arr g 65 10 (l.map encSp)]) (fun i => cs.length - i) 0 (by rw [hβ]; decide) (by simp) (by simp only [List.length_map, Option.getD_some, upI_len]; rfl) rfl ?_
  intro i hi
  repeat (first | refine js rfl ?_ | (refine jdraw ?_ ?_; · kernel_rfl) | refine jbu rfl rfl rfl rfl ?_)
  refine jc rfl rfl rfl (fun h => ?_) (fun h => ?_)
  · have h := of_decide_eq_true h
    have hi1 : i < cs.length := by omega
    have w1 := idx_next hi1 (by omega)
    have hui : at' (upI cs.length) (i : Int) = i := by rw [at_nat _ i (by rw [upI_len]; exact hi1)]; simp [upI]
    repeat (first | refine js rfl ?_ | (refine jdraw ?_ ?_; · kernel_rfl) | refine jbu rfl rfl rfl rfl ?_)
    refine jo rfl rfl (index_at rfl rfl rfl rfl rfl rfl rfl rfl (by omega) (by rw [upI_len]; omega)) rfl rfl ?_
    rw [hui]
    repeat (first | refine js rfl ?_ | (refine jdraw ?_ ?_; · kernel_rfl) | refine jbu rfl rfl rfl rfl ?_)
    refine jc rfl rfl rfl (fun h => absurd h (by simp)) (fun h => ?_)
    repeat (first | refine js rfl ?_ | (refine jdraw ?_ ?_; · kernel_rfl) | refine jbu rfl rfl rfl rfl ?_)
    exact jnext (i + 1) hi1 (by omega) rfl rfl rfl (by rw [w1]) rfl
  repeat (first | refine js rfl ?_ | (refine jdraw ?_ ?_; · kernel_rfl) | refine jbu rfl rfl rfl rfl ?_ | refine jo rfl rfl (len_arr rfl rfl rfl rfl) rfl rfl ?_)
  refine jc rfl rfl rfl (fun h => ?_) (fun h => ?_)
  · repeat (first | refine js rfl ?_ | (refine jdraw ?_ ?_; · kernel_rfl) | refine jbu rfl rfl rfl rfl ?_)
    exact jr rfl rfl rfl rfl
  have hpos : 0 < cs.length := by
    rcases Nat.eq_zero_or_pos cs.length with h0 | h0
    · exfalso; simp [hrl, h0] at h
    · exact h0
  obtain ⟨q, hq, hqe⟩ := clamp_mod (k := k) hpos (by omega)
  repeat (first | refine js rfl ?_ | (refine jdraw ?_ ?_; · kernel_rfl) | refine jbu rfl rfl rfl rfl ?_ | refine jo rfl rfl (len_arr rfl rfl rfl rfl) rfl rfl ?_)
  refine jo rfl rfl (rem_op rfl rfl (by rw [List.length_map, hrl]; omega)) rfl rfl ?_
  repeat (first | refine js rfl ?_ | (refine jdraw ?_ ?_; · kernel_rfl) | refine jbu rfl rfl rfl rfl ?_ | refine jo rfl rfl (len_arr rfl rfl rfl rfl) rfl rfl ?_)
  refine jo rfl rfl (rem_op rfl rfl (by rw [List.length_map, hrl]; omega)) rfl rfl ?_
  refine jre 147 (.v (.int .i64 (q : Int))) rfl rfl (by rw [List.length_map, hrl, hqe]) ?_
  have hrun2 := run_ok m (cs.take q) (by omega) (by rw [List.length_take]; omega)
  have e2 : runA m (cs.take q) = (mapAt m cs q, (runS m (cs.take q)).2, 0) := by
    unfold runA
    rw [hr, show (cs.take q).all may = true from List.all_eq_true.2 fun c h => List.all_eq_true.1 hc c (List.mem_of_mem_take h)]; rfl
  rw [e2] at hrun2
  have hmr := mapAt_right hr hc q
  have hacc := accept_ok (mapAt m cs q) (at' cs (q : Int)) r (by have := right_len hmr; omega)
  rw [acc_eq r hmr (may_at hc hq)] at hacc
  have hodd := hodd q hq
  generalize raccA (mapAt m cs q) (at' cs (q : Int)) r = z at hacc hodd
  obtain ⟨x, b⟩ := z
  repeat (first | refine js rfl ?_ | (refine jdraw ?_ ?_; · kernel_rfl) | refine jbu rfl rfl rfl rfl ?_)
  refine jo rfl rfl (cut_enc 0 q rfl rfl rfl ⟨.i64, rfl⟩ rfl rfl rfl (fun _ => ⟨rfl, rfl⟩) (by omega) (by omega)) rfl rfl ?_
  simp only [Nat.sub_zero, List.drop_zero]
  repeat (first | refine js rfl ?_ | (refine jdraw ?_ ?_; · kernel_rfl) | refine jbu rfl rfl rfl rfl ?_ | refine jv hrun2 rfl rfl rfl rfl rfl ?_)
  refine jo rfl rfl (index_at rfl rfl rfl rfl rfl rfl rfl rfl (by omega) (by omega)) rfl rfl ?_
  cases b
  · have hod := hodd rfl
    have hsetl : (odd l q r).length = l.length := by simp [odd]
    have hord2 := orderA_ok m (odd l q r) g hr (odd_good hgood q (by omega) r) (by omega) _ hod
    repeat (first | refine js rfl ?_ | (refine jdraw ?_ ?_; · kernel_rfl) | refine jbu rfl rfl rfl rfl ?_ | refine jv hacc rfl rfl rfl rfl rfl ?_)
    refine jo rfl rfl (index_own rfl rfl rfl rfl rfl rfl (by omega) (by simp; omega)) rfl rfl ?_
    refine jo rfl rfl (field_own rfl rfl rfl rfl rfl rfl (by decide)) rfl rfl ?_
    refine jo rfl rfl (store_enc (enc := encSp) (l := l) (l' := odd l q r) rfl rfl rfl (map_at (by omega)) rfl rfl rfl rfl rfl (Nat.le_of_ble_eq_true rfl) (.inl ⟨_, rfl⟩) (odd_set (by omega) r) rfl) rfl rfl ?_
    repeat (first | refine js rfl ?_ | (refine jdraw ?_ ?_; · kernel_rfl) | refine jbu rfl rfl rfl rfl ?_)
    refine jb [1] hord2 rfl rfl rfl ⟨rfl, rfl, rfl, rfl, rfl, rfl⟩ rfl rfl rfl rfl ?_
    repeat (first | refine js rfl ?_ | (refine jdraw ?_ ?_; · kernel_rfl) | refine jbu rfl rfl rfl rfl ?_)
    exact jr rfl rfl rfl rfl
  · repeat (first | refine js rfl ?_ | (refine jdraw ?_ ?_; · kernel_rfl) | refine jbu rfl rfl rfl rfl ?_ | refine jv hacc rfl rfl rfl rfl rfl ?_)
    exact jr rfl rfl rfl rfl
end Go.AL
