/-
  asm.Print: the walk. No conditions.
-/
import Derived.Test.YtaoiflliakjhdaaDoorW8
set_option linter.unusedVariables false
set_option linter.unusedSimpArgs false
set_option maxRecDepth 100000
namespace Go.AL
open Go Go.Proofs
attribute [local irreducible] J

theorem ops_name : ∀ (i : Nat), i < 27 → takeA ty9 opsC (0 + i * ty59.size + 0) = some (sv (at' opsT (i : Int)).1)
  | 0, _ => rfl
  | 1, _ => rfl
  | 2, _ => rfl
  | 3, _ => rfl
  | 4, _ => rfl
  | 5, _ => rfl
  | 6, _ => rfl
  | 7, _ => rfl
  | 8, _ => rfl
  | 9, _ => rfl
  | 10, _ => rfl
  | 11, _ => rfl
  | 12, _ => rfl
  | 13, _ => rfl
  | 14, _ => rfl
  | 15, _ => rfl
  | 16, _ => rfl
  | 17, _ => rfl
  | 18, _ => rfl
  | 19, _ => rfl
  | 20, _ => rfl
  | 21, _ => rfl
  | 22, _ => rfl
  | 23, _ => rfl
  | 24, _ => rfl
  | 25, _ => rfl
  | 26, _ => rfl
  | n + 27, h => absurd h (by omega)
def txt (l : List Ins) (k : Nat) : Bs := (pls l k).flatMap (· ++ [10])
theorem labL_txt (l : List Ins) (k : Nat) : (labL l k).flatMap (· ++ [10]) = labB (isT l k) k := by
  unfold labL labB lname
  cases isT l (k : Int) <;> simp
theorem txt_succ (l : List Ins) (k : Nat) : txt l (k + 1) = ((txt l k ++ labB (isT l k) k) ++ prL (l.getD k default)) ++ [10] := by
  unfold txt
  rw [pls_succ, List.flatMap_append, List.flatMap_append, labL_txt]
  simp
theorem rprint_txt (l : List Ins) : rprint l = txt l l.length ++ labB (isT l l.length) l.length := by
  unfold rprint plines
  rw [List.flatMap_append, labL_txt]; rfl
def preQ (t : Bs) (kd : Bs) (vs : List Int) (q : Nat) : Bs := t ++ ((List.zipWith prW kd vs).take q).flatMap (32 :: ·)
theorem preQ_succ {t kd : Bs} {vs : List Int} {q : Nat} {c : UInt8} {v : Int} (hc : kd[q]? = some c) (hv : vs[q]? = some v) : preQ t kd vs (q + 1) = ((preQ t kd vs q ++ [32]) ++ pfx c) ++ Lib.itoa v := by
  unfold preQ
  have : (List.zipWith prW kd vs)[q]? = some (prW c v) := by simp [List.getElem?_zipWith, hc, hv]
  obtain ⟨hq, e⟩ := List.getElem?_eq_some_iff.1 this
  rw [List.take_succ_eq_append_getElem hq, e, List.flatMap_append]
  unfold prW
  simp
theorem preQ_len (t : Bs) {kd : Bs} {vs : List Int} (hv : ∀ v ∈ vs, bd v) : ∀ q, q ≤ 3 → (preQ t kd vs q).length ≤ t.length + 13 * q
  | 0, _ => by simp [preQ]
  | q + 1, h => by
    have ih := preQ_len t (kd := kd) hv q (by omega)
    cases hc : kd[q]? with
    | none =>
      have : preQ t kd vs (q + 1) = preQ t kd vs q := by
        unfold preQ
        have hl : (List.zipWith prW kd vs).length ≤ q := by
          rw [List.length_zipWith]
          have := List.getElem?_eq_none_iff.1 hc
          omega
        rw [List.take_of_length_le (by omega), List.take_of_length_le hl]
      rw [this]; omega
    | some c =>
      cases hw : vs[q]? with
      | none =>
        have : preQ t kd vs (q + 1) = preQ t kd vs q := by
          unfold preQ
          have hl : (List.zipWith prW kd vs).length ≤ q := by
            rw [List.length_zipWith]
            have := List.getElem?_eq_none_iff.1 hw
            omega
          rw [List.take_of_length_le (by omega), List.take_of_length_le hl]
        rw [this]; omega
      | some v =>
        have := itoa_len (hv v (List.mem_of_getElem? hw))
        have hp : (pfx c).length ≤ 1 := by
          unfold pfx
          cases decide (c = 114)
          · cases decide (c = 116) <;> simp
          · simp
        rw [preQ_succ hc hw]
        simp only [List.length_append, List.length_cons, List.length_nil]
        omega
theorem preQ_full (t : Bs) {kd : Bs} {vs : List Int} {q : Nat} (h : kd.length ≤ q) : preQ t kd vs q = t ++ (List.zipWith prW kd vs).flatMap (32 :: ·) := by
  unfold preQ
  rw [List.take_of_length_le (by rw [List.length_zipWith]; omega)]
theorem labB_len (c : Bool) (n : Int) (h : bd n) : (labB c n).length ≤ 14 := by
  have := itoa_len h
  unfold labB
  cases c
  · simp
  · simp; omega
def pfn : AVal := .fn (.func 33) [] [.ptr 5 0, .ptr 7 0]
set_option maxHeartbeats 8000000 in
theorem print_some (g : Gl) (l : List Ins) (hr : rightC l = true) (hne : l ≠ []) : ACalls Tryd.prog 16 [encIs l] (gls g) (one (.tup [sv (rprint l), iv 0]) (gls g)) := by
  have hr1 : l.length ≤ 1000 := by unfold rightC at hr; simp at hr; omega
  have hr2 : l.all (mayI l.length) = true := by unfold rightC at hr; simp at hr; simpa using hr.2
  have hri := right_ok l (by omega)
  rw [hr] at hri
  have hops : ∀ i ∈ l, 0 ≤ i.op ∧ i.op < 27 := fun i hi => by
    obtain ⟨k, hk, e⟩ := mayI_op (List.all_eq_true.1 hr2 i hi)
    omega
  have hisT := tgt_is (l := l) (fun i hi => by have := hops i hi; omega)
  have htg := targets_ok l (by omega) hops
  have hop := operations_ok
  have hpos : 0 < l.length := List.length_pos_iff.2 hne
  have htl : ∀ k, k ≤ l.length → (txt l k).length ≤ 59000 := fun k hk => by
    have := pls_chars hr1 hr2 k hk
    unfold txt; omega
  unfold encIs at *
  generalize hm : tgt l = m at *
  refine jcalls Tryd.func16 rfl (by kernel_rfl) Tryd.ntmps16 rfl rfl (fun w0 β0 ext hβ => ?_)
  repeat (first | refine js rfl ?_ | (refine jdraw ?_ ?_; · kernel_rfl) | refine jbu rfl rfl rfl rfl ?_ | refine jv hri rfl rfl rfl rfl rfl ?_)
  refine jb [] htg rfl rfl rfl ⟨rfl, rfl, rfl, rfl, rfl, rfl⟩ rfl rfl rfl rfl ?_
  repeat (first | refine js rfl ?_ | (refine jdraw ?_ ?_; · kernel_rfl) | refine jbu rfl rfl rfl rfl ?_ | refine jv hop rfl rfl rfl rfl rfl ?_)
  refine jadB 7 1 5 1 rfl rfl rfl rfl ?_
  refine jloop 9 (fun k : Nat => k ≤ l.length) [7, 5, 6, 19, 20, 21, 0] (fun k => [pfn, .ptr 6 0, .ptr 7 0, .sl (l.map encIns), .v (.int .i64 ((l.map encIns).length : Int)), .v (.int .i64 (k : Int)), .sl (l.map encIns)])
    (fun k => gls g ++ [.vmap (encN m), .box 56 [.mp 4], .box 60 opsC] ++ bldAt 7 (decide (0 < k)) (txt l k)) (fun k => l.length - k) 0 (by rw [hβ]; exact (by decide : 4 ≤ 9)) (Nat.zero_le _) rfl rfl (fun k hk => ?_)
  unfold pfn
  repeat (first | refine js rfl ?_ | (refine jdraw ?_ ?_; · kernel_rfl) | refine jbu rfl rfl rfl rfl ?_)
  refine jc rfl rfl rfl (fun h => ?_) (fun h => ?_)
  · have h := of_decide_eq_true h
    rw [List.length_map] at h
    have hk2 : k < l.length := by omega
    have hat := at_nat l k hk2
    have hnx := idx_next hk2 (by omega)
    have hop2 := hops l[k] (List.getElem_mem hk2)
    have hmay := List.all_eq_true.1 hr2 _ (List.getElem_mem hk2)
    have htx := txt_succ l k
    have hgd : l.getD k default = l[k] := by simp [List.getD, hk2]
    rw [hgd] at htx
    have htk := htl k hk
    have hlab := label_ok g m (k : Int) (decide (0 < k)) (txt l k) (by omega) (by omega) (by omega)
    rw [hisT] at hlab
    have hll := labB_len (isT l k) (k : Int) ⟨by omega, by omega⟩
    generalize hT : txt l k ++ labB (isT l k) k = T at *
    have hTl : T.length ≤ 59014 := by rw [← hT, List.length_append]; omega
    generalize l[k] = i at *
    obtain ⟨op, a, b, c⟩ := i
    obtain ⟨o, rfl⟩ : ∃ o : Nat, op = o := ⟨op.toNat, by simp only at hop2; omega⟩
    have ho : o < 27 := by simp only at hop2; omega
    have hkd := ops_kind o ho
    have hnm := ops_name o ho
    have hopn := operands_ok (o : Int) a b c
    obtain ⟨nm1, nm2, _⟩ := nm_wch o ho
    obtain ⟨hk3, hkc⟩ := kinds_ok o ho
    have hvb : ∀ v ∈ [a, b, c], bd v := by
      obtain ⟨ma, mb, mc⟩ := mayI_val hmay
      have hb : ∀ (c : Option UInt8) v, mayV c l.length v = true → bd v := fun c v hm => by
        obtain ⟨h1, h2⟩ := inn_iff.1 hm
        unfold lim at h1 h2
        cases c with
        | none => exact ⟨by simp at h1; omega, by simp at h2; omega⟩
        | some c =>
          simp only at h1 h2
          generalize decide (c = 114) = b1 at *
          generalize decide (c = 110) = b2 at *
          cases b1 <;> cases b2 <;> simp at h1 h2 <;> exact ⟨by omega, by omega⟩
      intro v hv
      simp only [List.mem_cons, List.mem_nil_iff, or_false] at hv
      rcases hv with rfl | rfl | rfl
      · exact hb _ _ ma
      · exact hb _ _ mb
      · exact hb _ _ mc
    have hpr : prL ⟨(o : Int), a, b, c⟩ = nm o ++ (List.zipWith prW (kdO o) [a, b, c]).flatMap (32 :: ·) := by
      unfold prL vals3
      rw [show (((o : Int))).toNat = o from Int.toNat_natCast o]
    rw [hpr] at htx
    have hn0 : 0 < (nm o).length := by
      have : ∀ o : Nat, o < 27 → 0 < (nm o).length := by decide
      exact this o ho
    rw [show (at' opsT (o : Int)).1 = nm o from rfl] at hnm
    rw [show (at' opsT (o : Int)).2 = kdO o from rfl] at hkd hk3 hkc
    have hwn : ∀ u, ACalls Tryd.prog 34 [.ptr 0 0, sv (nm o)] (bld u T) (one (.tup [iv (nm o).length, .v .nilIface]) (bld true (T ++ nm o))) := fun u => wstr_ok u T (nm o) hn0 (by omega)
    have hBl : (T ++ nm o).length ≤ 59019 := by rw [List.length_append]; omega
    have hfull := fun q (hq : (kdO o).length ≤ q) => preQ_full (T ++ nm o) (kd := kdO o) (vs := [a, b, c]) hq
    have hpl := preQ_len (T ++ nm o) (kd := kdO o) (vs := [a, b, c]) hvb
    have htx2 : ∀ q, (kdO o).length ≤ q → txt l (k + 1) = preQ (T ++ nm o) (kdO o) [a, b, c] q ++ [10] := fun q hq => by rw [htx, hfull q hq]; simp
    have hsuc := @preQ_succ (T ++ nm o) (kdO o) [a, b, c]
    generalize T ++ nm o = B at *
    generalize nm o = nmo at *
    generalize kdO o = kd at *
    have hcomb : ∃ u u' : Bool, decide (0 < k) = u ∧ (u = true → u' = true) ∧ ACalls Tryd.prog 33 [iv (k : Int), .ptr 5 0, .ptr 6 0] (lH g m u (txt l k)) (one (.tup []) (lH g m u' T)) := ⟨_, _, rfl, fun h => by rw [h]; rfl, hlab⟩
    clear hlab
    obtain ⟨u, u', hu, huu, hlab⟩ := hcomb
    rw [hu]
    clear hu
    unfold lH bldAt at hlab
    unfold bld bldH adr at hwn
    cases u with
    | true =>
      obtain rfl := huu rfl
      have hwb := hwn true
      repeat (first | refine js rfl ?_ | (refine jdraw ?_ ?_; · kernel_rfl) | refine jbu rfl rfl rfl rfl ?_ | refine jo rfl rfl (index_at rfl rfl rfl rfl rfl rfl rfl rfl (Int.natCast_nonneg k) h) rfl rfl ?_)
      rw [hat]
      refine jb [0,1,2,3,4,5,7,8] hlab rfl rfl rfl ⟨rfl, rfl, rfl, rfl, rfl, rfl⟩ rfl rfl rfl rfl ?_
      repeat (first | refine js rfl ?_ | (refine jdraw ?_ ?_; · kernel_rfl) | refine jbu rfl rfl rfl rfl ?_ | refine jo rfl rfl (index_arr rfl rfl rfl rfl rfl (by omega) (by omega)) rfl rfl ?_ | refine jo rfl rfl (readP_dsem rfl) rfl rfl ?_ | refine jo rfl rfl (load_dsem rfl rfl rfl hnm) rfl rfl ?_)
      refine jb [7,8] hwb rfl rfl rfl ⟨rfl, rfl, rfl, rfl, rfl, rfl⟩ rfl rfl rfl rfl ?_
      repeat (first | refine js rfl ?_ | (refine jdraw ?_ ?_; · kernel_rfl) | refine jbu rfl rfl rfl rfl ?_ | refine jv hopn rfl rfl rfl rfl rfl ?_)
      refine jloopI (fun q : Nat => q ≤ 3 ∧ q ≤ kd.length) [9, 36, 37, 5, 6, 7, 19, 20, 21, 0] (fun q => [.ptr 9 0, .agg [iv a, iv b, iv c], iv q, .ptr 6 0, .ptr 7 0, .fn (.func 33) [] [.ptr 5 0, .ptr 7 0], .sl (l.map encIns), .v (.int .i64 ((l.map encIns).length : Int)), .v (.int .i64 (k : Int)), .sl (l.map encIns)])
        (fun q => gls g ++ [.vmap (encN m), .box 56 [.mp 4], .box 60 opsC] ++ bldAt 7 true (preQ B kd [a, b, c] q) ++ [.box 31 [iv (o : Int), iv a, iv b, iv c]]) (fun q => 3 - q) 0 ⟨by omega, by omega⟩ rfl (by simp [preQ]; rfl) (fun q hq => ?_)
      obtain ⟨hq3, hqk⟩ := hq
      have hql := hpl q hq3
      have hnl := wbyte_ok true (preQ B kd [a, b, c] q) 10 (by omega)
      unfold bld bldH adr at hnl
      have htq := htx2 q
      unfold bldAt
      by_cases hend : q = kd.length
      · have hd1 : ((q : Int) == ((ByteArray.size ⟨kd.toArray⟩ : Nat) : Int)) = true := by rw [show ByteArray.size ⟨kd.toArray⟩ = kd.length from rfl, hend]; simp
        have htf := htq (by omega)
        clear htq
        generalize preQ B kd [a, b, c] q = B1 at *
        have hq4 : q = 0 ∨ q = 1 ∨ q = 2 ∨ q = 3 := by omega
        rcases hq4 with rfl | rfl | rfl | rfl
        all_goals (
          repeat (first | refine js rfl ?_ | (refine jdraw ?_ ?_; · kernel_rfl) | refine jbu rfl rfl rfl rfl ?_ | refine jo rfl rfl (index_agg rfl rfl rfl rfl rfl (by omega) (by omega) rfl) rfl rfl ?_ | refine jo rfl rfl (index_arr rfl rfl rfl rfl rfl (by omega) (by omega)) rfl rfl ?_ | refine jo rfl rfl (load_dsem rfl rfl rfl hkd) rfl rfl ?_)
        )
        all_goals try rw [hd1]
        all_goals (
          repeat (first | refine js rfl ?_ | (refine jdraw ?_ ?_; · kernel_rfl) | refine jbu rfl rfl rfl rfl ?_)
        )
        all_goals refine jb [7,8] hnl rfl rfl rfl ⟨rfl, rfl, rfl, rfl, rfl, rfl⟩ rfl rfl rfl rfl ?_
        all_goals (
          repeat (first | refine js rfl ?_ | (refine jdraw ?_ ?_; · kernel_rfl) | refine jbu rfl rfl rfl rfl ?_)
        )
        all_goals refine jnext (k + 1) (by omega) (by omega) rfl rfl rfl ?_ ?_
        all_goals first | rw [hnx] | (rw [htf]; rfl)
      · have hqk2 : q < kd.length := by omega
        have hd1 : ((q : Int) == ((ByteArray.size ⟨kd.toArray⟩ : Nat) : Int)) = false := by
          rw [show ByteArray.size ⟨kd.toArray⟩ = kd.length from rfl]; simp; omega
        obtain ⟨v, hv⟩ : ∃ v, [a, b, c][q]? = some v := ⟨_, List.getElem?_eq_getElem (by simp; omega)⟩
        have hvd : [a, b, c].getD q 0 = v := by simp [List.getD, hv]
        have hbv := hvb v (List.mem_of_getElem? hv)
        have hil := itoa_len hbv
        have hit := itoa_ok g v (by have := hbv.1; omega) (by have := hbv.2; omega)
        have hip : 0 < (Lib.itoa v).length := by
          unfold Lib.itoa
          split
          · simp
          · exact List.length_pos_iff.2 (dd_ne _)
        have hc : kd[q]? = some kd[q] := List.getElem?_eq_getElem hqk2
        have hcb := str_idx hc
        have hcc := hkc kd[q] (List.getElem_mem hqk2)
        have hs2 := hsuc hc hv
        generalize kd[q] = ch at *
        generalize hB1 : preQ B kd [a, b, c] q = B1 at *
        generalize hB2 : preQ B kd [a, b, c] (q + 1) = B2 at *
        have hw1 := wbyte_ok true B1 32 (by omega)
        have hqq : q = 0 ∨ q = 1 ∨ q = 2 := by omega
        have hokq : q + 1 ≤ 3 ∧ q + 1 ≤ kd.length := ⟨by omega, by omega⟩
        clear hnl htq
        rcases hcc with rfl | rfl | rfl
        · have hw2 := wbyte_ok true (B1 ++ [32]) 114 (by simp; omega)
          have hw3 := wstr_ok true ((B1 ++ [32]) ++ [114]) (Lib.itoa v) hip (by simp; omega)
          have hs3 : B2 = ((B1 ++ [32]) ++ [114]) ++ Lib.itoa v := by rw [hs2]; simp [pfx]
          unfold bld bldH adr at hw1 hw3 hw2
          rcases hqq with rfl | rfl | rfl
          all_goals (have hvd2 := hvd; simp only [List.getD, List.getElem?_cons_zero, List.getElem?_cons_succ, Option.getD_some] at hvd2; subst hvd2)
          all_goals (
            repeat (first | refine js rfl ?_ | (refine jdraw ?_ ?_; · kernel_rfl) | refine jbu rfl rfl rfl rfl ?_ | refine jo rfl rfl (index_agg rfl rfl rfl rfl rfl (by omega) (by omega) rfl) rfl rfl ?_ | refine jo rfl rfl (index_arr rfl rfl rfl rfl rfl (by omega) (by omega)) rfl rfl ?_ | refine jo rfl rfl (load_dsem rfl rfl rfl hkd) rfl rfl ?_)
          )
          all_goals rw [hd1]
          all_goals (
            repeat (first | refine js rfl ?_ | (refine jdraw ?_ ?_; · kernel_rfl) | refine jbu rfl rfl rfl rfl ?_)
          )
          all_goals refine jb [7,8] hw1 rfl rfl rfl ⟨rfl, rfl, rfl, rfl, rfl, rfl⟩ rfl rfl rfl rfl ?_
          all_goals (
            repeat (first | refine js rfl ?_ | (refine jdraw ?_ ?_; · kernel_rfl) | refine jbu rfl rfl rfl rfl ?_ | refine jo rfl rfl (index_arr rfl rfl rfl rfl rfl (by omega) (by omega)) rfl rfl ?_ | refine jo rfl rfl (load_dsem rfl rfl rfl hkd) rfl rfl ?_ | refine jo rfl rfl (index_str rfl rfl rfl rfl (Int.natCast_nonneg _) hcb) rfl rfl ?_)
          )
          all_goals refine jb [7,8] hw2 rfl rfl rfl ⟨rfl, rfl, rfl, rfl, rfl, rfl⟩ rfl rfl rfl rfl ?_
          all_goals (
            repeat (first | refine js rfl ?_ | (refine jdraw ?_ ?_; · kernel_rfl) | refine jbu rfl rfl rfl rfl ?_)
          )
          all_goals refine jb [0,1,2,3] hit rfl rfl rfl ⟨rfl, rfl, rfl, rfl, rfl, rfl⟩ rfl rfl rfl rfl ?_
          all_goals (
            repeat (first | refine js rfl ?_ | (refine jdraw ?_ ?_; · kernel_rfl) | refine jbu rfl rfl rfl rfl ?_)
          )
          all_goals refine jb [7,8] hw3 rfl rfl rfl ⟨rfl, rfl, rfl, rfl, rfl, rfl⟩ rfl rfl rfl rfl ?_
          all_goals (
            repeat (first | refine js rfl ?_ | (refine jdraw ?_ ?_; · kernel_rfl) | refine jbu rfl rfl rfl rfl ?_)
          )
          all_goals refine jnextI (_ + 1) hokq rfl (by rw [hB2, hs3]; rfl) (by omega)
        · have hw3 := wstr_ok true (B1 ++ [32]) (Lib.itoa v) hip (by simp; omega)
          have hs3 : B2 = (B1 ++ [32]) ++ Lib.itoa v := by rw [hs2]; simp [pfx]
          unfold bld bldH adr at hw1 hw3
          rcases hqq with rfl | rfl | rfl
          all_goals (have hvd2 := hvd; simp only [List.getD, List.getElem?_cons_zero, List.getElem?_cons_succ, Option.getD_some] at hvd2; subst hvd2)
          all_goals (
            repeat (first | refine js rfl ?_ | (refine jdraw ?_ ?_; · kernel_rfl) | refine jbu rfl rfl rfl rfl ?_ | refine jo rfl rfl (index_agg rfl rfl rfl rfl rfl (by omega) (by omega) rfl) rfl rfl ?_ | refine jo rfl rfl (index_arr rfl rfl rfl rfl rfl (by omega) (by omega)) rfl rfl ?_ | refine jo rfl rfl (load_dsem rfl rfl rfl hkd) rfl rfl ?_)
          )
          all_goals rw [hd1]
          all_goals (
            repeat (first | refine js rfl ?_ | (refine jdraw ?_ ?_; · kernel_rfl) | refine jbu rfl rfl rfl rfl ?_)
          )
          all_goals refine jb [7,8] hw1 rfl rfl rfl ⟨rfl, rfl, rfl, rfl, rfl, rfl⟩ rfl rfl rfl rfl ?_
          all_goals (
            repeat (first | refine js rfl ?_ | (refine jdraw ?_ ?_; · kernel_rfl) | refine jbu rfl rfl rfl rfl ?_ | refine jo rfl rfl (index_arr rfl rfl rfl rfl rfl (by omega) (by omega)) rfl rfl ?_ | refine jo rfl rfl (load_dsem rfl rfl rfl hkd) rfl rfl ?_ | refine jo rfl rfl (index_str rfl rfl rfl rfl (Int.natCast_nonneg _) hcb) rfl rfl ?_)
          )
          all_goals refine jb [0,1,2,3] hit rfl rfl rfl ⟨rfl, rfl, rfl, rfl, rfl, rfl⟩ rfl rfl rfl rfl ?_
          all_goals (
            repeat (first | refine js rfl ?_ | (refine jdraw ?_ ?_; · kernel_rfl) | refine jbu rfl rfl rfl rfl ?_)
          )
          all_goals refine jb [7,8] hw3 rfl rfl rfl ⟨rfl, rfl, rfl, rfl, rfl, rfl⟩ rfl rfl rfl rfl ?_
          all_goals (
            repeat (first | refine js rfl ?_ | (refine jdraw ?_ ?_; · kernel_rfl) | refine jbu rfl rfl rfl rfl ?_)
          )
          all_goals refine jnextI (_ + 1) hokq rfl (by rw [hB2, hs3]; rfl) (by omega)
        · have hw2 := wbyte_ok true (B1 ++ [32]) 108 (by simp; omega)
          have hw3 := wstr_ok true ((B1 ++ [32]) ++ [108]) (Lib.itoa v) hip (by simp; omega)
          have hs3 : B2 = ((B1 ++ [32]) ++ [108]) ++ Lib.itoa v := by rw [hs2]; simp [pfx]
          unfold bld bldH adr at hw1 hw3 hw2
          rcases hqq with rfl | rfl | rfl
          all_goals (have hvd2 := hvd; simp only [List.getD, List.getElem?_cons_zero, List.getElem?_cons_succ, Option.getD_some] at hvd2; subst hvd2)
          all_goals (
            repeat (first | refine js rfl ?_ | (refine jdraw ?_ ?_; · kernel_rfl) | refine jbu rfl rfl rfl rfl ?_ | refine jo rfl rfl (index_agg rfl rfl rfl rfl rfl (by omega) (by omega) rfl) rfl rfl ?_ | refine jo rfl rfl (index_arr rfl rfl rfl rfl rfl (by omega) (by omega)) rfl rfl ?_ | refine jo rfl rfl (load_dsem rfl rfl rfl hkd) rfl rfl ?_)
          )
          all_goals rw [hd1]
          all_goals (
            repeat (first | refine js rfl ?_ | (refine jdraw ?_ ?_; · kernel_rfl) | refine jbu rfl rfl rfl rfl ?_)
          )
          all_goals refine jb [7,8] hw1 rfl rfl rfl ⟨rfl, rfl, rfl, rfl, rfl, rfl⟩ rfl rfl rfl rfl ?_
          all_goals (
            repeat (first | refine js rfl ?_ | (refine jdraw ?_ ?_; · kernel_rfl) | refine jbu rfl rfl rfl rfl ?_ | refine jo rfl rfl (index_arr rfl rfl rfl rfl rfl (by omega) (by omega)) rfl rfl ?_ | refine jo rfl rfl (load_dsem rfl rfl rfl hkd) rfl rfl ?_ | refine jo rfl rfl (index_str rfl rfl rfl rfl (Int.natCast_nonneg _) hcb) rfl rfl ?_)
          )
          all_goals refine jb [7,8] hw2 rfl rfl rfl ⟨rfl, rfl, rfl, rfl, rfl, rfl⟩ rfl rfl rfl rfl ?_
          all_goals (
            repeat (first | refine js rfl ?_ | (refine jdraw ?_ ?_; · kernel_rfl) | refine jbu rfl rfl rfl rfl ?_)
          )
          all_goals refine jb [0,1,2,3] hit rfl rfl rfl ⟨rfl, rfl, rfl, rfl, rfl, rfl⟩ rfl rfl rfl rfl ?_
          all_goals (
            repeat (first | refine js rfl ?_ | (refine jdraw ?_ ?_; · kernel_rfl) | refine jbu rfl rfl rfl rfl ?_)
          )
          all_goals refine jb [7,8] hw3 rfl rfl rfl ⟨rfl, rfl, rfl, rfl, rfl, rfl⟩ rfl rfl rfl rfl ?_
          all_goals (
            repeat (first | refine js rfl ?_ | (refine jdraw ?_ ?_; · kernel_rfl) | refine jbu rfl rfl rfl rfl ?_)
          )
          all_goals refine jnextI (_ + 1) hokq rfl (by rw [hB2, hs3]; rfl) (by omega)
    | false =>
      cases u' with
      | true =>
        have hwb := hwn true
        repeat (first | refine js rfl ?_ | (refine jdraw ?_ ?_; · kernel_rfl) | refine jbu rfl rfl rfl rfl ?_ | refine jo rfl rfl (index_at rfl rfl rfl rfl rfl rfl rfl rfl (Int.natCast_nonneg k) h) rfl rfl ?_)
        rw [hat]
        refine jb [0,1,2,3,4,5,7,8] hlab rfl rfl rfl ⟨rfl, rfl, rfl, rfl, rfl, rfl⟩ rfl rfl rfl rfl ?_
        repeat (first | refine js rfl ?_ | (refine jdraw ?_ ?_; · kernel_rfl) | refine jbu rfl rfl rfl rfl ?_ | refine jo rfl rfl (index_arr rfl rfl rfl rfl rfl (by omega) (by omega)) rfl rfl ?_ | refine jo rfl rfl (readP_dsem rfl) rfl rfl ?_ | refine jo rfl rfl (load_dsem rfl rfl rfl hnm) rfl rfl ?_)
        refine jb [7,8] hwb rfl rfl rfl ⟨rfl, rfl, rfl, rfl, rfl, rfl⟩ rfl rfl rfl rfl ?_
        repeat (first | refine js rfl ?_ | (refine jdraw ?_ ?_; · kernel_rfl) | refine jbu rfl rfl rfl rfl ?_ | refine jv hopn rfl rfl rfl rfl rfl ?_)
        refine jloopI (fun q : Nat => q ≤ 3 ∧ q ≤ kd.length) [9, 36, 37, 5, 6, 7, 19, 20, 21, 0] (fun q => [.ptr 9 0, .agg [iv a, iv b, iv c], iv q, .ptr 6 0, .ptr 7 0, .fn (.func 33) [] [.ptr 5 0, .ptr 7 0], .sl (l.map encIns), .v (.int .i64 ((l.map encIns).length : Int)), .v (.int .i64 (k : Int)), .sl (l.map encIns)])
          (fun q => gls g ++ [.vmap (encN m), .box 56 [.mp 4], .box 60 opsC] ++ bldAt 7 true (preQ B kd [a, b, c] q) ++ [.box 31 [iv (o : Int), iv a, iv b, iv c]]) (fun q => 3 - q) 0 ⟨by omega, by omega⟩ rfl (by simp [preQ]; rfl) (fun q hq => ?_)
        obtain ⟨hq3, hqk⟩ := hq
        have hql := hpl q hq3
        have hnl := wbyte_ok true (preQ B kd [a, b, c] q) 10 (by omega)
        unfold bld bldH adr at hnl
        have htq := htx2 q
        unfold bldAt
        by_cases hend : q = kd.length
        · have hd1 : ((q : Int) == ((ByteArray.size ⟨kd.toArray⟩ : Nat) : Int)) = true := by rw [show ByteArray.size ⟨kd.toArray⟩ = kd.length from rfl, hend]; simp
          have htf := htq (by omega)
          clear htq
          generalize preQ B kd [a, b, c] q = B1 at *
          have hq4 : q = 0 ∨ q = 1 ∨ q = 2 ∨ q = 3 := by omega
          rcases hq4 with rfl | rfl | rfl | rfl
          all_goals (
            repeat (first | refine js rfl ?_ | (refine jdraw ?_ ?_; · kernel_rfl) | refine jbu rfl rfl rfl rfl ?_ | refine jo rfl rfl (index_agg rfl rfl rfl rfl rfl (by omega) (by omega) rfl) rfl rfl ?_ | refine jo rfl rfl (index_arr rfl rfl rfl rfl rfl (by omega) (by omega)) rfl rfl ?_ | refine jo rfl rfl (load_dsem rfl rfl rfl hkd) rfl rfl ?_)
          )
          all_goals try rw [hd1]
          all_goals (
            repeat (first | refine js rfl ?_ | (refine jdraw ?_ ?_; · kernel_rfl) | refine jbu rfl rfl rfl rfl ?_)
          )
          all_goals refine jb [7,8] hnl rfl rfl rfl ⟨rfl, rfl, rfl, rfl, rfl, rfl⟩ rfl rfl rfl rfl ?_
          all_goals (
            repeat (first | refine js rfl ?_ | (refine jdraw ?_ ?_; · kernel_rfl) | refine jbu rfl rfl rfl rfl ?_)
          )
          all_goals refine jnext (k + 1) (by omega) (by omega) rfl rfl rfl ?_ ?_
          all_goals first | rw [hnx] | (rw [htf]; rfl)
        · have hqk2 : q < kd.length := by omega
          have hd1 : ((q : Int) == ((ByteArray.size ⟨kd.toArray⟩ : Nat) : Int)) = false := by
            rw [show ByteArray.size ⟨kd.toArray⟩ = kd.length from rfl]; simp; omega
          obtain ⟨v, hv⟩ : ∃ v, [a, b, c][q]? = some v := ⟨_, List.getElem?_eq_getElem (by simp; omega)⟩
          have hvd : [a, b, c].getD q 0 = v := by simp [List.getD, hv]
          have hbv := hvb v (List.mem_of_getElem? hv)
          have hil := itoa_len hbv
          have hit := itoa_ok g v (by have := hbv.1; omega) (by have := hbv.2; omega)
          have hip : 0 < (Lib.itoa v).length := by
            unfold Lib.itoa
            split
            · simp
            · exact List.length_pos_iff.2 (dd_ne _)
          have hc : kd[q]? = some kd[q] := List.getElem?_eq_getElem hqk2
          have hcb := str_idx hc
          have hcc := hkc kd[q] (List.getElem_mem hqk2)
          have hs2 := hsuc hc hv
          generalize kd[q] = ch at *
          generalize hB1 : preQ B kd [a, b, c] q = B1 at *
          generalize hB2 : preQ B kd [a, b, c] (q + 1) = B2 at *
          have hw1 := wbyte_ok true B1 32 (by omega)
          have hqq : q = 0 ∨ q = 1 ∨ q = 2 := by omega
          have hokq : q + 1 ≤ 3 ∧ q + 1 ≤ kd.length := ⟨by omega, by omega⟩
          clear hnl htq
          rcases hcc with rfl | rfl | rfl
          · have hw2 := wbyte_ok true (B1 ++ [32]) 114 (by simp; omega)
            have hw3 := wstr_ok true ((B1 ++ [32]) ++ [114]) (Lib.itoa v) hip (by simp; omega)
            have hs3 : B2 = ((B1 ++ [32]) ++ [114]) ++ Lib.itoa v := by rw [hs2]; simp [pfx]
            unfold bld bldH adr at hw1 hw3 hw2
            rcases hqq with rfl | rfl | rfl
            all_goals (have hvd2 := hvd; simp only [List.getD, List.getElem?_cons_zero, List.getElem?_cons_succ, Option.getD_some] at hvd2; subst hvd2)
            all_goals (
              repeat (first | refine js rfl ?_ | (refine jdraw ?_ ?_; · kernel_rfl) | refine jbu rfl rfl rfl rfl ?_ | refine jo rfl rfl (index_agg rfl rfl rfl rfl rfl (by omega) (by omega) rfl) rfl rfl ?_ | refine jo rfl rfl (index_arr rfl rfl rfl rfl rfl (by omega) (by omega)) rfl rfl ?_ | refine jo rfl rfl (load_dsem rfl rfl rfl hkd) rfl rfl ?_)
            )
            all_goals rw [hd1]
            all_goals (
              repeat (first | refine js rfl ?_ | (refine jdraw ?_ ?_; · kernel_rfl) | refine jbu rfl rfl rfl rfl ?_)
            )
            all_goals refine jb [7,8] hw1 rfl rfl rfl ⟨rfl, rfl, rfl, rfl, rfl, rfl⟩ rfl rfl rfl rfl ?_
            all_goals (
              repeat (first | refine js rfl ?_ | (refine jdraw ?_ ?_; · kernel_rfl) | refine jbu rfl rfl rfl rfl ?_ | refine jo rfl rfl (index_arr rfl rfl rfl rfl rfl (by omega) (by omega)) rfl rfl ?_ | refine jo rfl rfl (load_dsem rfl rfl rfl hkd) rfl rfl ?_ | refine jo rfl rfl (index_str rfl rfl rfl rfl (Int.natCast_nonneg _) hcb) rfl rfl ?_)
            )
            all_goals refine jb [7,8] hw2 rfl rfl rfl ⟨rfl, rfl, rfl, rfl, rfl, rfl⟩ rfl rfl rfl rfl ?_
            all_goals (
              repeat (first | refine js rfl ?_ | (refine jdraw ?_ ?_; · kernel_rfl) | refine jbu rfl rfl rfl rfl ?_)
            )
            all_goals refine jb [0,1,2,3] hit rfl rfl rfl ⟨rfl, rfl, rfl, rfl, rfl, rfl⟩ rfl rfl rfl rfl ?_
            all_goals (
              repeat (first | refine js rfl ?_ | (refine jdraw ?_ ?_; · kernel_rfl) | refine jbu rfl rfl rfl rfl ?_)
            )
            all_goals refine jb [7,8] hw3 rfl rfl rfl ⟨rfl, rfl, rfl, rfl, rfl, rfl⟩ rfl rfl rfl rfl ?_
            all_goals (
              repeat (first | refine js rfl ?_ | (refine jdraw ?_ ?_; · kernel_rfl) | refine jbu rfl rfl rfl rfl ?_)
            )
            all_goals refine jnextI (_ + 1) hokq rfl (by rw [hB2, hs3]; rfl) (by omega)
          · have hw3 := wstr_ok true (B1 ++ [32]) (Lib.itoa v) hip (by simp; omega)
            have hs3 : B2 = (B1 ++ [32]) ++ Lib.itoa v := by rw [hs2]; simp [pfx]
            unfold bld bldH adr at hw1 hw3
            rcases hqq with rfl | rfl | rfl
            all_goals (have hvd2 := hvd; simp only [List.getD, List.getElem?_cons_zero, List.getElem?_cons_succ, Option.getD_some] at hvd2; subst hvd2)
            all_goals (
              repeat (first | refine js rfl ?_ | (refine jdraw ?_ ?_; · kernel_rfl) | refine jbu rfl rfl rfl rfl ?_ | refine jo rfl rfl (index_agg rfl rfl rfl rfl rfl (by omega) (by omega) rfl) rfl rfl ?_ | refine jo rfl rfl (index_arr rfl rfl rfl rfl rfl (by omega) (by omega)) rfl rfl ?_ | refine jo rfl rfl (load_dsem rfl rfl rfl hkd) rfl rfl ?_)
            )
            all_goals rw [hd1]
            all_goals (
              repeat (first | refine js rfl ?_ | (refine jdraw ?_ ?_; · kernel_rfl) | refine jbu rfl rfl rfl rfl ?_)
            )
            all_goals refine jb [7,8] hw1 rfl rfl rfl ⟨rfl, rfl, rfl, rfl, rfl, rfl⟩ rfl rfl rfl rfl ?_
            all_goals (
              repeat (first | refine js rfl ?_ | (refine jdraw ?_ ?_; · kernel_rfl) | refine jbu rfl rfl rfl rfl ?_ | refine jo rfl rfl (index_arr rfl rfl rfl rfl rfl (by omega) (by omega)) rfl rfl ?_ | refine jo rfl rfl (load_dsem rfl rfl rfl hkd) rfl rfl ?_ | refine jo rfl rfl (index_str rfl rfl rfl rfl (Int.natCast_nonneg _) hcb) rfl rfl ?_)
            )
            all_goals refine jb [0,1,2,3] hit rfl rfl rfl ⟨rfl, rfl, rfl, rfl, rfl, rfl⟩ rfl rfl rfl rfl ?_
            all_goals (
              repeat (first | refine js rfl ?_ | (refine jdraw ?_ ?_; · kernel_rfl) | refine jbu rfl rfl rfl rfl ?_)
            )
            all_goals refine jb [7,8] hw3 rfl rfl rfl ⟨rfl, rfl, rfl, rfl, rfl, rfl⟩ rfl rfl rfl rfl ?_
            all_goals (
              repeat (first | refine js rfl ?_ | (refine jdraw ?_ ?_; · kernel_rfl) | refine jbu rfl rfl rfl rfl ?_)
            )
            all_goals refine jnextI (_ + 1) hokq rfl (by rw [hB2, hs3]; rfl) (by omega)
          · have hw2 := wbyte_ok true (B1 ++ [32]) 108 (by simp; omega)
            have hw3 := wstr_ok true ((B1 ++ [32]) ++ [108]) (Lib.itoa v) hip (by simp; omega)
            have hs3 : B2 = ((B1 ++ [32]) ++ [108]) ++ Lib.itoa v := by rw [hs2]; simp [pfx]
            unfold bld bldH adr at hw1 hw3 hw2
            rcases hqq with rfl | rfl | rfl
            all_goals (have hvd2 := hvd; simp only [List.getD, List.getElem?_cons_zero, List.getElem?_cons_succ, Option.getD_some] at hvd2; subst hvd2)
            all_goals (
              repeat (first | refine js rfl ?_ | (refine jdraw ?_ ?_; · kernel_rfl) | refine jbu rfl rfl rfl rfl ?_ | refine jo rfl rfl (index_agg rfl rfl rfl rfl rfl (by omega) (by omega) rfl) rfl rfl ?_ | refine jo rfl rfl (index_arr rfl rfl rfl rfl rfl (by omega) (by omega)) rfl rfl ?_ | refine jo rfl rfl (load_dsem rfl rfl rfl hkd) rfl rfl ?_)
            )
            all_goals rw [hd1]
            all_goals (
              repeat (first | refine js rfl ?_ | (refine jdraw ?_ ?_; · kernel_rfl) | refine jbu rfl rfl rfl rfl ?_)
            )
            all_goals refine jb [7,8] hw1 rfl rfl rfl ⟨rfl, rfl, rfl, rfl, rfl, rfl⟩ rfl rfl rfl rfl ?_
            all_goals (
              repeat (first | refine js rfl ?_ | (refine jdraw ?_ ?_; · kernel_rfl) | refine jbu rfl rfl rfl rfl ?_ | refine jo rfl rfl (index_arr rfl rfl rfl rfl rfl (by omega) (by omega)) rfl rfl ?_ | refine jo rfl rfl (load_dsem rfl rfl rfl hkd) rfl rfl ?_ | refine jo rfl rfl (index_str rfl rfl rfl rfl (Int.natCast_nonneg _) hcb) rfl rfl ?_)
            )
            all_goals refine jb [7,8] hw2 rfl rfl rfl ⟨rfl, rfl, rfl, rfl, rfl, rfl⟩ rfl rfl rfl rfl ?_
            all_goals (
              repeat (first | refine js rfl ?_ | (refine jdraw ?_ ?_; · kernel_rfl) | refine jbu rfl rfl rfl rfl ?_)
            )
            all_goals refine jb [0,1,2,3] hit rfl rfl rfl ⟨rfl, rfl, rfl, rfl, rfl, rfl⟩ rfl rfl rfl rfl ?_
            all_goals (
              repeat (first | refine js rfl ?_ | (refine jdraw ?_ ?_; · kernel_rfl) | refine jbu rfl rfl rfl rfl ?_)
            )
            all_goals refine jb [7,8] hw3 rfl rfl rfl ⟨rfl, rfl, rfl, rfl, rfl, rfl⟩ rfl rfl rfl rfl ?_
            all_goals (
              repeat (first | refine js rfl ?_ | (refine jdraw ?_ ?_; · kernel_rfl) | refine jbu rfl rfl rfl rfl ?_)
            )
            all_goals refine jnextI (_ + 1) hokq rfl (by rw [hB2, hs3]; rfl) (by omega)
      | false =>
        have hwb := hwn false
        repeat (first | refine js rfl ?_ | (refine jdraw ?_ ?_; · kernel_rfl) | refine jbu rfl rfl rfl rfl ?_ | refine jo rfl rfl (index_at rfl rfl rfl rfl rfl rfl rfl rfl (Int.natCast_nonneg k) h) rfl rfl ?_)
        rw [hat]
        refine jb [0,1,2,3,4,5,7,8] hlab rfl rfl rfl ⟨rfl, rfl, rfl, rfl, rfl, rfl⟩ rfl rfl rfl rfl ?_
        repeat (first | refine js rfl ?_ | (refine jdraw ?_ ?_; · kernel_rfl) | refine jbu rfl rfl rfl rfl ?_ | refine jo rfl rfl (index_arr rfl rfl rfl rfl rfl (by omega) (by omega)) rfl rfl ?_ | refine jo rfl rfl (readP_dsem rfl) rfl rfl ?_ | refine jo rfl rfl (load_dsem rfl rfl rfl hnm) rfl rfl ?_)
        refine jb [7,8] hwb rfl rfl rfl ⟨rfl, rfl, rfl, rfl, rfl, rfl⟩ rfl rfl rfl rfl ?_
        repeat (first | refine js rfl ?_ | (refine jdraw ?_ ?_; · kernel_rfl) | refine jbu rfl rfl rfl rfl ?_ | refine jv hopn rfl rfl rfl rfl rfl ?_)
        refine jloopI (fun q : Nat => q ≤ 3 ∧ q ≤ kd.length) [9, 36, 37, 5, 6, 7, 19, 20, 21, 0] (fun q => [.ptr 9 0, .agg [iv a, iv b, iv c], iv q, .ptr 6 0, .ptr 7 0, .fn (.func 33) [] [.ptr 5 0, .ptr 7 0], .sl (l.map encIns), .v (.int .i64 ((l.map encIns).length : Int)), .v (.int .i64 (k : Int)), .sl (l.map encIns)])
          (fun q => gls g ++ [.vmap (encN m), .box 56 [.mp 4], .box 60 opsC] ++ bldAt 7 true (preQ B kd [a, b, c] q) ++ [.box 31 [iv (o : Int), iv a, iv b, iv c]]) (fun q => 3 - q) 0 ⟨by omega, by omega⟩ rfl (by simp [preQ]; rfl) (fun q hq => ?_)
        obtain ⟨hq3, hqk⟩ := hq
        have hql := hpl q hq3
        have hnl := wbyte_ok true (preQ B kd [a, b, c] q) 10 (by omega)
        unfold bld bldH adr at hnl
        have htq := htx2 q
        unfold bldAt
        by_cases hend : q = kd.length
        · have hd1 : ((q : Int) == ((ByteArray.size ⟨kd.toArray⟩ : Nat) : Int)) = true := by rw [show ByteArray.size ⟨kd.toArray⟩ = kd.length from rfl, hend]; simp
          have htf := htq (by omega)
          clear htq
          generalize preQ B kd [a, b, c] q = B1 at *
          have hq4 : q = 0 ∨ q = 1 ∨ q = 2 ∨ q = 3 := by omega
          rcases hq4 with rfl | rfl | rfl | rfl
          all_goals (
            repeat (first | refine js rfl ?_ | (refine jdraw ?_ ?_; · kernel_rfl) | refine jbu rfl rfl rfl rfl ?_ | refine jo rfl rfl (index_agg rfl rfl rfl rfl rfl (by omega) (by omega) rfl) rfl rfl ?_ | refine jo rfl rfl (index_arr rfl rfl rfl rfl rfl (by omega) (by omega)) rfl rfl ?_ | refine jo rfl rfl (load_dsem rfl rfl rfl hkd) rfl rfl ?_)
          )
          all_goals try rw [hd1]
          all_goals (
            repeat (first | refine js rfl ?_ | (refine jdraw ?_ ?_; · kernel_rfl) | refine jbu rfl rfl rfl rfl ?_)
          )
          all_goals refine jb [7,8] hnl rfl rfl rfl ⟨rfl, rfl, rfl, rfl, rfl, rfl⟩ rfl rfl rfl rfl ?_
          all_goals (
            repeat (first | refine js rfl ?_ | (refine jdraw ?_ ?_; · kernel_rfl) | refine jbu rfl rfl rfl rfl ?_)
          )
          all_goals refine jnext (k + 1) (by omega) (by omega) rfl rfl rfl ?_ ?_
          all_goals first | rw [hnx] | (rw [htf]; rfl)
        · have hqk2 : q < kd.length := by omega
          have hd1 : ((q : Int) == ((ByteArray.size ⟨kd.toArray⟩ : Nat) : Int)) = false := by
            rw [show ByteArray.size ⟨kd.toArray⟩ = kd.length from rfl]; simp; omega
          obtain ⟨v, hv⟩ : ∃ v, [a, b, c][q]? = some v := ⟨_, List.getElem?_eq_getElem (by simp; omega)⟩
          have hvd : [a, b, c].getD q 0 = v := by simp [List.getD, hv]
          have hbv := hvb v (List.mem_of_getElem? hv)
          have hil := itoa_len hbv
          have hit := itoa_ok g v (by have := hbv.1; omega) (by have := hbv.2; omega)
          have hip : 0 < (Lib.itoa v).length := by
            unfold Lib.itoa
            split
            · simp
            · exact List.length_pos_iff.2 (dd_ne _)
          have hc : kd[q]? = some kd[q] := List.getElem?_eq_getElem hqk2
          have hcb := str_idx hc
          have hcc := hkc kd[q] (List.getElem_mem hqk2)
          have hs2 := hsuc hc hv
          generalize kd[q] = ch at *
          generalize hB1 : preQ B kd [a, b, c] q = B1 at *
          generalize hB2 : preQ B kd [a, b, c] (q + 1) = B2 at *
          have hw1 := wbyte_ok true B1 32 (by omega)
          have hqq : q = 0 ∨ q = 1 ∨ q = 2 := by omega
          have hokq : q + 1 ≤ 3 ∧ q + 1 ≤ kd.length := ⟨by omega, by omega⟩
          clear hnl htq
          rcases hcc with rfl | rfl | rfl
          · have hw2 := wbyte_ok true (B1 ++ [32]) 114 (by simp; omega)
            have hw3 := wstr_ok true ((B1 ++ [32]) ++ [114]) (Lib.itoa v) hip (by simp; omega)
            have hs3 : B2 = ((B1 ++ [32]) ++ [114]) ++ Lib.itoa v := by rw [hs2]; simp [pfx]
            unfold bld bldH adr at hw1 hw3 hw2
            rcases hqq with rfl | rfl | rfl
            all_goals (have hvd2 := hvd; simp only [List.getD, List.getElem?_cons_zero, List.getElem?_cons_succ, Option.getD_some] at hvd2; subst hvd2)
            all_goals (
              repeat (first | refine js rfl ?_ | (refine jdraw ?_ ?_; · kernel_rfl) | refine jbu rfl rfl rfl rfl ?_ | refine jo rfl rfl (index_agg rfl rfl rfl rfl rfl (by omega) (by omega) rfl) rfl rfl ?_ | refine jo rfl rfl (index_arr rfl rfl rfl rfl rfl (by omega) (by omega)) rfl rfl ?_ | refine jo rfl rfl (load_dsem rfl rfl rfl hkd) rfl rfl ?_)
            )
            all_goals rw [hd1]
            all_goals (
              repeat (first | refine js rfl ?_ | (refine jdraw ?_ ?_; · kernel_rfl) | refine jbu rfl rfl rfl rfl ?_)
            )
            all_goals refine jb [7,8] hw1 rfl rfl rfl ⟨rfl, rfl, rfl, rfl, rfl, rfl⟩ rfl rfl rfl rfl ?_
            all_goals (
              repeat (first | refine js rfl ?_ | (refine jdraw ?_ ?_; · kernel_rfl) | refine jbu rfl rfl rfl rfl ?_ | refine jo rfl rfl (index_arr rfl rfl rfl rfl rfl (by omega) (by omega)) rfl rfl ?_ | refine jo rfl rfl (load_dsem rfl rfl rfl hkd) rfl rfl ?_ | refine jo rfl rfl (index_str rfl rfl rfl rfl (Int.natCast_nonneg _) hcb) rfl rfl ?_)
            )
            all_goals refine jb [7,8] hw2 rfl rfl rfl ⟨rfl, rfl, rfl, rfl, rfl, rfl⟩ rfl rfl rfl rfl ?_
            all_goals (
              repeat (first | refine js rfl ?_ | (refine jdraw ?_ ?_; · kernel_rfl) | refine jbu rfl rfl rfl rfl ?_)
            )
            all_goals refine jb [0,1,2,3] hit rfl rfl rfl ⟨rfl, rfl, rfl, rfl, rfl, rfl⟩ rfl rfl rfl rfl ?_
            all_goals (
              repeat (first | refine js rfl ?_ | (refine jdraw ?_ ?_; · kernel_rfl) | refine jbu rfl rfl rfl rfl ?_)
            )
            all_goals refine jb [7,8] hw3 rfl rfl rfl ⟨rfl, rfl, rfl, rfl, rfl, rfl⟩ rfl rfl rfl rfl ?_
            all_goals (
              repeat (first | refine js rfl ?_ | (refine jdraw ?_ ?_; · kernel_rfl) | refine jbu rfl rfl rfl rfl ?_)
            )
            all_goals refine jnextI (_ + 1) hokq rfl (by rw [hB2, hs3]; rfl) (by omega)
          · have hw3 := wstr_ok true (B1 ++ [32]) (Lib.itoa v) hip (by simp; omega)
            have hs3 : B2 = (B1 ++ [32]) ++ Lib.itoa v := by rw [hs2]; simp [pfx]
            unfold bld bldH adr at hw1 hw3
            rcases hqq with rfl | rfl | rfl
            all_goals (have hvd2 := hvd; simp only [List.getD, List.getElem?_cons_zero, List.getElem?_cons_succ, Option.getD_some] at hvd2; subst hvd2)
            all_goals (
              repeat (first | refine js rfl ?_ | (refine jdraw ?_ ?_; · kernel_rfl) | refine jbu rfl rfl rfl rfl ?_ | refine jo rfl rfl (index_agg rfl rfl rfl rfl rfl (by omega) (by omega) rfl) rfl rfl ?_ | refine jo rfl rfl (index_arr rfl rfl rfl rfl rfl (by omega) (by omega)) rfl rfl ?_ | refine jo rfl rfl (load_dsem rfl rfl rfl hkd) rfl rfl ?_)
            )
            all_goals rw [hd1]
            all_goals (
              repeat (first | refine js rfl ?_ | (refine jdraw ?_ ?_; · kernel_rfl) | refine jbu rfl rfl rfl rfl ?_)
            )
            all_goals refine jb [7,8] hw1 rfl rfl rfl ⟨rfl, rfl, rfl, rfl, rfl, rfl⟩ rfl rfl rfl rfl ?_
            all_goals (
              repeat (first | refine js rfl ?_ | (refine jdraw ?_ ?_; · kernel_rfl) | refine jbu rfl rfl rfl rfl ?_ | refine jo rfl rfl (index_arr rfl rfl rfl rfl rfl (by omega) (by omega)) rfl rfl ?_ | refine jo rfl rfl (load_dsem rfl rfl rfl hkd) rfl rfl ?_ | refine jo rfl rfl (index_str rfl rfl rfl rfl (Int.natCast_nonneg _) hcb) rfl rfl ?_)
            )
            all_goals refine jb [0,1,2,3] hit rfl rfl rfl ⟨rfl, rfl, rfl, rfl, rfl, rfl⟩ rfl rfl rfl rfl ?_
            all_goals (
              repeat (first | refine js rfl ?_ | (refine jdraw ?_ ?_; · kernel_rfl) | refine jbu rfl rfl rfl rfl ?_)
            )
            all_goals refine jb [7,8] hw3 rfl rfl rfl ⟨rfl, rfl, rfl, rfl, rfl, rfl⟩ rfl rfl rfl rfl ?_
            all_goals (
              repeat (first | refine js rfl ?_ | (refine jdraw ?_ ?_; · kernel_rfl) | refine jbu rfl rfl rfl rfl ?_)
            )
            all_goals refine jnextI (_ + 1) hokq rfl (by rw [hB2, hs3]; rfl) (by omega)
          · have hw2 := wbyte_ok true (B1 ++ [32]) 108 (by simp; omega)
            have hw3 := wstr_ok true ((B1 ++ [32]) ++ [108]) (Lib.itoa v) hip (by simp; omega)
            have hs3 : B2 = ((B1 ++ [32]) ++ [108]) ++ Lib.itoa v := by rw [hs2]; simp [pfx]
            unfold bld bldH adr at hw1 hw3 hw2
            rcases hqq with rfl | rfl | rfl
            all_goals (have hvd2 := hvd; simp only [List.getD, List.getElem?_cons_zero, List.getElem?_cons_succ, Option.getD_some] at hvd2; subst hvd2)
            all_goals (
              repeat (first | refine js rfl ?_ | (refine jdraw ?_ ?_; · kernel_rfl) | refine jbu rfl rfl rfl rfl ?_ | refine jo rfl rfl (index_agg rfl rfl rfl rfl rfl (by omega) (by omega) rfl) rfl rfl ?_ | refine jo rfl rfl (index_arr rfl rfl rfl rfl rfl (by omega) (by omega)) rfl rfl ?_ | refine jo rfl rfl (load_dsem rfl rfl rfl hkd) rfl rfl ?_)
            )
            all_goals rw [hd1]
            all_goals (
              repeat (first | refine js rfl ?_ | (refine jdraw ?_ ?_; · kernel_rfl) | refine jbu rfl rfl rfl rfl ?_)
            )
            all_goals refine jb [7,8] hw1 rfl rfl rfl ⟨rfl, rfl, rfl, rfl, rfl, rfl⟩ rfl rfl rfl rfl ?_
            all_goals (
              repeat (first | refine js rfl ?_ | (refine jdraw ?_ ?_; · kernel_rfl) | refine jbu rfl rfl rfl rfl ?_ | refine jo rfl rfl (index_arr rfl rfl rfl rfl rfl (by omega) (by omega)) rfl rfl ?_ | refine jo rfl rfl (load_dsem rfl rfl rfl hkd) rfl rfl ?_ | refine jo rfl rfl (index_str rfl rfl rfl rfl (Int.natCast_nonneg _) hcb) rfl rfl ?_)
            )
            all_goals refine jb [7,8] hw2 rfl rfl rfl ⟨rfl, rfl, rfl, rfl, rfl, rfl⟩ rfl rfl rfl rfl ?_
            all_goals (
              repeat (first | refine js rfl ?_ | (refine jdraw ?_ ?_; · kernel_rfl) | refine jbu rfl rfl rfl rfl ?_)
            )
            all_goals refine jb [0,1,2,3] hit rfl rfl rfl ⟨rfl, rfl, rfl, rfl, rfl, rfl⟩ rfl rfl rfl rfl ?_
            all_goals (
              repeat (first | refine js rfl ?_ | (refine jdraw ?_ ?_; · kernel_rfl) | refine jbu rfl rfl rfl rfl ?_)
            )
            all_goals refine jb [7,8] hw3 rfl rfl rfl ⟨rfl, rfl, rfl, rfl, rfl, rfl⟩ rfl rfl rfl rfl ?_
            all_goals (
              repeat (first | refine js rfl ?_ | (refine jdraw ?_ ?_; · kernel_rfl) | refine jbu rfl rfl rfl rfl ?_)
            )
            all_goals refine jnextI (_ + 1) hokq rfl (by rw [hB2, hs3]; rfl) (by omega)
  · have h := of_decide_eq_false h
    rw [List.length_map] at h
    have hk2 : k = l.length := by omega
    subst hk2
    have hlab := label_ok g m (l.length : Int) true (txt l l.length) (by omega) (by omega) (by have := htl l.length (Nat.le_refl _); omega)
    rw [hisT, ← rprint_txt, Bool.true_or] at hlab
    have hlm : (l.map encIns).length = l.length := List.length_map _
    have hlab : ACalls Tryd.prog 33 [iv ((l.map encIns).length : Int), .ptr 5 0, .ptr 6 0] (lH g m true (txt l l.length)) (one (.tup []) (lH g m true (rprint l))) := by rw [hlm]; exact hlab
    have hrp : rprint l ≠ [] := by
      have hz : (txt l l.length).length ≠ 0 := by
        obtain ⟨k, hk⟩ : ∃ k, l.length = k + 1 := ⟨l.length - 1, by omega⟩
        rw [hk, txt_succ]; simp
      rw [rprint_txt]
      intro e
      rw [List.append_eq_nil_iff] at e
      rw [e.1] at hz
      exact hz rfl
    have hrl : (rprint l).length ≤ 59014 := by
      have h1 := htl l.length (Nat.le_refl _)
      have h2 := labB_len (isT l l.length) (l.length : Int) ⟨by omega, by omega⟩
      rw [rprint_txt, List.length_append]; omega
    have hst := str_ok true (rprint l) hrp (by omega)
    rw [decide_eq_true hpos]
    unfold lH bldAt at hlab
    unfold bldAt
    unfold bld bldH adr at hst
    simp only [cond_true] at *
    repeat (first | refine js rfl ?_ | (refine jdraw ?_ ?_; · kernel_rfl) | refine jbu rfl rfl rfl rfl ?_)
    refine jb [0,1,2,3,4,5,7,8] hlab rfl rfl rfl ⟨rfl, rfl, rfl, rfl, rfl, rfl⟩ rfl rfl rfl rfl ?_
    repeat (first | refine js rfl ?_ | (refine jdraw ?_ ?_; · kernel_rfl) | refine jbu rfl rfl rfl rfl ?_)
    refine jb [7,8] hst rfl rfl rfl ⟨rfl, rfl, rfl, rfl, rfl, rfl⟩ rfl rfl rfl rfl ?_
    repeat (first | refine js rfl ?_ | (refine jdraw ?_ ?_; · kernel_rfl) | refine jbu rfl rfl rfl rfl ?_)
    exact jr rfl rfl rfl rfl
end Go.AL
