/-
  The reference's words on operations. No conditions.
-/
import Derived.Test.YtaoiflliakjhdaaDoorV5
set_option linter.unusedVariables false
set_option linter.unusedSimpArgs false
set_option maxRecDepth 100000
namespace Go.AL
open Go Go.Proofs
attribute [local irreducible] J

def opN : List Bs := opsT.map (·.1)
def opK : List Bs := opsT.map (·.2)
theorem opName_ok (k : Nat) (hk : k < 27) : ACalls Tryd.prog 46 [iv k] [] (one (sv (at' opN (k : Int))) []) := by
  have e1 : decide ((k : Int) < 0) = false := decide_eq_false (by omega)
  have e2 : decide ((k : Int) ≥ ((27 : Nat) : Int)) = false := decide_eq_false (by omega)
  have h0 : (0 : Int) ≤ (k : Int) := by omega
  have h1 : (k : Int) < ((opN.length : Nat) : Int) := by show (k : Int) < ((27 : Nat) : Int); omega
  refine jcalls Tryd.func46 rfl (by kernel_rfl) Tryd.ntmps46 rfl rfl (fun w0 β0 ext hβ => ?_)
  repeat (first | refine js rfl ?_ | (refine jdraw ?_ ?_; · kernel_rfl) | refine jbu rfl rfl rfl rfl ?_)
  rw [e1]
  repeat (first | refine js rfl ?_ | (refine jdraw ?_ ?_; · kernel_rfl) | refine jbu rfl rfl rfl rfl ?_)
  refine jre 12 (.v (.bool false)) rfl rfl (congrArg (fun b => AVal.v (.bool b)) e2) ?_
  refine jre 3 (.slf (opN.map sv)) rfl rfl rfl ?_
  repeat (first | refine js rfl ?_ | (refine jdraw ?_ ?_; · kernel_rfl) | refine jbu rfl rfl rfl rfl ?_ | refine jo rfl rfl (index_at rfl rfl rfl rfl rfl rfl rfl rfl h0 h1) rfl rfl ?_)
  exact jr rfl rfl rfl rfl
theorem opKind_ok (k : Nat) (hk : k < 27) : ACalls Tryd.prog 47 [iv k] [] (one (sv (at' opK (k : Int))) []) := by
  have h0 : (0 : Int) ≤ (k : Int) := by omega
  have h1 : (k : Int) < ((opK.length : Nat) : Int) := by show (k : Int) < ((27 : Nat) : Int); omega
  refine jcalls Tryd.func47 rfl (by kernel_rfl) Tryd.ntmps47 rfl rfl (fun w0 β0 ext hβ => ?_)
  repeat (first | refine js rfl ?_ | (refine jdraw ?_ ?_; · kernel_rfl) | refine jbu rfl rfl rfl rfl ?_)
  refine jre 5 (.slf (opK.map sv)) rfl rfl rfl ?_
  repeat (first | refine js rfl ?_ | (refine jdraw ?_ ?_; · kernel_rfl) | refine jbu rfl rfl rfl rfl ?_ | refine jo rfl rfl (index_at rfl rfl rfl rfl rfl rfl rfl rfl h0 h1) rfl rfl ?_)
  exact jr rfl rfl rfl rfl

/-- an instruction, as the reference reads it, with n ahead of it -/
def rAll (ls : List Bs) : Bs → List Bs → List Int × Int
  | c :: cs, w :: ws => cond (decide ((rop ls c w).2 = 0)) (((rop ls c w).1 :: (rAll ls cs ws).1), (rAll ls cs ws).2) ([], (rop ls c w).2)
  | _, _ => ([], 0)
def rinstrK (ls : List Bs) (op : Int) (kd : Bs) (ws : List Bs) (n : Int) : Ins × Int :=
  cond (decide (ws.length = kd.length)) (cond (decide ((rAll ls kd ws).2 = 0)) (cond (decide (n ≥ 1000)) (default, 2) (⟨op, (rAll ls kd ws).1.getD 0 0, (rAll ls kd ws).1.getD 1 0, (rAll ls kd ws).1.getD 2 0⟩, 0)) (default, (rAll ls kd ws).2)) (default, 12)
def rinstr (ls : List Bs) (s : Bs) (n : Int) : Ins × Int :=
  match rsplit 32 s with
  | [] => (default, 10)
  | w :: ws => cond (decide (findOp w < 0)) (default, 10) (rinstrK ls (findOp w) (at' opK (findOp w)) ws n)
theorem rAll_ok (ls : List Bs) : ∀ (kd : Bs) (ws : List Bs), ws.length = kd.length → (∀ q, q < kd.length → (rop ls (kd.getD q 0) (ws.getD q [])).2 = 0) →
    (rAll ls kd ws).2 = 0 ∧ ∀ q, q < kd.length → (rAll ls kd ws).1.getD q 0 = (rop ls (kd.getD q 0) (ws.getD q [])).1
  | [], ws, _, _ => ⟨by simp [rAll], fun q h => absurd h (by simp)⟩
  | c :: kd, [], h, _ => by simp at h
  | c :: kd, w :: ws, h, ha => by
    have h0 := ha 0 (by simp)
    simp at h0
    obtain ⟨i1, i2⟩ := rAll_ok ls kd ws (by simpa using h) fun q hq => by simpa using ha (q + 1) (by simpa using hq)
    have e : rAll ls (c :: kd) (w :: ws) = ((rop ls c w).1 :: (rAll ls kd ws).1, (rAll ls kd ws).2) := by simp [rAll, h0]
    rw [e]
    refine ⟨i1, fun q hq => ?_⟩
    cases q with
    | zero => simp
    | succ q => simpa using i2 q (by simpa using hq)
theorem rAll_len (ls : List Bs) : ∀ (kd : Bs) (ws : List Bs), (rAll ls kd ws).1.length ≤ kd.length
  | [], ws => by simp [rAll]
  | c :: kd, [] => by simp [rAll]
  | c :: kd, w :: ws => by
    have := rAll_len ls kd ws
    simp only [rAll]
    cases decide ((rop ls c w).2 = 0) <;> simp <;> omega
theorem rAll_bad (ls : List Bs) : ∀ (kd : Bs) (ws : List Bs) (i : Nat), ws.length = kd.length → i < kd.length → (∀ q, q < i → (rop ls (kd.getD q 0) (ws.getD q [])).2 = 0) → (rop ls (kd.getD i 0) (ws.getD i [])).2 ≠ 0 →
    (rAll ls kd ws).2 = (rop ls (kd.getD i 0) (ws.getD i [])).2
  | [], ws, i, _, hi, _, _ => by simp at hi
  | c :: kd, [], i, h, _, _, _ => by simp at h
  | c :: kd, w :: ws, 0, h, _, _, hb => by
    simp at hb
    simp [rAll, hb]
  | c :: kd, w :: ws, i + 1, h, hi, ha, hb => by
    have h0 := ha 0 (by omega)
    simp at h0
    have e : rAll ls (c :: kd) (w :: ws) = ((rop ls c w).1 :: (rAll ls kd ws).1, (rAll ls kd ws).2) := by simp [rAll, h0]
    rw [e]
    simpa using rAll_bad ls kd ws i (by simpa using h) (by simpa using hi) (fun q hq => by simpa using ha (q + 1) (by omega)) (by simpa using hb)

theorem spSt_len (c : UInt8) (s : Bs) : ∀ i, ∀ x ∈ (spSt c s i).1, x.length ≤ s.length
  | 0, x, h => by simp [spSt] at h
  | i + 1, x, h => by
    have ih := spSt_len c s i
    unfold spSt at h
    cases hd : decide (s.getD i 0 = c) with
    | false => rw [hd] at h; exact ih x h
    | true =>
      rw [hd] at h
      rcases List.mem_append.1 h with h | h
      · exact ih x h
      · rw [List.mem_singleton.1 h, List.length_drop, List.length_take]; omega
theorem rsplit_len (c : UInt8) (s : Bs) : ∀ x ∈ rsplit c s, x.length ≤ s.length := fun x h => by
  rcases List.mem_append.1 h with h | h
  · exact spSt_len c s _ x h
  · rw [List.mem_singleton.1 h, List.length_drop]; omega
theorem opK_at (k : Nat) (hk : k < 27) : at' opK (k : Int) = (at' opsT (k : Int)).2 := by
  have h1 : k < opK.length := hk
  have h2 : k < opsT.length := hk
  rw [at_nat opK k h1, at_nat opsT k h2]
  simp [opK]
theorem rinstr_ok (ls : List Bs) (s : Bs) (n : Int) (hs : s.length ≤ 900000) (hls : ls.length ≤ 1000000) (hl : ∀ l ∈ ls, l.length ≤ 1000000) :
    ACalls Tryd.prog 29 [.sl (ls.map sv), sv s, iv n] [] (one (.tup [encIns (rinstr ls s n).1, iv (rinstr ls s n).2]) []) := by
  have hsp := rsplit_ok s 32 hs
  unfold rinstr
  cases hws : rsplit 32 s with
  | nil => exact absurd hws (by unfold rsplit; simp)
  | cons w r =>
    rw [hws] at hsp
    simp only
    refine jcalls Tryd.func29 rfl (by kernel_rfl) Tryd.ntmps29 rfl rfl (fun w0 β0 ext hβ => ?_)
    repeat (first | refine js rfl ?_ | (refine jdraw ?_ ?_; · kernel_rfl) | refine jbu rfl rfl rfl rfl ?_ | refine jv hsp rfl rfl rfl rfl rfl ?_)
    refine jloopI (fun k : Nat => k ≤ 27 ∧ ∀ i, i < k → at' opN (i : Int) ≠ w) [0, 1, 2, 6, 8, 9] (fun k => [.sl (ls.map sv), sv s, iv n, .ptr 0 0, .sl ((w :: r).map sv), .v (.int .i64 (k : Int))]) (fun _ => [.box 31 [iv 0, iv 0, iv 0, iv 0]]) (fun k => 27 - k) 0 ⟨Nat.zero_le _, fun i h => absurd h (by omega)⟩ rfl rfl (fun k hk => ?_)
    obtain ⟨hk, hno⟩ := hk
    by_cases hk2 : k < 27
    · have hnm := opName_ok k hk2
      have e1 : decide ((k : Int) < 27) = true := decide_eq_true (by omega)
      have hw0 : (0 : Int) < (((w :: r).length : Nat) : Int) := by rw [List.length_cons]; omega
      have key : ((⟨(at' opN (k : Int)).toArray⟩ : ByteArray).toList != (⟨w.toArray⟩ : ByteArray).toList) = !decide (at' opN (k : Int) = w) := by rw [bne, str_eq]
      have hnx := idx_next hk2 (by omega)
      unfold sv iv at hnm
      repeat (first | refine js rfl ?_ | (refine jdraw ?_ ?_; · kernel_rfl) | refine jbu rfl rfl rfl rfl ?_)
      rw [e1]
      repeat (first | refine js rfl ?_ | (refine jdraw ?_ ?_; · kernel_rfl) | refine jbu rfl rfl rfl rfl ?_ | refine jv hnm rfl rfl rfl rfl rfl ?_ | refine jo rfl rfl (index_at rfl rfl rfl rfl rfl rfl rfl rfl (by decide) hw0) rfl rfl ?_)
      have key := str_eq (at' opN (k : Int)) (at' (w :: r) 0)
      have ew : at' (w :: r) 0 = w := rfl
      rw [key, ew]
      cases hc : decide (at' opN (k : Int) = w) with
      | false =>
        have hc := of_decide_eq_false hc
        repeat (first | refine js rfl ?_ | (refine jdraw ?_ ?_; · kernel_rfl) | refine jbu rfl rfl rfl rfl ?_)
        refine jnextI (k + 1) ⟨by omega, fun i hi => ?_⟩ ?_ rfl (by omega)
        · by_cases hik : i = k
          · subst hik; exact hc
          · exact hno i (by omega)
        · show some _ = some _
          rw [hnx]
      | true =>
        have hc := of_decide_eq_true hc
        have e27 : ((k : Int) == 27) = false := by simp; omega
        repeat (first | refine js rfl ?_ | (refine jdraw ?_ ?_; · kernel_rfl) | refine jbu rfl rfl rfl rfl ?_)
        rw [e27]
        repeat (first | refine js rfl ?_ | (refine jdraw ?_ ?_; · kernel_rfl) | refine jbu rfl rfl rfl rfl ?_)
        have hkd := opKind_ok k hk2
        obtain ⟨hk3, _⟩ := kinds_ok k hk2
        rw [← opK_at k hk2] at hk3
        have hf : findOp w = (k : Int) := by
          unfold findOp
          have hkl : k < opsT.length := hk2
          have hkl2 : k < opN.length := hk2
          rw [List.findIdx?_eq_some_iff_getElem.2 ⟨hkl, by
            rw [at_nat opN k hkl2] at hc
            simpa [opN] using hc, fun j hj => by
            have hjl : j < opN.length := by show j < 27; omega
            have e2 := hno j hj
            rw [at_nat opN j hjl] at e2
            simpa [opN] using e2⟩]
        rw [hf, decide_eq_false (show ¬ (k : Int) < 0 by omega)]
        simp only [cond_false]
        clear hno hf hc key ew hw0 e1
        generalize at' opK (k : Int) = kd at *
        unfold sv iv at hkd
        repeat (first | refine js rfl ?_ | (refine jdraw ?_ ?_; · kernel_rfl) | refine jbu rfl rfl rfl rfl ?_ | refine jv hkd rfl rfl rfl rfl rfl ?_)
        have hwb : r.length ≤ 1000000 := by
          have := (spSt_le 32 s s.length).2
          have h2 := congrArg List.length hws
          unfold rsplit at h2
          simp at h2
          omega
        have hcnd : ((((w :: r).map sv).length : Int) != IntKind.i64.wrap (1 + (ByteArray.size ⟨kd.toArray⟩ : Int))) = !decide (r.length = kd.length) := by
          have e1 : ByteArray.size ⟨kd.toArray⟩ = kd.length := rfl
          rw [e1, wrap_id (by omega) (by omega), Bool.eq_iff_iff]
          simp
          omega
        rw [hcnd]
        unfold rinstrK
        cases hb : decide (r.length = kd.length) with
        | false =>
          simp only [Bool.not_false, cond_false]
          repeat (first | refine js rfl ?_ | (refine jdraw ?_ ?_; · kernel_rfl) | refine jbu rfl rfl rfl rfl ?_)
          exact jr rfl rfl rfl rfl
        | true =>
          have hlen := of_decide_eq_true hb
          simp only [Bool.not_true, cond_true]
          repeat (first | refine js rfl ?_ | (refine jdraw ?_ ?_; · kernel_rfl) | refine jbu rfl rfl rfl rfl ?_)
          let ok : Nat → Prop := fun i => i ≤ kd.length ∧ ∀ q, q < i → (rop ls (kd.getD q 0) (r.getD q [])).2 = 0
          let vv : Nat → Nat → AVal := fun q i => iv (cond (decide (q < i)) (rop ls (kd.getD q 0) (r.getD q [])).1 0)
          refine jloopI ok [0, 2, 6, 8, 9, 10, 11, 12] (fun i => [.sl (ls.map sv), iv n, .ptr 0 0, .sl ((w :: r).map sv), .v (.int .i64 (k : Int)), sv kd, .ptr 1 0, .v (.int .i64 (i : Int))])
            (fun i => [.box 31 [iv 0, iv 0, iv 0, iv 0], .box 72 [vv 0 i, vv 1 i, vv 2 i]]) (fun i => kd.length - i) 0 ⟨Nat.zero_le _, fun q hq => absurd hq (by omega)⟩ rfl rfl (fun i hi => ?_)
          obtain ⟨hi, hok⟩ := hi
          have hkl : ByteArray.size ⟨kd.toArray⟩ = kd.length := rfl
          repeat (first | refine js rfl ?_ | (refine jdraw ?_ ?_; · kernel_rfl) | refine jbu rfl rfl rfl rfl ?_)
          refine jc rfl rfl rfl (fun h => ?_) (fun h => ?_)
          · have h := of_decide_eq_true h
            have hik : i < kd.length := by rw [hkl] at h; omega
            have hnx := idx_next hik (by omega)
            have hnx2 : IntKind.i64.wrap (1 + (i : Int)) = ((i + 1 : Nat) : Int) := by rw [Int.add_comm]; exact hnx
            have hwd : at' (w :: r) (IntKind.i64.wrap (1 + (i : Int))) = r.getD i [] := by
              rw [hnx2]; simp [at']; rfl
            obtain ⟨c, hc⟩ : ∃ c, kd[i]? = some c := ⟨_, List.getElem?_eq_getElem hik⟩
            have hcb := str_at hc
            have hcd : kd.getD i 0 = c := by simp [List.getD, hc]
            have hl1 : (0 : Int) ≤ IntKind.i64.wrap (1 + (i : Int)) := by rw [hnx2]; omega
            have hl2 : IntKind.i64.wrap (1 + (i : Int)) < ((w :: r).length : Int) := by rw [hnx2, List.length_cons]; omega
            have hwl2 : (at' (w :: r) (IntKind.i64.wrap (1 + (i : Int)))).length ≤ 1000000 := by
              rw [hwd]
              have hir : i < r.length := by omega
              have hm : r.getD i [] ∈ rsplit 32 s := by rw [hws]; refine List.mem_cons_of_mem _ ?_; simp [List.getD, hir]
              exact Nat.le_trans (rsplit_len 32 s _ hm) (by omega)
            have hop := rop_ok ls c (at' (w :: r) (IntKind.i64.wrap (1 + (i : Int)))) hwl2 hls hl
            have hrd : rop ls (kd.getD i 0) (r.getD i []) = rop ls c (at' (w :: r) (IntKind.i64.wrap (1 + (i : Int)))) := by rw [hwd, hcd]
            unfold sv at hop
            repeat (first | refine js rfl ?_ | (refine jdraw ?_ ?_; · kernel_rfl) | refine jbu rfl rfl rfl rfl ?_ | refine jo rfl rfl (index_str rfl rfl rfl rfl (Int.natCast_nonneg i) hcb) rfl rfl ?_ | refine jo rfl rfl (index_at rfl rfl rfl rfl rfl rfl rfl rfl hl1 hl2) rfl rfl ?_ | refine jv hop rfl rfl rfl rfl rfl ?_)
            generalize rop ls c (at' (w :: r) (IntKind.i64.wrap (1 + (i : Int)))) = p at *
            obtain ⟨p1, p2⟩ := p
            by_cases hp : p2 = 0
            · subst hp
              have hok' : ok (i + 1) := ⟨by omega, fun q hq => by
                by_cases hqi : q = i
                · subst hqi; rw [hrd]
                · exact hok q (by omega)⟩
              have hi3 : i = 0 ∨ i = 1 ∨ i = 2 := by omega
              rcases hi3 with rfl | rfl | rfl
              all_goals (
                repeat (first | refine js rfl ?_ | (refine jdraw ?_ ?_; · kernel_rfl) | refine jbu rfl rfl rfl rfl ?_ | refine jo rfl rfl (index_arr rfl rfl rfl rfl rfl (by omega) (by omega)) rfl rfl ?_)
              )
              all_goals refine jnextI (_ + 1) hok' ?_ ?_ ?_
              all_goals first | omega | rfl | (show _ = _; simp only [vv, hrd]; rfl)
            · have hbad := rAll_bad ls kd r i hlen hik hok (by rw [hrd]; exact hp)
              rw [hrd] at hbad
              have hp' : (p2 != 0) = true := by simpa using hp
              rw [hbad, decide_eq_false hp]
              simp only [cond_false]
              simp only [hp']
              repeat (first | refine js rfl ?_ | (refine jdraw ?_ ?_; · kernel_rfl) | refine jbu rfl rfl rfl rfl ?_)
              exact jr rfl rfl rfl rfl
          · have h := of_decide_eq_false h
            have hi' : i = kd.length := by rw [hkl] at h; omega
            subst hi'
            obtain ⟨k1, k2⟩ := rAll_ok ls kd r hlen hok
            have hq : ∀ q, (rAll ls kd r).1.getD q 0 = cond (decide (q < kd.length)) (rop ls (kd.getD q 0) (r.getD q [])).1 0 := by
              intro q
              by_cases hql : q < kd.length
              · rw [k2 q hql, decide_eq_true hql]; rfl
              · rw [decide_eq_false hql]
                have := rAll_len ls kd r
                simp [List.getD, List.getElem?_eq_none (show (rAll ls kd r).1.length ≤ q by omega)]
            rw [k1, hq 0, hq 1, hq 2]
            simp only [decide_true, cond_true]
            repeat (first | refine js rfl ?_ | (refine jdraw ?_ ?_; · kernel_rfl) | refine jbu rfl rfl rfl rfl ?_)
            cases hn : decide (n ≥ 1000) with
            | true =>
              repeat (first | refine js rfl ?_ | (refine jdraw ?_ ?_; · kernel_rfl) | refine jbu rfl rfl rfl rfl ?_)
              exact jr rfl rfl rfl rfl
            | false =>
              repeat (first | refine js rfl ?_ | (refine jdraw ?_ ?_; · kernel_rfl) | refine jbu rfl rfl rfl rfl ?_ | refine jo rfl rfl (index_arr rfl rfl rfl rfl rfl (by omega) (by omega)) rfl rfl ?_)
              exact jr rfl rfl rfl rfl
    · have hk27 : k = 27 := by omega
      subst hk27
      have hf : findOp w = -1 := by
        unfold findOp
        rw [List.findIdx?_eq_none_iff.2 fun p hp => by
          obtain ⟨i, hi, rfl⟩ := List.getElem_of_mem hp
          have hi' : i < 27 := hi
          have e2 := hno i hi'
          have hl : i < opN.length := hi'
          rw [at_nat opN i hl] at e2
          simpa [opN] using e2]
      rw [hf]
      repeat (first | refine js rfl ?_ | (refine jdraw ?_ ?_; · kernel_rfl) | refine jbu rfl rfl rfl rfl ?_)
      exact jr rfl rfl rfl rfl
end Go.AL
