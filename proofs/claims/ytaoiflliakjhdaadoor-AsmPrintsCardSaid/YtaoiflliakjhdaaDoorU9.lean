/-
  An instruction's line. No conditions.
-/
import Derived.Test.YtaoiflliakjhdaaDoorU8
set_option linter.unusedVariables false
set_option linter.unusedSimpArgs false
set_option maxRecDepth 100000
namespace Go.AL
open Go Go.Proofs
attribute [local irreducible] J

structure Ins where
  op : Int
  a : Int
  b : Int
  c : Int
instance : Inhabited Ins := ⟨⟨0, 0, 0, 0⟩⟩
def encIns (i : Ins) : AVal := .agg [iv i.op, iv i.a, iv i.b, iv i.c]

/-- an operand, by its sign -/
def rd (m : Mp) (c : UInt8) (w : Bs) : Int × Int := cond (decide (c = 114)) (rdR w) (cond (decide (c = 110)) (rdN w) (rdT m w))
def rdAll (m : Mp) : Bs → List Bs → List Int × Int
  | c :: cs, w :: ws => cond (decide ((rd m c w).2 = 0)) (((rd m c w).1 :: (rdAll m cs ws).1), (rdAll m cs ws).2) ([], (rd m c w).2)
  | _, _ => ([], 0)
def instrK (m : Mp) (op : Int) (kd : Bs) (ws : List Bs) : Ins × Int :=
  cond (decide (ws.length = kd.length)) (cond (decide ((rdAll m kd ws).2 = 0)) (⟨op, (rdAll m kd ws).1.getD 0 0, (rdAll m kd ws).1.getD 1 0, (rdAll m kd ws).1.getD 2 0⟩, 0) (default, (rdAll m kd ws).2)) (default, 12)
def instrP (m : Mp) (s : Bs) : Ins × Int :=
  match words s with
  | [] => (default, 10)
  | w :: ws => cond (decide (findOp w < 0)) (default, 10) (instrK m (findOp w) (at' opsT (findOp w)).2 ws)

def rdF (j : Nat) : List (Value × AVal) := [(.int .u8 114, .fn (.func 49) [] []), (.int .u8 110, .fn (.func 50) [] []), (.int .u8 116, .fn (.func 52) [] [.ptr j 0])]
def iH (g : Gl) (m : Mp) : List AObj := [g.a, g.b, g.c, g.d, .vmap (encM m), .box 40 [.mp 4], .map (rdF 5)]
theorem rdF_keys (j : Nat) : MKeys (.int .u8) (rdF j) := by
  simp [MKeys, rdF, MapKept.IsKey]
theorem words_ne (s : Bs) : words s ≠ [] := fun h => by
  have := words_len s
  rw [h] at this
  simp at this
theorem findOp_cases (w : Bs) : findOp w = -1 ∨ ∃ k : Nat, k < 27 ∧ findOp w = (k : Int) := by
  unfold findOp
  split
  · rename_i i hi
    have := (List.findIdx?_eq_some_iff_getElem.1 hi).1
    exact .inr ⟨i, this, rfl⟩
  · exact .inl rfl
theorem kinds_ok : ∀ k : Nat, k < 27 → (at' opsT (k : Int)).2.length ≤ 3 ∧ ∀ c ∈ (at' opsT (k : Int)).2, c = 114 ∨ c = 110 ∨ c = 116 := by decide

theorem ops_kind : ∀ (i : Nat), i < 27 → takeA ty9 opsC (0 + i * ty59.size + 1) = some (sv (at' opsT (i : Int)).2)
  | 0, _ => rfl
  | 1, _ => rfl
  | 2, _ => rfl
  | 3, _ => rfl
  | 4, _ => rfl
  | 5, _ => rfl
  | 6, _ => rfl
  | 7, _ => rfl
  | 8, _ => rfl
  | 9, _ => rfl
  | 10, _ => rfl
  | 11, _ => rfl
  | 12, _ => rfl
  | 13, _ => rfl
  | 14, _ => rfl
  | 15, _ => rfl
  | 16, _ => rfl
  | 17, _ => rfl
  | 18, _ => rfl
  | 19, _ => rfl
  | 20, _ => rfl
  | 21, _ => rfl
  | 22, _ => rfl
  | 23, _ => rfl
  | 24, _ => rfl
  | 25, _ => rfl
  | 26, _ => rfl
  | n + 27, h => absurd h (by omega)

theorem splitK_len (sep : Bs) (save : Nat) : ∀ (k : Nat) (s x : Bs), x ∈ Lib.splitK sep save k s → x.length ≤ s.length
  | 0, s, x, h => by simp [Lib.splitK] at h; subst h; exact Nat.le_refl _
  | k + 1, s, x, h => by
    unfold Lib.splitK at h
    split at h
    · simp at h; subst h; exact Nat.le_refl _
    · rcases List.mem_cons.1 h with rfl | h
      · rw [List.length_take]; omega
      · have := splitK_len sep save k _ x h
        rw [List.length_drop] at this; omega
theorem rdAll_ok (m : Mp) : ∀ (kd : Bs) (ws : List Bs), ws.length = kd.length → (∀ q, q < kd.length → (rd m (kd.getD q 0) (ws.getD q [])).2 = 0) →
    (rdAll m kd ws).2 = 0 ∧ ∀ q, q < kd.length → (rdAll m kd ws).1.getD q 0 = (rd m (kd.getD q 0) (ws.getD q [])).1
  | [], ws, _, _ => ⟨by simp [rdAll], fun q h => absurd h (by simp)⟩
  | c :: kd, [], h, _ => by simp at h
  | c :: kd, w :: ws, h, ha => by
    have h0 := ha 0 (by simp)
    simp at h0
    obtain ⟨i1, i2⟩ := rdAll_ok m kd ws (by simpa using h) fun q hq => by simpa using ha (q + 1) (by simpa using hq)
    have e : rdAll m (c :: kd) (w :: ws) = ((rd m c w).1 :: (rdAll m kd ws).1, (rdAll m kd ws).2) := by simp [rdAll, h0]
    rw [e]
    refine ⟨i1, fun q hq => ?_⟩
    cases q with
    | zero => simp
    | succ q => simpa using i2 q (by simpa using hq)
theorem rdAll_len (m : Mp) : ∀ (kd : Bs) (ws : List Bs), (rdAll m kd ws).1.length ≤ kd.length
  | [], ws => by simp [rdAll]
  | c :: kd, [] => by simp [rdAll]
  | c :: kd, w :: ws => by
    have := rdAll_len m kd ws
    simp only [rdAll]
    cases decide ((rd m c w).2 = 0) <;> simp <;> omega
theorem rdAll_bad (m : Mp) : ∀ (kd : Bs) (ws : List Bs) (i : Nat), ws.length = kd.length → i < kd.length → (∀ q, q < i → (rd m (kd.getD q 0) (ws.getD q [])).2 = 0) → (rd m (kd.getD i 0) (ws.getD i [])).2 ≠ 0 →
    (rdAll m kd ws).2 = (rd m (kd.getD i 0) (ws.getD i [])).2
  | [], ws, i, _, hi, _, _ => by simp at hi
  | c :: kd, [], i, h, _, _, _ => by simp at h
  | c :: kd, w :: ws, 0, h, _, _, hb => by
    simp at hb
    simp [rdAll, hb]
  | c :: kd, w :: ws, i + 1, h, hi, ha, hb => by
    have h0 := ha 0 (by omega)
    simp at h0
    have e : rdAll m (c :: kd) (w :: ws) = ((rd m c w).1 :: (rdAll m kd ws).1, (rdAll m kd ws).2) := by simp [rdAll, h0]
    rw [e]
    simpa using rdAll_bad m kd ws i (by simpa using h) (by simpa using hi) (fun q hq => by simpa using ha (q + 1) (by omega)) (by simpa using hb)

theorem instr_ok (g : Gl) (m : Mp) (s : Bs) (hs : s.length ≤ 1000000) : ACalls Tryd.prog 25 [sv s, .mp 6] (iH g m) (one (.tup [encIns (instrP m s).1, iv (instrP m s).2]) (iH g m)) := by
  have hop := operations_ok
  have hsp := split_ok g s hs
  have hwl := words_len s
  have hwb : (words s).length ≤ 1000001 := by
    rw [hwl]
    have := Lib.countB_le ⟨#[32]⟩ (by simp [ByteArray.size]) _ ⟨s.toArray⟩ (Nat.le_refl _)
    have hsz : ByteArray.size ⟨s.toArray⟩ ≤ 1000000 := by simpa [ByteArray.size] using hs
    omega
  unfold instrP
  have hne := words_ne s
  generalize hws : words s = ws at *
  cases ws with
  | nil => exact absurd rfl hne
  | cons w r =>
    simp only
    have hix := indexOp_ok w r
    have hkk := findOp_cases w
    generalize findOp w = op at *
    refine jcalls Tryd.func25 rfl (by kernel_rfl) Tryd.ntmps25 rfl rfl (fun w0 β0 ext hβ => ?_)
    repeat (first | refine js rfl ?_ | (refine jdraw ?_ ?_; · kernel_rfl) | refine jbu rfl rfl rfl rfl ?_ | refine jv hop rfl rfl rfl rfl rfl ?_)
    refine jb [0,1,2,3] hsp rfl rfl rfl ⟨rfl, rfl, rfl, rfl, rfl, rfl⟩ rfl rfl rfl rfl ?_
    repeat (first | refine js rfl ?_ | (refine jdraw ?_ ?_; · kernel_rfl) | refine jbu rfl rfl rfl rfl ?_ | refine jo rfl rfl (slice_box 0 27 rfl rfl rfl rfl rfl rfl (by omega) (by omega) (by omega)) rfl rfl ?_)
    refine jb [8,9] hix rfl rfl rfl ⟨rfl, rfl, rfl, rfl, rfl, rfl⟩ rfl rfl rfl rfl ?_
    refine jheap (iH g m ++ [.box 31 [iv 0, iv 0, iv 0, iv 0], .box 60 opsC, .box 51 [.slf ((w :: r).map sv)]]) rfl ?_
    repeat (first | refine js rfl ?_ | (refine jdraw ?_ ?_; · kernel_rfl) | refine jbu rfl rfl rfl rfl ?_)
    rcases hkk with rfl | ⟨k, hk, rfl⟩
    · repeat (first | refine js rfl ?_ | (refine jdraw ?_ ?_; · kernel_rfl) | refine jbu rfl rfl rfl rfl ?_)
      exact jr rfl rfl rfl rfl
    · have hlt : decide ((k : Int) < 0) = false := decide_eq_false (by omega)
      have hkd := ops_kind k hk
      obtain ⟨hk3, hkc⟩ := kinds_ok k hk
      rw [hlt]
      simp only [cond_false]
      generalize (at' opsT (k : Int)).2 = kd at *
      repeat (first | refine js rfl ?_ | (refine jdraw ?_ ?_; · kernel_rfl) | refine jbu rfl rfl rfl rfl ?_ | refine jo rfl rfl (index_arr rfl rfl rfl rfl rfl (by omega) (by omega)) rfl rfl ?_ | refine jo rfl rfl (load_dsem rfl rfl rfl hkd) rfl rfl ?_)
      have hcnd : ((((w :: r).map sv).length : Int) != IntKind.i64.wrap (1 + (ByteArray.size ⟨kd.toArray⟩ : Int))) = !decide (r.length = kd.length) := by
        have e1 : ByteArray.size ⟨kd.toArray⟩ = kd.length := rfl
        rw [e1, wrap_id (by omega) (by omega), Bool.eq_iff_iff]
        simp
        omega
      rw [hcnd]
      unfold instrK
      cases hb : decide (r.length = kd.length) with
      | false =>
        simp only [Bool.not_false, cond_false]
        repeat (first | refine js rfl ?_ | (refine jdraw ?_ ?_; · kernel_rfl) | refine jbu rfl rfl rfl rfl ?_)
        exact jr rfl rfl rfl rfl
      | true =>
        have hlen := of_decide_eq_true hb
        simp only [Bool.not_true, cond_true]
        repeat (first | refine js rfl ?_ | (refine jdraw ?_ ?_; · kernel_rfl) | refine jbu rfl rfl rfl rfl ?_)
        let ok : Nat → Prop := fun i => i ≤ kd.length ∧ ∀ q, q < i → (rd m (kd.getD q 0) (r.getD q [])).2 = 0
        let vv : Nat → Nat → AVal := fun q i => iv (cond (decide (q < i)) (rd m (kd.getD q 0) (r.getD q [])).1 0)
        refine jloopI ok [1, 9, 7, 10, 36, 35, 4, 8] (fun i => [.mp 6, sv kd, .ptr 9 0, .ptr 10 0, .v (.int .i64 (i : Int)), .v (.int .i64 (kd.length : Int)), .ptr 7 0, .v (.int .i64 (k : Int))])
          (fun i => iH g m ++ [.box 31 [iv 0, iv 0, iv 0, iv 0], .box 60 opsC, .box 51 [.slf ((w :: r).map sv)], .box 72 [vv 0 i, vv 1 i, vv 2 i]]) (fun i => kd.length - i) 0 ⟨Nat.zero_le _, fun q hq => absurd hq (by omega)⟩ rfl rfl (fun i hi => ?_)
        obtain ⟨hi, hok⟩ := hi
        repeat (first | refine js rfl ?_ | (refine jdraw ?_ ?_; · kernel_rfl) | refine jbu rfl rfl rfl rfl ?_)
        refine jc rfl rfl rfl (fun h => ?_) (fun h => ?_)
        · have h := of_decide_eq_true h
          have hik : i < kd.length := by omega
          have hnx := idx_next hik (by omega)
          have hwd : at' (w :: r) (IntKind.i64.wrap ((i : Int) + 1)) = r.getD i [] := by
            rw [hnx]; simp [at']; rfl
          obtain ⟨c, hc⟩ : ∃ c, kd[i]? = some c := ⟨_, List.getElem?_eq_getElem hik⟩
          have hcb : (⟨kd.toArray⟩ : ByteArray)[((i : Int)).toNat]? = some c := by
            have hsz : ((i : Int)).toNat < (⟨kd.toArray⟩ : ByteArray).size := hik
            rw [getElem?_pos (⟨kd.toArray⟩ : ByteArray) _ hsz]
            rw [List.getElem?_eq_getElem hik] at hc
            injection hc with hc
            rw [← hc]; rfl
          have hcd : kd.getD i 0 = c := by simp [List.getD, hc]
          have hcm : c ∈ kd := List.mem_of_getElem? hc
          have hl1 : (0 : Int) ≤ IntKind.i64.wrap ((i : Int) + 1) := by rw [hnx]; omega
          have hl2 : IntKind.i64.wrap ((i : Int) + 1) < ((w :: r).length : Int) := by rw [hnx, List.length_cons]; omega
          have hwl2 : (at' (w :: r) (IntKind.i64.wrap ((i : Int) + 1))).length ≤ 1000000 := by
            rw [hwd]
            have hir : i < r.length := by omega
            have hm : r.getD i [] ∈ words s := by rw [hws]; refine List.mem_cons_of_mem _ ?_; simp [List.getD, hir]
            exact Nat.le_trans (splitK_len [32] 0 _ s _ hm) hs
          have hR := rdR_ok (at' (w :: r) (IntKind.i64.wrap ((i : Int) + 1)))
          have hN := rdN_ok g (at' (w :: r) (IntKind.i64.wrap ((i : Int) + 1))) hwl2
          have hT := rdT_ok m (at' (w :: r) (IntKind.i64.wrap ((i : Int) + 1)))
          have hks := rdF_keys 5
          rcases hkc c hcm with rfl | rfl | rfl
          · have hf : MFind (rdF 5) (.int .u8 114) (some (.fn (.func 49) [] [])) := .inl ⟨rfl, rfl⟩
            repeat (first | refine js rfl ?_ | refine jbu rfl rfl rfl rfl ?_)
            refine jdrawP [(0, .p), (1, .p), (2, .p), (3, .p), (4, .s), (5, .r), (6, .p), (7, .p), (8, .p), (9, .r), (10, .s), (11, .p), (12, .p), (13, .p), (14, .p), (15, .p)] (by decide) (by kernel_rfl) ?_
            repeat (first | refine js rfl ?_ | (refine jdraw ?_ ?_; · kernel_rfl) | refine jbu rfl rfl rfl rfl ?_ | refine jo rfl rfl (index_str rfl rfl rfl rfl (Int.natCast_nonneg i) hcb) rfl rfl ?_ | refine jo rfl rfl (map_get rfl rfl rfl rfl rfl rfl rfl rfl rfl rfl hks hf rfl) rfl rfl ?_ | refine jo rfl rfl (index_at rfl rfl rfl rfl rfl rfl rfl rfl hl1 hl2) rfl rfl ?_ | refine jv hR rfl rfl rfl rfl rfl ?_)
            have hrd : rd m (kd.getD i 0) (r.getD i []) = rdR (at' (w :: r) (IntKind.i64.wrap ((i : Int) + 1))) := by rw [hwd, hcd]; rfl
            generalize rdR (at' (w :: r) (IntKind.i64.wrap ((i : Int) + 1))) = p at *
            obtain ⟨p1, p2⟩ := p
            by_cases hp : p2 = 0
            · subst hp
              have hok' : ok (i + 1) := ⟨by omega, fun q hq => by
                by_cases hqi : q = i
                · subst hqi; rw [hrd]
                · exact hok q (by omega)⟩
              have hi3 : i = 0 ∨ i = 1 ∨ i = 2 := by omega
              rcases hi3 with rfl | rfl | rfl
              all_goals (
                repeat (first | refine js rfl ?_ | (refine jdraw ?_ ?_; · kernel_rfl) | refine jbu rfl rfl rfl rfl ?_ | refine jo rfl rfl (index_arr rfl rfl rfl rfl rfl (by omega) (by omega)) rfl rfl ?_)
              )
              all_goals refine jnextI (_ + 1) hok' ?_ ?_ ?_
              all_goals first | omega | rfl | (show _ = _; simp only [vv, hrd]; rfl)
            · have hbad := rdAll_bad m kd r i hlen hik hok (by rw [hrd]; exact hp)
              rw [hrd] at hbad
              have hp' : (p2 != 0) = true := by simpa using hp
              rw [hbad, decide_eq_false hp]
              simp only [cond_false]
              simp only [hp']
              repeat (first | refine js rfl ?_ | (refine jdraw ?_ ?_; · kernel_rfl) | refine jbu rfl rfl rfl rfl ?_)
              exact jr rfl rfl rfl rfl
          · have hf : MFind (rdF 5) (.int .u8 110) (some (.fn (.func 50) [] [])) := .inr ⟨by simp, .inl ⟨rfl, rfl⟩⟩
            repeat (first | refine js rfl ?_ | refine jbu rfl rfl rfl rfl ?_)
            refine jdrawP [(0, .p), (1, .p), (2, .p), (3, .p), (4, .s), (5, .r), (6, .p), (7, .p), (8, .p), (9, .r), (10, .s), (11, .p), (12, .p), (13, .p), (14, .p), (15, .p)] (by decide) (by kernel_rfl) ?_
            repeat (first | refine js rfl ?_ | (refine jdraw ?_ ?_; · kernel_rfl) | refine jbu rfl rfl rfl rfl ?_ | refine jo rfl rfl (index_str rfl rfl rfl rfl (Int.natCast_nonneg i) hcb) rfl rfl ?_ | refine jo rfl rfl (map_get rfl rfl rfl rfl rfl rfl rfl rfl rfl rfl hks hf rfl) rfl rfl ?_ | refine jo rfl rfl (index_at rfl rfl rfl rfl rfl rfl rfl rfl hl1 hl2) rfl rfl ?_)
            refine jbs [0,1,2,3] hN rfl rfl rfl ⟨rfl, rfl, rfl, rfl, rfl, rfl⟩ rfl rfl rfl rfl ?_
            repeat (first | refine js rfl ?_ | (refine jdraw ?_ ?_; · kernel_rfl) | refine jbu rfl rfl rfl rfl ?_)
            have hrd : rd m (kd.getD i 0) (r.getD i []) = rdN (at' (w :: r) (IntKind.i64.wrap ((i : Int) + 1))) := by rw [hwd, hcd]; rfl
            generalize rdN (at' (w :: r) (IntKind.i64.wrap ((i : Int) + 1))) = p at *
            obtain ⟨p1, p2⟩ := p
            by_cases hp : p2 = 0
            · subst hp
              have hok' : ok (i + 1) := ⟨by omega, fun q hq => by
                by_cases hqi : q = i
                · subst hqi; rw [hrd]
                · exact hok q (by omega)⟩
              have hi3 : i = 0 ∨ i = 1 ∨ i = 2 := by omega
              rcases hi3 with rfl | rfl | rfl
              all_goals (
                repeat (first | refine js rfl ?_ | (refine jdraw ?_ ?_; · kernel_rfl) | refine jbu rfl rfl rfl rfl ?_ | refine jo rfl rfl (index_arr rfl rfl rfl rfl rfl (by omega) (by omega)) rfl rfl ?_)
              )
              all_goals refine jnextI (_ + 1) hok' ?_ ?_ ?_
              all_goals first | omega | rfl | (show _ = _; simp only [vv, hrd]; rfl)
            · have hbad := rdAll_bad m kd r i hlen hik hok (by rw [hrd]; exact hp)
              rw [hrd] at hbad
              have hp' : (p2 != 0) = true := by simpa using hp
              rw [hbad, decide_eq_false hp]
              simp only [cond_false]
              simp only [hp']
              repeat (first | refine js rfl ?_ | (refine jdraw ?_ ?_; · kernel_rfl) | refine jbu rfl rfl rfl rfl ?_)
              exact jr rfl rfl rfl rfl
          · have hf : MFind (rdF 5) (.int .u8 116) (some (.fn (.func 52) [] [.ptr 5 0])) := .inr ⟨by simp, .inr ⟨by simp, .inl ⟨rfl, rfl⟩⟩⟩
            repeat (first | refine js rfl ?_ | refine jbu rfl rfl rfl rfl ?_)
            refine jdrawP [(0, .p), (1, .p), (2, .p), (3, .p), (4, .s), (5, .r), (6, .p), (7, .p), (8, .p), (9, .r), (10, .s), (11, .p), (12, .p), (13, .p), (14, .p), (15, .p)] (by decide) (by kernel_rfl) ?_
            repeat (first | refine js rfl ?_ | (refine jdraw ?_ ?_; · kernel_rfl) | refine jbu rfl rfl rfl rfl ?_ | refine jo rfl rfl (index_str rfl rfl rfl rfl (Int.natCast_nonneg i) hcb) rfl rfl ?_ | refine jo rfl rfl (map_get rfl rfl rfl rfl rfl rfl rfl rfl rfl rfl hks hf rfl) rfl rfl ?_ | refine jo rfl rfl (index_at rfl rfl rfl rfl rfl rfl rfl rfl hl1 hl2) rfl rfl ?_)
            refine jbs [4,5] hT rfl rfl rfl ⟨rfl, rfl, rfl, rfl, rfl, rfl⟩ rfl rfl rfl rfl ?_
            repeat (first | refine js rfl ?_ | (refine jdraw ?_ ?_; · kernel_rfl) | refine jbu rfl rfl rfl rfl ?_)
            have hrd : rd m (kd.getD i 0) (r.getD i []) = rdT m (at' (w :: r) (IntKind.i64.wrap ((i : Int) + 1))) := by rw [hwd, hcd]; rfl
            generalize rdT m (at' (w :: r) (IntKind.i64.wrap ((i : Int) + 1))) = p at *
            obtain ⟨p1, p2⟩ := p
            by_cases hp : p2 = 0
            · subst hp
              have hok' : ok (i + 1) := ⟨by omega, fun q hq => by
                by_cases hqi : q = i
                · subst hqi; rw [hrd]
                · exact hok q (by omega)⟩
              have hi3 : i = 0 ∨ i = 1 ∨ i = 2 := by omega
              rcases hi3 with rfl | rfl | rfl
              all_goals (
                repeat (first | refine js rfl ?_ | (refine jdraw ?_ ?_; · kernel_rfl) | refine jbu rfl rfl rfl rfl ?_ | refine jo rfl rfl (index_arr rfl rfl rfl rfl rfl (by omega) (by omega)) rfl rfl ?_)
              )
              all_goals refine jnextI (_ + 1) hok' ?_ ?_ ?_
              all_goals first | omega | rfl | (show _ = _; simp only [vv, hrd]; rfl)
            · have hbad := rdAll_bad m kd r i hlen hik hok (by rw [hrd]; exact hp)
              rw [hrd] at hbad
              have hp' : (p2 != 0) = true := by simpa using hp
              rw [hbad, decide_eq_false hp]
              simp only [cond_false]
              simp only [hp']
              repeat (first | refine js rfl ?_ | (refine jdraw ?_ ?_; · kernel_rfl) | refine jbu rfl rfl rfl rfl ?_)
              exact jr rfl rfl rfl rfl
        · have h := of_decide_eq_false h
          have hi' : i = kd.length := by omega
          subst hi'
          obtain ⟨k1, k2⟩ := rdAll_ok m kd r hlen hok
          have hq : ∀ q, (rdAll m kd r).1.getD q 0 = cond (decide (q < kd.length)) (rd m (kd.getD q 0) (r.getD q [])).1 0 := by
            intro q
            by_cases hql : q < kd.length
            · rw [k2 q hql, decide_eq_true hql]; rfl
            · rw [decide_eq_false hql]
              have := rdAll_len m kd r
              simp [List.getD, List.getElem?_eq_none (show (rdAll m kd r).1.length ≤ q by omega)]
          rw [k1, hq 0, hq 1, hq 2]
          repeat (first | refine js rfl ?_ | (refine jdraw ?_ ?_; · kernel_rfl) | refine jbu rfl rfl rfl rfl ?_ | refine jo rfl rfl (index_arr rfl rfl rfl rfl rfl (by omega) (by omega)) rfl rfl ?_)
          exact jr rfl rfl rfl rfl
end Go.AL
