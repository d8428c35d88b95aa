/-
  asm.Parse: the walk. No conditions.
-/
import Derived.Test.YtaoiflliakjhdaaDoorU9
import Derived.Test.YtaoiflliakjhdaaDoorL6
set_option linter.unusedVariables false
set_option linter.unusedSimpArgs false
set_option maxRecDepth 100000
namespace Go.AL
open Go Go.Proofs
attribute [local irreducible] J

def cnt (m : Mp) (s : Bs) : Int := (m.lookup s).getD 0
def bump : Mp → Bs → Mp
  | [], s => [(s, 1)]
  | (k, n) :: m, s => cond (decide (k = s)) ((s, n + 1) :: m) ((k, n) :: bump m s)
theorem bump_put : ∀ (m : Mp) (s : Bs), MPut (vals (encM m)) (S s) (iv (cnt m s + 1)) (vals (encM (bump m s)))
  | [], s => rfl
  | (k, n) :: m, s => by
    by_cases h : k = s
    · subst h
      have e1 : bump ((k, n) :: m) k = (k, n + 1) :: m := by simp [bump]
      have e2 : cnt ((k, n) :: m) k = n := by simp [cnt, List.lookup]
      rw [e1, e2]
      exact .inl ⟨rfl, rfl⟩
    · have e1 : bump ((k, n) :: m) s = (k, n) :: bump m s := by simp [bump, h]
      have e2 : cnt ((k, n) :: m) s = cnt m s := by
        have : (s == k) = false := by simp; exact fun e => h e.symm
        simp [cnt, List.lookup, this]
      rw [e1, e2]
      exact .inr ⟨fun e => h (S_inj e), _, rfl, bump_put m s⟩
theorem bump_cnt : ∀ (m : Mp) (s t : Bs), cnt (bump m s) t = cond (decide (s = t)) (cnt m s + 1) (cnt m t)
  | [], s, t => by
    by_cases h : s = t
    · subst h; simp [bump, cnt, List.lookup]
    · have : (t == s) = false := by simp; exact fun e => h e.symm
      simp [bump, cnt, List.lookup, this, h]
  | (k, n) :: m, s, t => by
    have ih := bump_cnt m s t
    by_cases h : k = s
    · subst h
      by_cases h2 : k = t
      · subst h2; simp [bump, cnt, List.lookup]
      · have : (t == k) = false := by simp; exact fun e => h2 e.symm
        simp [bump, cnt, List.lookup, this, h2]
    · have hs : (s == k) = false := by simp; exact fun e => h e.symm
      have e1 : bump ((k, n) :: m) s = (k, n) :: bump m s := by simp [bump, h]
      rw [e1]
      by_cases h2 : k = t
      · subst h2
        have h3 : ¬ s = k := fun e => h e.symm
        simp [cnt, List.lookup, h3]
      · have ht : (t == k) = false := by simp; exact fun e => h2 e.symm
        have e2 : ∀ mm : Mp, cnt ((k, n) :: mm) t = cnt mm t := fun mm => by simp [cnt, List.lookup, ht]
        have e3 : cnt ((k, n) :: m) s = cnt m s := by simp [cnt, List.lookup, hs]
        rw [e2, e2, e3]; exact ih

theorem bump_lookup : ∀ (m : Mp) (s : Bs), (bump m s).lookup s = some (cnt m s + 1)
  | [], s => by simp [bump, cnt, List.lookup]
  | (k, n) :: m, s => by
    by_cases h : k = s
    · subst h; simp [bump, cnt, List.lookup]
    · have hs : (s == k) = false := by simp; exact fun e => h e.symm
      have ih := bump_lookup m s
      simp [bump, cnt, List.lookup, h, hs]
      simpa [cnt] using ih
theorem cnt_val (m : Mp) (s : Bs) : (cond false (.tup [((m.lookup s).map iv).getD (zeroA ty3), bv ((m.lookup s).map iv).isSome]) (((m.lookup s).map iv).getD (zeroA ty3))) = iv (cnt m s) := by
  unfold cnt
  cases m.lookup s <;> rfl
/-- one line -/
def lineE (m met : Mp) (n : Nat) (c : Bs) : Int :=
  cond (!ended c || (isLab (bare c) && !nameP (labName (bare c)))) 12
    (cond (isLab (bare c) && decide (cnt met (bare c) + 1 > 1)) 11
      (cond (isLab (bare c)) 0 (cond (decide ((instrP m (bare c)).2 = 0)) (cond (decide (n = 1000)) 2 0) (instrP m (bare c)).2)))
def lineC (m : Mp) (cd : List Ins) (c : Bs) : List Ins := cond (isLab (bare c)) cd (cd ++ [(instrP m (bare c)).1])
def pSt (m : Mp) (cs : List Bs) (k : Nat) : Mp × List Ins := (cs.take k).foldl (fun st c => (bump st.1 (bare c), lineC m st.2 c)) ([], [])
def pE (m : Mp) (cs : List Bs) (k : Nat) : Int := match cs[k]? with | some c => lineE m (pSt m cs k).1 (pSt m cs k).2.length c | none => 0
theorem pSt_succ {m : Mp} {cs : List Bs} {k : Nat} (h : k < cs.length) : pSt m cs (k + 1) = (bump (pSt m cs k).1 (bare cs[k]), lineC m (pSt m cs k).2 cs[k]) := by
  unfold pSt
  rw [List.take_succ_eq_append_getElem h, List.foldl_append]; rfl
/-- the first line at fault -/
def bad1 (e : Nat → Int) : Nat → Option Nat
  | 0 => none
  | n + 1 => match bad1 e n with | some k => some k | none => cond (decide (e n = 0)) none (some n)
def parseP (s : Bs) : List Ins × Int × Int :=
  cond (decide (s.length > 40000)) ([], 0, 2)
    (match bad1 (pE (labels s) (chunks s)) (chunks s).length with
     | some k => ([], (k : Int) + 1, pE (labels s) (chunks s) k)
     | none => ((pSt (labels s) (chunks s) (chunks s).length).2, 0, 0))
theorem bad1_none {e : Nat → Int} : ∀ {n : Nat}, (∀ q, q < n → e q = 0) → bad1 e n = none
  | 0, _ => rfl
  | n + 1, h => by simp [bad1, bad1_none (n := n) fun q hq => h q (by omega), h n (by omega)]
theorem bad1_some {e : Nat → Int} {k : Nat} (h : ∀ q, q < k → e q = 0) (hk : e k ≠ 0) : ∀ {n : Nat}, k < n → bad1 e n = some k
  | 0, hn => by omega
  | n + 1, hn => by
    by_cases hkn : k = n
    · subst hkn
      simp [bad1, bad1_none h, hk]
    · simp [bad1, bad1_some h hk (n := n) (by omega)]
theorem pSt_le (m : Mp) (cs : List Bs) : ∀ k, k ≤ cs.length → (∀ t, 0 ≤ cnt (pSt m cs k).1 t ∧ cnt (pSt m cs k).1 t ≤ k) ∧ (pSt m cs k).2.length ≤ k
  | 0, _ => ⟨fun t => ⟨Int.le_refl _, Int.le_refl _⟩, Nat.le_refl _⟩
  | k + 1, hk => by
    obtain ⟨i1, i2⟩ := pSt_le m cs k (by omega)
    rw [pSt_succ (show k < cs.length by omega)]
    refine ⟨fun t => ?_, ?_⟩
    · rw [bump_cnt]
      have a := i1 (bare cs[k]); have b := i1 t
      cases decide (bare cs[k] = t) <;> simp <;> omega
    · unfold lineC
      cases isLab (bare cs[k]) <;> simp <;> omega

theorem fin_arr {H Ho : List AObj} {n j g es : Nat} {t : TypeId} {xs rest rest' : List AVal} (hn : kap n [] j = none) (hj : H[j]? = some (.arr g t es xs)) (hr : finL (kap n []) H true rest = some rest') (ht : finOs (kap n []) H true (H.take n) = some Ho) :
    finish n [] true H (.tup (.arr j g :: rest)) = some (.tup (.sl xs :: rest'), Ho) := by
  simp [finish, finV, finL, hn, hj, hr, picks, ht]
def ord23 : List (List Nat) := [[0,1,2,3,4],[0,2,1,3,4],[0,2,3,1,4],[1,0,2,3,4],[1,2,0,3,4],[2,0,1,3,4],[2,0,3,1,4],[2,1,0,3,4]]
def encIs (l : List Ins) : AVal := .sl (l.map encIns)
/-- the heap at a round's head -/
def pH (g : Gl) (s : Bs) (l : Nat) (c : LoopS) (k : Nat) : List AObj :=
  gls g ++ [.box 23 [.slf []], .box 3 [iv 0], .box 24 [iv 0], .vmap (encM (labels s)), .box 40 [.mp 7], .map (rdF 8), .box 42 [.mp 9],
    .vmap (encM (pSt (labels s) (chunks s) k).1), .box 40 [.mp 11], .box 23 [.arr 16 ((pSt (labels s) (chunks s) k).2.length + 1)], .box 3 [iv k], .box 9 [sv (restAt s k)],
    .arr ((pSt (labels s) (chunks s) k).2.length + 1) 31 4 ((pSt (labels s) (chunks s) k).2.map encIns), .loop l .ready none c [.ptr 4 0, .ptr 5 0, .ptr 6 0, .ptr 10 0, .ptr 12 0, .ptr 13 0, .ptr 14 0]]
theorem parse_ok (g : Gl) (s : Bs) (hs : s.length ≤ 1000000) : ACalls Tryd.prog 9 [sv s] (gls g) (one (.tup [encIs (parseP s).1, iv (parseP s).2.1, iv (parseP s).2.2]) (gls g)) := by
  have hl := labels_ok s hs
  have hr := readers_ok (labels s)
  have hln := lines_ok s
  unfold parseP
  have hsz : ((ByteArray.size ⟨s.toArray⟩ : Int) > 40000) = (s.length > 40000) := by
    rw [show ByteArray.size ⟨s.toArray⟩ = s.length from rfl]; apply propext; omega
  by_cases h4 : s.length > 40000
  · rw [decide_eq_true h4]
    have hd : decide ((ByteArray.size ⟨s.toArray⟩ : Int) > 40000) = true := decide_eq_true (hsz ▸ h4)
    refine jcalls Tryd.func9 rfl (by kernel_rfl) Tryd.ntmps9 rfl rfl (fun w0 β0 ext hβ => ?_)
    repeat (first | refine js rfl ?_ | (refine jdraw ?_ ?_; · kernel_rfl) | refine jbu rfl rfl rfl rfl ?_)
    rw [hd]
    repeat (first | refine js rfl ?_ | (refine jdraw ?_ ?_; · kernel_rfl) | refine jbu rfl rfl rfl rfl ?_)
    exact jr rfl rfl rfl rfl
  · rw [decide_eq_false h4]
    have hd : decide ((ByteArray.size ⟨s.toArray⟩ : Int) > 40000) = false := decide_eq_false (hsz ▸ h4)
    refine jcalls Tryd.func9 rfl (by kernel_rfl) Tryd.ntmps9 rfl rfl (fun w0 β0 ext hβ => ?_)
    repeat (first | refine js rfl ?_ | (refine jdraw ?_ ?_; · kernel_rfl) | refine jbu rfl rfl rfl rfl ?_)
    rw [hd]
    repeat (first | refine js rfl ?_ | (refine jdraw ?_ ?_; · kernel_rfl) | refine jbu rfl rfl rfl rfl ?_)
    refine jb [] hl rfl rfl rfl ⟨rfl, rfl, rfl, rfl, rfl, rfl⟩ rfl rfl rfl rfl ?_
    repeat (first | refine js rfl ?_ | (refine jdraw ?_ ?_; · kernel_rfl) | refine jbu rfl rfl rfl rfl ?_)
    refine jb [7] hr rfl rfl rfl ⟨rfl, rfl, rfl, rfl, rfl, rfl⟩ rfl rfl rfl rfl ?_
    repeat (first | refine js rfl ?_ | (refine jdraw ?_ ?_; · kernel_rfl) | refine jbu rfl rfl rfl rfl ?_ | refine jo rfl rfl (map_newV) rfl rfl ?_)
    refine jb [] hln rfl rfl rfl ⟨rfl, rfl, rfl, rfl, rfl, rfl⟩ rfl rfl rfl rfl ?_
    repeat (first | refine js rfl ?_ | (refine jdraw ?_ ?_; · kernel_rfl) | refine jbu rfl rfl rfl rfl ?_)
    refine jadB 13 0 31 4 rfl rfl rfl rfl ?_
    refine jrange [2, 3, 4, 6, 7, 8, 9] rfl rfl rfl (fun l c c1 c2 c3 c4 c5 => ?_)
    have hc := lines1_ok l 15 s hs (pH g s l c) (fun k => ∀ q, q < k → pE (labels s) (chunks s) q = 0) (fun q h => absurd h (by omega))
      (fun H' => ∃ k, k < (chunks s).length ∧ (∀ q, q < k → pE (labels s) (chunks s) q = 0) ∧ pE (labels s) (chunks s) k ≠ 0 ∧ ∃ o7 o8 o9 o10 o11 o12 o13 o14 o15 o16, H' = gls g ++ [.box 23 [.slf []], .box 3 [iv (IntKind.i64.wrap ((k : Int) + 1))], .box 24 [iv (pE (labels s) (chunks s) k)], o7, o8, o9, o10, o11, o12, o13, o14, o15, o16, .loop l .done (some .ret) c [.ptr 4 0, .ptr 5 0, .ptr 6 0, .ptr 10 0, .ptr 12 0, .ptr 13 0, .ptr 14 0]])
      (fun k _ => rfl) (fun k hk hok => ?_)
    · refine ⟨_, hc, fun r H' hres => ?_⟩
      obtain ⟨rfl, ⟨rfl, hok⟩ | ⟨k, hk, hok, hbad, o7, o8, o9, o10, o11, o12, o13, o14, o15, o16, rfl⟩⟩ := hres
      · refine ⟨_, .ready, none, _, .normal, rfl, rfl, by decide, rfl, ?_⟩
        rw [bad1_none hok]
        repeat (first | refine js rfl ?_ | (refine jdraw ?_ ?_; · kernel_rfl) | refine jbu rfl rfl rfl rfl ?_)
        exact jr rfl (fin_arr rfl rfl rfl rfl) rfl rfl
      · refine ⟨_, .done, some .ret, _, .ret, rfl, rfl, by decide, rfl, ?_⟩
        rw [bad1_some hok hbad hk, wrap_id (n := (k : Int) + 1) (by have := chunks_len s; omega) (by have := chunks_len s; omega)]
        repeat (first | refine js rfl ?_ | (refine jdraw ?_ ?_; · kernel_rfl) | refine jbu rfl rfl rfl rfl ?_)
        exact jret [] true rfl rfl rfl ⟨rfl, rfl⟩
    · refine jround (ts := [2, 3, 4, 6, 7, 8, 9]) c1 c2 c3 c4 c5 (j := 17) rfl rfl rfl (fun w1 β1 ext1 hβ1 => ?_)
      clear c1 c2 c3 c4 c5
      have hcl := chunks_len s
      have hkl := chunk_len s hk
      have hst := pSt_succ (m := labels s) hk
      have hle := pSt_le (labels s) (chunks s) k (by omega)
      have hE : pE (labels s) (chunks s) k = lineE (labels s) (pSt (labels s) (chunks s) k).1 (pSt (labels s) (chunks s) k).2.length (chunks s)[k] := by simp [pE, List.getElem?_eq_getElem hk]
      have hnx := idx_next hk (by omega)
      have hbl := bare_len (chunks s)[k]
      have hcu := cutSuffix_ok ((chunks s)[k]) [10] (by omega)
      have hcu2 := cutSuffix_ok (bare (chunks s)[k]) [58] (by omega)
      have hnm := isName_ok (labName (bare (chunks s)[k]))
      have hins := instr_ok g (labels s) (bare (chunks s)[k]) (by omega)
      have hnext : pE (labels s) (chunks s) k = 0 → ∀ q, q < k + 1 → pE (labels s) (chunks s) q = 0 := fun h0 q hq => by
        by_cases hqk : q = k
        · subst hqk; exact h0
        · exact hok q (by omega)
      have hpk : pH g s l c (k + 1) = gls g ++ [.box 23 [.slf []], .box 3 [iv 0], .box 24 [iv 0], .vmap (encM (labels s)), .box 40 [.mp 7], .map (rdF 8), .box 42 [.mp 9],
          .vmap (encM (bump (pSt (labels s) (chunks s) k).1 (bare (chunks s)[k]))), .box 40 [.mp 11], .box 23 [.arr 16 ((lineC (labels s) (pSt (labels s) (chunks s) k).2 (chunks s)[k]).length + 1)], .box 3 [iv (IntKind.i64.wrap ((k : Int) + 1))], .box 9 [sv (restAt s (k + 1))],
          .arr ((lineC (labels s) (pSt (labels s) (chunks s) k).2 (chunks s)[k]).length + 1) 31 4 ((lineC (labels s) (pSt (labels s) (chunks s) k).2 (chunks s)[k]).map encIns), .loop l .ready none c [.ptr 4 0, .ptr 5 0, .ptr 6 0, .ptr 10 0, .ptr 12 0, .ptr 13 0, .ptr 14 0]] := by
        unfold pH
        rw [hst, hnx]
      rw [hpk]
      unfold pH
      rw [hE] at hnext
      generalize hstk : pSt (labels s) (chunks s) k = st at *
      obtain ⟨met, cd⟩ := st
      have hf := encM_find met (bare (chunks s)[k])
      have hks := encM_keys met
      have hpu := bump_put met (bare (chunks s)[k])
      have hval := cnt_val met (bare (chunks s)[k])
      have hf2 := encM_find (bump met (bare (chunks s)[k])) (bare (chunks s)[k])
      have hks2 := encM_keys (bump met (bare (chunks s)[k]))
      rw [bump_lookup] at hf2
      have hcn := hle.1 (bare (chunks s)[k])
      simp only at hcn
      have hadd : IntKind.i64.wrap (cnt met (bare (chunks s)[k]) + 1) = cnt met (bare (chunks s)[k]) + 1 := wrap_id (by omega) (by omega)
      rw [← hadd] at hpu
      clear hst hl hr hln hstk
      rw [show Lib.trimSuffix (chunks s)[k] [10] = bare (chunks s)[k] from rfl] at hcu
      rw [show Lib.trimSuffix (bare (chunks s)[k]) [58] = labName (bare (chunks s)[k]) from rfl] at hcu2
      unfold lineC
      unfold lineE ended at hE hnext
      unfold isLab at hE hnext ⊢
      generalize restAt s (k + 1) = rr
      generalize restAt s k = rk
      generalize Lib.hasSuffix (chunks s)[k] [10] = e at *
      generalize Lib.hasSuffix (bare (chunks s)[k]) [58] = lab at *
      generalize nameP (labName (bare (chunks s)[k])) = nm at *
      generalize labName (bare (chunks s)[k]) = lname at *
      generalize instrP (labels s) (bare (chunks s)[k]) = ip at *
      obtain ⟨ins, bad⟩ := ip
      simp only at hE hnext hins
      unfold sv bv at hcu hcu2 hnm
      generalize bare (chunks s)[k] = b at *
      generalize (chunks s)[k] = ch at *
      repeat (first | refine js rfl ?_ | (refine jdraw ?_ ?_; · kernel_rfl) | refine jbu rfl rfl rfl rfl ?_)
      refine jlp ⟨rfl, ?_⟩
      repeat (first | refine js rfl ?_ | (refine jdraw ?_ ?_; · kernel_rfl) | refine jbu rfl rfl rfl rfl ?_ | refine jv hcu rfl rfl rfl rfl rfl ?_ | refine jv hcu2 rfl rfl rfl rfl rfl ?_ | refine jo rfl rfl (map_get rfl rfl rfl rfl rfl rfl rfl rfl rfl trivial hks hf hval) rfl rfl ?_ | refine jo rfl rfl (map_put (mo' := .vmap (encM (bump met b))) (.inl rfl) rfl rfl rfl rfl rfl rfl rfl rfl rfl trivial hks hpu rfl) rfl rfl ?_)
      have hcd : cd.length ≤ k := hle.2
      cases e
      · simp only [Bool.not_false, Bool.true_or, cond_true] at hE
        repeat (first | refine js rfl ?_ | refine jbu rfl rfl rfl rfl ?_)
        refine jord2 (L1 := [0, 1, 2, 3]) (L2 := [1, 0, 2, 3]) (by kernel_rfl) rfl rfl ?_ ?_
        all_goals (
          repeat (first | refine js rfl ?_ | refine jbu rfl rfl rfl rfl ?_)
        )
        all_goals refine jrendW false (some .ret) rfl rfl rfl rfl (.inr ⟨rfl, k, hk, hok, by rw [hE]; decide, ?_⟩)
        all_goals rw [hE]
        all_goals exact ⟨_, _, _, _, _, _, _, _, _, _, rfl⟩
      · cases lab
        · simp only [Bool.not_true, Bool.false_or, Bool.false_and, cond_false] at hE hnext
          repeat (first | refine js rfl ?_ | (refine jdraw ?_ ?_; · kernel_rfl) | refine jbu rfl rfl rfl rfl ?_)
          refine jb [0,1,2,3,7,8,9] hins rfl rfl rfl ⟨rfl, rfl, rfl, rfl, rfl, rfl⟩ rfl rfl rfl rfl ?_
          repeat (first | refine js rfl ?_ | (refine jdraw ?_ ?_; · kernel_rfl) | refine jbu rfl rfl rfl rfl ?_)
          by_cases hb0 : bad = 0
          · subst hb0
            simp only [decide_true, cond_true] at hE hnext
            repeat (first | refine js rfl ?_ | refine jbu rfl rfl rfl rfl ?_ | refine jo rfl rfl (len_arr rfl rfl rfl rfl) rfl rfl ?_)
            have hq : (((cd.map encIns).length : Int) == 1000) = decide (cd.length = 1000) := by
              rw [List.length_map, Bool.eq_iff_iff]; simp; omega
            cases h1000 : decide (cd.length = 1000) with
            | true =>
              rw [h1000] at hE hq
              simp only [cond_true] at hE
              rw [hq]
              repeat (first | refine js rfl ?_ | refine jbu rfl rfl rfl rfl ?_)
              refine jorders (Ls := ord23) (by kernel_rfl) (fun L hm => ?_)
              simp only [ord23, List.mem_cons, List.not_mem_nil, or_false] at hm
              rcases hm with rfl | rfl | rfl | rfl | rfl | rfl | rfl | rfl
              all_goals (
                repeat (first | refine js rfl ?_ | refine jbu rfl rfl rfl rfl ?_)
              )
              all_goals refine jrendW false (some .ret) rfl rfl rfl rfl (.inr ⟨rfl, k, hk, hok, by rw [hE]; decide, ?_⟩)
              all_goals rw [hE]
              all_goals exact ⟨_, _, _, _, _, _, _, _, _, _, rfl⟩
            | false =>
              rw [h1000] at hnext hq
              rw [hq]
              repeat (first | refine jo rfl rfl (append_enc (enc := encIns) (l := cd) ins rfl rfl rfl rfl rfl rfl rfl rfl rfl rfl (fun _ => ⟨rfl, rfl⟩) rfl (by omega) rfl rfl) rfl rfl ?_ | refine js rfl ?_ | refine jbu rfl rfl rfl rfl ?_)
              refine jrendW false none rfl rfl rfl rfl (.inl ⟨rfl, ?_, hnext rfl⟩)
              have e1 : (cond false cd (cd ++ [ins])).length = cd.length + 1 := by simp
              simp only [cond_false, List.length_append]
              rfl
          · have e0 : (bad == 0) = false := by simpa using hb0
            have e1 : (bad != 0) = true := by simpa using hb0
            rw [decide_eq_false hb0] at hE
            simp only [cond_false] at hE
            rw [e0]
            repeat (first | refine js rfl ?_ | (refine jdraw ?_ ?_; · kernel_rfl) | refine jbu rfl rfl rfl rfl ?_)
            rw [e1]
            repeat (first | refine js rfl ?_ | refine jbu rfl rfl rfl rfl ?_)
            refine jorders (Ls := ord23) (by kernel_rfl) (fun L hm => ?_)
            simp only [ord23, List.mem_cons, List.not_mem_nil, or_false] at hm
            rcases hm with rfl | rfl | rfl | rfl | rfl | rfl | rfl | rfl
            all_goals (
              repeat (first | refine js rfl ?_ | refine jbu rfl rfl rfl rfl ?_)
            )
            all_goals refine jrendW false (some .ret) rfl rfl rfl rfl (.inr ⟨rfl, k, hk, hok, by rw [hE]; exact hb0, ?_⟩)
            all_goals rw [hE]
            all_goals exact ⟨_, _, _, _, _, _, _, _, _, _, rfl⟩
        · cases nm
          · simp only [Bool.not_true, Bool.not_false, Bool.false_or, Bool.true_and, Bool.and_self, cond_true] at hE
            repeat (first | refine js rfl ?_ | refine jbu rfl rfl rfl rfl ?_ | refine jv hnm rfl rfl rfl rfl rfl ?_)
            refine jord2 (L1 := [0, 1, 2, 3]) (L2 := [1, 0, 2, 3]) (by kernel_rfl) rfl rfl ?_ ?_
            all_goals (
              repeat (first | refine js rfl ?_ | refine jbu rfl rfl rfl rfl ?_)
            )
            all_goals refine jrendW false (some .ret) rfl rfl rfl rfl (.inr ⟨rfl, k, hk, hok, by rw [hE]; decide, ?_⟩)
            all_goals rw [hE]
            all_goals exact ⟨_, _, _, _, _, _, _, _, _, _, rfl⟩
          · simp only [Bool.not_true, Bool.false_or, Bool.true_and, Bool.and_false, cond_false, cond_true] at hE hnext
            repeat (first | refine js rfl ?_ | (refine jdraw ?_ ?_; · kernel_rfl) | refine jbu rfl rfl rfl rfl ?_ | refine jv hnm rfl rfl rfl rfl rfl ?_ | refine jo rfl rfl (map_get rfl rfl rfl rfl rfl rfl rfl rfl rfl trivial hks2 hf2 rfl) rfl rfl ?_)
            cases hc1 : decide (cnt met b + 1 > 1) with
            | true =>
              rw [hc1] at hE
              simp only [cond_true] at hE
              repeat (first | refine js rfl ?_ | refine jbu rfl rfl rfl rfl ?_)
              refine jord2 (L1 := [0, 1, 2, 3]) (L2 := [1, 0, 2, 3]) (by kernel_rfl) rfl rfl ?_ ?_
              all_goals (
                repeat (first | refine js rfl ?_ | refine jbu rfl rfl rfl rfl ?_)
              )
              all_goals refine jrendW false (some .ret) rfl rfl rfl rfl (.inr ⟨rfl, k, hk, hok, by rw [hE]; decide, ?_⟩)
              all_goals rw [hE]
              all_goals exact ⟨_, _, _, _, _, _, _, _, _, _, rfl⟩
            | false =>
              rw [hc1] at hnext
              repeat (first | refine js rfl ?_ | (refine jdraw ?_ ?_; · kernel_rfl) | refine jbu rfl rfl rfl rfl ?_)
              exact jrendW false none rfl rfl rfl rfl (.inl ⟨rfl, rfl, hnext rfl⟩)
end Go.AL
