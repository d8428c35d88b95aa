/-
  The law AsmJoins: the walk. No conditions.
-/
import Derived.Test.YtaoiflliakjhdaaDoorW1
set_option linter.unusedVariables false
set_option linter.unusedSimpArgs false
set_option maxRecDepth 100000
namespace Go.AL
open Go Go.Proofs
attribute [local irreducible] J

theorem at_app_l (a b : List Ins) {i : Nat} (h : i < a.length) : at' (a ++ b) (i : Int) = at' a (i : Int) := by
  rw [at_nat _ i (by rw [List.length_append]; omega), at_nat _ i h, List.getElem_append_left h]
theorem at_app_r (a b : List Ins) (f : Ins → Ins) {i : Nat} (h : ¬ i < a.length) (h2 : i < (a ++ b.map f).length) : at' (a ++ b.map f) (i : Int) = f (at' b ((i - a.length : Nat) : Int)) ∧ i - a.length < b.length := by
  have h3 : i - a.length < b.length := by rw [List.length_append, List.length_map] at h2; omega
  refine ⟨?_, h3⟩
  rw [at_nat _ i h2, at_nat _ _ h3, List.getElem_append_right (by omega)]
  simp
theorem joins_ok (g : Gl) (s t : Bs) (hs : s.length ≤ 9223372036854775807) (ht : t.length ≤ 9223372036854775807) : ACalls Tryd.prog 4 [sv s, sv t] (gls g) (one (bv true) (gls g)) := by
  have p1 := part_ok s hs
  have p2 := part_ok t ht
  have hl1 : (s.take 3000).length ≤ 3000 := by rw [List.length_take]; omega
  have hl2 : (t.take 3000).length ≤ 3000 := by rw [List.length_take]; omega
  generalize s.take 3000 = s1 at *
  generalize t.take 3000 = t1 at *
  have h1 := parse_ok g s1 (by omega)
  have h2 := parse_ok g t1 (by omega)
  have h3 := parse_ok g (s1 ++ t1) (by rw [List.length_append]; omega)
  have h4 := alive_ok g
  have hj := join_eq s1 t1 hl1 hl2
  have bad1 := @rparse_bad s1
  have bad2 := @rparse_bad t1
  have good1 := @rparse_good s1
  have good2 := @rparse_good t1
  have bd2 := rparse_bd t1 (by omega)
  have ln1 := rparse_len s1
  have ln2 := rparse_len t1
  rw [parse_eq] at h1 h2 h3
  have g1 : (rparse s1).2.2 = 0 → (rparse s1).2.1 = 0 := fun h => by rw [(good1 h).2.2.2]
  have g2 : (rparse t1).2.2 = 0 → (rparse t1).2.1 = 0 := fun h => by rw [(good2 h).2.2.2]
  clear good1 good2
  generalize rparse s1 = r1 at *
  generalize rparse t1 = r2 at *
  generalize rparse (s1 ++ t1) = r3 at *
  obtain ⟨a, n, e⟩ := r1
  obtain ⟨b, k, f⟩ := r2
  simp only at h1 h2 hj bad1 bad2 bd2 ln1 ln2 g1 g2
  by_cases he : e = 0
  · subst he
    obtain rfl : n = 0 := g1 rfl
    by_cases hf : f = 0
    · subst hf
      obtain rfl : k = 0 := g2 rfl
      have hcat : s1.length + t1.length ≤ 1000000000 := by omega
      rcases hj rfl rfl with h | ⟨q, hq, h⟩ | ⟨q, hq, h, hsz⟩
      · subst h
        simp only at h3
        generalize hal' : a ++ b.map (mv (a.length : Nat)) = al at *
        have hal := hal'.symm
        have cl : (al.map encIns).length = a.length + b.length := by rw [hal]; simp
        have c1 : ((((al.map encIns).length : Nat) : Int) != IntKind.i64.wrap (((a.map encIns).length : Int) + ((b.map encIns).length : Int))) = false := by
          rw [cl, show (a.map encIns).length = a.length from List.length_map _, show (b.map encIns).length = b.length from List.length_map _, wrap_id (by omega) (by omega)]
          simp
        have cl2 : al.length = a.length + b.length := by simpa using cl
        refine jcalls Tryd.func4 rfl (by kernel_rfl) Tryd.ntmps4 rfl rfl (fun w0 β0 ext hβ => ?_)
        repeat (first | refine js rfl ?_ | (refine jdraw ?_ ?_; · kernel_rfl) | refine jbu rfl rfl rfl rfl ?_ | refine jv p1 rfl rfl rfl rfl rfl ?_ | refine jv p2 rfl rfl rfl rfl rfl ?_)
        refine jb [0,1,2,3] h1 rfl rfl rfl ⟨rfl, rfl, rfl, rfl, rfl, rfl⟩ rfl rfl rfl rfl ?_
        repeat (first | refine js rfl ?_ | (refine jdraw ?_ ?_; · kernel_rfl) | refine jbu rfl rfl rfl rfl ?_)
        refine jb [0,1,2,3] h2 rfl rfl rfl ⟨rfl, rfl, rfl, rfl, rfl, rfl⟩ rfl rfl rfl rfl ?_
        repeat (first | refine js rfl ?_ | (refine jdraw ?_ ?_; · kernel_rfl) | refine jbu rfl rfl rfl rfl ?_ | refine jo rfl rfl (cat_str rfl rfl hcat) rfl rfl ?_)
        refine jb [0,1,2,3] h3 rfl rfl rfl ⟨rfl, rfl, rfl, rfl, rfl, rfl⟩ rfl rfl rfl rfl ?_
        repeat (first | refine js rfl ?_ | (refine jdraw ?_ ?_; · kernel_rfl) | refine jbu rfl rfl rfl rfl ?_)
        rw [c1]
        repeat (first | refine js rfl ?_ | (refine jdraw ?_ ?_; · kernel_rfl) | refine jbu rfl rfl rfl rfl ?_)
        refine jb [0,1,2,3] h4 rfl rfl rfl ⟨rfl, rfl, rfl, rfl, rfl, rfl⟩ rfl rfl rfl rfl ?_
        repeat (first | refine js rfl ?_ | (refine jdraw ?_ ?_; · kernel_rfl) | refine jbu rfl rfl rfl rfl ?_)
        refine jloop 4 (fun i : Nat => i ≤ al.length) [5, 8, 11, 117, 118, 119] (fun i => [.sl (a.map encIns), .sl (b.map encIns), .sl (al.map encIns), .sl (al.map encIns), .v (.int .i64 ((al.map encIns).length : Int)), .v (.int .i64 (i : Int))])
          (fun i => gls g) (fun i => al.length - i) 0 (by rw [hβ]; exact Nat.le_refl 4) (Nat.zero_le _) rfl rfl (fun i hi => ?_)
        repeat (first | refine js rfl ?_ | (refine jdraw ?_ ?_; · kernel_rfl) | refine jbu rfl rfl rfl rfl ?_)
        refine jc rfl rfl rfl (fun h => ?_) (fun h => ?_)
        · have h := of_decide_eq_true h
          rw [List.length_map] at h
          have hi1 : i < al.length := by omega
          have w1 := idx_next hi1 (by omega)
          repeat (first | refine js rfl ?_ | (refine jdraw ?_ ?_; · kernel_rfl) | refine jbu rfl rfl rfl rfl ?_ | refine jo rfl rfl (index_at rfl rfl rfl rfl rfl rfl rfl rfl (Int.natCast_nonneg i) h) rfl rfl ?_)
          refine jc rfl rfl rfl (fun h2 => ?_) (fun h2 => ?_)
          · have h2 := of_decide_eq_true h2
            rw [List.length_map] at h2
            have hx : at' al (i : Int) = at' a (i : Int) := by rw [hal]; exact at_app_l _ _ (by omega)
            rw [hx]
            generalize hy : at' a (i : Int) = y
            repeat (first | refine js rfl ?_ | (refine jdraw ?_ ?_; · kernel_rfl) | refine jbu rfl rfl rfl rfl ?_ | refine jo rfl rfl (index_at rfl rfl rfl rfl rfl rfl rfl rfl (Int.natCast_nonneg i) h2) rfl rfl ?_)
            rw [hy]
            obtain ⟨op, ya, yb, yc⟩ := y
            repeat (first | refine js rfl ?_ | (refine jdraw ?_ ?_; · kernel_rfl) | refine jbu rfl rfl rfl rfl ?_ | refine jo rfl rfl (eq_ints (xs := [op, ya, yb, yc]) (ys := [op, ya, yb, yc]) (Or.inr rfl) rfl rfl rfl rfl rfl rfl (by kernel_rfl) (by kernel_rfl)) rfl rfl ?_)
            refine jc rfl rfl rfl (fun h => absurd h (by simp)) (fun h => ?_)
            repeat (first | refine js rfl ?_ | (refine jdraw ?_ ?_; · kernel_rfl) | refine jbu rfl rfl rfl rfl ?_)
            refine jnext (i + 1) (by omega) (by omega) rfl rfl rfl ?_ rfl
            rw [w1]
          · have h2 := of_decide_eq_false h2
            rw [List.length_map] at h2
            have h2' : ¬ i < a.length := by omega
            obtain ⟨hx, hj2⟩ := at_app_r a b (mv (a.length : Nat)) h2' (by rw [← hal]; exact hi1)
            rw [← hal] at hx
            have hw : IntKind.i64.wrap ((i : Int) - ((a.map encIns).length : Int)) = ((i - a.length : Nat) : Int) := by
              rw [show (a.map encIns).length = a.length from List.length_map _, wrap_id (by omega) (by omega)]; omega
            have hb := bd2 (at' b ((i - a.length : Nat) : Int)) (by rw [at_nat b _ hj2]; exact List.getElem_mem hj2)
            rw [hx]
            generalize hy : at' b ((i - a.length : Nat) : Int) = y at hb
            repeat (first | refine js rfl ?_ | (refine jdraw ?_ ?_; · kernel_rfl) | refine jbu rfl rfl rfl rfl ?_)
            rw [hw]
            repeat (first | refine js rfl ?_ | (refine jdraw ?_ ?_; · kernel_rfl) | refine jbu rfl rfl rfl rfl ?_ | refine jo rfl rfl (index_at rfl rfl rfl rfl rfl rfl rfl rfl (Int.natCast_nonneg (i - a.length)) (show ((i - a.length : Nat) : Int) < b.length by omega)) rfl rfl ?_)
            rw [hy]
            obtain ⟨op, ya, yb, yc⟩ := y
            obtain ⟨_, ba, bb, _⟩ := hb
            unfold bd at ba bb
            simp only at ba bb
            have wa : IntKind.i64.wrap (ya + ((a.map encIns).length : Int)) = ya + a.length := by
              rw [show (a.map encIns).length = a.length from List.length_map _]; exact wrap_id (by omega) (by omega)
            have wb : IntKind.i64.wrap (yb + ((a.map encIns).length : Int)) = yb + a.length := by
              rw [show (a.map encIns).length = a.length from List.length_map _]; exact wrap_id (by omega) (by omega)
            by_cases o10 : op = 10
            · subst o10
              repeat (first | refine js rfl ?_ | (refine jdraw ?_ ?_; · kernel_rfl) | refine jbu rfl rfl rfl rfl ?_)
              rw [wa]
              repeat (first | refine js rfl ?_ | (refine jdraw ?_ ?_; · kernel_rfl) | refine jbu rfl rfl rfl rfl ?_)
              repeat (first | refine js rfl ?_ | (refine jdraw ?_ ?_; · kernel_rfl) | refine jbu rfl rfl rfl rfl ?_ | refine jo rfl rfl (eq_ints (xs := [_, _, _, _]) (ys := [_, _, _, _]) (Or.inr rfl) rfl rfl rfl rfl rfl rfl (by kernel_rfl) (by kernel_rfl)) rfl rfl ?_)
              refine jc rfl rfl rfl (fun h => absurd h (by simp [mv])) (fun h => ?_)
              repeat (first | refine js rfl ?_ | (refine jdraw ?_ ?_; · kernel_rfl) | refine jbu rfl rfl rfl rfl ?_)
              refine jnext (i + 1) (by omega) (by omega) rfl rfl rfl ?_ rfl
              rw [w1]
            by_cases o13 : op = 13
            · subst o13
              repeat (first | refine js rfl ?_ | (refine jdraw ?_ ?_; · kernel_rfl) | refine jbu rfl rfl rfl rfl ?_)
              rw [wa]
              repeat (first | refine js rfl ?_ | (refine jdraw ?_ ?_; · kernel_rfl) | refine jbu rfl rfl rfl rfl ?_)
              repeat (first | refine js rfl ?_ | (refine jdraw ?_ ?_; · kernel_rfl) | refine jbu rfl rfl rfl rfl ?_ | refine jo rfl rfl (eq_ints (xs := [_, _, _, _]) (ys := [_, _, _, _]) (Or.inr rfl) rfl rfl rfl rfl rfl rfl (by kernel_rfl) (by kernel_rfl)) rfl rfl ?_)
              refine jc rfl rfl rfl (fun h => absurd h (by simp [mv])) (fun h => ?_)
              repeat (first | refine js rfl ?_ | (refine jdraw ?_ ?_; · kernel_rfl) | refine jbu rfl rfl rfl rfl ?_)
              refine jnext (i + 1) (by omega) (by omega) rfl rfl rfl ?_ rfl
              rw [w1]
            by_cases o11 : op = 11
            · subst o11
              repeat (first | refine js rfl ?_ | (refine jdraw ?_ ?_; · kernel_rfl) | refine jbu rfl rfl rfl rfl ?_)
              rw [wb]
              repeat (first | refine js rfl ?_ | (refine jdraw ?_ ?_; · kernel_rfl) | refine jbu rfl rfl rfl rfl ?_)
              repeat (first | refine js rfl ?_ | (refine jdraw ?_ ?_; · kernel_rfl) | refine jbu rfl rfl rfl rfl ?_ | refine jo rfl rfl (eq_ints (xs := [_, _, _, _]) (ys := [_, _, _, _]) (Or.inr rfl) rfl rfl rfl rfl rfl rfl (by kernel_rfl) (by kernel_rfl)) rfl rfl ?_)
              refine jc rfl rfl rfl (fun h => absurd h (by simp [mv])) (fun h => ?_)
              repeat (first | refine js rfl ?_ | (refine jdraw ?_ ?_; · kernel_rfl) | refine jbu rfl rfl rfl rfl ?_)
              refine jnext (i + 1) (by omega) (by omega) rfl rfl rfl ?_ rfl
              rw [w1]
            by_cases o12 : op = 12
            · subst o12
              repeat (first | refine js rfl ?_ | (refine jdraw ?_ ?_; · kernel_rfl) | refine jbu rfl rfl rfl rfl ?_)
              rw [wb]
              repeat (first | refine js rfl ?_ | (refine jdraw ?_ ?_; · kernel_rfl) | refine jbu rfl rfl rfl rfl ?_)
              repeat (first | refine js rfl ?_ | (refine jdraw ?_ ?_; · kernel_rfl) | refine jbu rfl rfl rfl rfl ?_ | refine jo rfl rfl (eq_ints (xs := [_, _, _, _]) (ys := [_, _, _, _]) (Or.inr rfl) rfl rfl rfl rfl rfl rfl (by kernel_rfl) (by kernel_rfl)) rfl rfl ?_)
              refine jc rfl rfl rfl (fun h => absurd h (by simp [mv])) (fun h => ?_)
              repeat (first | refine js rfl ?_ | (refine jdraw ?_ ?_; · kernel_rfl) | refine jbu rfl rfl rfl rfl ?_)
              refine jnext (i + 1) (by omega) (by omega) rfl rfl rfl ?_ rfl
              rw [w1]
            have e10 : (op == 10) = false := by simpa using o10
            have e13 : (op == 13) = false := by simpa using o13
            have e11 : (op == 11) = false := by simpa using o11
            have e12 : (op == 12) = false := by simpa using o12
            repeat (first | refine js rfl ?_ | (refine jdraw ?_ ?_; · kernel_rfl) | refine jbu rfl rfl rfl rfl ?_)
            rw [e10]
            repeat (first | refine js rfl ?_ | (refine jdraw ?_ ?_; · kernel_rfl) | refine jbu rfl rfl rfl rfl ?_)
            rw [e13]
            repeat (first | refine js rfl ?_ | (refine jdraw ?_ ?_; · kernel_rfl) | refine jbu rfl rfl rfl rfl ?_)
            rw [e11]
            repeat (first | refine js rfl ?_ | (refine jdraw ?_ ?_; · kernel_rfl) | refine jbu rfl rfl rfl rfl ?_)
            rw [e12]
            repeat (first | refine js rfl ?_ | (refine jdraw ?_ ?_; · kernel_rfl) | refine jbu rfl rfl rfl rfl ?_)
            repeat (first | refine js rfl ?_ | (refine jdraw ?_ ?_; · kernel_rfl) | refine jbu rfl rfl rfl rfl ?_ | refine jo rfl rfl (eq_ints (xs := [_, _, _, _]) (ys := [_, _, _, _]) (Or.inr rfl) rfl rfl rfl rfl rfl rfl (by kernel_rfl) (by kernel_rfl)) rfl rfl ?_)
            refine jc rfl rfl rfl (fun h => absurd h (by simp [mv, o10, o13, o11, o12])) (fun h => ?_)
            repeat (first | refine js rfl ?_ | (refine jdraw ?_ ?_; · kernel_rfl) | refine jbu rfl rfl rfl rfl ?_)
            refine jnext (i + 1) (by omega) (by omega) rfl rfl rfl ?_ rfl
            rw [w1]
        · repeat (first | refine js rfl ?_ | (refine jdraw ?_ ?_; · kernel_rfl) | refine jbu rfl rfl rfl rfl ?_)
          exact jr rfl rfl rfl rfl
      · subst h
        simp only at h3
        have c1 : decide ((q : Int) + 1 > 0) = true := decide_eq_true (by omega)
        refine jcalls Tryd.func4 rfl (by kernel_rfl) Tryd.ntmps4 rfl rfl (fun w0 β0 ext hβ => ?_)
        repeat (first | refine js rfl ?_ | (refine jdraw ?_ ?_; · kernel_rfl) | refine jbu rfl rfl rfl rfl ?_ | refine jv p1 rfl rfl rfl rfl rfl ?_ | refine jv p2 rfl rfl rfl rfl rfl ?_)
        refine jb [0,1,2,3] h1 rfl rfl rfl ⟨rfl, rfl, rfl, rfl, rfl, rfl⟩ rfl rfl rfl rfl ?_
        repeat (first | refine js rfl ?_ | (refine jdraw ?_ ?_; · kernel_rfl) | refine jbu rfl rfl rfl rfl ?_)
        refine jb [0,1,2,3] h2 rfl rfl rfl ⟨rfl, rfl, rfl, rfl, rfl, rfl⟩ rfl rfl rfl rfl ?_
        repeat (first | refine js rfl ?_ | (refine jdraw ?_ ?_; · kernel_rfl) | refine jbu rfl rfl rfl rfl ?_ | refine jo rfl rfl (cat_str rfl rfl hcat) rfl rfl ?_)
        refine jb [0,1,2,3] h3 rfl rfl rfl ⟨rfl, rfl, rfl, rfl, rfl, rfl⟩ rfl rfl rfl rfl ?_
        repeat (first | refine js rfl ?_ | (refine jdraw ?_ ?_; · kernel_rfl) | refine jbu rfl rfl rfl rfl ?_)
        refine jb [0,1,2,3] h4 rfl rfl rfl ⟨rfl, rfl, rfl, rfl, rfl, rfl⟩ rfl rfl rfl rfl ?_
        repeat (first | refine js rfl ?_ | (refine jdraw ?_ ?_; · kernel_rfl) | refine jbu rfl rfl rfl rfl ?_)
        rw [c1]
        repeat (first | refine js rfl ?_ | (refine jdraw ?_ ?_; · kernel_rfl) | refine jbu rfl rfl rfl rfl ?_)
        exact jr rfl rfl rfl rfl
      · subst h
        simp only at h3
        have c1 : decide (IntKind.i64.wrap (((a.map encIns).length : Int) + ((b.map encIns).length : Int)) > 1000) = true := by
          rw [List.length_map, List.length_map, wrap_id (by omega) (by omega)]
          exact decide_eq_true (by omega)
        refine jcalls Tryd.func4 rfl (by kernel_rfl) Tryd.ntmps4 rfl rfl (fun w0 β0 ext hβ => ?_)
        repeat (first | refine js rfl ?_ | (refine jdraw ?_ ?_; · kernel_rfl) | refine jbu rfl rfl rfl rfl ?_ | refine jv p1 rfl rfl rfl rfl rfl ?_ | refine jv p2 rfl rfl rfl rfl rfl ?_)
        refine jb [0,1,2,3] h1 rfl rfl rfl ⟨rfl, rfl, rfl, rfl, rfl, rfl⟩ rfl rfl rfl rfl ?_
        repeat (first | refine js rfl ?_ | (refine jdraw ?_ ?_; · kernel_rfl) | refine jbu rfl rfl rfl rfl ?_)
        refine jb [0,1,2,3] h2 rfl rfl rfl ⟨rfl, rfl, rfl, rfl, rfl, rfl⟩ rfl rfl rfl rfl ?_
        repeat (first | refine js rfl ?_ | (refine jdraw ?_ ?_; · kernel_rfl) | refine jbu rfl rfl rfl rfl ?_ | refine jo rfl rfl (cat_str rfl rfl hcat) rfl rfl ?_)
        refine jb [0,1,2,3] h3 rfl rfl rfl ⟨rfl, rfl, rfl, rfl, rfl, rfl⟩ rfl rfl rfl rfl ?_
        repeat (first | refine js rfl ?_ | (refine jdraw ?_ ?_; · kernel_rfl) | refine jbu rfl rfl rfl rfl ?_)
        refine jb [0,1,2,3] h4 rfl rfl rfl ⟨rfl, rfl, rfl, rfl, rfl, rfl⟩ rfl rfl rfl rfl ?_
        repeat (first | refine js rfl ?_ | (refine jdraw ?_ ?_; · kernel_rfl) | refine jbu rfl rfl rfl rfl ?_)
        rw [c1]
        repeat (first | refine js rfl ?_ | (refine jdraw ?_ ?_; · kernel_rfl) | refine jbu rfl rfl rfl rfl ?_)
        refine jb [0,1,2,3] h4 rfl rfl rfl ⟨rfl, rfl, rfl, rfl, rfl, rfl⟩ rfl rfl rfl rfl ?_
        repeat (first | refine js rfl ?_ | (refine jdraw ?_ ?_; · kernel_rfl) | refine jbu rfl rfl rfl rfl ?_)
        exact jr rfl rfl rfl rfl
    · have c1 : (f != 0) = true := by simpa using hf
      have c2 : (f == 0) = false := by simpa using hf
      obtain rfl : b = [] := bad2 hf
      refine jcalls Tryd.func4 rfl (by kernel_rfl) Tryd.ntmps4 rfl rfl (fun w0 β0 ext hβ => ?_)
      repeat (first | refine js rfl ?_ | (refine jdraw ?_ ?_; · kernel_rfl) | refine jbu rfl rfl rfl rfl ?_ | refine jv p1 rfl rfl rfl rfl rfl ?_ | refine jv p2 rfl rfl rfl rfl rfl ?_)
      refine jb [0,1,2,3] h1 rfl rfl rfl ⟨rfl, rfl, rfl, rfl, rfl, rfl⟩ rfl rfl rfl rfl ?_
      repeat (first | refine js rfl ?_ | (refine jdraw ?_ ?_; · kernel_rfl) | refine jbu rfl rfl rfl rfl ?_)
      refine jb [0,1,2,3] h2 rfl rfl rfl ⟨rfl, rfl, rfl, rfl, rfl, rfl⟩ rfl rfl rfl rfl ?_
      repeat (first | refine js rfl ?_ | (refine jdraw ?_ ?_; · kernel_rfl) | refine jbu rfl rfl rfl rfl ?_)
      rw [c1]
      repeat (first | refine js rfl ?_ | (refine jdraw ?_ ?_; · kernel_rfl) | refine jbu rfl rfl rfl rfl ?_)
      refine jb [0,1,2,3] h4 rfl rfl rfl ⟨rfl, rfl, rfl, rfl, rfl, rfl⟩ rfl rfl rfl rfl ?_
      repeat (first | refine js rfl ?_ | (refine jdraw ?_ ?_; · kernel_rfl) | refine jbu rfl rfl rfl rfl ?_)
      rw [c2]
      repeat (first | refine js rfl ?_ | (refine jdraw ?_ ?_; · kernel_rfl) | refine jbu rfl rfl rfl rfl ?_)
      exact jr rfl rfl rfl rfl
  · have c1 : (e != 0) = true := by simpa using he
    have c2 : (e == 0) = false := by simpa using he
    obtain rfl : a = [] := bad1 he
    by_cases hf : f = 0
    · subst hf
      refine jcalls Tryd.func4 rfl (by kernel_rfl) Tryd.ntmps4 rfl rfl (fun w0 β0 ext hβ => ?_)
      repeat (first | refine js rfl ?_ | (refine jdraw ?_ ?_; · kernel_rfl) | refine jbu rfl rfl rfl rfl ?_ | refine jv p1 rfl rfl rfl rfl rfl ?_ | refine jv p2 rfl rfl rfl rfl rfl ?_)
      refine jb [0,1,2,3] h1 rfl rfl rfl ⟨rfl, rfl, rfl, rfl, rfl, rfl⟩ rfl rfl rfl rfl ?_
      repeat (first | refine js rfl ?_ | (refine jdraw ?_ ?_; · kernel_rfl) | refine jbu rfl rfl rfl rfl ?_)
      refine jb [0,1,2,3] h2 rfl rfl rfl ⟨rfl, rfl, rfl, rfl, rfl, rfl⟩ rfl rfl rfl rfl ?_
      repeat (first | refine js rfl ?_ | (refine jdraw ?_ ?_; · kernel_rfl) | refine jbu rfl rfl rfl rfl ?_)
      rw [c1]
      repeat (first | refine js rfl ?_ | (refine jdraw ?_ ?_; · kernel_rfl) | refine jbu rfl rfl rfl rfl ?_)
      refine jb [0,1,2,3] h4 rfl rfl rfl ⟨rfl, rfl, rfl, rfl, rfl, rfl⟩ rfl rfl rfl rfl ?_
      repeat (first | refine js rfl ?_ | (refine jdraw ?_ ?_; · kernel_rfl) | refine jbu rfl rfl rfl rfl ?_)
      rw [c2]
      repeat (first | refine js rfl ?_ | (refine jdraw ?_ ?_; · kernel_rfl) | refine jbu rfl rfl rfl rfl ?_)
      exact jr rfl rfl rfl rfl
    · have c3 : (f == 0) = false := by simpa using hf
      obtain rfl : b = [] := bad2 hf
      refine jcalls Tryd.func4 rfl (by kernel_rfl) Tryd.ntmps4 rfl rfl (fun w0 β0 ext hβ => ?_)
      repeat (first | refine js rfl ?_ | (refine jdraw ?_ ?_; · kernel_rfl) | refine jbu rfl rfl rfl rfl ?_ | refine jv p1 rfl rfl rfl rfl rfl ?_ | refine jv p2 rfl rfl rfl rfl rfl ?_)
      refine jb [0,1,2,3] h1 rfl rfl rfl ⟨rfl, rfl, rfl, rfl, rfl, rfl⟩ rfl rfl rfl rfl ?_
      repeat (first | refine js rfl ?_ | (refine jdraw ?_ ?_; · kernel_rfl) | refine jbu rfl rfl rfl rfl ?_)
      refine jb [0,1,2,3] h2 rfl rfl rfl ⟨rfl, rfl, rfl, rfl, rfl, rfl⟩ rfl rfl rfl rfl ?_
      repeat (first | refine js rfl ?_ | (refine jdraw ?_ ?_; · kernel_rfl) | refine jbu rfl rfl rfl rfl ?_)
      rw [c1]
      repeat (first | refine js rfl ?_ | (refine jdraw ?_ ?_; · kernel_rfl) | refine jbu rfl rfl rfl rfl ?_)
      refine jb [0,1,2,3] h4 rfl rfl rfl ⟨rfl, rfl, rfl, rfl, rfl, rfl⟩ rfl rfl rfl rfl ?_
      repeat (first | refine js rfl ?_ | (refine jdraw ?_ ?_; · kernel_rfl) | refine jbu rfl rfl rfl rfl ?_)
      rw [c2]
      repeat (first | refine js rfl ?_ | (refine jdraw ?_ ?_; · kernel_rfl) | refine jbu rfl rfl rfl rfl ?_)
      rw [c3]
      repeat (first | refine js rfl ?_ | (refine jdraw ?_ ?_; · kernel_rfl) | refine jbu rfl rfl rfl rfl ?_)
      exact jr rfl rfl rfl rfl
end Go.AL
