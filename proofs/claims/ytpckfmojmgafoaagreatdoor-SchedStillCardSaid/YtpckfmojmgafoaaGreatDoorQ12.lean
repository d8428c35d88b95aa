/-
  Part 12 of the proof texts: the program logic over the model, then the contracts of the functions that the laws reach. No conditions.
-/
import Derived.Test.YtpckfmojmgafoaaGreatDoorQ11
import Derived.Test.YtpckfmojmgafoaaGreatDoorRows
import Derived.JoinedOf
import Derived.JoinedAt
import Derived.RowKit3
import Derived.LaidMore
import Derived.Lib.LaidTab
import Derived.Stop.LaidErr
import Derived.Lay
import Derived.LaidSub
import Derived.LaidHandle
set_option linter.unusedVariables false
set_option linter.unusedSimpArgs false
section
set_option maxRecDepth 100000
namespace Go.AL
open Go Go.Proofs
theorem slf_one {x y : AVal} (h : ∀ (c : Ctx) u, Rel c x u → Rel c y u) (c : Ctx) (u : Value) (hr : Rel c (.slf [x]) u) : Rel c (.slf [y]) u := by
  obtain ⟨A, es, h1, h2, ⟨u0, r1, r2, r3⟩, _⟩ := hr
  exact ⟨A, es, h1, fun _ => h2 (by simp), ⟨u0, h _ _ r1, r2, r3⟩, trivial⟩
attribute [local irreducible] J
theorem rmright_ok (m : Mem) (hw : m.words.length ≤ 1000000) (ht : m.tags.length ≤ 1000000) : ACalls Tryz.prog 11 [encMem m] [] (one (bv (mRight m)) []) := by
  obtain ⟨ws, ts⟩ := m
  simp only at hw ht
  have f1 : decide (((ws.map iv).length : Int) < 1) = !decide (1 ≤ ws.length) := by rw [List.length_map]; exact dec_not (by omega)
  have f2 : decide (((ws.map iv).length : Int) > 160) = !decide (ws.length ≤ 160) := by rw [List.length_map]; exact dec_not (by omega)
  have f3 : (((ts.map iv).length : Int) != ((ws.map iv).length : Int)) = !decide (ts.length = ws.length) := by rw [List.length_map, List.length_map, int_bne]; congr 1; exact decide_eq_decide.2 (by omega)
  unfold encMem mCells ivs mRight
  simp only
  cases b1 : decide (1 ≤ ws.length) with
  | false =>
    rw [b1] at f1
    refine jcalls Tryz.func11 rfl (by kernel_rfl) Tryz.ntmps11 rfl rfl (fun w0 β0 ext hβ => ?_)
    repeat (first | refine js rfl ?_ | (refine jdraw ?_ ?_; · kernel_rfl) | refine jbu rfl rfl rfl rfl ?_)
    rw [f1]
    repeat (first | refine js rfl ?_ | (refine jdraw ?_ ?_; · kernel_rfl) | refine jbu rfl rfl rfl rfl ?_)
    exact jr rfl rfl rfl rfl
  | true =>
    rw [b1] at f1
    cases b2 : decide (ws.length ≤ 160) with
    | false =>
      rw [b2] at f2
      refine jcalls Tryz.func11 rfl (by kernel_rfl) Tryz.ntmps11 rfl rfl (fun w0 β0 ext hβ => ?_)
      repeat (first | refine js rfl ?_ | (refine jdraw ?_ ?_; · kernel_rfl) | refine jbu rfl rfl rfl rfl ?_)
      rw [f1]
      repeat (first | refine js rfl ?_ | (refine jdraw ?_ ?_; · kernel_rfl) | refine jbu rfl rfl rfl rfl ?_)
      rw [f2]
      repeat (first | refine js rfl ?_ | (refine jdraw ?_ ?_; · kernel_rfl) | refine jbu rfl rfl rfl rfl ?_)
      exact jr rfl rfl rfl rfl
    | true =>
      rw [b2] at f2
      cases b3 : decide (ts.length = ws.length) with
      | false =>
        rw [b3] at f3
        refine jcalls Tryz.func11 rfl (by kernel_rfl) Tryz.ntmps11 rfl rfl (fun w0 β0 ext hβ => ?_)
        repeat (first | refine js rfl ?_ | (refine jdraw ?_ ?_; · kernel_rfl) | refine jbu rfl rfl rfl rfl ?_)
        rw [f1]
        repeat (first | refine js rfl ?_ | (refine jdraw ?_ ?_; · kernel_rfl) | refine jbu rfl rfl rfl rfl ?_)
        rw [f2]
        repeat (first | refine js rfl ?_ | (refine jdraw ?_ ?_; · kernel_rfl) | refine jbu rfl rfl rfl rfl ?_)
        rw [f3]
        repeat (first | refine js rfl ?_ | (refine jdraw ?_ ?_; · kernel_rfl) | refine jbu rfl rfl rfl rfl ?_)
        exact jr rfl rfl rfl rfl
      | true =>
        rw [b3] at f3
        have hlen : ts.length = ws.length := of_decide_eq_true b3
        obtain ⟨hz1, hz2⟩ := zipAll (p := tagOk) hlen
        refine jcalls Tryz.func11 rfl (by kernel_rfl) Tryz.ntmps11 rfl rfl (fun w0 β0 ext hβ => ?_)
        repeat (first | refine js rfl ?_ | (refine jdraw ?_ ?_; · kernel_rfl) | refine jbu rfl rfl rfl rfl ?_)
        rw [f1]
        repeat (first | refine js rfl ?_ | (refine jdraw ?_ ?_; · kernel_rfl) | refine jbu rfl rfl rfl rfl ?_)
        rw [f2]
        repeat (first | refine js rfl ?_ | (refine jdraw ?_ ?_; · kernel_rfl) | refine jbu rfl rfl rfl rfl ?_)
        rw [f3]
        repeat (first | refine js rfl ?_ | (refine jdraw ?_ ?_; · kernel_rfl) | refine jbu rfl rfl rfl rfl ?_)
        refine jloopI (fun k : Nat => k ≤ ts.length ∧ ∀ q, q < k → tagOk (at' ts (q : Int)) (at' ws (q : Int)) = true) [1, 2, 25, 26, 27] (fun k => [.ptr 0 0, bv false, .sl (ts.map iv), .v (.int .i64 ((ts.map iv).length : Int)), .v (.int .i64 (k : Int))])
          (fun _ => [.box 25 [.sl (ws.map iv), .sl (ts.map iv)]]) (fun k => ts.length - k) 0 ⟨Nat.zero_le _, fun q h => absurd h (by omega)⟩ rfl rfl (fun k hk => ?_)
        obtain ⟨hk, hok⟩ := hk
        repeat (first | refine js rfl ?_ | (refine jdraw ?_ ?_; · kernel_rfl) | refine jbu rfl rfl rfl rfl ?_)
        refine jc rfl rfl rfl (fun h => ?_) (fun h => ?_)
        · have h := of_decide_eq_true h
          rw [List.length_map] at h
          have hk2 : k < ts.length := by omega
          have hkw : (k : Int) < ws.length := by omega
          have hidx : IntKind.i64.wrap ((k : Int) + 1) = ((k + 1 : Nat) : Int) := idx_next hk2 (by omega)
          have hno := hz2 k hk2
          have hnx : tagOk (at' ts (k : Int)) (at' ws (k : Int)) = true → ∀ q, q < k + 1 → tagOk (at' ts (q : Int)) (at' ws (q : Int)) = true := fun hb q hq => by
            by_cases e : q = k
            · subst e; exact hb
            · exact hok q (by omega)
          repeat (first | refine js rfl ?_ | (refine jdraw ?_ ?_; · kernel_rfl) | refine jbu rfl rfl rfl rfl ?_ | refine jo rfl rfl (index_at rfl rfl rfl rfl rfl rfl rfl rfl (Int.natCast_nonneg k) h) rfl rfl ?_)
          generalize hT : at' ts (k : Int) = T at *
          generalize hV : at' ws (k : Int) = V at *
          by_cases g1 : T < 0
          · rw [decide_eq_true g1]
            rw [hno (by simp [tagOk]; omega)]
            repeat (first | refine js rfl ?_ | (refine jdraw ?_ ?_; · kernel_rfl) | refine jbu rfl rfl rfl rfl ?_)
            exact jr rfl rfl rfl rfl
          · rw [decide_eq_false g1]
            repeat (first | refine js rfl ?_ | (refine jdraw ?_ ?_; · kernel_rfl) | refine jbu rfl rfl rfl rfl ?_)
            by_cases g2 : T > 2
            · rw [decide_eq_true g2]
              rw [hno (by simp [tagOk]; omega)]
              repeat (first | refine js rfl ?_ | (refine jdraw ?_ ?_; · kernel_rfl) | refine jbu rfl rfl rfl rfl ?_)
              exact jr rfl rfl rfl rfl
            · rw [decide_eq_false g2]
              repeat (first | refine js rfl ?_ | (refine jdraw ?_ ?_; · kernel_rfl) | refine jbu rfl rfl rfl rfl ?_)
              by_cases g3 : T = 0
              · subst g3
                repeat (first | refine js rfl ?_ | (refine jdraw ?_ ?_; · kernel_rfl) | refine jbu rfl rfl rfl rfl ?_ | refine jo rfl rfl (index_at rfl rfl rfl rfl rfl rfl rfl rfl (Int.natCast_nonneg k) hkw) rfl rfl ?_)
                rw [hV]
                by_cases g4 : V = 0
                · subst g4
                  repeat (first | refine js rfl ?_ | (refine jdraw ?_ ?_; · kernel_rfl) | refine jbu rfl rfl rfl rfl ?_)
                  refine jnextI (k + 1) ⟨by omega, hnx rfl⟩ ?_ rfl (by omega)
                  show some _ = some _
                  rw [hidx]
                · rw [show (V != 0) = true from by rw [bne_iff_ne]; exact g4]
                  rw [hno (by simp [tagOk, g4])]
                  repeat (first | refine js rfl ?_ | (refine jdraw ?_ ?_; · kernel_rfl) | refine jbu rfl rfl rfl rfl ?_)
                  exact jr rfl rfl rfl rfl
              · rw [show (T == 0) = false from by rw [beq_eq_false_iff_ne]; exact g3]
                repeat (first | refine js rfl ?_ | (refine jdraw ?_ ?_; · kernel_rfl) | refine jbu rfl rfl rfl rfl ?_)
                refine jnextI (k + 1) ⟨by omega, hnx (by simp [tagOk]; omega)⟩ ?_ rfl (by omega)
                show some _ = some _
                rw [hidx]
        · have h := of_decide_eq_false h
          rw [List.length_map] at h
          rw [hz1 fun q hq => hok q (by omega)]
          repeat (first | refine js rfl ?_ | (refine jdraw ?_ ?_; · kernel_rfl) | refine jbu rfl rfl rfl rfl ?_)
          exact jr rfl rfl rfl rfl
theorem rep_succ {α : Type} (n : Nat) (x : α) : List.replicate n x ++ [x] = List.replicate (n + 1) x := by rw [List.replicate_succ']
theorem rmnew_ok (n : Nat) (hn : n ≤ 1000) : ACalls Tryz.prog 40 [iv (n : Int)] [] (one (encMem ⟨List.replicate n 0, List.replicate n 0⟩) []) := by
  unfold encMem mCells ivs
  refine jcalls Tryz.func40 rfl (by kernel_rfl) Tryz.ntmps40 rfl rfl (fun w0 β0 ext hβ => ?_)
  repeat (first | refine jadB 1 1 3 1 rfl rfl rfl rfl ?_ | refine jadB 1 0 3 1 rfl rfl rfl rfl ?_ | refine js rfl ?_ | (refine jdraw ?_ ?_; · kernel_rfl) | refine jbu rfl rfl rfl rfl ?_)
  refine jloopI (fun q : Nat => q ≤ n) [0, 2, 3, 4] (fun q => [iv (n : Int), .ptr 0 0, .ptr 1 0, iv (q : Int)])
    (fun q => [.box 25 [.slf [], .slf []], .box 25 [.arr 3 (q + 1), .arr 2 (q + 1)], .arr (q + 1) 3 1 ((List.replicate q (0 : Int)).map iv), .arr (q + 1) 3 1 ((List.replicate q (0 : Int)).map iv)]) (fun q => n - q) 0 (Nat.zero_le _) rfl rfl (fun q hq => ?_)
  repeat (first | refine js rfl ?_ | (refine jdraw ?_ ?_; · kernel_rfl) | refine jbu rfl rfl rfl rfl ?_)
  by_cases h : q < n
  · rw [show decide ((q : Int) < (n : Int)) = true from decide_eq_true (by omega)]
    have hidx : IntKind.i64.wrap ((q : Int) + 1) = ((q + 1 : Nat) : Int) := by rw [wrap_id] <;> omega
    repeat (first | refine js rfl ?_ | (refine jdraw ?_ ?_; · kernel_rfl) | refine jbu rfl rfl rfl rfl ?_)
    refine jo rfl rfl (append_enc (enc := iv) (l := List.replicate q (0 : Int)) 0 rfl rfl rfl rfl rfl rfl rfl rfl rfl rfl (fun x => ⟨rfl, rfl⟩) rfl (by rw [List.length_replicate]; omega) rfl rfl) rfl rfl ?_
    repeat (first | refine js rfl ?_ | (refine jdraw ?_ ?_; · kernel_rfl) | refine jbu rfl rfl rfl rfl ?_)
    refine jo rfl rfl (append_enc (enc := iv) (l := List.replicate q (0 : Int)) 0 rfl rfl rfl rfl rfl rfl rfl rfl rfl rfl (fun x => ⟨rfl, rfl⟩) rfl (by rw [List.length_replicate]; omega) rfl rfl) rfl rfl ?_
    rw [rep_succ]
    repeat (first | refine js rfl ?_ | (refine jdraw ?_ ?_; · kernel_rfl) | refine jbu rfl rfl rfl rfl ?_)
    refine jnextI (q + 1) h ?_ rfl (by omega)
    show some _ = some _
    rw [hidx]
    rfl
  · have : q = n := by omega
    subst this
    rw [show decide ((q : Int) < (q : Int)) = false from decide_eq_false (by omega)]
    refine jc rfl rfl rfl (fun hf => absurd hf (by decide)) (fun _ => ?_)
    refine jpubB 1 0 3 rfl rfl rfl rfl rfl rfl rfl ?_
    refine jpubB 1 1 2 rfl rfl rfl rfl rfl rfl rfl ?_
    repeat (first | refine js rfl ?_ | (refine jdraw ?_ ?_; · kernel_rfl) | refine jbu rfl rfl rfl rfl ?_)
    exact jret [] true rfl rfl rfl ⟨rfl, rfl⟩
theorem sl_nil_buf (c : Ctx) (u : Value) (h : Rel c (.slf []) u) : Rel c (encBuf []) u := sl_weak h
theorem rtnew_ok (m : Mem) (n : Nat) (d : Int) (hn : n ≤ 1000) : ACalls Tryz.prog 70 [encMem m, iv (n : Int), iv d] [] (one (encTso ⟨m, d, List.replicate n []⟩) []) := by
  unfold encTso tCells encMem mCells ivs
  refine jcalls Tryz.func70 rfl (by kernel_rfl) Tryz.ntmps70 rfl rfl (fun w0 β0 ext hβ => ?_)
  repeat (first | refine jadB 2 3 135 1 rfl rfl rfl rfl ?_ | refine js rfl ?_ | (refine jdraw ?_ ?_; · kernel_rfl) | refine jbu rfl rfl rfl rfl ?_)
  refine jloopI (fun q : Nat => q ≤ n) [1, 3, 6, 7, 8] (fun q => [iv (n : Int), .ptr 0 0, .ptr 1 0, .ptr 2 0, iv (q : Int)])
    (fun q => [.box 25 [.sl (m.words.map iv), .sl (m.tags.map iv)], .box 29 [.slf [], .slf [], iv 0, .slf []], .box 29 [.sl (m.words.map iv), .sl (m.tags.map iv), iv d, .arr 3 (q + 1)], .arr (q + 1) 135 1 ((List.replicate q ([] : List Wput)).map encBuf)]) (fun q => n - q) 0 (Nat.zero_le _) rfl rfl (fun q hq => ?_)
  repeat (first | refine js rfl ?_ | (refine jdraw ?_ ?_; · kernel_rfl) | refine jbu rfl rfl rfl rfl ?_)
  by_cases h : q < n
  · rw [show decide ((q : Int) < (n : Int)) = true from decide_eq_true (by omega)]
    have hidx : IntKind.i64.wrap ((q : Int) + 1) = ((q + 1 : Nat) : Int) := by rw [wrap_id] <;> omega
    repeat (first | refine jow rfl rfl (buildB_dsem rfl) (slf_one sl_nil_buf) rfl rfl ?_ | refine js rfl ?_ | (refine jdraw ?_ ?_; · kernel_rfl) | refine jbu rfl rfl rfl rfl ?_)
    refine jo rfl rfl (append_enc (enc := encBuf) (l := List.replicate q ([] : List Wput)) [] rfl rfl rfl rfl rfl rfl rfl rfl rfl rfl (fun x => ⟨rfl, rfl⟩) rfl (by rw [List.length_replicate]; omega) rfl rfl) rfl rfl ?_
    rw [rep_succ]
    repeat (first | refine js rfl ?_ | (refine jdraw ?_ ?_; · kernel_rfl) | refine jbu rfl rfl rfl rfl ?_)
    refine jnextI (q + 1) h ?_ rfl (by omega)
    show some _ = some _
    rw [hidx]
    rfl
  · have : q = n := by omega
    subst this
    rw [show decide ((q : Int) < (q : Int)) = false from decide_eq_false (by omega)]
    refine jc rfl rfl rfl (fun hf => absurd hf (by decide)) (fun _ => ?_)
    refine jpubB 2 3 3 rfl rfl rfl rfl rfl rfl rfl ?_
    repeat (first | refine js rfl ?_ | (refine jdraw ?_ ?_; · kernel_rfl) | refine jbu rfl rfl rfl rfl ?_)
    exact jret [] true rfl rfl rfl ⟨rfl, rfl⟩
theorem rwnew_ok (code : List Ins) (st : List Int) (m : Mem) (d : Int) (hs : st.length ≤ 1000) : ACalls Tryz.prog 38 [encIs code, ivs st, encMem m, iv d] [] (one (encWd (newOk code st m d)) []) := by
  have h3 := rtnew_ok m st.length d hs
  have hlm : ((st.map iv).length : Int) = (st.length : Int) := by rw [List.length_map]
  have he : (st.map thrP).map encThr = st.map fun a => encThr (thrP a) := by rw [List.map_map]; rfl
  unfold newOk
  unfold encWd wCells encTso tCells encIs encMem mCells at *
  unfold ivs at *
  simp only
  rw [he]
  refine jcalls Tryz.func38 rfl (by kernel_rfl) Tryz.ntmps38 rfl rfl (fun w0 β0 ext hβ => ?_)
  repeat (first | refine js rfl ?_ | (refine jdraw ?_ ?_; · kernel_rfl) | refine jbu rfl rfl rfl rfl ?_)
  rw [hlm]
  repeat (first | refine jadB 2 5 87 13 rfl rfl rfl rfl ?_ | refine js rfl ?_ | (refine jdraw ?_ ?_; · kernel_rfl) | refine jbu rfl rfl rfl rfl ?_ | refine jv h3 rfl rfl rfl rfl rfl ?_)
  refine jloopI (fun q : Nat => q ≤ st.length) [8, 9, 19, 20, 21] (fun q => [.ptr 1 0, .ptr 2 0, .sl (st.map iv), .v (.int .i64 ((st.map iv).length : Int)), .v (.int .i64 (q : Int))])
    (fun q => [.box 25 [.sl (m.words.map iv), .sl (m.tags.map iv)], .box 33 [.slf [], .slf [], .slf [], iv 0, .slf [], .slf [], .slf []],
      .box 33 [.sl (code.map encIns), .sl (m.words.map iv), .sl (m.tags.map iv), iv d, .sl ((List.replicate st.length ([] : List Wput)).map encBuf), .arr 3 (q + 1), .slf []], .arr (q + 1) 87 13 ((st.take q).map fun a => encThr (thrP a))]) (fun q => st.length - q) 0 (Nat.zero_le _) rfl rfl (fun q hq => ?_)
  repeat (first | refine js rfl ?_ | (refine jdraw ?_ ?_; · kernel_rfl) | refine jbu rfl rfl rfl rfl ?_)
  refine jc rfl rfl rfl (fun h => ?_) (fun h => ?_)
  · have h := of_decide_eq_true h
    rw [List.length_map] at h
    have hq2 : q < st.length := by omega
    have hidx : IntKind.i64.wrap ((q : Int) + 1) = ((q + 1 : Nat) : Int) := idx_next hq2 (by omega)
    have htk : (st.take q) ++ [at' st (q : Int)] = st.take (q + 1) := by rw [at_nat st q hq2, List.take_add_one, List.getElem?_eq_getElem hq2]; rfl
    have hln : (st.take q).length ≤ 1000 := by rw [List.length_take]; omega
    repeat (first | refine jow rfl rfl (readP_dsem rfl) (thr_weak _) rfl rfl ?_ | refine js rfl ?_ | (refine jdraw ?_ ?_; · kernel_rfl) | refine jbu rfl rfl rfl rfl ?_ | refine jo rfl rfl (index_at rfl rfl rfl rfl rfl rfl rfl rfl (Int.natCast_nonneg q) h) rfl rfl ?_)
    refine jo rfl rfl (append_enc (enc := fun a => encThr (thrP a)) (l := st.take q) (at' st (q : Int)) rfl rfl rfl rfl rfl rfl rfl rfl rfl rfl (elemsP []) rfl (by omega) rfl rfl) rfl rfl ?_
    rw [htk]
    repeat (first | refine js rfl ?_ | (refine jdraw ?_ ?_; · kernel_rfl) | refine jbu rfl rfl rfl rfl ?_)
    refine jnextI (q + 1) hq2 ?_ rfl (by omega)
    show some _ = some _
    rw [hidx]
  · have h := of_decide_eq_false h
    rw [List.length_map] at h
    have : q = st.length := by omega
    subst this
    rw [List.take_length]
    refine jpubB 2 5 3 rfl rfl rfl rfl rfl rfl rfl ?_
    repeat (first | refine js rfl ?_ | (refine jdraw ?_ ?_; · kernel_rfl) | refine jbu rfl rfl rfl rfl ?_)
    exact jret [] true rfl rfl rfl ⟨rfl, rfl⟩
end Go.AL
end
section
set_option maxRecDepth 100000
namespace Go.AL
open Go Go.Proofs
attribute [local irreducible] J
theorem r9done_ok (w : Wd) (a : Act) (h : WdR w) : ACalls Tryz.prog 20 [encWd w, encAct a] [] (one (bv (actW w a).2) []) := by
  have h1 := rdone_ok w a h
  unfold encWd wCells ivs encAct at *
  refine jcalls Tryz.func20 rfl (by kernel_rfl) Tryz.ntmps20 rfl rfl (fun w0 β0 ext hβ => ?_)
  repeat (first | refine js rfl ?_ | (refine jdraw ?_ ?_; · kernel_rfl) | refine jbu rfl rfl rfl rfl ?_ | refine jv h1 rfl rfl rfl rfl rfl ?_)
  exact jr rfl rfl rfl rfl
theorem r9do_ok (w : Wd) (a : Act) (h : WdR w) (hev : w.evs.length ≤ 900000) : ACalls Tryz.prog 21 [encWd w, encAct a] [] (one (encWd (actW w a).1) []) := by
  have h1 := rdo_ok w a h hev
  generalize (actW w a).1 = w1 at *
  unfold encWd wCells ivs encAct at *
  refine jcalls Tryz.func21 rfl (by kernel_rfl) Tryz.ntmps21 rfl rfl (fun w0 β0 ext hβ => ?_)
  repeat (first | refine js rfl ?_ | (refine jdraw ?_ ?_; · kernel_rfl) | refine jbu rfl rfl rfl rfl ?_ | refine jv h1 rfl rfl rfl rfl rfl ?_)
  exact jr rfl rfl rfl rfl
theorem r9idle_ok (w : Wd) (h : WdR w) : ACalls Tryz.prog 22 [encWd w] [] (one (bv (idleW w)) []) := by
  have hb8 := h.tso.sz
  have hlen := h.len
  have h1 := fun a => r9done_ok w a h
  have hact : ∀ q, q < w.thr.length → ((actW w ⟨0, (q : Int)⟩).2 || (actW w ⟨1, (q : Int)⟩).2) = (canW w q || decide (0 < (bufAt w.tso q).length)) := fun q hq => by
    rw [act_step h hq, act_flush h hq]
    cases canW w q <;> cases bufAt w.tso q <;> simp
  unfold encWd wCells ivs encAct at *
  refine jcalls Tryz.func22 rfl (by kernel_rfl) Tryz.ntmps22 rfl rfl (fun w0 β0 ext hβ => ?_)
  repeat (first | refine js rfl ?_ | (refine jdraw ?_ ?_; · kernel_rfl) | refine jbu rfl rfl rfl rfl ?_)
  refine jloopI (fun q : Nat => q ≤ w.thr.length ∧ ∀ k, k < q → (canW w k || decide (0 < (bufAt w.tso k).length)) = false) [1, 2, 6, 7] (fun q => [.ptr 0 0, bv false, .v (.int .i64 ((w.thr.map encThr).length : Int)), .v (.int .i64 (q : Int))])
    (fun q => [.box 33 (wCells w)]) (fun q => w.thr.length - q) 0 ⟨Nat.zero_le _, fun k hk => absurd hk (Nat.not_lt_zero _)⟩ rfl rfl (fun q hq => ?_)
  obtain ⟨hq, hok⟩ := hq
  unfold wCells ivs
  repeat (first | refine js rfl ?_ | (refine jdraw ?_ ?_; · kernel_rfl) | refine jbu rfl rfl rfl rfl ?_)
  refine jc rfl rfl rfl (fun h => ?_) (fun h => ?_)
  · have h := of_decide_eq_true h
    rw [List.length_map] at h
    have hq2 : q < w.thr.length := by omega
    have hidx : IntKind.i64.wrap ((q : Int) + 1) = ((q + 1 : Nat) : Int) := idx_next hq2 (by omega)
    have hact := hact q hq2
    have hnx : (canW w q || decide (0 < (bufAt w.tso q).length)) = false → ∀ k, k < q + 1 → (canW w k || decide (0 < (bufAt w.tso k).length)) = false := fun hb k hk => by
      by_cases e : k = q
      · subst e; exact hb
      · exact hok k (by omega)
    have hno : (canW w q || decide (0 < (bufAt w.tso q).length)) = true → idleW w = false := fun hb => by
      cases hi : idleW w with
      | false => rfl
      | true => have := idle_iff.1 hi q (by rw [← hlen]; exact hq2); rw [hb] at this; cases this
    have h2 := h1 ⟨0, (q : Int)⟩
    have h3 := h1 ⟨1, (q : Int)⟩
    cases hb0 : (actW w ⟨0, (q : Int)⟩).2 with
    | true =>
      rw [hb0] at hact h2
      rw [hno (by rw [← hact]; rfl)]
      repeat (first | refine js rfl ?_ | (refine jdraw ?_ ?_; · kernel_rfl) | refine jbu rfl rfl rfl rfl ?_ | refine jv h2 rfl rfl rfl rfl rfl ?_)
      exact jr rfl rfl rfl rfl
    | false =>
      cases hb1 : (actW w ⟨1, (q : Int)⟩).2 with
      | true =>
        rw [hb0, hb1] at hact
        rw [hb0] at h2
        rw [hb1] at h3
        rw [hno (by rw [← hact]; rfl)]
        repeat (first | refine js rfl ?_ | (refine jdraw ?_ ?_; · kernel_rfl) | refine jbu rfl rfl rfl rfl ?_ | refine jv h2 rfl rfl rfl rfl rfl ?_ | refine jv h3 rfl rfl rfl rfl rfl ?_)
        exact jr rfl rfl rfl rfl
      | false =>
        rw [hb0, hb1] at hact
        rw [hb0] at h2
        rw [hb1] at h3
        repeat (first | refine js rfl ?_ | (refine jdraw ?_ ?_; · kernel_rfl) | refine jbu rfl rfl rfl rfl ?_ | refine jv h2 rfl rfl rfl rfl rfl ?_ | refine jv h3 rfl rfl rfl rfl rfl ?_)
        refine jnextI (q + 1) ⟨hq2, hnx (by rw [← hact]; rfl)⟩ ?_ rfl (by omega)
        show some _ = some _
        rw [hidx]
  · have h := of_decide_eq_false h
    rw [List.length_map] at h
    rw [idle_iff.2 fun k hk => hok k (by rw [← hlen] at hk; omega)]
    repeat (first | refine js rfl ?_ | (refine jdraw ?_ ?_; · kernel_rfl) | refine jbu rfl rfl rfl rfl ?_)
    exact jr rfl rfl rfl rfl
structure RrI (w : Wd) (m : Nat) (s : Nat × Wd) : Prop where
  le : s.1 ≤ m
  right : WdR s.2
  thr : s.2.thr.length = w.thr.length
  evs : s.2.evs.length ≤ w.evs.length + 16 * s.1
  eq : roundsW w m = ((roundsW s.2 (m - s.1)).1, s.1 + (roundsW s.2 (m - s.1)).2)
theorem r9rounds_ok (w : Wd) (m : Nat) (h : WdR w) (he : w.evs.length ≤ 500000) (hm : m ≤ 10000) : ACalls Tryz.prog 24 [encWd w, iv (m : Int)] [] (one (.tup [encWd (roundsW w m).1, iv ((roundsW w m).2 : Int)]) []) := by
  have hb8 := h.tso.sz
  have hl8 : w.thr.length ≤ 8 := by rw [h.len]; omega
  unfold encWd wCells ivs at *
  refine jcalls Tryz.func24 rfl (by kernel_rfl) Tryz.ntmps24 rfl rfl (fun w0 β0 ext hβ => ?_)
  repeat (first | refine js rfl ?_ | (refine jdraw ?_ ?_; · kernel_rfl) | refine jbu rfl rfl rfl rfl ?_)
  refine jfin 2 [1, 2, 4, 5, 6] true rfl rfl rfl (by show β0.length ≤ 2; rw [hβ]; exact Nat.zero_le _) ?_
  refine jloop 2 (RrI w m) [1, 2, 4, 5, 6] (fun s => [iv (m : Int), .ptr 0 0, .ptr 1 0, iv 0, iv (s.1 : Int)])
    (fun s => [.box 33 (wCells s.2), .box 33 w0C]) (fun s => m - s.1) (0, w) (by show β0.length ≤ 2; rw [hβ]; exact Nat.zero_le _)
    ⟨Nat.zero_le _, h, rfl, Nat.le_refl _, by simp⟩ rfl rfl (fun s hs => ?_)
  obtain ⟨j, x⟩ := s
  obtain ⟨i1, i2, i3, i4, i6⟩ := hs
  simp only at i1 i2 i3 i4 i6
  have hid := r9idle_ok x i2
  unfold wCells ivs w0C
  simp only
  repeat (first | refine js rfl ?_ | (refine jdraw ?_ ?_; · kernel_rfl) | refine jbu rfl rfl rfl rfl ?_)
  by_cases hj : j < m
  · rw [show decide ((j : Int) < (m : Int)) = true from decide_eq_true (by omega)]
    obtain ⟨m', hm'⟩ : ∃ m', m - j = m' + 1 := ⟨m - j - 1, by omega⟩
    rw [hm'] at i6
    unfold encWd wCells ivs at hid
    cases hb : idleW x with
    | true =>
      rw [hb] at hid
      have : roundsW w m = (x, j) := by
        rw [i6, roundsW, hb]; rfl
      rw [this]
      repeat (first | refine js rfl ?_ | (refine jdraw ?_ ?_; · kernel_rfl) | refine jbu rfl rfl rfl rfl ?_ | refine jv hid rfl rfl rfl rfl rfl ?_)
      exact jr rfl rfl rfl rfl
    | false =>
      rw [hb] at hid
      repeat (first | refine js rfl ?_ | (refine jdraw ?_ ?_; · kernel_rfl) | refine jbu rfl rfl rfl rfl ?_ | refine jv hid rfl rfl rfl rfl rfl ?_)
      refine jloop 2 (fun q : Nat => q ≤ x.thr.length) [1, 2, 4, 5, 6, 19, 20] (fun q => [iv (m : Int), .ptr 0 0, .ptr 1 0, iv 0, iv (j : Int), .v (.int .i64 ((x.thr.map encThr).length : Int)), .v (.int .i64 (q : Int))])
        (fun q => [.box 33 (wCells (rdP (x, 0) q).1), .box 33 w0C]) (fun q => x.thr.length - q) 0 (by show β0.length ≤ 2; rw [hβ]; exact Nat.zero_le _) (Nat.zero_le _) rfl rfl (fun q hq => ?_)
      obtain ⟨r1, r2, r3, r4, r5⟩ := rdP_right (s := (x, 0)) i2 q
      simp only at r2 r3 r4
      unfold wCells ivs w0C
      repeat (first | refine js rfl ?_ | (refine jdraw ?_ ?_; · kernel_rfl) | refine jbu rfl rfl rfl rfl ?_)
      refine jc rfl rfl rfl (fun h => ?_) (fun h => ?_)
      · have h := of_decide_eq_true h
        rw [List.length_map] at h
        have hq2 : q < x.thr.length := by omega
        have hsc := rdP_succ (x, 0) q
        have hidx : IntKind.i64.wrap ((q : Int) + 1) = ((q + 1 : Nat) : Int) := idx_next hq2 (by omega)
        have h3 := r9do_ok (rdP (x, 0) q).1 ⟨0, q⟩ r1 (by omega)
        have hr := actW_right (w := (rdP (x, 0) q).1) ⟨0, q⟩ r1
        have h4 := r9do_ok (actW (rdP (x, 0) q).1 ⟨0, q⟩).1 ⟨1, q⟩ hr.1 (by omega)
        generalize actW (actW (rdP (x, 0) q).1 ⟨0, q⟩).1 ⟨1, q⟩ = R2 at *
        generalize hR1 : actW (rdP (x, 0) q).1 ⟨0, q⟩ = R1 at *
        generalize rdP (x, 0) q = P at *
        unfold encAct encWd wCells ivs at h3 h4
        repeat (first | refine js rfl ?_ | (refine jdraw ?_ ?_; · kernel_rfl) | refine jbu rfl rfl rfl rfl ?_ | refine jv h3 rfl rfl rfl rfl rfl ?_ | refine jv h4 rfl rfl rfl rfl rfl ?_)
        refine jnext (q + 1) hq2 (by omega) rfl rfl rfl ?_ ?_
        · rw [hidx]; rfl
        · rw [hsc]; rfl
      · have h := of_decide_eq_false h
        rw [List.length_map] at h
        have hqe : q = x.thr.length := by omega
        subst hqe
        have hrd := rdP_round x 0
        have hidx : IntKind.i64.wrap ((j : Int) + 1) = ((j + 1 : Nat) : Int) := by rw [wrap_id] <;> omega
        repeat (first | refine js rfl ?_ | (refine jdraw ?_ ?_; · kernel_rfl) | refine jbu rfl rfl rfl rfl ?_)
        rw [hidx]
        repeat (first | refine js rfl ?_ | (refine jdraw ?_ ?_; · kernel_rfl) | refine jbu rfl rfl rfl rfl ?_)
        refine jnext (j + 1, (rdP (x, 0) x.thr.length).1) ⟨by simp only; omega, r1, by simp only; rw [r4, i3], by simp only; omega, ?_⟩ (by simp only; omega) rfl rfl rfl rfl rfl
        simp only
        rw [i6, roundsW, hb, hrd, show m - (j + 1) = m' by omega]
        simp only [cond_false]
        congr 1
        omega
  · have : j = m := by omega
    subst this
    rw [show decide ((j : Int) < (j : Int)) = false from decide_eq_false (by omega)]
    have : roundsW w j = (x, j) := by
      rw [i6, Nat.sub_self]; rfl
    rw [this]
    repeat (first | refine js rfl ?_ | (refine jdraw ?_ ?_; · kernel_rfl) | refine jbu rfl rfl rfl rfl ?_)
    exact jr rfl rfl rfl rfl
end Go.AL
end
section
set_option maxRecDepth 100000
namespace Go.AL
open Go Go.Proofs
attribute [local irreducible] J
theorem newOk_right {code : List Ins} {st : List Int} {m : Mem} {d : Int} (hc : rightC code = true) (hm : mRight m = true) (h1 : 1 ≤ st.length) (h8 : st.length ≤ 8) (hd : 0 ≤ d ∧ d ≤ 8) (hs : ∀ a ∈ st, 0 ≤ a ∧ a ≤ code.length) : WdR (newOk code st m d) := by
  have hl : code.length ≤ 1000 := by
    unfold rightC at hc
    rw [Bool.and_eq_true] at hc
    exact of_decide_eq_true hc.1
  refine ⟨hc, ⟨hm, ⟨⟨by simp [newOk]; omega, by simp [newOk]; omega⟩, hd⟩, fun b hb => ?_⟩, by simp [newOk], fun t ht => ?_⟩
  · have hb : b ∈ List.replicate st.length ([] : List Wput) := hb
    rw [List.eq_of_mem_replicate hb]
    exact ⟨hd.1, fun p hp => absurd hp List.not_mem_nil⟩
  · have ht : t ∈ st.map thrP := ht
    obtain ⟨a, ha, rfl⟩ := List.mem_map.1 ht
    have := hs a ha
    exact ⟨thRight_iff.2 ⟨by show 0 ≤ a ∧ a ≤ 1000; omega, Nat.zero_le _, Nat.zero_le _, fun f hf => absurd hf List.not_mem_nil, fun f hf => absurd hf List.not_mem_nil, .inl ⟨.inl rfl, rfl⟩⟩, .inl rfl⟩
def cl (L : Nat) (s : Int) : Int := (IntKind.i64.wrap (IntKind.i64.wrap (s.tmod (IntKind.i64.wrap ((L : Int) + 1)) + L) + 1)).tmod (IntKind.i64.wrap ((L : Int) + 1))
theorem tmod_bd (k : Int) {n : Int} (hn : 0 < n) : -n < k.tmod n ∧ k.tmod n < n := by
  have := Int.natAbs_tmod k n
  have h2 : (k.natAbs % n.natAbs) < n.natAbs := Nat.mod_lt _ (by omega)
  omega
theorem tmod_nn {k n : Int} (hk : 0 ≤ k) : 0 ≤ k.tmod n := Int.tmod_nonneg n hk
theorem cl_bd (L : Nat) (s : Int) (hL : L ≤ 1000000) : 0 ≤ cl L s ∧ cl L s ≤ L := by
  unfold cl
  rw [wrap_id (by omega : -9223372036854775808 ≤ (L : Int) + 1) (by omega)]
  have h1 := tmod_bd s (n := (L : Int) + 1) (by omega)
  rw [wrap_id (by omega : -9223372036854775808 ≤ s.tmod ((L : Int) + 1) + L) (by omega)]
  rw [wrap_id (by omega : -9223372036854775808 ≤ s.tmod ((L : Int) + 1) + L + 1) (by omega)]
  have h2 := tmod_bd (s.tmod ((L : Int) + 1) + L + 1) (n := (L : Int) + 1) (by omega)
  have h3 := tmod_nn (k := s.tmod ((L : Int) + 1) + L + 1) (n := (L : Int) + 1) (by omega)
  omega
def nine (d : Int) : Int := (IntKind.i64.wrap (d.tmod 9 + 9)).tmod 9
theorem nine_bd (d : Int) : 0 ≤ nine d ∧ nine d ≤ 8 := by
  unfold nine
  have h1 := tmod_bd d (n := 9) (by omega)
  rw [wrap_id (by omega : -9223372036854775808 ≤ d.tmod 9 + 9) (by omega)]
  have h2 := tmod_bd (d.tmod 9 + 9) (n := 9) (by omega)
  have h3 := tmod_nn (k := d.tmod 9 + 9) (n := 9) (by omega)
  omega
def wok (code : List Ins) (ws ts : List Int) : Bool := rightC (code.take 60) && mRight ⟨ws.take 170, ts.take 170⟩
def wcode (code : List Ins) (ws ts : List Int) : List Ins := cond (wok code ws ts) (code.take 60) []
def wmem (code : List Ins) (ws ts : List Int) : Mem := cond (wok code ws ts) ⟨ws.take 170, ts.take 170⟩ ⟨List.replicate 1 0, List.replicate 1 0⟩
def wst (c : List Ins) (st : List Int) : List Int := cond (decide (st.take 8 = [])) [0] ((st.take 8).map (cl (c.map encIns).length))
def worldW (code : List Ins) (st ws ts : List Int) (d : Int) : Wd := newOk (wcode code ws ts) (wst (wcode code ws ts) st) (wmem code ws ts) (nine d)
theorem wcode_right (code : List Ins) (ws ts : List Int) : rightC (wcode code ws ts) = true ∧ mRight (wmem code ws ts) = true ∧ (wcode code ws ts).length ≤ 60 := by
  unfold wcode wmem
  cases h : wok code ws ts with
  | true =>
    unfold wok at h
    rw [Bool.and_eq_true] at h
    exact ⟨h.1, h.2, by simp only [cond_true, List.length_take]; omega⟩
  | false => exact ⟨by show rightC [] = true; decide, by show mRight ⟨List.replicate 1 0, List.replicate 1 0⟩ = true; decide, Nat.zero_le _⟩
theorem worldW_right (code : List Ins) (st ws ts : List Int) (d : Int) : WdR (worldW code st ws ts d) := by
  obtain ⟨h1, h2, h3⟩ := wcode_right code ws ts
  unfold worldW
  generalize wcode code ws ts = c at *
  refine newOk_right h1 h2 ?_ ?_ (nine_bd d) ?_
  · unfold wst
    cases h : decide (st.take 8 = []) with
    | true => exact Nat.le_refl 1
    | false =>
      have := of_decide_eq_false h
      simp only [cond_false, List.length_map]
      exact List.length_pos_iff.2 this
  · unfold wst
    cases h : decide (st.take 8 = []) with
    | true => exact (by decide : 1 ≤ 8)
    | false => simp only [cond_false, List.length_map, List.length_take]; omega
  · unfold wst
    cases h : decide (st.take 8 = []) with
    | true => intro a ha; simp at ha; subst ha; omega
    | false =>
      intro a ha
      simp only [cond_false] at ha
      obtain ⟨s, hs, rfl⟩ := List.mem_map.1 ha
      have := cl_bd (c.map encIns).length s (by rw [List.length_map]; omega)
      rw [List.length_map] at this ⊢
      exact this
theorem nil_ins (c : Ctx) (u : Value) (h : Rel c (.slf []) u) : Rel c (.sl (([] : List Ins).map encIns)) u := sl_weak h
theorem world_ok (code : List Ins) (st ws ts : List Int) (d : Int) : ACalls Tryz.prog 15 [encIs code, ivs st, ivs ws, ivs ts, iv d] [] (one (encWd (worldW code st ws ts d)) []) := by
  obtain ⟨q1, q2, q3⟩ := wcode_right code ws ts
  have hnew := rwnew_ok (wcode code ws ts) (wst (wcode code ws ts) st) (wmem code ws ts) (nine d) (by
    unfold wst
    cases h : decide (st.take 8 = []) with
    | true => exact (by decide : 1 ≤ 1000)
    | false => simp only [cond_false, List.length_map, List.length_take]; omega)
  have h1 := rright_ok (code.take 60) (by rw [List.length_take]; omega)
  have h2 := rmright_ok ⟨ws.take 170, ts.take 170⟩ (by simp only [List.length_take]; omega) (by simp only [List.length_take]; omega)
  have h3 := rmnew_ok 1 (by decide)
  have m1 : (if (60 : Int) < (((code.map encIns).length : Nat) : Int) then (60 : Int) else (((code.map encIns).length : Nat) : Int)) = ((min code.length 60 : Nat) : Int) := by rw [List.length_map]; split <;> omega
  have m2 : (if (170 : Int) < (((ws.map iv).length : Nat) : Int) then (170 : Int) else (((ws.map iv).length : Nat) : Int)) = ((min ws.length 170 : Nat) : Int) := by rw [List.length_map]; split <;> omega
  have m3 : (if (170 : Int) < (((ts.map iv).length : Nat) : Int) then (170 : Int) else (((ts.map iv).length : Nat) : Int)) = ((min ts.length 170 : Nat) : Int) := by rw [List.length_map]; split <;> omega
  have m4 : (if (8 : Int) < (((st.map iv).length : Nat) : Int) then (8 : Int) else (((st.map iv).length : Nat) : Int)) = ((min st.length 8 : Nat) : Int) := by rw [List.length_map]; split <;> omega
  unfold worldW
  unfold encIs ivs
  refine jcalls Tryz.func15 rfl (by kernel_rfl) Tryz.ntmps15 rfl rfl (fun w0 β0 ext hβ => ?_)
  repeat (first | refine jad 11 79 4 rfl rfl rfl rfl ?_ | refine js rfl ?_ | (refine jdraw ?_ ?_; · kernel_rfl) | refine jbu rfl rfl rfl rfl ?_)
  refine jo rfl rfl (cut_take 60 rfl rfl rfl m1 rfl rfl rfl (fun _ => ⟨rfl, rfl⟩)) rfl rfl ?_
  repeat (first | refine js rfl ?_ | (refine jdraw ?_ ?_; · kernel_rfl) | refine jbu rfl rfl rfl rfl ?_)
  have c60 : (code.take 60).length ≤ 60 := by rw [List.length_take]; omega
  unfold wcode wmem wok at *
  generalize code.take 60 = c at *
  refine jfin 2 [1, 2, 3, 4, 10, 11, 23, 24, 25] true rfl rfl rfl (by show β0.length ≤ 2; rw [hβ]; exact Nat.zero_le _) ?_
  refine jloop 2 (fun q : Nat => q ≤ c.length) [1, 2, 3, 4, 10, 11, 23, 24, 25] (fun q => [.sl (st.map iv), .sl (ws.map iv), .sl (ts.map iv), iv d, .ptr 0 0, .arr 1 (q + 1), .sl (c.map encIns), .v (.int .i64 ((c.map encIns).length : Int)), .v (.int .i64 (q : Int))])
    (fun q => [.box 33 w0C, .arr (q + 1) 79 4 ((c.take q).map encIns)]) (fun q => c.length - q) 0 (by show β0.length ≤ 2; rw [hβ]; exact Nat.zero_le _) (Nat.zero_le _) rfl rfl (fun q hq => ?_)
  unfold w0C
  repeat (first | refine js rfl ?_ | (refine jdraw ?_ ?_; · kernel_rfl) | refine jbu rfl rfl rfl rfl ?_)
  refine jc rfl rfl rfl (fun h => ?_) (fun h => ?_)
  · have h := of_decide_eq_true h
    rw [List.length_map] at h
    have hq2 : q < c.length := by omega
    have hidx : IntKind.i64.wrap ((q : Int) + 1) = ((q + 1 : Nat) : Int) := idx_next hq2 (by omega)
    have htk : (c.take q) ++ [at' c (q : Int)] = c.take (q + 1) := by rw [at_nat c q hq2, List.take_add_one, List.getElem?_eq_getElem hq2]; rfl
    have hln : (c.take q).length ≤ 60 := by rw [List.length_take]; omega
    repeat (first | refine js rfl ?_ | (refine jdraw ?_ ?_; · kernel_rfl) | refine jbu rfl rfl rfl rfl ?_ | refine jo rfl rfl (index_at rfl rfl rfl rfl rfl rfl rfl rfl (Int.natCast_nonneg q) h) rfl rfl ?_)
    refine jo rfl rfl (append_enc (enc := encIns) (l := c.take q) (at' c (q : Int)) rfl rfl rfl rfl rfl rfl rfl rfl rfl rfl (fun x => ⟨rfl, rfl⟩) rfl (by omega) rfl rfl) rfl rfl ?_
    rw [htk]
    repeat (first | refine js rfl ?_ | (refine jdraw ?_ ?_; · kernel_rfl) | refine jbu rfl rfl rfl rfl ?_)
    refine jnext (q + 1) hq2 (by omega) rfl rfl rfl ?_ rfl
    rw [hidx]; rfl
  · have h := of_decide_eq_false h
    rw [List.length_map] at h
    have : q = c.length := by omega
    subst this
    rw [List.take_length]
    refine jpub 11 rfl rfl rfl rfl ?_
    repeat (first | refine js rfl ?_ | refine jbu rfl rfl rfl rfl ?_)
    refine jdraw ?_ ?_; · kernel_rfl
    repeat (first | refine js rfl ?_ | (refine jdraw ?_ ?_; · kernel_rfl) | refine jbu rfl rfl rfl rfl ?_)
    refine jo rfl rfl (cut_take 170 rfl rfl rfl m2 rfl rfl rfl (fun _ => ⟨rfl, rfl⟩)) rfl rfl ?_
    repeat (first | refine js rfl ?_ | (refine jdraw ?_ ?_; · kernel_rfl) | refine jbu rfl rfl rfl rfl ?_)
    refine jo rfl rfl (cut_take 170 rfl rfl rfl m3 rfl rfl rfl (fun _ => ⟨rfl, rfl⟩)) rfl rfl ?_
    generalize ws.take 170 = w1 at *
    generalize ts.take 170 = t1 at *
    unfold encIs at h1
    unfold encMem mCells ivs at h2 h3
    refine js rfl ?_
    refine js rfl ?_
    refine js rfl ?_
    refine js rfl ?_
    refine js rfl ?_
    refine js rfl ?_
    generalize hcc : cond (rightC c && mRight ⟨w1, t1⟩) c [] = c2 at *
    generalize hmm : cond (rightC c && mRight ⟨w1, t1⟩) ⟨w1, t1⟩ (⟨List.replicate 1 0, List.replicate 1 0⟩ : Mem) = m2' at *
    refine jmid [1, 4, 10, 11, 14] [.sl (st.map iv), iv d, .ptr 0 0, .sl (c2.map encIns), .ptr 2 0] [.box 33 w0C, .dead (c.length + 1 + 1), .box 25 [.sl (m2'.words.map iv), .sl (m2'.tags.map iv)]] ?_ ?_
    · unfold w0C
      cases b1 : rightC c with
      | false =>
        rw [b1] at h1 hcc hmm
        simp only [Bool.false_and, cond_false] at hcc hmm
        subst hcc hmm
        repeat (first | refine jow rfl rfl (readP_dsem rfl) nil_ins rfl rfl ?_ | refine js rfl ?_ | (refine jdraw ?_ ?_; · kernel_rfl) | refine jbu rfl rfl rfl rfl ?_ | refine jv h1 rfl rfl rfl rfl rfl ?_ | refine jv h3 rfl rfl rfl rfl rfl ?_)
        exact jmeet rfl rfl
      | true =>
        rw [b1] at h1 hcc hmm
        cases b2 : mRight ⟨w1, t1⟩ with
        | false =>
          rw [b2] at h2 hcc hmm
          simp only [Bool.and_false, cond_false] at hcc hmm
          subst hcc hmm
          repeat (first | refine jow rfl rfl (readP_dsem rfl) nil_ins rfl rfl ?_ | refine js rfl ?_ | (refine jdraw ?_ ?_; · kernel_rfl) | refine jbu rfl rfl rfl rfl ?_ | refine jv h1 rfl rfl rfl rfl rfl ?_ | refine jv h2 rfl rfl rfl rfl rfl ?_ | refine jv h3 rfl rfl rfl rfl rfl ?_)
          exact jmeet rfl rfl
        | true =>
          rw [b2] at h2 hcc hmm
          simp only [Bool.and_true, cond_true] at hcc hmm
          subst hcc hmm
          repeat (first | refine js rfl ?_ | (refine jdraw ?_ ?_; · kernel_rfl) | refine jbu rfl rfl rfl rfl ?_ | refine jv h1 rfl rfl rfl rfl rfl ?_ | refine jv h2 rfl rfl rfl rfl rfl ?_)
          exact jmeet rfl rfl
    · unfold w0C
      have hL0 : IntKind.i64.wrap ((((c2.map encIns).length : Nat) : Int) + 1) ≠ 0 := by rw [List.length_map, wrap_id] <;> omega
      have s8 : (st.take 8).length ≤ 8 := by rw [List.length_take]; omega
      repeat (first | refine jad 15 3 1 rfl rfl rfl rfl ?_ | refine js rfl ?_ | (refine jdraw ?_ ?_; · kernel_rfl) | refine jbu rfl rfl rfl rfl ?_)
      refine jo rfl rfl (cut_take 8 rfl rfl rfl m4 rfl rfl rfl (fun _ => ⟨rfl, rfl⟩)) rfl rfl ?_
      repeat (first | refine js rfl ?_ | (refine jdraw ?_ ?_; · kernel_rfl) | refine jbu rfl rfl rfl rfl ?_)
      unfold wst at *
      generalize st.take 8 = s1 at *
      refine jloopI (fun q : Nat => q ≤ s1.length) [4, 10, 11, 14, 15, 58, 59, 60] (fun q => [iv d, .ptr 0 0, .sl (c2.map encIns), .ptr 2 0, .arr 3 (q + 1), .sl (s1.map iv), .v (.int .i64 ((s1.map iv).length : Int)), .v (.int .i64 (q : Int))])
        (fun q => [.box 33 [.sl [], .sl [], .sl [], iv 0, .sl [], .sl [], .sl []], .dead (c.length + 1 + 1), .box 25 [.sl (m2'.words.map iv), .sl (m2'.tags.map iv)], .arr (q + 1) 3 1 (((s1.take q).map (cl (c2.map encIns).length)).map iv)]) (fun q => s1.length - q) 0 (Nat.zero_le _) rfl rfl (fun q hq => ?_)
      repeat (first | refine js rfl ?_ | (refine jdraw ?_ ?_; · kernel_rfl) | refine jbu rfl rfl rfl rfl ?_)
      refine jc rfl rfl rfl (fun h => ?_) (fun h => ?_)
      · have h := of_decide_eq_true h
        rw [List.length_map] at h
        have hq2 : q < s1.length := by omega
        have hidx : IntKind.i64.wrap ((q : Int) + 1) = ((q + 1 : Nat) : Int) := idx_next hq2 (by omega)
        have htk : (s1.take q).map (cl (c2.map encIns).length) ++ [cl (c2.map encIns).length (at' s1 (q : Int))] = (s1.take (q + 1)).map (cl (c2.map encIns).length) := by rw [at_nat s1 q hq2, List.take_add_one, List.getElem?_eq_getElem hq2, List.map_append]; rfl
        have hln : ((s1.take q).map (cl (c2.map encIns).length)).length ≤ 8 := by rw [List.length_map, List.length_take]; omega
        repeat (first | refine js rfl ?_ | (refine jdraw ?_ ?_; · kernel_rfl) | refine jbu rfl rfl rfl rfl ?_ | refine jo rfl rfl (index_at rfl rfl rfl rfl rfl rfl rfl rfl (Int.natCast_nonneg q) h) rfl rfl ?_ | refine jo rfl rfl (rem_op rfl rfl hL0) rfl rfl ?_)
        refine jo rfl rfl (append_enc (enc := iv) (l := (s1.take q).map (cl (c2.map encIns).length)) (cl (c2.map encIns).length (at' s1 (q : Int))) rfl rfl rfl rfl rfl rfl rfl rfl rfl rfl (fun x => ⟨rfl, rfl⟩) rfl (by omega) rfl rfl) rfl rfl ?_
        rw [htk]
        repeat (first | refine js rfl ?_ | (refine jdraw ?_ ?_; · kernel_rfl) | refine jbu rfl rfl rfl rfl ?_)
        refine jnextI (q + 1) hq2 ?_ rfl (by omega)
        show some _ = some _
        rw [hidx]
      · have h := of_decide_eq_false h
        rw [List.length_map] at h
        have : q = s1.length := by omega
        subst this
        rw [List.take_length]
        have h9 : (9 : Int) ≠ 0 := by decide
        unfold encIs encMem mCells ivs encWd wCells at hnew
        unfold encWd wCells
        refine jpub 15 rfl rfl rfl rfl ?_
        repeat (first | refine js rfl ?_ | (refine jdraw ?_ ?_; · kernel_rfl) | refine jbu rfl rfl rfl rfl ?_)
        by_cases hs : s1 = []
        · rw [decide_eq_true hs] at hnew ⊢
          subst hs
          repeat (first | refine js rfl ?_ | (refine jdraw ?_ ?_; · kernel_rfl) | refine jbu rfl rfl rfl rfl ?_ | refine jo rfl rfl (rem_op rfl rfl h9) rfl rfl ?_ | refine jw hnew rfl rfl rfl rfl rfl rfl ?_)
          exact jret [] true rfl rfl rfl ⟨rfl, rfl⟩
        · rw [decide_eq_false hs] at hnew ⊢
          rw [show (((((s1.map (cl (c2.map encIns).length)).map iv).length : Nat) : Int) == 0) = false from by
            rw [beq_eq_false_iff_ne, List.length_map, List.length_map]
            have := List.length_pos_iff.2 hs
            omega]
          repeat (first | refine js rfl ?_ | (refine jdraw ?_ ?_; · kernel_rfl) | refine jbu rfl rfl rfl rfl ?_ | refine jo rfl rfl (rem_op rfl rfl h9) rfl rfl ?_ | refine jv hnew rfl rfl rfl rfl rfl ?_)
          exact jret [] true rfl rfl rfl ⟨rfl, rfl⟩
end Go.AL
end
section
set_option maxRecDepth 100000
namespace Go.AL
open Go Go.Proofs
theorem ACalls.argw {P : Program} {f : FuncId} {args args' : List AVal} {H : List AObj} {Q : Eff} (h : ACalls P f args H Q) (hr : ∀ (c : Ctx) us, RelL c args' us → RelL c args us) : ACalls P f args' H Q :=
  ⟨h.enters, fun ext w β us hI hx h0 => h.calls ext w β us hI hx (hr _ _ h0)⟩
theorem agg_weak {c : Ctx} {cs cs' : List AVal} (hr : ∀ us, RelL c cs us → RelL c cs' us) (u : Value) (h : Rel c (.agg cs) u) : Rel c (.agg cs') u := by
  obtain ⟨a, e, h⟩ := h
  exact ⟨a, e, hr _ h⟩
attribute [local irreducible] J
def haltT : Bs := [115,101,116,32,114,49,32,55,10,104,97,108,116,10,97,58,10,115,101,116,32,114,49,32,56,10,104,97,108,116,10]
def haltC : List Ins := [⟨1, 1, 7, 0⟩, ⟨0, 0, 0, 0⟩, ⟨1, 1, 8, 0⟩, ⟨0, 0, 0, 0⟩]
theorem halt_parse : parseP haltT = (haltC, 0, 0) := by decide +kernel
theorem halt_where : whereP haltT [97] = (2, 0) := by decide +kernel
def haltW : Wd := newOk haltC [2] ⟨[0], [1]⟩ 0
theorem haltW_right : WdR haltW := newOk_right (by decide +kernel) (by decide) (by decide) (by decide) (by decide) (by intro a ha; simp at ha; subst ha; decide)
theorem halt_new : newW haltC [2] ⟨[0], [1]⟩ 0 = (haltW, 0) := by
  unfold newW haltW
  rw [show rightC haltC = true by decide +kernel]
  rfl
theorem halt_runs : (roundsW haltW 9).2 = 2 ∧ (roundsW haltW 9).1.thr.length = 1 ∧ g0 (at' (roundsW haltW 9).1.thr (0 : Int)).regs 1 = 8 := by decide +kernel
theorem halive_ok (g : Gl) : ACalls Tryz.prog 12 [] (gls g) (one (bv true) (gls g)) := by
  have h1 := snew_ok g haltT [[97]] ⟨[0], [1]⟩ 0 (by decide) (by decide) (by decide) (by rw [halt_parse]) (by intro l hl; simp at hl; subst hl; rw [halt_where]) (by rw [halt_parse]; decide)
  have e1 : stAt haltT [[97]] = [2] := by unfold stAt; simp [halt_where]
  rw [halt_parse, e1] at h1
  simp only at h1
  rw [halt_new] at h1
  have h2 := rounds_ok haltW 9 haltW_right (by decide) (by decide)
  obtain ⟨r1, r2, r3⟩ := halt_runs
  rw [r1] at h2
  generalize (roundsW haltW 9).1 = w at *
  simp only at h1
  generalize haltW = w0 at *
  have hl : ((((w.thr.map encThr).length : Nat) : Int) == 1) = true := by rw [List.length_map, r2]; rfl
  have h0 : (0 : Int) < w.thr.length := by omega
  unfold gls at *
  unfold encWd wCells encMem mCells ivs at *
  have h1 := h1.argw (args' := [sv haltT, .slf [sv [97]], .agg [.slf [iv 0], .slf [iv 1]], iv 0])
    (fun c us h => relL_cons (fun u h => h) (relL_cons (fun u h => sl_weak h) (relL_cons (agg_weak (relL_cons (fun u h => sl_weak h) (relL_cons (fun u h => sl_weak h) (fun us h => h)))) (fun us h => h))) us h)
  refine jcalls Tryz.func12 rfl (by kernel_rfl) Tryz.ntmps12 rfl rfl (fun w0 β0 ext hβ => ?_)
  repeat (first | refine js rfl ?_ | (refine jdraw ?_ ?_; · kernel_rfl) | refine jbu rfl rfl rfl rfl ?_)
  refine jb [0,1,2,3] h1 rfl rfl rfl ⟨rfl, rfl, rfl, rfl, rfl, rfl⟩ rfl rfl rfl rfl ?_
  repeat (first | refine js rfl ?_ | (refine jdraw ?_ ?_; · kernel_rfl) | refine jbu rfl rfl rfl rfl ?_ | refine jv h2 rfl rfl rfl rfl rfl ?_)
  rw [hl]
  repeat (first | refine js rfl ?_ | (refine jdraw ?_ ?_; · kernel_rfl) | refine jbu rfl rfl rfl rfl ?_ | refine jo rfl rfl (index_at rfl rfl rfl rfl rfl rfl rfl rfl (Int.le_refl 0) h0) rfl rfl ?_)
  refine jo rfl rfl (index_pp rfl rfl rfl rfl rfl (by decide) (by decide)) rfl rfl ?_
  repeat (first | refine js rfl ?_ | (refine jdraw ?_ ?_; · kernel_rfl) | refine jbu rfl rfl rfl rfl ?_)
  rw [r3]
  repeat (first | refine js rfl ?_ | (refine jdraw ?_ ?_; · kernel_rfl) | refine jbu rfl rfl rfl rfl ?_)
  exact jr rfl rfl rfl rfl
theorem runW_sz {w : Wd} (h : WdR w) (he : w.evs.length ≤ 1000) (l : List Act) (hl : l.length ≤ 1000) : WdR (runW w l).1 ∧ (runW w l).1.evs.length ≤ 2000 ∧ (runW w l).2 ≤ 1000 := by
  obtain ⟨a, b, c⟩ := runW_right h l 0
  exact ⟨a, by unfold runW; omega, by unfold runW; omega⟩
end Go.AL
end
section
set_option maxRecDepth 100000
namespace Go.AL
open Go Go.Proofs
attribute [local irreducible] J
theorem roundsW_right {w : Wd} (h : WdR w) : ∀ m, WdR (roundsW w m).1 ∧ (roundsW w m).1.evs.length ≤ w.evs.length + 16 * m ∧ (roundsW w m).2 ≤ m ∧ (roundsW w m).1.thr.length = w.thr.length
  | 0 => ⟨h, by show w.evs.length ≤ _; omega, Nat.le_refl _, rfl⟩
  | m + 1 => by
    unfold roundsW
    cases idleW w with
    | true => exact ⟨h, by show w.evs.length ≤ _; omega, Nat.zero_le _, rfl⟩
    | false =>
      have h1 := rdP_right (s := (w, 0)) h w.thr.length
      rw [rdP_round] at h1
      obtain ⟨a1, a2, _, a4, _⟩ := h1
      have hn : w.thr.length ≤ 8 := by have := h.len; have := h.tso.sz; omega
      obtain ⟨b1, b2, b3, b4⟩ := roundsW_right a1 m
      refine ⟨b1, ?_, ?_, b4.trans a4⟩
      · simp only [cond_false] at *; omega
      · simp only [cond_false]; omega
def oddW (w : Wd) : Wd := { w with thr := [] }
theorem oddW_no {w : Wd} (h : WdR w) : wRight (oddW w) = false := by
  cases hr : wRight (oddW w) with
  | false => rfl
  | true =>
    have h1 := (wRight_iff.1 hr).len
    have h2 := h.tso.sz
    have h3 : (oddW w).tso = w.tso := rfl
    rw [h3] at h1
    have : (oddW w).thr.length = 0 := rfl
    omega
theorem oddW_sz {w : Wd} (h : WdR w) : WdSz (oddW w) := ⟨h.size.code, h.size.tso, by show 0 ≤ 1000000; omega, fun t ht => by cases ht⟩
theorem wd0_sz : WdSz wd0 := ⟨by decide, ⟨by decide, by decide, by decide, fun _ h => by cases h⟩, by decide, fun _ h => by cases h⟩
theorem lrounds_ok (g : Gl) (code : List Ins) (st ws ts : List Int) (d most : Int) : ACalls Tryz.prog 6 [encIs code, ivs st, ivs ws, ivs ts, iv d, iv most] (gls g) (one (bv true) (gls g)) := by
  have hw := worldW_right code st ws ts d
  have h1 := world_ok code st ws ts d
  have hev : (worldW code st ws ts d).evs = [] := rfl
  generalize worldW code st ws ts d = w at *
  have hn := oddW_no hw
  have hz := oddW_sz hw
  have h2 := rounds_no (oddW w) 1 hz hn
  have h3 := run_no (oddW w) [] hz hn
  have h4 := do_no (oddW w) ⟨0, 0⟩ hz hn
  have h5 := idle_no (oddW w) hz hn
  have h6 := halive_ok g
  have h9 := rsame_ok wd0 wd0_sz (by decide)
  have hA : encAct ⟨0, 0⟩ = .agg [iv 0, iv 0] := rfl
  rw [hA] at h4
  have hO : ∀ (c : Ctx) (us : List Value), RelL c [.sl (w.code.map encIns), ivs w.tso.mem.words, ivs w.tso.mem.tags, iv w.tso.depth, .sl (w.tso.bufs.map encBuf), .slf [], .sl (w.evs.map encEvt)] us → RelL c (wCells (oddW w)) us :=
    fun c us h => relL_cons (fun u h => h) (relL_cons (fun u h => h) (relL_cons (fun u h => h) (relL_cons (fun u h => h) (relL_cons (fun u h => h) (relL_cons (fun u h => sl_weak h) (fun us h => h)))))) us h
  have hO' : ∀ (c : Ctx) (u : Value), Rel c (.agg [.sl (w.code.map encIns), ivs w.tso.mem.words, ivs w.tso.mem.tags, iv w.tso.depth, .sl (w.tso.bufs.map encBuf), .slf [], .sl (w.evs.map encEvt)]) u → Rel c (encWd (oddW w)) u :=
    fun c u h => agg_weak (hO c) u h
  replace h2 := h2.argw (fun c us h => relL_cons (hO' c) (fun us h => h) us h)
  replace h3 := h3.argw (args' := [_, .slf []]) (fun c us h => relL_cons (hO' c) (relL_cons (fun u h => sl_weak h) (fun us h => h)) us h)
  replace h4 := h4.argw (fun c us h => relL_cons (hO' c) (fun us h => h) us h)
  replace h5 := h5.argw (fun c us h => relL_cons (hO' c) (fun us h => h) us h)
  have hbr : (0 ≤ most ∧ most ≤ 10000) ∨ (most < 0 ∨ 10000 < most) := by omega
  rcases hbr with ⟨b0, b1⟩ | hb
  · obtain ⟨m, hm⟩ : ∃ m : Nat, (m : Int) = if 100 < most then 100 else most := ⟨(if 100 < most then 100 else most).toNat, by split <;> omega⟩
    have hm1 : m ≤ 100 := by split at hm <;> omega
    have h7 := rounds_ok w m hw (by rw [hev]; decide) (by omega)
    have h8 := r9rounds_ok w m hw (by rw [hev]; decide) (by omega)
    obtain ⟨a1, a2, a3, _⟩ := roundsW_right hw m
    have h10 := rsame_ok (roundsW w m).1 a1.size (by rw [hev] at a2; simp only [List.length_nil] at a2; omega)
    generalize roundsW w m = x at *
    obtain ⟨x, n⟩ := x
    clear hw hev a1 a2 hO hO' hA hz hn
    unfold gls at *
    simp only at *
    unfold encWd wCells encIs ivs at *
    refine jcalls Tryz.func6 rfl (by kernel_rfl) Tryz.ntmps6 rfl rfl (fun w0 β0 ext hβ => ?_)
    repeat (first | refine js rfl ?_ | refine jbu rfl rfl rfl rfl ?_)
    repeat (first | refine js rfl ?_ | (refine jdraw ?_ ?_; · kernel_rfl) | refine jbu rfl rfl rfl rfl ?_ | refine jv h1 rfl rfl rfl rfl rfl ?_)
    repeat (first | refine js rfl ?_ | (refine jdraw ?_ ?_; · kernel_rfl) | refine jbu rfl rfl rfl rfl ?_ | refine jv h2 rfl rfl rfl rfl rfl ?_ | refine jv h3 rfl rfl rfl rfl rfl ?_ | refine jv h4 rfl rfl rfl rfl rfl ?_ | refine jv h5 rfl rfl rfl rfl rfl ?_)
    refine jb [0,1,2,3] h6 rfl rfl rfl ⟨rfl, rfl, rfl, rfl, rfl, rfl⟩ rfl rfl rfl rfl ?_
    repeat (first | refine js rfl ?_ | (refine jdraw ?_ ?_; · kernel_rfl) | refine jbu rfl rfl rfl rfl ?_)
    rw [show decide (most ≥ 0) = true from decide_eq_true b0]
    repeat (first | refine js rfl ?_ | (refine jdraw ?_ ?_; · kernel_rfl) | refine jbu rfl rfl rfl rfl ?_)
    rw [show decide (most ≤ 10000) = true from decide_eq_true b1]
    repeat (first | refine js rfl ?_ | (refine jdraw ?_ ?_; · kernel_rfl) | refine jbu rfl rfl rfl rfl ?_)
    rw [← hm]
    repeat (first | refine js rfl ?_ | (refine jdraw ?_ ?_; · kernel_rfl) | refine jbu rfl rfl rfl rfl ?_ | refine jv h7 rfl rfl rfl rfl rfl ?_)
    rw [show decide ((m : Int) < 0) = false from decide_eq_false (by omega)]
    repeat (first | refine js rfl ?_ | (refine jdraw ?_ ?_; · kernel_rfl) | refine jbu rfl rfl rfl rfl ?_)
    rw [show decide ((m : Int) > 10000) = false from decide_eq_false (by omega)]
    repeat (first | refine js rfl ?_ | (refine jdraw ?_ ?_; · kernel_rfl) | refine jbu rfl rfl rfl rfl ?_ | refine jv h8 rfl rfl rfl rfl rfl ?_)
    rw [show (((n : Nat) : Int) == ((n : Nat) : Int)) = true from by simp]
    repeat (first | refine js rfl ?_ | (refine jdraw ?_ ?_; · kernel_rfl) | refine jbu rfl rfl rfl rfl ?_ | refine jv h10 rfl rfl rfl rfl rfl ?_)
    exact jr rfl rfl rfl rfl
  · have h7 := rounds_out w most hw hb
    clear hw hev hO hO' hA hz hn
    unfold gls at *
    unfold encWd wCells encIs ivs at *
    replace h9 := h9.argw (args' := [_, .agg [.slf [], .slf [], .slf [], iv 0, .slf [], .slf [], .slf []]]) (fun c us h => relL_cons (fun u h => h) (relL_cons (agg_weak (relL_cons (fun u h => sl_weak h) (relL_cons (fun u h => sl_weak h) (relL_cons (fun u h => sl_weak h) (relL_cons (fun u h => h) (relL_cons (fun u h => sl_weak h) (relL_cons (fun u h => sl_weak h) (relL_cons (fun u h => sl_weak h) (fun us h => h))))))))) (fun us h => h)) us h)
    rcases hb with hb | hb
    · refine jcalls Tryz.func6 rfl (by kernel_rfl) Tryz.ntmps6 rfl rfl (fun w0 β0 ext hβ => ?_)
      repeat (first | refine js rfl ?_ | refine jbu rfl rfl rfl rfl ?_)
      repeat (first | refine js rfl ?_ | (refine jdraw ?_ ?_; · kernel_rfl) | refine jbu rfl rfl rfl rfl ?_ | refine jv h1 rfl rfl rfl rfl rfl ?_)
      repeat (first | refine js rfl ?_ | (refine jdraw ?_ ?_; · kernel_rfl) | refine jbu rfl rfl rfl rfl ?_ | refine jv h2 rfl rfl rfl rfl rfl ?_ | refine jv h3 rfl rfl rfl rfl rfl ?_ | refine jv h4 rfl rfl rfl rfl rfl ?_ | refine jv h5 rfl rfl rfl rfl rfl ?_)
      refine jb [0,1,2,3] h6 rfl rfl rfl ⟨rfl, rfl, rfl, rfl, rfl, rfl⟩ rfl rfl rfl rfl ?_
      repeat (first | refine js rfl ?_ | (refine jdraw ?_ ?_; · kernel_rfl) | refine jbu rfl rfl rfl rfl ?_)
      rw [show decide (most ≥ 0) = false from decide_eq_false (by omega)]
      repeat (first | refine js rfl ?_ | (refine jdraw ?_ ?_; · kernel_rfl) | refine jbu rfl rfl rfl rfl ?_ | refine jv h7 rfl rfl rfl rfl rfl ?_)
      rw [show decide (most < 0) = true from decide_eq_true hb]
      repeat (first | refine js rfl ?_ | (refine jdraw ?_ ?_; · kernel_rfl) | refine jbu rfl rfl rfl rfl ?_ | refine jv h9 rfl rfl rfl rfl rfl ?_)
      exact jr rfl rfl rfl rfl
    · refine jcalls Tryz.func6 rfl (by kernel_rfl) Tryz.ntmps6 rfl rfl (fun w0 β0 ext hβ => ?_)
      repeat (first | refine js rfl ?_ | refine jbu rfl rfl rfl rfl ?_)
      repeat (first | refine js rfl ?_ | (refine jdraw ?_ ?_; · kernel_rfl) | refine jbu rfl rfl rfl rfl ?_ | refine jv h1 rfl rfl rfl rfl rfl ?_)
      repeat (first | refine js rfl ?_ | (refine jdraw ?_ ?_; · kernel_rfl) | refine jbu rfl rfl rfl rfl ?_ | refine jv h2 rfl rfl rfl rfl rfl ?_ | refine jv h3 rfl rfl rfl rfl rfl ?_ | refine jv h4 rfl rfl rfl rfl rfl ?_ | refine jv h5 rfl rfl rfl rfl rfl ?_)
      refine jb [0,1,2,3] h6 rfl rfl rfl ⟨rfl, rfl, rfl, rfl, rfl, rfl⟩ rfl rfl rfl rfl ?_
      repeat (first | refine js rfl ?_ | (refine jdraw ?_ ?_; · kernel_rfl) | refine jbu rfl rfl rfl rfl ?_)
      rw [show decide (most ≥ 0) = true from decide_eq_true (by omega)]
      repeat (first | refine js rfl ?_ | (refine jdraw ?_ ?_; · kernel_rfl) | refine jbu rfl rfl rfl rfl ?_)
      rw [show decide (most ≤ 10000) = false from decide_eq_false (by omega)]
      repeat (first | refine js rfl ?_ | (refine jdraw ?_ ?_; · kernel_rfl) | refine jbu rfl rfl rfl rfl ?_ | refine jv h7 rfl rfl rfl rfl rfl ?_)
      rw [show decide (most < 0) = false from decide_eq_false (by omega)]
      repeat (first | refine js rfl ?_ | (refine jdraw ?_ ?_; · kernel_rfl) | refine jbu rfl rfl rfl rfl ?_)
      rw [show decide (most > 10000) = true from decide_eq_true hb]
      repeat (first | refine js rfl ?_ | (refine jdraw ?_ ?_; · kernel_rfl) | refine jbu rfl rfl rfl rfl ?_ | refine jv h9 rfl rfl rfl rfl rfl ?_)
      exact jr rfl rfl rfl rfl
end Go.AL
end
section
set_option maxRecDepth 100000
namespace Go.AL
open Go Go.Proofs
attribute [local irreducible] J
theorem run_shift : ∀ (l : List Act) (w : Wd) (n : Nat), l.foldl (fun s a => ((actW s.1 a).1, cond (actW s.1 a).2 (s.2 + 1) s.2)) (w, n) = ((runW w l).1, n + (runW w l).2)
  | [], w, n => rfl
  | a :: l, w, n => by
    unfold runW
    rw [List.foldl_cons, List.foldl_cons, run_shift l, run_shift l]
    simp only
    cases (actW w a).2 with
    | true => simp only [cond_true]; rw [Nat.zero_add, Nat.add_assoc]
    | false => simp only [cond_false]; rw [Nat.zero_add]
theorem run_app (w : Wd) (l1 l2 : List Act) : runW w (l1 ++ l2) = ((runW (runW w l1).1 l2).1, (runW w l1).2 + (runW (runW w l1).1 l2).2) := by
  rw [← run_shift]
  unfold runW
  rw [List.foldl_append]
theorem act_false {w : Wd} {a : Act} (h : (actW w a).2 = false) : (actW w a).1 = w := by
  unfold actW at *
  split at h
  · cases hd : decide ((stepW w a.who).2 = 0) with
    | true => rw [hd] at h; cases h
    | false => rfl
  · cases hd : decide ((flushW w a.who).2 = 0) with
    | true => rw [hd] at h; cases h
    | false => rfl
  · rfl
def doneF (w : Wd) (l : List Act) : Wd × List Act := l.foldl (fun s a => ((actW s.1 a).1, cond (actW s.1 a).2 (s.2 ++ [a]) s.2)) (w, [])
theorem done_gen (w : Wd) : ∀ (l : List Act) (x : Wd) (d : List Act), runW w d = (x, d.length) →
    (l.foldl (fun s a => ((actW s.1 a).1, cond (actW s.1 a).2 (s.2 ++ [a]) s.2)) (x, d)).1 = (runW x l).1 ∧ (l.foldl (fun s a => ((actW s.1 a).1, cond (actW s.1 a).2 (s.2 ++ [a]) s.2)) (x, d)).2.length = d.length + (runW x l).2 ∧
    runW w (l.foldl (fun s a => ((actW s.1 a).1, cond (actW s.1 a).2 (s.2 ++ [a]) s.2)) (x, d)).2 = ((runW x l).1, d.length + (runW x l).2)
  | [], x, d, h => ⟨rfl, rfl, h⟩
  | a :: l, x, d, h => by
    have e1 : runW x (a :: l) = ((runW (actW x a).1 l).1, (cond (actW x a).2 1 0) + (runW (actW x a).1 l).2) := by
      have := run_app x [a] l
      rw [List.singleton_append] at this
      rw [this]
      rfl
    rw [List.foldl_cons]
    simp only
    rw [e1]
    cases hb : (actW x a).2 with
    | true =>
      simp only [cond_true]
      have h2 : runW w (d ++ [a]) = ((actW x a).1, (d ++ [a]).length) := by
        rw [run_app, h]
        show ((actW x a).1, d.length + cond (actW x a).2 (0 + 1) 0) = _
        rw [hb, List.length_append]
        rfl
      obtain ⟨b1, b2, b3⟩ := done_gen w l _ _ h2
      rw [List.length_append] at b2 b3
      refine ⟨b1, by rw [b2, Nat.add_assoc]; rfl, by rw [b3, Nat.add_assoc]; rfl⟩
    | false =>
      simp only [cond_false]
      rw [act_false hb]
      obtain ⟨b1, b2, b3⟩ := done_gen w l x d h
      refine ⟨b1, by rw [b2, Nat.zero_add], by rw [b3, Nat.zero_add]⟩
theorem done_eq (w : Wd) (l : List Act) : (doneF w l).1 = (runW w l).1 ∧ (doneF w l).2.length = (runW w l).2 ∧ runW w (doneF w l).2 = runW w l := by
  obtain ⟨a, b, c⟩ := done_gen w l w [] rfl
  refine ⟨a, by rw [← Nat.zero_add (runW w l).2]; exact b, ?_⟩
  have : runW w l = ((runW w l).1, ([] : List Act).length + (runW w l).2) := by rw [show ([] : List Act).length = 0 from rfl, Nat.zero_add]
  rw [this]
  exact c
theorem done_succ (w : Wd) (l : List Act) (q : Nat) (hq : q < l.length) : doneF w (l.take (q + 1)) = ((actW (doneF w (l.take q)).1 (at' l (q : Int))).1, cond (actW (doneF w (l.take q)).1 (at' l (q : Int))).2 ((doneF w (l.take q)).2 ++ [at' l (q : Int)]) (doneF w (l.take q)).2) := by
  rw [at_nat l q hq, List.take_add_one, List.getElem?_eq_getElem hq]
  unfold doneF
  rw [Option.toList_some, List.foldl_append]
  rfl
theorem run_takes (w : Wd) (l : List Act) (k : Nat) : runW w l = ((runW (runW w (l.take k)).1 (l.drop k)).1, (runW w (l.take k)).2 + (runW (runW w (l.take k)).1 (l.drop k)).2) := by
  rw [← run_app, List.take_append_drop]
theorem parts_ok (g : Gl) (code : List Ins) (st ws ts : List Int) (d : Int) (acts : List Act) (k : Int) : ACalls Tryz.prog 4 [encIs code, ivs st, ivs ws, ivs ts, iv d, .sl (acts.map encAct), iv k] (gls g) (one (bv true) (gls g)) := by
  have hw := worldW_right code st ws ts d
  have h1 := world_ok code st ws ts d
  have hev : (worldW code st ws ts d).evs = [] := rfl
  generalize worldW code st ws ts d = w at *
  have he : w.evs.length ≤ 1000 := by rw [hev]; decide
  have hl8 : (acts.take 80).length ≤ 80 := by rw [List.length_take]; omega
  have m1 : (if (80 : Int) < (((acts.map encAct).length : Nat) : Int) then (80 : Int) else (((acts.map encAct).length : Nat) : Int)) = ((min acts.length 80 : Nat) : Int) := by rw [List.length_map]; split <;> omega
  generalize hL : acts.take 80 = l at *
  obtain ⟨q, hq⟩ : ∃ q : Nat, cl (l.map encAct).length k = (q : Int) := ⟨(cl (l.map encAct).length k).toNat, by have := (cl_bd (l.map encAct).length k (by rw [List.length_map]; omega)).1; omega⟩
  have hql : q ≤ l.length := by have := (cl_bd (l.map encAct).length k (by rw [List.length_map]; omega)).2; rw [hq, List.length_map] at this; omega
  obtain ⟨b1, b2, b3⟩ := runW_sz hw he l (by omega)
  have hsum := run_takes w l q
  have h2 := run_ok w l hw (by omega) (by omega)
  have h3 := run_ok w (l.take q) hw (by omega) (by rw [List.length_take]; omega)
  obtain ⟨c1, c2, c3⟩ := runW_sz hw he (l.take q) (by rw [List.length_take]; omega)
  have h4 := run_ok (runW w (l.take q)).1 (l.drop q) c1 (by omega) (by rw [List.length_drop]; omega)
  obtain ⟨d1, d2, d3⟩ := done_eq w l
  have dl : (doneF w l).2.length ≤ 1000 := by omega
  have h5 := run_ok w (doneF w l).2 hw (by omega) (by omega)
  rw [d3] at h5
  have h6 := halive_ok g
  have h7 := rsame_ok (runW w l).1 b1.size (by omega)
  have hd0 : ∀ j, WdR (doneF w (l.take j)).1 ∧ (doneF w (l.take j)).1.evs.length ≤ 2000 ∧ (doneF w (l.take j)).2.length ≤ 1000 := fun j => by
    obtain ⟨a1, a2, a3⟩ := done_eq w (l.take j)
    obtain ⟨a4, a5, a6⟩ := runW_sz hw he (l.take j) (by rw [List.length_take]; omega)
    rw [a1, a2]
    exact ⟨a4, a5, a6⟩
  have hL0 : IntKind.i64.wrap ((((l.map encAct).length : Nat) : Int) + 1) ≠ 0 := by rw [List.length_map, wrap_id] <;> omega
  have e1 : (runW (runW w (l.take q)).1 (l.drop q)).1 = (runW w l).1 := (congrArg Prod.fst hsum).symm
  have e2 : (runW w l).2 = (runW w (l.take q)).2 + (runW (runW w (l.take q)).1 (l.drop q)).2 := congrArg Prod.snd hsum
  rw [e1] at h4
  generalize hO : (runW w (l.take q)).1 = O at *
  generalize (runW O (l.drop q)).2 = nb at *
  generalize (runW w (l.take q)).2 = na at *
  generalize hR : (runW w l).1 = R at *
  generalize hn : (runW w l).2 = n at *
  have hwr : IntKind.i64.wrap (((na : Nat) : Int) + ((nb : Nat) : Int)) = ((n : Nat) : Int) := by rw [wrap_id] <;> omega
  clear hsum hev e1 hO c1 c2 c3
  unfold cl at hq
  unfold gls at *
  unfold encWd wCells encIs ivs at *
  refine jcalls Tryz.func4 rfl (by kernel_rfl) Tryz.ntmps4 rfl rfl (fun w0 β0 ext hβ => ?_)
  repeat (first | refine js rfl ?_ | refine jbu rfl rfl rfl rfl ?_)
  refine jdraw ?_ ?_; · kernel_rfl
  repeat (first | refine js rfl ?_ | (refine jdraw ?_ ?_; · kernel_rfl) | refine jbu rfl rfl rfl rfl ?_ | refine jv h1 rfl rfl rfl rfl rfl ?_)
  refine jo rfl rfl (cut_take 80 rfl rfl rfl m1 rfl rfl rfl (fun _ => ⟨rfl, rfl⟩)) rfl rfl ?_
  rw [hL]
  repeat (first | refine js rfl ?_ | (refine jdraw ?_ ?_; · kernel_rfl) | refine jbu rfl rfl rfl rfl ?_ | refine jo rfl rfl (rem_op rfl rfl hL0) rfl rfl ?_)
  rw [hq]
  repeat (first | refine js rfl ?_ | (refine jdraw ?_ ?_; · kernel_rfl) | refine jbu rfl rfl rfl rfl ?_ | refine jv h2 rfl rfl rfl rfl rfl ?_)
  refine jo rfl rfl (cut_enc (enc := encAct) (l := l) 0 q rfl rfl rfl ⟨_, rfl⟩ rfl rfl rfl (fun _ => ⟨rfl, rfl⟩) (Nat.zero_le _) hql) rfl rfl ?_
  rw [show (l.drop 0).take (q - 0) = l.take q from rfl]
  repeat (first | refine js rfl ?_ | (refine jdraw ?_ ?_; · kernel_rfl) | refine jbu rfl rfl rfl rfl ?_ | refine jv h3 rfl rfl rfl rfl rfl ?_)
  refine jo rfl rfl (cut_enc (enc := encAct) (l := l) q l.length rfl rfl ⟨_, rfl⟩ (by rw [List.length_map]) rfl rfl rfl (fun _ => ⟨rfl, rfl⟩) hql (Nat.le_refl _)) rfl rfl ?_
  rw [show (l.drop q).take (l.length - q) = l.drop q from List.take_of_length_le (by rw [List.length_drop]; omega)]
  repeat (first | refine js rfl ?_ | (refine jdraw ?_ ?_; · kernel_rfl) | refine jbu rfl rfl rfl rfl ?_ | refine jv h4 rfl rfl rfl rfl rfl ?_)
  rw [hwr]
  rw [show (((n : Nat) : Int) != ((n : Nat) : Int)) = false from by simp]
  repeat (first | refine js rfl ?_ | (refine jdraw ?_ ?_; · kernel_rfl) | refine jbu rfl rfl rfl rfl ?_ | refine jv h7 rfl rfl rfl rfl rfl ?_)
  refine jb [0,1,2,3] h6 rfl rfl rfl ⟨rfl, rfl, rfl, rfl, rfl, rfl⟩ rfl rfl rfl rfl ?_
  repeat (first | refine jad 25 51 2 rfl rfl rfl rfl ?_ | refine js rfl ?_ | (refine jdraw ?_ ?_; · kernel_rfl) | refine jbu rfl rfl rfl rfl ?_)
  refine jfin 10 [5, 15, 16, 17, 25, 26, 112, 113, 114] true rfl rfl rfl (by show β0.length ≤ 10; rw [hβ]; exact (by decide : 4 ≤ 10)) ?_
  refine jloop 10 (fun j : Nat => j ≤ l.length) [5, 15, 16, 17, 25, 26, 112, 113, 114] (fun j => [.sl (l.map encAct), .ptr 4 0, .ptr 5 0, iv (n : Int), .arr 8 ((doneF w (l.take j)).2.length + 1), .ptr 9 0, .sl (l.map encAct), .v (.int .i64 ((l.map encAct).length : Int)), .v (.int .i64 (j : Int))])
    (fun j => [g.a, g.b, g.c, g.d, .box 33 (wCells w), .box 33 (wCells R), .box 33 (wCells O), .box 33 (wCells R), .arr ((doneF w (l.take j)).2.length + 1) 51 2 ((doneF w (l.take j)).2.map encAct), .box 33 (wCells (doneF w (l.take j)).1)]) (fun j => l.length - j) 0 (by show β0.length ≤ 10; rw [hβ]; exact (by decide : 4 ≤ 10)) (Nat.zero_le _) rfl rfl (fun j hj => ?_)
  obtain ⟨f1, f2, f3⟩ := hd0 j
  unfold wCells ivs
  repeat (first | refine js rfl ?_ | (refine jdraw ?_ ?_; · kernel_rfl) | refine jbu rfl rfl rfl rfl ?_)
  refine jc rfl rfl rfl (fun h => ?_) (fun h => ?_)
  · have h := of_decide_eq_true h
    rw [List.length_map] at h
    have hj2 : j < l.length := by omega
    have hs := done_succ w l j hj2
    have hidx : IntKind.i64.wrap ((j : Int) + 1) = ((j + 1 : Nat) : Int) := idx_next hj2 (by omega)
    have h8 := sdoW_ok (doneF w (l.take j)).1 (at' l (j : Int)) f1 (by omega)
    generalize doneF w (l.take j) = r at *
    obtain ⟨x, D⟩ := r
    simp only at hs h8 f1 f2 f3 ⊢
    unfold encAct encWd wCells ivs at h8
    repeat (first | refine js rfl ?_ | (refine jdraw ?_ ?_; · kernel_rfl) | refine jbu rfl rfl rfl rfl ?_ | refine jo rfl rfl (index_at rfl rfl rfl rfl rfl rfl rfl rfl (Int.natCast_nonneg j) h) rfl rfl ?_ | refine jv h8 rfl rfl rfl rfl rfl ?_)
    generalize hact : at' l (j : Int) = act at *
    generalize hy : actW x act = y at *
    obtain ⟨y, is⟩ := y
    simp only at hs ⊢
    cases is with
    | true =>
      rw [cond_true] at hs
      repeat (first | refine js rfl ?_ | (refine jdraw ?_ ?_; · kernel_rfl) | refine jbu rfl rfl rfl rfl ?_)
      refine jo rfl rfl (append_enc (enc := encAct) (l := D) act rfl rfl rfl rfl rfl rfl rfl rfl rfl rfl (fun x => ⟨rfl, rfl⟩) rfl (by omega) rfl rfl) rfl rfl ?_
      repeat (first | refine js rfl ?_ | (refine jdraw ?_ ?_; · kernel_rfl) | refine jbu rfl rfl rfl rfl ?_)
      refine jnext (j + 1) hj2 (by omega) rfl rfl rfl ?_ ?_
      · rw [hidx, hs]
        simp only [List.length_append]
        rfl
      · rw [hs]
        simp only [List.length_append]
        rfl
    | false =>
      rw [cond_false] at hs
      repeat (first | refine js rfl ?_ | (refine jdraw ?_ ?_; · kernel_rfl) | refine jbu rfl rfl rfl rfl ?_)
      refine jnext (j + 1) hj2 (by omega) rfl rfl rfl ?_ ?_
      · rw [hidx, hs]; rfl
      · rw [hs]; rfl
  · have h := of_decide_eq_false h
    rw [List.length_map] at h
    have : j = l.length := by omega
    subst this
    rw [List.take_length]
    rw [d1]
    generalize hD : (doneF w l).2 = D at *
    rw [d2]
    refine jpub 25 rfl rfl rfl rfl ?_
    have hDl : (((D.map encAct).length : Nat) : Int) = ((n : Nat) : Int) := by rw [List.length_map, d2]
    repeat (first | refine js rfl ?_ | (refine jdraw ?_ ?_; · kernel_rfl) | refine jbu rfl rfl rfl rfl ?_ | refine jv h5 rfl rfl rfl rfl rfl ?_)
    rw [hDl]
    rw [show (((n : Nat) : Int) == ((n : Nat) : Int)) = true from by simp]
    repeat (first | refine js rfl ?_ | (refine jdraw ?_ ?_; · kernel_rfl) | refine jbu rfl rfl rfl rfl ?_)
    rw [show (((n : Nat) : Int) == ((n : Nat) : Int)) = true from by simp]
    repeat (first | refine js rfl ?_ | (refine jdraw ?_ ?_; · kernel_rfl) | refine jbu rfl rfl rfl rfl ?_ | refine jv h7 rfl rfl rfl rfl rfl ?_)
    exact jret [] true rfl rfl rfl ⟨rfl, rfl⟩
end Go.AL
end
section
set_option maxRecDepth 100000
namespace Go.AL
open Go Go.Proofs
attribute [local irreducible] J
theorem rounds_still (w : Wd) : ∀ m, (roundsW w m).2 < m → idleW (roundsW w m).1 = true := by
  intro m
  induction m generalizing w with
  | zero => intro h; omega
  | succ m ih =>
    unfold roundsW
    cases hi : idleW w with
    | true => intro _; exact hi
    | false =>
      simp only [cond_false]
      intro h
      exact ih (roundW w) (by omega)
theorem inT_iff {w : Wd} {k : Int} : inT w k = true ↔ 0 ≤ k ∧ k ≤ (w.thr.length : Int) - 1 := by
  unfold inT; rw [inn_iff]
theorem idle_act {w : Wd} (h : WdR w) (hi : idleW w = true) (a : Act) : actW w a = (w, false) := by
  have hr : wRight w = true := wRight_iff.2 h
  have h1 := idle_iff.1 hi
  unfold actW
  split
  · unfold stepW
    rw [hr]
    cases ht : inT w a.who with
    | false => rfl
    | true =>
      obtain ⟨t0, t1⟩ := inT_iff.1 ht
      have h2 := h1 a.who.toNat (by have := h.len; omega)
      rw [Bool.or_eq_false_iff] at h2
      rw [h2.1]
      rfl
  · unfold flushW
    rw [hr]
    cases ht : inT w a.who with
    | false => rfl
    | true =>
      obtain ⟨t0, t1⟩ := inT_iff.1 ht
      have h2 := h1 a.who.toNat (by have := h.len; omega)
      rw [Bool.or_eq_false_iff] at h2
      have h3 := of_decide_eq_false h2.2
      have h4 : bufAt w.tso a.who.toNat = [] := by
        cases hb : bufAt w.tso a.who.toNat with
        | nil => rfl
        | cons p r => rw [hb] at h3; simp at h3
      rw [h4]
      rfl
  · rfl
theorem idle_run {w : Wd} (h : WdR w) (hi : idleW w = true) : ∀ l, runW w l = (w, 0)
  | [] => rfl
  | a :: l => by
    have := run_app w [a] l
    rw [List.singleton_append] at this
    rw [this]
    have e : runW w [a] = (w, 0) := by
      show ((actW w a).1, cond (actW w a).2 (0 + 1) 0) = _
      rw [idle_act h hi]
      rfl
    rw [e]
    show ((runW w l).1, 0 + (runW w l).2) = _
    rw [idle_run h hi l]
    rfl
theorem idle_rounds {w : Wd} (hi : idleW w = true) (m : Nat) : roundsW w (m + 1) = (w, 0) := by
  unfold roundsW; rw [hi]; rfl
theorem busy_act {w : Wd} (h : WdR w) (hi : idleW w = false) : ∃ k : Nat, k < w.thr.length ∧ ((actW w ⟨0, (k : Int)⟩).2 || (actW w ⟨1, (k : Int)⟩).2) = true := by
  have hr : wRight w = true := wRight_iff.2 h
  have h1 : ¬ ∀ k, k < w.tso.bufs.length → (canW w k || decide (0 < (bufAt w.tso k).length)) = false := fun hh => by
    rw [idle_iff.2 hh] at hi; cases hi
  have h2 : ∃ k, k < w.tso.bufs.length ∧ (canW w k || decide (0 < (bufAt w.tso k).length)) = true := by
    refine Classical.byContradiction fun hn => h1 fun k hk => ?_
    cases hc : (canW w k || decide (0 < (bufAt w.tso k).length)) with
    | false => rfl
    | true => exact absurd ⟨k, hk, hc⟩ hn
  obtain ⟨k, hk, hc⟩ := h2
  rw [← h.len] at hk
  have ht : inT w (k : Int) = true := inT_iff.2 ⟨by omega, by omega⟩
  refine ⟨k, hk, ?_⟩
  rw [Bool.or_eq_true] at hc ⊢
  rcases hc with hc | hc
  · left
    show (cond (decide ((stepW w (k : Int)).2 = 0)) ((stepW w (k : Int)).1, true) (w, false)).2 = true
    unfold stepW
    rw [hr, ht, show ((k : Int).toNat) = k from rfl, hc]
    rfl
  · right
    have hc := of_decide_eq_true hc
    show (cond (decide ((flushW w (k : Int)).2 = 0)) ((flushW w (k : Int)).1, true) (w, false)).2 = true
    unfold flushW
    rw [hr, ht, show ((k : Int).toNat) = k from rfl]
    cases hb : bufAt w.tso k with
    | nil => rw [hb] at hc; simp at hc
    | cons p r => rfl
theorem still_ok (g : Gl) (code : List Ins) (st ws ts : List Int) (d most : Int) (acts : List Act) : ACalls Tryz.prog 7 [encIs code, ivs st, ivs ws, ivs ts, iv d, iv most, .sl (acts.map encAct)] (gls g) (one (bv true) (gls g)) := by
  have hw := worldW_right code st ws ts d
  have h1 := world_ok code st ws ts d
  have hev : (worldW code st ws ts d).evs = [] := rfl
  generalize worldW code st ws ts d = w at *
  have he : w.evs.length ≤ 1000 := by rw [hev]; decide
  have hl8 : (acts.take 80).length ≤ 80 := by rw [List.length_take]; omega
  have m1 : (if (80 : Int) < (((acts.map encAct).length : Nat) : Int) then (80 : Int) else (((acts.map encAct).length : Nat) : Int)) = ((min acts.length 80 : Nat) : Int) := by rw [List.length_map]; split <;> omega
  generalize hL : acts.take 80 = l at *
  have t1 := tmod_bd most (n := 100) (by decide)
  have hwm : IntKind.i64.wrap (most.tmod 100 + 100) = most.tmod 100 + 100 := wrap_id (by omega) (by omega)
  obtain ⟨m, hm⟩ : ∃ m : Nat, (IntKind.i64.wrap (most.tmod 100 + 100)).tmod 100 = (m : Int) := ⟨((IntKind.i64.wrap (most.tmod 100 + 100)).tmod 100).toNat, by rw [hwm]; have := tmod_nn (k := most.tmod 100 + 100) (n := 100) (by omega); omega⟩
  have hm9 : m ≤ 99 := by have := tmod_bd (IntKind.i64.wrap (most.tmod 100 + 100)) (n := 100) (by decide); omega
  clear t1 hwm
  have h2 := rounds_ok w m hw (by omega) (by omega)
  obtain ⟨a1, a2, a3, a4⟩ := roundsW_right hw m
  have hst := rounds_still w m
  generalize roundsW w m = r at *
  obtain ⟨x, n⟩ := r
  simp only at a1 a2 a3 a4 h2 hst
  have h3 := sIdle_ok x a1
  have h6 := halive_ok g
  have h7 := rsame_ok x a1.size (by omega)
  have hz : (100 : Int) ≠ 0 := by decide
  have hx : x.evs.length ≤ 900000 := by omega
  cases hi : idleW x with
  | true =>
    have h4 := run_ok x l a1 (by omega) (by omega)
    have h5 := rounds_ok x 7 a1 (by omega) (by omega)
    rw [idle_run a1 hi] at h4
    rw [idle_rounds hi 6] at h5
    rw [hi] at h3
    simp only at h4 h5
    unfold gls at *
    unfold encWd wCells encIs ivs at *
    cases hnm : decide ((n : Int) < (m : Int)) <;> (
      refine jcalls Tryz.func7 rfl (by kernel_rfl) Tryz.ntmps7 rfl rfl (fun w0 β0 ext hβ => ?_)
      repeat (first | refine js rfl ?_ | (refine jdraw ?_ ?_; · kernel_rfl) | refine jbu rfl rfl rfl rfl ?_ | refine jv h1 rfl rfl rfl rfl rfl ?_)
      repeat (first | refine js rfl ?_ | (refine jdraw ?_ ?_; · kernel_rfl) | refine jbu rfl rfl rfl rfl ?_ | refine jo rfl rfl (rem_op rfl rfl hz) rfl rfl ?_)
      rw [hm]
      repeat (first | refine js rfl ?_ | (refine jdraw ?_ ?_; · kernel_rfl) | refine jbu rfl rfl rfl rfl ?_ | refine jv h2 rfl rfl rfl rfl rfl ?_ | refine jv h3 rfl rfl rfl rfl rfl ?_)
      rw [show decide ((n : Int) < 0) = false from decide_eq_false (by omega)]
      repeat (first | refine js rfl ?_ | (refine jdraw ?_ ?_; · kernel_rfl) | refine jbu rfl rfl rfl rfl ?_)
      rw [show decide ((n : Int) > (m : Int)) = false from decide_eq_false (by omega)]
      repeat (first | refine js rfl ?_ | (refine jdraw ?_ ?_; · kernel_rfl) | refine jbu rfl rfl rfl rfl ?_)
      rw [hnm]
      repeat (first | refine js rfl ?_ | (refine jdraw ?_ ?_; · kernel_rfl) | refine jbu rfl rfl rfl rfl ?_)
      refine jb [0,1,2,3] h6 rfl rfl rfl ⟨rfl, rfl, rfl, rfl, rfl, rfl⟩ rfl rfl rfl rfl ?_
      repeat (first | refine js rfl ?_ | (refine jdraw ?_ ?_; · kernel_rfl) | refine jbu rfl rfl rfl rfl ?_)
      refine jo rfl rfl (cut_take 80 rfl rfl rfl m1 rfl rfl rfl (fun _ => ⟨rfl, rfl⟩)) rfl rfl ?_
      rw [hL]
      repeat (first | refine js rfl ?_ | (refine jdraw ?_ ?_; · kernel_rfl) | refine jbu rfl rfl rfl rfl ?_ | refine jv h4 rfl rfl rfl rfl rfl ?_ | refine jv h5 rfl rfl rfl rfl rfl ?_ | refine jv h7 rfl rfl rfl rfl rfl ?_)
      exact jr rfl rfl rfl rfl
    )
  | false =>
    have hnm : decide ((n : Int) < (m : Int)) = false := decide_eq_false (fun h => by have := hst (by omega); rw [hi] at this; cases this)
    rw [hi] at h3
    have hbz := busy_act a1 hi
    have hth : x.thr.length ≤ 8 := by have := a1.len; have := a1.tso.sz; omega
    have h8 : ∀ j : Nat, _ := fun j => sdoW_ok x ⟨0, (j : Int)⟩ a1 hx
    have h9 : ∀ j : Nat, _ := fun j => sdoW_ok x ⟨1, (j : Int)⟩ a1 hx
    have hA : ∀ j : Nat, encAct ⟨0, (j : Int)⟩ = .agg [iv 0, iv j] := fun _ => rfl
    have hB : ∀ j : Nat, encAct ⟨1, (j : Int)⟩ = .agg [iv 1, iv j] := fun _ => rfl
    simp only [hA] at h8
    simp only [hB] at h9
    unfold gls at *
    unfold encWd wCells encIs ivs at *
    refine jcalls Tryz.func7 rfl (by kernel_rfl) Tryz.ntmps7 rfl rfl (fun w0 β0 ext hβ => ?_)
    repeat (first | refine js rfl ?_ | (refine jdraw ?_ ?_; · kernel_rfl) | refine jbu rfl rfl rfl rfl ?_ | refine jv h1 rfl rfl rfl rfl rfl ?_)
    repeat (first | refine js rfl ?_ | (refine jdraw ?_ ?_; · kernel_rfl) | refine jbu rfl rfl rfl rfl ?_ | refine jo rfl rfl (rem_op rfl rfl hz) rfl rfl ?_)
    rw [hm]
    repeat (first | refine js rfl ?_ | (refine jdraw ?_ ?_; · kernel_rfl) | refine jbu rfl rfl rfl rfl ?_ | refine jv h2 rfl rfl rfl rfl rfl ?_ | refine jv h3 rfl rfl rfl rfl rfl ?_)
    rw [show decide ((n : Int) < 0) = false from decide_eq_false (by omega)]
    repeat (first | refine js rfl ?_ | (refine jdraw ?_ ?_; · kernel_rfl) | refine jbu rfl rfl rfl rfl ?_)
    rw [show decide ((n : Int) > (m : Int)) = false from decide_eq_false (by omega)]
    repeat (first | refine js rfl ?_ | (refine jdraw ?_ ?_; · kernel_rfl) | refine jbu rfl rfl rfl rfl ?_)
    rw [hnm]
    repeat (first | refine js rfl ?_ | (refine jdraw ?_ ?_; · kernel_rfl) | refine jbu rfl rfl rfl rfl ?_)
    refine jb [0,1,2,3] h6 rfl rfl rfl ⟨rfl, rfl, rfl, rfl, rfl, rfl⟩ rfl rfl rfl rfl ?_
    repeat (first | refine js rfl ?_ | (refine jdraw ?_ ?_; · kernel_rfl) | refine jbu rfl rfl rfl rfl ?_)
    refine jfin 6 [16, 128, 129] true rfl rfl rfl (by show β0.length ≤ 6; rw [hβ]; exact (by decide : 4 ≤ 6)) ?_
    refine jloop 6 (fun j : Nat => j ≤ x.thr.length ∧ ∀ i : Nat, i < j → ((actW x ⟨0, (i : Int)⟩).2 || (actW x ⟨1, (i : Int)⟩).2) = false) [16, 128, 129] (fun j => [.ptr 5 0, .v (.int .i64 ((x.thr.map encThr).length : Int)), .v (.int .i64 (j : Int))])
      (fun j => [g.a, g.b, g.c, g.d, .box 33 (wCells w), .box 33 (wCells x)]) (fun j => x.thr.length - j) 0 (by show β0.length ≤ 6; rw [hβ]; exact (by decide : 4 ≤ 6)) ⟨Nat.zero_le _, fun i hi => by omega⟩ rfl rfl (fun j hj => ?_)
    unfold wCells ivs
    repeat (first | refine js rfl ?_ | (refine jdraw ?_ ?_; · kernel_rfl) | refine jbu rfl rfl rfl rfl ?_)
    refine jc rfl rfl rfl (fun h => ?_) (fun h => ?_)
    · have h := of_decide_eq_true h
      rw [List.length_map] at h
      have hj2 : j < x.thr.length := by omega
      have hidx : IntKind.i64.wrap ((j : Int) + 1) = ((j + 1 : Nat) : Int) := idx_next hj2 (by omega)
      replace h8 := h8 j
      replace h9 := h9 j
      have hjn := hj.2
      cases hb1 : (actW x ⟨0, (j : Int)⟩).2 with
      | true =>
        rw [hb1] at h8
        generalize (actW x ⟨0, (j : Int)⟩).1 = y1 at *
        generalize (actW x ⟨1, (j : Int)⟩).1 = y2 at *
        generalize (actW x ⟨1, (j : Int)⟩).2 = c2 at *
        repeat (first | refine js rfl ?_ | (refine jdraw ?_ ?_; · kernel_rfl) | refine jbu rfl rfl rfl rfl ?_ | refine jv h8 rfl rfl rfl rfl rfl ?_ | refine jv h9 rfl rfl rfl rfl rfl ?_)
        exact jret [] true rfl rfl rfl ⟨rfl, rfl⟩
      | false =>
        rw [hb1] at h8
        cases hb2 : (actW x ⟨1, (j : Int)⟩).2 with
        | true =>
          rw [hb2] at h9
          generalize (actW x ⟨0, (j : Int)⟩).1 = y1 at *
          generalize (actW x ⟨1, (j : Int)⟩).1 = y2 at *
          repeat (first | refine js rfl ?_ | (refine jdraw ?_ ?_; · kernel_rfl) | refine jbu rfl rfl rfl rfl ?_ | refine jv h8 rfl rfl rfl rfl rfl ?_ | refine jv h9 rfl rfl rfl rfl rfl ?_)
          exact jret [] true rfl rfl rfl ⟨rfl, rfl⟩
        | false =>
          rw [hb2] at h9
          have hnew : ∀ i : Nat, i < j + 1 → ((actW x ⟨0, (i : Int)⟩).2 || (actW x ⟨1, (i : Int)⟩).2) = false := fun i hi => by
            by_cases hij : i = j
            · subst hij; rw [hb1, hb2]; rfl
            · exact hjn i (by omega)
          generalize (actW x ⟨0, (j : Int)⟩).1 = y1 at *
          generalize (actW x ⟨1, (j : Int)⟩).1 = y2 at *
          repeat (first | refine js rfl ?_ | (refine jdraw ?_ ?_; · kernel_rfl) | refine jbu rfl rfl rfl rfl ?_ | refine jv h8 rfl rfl rfl rfl rfl ?_ | refine jv h9 rfl rfl rfl rfl rfl ?_)
          refine jnext (j + 1) ⟨hj2, hnew⟩ (by omega) rfl rfl rfl ?_ rfl
          rw [hidx]
    · have h := of_decide_eq_false h
      rw [List.length_map] at h
      exfalso
      obtain ⟨k, hk, hc⟩ := hbz
      have := hj.2 k (by omega)
      rw [this] at hc
      cases hc
end Go.AL
end
section
set_option maxRecDepth 100000
namespace Go.Proofs.YtpckfmojmgafoaaGreatDoor
open Go Go.AL Go.ChangeShapes Go.WideShapes Go.ChangeAt Go.RowKit
theorem own : ownKnob Tryz.prog.godebug = none := by kernel_rfl
theorem kids : Kids Tryz.prog (· < Tryz.prog.types.size) := kids_rows (by kernel_rfl) (by kernel_rfl)
theorem full : ∀ t e, t < Tryz.prog.types.size → Tryz.prog.underlying t = some (.slice e) → 0 < Tryz.prog.cellsOf e := slices_full_of _ (by kernel_rfl)
theorem g_pow : Tryz.prog.globalNamed "internal/strconv.uint64pow10" = some 4 := by kernel_rfl
theorem g_syn : Tryz.prog.globalNamed "strconv.ErrSyntax" = some 2 := by kernel_rfl
theorem g_ran : Tryz.prog.globalNamed "strconv.ErrRange" = some 3 := by kernel_rfl
def glx (g : Gl) : List (Nat × Obj) := [(4, .cells powV g.t1 g.f1), (2, .cells #[.iface g.e2 g.p2] g.t2 g.f2), (3, .cells #[.iface g.e3 g.p3] g.t3 g.f3), (1, .cells #[.int .i64 g.m] g.t0 g.f0)]
theorem var_heap {W : World} {n : String} {g : Nat} {cs : Array Value} (hg : Tryz.prog.globalNamed n = some g) (hv : W.var? Tryz.prog n = some cs) : ∃ t f, W.heap[g]? = some (.cells cs t f) := by
  unfold World.var? at hv
  rw [hg] at hv
  simp only [Option.bind_some] at hv
  split at hv
  · rename_i c t f h
    injection hv with hv
    exact ⟨t, f, by rw [h, hv]⟩
  · cases hv
theorem iface_head {W : World} {n nm : String} {x : DataW Unit} {r : List (String × DataW Unit)} {g : Nat} {t : TypeId} {ms : Array (String × TypeId)} (h : laidMet Tryz.prog ((n, .iface nm x) :: r) W)
    (hg : Tryz.prog.globalNamed n = some g) (ht : (Tryz.prog.globals[g]?).map (·.type) = some t) (hu : Tryz.prog.underlying t = some (.interface ms)) : ∃ e p, W.var? Tryz.prog n = some #[.iface e p] := by
  obtain ⟨ps, ⟨g0, t0, cs0, f0, p0, q0, hg0, ht0, hv0, hd0, _, _⟩, _, _⟩ := h
  obtain rfl := Option.some.inj (hg.symm.trans hg0)
  obtain rfl := Option.some.inj (ht.symm.trans ht0)
  obtain ⟨_, u, v, e, _, _⟩ := iface_of_trod hu hd0
  refine ⟨u, v, ?_⟩
  rw [hv0]
  congr 1
  apply Array.ext'
  simpa using e
def laidL : List (String × DataW Unit) := [("math/bits.deBruijn32tab", Rows.laid_math_bits_deBruijn32tab), ("math/bits.deBruijn64tab", Rows.laid_math_bits_deBruijn64tab), ("internal/strconv.uint64pow10", Rows.laid_internal_strconv_uint64pow10), ("unicode/utf8.acceptRanges", Rows.laid_unicode_utf8_acceptRanges), ("errors.errorType", Rows.laid_errors_errorType), ("strconv.ErrRange", Rows.laid_strconv_ErrRange), ("strconv.ErrSyntax", Rows.laid_strconv_ErrSyntax), ("unicode/utf8.first", Rows.laid_unicode_utf8_first)]
def plainL : List (String × DataW Unit) := [("math/bits.deBruijn32tab", Rows.laid_math_bits_deBruijn32tab), ("math/bits.deBruijn64tab", Rows.laid_math_bits_deBruijn64tab), ("internal/strconv.uint64pow10", Rows.laid_internal_strconv_uint64pow10), ("unicode/utf8.acceptRanges", Rows.laid_unicode_utf8_acceptRanges), ("strconv.ErrRange", Rows.laid_strconv_ErrRange), ("strconv.ErrSyntax", Rows.laid_strconv_ErrSyntax), ("unicode/utf8.first", Rows.laid_unicode_utf8_first)]
theorem plain_eq : (laidL.filter fun x => x.2.handleName?.isNone) = plainL := by kernel_rfl
theorem laid_plain {W : World} (h : laidMetH Tryz.prog laidL W) : laidMet Tryz.prog plainL W := by
  have h1 := (laidMetH_iff.1 h).1
  rwa [plain_eq] at h1
noncomputable def errW (os : Os) : World :=
  let w0 := World.holding Tryz.prog os ⟨#[], #[], []⟩
  { w0 with heap := w0.heap.modify 0 fun
      | .cells _ t frozen => .cells #[.iface 164 (.agg #[typeHandle Tryz.prog 68])] t frozen
      | o => o }
noncomputable def laidW (os : Os) : World := (errW os).layVars Tryz.prog plainL
theorem laidW_os (os : Os) : (laidW os).os = os := World.layVars_os _ _ _
theorem laidW_met (os : Os) (args : Array Value) : laidMetH Tryz.prog laidL ((laidW os).forCall (fun _ _ => 0) ⟨#[], args, []⟩).memory := by
  refine laidMetH_of_parts ?_ (by kernel_rfl)
  rw [plain_eq]
  have e1 : (plainL.filter fun x => (plainL.map (·.1)).contains x.1) = plainL := List.filter_eq_self.2 fun x hx => List.contains_iff_mem.2 (List.mem_map.2 ⟨x, hx, rfl⟩)
  have e2 : (plainL.filter fun x => !(plainL.map (·.1)).contains x.1) = [] := List.filter_eq_nil_iff.2 fun x hx => by rw [List.contains_iff_mem.2 (List.mem_map.2 ⟨x, hx, rfl⟩)]; simp
  have h : laidMet Tryz.prog plainL (laidW os) := laidMet_layVars (w0 := errW os) (plainL.map (·.1)) [] (by rw [e1]; rfl) (by rw [e1]; kernel_rfl) (by rw [e1]; kernel_rfl) (by rw [e2]; exact LaidIn.none)
  exact h.of_heap (by simp [World.memory, World.forCall, Input.heap])
theorem gl_exists {W : World} (hL : laidMetH Tryz.prog laidL W) (hS : W.ShapedOpen Tryz.prog) : ∃ g : Gl, ∀ p ∈ glx g, W.heap[p.1]? = some p.2 ∧ ∀ d, p.2 ≠ .deferred d := by
  replace hL := laid_plain hL
  have h3 := hL.tail.tail
  have h5 := hL.tail.tail.tail.tail
  have h6 := hL.tail.tail.tail.tail.tail
  obtain ⟨t1, f1, a1⟩ := var_heap g_pow (Lib.tabIs_of_head (k := .u64) (zs := Lib.pow10Tab) (n := 20) (t := 302) (e := 277) g_pow (by kernel_rfl) (by kernel_rfl) (by kernel_rfl) (by kernel_rfl) (by kernel_rfl) h3)
  obtain ⟨e3, p3, b3⟩ := iface_head (t := 68) h5 g_ran (by kernel_rfl) Tryz.underlying68
  obtain ⟨e2, p2, b2⟩ := iface_head (t := 68) h6 g_syn (by kernel_rfl) Tryz.underlying68
  obtain ⟨t3, f3, a3⟩ := var_heap g_ran b3
  obtain ⟨t2, f2, a2⟩ := var_heap g_syn b2
  obtain ⟨m, a0⟩ := shaped_int (g := 1) (t := 3) (zero := #[.int .i64 0]) (k := .i64) hS (of_decide_eq_true (by kernel_rfl)) (by kernel_rfl) rfl (by kernel_rfl) (by kernel_rfl) (by kernel_rfl)
  refine ⟨⟨t1, t2, t3, f1, f2, f3, e2, e3, p2, p3, 3, (0, 0), m⟩, fun p hp => ?_⟩
  simp only [glx, List.mem_cons, List.mem_nil_iff, or_false] at hp
  rcases hp with rfl | rfl | rfl | rfl
  · exact ⟨a1, fun d h => by cases h⟩
  · exact ⟨a2, fun d h => by cases h⟩
  · exact ⟨a3, fun d h => by cases h⟩
  · exact ⟨a0, fun d h => by cases h⟩
end Go.Proofs.YtpckfmojmgafoaaGreatDoor
end
section
set_option maxRecDepth 100000
namespace Go.Proofs.YtpckfmojmgafoaaGreatDoor
open Go Go.AL Go.ChangeShapes Go.WideShapes Go.ChangeAt Go.RowKit
section
variable {H : Type} {enc : TypeId × Value → H} {W : World} {v : Value} {d : DataW H} {p : List MemPlace}
theorem open_list {α : Type} {encX : α → AVal} {t e : TypeId} {r r' : TyRow} (f : List Int → α) (ht : tfind tyTab.tab t = some r') (hd' : r'.d = .slice e) (he : tfind tyTab.tab e = some r) (hi : allInt tyTab.tab Tryz.prog.stoodInHeld 100 e = true) (hz : r.size ≠ 0) (h1 : aggB r.d = false → r.size = 1)
    (hf : ∀ ns : List Int, ns.length = r.size → encX (f ns) = rowA (aggB r.d) ns) (hv : ∃ a l c, v = .slice a l c) (h : DataW.Trod enc Tryz.prog W 0 (fun _ => true) true t v d p) : ∃ m : List α, m.length ≤ maxLen ∧ Rel (out W) (.sl (m.map encX)) v := by
  obtain ⟨a, l, c, rfl⟩ := hv
  obtain ⟨n, hn⟩ := h
  obtain ⟨nss, g1, g2, g3⟩ := open_rows (T := tyTab) (st := Tryz.prog.stoodInHeld) (n := 100) ht hd' he hi hz h1 hn
  refine ⟨nss.map f, by simpa using g2, ?_⟩
  have : (nss.map f).map encX = nss.map (rowA (aggB r.d)) := by
    rw [List.map_map]
    exact List.map_congr_left fun ns hns => hf ns (g1 ns hns)
  rw [this]
  exact g3
theorem one_ints : ∀ {ns : List Int}, ns.length = 1 → ∃ a, ns = [a]
  | [a], _ => ⟨a, rfl⟩
theorem two_ints : ∀ {ns : List Int}, ns.length = 2 → ∃ a b, ns = [a, b]
  | [a, b], _ => ⟨a, b, rfl⟩
theorem four_ints : ∀ {ns : List Int}, ns.length = 4 → ∃ a b c d, ns = [a, b, c, d]
  | [a, b, c, d], _ => ⟨a, b, c, d, rfl⟩
theorem open_instrs (hv : ∃ a l c, v = .slice a l c) (h : DataW.Trod enc Tryz.prog W 0 (fun _ => true) true 26 v d p) : ∃ l : List AL.Ins, l.length ≤ maxLen ∧ Rel (out W) (encIs l) v :=
  open_list (fun ns => ⟨ns.headD 0, ns.tail.headD 0, ns.tail.tail.headD 0, ns.tail.tail.tail.headD 0⟩) rfl rfl rfl (by kernel_rfl) (by decide) (fun h => by cases h) (fun ns hn => by obtain ⟨a, b, c, d, rfl⟩ := four_ints hn; rfl) hv h
theorem open_acts (hv : ∃ a l c, v = .slice a l c) (h : DataW.Trod enc Tryz.prog W 0 (fun _ => true) true 46 v d p) : ∃ m : List AL.Act, m.length ≤ maxLen ∧ Rel (out W) (.sl (m.map encAct)) v :=
  open_list (fun ns => ⟨ns.headD 0, ns.tail.headD 0⟩) rfl rfl rfl (by kernel_rfl) (by decide) (fun h => by cases h) (fun ns hn => by obtain ⟨a, b, rfl⟩ := two_ints hn; rfl) hv h
theorem open_ints (hv : ∃ a l c, v = .slice a l c) (h : DataW.Trod enc Tryz.prog W 0 (fun _ => true) true 23 v d p) : ∃ m : List Int, m.length ≤ maxLen ∧ Rel (out W) (ivs m) v :=
  open_list (fun ns => ns.headD 0) rfl rfl rfl (by kernel_rfl) (by decide) (fun _ => rfl) (fun ns hn => by obtain ⟨a, rfl⟩ := one_ints hn; rfl) hv h
theorem open_int (hv : ∃ n, v = .int .i64 n) (h : DataW.Trod enc Tryz.prog W 0 (fun _ => true) true 3 v d p) : ∃ n : Int, True ∧ Rel (out W) (.v (.int .i64 n)) v := by
  obtain ⟨n, rfl⟩ := hv
  exact ⟨n, trivial, rfl⟩
end
end Go.Proofs.YtpckfmojmgafoaaGreatDoor
end
