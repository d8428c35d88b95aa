/-
  Part 11 of the proof texts: the program logic over the model, then the contracts of the functions that the laws reach. No conditions.
-/
import Derived.Test.YtplofnhnhfiokaaGreatDoorY10
import Derived.Test.YtplofnhnhfiokaaGreatDoorRows
import Derived.JoinedOf
import Derived.JoinedAt
import Derived.RowKit3
import Derived.LaidMore
import Derived.Lib.LaidTab
import Derived.Stop.LaidErr
import Derived.Lay
import Derived.LaidSub
import Derived.LaidHandle
set_option linter.unusedVariables false
set_option linter.unusedSimpArgs false
set_option maxHeartbeats 2000000
section
set_option maxRecDepth 100000
namespace Go.AL
open Go Go.Proofs
theorem slf_one {x y : AVal} (h : ∀ (c : Ctx) u, Rel c x u → Rel c y u) (c : Ctx) (u : Value) (hr : Rel c (.slf [x]) u) : Rel c (.slf [y]) u := by
 obtain ⟨A, es, h1, h2, ⟨u0, r1, r2, r3⟩, _⟩ := hr
 exact ⟨A, es, h1, fun _ => h2 (by simp), ⟨u0, h _ _ r1, r2, r3⟩, trivial⟩
attribute [local irreducible] J
theorem rep_succ {α : Type} (n : Nat) (x : α) : List.replicate n x ++ [x] = List.replicate (n + 1) x := by rw [List.replicate_succ']
theorem rmnew_ok (n : Nat) (hn : n ≤ 1000) : ACalls Tryz.prog 66 [iv (n : Int)] [] (one (encMem ⟨List.replicate n 0, List.replicate n 0⟩) []) := by
 unfold encMem mCells ivs
 refine jcalls Tryz.func66 rfl (by kernel_rfl) Tryz.ntmps66 rfl rfl (fun w0 β0 ext hβ => ?_)
 repeat (first | refine jadB 1 1 3 1 rfl rfl rfl rfl ?_ | refine jadB 1 0 3 1 rfl rfl rfl rfl ?_ | refine jS ?_ | refine jD ?_ | refine jB ?_)
 refine jloopI (fun q : Nat => q ≤ n) [0, 2, 3, 4] (fun q => [iv (n : Int), .ptr 0 0, .ptr 1 0, iv (q : Int)])
  (fun q => [.box 25 [.slf [], .slf []], .box 25 [.arr 3 (q + 1), .arr 2 (q + 1)], .arr (q + 1) 3 1 ((List.replicate q (0 : Int)).map iv), .arr (q + 1) 3 1 ((List.replicate q (0 : Int)).map iv)]) (fun q => n - q) 0 (Nat.zero_le _) rfl rfl (fun q hq => ?_)
 repeat (first | refine jS ?_ | refine jD ?_ | refine jB ?_)
 by_cases h : q < n
 ·rw [show decide ((q : Int) < (n : Int)) = true from decide_eq_true (by omega)]
  have hidx : IntKind.i64.wrap ((q : Int) + 1) = ((q + 1 : Nat) : Int) := by rw [wrap_id] <;> omega
  repeat (first | refine jS ?_ | refine jD ?_ | refine jB ?_)
  refine jo rfl rfl (append_enc (enc := iv) (l := List.replicate q (0 : Int)) 0 rfl rfl rfl rfl rfl rfl rfl rfl rfl rfl (fun x => ⟨rfl, rfl⟩) rfl (by rw [List.length_replicate]; omega) rfl rfl) rfl rfl ?_
  repeat (first | refine jS ?_ | refine jD ?_ | refine jB ?_)
  refine jo rfl rfl (append_enc (enc := iv) (l := List.replicate q (0 : Int)) 0 rfl rfl rfl rfl rfl rfl rfl rfl rfl rfl (fun x => ⟨rfl, rfl⟩) rfl (by rw [List.length_replicate]; omega) rfl rfl) rfl rfl ?_
  rw [rep_succ]
  repeat (first | refine jS ?_ | refine jD ?_ | refine jB ?_)
  refine jnextI (q + 1) h ?_ rfl (by omega)
  show some _ = some _
  rw [hidx]
  rfl
 ·have : q = n := by omega
  subst this
  rw [show decide ((q : Int) < (q : Int)) = false from decide_eq_false (by omega)]
  refine jc rfl rfl rfl (fun hf => absurd hf (by decide)) (fun _ => ?_)
  refine jpubB 1 0 3 rfl rfl rfl rfl rfl rfl rfl ?_
  refine jpubB 1 1 2 rfl rfl rfl rfl rfl rfl rfl ?_
  repeat (first | refine jS ?_ | refine jD ?_ | refine jB ?_)
  exact jret [] true rfl rfl rfl ⟨rfl, rfl⟩
theorem sl_nil_buf (c : Ctx) (u : Value) (h : Rel c (.slf []) u) : Rel c (encBuf []) u := sl_weak h
theorem rtnew_ok (m : Mem) (n : Nat) (d : Int) (hn : n ≤ 1000) : ACalls Tryz.prog 97 [encMem m, iv (n : Int), iv d] [] (one (encTso ⟨m, d, List.replicate n []⟩) []) := by
 unfold encTso tCells encMem mCells ivs
 refine jcalls Tryz.func97 rfl (by kernel_rfl) Tryz.ntmps97 rfl rfl (fun w0 β0 ext hβ => ?_)
 repeat (first | refine jadB 2 3 170 1 rfl rfl rfl rfl ?_ | refine jS ?_ | refine jD ?_ | refine jB ?_)
 refine jloopI (fun q : Nat => q ≤ n) [1, 3, 6, 7, 8] (fun q => [iv (n : Int), .ptr 0 0, .ptr 1 0, .ptr 2 0, iv (q : Int)])
  (fun q => [.box 25 [.sl (m.words.map iv), .sl (m.tags.map iv)], .box 29 [.slf [], .slf [], iv 0, .slf []], .box 29 [.sl (m.words.map iv), .sl (m.tags.map iv), iv d, .arr 3 (q + 1)], .arr (q + 1) 170 1 ((List.replicate q ([] : List Wput)).map encBuf)]) (fun q => n - q) 0 (Nat.zero_le _) rfl rfl (fun q hq => ?_)
 repeat (first | refine jS ?_ | refine jD ?_ | refine jB ?_)
 by_cases h : q < n
 ·rw [show decide ((q : Int) < (n : Int)) = true from decide_eq_true (by omega)]
  have hidx : IntKind.i64.wrap ((q : Int) + 1) = ((q + 1 : Nat) : Int) := by rw [wrap_id] <;> omega
  repeat (first | refine jow rfl rfl (buildB_dsem rfl) (slf_one sl_nil_buf) rfl rfl ?_ | refine jS ?_ | refine jD ?_ | refine jB ?_)
  refine jo rfl rfl (append_enc (enc := encBuf) (l := List.replicate q ([] : List Wput)) [] rfl rfl rfl rfl rfl rfl rfl rfl rfl rfl (fun x => ⟨rfl, rfl⟩) rfl (by rw [List.length_replicate]; omega) rfl rfl) rfl rfl ?_
  rw [rep_succ]
  repeat (first | refine jS ?_ | refine jD ?_ | refine jB ?_)
  refine jnextI (q + 1) h ?_ rfl (by omega)
  show some _ = some _
  rw [hidx]
  rfl
 ·have : q = n := by omega
  subst this
  rw [show decide ((q : Int) < (q : Int)) = false from decide_eq_false (by omega)]
  refine jc rfl rfl rfl (fun hf => absurd hf (by decide)) (fun _ => ?_)
  refine jpubB 2 3 3 rfl rfl rfl rfl rfl rfl rfl ?_
  repeat (first | refine jS ?_ | refine jD ?_ | refine jB ?_)
  exact jret [] true rfl rfl rfl ⟨rfl, rfl⟩
theorem rwnew_ok (code : List Ins) (st : List Int) (m : Mem) (d : Int) (hs : st.length ≤ 1000) : ACalls Tryz.prog 54 [encIs code, ivs st, encMem m, iv d] [] (one (encWd (newOk code st m d)) []) := by
 have h3 := rtnew_ok m st.length d hs
 have hlm : ((st.map iv).length : Int) = (st.length : Int) := by rw [List.length_map]
 have he : (st.map thrP).map encThr = st.map fun a => encThr (thrP a) := by rw [List.map_map]; rfl
 unfold newOk
 unfold encWd wCells encTso tCells encIs encMem mCells at *
 unfold ivs at *
 simp only
 rw [he]
 refine jcalls Tryz.func54 rfl (by kernel_rfl) Tryz.ntmps54 rfl rfl (fun w0 β0 ext hβ => ?_)
 repeat (first | refine jS ?_ | refine jD ?_ | refine jB ?_)
 rw [hlm]
 repeat (first | refine jadB 2 5 53 13 rfl rfl rfl rfl ?_ | refine jS ?_ | refine jD ?_ | refine jB ?_ | refine jV h3 ?_)
 refine jloopI (fun q : Nat => q ≤ st.length) [8, 9, 19, 20, 21] (fun q => [.ptr 1 0, .ptr 2 0, .sl (st.map iv), .v (.int .i64 ((st.map iv).length : Int)), .v (.int .i64 (q : Int))])
  (fun q => [.box 25 [.sl (m.words.map iv), .sl (m.tags.map iv)], .box 33 [.slf [], .slf [], .slf [], iv 0, .slf [], .slf [], .slf []],
   .box 33 [.sl (code.map encIns), .sl (m.words.map iv), .sl (m.tags.map iv), iv d, .sl ((List.replicate st.length ([] : List Wput)).map encBuf), .arr 3 (q + 1), .slf []], .arr (q + 1) 53 13 ((st.take q).map fun a => encThr (thrP a))]) (fun q => st.length - q) 0 (Nat.zero_le _) rfl rfl (fun q hq => ?_)
 repeat (first | refine jS ?_ | refine jD ?_ | refine jB ?_)
 refine jc rfl rfl rfl (fun h => ?_) (fun h => ?_)
 ·have h := of_decide_eq_true h
  rw [List.length_map] at h
  have hq2 : q < st.length := by omega
  have hidx : IntKind.i64.wrap ((q : Int) + 1) = ((q + 1 : Nat) : Int) := idx_next hq2 (by omega)
  have htk : (st.take q) ++ [at' st (q : Int)] = st.take (q + 1) := by rw [at_nat st q hq2, List.take_add_one, List.getElem?_eq_getElem hq2]; rfl
  have hln : (st.take q).length ≤ 1000 := by rw [List.length_take]; omega
  repeat (first | refine jow rfl rfl (readP_dsem rfl) (thr_weak _) rfl rfl ?_ | refine jS ?_ | refine jD ?_ | refine jB ?_ | refine jo rfl rfl (index_at rfl rfl rfl rfl rfl rfl rfl rfl (Int.natCast_nonneg q) h) rfl rfl ?_)
  refine jo rfl rfl (append_enc (enc := fun a => encThr (thrP a)) (l := st.take q) (at' st (q : Int)) rfl rfl rfl rfl rfl rfl rfl rfl rfl rfl (elemsP []) rfl (by omega) rfl rfl) rfl rfl ?_
  rw [htk]
  repeat (first | refine jS ?_ | refine jD ?_ | refine jB ?_)
  refine jnextI (q + 1) hq2 ?_ rfl (by omega)
  show some _ = some _
  rw [hidx]
 ·have h := of_decide_eq_false h
  rw [List.length_map] at h
  have : q = st.length := by omega
  subst this
  rw [List.take_length]
  refine jpubB 2 5 3 rfl rfl rfl rfl rfl rfl rfl ?_
  repeat (first | refine jS ?_ | refine jD ?_ | refine jB ?_)
  exact jret [] true rfl rfl rfl ⟨rfl, rfl⟩
end Go.AL
end
section
set_option maxRecDepth 100000
namespace Go.AL
open Go Go.Proofs
attribute [local irreducible] J
structure RrI (w : Wd) (m : Nat) (s : Nat × Wd) : Prop where
 le : s.1 ≤ m
 right : WdR s.2
 thr : s.2.thr.length = w.thr.length
 evs : s.2.evs.length ≤ w.evs.length + 16 * s.1
 eq : roundsW w m = ((roundsW s.2 (m - s.1)).1, s.1 + (roundsW s.2 (m - s.1)).2)
end Go.AL
end
section
set_option maxRecDepth 100000
namespace Go.AL
open Go Go.Proofs
attribute [local irreducible] J
theorem newOk_right {code : List Ins} {st : List Int} {m : Mem} {d : Int} (hc : rightC code = true) (hm : mRight m = true) (h1 : 1 ≤ st.length) (h8 : st.length ≤ 8) (hd : 0 ≤ d ∧ d ≤ 8) (hs : ∀ a ∈ st, 0 ≤ a ∧ a ≤ code.length) : WdR (newOk code st m d) := by
 have hl : code.length ≤ 1000 := by
  unfold rightC at hc
  rw [Bool.and_eq_true] at hc
  exact of_decide_eq_true hc.1
 refine ⟨hc, ⟨hm, ⟨⟨by simp [newOk]; omega, by simp [newOk]; omega⟩, hd⟩, fun b hb => ?_⟩, by simp [newOk], fun t ht => ?_⟩
 ·have hb : b ∈ List.replicate st.length ([] : List Wput) := hb
  rw [List.eq_of_mem_replicate hb]
  exact ⟨hd.1, fun p hp => absurd hp List.not_mem_nil⟩
 ·have ht : t ∈ st.map thrP := ht
  obtain ⟨a, ha, rfl⟩ := List.mem_map.1 ht
  have := hs a ha
  exact ⟨thRight_iff.2 ⟨by show 0 ≤ a ∧ a ≤ 1000; omega, Nat.zero_le _, Nat.zero_le _, fun f hf => absurd hf List.not_mem_nil, fun f hf => absurd hf List.not_mem_nil, .inl ⟨.inl rfl, rfl⟩⟩, .inl rfl⟩
def cl (L : Nat) (s : Int) : Int := (IntKind.i64.wrap (IntKind.i64.wrap (s.tmod (IntKind.i64.wrap ((L : Int) + 1)) + L) + 1)).tmod (IntKind.i64.wrap ((L : Int) + 1))
end Go.AL
end
section
set_option maxRecDepth 100000
namespace Go.AL
open Go Go.Proofs
theorem ACalls.argw {P : Program} {f : FuncId} {args args' : List AVal} {H : List AObj} {Q : Eff} (h : ACalls P f args H Q) (hr : ∀ (c : Ctx) us, RelL c args' us → RelL c args us) : ACalls P f args' H Q :=
 ⟨h.enters, fun ext w β us hI hx h0 => h.calls ext w β us hI hx (hr _ _ h0)⟩
theorem agg_weak {c : Ctx} {cs cs' : List AVal} (hr : ∀ us, RelL c cs us → RelL c cs' us) (u : Value) (h : Rel c (.agg cs) u) : Rel c (.agg cs') u := by
 obtain ⟨a, e, h⟩ := h
 exact ⟨a, e, hr _ h⟩
attribute [local irreducible] J
end Go.AL
end
section
set_option maxRecDepth 100000
namespace Go.AL
open Go Go.Proofs
attribute [local irreducible] J
def rst (s : Bs) (ls : List Bs) : List Int := ls.map fun l => (rwhere s l).1
theorem rst_take (s : Bs) (ls : List Bs) {q : Nat} (h : q < ls.length) : rst s (ls.take (q + 1)) = rst s (ls.take q) ++ [(rwhere s (at' ls (q : Int))).1] := by
 unfold rst
 rw [at_nat ls q h, List.take_add_one, List.getElem?_eq_getElem h, List.map_append]
 rfl
theorem rstarts_ok (s : Bs) (ls : List Bs) (hs : s.length ≤ 900000) (hl : ls.length ≤ 1000) (hm : ∀ l ∈ ls, l.length ≤ 1000000) (hall : ∀ l ∈ ls, (rwhere s l).2 = 0) :
  ACalls Tryz.prog 12 [sv s, .sl (ls.map sv)] [] (one (.tup [ivs (rst s ls), bv true]) []) := by
 refine jcalls Tryz.func12 rfl (by kernel_rfl) Tryz.ntmps12 rfl rfl (fun w0 β0 ext hβ => ?_)
 repeat (first | refine jad 6 3 1 rfl rfl rfl rfl ?_ | refine jS ?_ | refine jD ?_ | refine jB ?_)
 refine jloopI (fun q : Nat => q ≤ ls.length) [0, 6, 12, 13, 14] (fun q => [sv s, .arr 0 (q + 1), .sl (ls.map sv), .v (.int .i64 ((ls.map sv).length : Int)), .v (.int .i64 (q : Int))])
  (fun q => [.arr (q + 1) 3 1 ((rst s (ls.take q)).map iv)]) (fun q => ls.length - q) 0 (Nat.zero_le _) rfl rfl (fun q hq => ?_)
 repeat (first | refine jS ?_ | refine jD ?_ | refine jB ?_)
 refine jc rfl rfl rfl (fun h => ?_) (fun h => ?_)
 ·have h := of_decide_eq_true h
  rw [List.length_map] at h
  have hq2 : q < ls.length := by omega
  have hidx : IntKind.i64.wrap ((q : Int) + 1) = ((q + 1 : Nat) : Int) := idx_next hq2 (by omega)
  have htk := rst_take s ls hq2
  have hw := rwhere_ok s (at' ls (q : Int)) hs (hm _ (at_mem hq2))
  have h0 := hall _ (at_mem hq2)
  have hln : (rst s (ls.take q)).length ≤ 1000 := by unfold rst; rw [List.length_map, List.length_take]; omega
  generalize rwhere s (at' ls (q : Int)) = r at *
  obtain ⟨r1, r2⟩ := r
  simp only at h0 htk hw
  subst h0
  repeat (first | refine jS ?_ | refine jD ?_ | refine jB ?_ | refine jo rfl rfl (index_at rfl rfl rfl rfl rfl rfl rfl rfl (Int.natCast_nonneg q) h) rfl rfl ?_ | refine jV hw ?_)
  refine jo rfl rfl (append_enc (enc := iv) (l := rst s (ls.take q)) r1 rfl rfl rfl rfl rfl rfl rfl rfl rfl rfl (fun x => ⟨rfl, rfl⟩) rfl (by omega) rfl rfl) rfl rfl ?_
  rw [← htk]
  repeat (first | refine jS ?_ | refine jD ?_ | refine jB ?_)
  refine jnextI (q + 1) hq2 ?_ rfl (by omega)
  show some _ = some _
  rw [hidx]
 ·have h := of_decide_eq_false h
  rw [List.length_map] at h
  have : q = ls.length := by omega
  subst this
  rw [List.take_length]
  refine jpub 6 rfl rfl rfl rfl ?_
  repeat (first | refine jS ?_ | refine jD ?_ | refine jB ?_)
  exact jret [] true rfl rfl rfl ⟨rfl, rfl⟩
theorem rworld_ok (s : Bs) (ls : List Bs) (m : Mem) (d : Int) (hs : s.length ≤ 900000) (hl : ls.length ≤ 1000) (hm : ∀ l ∈ ls, l.length ≤ 1000000) (hall : ∀ l ∈ ls, (rwhere s l).2 = 0) :
  ACalls Tryz.prog 16 [sv s, .sl (ls.map sv), encMem m, iv d] [] (one (encWd (newOk (rparse s).1 (rst s ls) m d)) []) := by
 have h1 := rparse_ok s hs
 have h2 := rstarts_ok s ls hs hl hm hall
 have h3 := rwnew_ok (rparse s).1 (rst s ls) m d (by unfold rst; rw [List.length_map]; omega)
 generalize rst s ls = st at *
 generalize rparse s = r at *
 obtain ⟨r1, r2, r3⟩ := r
 simp only at h1 h3 ⊢
 generalize newOk r1 st m d = w at *
 unfold encIs encWd wCells encMem mCells ivs at *
 refine jcalls Tryz.func16 rfl (by kernel_rfl) Tryz.ntmps16 rfl rfl (fun w0 β0 ext hβ => ?_)
 repeat (first | refine jS ?_ | refine jD ?_ | refine jB ?_ | refine jV h1 ?_ | refine jV h2 ?_ | refine jV h3 ?_)
 exact jR
end Go.AL
end
section
set_option maxRecDepth 100000
namespace Go.AL
open Go Go.Proofs
attribute [local irreducible] J
theorem wd0_sz : WdSz wd0 := ⟨by decide, ⟨by decide, by decide, by decide, fun _ h => by cases h⟩, by decide, fun _ h => by cases h⟩
theorem rst_eq {s : Bs} (h : (rparse s).2.2 = 0) (ls : List Bs) : stAt s ls = rst s ls ∧ ((∀ l ∈ ls, (whereP s l).2 = 0) ↔ ∀ l ∈ ls, (rwhere s l).2 = 0) := by
 have e : ∀ l, whereP s l = rwhere s l := fun l => by rw [where_eq, h]; rfl
 unfold stAt rst
 simp only [e]
 exact ⟨trivial, trivial⟩
theorem newW_good {s : Bs} (h : (rparse s).2.2 = 0) (ls : List Bs) (m : Mem) (d : Int) (hm : mRight m = true) (hz : inn ls.length 1 8 = true) (hd : inn d 0 8 = true) : newW (rparse s).1 (rst s ls) m d = (newOk (rparse s).1 (rst s ls) m d, 0) := by
 unfold newW
 have hl : (rst s ls).length = ls.length := by unfold rst; rw [List.length_map]
 rw [parse_right h, hm, hl, hz, hd]
 have : ((rst s ls).all fun a => inn a 0 (rparse s).1.length) = true := List.all_eq_true.2 fun a ha => by
  unfold rst at ha
  obtain ⟨l, _, rfl⟩ := List.mem_map.1 ha
  exact inn_iff.2 (where_right h)
 rw [this]; rfl
theorem newW_size {s : Bs} (h : (rparse s).2.2 = 0) (st : List Int) (m : Mem) (d : Int) (hm : mRight m = true) (hz : (inn st.length 1 8 && inn d 0 8) = false) : newW (rparse s).1 st m d = (wd0, 2) := by
 unfold newW
 rw [parse_right h, hm, hz]; rfl
theorem newOk_r {s : Bs} (h : (rparse s).2.2 = 0) (ls : List Bs) (m : Mem) (d : Int) (hm : mRight m = true) (hz : inn ls.length 1 8 = true) (hd : inn d 0 8 = true) : WdR (newOk (rparse s).1 (rst s ls) m d) := by
 have hl : (rst s ls).length = ls.length := by unfold rst; rw [List.length_map]
 obtain ⟨z1, z2⟩ := inn_iff.1 hz
 refine newOk_right (parse_right h) hm (by omega) (by omega) (inn_iff.1 hd) fun a ha => ?_
 unfold rst at ha
 obtain ⟨l, _, rfl⟩ := List.mem_map.1 ha
 exact where_right h
end Go.AL
end
section
set_option maxRecDepth 100000
namespace Go.AL
open Go Go.Proofs
attribute [local irreducible] J
theorem join_ok (ls : List Bs) (sep : Bs) (h0 : ls ≠ []) (hN : ls.length ≤ 1000000) (hl : (Lib.join ls sep).length ≤ 1000000000) : ACalls Tryz.prog 108 [.sl (ls.map sv), sv sep] [] (one (sv (Lib.join ls sep)) []) := by
 refine ⟨⟨_, Tryz.func108, by kernel_rfl, by kernel_rfl⟩, fun ext w β us hI hx hr => ?_⟩
 obtain ⟨x, us1, rfl, ⟨A, m, es, rfl, hm, hb, hrow⟩, y, us2, rfl, hy, h2⟩ := hr
 have h2 : us2 = [] := h2
 have hy : y = S sep := hy
 subst h2 hy
 obtain ⟨b, o, rfl, hbad, hlt⟩ := hb (by simpa using h0)
 rw [List.length_map] at hm ⊢
 have hes : es = 1 := by
  obtain ⟨l0, r, rfl⟩ := List.exists_cons_of_ne_nil h0
  obtain ⟨v, hv1, hv2, _⟩ := hrow.get (i := 0) (a := sv l0) rfl
  have hv1 : v = S l0 := hv1
  subst hv1
  exact hv2.symm
 subst hes
 have hcells : ∀ (j : Nat) (x : ByteArray), (ls.map fun l => (⟨l.toArray⟩ : ByteArray))[j]? = some x → w.cell? ⟨b, o + j, none⟩ = some (.string x) := fun j x hj => by
  rw [List.getElem?_map, Option.map_eq_some_iff] at hj
  obtain ⟨l, hj, rfl⟩ := hj
  obtain ⟨v, hv1, hv2, hv3⟩ := hrow.get (i := j) (a := sv l) (by rw [List.getElem?_map, hj]; rfl)
  have hv1 : v = S l := hv1
  subst hv1
  have h9 := hv3 0 (by omega)
  simp only [Nat.zero_add, Nat.mul_one, Nat.add_zero] at h9
  exact h9.trans rfl
 have e1 : (ls.map fun l => (⟨l.toArray⟩ : ByteArray)).map (·.data.toList) = ls := by
  rw [List.map_map]
  exact List.map_id'' (fun l => by simp) ls
 have hlen : (ls.map fun l => (⟨l.toArray⟩ : ByteArray)).length = ls.length := List.length_map _
 have hc := Tryz.strings_Join b o m (ls.map fun l => ⟨l.toArray⟩) ⟨sep.toArray⟩ w hcells hlt (by rw [hlen]; omega) (by rw [hlen]; exact hm) (by rw [e1]; show (Lib.join ls sep.toArray.toList).length ≤ _; simp only [List.toList_toArray]; omega)
 rw [hlen, e1] at hc
 refine hc.mono fun en w' ⟨h1, h2⟩ => ?_
 subst h1
 exact ⟨sv (Lib.join ls sep), _, β, ⟨rfl, rfl⟩, by show _ = S (Lib.join ls sep); simp [S], below_inv hI h2, below_step h2 β fun b hb => (hI.sep b hb).2⟩
theorem join_ltx : ∀ (l : Bs) (ls : List Bs), Lib.join (l :: ls) [10] ++ [10] = ltx (l :: ls)
 | l, [] => by rw [Lib.join_one]; simp [ltx]
 | l, m :: ls => by
  have ih := join_ltx m ls
  rw [Lib.join_cons] at ih ⊢
  rw [ltx_cons, ← ih]
  simp [Lib.joinTail]
theorem ltx_ge (ls : List Bs) : (Lib.join ls [10]).length ≤ (ltx ls).length := by
 cases ls with
 | nil => simp [Lib.join_nil]
 | cons l ls => rw [← join_ltx]; simp
theorem splines_ok (ls : List Bs) (h0 : ls ≠ []) (hN : ls.length ≤ 1000000) (hl : (ltx ls).length ≤ 1000000) : ACalls Tryz.prog 67 [.sl (ls.map sv)] [] (one (sv (ltx ls)) []) := by
 have hge := ltx_ge ls
 have hj := join_ok ls [10] h0 hN (by omega)
 obtain ⟨l, r, rfl⟩ := List.exists_cons_of_ne_nil h0
 have e := join_ltx l r
 generalize Lib.join (l :: r) [10] = x at *
 rw [← e]
 refine jcalls Tryz.func67 rfl (by kernel_rfl) Tryz.ntmps67 rfl rfl (fun w0 β0 ext hβ => ?_)
 repeat (first | refine jS ?_ | refine jD ?_ | refine jB ?_ | refine jV hj ?_)
 refine jo rfl rfl (cat_str (a := x) (b := [10]) rfl rfl (by simp; omega)) rfl rfl ?_
 repeat (first | refine jS ?_ | refine jD ?_ | refine jB ?_)
 exact jR
def turnT : Bs := [115,101,116,32,114,48,32,49,10,99,97,108,108,32,108,111,99,107,10,109,97,114,107,32,50,10,115,101,116,32,114,52,32,50,10,108,111,97,100,32,114,53,32,114,52,32,48,10,112,108,117,115,32,114,53,32,114,53,32,49,10,115,116,111,114,101,32,114,53,32,114,52,32,48,10,109,97,114,107,32,51,10,115,101,116,32,114,48,32,49,10,99,97,108,108,32,117,110,108,111,99,107,10]
def spT : Bs := [108,111,99,107,58,10,115,101,116,32,114,49,32,48,10,115,101,116,32,114,50,32,49,10,99,97,115,32,114,49,32,114,48,32,114,50,10,122,101,114,111,32,114,49,32,108,111,99,107,101,100,10,119,97,105,116,32,114,49,32,114,48,10,106,117,109,112,32,108,111,99,107,10,108,111,99,107,101,100,58,10,114,101,116,10,117,110,108,111,99,107,58,10,115,101,116,32,114,49,32,48,10,120,99,104,103,32,114,49,32,114,48,10,114,101,116,10]
def haltT1 : Bs := [104,97,108,116,10]
theorem turnT_eq : ltx turnC = turnT := by decide +kernel
theorem spT_eq : ltx spC = spT := by decide +kernel
theorem haltT1_eq : ltx kH = haltT1 := by decide +kernel
theorem turn_ok : ACalls Tryz.prog 68 [] [] (one (sv turnT) []) := by
 have h := splines_ok turnC (by decide) (by decide) (by decide +kernel)
 rw [turnT_eq] at h
 unfold turnC at h
 refine jcalls Tryz.func68 rfl (by kernel_rfl) Tryz.ntmps68 rfl rfl (fun w0 β0 ext hβ => ?_)
 repeat (first | refine jS ?_ | refine jD ?_ | refine jB ?_ | refine jw h rfl rfl rfl rfl rfl rfl ?_)
 exact jR
theorem spThr_succ (ts : List Int) {k : Nat} (h : k < ts.length) : spThr (ts.take (k + 1)) 0 = spThr (ts.take k) 0 ++ thrLn k (at' ts (k : Int)) := by
 unfold spThr
 rw [List.take_succ_eq_append_getElem h, List.zipIdx_append, List.flatMap_append, at_nat ts k h, List.length_take, Nat.min_eq_left (Nat.le_of_lt h)]
 simp
def spP (ts : List Int) (k : Nat) : Bs := spT ++ ltx (spThr (ts.take k) 0)
theorem spP_succ (ts : List Int) {k : Nat} (h : k < ts.length) : spP ts (k + 1) = ((spP ts k ++ (tlab k ++ [10])) ++ ltx (List.replicate (at' ts (k : Int)).toNat turnC).flatten) ++ haltT1 := by
 unfold spP
 rw [spThr_succ ts h, ltx_app, ← haltT1_eq]
 unfold thrLn
 rw [ltx_cons, ltx_app]
 simp only [List.append_assoc]
theorem spP_all (ts : List Int) : spP ts ts.length = ltx (spLn ts) := by
 unfold spP spLn
 rw [List.take_length, ltx_app, spT_eq]
theorem spP_len (ts : List Int) (k : Nat) (hk : k ≤ ts.length) (h8 : ts.length ≤ 8) (hn : ∀ n ∈ ts.take k, 0 ≤ n ∧ n ≤ 9) : (spP ts k).length ≤ 9000 := by
 unfold spP
 have h1 := spThr_len (ts.take k) 0 (by rw [List.length_take]; omega) hn
 rw [List.length_take] at h1
 have h2 : spT.length ≤ 200 := by decide
 rw [List.length_append]
 omega
theorem repT (n : Nat) : ltx (List.replicate n turnC).flatten ++ turnT = ltx (List.replicate (n + 1) turnC).flatten := by
 rw [List.replicate_succ', List.flatten_append, ltx_app, ← turnT_eq]
 simp
def turnsOk (ts : List Int) : Bool := (ts.all fun n => inn n 0 9) && inn ts.length 1 8
def progT (ts : List Int) : Bs × Int := cond (turnsOk ts) (ltx (spLn ts), 0) ([], 2)
theorem allB {ts : List Int} {k : Nat} (h : ((ts.take k).all fun n => inn n 0 9) = true) : ∀ n ∈ ts.take k, 0 ≤ n ∧ n ≤ 9 := fun n hn => inn_iff.1 (List.all_eq_true.1 h n hn)
set_option maxHeartbeats 4000000 in
theorem sprog_mid (g : Gl) (ts : List Int) (h1 : 1 ≤ ts.length) (h8 : ts.length ≤ 8) : ACalls Tryz.prog 25 [ivs ts] (gls g) (one (.tup [sv (progT ts).1, iv (progT ts).2]) (gls g)) := by
 have f1 : decide (((ts.map iv).length : Int) < 1) = false := by rw [List.length_map]; exact decide_eq_false (by omega)
 have f2 : decide (((ts.map iv).length : Int) > 8) = false := by rw [List.length_map]; exact decide_eq_false (by omega)
 have hw0 := wstr_ok false [] spT (by decide) (by decide)
 have hlen := fun k hk hn => spP_len ts k hk h8 hn
 have hit := fun k => itoa_ok g (k : Int)
 have htn := turn_ok
 have hlm := fun l h => splines_ok [l] (by simp) (by simp) (h : (ltx [l]).length ≤ 1000000)
 have hhl := splines_ok kH (by decide) (by decide) (by decide)
 rw [haltT1_eq] at hhl
 unfold progT
 rw [← spP_all ts]
 have hP0 : spP ts 0 = spT := by unfold spP spThr; simp [ltx]
 rw [List.nil_append, ← hP0] at hw0
 unfold ivs
 unfold bld bldH adr at hw0
 unfold gls at *
 refine jcalls Tryz.func25 rfl (by kernel_rfl) Tryz.ntmps25 rfl rfl (fun w0 β0 ext hβ => ?_)
 repeat (first | refine jS ?_ | refine jD ?_ | refine jB ?_)
 rw [f1]
 repeat (first | refine jS ?_ | refine jD ?_ | refine jB ?_)
 rw [f2]
 repeat (first | refine jadB 4 1 5 1 rfl rfl rfl rfl ?_ | refine jS ?_ | refine jD ?_ | refine jB ?_)
 refine jb [4,5] hw0 rfl rfl rfl ⟨rfl, rfl, rfl, rfl, rfl, rfl⟩ rfl rfl rfl rfl ?_
 repeat (first | refine jS ?_ | refine jD ?_ | refine jB ?_)
 clear hw0
 refine jfin 6 [4, 16, 17, 18] true rfl rfl rfl (by show β0.length ≤ 6; rw [hβ]; exact (by decide : 4 ≤ 6)) ?_
 refine jloop 6 (fun k : Nat => k ≤ ts.length ∧ ((ts.take k).all fun n => inn n 0 9) = true) [4, 16, 17, 18] (fun k => [.ptr 4 0, .sl (ts.map iv), .v (.int .i64 ((ts.map iv).length : Int)), .v (.int .i64 (k : Int))])
  (fun k => [g.a, g.b, g.c, g.d, .box 111 [.ptr 4 0, .arr 5 ((spP ts k).length + 1)], .arr ((spP ts k).length + 1) 5 1 ((spP ts k).map encB)]) (fun k => ts.length - k) 0 (by show β0.length ≤ 6; rw [hβ]; exact (by decide : 4 ≤ 6)) ⟨Nat.zero_le _, rfl⟩ rfl rfl (fun k hk => ?_)
 obtain ⟨hk, hok⟩ := hk
 repeat (first | refine jS ?_ | refine jD ?_ | refine jB ?_)
 refine jc rfl rfl rfl (fun h => ?_) (fun h => ?_)
 ·have h := of_decide_eq_true h
  rw [List.length_map] at h
  have hk2 : k < ts.length := by omega
  have hidx : IntKind.i64.wrap ((k : Int) + 1) = ((k + 1 : Nat) : Int) := idx_next hk2 (by omega)
  have hB := hlen k hk (allB hok)
  have hsu := spP_succ ts hk2
  have hm := at_mem hk2
  have htk : (ts.take (k + 1)).all (fun n => inn n 0 9) = inn (at' ts (k : Int)) 0 9 := by
   rw [List.take_succ_eq_append_getElem hk2, List.all_append, hok, at_nat ts k hk2]; simp
  have hno : inn (at' ts (k : Int)) 0 9 = false → turnsOk ts = false := fun e => by
   unfold turnsOk
   rw [show (ts.all fun n => inn n 0 9) = false from by rw [List.all_eq_false]; exact ⟨_, hm, by rw [e]; decide⟩]; rfl
  have hit := hit k (by omega) (by omega)
  have htl := tname_len (n := k) (by omega)
  have hlm := hlm (tlab k) (by unfold tlab; simp [ltx]; omega)
  rw [show ltx [tlab k] = tlab k ++ [10] by simp [ltx]] at hlm
  have hw1 := wstr_ok true (spP ts k) (tlab k ++ [10]) (by simp) (by unfold tlab; simp; omega)
  repeat (first | refine jS ?_ | refine jD ?_ | refine jB ?_ | refine jo rfl rfl (index_at rfl rfl rfl rfl rfl rfl rfl rfl (Int.natCast_nonneg k) h) rfl rfl ?_)
  generalize at' ts (k : Int) = v at *
  generalize spP ts k = B at *
  by_cases c1 : v < 0
  ·rw [show decide (v < 0) = true from decide_eq_true c1]
   rw [hno (by cases e : inn v 0 9 with
    | false => rfl
    | true => have := (inn_iff.1 e).1; omega)]
   simp only [cond_false]
   repeat (first | refine jS ?_ | refine jD ?_ | refine jB ?_)
   exact jret [] true rfl rfl rfl ⟨rfl, rfl⟩
  rw [show decide (v < 0) = false from decide_eq_false c1]
  repeat (first | refine jS ?_ | refine jD ?_ | refine jB ?_)
  by_cases c2 : v > 9
  ·rw [show decide (v > 9) = true from decide_eq_true c2]
   rw [hno (by cases e : inn v 0 9 with
    | false => rfl
    | true => have := (inn_iff.1 e).2; omega)]
   simp only [cond_false]
   repeat (first | refine jS ?_ | refine jD ?_ | refine jB ?_)
   exact jret [] true rfl rfl rfl ⟨rfl, rfl⟩
  rw [show decide (v > 9) = false from decide_eq_false c2]
  have hnk : 0 ≤ v ∧ v ≤ 9 := ⟨by omega, by omega⟩
  have hok2 : (ts.take (k + 1)).all (fun n => inn n 0 9) = true := by rw [htk]; exact inn_iff.2 hnk
  clear htk hno
  unfold bld bldH adr at hw1
  repeat (first | refine jS ?_ | refine jD ?_ | refine jB ?_)
  refine jb [0,1,2,3] hit rfl rfl rfl ⟨rfl, rfl, rfl, rfl, rfl, rfl⟩ rfl rfl rfl rfl ?_
  refine jo rfl rfl (cat_str (a := [116]) (b := Lib.itoa k) rfl rfl (by have := tname_len (n := k) (by omega); unfold tname at this; simp at this ⊢; omega)) rfl rfl ?_
  repeat (first | refine jS ?_ | refine jD ?_ | refine jB ?_)
  refine jo rfl rfl (cat_str (a := [116] ++ Lib.itoa k) (b := [58]) rfl rfl (by have := tname_len (n := k) (by omega); unfold tname at this; simp at this ⊢; omega)) rfl rfl ?_
  rw [show ([116] ++ Lib.itoa (k : Int)) ++ [58] = tlab k from rfl]
  repeat (first | refine jS ?_ | refine jD ?_ | refine jB ?_ | refine jw hlm rfl rfl rfl rfl rfl rfl ?_)
  refine jb [4,5] hw1 rfl rfl rfl ⟨rfl, rfl, rfl, rfl, rfl, rfl⟩ rfl rfl rfl rfl ?_
  clear hit hlm hw1
  have hC : (B ++ (tlab k ++ [10])).length ≤ 9100 := by
   rw [List.length_append]
   unfold tlab
   simp only [List.length_append, List.length_cons, List.length_nil]
   omega
  generalize B ++ (tlab k ++ [10]) = C at *
  obtain ⟨n, rfl⟩ : ∃ n : Nat, v = n := ⟨v.toNat, by omega⟩
  rw [show (n : Int).toNat = n from by omega] at hsu
  repeat (first | refine jS ?_ | refine jD ?_ | refine jB ?_)
  refine jfin 6 [4, 16, 17, 18, 36, 37] true rfl rfl rfl (by show β0.length ≤ 6; rw [hβ]; exact (by decide : 4 ≤ 6)) ?_
  refine jloop 6 (fun j : Nat => j ≤ n) [4, 16, 17, 18, 36, 37] (fun j => [.ptr 4 0, .sl (ts.map iv), .v (.int .i64 ((ts.map iv).length : Int)), .v (.int .i64 (k : Int)), .v (.int .i64 (n : Int)), .v (.int .i64 (j : Int))])
   (fun j => [g.a, g.b, g.c, g.d, .box 111 [.ptr 4 0, .arr 5 ((C ++ ltx (List.replicate j turnC).flatten).length + 1)], .arr ((C ++ ltx (List.replicate j turnC).flatten).length + 1) 5 1 ((C ++ ltx (List.replicate j turnC).flatten).map encB)]) (fun j => n - j) 0 (by show β0.length ≤ 6; rw [hβ]; exact (by decide : 4 ≤ 6)) (Nat.zero_le _) rfl ?_ (fun j hj => ?_)
  ·rw [show C ++ ltx (List.replicate 0 turnC).flatten = C by simp [ltx]]; rfl
  repeat (first | refine jS ?_ | refine jD ?_ | refine jB ?_)
  refine jc rfl rfl rfl (fun h => ?_) (fun h => ?_)
  ·have h := of_decide_eq_true h
   have hj2 : j < n := by omega
   have hix : IntKind.i64.wrap ((j : Int) + 1) = ((j + 1 : Nat) : Int) := by rw [wrap_id (by omega) (by omega)]; rfl
   have hT : (C ++ ltx (List.replicate j turnC).flatten).length ≤ 20000 := by
    rw [List.length_append, rep_len]
    have h2 : (ltx turnC).length ≤ 103 := by decide
    have := Nat.mul_le_mul (show j ≤ 9 by omega) h2
    omega
   have hst : (C ++ ltx (List.replicate j turnC).flatten) ++ turnT = C ++ ltx (List.replicate (j + 1) turnC).flatten := by rw [List.append_assoc, repT]
   have hw2 := wstr_ok true (C ++ ltx (List.replicate j turnC).flatten) turnT (by decide) (Nat.le_trans (Nat.add_le_add hT (show turnT.length ≤ 200 by decide)) (by decide))
   rw [hst] at hw2
   generalize hD2 : C ++ ltx (List.replicate (j + 1) turnC).flatten = D2 at *
   generalize C ++ ltx (List.replicate j turnC).flatten = D at *
   unfold bld bldH adr at hw2
   repeat (first | refine jS ?_ | refine jD ?_ | refine jB ?_ | refine jV htn ?_)
   refine jb [4,5] hw2 rfl rfl rfl ⟨rfl, rfl, rfl, rfl, rfl, rfl⟩ rfl rfl rfl rfl ?_
   repeat (first | refine jS ?_ | refine jD ?_ | refine jB ?_)
   refine jnext (j + 1) hj2 (by omega) rfl rfl rfl ?_ ?_
   ·rw [hix]
   ·rw [hD2]; rfl
  ·have h := of_decide_eq_false h
   have : j = n := by omega
   subst this
   have hT : (C ++ ltx (List.replicate j turnC).flatten).length ≤ 20000 := by
    rw [List.length_append, rep_len]
    have h2 : (ltx turnC).length ≤ 103 := by decide
    have := Nat.mul_le_mul (show j ≤ 9 by omega) h2
    omega
   generalize C ++ ltx (List.replicate j turnC).flatten = D at *
   have hw3 := wstr_ok true D haltT1 (by decide) (Nat.le_trans (Nat.add_le_add hT (show haltT1.length ≤ 200 by decide)) (by decide))
   unfold bld bldH adr at hw3
   unfold kH at hhl
   repeat (first | refine jS ?_ | refine jD ?_ | refine jB ?_ | refine jw hhl rfl rfl rfl rfl rfl rfl ?_)
   refine jb [4,5] hw3 rfl rfl rfl ⟨rfl, rfl, rfl, rfl, rfl, rfl⟩ rfl rfl rfl rfl ?_
   repeat (first | refine jS ?_ | refine jD ?_ | refine jB ?_)
   refine jnext (k + 1) ⟨hk2, hok2⟩ (by omega) rfl rfl rfl ?_ ?_
   ·rw [hidx]
   ·rw [hsu]; rfl
 ·have h := of_decide_eq_false h
  rw [List.length_map] at h
  have : k = ts.length := by omega
  subst this
  have hB := hlen ts.length hk (allB hok)
  rw [List.take_length] at hok
  have hT : turnsOk ts = true := by
   unfold turnsOk
   rw [hok, Bool.true_and]
   exact inn_iff.2 ⟨by omega, by omega⟩
  rw [hT]
  simp only [cond_true]
  have hne : spP ts ts.length ≠ [] := by unfold spP; simp [spT]
  have hs := str_ok true (spP ts ts.length) hne (by omega)
  generalize spP ts ts.length = B at *
  unfold bld bldH adr at hs
  repeat (first | refine jS ?_ | refine jD ?_ | refine jB ?_)
  refine jb [4,5] hs rfl rfl rfl ⟨rfl, rfl, rfl, rfl, rfl, rfl⟩ rfl rfl rfl rfl ?_
  repeat (first | refine jS ?_ | refine jD ?_ | refine jB ?_)
  exact jret [] true rfl rfl rfl ⟨rfl, rfl⟩
theorem sprog_ok (g : Gl) (ts : List Int) (hl : ts.length ≤ 1000000) : ACalls Tryz.prog 25 [ivs ts] (gls g) (one (.tup [sv (progT ts).1, iv (progT ts).2]) (gls g)) := by
 by_cases h1 : 1 ≤ ts.length
 ·by_cases h8 : ts.length ≤ 8
  ·exact sprog_mid g ts h1 h8
  ·have f1 : decide (((ts.map iv).length : Int) < 1) = false := by rw [List.length_map]; exact decide_eq_false (by omega)
   have f2 : decide (((ts.map iv).length : Int) > 8) = true := by rw [List.length_map]; exact decide_eq_true (by omega)
   have hT : progT ts = ([], 2) := by
    unfold progT turnsOk
    rw [show inn (ts.length : Int) 1 8 = false from by cases e : inn (ts.length : Int) 1 8 with
     | false => rfl
     | true => have := (inn_iff.1 e).2; omega, Bool.and_false]; rfl
   rw [hT]
   unfold ivs gls
   refine jcalls Tryz.func25 rfl (by kernel_rfl) Tryz.ntmps25 rfl rfl (fun w0 β0 ext hβ => ?_)
   repeat (first | refine jS ?_ | refine jD ?_ | refine jB ?_)
   rw [f1]
   repeat (first | refine jS ?_ | refine jD ?_ | refine jB ?_)
   rw [f2]
   repeat (first | refine jS ?_ | refine jD ?_ | refine jB ?_)
   exact jret [] true rfl rfl rfl ⟨rfl, rfl⟩
 ·have f1 : decide (((ts.map iv).length : Int) < 1) = true := by rw [List.length_map]; exact decide_eq_true (by omega)
  have hT : progT ts = ([], 2) := by
   unfold progT turnsOk
   rw [show inn (ts.length : Int) 1 8 = false from by cases e : inn (ts.length : Int) 1 8 with
    | false => rfl
    | true => have := (inn_iff.1 e).1; omega, Bool.and_false]; rfl
  rw [hT]
  unfold ivs gls
  refine jcalls Tryz.func25 rfl (by kernel_rfl) Tryz.ntmps25 rfl rfl (fun w0 β0 ext hβ => ?_)
  repeat (first | refine jS ?_ | refine jD ?_ | refine jB ?_)
  rw [f1]
  repeat (first | refine jS ?_ | refine jD ?_ | refine jB ?_)
  exact jret [] true rfl rfl rfl ⟨rfl, rfl⟩
theorem turnsOk_iff {ts : List Int} : turnsOk ts = true ↔ (∀ n ∈ ts, 0 ≤ n ∧ n ≤ 9) ∧ 1 ≤ ts.length ∧ ts.length ≤ 8 := by
 unfold turnsOk
 rw [Bool.and_eq_true, List.all_eq_true, inn_iff]
 constructor
 ·rintro ⟨h1, h2, h3⟩
  exact ⟨fun n hn => inn_iff.1 (h1 n hn), by omega, by omega⟩
 ·rintro ⟨h1, h2, h3⟩
  exact ⟨fun n hn => inn_iff.2 (h1 n hn), by omega, by omega⟩
end Go.AL
end
section
set_option maxRecDepth 100000
namespace Go.AL
open Go Go.Proofs
attribute [local irreducible] J
theorem dd_rec {n : Nat} (h : ¬ n < 10) : Lib.decDigits n = Lib.decDigits (n / 10) ++ Lib.decDigits (n % 10) := by
 rw [Lib.decDigits, dif_neg h, Lib.decDigits_one (by omega : n % 10 < 10)]
theorem digitsN_ok : ∀ n : Nat, n ≤ 1000000000 → ACalls Tryz.prog 65 [iv n] [] (one (sv (Lib.decDigits n)) []) := by
 intro n
 induction n using Nat.strongRecOn with
 | _ n ih =>
  intro hn
  have hlen := dd_len 9 n (by omega)
  have hneg : decide ((n : Int) < 0) = false := decide_eq_false (by omega)
  by_cases h : n < 10
  ·have h10 : decide ((n : Int) < 10) = true := decide_eq_true (by omega)
   have hw : IntKind.u8.wrap (IntKind.i64.wrap (48 + (n : Int))) = ((UInt8.ofNat (48 + n)).toNat : Int) := by
    rw [(dgt_of n h).2, wrap_id (by omega) (by omega)]
    have : ∀ m : Nat, m < 10 → IntKind.u8.wrap (48 + (m : Int)) = ((48 + m : Nat) : Int) := by decide
    exact this n h
   rw [Lib.decDigits_one h]
   refine jcalls Tryz.func65 rfl (by kernel_rfl) Tryz.ntmps65 rfl rfl (fun w0 β0 ext hβ => ?_)
   repeat (first | refine jS ?_ | refine jD ?_ | refine jB ?_)
   rw [hneg]
   repeat (first | refine jS ?_ | refine jD ?_ | refine jB ?_)
   rw [h10]
   repeat (first | refine jS ?_ | refine jD ?_ | refine jB ?_)
   rw [hw]
   repeat (first | refine jS ?_ | refine jD ?_ | refine jB ?_ | refine jo rfl rfl (conv_byte (UInt8.ofNat (48 + n)) rfl rfl rfl rfl rfl rfl rfl rfl rfl) rfl rfl ?_)
   exact jR
  ·have h10 : decide ((n : Int) < 10) = false := decide_eq_false (by omega)
   have i1 := ih (n / 10) (by omega) (by omega)
   have i2 := ih (n % 10) (by omega) (by omega)
   have q1 : IntKind.i64.wrap ((n : Int).tdiv 10) = ((n / 10 : Nat) : Int) := by
    rw [Int.tdiv_eq_ediv_of_nonneg (by omega), wrap_id (by omega) (by omega)]; omega
   have q2 : (n : Int).tmod 10 = ((n % 10 : Nat) : Int) := by
    rw [Int.tmod_eq_emod_of_nonneg (by omega)]; omega
   rw [dd_rec h] at hlen ⊢
   rw [List.length_append] at hlen
   generalize Lib.decDigits (n / 10) = d1 at *
   generalize Lib.decDigits (n % 10) = d2 at *
   have hc : d1.length + d2.length ≤ 1000000000 := by omega
   refine jcalls Tryz.func65 rfl (by kernel_rfl) Tryz.ntmps65 rfl rfl (fun w0 β0 ext hβ => ?_)
   repeat (first | refine jS ?_ | refine jD ?_ | refine jB ?_)
   rw [hneg]
   repeat (first | refine jS ?_ | refine jD ?_ | refine jB ?_)
   rw [h10]
   repeat (first | refine jS ?_ | refine jD ?_ | refine jB ?_)
   rw [q1]
   repeat (first | refine jS ?_ | refine jD ?_ | refine jB ?_ | refine jV i1 ?_)
   rw [q2]
   repeat (first | refine jS ?_ | refine jD ?_ | refine jB ?_ | refine jV i2 ?_ | refine jo rfl rfl (cat_str rfl rfl hc) rfl rfl ?_)
   exact jR
theorem digits_ok (v : Int) (h : bd v) : ACalls Tryz.prog 65 [iv v] [] (one (sv (Lib.itoa v)) []) := by
 unfold bd at h
 by_cases hv : v < 0
 ·obtain ⟨n, hn⟩ : ∃ n : Nat, 0 - v = n := ⟨(0 - v).toNat, by omega⟩
  have i1 := digitsN_ok n (by omega)
  have hneg : decide (v < 0) = true := decide_eq_true hv
  have hlen := dd_len 9 n (by omega)
  have e : Lib.itoa v = [45] ++ Lib.decDigits n := by
   unfold Lib.itoa
   rw [if_pos hv, show v.natAbs = n by omega]; rfl
  rw [e]
  have hw : IntKind.i64.wrap (0 - v) = (n : Int) := by rw [wrap_id (by omega) (by omega)]; exact hn
  have hc : ([45] : Bs).length + (Lib.decDigits n).length ≤ 1000000000 := by simp; omega
  refine jcalls Tryz.func65 rfl (by kernel_rfl) Tryz.ntmps65 rfl rfl (fun w0 β0 ext hβ => ?_)
  repeat (first | refine jS ?_ | refine jD ?_ | refine jB ?_)
  rw [hneg]
  repeat (first | refine jS ?_ | refine jD ?_ | refine jB ?_)
  rw [hw]
  repeat (first | refine jS ?_ | refine jD ?_ | refine jB ?_ | refine jV i1 ?_ | refine jo rfl rfl (cat_str (a := [45]) rfl rfl hc) rfl rfl ?_)
  exact jR
 ·obtain ⟨n, rfl⟩ : ∃ n : Nat, v = n := ⟨v.toNat, by omega⟩
  rw [itoa_nat]
  exact digitsN_ok n (by omega)
theorem make_pub [T : TyTab Tryz.prog] {dst : Option Tmp} {t : TypeId} {l c : Operand} {type : TypeId} {pos : String} {after : Array Edge} {guard : Option (Nat × Bool)} {F : Fr} {H : List AObj} {e : TypeId} {r r' : TyRow} {kl kc : IntKind} {n : Int} (m : Nat) {z : Value}
  (hl : ev F l = some (.v (.int kl n))) (hc : ev F c = some (.v (.int kc n))) (hm : n = (m : Int)) (ht : tfind T.tab t = some r') (hd : r'.d = .slice e) (he : tfind T.tab e = some r) (hz : r.z = z) (hs : r.size = 1) (hzc : z.cells = #[z]) (hb : r.bytes ≤ 1000) (hk : m ≤ 1000000) :
  DSem Tryz.prog .p ⟨dst, .makeSlice t l c, type, pos, after, guard⟩ F H (.sl (List.replicate m (.v z))) H := by
 refine ⟨rfl, fun H' => ?_⟩
 intro ext w β ρ hI hext hκ hρ
 have h2 : ρ l = .int kl n := hρ l (by simp [Op.operands]) _ hl
 have h3 : ρ c = .int kc n := hρ c (by simp [Op.operands]) _ hc
 obtain ⟨i, i1, i2, i3, i4⟩ := ty_info he
 rw [hz] at i2
 rw [hs] at i3
 have hu : Tryz.prog.underlying t = some (.slice e) := by rw [ty_und ht, hd]
 have hbm : i.bytes * m ≤ 1000 * 1000000 := Nat.mul_le_mul (by omega) hk
 have hq0 : (i.bytes : Int) * n ≤ 281474976710656 := by
  rw [hm, ← Int.natCast_mul]; generalize i.bytes * m = q at hbm ⊢; omega
 have hr := run_make (P := Tryz.prog) w t e i z hu i1 i2 kl kc n n (by omega) (Int.le_refl _) hq0 (by omega)
 have h4 : (execOp ρ ⟨dst, .makeSlice t l c, type, pos, after, guard⟩).run Tryz.prog w = .ok (.value (.slice (some ⟨w.heap.size, 0, none⟩) m m)) (World.push w (.cells (madeCells z.cells m) e)) := by
  simp only [execOp, Sem.run_bind, h2, h3, hr, Result.andThen_ok, Sem.run_pure]
  rw [hm, i3, Nat.mul_one]
  rfl
 rw [h4]
 refine ⟨_, _, β, ⟨rfl, rfl⟩, ⟨some ⟨w.heap.size, 0, none⟩, m, 1, by rw [List.length_replicate], by rw [List.length_replicate]; exact Nat.le_refl _, fun _ => ⟨w.heap.size, 0, rfl, ?_, by show w.heap.size < (World.push w _).heap.size; rw [push_size]; omega⟩, ?_⟩, hI.push _, Step.push w β _⟩
 ·rintro (h | h)
  ·exact absurd (hext _ h) (by omega)
  ·exact absurd (hI.sep _ h).2 (by omega)
 ·refine RelR.of_get fun q a ha => ?_
  have hq : q < m := by simpa using (List.getElem?_eq_some_iff.1 ha).1
  rw [List.getElem?_replicate, if_pos hq] at ha
  injection ha with ha
  subst ha
  refine ⟨z, rfl, by rw [hzc]; rfl, fun p hp => ?_⟩
  have hp0 : p = 0 := by omega
  subst hp0
  simp only [Nat.zero_add, Nat.mul_one, Nat.add_zero]
  show (World.push w _).cell? ⟨w.heap.size, 0 + q, none⟩ = _
  rw [Nat.zero_add]
  simp only [World.cell?, push_top]
  rw [hzc]
  show (madeCells #[z] m)[q]? = _
  rw [made_get _ _ _ hq]
  rfl
theorem mnew_ok (n : Nat) (h1 : 1 ≤ n) (h2 : n ≤ 160) : ACalls Tryz.prog 58 [iv (n : Int)] [] (one (.tup [encMem ⟨List.replicate n 0, List.replicate n 0⟩, iv 0]) []) := by
 have f1 : decide ((n : Int) < 1) = false := decide_eq_false (by omega)
 have f2 : decide ((n : Int) > 160) = false := decide_eq_false (by omega)
 unfold encMem mCells ivs
 refine jcalls Tryz.func58 rfl (by kernel_rfl) Tryz.ntmps58 rfl rfl (fun w0 β0 ext hβ => ?_)
 repeat (first | refine jS ?_ | refine jD ?_ | refine jB ?_)
 rw [f1]
 repeat (first | refine jS ?_ | refine jD ?_ | refine jB ?_)
 rw [f2]
 repeat (first | refine jS ?_ | refine jB ?_)
 refine jdrawPT [(0, .p), (1, .p), (2, .p), (3, .p), (4, .p), (5, .m), (6, .p)] rfl (by kernel_rfl) ?_
 repeat (first | refine jS ?_ | refine jD ?_ | refine jB ?_)
 refine jo rfl rfl (make_pub n rfl rfl rfl rfl rfl rfl rfl rfl rfl (by decide) (by omega)) rfl rfl ?_
 repeat (first | refine jS ?_ | refine jD ?_ | refine jB ?_)
 refine jo rfl rfl (make_pub n rfl rfl rfl rfl rfl rfl rfl rfl rfl (by decide) (by omega)) rfl rfl ?_
 repeat (first | refine jS ?_ | refine jD ?_ | refine jB ?_)
 rw [List.map_replicate]
 exact jR
def names (n : Nat) : List Bs := (List.range n).map tname
theorem names_succ (n : Nat) : names (n + 1) = names n ++ [tname n] := by unfold names; rw [List.range_succ, List.map_append]; rfl
theorem rnames_ok (n : Nat) (hn : n ≤ 1000) : ACalls Tryz.prog 71 [iv (n : Int)] [] (one (.sl ((names n).map sv)) []) := by
 refine jcalls Tryz.func71 rfl (by kernel_rfl) Tryz.ntmps71 rfl rfl (fun w0 β0 ext hβ => ?_)
 repeat (first | refine jad 3 9 1 rfl rfl rfl rfl ?_ | refine jS ?_ | refine jD ?_ | refine jB ?_)
 refine jloopI (fun q : Nat => q ≤ n) [0, 3, 4] (fun q => [.v (.int .i64 (n : Int)), .arr 0 (q + 1), .v (.int .i64 (q : Int))])
  (fun q => [.arr (q + 1) 9 1 ((names q).map sv)]) (fun q => n - q) 0 (Nat.zero_le _) rfl rfl (fun q hq => ?_)
 repeat (first | refine jS ?_ | refine jD ?_ | refine jB ?_)
 refine jc rfl rfl rfl (fun h => ?_) (fun h => ?_)
 ·have h := of_decide_eq_true h
  have hq2 : q < n := by omega
  have hidx : IntKind.i64.wrap ((q : Int) + 1) = ((q + 1 : Nat) : Int) := by rw [wrap_id (by omega) (by omega)]; rfl
  have hd := digits_ok (q : Int) ⟨by omega, by omega⟩
  have hl := tname_len (n := q) (by omega)
  have hln : (names q).length = q := by unfold names; simp
  repeat (first | refine jS ?_ | refine jD ?_ | refine jB ?_ | refine jV hd ?_)
  refine jo rfl rfl (cat_str (a := [116]) (b := Lib.itoa q) rfl rfl (by unfold tname at hl; simp at hl ⊢; omega)) rfl rfl ?_
  rw [show [116] ++ Lib.itoa (q : Int) = tname q from rfl]
  repeat (first | refine jS ?_ | refine jD ?_ | refine jB ?_)
  refine jo rfl rfl (append_enc (enc := sv) (l := names q) (tname q) rfl rfl rfl rfl rfl rfl rfl rfl rfl rfl (fun x => ⟨rfl, rfl⟩) rfl (by omega) rfl rfl) rfl rfl ?_
  rw [← names_succ]
  repeat (first | refine jS ?_ | refine jD ?_ | refine jB ?_)
  refine jnextI (q + 1) hq2 ?_ rfl (by omega)
  show some _ = some _
  rw [hidx]
 ·have h := of_decide_eq_false h
  have : q = n := by omega
  subst this
  refine jpub 3 rfl rfl rfl rfl ?_
  repeat (first | refine jS ?_ | refine jD ?_ | refine jB ?_)
  exact jret [] true rfl rfl rfl ⟨rfl, rfl⟩
theorem rturns_ok (ts : List Int) (hl : ts.length ≤ 1000000) : ACalls Tryz.prog 29 [ivs ts] [] (one (bv (turnsOk ts)) []) := by
 unfold ivs
 refine jcalls Tryz.func29 rfl (by kernel_rfl) Tryz.ntmps29 rfl rfl (fun w0 β0 ext hβ => ?_)
 repeat (first | refine jS ?_ | refine jD ?_ | refine jB ?_)
 refine jloopI (fun k : Nat => k ≤ ts.length ∧ (ts.take k).all (fun n => inn n 0 9) = true) [0, 5, 6, 7] (fun k => [.sl (ts.map iv), .sl (ts.map iv), .v (.int .i64 ((ts.map iv).length : Int)), .v (.int .i64 (k : Int))])
  (fun k => []) (fun k => ts.length - k) 0 ⟨Nat.zero_le _, rfl⟩ rfl rfl (fun k hk => ?_)
 obtain ⟨hk, hok⟩ := hk
 repeat (first | refine jS ?_ | refine jD ?_ | refine jB ?_)
 refine jc rfl rfl rfl (fun h => ?_) (fun h => ?_)
 ·have h := of_decide_eq_true h
  rw [List.length_map] at h
  have hk2 : k < ts.length := by omega
  have hidx : IntKind.i64.wrap ((k : Int) + 1) = ((k + 1 : Nat) : Int) := idx_next hk2 (by omega)
  have hm := at_mem hk2
  have htk : (ts.take (k + 1)).all (fun n => inn n 0 9) = inn (at' ts (k : Int)) 0 9 := by
   rw [List.take_succ_eq_append_getElem hk2, List.all_append, hok, at_nat ts k hk2]; simp
  have hno : inn (at' ts (k : Int)) 0 9 = false → turnsOk ts = false := fun e => by
   unfold turnsOk
   rw [show (ts.all fun n => inn n 0 9) = false from by rw [List.all_eq_false]; exact ⟨_, hm, by rw [e]; decide⟩]; rfl
  repeat (first | refine jS ?_ | refine jD ?_ | refine jB ?_ | refine jo rfl rfl (index_at rfl rfl rfl rfl rfl rfl rfl rfl (Int.natCast_nonneg k) h) rfl rfl ?_)
  generalize at' ts (k : Int) = v at *
  by_cases h1 : v < 0
  ·rw [show decide (v < 0) = true from decide_eq_true h1]
   rw [hno (by cases e : inn v 0 9 with
    | false => rfl
    | true => have := (inn_iff.1 e).1; omega)]
   repeat (first | refine jS ?_ | refine jD ?_ | refine jB ?_)
   exact jR
  ·rw [show decide (v < 0) = false from decide_eq_false h1]
   repeat (first | refine jS ?_ | refine jD ?_ | refine jB ?_)
   by_cases h2 : v > 9
   ·rw [show decide (v > 9) = true from decide_eq_true h2]
    rw [hno (by cases e : inn v 0 9 with
     | false => rfl
     | true => have := (inn_iff.1 e).2; omega)]
    repeat (first | refine jS ?_ | refine jD ?_ | refine jB ?_)
    exact jR
   ·rw [show decide (v > 9) = false from decide_eq_false h2]
    repeat (first | refine jS ?_ | refine jD ?_ | refine jB ?_)
    refine jnextI (k + 1) ⟨hk2, by rw [htk]; exact inn_iff.2 ⟨by omega, by omega⟩⟩ ?_ rfl (by omega)
    show some _ = some _
    rw [hidx]
 ·have h := of_decide_eq_false h
  rw [List.length_map] at h
  have : k = ts.length := by omega
  subst this
  rw [List.take_length] at hok
  unfold turnsOk
  rw [hok, Bool.true_and]
  repeat (first | refine jS ?_ | refine jD ?_ | refine jB ?_)
  rw [List.length_map]
  by_cases h1 : 1 ≤ ts.length
  ·rw [show decide ((ts.length : Int) ≥ 1) = true from decide_eq_true (by omega)]
   repeat (first | refine jS ?_ | refine jD ?_ | refine jB ?_)
   rw [List.length_map]
   have : decide ((ts.length : Int) ≤ 8) = inn (ts.length : Int) 1 8 := by
    by_cases h2 : ts.length ≤ 8
    ·rw [decide_eq_true (by omega), inn_iff.2 ⟨by omega, by omega⟩]
    ·rw [decide_eq_false (by omega)]
     cases e : inn (ts.length : Int) 1 8 with
     | false => rfl
     | true => have := (inn_iff.1 e).2; omega
   rw [this]
   exact jR
  ·rw [show decide ((ts.length : Int) ≥ 1) = false from decide_eq_false (by omega)]
   repeat (first | refine jS ?_ | refine jD ?_ | refine jB ?_)
   rw [show inn (ts.length : Int) 1 8 = false from by cases e : inn (ts.length : Int) 1 8 with
    | false => rfl
    | true => have := (inn_iff.1 e).1; omega]
   exact jR
set_option maxHeartbeats 4000000 in
theorem rsprog_ok (ts : List Int) (h8 : ts.length ≤ 8) (hn : ∀ n ∈ ts, 0 ≤ n ∧ n ≤ 9) : ACalls Tryz.prog 30 [ivs ts] [] (one (sv (ltx (spLn ts))) []) := by
 have hlen := fun k hk => spP_len ts k hk h8 (fun n hn' => hn n (List.take_subset _ _ hn'))
 rw [← spP_all ts]
 have hP0 : sv spT = sv (spP ts 0) := by congr 1
 unfold ivs
 refine jcalls Tryz.func30 rfl (by kernel_rfl) Tryz.ntmps30 rfl rfl (fun w0 β0 ext hβ => ?_)
 repeat (first | refine jS ?_ | refine jD ?_ | refine jB ?_)
 refine jloopI (fun k : Nat => k ≤ ts.length) [3, 7, 8, 9] (fun k => [sv (spP ts k), .sl (ts.map iv), .v (.int .i64 ((ts.map iv).length : Int)), .v (.int .i64 (k : Int))])
  (fun k => []) (fun k => ts.length - k) 0 (Nat.zero_le _) (by rw [← hP0]; rfl) rfl (fun k hk => ?_)
 repeat (first | refine jS ?_ | refine jD ?_ | refine jB ?_)
 refine jc rfl rfl rfl (fun h => ?_) (fun h => ?_)
 ·have h := of_decide_eq_true h
  rw [List.length_map] at h
  have hk2 : k < ts.length := by omega
  have hidx : IntKind.i64.wrap ((k : Int) + 1) = ((k + 1 : Nat) : Int) := idx_next hk2 (by omega)
  have hB := hlen k hk
  have hB2 := hlen (k + 1) (by omega)
  have hsu := spP_succ ts hk2
  have hnk := hn _ (at_mem hk2)
  have hd := digits_ok (k : Int) ⟨by omega, by omega⟩
  have htl := tname_len (n := k) (by omega)
  have hil : (Lib.itoa (k : Int)).length ≤ 11 := by unfold tname at htl; simp at htl; omega
  repeat (first | refine jS ?_ | refine jD ?_ | refine jB ?_ | refine jo rfl rfl (index_at rfl rfl rfl rfl rfl rfl rfl rfl (Int.natCast_nonneg k) h) rfl rfl ?_)
  generalize at' ts (k : Int) = v at *
  rw [hsu] at hB2
  generalize spP ts k = B at *
  refine jo rfl rfl (cat_str (a := B) (b := [116]) rfl rfl (by simp; omega)) rfl rfl ?_
  repeat (first | refine jS ?_ | refine jD ?_ | refine jB ?_ | refine jV hd ?_)
  refine jo rfl rfl (cat_str (a := B ++ [116]) (b := Lib.itoa k) rfl rfl (by simp; omega)) rfl rfl ?_
  repeat (first | refine jS ?_ | refine jD ?_ | refine jB ?_)
  refine jo rfl rfl (cat_str (a := (B ++ [116]) ++ Lib.itoa k) (b := [58, 10]) rfl rfl (by simp; omega)) rfl rfl ?_
  rw [show ((B ++ [116]) ++ Lib.itoa (k : Int)) ++ [58, 10] = B ++ (tlab k ++ [10]) by unfold tlab tname; simp]
  have hC : (B ++ (tlab k ++ [10])).length ≤ 9100 := by
   rw [List.length_append]
   unfold tlab
   simp only [List.length_append, List.length_cons, List.length_nil]
   omega
  generalize B ++ (tlab k ++ [10]) = C at *
  obtain ⟨n, rfl⟩ : ∃ n : Nat, v = n := ⟨v.toNat, by omega⟩
  rw [show (n : Int).toNat = n from by omega] at hB2 hsu
  repeat (first | refine jS ?_ | refine jD ?_ | refine jB ?_)
  refine jloopI (fun j : Nat => j ≤ n) [3, 5, 6, 7, 8, 9] (fun j => [sv (C ++ ltx (List.replicate j turnC).flatten), .v (.int .i64 (n : Int)), .v (.int .i64 (j : Int)), .sl (ts.map iv), .v (.int .i64 ((ts.map iv).length : Int)), .v (.int .i64 (k : Int))])
   (fun j => []) (fun j => n - j) 0 (Nat.zero_le _) ?_ rfl (fun j hj => ?_)
  ·rw [show C ++ ltx (List.replicate 0 turnC).flatten = C by simp [ltx]]; rfl
  repeat (first | refine jS ?_ | refine jD ?_ | refine jB ?_)
  refine jc rfl rfl rfl (fun h => ?_) (fun h => ?_)
  ·have h := of_decide_eq_true h
   have hj2 : j < n := by omega
   have hix : IntKind.i64.wrap ((j : Int) + 1) = ((j + 1 : Nat) : Int) := by rw [wrap_id (by omega) (by omega)]; rfl
   have hT : (C ++ ltx (List.replicate j turnC).flatten).length ≤ 20000 := by
    rw [List.length_append, rep_len]
    have h2 : (ltx turnC).length ≤ 103 := by decide
    have := Nat.mul_le_mul (show j ≤ 9 by omega) h2
    omega
   have hst : (C ++ ltx (List.replicate j turnC).flatten) ++ turnT = C ++ ltx (List.replicate (j + 1) turnC).flatten := by rw [List.append_assoc, repT]
   repeat (first | refine jS ?_ | refine jD ?_ | refine jB ?_)
   refine jo rfl rfl (cat_str (a := C ++ ltx (List.replicate j turnC).flatten) (b := turnT) rfl rfl (Nat.le_trans (Nat.add_le_add hT (show turnT.length ≤ 200 by decide)) (by decide))) rfl rfl ?_
   rw [hst]
   repeat (first | refine jS ?_ | refine jD ?_ | refine jB ?_)
   refine jnextI (j + 1) hj2 ?_ rfl (by omega)
   show some _ = some _
   rw [hix]
  ·have h := of_decide_eq_false h
   have : j = n := by omega
   subst this
   have hT : (C ++ ltx (List.replicate j turnC).flatten).length ≤ 20000 := by
    rw [List.length_append, rep_len]
    have h2 : (ltx turnC).length ≤ 103 := by decide
    have := Nat.mul_le_mul (show j ≤ 9 by omega) h2
    omega
   repeat (first | refine jS ?_ | refine jD ?_ | refine jB ?_)
   refine jo rfl rfl (cat_str (a := C ++ ltx (List.replicate j turnC).flatten) (b := haltT1) rfl rfl (Nat.le_trans (Nat.add_le_add hT (show haltT1.length ≤ 200 by decide)) (by decide))) rfl rfl ?_
   rw [← hsu]
   repeat (first | refine jS ?_ | refine jD ?_ | refine jB ?_)
   refine jnextI (k + 1) hk2 ?_ rfl (by omega)
   show some _ = some _
   rw [hidx]
 ·have h := of_decide_eq_false h
  rw [List.length_map] at h
  have : k = ts.length := by omega
  subst this
  repeat (first | refine jS ?_ | refine jD ?_ | refine jB ?_)
  exact jR
end Go.AL
end
section
set_option maxRecDepth 100000
namespace Go.AL
open Go Go.Proofs
attribute [local irreducible] J
def spM : Mem := ⟨[0, 0, 0], [0, 1, 1]⟩
theorem spM_mark : mMark ⟨List.replicate 3 0, List.replicate 3 0⟩ 1 2 1 = (spM, 0) := by decide +kernel
theorem spM_right : mRight spM = true := by decide +kernel
theorem names_len (n : Nat) : (names n).length = n := by unfold names; simp
theorem names_sz {n : Nat} (hn : n ≤ 1000) : ∀ l ∈ names n, l.length ≤ 1000000 := fun l hl => by
 unfold names at hl
 obtain ⟨i, hi, rfl⟩ := List.mem_map.1 hl
 have := tname_len (n := i) (by have := List.mem_range.1 hi; omega)
 omega
theorem sp_there (ts : List Int) (h8 : ts.length ≤ 8) (hn : ∀ n ∈ ts, 0 ≤ n ∧ n ≤ 9) : ∀ l ∈ names ts.length, (whereP (ltx (spLn ts)) l).2 = 0 := fun l hl => by
 unfold names at hl
 obtain ⟨i, hi, rfl⟩ := List.mem_map.1 hl
 rw [sp_where ts h8 hn (List.mem_range.1 hi)]
def spText (ts : List Int) : Bs := ltx (spLn ts)
def spW (ts : List Int) (d : Int) : Wd × Int := cond (turnsOk ts) (newW (spCode ts) (rst (spText ts) (names ts.length)) spM d) (wd0, 2)
theorem spworld_ok (g : Gl) (ts : List Int) (d : Int) (hl : ts.length ≤ 1000000) : ACalls Tryz.prog 26 [ivs ts, iv d] (gls g) (one (.tup [encWd (spW ts d).1, iv (spW ts d).2]) (gls g)) := by
 have h1 := sprog_ok g ts hl
 cases hT : turnsOk ts with
 | false =>
  have e1 : progT ts = ([], 2) := by unfold progT; rw [hT]; rfl
  have e2 : spW ts d = (wd0, 2) := by unfold spW; rw [hT]; rfl
  rw [e1] at h1
  rw [e2]
  unfold gls at *
  unfold encWd wCells ivs at *
  refine jcalls Tryz.func26 rfl (by kernel_rfl) Tryz.ntmps26 rfl rfl (fun w0 β0 ext hβ => ?_)
  repeat (first | refine jS ?_ | refine jD ?_ | refine jB ?_)
  refine jb [0,1,2,3] h1 rfl rfl rfl ⟨rfl, rfl, rfl, rfl, rfl, rfl⟩ rfl rfl rfl rfl ?_
  repeat (first | refine jS ?_ | refine jD ?_ | refine jB ?_)
  exact jret [] true rfl rfl rfl ⟨rfl, rfl⟩
 | true =>
  obtain ⟨hn, t1, t8⟩ := turnsOk_iff.1 hT
  have e1 : progT ts = (spText ts, 0) := by unfold progT; rw [hT]; rfl
  have hpr := sp_parse ts t8 hn
  have hlen := sp_len ts t8 hn
  have hwh := sp_there ts t8 hn
  rw [show ltx (spLn ts) = spText ts from rfl] at hpr hlen hwh
  have hp0 : (rparse (spText ts)).2.2 = 0 := by rw [hpr]
  obtain ⟨z1, z2⟩ := rst_eq hp0 (names ts.length)
  have e2 : spW ts d = newW (parseP (spText ts)).1 (stAt (spText ts) (names ts.length)) spM d := by unfold spW; rw [hT, parse_eq, hpr, z1]; rfl
  rw [e1] at h1
  rw [e2]
  have h2 := mnew_ok 3 (by decide) (by decide)
  have h3 := mark_ok ⟨List.replicate 3 0, List.replicate 3 0⟩ 1 2 1 (by decide +kernel) (.inl rfl)
  rw [spM_mark] at h3
  have h4 := snew_ok g (spText ts) (names ts.length) spM d (by omega) (by rw [names_len]; omega) (by decide) (by rw [parse_eq]; exact hp0) hwh (by rw [parse_eq, hpr]; have := parse_right hp0; unfold rightC at this; rw [hpr, Bool.and_eq_true] at this; have := of_decide_eq_true this.1; simp only at this ⊢; omega)
  have hit := fun (k : Int) => itoa_ok g k
  generalize newW (parseP (spText ts)).1 (stAt (spText ts) (names ts.length)) spM d = r at *
  generalize spText ts = T at *
  generalize spM = m at *
  clear e1 e2 z1 z2 hp0 hpr hwh
  unfold gls at *
  unfold encWd wCells encMem mCells ivs at *
  refine jcalls Tryz.func26 rfl (by kernel_rfl) Tryz.ntmps26 rfl rfl (fun w0 β0 ext hβ => ?_)
  repeat (first | refine jS ?_ | refine jD ?_ | refine jB ?_)
  refine jb [0,1,2,3] h1 rfl rfl rfl ⟨rfl, rfl, rfl, rfl, rfl, rfl⟩ rfl rfl rfl rfl ?_
  repeat (first | refine jS ?_ | refine jD ?_ | refine jB ?_ | refine jV h2 ?_ | refine jV h3 ?_)
  refine jad 10 9 1 rfl rfl rfl rfl ?_
  refine jloopI (fun q : Nat => q ≤ ts.length) [1, 4, 6, 8, 10, 30, 31, 32] (fun q => [iv d, .ptr 4 0, sv T, .ptr 5 0, .arr 6 (q + 1), .sl (ts.map iv), .v (.int .i64 ((ts.map iv).length : Int)), .v (.int .i64 (q : Int))])
   (fun q => [g.a, g.b, g.c, g.d, .box 33 [.slf [], .slf [], .slf [], iv 0, .slf [], .slf [], .slf []], .box 25 [.sl (m.words.map iv), .sl (m.tags.map iv)], .arr (q + 1) 9 1 ((names q).map sv)]) (fun q => ts.length - q) 0 (Nat.zero_le _) rfl rfl (fun q hq => ?_)
  repeat (first | refine jS ?_ | refine jD ?_ | refine jB ?_)
  refine jc rfl rfl rfl (fun h => ?_) (fun h => ?_)
  ·have h := of_decide_eq_true h
   rw [List.length_map] at h
   have hq2 : q < ts.length := by omega
   have hidx : IntKind.i64.wrap ((q : Int) + 1) = ((q + 1 : Nat) : Int) := idx_next hq2 (by omega)
   have hit := hit q (by omega) (by omega)
   have hl := tname_len (n := q) (by omega)
   have hln := names_len q
   repeat (first | refine jS ?_ | refine jD ?_ | refine jB ?_)
   refine jb [0,1,2,3] hit rfl rfl rfl ⟨rfl, rfl, rfl, rfl, rfl, rfl⟩ rfl rfl rfl rfl ?_
   refine jo rfl rfl (cat_str (a := [116]) (b := Lib.itoa q) rfl rfl (by unfold tname at hl; simp at hl ⊢; omega)) rfl rfl ?_
   rw [show [116] ++ Lib.itoa (q : Int) = tname q from rfl]
   repeat (first | refine jS ?_ | refine jD ?_ | refine jB ?_)
   refine jo rfl rfl (append_enc (enc := sv) (l := names q) (tname q) rfl rfl rfl rfl rfl rfl rfl rfl rfl rfl (fun x => ⟨rfl, rfl⟩) rfl (by omega) rfl rfl) rfl rfl ?_
   rw [← names_succ]
   repeat (first | refine jS ?_ | refine jD ?_ | refine jB ?_)
   refine jnextI (q + 1) hq2 ?_ rfl (by omega)
   show some _ = some _
   rw [hidx]
  ·have h := of_decide_eq_false h
   rw [List.length_map] at h
   have : q = ts.length := by omega
   subst this
   refine jpub 10 rfl rfl rfl rfl ?_
   repeat (first | refine jS ?_ | refine jD ?_ | refine jB ?_)
   refine jb [0,1,2,3] h4 rfl rfl rfl ⟨rfl, rfl, rfl, rfl, rfl, rfl⟩ rfl rfl rfl rfl ?_
   repeat (first | refine jS ?_ | refine jD ?_ | refine jB ?_)
   exact jR
theorem rsworld_ok (ts : List Int) (d : Int) (hT : turnsOk ts = true) : ACalls Tryz.prog 31 [ivs ts, iv d] [] (one (encWd (newOk (spCode ts) (rst (spText ts) (names ts.length)) spM d)) []) := by
 obtain ⟨hn, t1, t8⟩ := turnsOk_iff.1 hT
 have hpr := sp_parse ts t8 hn
 have hlen := sp_len ts t8 hn
 have hwh := sp_there ts t8 hn
 have h1 := rsprog_ok ts t8 hn
 rw [show ltx (spLn ts) = spText ts from rfl] at hpr hlen hwh h1
 have hp0 : (rparse (spText ts)).2.2 = 0 := by rw [hpr]
 obtain ⟨z1, z2⟩ := rst_eq hp0 (names ts.length)
 have h2 := rmnew_ok 3 (by decide)
 have h3 := rmark_ok ⟨List.replicate 3 0, List.replicate 3 0⟩ 1 2 1 (by decide +kernel) (.inl rfl)
 rw [spM_mark] at h3
 have h4 := rnames_ok ts.length (by omega)
 have h5 := rworld_ok (spText ts) (names ts.length) spM d (by omega) (by rw [names_len]; omega) (names_sz (by omega)) (z2.1 hwh)
 rw [hpr] at h5
 have hlm : ((ts.map iv).length : Int) = (ts.length : Int) := by rw [List.length_map]
 rw [← hlm] at h4
 generalize newOk (spCode ts) (rst (spText ts) (names ts.length)) spM d = w at *
 generalize spText ts = T at *
 generalize spM = m at *
 clear hn hwh z1 z2 hpr hp0
 unfold encWd wCells encMem mCells ivs at *
 refine jcalls Tryz.func31 rfl (by kernel_rfl) Tryz.ntmps31 rfl rfl (fun w0 β0 ext hβ => ?_)
 repeat (first | refine jS ?_ | refine jD ?_ | refine jB ?_ | refine jV h2 ?_ | refine jV h3 ?_)
 repeat (first | refine jS ?_ | refine jD ?_ | refine jB ?_ | refine jV h1 ?_ | refine jV h4 ?_ | refine jV h5 ?_)
 exact jR
def spO (ts : List Int) (d : Int) : Wd := newOk (spCode ts) (rst (spText ts) (names ts.length)) spM d
theorem spW_good {ts : List Int} (hT : turnsOk ts = true) {d : Int} (hd : inn d 0 8 = true) : spW ts d = (spO ts d, 0) ∧ WdR (spO ts d) := by
 obtain ⟨hn, t1, t8⟩ := turnsOk_iff.1 hT
 have hpr := sp_parse ts t8 hn
 rw [show ltx (spLn ts) = spText ts from rfl] at hpr
 have hp0 : (rparse (spText ts)).2.2 = 0 := by rw [hpr]
 have hz : inn ((names ts.length).length : Int) 1 8 = true := by rw [names_len]; exact inn_iff.2 ⟨by omega, by omega⟩
 have h1 := newW_good hp0 (names ts.length) spM d spM_right hz hd
 have h2 := newOk_r hp0 (names ts.length) spM d spM_right hz hd
 rw [hpr] at h1 h2
 exact ⟨by unfold spW; rw [hT]; exact h1, h2⟩
theorem spW_depth {ts : List Int} (hT : turnsOk ts = true) {d : Int} (hd : inn d 0 8 = false) : spW ts d = (wd0, 2) := by
 obtain ⟨hn, t1, t8⟩ := turnsOk_iff.1 hT
 have hpr := sp_parse ts t8 hn
 rw [show ltx (spLn ts) = spText ts from rfl] at hpr
 have hp0 : (rparse (spText ts)).2.2 = 0 := by rw [hpr]
 have h1 := newW_size hp0 (rst (spText ts) (names ts.length)) spM d spM_right (by rw [hd, Bool.and_false])
 rw [hpr] at h1
 unfold spW
 rw [hT]; exact h1
theorem one_turns : turnsOk [1] = true := by decide +kernel
theorem one_runs : (roundsW (spO [1] 1) 100).1.tso.mem.words = [0, 0, 1] := by decide +kernel
theorem spalive_ok (g : Gl) : ACalls Tryz.prog 28 [] (gls g) (one (bv true) (gls g)) := by
 obtain ⟨e1, e2⟩ := spW_good one_turns (d := 1) (by decide)
 have h1 := spworld_ok g [1] 1 (by decide)
 rw [e1] at h1
 have h2 := rounds_ok (spO [1] 1) 100 e2 (by decide) (by decide)
 have e3 := one_runs
 generalize (roundsW (spO [1] 1) 100).2 = n at *
 generalize (roundsW (spO [1] 1) 100).1 = w at *
 generalize spO [1] 1 = w0 at *
 clear e1 e2
 unfold gls at *
 unfold encWd wCells ivs at *
 rw [e3] at h2
 have h1 := h1.argw (args' := [.slf [iv 1], iv 1]) (fun c us h => relL_cons (fun u h => sl_weak h) (fun us h => h) us h)
 refine jcalls Tryz.func28 rfl (by kernel_rfl) Tryz.ntmps28 rfl rfl (fun w0 β0 ext hβ => ?_)
 repeat (first | refine jS ?_ | refine jD ?_ | refine jB ?_)
 refine jb [0,1,2,3] h1 rfl rfl rfl ⟨rfl, rfl, rfl, rfl, rfl, rfl⟩ rfl rfl rfl rfl ?_
 have i0 : (0 : Int) ≤ 2 := by decide
 have i1 : (2 : Int) < ([0, 0, 1] : List Int).length := by decide
 repeat (first | refine jS ?_ | refine jD ?_ | refine jB ?_ | refine jV h2 ?_ | refine jo rfl rfl (index_at rfl rfl rfl rfl rfl rfl rfl rfl i0 i1) rfl rfl ?_)
 rw [show (at' ([0, 0, 1] : List Int) (2 : Int) == 1) = true from by decide]
 repeat (first | refine jS ?_ | refine jD ?_ | refine jB ?_)
 exact jR
theorem sptext_ok : ACalls Tryz.prog 27 [] [] (one (sv spT) []) := by
 refine jcalls Tryz.func27 rfl (by kernel_rfl) Tryz.ntmps27 rfl rfl (fun w0 β0 ext hβ => ?_)
 repeat (first | refine jS ?_ | refine jD ?_ | refine jB ?_)
 exact jR
theorem str_ne_same (l : Bs) : (!((⟨l.toArray⟩ : ByteArray).toList == (⟨l.toArray⟩ : ByteArray).toList)) = false := by simp
theorem neq_same {P : Program} {F : Fr} {H : List AObj} {dst : Option Tmp} {t yt : TypeId} {x y : Operand} {type : TypeId} {pos : String} {after : Array Edge} {guard : Option (Nat × Bool)} {a b : ByteArray} (hx : ev F x = some (.v (.string a))) (hy : ev F y = some (.v (.string b))) (e : a = b) :
  DSem P .p ⟨dst, .binOp .neq t x y yt, type, pos, after, guard⟩ F H (bv false) H := by
 subst e
 refine ⟨rfl, fun H' => Says.sem (says_bin hx hy (fun c u u' w r1 r2 => ?_) ⟨_, rfl⟩) H'⟩
 cases (show u = .string a from r1); cases (show u' = .string a from r2)
 simp only [Sem.run_bind, run_eqGuard_string, Result.andThen_ok]
 simp [binOp, Op.stringOp]
theorem eq_same {P : Program} {F : Fr} {H : List AObj} {dst : Option Tmp} {t yt : TypeId} {x y : Operand} {type : TypeId} {pos : String} {after : Array Edge} {guard : Option (Nat × Bool)} {a b : ByteArray} (hx : ev F x = some (.v (.string a))) (hy : ev F y = some (.v (.string b))) (e : a = b) :
  DSem P .p ⟨dst, .binOp .eql t x y yt, type, pos, after, guard⟩ F H (bv true) H := by
 subst e
 refine ⟨rfl, fun H' => Says.sem (says_bin hx hy (fun c u u' w r1 r2 => ?_) ⟨_, rfl⟩) H'⟩
 cases (show u = .string a from r1); cases (show u' = .string a from r2)
 simp only [Sem.run_bind, run_eqGuard_string, Result.andThen_ok]
 simp [binOp, Op.stringOp]
theorem spm_law (g : Gl) (ts : List Int) (d : Int) : ACalls Tryz.prog 6 [ivs ts, iv d] (gls g) (one (bv true) (gls g)) := by
 have m1 : (if (10 : Int) < (((ts.map iv).length : Nat) : Int) then (10 : Int) else (((ts.map iv).length : Nat) : Int)) = ((min ts.length 10 : Nat) : Int) := by rw [List.length_map]; split <;> omega
 have hl : (ts.take 10).length ≤ 10 := by rw [List.length_take]; omega
 unfold gls
 unfold ivs
 refine jcalls Tryz.func6 rfl (by kernel_rfl) Tryz.ntmps6 rfl rfl (fun w0 β0 ext hβ => ?_)
 repeat (first | refine jS ?_ | refine jD ?_ | refine jB ?_)
 refine jo rfl rfl (cut_take 10 rfl rfl rfl m1 rfl rfl rfl (fun _ => ⟨rfl, rfl⟩)) rfl rfl ?_
 generalize ts.take 10 = t at *
 have h1 := sprog_ok g t (by omega)
 have h2 := spworld_ok g t d (by omega)
 have h3 := spalive_ok g
 have h4 := rturns_ok t (by omega)
 have ht := sptext_ok
 have h5 := rsame_ok wd0 wd0_sz (by decide)
 unfold encWd wCells ivs at h5
 replace h5 := h5.argw (args' := [_, .agg [.slf [], .slf [], .slf [], iv 0, .slf [], .slf [], .slf []]]) (fun c us h => relL_cons (fun u h => h) (relL_cons (agg_weak (relL_cons (fun u h => sl_weak h) (relL_cons (fun u h => sl_weak h) (relL_cons (fun u h => sl_weak h) (relL_cons (fun u h => h) (relL_cons (fun u h => sl_weak h) (relL_cons (fun u h => sl_weak h) (relL_cons (fun u h => sl_weak h) (fun us h => h))))))))) (fun us h => h)) us h)
 cases hT : turnsOk t with
 | false =>
  have e1 : progT t = ([], 2) := by unfold progT; rw [hT]; rfl
  have e2 : spW t d = (wd0, 2) := by unfold spW; rw [hT]; rfl
  rw [e1] at h1
  rw [e2] at h2
  rw [hT] at h4
  unfold gls at *
  unfold encWd wCells ivs at *
  repeat (first | refine jS ?_ | refine jD ?_ | refine jB ?_)
  refine jb [0,1,2,3] h1 rfl rfl rfl ⟨rfl, rfl, rfl, rfl, rfl, rfl⟩ rfl rfl rfl rfl ?_
  repeat (first | refine jS ?_ | refine jD ?_ | refine jB ?_)
  refine jb [0,1,2,3] h2 rfl rfl rfl ⟨rfl, rfl, rfl, rfl, rfl, rfl⟩ rfl rfl rfl rfl ?_
  repeat (first | refine jo rfl rfl (neq_same rfl rfl (by kernel_rfl)) rfl rfl ?_ | refine jS ?_ | refine jD ?_ | refine jB ?_ | refine jV ht ?_)
  refine jb [0,1,2,3] h3 rfl rfl rfl ⟨rfl, rfl, rfl, rfl, rfl, rfl⟩ rfl rfl rfl rfl ?_
  repeat (first | refine jo rfl rfl (eq_same rfl rfl rfl) rfl rfl ?_ | refine jS ?_ | refine jD ?_ | refine jB ?_ | refine jV h4 ?_ | refine jV h5 ?_)
  exact jR
 | true =>
  obtain ⟨hn, t1, t8⟩ := turnsOk_iff.1 hT
  have e1 : progT t = (spText t, 0) := by unfold progT; rw [hT]; rfl
  rw [e1] at h1
  rw [hT] at h4
  have h6 := rsprog_ok t t8 hn
  rw [show ltx (spLn t) = spText t from rfl] at h6
  have hne : ∀ l : Bs, (!((⟨l.toArray⟩ : ByteArray).toList == (⟨l.toArray⟩ : ByteArray).toList)) = false := str_ne_same
  have hcm : ∀ (w : Wd) (n : Int), spW t d = (w, n) → ACalls Tryz.prog 26 [ivs t, iv d] (gls g) (one (.tup [encWd w, iv n]) (gls g)) := fun w n e => by rw [e] at h2; exact h2
  clear h2
  generalize spText t = T at *
  by_cases c1 : d < 0
  ·have h2 := hcm _ _ (spW_depth hT (by cases hi : inn d 0 8 with
    | false => rfl
    | true => have := (inn_iff.1 hi).1; omega))
   clear hcm
   unfold gls at *
   unfold encWd wCells ivs at *
   repeat (first | refine jS ?_ | refine jD ?_ | refine jB ?_)
   refine jb [0,1,2,3] h1 rfl rfl rfl ⟨rfl, rfl, rfl, rfl, rfl, rfl⟩ rfl rfl rfl rfl ?_
   repeat (first | refine jS ?_ | refine jD ?_ | refine jB ?_)
   refine jb [0,1,2,3] h2 rfl rfl rfl ⟨rfl, rfl, rfl, rfl, rfl, rfl⟩ rfl rfl rfl rfl ?_
   repeat (first | refine jo rfl rfl (neq_same rfl rfl (by kernel_rfl)) rfl rfl ?_ | refine jS ?_ | refine jD ?_ | refine jB ?_ | refine jV ht ?_)
   refine jb [0,1,2,3] h3 rfl rfl rfl ⟨rfl, rfl, rfl, rfl, rfl, rfl⟩ rfl rfl rfl rfl ?_
   repeat (first | refine jo rfl rfl (neq_same rfl rfl rfl) rfl rfl ?_ | refine jS ?_ | refine jD ?_ | refine jB ?_ | refine jV h4 ?_ | refine jV h6 ?_)
   rw [show decide (d < 0) = true from decide_eq_true c1]
   repeat (first | refine jS ?_ | refine jD ?_ | refine jB ?_ | refine jV h5 ?_)
   exact jR
  by_cases c2 : d > 8
  ·have h2 := hcm _ _ (spW_depth hT (by cases hi : inn d 0 8 with
    | false => rfl
    | true => have := (inn_iff.1 hi).2; omega))
   clear hcm
   unfold gls at *
   unfold encWd wCells ivs at *
   repeat (first | refine jS ?_ | refine jD ?_ | refine jB ?_)
   refine jb [0,1,2,3] h1 rfl rfl rfl ⟨rfl, rfl, rfl, rfl, rfl, rfl⟩ rfl rfl rfl rfl ?_
   repeat (first | refine jS ?_ | refine jD ?_ | refine jB ?_)
   refine jb [0,1,2,3] h2 rfl rfl rfl ⟨rfl, rfl, rfl, rfl, rfl, rfl⟩ rfl rfl rfl rfl ?_
   repeat (first | refine jo rfl rfl (neq_same rfl rfl (by kernel_rfl)) rfl rfl ?_ | refine jS ?_ | refine jD ?_ | refine jB ?_ | refine jV ht ?_)
   refine jb [0,1,2,3] h3 rfl rfl rfl ⟨rfl, rfl, rfl, rfl, rfl, rfl⟩ rfl rfl rfl rfl ?_
   repeat (first | refine jo rfl rfl (neq_same rfl rfl rfl) rfl rfl ?_ | refine jS ?_ | refine jD ?_ | refine jB ?_ | refine jV h4 ?_ | refine jV h6 ?_)
   rw [show decide (d < 0) = false from decide_eq_false c1]
   repeat (first | refine jS ?_ | refine jD ?_ | refine jB ?_)
   rw [show decide (d > 8) = true from decide_eq_true c2]
   repeat (first | refine jS ?_ | refine jD ?_ | refine jB ?_ | refine jV h5 ?_)
   exact jR
  have hd : inn d 0 8 = true := inn_iff.2 ⟨by omega, by omega⟩
  obtain ⟨e2, e3⟩ := spW_good hT hd
  have h2 := hcm _ _ e2
  have h7 := rsworld_ok t d hT
  have h8 := rsame_ok (spO t d) e3.size (by show (0 : Nat) ≤ 1000000; decide)
  rw [show newOk (spCode t) (rst (spText t) (names t.length)) spM d = spO t d from rfl] at h7
  generalize spO t d = w at *
  clear hcm e2 e3
  unfold gls at *
  unfold encWd wCells ivs at *
  repeat (first | refine jS ?_ | refine jD ?_ | refine jB ?_)
  refine jb [0,1,2,3] h1 rfl rfl rfl ⟨rfl, rfl, rfl, rfl, rfl, rfl⟩ rfl rfl rfl rfl ?_
  repeat (first | refine jS ?_ | refine jD ?_ | refine jB ?_)
  refine jb [0,1,2,3] h2 rfl rfl rfl ⟨rfl, rfl, rfl, rfl, rfl, rfl⟩ rfl rfl rfl rfl ?_
  repeat (first | refine jo rfl rfl (neq_same rfl rfl (by kernel_rfl)) rfl rfl ?_ | refine jS ?_ | refine jD ?_ | refine jB ?_ | refine jV ht ?_)
  refine jb [0,1,2,3] h3 rfl rfl rfl ⟨rfl, rfl, rfl, rfl, rfl, rfl⟩ rfl rfl rfl rfl ?_
  repeat (first | refine jo rfl rfl (neq_same rfl rfl rfl) rfl rfl ?_ | refine jS ?_ | refine jD ?_ | refine jB ?_ | refine jV h4 ?_ | refine jV h6 ?_)
  rw [show decide (d < 0) = false from decide_eq_false c1]
  repeat (first | refine jS ?_ | refine jD ?_ | refine jB ?_)
  rw [show decide (d > 8) = false from decide_eq_false c2]
  repeat (first | refine jS ?_ | refine jD ?_ | refine jB ?_ | refine jV h7 ?_ | refine jV h8 ?_)
  exact jR
end Go.AL
end
section
set_option maxRecDepth 100000
namespace Go.Proofs.YtplofnhnhfiokaaGreatDoor
open Go Go.AL Go.ChangeShapes Go.WideShapes Go.ChangeAt Go.RowKit
theorem own : ownKnob Tryz.prog.godebug = none := by kernel_rfl
theorem kids : Kids Tryz.prog (· < Tryz.prog.types.size) := kids_rows (by kernel_rfl) (by kernel_rfl)
theorem full : ∀ t e, t < Tryz.prog.types.size → Tryz.prog.underlying t = some (.slice e) → 0 < Tryz.prog.cellsOf e := slices_full_of _ (by kernel_rfl)
theorem g_pow : Tryz.prog.globalNamed "internal/strconv.uint64pow10" = some 1 := by kernel_rfl
theorem g_syn : Tryz.prog.globalNamed "strconv.ErrSyntax" = some 3 := by kernel_rfl
theorem g_ran : Tryz.prog.globalNamed "strconv.ErrRange" = some 4 := by kernel_rfl
def glx (g : Gl) : List (Nat × Obj) := [(1, .cells powV g.t1 g.f1), (3, .cells #[.iface g.e2 g.p2] g.t2 g.f2), (4, .cells #[.iface g.e3 g.p3] g.t3 g.f3), (2, .cells #[.int .i64 g.m] g.t0 g.f0)]
theorem var_heap {W : World} {n : String} {g : Nat} {cs : Array Value} (hg : Tryz.prog.globalNamed n = some g) (hv : W.var? Tryz.prog n = some cs) : ∃ t f, W.heap[g]? = some (.cells cs t f) := by
 unfold World.var? at hv
 rw [hg] at hv
 simp only [Option.bind_some] at hv
 split at hv
 ·rename_i c t f h
  injection hv with hv
  exact ⟨t, f, by rw [h, hv]⟩
 ·cases hv
theorem iface_head {W : World} {n nm : String} {x : DataW Unit} {r : List (String × DataW Unit)} {g : Nat} {t : TypeId} {ms : Array (String × TypeId)} (h : laidMet Tryz.prog ((n, .iface nm x) :: r) W)
  (hg : Tryz.prog.globalNamed n = some g) (ht : (Tryz.prog.globals[g]?).map (·.type) = some t) (hu : Tryz.prog.underlying t = some (.interface ms)) : ∃ e p, W.var? Tryz.prog n = some #[.iface e p] := by
 obtain ⟨ps, ⟨g0, t0, cs0, f0, p0, q0, hg0, ht0, hv0, hd0, _, _⟩, _, _⟩ := h
 obtain rfl := Option.some.inj (hg.symm.trans hg0)
 obtain rfl := Option.some.inj (ht.symm.trans ht0)
 obtain ⟨_, u, v, e, _, _⟩ := iface_of_trod hu hd0
 refine ⟨u, v, ?_⟩
 rw [hv0]
 congr 1
 apply Array.ext'
 simpa using e
def laidL : List (String × DataW Unit) := [("math/bits.deBruijn32tab", Rows.laid_math_bits_deBruijn32tab), ("math/bits.deBruijn64tab", Rows.laid_math_bits_deBruijn64tab), ("internal/strconv.uint64pow10", Rows.laid_internal_strconv_uint64pow10), ("unicode/utf8.acceptRanges", Rows.laid_unicode_utf8_acceptRanges), ("errors.errorType", Rows.laid_errors_errorType), ("strconv.ErrRange", Rows.laid_strconv_ErrRange), ("strconv.ErrSyntax", Rows.laid_strconv_ErrSyntax), ("unicode/utf8.first", Rows.laid_unicode_utf8_first)]
def plainL : List (String × DataW Unit) := [("math/bits.deBruijn32tab", Rows.laid_math_bits_deBruijn32tab), ("math/bits.deBruijn64tab", Rows.laid_math_bits_deBruijn64tab), ("internal/strconv.uint64pow10", Rows.laid_internal_strconv_uint64pow10), ("unicode/utf8.acceptRanges", Rows.laid_unicode_utf8_acceptRanges), ("strconv.ErrRange", Rows.laid_strconv_ErrRange), ("strconv.ErrSyntax", Rows.laid_strconv_ErrSyntax), ("unicode/utf8.first", Rows.laid_unicode_utf8_first)]
theorem plain_eq : (laidL.filter fun x => x.2.handleName?.isNone) = plainL := by kernel_rfl
theorem laid_plain {W : World} (h : laidMetH Tryz.prog laidL W) : laidMet Tryz.prog plainL W := by
 have h1 := (laidMetH_iff.1 h).1
 rwa [plain_eq] at h1
noncomputable def errW (os : Os) : World :=
 let w0 := World.holding Tryz.prog os ⟨#[], #[], []⟩
 { w0 with heap := w0.heap.modify 0 fun
   | .cells _ t frozen => .cells #[.iface 206 (.agg #[typeHandle Tryz.prog 87])] t frozen
   | o => o }
noncomputable def laidW (os : Os) : World := (errW os).layVars Tryz.prog plainL
theorem laidW_os (os : Os) : (laidW os).os = os := World.layVars_os _ _ _
theorem laidW_met (os : Os) (args : Array Value) : laidMetH Tryz.prog laidL ((laidW os).forCall (fun _ _ => 0) ⟨#[], args, []⟩).memory := by
 refine laidMetH_of_parts ?_ (by kernel_rfl)
 rw [plain_eq]
 have e1 : (plainL.filter fun x => (plainL.map (·.1)).contains x.1) = plainL := List.filter_eq_self.2 fun x hx => List.contains_iff_mem.2 (List.mem_map.2 ⟨x, hx, rfl⟩)
 have e2 : (plainL.filter fun x => !(plainL.map (·.1)).contains x.1) = [] := List.filter_eq_nil_iff.2 fun x hx => by rw [List.contains_iff_mem.2 (List.mem_map.2 ⟨x, hx, rfl⟩)]; simp
 have h : laidMet Tryz.prog plainL (laidW os) := laidMet_layVars (w0 := errW os) (plainL.map (·.1)) [] (by rw [e1]; rfl) (by rw [e1]; kernel_rfl) (by rw [e1]; kernel_rfl) (by rw [e2]; exact LaidIn.none)
 exact h.of_heap (by simp [World.memory, World.forCall, Input.heap])
theorem gl_exists {W : World} (hL : laidMetH Tryz.prog laidL W) (hS : W.ShapedOpen Tryz.prog) : ∃ g : Gl, ∀ p ∈ glx g, W.heap[p.1]? = some p.2 ∧ ∀ d, p.2 ≠ .deferred d := by
 replace hL := laid_plain hL
 have h3 := hL.tail.tail
 have h5 := hL.tail.tail.tail.tail
 have h6 := hL.tail.tail.tail.tail.tail
 obtain ⟨t1, f1, a1⟩ := var_heap g_pow (Lib.tabIs_of_head (k := .u64) (zs := Lib.pow10Tab) (n := 20) (t := 278) (e := 252) g_pow (by kernel_rfl) (by kernel_rfl) (by kernel_rfl) (by kernel_rfl) (by kernel_rfl) h3)
 obtain ⟨e3, p3, b3⟩ := iface_head (t := 87) h5 g_ran (by kernel_rfl) Tryz.underlying87
 obtain ⟨e2, p2, b2⟩ := iface_head (t := 87) h6 g_syn (by kernel_rfl) Tryz.underlying87
 obtain ⟨t3, f3, a3⟩ := var_heap g_ran b3
 obtain ⟨t2, f2, a2⟩ := var_heap g_syn b2
 obtain ⟨m, a0⟩ := shaped_int (g := 2) (t := 3) (zero := #[.int .i64 0]) (k := .i64) hS (of_decide_eq_true (by kernel_rfl)) (by kernel_rfl) rfl (by kernel_rfl) (by kernel_rfl) (by kernel_rfl)
 refine ⟨⟨t1, t2, t3, f1, f2, f3, e2, e3, p2, p3, 3, (0, 0), m⟩, fun p hp => ?_⟩
 simp only [glx, List.mem_cons, List.mem_nil_iff, or_false] at hp
 rcases hp with rfl | rfl | rfl | rfl
 ·exact ⟨a1, fun d h => by cases h⟩
 ·exact ⟨a2, fun d h => by cases h⟩
 ·exact ⟨a3, fun d h => by cases h⟩
 ·exact ⟨a0, fun d h => by cases h⟩
end Go.Proofs.YtplofnhnhfiokaaGreatDoor
end
section
set_option maxRecDepth 100000
namespace Go.Proofs.YtplofnhnhfiokaaGreatDoor
open Go Go.AL Go.ChangeShapes Go.WideShapes Go.ChangeAt Go.RowKit
section
variable {H : Type} {enc : TypeId × Value → H} {W : World} {v : Value} {d : DataW H} {p : List MemPlace}
theorem open_list {α : Type} {encX : α → AVal} {t e : TypeId} {r r' : TyRow} (f : List Int → α) (ht : tfind tyTab.tab t = some r') (hd' : r'.d = .slice e) (he : tfind tyTab.tab e = some r) (hi : allInt tyTab.tab Tryz.prog.stoodInHeld 100 e = true) (hz : r.size ≠ 0) (h1 : aggB r.d = false → r.size = 1)
  (hf : ∀ ns : List Int, ns.length = r.size → encX (f ns) = rowA (aggB r.d) ns) (hv : ∃ a l c, v = .slice a l c) (h : DataW.Trod enc Tryz.prog W 0 (fun _ => true) true t v d p) : ∃ m : List α, m.length ≤ maxLen ∧ Rel (out W) (.sl (m.map encX)) v := by
 obtain ⟨a, l, c, rfl⟩ := hv
 obtain ⟨n, hn⟩ := h
 obtain ⟨nss, g1, g2, g3⟩ := open_rows (T := tyTab) (st := Tryz.prog.stoodInHeld) (n := 100) ht hd' he hi hz h1 hn
 refine ⟨nss.map f, by simpa using g2, ?_⟩
 have : (nss.map f).map encX = nss.map (rowA (aggB r.d)) := by
  rw [List.map_map]
  exact List.map_congr_left fun ns hns => hf ns (g1 ns hns)
 rw [this]
 exact g3
theorem one_ints : ∀ {ns : List Int}, ns.length = 1 → ∃ a, ns = [a]
 | [a], _ => ⟨a, rfl⟩
theorem open_ints (hv : ∃ a l c, v = .slice a l c) (h : DataW.Trod enc Tryz.prog W 0 (fun _ => true) true 23 v d p) : ∃ m : List Int, m.length ≤ maxLen ∧ Rel (out W) (ivs m) v :=
 open_list (fun ns => ns.headD 0) rfl rfl rfl (by kernel_rfl) (by decide) (fun _ => rfl) (fun ns hn => by obtain ⟨a, rfl⟩ := one_ints hn; rfl) hv h
theorem open_int (hv : ∃ n, v = .int .i64 n) (h : DataW.Trod enc Tryz.prog W 0 (fun _ => true) true 3 v d p) : ∃ n : Int, True ∧ Rel (out W) (.v (.int .i64 n)) v := by
 obtain ⟨n, rfl⟩ := hv
 exact ⟨n, trivial, rfl⟩
end
end Go.Proofs.YtplofnhnhfiokaaGreatDoor
end
