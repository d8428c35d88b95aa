/-
  Part 6 of the proof texts: the program logic over the model, then the contracts of the functions that the laws reach. No conditions.
-/
import Derived.Test.YtplofnhnhfiokaaGreatDoorQ5
import Derived.Lib.SmallJoins
import Derived.Lib.Split
import Derived.Lib.SplitLaws
set_option linter.unusedVariables false
set_option linter.unusedSimpArgs false
set_option maxHeartbeats 2000000
section
set_option maxRecDepth 100000
namespace Go.AL
open Go Go.Proofs
attribute [local irreducible] J
abbrev Mp := List (Bs × Int)
def encM (m : Mp) : List (Value × Value) := m.map fun p => (S p.1, .int .i64 p.2)
theorem S_inj {a b : Bs} (h : S a = S b) : a = b := by
 unfold S at h
 injection h with h
 injection h with h
 injection h with h
theorem encM_find (m : Mp) (a : Bs) : MFind (vals (encM m)) (S a) ((m.lookup a).map iv) := by
 induction m with
 | nil => rfl
 | cons p m ih =>
  by_cases h : p.1 = a
  ·exact .inl ⟨by show S p.1 = S a; rw [h], by obtain ⟨q, n⟩ := p; subst h; simp [List.lookup, iv]⟩
  ·refine .inr ⟨fun e => h (S_inj e), ?_⟩
   have : List.lookup a (p :: m) = List.lookup a m := by
    obtain ⟨q, n⟩ := p
    simp only [List.lookup]
    have : (a == q) = false := by simp; exact fun e => h e.symm
    rw [this]
   rw [this]
   exact ih
theorem encM_put (m : Mp) (a : Bs) (n : Int) (h : m.lookup a = none) : MPut (vals (encM m)) (S a) (iv n) (vals (encM (m ++ [(a, n)]))) := by
 induction m with
 | nil => rfl
 | cons p m ih =>
  obtain ⟨q, n'⟩ := p
  simp only [List.lookup] at h
  split at h
  ·cases h
  ·rename_i hq
   refine .inr ⟨fun e => by rw [show q = a from S_inj e] at hq; simp at hq, _, rfl, ih h⟩
theorem encM_keys (m : Mp) : MKeys .string (vals (encM m)) := by
 intro p hp
 obtain ⟨q, hq, rfl⟩ := List.mem_map.1 hp
 obtain ⟨q', _, rfl⟩ := List.mem_map.1 hq
 trivial
def bare (c : Bs) : Bs := Lib.trimSuffix c [10]
def ended (c : Bs) : Bool := Lib.hasSuffix c [10]
def isLab (s : Bs) : Bool := Lib.hasSuffix s [58]
def labName (s : Bs) : Bs := Lib.trimSuffix s [58]
def stepL (st : Mp × Int) (c : Bs) : Mp × Int :=
 (cond (ended c && isLab (bare c) && !(st.1.lookup (labName (bare c))).isSome) (st.1 ++ [(labName (bare c), st.2)]) st.1, cond (isLab (bare c)) st.2 (st.2 + 1))
def labSt (cs : List Bs) (k : Nat) : Mp × Int := (cs.take k).foldl stepL ([], 0)
theorem labSt_succ {cs : List Bs} {k : Nat} (h : k < cs.length) : labSt cs (k + 1) = stepL (labSt cs k) cs[k] := by
 unfold labSt
 rw [List.take_succ_eq_append_getElem h, List.foldl_append]; rfl
theorem labSt_le (cs : List Bs) : ∀ k, 0 ≤ (labSt cs k).2 ∧ (labSt cs k).2 ≤ k
 | 0 => ⟨Int.le_refl _, Int.le_refl _⟩
 | k + 1 => by
  have ih := labSt_le cs k
  by_cases h : k < cs.length
  ·rw [labSt_succ h]
   unfold stepL
   cases isLab (bare cs[k]) <;> simp <;> omega
  ·have : labSt cs (k + 1) = labSt cs k := by unfold labSt; rw [List.take_of_length_le (by omega), List.take_of_length_le (by omega)]
   rw [this]; omega
theorem chunks_len : ∀ s : Bs, (chunks s).length ≤ s.length
 | [] => Nat.le_refl _
 | c :: r => by
  have ih := chunks_len r
  rw [chunks]
  split
  ·simp; exact ih
  ·split
   ·simp
   ·rename_i h t e; rw [e] at ih; simp at ih ⊢; omega
theorem chunk_len (s : Bs) {k : Nat} (h : k < (chunks s).length) : (chunks s)[k].length ≤ s.length := by
 rw [(rest_lt h).2]
 have := rest_len s k
 unfold lnHead
 split
 ·rw [List.length_take]; omega
 ·exact this
theorem bare_len (c : Bs) : (bare c).length ≤ c.length := by
 unfold bare Lib.trimSuffix
 split
 ·rw [List.length_take]; omega
 ·exact Nat.le_refl _
def labels (s : Bs) : Mp := (labSt (chunks s) (chunks s).length).1
theorem labels_ok (s : Bs) (hs : s.length ≤ 1000000) : ACalls Tryz.prog 79 [sv s] [] (one (.mp 0) [.vmap (encM (labels s))]) := by
 have hl := lines_ok s
 have hcl := chunks_len s
 refine jcalls Tryz.func79 rfl (by kernel_rfl) Tryz.ntmps79 rfl rfl (fun w0 β0 ext hβ => ?_)
 repeat (first | refine jS ?_ | refine jD ?_ | refine jB ?_ | refine jo rfl rfl (map_newV) rfl rfl ?_)
 refine jb [] hl rfl rfl rfl ⟨rfl, rfl, rfl, rfl, rfl, rfl⟩ rfl rfl rfl rfl ?_
 repeat (first | refine jS ?_ | refine jD ?_ | refine jB ?_)
 refine jrange [3, 4] rfl rfl rfl (fun l c c1 c2 c3 c4 c5 => ?_)
 have hc := lines1_ok l 3 s hs (fun k => [.vmap (encM (labSt (chunks s) k).1), .box 139 [.mp 0], .box 3 [iv (labSt (chunks s) k).2], .box 9 [sv (restAt s k)], .loop l .ready none c [.ptr 1 0, .ptr 2 0]])
  (fun _ => True) trivial (fun _ => False) (fun k _ => rfl) (fun k hk _ => ?_)
 ·refine ⟨_, hc, fun r H' hres => ?_⟩
  obtain ⟨rfl, ⟨rfl, _⟩ | h⟩ := hres
  ·refine ⟨_, .ready, none, _, .normal, rfl, rfl, by decide, rfl, ?_⟩
   repeat (first | refine jS ?_ | refine jD ?_ | refine jB ?_)
   exact jret [0] true rfl rfl rfl ⟨rfl, rfl⟩
  ·exact h.elim
 ·refine jround (ts := [3, 4]) c1 c2 c3 c4 c5 (j := 4) rfl rfl rfl (fun w1 β1 ext1 hβ1 => ?_)
  have hle := labSt_le (chunks s) k
  have hcu := cutSuffix_ok ((chunks s)[k]) [10] (by have := chunk_len s hk; omega)
  have hcu2 := cutSuffix_ok (bare (chunks s)[k]) [58] (by have := chunk_len s hk; have := bare_len (chunks s)[k]; omega)
  have hst := labSt_succ hk
  unfold stepL at hst
  have hf := encM_find (labSt (chunks s) k).1 (labName (bare (chunks s)[k]))
  have hks := encM_keys (labSt (chunks s) k).1
  have hpu := encM_put (labSt (chunks s) k).1 (labName (bare (chunks s)[k])) (labSt (chunks s) k).2
  unfold ended isLab labName at hst
  unfold labName at hf hpu
  rw [show Lib.trimSuffix (chunks s)[k] [10] = bare (chunks s)[k] from rfl] at hcu
  rw [hst]
  generalize labSt (chunks s) k = st at *
  obtain ⟨m, n⟩ := st
  generalize restAt s (k + 1) = rr
  generalize Lib.hasSuffix (chunks s)[k] [10] = e at *
  generalize Lib.hasSuffix (bare (chunks s)[k]) [58] = il at *
  generalize Lib.trimSuffix (bare (chunks s)[k]) [58] = nm at *
  generalize bare (chunks s)[k] = b at *
  generalize (chunks s)[k] = ch at *
  simp only at hle hf hks hpu
  unfold sv bv at hcu hcu2
  have hadd : IntKind.i64.wrap (n + 1) = n + 1 := wrap_id (by omega) (by omega)
  cases hlk : m.lookup nm with
  | none =>
   rw [hlk] at hf
   have hpu := hpu hlk
   simp only [Option.map_none] at hf
   cases e <;> cases il
   all_goals (
    repeat (first | refine jS ?_ | refine jD ?_ | refine jB ?_)
   )
   all_goals refine jlp ⟨rfl, ?_⟩
   all_goals (
    repeat (first | refine jS ?_ | refine jD ?_ | refine jB ?_ | refine jV hcu ?_ | refine jV hcu2 ?_ | refine jo rfl rfl (map_get rfl rfl rfl rfl rfl rfl rfl rfl rfl trivial hks hf rfl) rfl rfl ?_ | refine jo rfl rfl (map_put (mo' := .vmap (encM (m ++ [(nm, n)]))) (.inl rfl) rfl rfl rfl rfl rfl rfl rfl rfl rfl trivial hks hpu rfl) rfl rfl ?_)
   )
   all_goals refine jrend none rfl rfl rfl rfl (.inl ⟨rfl, ?_, trivial⟩)
   all_goals simp only [hadd, hlk]
   all_goals rfl
  | some q =>
   rw [hlk] at hf
   simp only [Option.map_some] at hf
   cases e <;> cases il
   all_goals (
    repeat (first | refine jS ?_ | refine jD ?_ | refine jB ?_)
   )
   all_goals refine jlp ⟨rfl, ?_⟩
   all_goals (
    repeat (first | refine jS ?_ | refine jD ?_ | refine jB ?_ | refine jV hcu ?_ | refine jV hcu2 ?_ | refine jo rfl rfl (map_get rfl rfl rfl rfl rfl rfl rfl rfl rfl trivial hks hf rfl) rfl rfl ?_)
   )
   all_goals refine jrend none rfl rfl rfl rfl (.inl ⟨rfl, ?_, trivial⟩)
   all_goals simp only [hadd, hlk]
   all_goals rfl
end Go.AL
end
section
set_option maxRecDepth 100000
namespace Go.AL
open Go Go.Proofs
attribute [local irreducible] J
structure Gl where
 t1 : TypeId
 t2 : TypeId
 t3 : TypeId
 f1 : Nat × Nat
 f2 : Nat × Nat
 f3 : Nat × Nat
 e2 : TypeId
 e3 : TypeId
 p2 : Value
 p3 : Value
 t0 : TypeId
 f0 : Nat × Nat
 m : Int
def powV : Array Value := (Lib.pow10Tab.map fun z => Value.int .u64 z).toArray
def Gl.a (g : Gl) : AObj := .fix 1 (.cells powV g.t1 g.f1)
def Gl.b (g : Gl) : AObj := .fix 3 (.cells #[.iface g.e2 g.p2] g.t2 g.f2)
def Gl.c (g : Gl) : AObj := .fix 4 (.cells #[.iface g.e3 g.p3] g.t3 g.f3)
def Gl.d (g : Gl) : AObj := .fix 2 (.cells #[.int .i64 g.m] g.t0 g.f0)
def gls (g : Gl) : List AObj := [g.a, g.b, g.c, g.d]
theorem tab_named : Tryz.prog.globalNamed "internal/strconv.uint64pow10" = some 1 := by kernel_rfl
theorem itoa_ok (g : Gl) (n : Int) (h0 : -9223372036854775808 ≤ n) (h1 : n ≤ 9223372036854775807) : ACalls Tryz.prog 56 [iv n] (gls g) (one (sv (Lib.itoa n)) (gls g)) :=
 lib_calls (xs := [.int .i64 n]) ⟨_, Tryz.func56, by kernel_rfl, by kernel_rfl⟩ fun w hw => by
  have h := hw 1 _ (show AObj.fix 1 (.cells powV g.t1 g.f1) ∈ gls g from List.mem_cons_self ..)
  refine (Tryz.strconv_Itoa n h0 h1 w ?_).mono fun e w' hq => ?_
  ·unfold Lib.TabIs World.var?
   rw [tab_named]
   show (match w.heap[1]? with | some (.cells cs _ _) => some cs | _ => none) = _
   rw [h]; rfl
  ·obtain ⟨h2, k, os, h3⟩ := hq
   subst h3
   refine ⟨_, sv (Lib.itoa n), h2, fun _ => rfl, ⟨rfl, rfl⟩, ⟨rfl, rfl, rfl, ?_, fun b hb => ?_⟩⟩
   ·show w.heap.size ≤ (w.heap ++ os).size
    rw [Array.size_append]; omega
   ·show (w.heap ++ os)[b]? = _
    rw [Array.getElem?_append_left hb]
def atoiQ (g : Gl) (s : Bs) : Eff := fun r H' => H' = gls g ∧ match Lib.atoiAll s with
 | .ok v => r = .ret (.tup [iv v, .v .nilIface])
 | .syntax => ∃ N, r = .ret (.tup [iv 0, .v (.iface 306 (.pointer (some ⟨N, 0, none⟩)))])
 | .range => ∃ N, r = .ret (.tup [iv (Lib.atoiSat s), .v (.iface 306 (.pointer (some ⟨N, 0, none⟩)))])
theorem below_bytes {w w' : World} (h : w' = w ∨ ∃ t, w' = Lib.bytesWorld w 5 t) : RowKit.Below w.heap.size w w' := by
 rcases h with rfl | ⟨t, rfl⟩
 ·exact RowKit.Below.refl _ _
 ·exact Joins.below_bytesWorld _ w 5 t (Nat.le_refl _)
theorem atoi_ok (g : Gl) (s : Bs) (hs : s.length ≤ 1000000) : ACalls Tryz.prog 166 [sv s] (gls g) (atoiQ g s) :=
 lib_calls (xs := [S s]) ⟨_, Tryz.func166, by kernel_rfl, by kernel_rfl⟩ fun w hw => by
  have hsz : ByteArray.size ⟨s.toArray⟩ ≤ 1000000 := by simpa [ByteArray.size] using hs
  have h2 := hw 3 _ (show AObj.fix 3 (.cells #[.iface g.e2 g.p2] g.t2 g.f2) ∈ gls g from List.mem_cons_of_mem _ (List.mem_cons_self ..))
  have h3 := hw 4 _ (show AObj.fix 4 (.cells #[.iface g.e3 g.p3] g.t3 g.f3) ∈ gls g from List.mem_cons_of_mem _ (List.mem_cons_of_mem _ (List.mem_cons_self ..)))
  have c2 : w.cell? ⟨3, 0, none⟩ = some (.iface g.e2 g.p2) := by simp [World.cell?, h2]
  have c3 : w.cell? ⟨4, 0, none⟩ = some (.iface g.e3 g.p3) := by simp [World.cell?, h3]
  cases ha : Lib.atoiAll s with
  | ok v =>
   refine (Tryz.strconv_Atoi_ok ⟨s.toArray⟩ (by omega) v ha w).mono fun e w' ⟨q1, q2⟩ => ?_
   refine ⟨_, .tup [iv v, .v .nilIface], q1, fun _ => ⟨_, rfl, _, _, rfl, rfl, _, _, rfl, rfl, rfl⟩, ⟨rfl, ?_⟩, below_bytes q2⟩
   rw [ha]
  | «syntax» =>
   refine (Tryz.strconv_Atoi_syntax ⟨s.toArray⟩ (by omega) ha _ w c2 (.inr ⟨_, _, rfl⟩)).mono fun e w' ⟨N, q1, _, _, q2⟩ => ?_
   refine ⟨_, .tup [iv 0, .v (.iface 306 (.pointer (some ⟨N, 0, none⟩)))], q1, fun _ => ⟨_, rfl, _, _, rfl, rfl, _, _, rfl, rfl, rfl⟩, ⟨rfl, ?_⟩, q2⟩
   rw [ha]
   exact ⟨N, rfl⟩
  | range =>
   refine (Tryz.strconv_Atoi_range ⟨s.toArray⟩ (by omega) ha _ w c3 (.inr ⟨_, _, rfl⟩)).mono fun e w' ⟨N, q1, _, _, q2⟩ => ?_
   refine ⟨_, .tup [iv (Lib.atoiSat s), .v (.iface 306 (.pointer (some ⟨N, 0, none⟩)))], q1, fun _ => ⟨_, rfl, _, _, rfl, rfl, _, _, rfl, rfl, rfl⟩, ⟨rfl, ?_⟩, q2⟩
   rw [ha]
   exact ⟨N, rfl⟩
def numV (s : Bs) : Int := match Lib.atoiAll s with | .ok v => v | .syntax => 0 | .range => Lib.atoiSat s
def numOk (s : Bs) : Bool := match Lib.atoiAll s with | .ok v => decide (Lib.itoa v = s) && inn v (-1000000000) 1000000000 | _ => false
theorem atoi_range {s : Bs} {v : Int} (h : Lib.atoiAll s = .ok v) : -9223372036854775808 ≤ v ∧ v ≤ 9223372036854775807 := by
 unfold Lib.atoiAll at h
 split at h
 ·cases h
 ·split at h
  ·cases h
  ·cases h
  ·rename_i u hu
   simp only at h
   split at h
   ·cases h
   ·split at h
    ·cases h
    ·injection h with h
     split at h <;> omega
theorem str_eq (a b : Bs) : ((⟨a.toArray⟩ : ByteArray).toList == (⟨b.toArray⟩ : ByteArray).toList) = decide (a = b) := by
 have h : ∀ l : Bs, (⟨l.toArray⟩ : ByteArray).toList = l := fun l => by simp
 rw [h, h]
 by_cases e : a = b <;> simp [e]
theorem number_ok (g : Gl) (s : Bs) (hs : s.length ≤ 1000000) : ACalls Tryz.prog 121 [sv s] (gls g) (one (.tup [iv (numV s), bv (numOk s)]) (gls g)) := by
 have ha := atoi_ok g s hs
 unfold atoiQ at ha
 unfold numV numOk
 cases hat : Lib.atoiAll s with
 | ok v =>
  rw [hat] at ha
  obtain ⟨r1, r2⟩ := atoi_range hat
  have hi := itoa_ok g v r1 r2
  have hin := in_ok v (-1000000000) 1000000000
  simp only
  generalize inn v (-1000000000) 1000000000 = b1 at *
  unfold iv bv at hin
  unfold sv iv at hi
  have key := str_eq (Lib.itoa v) s
  refine jcalls Tryz.func121 rfl (by kernel_rfl) Tryz.ntmps121 rfl rfl (fun w0 β0 ext hβ => ?_)
  repeat (first | refine jS ?_ | refine jD ?_ | refine jB ?_)
  refine jcq ha rfl rfl rfl rfl (fun r H' hres => ?_)
  obtain ⟨rfl, rfl⟩ := hres
  refine ⟨_, rfl, ?_⟩
  repeat (first | refine jS ?_ | refine jD ?_ | refine jB ?_ | refine jo rfl rfl (eq_nilI rfl rfl rfl) rfl rfl ?_)
  refine jb [0,1,2,3] hi rfl rfl rfl ⟨rfl, rfl, rfl, rfl, rfl, rfl⟩ rfl rfl rfl rfl ?_
  repeat (first | refine jS ?_ | refine jD ?_ | refine jB ?_)
  rw [key]
  generalize decide (Lib.itoa v = s) = b2 at *
  cases b2
  ·repeat (first | refine jS ?_ | refine jD ?_ | refine jB ?_)
   exact jR
  ·repeat (first | refine jS ?_ | refine jD ?_ | refine jB ?_ | refine jV hin ?_)
   exact jR
 | «syntax» =>
  rw [hat] at ha
  refine jcalls Tryz.func121 rfl (by kernel_rfl) Tryz.ntmps121 rfl rfl (fun w0 β0 ext hβ => ?_)
  repeat (first | refine jS ?_ | refine jD ?_ | refine jB ?_)
  refine jcq ha rfl rfl rfl rfl (fun r H' hres => ?_)
  obtain ⟨rfl, N, rfl⟩ := hres
  refine ⟨_, rfl, ?_⟩
  repeat (first | refine jS ?_ | refine jD ?_ | refine jB ?_ | refine jo rfl rfl (eq_someI rfl rfl rfl) rfl rfl ?_)
  exact jR
 | range =>
  rw [hat] at ha
  refine jcalls Tryz.func121 rfl (by kernel_rfl) Tryz.ntmps121 rfl rfl (fun w0 β0 ext hβ => ?_)
  repeat (first | refine jS ?_ | refine jD ?_ | refine jB ?_)
  refine jcq ha rfl rfl rfl rfl (fun r H' hres => ?_)
  obtain ⟨rfl, N, rfl⟩ := hres
  refine ⟨_, rfl, ?_⟩
  repeat (first | refine jS ?_ | refine jD ?_ | refine jB ?_ | refine jo rfl rfl (eq_someI rfl rfl rfl) rfl rfl ?_)
  exact jR
end Go.AL
end
section
set_option maxRecDepth 100000
namespace Go.AL
open Go Go.Proofs
attribute [local irreducible] J
def tup2 (p : Int × Int) : AVal := .tup [iv p.1, iv p.2]
def rdR : Bs → Int × Int
 | [a, b] => cond (decide (a.toNat = 114)) (cond (inn b.toNat 48 55) ((b.toNat : Int) - 48, 0) (0, 3)) (0, 3)
 | _ => (0, 3)
def rdN (s : Bs) : Int × Int := cond (numOk s) (numV s, 0) (0, 3)
def rdT (m : Mp) (s : Bs) : Int × Int := cond (nameP s) (match m.lookup s with | some n => (n, 0) | none => (0, 11)) (0, 3)
theorem rdN_ok (g : Gl) (s : Bs) (hs : s.length ≤ 1000000) : ACalls Tryz.prog 120 [sv s] (gls g) (one (tup2 (rdN s)) (gls g)) := by
 have hn := number_ok g s hs
 unfold rdN
 generalize numV s = v at *
 generalize numOk s = b at *
 unfold sv bv iv at hn
 cases b
 all_goals refine jcalls Tryz.func120 rfl (by kernel_rfl) Tryz.ntmps120 rfl rfl (fun w0 β0 ext hβ => ?_)
 all_goals (
  repeat (first | refine jS ?_ | refine jD ?_ | refine jB ?_)
 )
 all_goals refine jb [0,1,2,3] hn rfl rfl rfl ⟨rfl, rfl, rfl, rfl, rfl, rfl⟩ rfl rfl rfl rfl ?_
 all_goals (
  repeat (first | refine jS ?_ | refine jD ?_ | refine jB ?_)
 )
 all_goals exact jR
theorem rdT_ok (m : Mp) (s : Bs) : ACalls Tryz.prog 122 [sv s, .ptr 1 0] [.vmap (encM m), .box 139 [.mp 0]] (one (tup2 (rdT m s)) [.vmap (encM m), .box 139 [.mp 0]]) := by
 have hn := isName_ok s
 have hf := encM_find m s
 have hks := encM_keys m
 unfold rdT
 generalize nameP s = b at *
 unfold sv bv at hn
 cases hlk : m.lookup s with
 | none =>
  rw [hlk] at hf
  simp only [Option.map_none] at hf
  cases b
  all_goals refine jcalls Tryz.func122 rfl (by kernel_rfl) Tryz.ntmps122 rfl rfl (fun w0 β0 ext hβ => ?_)
  all_goals (
   repeat (first | refine jS ?_ | refine jD ?_ | refine jB ?_ | refine jV hn ?_ | refine jo rfl rfl (map_get rfl rfl rfl rfl rfl rfl rfl rfl rfl trivial hks hf rfl) rfl rfl ?_)
  )
  all_goals exact jR
 | some n =>
  rw [hlk] at hf
  simp only [Option.map_some] at hf
  cases b
  all_goals refine jcalls Tryz.func122 rfl (by kernel_rfl) Tryz.ntmps122 rfl rfl (fun w0 β0 ext hβ => ?_)
  all_goals (
   repeat (first | refine jS ?_ | refine jD ?_ | refine jB ?_ | refine jV hn ?_ | refine jo rfl rfl (map_get rfl rfl rfl rfl rfl rfl rfl rfl rfl trivial hks hf rfl) rfl rfl ?_)
  )
  all_goals exact jR
theorem rdR_ok (s : Bs) : ACalls Tryz.prog 118 [sv s] [] (one (tup2 (rdR s)) []) := by
 rcases s with _ | ⟨a, _ | ⟨b, _ | ⟨c, r⟩⟩⟩
 ·refine jcalls Tryz.func118 rfl (by kernel_rfl) Tryz.ntmps118 rfl rfl (fun w0 β0 ext hβ => ?_)
  unfold sv S
  repeat (first | refine jS ?_ | refine jD ?_ | refine jB ?_)
  exact jR
 ·refine jcalls Tryz.func118 rfl (by kernel_rfl) Tryz.ntmps118 rfl rfl (fun w0 β0 ext hβ => ?_)
  unfold sv S
  repeat (first | refine jS ?_ | refine jD ?_ | refine jB ?_)
  exact jR
 ·have hb : (b.toNat : Int) ≤ 255 := by have := b.toNat_lt; omega
  have hin : ACalls Tryz.prog 119 [.v (.int .i64 (IntKind.i64.wrap (b.toNat : Int))), .v (.int .i64 48), .v (.int .i64 55)] [] (one (.v (.bool (inn b.toNat 48 55))) []) := by rw [wrap_id (by omega) (by omega)]; exact in_ok _ _ _
  have ha : ((a.toNat : Int) != 114) = !decide (a.toNat = 114) := by
   rw [Bool.eq_iff_iff]; simp; omega
  have h8 : IntKind.i64.wrap (IntKind.u8.wrap ((b.toNat : Int) - 48)) = cond (inn b.toNat 48 55) ((b.toNat : Int) - 48) (IntKind.i64.wrap (IntKind.u8.wrap ((b.toNat : Int) - 48))) := by
   cases hi : inn b.toNat 48 55 with
   | false => rfl
   | true =>
    unfold inn at hi
    simp only [Bool.and_eq_true, decide_eq_true_eq] at hi
    simp only [cond_true, IntKind.wrap, IntKind.bits, IntKind.signed]
    simp
    omega
  unfold rdR
  simp only
  generalize inn b.toNat 48 55 = b2 at *
  refine jcalls Tryz.func118 rfl (by kernel_rfl) Tryz.ntmps118 rfl rfl (fun w0 β0 ext hβ => ?_)
  unfold sv S
  repeat (first | refine jS ?_ | refine jD ?_ | refine jB ?_ | refine jV hin ?_ | refine jo rfl rfl (index_str rfl rfl rfl rfl (by decide) (c := a) rfl) rfl rfl ?_ | refine jo rfl rfl (index_str rfl rfl rfl rfl (by decide) (c := b) rfl) rfl rfl ?_)
  rw [ha]
  generalize decide (a.toNat = 114) = b1 at *
  cases b1
  ·repeat (first | refine jS ?_ | refine jD ?_ | refine jB ?_)
   exact jR
  ·cases b2
   ·repeat (first | refine jS ?_ | refine jD ?_ | refine jB ?_ | refine jV hin ?_ | refine jo rfl rfl (index_str rfl rfl rfl rfl (by decide) (c := a) rfl) rfl rfl ?_ | refine jo rfl rfl (index_str rfl rfl rfl rfl (by decide) (c := b) rfl) rfl rfl ?_)
    exact jR
   ·repeat (first | refine jS ?_ | refine jD ?_ | refine jB ?_ | refine jV hin ?_ | refine jo rfl rfl (index_str rfl rfl rfl rfl (by decide) (c := a) rfl) rfl rfl ?_ | refine jo rfl rfl (index_str rfl rfl rfl rfl (by decide) (c := b) rfl) rfl rfl ?_)
    rw [h8]
    exact jR
 ·refine jcalls Tryz.func118 rfl (by kernel_rfl) Tryz.ntmps118 rfl rfl (fun w0 β0 ext hβ => ?_)
  unfold sv S
  repeat (first | refine jS ?_ | refine jD ?_ | refine jB ?_)
  exact jR
def rdFns : List (Value × AVal) := [(.int .u8 114, .fn (.func 118) [] []), (.int .u8 110, .fn (.func 120) [] []), (.int .u8 116, .fn (.func 122) [] [.ptr 1 0])]
theorem readers_ok (m : Mp) : ACalls Tryz.prog 80 [.mp 0] [.vmap (encM m)] (one (.mp 2) [.vmap (encM m), .box 139 [.mp 0], .map rdFns]) := by
 refine jcalls Tryz.func80 rfl (by kernel_rfl) Tryz.ntmps80 rfl rfl (fun w0 β0 ext hβ => ?_)
 repeat (first | refine jS ?_ | refine jD ?_ | refine jB ?_ | refine jo rfl rfl (map_new) rfl rfl ?_ | refine jo rfl rfl (map_put (mo' := .map [(.int .u8 114, .fn (.func 118) [] [])]) (.inr rfl) rfl rfl rfl rfl rfl rfl rfl rfl rfl rfl (by simp [MKeys]) rfl rfl) rfl rfl ?_ | refine jo rfl rfl (map_put (mo' := .map [(.int .u8 114, .fn (.func 118) [] []), (.int .u8 110, .fn (.func 120) [] [])]) (.inr rfl) rfl rfl rfl rfl rfl rfl rfl rfl rfl rfl (show MKeys (.int .u8) _ by simp [MKeys, MapKept.IsKey]) (.inr ⟨by simp, _, rfl, rfl⟩) rfl) rfl rfl ?_ | refine jo rfl rfl (map_put (mo' := .map rdFns) (.inr rfl) rfl rfl rfl rfl rfl rfl rfl rfl rfl rfl (show MKeys (.int .u8) _ by simp [MKeys, MapKept.IsKey]) (.inr ⟨by simp, _, rfl, .inr ⟨by simp, _, rfl, rfl⟩⟩) rfl) rfl rfl ?_)
 exact jret [1, 2] true rfl rfl rfl ⟨rfl, rfl⟩
end Go.AL
end
section
set_option maxRecDepth 100000
namespace Go.AL
open Go Go.Proofs
attribute [local irreducible] J
def words (s : Bs) : List Bs := Lib.split s [32]
theorem words_vals (s : Bs) : (Lib.splitB ⟨#[32]⟩ 0 (Lib.countB ⟨s.toArray⟩ ⟨#[32]⟩) ⟨s.toArray⟩).map Value.string = (words s).map S := by
 unfold words Lib.split
 have h := Lib.splitB_data ⟨#[32]⟩ 0 (Lib.countB ⟨s.toArray⟩ ⟨#[32]⟩) ⟨s.toArray⟩
 show _ = (Lib.splitK [32] 0 (Lib.count s [32]) s).map S
 rw [show Lib.splitK [32] 0 (Lib.count s [32]) s = _ from h.symm, List.map_map]
 apply List.map_congr_left
 intro b _
 rfl
theorem words_len (s : Bs) : (words s).length = Lib.countB ⟨s.toArray⟩ ⟨#[32]⟩ + 1 := by
 have h := congrArg List.length (words_vals s)
 simp only [List.length_map] at h
 rw [← h]
 exact Lib.splitB_all ⟨#[32]⟩ (by simp [ByteArray.size]) 0 _ _ rfl
theorem split_ok (g : Gl) (s : Bs) (hs : s.length ≤ 1000000) : ACalls Tryz.prog 129 [sv s, sv [32]] (gls g) (one (.slf ((words s).map sv)) (gls g)) := by
 refine ⟨⟨_, Tryz.func129, by kernel_rfl, by kernel_rfl⟩, fun ext w β us hI hx hr => ?_⟩
 rw [vals_rel (xs := [S s, S [32]]) hr]
 have hsz : ByteArray.size ⟨s.toArray⟩ ≤ 1000000 := by simpa [ByteArray.size] using hs
 have hm : w.cell? ⟨2, 0, none⟩ = some (.int .i64 g.m) := by
  have hj : 3 < β.length := by rw [hI.len]; show 3 < 4; omega
  have hfx : RelO (ctx ext w β) β[3] (.fix 2 (.cells #[.int .i64 g.m] g.t0 g.f0)) := hI.obj 3 (.fix 2 (.cells #[.int .i64 g.m] g.t0 g.f0)) _ rfl (List.getElem?_eq_getElem hj)
  have := hfx.2.2.1
  simp [World.cell?, this]
 refine (Tryz.strings_Split ⟨s.toArray⟩ ⟨#[32]⟩ g.m w (by omega) hm (by simp [ByteArray.size])).mono fun e w' ⟨h1, h2⟩ => ?_
 rw [words_vals] at h2
 rw [h1]
 have hlen := words_len s
 have hb : RowKit.Below w.heap.size w w' := by
  rw [h2]
  exact (RowKit.Below.refl _ w).alloc (Nat.le_refl _) _
 refine ⟨_, _, β, ⟨rfl, rfl⟩, ?_, below_inv hI hb, below_step hb β fun b hb => (hI.sep b hb).2⟩
 refine ⟨some ⟨w.heap.size, 0, none⟩, 1, by simp only [List.length_map]; rw [hlen], fun _ => ⟨w.heap.size, 0, rfl, ?_, ?_⟩, ?_⟩
 ·rintro (hq | hq)
  ·have := hx _ hq; omega
  ·have := (hI.sep _ hq).2; omega
 ·show w.heap.size < w'.heap.size
  rw [h2]; simp
 ·refine RelR.of_get fun i a ha => ?_
  rw [List.getElem?_map] at ha
  cases hw : (words s)[i]? with
  | none => rw [hw] at ha; cases ha
  | some q =>
   rw [hw] at ha; simp at ha; subst ha
   refine ⟨S q, rfl, rfl, fun p hp => ?_⟩
   have hp0 : p = 0 := by omega
   subst hp0
   show w'.cell? ⟨w.heap.size, 0 + ((0 + i) * 1 + 0), none⟩ = _
   rw [h2]
   have := World.alloc_heap_new w (.cells ((words s).map S).toArray 9)
   simp only [World.cell?, this, Option.isSome_none]
   simp [hw, Value.cells, S]
def opsT : List (Bs × Bs) := [([104,97,108,116], []), ([115,101,116], [114,110]), ([109,111,118,101], [114,114]), ([112,108,117,115], [114,114,110]), ([109,97,115,107], [114,114,110]), ([97,100,100], [114,114,114]), ([115,117,98], [114,114,114]),
 ([97,110,100], [114,114,114]), ([120,111,114], [114,114,114]), ([108,101,115,115], [114,114,114]), ([106,117,109,112], [116]), ([122,101,114,111], [114,116]), ([115,111,109,101], [114,116]), ([99,97,108,108], [116]),
 ([114,101,116], []), ([115,101,108,102], [114]), ([108,111,97,100], [114,114,110]), ([115,116,111,114,101], [114,114,110]), ([102,101,110,99,101], []), ([99,97,115], [114,114,114]), ([120,99,104,103], [114,114]),
 ([102,101,116,99,104], [114,114]), ([98,114,111,97,100], []), ([119,97,105,116], [114,114]), ([111,119,110], [114,114]), ([100,114,111,112], [114,114]), ([109,97,114,107], [110])]
def opsC : List AVal := opsT.flatMap fun p => [sv p.1, sv p.2]
theorem operations_ok : ACalls Tryz.prog 128 [] [] (one (.agg opsC) []) := by
 refine jcalls Tryz.func128 rfl (by kernel_rfl) Tryz.ntmps128 rfl rfl (fun w0 β0 ext hβ => ?_)
 repeat (first | refine jS ?_ | refine jD ?_ | refine jB ?_)
 exact jR
end Go.AL
end
section
set_option maxRecDepth 100000
namespace Go.AL
open Go Go.Proofs
attribute [local irreducible] J
theorem isOp_ok (a k w : Bs) (r : List Bs) : ACalls Tryz.prog 131 [.agg [sv a, sv k], .ptr 0 0] [.box 22 [.slf ((w :: r).map sv)]] (one (bv (decide (a = w))) [.box 22 [.slf ((w :: r).map sv)]]) := by
 have key := str_eq a w
 have hlt : (0 : Int) < ((w :: r).length : Int) := by rw [List.length_cons]; omega
 refine jcalls Tryz.func131 rfl (by kernel_rfl) Tryz.ntmps131 rfl rfl (fun w0 β0 ext hβ => ?_)
 repeat (first | refine jS ?_ | refine jD ?_ | refine jB ?_ | refine jo rfl rfl (index_at rfl rfl rfl rfl rfl rfl rfl rfl (by decide) hlt) rfl rfl ?_)
 exact jret [] false rfl rfl rfl ⟨congrArg (fun b => ARes.ret (AVal.v (.bool b))) key, rfl⟩
theorem ops_at : ∀ (i : Nat), i < 27 → takeA ty198 opsC (0 + i * ty198.size) = some (.agg [sv (at' opsT (i : Int)).1, sv (at' opsT (i : Int)).2])
 | 0, _ => rfl
 | 1, _ => rfl
 | 2, _ => rfl
 | 3, _ => rfl
 | 4, _ => rfl
 | 5, _ => rfl
 | 6, _ => rfl
 | 7, _ => rfl
 | 8, _ => rfl
 | 9, _ => rfl
 | 10, _ => rfl
 | 11, _ => rfl
 | 12, _ => rfl
 | 13, _ => rfl
 | 14, _ => rfl
 | 15, _ => rfl
 | 16, _ => rfl
 | 17, _ => rfl
 | 18, _ => rfl
 | 19, _ => rfl
 | 20, _ => rfl
 | 21, _ => rfl
 | 22, _ => rfl
 | 23, _ => rfl
 | 24, _ => rfl
 | 25, _ => rfl
 | 26, _ => rfl
 | n + 27, h => absurd h (by omega)
def findOp (w : Bs) : Int := match opsT.findIdx? (fun p => decide (p.1 = w)) with | some i => i | none => -1
theorem indexOp_ok (w : Bs) (r : List Bs) : ACalls Tryz.prog 130 [.bs 0 0 27 27, .fn (.func 131) [] [.ptr 1 0]] [.box 199 opsC, .box 22 [.slf ((w :: r).map sv)]]
  (one (iv (findOp w)) [.box 199 opsC, .box 22 [.slf ((w :: r).map sv)]]) := by
 refine jcalls Tryz.func130 rfl (by kernel_rfl) Tryz.ntmps130 rfl rfl (fun w0 β0 ext hβ => ?_)
 repeat (first | refine jS ?_ | refine jD ?_ | refine jB ?_ | refine jo rfl rfl (len_bs rfl rfl rfl) rfl rfl ?_)
 refine jloopI (fun k : Nat => k ≤ 27 ∧ ∀ i, i < k → (at' opsT (i : Int)).1 ≠ w) [0, 1, 8, 7] (fun k => [.bs 0 0 27 27, .fn (.func 131) [] [.ptr 1 0], .v (.int .i64 (k : Int)), .v (.int .i64 ((27 : Nat) : Int))]) (fun _ => [.box 199 opsC, .box 22 [.slf ((w :: r).map sv)]]) (fun k => 27 - k) 0 ⟨Nat.zero_le _, fun i h => absurd h (by omega)⟩ rfl rfl (fun k hk => ?_)
 obtain ⟨hk, hno⟩ := hk
 repeat (first | refine jS ?_ | refine jD ?_ | refine jB ?_)
 refine jc rfl rfl rfl (fun h => ?_) (fun h => ?_)
 ·have h := of_decide_eq_true h
  have hk2 : k < 27 := by omega
  have hat := ops_at k hk2
  have hc := isOp_ok (at' opsT (k : Int)).1 (at' opsT (k : Int)).2 w r
  repeat (first | refine jS ?_ | refine jD ?_ | refine jB ?_ | refine jo rfl rfl (index_bs rfl rfl rfl rfl rfl (by omega) (by omega)) rfl rfl ?_ | refine jo rfl rfl (load_dsem rfl rfl rfl hat) rfl rfl ?_)
  refine jb [1] hc rfl rfl rfl ⟨rfl, rfl, rfl, rfl, rfl, rfl⟩ rfl rfl rfl rfl ?_
  generalize hb : decide ((at' opsT (k : Int)).1 = w) = b at *
  repeat (first | refine jS ?_ | refine jD ?_ | refine jB ?_)
  refine jc rfl rfl rfl (fun h1 => ?_) (fun h1 => ?_)
  ·subst h1
   repeat (first | refine jS ?_ | refine jD ?_ | refine jB ?_)
   refine jret [] false rfl rfl rfl ⟨?_, rfl⟩
   have : findOp w = (k : Int) := by
    unfold findOp
    have hkl : k < opsT.length := hk2
    have e := at_nat opsT k hkl
    rw [e] at hb
    rw [List.findIdx?_eq_some_iff_getElem.2 ⟨hkl, hb, fun j hj => by
     have hjl : j < opsT.length := by show j < 27; omega
     have e2 := hno j hj
     rw [at_nat opsT j hjl] at e2
     simpa using e2⟩]
   rw [this]; rfl
  ·subst h1
   repeat (first | refine jS ?_ | refine jD ?_ | refine jB ?_)
   refine jnextI (k + 1) ⟨by omega, fun i hi => ?_⟩ ?_ rfl (by omega)
   ·by_cases hik : i = k
    ·subst hik; exact of_decide_eq_false hb
    ·exact hno i (by omega)
   ·show some _ = some _
    rw [idx_next hk2 (by omega)]
 ·have h := of_decide_eq_false h
  repeat (first | refine jS ?_ | refine jD ?_ | refine jB ?_)
  refine jret [] false rfl rfl rfl ⟨?_, rfl⟩
  have : findOp w = -1 := by
   unfold findOp
   rw [List.findIdx?_eq_none_iff.2 fun p hp => ?_]
   obtain ⟨i, hi, rfl⟩ := List.getElem_of_mem hp
   have hi' : i < 27 := hi
   have e2 := hno i (by omega)
   rw [at_nat opsT i hi] at e2
   simpa using e2
  rw [this]; rfl
end Go.AL
end
section
set_option maxRecDepth 100000
namespace Go.AL
open Go Go.Proofs
attribute [local irreducible] J
structure Ins where
 op : Int
 a : Int
 b : Int
 c : Int
instance : Inhabited Ins := ⟨⟨0, 0, 0, 0⟩⟩
def encIns (i : Ins) : AVal := .agg [iv i.op, iv i.a, iv i.b, iv i.c]
def rd (m : Mp) (c : UInt8) (w : Bs) : Int × Int := cond (decide (c = 114)) (rdR w) (cond (decide (c = 110)) (rdN w) (rdT m w))
def rdAll (m : Mp) : Bs → List Bs → List Int × Int
 | c :: cs, w :: ws => cond (decide ((rd m c w).2 = 0)) (((rd m c w).1 :: (rdAll m cs ws).1), (rdAll m cs ws).2) ([], (rd m c w).2)
 | _, _ => ([], 0)
def instrK (m : Mp) (op : Int) (kd : Bs) (ws : List Bs) : Ins × Int :=
 cond (decide (ws.length = kd.length)) (cond (decide ((rdAll m kd ws).2 = 0)) (⟨op, (rdAll m kd ws).1.getD 0 0, (rdAll m kd ws).1.getD 1 0, (rdAll m kd ws).1.getD 2 0⟩, 0) (default, (rdAll m kd ws).2)) (default, 12)
def instrP (m : Mp) (s : Bs) : Ins × Int :=
 match words s with
 | [] => (default, 10)
 | w :: ws => cond (decide (findOp w < 0)) (default, 10) (instrK m (findOp w) (at' opsT (findOp w)).2 ws)
def rdF (j : Nat) : List (Value × AVal) := [(.int .u8 114, .fn (.func 118) [] []), (.int .u8 110, .fn (.func 120) [] []), (.int .u8 116, .fn (.func 122) [] [.ptr j 0])]
def iH (g : Gl) (m : Mp) : List AObj := [g.a, g.b, g.c, g.d, .vmap (encM m), .box 139 [.mp 4], .map (rdF 5)]
theorem rdF_keys (j : Nat) : MKeys (.int .u8) (rdF j) := by
 simp [MKeys, rdF, MapKept.IsKey]
theorem words_ne (s : Bs) : words s ≠ [] := fun h => by
 have := words_len s
 rw [h] at this
 simp at this
theorem findOp_cases (w : Bs) : findOp w = -1 ∨ ∃ k : Nat, k < 27 ∧ findOp w = (k : Int) := by
 unfold findOp
 split
 ·rename_i i hi
  have := (List.findIdx?_eq_some_iff_getElem.1 hi).1
  exact .inr ⟨i, this, rfl⟩
 ·exact .inl rfl
theorem kinds_ok : ∀ k : Nat, k < 27 → (at' opsT (k : Int)).2.length ≤ 3 ∧ ∀ c ∈ (at' opsT (k : Int)).2, c = 114 ∨ c = 110 ∨ c = 116 := by decide
theorem ops_kind : ∀ (i : Nat), i < 27 → takeA ty9 opsC (0 + i * ty198.size + 1) = some (sv (at' opsT (i : Int)).2)
 | 0, _ => rfl
 | 1, _ => rfl
 | 2, _ => rfl
 | 3, _ => rfl
 | 4, _ => rfl
 | 5, _ => rfl
 | 6, _ => rfl
 | 7, _ => rfl
 | 8, _ => rfl
 | 9, _ => rfl
 | 10, _ => rfl
 | 11, _ => rfl
 | 12, _ => rfl
 | 13, _ => rfl
 | 14, _ => rfl
 | 15, _ => rfl
 | 16, _ => rfl
 | 17, _ => rfl
 | 18, _ => rfl
 | 19, _ => rfl
 | 20, _ => rfl
 | 21, _ => rfl
 | 22, _ => rfl
 | 23, _ => rfl
 | 24, _ => rfl
 | 25, _ => rfl
 | 26, _ => rfl
 | n + 27, h => absurd h (by omega)
theorem splitK_len (sep : Bs) (save : Nat) : ∀ (k : Nat) (s x : Bs), x ∈ Lib.splitK sep save k s → x.length ≤ s.length
 | 0, s, x, h => by simp [Lib.splitK] at h; subst h; exact Nat.le_refl _
 | k + 1, s, x, h => by
  unfold Lib.splitK at h
  split at h
  ·simp at h; subst h; exact Nat.le_refl _
  ·rcases List.mem_cons.1 h with rfl | h
   ·rw [List.length_take]; omega
   ·have := splitK_len sep save k _ x h
    rw [List.length_drop] at this; omega
theorem rdAll_ok (m : Mp) : ∀ (kd : Bs) (ws : List Bs), ws.length = kd.length → (∀ q, q < kd.length → (rd m (kd.getD q 0) (ws.getD q [])).2 = 0) →
  (rdAll m kd ws).2 = 0 ∧ ∀ q, q < kd.length → (rdAll m kd ws).1.getD q 0 = (rd m (kd.getD q 0) (ws.getD q [])).1
 | [], ws, _, _ => ⟨by simp [rdAll], fun q h => absurd h (by simp)⟩
 | c :: kd, [], h, _ => by simp at h
 | c :: kd, w :: ws, h, ha => by
  have h0 := ha 0 (by simp)
  simp at h0
  obtain ⟨i1, i2⟩ := rdAll_ok m kd ws (by simpa using h) fun q hq => by simpa using ha (q + 1) (by simpa using hq)
  have e : rdAll m (c :: kd) (w :: ws) = ((rd m c w).1 :: (rdAll m kd ws).1, (rdAll m kd ws).2) := by simp [rdAll, h0]
  rw [e]
  refine ⟨i1, fun q hq => ?_⟩
  cases q with
  | zero => simp
  | succ q => simpa using i2 q (by simpa using hq)
theorem rdAll_len (m : Mp) : ∀ (kd : Bs) (ws : List Bs), (rdAll m kd ws).1.length ≤ kd.length
 | [], ws => by simp [rdAll]
 | c :: kd, [] => by simp [rdAll]
 | c :: kd, w :: ws => by
  have := rdAll_len m kd ws
  simp only [rdAll]
  cases decide ((rd m c w).2 = 0) <;> simp <;> omega
theorem rdAll_bad (m : Mp) : ∀ (kd : Bs) (ws : List Bs) (i : Nat), ws.length = kd.length → i < kd.length → (∀ q, q < i → (rd m (kd.getD q 0) (ws.getD q [])).2 = 0) → (rd m (kd.getD i 0) (ws.getD i [])).2 ≠ 0 →
  (rdAll m kd ws).2 = (rd m (kd.getD i 0) (ws.getD i [])).2
 | [], ws, i, _, hi, _, _ => by simp at hi
 | c :: kd, [], i, h, _, _, _ => by simp at h
 | c :: kd, w :: ws, 0, h, _, _, hb => by
  simp at hb
  simp [rdAll, hb]
 | c :: kd, w :: ws, i + 1, h, hi, ha, hb => by
  have h0 := ha 0 (by omega)
  simp at h0
  have e : rdAll m (c :: kd) (w :: ws) = ((rd m c w).1 :: (rdAll m kd ws).1, (rdAll m kd ws).2) := by simp [rdAll, h0]
  rw [e]
  simpa using rdAll_bad m kd ws i (by simpa using h) (by simpa using hi) (fun q hq => by simpa using ha (q + 1) (by omega)) (by simpa using hb)
theorem instr_ok (g : Gl) (m : Mp) (s : Bs) (hs : s.length ≤ 1000000) : ACalls Tryz.prog 84 [sv s, .mp 6] (iH g m) (one (.tup [encIns (instrP m s).1, iv (instrP m s).2]) (iH g m)) := by
 have hop := operations_ok
 have hsp := split_ok g s hs
 have hwl := words_len s
 have hwb : (words s).length ≤ 1000001 := by
  rw [hwl]
  have := Lib.countB_le ⟨#[32]⟩ (by simp [ByteArray.size]) _ ⟨s.toArray⟩ (Nat.le_refl _)
  have hsz : ByteArray.size ⟨s.toArray⟩ ≤ 1000000 := by simpa [ByteArray.size] using hs
  omega
 unfold instrP
 have hne := words_ne s
 generalize hws : words s = ws at *
 cases ws with
 | nil => exact absurd rfl hne
 | cons w r =>
  simp only
  have hix := indexOp_ok w r
  have hkk := findOp_cases w
  generalize findOp w = op at *
  refine jcalls Tryz.func84 rfl (by kernel_rfl) Tryz.ntmps84 rfl rfl (fun w0 β0 ext hβ => ?_)
  repeat (first | refine jS ?_ | refine jD ?_ | refine jB ?_ | refine jV hop ?_)
  refine jb [0,1,2,3] hsp rfl rfl rfl ⟨rfl, rfl, rfl, rfl, rfl, rfl⟩ rfl rfl rfl rfl ?_
  repeat (first | refine jS ?_ | refine jD ?_ | refine jB ?_ | refine jo rfl rfl (slice_box 0 27 rfl rfl rfl rfl rfl rfl (by omega) (by omega) (by omega)) rfl rfl ?_)
  refine jb [8,9] hix rfl rfl rfl ⟨rfl, rfl, rfl, rfl, rfl, rfl⟩ rfl rfl rfl rfl ?_
  refine jheap (iH g m ++ [.box 98 [iv 0, iv 0, iv 0, iv 0], .box 199 opsC, .box 22 [.slf ((w :: r).map sv)]]) rfl ?_
  repeat (first | refine jS ?_ | refine jD ?_ | refine jB ?_)
  rcases hkk with rfl | ⟨k, hk, rfl⟩
  ·repeat (first | refine jS ?_ | refine jD ?_ | refine jB ?_)
   exact jR
  ·have hlt : decide ((k : Int) < 0) = false := decide_eq_false (by omega)
   have hkd := ops_kind k hk
   obtain ⟨hk3, hkc⟩ := kinds_ok k hk
   rw [hlt]
   simp only [cond_false]
   generalize (at' opsT (k : Int)).2 = kd at *
   repeat (first | refine jS ?_ | refine jD ?_ | refine jB ?_ | refine jo rfl rfl (index_arr rfl rfl rfl rfl rfl (by omega) (by omega)) rfl rfl ?_ | refine jo rfl rfl (load_dsem rfl rfl rfl hkd) rfl rfl ?_)
   have hcnd : ((((w :: r).map sv).length : Int) != IntKind.i64.wrap (1 + (ByteArray.size ⟨kd.toArray⟩ : Int))) = !decide (r.length = kd.length) := by
    have e1 : ByteArray.size ⟨kd.toArray⟩ = kd.length := rfl
    rw [e1, wrap_id (by omega) (by omega), Bool.eq_iff_iff]
    simp
    omega
   rw [hcnd]
   unfold instrK
   cases hb : decide (r.length = kd.length) with
   | false =>
    simp only [Bool.not_false, cond_false]
    repeat (first | refine jS ?_ | refine jD ?_ | refine jB ?_)
    exact jR
   | true =>
    have hlen := of_decide_eq_true hb
    simp only [Bool.not_true, cond_true]
    repeat (first | refine jS ?_ | refine jD ?_ | refine jB ?_)
    let ok : Nat → Prop := fun i => i ≤ kd.length ∧ ∀ q, q < i → (rd m (kd.getD q 0) (r.getD q [])).2 = 0
    let vv : Nat → Nat → AVal := fun q i => iv (cond (decide (q < i)) (rd m (kd.getD q 0) (r.getD q [])).1 0)
    refine jloopI ok [1, 9, 7, 10, 36, 35, 4, 8] (fun i => [.mp 6, sv kd, .ptr 9 0, .ptr 10 0, .v (.int .i64 (i : Int)), .v (.int .i64 (kd.length : Int)), .ptr 7 0, .v (.int .i64 (k : Int))])
     (fun i => iH g m ++ [.box 98 [iv 0, iv 0, iv 0, iv 0], .box 199 opsC, .box 22 [.slf ((w :: r).map sv)], .box 138 [vv 0 i, vv 1 i, vv 2 i]]) (fun i => kd.length - i) 0 ⟨Nat.zero_le _, fun q hq => absurd hq (by omega)⟩ rfl rfl (fun i hi => ?_)
    obtain ⟨hi, hok⟩ := hi
    repeat (first | refine jS ?_ | refine jD ?_ | refine jB ?_)
    refine jc rfl rfl rfl (fun h => ?_) (fun h => ?_)
    ·have h := of_decide_eq_true h
     have hik : i < kd.length := by omega
     have hnx := idx_next hik (by omega)
     have hwd : at' (w :: r) (IntKind.i64.wrap ((i : Int) + 1)) = r.getD i [] := by
      rw [hnx]; simp [at']; rfl
     obtain ⟨c, hc⟩ : ∃ c, kd[i]? = some c := ⟨_, List.getElem?_eq_getElem hik⟩
     have hcb : (⟨kd.toArray⟩ : ByteArray)[((i : Int)).toNat]? = some c := by
      have hsz : ((i : Int)).toNat < (⟨kd.toArray⟩ : ByteArray).size := hik
      rw [getElem?_pos (⟨kd.toArray⟩ : ByteArray) _ hsz]
      rw [List.getElem?_eq_getElem hik] at hc
      injection hc with hc
      rw [← hc]; rfl
     have hcd : kd.getD i 0 = c := by simp [List.getD, hc]
     have hcm : c ∈ kd := List.mem_of_getElem? hc
     have hl1 : (0 : Int) ≤ IntKind.i64.wrap ((i : Int) + 1) := by rw [hnx]; omega
     have hl2 : IntKind.i64.wrap ((i : Int) + 1) < ((w :: r).length : Int) := by rw [hnx, List.length_cons]; omega
     have hwl2 : (at' (w :: r) (IntKind.i64.wrap ((i : Int) + 1))).length ≤ 1000000 := by
      rw [hwd]
      have hir : i < r.length := by omega
      have hm : r.getD i [] ∈ words s := by rw [hws]; refine List.mem_cons_of_mem _ ?_; simp [List.getD, hir]
      exact Nat.le_trans (splitK_len [32] 0 _ s _ hm) hs
     have hR := rdR_ok (at' (w :: r) (IntKind.i64.wrap ((i : Int) + 1)))
     have hN := rdN_ok g (at' (w :: r) (IntKind.i64.wrap ((i : Int) + 1))) hwl2
     have hT := rdT_ok m (at' (w :: r) (IntKind.i64.wrap ((i : Int) + 1)))
     have hks := rdF_keys 5
     rcases hkc c hcm with rfl | rfl | rfl
     ·have hf : MFind (rdF 5) (.int .u8 114) (some (.fn (.func 118) [] [])) := .inl ⟨rfl, rfl⟩
      repeat (first | refine jS ?_ | refine jB ?_)
      refine jdrawP [(0, .p), (1, .p), (2, .p), (3, .p), (4, .s), (5, .r), (6, .p), (7, .p), (8, .p), (9, .r), (10, .s), (11, .p), (12, .p), (13, .p), (14, .p), (15, .p)] (by decide) (by kernel_rfl) ?_
      repeat (first | refine jS ?_ | refine jD ?_ | refine jB ?_ | refine jo rfl rfl (index_str rfl rfl rfl rfl (Int.natCast_nonneg i) hcb) rfl rfl ?_ | refine jo rfl rfl (map_get rfl rfl rfl rfl rfl rfl rfl rfl rfl rfl hks hf rfl) rfl rfl ?_ | refine jo rfl rfl (index_at rfl rfl rfl rfl rfl rfl rfl rfl hl1 hl2) rfl rfl ?_ | refine jV hR ?_)
      have hrd : rd m (kd.getD i 0) (r.getD i []) = rdR (at' (w :: r) (IntKind.i64.wrap ((i : Int) + 1))) := by rw [hwd, hcd]; rfl
      generalize rdR (at' (w :: r) (IntKind.i64.wrap ((i : Int) + 1))) = p at *
      obtain ⟨p1, p2⟩ := p
      by_cases hp : p2 = 0
      ·subst hp
       have hok' : ok (i + 1) := ⟨by omega, fun q hq => by
        by_cases hqi : q = i
        ·subst hqi; rw [hrd]
        ·exact hok q (by omega)⟩
       have hi3 : i = 0 ∨ i = 1 ∨ i = 2 := by omega
       rcases hi3 with rfl | rfl | rfl
       all_goals (
        repeat (first | refine jS ?_ | refine jD ?_ | refine jB ?_ | refine jo rfl rfl (index_arr rfl rfl rfl rfl rfl (by omega) (by omega)) rfl rfl ?_)
       )
       all_goals refine jnextI (_ + 1) hok' ?_ ?_ ?_
       all_goals first | omega | rfl | (show _ = _; simp only [vv, hrd]; rfl)
      ·have hbad := rdAll_bad m kd r i hlen hik hok (by rw [hrd]; exact hp)
       rw [hrd] at hbad
       have hp' : (p2 != 0) = true := by simpa using hp
       rw [hbad, decide_eq_false hp]
       simp only [cond_false]
       simp only [hp']
       repeat (first | refine jS ?_ | refine jD ?_ | refine jB ?_)
       exact jR
     ·have hf : MFind (rdF 5) (.int .u8 110) (some (.fn (.func 120) [] [])) := .inr ⟨by simp, .inl ⟨rfl, rfl⟩⟩
      repeat (first | refine jS ?_ | refine jB ?_)
      refine jdrawP [(0, .p), (1, .p), (2, .p), (3, .p), (4, .s), (5, .r), (6, .p), (7, .p), (8, .p), (9, .r), (10, .s), (11, .p), (12, .p), (13, .p), (14, .p), (15, .p)] (by decide) (by kernel_rfl) ?_
      repeat (first | refine jS ?_ | refine jD ?_ | refine jB ?_ | refine jo rfl rfl (index_str rfl rfl rfl rfl (Int.natCast_nonneg i) hcb) rfl rfl ?_ | refine jo rfl rfl (map_get rfl rfl rfl rfl rfl rfl rfl rfl rfl rfl hks hf rfl) rfl rfl ?_ | refine jo rfl rfl (index_at rfl rfl rfl rfl rfl rfl rfl rfl hl1 hl2) rfl rfl ?_)
      refine jbs [0,1,2,3] hN rfl rfl rfl ⟨rfl, rfl, rfl, rfl, rfl, rfl⟩ rfl rfl rfl rfl ?_
      repeat (first | refine jS ?_ | refine jD ?_ | refine jB ?_)
      have hrd : rd m (kd.getD i 0) (r.getD i []) = rdN (at' (w :: r) (IntKind.i64.wrap ((i : Int) + 1))) := by rw [hwd, hcd]; rfl
      generalize rdN (at' (w :: r) (IntKind.i64.wrap ((i : Int) + 1))) = p at *
      obtain ⟨p1, p2⟩ := p
      by_cases hp : p2 = 0
      ·subst hp
       have hok' : ok (i + 1) := ⟨by omega, fun q hq => by
        by_cases hqi : q = i
        ·subst hqi; rw [hrd]
        ·exact hok q (by omega)⟩
       have hi3 : i = 0 ∨ i = 1 ∨ i = 2 := by omega
       rcases hi3 with rfl | rfl | rfl
       all_goals (
        repeat (first | refine jS ?_ | refine jD ?_ | refine jB ?_ | refine jo rfl rfl (index_arr rfl rfl rfl rfl rfl (by omega) (by omega)) rfl rfl ?_)
       )
       all_goals refine jnextI (_ + 1) hok' ?_ ?_ ?_
       all_goals first | omega | rfl | (show _ = _; simp only [vv, hrd]; rfl)
      ·have hbad := rdAll_bad m kd r i hlen hik hok (by rw [hrd]; exact hp)
       rw [hrd] at hbad
       have hp' : (p2 != 0) = true := by simpa using hp
       rw [hbad, decide_eq_false hp]
       simp only [cond_false]
       simp only [hp']
       repeat (first | refine jS ?_ | refine jD ?_ | refine jB ?_)
       exact jR
     ·have hf : MFind (rdF 5) (.int .u8 116) (some (.fn (.func 122) [] [.ptr 5 0])) := .inr ⟨by simp, .inr ⟨by simp, .inl ⟨rfl, rfl⟩⟩⟩
      repeat (first | refine jS ?_ | refine jB ?_)
      refine jdrawP [(0, .p), (1, .p), (2, .p), (3, .p), (4, .s), (5, .r), (6, .p), (7, .p), (8, .p), (9, .r), (10, .s), (11, .p), (12, .p), (13, .p), (14, .p), (15, .p)] (by decide) (by kernel_rfl) ?_
      repeat (first | refine jS ?_ | refine jD ?_ | refine jB ?_ | refine jo rfl rfl (index_str rfl rfl rfl rfl (Int.natCast_nonneg i) hcb) rfl rfl ?_ | refine jo rfl rfl (map_get rfl rfl rfl rfl rfl rfl rfl rfl rfl rfl hks hf rfl) rfl rfl ?_ | refine jo rfl rfl (index_at rfl rfl rfl rfl rfl rfl rfl rfl hl1 hl2) rfl rfl ?_)
      refine jbs [4,5] hT rfl rfl rfl ⟨rfl, rfl, rfl, rfl, rfl, rfl⟩ rfl rfl rfl rfl ?_
      repeat (first | refine jS ?_ | refine jD ?_ | refine jB ?_)
      have hrd : rd m (kd.getD i 0) (r.getD i []) = rdT m (at' (w :: r) (IntKind.i64.wrap ((i : Int) + 1))) := by rw [hwd, hcd]; rfl
      generalize rdT m (at' (w :: r) (IntKind.i64.wrap ((i : Int) + 1))) = p at *
      obtain ⟨p1, p2⟩ := p
      by_cases hp : p2 = 0
      ·subst hp
       have hok' : ok (i + 1) := ⟨by omega, fun q hq => by
        by_cases hqi : q = i
        ·subst hqi; rw [hrd]
        ·exact hok q (by omega)⟩
       have hi3 : i = 0 ∨ i = 1 ∨ i = 2 := by omega
       rcases hi3 with rfl | rfl | rfl
       all_goals (
        repeat (first | refine jS ?_ | refine jD ?_ | refine jB ?_ | refine jo rfl rfl (index_arr rfl rfl rfl rfl rfl (by omega) (by omega)) rfl rfl ?_)
       )
       all_goals refine jnextI (_ + 1) hok' ?_ ?_ ?_
       all_goals first | omega | rfl | (show _ = _; simp only [vv, hrd]; rfl)
      ·have hbad := rdAll_bad m kd r i hlen hik hok (by rw [hrd]; exact hp)
       rw [hrd] at hbad
       have hp' : (p2 != 0) = true := by simpa using hp
       rw [hbad, decide_eq_false hp]
       simp only [cond_false]
       simp only [hp']
       repeat (first | refine jS ?_ | refine jD ?_ | refine jB ?_)
       exact jR
    ·have h := of_decide_eq_false h
     have hi' : i = kd.length := by omega
     subst hi'
     obtain ⟨k1, k2⟩ := rdAll_ok m kd r hlen hok
     have hq : ∀ q, (rdAll m kd r).1.getD q 0 = cond (decide (q < kd.length)) (rd m (kd.getD q 0) (r.getD q [])).1 0 := by
      intro q
      by_cases hql : q < kd.length
      ·rw [k2 q hql, decide_eq_true hql]; rfl
      ·rw [decide_eq_false hql]
       have := rdAll_len m kd r
       simp [List.getD, List.getElem?_eq_none (show (rdAll m kd r).1.length ≤ q by omega)]
     rw [k1, hq 0, hq 1, hq 2]
     repeat (first | refine jS ?_ | refine jD ?_ | refine jB ?_ | refine jo rfl rfl (index_arr rfl rfl rfl rfl rfl (by omega) (by omega)) rfl rfl ?_)
     exact jR
end Go.AL
end
section
set_option maxRecDepth 100000
namespace Go.AL
open Go Go.Proofs
attribute [local irreducible] J
def cnt (m : Mp) (s : Bs) : Int := (m.lookup s).getD 0
def bump : Mp → Bs → Mp
 | [], s => [(s, 1)]
 | (k, n) :: m, s => cond (decide (k = s)) ((s, n + 1) :: m) ((k, n) :: bump m s)
theorem bump_put : ∀ (m : Mp) (s : Bs), MPut (vals (encM m)) (S s) (iv (cnt m s + 1)) (vals (encM (bump m s)))
 | [], s => rfl
 | (k, n) :: m, s => by
  by_cases h : k = s
  ·subst h
   have e1 : bump ((k, n) :: m) k = (k, n + 1) :: m := by simp [bump]
   have e2 : cnt ((k, n) :: m) k = n := by simp [cnt, List.lookup]
   rw [e1, e2]
   exact .inl ⟨rfl, rfl⟩
  ·have e1 : bump ((k, n) :: m) s = (k, n) :: bump m s := by simp [bump, h]
   have e2 : cnt ((k, n) :: m) s = cnt m s := by
    have : (s == k) = false := by simp; exact fun e => h e.symm
    simp [cnt, List.lookup, this]
   rw [e1, e2]
   exact .inr ⟨fun e => h (S_inj e), _, rfl, bump_put m s⟩
theorem bump_cnt : ∀ (m : Mp) (s t : Bs), cnt (bump m s) t = cond (decide (s = t)) (cnt m s + 1) (cnt m t)
 | [], s, t => by
  by_cases h : s = t
  ·subst h; simp [bump, cnt, List.lookup]
  ·have : (t == s) = false := by simp; exact fun e => h e.symm
   simp [bump, cnt, List.lookup, this, h]
 | (k, n) :: m, s, t => by
  have ih := bump_cnt m s t
  by_cases h : k = s
  ·subst h
   by_cases h2 : k = t
   ·subst h2; simp [bump, cnt, List.lookup]
   ·have : (t == k) = false := by simp; exact fun e => h2 e.symm
    simp [bump, cnt, List.lookup, this, h2]
  ·have hs : (s == k) = false := by simp; exact fun e => h e.symm
   have e1 : bump ((k, n) :: m) s = (k, n) :: bump m s := by simp [bump, h]
   rw [e1]
   by_cases h2 : k = t
   ·subst h2
    have h3 : ¬ s = k := fun e => h e.symm
    simp [cnt, List.lookup, h3]
   ·have ht : (t == k) = false := by simp; exact fun e => h2 e.symm
    have e2 : ∀ mm : Mp, cnt ((k, n) :: mm) t = cnt mm t := fun mm => by simp [cnt, List.lookup, ht]
    have e3 : cnt ((k, n) :: m) s = cnt m s := by simp [cnt, List.lookup, hs]
    rw [e2, e2, e3]; exact ih
theorem bump_lookup : ∀ (m : Mp) (s : Bs), (bump m s).lookup s = some (cnt m s + 1)
 | [], s => by simp [bump, cnt, List.lookup]
 | (k, n) :: m, s => by
  by_cases h : k = s
  ·subst h; simp [bump, cnt, List.lookup]
  ·have hs : (s == k) = false := by simp; exact fun e => h e.symm
   have ih := bump_lookup m s
   simp [bump, cnt, List.lookup, h, hs]
   simpa [cnt] using ih
theorem cnt_val (m : Mp) (s : Bs) : (cond false (.tup [((m.lookup s).map iv).getD (zeroA ty3), bv ((m.lookup s).map iv).isSome]) (((m.lookup s).map iv).getD (zeroA ty3))) = iv (cnt m s) := by
 unfold cnt
 cases m.lookup s <;> rfl
def lineE (m met : Mp) (n : Nat) (c : Bs) : Int :=
 cond (!ended c || (isLab (bare c) && !nameP (labName (bare c)))) 12
  (cond (isLab (bare c) && decide (cnt met (bare c) + 1 > 1)) 11
   (cond (isLab (bare c)) 0 (cond (decide ((instrP m (bare c)).2 = 0)) (cond (decide (n = 1000)) 2 0) (instrP m (bare c)).2)))
def lineC (m : Mp) (cd : List Ins) (c : Bs) : List Ins := cond (isLab (bare c)) cd (cd ++ [(instrP m (bare c)).1])
def pSt (m : Mp) (cs : List Bs) (k : Nat) : Mp × List Ins := (cs.take k).foldl (fun st c => (bump st.1 (bare c), lineC m st.2 c)) ([], [])
def pE (m : Mp) (cs : List Bs) (k : Nat) : Int := match cs[k]? with | some c => lineE m (pSt m cs k).1 (pSt m cs k).2.length c | none => 0
theorem pSt_succ {m : Mp} {cs : List Bs} {k : Nat} (h : k < cs.length) : pSt m cs (k + 1) = (bump (pSt m cs k).1 (bare cs[k]), lineC m (pSt m cs k).2 cs[k]) := by
 unfold pSt
 rw [List.take_succ_eq_append_getElem h, List.foldl_append]; rfl
def bad1 (e : Nat → Int) : Nat → Option Nat
 | 0 => none
 | n + 1 => match bad1 e n with | some k => some k | none => cond (decide (e n = 0)) none (some n)
def parseP (s : Bs) : List Ins × Int × Int :=
  cond (decide (s.length > 40000)) ([], 0, 2)
    (match bad1 (pE (labels s) (chunks s)) (chunks s).length with
     | some k => ([], (k : Int) + 1, pE (labels s) (chunks s) k)
     | none => ((pSt (labels s) (chunks s) (chunks s).length).2, 0, 0))
theorem bad1_none {e : Nat → Int} : ∀ {n : Nat}, (∀ q, q < n → e q = 0) → bad1 e n = none
 | 0, _ => rfl
 | n + 1, h => by simp [bad1, bad1_none (n := n) fun q hq => h q (by omega), h n (by omega)]
theorem bad1_some {e : Nat → Int} {k : Nat} (h : ∀ q, q < k → e q = 0) (hk : e k ≠ 0) : ∀ {n : Nat}, k < n → bad1 e n = some k
 | 0, hn => by omega
 | n + 1, hn => by
  by_cases hkn : k = n
  ·subst hkn
   simp [bad1, bad1_none h, hk]
  ·simp [bad1, bad1_some h hk (n := n) (by omega)]
theorem pSt_le (m : Mp) (cs : List Bs) : ∀ k, k ≤ cs.length → (∀ t, 0 ≤ cnt (pSt m cs k).1 t ∧ cnt (pSt m cs k).1 t ≤ k) ∧ (pSt m cs k).2.length ≤ k
 | 0, _ => ⟨fun t => ⟨Int.le_refl _, Int.le_refl _⟩, Nat.le_refl _⟩
 | k + 1, hk => by
  obtain ⟨i1, i2⟩ := pSt_le m cs k (by omega)
  rw [pSt_succ (show k < cs.length by omega)]
  refine ⟨fun t => ?_, ?_⟩
  ·rw [bump_cnt]
   have a := i1 (bare cs[k]); have b := i1 t
   cases decide (bare cs[k] = t) <;> simp <;> omega
  ·unfold lineC
   cases isLab (bare cs[k]) <;> simp <;> omega
theorem fin_arr {H Ho : List AObj} {n j g es : Nat} {t : TypeId} {xs rest rest' : List AVal} (hn : kap n [] j = none) (hj : H[j]? = some (.arr g t es xs)) (hr : finL (kap n []) H true rest = some rest') (ht : finOs (kap n []) H true (H.take n) = some Ho) :
  finish n [] true H (.tup (.arr j g :: rest)) = some (.tup (.sl xs :: rest'), Ho) := by
 simp [finish, finV, finL, hn, hj, hr, picks, ht]
def ord23 : List (List Nat) := [[0,1,2,3,4],[0,2,1,3,4],[0,2,3,1,4],[1,0,2,3,4],[1,2,0,3,4],[2,0,1,3,4],[2,0,3,1,4],[2,1,0,3,4]]
def encIs (l : List Ins) : AVal := .sl (l.map encIns)
def pH (g : Gl) (s : Bs) (l : Nat) (c : LoopS) (k : Nat) : List AObj :=
 gls g ++ [.box 26 [.slf []], .box 3 [iv 0], .box 34 [iv 0], .vmap (encM (labels s)), .box 139 [.mp 7], .map (rdF 8), .box 141 [.mp 9],
  .vmap (encM (pSt (labels s) (chunks s) k).1), .box 139 [.mp 11], .box 26 [.arr 16 ((pSt (labels s) (chunks s) k).2.length + 1)], .box 3 [iv k], .box 9 [sv (restAt s k)],
  .arr ((pSt (labels s) (chunks s) k).2.length + 1) 98 4 ((pSt (labels s) (chunks s) k).2.map encIns), .loop l .ready none c [.ptr 4 0, .ptr 5 0, .ptr 6 0, .ptr 10 0, .ptr 12 0, .ptr 13 0, .ptr 14 0]]
theorem parse_ok (g : Gl) (s : Bs) (hs : s.length ≤ 1000000) : ACalls Tryz.prog 41 [sv s] (gls g) (one (.tup [encIs (parseP s).1, iv (parseP s).2.1, iv (parseP s).2.2]) (gls g)) := by
 have hl := labels_ok s hs
 have hr := readers_ok (labels s)
 have hln := lines_ok s
 unfold parseP
 have hsz : ((ByteArray.size ⟨s.toArray⟩ : Int) > 40000) = (s.length > 40000) := by
  rw [show ByteArray.size ⟨s.toArray⟩ = s.length from rfl]; apply propext; omega
 by_cases h4 : s.length > 40000
 ·rw [decide_eq_true h4]
  have hd : decide ((ByteArray.size ⟨s.toArray⟩ : Int) > 40000) = true := decide_eq_true (hsz ▸ h4)
  refine jcalls Tryz.func41 rfl (by kernel_rfl) Tryz.ntmps41 rfl rfl (fun w0 β0 ext hβ => ?_)
  repeat (first | refine jS ?_ | refine jD ?_ | refine jB ?_)
  rw [hd]
  repeat (first | refine jS ?_ | refine jD ?_ | refine jB ?_)
  exact jR
 ·rw [decide_eq_false h4]
  have hd : decide ((ByteArray.size ⟨s.toArray⟩ : Int) > 40000) = false := decide_eq_false (hsz ▸ h4)
  refine jcalls Tryz.func41 rfl (by kernel_rfl) Tryz.ntmps41 rfl rfl (fun w0 β0 ext hβ => ?_)
  repeat (first | refine jS ?_ | refine jD ?_ | refine jB ?_)
  rw [hd]
  repeat (first | refine jS ?_ | refine jD ?_ | refine jB ?_)
  refine jb [] hl rfl rfl rfl ⟨rfl, rfl, rfl, rfl, rfl, rfl⟩ rfl rfl rfl rfl ?_
  repeat (first | refine jS ?_ | refine jD ?_ | refine jB ?_)
  refine jb [7] hr rfl rfl rfl ⟨rfl, rfl, rfl, rfl, rfl, rfl⟩ rfl rfl rfl rfl ?_
  repeat (first | refine jS ?_ | refine jD ?_ | refine jB ?_ | refine jo rfl rfl (map_newV) rfl rfl ?_)
  refine jb [] hln rfl rfl rfl ⟨rfl, rfl, rfl, rfl, rfl, rfl⟩ rfl rfl rfl rfl ?_
  repeat (first | refine jS ?_ | refine jD ?_ | refine jB ?_)
  refine jadB 13 0 98 4 rfl rfl rfl rfl ?_
  refine jrange [2, 3, 4, 6, 7, 8, 9] rfl rfl rfl (fun l c c1 c2 c3 c4 c5 => ?_)
  have hc := lines1_ok l 15 s hs (pH g s l c) (fun k => ∀ q, q < k → pE (labels s) (chunks s) q = 0) (fun q h => absurd h (by omega))
   (fun H' => ∃ k, k < (chunks s).length ∧ (∀ q, q < k → pE (labels s) (chunks s) q = 0) ∧ pE (labels s) (chunks s) k ≠ 0 ∧ ∃ o7 o8 o9 o10 o11 o12 o13 o14 o15 o16, H' = gls g ++ [.box 26 [.slf []], .box 3 [iv (IntKind.i64.wrap ((k : Int) + 1))], .box 34 [iv (pE (labels s) (chunks s) k)], o7, o8, o9, o10, o11, o12, o13, o14, o15, o16, .loop l .done (some .ret) c [.ptr 4 0, .ptr 5 0, .ptr 6 0, .ptr 10 0, .ptr 12 0, .ptr 13 0, .ptr 14 0]])
   (fun k _ => rfl) (fun k hk hok => ?_)
  ·refine ⟨_, hc, fun r H' hres => ?_⟩
   obtain ⟨rfl, ⟨rfl, hok⟩ | ⟨k, hk, hok, hbad, o7, o8, o9, o10, o11, o12, o13, o14, o15, o16, rfl⟩⟩ := hres
   ·refine ⟨_, .ready, none, _, .normal, rfl, rfl, by decide, rfl, ?_⟩
    rw [bad1_none hok]
    repeat (first | refine jS ?_ | refine jD ?_ | refine jB ?_)
    exact jr rfl (fin_arr rfl rfl rfl rfl) rfl rfl
   ·refine ⟨_, .done, some .ret, _, .ret, rfl, rfl, by decide, rfl, ?_⟩
    rw [bad1_some hok hbad hk, wrap_id (n := (k : Int) + 1) (by have := chunks_len s; omega) (by have := chunks_len s; omega)]
    repeat (first | refine jS ?_ | refine jD ?_ | refine jB ?_)
    exact jret [] true rfl rfl rfl ⟨rfl, rfl⟩
  ·refine jround (ts := [2, 3, 4, 6, 7, 8, 9]) c1 c2 c3 c4 c5 (j := 17) rfl rfl rfl (fun w1 β1 ext1 hβ1 => ?_)
   clear c1 c2 c3 c4 c5
   have hcl := chunks_len s
   have hkl := chunk_len s hk
   have hst := pSt_succ (m := labels s) hk
   have hle := pSt_le (labels s) (chunks s) k (by omega)
   have hE : pE (labels s) (chunks s) k = lineE (labels s) (pSt (labels s) (chunks s) k).1 (pSt (labels s) (chunks s) k).2.length (chunks s)[k] := by simp [pE, List.getElem?_eq_getElem hk]
   have hnx := idx_next hk (by omega)
   have hbl := bare_len (chunks s)[k]
   have hcu := cutSuffix_ok ((chunks s)[k]) [10] (by omega)
   have hcu2 := cutSuffix_ok (bare (chunks s)[k]) [58] (by omega)
   have hnm := isName_ok (labName (bare (chunks s)[k]))
   have hins := instr_ok g (labels s) (bare (chunks s)[k]) (by omega)
   have hnext : pE (labels s) (chunks s) k = 0 → ∀ q, q < k + 1 → pE (labels s) (chunks s) q = 0 := fun h0 q hq => by
    by_cases hqk : q = k
    ·subst hqk; exact h0
    ·exact hok q (by omega)
   have hpk : pH g s l c (k + 1) = gls g ++ [.box 26 [.slf []], .box 3 [iv 0], .box 34 [iv 0], .vmap (encM (labels s)), .box 139 [.mp 7], .map (rdF 8), .box 141 [.mp 9],
     .vmap (encM (bump (pSt (labels s) (chunks s) k).1 (bare (chunks s)[k]))), .box 139 [.mp 11], .box 26 [.arr 16 ((lineC (labels s) (pSt (labels s) (chunks s) k).2 (chunks s)[k]).length + 1)], .box 3 [iv (IntKind.i64.wrap ((k : Int) + 1))], .box 9 [sv (restAt s (k + 1))],
     .arr ((lineC (labels s) (pSt (labels s) (chunks s) k).2 (chunks s)[k]).length + 1) 98 4 ((lineC (labels s) (pSt (labels s) (chunks s) k).2 (chunks s)[k]).map encIns), .loop l .ready none c [.ptr 4 0, .ptr 5 0, .ptr 6 0, .ptr 10 0, .ptr 12 0, .ptr 13 0, .ptr 14 0]] := by
    unfold pH
    rw [hst, hnx]
   rw [hpk]
   unfold pH
   rw [hE] at hnext
   generalize hstk : pSt (labels s) (chunks s) k = st at *
   obtain ⟨met, cd⟩ := st
   have hf := encM_find met (bare (chunks s)[k])
   have hks := encM_keys met
   have hpu := bump_put met (bare (chunks s)[k])
   have hval := cnt_val met (bare (chunks s)[k])
   have hf2 := encM_find (bump met (bare (chunks s)[k])) (bare (chunks s)[k])
   have hks2 := encM_keys (bump met (bare (chunks s)[k]))
   rw [bump_lookup] at hf2
   have hcn := hle.1 (bare (chunks s)[k])
   simp only at hcn
   have hadd : IntKind.i64.wrap (cnt met (bare (chunks s)[k]) + 1) = cnt met (bare (chunks s)[k]) + 1 := wrap_id (by omega) (by omega)
   rw [← hadd] at hpu
   clear hst hl hr hln hstk
   rw [show Lib.trimSuffix (chunks s)[k] [10] = bare (chunks s)[k] from rfl] at hcu
   rw [show Lib.trimSuffix (bare (chunks s)[k]) [58] = labName (bare (chunks s)[k]) from rfl] at hcu2
   unfold lineC
   unfold lineE ended at hE hnext
   unfold isLab at hE hnext ⊢
   generalize restAt s (k + 1) = rr
   generalize restAt s k = rk
   generalize Lib.hasSuffix (chunks s)[k] [10] = e at *
   generalize Lib.hasSuffix (bare (chunks s)[k]) [58] = lab at *
   generalize nameP (labName (bare (chunks s)[k])) = nm at *
   generalize labName (bare (chunks s)[k]) = lname at *
   generalize instrP (labels s) (bare (chunks s)[k]) = ip at *
   obtain ⟨ins, bad⟩ := ip
   simp only at hE hnext hins
   unfold sv bv at hcu hcu2 hnm
   generalize bare (chunks s)[k] = b at *
   generalize (chunks s)[k] = ch at *
   repeat (first | refine jS ?_ | refine jD ?_ | refine jB ?_)
   refine jlp ⟨rfl, ?_⟩
   repeat (first | refine jS ?_ | refine jD ?_ | refine jB ?_ | refine jV hcu ?_ | refine jV hcu2 ?_ | refine jo rfl rfl (map_get rfl rfl rfl rfl rfl rfl rfl rfl rfl trivial hks hf hval) rfl rfl ?_ | refine jo rfl rfl (map_put (mo' := .vmap (encM (bump met b))) (.inl rfl) rfl rfl rfl rfl rfl rfl rfl rfl rfl trivial hks hpu rfl) rfl rfl ?_)
   have hcd : cd.length ≤ k := hle.2
   cases e
   ·simp only [Bool.not_false, Bool.true_or, cond_true] at hE
    repeat (first | refine jS ?_ | refine jB ?_)
    refine jord2 (L1 := [0, 1, 2, 3]) (L2 := [1, 0, 2, 3]) (by kernel_rfl) rfl rfl ?_ ?_
    all_goals (
     repeat (first | refine jS ?_ | refine jB ?_)
    )
    all_goals refine jrendW false (some .ret) rfl rfl rfl rfl (.inr ⟨rfl, k, hk, hok, by rw [hE]; decide, ?_⟩)
    all_goals rw [hE]
    all_goals exact ⟨_, _, _, _, _, _, _, _, _, _, rfl⟩
   ·cases lab
    ·simp only [Bool.not_true, Bool.false_or, Bool.false_and, cond_false] at hE hnext
     repeat (first | refine jS ?_ | refine jD ?_ | refine jB ?_)
     refine jb [0,1,2,3,7,8,9] hins rfl rfl rfl ⟨rfl, rfl, rfl, rfl, rfl, rfl⟩ rfl rfl rfl rfl ?_
     repeat (first | refine jS ?_ | refine jD ?_ | refine jB ?_)
     by_cases hb0 : bad = 0
     ·subst hb0
      simp only [decide_true, cond_true] at hE hnext
      repeat (first | refine jS ?_ | refine jB ?_ | refine jo rfl rfl (len_arr rfl rfl rfl rfl) rfl rfl ?_)
      have hq : (((cd.map encIns).length : Int) == 1000) = decide (cd.length = 1000) := by
       rw [List.length_map, Bool.eq_iff_iff]; simp; omega
      cases h1000 : decide (cd.length = 1000) with
      | true =>
       rw [h1000] at hE hq
       simp only [cond_true] at hE
       rw [hq]
       repeat (first | refine jS ?_ | refine jB ?_)
       refine jorders (Ls := ord23) (by kernel_rfl) (fun L hm => ?_)
       simp only [ord23, List.mem_cons, List.not_mem_nil, or_false] at hm
       rcases hm with rfl | rfl | rfl | rfl | rfl | rfl | rfl | rfl
       all_goals (
        repeat (first | refine jS ?_ | refine jB ?_)
       )
       all_goals refine jrendW false (some .ret) rfl rfl rfl rfl (.inr ⟨rfl, k, hk, hok, by rw [hE]; decide, ?_⟩)
       all_goals rw [hE]
       all_goals exact ⟨_, _, _, _, _, _, _, _, _, _, rfl⟩
      | false =>
       rw [h1000] at hnext hq
       rw [hq]
       repeat (first | refine jo rfl rfl (append_enc (enc := encIns) (l := cd) ins rfl rfl rfl rfl rfl rfl rfl rfl rfl rfl (fun _ => ⟨rfl, rfl⟩) rfl (by omega) rfl rfl) rfl rfl ?_ | refine jS ?_ | refine jB ?_)
       refine jrendW false none rfl rfl rfl rfl (.inl ⟨rfl, ?_, hnext rfl⟩)
       have e1 : (cond false cd (cd ++ [ins])).length = cd.length + 1 := by simp
       simp only [cond_false, List.length_append]
       rfl
     ·have e0 : (bad == 0) = false := by simpa using hb0
      have e1 : (bad != 0) = true := by simpa using hb0
      rw [decide_eq_false hb0] at hE
      simp only [cond_false] at hE
      rw [e0]
      repeat (first | refine jS ?_ | refine jD ?_ | refine jB ?_)
      rw [e1]
      repeat (first | refine jS ?_ | refine jB ?_)
      refine jorders (Ls := ord23) (by kernel_rfl) (fun L hm => ?_)
      simp only [ord23, List.mem_cons, List.not_mem_nil, or_false] at hm
      rcases hm with rfl | rfl | rfl | rfl | rfl | rfl | rfl | rfl
      all_goals (
       repeat (first | refine jS ?_ | refine jB ?_)
      )
      all_goals refine jrendW false (some .ret) rfl rfl rfl rfl (.inr ⟨rfl, k, hk, hok, by rw [hE]; exact hb0, ?_⟩)
      all_goals rw [hE]
      all_goals exact ⟨_, _, _, _, _, _, _, _, _, _, rfl⟩
    ·cases nm
     ·simp only [Bool.not_true, Bool.not_false, Bool.false_or, Bool.true_and, Bool.and_self, cond_true] at hE
      repeat (first | refine jS ?_ | refine jB ?_ | refine jV hnm ?_)
      refine jord2 (L1 := [0, 1, 2, 3]) (L2 := [1, 0, 2, 3]) (by kernel_rfl) rfl rfl ?_ ?_
      all_goals (
       repeat (first | refine jS ?_ | refine jB ?_)
      )
      all_goals refine jrendW false (some .ret) rfl rfl rfl rfl (.inr ⟨rfl, k, hk, hok, by rw [hE]; decide, ?_⟩)
      all_goals rw [hE]
      all_goals exact ⟨_, _, _, _, _, _, _, _, _, _, rfl⟩
     ·simp only [Bool.not_true, Bool.false_or, Bool.true_and, Bool.and_false, cond_false, cond_true] at hE hnext
      repeat (first | refine jS ?_ | refine jD ?_ | refine jB ?_ | refine jV hnm ?_ | refine jo rfl rfl (map_get rfl rfl rfl rfl rfl rfl rfl rfl rfl trivial hks2 hf2 rfl) rfl rfl ?_)
      cases hc1 : decide (cnt met b + 1 > 1) with
      | true =>
       rw [hc1] at hE
       simp only [cond_true] at hE
       repeat (first | refine jS ?_ | refine jB ?_)
       refine jord2 (L1 := [0, 1, 2, 3]) (L2 := [1, 0, 2, 3]) (by kernel_rfl) rfl rfl ?_ ?_
       all_goals (
        repeat (first | refine jS ?_ | refine jB ?_)
       )
       all_goals refine jrendW false (some .ret) rfl rfl rfl rfl (.inr ⟨rfl, k, hk, hok, by rw [hE]; decide, ?_⟩)
       all_goals rw [hE]
       all_goals exact ⟨_, _, _, _, _, _, _, _, _, _, rfl⟩
      | false =>
       rw [hc1] at hnext
       repeat (first | refine jS ?_ | refine jD ?_ | refine jB ?_)
       exact jrendW false none rfl rfl rfl rfl (.inl ⟨rfl, rfl, hnext rfl⟩)
end Go.AL
end
section
set_option maxRecDepth 100000
namespace Go.AL
open Go Go.Proofs
attribute [local irreducible] J
theorem u8_eq (d c : UInt8) : ((d.toNat : Int) == (c.toNat : Int)) = decide (d = c) := by
 rw [Bool.eq_iff_iff]
 simp
 exact ⟨fun h => UInt8.toNat_inj.1 (by omega), fun h => by rw [h]⟩
theorem str_at {s : Bs} {i : Nat} {c : UInt8} (h : s[i]? = some c) : (⟨s.toArray⟩ : ByteArray)[((i : Int)).toNat]? = some c := by
 obtain ⟨hi, hc⟩ := List.getElem?_eq_some_iff.1 h
 have hsz : ((i : Int)).toNat < (⟨s.toArray⟩ : ByteArray).size := hi
 rw [getElem?_pos (⟨s.toArray⟩ : ByteArray) _ hsz]
 rw [← hc]; rfl
section
variable {P : Program} [T : TyTab P] {F : Fr} {H : List AObj} {dst : Option Tmp} {t : TypeId} {x o o' : Operand} {type : TypeId} {pos : String} {after : Array Edge} {guard : Option (Nat × Bool)} {s : Bs} {r' : TyRow}
theorem cutB {n1 n2 : Int} (a b : Nat) (hx : ev F x = some (sv s)) (ho : ev F o = some (.v (.int .i64 n1))) (ho' : ev F o' = some (.v (.int .i64 n2))) (ht : tfind T.tab t = some r') (hd : r'.d = .string) (hn1 : n1 = a) (hn2 : n2 = b) (hab : a ≤ b) (hb : b ≤ s.length) :
  DSem P .p ⟨dst, .slice t x (some o) (some o') none, type, pos, after, guard⟩ F H (sv ((s.take b).drop a)) H := by
 have := cut_str (P := P) (dst := dst) (type := type) (pos := pos) (after := after) (guard := guard) (H := H) (lo := some o) (hi := some o') (l := n1) (h := n2) hx ⟨.i64, ho⟩ ⟨.i64, ho'⟩ ht hd (by omega) (by omega) (by simp [ByteArray.size]; omega)
 rw [hn1, hn2] at this
 have e : AVal.v (.string ((⟨s.toArray⟩ : ByteArray).extract a b)) = sv ((s.take b).drop a) := by
  unfold sv S
  congr 2
  apply ByteArray.ext
  apply Array.ext'
  simp [ByteArray.data_extract, List.drop_take]
 rw [← e]
 simpa [hn1, hn2] using this
end
def spSt (c : UInt8) (s : Bs) : Nat → List Bs × Nat
 | 0 => ([], 0)
 | i + 1 => cond (decide (s.getD i 0 = c)) ((spSt c s i).1 ++ [(s.take i).drop (spSt c s i).2], i + 1) (spSt c s i)
def rsplit (c : UInt8) (s : Bs) : List Bs := (spSt c s s.length).1 ++ [s.drop (spSt c s s.length).2]
theorem spSt_le (c : UInt8) (s : Bs) : ∀ i, (spSt c s i).2 ≤ i ∧ (spSt c s i).1.length ≤ i
 | 0 => ⟨Nat.le_refl _, Nat.le_refl _⟩
 | i + 1 => by
  have ih := spSt_le c s i
  unfold spSt
  cases decide (s.getD i 0 = c) <;> simp <;> omega
theorem rsplit_ok (s : Bs) (c : UInt8) (hs : s.length ≤ 900000) : ACalls Tryz.prog 45 [sv s, .v (.int .u8 c.toNat)] [] (one (.sl ((rsplit c s).map sv)) []) := by
 refine jcalls Tryz.func45 rfl (by kernel_rfl) Tryz.ntmps45 rfl rfl (fun w0 β0 ext hβ => ?_)
 repeat (first | refine jS ?_ | refine jD ?_)
 refine jbo rfl rfl rfl rfl rfl rfl rfl rfl ?_
 repeat (first | refine jS ?_ | refine jD ?_ | refine jB ?_)
 refine jloopI (fun i : Nat => i ≤ s.length) [0, 1, 5, 6, 7] (fun i => [sv s, .v (.int .u8 c.toNat), .arr 0 ((spSt c s i).1.length + 1), .v (.int .i64 ((spSt c s i).2 : Int)), .v (.int .i64 (i : Int))])
  (fun i => [.arr ((spSt c s i).1.length + 1) 9 ty9.size ((spSt c s i).1.map sv)]) (fun i => s.length - i) 0 (Nat.zero_le _) rfl rfl (fun i hi => ?_)
 have hle := spSt_le c s i
 have hl : ByteArray.size ⟨s.toArray⟩ = s.length := rfl
 repeat (first | refine jS ?_ | refine jD ?_ | refine jB ?_)
 refine jc rfl rfl rfl (fun h => ?_) (fun h => ?_)
 ·have h := of_decide_eq_true h
  have hi2 : i < s.length := by rw [hl] at h; omega
  obtain ⟨d, hd⟩ : ∃ d, s[i]? = some d := ⟨_, List.getElem?_eq_getElem hi2⟩
  have hdd : s.getD i 0 = d := by simp [List.getD, hd]
  have hat := str_at hd
  have hnx := idx_next hi2 (by omega)
  have hs1 : spSt c s (i + 1) = cond (decide (s.getD i 0 = c)) ((spSt c s i).1 ++ [(s.take i).drop (spSt c s i).2], i + 1) (spSt c s i) := rfl
  rw [hdd] at hs1
  have he : ((d.toNat : Int) == (c.toNat : Int)) = decide (d = c) := by
   rw [Bool.eq_iff_iff]
   simp
   exact ⟨fun h => UInt8.toNat_inj.1 (by omega), fun h => by rw [h]⟩
  generalize spSt c s i = st at *
  obtain ⟨o, f⟩ := st
  simp only at hle
  repeat (first | refine jS ?_ | refine jD ?_ | refine jB ?_ | refine jo rfl rfl (index_str rfl rfl rfl rfl (Int.natCast_nonneg i) hat) rfl rfl ?_)
  rw [he]
  cases hc : decide (d = c) with
  | true =>
   rw [hc] at hs1
   repeat (first | refine jo rfl rfl (append_enc (enc := sv) (l := o) ((s.take i).drop f) rfl rfl rfl rfl rfl rfl rfl rfl rfl rfl (fun _ => ⟨rfl, rfl⟩) rfl (by omega) rfl rfl) rfl rfl ?_ | refine jS ?_ | refine jD ?_ | refine jB ?_ | refine jo rfl rfl (cutB f i rfl rfl rfl rfl rfl rfl rfl hle.1 (by omega)) rfl rfl ?_)
   refine jnextI (i + 1) (by omega) ?_ ?_ (by omega)
   ·rw [hs1]
    simp only [cond_true, List.length_append, hnx]
    rfl
   ·rw [hs1]
    simp only [cond_true, List.length_append]
    rfl
  | false =>
   rw [hc] at hs1
   repeat (first | refine jS ?_ | refine jD ?_ | refine jB ?_)
   refine jnextI (i + 1) (by omega) ?_ ?_ (by omega)
   ·rw [hs1, ← hnx]; rfl
   ·rw [hs1]; rfl
 ·have h := of_decide_eq_false h
  have hi2 : i = s.length := by rw [hl] at h; omega
  subst hi2
  unfold rsplit
  generalize spSt c s s.length = st at *
  obtain ⟨o, f⟩ := st
  simp only at hle
  repeat (first | refine jo rfl rfl (append_enc (enc := sv) (l := o) (s.drop f) rfl rfl rfl rfl rfl rfl rfl rfl rfl rfl (fun _ => ⟨rfl, rfl⟩) rfl (by omega) rfl rfl) rfl rfl ?_ | refine jS ?_ | refine jD ?_ | refine jB ?_ | refine jo rfl rfl (cutL f rfl rfl rfl rfl rfl hle.1) rfl rfl ?_)
  exact jr rfl (finish0_arr rfl) rfl rfl
def rlab (s : Bs) : Bool := match s.getLast? with | some c => decide (c = 58) | none => false
theorem rlab_ok (s : Bs) (hs : s.length ≤ 1000000) : ACalls Tryz.prog 46 [sv s] [] (one (bv (rlab s)) []) := by
 have hl : ByteArray.size ⟨s.toArray⟩ = s.length := rfl
 unfold rlab
 cases hg : s.getLast? with
 | none =>
  have h0 : s = [] := List.getLast?_eq_none_iff.1 hg
  subst h0
  unfold sv S
  refine jcalls Tryz.func46 rfl (by kernel_rfl) Tryz.ntmps46 rfl rfl (fun w0 β0 ext hβ => ?_)
  repeat (first | refine jS ?_ | refine jD ?_ | refine jB ?_)
  exact jR
 | some c =>
  have hne : s ≠ [] := fun h => by subst h; simp at hg
  have hpos : 0 < s.length := by cases s with | nil => exact absurd rfl hne | cons => simp
  have hd : s[s.length - 1]? = some c := by rw [← hg, List.getLast?_eq_getElem?]
  have hgt : decide ((ByteArray.size ⟨s.toArray⟩ : Int) > 0) = true := decide_eq_true (by rw [hl]; omega)
  have hw : IntKind.i64.wrap ((ByteArray.size ⟨s.toArray⟩ : Int) - 1) = ((s.length - 1 : Nat) : Int) := by rw [hl, wrap_id (by omega) (by omega)]; omega
  have hat := str_at hd
  have he : ((c.toNat : Int) == 58) = decide (c = 58) := u8_eq c 58
  refine jcalls Tryz.func46 rfl (by kernel_rfl) Tryz.ntmps46 rfl rfl (fun w0 β0 ext hβ => ?_)
  repeat (first | refine jS ?_ | refine jD ?_ | refine jB ?_)
  rw [hgt]
  repeat (first | refine jS ?_ | refine jD ?_ | refine jB ?_)
  rw [hw]
  repeat (first | refine jS ?_ | refine jD ?_ | refine jB ?_ | refine jo rfl rfl (index_str rfl rfl rfl rfl (Int.natCast_nonneg _) hat) rfl rfl ?_)
  simp only
  rw [← he]
  exact jR
end Go.AL
end
section
set_option maxRecDepth 100000
namespace Go.AL
open Go Go.Proofs
attribute [local irreducible] J
def azn (c : UInt8) : Bool := !((decide ((c.toNat : Int) < 97) || decide ((c.toNat : Int) > 122)) && (decide ((c.toNat : Int) < 48) || decide ((c.toNat : Int) > 57)))
def rname (s : Bs) : Bool := match s with
 | [] => false
 | c :: r => decide (r.length + 1 ≤ 12) && !decide ((c.toNat : Int) < 97) && !decide ((c.toNat : Int) > 122) && (c :: r).all azn
theorem rname_ok (s : Bs) (hs : s.length ≤ 1000000) : ACalls Tryz.prog 47 [sv s] [] (one (bv (rname s)) []) := by
  cases s with
  | nil =>
    unfold sv S
    refine jcalls Tryz.func47 rfl (by kernel_rfl) Tryz.ntmps47 rfl rfl (fun w0 β0 ext hβ => ?_)
    repeat (first | refine jS ?_ | refine jD ?_ | refine jB ?_)
    exact jR
  | cons c r =>
    have hl : ByteArray.size ⟨(c :: r).toArray⟩ = r.length + 1 := rfl
    have e1 : decide ((ByteArray.size ⟨(c :: r).toArray⟩ : Int) < 1) = false := decide_eq_false (by rw [hl]; omega)
    have e2 : decide ((ByteArray.size ⟨(c :: r).toArray⟩ : Int) > 12) = !decide (r.length + 1 ≤ 12) := by rw [hl, Bool.eq_iff_iff]; simp; omega
    unfold rname
    refine jcalls Tryz.func47 rfl (by kernel_rfl) Tryz.ntmps47 rfl rfl (fun w0 β0 ext hβ => ?_)
    repeat (first | refine jS ?_ | refine jD ?_ | refine jB ?_)
    rw [e1]
    repeat (first | refine jS ?_ | refine jD ?_ | refine jB ?_)
    rw [e2]
    simp only
    generalize hb1 : decide (r.length + 1 ≤ 12) = b1
    cases b1
    · repeat (first | refine jS ?_ | refine jD ?_ | refine jB ?_ | refine jo rfl rfl (index_str rfl rfl rfl rfl (by decide) (c := c) rfl) rfl rfl ?_)
      exact jR
    · repeat (first | refine jS ?_ | refine jD ?_ | refine jB ?_ | refine jo rfl rfl (index_str rfl rfl rfl rfl (by decide) (c := c) rfl) rfl rfl ?_)
      cases hb2 : decide ((c.toNat : Int) < 97) with
      | true =>
        repeat (first | refine jS ?_ | refine jD ?_ | refine jB ?_ | refine jo rfl rfl (index_str rfl rfl rfl rfl (by decide) (c := c) rfl) rfl rfl ?_)
        exact jR
      | false =>
        repeat (first | refine jS ?_ | refine jD ?_ | refine jB ?_ | refine jo rfl rfl (index_str rfl rfl rfl rfl (by decide) (c := c) rfl) rfl rfl ?_)
        cases hb3 : decide ((c.toNat : Int) > 122) with
        | true =>
          repeat (first | refine jS ?_ | refine jD ?_ | refine jB ?_)
          exact jR
        | false =>
          repeat (first | refine jS ?_ | refine jD ?_ | refine jB ?_)
          refine jloopI (fun i : Nat => i ≤ (c :: r).length ∧ ∀ q, q < i → azn ((c :: r).getD q 0) = true) [0, 3] (fun i => [sv (c :: r), .v (.int .i64 (i : Int))]) (fun _ => []) (fun i => (c :: r).length - i) 0 ⟨Nat.zero_le _, fun q h => absurd h (by omega)⟩ rfl rfl (fun i hi => ?_)
          obtain ⟨hi, hok⟩ := hi
          have hlen : (c :: r).length ≤ 1000000 := hs
          generalize c :: r = s at *
          have hl2 : ByteArray.size ⟨s.toArray⟩ = s.length := rfl
          repeat (first | refine jS ?_ | refine jD ?_ | refine jB ?_)
          refine jc rfl rfl rfl (fun h => ?_) (fun h => ?_)
          · have h := of_decide_eq_true h
            have hi2 : i < s.length := by rw [hl2] at h; omega
            obtain ⟨d, hd⟩ : ∃ d, s[i]? = some d := ⟨_, List.getElem?_eq_getElem hi2⟩
            have hdd : s.getD i 0 = d := by simp [List.getD, hd]
            have hdm : d ∈ s := List.mem_of_getElem? hd
            have hat := str_at hd
            have hnx := idx_next hi2 (by omega)
            have hgo : azn d = true → ∀ q, q < i + 1 → azn (s.getD q 0) = true := fun h0 q hq => by
              by_cases hqi : q = i
              · subst hqi; rw [hdd]; exact h0
              · exact hok q (by omega)
            have hno : azn d = false → s.all azn = false := fun h0 => by
              rw [List.all_eq_false]; exact ⟨d, hdm, by rw [h0]; simp⟩
            have hd255 := d.toNat_lt
            clear h hok e1 e2 hl hb1 hb2 hb3
            repeat' (first | refine jS ?_ | refine jD ?_ | refine jB ?_ | refine jo rfl rfl (index_str rfl rfl rfl rfl (Int.natCast_nonneg i) hat) rfl rfl ?_ | refine jo rfl rfl (index_at rfl rfl rfl rfl rfl rfl rfl rfl (by omega) (by omega)) rfl rfl ?_ | (refine jc rfl rfl rfl (fun h => ?_) (fun h => ?_) <;> (try simp only [decide_eq_true_eq, decide_eq_false_iff_not, beq_iff_eq, beq_eq_false_iff_ne, bne_iff_ne, bne_eq_false_iff_eq, ne_eq] at h) <;> (try (exfalso; omega))) | (refine jg rfl rfl rfl rfl (fun h => ?_) (fun h => ?_) <;> (fail_if_success (exact absurd h (by decide))) <;> (try simp only [decide_eq_true_eq, decide_eq_false_iff_not, beq_iff_eq, beq_eq_false_iff_ne, bne_iff_ne, bne_eq_false_iff_eq, ne_eq] at h) <;> (try (exfalso; omega))))
            all_goals first
              | (refine jnextI (i + 1) ⟨by omega, hgo (by unfold azn; simp; omega)⟩ ?_ rfl (by omega)
                 show some _ = some _
                 rw [hnx])
              | (rw [hno (by unfold azn; simp; omega)]
                 exact jR)
          · have h := of_decide_eq_false h
            have hi2 : i = s.length := by rw [hl2] at h; omega
            have hall : s.all azn = true := by
              rw [List.all_eq_true]
              intro x hx
              obtain ⟨q, hq, rfl⟩ := List.getElem_of_mem hx
              have := hok q (by omega)
              simpa [List.getD, hq] using this
            rw [hall]
            repeat (first | refine jS ?_ | refine jD ?_ | refine jB ?_)
            exact jR
end Go.AL
end
section
set_option maxRecDepth 100000
namespace Go.AL
open Go Go.Proofs
attribute [local irreducible] J
def isDig (c : UInt8) : Bool := !(decide ((c.toNat : Int) < 48) || decide ((c.toNat : Int) > 57))
def dsum (t : Bs) (i : Nat) : Int := (t.take i).foldl (fun n c => 10 * n + ((c.toNat : Int) - 48)) 0
theorem dsum_succ {t : Bs} {i : Nat} {d : UInt8} (h : t[i]? = some d) : dsum t (i + 1) = 10 * dsum t i + ((d.toNat : Int) - 48) := by
 obtain ⟨hi, hd⟩ := List.getElem?_eq_some_iff.1 h
 unfold dsum
 rw [List.take_succ_eq_append_getElem hi, List.foldl_append, hd]; rfl
theorem dsum_le (t : Bs) : ∀ i, (∀ q, q < i → isDig (t.getD q 48) = true) → 0 ≤ dsum t i ∧ dsum t i < (10 ^ i : Nat)
 | 0, _ => by simp [dsum]
 | i + 1, h => by
  obtain ⟨h1, h2⟩ := dsum_le t i fun q hq => h q (by omega)
  cases hd : t[i]? with
  | none =>
   have e : dsum t (i + 1) = dsum t i := by
    have := List.getElem?_eq_none_iff.1 hd
    unfold dsum
    rw [List.take_of_length_le (by omega), List.take_of_length_le (by omega)]
   rw [e]
   have : 10 ^ i ≤ 10 ^ (i + 1) := Nat.pow_le_pow_right (by omega) (by omega)
   omega
  | some d =>
   rw [dsum_succ hd]
   have hdg := h i (by omega)
   have hdd : t.getD i 48 = d := by simp [List.getD, hd]
   rw [hdd] at hdg
   unfold isDig at hdg
   simp at hdg
   have : 10 ^ (i + 1) = 10 * 10 ^ i := by rw [Nat.pow_succ]; omega
   omega
def rnumT (bl : Bool) (t : Bs) : Int × Bool :=
 match t with
 | [] => (0, false)
 | c :: r => cond (decide (r.length + 1 > 10) || (decide (c = 48) && (decide (r.length + 1 > 1) || bl))) (0, false)
   (cond ((c :: r).all isDig) (cond (decide (dsum (c :: r) (r.length + 1) > 1000000000)) (0, false) (cond bl (0 - dsum (c :: r) (r.length + 1)) (dsum (c :: r) (r.length + 1)), true)) (0, false))
def rnum (s : Bs) : Int × Bool :=
 match s with
 | [] => (0, false)
 | c :: r => cond (decide (c = 45)) (rnumT true r) (rnumT false (c :: r))
theorem rnum_ok (s : Bs) (hs : s.length ≤ 1000000) : ACalls Tryz.prog 140 [sv s] [] (one (.tup [iv (rnum s).1, bv (rnum s).2]) []) := by
  cases s with
  | nil =>
    unfold sv S
    refine jcalls Tryz.func140 rfl (by kernel_rfl) Tryz.ntmps140 rfl rfl (fun w0 β0 ext hβ => ?_)
    repeat (first | refine jS ?_ | refine jD ?_ | refine jB ?_)
    exact jR
  | cons c r =>
    have hl : ByteArray.size ⟨(c :: r).toArray⟩ = r.length + 1 := rfl
    have e1 : decide ((ByteArray.size ⟨(c :: r).toArray⟩ : Int) > 0) = true := decide_eq_true (by rw [hl]; omega)
    have e45 : ((c.toNat : Int) == 45) = decide (c = 45) := u8_eq c 45
    unfold rnum
    refine jcalls Tryz.func140 rfl (by kernel_rfl) Tryz.ntmps140 rfl rfl (fun w0 β0 ext hβ => ?_)
    repeat (first | refine jS ?_ | refine jD ?_ | refine jB ?_)
    rw [e1]
    repeat (first | refine jS ?_ | refine jD ?_ | refine jB ?_ | refine jo rfl rfl (index_str rfl rfl rfl rfl (by decide) (c := c) rfl) rfl rfl ?_)
    rw [e45]
    simp only
    cases hb : decide (c = 45) with
    | true =>
      repeat (first | refine jS ?_ | refine jB ?_)
      refine jo rfl rfl (cutL 1 rfl rfl rfl rfl rfl (by simp)) rfl rfl ?_
      refine jS ?_
      refine jre 0 (sv r) rfl rfl rfl ?_
      clear hl e1 e45 hb
      cases r with
      | nil =>
        unfold sv S
        repeat (first | refine jS ?_ | refine jD ?_ | refine jB ?_)
        exact jR
      | cons c r =>
        have hl1 : ByteArray.size ⟨(c :: r).toArray⟩ = r.length + 1 := rfl
        have f1 : decide ((ByteArray.size ⟨(c :: r).toArray⟩ : Int) < 1) = false := decide_eq_false (by rw [hl1]; omega)
        have f2 : decide ((ByteArray.size ⟨(c :: r).toArray⟩ : Int) > 10) = decide (r.length + 1 > 10) := by rw [hl1, Bool.eq_iff_iff]; simp; omega
        have f3 : decide ((ByteArray.size ⟨(c :: r).toArray⟩ : Int) > 1) = decide (r.length + 1 > 1) := by rw [hl1, Bool.eq_iff_iff]; simp; omega
        have e48 : ((c.toNat : Int) == 48) = decide (c = 48) := u8_eq c 48
        repeat (first | refine jS ?_ | refine jD ?_ | refine jB ?_)
        rw [f1]
        repeat (first | refine jS ?_ | refine jD ?_ | refine jB ?_)
        rw [f2]
        unfold rnumT
        simp only
        cases hb1 : decide (r.length + 1 > 10) with
        | true =>
          repeat (first | refine jS ?_ | refine jD ?_ | refine jB ?_)
          exact jR
        | false =>
          repeat (first | refine jS ?_ | refine jD ?_ | refine jB ?_ | refine jo rfl rfl (index_str rfl rfl rfl rfl (by decide) (c := c) rfl) rfl rfl ?_)
          rw [e48]
          cases h48 : decide (c = 48) with
          | false =>
            repeat (first | refine jS ?_ | refine jD ?_ | refine jB ?_)
            simp only [Bool.false_or, Bool.or_false, Bool.and_false, Bool.false_and, cond_false]
            have hlen : (c :: r).length ≤ 10 := by have := of_decide_eq_false hb1; simp; omega
            have hln : r.length + 1 = (c :: r).length := rfl
            rw [hln]
            clear f1 f2 f3 e48 h48 hb1 hl1 hln
            generalize c :: r = s at *
            refine jloopI (fun i : Nat => i ≤ s.length ∧ ∀ q, q < i → isDig (s.getD q 48) = true) [0, 4, 5, 6] (fun i => [sv s, .v (.bool true), .v (.int .i64 (dsum s i)), .v (.int .i64 (i : Int))]) (fun _ => []) (fun i => s.length - i) 0 ⟨Nat.zero_le _, fun q h => absurd h (by omega)⟩ rfl rfl (fun i hi => ?_)
            obtain ⟨hi, hok⟩ := hi
            have hbd := dsum_le s i hok
            have hp : 10 ^ i ≤ 10 ^ 10 := Nat.pow_le_pow_right (by omega) (by omega)
            have hl2 : ByteArray.size ⟨s.toArray⟩ = s.length := rfl
            repeat (first | refine jS ?_ | refine jD ?_ | refine jB ?_)
            refine jc rfl rfl rfl (fun h => ?_) (fun h => ?_)
            · have h := of_decide_eq_true h
              have hi2 : i < s.length := by rw [hl2] at h; omega
              obtain ⟨d, hd⟩ : ∃ d, s[i]? = some d := ⟨_, List.getElem?_eq_getElem hi2⟩
              have hdd : s.getD i 48 = d := by simp [List.getD, hd]
              have hdm : d ∈ s := List.mem_of_getElem? hd
              have hat := str_at hd
              have hnx := idx_next hi2 (by omega)
              have hsum := dsum_succ hd
              have hgo : isDig d = true → ∀ q, q < i + 1 → isDig (s.getD q 48) = true := fun h0 q hq => by
                by_cases hqi : q = i
                · subst hqi; rw [hdd]; exact h0
                · exact hok q (by omega)
              have hno : isDig d = false → s.all isDig = false := fun h0 => by
                rw [List.all_eq_false]; exact ⟨d, hdm, by rw [h0]; simp⟩
              have hd255 := d.toNat_lt
              have hw : 48 ≤ (d.toNat : Int) → IntKind.i64.wrap (IntKind.i64.wrap (10 * dsum s i) + IntKind.i64.wrap (IntKind.u8.wrap ((d.toNat : Int) - 48))) = dsum s (i + 1) := fun h48 => by
                have e1 : IntKind.u8.wrap ((d.toNat : Int) - 48) = (d.toNat : Int) - 48 := by
                  simp only [IntKind.wrap, IntKind.bits, IntKind.signed]
                  simp
                  omega
                rw [e1, wrap_id (n := (d.toNat : Int) - 48) (by omega) (by omega), wrap_id (n := 10 * dsum s i) (by omega) (by omega), hsum, wrap_id (by omega) (by omega)]
              clear h hok
              repeat' (first | refine jS ?_ | refine jD ?_ | refine jB ?_ | refine jo rfl rfl (index_str rfl rfl rfl rfl (Int.natCast_nonneg i) hat) rfl rfl ?_ | refine jo rfl rfl (index_at rfl rfl rfl rfl rfl rfl rfl rfl (by omega) (by omega)) rfl rfl ?_ | (refine jc rfl rfl rfl (fun h => ?_) (fun h => ?_) <;> (try simp only [decide_eq_true_eq, decide_eq_false_iff_not, beq_iff_eq, beq_eq_false_iff_ne, bne_iff_ne, bne_eq_false_iff_eq, ne_eq] at h) <;> (try (exfalso; omega))) | (refine jg rfl rfl rfl rfl (fun h => ?_) (fun h => ?_) <;> (fail_if_success (exact absurd h (by decide))) <;> (try simp only [decide_eq_true_eq, decide_eq_false_iff_not, beq_iff_eq, beq_eq_false_iff_ne, bne_iff_ne, bne_eq_false_iff_eq, ne_eq] at h) <;> (try (exfalso; omega))))
              all_goals first
                | (refine jnextI (i + 1) ⟨by omega, hgo (by unfold isDig; simp; omega)⟩ ?_ rfl (by omega)
                   show some _ = some _
                   rw [hnx, hw (by omega)])
                | (rw [hno (by unfold isDig; simp; omega)]
                   exact jR)
            · have h := of_decide_eq_false h
              have hi2 : i = s.length := by rw [hl2] at h; omega
              subst hi2
              have hall : s.all isDig = true := by
                rw [List.all_eq_true]
                intro x hx
                obtain ⟨q, hq, rfl⟩ := List.getElem_of_mem hx
                have := hok q (by omega)
                simpa [List.getD, hq] using this
              rw [hall]
              simp only [cond_true]
              have hneg : IntKind.i64.wrap (0 - dsum s s.length) = 0 - dsum s s.length := wrap_id (by omega) (by omega)
              repeat (first | refine jS ?_ | refine jD ?_ | refine jB ?_)
              cases hgt : decide (dsum s s.length > 1000000000) with
              | true =>
                repeat (first | refine jS ?_ | refine jD ?_ | refine jB ?_)
                exact jR
              | false =>
                repeat (first | refine jS ?_ | refine jD ?_ | refine jB ?_)
                try rw [hneg]
                exact jR
          | true =>
            repeat (first | refine jS ?_ | refine jD ?_ | refine jB ?_)
            rw [f3]
            cases h1 : decide (r.length + 1 > 1) with
            | true =>
              repeat (first | refine jS ?_ | refine jD ?_ | refine jB ?_)
              exact jR
            | false =>
              repeat (first | refine jS ?_ | refine jD ?_ | refine jB ?_)
              exact jR
    | false =>
      clear e1 e45 hl hb
      have hl1 : ByteArray.size ⟨(c :: r).toArray⟩ = r.length + 1 := rfl
      have f1 : decide ((ByteArray.size ⟨(c :: r).toArray⟩ : Int) < 1) = false := decide_eq_false (by rw [hl1]; omega)
      have f2 : decide ((ByteArray.size ⟨(c :: r).toArray⟩ : Int) > 10) = decide (r.length + 1 > 10) := by rw [hl1, Bool.eq_iff_iff]; simp; omega
      have f3 : decide ((ByteArray.size ⟨(c :: r).toArray⟩ : Int) > 1) = decide (r.length + 1 > 1) := by rw [hl1, Bool.eq_iff_iff]; simp; omega
      have e48 : ((c.toNat : Int) == 48) = decide (c = 48) := u8_eq c 48
      repeat (first | refine jS ?_ | refine jD ?_ | refine jB ?_)
      rw [f2]
      unfold rnumT
      simp only
      cases hb1 : decide (r.length + 1 > 10) with
      | true =>
        repeat (first | refine jS ?_ | refine jD ?_ | refine jB ?_)
        exact jR
      | false =>
        repeat (first | refine jS ?_ | refine jD ?_ | refine jB ?_ | refine jo rfl rfl (index_str rfl rfl rfl rfl (by decide) (c := c) rfl) rfl rfl ?_)
        rw [e48]
        cases h48 : decide (c = 48) with
        | false =>
          repeat (first | refine jS ?_ | refine jD ?_ | refine jB ?_)
          simp only [Bool.false_or, Bool.or_false, Bool.and_false, Bool.false_and, cond_false]
          have hlen : (c :: r).length ≤ 10 := by have := of_decide_eq_false hb1; simp; omega
          have hln : r.length + 1 = (c :: r).length := rfl
          rw [hln]
          clear f1 f2 f3 e48 h48 hb1 hl1 hln
          generalize c :: r = s at *
          refine jloopI (fun i : Nat => i ≤ s.length ∧ ∀ q, q < i → isDig (s.getD q 48) = true) [0, 4, 5, 6] (fun i => [sv s, .v (.bool false), .v (.int .i64 (dsum s i)), .v (.int .i64 (i : Int))]) (fun _ => []) (fun i => s.length - i) 0 ⟨Nat.zero_le _, fun q h => absurd h (by omega)⟩ rfl rfl (fun i hi => ?_)
          obtain ⟨hi, hok⟩ := hi
          have hbd := dsum_le s i hok
          have hp : 10 ^ i ≤ 10 ^ 10 := Nat.pow_le_pow_right (by omega) (by omega)
          have hl2 : ByteArray.size ⟨s.toArray⟩ = s.length := rfl
          repeat (first | refine jS ?_ | refine jD ?_ | refine jB ?_)
          refine jc rfl rfl rfl (fun h => ?_) (fun h => ?_)
          · have h := of_decide_eq_true h
            have hi2 : i < s.length := by rw [hl2] at h; omega
            obtain ⟨d, hd⟩ : ∃ d, s[i]? = some d := ⟨_, List.getElem?_eq_getElem hi2⟩
            have hdd : s.getD i 48 = d := by simp [List.getD, hd]
            have hdm : d ∈ s := List.mem_of_getElem? hd
            have hat := str_at hd
            have hnx := idx_next hi2 (by omega)
            have hsum := dsum_succ hd
            have hgo : isDig d = true → ∀ q, q < i + 1 → isDig (s.getD q 48) = true := fun h0 q hq => by
              by_cases hqi : q = i
              · subst hqi; rw [hdd]; exact h0
              · exact hok q (by omega)
            have hno : isDig d = false → s.all isDig = false := fun h0 => by
              rw [List.all_eq_false]; exact ⟨d, hdm, by rw [h0]; simp⟩
            have hd255 := d.toNat_lt
            have hw : 48 ≤ (d.toNat : Int) → IntKind.i64.wrap (IntKind.i64.wrap (10 * dsum s i) + IntKind.i64.wrap (IntKind.u8.wrap ((d.toNat : Int) - 48))) = dsum s (i + 1) := fun h48 => by
              have e1 : IntKind.u8.wrap ((d.toNat : Int) - 48) = (d.toNat : Int) - 48 := by
                simp only [IntKind.wrap, IntKind.bits, IntKind.signed]
                simp
                omega
              rw [e1, wrap_id (n := (d.toNat : Int) - 48) (by omega) (by omega), wrap_id (n := 10 * dsum s i) (by omega) (by omega), hsum, wrap_id (by omega) (by omega)]
            clear h hok
            repeat' (first | refine jS ?_ | refine jD ?_ | refine jB ?_ | refine jo rfl rfl (index_str rfl rfl rfl rfl (Int.natCast_nonneg i) hat) rfl rfl ?_ | refine jo rfl rfl (index_at rfl rfl rfl rfl rfl rfl rfl rfl (by omega) (by omega)) rfl rfl ?_ | (refine jc rfl rfl rfl (fun h => ?_) (fun h => ?_) <;> (try simp only [decide_eq_true_eq, decide_eq_false_iff_not, beq_iff_eq, beq_eq_false_iff_ne, bne_iff_ne, bne_eq_false_iff_eq, ne_eq] at h) <;> (try (exfalso; omega))) | (refine jg rfl rfl rfl rfl (fun h => ?_) (fun h => ?_) <;> (fail_if_success (exact absurd h (by decide))) <;> (try simp only [decide_eq_true_eq, decide_eq_false_iff_not, beq_iff_eq, beq_eq_false_iff_ne, bne_iff_ne, bne_eq_false_iff_eq, ne_eq] at h) <;> (try (exfalso; omega))))
            all_goals first
              | (refine jnextI (i + 1) ⟨by omega, hgo (by unfold isDig; simp; omega)⟩ ?_ rfl (by omega)
                 show some _ = some _
                 rw [hnx, hw (by omega)])
              | (rw [hno (by unfold isDig; simp; omega)]
                 exact jR)
          · have h := of_decide_eq_false h
            have hi2 : i = s.length := by rw [hl2] at h; omega
            subst hi2
            have hall : s.all isDig = true := by
              rw [List.all_eq_true]
              intro x hx
              obtain ⟨q, hq, rfl⟩ := List.getElem_of_mem hx
              have := hok q (by omega)
              simpa [List.getD, hq] using this
            rw [hall]
            simp only [cond_true]
            have hneg : IntKind.i64.wrap (0 - dsum s s.length) = 0 - dsum s s.length := wrap_id (by omega) (by omega)
            repeat (first | refine jS ?_ | refine jD ?_ | refine jB ?_)
            cases hgt : decide (dsum s s.length > 1000000000) with
            | true =>
              repeat (first | refine jS ?_ | refine jD ?_ | refine jB ?_)
              exact jR
            | false =>
              repeat (first | refine jS ?_ | refine jD ?_ | refine jB ?_)
              try rw [hneg]
              exact jR
        | true =>
          repeat (first | refine jS ?_ | refine jD ?_ | refine jB ?_)
          rw [f3]
          cases h1 : decide (r.length + 1 > 1) with
          | true =>
            repeat (first | refine jS ?_ | refine jD ?_ | refine jB ?_)
            exact jR
          | false =>
            repeat (first | refine jS ?_ | refine jD ?_ | refine jB ?_)
            simp only [Bool.false_or, Bool.or_false, Bool.and_false, Bool.false_and, cond_false]
            have hlen : (c :: r).length ≤ 10 := by have := of_decide_eq_false hb1; simp; omega
            have hln : r.length + 1 = (c :: r).length := rfl
            rw [hln]
            clear h1 f1 f2 f3 e48 h48 hb1 hl1 hln
            generalize c :: r = s at *
            refine jloopI (fun i : Nat => i ≤ s.length ∧ ∀ q, q < i → isDig (s.getD q 48) = true) [0, 4, 5, 6] (fun i => [sv s, .v (.bool false), .v (.int .i64 (dsum s i)), .v (.int .i64 (i : Int))]) (fun _ => []) (fun i => s.length - i) 0 ⟨Nat.zero_le _, fun q h => absurd h (by omega)⟩ rfl rfl (fun i hi => ?_)
            obtain ⟨hi, hok⟩ := hi
            have hbd := dsum_le s i hok
            have hp : 10 ^ i ≤ 10 ^ 10 := Nat.pow_le_pow_right (by omega) (by omega)
            have hl2 : ByteArray.size ⟨s.toArray⟩ = s.length := rfl
            repeat (first | refine jS ?_ | refine jD ?_ | refine jB ?_)
            refine jc rfl rfl rfl (fun h => ?_) (fun h => ?_)
            · have h := of_decide_eq_true h
              have hi2 : i < s.length := by rw [hl2] at h; omega
              obtain ⟨d, hd⟩ : ∃ d, s[i]? = some d := ⟨_, List.getElem?_eq_getElem hi2⟩
              have hdd : s.getD i 48 = d := by simp [List.getD, hd]
              have hdm : d ∈ s := List.mem_of_getElem? hd
              have hat := str_at hd
              have hnx := idx_next hi2 (by omega)
              have hsum := dsum_succ hd
              have hgo : isDig d = true → ∀ q, q < i + 1 → isDig (s.getD q 48) = true := fun h0 q hq => by
                by_cases hqi : q = i
                · subst hqi; rw [hdd]; exact h0
                · exact hok q (by omega)
              have hno : isDig d = false → s.all isDig = false := fun h0 => by
                rw [List.all_eq_false]; exact ⟨d, hdm, by rw [h0]; simp⟩
              have hd255 := d.toNat_lt
              have hw : 48 ≤ (d.toNat : Int) → IntKind.i64.wrap (IntKind.i64.wrap (10 * dsum s i) + IntKind.i64.wrap (IntKind.u8.wrap ((d.toNat : Int) - 48))) = dsum s (i + 1) := fun h48 => by
                have e1 : IntKind.u8.wrap ((d.toNat : Int) - 48) = (d.toNat : Int) - 48 := by
                  simp only [IntKind.wrap, IntKind.bits, IntKind.signed]
                  simp
                  omega
                rw [e1, wrap_id (n := (d.toNat : Int) - 48) (by omega) (by omega), wrap_id (n := 10 * dsum s i) (by omega) (by omega), hsum, wrap_id (by omega) (by omega)]
              clear h hok
              repeat' (first | refine jS ?_ | refine jD ?_ | refine jB ?_ | refine jo rfl rfl (index_str rfl rfl rfl rfl (Int.natCast_nonneg i) hat) rfl rfl ?_ | refine jo rfl rfl (index_at rfl rfl rfl rfl rfl rfl rfl rfl (by omega) (by omega)) rfl rfl ?_ | (refine jc rfl rfl rfl (fun h => ?_) (fun h => ?_) <;> (try simp only [decide_eq_true_eq, decide_eq_false_iff_not, beq_iff_eq, beq_eq_false_iff_ne, bne_iff_ne, bne_eq_false_iff_eq, ne_eq] at h) <;> (try (exfalso; omega))) | (refine jg rfl rfl rfl rfl (fun h => ?_) (fun h => ?_) <;> (fail_if_success (exact absurd h (by decide))) <;> (try simp only [decide_eq_true_eq, decide_eq_false_iff_not, beq_iff_eq, beq_eq_false_iff_ne, bne_iff_ne, bne_eq_false_iff_eq, ne_eq] at h) <;> (try (exfalso; omega))))
              all_goals first
                | (refine jnextI (i + 1) ⟨by omega, hgo (by unfold isDig; simp; omega)⟩ ?_ rfl (by omega)
                   show some _ = some _
                   rw [hnx, hw (by omega)])
                | (rw [hno (by unfold isDig; simp; omega)]
                   exact jR)
            · have h := of_decide_eq_false h
              have hi2 : i = s.length := by rw [hl2] at h; omega
              subst hi2
              have hall : s.all isDig = true := by
                rw [List.all_eq_true]
                intro x hx
                obtain ⟨q, hq, rfl⟩ := List.getElem_of_mem hx
                have := hok q (by omega)
                simpa [List.getD, hq] using this
              rw [hall]
              simp only [cond_true]
              have hneg : IntKind.i64.wrap (0 - dsum s s.length) = 0 - dsum s s.length := wrap_id (by omega) (by omega)
              repeat (first | refine jS ?_ | refine jD ?_ | refine jB ?_)
              cases hgt : decide (dsum s s.length > 1000000000) with
              | true =>
                repeat (first | refine jS ?_ | refine jD ?_ | refine jB ?_)
                exact jR
              | false =>
                repeat (first | refine jS ?_ | refine jD ?_ | refine jB ?_)
                try rw [hneg]
                exact jR
end Go.AL
end
section
set_option maxRecDepth 100000
namespace Go.AL
open Go Go.Proofs
attribute [local irreducible] J
theorem cat_str {P : Program} {F : Fr} {H : List AObj} {dst : Option Tmp} {t yt : TypeId} {x y : Operand} {type : TypeId} {pos : String} {after : Array Edge} {guard : Option (Nat × Bool)} {a b : Bs} (hx : ev F x = some (sv a)) (hy : ev F y = some (sv b)) (hl : a.length + b.length ≤ 1000000000) :
  DSem P .p ⟨dst, .binOp .add t x y yt, type, pos, after, guard⟩ F H (sv (a ++ b)) H := by
 refine ⟨rfl, fun H' => Says.sem (says_bin hx hy (fun c u u' w r1 r2 => ?_) ⟨_, rfl⟩) H'⟩
 cases (show u = S a from r1); cases (show u' = S b from r2)
 have hsz : ¬ (((ByteArray.size ⟨a.toArray⟩ + ByteArray.size ⟨b.toArray⟩ : Nat) : Int) > IntKind.i64.max) := by
  rw [show ByteArray.size ⟨a.toArray⟩ = a.length from rfl, show ByteArray.size ⟨b.toArray⟩ = b.length from rfl, show IntKind.i64.max = 9223372036854775807 from rfl]
  omega
 have hc : ((⟨a.toArray⟩ : ByteArray) ++ ⟨b.toArray⟩) = ⟨(a ++ b).toArray⟩ := by
  apply ByteArray.ext
  simp
 unfold S
 simp only [Sem.run_bind, run_eqGuard_string, Result.andThen_ok]
 simp only [binOp, Op.stringOp, if_neg hsz, hc]
 rfl
def nl (ls : List Bs) (i : Nat) : Int := (((ls.take i).filter fun l => !rlab l).length : Nat)
theorem nl_succ {ls : List Bs} {i : Nat} (h : i < ls.length) : nl ls (i + 1) = cond (rlab ls[i]) (nl ls i) (nl ls i + 1) := by
 unfold nl
 rw [List.take_succ_eq_append_getElem h, List.filter_append, List.length_append]
 cases hr : rlab ls[i] <;> simp [hr]
theorem nl_le (ls : List Bs) (i : Nat) : 0 ≤ nl ls i ∧ nl ls i ≤ i := by
 unfold nl
 have := List.length_filter_le (fun l => !rlab l) (ls.take i)
 rw [List.length_take] at this
 omega
def rtarget (ls : List Bs) (s : Bs) : Int × Bool := match ls.findIdx? (fun l => decide (l = s ++ [58])) with | some i => (nl ls i, true) | none => (0, false)
theorem rtarget_ok (ls : List Bs) (s : Bs) (hs : s.length ≤ 1000000) (hls : ls.length ≤ 1000000) (hl : ∀ l ∈ ls, l.length ≤ 1000000) : ACalls Tryz.prog 95 [.sl (ls.map sv), sv s] [] (one (.tup [iv (rtarget ls s).1, bv (rtarget ls s).2]) []) := by
 refine jcalls Tryz.func95 rfl (by kernel_rfl) Tryz.ntmps95 rfl rfl (fun w0 β0 ext hβ => ?_)
 repeat (first | refine jS ?_ | refine jD ?_ | refine jB ?_)
 refine jloopI (fun i : Nat => i ≤ ls.length ∧ ∀ q, q < i → ls.getD q [] ≠ s ++ [58]) [0, 1, 9, 6, 11, 10] (fun i => [.sl (ls.map sv), sv s, .sl (ls.map sv), .v (.int .i64 (nl ls i)), .v (.int .i64 (i : Int)), .v (.int .i64 ((ls.map sv).length : Int))]) (fun _ => []) (fun i => ls.length - i) 0 ⟨Nat.zero_le _, fun q h => absurd h (by omega)⟩ ?_ rfl (fun i hi => ?_)
 ·rfl
 obtain ⟨hi, hok⟩ := hi
 have hnl := nl_le ls i
 repeat (first | refine jS ?_ | refine jD ?_ | refine jB ?_)
 refine jc rfl rfl rfl (fun h => ?_) (fun h => ?_)
 ·have h := of_decide_eq_true h
  rw [List.length_map] at h
  have hi2 : i < ls.length := by omega
  have hat := at_nat ls i hi2
  have hlab := rlab_ok (at' ls (i : Int)) (by rw [hat]; exact hl _ (List.getElem_mem hi2))
  have key := str_eq (at' ls (i : Int)) (s ++ [58])
  have hnx := idx_next hi2 (by omega)
  have hsu := nl_succ hi2
  have hgd : ls.getD i [] = ls[i] := by simp [List.getD, hi2]
  rw [← hat] at hsu hgd
  have hadd : IntKind.i64.wrap (nl ls i + 1) = nl ls i + 1 := wrap_id (by omega) (by omega)
  unfold sv bv at hlab
  have hcl : s.length + ([58] : Bs).length ≤ 1000000000 := by simp; omega
  repeat (first | refine jS ?_ | refine jD ?_ | refine jB ?_ | refine jo rfl rfl (index_at rfl rfl rfl rfl rfl rfl rfl rfl (Int.natCast_nonneg i) h) rfl rfl ?_ | refine jo rfl rfl (cat_str rfl (b := [58]) rfl hcl) rfl rfl ?_)
  rw [key]
  cases hc : decide (at' ls (i : Int) = s ++ [58]) with
  | true =>
   repeat (first | refine jS ?_ | refine jD ?_ | refine jB ?_)
   have : rtarget ls s = (nl ls i, true) := by
    unfold rtarget
    rw [List.findIdx?_eq_some_iff_getElem.2 ⟨hi2, by rw [← hat]; exact hc, fun j hj => by
     have := hok j hj
     have hj2 : j < ls.length := by omega
     simpa [List.getD, hj2] using this⟩]
   rw [this]
   exact jR
  | false =>
   have hc := of_decide_eq_false hc
   have hok' : ∀ q, q < i + 1 → ls.getD q [] ≠ s ++ [58] := fun q hq => by
    by_cases hqi : q = i
    ·subst hqi; rw [hgd]; exact hc
    ·exact hok q (by omega)
   cases hr : rlab (at' ls (i : Int)) with
   | true =>
    rw [hr] at hlab hsu
    repeat (first | refine jS ?_ | refine jD ?_ | refine jB ?_ | refine jV hlab ?_)
    refine jnextI (i + 1) ⟨by omega, hok'⟩ ?_ rfl (by omega)
    show some _ = some _
    rw [hnx, hsu]; rfl
   | false =>
    rw [hr] at hlab hsu
    repeat (first | refine jS ?_ | refine jD ?_ | refine jB ?_ | refine jV hlab ?_)
    refine jnextI (i + 1) ⟨by omega, hok'⟩ ?_ rfl (by omega)
    show some _ = some _
    rw [hnx, hsu, hadd]; rfl
 ·have h := of_decide_eq_false h
  rw [List.length_map] at h
  have hi2 : i = ls.length := by omega
  repeat (first | refine jS ?_ | refine jD ?_ | refine jB ?_)
  have : rtarget ls s = (0, false) := by
   unfold rtarget
   rw [List.findIdx?_eq_none_iff.2 fun l hm => by
    obtain ⟨q, hq, rfl⟩ := List.getElem_of_mem hm
    have := hok q (by omega)
    simpa [List.getD, hq] using this]
  rw [this]
  exact jR
end Go.AL
end
section
set_option maxRecDepth 100000
namespace Go.AL
open Go Go.Proofs
attribute [local irreducible] J
def ropN (s : Bs) : Int × Int := cond (rnum s).2 ((rnum s).1, 0) (0, 3)
def ropT (ls : List Bs) (s : Bs) : Int × Int := cond (rname s) (cond (rtarget ls s).2 ((rtarget ls s).1, 0) (0, 11)) (0, 3)
def rop (ls : List Bs) (k : UInt8) (s : Bs) : Int × Int := cond (decide (k = 114)) (rdR s) (cond (decide (k = 110)) (ropN s) (ropT ls s))
theorem rop_ok (ls : List Bs) (k : UInt8) (s : Bs) (hs : s.length ≤ 1000000) (hls : ls.length ≤ 1000000) (hl : ∀ l ∈ ls, l.length ≤ 1000000) :
  ACalls Tryz.prog 94 [.sl (ls.map sv), .v (.int .u8 k.toNat), sv s] [] (one (tup2 (rop ls k s)) []) := by
 have hn := rnum_ok s hs
 have hm := rname_ok s hs
 have ht := rtarget_ok ls s hs hls hl
 have e1 : ((k.toNat : Int) == 114) = decide (k = 114) := u8_eq k 114
 have e2 : ((k.toNat : Int) == 110) = decide (k = 110) := u8_eq k 110
 unfold rop
 cases h1 : decide (k = 114) with
 | true =>
  rw [h1] at e1
  simp only [cond_true]
  rcases s with _ | ⟨a, _ | ⟨b, _ | ⟨c, r⟩⟩⟩
  ·refine jcalls Tryz.func94 rfl (by kernel_rfl) Tryz.ntmps94 rfl rfl (fun w0 β0 ext hβ => ?_)
   unfold sv S
   repeat (first | refine jS ?_ | refine jD ?_ | refine jB ?_)
   rw [e1]
   repeat (first | refine jS ?_ | refine jD ?_ | refine jB ?_)
   exact jR
  ·refine jcalls Tryz.func94 rfl (by kernel_rfl) Tryz.ntmps94 rfl rfl (fun w0 β0 ext hβ => ?_)
   unfold sv S
   repeat (first | refine jS ?_ | refine jD ?_ | refine jB ?_)
   rw [e1]
   repeat (first | refine jS ?_ | refine jD ?_ | refine jB ?_)
   exact jR
  ·have hb : (b.toNat : Int) ≤ 255 := by have := b.toNat_lt; omega
   have ha : ((a.toNat : Int) != 114) = !decide (a.toNat = 114) := by
    rw [Bool.eq_iff_iff]; simp; omega
   have h8 : inn b.toNat 48 55 = true → IntKind.i64.wrap (IntKind.u8.wrap ((b.toNat : Int) - 48)) = (b.toNat : Int) - 48 := fun hi => by
    unfold inn at hi
    simp only [Bool.and_eq_true, decide_eq_true_eq] at hi
    simp only [IntKind.wrap, IntKind.bits, IntKind.signed]
    simp
    omega
   have hin : inn b.toNat 48 55 = (!decide ((b.toNat : Int) < 48) && !decide ((b.toNat : Int) > 55)) := by
    unfold inn
    rw [Bool.eq_iff_iff]; simp
   unfold rdR
   simp only
   rw [hin] at h8 ⊢
   refine jcalls Tryz.func94 rfl (by kernel_rfl) Tryz.ntmps94 rfl rfl (fun w0 β0 ext hβ => ?_)
   unfold sv S
   repeat (first | refine jS ?_ | refine jD ?_ | refine jB ?_)
   rw [e1]
   repeat (first | refine jS ?_ | refine jD ?_ | refine jB ?_ | refine jo rfl rfl (index_str rfl rfl rfl rfl (by decide) (c := a) rfl) rfl rfl ?_ | refine jo rfl rfl (index_str rfl rfl rfl rfl (by decide) (c := b) rfl) rfl rfl ?_)
   rw [ha]
   generalize decide (a.toNat = 114) = b1 at *
   cases b1
   ·repeat (first | refine jS ?_ | refine jD ?_ | refine jB ?_)
    exact jR
   ·repeat (first | refine jS ?_ | refine jD ?_ | refine jB ?_ | refine jo rfl rfl (index_str rfl rfl rfl rfl (by decide) (c := a) rfl) rfl rfl ?_ | refine jo rfl rfl (index_str rfl rfl rfl rfl (by decide) (c := b) rfl) rfl rfl ?_)
    generalize hx : decide ((b.toNat : Int) < 48) = x at *
    cases x
    ·repeat (first | refine jS ?_ | refine jD ?_ | refine jB ?_ | refine jo rfl rfl (index_str rfl rfl rfl rfl (by decide) (c := a) rfl) rfl rfl ?_ | refine jo rfl rfl (index_str rfl rfl rfl rfl (by decide) (c := b) rfl) rfl rfl ?_)
     generalize hy : decide ((b.toNat : Int) > 55) = y at *
     cases y
     ·repeat (first | refine jS ?_ | refine jD ?_ | refine jB ?_ | refine jo rfl rfl (index_str rfl rfl rfl rfl (by decide) (c := b) rfl) rfl rfl ?_)
      rw [h8 rfl]
      exact jR
     ·repeat (first | refine jS ?_ | refine jD ?_ | refine jB ?_)
      exact jR
    ·repeat (first | refine jS ?_ | refine jD ?_ | refine jB ?_)
     exact jR
  ·refine jcalls Tryz.func94 rfl (by kernel_rfl) Tryz.ntmps94 rfl rfl (fun w0 β0 ext hβ => ?_)
   unfold sv S
   repeat (first | refine jS ?_ | refine jD ?_ | refine jB ?_)
   rw [e1]
   repeat (first | refine jS ?_ | refine jD ?_ | refine jB ?_)
   exact jR
 | false =>
  rw [h1] at e1
  simp only [cond_false]
  cases h2 : decide (k = 110) with
  | true =>
   rw [h2] at e2
   simp only [cond_true]
   unfold ropN
   generalize rnum s = p at *
   obtain ⟨n, ok⟩ := p
   unfold sv iv bv at hn
   cases ok
   all_goals refine jcalls Tryz.func94 rfl (by kernel_rfl) Tryz.ntmps94 rfl rfl (fun w0 β0 ext hβ => ?_)
   all_goals (
    repeat (first | refine jS ?_ | refine jD ?_ | refine jB ?_)
   )
   all_goals rw [e1]
   all_goals (
    repeat (first | refine jS ?_ | refine jD ?_ | refine jB ?_)
   )
   all_goals rw [e2]
   all_goals (
    repeat (first | refine jS ?_ | refine jD ?_ | refine jB ?_ | refine jV hn ?_)
   )
   all_goals exact jR
  | false =>
   rw [h2] at e2
   simp only [cond_false]
   unfold ropT
   generalize rtarget ls s = p at *
   generalize rname s = nm at *
   obtain ⟨n, ok⟩ := p
   unfold sv iv bv at ht
   unfold sv bv at hm
   cases nm <;> cases ok
   all_goals refine jcalls Tryz.func94 rfl (by kernel_rfl) Tryz.ntmps94 rfl rfl (fun w0 β0 ext hβ => ?_)
   all_goals (
    repeat (first | refine jS ?_ | refine jD ?_ | refine jB ?_)
   )
   all_goals rw [e1]
   all_goals (
    repeat (first | refine jS ?_ | refine jD ?_ | refine jB ?_)
   )
   all_goals rw [e2]
   all_goals (
    repeat (first | refine jS ?_ | refine jD ?_ | refine jB ?_ | refine jV hm ?_ | refine jV ht ?_)
   )
   all_goals exact jR
end Go.AL
end
section
set_option maxRecDepth 100000
namespace Go.AL
open Go Go.Proofs
attribute [local irreducible] J
def opN : List Bs := opsT.map (·.1)
def opK : List Bs := opsT.map (·.2)
theorem opName_ok (k : Nat) (hk : k < 27) : ACalls Tryz.prog 92 [iv k] [] (one (sv (at' opN (k : Int))) []) := by
 have e1 : decide ((k : Int) < 0) = false := decide_eq_false (by omega)
 have e2 : decide ((k : Int) ≥ ((27 : Nat) : Int)) = false := decide_eq_false (by omega)
 have h0 : (0 : Int) ≤ (k : Int) := by omega
 have h1 : (k : Int) < ((opN.length : Nat) : Int) := by show (k : Int) < ((27 : Nat) : Int); omega
 refine jcalls Tryz.func92 rfl (by kernel_rfl) Tryz.ntmps92 rfl rfl (fun w0 β0 ext hβ => ?_)
 repeat (first | refine jS ?_ | refine jD ?_ | refine jB ?_)
 rw [e1]
 repeat (first | refine jS ?_ | refine jD ?_ | refine jB ?_)
 refine jre 12 (.v (.bool false)) rfl rfl (congrArg (fun b => AVal.v (.bool b)) e2) ?_
 refine jre 3 (.slf (opN.map sv)) rfl rfl rfl ?_
 repeat (first | refine jS ?_ | refine jD ?_ | refine jB ?_ | refine jo rfl rfl (index_at rfl rfl rfl rfl rfl rfl rfl rfl h0 h1) rfl rfl ?_)
 exact jR
theorem opKind_ok (k : Nat) (hk : k < 27) : ACalls Tryz.prog 93 [iv k] [] (one (sv (at' opK (k : Int))) []) := by
 have h0 : (0 : Int) ≤ (k : Int) := by omega
 have h1 : (k : Int) < ((opK.length : Nat) : Int) := by show (k : Int) < ((27 : Nat) : Int); omega
 refine jcalls Tryz.func93 rfl (by kernel_rfl) Tryz.ntmps93 rfl rfl (fun w0 β0 ext hβ => ?_)
 repeat (first | refine jS ?_ | refine jD ?_ | refine jB ?_)
 refine jre 5 (.slf (opK.map sv)) rfl rfl rfl ?_
 repeat (first | refine jS ?_ | refine jD ?_ | refine jB ?_ | refine jo rfl rfl (index_at rfl rfl rfl rfl rfl rfl rfl rfl h0 h1) rfl rfl ?_)
 exact jR
def rAll (ls : List Bs) : Bs → List Bs → List Int × Int
 | c :: cs, w :: ws => cond (decide ((rop ls c w).2 = 0)) (((rop ls c w).1 :: (rAll ls cs ws).1), (rAll ls cs ws).2) ([], (rop ls c w).2)
 | _, _ => ([], 0)
def rinstrK (ls : List Bs) (op : Int) (kd : Bs) (ws : List Bs) (n : Int) : Ins × Int :=
 cond (decide (ws.length = kd.length)) (cond (decide ((rAll ls kd ws).2 = 0)) (cond (decide (n ≥ 1000)) (default, 2) (⟨op, (rAll ls kd ws).1.getD 0 0, (rAll ls kd ws).1.getD 1 0, (rAll ls kd ws).1.getD 2 0⟩, 0)) (default, (rAll ls kd ws).2)) (default, 12)
def rinstr (ls : List Bs) (s : Bs) (n : Int) : Ins × Int :=
 match rsplit 32 s with
 | [] => (default, 10)
 | w :: ws => cond (decide (findOp w < 0)) (default, 10) (rinstrK ls (findOp w) (at' opK (findOp w)) ws n)
theorem rAll_ok (ls : List Bs) : ∀ (kd : Bs) (ws : List Bs), ws.length = kd.length → (∀ q, q < kd.length → (rop ls (kd.getD q 0) (ws.getD q [])).2 = 0) →
  (rAll ls kd ws).2 = 0 ∧ ∀ q, q < kd.length → (rAll ls kd ws).1.getD q 0 = (rop ls (kd.getD q 0) (ws.getD q [])).1
 | [], ws, _, _ => ⟨by simp [rAll], fun q h => absurd h (by simp)⟩
 | c :: kd, [], h, _ => by simp at h
 | c :: kd, w :: ws, h, ha => by
  have h0 := ha 0 (by simp)
  simp at h0
  obtain ⟨i1, i2⟩ := rAll_ok ls kd ws (by simpa using h) fun q hq => by simpa using ha (q + 1) (by simpa using hq)
  have e : rAll ls (c :: kd) (w :: ws) = ((rop ls c w).1 :: (rAll ls kd ws).1, (rAll ls kd ws).2) := by simp [rAll, h0]
  rw [e]
  refine ⟨i1, fun q hq => ?_⟩
  cases q with
  | zero => simp
  | succ q => simpa using i2 q (by simpa using hq)
theorem rAll_len (ls : List Bs) : ∀ (kd : Bs) (ws : List Bs), (rAll ls kd ws).1.length ≤ kd.length
 | [], ws => by simp [rAll]
 | c :: kd, [] => by simp [rAll]
 | c :: kd, w :: ws => by
  have := rAll_len ls kd ws
  simp only [rAll]
  cases decide ((rop ls c w).2 = 0) <;> simp <;> omega
theorem rAll_bad (ls : List Bs) : ∀ (kd : Bs) (ws : List Bs) (i : Nat), ws.length = kd.length → i < kd.length → (∀ q, q < i → (rop ls (kd.getD q 0) (ws.getD q [])).2 = 0) → (rop ls (kd.getD i 0) (ws.getD i [])).2 ≠ 0 →
  (rAll ls kd ws).2 = (rop ls (kd.getD i 0) (ws.getD i [])).2
 | [], ws, i, _, hi, _, _ => by simp at hi
 | c :: kd, [], i, h, _, _, _ => by simp at h
 | c :: kd, w :: ws, 0, h, _, _, hb => by
  simp at hb
  simp [rAll, hb]
 | c :: kd, w :: ws, i + 1, h, hi, ha, hb => by
  have h0 := ha 0 (by omega)
  simp at h0
  have e : rAll ls (c :: kd) (w :: ws) = ((rop ls c w).1 :: (rAll ls kd ws).1, (rAll ls kd ws).2) := by simp [rAll, h0]
  rw [e]
  simpa using rAll_bad ls kd ws i (by simpa using h) (by simpa using hi) (fun q hq => by simpa using ha (q + 1) (by omega)) (by simpa using hb)
theorem spSt_len (c : UInt8) (s : Bs) : ∀ i, ∀ x ∈ (spSt c s i).1, x.length ≤ s.length
 | 0, x, h => by simp [spSt] at h
 | i + 1, x, h => by
  have ih := spSt_len c s i
  unfold spSt at h
  cases hd : decide (s.getD i 0 = c) with
  | false => rw [hd] at h; exact ih x h
  | true =>
   rw [hd] at h
   rcases List.mem_append.1 h with h | h
   ·exact ih x h
   ·rw [List.mem_singleton.1 h, List.length_drop, List.length_take]; omega
theorem rsplit_len (c : UInt8) (s : Bs) : ∀ x ∈ rsplit c s, x.length ≤ s.length := fun x h => by
 rcases List.mem_append.1 h with h | h
 ·exact spSt_len c s _ x h
 ·rw [List.mem_singleton.1 h, List.length_drop]; omega
theorem opK_at (k : Nat) (hk : k < 27) : at' opK (k : Int) = (at' opsT (k : Int)).2 := by
 have h1 : k < opK.length := hk
 have h2 : k < opsT.length := hk
 rw [at_nat opK k h1, at_nat opsT k h2]
 simp [opK]
theorem rinstr_ok (ls : List Bs) (s : Bs) (n : Int) (hs : s.length ≤ 900000) (hls : ls.length ≤ 1000000) (hl : ∀ l ∈ ls, l.length ≤ 1000000) :
  ACalls Tryz.prog 48 [.sl (ls.map sv), sv s, iv n] [] (one (.tup [encIns (rinstr ls s n).1, iv (rinstr ls s n).2]) []) := by
 have hsp := rsplit_ok s 32 hs
 unfold rinstr
 cases hws : rsplit 32 s with
 | nil => exact absurd hws (by unfold rsplit; simp)
 | cons w r =>
  rw [hws] at hsp
  simp only
  refine jcalls Tryz.func48 rfl (by kernel_rfl) Tryz.ntmps48 rfl rfl (fun w0 β0 ext hβ => ?_)
  repeat (first | refine jS ?_ | refine jD ?_ | refine jB ?_ | refine jV hsp ?_)
  refine jloopI (fun k : Nat => k ≤ 27 ∧ ∀ i, i < k → at' opN (i : Int) ≠ w) [0, 1, 2, 6, 8, 9] (fun k => [.sl (ls.map sv), sv s, iv n, .ptr 0 0, .sl ((w :: r).map sv), .v (.int .i64 (k : Int))]) (fun _ => [.box 98 [iv 0, iv 0, iv 0, iv 0]]) (fun k => 27 - k) 0 ⟨Nat.zero_le _, fun i h => absurd h (by omega)⟩ rfl rfl (fun k hk => ?_)
  obtain ⟨hk, hno⟩ := hk
  by_cases hk2 : k < 27
  ·have hnm := opName_ok k hk2
   have e1 : decide ((k : Int) < 27) = true := decide_eq_true (by omega)
   have hw0 : (0 : Int) < (((w :: r).length : Nat) : Int) := by rw [List.length_cons]; omega
   have key : ((⟨(at' opN (k : Int)).toArray⟩ : ByteArray).toList != (⟨w.toArray⟩ : ByteArray).toList) = !decide (at' opN (k : Int) = w) := by rw [bne, str_eq]
   have hnx := idx_next hk2 (by omega)
   unfold sv iv at hnm
   repeat (first | refine jS ?_ | refine jD ?_ | refine jB ?_)
   rw [e1]
   repeat (first | refine jS ?_ | refine jD ?_ | refine jB ?_ | refine jV hnm ?_ | refine jo rfl rfl (index_at rfl rfl rfl rfl rfl rfl rfl rfl (by decide) hw0) rfl rfl ?_)
   have key := str_eq (at' opN (k : Int)) (at' (w :: r) 0)
   have ew : at' (w :: r) 0 = w := rfl
   rw [key, ew]
   cases hc : decide (at' opN (k : Int) = w) with
   | false =>
    have hc := of_decide_eq_false hc
    repeat (first | refine jS ?_ | refine jD ?_ | refine jB ?_)
    refine jnextI (k + 1) ⟨by omega, fun i hi => ?_⟩ ?_ rfl (by omega)
    ·by_cases hik : i = k
     ·subst hik; exact hc
     ·exact hno i (by omega)
    ·show some _ = some _
     rw [hnx]
   | true =>
    have hc := of_decide_eq_true hc
    have e27 : ((k : Int) == 27) = false := by simp; omega
    repeat (first | refine jS ?_ | refine jD ?_ | refine jB ?_)
    rw [e27]
    repeat (first | refine jS ?_ | refine jD ?_ | refine jB ?_)
    have hkd := opKind_ok k hk2
    obtain ⟨hk3, _⟩ := kinds_ok k hk2
    rw [← opK_at k hk2] at hk3
    have hf : findOp w = (k : Int) := by
     unfold findOp
     have hkl : k < opsT.length := hk2
     have hkl2 : k < opN.length := hk2
     rw [List.findIdx?_eq_some_iff_getElem.2 ⟨hkl, by
      rw [at_nat opN k hkl2] at hc
      simpa [opN] using hc, fun j hj => by
      have hjl : j < opN.length := by show j < 27; omega
      have e2 := hno j hj
      rw [at_nat opN j hjl] at e2
      simpa [opN] using e2⟩]
    rw [hf, decide_eq_false (show ¬ (k : Int) < 0 by omega)]
    simp only [cond_false]
    clear hno hf hc key ew hw0 e1
    generalize at' opK (k : Int) = kd at *
    unfold sv iv at hkd
    repeat (first | refine jS ?_ | refine jD ?_ | refine jB ?_ | refine jV hkd ?_)
    have hwb : r.length ≤ 1000000 := by
     have := (spSt_le 32 s s.length).2
     have h2 := congrArg List.length hws
     unfold rsplit at h2
     simp at h2
     omega
    have hcnd : ((((w :: r).map sv).length : Int) != IntKind.i64.wrap (1 + (ByteArray.size ⟨kd.toArray⟩ : Int))) = !decide (r.length = kd.length) := by
     have e1 : ByteArray.size ⟨kd.toArray⟩ = kd.length := rfl
     rw [e1, wrap_id (by omega) (by omega), Bool.eq_iff_iff]
     simp
     omega
    rw [hcnd]
    unfold rinstrK
    cases hb : decide (r.length = kd.length) with
    | false =>
     simp only [Bool.not_false, cond_false]
     repeat (first | refine jS ?_ | refine jD ?_ | refine jB ?_)
     exact jR
    | true =>
     have hlen := of_decide_eq_true hb
     simp only [Bool.not_true, cond_true]
     repeat (first | refine jS ?_ | refine jD ?_ | refine jB ?_)
     let ok : Nat → Prop := fun i => i ≤ kd.length ∧ ∀ q, q < i → (rop ls (kd.getD q 0) (r.getD q [])).2 = 0
     let vv : Nat → Nat → AVal := fun q i => iv (cond (decide (q < i)) (rop ls (kd.getD q 0) (r.getD q [])).1 0)
     refine jloopI ok [0, 2, 6, 8, 9, 10, 11, 12] (fun i => [.sl (ls.map sv), iv n, .ptr 0 0, .sl ((w :: r).map sv), .v (.int .i64 (k : Int)), sv kd, .ptr 1 0, .v (.int .i64 (i : Int))])
      (fun i => [.box 98 [iv 0, iv 0, iv 0, iv 0], .box 138 [vv 0 i, vv 1 i, vv 2 i]]) (fun i => kd.length - i) 0 ⟨Nat.zero_le _, fun q hq => absurd hq (by omega)⟩ rfl rfl (fun i hi => ?_)
     obtain ⟨hi, hok⟩ := hi
     have hkl : ByteArray.size ⟨kd.toArray⟩ = kd.length := rfl
     repeat (first | refine jS ?_ | refine jD ?_ | refine jB ?_)
     refine jc rfl rfl rfl (fun h => ?_) (fun h => ?_)
     ·have h := of_decide_eq_true h
      have hik : i < kd.length := by rw [hkl] at h; omega
      have hnx := idx_next hik (by omega)
      have hnx2 : IntKind.i64.wrap (1 + (i : Int)) = ((i + 1 : Nat) : Int) := by rw [Int.add_comm]; exact hnx
      have hwd : at' (w :: r) (IntKind.i64.wrap (1 + (i : Int))) = r.getD i [] := by
       rw [hnx2]; simp [at']; rfl
      obtain ⟨c, hc⟩ : ∃ c, kd[i]? = some c := ⟨_, List.getElem?_eq_getElem hik⟩
      have hcb := str_at hc
      have hcd : kd.getD i 0 = c := by simp [List.getD, hc]
      have hl1 : (0 : Int) ≤ IntKind.i64.wrap (1 + (i : Int)) := by rw [hnx2]; omega
      have hl2 : IntKind.i64.wrap (1 + (i : Int)) < ((w :: r).length : Int) := by rw [hnx2, List.length_cons]; omega
      have hwl2 : (at' (w :: r) (IntKind.i64.wrap (1 + (i : Int)))).length ≤ 1000000 := by
       rw [hwd]
       have hir : i < r.length := by omega
       have hm : r.getD i [] ∈ rsplit 32 s := by rw [hws]; refine List.mem_cons_of_mem _ ?_; simp [List.getD, hir]
       exact Nat.le_trans (rsplit_len 32 s _ hm) (by omega)
      have hop := rop_ok ls c (at' (w :: r) (IntKind.i64.wrap (1 + (i : Int)))) hwl2 hls hl
      have hrd : rop ls (kd.getD i 0) (r.getD i []) = rop ls c (at' (w :: r) (IntKind.i64.wrap (1 + (i : Int)))) := by rw [hwd, hcd]
      unfold sv at hop
      repeat (first | refine jS ?_ | refine jD ?_ | refine jB ?_ | refine jo rfl rfl (index_str rfl rfl rfl rfl (Int.natCast_nonneg i) hcb) rfl rfl ?_ | refine jo rfl rfl (index_at rfl rfl rfl rfl rfl rfl rfl rfl hl1 hl2) rfl rfl ?_ | refine jV hop ?_)
      generalize rop ls c (at' (w :: r) (IntKind.i64.wrap (1 + (i : Int)))) = p at *
      obtain ⟨p1, p2⟩ := p
      by_cases hp : p2 = 0
      ·subst hp
       have hok' : ok (i + 1) := ⟨by omega, fun q hq => by
        by_cases hqi : q = i
        ·subst hqi; rw [hrd]
        ·exact hok q (by omega)⟩
       have hi3 : i = 0 ∨ i = 1 ∨ i = 2 := by omega
       rcases hi3 with rfl | rfl | rfl
       all_goals (
        repeat (first | refine jS ?_ | refine jD ?_ | refine jB ?_ | refine jo rfl rfl (index_arr rfl rfl rfl rfl rfl (by omega) (by omega)) rfl rfl ?_)
       )
       all_goals refine jnextI (_ + 1) hok' ?_ ?_ ?_
       all_goals first | omega | rfl | (show _ = _; simp only [vv, hrd]; rfl)
      ·have hbad := rAll_bad ls kd r i hlen hik hok (by rw [hrd]; exact hp)
       rw [hrd] at hbad
       have hp' : (p2 != 0) = true := by simpa using hp
       rw [hbad, decide_eq_false hp]
       simp only [cond_false]
       simp only [hp']
       repeat (first | refine jS ?_ | refine jD ?_ | refine jB ?_)
       exact jR
     ·have h := of_decide_eq_false h
      have hi' : i = kd.length := by rw [hkl] at h; omega
      subst hi'
      obtain ⟨k1, k2⟩ := rAll_ok ls kd r hlen hok
      have hq : ∀ q, (rAll ls kd r).1.getD q 0 = cond (decide (q < kd.length)) (rop ls (kd.getD q 0) (r.getD q [])).1 0 := by
       intro q
       by_cases hql : q < kd.length
       ·rw [k2 q hql, decide_eq_true hql]; rfl
       ·rw [decide_eq_false hql]
        have := rAll_len ls kd r
        simp [List.getD, List.getElem?_eq_none (show (rAll ls kd r).1.length ≤ q by omega)]
      rw [k1, hq 0, hq 1, hq 2]
      simp only [decide_true, cond_true]
      repeat (first | refine jS ?_ | refine jD ?_ | refine jB ?_)
      cases hn : decide (n ≥ 1000) with
      | true =>
       repeat (first | refine jS ?_ | refine jD ?_ | refine jB ?_)
       exact jR
      | false =>
       repeat (first | refine jS ?_ | refine jD ?_ | refine jB ?_ | refine jo rfl rfl (index_arr rfl rfl rfl rfl rfl (by omega) (by omega)) rfl rfl ?_)
       exact jR
  ·have hk27 : k = 27 := by omega
   subst hk27
   have hf : findOp w = -1 := by
    unfold findOp
    rw [List.findIdx?_eq_none_iff.2 fun p hp => by
     obtain ⟨i, hi, rfl⟩ := List.getElem_of_mem hp
     have hi' : i < 27 := hi
     have e2 := hno i hi'
     have hl : i < opN.length := hi'
     rw [at_nat opN i hl] at e2
     simpa [opN] using e2]
   rw [hf]
   repeat (first | refine jS ?_ | refine jD ?_ | refine jB ?_)
   exact jR
end Go.AL
end
