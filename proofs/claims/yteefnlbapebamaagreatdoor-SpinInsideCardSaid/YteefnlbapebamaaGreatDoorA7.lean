/-
  Part 7 of the proof texts: the program logic over the model, then the contracts of the functions that the laws reach. No conditions.
-/
import Derived.Test.YteefnlbapebamaaGreatDoorA6
import Derived.WalkKit
set_option linter.unusedVariables false
set_option linter.unusedSimpArgs false
set_option maxHeartbeats 2000000
section
set_option maxRecDepth 100000
namespace Go.AL
open Go Go.Proofs
attribute [local irreducible] J
def look2 (m : Mp) (w : Bs) : Int × Int := match m.lookup w with | some n => (n, 0) | none => (0, 8)
def whereP (s w : Bs) : Int × Int := cond (decide ((parseP s).2.2 = 0)) (look2 (labels s) w) (0, (parseP s).2.2)
theorem where_ok (g : Gl) (s w : Bs) (hs : s.length ≤ 1000000) : ACalls Tryz.prog 123 [sv s, sv w] (gls g) (one (.tup [iv (whereP s w).1, iv (whereP s w).2]) (gls g)) := by
 have hp := parse_ok g s hs
 have hl := labels_ok s hs
 have hf := encM_find (labels s) w
 have hks := encM_keys (labels s)
 unfold whereP look2
 generalize parseP s = r at *
 obtain ⟨r1, r2, r3⟩ := r
 simp only at hp ⊢
 by_cases h0 : r3 = 0
 ·subst h0
  simp only [decide_true, cond_true]
  cases hlk : (labels s).lookup w with
  | none =>
   rw [hlk] at hf
   simp only [Option.map_none] at hf
   refine jcalls Tryz.func123 rfl (by kernel_rfl) Tryz.ntmps123 rfl rfl (fun w0 β0 ext hβ => ?_)
   repeat (first | refine jS ?_ | refine jD ?_ | refine jB ?_)
   refine jb [0,1,2,3] hp rfl rfl rfl ⟨rfl, rfl, rfl, rfl, rfl, rfl⟩ rfl rfl rfl rfl ?_
   repeat (first | refine jS ?_ | refine jD ?_ | refine jB ?_)
   refine jb [] hl rfl rfl rfl ⟨rfl, rfl, rfl, rfl, rfl, rfl⟩ rfl rfl rfl rfl ?_
   repeat (first | refine jS ?_ | refine jD ?_ | refine jB ?_ | refine jo rfl rfl (map_get rfl rfl rfl rfl rfl rfl rfl rfl rfl trivial hks hf rfl) rfl rfl ?_)
   exact jR
  | some n =>
   rw [hlk] at hf
   simp only [Option.map_some] at hf
   refine jcalls Tryz.func123 rfl (by kernel_rfl) Tryz.ntmps123 rfl rfl (fun w0 β0 ext hβ => ?_)
   repeat (first | refine jS ?_ | refine jD ?_ | refine jB ?_)
   refine jb [0,1,2,3] hp rfl rfl rfl ⟨rfl, rfl, rfl, rfl, rfl, rfl⟩ rfl rfl rfl rfl ?_
   repeat (first | refine jS ?_ | refine jD ?_ | refine jB ?_)
   refine jb [] hl rfl rfl rfl ⟨rfl, rfl, rfl, rfl, rfl, rfl⟩ rfl rfl rfl rfl ?_
   repeat (first | refine jS ?_ | refine jD ?_ | refine jB ?_ | refine jo rfl rfl (map_get rfl rfl rfl rfl rfl rfl rfl rfl rfl trivial hks hf rfl) rfl rfl ?_)
   exact jR
 ·rw [decide_eq_false h0]
  have e1 : (r3 != 0) = true := by simpa using h0
  refine jcalls Tryz.func123 rfl (by kernel_rfl) Tryz.ntmps123 rfl rfl (fun w0 β0 ext hβ => ?_)
  repeat (first | refine jS ?_ | refine jD ?_ | refine jB ?_)
  refine jb [0,1,2,3] hp rfl rfl rfl ⟨rfl, rfl, rfl, rfl, rfl, rfl⟩ rfl rfl rfl rfl ?_
  repeat (first | refine jS ?_ | refine jD ?_ | refine jB ?_)
  rw [e1]
  repeat (first | refine jS ?_ | refine jD ?_ | refine jB ?_)
  exact jR
def rwhere (s w : Bs) : Int × Int := cond (rtarget (rsplit 10 s) w).2 ((rtarget (rsplit 10 s) w).1, 0) (0, 8)
theorem where_eq (s w : Bs) : whereP s w = cond (decide ((rparse s).2.2 = 0)) (rwhere s w) (0, (rparse s).2.2) := by
 unfold whereP
 rw [parse_eq]
 by_cases h0 : (rparse s).2.2 = 0
 ·rw [decide_eq_true h0]
  simp only [cond_true]
  obtain ⟨x, hs, hc, hx⟩ := lines_split s
  have hx0 : x = [] := by
   unfold rparse at h0
   by_cases h4 : s.length > 40000
   ·rw [decide_eq_true h4] at h0; exact absurd h0 (by simp)
   ·rw [decide_eq_false h4] at h0
    simp only [cond_false] at h0
    have hlx : (rsplit 10 s).getLast? = some x := by rw [hs]; simp
    cases hb : bad1 (rpE (rlines s)) (rlines s).length with
    | some k =>
     rw [hb] at h0
     exact absurd h0 ((bad1_inv.2 k hb).2.2)
    | none =>
     rw [hb, hlx] at h0
     by_cases hx1 : x = []
     ·exact hx1
     ·rw [decide_eq_false (by simpa using hx1)] at h0
      exact absurd h0 (by simp)
  unfold look2 rwhere rtarget
  rw [labels_look, hs, hx0, List.findIdx?_append]
  have hno : ([([] : Bs)].findIdx? fun l => decide (l = w ++ [58])) = none := by
   simp [List.findIdx?_cons]
  rw [hno]
  cases hf : (rlines s).findIdx? (fun l => decide (l = w ++ [58])) with
  | none => simp
  | some i =>
   have hi : i < (rlines s).length := by
    have := List.findIdx?_eq_some_iff_getElem.1 hf
    obtain ⟨h, _⟩ := this
    exact h
   simp only [Option.map_some, Option.orElse_some, cond_true, Option.some_or]
   have : nl (rlines s ++ [[]]) i = nl (rlines s) i := by
    unfold nl
    rw [List.take_append_of_le_length (by omega)]
   simp [this]
 ·rw [decide_eq_false h0]; rfl
end Go.AL
end
section
set_option maxRecDepth 100000
namespace Go.AL
open Go Go.Proofs Go.RowKit
theorem cc_used (b : Nat) (w : World) (h0 : w.cell? ⟨b, 0, none⟩ = some (.pointer (some ⟨b, 0, none⟩))) :
  Calls Tryz.prog 80 #[.pointer (some ⟨b, 0, none⟩)] w fun e w' => e = .returned (.tuple #[]) ∧ w' = w := by
 obtain ⟨j, hj, _⟩ := Option.map_eq_some_iff.1 (show (Tryz.prog.info? 86).map (·.size) = some 2 by kernel_rfl)
 go_enter Tryz.func80, Tryz.ntmps80
 go_wp2
 rw [Lib.run_neq_ptr_same w _ Tryz.underlying83 hj]
 go_wp2
 go_end0
 exact ⟨rfl, rfl⟩
theorem cc_fresh (b : Nat) (w : World) (h0 : w.cell? ⟨b, 0, none⟩ = some (.pointer none)) (hsh : w.shape? b = some (86, 2)) (hfz : w.frozen? ⟨b, 0, none⟩ = false) :
  Calls Tryz.prog 80 #[.pointer (some ⟨b, 0, none⟩)] w fun e w' => e = .returned (.tuple #[]) ∧ w' = w.setCell ⟨b, 0, none⟩ (.pointer (some ⟨b, 0, none⟩)) := by
 obtain ⟨j, hj, hjs⟩ := Option.map_eq_some_iff.1 (show (Tryz.prog.info? 86).map (·.size) = some 2 by kernel_rfl)
 go_enter Tryz.func80, Tryz.ntmps80
 go_wp2
 rw [Lib.run_to_unsafe w ⟨b, 0, none⟩ Tryz.underlying83 Tryz.underlying183 hj (by rw [hjs]; decide) hsh (Nat.zero_lt_succ 1)]
 simp only [Result.andThen]
 rw [Oper.upon_value]
 go_wp2
 rw [run_callFunc_extern Tryz.func115 (by kernel_rfl) (by kernel_rfl) (by kernel_rfl) (e := Extern.AbiNoEscape.same) (by kernel_rfl)]
 rw [Lib.run_noEscape]
 simp only [Result.andThen]
 rw [Oper.upon_value]
 go_wp2
 rw [Lib.run_from_unsafe w ⟨b, 0, none⟩ Tryz.underlying183 Tryz.underlying83 hj hsh (by kernel_rfl)]
 simp only [Result.andThen]
 rw [Oper.upon_value]
 go_wp2
 go_end0
 exact ⟨rfl, rfl⟩
theorem bstr_row (b g cap : Nat) (p : Value) (cur : Array Value) (l : List UInt8) (w : World) (hbk : w.heap[b]? = some (.cells #[p, .slice (some ⟨g, 0, none⟩) l.length cap] 86 (0, 0))) (hg : w.heap[g]? = some (.cells cur 5 (0, 0)))
  (h0 : l ≠ []) (hcap : l.length ≤ cap) (hcur : cur.size = cap) (h63 : l.length ≤ 9223372036854775807) (hc : ∀ (j : Nat) (x : UInt8), l[j]? = some x → cur[j]? = some (Value.int .u8 x.toNat)) :
  Calls Tryz.prog 45 #[.pointer (some ⟨b, 0, none⟩)] w fun e w' => e = .returned (.string ⟨l.toArray⟩) ∧ w' = w.drew.freeze ⟨g, 0, none⟩ l.length := by
 have hl0 : 0 < l.length := List.length_pos_iff.2 h0
 have c1 : w.drew.cell? ⟨b, 1, none⟩ = some (.slice (some ⟨g, 0, none⟩) l.length cap) := by
  have : w.drew.heap[b]? = some (.cells #[p, .slice (some ⟨g, 0, none⟩) l.length cap] 86 (0, 0)) := hbk
  rw [Lib.cell_of_heap this]; rfl
 have hSD : (Builtin.unsafeSliceData_ #[84] 154 #[.slice (some ⟨g, 0, none⟩) l.length cap]).run Tryz.prog w.drew = .ok (.pointer (some ⟨g, 0, none⟩)) w.drew :=
  Lib.run_unsafeSliceData_row _ _ _ _ _ _ (by omega)
 have hUS : (Builtin.unsafeString_ #[154, 3] 9 #[.pointer (some ⟨g, 0, none⟩), .int .i64 l.length]).run Tryz.prog w.drew = .ok (.string ⟨l.toArray⟩) (w.drew.freeze ⟨g, 0, none⟩ l.length) := by
  refine Lib.run_unsafeString_row w.drew 154 3 9 5 Tryz.underlying154 (by kernel_rfl) g cur.size (by have hg' : w.drew.heap[g]? = some (.cells cur 5 (0, 0)) := hg; simp [World.shape?, hg']) l h0 (by omega) h63 ?_
  intro j x hx
  have hg' : w.drew.heap[g]? = some (.cells cur 5 (0, 0)) := hg
  have := hc j x hx
  simp only [Addr.add_lit, Nat.zero_add]
  rw [Lib.cell_of_heap hg']
  exact this
 go_enter Tryz.func45, Tryz.ntmps45
 go_wp2
 go_region
 all_goals (go_wp2; go_ret; exact ⟨rfl, rfl⟩)
end Go.AL
end
section
set_option maxRecDepth 100000
namespace Go.AL
open Go Go.Proofs
attribute [local irreducible] J
def adr (u : Bool) : AVal := cond u (.ptr 0 0) (.v (.pointer none))
def bldH (u : Bool) (g : Nat) (l : Bs) : List AObj := [.box 86 [adr u, .arr 1 g], .arr g 5 1 (l.map encB)]
theorem two_cells {vs : Array Value} {p s : Value} (h : vs.toList = [p, s]) : vs = #[p, s] := by
 apply Array.ext'; simpa using h
theorem cc_ok (u : Bool) (g : Nat) (l : Bs) : ACalls Tryz.prog 80 [.ptr 0 0] (bldH u g l) (one (.tup []) (bldH true g l)) := by
 refine ⟨⟨_, Tryz.func80, by kernel_rfl, by kernel_rfl⟩, fun ext w β us hI hx hr => ?_⟩
 obtain ⟨x, us', rfl, r0, rfl⟩ := hr
 obtain ⟨e, b, vs, he, hb, rfl, hc, hrl, hone, h0⟩ := box_of hI (j := 0) rfl r0
 obtain ⟨p, vs1, hvs, rp, s, vs2, rfl, rs, rfl⟩ := hrl
 obtain rfl := two_cells hvs
 have hcell : w.cell? ⟨b, 0, none⟩ = some p := by simp [World.cell?, hc]
 have hlt : b < w.heap.size := (Array.getElem?_eq_some_iff.1 hc).1
 cases u with
 | true =>
  obtain ⟨e', b', he', h0', hb', rfl⟩ := rp
  rw [he] at he'
  obtain rfl := Option.some.inj he'
  rw [hb] at hb'
  obtain rfl := Option.some.inj hb'
  refine (cc_used b w hcell).mono fun en w' ⟨h1, h2⟩ => ?_
  subst h1; subst h2
  exact ⟨.tup [], _, β, ⟨rfl, rfl⟩, ⟨#[], rfl, rfl⟩, hI, Step.refl _ _⟩
 | false =>
  have hp : p = .pointer none := rp
  subst hp
  refine (cc_fresh b w hcell (by simp [World.shape?, hc]) (by simp [World.frozen?, hc])).mono fun en w' ⟨h1, h2⟩ => ?_
  subst h1; subst h2
  have k1 : (w.setCell ⟨b, 0, none⟩ (.pointer (some ⟨b, 0, none⟩))).heap[b]? = some (.cells #[.pointer (some ⟨b, 0, none⟩), s] 86 (0, 0)) := by
   simp [World.setCell, Array.getElem?_modify, hc]
  have k2 : ∀ c, c ≠ b → (w.setCell ⟨b, 0, none⟩ (.pointer (some ⟨b, 0, none⟩))).heap[c]? = w.heap[c]? := fun c hne => RowKit.Below.heap_setCell _ _ _ _ hne
  have k3 : (w.setCell ⟨b, 0, none⟩ (.pointer (some ⟨b, 0, none⟩))).heap.size = w.heap.size := by simp [World.setCell]
  have hst : Step w β (w.setCell ⟨b, 0, none⟩ (.pointer (some ⟨b, 0, none⟩))) β := Step.write ⟨0, e, he, hb⟩ k3 k2 rfl rfl rfl
  have hI' := hI.write (a := .box 86 [.ptr 0 0, .arr 1 g]) he hb k3 k2 rfl rfl rfl ⟨h0, rfl, b, _, hb, k1, _, _, rfl, ⟨e, b, he, h0, hb, rfl⟩, _, _, rfl, rs.le (hst.le (ext := ext)), rfl⟩
  exact ⟨.tup [], _, β, ⟨rfl, rfl⟩, ⟨#[], rfl, rfl⟩, hI', hst⟩
theorem bld_regen {f : FuncId} {args : List AVal} {H : List AObj} {v : AVal} {g g' : Nat} {l : Bs} (hv : ∀ c c' u, Rel c v u → Rel c' v u) (h : ACalls Tryz.prog f args H (one v (bldH true g l))) (hg : g ≤ g') : ACalls Tryz.prog f args H (one v (bldH true g' l)) := by
 rcases Nat.eq_or_lt_of_le hg with rfl | hlt
 ·exact h
 refine ⟨h.enters, fun ext w β us hI hx hr => (h.calls ext w β us hI hx hr).mono fun en w' he => ?_⟩
 cases en with
 | returned u =>
  obtain ⟨v', H', β', ⟨h1, rfl⟩, h2, h3, h4⟩ := he
  injection h1 with h1
  subst h1
  have hl : β'.length = 2 := h3.len
  obtain ⟨e0, h0⟩ : ∃ e0, β'[0]? = some e0 := ⟨_, List.getElem?_eq_getElem (by omega)⟩
  obtain ⟨e1, h1⟩ : ∃ e1, β'[1]? = some e1 := ⟨_, List.getElem?_eq_getElem (by omega)⟩
  obtain ⟨q1, q0, q2, q3, q4, q5⟩ := h3.obj 1 _ e1 rfl h1
  obtain ⟨p1, p2, b, vs, hb, hc, p, vs1, hvs, rp, s, vs2, rfl, rs, rfl⟩ := h3.obj 0 _ e0 rfl h0
  obtain ⟨e2, f1, f2, f3, f4, f5⟩ : ∃ e2 : Ent, e2.blk = e1.blk ∧ e2.gen = g' ∧ e2.es = e1.es ∧ e2.cap = e1.cap ∧ e2.len = e1.len := ⟨{ e1 with gen := g' }, rfl, rfl, rfl, rfl, rfl⟩
  have hreg : Step w' β' w' (β'.set 1 e2) := Step.regen h1 (by omega) (by omega) (.inr f1)
  have hxt : ∀ b, ext b → b < w'.heap.size := fun b hb => Nat.lt_of_lt_of_le (hx b hb) h4.size
  have hI1 := h3.set (a := .arr g' 5 1 (l.map encB)) hxt h1 hreg (fun _ _ _ => rfl) (.inr (.inr f1)) ⟨f2, by omega, f3.trans q2, f5.trans q3, by rw [f4]; exact q4, by
   rw [f1, f4]
   cases hk : e1.blk with
   | none => rw [hk] at q5; exact q5
   | some bk =>
    rw [hk] at q5
    obtain ⟨cs, z1, z2, z3⟩ := q5
    exact ⟨cs, z1, z2, z3.le (hreg.le (ext := ext)).bare _ _ _ _⟩⟩
  have h0' : (β'.set 1 e2)[0]? = some e0 := by rw [List.getElem?_set_ne (by omega)]; exact h0
  have h1' : (β'.set 1 e2)[1]? = some e2 := List.getElem?_set_self (by omega)
  obtain ⟨rs1, ee, rs2, rs3, rs4⟩ := rs
  rw [h1] at rs2
  obtain rfl := Option.some.inj rs2
  have rsn : Rel (ctx ext w' (β'.set 1 e2)) (.arr 1 g') s := by
   obtain ⟨z1, z2⟩ := rs4 q1
   exact ⟨rs1, _, h1', by omega, fun _ => ⟨by omega, by rw [f1, f4, f5]; exact z2⟩⟩
  have hI2 := hI1.write (w' := w') (a := .box 86 [.ptr 0 0, .arr 1 g']) h0' hb rfl (fun _ _ => rfl) rfl rfl rfl ⟨p1, rfl, b, vs, hb, hc, p, _, hvs, rp.le (hreg.le (ext := ext)), s, [], rfl, rsn, rfl⟩
  exact ⟨_, _, _, ⟨rfl, rfl⟩, hv _ _ _ h2, hI2, h4.trans hreg⟩
 | panicked ch => obtain ⟨u, _, v', H', β', ⟨h1, _⟩, _⟩ := he; cases h1
 | outgrown => exact he.elim
theorem encB_elems (l : Bs) : ElemsOk 1 (l.map encB) := elems_map l fun x => ⟨rfl, rfl⟩
theorem wstr_g (u : Bool) (g : Nat) (l s : Bs) (hl : l.length + s.length ≤ 1000000000) : ACalls Tryz.prog 39 [.ptr 0 0, sv s] (bldH u g l) (one (.tup [iv s.length, .v .nilIface]) (bldH true (g + 1) (l ++ s))) := by
 have hc := cc_ok u g l
 have hlen : (l.map encB).length + s.length ≤ 140737488355328 := by rw [List.length_map]; omega
 have he := encB_elems l
 unfold bldH at *
 cases u
 all_goals refine jcalls Tryz.func39 rfl (by kernel_rfl) Tryz.ntmps39 rfl rfl (fun w0 β0 ext hβ => ?_)
 all_goals (
  repeat (first | refine jS ?_ | refine jD ?_ | refine jB ?_)
 )
 all_goals refine jb [0,1] hc rfl rfl rfl ⟨rfl, rfl, rfl, rfl, rfl, rfl⟩ rfl rfl rfl rfl ?_
 all_goals (
  repeat (first | refine jS ?_ | refine jD ?_ | refine jB ?_ | refine jo rfl rfl (append_text rfl rfl rfl rfl rfl rfl rfl rfl rfl rfl rfl he hlen) rfl rfl ?_)
 )
 all_goals rw [← List.map_append]
 all_goals exact jR
def bld (u : Bool) (l : Bs) : List AObj := bldH u (l.length + 1) l
theorem plainT (x y : Value) : ∀ c c' u, Rel c (.tup [.v x, .v y]) u → Rel c' (.tup [.v x, .v y]) u := fun c c' u ⟨a, h1, p, r, e, hp, q, r2, e2, hq, e3⟩ => ⟨a, h1, p, r, e, hp, q, r2, e2, hq, e3⟩
theorem wstr_ok (u : Bool) (l s : Bs) (hs : 0 < s.length) (hl : l.length + s.length ≤ 1000000000) : ACalls Tryz.prog 39 [.ptr 0 0, sv s] (bld u l) (one (.tup [iv s.length, .v .nilIface]) (bld true (l ++ s))) :=
 bld_regen (plainT _ _) (wstr_g u (l.length + 1) l s hl) (by rw [List.length_append]; omega)
theorem freeze_size (w : World) (a : Addr) (n : Nat) : (w.freeze a n).heap.size = w.heap.size := by
 unfold World.freeze; split <;> simp
theorem freeze_other (w : World) (a : Addr) (n : Nat) {c : Nat} (h : c ≠ a.block) : (w.freeze a n).heap[c]? = w.heap[c]? := by
 unfold World.freeze
 split
 ·rfl
 ·simp only [Array.getElem?_modify]
  rw [if_neg (fun e => h e.symm)]
theorem str_ok (u : Bool) (l : Bs) (h0 : l ≠ []) (h63 : l.length ≤ 1000000000) : ACalls Tryz.prog 45 [.ptr 0 0] (bld u l) (one (sv l) [.box 86 [adr u, .arr 1 (l.length + 1)], .dead (l.length + 2)]) := by
 unfold bld bldH
 refine ⟨⟨_, Tryz.func45, by kernel_rfl, by kernel_rfl⟩, fun ext w β us hI hx hr => ?_⟩
 obtain ⟨x, us', rfl, r0, rfl⟩ := hr
 obtain ⟨e, b, vs, he, hb, rfl, hc, hrl, hone, hg0⟩ := box_of hI (j := 0) rfl r0
 obtain ⟨p, vs1, hvs, rp, s, vs2, rfl, rs, rfl⟩ := hrl
 obtain rfl := two_cells hvs
 obtain ⟨e1, h1, q1, q0, q2, q3, q4, q5⟩ := arr_open hI (j := 1) rfl rs
 have hl0 : 0 < l.length := List.length_pos_iff.2 h0
 rw [List.length_map] at q3 q4
 rcases q5 with ⟨_, hn, _⟩ | ⟨bk, cs, hbk, rfl, hcs, hsz, hrow⟩
 ·exact absurd (List.map_eq_nil_iff.1 hn) h0
 rw [Nat.mul_one] at hsz
 rw [List.length_map] at hc
 refine (bstr_row b bk e1.cap p cs l w hc hcs h0 (by omega) hsz (by omega) fun j c hj => ?_).mono fun en w' ⟨k1, k2⟩ => ?_
 ·obtain ⟨v, hv1, hv2, hv3⟩ := hrow.get (i := j) (a := encB c) (by rw [List.getElem?_map, hj]; rfl)
  have hv : v = .int .u8 c.toNat := hv1
  subst hv
  have h9 := hv3 0 (by omega)
  simp only [Nat.zero_add, Nat.mul_one, Nat.add_zero] at h9
  exact h9.trans rfl
 ·subst k1; subst k2
  have hS1 : Step w β w.drew β := (drew_same w).step β
  have hS2 : Step w.drew β (w.drew.freeze ⟨bk, 0, none⟩ l.length) β := Step.write ⟨1, e1, h1, hbk⟩ (freeze_size _ _ _) (fun c hc => freeze_other _ _ _ hc) (by unfold World.freeze; split <;> rfl) (by unfold World.freeze; split <;> rfl) (by unfold World.freeze; split <;> rfl)
  have hS3 : Step (w.drew.freeze ⟨bk, 0, none⟩ l.length) β (w.drew.freeze ⟨bk, 0, none⟩ l.length) (β.set 1 ⟨none, l.length + 2, 1, 0, 0⟩) := Step.regen h1 (by omega) (by simp only; omega) (.inl rfl)
  have hS := (hS1.trans hS2).trans hS3
  refine ⟨_, _, _, ⟨rfl, rfl⟩, rfl, hI.set (a := .dead (l.length + 2)) hx h1 hS (fun c hc hne => ?_) (.inr (.inl rfl)) ⟨rfl, by omega, rfl⟩, hS⟩
  exact (freeze_other _ _ _ (fun e => hne (by rw [hbk, e]))).trans rfl
end Go.AL
end
section
set_option maxRecDepth 100000
namespace Go.AL
open Go Go.Proofs
def ltx (ls : List Bs) : Bs := ls.flatMap (· ++ [10])
theorem ltx_app (a b : List Bs) : ltx (a ++ b) = ltx a ++ ltx b := by simp [ltx]
theorem ltx_cons (a : Bs) (b : List Bs) : ltx (a :: b) = a ++ [10] ++ ltx b := by simp [ltx]
theorem rsplit_ltx {ls : List Bs} (h : ∀ l ∈ ls, (10 : UInt8) ∉ l) : rsplit 10 (ltx ls) = ls ++ [[]] := by
 rw [rsplit_eq]; exact cuts_lines 10 ls h
theorem rlines_ltx {ls : List Bs} (h : ∀ l ∈ ls, (10 : UInt8) ∉ l) : rlines (ltx ls) = ls := by
 unfold rlines; rw [rsplit_ltx h]; simp
def LnOk (ls : List Bs) (l : Bs) : Option Ins → Prop
 | none => rlab l = true ∧ rname l.dropLast = true
 | some i => rlab l = false ∧ ∃ k ws, LineOk ls l k ws ∧ insOf ls k ws = i
theorem lines_state (x : List (Bs × Option Ins)) (h : ∀ y ∈ x, LnOk (x.map (·.1)) y.1 y.2) (hd : ((x.map (·.1)).filter fun l => rlab l).Nodup) (hc : (x.filterMap (·.2)).length ≤ 1000) :
  ∀ k, k ≤ x.length → rpSt (x.map (·.1)) k = (x.take k).filterMap (·.2) ∧ ∀ q, q < k → rpE (x.map (·.1)) q = 0
 | 0, _ => ⟨by simp [rpSt], fun q hq => absurd hq (by omega)⟩
 | k + 1, hk => by
  obtain ⟨i1, i2⟩ := lines_state x h hd hc k (by omega)
  have hk2 : k < x.length := by omega
  have hkl : k < (x.map (·.1)).length := by rw [List.length_map]; exact hk2
  have hat : (x.map (·.1))[k] = x[k].1 := by simp
  have hs := rpSt_succ hkl
  have ht : (x.take (k + 1)).filterMap (·.2) = (x.take k).filterMap (·.2) ++ (match x[k].2 with | none => [] | some i => [i]) := by
   rw [List.take_succ_eq_append_getElem hk2, List.filterMap_append]
   congr 1
   cases e : x[k].2 <;> simp [e]
  have hlk := h x[k] (List.getElem_mem hk2)
  rw [hat] at hs
  have hE : rpE (x.map (·.1)) k = cond (rlab x[k].1) (cond (rname x[k].1.dropLast) (cond (((x.map (·.1)).take k).any fun l => decide (l = x[k].1)) 11 0) 12) (rinstr (x.map (·.1)) x[k].1 (rpSt (x.map (·.1)) k).length).2 := by
   unfold rpE
   rw [getD_at hkl, hat]
  have hnext : rpE (x.map (·.1)) k = 0 → ∀ q, q < k + 1 → rpE (x.map (·.1)) q = 0 := fun h0 q hq => by
   by_cases e : q = k
   ·subst e; exact h0
   ·exact i2 q (by omega)
  cases e : x[k].2 with
  | none =>
   rw [e] at hlk ht
   obtain ⟨l1, l2⟩ := hlk
   rw [l1] at hs hE
   rw [l2] at hE
   simp only [cond_true] at hs hE
   refine ⟨by rw [hs, ht, i1]; simp, hnext ?_⟩
   rw [hE]
   have hno : ((x.map (·.1)).take k).any (fun l => decide (l = x[k].1)) = false := by
    rw [List.any_eq_false]
    intro l hl e2
    have e2 := of_decide_eq_true e2
    subst e2
    have hsp : x.map (·.1) = (x.map (·.1)).take k ++ (x.map (·.1))[k] :: (x.map (·.1)).drop (k + 1) := by
     rw [← List.drop_eq_getElem_cons hkl, List.take_append_drop]
    rw [hsp, List.filter_append, hat, List.filter_cons_of_pos (by simpa using l1)] at hd
    have := (List.nodup_append.1 hd).2.2 x[k].1 (List.mem_filter.2 ⟨hl, by simpa using l1⟩) x[k].1 (List.mem_cons_self ..)
    exact this rfl
   rw [hno]; rfl
  | some i =>
   rw [e] at hlk ht
   obtain ⟨l1, kk, ws, l2, l3⟩ := hlk
   rw [l1] at hs hE
   simp only [cond_false] at hs hE
   have hlen : ((x.take (k + 1)).filterMap (·.2)).length ≤ (x.filterMap (·.2)).length := ((List.take_sublist (k + 1) x).filterMap _).length_le
   have hl2 : (rpSt (x.map (·.1)) k).length < 1000 := by
    rw [i1]
    rw [ht] at hlen
    simp at hlen
    omega
   have hr := rinstr_of l2 ((rpSt (x.map (·.1)) k).length : Int)
   rw [decide_eq_false (by omega : ¬ ((rpSt (x.map (·.1)) k).length : Int) ≥ 1000), l3] at hr
   simp only [cond_false] at hr
   rw [hr] at hs hE
   exact ⟨by rw [hs, ht, i1], hnext hE⟩
theorem of_lines (x : List (Bs × Option Ins)) (h : ∀ y ∈ x, LnOk (x.map (·.1)) y.1 y.2) (hd : ((x.map (·.1)).filter fun l => rlab l).Nodup) (hn : ∀ l ∈ x.map (·.1), (10 : UInt8) ∉ l)
  (hl : (ltx (x.map (·.1))).length ≤ 40000) (hc : (x.filterMap (·.2)).length ≤ 1000) : rparse (ltx (x.map (·.1))) = (x.filterMap (·.2), 0, 0) := by
 obtain ⟨h1, h2⟩ := lines_state x h hd hc x.length (Nat.le_refl _)
 rw [List.take_length] at h1
 have hll : (x.map (·.1)).length = x.length := List.length_map _
 unfold rparse
 rw [decide_eq_false (by omega : ¬ (ltx (x.map (·.1))).length > 40000), rlines_ltx hn, rsplit_ltx hn, hll, bad1_none h2]
 simp only [cond_false]
 rw [h1]
 simp
theorem nlA (A : List Bs) : nl A A.length = ((A.filter fun l => !rlab l).length : Nat) := by unfold nl; rw [List.take_length]
theorem rtarget_at (A B : List Bs) (w : Bs) (h : w ++ [58] ∉ A) : rtarget (A ++ (w ++ [58]) :: B) w = (((A.filter fun l => !rlab l).length : Int), true) := by
 have h0 : A.findIdx? (fun l => decide (l = w ++ [58])) = none := by
  rw [List.findIdx?_eq_none_iff]
  intro x hx
  exact decide_eq_false fun e => h (e ▸ hx)
 unfold rtarget
 rw [List.findIdx?_append, h0, List.findIdx?_cons]
 simp only [decide_true, if_true, Option.map_some, Option.none_or, Nat.zero_add]
 rw [nl_left A _ (Nat.le_refl _), nlA]
theorem where_ltx {ls : List Bs} (hn : ∀ l ∈ ls, (10 : UInt8) ∉ l) (hp : (rparse (ltx ls)).2.2 = 0) {w : Bs} {p : Int} (ht : rtarget ls w = (p, true)) : whereP (ltx ls) w = (p, 0) := by
 rw [where_eq, hp]
 unfold rwhere
 rw [rsplit_ltx hn, tgt_l [[]] (by rw [ht]), ht]; rfl
theorem tgt_pre {l1 : List Bs} (l2 : List Bs) {w : Bs} {p : Int} (h : rtarget l1 w = (p, true)) : rtarget (l1 ++ l2) w = (p, true) := by
 rw [tgt_l l2 (by rw [h]), h]
def tgD (tg : List (Bs × Int)) (s : Bs) : Int × Int := match tg.lookup s with | some p => (p, 0) | none => (0, 11)
def ropD (tg : List (Bs × Int)) (k : UInt8) (s : Bs) : Int × Int := cond (decide (k = 114)) (rdR s) (cond (decide (k = 110)) (ropN s) (cond (rname s) (tgD tg s) (0, 3)))
def tgOk (ls : List Bs) (tg : List (Bs × Int)) : Prop := ∀ w p, tg.lookup w = some p → rtarget ls w = (p, true)
theorem tgOk_of {ls : List Bs} {tg : List (Bs × Int)} (h : ∀ y ∈ tg, rtarget ls y.1 = (y.2, true)) : tgOk ls tg := fun w p hw => by
 induction tg with
 | nil => cases hw
 | cons y ys ih =>
  rw [List.lookup_cons] at hw
  split at hw
  ·rename_i he
   have e1 : w = y.1 := by simpa using he
   injection hw with e2
   rw [e1, ← e2]
   exact h y (List.mem_cons_self ..)
  ·exact ih (fun z hz => h z (List.mem_cons_of_mem _ hz)) hw
theorem ropD_ok {ls : List Bs} {tg : List (Bs × Int)} (h : tgOk ls tg) {k : UInt8} {s : Bs} (h0 : (ropD tg k s).2 = 0) : rop ls k s = ropD tg k s := by
 unfold ropD at h0 ⊢
 unfold rop ropT
 cases h1 : decide (k = 114) with
 | true => rfl
 | false =>
  cases h2 : decide (k = 110) with
  | true => rfl
  | false =>
   rw [h1, h2] at h0
   cases h3 : rname s with
   | false => rfl
   | true =>
    rw [h3] at h0
    simp only [cond_false, cond_true] at h0 ⊢
    unfold tgD at h0 ⊢
    cases h4 : tg.lookup s with
    | none => rw [h4] at h0; cases h0
    | some p => rw [h _ _ h4]; rfl
def allD (tg : List (Bs × Int)) : Bs → List Bs → Option (List Int)
 | [], [] => some []
 | c :: cs, w :: ws => cond (decide ((ropD tg c w).2 = 0)) ((allD tg cs ws).map ((ropD tg c w).1 :: ·)) none
 | _, _ => none
theorem allD_ok {ls : List Bs} {tg : List (Bs × Int)} (h : tgOk ls tg) : ∀ (kd : Bs) (ws : List Bs) (vs : List Int), allD tg kd ws = some vs →
  ws.length = kd.length ∧ (∀ q, q < kd.length → (rop ls (kd.getD q 0) (ws.getD q [])).2 = 0) ∧ (rAll ls kd ws).1 = vs
 | [], [], vs, e => by
  cases e
  exact ⟨rfl, fun q hq => absurd hq (by simp), by simp [rAll]⟩
 | [], _ :: _, vs, e => by cases e
 | _ :: _, [], vs, e => by cases e
 | c :: cs, w :: ws, vs, e => by
  unfold allD at e
  cases h1 : decide ((ropD tg c w).2 = 0) with
  | false => rw [h1] at e; cases e
  | true =>
   rw [h1] at e
   simp only [cond_true] at e
   have h1 := of_decide_eq_true h1
   have hr := ropD_ok h h1
   cases h2 : allD tg cs ws with
   | none => rw [h2] at e; cases e
   | some us =>
    rw [h2] at e
    simp only [Option.map_some, Option.some.injEq] at e
    subst e
    obtain ⟨k1, k2, k3⟩ := allD_ok h cs ws us h2
    refine ⟨by simp [k1], fun q hq => ?_, ?_⟩
    ·cases q with
     | zero => show (rop ls c w).2 = 0; rw [hr]; exact h1
     | succ q => exact k2 q (by simpa using hq)
    ·unfold rAll
     rw [hr, decide_eq_true h1, k3]; rfl
def lineD (tg : List (Bs × Int)) (l : Bs) : Option Ins :=
 match rsplit 32 l with
 | [] => none
 | w :: ws => cond (decide (0 ≤ findOp w) && decide ((findOp w).toNat < 27))
   ((allD tg (at' opsT (((findOp w).toNat : Nat) : Int)).2 ws).map fun vs => ⟨(((findOp w).toNat : Nat) : Int), vs.getD 0 0, vs.getD 1 0, vs.getD 2 0⟩) none
def lnD (tg : List (Bs × Int)) (l : Bs) : Option (Option Ins) := cond (rlab l) (cond (rname l.dropLast) (some none) none) ((lineD tg l).map some)
theorem lnD_ok {ls : List Bs} {tg : List (Bs × Int)} (h : tgOk ls tg) {l : Bs} {o : Option Ins} (e : lnD tg l = some o) : LnOk ls l o := by
 unfold lnD at e
 cases h1 : rlab l with
 | true =>
  rw [h1] at e
  cases h2 : rname l.dropLast with
  | false => rw [h2] at e; cases e
  | true =>
   rw [h2] at e
   cases e
   exact ⟨h1, h2⟩
 | false =>
  rw [h1] at e
  simp only [cond_false] at e
  unfold lineD at e
  cases h2 : rsplit 32 l with
  | nil => rw [h2] at e; cases e
  | cons w ws =>
   rw [h2] at e
   simp only at e
   cases h3 : decide (0 ≤ findOp w) && decide ((findOp w).toNat < 27) with
   | false => rw [h3] at e; cases e
   | true =>
    rw [h3] at e
    simp only [cond_true] at e
    rw [Bool.and_eq_true] at h3
    have h4 := of_decide_eq_true h3.1
    have h5 := of_decide_eq_true h3.2
    have hk : findOp w = (((findOp w).toNat : Nat) : Int) := by omega
    generalize (findOp w).toNat = k at *
    cases h6 : allD tg (at' opsT (k : Int)).2 ws with
    | none => rw [h6] at e; cases e
    | some vs =>
     rw [h6] at e
     simp only [Option.map_some, Option.some.injEq] at e
     subst e
     obtain ⟨k1, k2, k3⟩ := allD_ok h _ _ _ h6
     refine ⟨h1, k, ws, ⟨h5, ⟨w, h2, hk⟩, k1, k2⟩, ?_⟩
     unfold insOf
     rw [k3]
def blk (tg : List (Bs × Int)) (C : List Bs) : List (Bs × Option Ins) := C.map fun l => (l, (lnD tg l).getD none)
theorem blk_ok {ls : List Bs} {tg : List (Bs × Int)} (h : tgOk ls tg) {C : List Bs} (hC : (C.all fun l => (lnD tg l).isSome) = true) : ∀ y ∈ blk tg C, LnOk ls y.1 y.2 := fun y hy => by
 obtain ⟨l, hl, rfl⟩ := List.mem_map.1 hy
 have := List.all_eq_true.1 hC l hl
 cases e : lnD tg l with
 | none => rw [e] at this; cases this
 | some o =>
  simp only [e, Option.getD_some]
  exact lnD_ok h e
theorem blk_lines (tg : List (Bs × Int)) (C : List Bs) : (blk tg C).map (·.1) = C := by
 unfold blk
 rw [List.map_map]
 exact List.map_id'' (fun _ => rfl) C
end Go.AL
end
section
set_option maxRecDepth 100000
namespace Go.AL
open Go Go.Proofs
theorem rop_may {ls : List Bs} {c : UInt8} {s : Bs} {N : Nat} (hN : nl ls ls.length = (N : Int)) (hc : c = 114 ∨ c = 110 ∨ c = 116) (h : (rop ls c s).2 = 0) : mayV (some c) N (rop ls c s).1 = true := by
 unfold mayV
 refine inn_iff.2 ?_
 rcases hc with rfl | rfl | rfl
 ·show (0 : Int) ≤ (rdR s).1 ∧ (rdR s).1 ≤ 7
  have h : (rdR s).2 = 0 := h
  rcases s with _ | ⟨a, _ | ⟨b, _ | ⟨c, t⟩⟩⟩
  ·exact absurd (show (3 : Int) = 0 from h) (by decide)
  ·exact absurd (show (3 : Int) = 0 from h) (by decide)
  ·have e0 : rdR [a, b] = cond (decide (a.toNat = 114)) (cond (inn b.toNat 48 55) ((b.toNat : Int) - 48, 0) (0, 3)) (0, 3) := rfl
   rw [e0] at h ⊢
   cases h1 : decide (a.toNat = 114) with
   | false => rw [h1] at h; exact absurd (show (3 : Int) = 0 from h) (by decide)
   | true =>
    rw [h1] at h
    cases h2 : inn b.toNat 48 55 with
    | false => rw [h2] at h; exact absurd (show (3 : Int) = 0 from h) (by decide)
    | true =>
     obtain ⟨k1, k2⟩ := inn_iff.1 h2
     simp only [cond_true]
     exact ⟨by omega, by omega⟩
  ·exact absurd (show (3 : Int) = 0 from h) (by decide)
 ·show (-1000000000 : Int) ≤ (ropN s).1 ∧ (ropN s).1 ≤ 1000000000
  exact ropN_bd s
 ·show (0 : Int) ≤ (ropT ls s).1 ∧ (ropT ls s).1 ≤ (N : Int)
  unfold ropT
  cases rname s
  ·exact ⟨Int.le_refl 0, by simp⟩
  ·unfold rtarget
   cases hf : ls.findIdx? (fun l => decide (l = s ++ [58])) with
   | none => exact ⟨Int.le_refl 0, by simp⟩
   | some i =>
    obtain ⟨hi, _⟩ := List.findIdx?_eq_some_iff_getElem.1 hf
    have h1 := nl_le ls i
    have h2 := nl_mono ls (show i ≤ ls.length by omega)
    simp only [cond_true]
    exact ⟨h1.1, by omega⟩
theorem insOf_may {ls : List Bs} {l : Bs} {k : Nat} {ws : List Bs} {N : Nat} (hN : nl ls ls.length = (N : Int)) (h : LineOk ls l k ws) : mayI N (insOf ls k ws) = true := by
 obtain ⟨hk, hw, hln, ha⟩ := h
 have hkd := (kd_of k hk).2
 have hg : ∀ q, mayV (kdO k)[q]? N ((rAll ls (at' opsT (k : Int)).2 ws).1.getD q 0) = true := fun q => by
  rw [rAll_get hln ha]
  by_cases hq : q < (at' opsT (k : Int)).2.length
  ·rw [decide_eq_true hq]
   have hq2 : q < (kdO k).length := hq
   rw [List.getElem?_eq_getElem hq2]
   have hm := List.all_eq_true.1 hkd _ (List.getElem_mem hq2)
   have he : (at' opsT (k : Int)).2.getD q 0 = (kdO k)[q] := by
    show (kdO k).getD q 0 = _
    simp [List.getD, hq2]
   rw [he]
   have ha := ha q hq
   rw [he] at ha
   refine rop_may hN ?_ ha
   simpa using hm
  ·rw [decide_eq_false hq]
   have hq2 : (kdO k).length ≤ q := by
    have : ¬ q < (kdO k).length := hq
    omega
   rw [List.getElem?_eq_none hq2]
   rfl
 unfold mayI insOf
 simp only
 have e : ((k : Int)).toNat = k := by omega
 rw [e, hg 0, hg 1, hg 2, inn_iff.2 (show (0 : Int) ≤ (k : Int) ∧ (k : Int) ≤ 26 from ⟨by omega, by omega⟩)]
 rfl
theorem rpSt_may {ls : List Bs} {N : Nat} (hN : nl ls ls.length = (N : Int)) (hz : ∀ q, q < ls.length → rpE ls q = 0) : ∀ k, k ≤ ls.length → (rpSt ls k).length ≤ 1000 ∧ ∀ i ∈ rpSt ls k, mayI N i = true
 | 0, _ => ⟨by simp [rpSt], fun i h => absurd h (by simp [rpSt])⟩
 | k + 1, hk => by
  have hk2 : k < ls.length := by omega
  obtain ⟨i1, i2⟩ := rpSt_may hN hz k (by omega)
  have hE := hz k hk2
  unfold rpE at hE
  rw [getD_at hk2] at hE
  rw [rpSt_succ hk2]
  cases hr : rlab ls[k] with
  | true => exact ⟨i1, i2⟩
  | false =>
   rw [hr] at hE
   simp only [cond_false] at hE ⊢
   obtain ⟨kk, ws, hL, hn, e⟩ := rinstr_inv hE
   rw [e]
   refine ⟨by simp; omega, fun i h => ?_⟩
   rcases List.mem_append.1 h with h | h
   ·exact i2 i h
   ·rw [List.mem_singleton.1 h]
    exact insOf_may hN hL
theorem parse_right {s : Bs} (h : (rparse s).2.2 = 0) : rightC (rparse s).1 = true := by
 obtain ⟨h1, h2, h3, h4⟩ := rparse_good h
 rw [h4]
 have hN := (rpSt_nl (rlines s) _ (Nat.le_refl _)).symm
 obtain ⟨k1, k2⟩ := rpSt_may hN h3 _ (Nat.le_refl _)
 unfold rightC
 rw [decide_eq_true k1, Bool.true_and, List.all_eq_true]
 exact k2
theorem where_right {s w : Bs} (h : (rparse s).2.2 = 0) : 0 ≤ (rwhere s w).1 ∧ (rwhere s w).1 ≤ (rparse s).1.length := by
 obtain ⟨h1, h2, h3, h4⟩ := rparse_good h
 rw [h4]
 unfold rwhere
 rw [h2]
 cases hb : (rtarget (rlines s ++ [[]]) w).2 with
 | false => exact ⟨Int.le_refl 0, by simp⟩
 | true =>
  simp only [cond_true]
  have hN := rpSt_nl (rlines s) _ (Nat.le_refl _)
  unfold rtarget at hb ⊢
  cases hf : (rlines s ++ [[]]).findIdx? (fun l => decide (l = w ++ [58])) with
  | none => rw [hf] at hb; cases hb
  | some i =>
   obtain ⟨hi, hi2, _⟩ := List.findIdx?_eq_some_iff_getElem.1 hf
   simp only
   rw [hN]
   have hil : i ≤ (rlines s).length := by simp at hi; omega
   rw [nl_left _ _ hil]
   have := nl_le (rlines s) i
   have := nl_mono (rlines s) hil
   omega
end Go.AL
end
section
set_option maxRecDepth 100000
namespace Go.AL
open Go Go.Proofs
def kH : List Bs := [[104,97,108,116]]
theorem blk_mem {ls : List Bs} {tg : List (Bs × Int)} (h : tgOk ls tg) {C D : List Bs} (hC : (D.all fun l => (lnD tg l).isSome) = true) (hs : ∀ l ∈ C, l ∈ D) : ∀ y ∈ blk tg C, LnOk ls y.1 y.2 :=
 blk_ok h (List.all_eq_true.2 fun l hl => List.all_eq_true.1 hC l (hs l hl))
theorem flatL {α : Type} (f : α → List Bs) (n : Nat) : ∀ (l : List α), (∀ x ∈ l, (ltx (f x)).length ≤ n) → (ltx (l.flatMap f)).length ≤ n * l.length
 | [], _ => by simp [ltx]
 | x :: xs, h => by
  have := flatL f n xs fun y hy => h y (List.mem_cons_of_mem _ hy)
  have h1 := h x (List.mem_cons_self ..)
  rw [List.flatMap_cons, ltx_app, List.length_append, List.length_cons, Nat.mul_add]
  omega
theorem flatC {α β γ : Type} (f : α → List β) (g : β → Option γ) (n : Nat) : ∀ (l : List α), (∀ x ∈ l, ((f x).filterMap g).length ≤ n) → ((l.flatMap f).filterMap g).length ≤ n * l.length
 | [], _ => by simp
 | x :: xs, h => by
  have := flatC f g n xs fun y hy => h y (List.mem_cons_of_mem _ hy)
  have h1 := h x (List.mem_cons_self ..)
  rw [List.flatMap_cons, List.filterMap_append, List.length_append, List.length_cons, Nat.mul_add]
  omega
end Go.AL
end
section
set_option maxRecDepth 100000
namespace Go.AL
open Go Go.Proofs
def spC : List Bs := [[108,111,99,107,58], [115,101,116,32,114,49,32,48], [115,101,116,32,114,50,32,49], [99,97,115,32,114,49,32,114,48,32,114,50], [122,101,114,111,32,114,49,32,108,111,99,107,101,100], [119,97,105,116,32,114,49,32,114,48], [106,117,109,112,32,108,111,99,107], [108,111,99,107,101,100,58], [114,101,116], [117,110,108,111,99,107,58], [115,101,116,32,114,49,32,48], [120,99,104,103,32,114,49,32,114,48], [114,101,116]]
def spTg : List (Bs × Int) := [([108,111,99,107], 0), ([108,111,99,107,101,100], 6), ([117,110,108,111,99,107], 7)]
def turnC : List Bs := [[115,101,116,32,114,48,32,49], [99,97,108,108,32,108,111,99,107], [109,97,114,107,32,50], [115,101,116,32,114,52,32,50], [108,111,97,100,32,114,53,32,114,52,32,48], [112,108,117,115,32,114,53,32,114,53,32,49], [115,116,111,114,101,32,114,53,32,114,52,32,48], [109,97,114,107,32,51], [115,101,116,32,114,48,32,49], [99,97,108,108,32,117,110,108,111,99,107]]
def tname (i : Nat) : Bs := 116 :: Lib.itoa i
def tlab (i : Nat) : Bs := tname i ++ [58]
theorem tname_inj {m n : Nat} (h : tname m = tname n) : m = n := by
 refine lname_inj ?_
 unfold tname at h
 unfold lname
 injection h with h1 h2
 rw [h2]
theorem tlab_inj {m n : Nat} (h : tlab m = tlab n) : m = n := tname_inj (List.append_cancel_right h)
theorem tname_wch (n : Nat) : (tname n).all wch = true := by
 have := lname_wch n
 unfold lname at this
 unfold tname
 simp only [List.all_cons, Bool.and_eq_true] at this ⊢
 exact ⟨by decide, this.2⟩
theorem tname_name {n : Nat} (h : n ≤ 1000) : rname (tname n) = true := by
 have := lname_name h
 unfold lname rname at this
 unfold tname rname
 simp only [List.all_cons, Bool.and_eq_true] at this ⊢
 obtain ⟨⟨⟨h1, h2⟩, h3⟩, h4, h5⟩ := this
 exact ⟨⟨⟨h1, by decide⟩, by decide⟩, by decide, h5⟩
def thrLn (i : Nat) (n : Int) : List Bs := tlab i :: ((List.replicate n.toNat turnC).flatten ++ kH)
def thrIt (i : Nat) (n : Int) : List (Bs × Option Ins) := (tlab i, none) :: ((List.replicate n.toNat (blk spTg turnC)).flatten ++ blk spTg kH)
def spThr (ts : List Int) (k : Nat) : List Bs := (ts.zipIdx k).flatMap fun p => thrLn p.2 p.1
def spLn (ts : List Int) : List Bs := spC ++ spThr ts 0
def spIt (ts : List Int) : List (Bs × Option Ins) := blk spTg spC ++ ts.zipIdx.flatMap fun p => thrIt p.2 p.1
def spCode (ts : List Int) : List Ins := (spIt ts).filterMap (·.2)
theorem thrIt_ln (i : Nat) (n : Int) : (thrIt i n).map (·.1) = thrLn i n := by
 unfold thrIt thrLn
 simp only [List.map_append, List.map_cons, blk_lines, List.map_flatten, List.map_replicate]
theorem spIt_ln (ts : List Int) : (spIt ts).map (·.1) = spLn ts := by
 unfold spIt spLn spThr
 simp only [List.map_append, blk_lines, List.map_flatMap, thrIt_ln]
theorem sp_all : ((spC ++ (turnC ++ kH)).all fun l => (lnD spTg l).isSome) = true := by decide +kernel
theorem sp_tg (X : List Bs) : tgOk (spC ++ X) spTg := by
 refine tgOk_of fun y hy => tgt_pre _ ?_
 revert y
 decide +kernel
theorem thr_ok (X : List Bs) {i : Nat} (h : i ≤ 1000) (n : Int) : ∀ y ∈ thrIt i n, LnOk (spC ++ X) y.1 y.2 := fun y hy => by
 have ht := sp_tg X
 unfold thrIt at hy
 rcases List.mem_cons.1 hy with rfl | h1
 ·refine ⟨rlab_end _, ?_⟩
  show rname (tname i ++ [58]).dropLast = true
  rw [List.dropLast_concat]
  exact tname_name h
 rcases List.mem_append.1 h1 with h1 | h1
 ·obtain ⟨l, hl, hy⟩ := List.mem_flatten.1 h1
  rw [List.eq_of_mem_replicate hl] at hy
  exact blk_mem ht sp_all (fun l hl => by simp [hl]) y hy
 ·exact blk_mem ht sp_all (fun l hl => by simp [hl]) y h1
theorem zip_lt {ts : List Int} {p : Int × Nat} {k : Nat} (h : p ∈ ts.zipIdx k) : p.2 < k + ts.length := by
 obtain ⟨h1, h2, _⟩ := List.mem_zipIdx h
 omega
theorem spIt_ok (ts : List Int) (h : ts.length ≤ 1000) : ∀ y ∈ spIt ts, LnOk (spLn ts) y.1 y.2 := fun y hy => by
 unfold spIt at hy
 rcases List.mem_append.1 hy with h1 | h1
 ·exact blk_mem (sp_tg _) sp_all (fun l hl => by simp [hl]) y h1
 ·obtain ⟨p, hp, hy⟩ := List.mem_flatMap.1 h1
  have := zip_lt hp
  exact thr_ok _ (by omega) p.1 y hy
theorem thr_lab (i : Nat) (n : Int) : (thrLn i n).filter (fun l => rlab l) = [tlab i] := by
 unfold thrLn
 rw [List.filter_cons_of_pos (by exact rlab_end _), List.filter_append, List.filter_flatten, List.map_replicate]
 rw [show turnC.filter (fun l => rlab l) = [] by decide +kernel, show kH.filter (fun l => rlab l) = [] by decide +kernel]
 congr 1
 rw [List.append_nil]
 exact List.flatten_eq_nil_iff.2 fun l hl => List.eq_of_mem_replicate hl
theorem spThr_lab (ts : List Int) (k : Nat) : (spThr ts k).filter (fun l => rlab l) = (List.range' k ts.length).map tlab := by
 unfold spThr
 rw [List.filter_flatMap]
 have : (fun p : Int × Nat => (thrLn p.2 p.1).filter (fun l => rlab l)) = fun p => [tlab p.2] := funext fun p => thr_lab _ _
 rw [this, ← List.map_eq_flatMap, ← List.zipIdx_map_snd k ts, List.map_map]
 rfl
theorem spC_lab : ∀ l ∈ spC, ∀ i, l ≠ tlab i := fun l hl i e => by
 have h1 : ∀ l ∈ spC, l.head? ≠ some 116 := by decide +kernel
 exact h1 l hl (by rw [e]; rfl)
theorem sp_lab (ts : List Int) : ((spLn ts).filter fun l => rlab l).Nodup := by
 unfold spLn
 rw [List.filter_append, spThr_lab]
 refine List.nodup_append.2 ⟨by decide +kernel, List.pairwise_map.2 ((List.nodup_range' (s := 0) (n := ts.length)).imp fun h e => h (tlab_inj e)), fun a ha b hb e => ?_⟩
 obtain ⟨i, _, rfl⟩ := List.mem_map.1 hb
 exact spC_lab a ((List.mem_filter.1 ha).1) i e
theorem thr_no (i : Nat) (n : Int) : ∀ l ∈ thrLn i n, (10 : UInt8) ∉ l := fun l hl => by
 unfold thrLn at hl
 have hc : ∀ l ∈ turnC ++ kH, (10 : UInt8) ∉ l := by decide +kernel
 rcases List.mem_cons.1 hl with rfl | h1
 ·intro hm
  rcases List.mem_append.1 hm with h2 | h2
  ·exact wch_no (tname_wch i) (by decide) h2
  ·exact absurd h2 (by decide)
 rcases List.mem_append.1 h1 with h1 | h1
 ·obtain ⟨x, hx, hy⟩ := List.mem_flatten.1 h1
  rw [List.eq_of_mem_replicate hx] at hy
  exact hc l (by simp [hy])
 ·exact hc l (by simp [h1])
theorem spThr_no (ts : List Int) (k : Nat) : ∀ l ∈ spThr ts k, (10 : UInt8) ∉ l := fun l hl => by
 obtain ⟨p, _, hy⟩ := List.mem_flatMap.1 hl
 exact thr_no _ _ l hy
theorem sp_no (ts : List Int) : ∀ l ∈ spLn ts, (10 : UInt8) ∉ l := fun l hl => by
 unfold spLn at hl
 have hc : ∀ l ∈ spC, (10 : UInt8) ∉ l := by decide +kernel
 rcases List.mem_append.1 hl with h1 | h1
 ·exact hc l h1
 ·exact spThr_no ts 0 l h1
theorem rep_len (n : Nat) : (ltx (List.replicate n turnC).flatten).length = n * (ltx turnC).length := by
 induction n with
 | zero => simp [ltx]
 | succ n ih => rw [List.replicate_succ, List.flatten_cons, ltx_app, List.length_append, ih, Nat.succ_mul]; omega
theorem tname_len {n : Nat} (h : n ≤ 1000000000) : (tname n).length ≤ 12 := by
 have := itoa_len (v := (n : Int)) ⟨by omega, by omega⟩
 unfold tname
 simp
 omega
theorem thr_len {i : Nat} {n : Int} (hi : i ≤ 1000000000) (hn : 0 ≤ n ∧ n ≤ 9) : (ltx (thrLn i n)).length ≤ 1000 := by
 have h1 := tname_len hi
 unfold thrLn tlab
 rw [ltx_cons, ltx_app]
 simp only [List.length_append, List.length_cons, List.length_nil]
 rw [rep_len, show (ltx kH).length = 5 by decide]
 have h2 : (ltx turnC).length ≤ 103 := by decide
 have h3 : n.toNat ≤ 9 := by omega
 have := Nat.mul_le_mul h3 h2
 omega
theorem spThr_len (ts : List Int) (k : Nat) (hk : k + ts.length ≤ 1000000) (hn : ∀ n ∈ ts, 0 ≤ n ∧ n ≤ 9) : (ltx (spThr ts k)).length ≤ 1000 * ts.length := by
 have := flatL (fun p : Int × Nat => thrLn p.2 p.1) 1000 (ts.zipIdx k) fun p hp => thr_len (by have := zip_lt hp; omega) (hn _ (List.fst_mem_of_mem_zipIdx hp))
 rw [List.length_zipIdx] at this
 exact this
theorem sp_len (ts : List Int) (h8 : ts.length ≤ 8) (hn : ∀ n ∈ ts, 0 ≤ n ∧ n ≤ 9) : (ltx (spLn ts)).length ≤ 9000 := by
 unfold spLn
 rw [ltx_app, List.length_append]
 have := spThr_len ts 0 (by omega) hn
 have : (ltx spC).length ≤ 1000 := by decide +kernel
 omega
theorem thr_code (i : Nat) {n : Int} (hn : n ≤ 9) : ((thrIt i n).filterMap (·.2)).length ≤ 92 := by
 refine Nat.le_trans (List.length_filterMap_le _ _) ?_
 unfold thrIt
 rw [List.length_cons, List.length_append, List.length_flatten, List.map_replicate, List.sum_replicate_nat]
 rw [show (blk spTg turnC).length = 10 by unfold blk; rw [List.length_map]; rfl, show (blk spTg kH).length = 1 by unfold blk; rw [List.length_map]; rfl]
 omega
theorem sp_code (ts : List Int) (h8 : ts.length ≤ 8) (hn : ∀ n ∈ ts, 0 ≤ n ∧ n ≤ 9) : ((spIt ts).filterMap (·.2)).length ≤ 1000 := by
 unfold spIt
 rw [List.filterMap_append, List.length_append]
 have := flatC (fun p : Int × Nat => thrIt p.2 p.1) (·.2) 92 ts.zipIdx fun p hp => thr_code p.2 (hn _ (List.fst_mem_of_mem_zipIdx hp)).2
 rw [List.length_zipIdx] at this
 have h2 : ((blk spTg spC).filterMap (·.2)).length ≤ 13 := Nat.le_trans (List.length_filterMap_le _ _) (by unfold blk; rw [List.length_map]; decide)
 omega
theorem sp_parse (ts : List Int) (h8 : ts.length ≤ 8) (hn : ∀ n ∈ ts, 0 ≤ n ∧ n ≤ 9) : rparse (ltx (spLn ts)) = (spCode ts, 0, 0) := by
 have hlen := sp_len ts h8 hn
 have := of_lines (spIt ts) (by rw [spIt_ln]; exact spIt_ok ts (by omega)) (by rw [spIt_ln]; exact sp_lab ts) (by rw [spIt_ln]; exact sp_no ts) (by rw [spIt_ln]; omega) (sp_code ts h8 hn)
 rw [spIt_ln] at this
 exact this
def spAt (ts : List Int) (i : Nat) : Nat := ((spC ++ spThr (ts.take i) 0).filter fun l => !rlab l).length
theorem spThr_split (ts : List Int) {i : Nat} (h : i < ts.length) : spThr ts 0 = spThr (ts.take i) 0 ++ (thrLn i ts[i] ++ spThr (ts.drop (i + 1)) (i + 1)) := by
 conv => lhs; rw [← List.take_append_drop i ts, List.drop_eq_getElem_cons h]
 unfold spThr
 rw [List.zipIdx_append, List.flatMap_append, List.zipIdx_cons, List.flatMap_cons, List.length_take, Nat.min_eq_left (Nat.le_of_lt h)]
 simp
theorem sp_tgt (ts : List Int) {i : Nat} (h : i < ts.length) : rtarget (spLn ts) (tname i) = ((spAt ts i : Int), true) := by
 unfold spLn
 rw [spThr_split ts h]
 unfold thrLn
 have := rtarget_at (spC ++ spThr (ts.take i) 0) (((List.replicate ts[i].toNat turnC).flatten ++ kH) ++ spThr (ts.drop (i + 1)) (i + 1)) (tname i) (fun hm => by
  have hf : tname i ++ [58] ∈ (spC ++ spThr (ts.take i) 0).filter (fun l => rlab l) := List.mem_filter.2 ⟨hm, rlab_end _⟩
  rw [List.filter_append, spThr_lab] at hf
  rcases List.mem_append.1 hf with h1 | h1
  ·exact spC_lab _ (List.mem_filter.1 h1).1 i rfl
  ·obtain ⟨j, hj, e⟩ := List.mem_map.1 h1
   have := tlab_inj (e.trans (rfl : tname i ++ [58] = tlab i))
   subst this
   rw [List.length_take] at hj
   have := List.mem_range'.1 hj
   omega)
 rw [List.append_assoc] at this
 exact this
theorem sp_where (ts : List Int) (h8 : ts.length ≤ 8) (hn : ∀ n ∈ ts, 0 ≤ n ∧ n ≤ 9) {i : Nat} (h : i < ts.length) : whereP (ltx (spLn ts)) (tname i) = ((spAt ts i : Int), 0) :=
 where_ltx (sp_no ts) (by rw [sp_parse ts h8 hn]) (sp_tgt ts h)
end Go.AL
end
section
set_option maxRecDepth 100000
namespace Go.AL
open Go Go.Proofs
attribute [local irreducible] J
theorem operands_ok (op a b c : Int) : ACalls Tryz.prog 132 [.agg [iv op, iv a, iv b, iv c]] [] (one (.agg [iv a, iv b, iv c]) []) := by
 refine jcalls Tryz.func132 rfl (by kernel_rfl) Tryz.ntmps132 rfl rfl (fun w0 β0 ext hβ => ?_)
 repeat (first | refine jS ?_ | refine jD ?_ | refine jB ?_)
 exact jR
def mH (l : List Ins) : List AObj := [.box 214 opsC, .box 24 [.sl (l.map encIns)]]
theorem mayR {n : Nat} {kd : Bs} {a b c : Int} :
  ((∀ p, p < 3 → mayV kd[p]? n ([a, b, c].getD p 0) = true) → (mayV kd[0]? n a && (mayV kd[1]? n b && mayV kd[2]? n c)) = true) ∧
  ∀ p, p < 3 → mayV kd[p]? n ([a, b, c].getD p 0) = false → (mayV kd[0]? n a && (mayV kd[1]? n b && mayV kd[2]? n c)) = false := by
 refine ⟨fun h => ?_, fun p hp h => ?_⟩
 ·have h0 := h 0 (by omega); have h1 := h 1 (by omega); have h2 := h 2 (by omega)
  simp at h0 h1 h2
  rw [h0, h1, h2]; rfl
 ·match p, hp with
  | 0, _ => simp at h; rw [h]; rfl
  | 1, _ => simp at h; rw [h]; simp
  | 2, _ => simp at h; rw [h]; simp
  | p + 3, hp => omega
theorem str_idx {kd : Bs} {i : Nat} {c : UInt8} (hc : kd[i]? = some c) : (⟨kd.toArray⟩ : ByteArray)[((i : Int)).toNat]? = some c := by
 have hik : i < kd.length := (List.getElem?_eq_some_iff.1 hc).1
 have hsz : ((i : Int)).toNat < (⟨kd.toArray⟩ : ByteArray).size := hik
 rw [getElem?_pos (⟨kd.toArray⟩ : ByteArray) _ hsz]
 rw [List.getElem?_eq_getElem hik] at hc
 injection hc with hc
 rw [← hc]; rfl
theorem may1_ok (l : List Ins) (op a b c : Int) (hl : l.length ≤ 1000000) : ACalls Tryz.prog 130 [.agg [iv op, iv a, iv b, iv c], .ptr 0 0, .ptr 1 0] (mH l) (one (bv (mayI l.length ⟨op, a, b, c⟩)) (mH l)) := by
 have h1 := in_ok op 0 26
 have h2 := operands_ok op a b c
 unfold mayI mH
 simp only
 cases hop : inn op 0 26 with
 | false =>
  rw [hop] at h1
  simp only [Bool.false_and]
  refine jcalls Tryz.func130 rfl (by kernel_rfl) Tryz.ntmps130 rfl rfl (fun w0 β0 ext hβ => ?_)
  repeat (first | refine jS ?_ | refine jD ?_ | refine jB ?_ | refine jV h1 ?_)
  exact jR
 | true =>
  rw [hop] at h1
  simp only [Bool.true_and]
  obtain ⟨ho1, ho2⟩ := inn_iff.1 hop
  obtain ⟨k, rfl⟩ : ∃ k : Nat, op = k := ⟨op.toNat, by omega⟩
  have hk : k < 27 := by omega
  have hkd := ops_kind k hk
  obtain ⟨hk3, hkc⟩ := kinds_ok k hk
  rw [show ((k : Int)).toNat = k from Int.toNat_natCast k]
  unfold kdO
  generalize (at' opsT (k : Int)).2 = kd at *
  obtain ⟨rt, rf⟩ := mayR (n := l.length) (kd := kd) (a := a) (b := b) (c := c)
  generalize (mayV kd[0]? l.length a && (mayV kd[1]? l.length b && mayV kd[2]? l.length c)) = res at *
  refine jcalls Tryz.func130 rfl (by kernel_rfl) Tryz.ntmps130 rfl rfl (fun w0 β0 ext hβ => ?_)
  repeat (first | refine jS ?_ | refine jD ?_ | refine jB ?_ | refine jV h1 ?_ | refine jo rfl rfl (index_arr rfl rfl rfl rfl rfl (by omega) (by omega)) rfl rfl ?_ | refine jo rfl rfl (load_dsem rfl rfl rfl hkd) rfl rfl ?_ | refine jV h2 ?_)
  refine jloopI (fun q : Nat => q ≤ 3 ∧ ∀ p, p < q → mayV kd[p]? l.length ([a, b, c].getD p 0) = true) [3, 5, 20, 21, 1, 2] (fun q => [.ptr 2 0, sv kd, .agg [iv a, iv b, iv c], iv q, .ptr 0 0, .ptr 1 0])
   (fun _ => [.box 214 opsC, .box 24 [.sl (l.map encIns)], .box 176 [iv (k : Int), iv a, iv b, iv c]]) (fun q => 3 - q) 0 ⟨by omega, fun p hp => absurd hp (by omega)⟩ rfl rfl (fun q hq => ?_)
  obtain ⟨hq, hok⟩ := hq
  have hstep : ∀ q, q < 3 → (∀ p, p < q → mayV kd[p]? l.length ([a, b, c].getD p 0) = true) → mayV kd[q]? l.length ([a, b, c].getD q 0) = true → q + 1 ≤ 3 ∧ ∀ p, p < q + 1 → mayV kd[p]? l.length ([a, b, c].getD p 0) = true := fun q hq h1 h2 => ⟨by omega, fun p hp => by
   by_cases e : p = q
   ·rw [e]; exact h2
   ·exact h1 p (by omega)⟩
  by_cases hq3 : q = 3
  ·subst hq3
   rw [rt hok]
   repeat (first | refine jS ?_ | refine jD ?_ | refine jB ?_)
   exact jR
  ·have hql : q = 0 ∨ q = 1 ∨ q = 2 := by omega
   obtain ⟨v, hv⟩ : ∃ v, [a, b, c].getD q 0 = v := ⟨_, rfl⟩
   have rf' := rf q (by omega)
   have hst := hstep q (by omega) hok
   rw [hv] at rf' hst
   by_cases hqk : q < kd.length
   ·have hc : kd[q]? = some kd[q] := List.getElem?_eq_getElem hqk
    have hcb := str_idx hc
    have hcc := hkc kd[q] (List.getElem_mem hqk)
    have hd1 : decide ((q : Int) < ((ByteArray.size ⟨kd.toArray⟩ : Nat) : Int)) = true := decide_eq_true (by rw [show ByteArray.size ⟨kd.toArray⟩ = kd.length from rfl]; omega)
    rw [hc] at rf' hst
    generalize kd[q] = ch at *
    rcases hcc with rfl | rfl | rfl
    ·skip
     have h3 := in_ok v 0 7
     have e : mayV (some 114) l.length v = inn v 0 7 := rfl
     rw [e] at rf' hst
     cases hb : inn v 0 7 with
     | false =>
      rw [hb] at h3
      rw [rf' hb]
      rcases hql with rfl | rfl | rfl
      all_goals subst hv
      all_goals (
       repeat (first | refine jS ?_ | refine jD ?_ | refine jB ?_ | refine jo rfl rfl (index_agg rfl rfl rfl rfl rfl (by omega) (by omega) rfl) rfl rfl ?_ | refine jo rfl rfl (index_str rfl rfl rfl rfl (Int.natCast_nonneg _) hcb) rfl rfl ?_ | refine jV h3 ?_)
      )
      all_goals rw [hd1]
      all_goals (
       repeat (first | refine jS ?_ | refine jD ?_ | refine jB ?_ | refine jo rfl rfl (index_agg rfl rfl rfl rfl rfl (by omega) (by omega) rfl) rfl rfl ?_ | refine jo rfl rfl (index_str rfl rfl rfl rfl (Int.natCast_nonneg _) hcb) rfl rfl ?_ | refine jV h3 ?_)
      )
      all_goals exact jR
     | true =>
      rw [hb] at h3
      rcases hql with rfl | rfl | rfl
      all_goals subst hv
      all_goals (
       repeat (first | refine jS ?_ | refine jD ?_ | refine jB ?_ | refine jo rfl rfl (index_agg rfl rfl rfl rfl rfl (by omega) (by omega) rfl) rfl rfl ?_ | refine jo rfl rfl (index_str rfl rfl rfl rfl (Int.natCast_nonneg _) hcb) rfl rfl ?_ | refine jV h3 ?_)
      )
      all_goals rw [hd1]
      all_goals (
       repeat (first | refine jS ?_ | refine jD ?_ | refine jB ?_ | refine jo rfl rfl (index_agg rfl rfl rfl rfl rfl (by omega) (by omega) rfl) rfl rfl ?_ | refine jo rfl rfl (index_str rfl rfl rfl rfl (Int.natCast_nonneg _) hcb) rfl rfl ?_ | refine jV h3 ?_)
      )
      all_goals refine jnextI (_ + 1) (hst hb) rfl rfl (by omega)
    ·skip
     have h3 := in_ok v (-1000000000) 1000000000
     have e : mayV (some 110) l.length v = inn v (-1000000000) 1000000000 := rfl
     rw [e] at rf' hst
     cases hb : inn v (-1000000000) 1000000000 with
     | false =>
      rw [hb] at h3
      rw [rf' hb]
      rcases hql with rfl | rfl | rfl
      all_goals subst hv
      all_goals (
       repeat (first | refine jS ?_ | refine jD ?_ | refine jB ?_ | refine jo rfl rfl (index_agg rfl rfl rfl rfl rfl (by omega) (by omega) rfl) rfl rfl ?_ | refine jo rfl rfl (index_str rfl rfl rfl rfl (Int.natCast_nonneg _) hcb) rfl rfl ?_ | refine jV h3 ?_)
      )
      all_goals rw [hd1]
      all_goals (
       repeat (first | refine jS ?_ | refine jD ?_ | refine jB ?_ | refine jo rfl rfl (index_agg rfl rfl rfl rfl rfl (by omega) (by omega) rfl) rfl rfl ?_ | refine jo rfl rfl (index_str rfl rfl rfl rfl (Int.natCast_nonneg _) hcb) rfl rfl ?_ | refine jV h3 ?_)
      )
      all_goals exact jR
     | true =>
      rw [hb] at h3
      rcases hql with rfl | rfl | rfl
      all_goals subst hv
      all_goals (
       repeat (first | refine jS ?_ | refine jD ?_ | refine jB ?_ | refine jo rfl rfl (index_agg rfl rfl rfl rfl rfl (by omega) (by omega) rfl) rfl rfl ?_ | refine jo rfl rfl (index_str rfl rfl rfl rfl (Int.natCast_nonneg _) hcb) rfl rfl ?_ | refine jV h3 ?_)
      )
      all_goals rw [hd1]
      all_goals (
       repeat (first | refine jS ?_ | refine jD ?_ | refine jB ?_ | refine jo rfl rfl (index_agg rfl rfl rfl rfl rfl (by omega) (by omega) rfl) rfl rfl ?_ | refine jo rfl rfl (index_str rfl rfl rfl rfl (Int.natCast_nonneg _) hcb) rfl rfl ?_ | refine jV h3 ?_)
      )
      all_goals refine jnextI (_ + 1) (hst hb) rfl rfl (by omega)
    ·skip
     have h3 := in_ok v 0 ((l.map encIns).length : Int)
     have e : mayV (some 116) l.length v = inn v 0 ((l.map encIns).length : Int) := by rw [List.length_map]; rfl
     rw [e] at rf' hst
     cases hb : inn v 0 ((l.map encIns).length : Int) with
     | false =>
      rw [hb] at h3
      rw [rf' hb]
      rcases hql with rfl | rfl | rfl
      all_goals subst hv
      all_goals (
       repeat (first | refine jS ?_ | refine jD ?_ | refine jB ?_ | refine jo rfl rfl (index_agg rfl rfl rfl rfl rfl (by omega) (by omega) rfl) rfl rfl ?_ | refine jo rfl rfl (index_str rfl rfl rfl rfl (Int.natCast_nonneg _) hcb) rfl rfl ?_ | refine jV h3 ?_)
      )
      all_goals rw [hd1]
      all_goals (
       repeat (first | refine jS ?_ | refine jD ?_ | refine jB ?_ | refine jo rfl rfl (index_agg rfl rfl rfl rfl rfl (by omega) (by omega) rfl) rfl rfl ?_ | refine jo rfl rfl (index_str rfl rfl rfl rfl (Int.natCast_nonneg _) hcb) rfl rfl ?_ | refine jV h3 ?_)
      )
      all_goals exact jR
     | true =>
      rw [hb] at h3
      rcases hql with rfl | rfl | rfl
      all_goals subst hv
      all_goals (
       repeat (first | refine jS ?_ | refine jD ?_ | refine jB ?_ | refine jo rfl rfl (index_agg rfl rfl rfl rfl rfl (by omega) (by omega) rfl) rfl rfl ?_ | refine jo rfl rfl (index_str rfl rfl rfl rfl (Int.natCast_nonneg _) hcb) rfl rfl ?_ | refine jV h3 ?_)
      )
      all_goals rw [hd1]
      all_goals (
       repeat (first | refine jS ?_ | refine jD ?_ | refine jB ?_ | refine jo rfl rfl (index_agg rfl rfl rfl rfl rfl (by omega) (by omega) rfl) rfl rfl ?_ | refine jo rfl rfl (index_str rfl rfl rfl rfl (Int.natCast_nonneg _) hcb) rfl rfl ?_ | refine jV h3 ?_)
      )
      all_goals refine jnextI (_ + 1) (hst hb) rfl rfl (by omega)
   ·have hc : kd[q]? = none := List.getElem?_eq_none (by omega)
    have hd1 : decide ((q : Int) < ((ByteArray.size ⟨kd.toArray⟩ : Nat) : Int)) = false := decide_eq_false (by rw [show ByteArray.size ⟨kd.toArray⟩ = kd.length from rfl]; omega)
    rw [hc] at rf' hst
    have h3 := in_ok v 0 0
    have e : mayV none l.length v = inn v 0 0 := rfl
    rw [e] at rf' hst
    cases hb : inn v 0 0 with
    | false =>
     rw [hb] at h3
     rw [rf' hb]
     rcases hql with rfl | rfl | rfl
     all_goals subst hv
     all_goals (
      repeat (first | refine jS ?_ | refine jD ?_ | refine jB ?_ | refine jo rfl rfl (index_agg rfl rfl rfl rfl rfl (by omega) (by omega) rfl) rfl rfl ?_ | refine jV h3 ?_)
     )
     all_goals rw [hd1]
     all_goals (
      repeat (first | refine jS ?_ | refine jD ?_ | refine jB ?_ | refine jo rfl rfl (index_agg rfl rfl rfl rfl rfl (by omega) (by omega) rfl) rfl rfl ?_ | refine jV h3 ?_)
     )
     all_goals exact jR
    | true =>
     rw [hb] at h3
     rcases hql with rfl | rfl | rfl
     all_goals subst hv
     all_goals (
      repeat (first | refine jS ?_ | refine jD ?_ | refine jB ?_ | refine jo rfl rfl (index_agg rfl rfl rfl rfl rfl (by omega) (by omega) rfl) rfl rfl ?_ | refine jV h3 ?_)
     )
     all_goals rw [hd1]
     all_goals (
      repeat (first | refine jS ?_ | refine jD ?_ | refine jB ?_ | refine jo rfl rfl (index_agg rfl rfl rfl rfl rfl (by omega) (by omega) rfl) rfl rfl ?_ | refine jV h3 ?_)
     )
     all_goals refine jnextI (_ + 1) (hst hb) rfl rfl (by omega)
end Go.AL
namespace Go.AL
open Go Go.Proofs
attribute [local irreducible] J
def mH2 (l : List Ins) : List AObj := [.box 214 opsC, .box 24 [.sl (l.map encIns)], .box 217 [.fn (.func 130) [] [.ptr 0 0, .ptr 1 0]]]
theorem may2_ok (l : List Ins) (i : Ins) (hl : l.length ≤ 1000000) : ACalls Tryz.prog 134 [encIns i, .ptr 2 0] (mH2 l) (one (bv (!mayI l.length i)) (mH2 l)) := by
 obtain ⟨op, a, b, c⟩ := i
 have h1 := may1_ok l op a b c hl
 unfold mH at h1
 unfold mH2 encIns
 simp only
 generalize mayI l.length ⟨op, a, b, c⟩ = r at *
 refine jcalls Tryz.func134 rfl (by kernel_rfl) Tryz.ntmps134 rfl rfl (fun w0 β0 ext hβ => ?_)
 repeat (first | refine jS ?_ | refine jD ?_ | refine jB ?_)
 refine jb [0,1] h1 rfl rfl rfl ⟨rfl, rfl, rfl, rfl, rfl, rfl⟩ rfl rfl rfl rfl ?_
 cases r
 all_goals (
  repeat (first | refine jS ?_ | refine jD ?_ | refine jB ?_)
 )
 all_goals exact jR
def fidx (n : Nat) (l : List Ins) : Int := match l.findIdx? (fun i => !mayI n i) with | some i => i | none => -1
theorem findex_ok (l : List Ins) (hl : l.length ≤ 1000000) : ACalls Tryz.prog 183 [.sl (l.map encIns), .fn (.func 134) [] [.ptr 2 0]] (mH2 l) (one (iv (fidx l.length l)) (mH2 l)) := by
 unfold mH2
 refine jcalls Tryz.func183 rfl (by kernel_rfl) Tryz.ntmps183 rfl rfl (fun w0 β0 ext hβ => ?_)
 repeat (first | refine jS ?_ | refine jD ?_ | refine jB ?_)
 refine jloopI (fun k : Nat => k ≤ l.length ∧ ∀ q, q < k → mayI l.length (at' l (q : Int)) = true) [0, 1, 8, 7] (fun k => [.sl (l.map encIns), .fn (.func 134) [] [.ptr 2 0], .v (.int .i64 (k : Int)), .v (.int .i64 ((l.map encIns).length : Int))])
  (fun _ => [.box 214 opsC, .box 24 [.sl (l.map encIns)], .box 217 [.fn (.func 130) [] [.ptr 0 0, .ptr 1 0]]]) (fun k => l.length - k) 0 ⟨Nat.zero_le _, fun q h => absurd h (by omega)⟩ rfl rfl (fun k hk => ?_)
 obtain ⟨hk, hok⟩ := hk
 repeat (first | refine jS ?_ | refine jD ?_ | refine jB ?_)
 refine jc rfl rfl rfl (fun h => ?_) (fun h => ?_)
 ·have h := of_decide_eq_true h
  rw [List.length_map] at h
  have hk2 : k < l.length := by omega
  have hc := may2_ok l (at' l (k : Int)) hl
  unfold mH2 at hc
  repeat (first | refine jS ?_ | refine jD ?_ | refine jB ?_ | refine jo rfl rfl (index_at rfl rfl rfl rfl rfl rfl rfl rfl (Int.natCast_nonneg k) h) rfl rfl ?_)
  refine jb [0,1,2] hc rfl rfl rfl ⟨rfl, rfl, rfl, rfl, rfl, rfl⟩ rfl rfl rfl rfl ?_
  cases hb : mayI l.length (at' l (k : Int)) with
  | false =>
   repeat (first | refine jS ?_ | refine jD ?_ | refine jB ?_)
   have : fidx l.length l = (k : Int) := by
    unfold fidx
    rw [at_nat l k hk2] at hb
    rw [List.findIdx?_eq_some_iff_getElem.2 ⟨hk2, by rw [hb]; rfl, fun j hj => by
     have e2 := hok j hj
     rw [at_nat l j (by omega)] at e2
     simp [e2]⟩]
   rw [this]
   exact jR
  | true =>
   repeat (first | refine jS ?_ | refine jD ?_ | refine jB ?_)
   refine jnextI (k + 1) ⟨by omega, fun q hq => ?_⟩ ?_ rfl (by omega)
   ·by_cases e : q = k
    ·subst e; exact hb
    ·exact hok q (by omega)
   ·show some _ = some _
    rw [idx_next hk2 (by omega)]
 ·have h := of_decide_eq_false h
  rw [List.length_map] at h
  repeat (first | refine jS ?_ | refine jD ?_ | refine jB ?_)
  have : fidx l.length l = -1 := by
   unfold fidx
   rw [List.findIdx?_eq_none_iff.2 fun p hp => ?_]
   obtain ⟨i, hi, rfl⟩ := List.getElem_of_mem hp
   have e2 := hok i (by omega)
   rw [at_nat l i hi] at e2
   simp [e2]
  rw [this]
  exact jR
theorem containsI_ok (l : List Ins) (hl : l.length ≤ 1000000) : ACalls Tryz.prog 133 [.sl (l.map encIns), .fn (.func 134) [] [.ptr 2 0]] (mH2 l) (one (bv (!l.all (mayI l.length))) (mH2 l)) := by
 have h1 := findex_ok l hl
 have h2 : decide (fidx l.length l ≥ 0) = !l.all (mayI l.length) := by
  unfold fidx
  cases hf : l.findIdx? (fun i => !mayI l.length i) with
  | some i =>
   obtain ⟨hi, h3, _⟩ := List.findIdx?_eq_some_iff_getElem.1 hf
   have : l.all (mayI l.length) = false := by
    rw [List.all_eq_false]
    exact ⟨_, List.getElem_mem hi, by simpa using h3⟩
   rw [this]; simp
  | none =>
   rw [List.findIdx?_eq_none_iff] at hf
   have : l.all (mayI l.length) = true := by
    rw [List.all_eq_true]
    intro x hx
    simpa using hf x hx
   rw [this]; rfl
 unfold mH2 at *
 refine jcalls Tryz.func133 rfl (by kernel_rfl) Tryz.ntmps133 rfl rfl (fun w0 β0 ext hβ => ?_)
 repeat (first | refine jS ?_ | refine jD ?_ | refine jB ?_)
 refine jb [0,1,2] h1 rfl rfl rfl ⟨rfl, rfl, rfl, rfl, rfl, rfl⟩ rfl rfl rfl rfl ?_
 repeat (first | refine jS ?_ | refine jD ?_ | refine jB ?_)
 rw [h2]
 exact jR
theorem right_ok (l : List Ins) (hl : l.length ≤ 1000000) : ACalls Tryz.prog 86 [encIs l] [] (one (bv (rightC l)) []) := by
 have h1 := containsI_ok l hl
 have hop := operations_ok
 unfold rightC
 unfold mH2 at h1
 unfold encIs
 have hd : decide (((l.map encIns).length : Int) ≤ 1000) = decide (l.length ≤ 1000) := by
  rw [List.length_map]
  by_cases h : l.length ≤ 1000
  ·rw [decide_eq_true h, decide_eq_true (by omega)]
  ·rw [decide_eq_false h, decide_eq_false (by omega)]
 cases hb : decide (l.length ≤ 1000) with
 | false =>
  rw [hb] at hd
  refine jcalls Tryz.func86 rfl (by kernel_rfl) Tryz.ntmps86 rfl rfl (fun w0 β0 ext hβ => ?_)
  repeat (first | refine jS ?_ | refine jD ?_ | refine jB ?_ | refine jV hop ?_)
  rw [hd]
  repeat (first | refine jS ?_ | refine jD ?_ | refine jB ?_)
  exact jR
 | true =>
  rw [hb] at hd
  refine jcalls Tryz.func86 rfl (by kernel_rfl) Tryz.ntmps86 rfl rfl (fun w0 β0 ext hβ => ?_)
  repeat (first | refine jS ?_ | refine jD ?_ | refine jB ?_ | refine jV hop ?_)
  rw [hd]
  repeat (first | refine jS ?_ | refine jD ?_ | refine jB ?_)
  refine jb [1,0,2] h1 rfl rfl rfl ⟨rfl, rfl, rfl, rfl, rfl, rfl⟩ rfl rfl rfl rfl ?_
  cases l.all (mayI l.length)
  all_goals (
   repeat (first | refine jS ?_ | refine jD ?_ | refine jB ?_)
  )
  all_goals exact jR
end Go.AL
end
section
namespace Go.AL
open Go Go.Proofs
structure Mem where
 words : List Int
 tags : List Int
 deriving DecidableEq, Inhabited
structure Wput where
 loc : Int
 val : Int
 deriving DecidableEq, Inhabited
structure Tso where
 mem : Mem
 depth : Int
 bufs : List (List Wput)
 deriving DecidableEq, Inhabited
structure Frm where
 back : Int
 kept : List Int
 deriving DecidableEq, Inhabited
structure Thr where
 pc : Int
 regs : List Int
 frames : List Frm
 state : Int
 fault : Int
 left : List Int
 deriving DecidableEq, Inhabited
structure Evt where
 kind : Int
 who : Int
 words : List Int
 deriving DecidableEq, Inhabited
structure Wd where
 code : List Ins
 tso : Tso
 thr : List Thr
 evs : List Evt
def ivs (l : List Int) : AVal := .sl (l.map iv)
def g0 (l : List Int) (k : Nat) : Int := l.getD k 0
def mCells (m : Mem) : List AVal := [ivs m.words, ivs m.tags]
def encMem (m : Mem) : AVal := .agg (mCells m)
def encPut (p : Wput) : AVal := .agg [iv p.loc, iv p.val]
def encBuf (b : List Wput) : AVal := .sl (b.map encPut)
def tCells (t : Tso) : List AVal := [ivs t.mem.words, ivs t.mem.tags, iv t.depth, .sl (t.bufs.map encBuf)]
def encTso (t : Tso) : AVal := .agg (tCells t)
def encFrm (f : Frm) : AVal := .agg [iv f.back, iv (g0 f.kept 0), iv (g0 f.kept 1), iv (g0 f.kept 2), iv (g0 f.kept 3)]
def thCells (t : Thr) : List AVal :=
 [iv t.pc, iv (g0 t.regs 0), iv (g0 t.regs 1), iv (g0 t.regs 2), iv (g0 t.regs 3), iv (g0 t.regs 4), iv (g0 t.regs 5), iv (g0 t.regs 6), iv (g0 t.regs 7), .sl (t.frames.map encFrm), iv t.state, iv t.fault, .slz (t.left.map iv)]
def encThr (t : Thr) : AVal := .agg (thCells t)
def encEvt (e : Evt) : AVal := .agg [iv e.kind, iv e.who, iv (g0 e.words 0), iv (g0 e.words 1), iv (g0 e.words 2), iv (g0 e.words 3)]
def wCells (w : Wd) : List AVal := [.sl (w.code.map encIns), ivs w.tso.mem.words, ivs w.tso.mem.tags, iv w.tso.depth, .sl (w.tso.bufs.map encBuf), .sl (w.thr.map encThr), .sl (w.evs.map encEvt)]
def encWd (w : Wd) : AVal := .agg (wCells w)
def mem0 : Mem := ⟨[], []⟩
def tso0 : Tso := ⟨mem0, 0, []⟩
def thr0 : Thr := ⟨0, [0, 0, 0, 0, 0, 0, 0, 0], [], 0, 0, []⟩
def thrE0 : AVal := .agg [iv 0, iv 0, iv 0, iv 0, iv 0, iv 0, iv 0, iv 0, iv 0, .sl [], iv 0, iv 0, .sl []]
def resThr (p : Thr × Int) : AVal := cond (decide (p.2 = 0)) (encThr p.1) thrE0
def wd0 : Wd := ⟨[], tso0, [], []⟩
def tagOk (t w : Int) : Bool := (decide (t = 0) && decide (w = 0)) || (decide (t = 1) || decide (t = 2))
def mRight (m : Mem) : Bool := decide (1 ≤ m.words.length) && (decide (m.words.length ≤ 160) && (decide (m.tags.length = m.words.length) && (List.zip m.tags m.words).all fun p => tagOk p.1 p.2))
def why (t : Int) : Int := cond (decide (t = 0)) 4 (cond (decide (t = 1)) 0 5)
def mUse (m : Mem) (k : Int) : Int := cond (inn k 0 (m.words.length - 1)) (why (g0 m.tags k.toNat)) 3
def mLoad (m : Mem) (k : Int) : Int × Int := cond (decide (mUse m k = 0)) (g0 m.words k.toNat, 0) (0, mUse m k)
def mStore (m : Mem) (k v : Int) : Mem × Int := cond (decide (mUse m k = 0)) (⟨m.words.set k.toNat v, m.tags⟩, 0) (mem0, mUse m k)
def mkE (tag t : Int) : Int := cond (decide (tag = 1)) (cond (decide (t = 1)) 6 0) (why t)
def mkTags (tags : List Int) (k n : Nat) (tag : Int) : List Int := tags.take k ++ List.replicate n tag ++ tags.drop (k + n)
def mkBad (tags : List Int) (k : Nat) (tag : Int) : Nat → Int
 | 0 => 0
 | n + 1 => cond (decide (mkBad tags k tag n = 0)) (mkE tag (g0 tags (k + n))) (mkBad tags k tag n)
def mMark (m : Mem) (k n tag : Int) : Mem × Int :=
 cond (decide (1 ≤ n) && (inn k 0 (m.words.length - 1) && decide (n ≤ m.words.length - k)))
  (cond (decide (mkBad m.tags k.toNat tag n.toNat = 0)) (⟨m.words, mkTags m.tags k.toNat n.toNat tag⟩, 0) (mem0, mkBad m.tags k.toNat tag n.toNat)) (mem0, 3)
def newest (b : List Wput) (k : Int) : Option Int := (b.reverse.find? (fun p => decide (p.loc = k))).map (·.val)
def szOk (n : Nat) (d : Int) : Bool := decide (1 ≤ n) && (decide (n ≤ 8) && inn d 0 8)
def tsRight (t : Tso) : Bool := mRight t.mem && (szOk t.bufs.length t.depth && t.bufs.all fun b => decide ((b.length : Int) ≤ t.depth) && b.all fun p => inn p.loc 0 (t.mem.words.length - 1))
def bufAt (t : Tso) (k : Nat) : List Wput := t.bufs.getD k []
def tsLoad (t : Tso) (k : Nat) (a : Int) : Int × Int :=
 cond (decide ((mLoad t.mem a).2 = 0)) ((newest (bufAt t k) a).getD (mLoad t.mem a).1, 0) (0, (mLoad t.mem a).2)
def tsStore (t : Tso) (k : Nat) (a v : Int) : Tso × Int :=
 cond (decide ((mStore t.mem a v).2 = 0))
  (cond (decide (t.depth = 0)) (⟨(mStore t.mem a v).1, t.depth, t.bufs⟩, 0)
   (cond (decide ((bufAt t k).length = t.depth)) (tso0, 7) (⟨t.mem, t.depth, t.bufs.set k (bufAt t k ++ [⟨a, v⟩])⟩, 0)))
  (tso0, (mStore t.mem a v).2)
def become (kind w a b : Int) : Int := cond (decide (kind = 0)) (cond (decide (w = a)) b w) (cond (decide (kind = 1)) a (IntKind.i64.wrap (w + a)))
def tsLocked (t : Tso) (k : Nat) (kind a x y : Int) : Tso × Int × Int :=
 cond (decide ((bufAt t k).length = 0))
  (cond (decide ((mLoad t.mem a).2 = 0)) (⟨(mStore t.mem a (become kind (mLoad t.mem a).1 x y)).1, t.depth, t.bufs⟩, (mLoad t.mem a).1, 0) (tso0, 0, (mLoad t.mem a).2)) (tso0, 0, 9)
def thRight (t : Thr) : Bool :=
 inn t.pc 0 1000 && (decide (t.frames.length ≤ 6) && (decide (t.left.length ≤ 8) && (t.frames.all (fun f => inn f.back 0 1000) && (t.left.all (fun n => inn n 0 8) &&
  cond (decide (t.state = 0) || decide (t.state = 1)) (decide (t.fault = 0)) (cond (decide (t.state = 2)) (inn t.fault 1 16) false)))))
def frCall (t : Thr) (to : Int) : Thr × Int :=
 cond (!thRight t || (decide (t.pc = 1000) || !inn to 0 1000)) (thr0, 1)
  (cond (decide (t.frames.length = 6)) (thr0, 13) ({ t with frames := t.frames ++ [⟨t.pc + 1, [g0 t.regs 4, g0 t.regs 5, g0 t.regs 6, g0 t.regs 7]⟩], pc := to }, 0))
def frBack (t : Thr) : Thr × Int :=
 cond (!thRight t) (thr0, 1) (match t.frames.getLast? with
  | none => (thr0, 8)
  | some f => ({ t with frames := t.frames.dropLast, pc := f.back, regs := [g0 t.regs 0, g0 t.regs 1, g0 t.regs 2, g0 t.regs 3, g0 f.kept 0, g0 f.kept 1, g0 f.kept 2, g0 f.kept 3] }, 0))
def rg (t : Thr) (k : Int) : Int := g0 t.regs k.toNat
def regs8 (f : Nat → Int) : List Int := [f 0, f 1, f 2, f 3, f 4, f 5, f 6, f 7]
def setR (t : Thr) (k v : Int) : Thr := { t with regs := regs8 fun j => cond (decide (j = k.toNat)) v (g0 t.regs j) }
def regsOf (op : Nat) : Nat := [0, 1, 2, 2, 2, 3, 3, 3, 3, 3, 0, 1, 1, 0, 0, 1].getD op 0
def trgOf (op : Nat) : Int := [0, -1, -1, -1, -1, -1, -1, -1, -1, -1, 0, 1, 1, 0, -1, -1].getD op 0
def loMay (i : Ins) : Bool :=
 ([i.a, i.b, i.c].take (regsOf i.op.toNat)).all (fun k => inn k 0 7) && (decide (trgOf i.op.toNat = -1) || inn (g0 [i.a, i.b, i.c] (trgOf i.op.toNat).toNat) 0 1000)
def loVal (self : Int) (i : Ins) (t : Thr) : Int := match i.op.toNat with
 | 1 => i.b
 | 2 => rg t i.b
 | 3 => IntKind.i64.wrap (rg t i.b + i.c)
 | 4 => bitsI .and .i64 (rg t i.b) i.c
 | 5 => IntKind.i64.wrap (rg t i.b + rg t i.c)
 | 6 => IntKind.i64.wrap (rg t i.b - rg t i.c)
 | 7 => bitsI .and .i64 (rg t i.b) (rg t i.c)
 | 8 => bitsI .xor .i64 (rg t i.b) (rg t i.c)
 | 9 => cond (decide (rg t i.b < rg t i.c)) 1 0
 | _ => self
def loDo (self : Int) (i : Ins) (t : Thr) : Thr :=
 match i.op.toNat with
 | 10 => { t with pc := i.a }
 | 11 => cond (decide (rg t i.a = 0)) { t with pc := i.b } t
 | 12 => cond (decide (rg t i.a = 0)) t { t with pc := i.b }
 | _ => setR t i.a (loVal self i t)
def loReady (t : Thr) (self : Int) : Int := cond (!thRight t || !inn self 0 7) 1 (cond (!decide (t.state = 0) || decide (0 < t.left.length)) 9 0)
def loApply (self : Int) (i : Ins) (t : Thr) : Thr × Int :=
 cond (decide (loReady t self = 1) || decide (t.pc = 1000)) (thr0, 1)
  (cond (!decide (loReady t self = 0)) (thr0, loReady t self)
   (cond (!inn i.op 1 15) (thr0, 10)
    (cond (!loMay i) (thr0, 3)
     (cond (decide (i.op = 13)) (frCall t i.a)
      (cond (decide (i.op = 14)) (frBack t) (loDo self i { t with pc := t.pc + 1 }, 0))))))
def wRight (w : Wd) : Bool := rightC w.code && (tsRight w.tso && (decide (w.thr.length = w.tso.bufs.length) && w.thr.all fun t => thRight t && (decide (t.left.length = 0) || decide (t.left.length = w.thr.length))))
def thrAt (w : Wd) (k : Nat) : Thr := w.thr.getD k thr0
def instrAt (w : Wd) (t : Thr) : Ins := cond (decide (t.pc < w.code.length)) (w.code.getD t.pc.toNat default) ⟨27, 0, 0, 0⟩
def setT (w : Wd) (k : Nat) (t : Thr) : Wd := { w with thr := w.thr.set k t }
def faultW (w : Wd) (k : Nat) (e : Int) : Wd := setT w k { thrAt w k with state := 2, fault := e }
def canOp (w : Wd) (k : Nat) (t : Thr) (i : Ins) : Bool := match i.op.toNat with
 | 17 => decide (((bufAt w.tso k).length : Int) < w.tso.depth) || decide (w.tso.depth = 0)
 | 18 => decide ((bufAt w.tso k).length = 0)
 | 19 => decide ((bufAt w.tso k).length = 0)
 | 20 => decide ((bufAt w.tso k).length = 0)
 | 21 => decide ((bufAt w.tso k).length = 0)
 | 22 => !t.left.any fun n => decide (n > 0)
 | 23 => decide ((bufAt w.tso k).length = 0) && (!decide ((mLoad w.tso.mem (rg t i.b)).2 = 0) || !decide ((mLoad w.tso.mem (rg t i.b)).1 = rg t i.a))
 | _ => true
def canW (w : Wd) (k : Nat) : Bool := decide ((thrAt w k).state = 0) && canOp w k (thrAt w k) (instrAt w (thrAt w k))
def pc1 (t : Thr) : Thr := { t with pc := t.pc + 1 }
def lens (b : List (List Wput)) : List Int := b.map fun x => (x.length : Int)
def doN (w : Wd) (k : Nat) (t : Thr) (i : Ins) : Wd × Thr × Int := match i.op.toNat with
 | 0 => (w, { t with state := 1 }, 0)
 | 16 => (w, setR (pc1 t) i.a (tsLoad w.tso k (IntKind.i64.wrap (rg t i.b + i.c))).1, (tsLoad w.tso k (IntKind.i64.wrap (rg t i.b + i.c))).2)
 | 17 => ({ w with tso := (tsStore w.tso k (IntKind.i64.wrap (rg t i.b + i.c)) (rg t i.a)).1 }, pc1 t, (tsStore w.tso k (IntKind.i64.wrap (rg t i.b + i.c)) (rg t i.a)).2)
 | 18 => (w, pc1 t, 0)
 | 19 => ({ w with tso := (tsLocked w.tso k 0 (rg t i.b) (rg t i.a) (rg t i.c)).1 }, setR (pc1 t) i.a (tsLocked w.tso k 0 (rg t i.b) (rg t i.a) (rg t i.c)).2.1, (tsLocked w.tso k 0 (rg t i.b) (rg t i.a) (rg t i.c)).2.2)
 | 20 => ({ w with tso := (tsLocked w.tso k 1 (rg t i.b) (rg t i.a) 0).1 }, setR (pc1 t) i.a (tsLocked w.tso k 1 (rg t i.b) (rg t i.a) 0).2.1, (tsLocked w.tso k 1 (rg t i.b) (rg t i.a) 0).2.2)
 | 21 => ({ w with tso := (tsLocked w.tso k 2 (rg t i.b) (rg t i.a) 0).1 }, setR (pc1 t) i.a (tsLocked w.tso k 2 (rg t i.b) (rg t i.a) 0).2.1, (tsLocked w.tso k 2 (rg t i.b) (rg t i.a) 0).2.2)
 | 22 => cond (decide (0 < t.left.length)) (w, { pc1 t with left := [] }, 0) (w, { t with left := lens w.tso.bufs }, 0)
 | 23 => (w, pc1 t, 0)
 | 24 => ({ w with tso := { w.tso with mem := (mMark w.tso.mem (rg t i.a) (rg t i.b) 1).1 } }, pc1 t, (mMark w.tso.mem (rg t i.a) (rg t i.b) 1).2)
 | 25 => ({ w with tso := { w.tso with mem := (mMark w.tso.mem (rg t i.a) (rg t i.b) 2).1 } }, pc1 t, (mMark w.tso.mem (rg t i.a) (rg t i.b) 2).2)
 | 26 => ({ w with evs := w.evs ++ [⟨i.a, k, [g0 t.regs 0, g0 t.regs 1, g0 t.regs 2, g0 t.regs 3]⟩] }, pc1 t, 0)
 | 27 => (w, t, 3)
 | _ => (w, (loApply k i t).1, (loApply k i t).2)
def doOp (w : Wd) (k : Nat) (t : Thr) (i : Ins) : Wd := cond (decide ((doN w k t i).2.2 = 0)) (setT (doN w k t i).1 k (doN w k t i).2.1) (faultW w k (doN w k t i).2.2)
def doW (w : Wd) (k : Nat) : Wd := doOp w k (thrAt w k) (instrAt w (thrAt w k))
def inT (w : Wd) (k : Int) : Bool := inn k 0 (w.thr.length - 1)
def stepW (w : Wd) (k : Int) : Wd × Int := cond (!wRight w) (wd0, 1) (cond (!inT w k) (wd0, 3) (cond (!canW w k.toNat) (wd0, 9) (doW w k.toNat, 0)))
def waned (k : Nat) (t : Thr) : Thr := cond (decide (0 < t.left.length)) { t with left := t.left.set k (max (g0 t.left k - 1) 0) } t
def flushD (w : Wd) (k : Nat) (p : Wput) (r : List Wput) : Wd :=
 let x : Wd := { w with tso := { w.tso with bufs := w.tso.bufs.set k r } }
 let y : Wd := cond (decide ((mStore w.tso.mem p.loc p.val).2 = 0)) { x with tso := { x.tso with mem := (mStore w.tso.mem p.loc p.val).1 } } (cond (decide ((thrAt w k).state = 2)) x (faultW x k (mStore w.tso.mem p.loc p.val).2))
 { y with thr := y.thr.map (waned k) }
def flushW (w : Wd) (k : Int) : Wd × Int := cond (!wRight w) (wd0, 1) (cond (!inT w k) (wd0, 3) (match bufAt w.tso k.toNat with
 | [] => (wd0, 8)
 | p :: r => (flushD w k.toNat p r, 0)))
structure Act where
 kind : Int
 who : Int
 deriving DecidableEq, Inhabited
def actW (w : Wd) (a : Act) : Wd × Bool := match a.kind with
 | 0 => cond (decide ((stepW w a.who).2 = 0)) ((stepW w a.who).1, true) (w, false)
 | 1 => cond (decide ((flushW w a.who).2 = 0)) ((flushW w a.who).1, true) (w, false)
 | _ => (w, false)
def runW (w : Wd) (l : List Act) : Wd × Nat := l.foldl (fun s a => ((actW s.1 a).1, cond (actW s.1 a).2 (s.2 + 1) s.2)) (w, 0)
def idleW (w : Wd) : Bool := (List.range w.tso.bufs.length).all fun k => !canW w k && decide ((bufAt w.tso k).length = 0)
def roundW (w : Wd) : Wd := (List.range w.thr.length).foldl (fun (s : Wd) (k : Nat) => (actW (actW s ⟨0, k⟩).1 ⟨1, k⟩).1) w
def roundsW (w : Wd) : Nat → Wd × Nat
 | 0 => (w, 0)
 | n + 1 => cond (idleW w) (w, 0) ((roundsW (roundW w) n).1, (roundsW (roundW w) n).2 + 1)
end Go.AL
end
section
set_option maxRecDepth 100000
namespace Go.AL
open Go Go.Proofs
attribute [local irreducible] J
theorem int_beq (a b : Int) : (a == b) = decide (a = b) := rfl
theorem int_bne (a b : Int) : (a != b) = !decide (a = b) := rfl
theorem dec_not {p q : Prop} [Decidable p] [Decidable q] (h : p ↔ ¬ q) : decide p = !decide q := by
 rw [← decide_not]; exact decide_eq_decide.2 h
theorem zipAll {a b : List Int} {p : Int → Int → Bool} (h : a.length = b.length) : ((∀ q, q < a.length → p (at' a (q : Int)) (at' b (q : Int)) = true) → ((List.zip a b).all fun x => p x.1 x.2) = true) ∧
  ∀ q, q < a.length → p (at' a (q : Int)) (at' b (q : Int)) = false → ((List.zip a b).all fun x => p x.1 x.2) = false := by
 refine ⟨fun hq => ?_, fun q hq hp => ?_⟩
 ·rw [List.all_eq_true]
  intro x hx
  obtain ⟨i, hi, rfl⟩ := List.getElem_of_mem hx
  have hi1 : i < a.length := by rw [List.length_zip] at hi; omega
  have := hq i hi1
  rw [at_nat a i hi1, at_nat b i (by omega)] at this
  simpa using this
 ·rw [List.all_eq_false]
  refine ⟨(a[q], b[q]'(by omega)), ?_, ?_⟩
  ·have : (List.zip a b)[q]'(by rw [List.length_zip]; omega) = (a[q], b[q]'(by omega)) := by simp
   rw [← this]
   exact List.getElem_mem _
  ·rw [at_nat a q hq, at_nat b q (by omega)] at hp
   simp [hp]
theorem mem_right (m : Mem) (hw : m.words.length ≤ 1000000) (ht : m.tags.length ≤ 1000000) : ACalls Tryz.prog 56 [encMem m] [] (one (bv (mRight m)) []) := by
 obtain ⟨ws, ts⟩ := m
 simp only at hw ht
 have f1 : decide (((ws.map iv).length : Int) < 1) = !decide (1 ≤ ws.length) := by rw [List.length_map]; exact dec_not (by omega)
 have f2 : decide (((ws.map iv).length : Int) > 160) = !decide (ws.length ≤ 160) := by rw [List.length_map]; exact dec_not (by omega)
 have f3 : (((ts.map iv).length : Int) != ((ws.map iv).length : Int)) = !decide (ts.length = ws.length) := by rw [List.length_map, List.length_map, int_bne]; congr 1; exact decide_eq_decide.2 (by omega)
 unfold encMem mCells ivs mRight
 simp only
 cases b1 : decide (1 ≤ ws.length) with
 | false =>
  rw [b1] at f1
  refine jcalls Tryz.func56 rfl (by kernel_rfl) Tryz.ntmps56 rfl rfl (fun w0 β0 ext hβ => ?_)
  repeat (first | refine jS ?_ | refine jD ?_ | refine jB ?_)
  rw [f1]
  repeat (first | refine jS ?_ | refine jD ?_ | refine jB ?_)
  exact jR
 | true =>
  rw [b1] at f1
  cases b2 : decide (ws.length ≤ 160) with
  | false =>
   rw [b2] at f2
   refine jcalls Tryz.func56 rfl (by kernel_rfl) Tryz.ntmps56 rfl rfl (fun w0 β0 ext hβ => ?_)
   repeat (first | refine jS ?_ | refine jD ?_ | refine jB ?_)
   rw [f1]
   repeat (first | refine jS ?_ | refine jD ?_ | refine jB ?_)
   rw [f2]
   repeat (first | refine jS ?_ | refine jD ?_ | refine jB ?_)
   exact jR
  | true =>
   rw [b2] at f2
   cases b3 : decide (ts.length = ws.length) with
   | false =>
    rw [b3] at f3
    refine jcalls Tryz.func56 rfl (by kernel_rfl) Tryz.ntmps56 rfl rfl (fun w0 β0 ext hβ => ?_)
    repeat (first | refine jS ?_ | refine jD ?_ | refine jB ?_)
    rw [f1]
    repeat (first | refine jS ?_ | refine jD ?_ | refine jB ?_)
    rw [f2]
    repeat (first | refine jS ?_ | refine jD ?_ | refine jB ?_)
    rw [f3]
    repeat (first | refine jS ?_ | refine jD ?_ | refine jB ?_)
    exact jR
   | true =>
    rw [b3] at f3
    have hlen : ts.length = ws.length := of_decide_eq_true b3
    obtain ⟨hz1, hz2⟩ := zipAll (p := tagOk) hlen
    refine jcalls Tryz.func56 rfl (by kernel_rfl) Tryz.ntmps56 rfl rfl (fun w0 β0 ext hβ => ?_)
    repeat (first | refine jS ?_ | refine jD ?_ | refine jB ?_)
    rw [f1]
    repeat (first | refine jS ?_ | refine jD ?_ | refine jB ?_)
    rw [f2]
    repeat (first | refine jS ?_ | refine jD ?_ | refine jB ?_)
    rw [f3]
    repeat (first | refine jS ?_ | refine jD ?_ | refine jB ?_)
    refine jloopI (fun k : Nat => k ≤ ts.length ∧ ∀ q, q < k → tagOk (at' ts (q : Int)) (at' ws (q : Int)) = true) [1, 25, 26, 27] (fun k => [.ptr 0 0, .sl (ts.map iv), .v (.int .i64 ((ts.map iv).length : Int)), .v (.int .i64 (k : Int))])
     (fun _ => [.box 26 [.sl (ws.map iv), .sl (ts.map iv)]]) (fun k => ts.length - k) 0 ⟨Nat.zero_le _, fun q h => absurd h (by omega)⟩ rfl rfl (fun k hk => ?_)
    obtain ⟨hk, hok⟩ := hk
    repeat (first | refine jS ?_ | refine jD ?_ | refine jB ?_)
    refine jc rfl rfl rfl (fun h => ?_) (fun h => ?_)
    ·have h := of_decide_eq_true h
     rw [List.length_map] at h
     have hk2 : k < ts.length := by omega
     have hkw : (k : Int) < ws.length := by omega
     have hnx : ∀ (w : Int), tagOk (at' ts (k : Int)) (at' ws (k : Int)) = true → ∀ q, q < k + 1 → tagOk (at' ts (q : Int)) (at' ws (q : Int)) = true := fun _ hb q hq => by
      by_cases e : q = k
      ·subst e; exact hb
      ·exact hok q (by omega)
     have hno := hz2 k hk2
     repeat (first | refine jS ?_ | refine jD ?_ | refine jB ?_ | refine jo rfl rfl (index_at rfl rfl rfl rfl rfl rfl rfl rfl (Int.natCast_nonneg k) h) rfl rfl ?_)
     have hidx : IntKind.i64.wrap ((k : Int) + 1) = ((k + 1 : Nat) : Int) := idx_next hk2 (by omega)
     refine jc rfl rfl rfl (fun h0 => ?_) (fun h0 => ?_)
     ·repeat (first | refine jS ?_ | refine jD ?_ | refine jB ?_ | refine jo rfl rfl (index_at rfl rfl rfl rfl rfl rfl rfl rfl (Int.natCast_nonneg k) hkw) rfl rfl ?_)
      refine jc rfl rfl rfl (fun h1 => ?_) (fun h1 => ?_)
      ·repeat (first | refine jS ?_ | refine jD ?_ | refine jB ?_)
       rw [hno (by simp only [beq_iff_eq, bne_iff_ne] at h0 h1; simp [tagOk, h0, h1])]
       exact jR
      ·repeat (first | refine jS ?_ | refine jD ?_ | refine jB ?_)
       refine jnextI (k + 1) ⟨by omega, hnx 0 (by simp only [beq_iff_eq, bne_eq_false_iff_eq] at h0 h1; simp [tagOk, h0, h1])⟩ ?_ rfl (by omega)
       show some _ = some _
       rw [hidx]
     ·repeat (first | refine jS ?_ | refine jD ?_ | refine jB ?_)
      refine jc rfl rfl rfl (fun h1 => ?_) (fun h1 => ?_)
      ·repeat (first | refine jS ?_ | refine jD ?_ | refine jB ?_)
       refine jnextI (k + 1) ⟨by omega, hnx 0 (by simp only [beq_iff_eq, beq_eq_false_iff_ne] at h0 h1; simp [tagOk, h1])⟩ ?_ rfl (by omega)
       show some _ = some _
       rw [hidx]
      ·repeat (first | refine jS ?_ | refine jD ?_ | refine jB ?_)
       refine jc rfl rfl rfl (fun h2 => ?_) (fun h2 => ?_)
       ·repeat (first | refine jS ?_ | refine jD ?_ | refine jB ?_)
        refine jnextI (k + 1) ⟨by omega, hnx 0 (by simp only [beq_iff_eq, beq_eq_false_iff_ne] at h0 h1 h2; simp [tagOk, h2])⟩ ?_ rfl (by omega)
        show some _ = some _
        rw [hidx]
       ·repeat (first | refine jS ?_ | refine jD ?_ | refine jB ?_)
        rw [hno (by simp only [beq_eq_false_iff_ne] at h0 h1 h2; simp [tagOk, h0, h1, h2])]
        exact jR
    ·have h := of_decide_eq_false h
     rw [List.length_map] at h
     rw [hz1 fun q hq => hok q (by omega)]
     repeat (first | refine jS ?_ | refine jD ?_ | refine jB ?_)
     exact jR
theorem why_ok (t : Int) (h0 : 0 ≤ t) (h2 : t ≤ 2) : ACalls Tryz.prog 98 [iv t] [] (one (iv (why t)) []) := by
 rcases (by omega : t = 0 ∨ t = 1 ∨ t = 2) with rfl | rfl | rfl
 all_goals (
  refine jcalls Tryz.func98 rfl (by kernel_rfl) Tryz.ntmps98 rfl rfl (fun w0 β0 ext hβ => ?_)
  repeat (first | refine jS ?_ | refine jD ?_ | refine jB ?_ | refine jo rfl rfl (index_agg rfl rfl rfl rfl rfl (by decide) (by decide) rfl) rfl rfl ?_)
 )
 all_goals exact jR
theorem mRight_iff (m : Mem) : mRight m = true ↔ 1 ≤ m.words.length ∧ m.words.length ≤ 160 ∧ m.tags.length = m.words.length ∧ ∀ q, q < m.tags.length → tagOk (at' m.tags (q : Int)) (at' m.words (q : Int)) = true := by
 unfold mRight
 simp only [Bool.and_eq_true, decide_eq_true_eq]
 constructor
 ·rintro ⟨a, b, c, d⟩
  refine ⟨a, b, c, fun q hq => ?_⟩
  cases h : tagOk (at' m.tags (q : Int)) (at' m.words (q : Int)) with
  | true => rfl
  | false => rw [(zipAll (p := tagOk) c).2 q hq h] at d; cases d
 ·rintro ⟨a, b, c, d⟩
  exact ⟨a, b, c, (zipAll (p := tagOk) c).1 d⟩
theorem tag_bd {t w : Int} (h : tagOk t w = true) : 0 ≤ t ∧ t ≤ 2 := by
 unfold tagOk at h
 simp at h
 omega
theorem g0_at {l : List Int} {k : Int} : g0 l k.toNat = at' l k := rfl
theorem use_ok (m : Mem) (k : Int) (hr : mRight m = true) : ACalls Tryz.prog 101 [encMem m, iv k] [] (one (iv (mUse m k)) []) := by
 obtain ⟨r1, r2, r3, r4⟩ := (mRight_iff m).1 hr
 have h1 := mem_right m (by omega) (by omega)
 rw [hr] at h1
 obtain ⟨ws, ts⟩ := m
 simp only at r1 r2 r3 r4
 unfold mUse
 simp only
 have hi1 : inn k 0 (ws.length - 1) = (!decide (k < 0) && !decide (k ≥ ((ws.map iv).length : Int))) := by
  rw [List.length_map]; unfold inn; rw [Bool.eq_iff_iff]; simp; omega
 unfold encMem mCells ivs at *
 refine jcalls Tryz.func101 rfl (by kernel_rfl) Tryz.ntmps101 rfl rfl (fun w0 β0 ext hβ => ?_)
 repeat (first | refine jS ?_ | refine jD ?_ | refine jB ?_ | refine jV h1 ?_)
 cases b1 : decide (k < 0) with
 | true =>
  rw [b1] at hi1
  rw [hi1]
  repeat (first | refine jS ?_ | refine jD ?_ | refine jB ?_)
  exact jR
 | false =>
  rw [b1] at hi1
  cases b2 : decide (k ≥ ((ws.map iv).length : Int)) with
  | true =>
   rw [b2] at hi1
   rw [hi1]
   repeat (first | refine jS ?_ | refine jD ?_ | refine jB ?_)
   rw [b2]
   repeat (first | refine jS ?_ | refine jD ?_ | refine jB ?_)
   exact jR
  | false =>
   rw [b2] at hi1
   rw [hi1]
   have c1 := of_decide_eq_false b1
   have c2 := of_decide_eq_false b2
   rw [List.length_map] at c2
   obtain ⟨q, rfl⟩ : ∃ q : Nat, k = q := ⟨k.toNat, by omega⟩
   have hb := tag_bd (r4 q (by omega))
   have hw := why_ok (at' ts (q : Int)) hb.1 hb.2
   have hq0 : (q : Int) < ts.length := by omega
   repeat (first | refine jS ?_ | refine jD ?_ | refine jB ?_)
   rw [b2]
   repeat (first | refine jS ?_ | refine jD ?_ | refine jB ?_ | refine jo rfl rfl (index_at rfl rfl rfl rfl rfl rfl rfl rfl (Int.natCast_nonneg q) hq0) rfl rfl ?_ | refine jV hw ?_)
   exact jR
theorem put_at {α : Type} {enc : α → AVal} {l : List α} {i : Nat} {y : AVal} {v : α} (h : elemSet y 0 (enc v).cells = enc v) : (l.map enc).set (i : Int).toNat (elemSet y 0 (enc v).cells) = (l.set i v).map enc := by
 rw [h, Int.toNat_natCast, List.map_set]
theorem elems_iv (l : List Int) : ElemsOk 1 (l.map iv) := by
 intro y hy
 obtain ⟨a, _, rfl⟩ := List.mem_map.1 hy
 exact ⟨rfl, rfl⟩
theorem copied_ok (l : List Int) (hl : l.length ≤ 1000000) : ACalls Tryz.prog 97 [ivs l] [] (one (.arr 0 1) [.arr 1 3 1 (l.map iv)]) := by
 unfold ivs
 refine jcalls Tryz.func97 rfl (by kernel_rfl) Tryz.ntmps97 rfl rfl (fun w0 β0 ext hβ => ?_)
 repeat (first | refine jS ?_ | refine jD ?_ | refine jB ?_)
 refine jo rfl rfl (make_own l.length (n := ((l.map iv).length : Int)) rfl rfl (by rw [List.length_map]) rfl rfl rfl rfl rfl rfl rfl (by decide) (by omega) rfl rfl) rfl rfl ?_
 repeat (first | refine jS ?_ | refine jD ?_ | refine jB ?_)
 refine jo rfl rfl (copy_own rfl rfl rfl rfl rfl rfl rfl rfl (fun y hy => by rw [List.eq_of_mem_replicate hy]; exact ⟨rfl, rfl⟩) (elems_iv l) (by simp) rfl) rfl rfl ?_
 repeat (first | refine jS ?_ | refine jD ?_ | refine jB ?_)
 exact jret [0] true rfl rfl rfl ⟨rfl, rfl⟩
theorem load_ok (m : Mem) (k : Int) (hr : mRight m = true) : ACalls Tryz.prog 154 [encMem m, iv k] [] (one (.tup [iv (mLoad m k).1, iv (mLoad m k).2]) []) := by
 have hu := use_ok m k hr
 obtain ⟨r1, r2, r3, r4⟩ := (mRight_iff m).1 hr
 have hk : mUse m k = 0 → 0 ≤ k ∧ k < m.words.length := fun h => by
  unfold mUse at h
  cases hi : inn k 0 (m.words.length - 1) with
  | false => rw [hi] at h; cases h
  | true => have := inn_iff.1 hi; omega
 unfold mLoad
 generalize mUse m k = e at *
 obtain ⟨ws, ts⟩ := m
 simp only at r1 r2 r3 r4 hk
 unfold encMem mCells ivs at *
 simp only at hu ⊢
 have hd : (e != 0) = !decide (e = 0) := rfl
 cases he : decide (e = 0) with
 | false =>
  rw [he] at hd
  refine jcalls Tryz.func154 rfl (by kernel_rfl) Tryz.ntmps154 rfl rfl (fun w0 β0 ext hβ => ?_)
  repeat (first | refine jS ?_ | refine jD ?_ | refine jB ?_ | refine jV hu ?_)
  rw [hd]
  repeat (first | refine jS ?_ | refine jD ?_ | refine jB ?_)
  exact jR
 | true =>
  rw [he] at hd
  obtain ⟨k1, k2⟩ := hk (of_decide_eq_true he)
  refine jcalls Tryz.func154 rfl (by kernel_rfl) Tryz.ntmps154 rfl rfl (fun w0 β0 ext hβ => ?_)
  repeat (first | refine jS ?_ | refine jD ?_ | refine jB ?_ | refine jV hu ?_)
  rw [hd]
  repeat (first | refine jS ?_ | refine jD ?_ | refine jB ?_ | refine jo rfl rfl (index_at rfl rfl rfl rfl rfl rfl rfl rfl k1 k2) rfl rfl ?_)
  exact jR
theorem store_ok (m : Mem) (k v : Int) (hr : mRight m = true) : ACalls Tryz.prog 57 [encMem m, iv k, iv v] [] (one (.tup [encMem (mStore m k v).1, iv (mStore m k v).2]) []) := by
 have hu := use_ok m k hr
 obtain ⟨r1, r2, r3, r4⟩ := (mRight_iff m).1 hr
 have hk : mUse m k = 0 → 0 ≤ k ∧ k < m.words.length := fun h => by
  unfold mUse at h
  cases hi : inn k 0 (m.words.length - 1) with
  | false => rw [hi] at h; cases h
  | true => have := inn_iff.1 hi; omega
 unfold mStore
 generalize mUse m k = e at *
 obtain ⟨ws, ts⟩ := m
 simp only at r1 r2 r3 r4 hk
 have hc := copied_ok ws (by omega)
 unfold encMem mCells ivs at *
 simp only at hu ⊢
 have hd : (e != 0) = !decide (e = 0) := rfl
 cases he : decide (e = 0) with
 | false =>
  rw [he] at hd
  refine jcalls Tryz.func57 rfl (by kernel_rfl) Tryz.ntmps57 rfl rfl (fun w0 β0 ext hβ => ?_)
  repeat (first | refine jS ?_ | refine jD ?_ | refine jB ?_ | refine jV hu ?_)
  rw [hd]
  repeat (first | refine jS ?_ | refine jD ?_ | refine jB ?_)
  exact jR
 | true =>
  rw [he] at hd
  obtain ⟨k1, k2⟩ := hk (of_decide_eq_true he)
  obtain ⟨q, rfl⟩ : ∃ q : Nat, k = q := ⟨k.toNat, by omega⟩
  refine jcalls Tryz.func57 rfl (by kernel_rfl) Tryz.ntmps57 rfl rfl (fun w0 β0 ext hβ => ?_)
  repeat (first | refine jS ?_ | refine jD ?_ | refine jB ?_ | refine jV hu ?_)
  rw [hd]
  repeat (first | refine jS ?_ | refine jD ?_ | refine jB ?_)
  refine jb [] hc rfl rfl rfl ⟨rfl, rfl, rfl, rfl, rfl, rfl⟩ rfl rfl rfl rfl ?_
  repeat (first | refine jS ?_ | refine jD ?_ | refine jB ?_)
  refine jo rfl rfl (index_own (xs := ws.map iv) (n := (q : Int)) rfl rfl rfl rfl rfl rfl k1 (by simp only [List.length_map]; exact k2)) rfl rfl ?_
  refine jo rfl rfl (store_enc (enc := iv) (l := ws) (l' := ws.set q v) rfl rfl rfl (map_at (by omega)) rfl rfl rfl rfl rfl (Nat.le_of_ble_eq_true rfl) (.inr ⟨rfl, rfl⟩) (put_at (enc := iv) rfl) rfl) rfl rfl ?_
  repeat (first | refine jS ?_ | refine jD ?_ | refine jB ?_)
  exact jR
theorem mkTags_len {tags : List Int} {k n : Nat} {tag : Int} (h : k + n ≤ tags.length) : (mkTags tags k n tag).length = tags.length := by
 unfold mkTags
 simp only [List.length_append, List.length_take, List.length_replicate, List.length_drop]; omega
theorem mkTags_get {tags : List Int} {k n : Nat} {tag : Int} (h : k + n < tags.length) : at' (mkTags tags k n tag) ((k + n : Nat) : Int) = at' tags ((k + n : Nat) : Int) := by
 rw [at_nat _ _ (by rw [mkTags_len (by omega)]; exact h), at_nat _ _ h]
 unfold mkTags
 rw [List.getElem_append_right (by simp; omega)]
 simp only [List.length_append, List.length_take, List.length_replicate, List.getElem_drop]
 congr 1; omega
theorem mkTags_succ {tags : List Int} {k n : Nat} {tag : Int} (h : k + n < tags.length) : (mkTags tags k n tag).set (k + n) tag = mkTags tags k (n + 1) tag := by
 unfold mkTags
 have e1 : tags.drop (k + n) = tags[k + n] :: tags.drop (k + n + 1) := by rw [List.drop_eq_getElem_cons h]
 rw [List.set_append_right _ _ (by simp; omega), e1]
 have e2 : k + n - (tags.take k ++ List.replicate n tag).length = 0 := by simp; omega
 rw [e2, List.set_cons_zero, List.replicate_succ', List.append_assoc, List.append_assoc, List.append_assoc]
 rfl
theorem mkBad_stop {tags : List Int} {k i : Nat} {tag : Int} (h0 : mkBad tags k tag i = 0) (h : mkE tag (g0 tags (k + i)) ≠ 0) : ∀ n, mkBad tags k tag (i + 1 + n) = mkE tag (g0 tags (k + i))
 | 0 => by rw [Nat.add_zero, mkBad, h0]; rfl
 | n + 1 => by
  have ih := mkBad_stop h0 h n
  rw [← Nat.add_assoc, mkBad, ih, decide_eq_false h]; rfl
theorem mkBad_go {tags : List Int} {k i : Nat} {tag : Int} (h0 : mkBad tags k tag i = 0) (h : mkE tag (g0 tags (k + i)) = 0) : mkBad tags k tag (i + 1) = 0 := by
 rw [mkBad, h0, h]; rfl
theorem mark_ok (m : Mem) (k n tag : Int) (hr : mRight m = true) (ht : tag = 1 ∨ tag = 2) : ACalls Tryz.prog 52 [encMem m, iv k, iv n, iv tag] [] (one (.tup [encMem (mMark m k n tag).1, iv (mMark m k n tag).2]) []) := by
 have h1 := mem_right m (by obtain ⟨r1, r2, r3, r4⟩ := (mRight_iff m).1 hr; omega) (by obtain ⟨r1, r2, r3, r4⟩ := (mRight_iff m).1 hr; omega)
 rw [hr] at h1
 obtain ⟨r1, r2, r3, r4⟩ := (mRight_iff m).1 hr
 obtain ⟨ws, ts⟩ := m
 simp only at r1 r2 r3 r4
 have hc := copied_ok ts (by omega)
 unfold mMark
 simp only
 unfold encMem mCells ivs at *
 simp only at h1 hc ⊢
 by_cases g : 1 ≤ n ∧ 0 ≤ k ∧ k < ws.length ∧ n ≤ ws.length - k
 ·obtain ⟨q, rfl⟩ : ∃ q : Nat, k = q := ⟨k.toNat, by omega⟩
  obtain ⟨n, rfl⟩ : ∃ p : Nat, n = p := ⟨n.toNat, by omega⟩
  have e0 : (decide (1 ≤ (n : Int)) && (inn (q : Int) 0 (ws.length - 1) && decide ((n : Int) ≤ ws.length - (q : Int)))) = true := by
   unfold inn; simp only [Bool.and_eq_true, decide_eq_true_eq]; omega
  rw [e0]
  simp only [cond_true, Int.toNat_natCast]
  have c1 : decide ((n : Int) < 1) = false := decide_eq_false (by omega)
  have c2 : decide ((q : Int) < 0) = false := decide_eq_false (by omega)
  have c3 : decide ((q : Int) ≥ ((ws.map iv).length : Int)) = false := decide_eq_false (by rw [List.length_map]; omega)
  have c4 : decide ((n : Int) > IntKind.i64.wrap (((ws.map iv).length : Int) - q)) = false := decide_eq_false (by rw [List.length_map, wrap_id] <;> omega)
  have hle : q + n ≤ ts.length := by omega
  have htl : ts.length ≤ 160 := by omega
  have mk0 : ∀ t, mkTags ts q 0 t = ts := fun t => by simp [mkTags]
  rcases ht with rfl | rfl
  ·refine jcalls Tryz.func52 rfl (by kernel_rfl) Tryz.ntmps52 rfl rfl (fun w0 β0 ext hβ => ?_)
   repeat (first | refine jS ?_ | refine jD ?_ | refine jB ?_ | refine jV h1 ?_)
   rw [c1]
   repeat (first | refine jS ?_ | refine jD ?_ | refine jB ?_)
   rw [c2]
   repeat (first | refine jS ?_ | refine jD ?_ | refine jB ?_)
   rw [c3]
   repeat (first | refine jS ?_ | refine jD ?_ | refine jB ?_)
   rw [c4]
   repeat (first | refine jS ?_ | refine jD ?_ | refine jB ?_)
   refine jb [] hc rfl rfl rfl ⟨rfl, rfl, rfl, rfl, rfl, rfl⟩ rfl rfl rfl rfl ?_
   repeat (first | refine jS ?_ | refine jD ?_ | refine jB ?_)
   refine jloopI (fun i : Nat => i ≤ n ∧ mkBad ts q 1 i = 0) [1, 3, 4, 8, 54, 55] (fun i => [iv (q : Int), iv 1, .ptr 0 0, .ptr 1 0, iv (n : Int), iv (i : Int)])
    (fun i => [.box 26 [.sl (ws.map iv), .arr 2 1], .box 26 [.slf [], .slf []], .arr 1 3 1 ((mkTags ts q i 1).map iv)]) (fun i => n - i) 0 ⟨Nat.zero_le _, rfl⟩ rfl ?_ (fun i hi => ?_)
   ·rw [mk0]
   obtain ⟨hi, hz⟩ := hi
   repeat (first | refine jS ?_ | refine jD ?_ | refine jB ?_)
   refine jc rfl rfl rfl (fun h => ?_) (fun h => ?_)
   ·have h := of_decide_eq_true h
    have hi2 : i < n := by omega
    have hadd : IntKind.i64.wrap ((q : Int) + i) = ((q + i : Nat) : Int) := by rw [wrap_id] <;> omega
    have hidx : IntKind.i64.wrap ((i : Int) + 1) = ((i + 1 : Nat) : Int) := idx_next hi2 (by omega)
    have hln := mkTags_len (tags := ts) (k := q) (n := i) (tag := 1) (by omega)
    have hgt := mkTags_get (tags := ts) (k := q) (n := i) (tag := 1) (by omega)
    have hsu := mkTags_succ (tags := ts) (k := q) (n := i) (tag := 1) (by omega)
    have hg0 : g0 ts (q + i) = at' ts ((q + i : Nat) : Int) := by rw [← g0_at, Int.toNat_natCast]
    have hbd := tag_bd (r4 (q + i) (by omega))
    have hwy := why_ok _ hbd.1 hbd.2
    have hst := fun h => mkBad_stop (tags := ts) (k := q) (tag := 1) hz h (n - (i + 1))
    rw [show i + 1 + (n - (i + 1)) = n by omega, hg0] at hst
    have hgo := fun h => mkBad_go (tags := ts) (k := q) (tag := 1) hz h
    rw [hg0] at hgo
    generalize hT : at' ts ((q + i : Nat) : Int) = T at *
    repeat (first | refine jS ?_ | refine jD ?_ | refine jB ?_)
    rw [hadd]
    refine jo rfl rfl (index_own rfl rfl rfl rfl rfl rfl (by omega) (by simp only [List.length_map]; omega)) rfl rfl ?_
    refine jo rfl rfl (load_own (v := iv T) rfl rfl (by rw [map_at (by omega), hgt]) rfl rfl rfl) rfl rfl ?_
    repeat (first | refine jS ?_ | refine jD ?_ | refine jB ?_ | refine jV hwy ?_)
    refine jc rfl rfl rfl (fun h0 => ?_) (fun h0 => ?_)
    ·repeat (first | refine jS ?_ | refine jD ?_ | refine jB ?_)
     have hv : mkE 1 T = 6 := by rw [beq_iff_eq] at h0; rw [h0]; rfl
     have hB := hst (by rw [hv]; decide)
     rw [hv] at hB
     have hB0 : decide (mkBad ts q 1 n = 0) = false := decide_eq_false (by rw [hB]; decide)
     rw [hB0]
     simp only [cond_false]
     rw [hB]
     exact jR
    ·repeat (first | refine jS ?_ | refine jD ?_ | refine jB ?_ | refine jV hwy ?_)
     rw [hadd]
     refine jo rfl rfl (index_own rfl rfl rfl rfl rfl rfl (by omega) (by simp only [List.length_map]; omega)) rfl rfl ?_
     refine jo rfl rfl (store_enc (enc := iv) (l := mkTags ts q i 1) (l' := mkTags ts q (i + 1) 1) rfl rfl rfl (map_at (by omega)) rfl rfl rfl rfl rfl (Nat.le_of_ble_eq_true rfl) (.inr ⟨rfl, rfl⟩) (by rw [put_at (enc := iv) rfl, hsu]) rfl) rfl rfl ?_
     repeat (first | refine jS ?_ | refine jD ?_ | refine jB ?_)
     refine jnextI (i + 1) ⟨by omega, hgo (by rw [beq_eq_false_iff_ne] at h0; unfold mkE; rw [decide_eq_false h0]; rfl)⟩ ?_ rfl (by omega)
     show some _ = some _
     rw [hidx]
     rfl
   ·have h := of_decide_eq_false h
    have : i = n := by omega
    subst this
    have hB0 : decide (mkBad ts q 1 i = 0) = true := decide_eq_true hz
    rw [hB0]
    simp only [cond_true]
    repeat (first | refine jS ?_ | refine jD ?_ | refine jB ?_)
    exact jR
  ·refine jcalls Tryz.func52 rfl (by kernel_rfl) Tryz.ntmps52 rfl rfl (fun w0 β0 ext hβ => ?_)
   repeat (first | refine jS ?_ | refine jD ?_ | refine jB ?_ | refine jV h1 ?_)
   rw [c1]
   repeat (first | refine jS ?_ | refine jD ?_ | refine jB ?_)
   rw [c2]
   repeat (first | refine jS ?_ | refine jD ?_ | refine jB ?_)
   rw [c3]
   repeat (first | refine jS ?_ | refine jD ?_ | refine jB ?_)
   rw [c4]
   repeat (first | refine jS ?_ | refine jD ?_ | refine jB ?_)
   refine jb [] hc rfl rfl rfl ⟨rfl, rfl, rfl, rfl, rfl, rfl⟩ rfl rfl rfl rfl ?_
   repeat (first | refine jS ?_ | refine jD ?_ | refine jB ?_)
   refine jloopI (fun i : Nat => i ≤ n ∧ mkBad ts q 2 i = 0) [1, 3, 4, 8, 54, 55] (fun i => [iv (q : Int), iv 2, .ptr 0 0, .ptr 1 0, iv (n : Int), iv (i : Int)])
    (fun i => [.box 26 [.sl (ws.map iv), .arr 2 1], .box 26 [.slf [], .slf []], .arr 1 3 1 ((mkTags ts q i 2).map iv)]) (fun i => n - i) 0 ⟨Nat.zero_le _, rfl⟩ rfl ?_ (fun i hi => ?_)
   ·rw [mk0]
   obtain ⟨hi, hz⟩ := hi
   repeat (first | refine jS ?_ | refine jD ?_ | refine jB ?_)
   refine jc rfl rfl rfl (fun h => ?_) (fun h => ?_)
   ·have h := of_decide_eq_true h
    have hi2 : i < n := by omega
    have hadd : IntKind.i64.wrap ((q : Int) + i) = ((q + i : Nat) : Int) := by rw [wrap_id] <;> omega
    have hidx : IntKind.i64.wrap ((i : Int) + 1) = ((i + 1 : Nat) : Int) := idx_next hi2 (by omega)
    have hln := mkTags_len (tags := ts) (k := q) (n := i) (tag := 2) (by omega)
    have hgt := mkTags_get (tags := ts) (k := q) (n := i) (tag := 2) (by omega)
    have hsu := mkTags_succ (tags := ts) (k := q) (n := i) (tag := 2) (by omega)
    have hg0 : g0 ts (q + i) = at' ts ((q + i : Nat) : Int) := by rw [← g0_at, Int.toNat_natCast]
    have hbd := tag_bd (r4 (q + i) (by omega))
    have hwy := why_ok _ hbd.1 hbd.2
    have hst := fun h => mkBad_stop (tags := ts) (k := q) (tag := 2) hz h (n - (i + 1))
    rw [show i + 1 + (n - (i + 1)) = n by omega, hg0] at hst
    have hgo := fun h => mkBad_go (tags := ts) (k := q) (tag := 2) hz h
    rw [hg0] at hgo
    generalize hT : at' ts ((q + i : Nat) : Int) = T at *
    repeat (first | refine jS ?_ | refine jD ?_ | refine jB ?_)
    rw [hadd]
    refine jo rfl rfl (index_own rfl rfl rfl rfl rfl rfl (by omega) (by simp only [List.length_map]; omega)) rfl rfl ?_
    refine jo rfl rfl (load_own (v := iv T) rfl rfl (by rw [map_at (by omega), hgt]) rfl rfl rfl) rfl rfl ?_
    repeat (first | refine jS ?_ | refine jD ?_ | refine jB ?_ | refine jV hwy ?_)
    refine jc rfl rfl rfl (fun h0 => ?_) (fun h0 => ?_)
    ·repeat (first | refine jS ?_ | refine jD ?_ | refine jB ?_)
     have hv : why T ≠ 0 := by rw [bne_iff_ne] at h0; exact h0
     have hB := hst hv
     have hB0 : decide (mkBad ts q 2 n = 0) = false := decide_eq_false (by rw [hB]; exact hv)
     rw [hB0]
     simp only [cond_false]
     rw [hB]
     exact jR
    ·repeat (first | refine jS ?_ | refine jD ?_ | refine jB ?_ | refine jV hwy ?_)
     rw [hadd]
     refine jo rfl rfl (index_own rfl rfl rfl rfl rfl rfl (by omega) (by simp only [List.length_map]; omega)) rfl rfl ?_
     refine jo rfl rfl (store_enc (enc := iv) (l := mkTags ts q i 2) (l' := mkTags ts q (i + 1) 2) rfl rfl rfl (map_at (by omega)) rfl rfl rfl rfl rfl (Nat.le_of_ble_eq_true rfl) (.inr ⟨rfl, rfl⟩) (by rw [put_at (enc := iv) rfl, hsu]) rfl) rfl rfl ?_
     repeat (first | refine jS ?_ | refine jD ?_ | refine jB ?_)
     refine jnextI (i + 1) ⟨by omega, hgo (by rw [bne_eq_false_iff_eq] at h0; exact h0)⟩ ?_ rfl (by omega)
     show some _ = some _
     rw [hidx]
     rfl
   ·have h := of_decide_eq_false h
    have : i = n := by omega
    subst this
    have hB0 : decide (mkBad ts q 2 i = 0) = true := decide_eq_true hz
    rw [hB0]
    simp only [cond_true]
    repeat (first | refine jS ?_ | refine jD ?_ | refine jB ?_)
    exact jR
 ·have e0 : (decide (1 ≤ n) && (inn k 0 (ws.length - 1) && decide (n ≤ ws.length - k))) = false := by
   rw [Bool.eq_false_iff]; intro h; apply g
   unfold inn at h; simp only [Bool.and_eq_true, decide_eq_true_eq] at h; omega
  rw [e0]
  have hml : ((ws.map iv).length : Int) = ws.length := by rw [List.length_map]
  have hwr : 0 ≤ k → k < ws.length → IntKind.i64.wrap (((ws.map iv).length : Int) - k) = ws.length - k := fun a b => by rw [hml, wrap_id] <;> omega
  rcases ht with rfl | rfl
  all_goals (
   refine jcalls Tryz.func52 rfl (by kernel_rfl) Tryz.ntmps52 rfl rfl (fun w0 β0 ext hβ => ?_)
   repeat' (first | refine jS ?_ | refine jD ?_ | refine jB ?_ | refine jV h1 ?_ | refine jo rfl rfl (index_at rfl rfl rfl rfl rfl rfl rfl rfl (by omega) (by omega)) rfl rfl ?_ | (refine jc rfl rfl rfl (fun h => ?_) (fun h => ?_) <;> (try simp only [decide_eq_true_eq, decide_eq_false_iff_not, beq_iff_eq, beq_eq_false_iff_ne, bne_iff_ne, bne_eq_false_iff_eq, ne_eq] at h) <;> (try (exfalso; omega))) | (refine jg rfl rfl rfl rfl (fun h => ?_) (fun h => ?_) <;> (fail_if_success (exact absurd h (by decide))) <;> (try simp only [decide_eq_true_eq, decide_eq_false_iff_not, beq_iff_eq, beq_eq_false_iff_ne, bne_iff_ne, bne_eq_false_iff_eq, ne_eq] at h) <;> (try (exfalso; omega))))
  )
  all_goals exact jR
end Go.AL
end
section
set_option maxRecDepth 100000
namespace Go.AL
open Go Go.Proofs
attribute [local irreducible] J
theorem elems_put (l : List (Wput)) : ElemsOk 2 (l.map encPut) := by
 intro y hy
 obtain ⟨a, _, rfl⟩ := List.mem_map.1 hy
 exact ⟨rfl, rfl⟩
theorem clone_put_v (l : List (Wput)) (hl : l.length ≤ 1000) : ACalls Tryz.prog 197 [.sl (l.map encPut)] [] (one (.sl (l.map encPut)) []) := by
 refine jcalls Tryz.func197 rfl (by kernel_rfl) Tryz.ntmps197 rfl rfl (fun w0 β0 ext hβ => ?_)
 repeat (first | refine jS ?_ | refine jD ?_ | refine jB ?_)
 refine jq rfl rfl rfl (eq_nil rfl rfl rfl rfl) ?_
 rintro r H' ⟨⟨b, rfl, hb⟩, rfl⟩
 refine ⟨_, rfl, ?_⟩
 repeat (first | refine jS ?_ | refine jD ?_ | refine jB ?_)
 refine jif rfl (fun h => ?_) (fun h => ?_)
 ·rw [hb h]
  repeat (first | refine jS ?_ | refine jD ?_ | refine jB ?_)
  exact jret [] true rfl rfl rfl ⟨rfl, rfl⟩
 ·by_cases h0 : l = []
  ·subst h0
   repeat (first | refine jS ?_ | refine jD ?_ | refine jB ?_)
   refine jo (kd := .m) rfl rfl (append_nil rfl rfl (SrcOf.sl rfl) rfl rfl rfl rfl rfl) rfl rfl ?_
   repeat (first | refine jS ?_ | refine jD ?_ | refine jB ?_)
   exact jret [] true rfl rfl rfl ⟨rfl, rfl⟩
  ·repeat (first | refine jS ?_ | refine jD ?_ | refine jB ?_)
   refine jo rfl rfl (append_new rfl rfl (.sl rfl) rfl rfl rfl rfl rfl (fun y hy => by cases hy) (elems_put l) rfl (by simpa using h0) (by simp [ty222]; omega) (by simp; omega)) rfl rfl ?_
   repeat (first | refine jS ?_ | refine jD ?_ | refine jB ?_)
   exact jR
theorem elems_buf (l : List (List Wput)) : ElemsOk 1 (l.map encBuf) := by
 intro y hy
 obtain ⟨a, _, rfl⟩ := List.mem_map.1 hy
 exact ⟨rfl, rfl⟩
theorem clone_buf (l : List (List Wput)) (h0 : l ≠ []) (hl : l.length ≤ 1000) : ACalls Tryz.prog 149 [.sl (l.map encBuf)] [] (one (.arr 0 1) [.arr 1 159 1 (l.map encBuf)]) := by
 refine jcalls Tryz.func149 rfl (by kernel_rfl) Tryz.ntmps149 rfl rfl (fun w0 β0 ext hβ => ?_)
 repeat (first | refine jS ?_ | refine jD ?_ | refine jB ?_)
 refine jq rfl rfl rfl (eq_nil rfl rfl rfl rfl) ?_
 rintro r H' ⟨⟨b, rfl, hb⟩, rfl⟩
 refine ⟨_, rfl, ?_⟩
 have hb : b = false := by
  cases b with
  | false => rfl
  | true => exact absurd (by simpa using hb rfl) h0
 subst hb
 repeat (first | refine jS ?_ | refine jD ?_ | refine jB ?_)
 refine jo rfl rfl (append_new rfl rfl (.sl rfl) rfl rfl rfl rfl rfl (fun y hy => by cases hy) (elems_buf l) rfl (by simpa using h0) (by simp [ty159]; omega) (by simp; omega)) rfl rfl ?_
 repeat (first | refine jS ?_ | refine jD ?_ | refine jB ?_)
 exact jret [0] true rfl rfl rfl ⟨rfl, rfl⟩
theorem elems_thr (l : List (Thr)) : ElemsOk 13 (l.map encThr) := by
 intro y hy
 obtain ⟨a, _, rfl⟩ := List.mem_map.1 hy
 exact ⟨rfl, rfl⟩
theorem clone_thr (l : List (Thr)) (h0 : l ≠ []) (hl : l.length ≤ 1000) : ACalls Tryz.prog 198 [.sl (l.map encThr)] [] (one (.arr 0 1) [.arr 1 43 13 (l.map encThr)]) := by
 refine jcalls Tryz.func198 rfl (by kernel_rfl) Tryz.ntmps198 rfl rfl (fun w0 β0 ext hβ => ?_)
 repeat (first | refine jS ?_ | refine jD ?_ | refine jB ?_)
 refine jq rfl rfl rfl (eq_nil rfl rfl rfl rfl) ?_
 rintro r H' ⟨⟨b, rfl, hb⟩, rfl⟩
 refine ⟨_, rfl, ?_⟩
 have hb : b = false := by
  cases b with
  | false => rfl
  | true => exact absurd (by simpa using hb rfl) h0
 subst hb
 repeat (first | refine jS ?_ | refine jD ?_ | refine jB ?_)
 refine jo rfl rfl (append_new rfl rfl (.sl rfl) rfl rfl rfl rfl rfl (fun y hy => by cases hy) (elems_thr l) rfl (by simpa using h0) (by simp [ty43]; omega) (by simp; omega)) rfl rfl ?_
 repeat (first | refine jS ?_ | refine jD ?_ | refine jB ?_)
 exact jret [0] true rfl rfl rfl ⟨rfl, rfl⟩
theorem elems_int (l : List (Int)) : ElemsOk 1 (l.map iv) := by
 intro y hy
 obtain ⟨a, _, rfl⟩ := List.mem_map.1 hy
 exact ⟨rfl, rfl⟩
theorem clone_int (l : List (Int)) (h0 : l ≠ []) (hl : l.length ≤ 1000) : ACalls Tryz.prog 199 [.sl (l.map iv)] [] (one (.arr 0 1) [.arr 1 3 1 (l.map iv)]) := by
 refine jcalls Tryz.func199 rfl (by kernel_rfl) Tryz.ntmps199 rfl rfl (fun w0 β0 ext hβ => ?_)
 repeat (first | refine jS ?_ | refine jD ?_ | refine jB ?_)
 refine jq rfl rfl rfl (eq_nil rfl rfl rfl rfl) ?_
 rintro r H' ⟨⟨b, rfl, hb⟩, rfl⟩
 refine ⟨_, rfl, ?_⟩
 have hb : b = false := by
  cases b with
  | false => rfl
  | true => exact absurd (by simpa using hb rfl) h0
 subst hb
 repeat (first | refine jS ?_ | refine jD ?_ | refine jB ?_)
 refine jo rfl rfl (append_new rfl rfl (.sl rfl) rfl rfl rfl rfl rfl (fun y hy => by cases hy) (elems_int l) rfl (by simpa using h0) (by simp [ty3]; omega) (by simp; omega)) rfl rfl ?_
 repeat (first | refine jS ?_ | refine jD ?_ | refine jB ?_)
 exact jret [0] true rfl rfl rfl ⟨rfl, rfl⟩
theorem elems_frm (l : List (Frm)) : ElemsOk 5 (l.map encFrm) := by
 intro y hy
 obtain ⟨a, _, rfl⟩ := List.mem_map.1 hy
 exact ⟨rfl, rfl⟩
theorem clone_frm_v (l : List (Frm)) (hl : l.length ≤ 1000) : ACalls Tryz.prog 267 [.sl (l.map encFrm)] [] (one (.sl (l.map encFrm)) []) := by
 refine jcalls Tryz.func267 rfl (by kernel_rfl) Tryz.ntmps267 rfl rfl (fun w0 β0 ext hβ => ?_)
 repeat (first | refine jS ?_ | refine jD ?_ | refine jB ?_)
 refine jq rfl rfl rfl (eq_nil rfl rfl rfl rfl) ?_
 rintro r H' ⟨⟨b, rfl, hb⟩, rfl⟩
 refine ⟨_, rfl, ?_⟩
 repeat (first | refine jS ?_ | refine jD ?_ | refine jB ?_)
 refine jif rfl (fun h => ?_) (fun h => ?_)
 ·rw [hb h]
  repeat (first | refine jS ?_ | refine jD ?_ | refine jB ?_)
  exact jret [] true rfl rfl rfl ⟨rfl, rfl⟩
 ·by_cases h0 : l = []
  ·subst h0
   repeat (first | refine jS ?_ | refine jD ?_ | refine jB ?_)
   refine jo (kd := .m) rfl rfl (append_nil rfl rfl (SrcOf.sl rfl) rfl rfl rfl rfl rfl) rfl rfl ?_
   repeat (first | refine jS ?_ | refine jD ?_ | refine jB ?_)
   exact jret [] true rfl rfl rfl ⟨rfl, rfl⟩
  ·repeat (first | refine jS ?_ | refine jD ?_ | refine jB ?_)
   refine jo rfl rfl (append_new rfl rfl (.sl rfl) rfl rfl rfl rfl rfl (fun y hy => by cases hy) (elems_frm l) rfl (by simpa using h0) (by simp [ty174]; omega) (by simp; omega)) rfl rfl ?_
   repeat (first | refine jS ?_ | refine jD ?_ | refine jB ?_)
   exact jR
theorem clip_evt (l : List (Evt)) : ACalls Tryz.prog 196 [.sl (l.map encEvt)] [] (one (.slf (l.map encEvt)) []) := by
 have hel : ElemsOk 6 (l.map encEvt) := by
  intro y hy
  obtain ⟨a, _, rfl⟩ := List.mem_map.1 hy
  exact ⟨rfl, rfl⟩
 refine jcalls Tryz.func196 rfl (by kernel_rfl) Tryz.ntmps196 rfl rfl (fun w0 β0 ext hβ => ?_)
 repeat (first | refine jS ?_ | refine jD ?_ | refine jB ?_)
 refine jo rfl rfl (cut_full rfl rfl rfl rfl rfl rfl rfl rfl hel (Int.le_refl 0) (Int.natCast_nonneg _) (Int.le_refl _)) rfl rfl ?_
 rw [show List.take (((l.map encEvt).length : Int).toNat - (0 : Int).toNat) (List.drop (0 : Int).toNat (l.map encEvt)) = l.map encEvt by rw [List.take_of_length_le (by simp)]; simp]
 repeat (first | refine jS ?_ | refine jD ?_ | refine jB ?_)
 exact jret [] false rfl rfl rfl ⟨rfl, rfl⟩
theorem clip_frm (l : List (Frm)) : ACalls Tryz.prog 266 [.sl (l.map encFrm)] [] (one (.slf (l.map encFrm)) []) := by
 have hel : ElemsOk 5 (l.map encFrm) := by
  intro y hy
  obtain ⟨a, _, rfl⟩ := List.mem_map.1 hy
  exact ⟨rfl, rfl⟩
 refine jcalls Tryz.func266 rfl (by kernel_rfl) Tryz.ntmps266 rfl rfl (fun w0 β0 ext hβ => ?_)
 repeat (first | refine jS ?_ | refine jD ?_ | refine jB ?_)
 refine jo rfl rfl (cut_full rfl rfl rfl rfl rfl rfl rfl rfl hel (Int.le_refl 0) (Int.natCast_nonneg _) (Int.le_refl _)) rfl rfl ?_
 rw [show List.take (((l.map encFrm).length : Int).toNat - (0 : Int).toNat) (List.drop (0 : Int).toNat (l.map encFrm)) = l.map encFrm by rw [List.take_of_length_le (by simp)]; simp]
 repeat (first | refine jS ?_ | refine jD ?_ | refine jB ?_)
 exact jret [] false rfl rfl rfl ⟨rfl, rfl⟩
end Go.AL
end
section
set_option maxRecDepth 100000
namespace Go.AL
open Go Go.Proofs
attribute [local irreducible] J
def fidxG {α : Type} (p : α → Bool) (l : List α) : Int := match l.findIdx? p with | some i => i | none => -1
theorem at_mem {α : Type} [Inhabited α] {l : List α} {k : Nat} (h : k < l.length) : at' l (k : Int) ∈ l := by
 rw [at_nat l k h]; exact List.getElem_mem h
theorem fidxG_some {α : Type} [Inhabited α] {p : α → Bool} {l : List α} {k : Nat} (h : k < l.length) (hb : p (at' l (k : Int)) = true) (hok : ∀ q, q < k → p (at' l (q : Int)) = false) : fidxG p l = (k : Int) := by
 unfold fidxG
 rw [at_nat l k h] at hb
 rw [List.findIdx?_eq_some_iff_getElem.2 ⟨h, hb, fun j hj => by
  have e2 := hok j hj
  rw [at_nat l j (by omega)] at e2
  simp [e2]⟩]
theorem fidxG_none {α : Type} [Inhabited α] {p : α → Bool} {l : List α} (hok : ∀ q, q < l.length → p (at' l (q : Int)) = false) : fidxG p l = -1 := by
 unfold fidxG
 rw [List.findIdx?_eq_none_iff.2 fun x hx => ?_]
 obtain ⟨i, hi, rfl⟩ := List.getElem_of_mem hx
 have e2 := hok i hi
 rw [at_nat l i hi] at e2
 exact e2
theorem fidxG_any {α : Type} (p : α → Bool) (l : List α) : decide (fidxG p l ≥ 0) = l.any p := by
 unfold fidxG
 cases hf : l.findIdx? p with
 | some i =>
  obtain ⟨hi, h3, _⟩ := List.findIdx?_eq_some_iff_getElem.1 hf
  have : l.any p = true := by
   rw [List.any_eq_true]
   exact ⟨_, List.getElem_mem hi, h3⟩
  rw [this]; simp
 | none =>
  rw [List.findIdx?_eq_none_iff] at hf
  have : l.any p = false := by
   rw [List.any_eq_false]
   intro x hx
   simp [hf x hx]
  rw [this]; rfl
theorem findex_put (f : FuncId) (xs : List (Wput)) (p : Wput → Bool) (a b c : List AVal) (d : Int) (hl : xs.length ≤ 1000000) (hc : ∀ x ∈ xs, ACalls Tryz.prog f [encPut x, .ptr 0 0] [.box 29 [.sl a, .sl b, iv d, .sl c]] (one (bv (p x)) [.box 29 [.sl a, .sl b, iv d, .sl c]])) : ACalls Tryz.prog 184 [.sl (xs.map encPut), .fn (.func f) [] [.ptr 0 0]] [.box 29 [.sl a, .sl b, iv d, .sl c]] (one (iv (fidxG p xs)) [.box 29 [.sl a, .sl b, iv d, .sl c]]) := by
 refine jcalls Tryz.func184 rfl (by kernel_rfl) Tryz.ntmps184 rfl rfl (fun w0 β0 ext hβ => ?_)
 repeat (first | refine jS ?_ | refine jD ?_ | refine jB ?_)
 refine jloopI (fun k : Nat => k ≤ xs.length ∧ ∀ q, q < k → p (at' xs (q : Int)) = false) [0, 1, 8, 7] (fun k => [.sl (xs.map encPut), .fn (.func f) [] [.ptr 0 0], .v (.int .i64 (k : Int)), .v (.int .i64 ((xs.map encPut).length : Int))])
  (fun _ => [.box 29 [.sl a, .sl b, iv d, .sl c]]) (fun k => xs.length - k) 0 ⟨Nat.zero_le _, fun q h => absurd h (by omega)⟩ rfl rfl (fun k hk => ?_)
 obtain ⟨hk, hok⟩ := hk
 repeat (first | refine jS ?_ | refine jD ?_ | refine jB ?_)
 refine jc rfl rfl rfl (fun h => ?_) (fun h => ?_)
 ·have h := of_decide_eq_true h
  rw [List.length_map] at h
  have hk2 : k < xs.length := by omega
  have hcx := hc (at' xs (k : Int)) (at_mem hk2)
  repeat (first | refine jS ?_ | refine jD ?_ | refine jB ?_ | refine jo rfl rfl (index_at rfl rfl rfl rfl rfl rfl rfl rfl (Int.natCast_nonneg k) h) rfl rfl ?_)
  refine jb [0] hcx rfl rfl rfl ⟨rfl, rfl, rfl, rfl, rfl, rfl⟩ rfl rfl rfl rfl ?_
  cases hb : p (at' xs (k : Int)) with
  | true =>
   repeat (first | refine jS ?_ | refine jD ?_ | refine jB ?_)
   rw [fidxG_some hk2 hb hok]
   exact jR
  | false =>
   repeat (first | refine jS ?_ | refine jD ?_ | refine jB ?_)
   refine jnextI (k + 1) ⟨by omega, fun q hq => ?_⟩ ?_ rfl (by omega)
   ·by_cases e : q = k
    ·subst e; exact hb
    ·exact hok q (by omega)
   ·show some _ = some _
    rw [idx_next hk2 (by omega)]
 ·have h := of_decide_eq_false h
  rw [List.length_map] at h
  repeat (first | refine jS ?_ | refine jD ?_ | refine jB ?_)
  rw [fidxG_none (fun q hq => hok q (by omega))]
  exact jR
theorem contains_put (f : FuncId) (xs : List (Wput)) (p : Wput → Bool) (a b c : List AVal) (d : Int) (hl : xs.length ≤ 1000000) (hc : ∀ x ∈ xs, ACalls Tryz.prog f [encPut x, .ptr 0 0] [.box 29 [.sl a, .sl b, iv d, .sl c]] (one (bv (p x)) [.box 29 [.sl a, .sl b, iv d, .sl c]])) : ACalls Tryz.prog 136 [.sl (xs.map encPut), .fn (.func f) [] [.ptr 0 0]] [.box 29 [.sl a, .sl b, iv d, .sl c]] (one (bv (xs.any p)) [.box 29 [.sl a, .sl b, iv d, .sl c]]) := by
 have h1 := findex_put f xs p a b c d hl hc
 have h2 := fidxG_any p xs
 refine jcalls Tryz.func136 rfl (by kernel_rfl) Tryz.ntmps136 rfl rfl (fun w0 β0 ext hβ => ?_)
 repeat (first | refine jS ?_ | refine jD ?_ | refine jB ?_)
 refine jb [0] h1 rfl rfl rfl ⟨rfl, rfl, rfl, rfl, rfl, rfl⟩ rfl rfl rfl rfl ?_
 repeat (first | refine jS ?_ | refine jD ?_ | refine jB ?_)
 rw [h2]
 exact jR
theorem findex_thr (f : FuncId) (xs : List (Thr)) (p : Thr → Bool) (a b c e g1 g2 : List AVal) (d : Int) (hl : xs.length ≤ 1000000) (hc : ∀ x ∈ xs, ACalls Tryz.prog f [encThr x, .ptr 0 0] [.box 33 [.sl a, .sl b, .sl c, iv d, .sl e, .sl g1, .sl g2]] (one (bv (p x)) [.box 33 [.sl a, .sl b, .sl c, iv d, .sl e, .sl g1, .sl g2]])) : ACalls Tryz.prog 138 [.sl (xs.map encThr), .fn (.func f) [] [.ptr 0 0]] [.box 33 [.sl a, .sl b, .sl c, iv d, .sl e, .sl g1, .sl g2]] (one (iv (fidxG p xs)) [.box 33 [.sl a, .sl b, .sl c, iv d, .sl e, .sl g1, .sl g2]]) := by
 refine jcalls Tryz.func138 rfl (by kernel_rfl) Tryz.ntmps138 rfl rfl (fun w0 β0 ext hβ => ?_)
 repeat (first | refine jS ?_ | refine jD ?_ | refine jB ?_)
 refine jloopI (fun k : Nat => k ≤ xs.length ∧ ∀ q, q < k → p (at' xs (q : Int)) = false) [0, 1, 8, 7] (fun k => [.sl (xs.map encThr), .fn (.func f) [] [.ptr 0 0], .v (.int .i64 (k : Int)), .v (.int .i64 ((xs.map encThr).length : Int))])
  (fun _ => [.box 33 [.sl a, .sl b, .sl c, iv d, .sl e, .sl g1, .sl g2]]) (fun k => xs.length - k) 0 ⟨Nat.zero_le _, fun q h => absurd h (by omega)⟩ rfl rfl (fun k hk => ?_)
 obtain ⟨hk, hok⟩ := hk
 repeat (first | refine jS ?_ | refine jD ?_ | refine jB ?_)
 refine jc rfl rfl rfl (fun h => ?_) (fun h => ?_)
 ·have h := of_decide_eq_true h
  rw [List.length_map] at h
  have hk2 : k < xs.length := by omega
  have hcx := hc (at' xs (k : Int)) (at_mem hk2)
  repeat (first | refine jS ?_ | refine jD ?_ | refine jB ?_ | refine jo rfl rfl (index_at rfl rfl rfl rfl rfl rfl rfl rfl (Int.natCast_nonneg k) h) rfl rfl ?_)
  refine jb [0] hcx rfl rfl rfl ⟨rfl, rfl, rfl, rfl, rfl, rfl⟩ rfl rfl rfl rfl ?_
  cases hb : p (at' xs (k : Int)) with
  | true =>
   repeat (first | refine jS ?_ | refine jD ?_ | refine jB ?_)
   rw [fidxG_some hk2 hb hok]
   exact jR
  | false =>
   repeat (first | refine jS ?_ | refine jD ?_ | refine jB ?_)
   refine jnextI (k + 1) ⟨by omega, fun q hq => ?_⟩ ?_ rfl (by omega)
   ·by_cases e : q = k
    ·subst e; exact hb
    ·exact hok q (by omega)
   ·show some _ = some _
    rw [idx_next hk2 (by omega)]
 ·have h := of_decide_eq_false h
  rw [List.length_map] at h
  repeat (first | refine jS ?_ | refine jD ?_ | refine jB ?_)
  rw [fidxG_none (fun q hq => hok q (by omega))]
  exact jR
theorem contains_thr (f : FuncId) (xs : List (Thr)) (p : Thr → Bool) (a b c e g1 g2 : List AVal) (d : Int) (hl : xs.length ≤ 1000000) (hc : ∀ x ∈ xs, ACalls Tryz.prog f [encThr x, .ptr 0 0] [.box 33 [.sl a, .sl b, .sl c, iv d, .sl e, .sl g1, .sl g2]] (one (bv (p x)) [.box 33 [.sl a, .sl b, .sl c, iv d, .sl e, .sl g1, .sl g2]])) : ACalls Tryz.prog 88 [.sl (xs.map encThr), .fn (.func f) [] [.ptr 0 0]] [.box 33 [.sl a, .sl b, .sl c, iv d, .sl e, .sl g1, .sl g2]] (one (bv (xs.any p)) [.box 33 [.sl a, .sl b, .sl c, iv d, .sl e, .sl g1, .sl g2]]) := by
 have h1 := findex_thr f xs p a b c e g1 g2 d hl hc
 have h2 := fidxG_any p xs
 refine jcalls Tryz.func88 rfl (by kernel_rfl) Tryz.ntmps88 rfl rfl (fun w0 β0 ext hβ => ?_)
 repeat (first | refine jS ?_ | refine jD ?_ | refine jB ?_)
 refine jb [0] h1 rfl rfl rfl ⟨rfl, rfl, rfl, rfl, rfl, rfl⟩ rfl rfl rfl rfl ?_
 repeat (first | refine jS ?_ | refine jD ?_ | refine jB ?_)
 rw [h2]
 exact jR
theorem findex_frm (f : FuncId) (xs : List (Frm)) (p : Frm → Bool) (hl : xs.length ≤ 1000000) (hc : ∀ x ∈ xs, ACalls Tryz.prog f [encFrm x] [] (one (bv (p x)) [])) : ACalls Tryz.prog 185 [.sl (xs.map encFrm), .fn (.func f) [] []] [] (one (iv (fidxG p xs)) []) := by
 refine jcalls Tryz.func185 rfl (by kernel_rfl) Tryz.ntmps185 rfl rfl (fun w0 β0 ext hβ => ?_)
 repeat (first | refine jS ?_ | refine jD ?_ | refine jB ?_)
 refine jloopI (fun k : Nat => k ≤ xs.length ∧ ∀ q, q < k → p (at' xs (q : Int)) = false) [0, 1, 8, 7] (fun k => [.sl (xs.map encFrm), .fn (.func f) [] [], .v (.int .i64 (k : Int)), .v (.int .i64 ((xs.map encFrm).length : Int))])
  (fun _ => []) (fun k => xs.length - k) 0 ⟨Nat.zero_le _, fun q h => absurd h (by omega)⟩ rfl rfl (fun k hk => ?_)
 obtain ⟨hk, hok⟩ := hk
 repeat (first | refine jS ?_ | refine jD ?_ | refine jB ?_)
 refine jc rfl rfl rfl (fun h => ?_) (fun h => ?_)
 ·have h := of_decide_eq_true h
  rw [List.length_map] at h
  have hk2 : k < xs.length := by omega
  have hcx := hc (at' xs (k : Int)) (at_mem hk2)
  repeat (first | refine jS ?_ | refine jD ?_ | refine jB ?_ | refine jo rfl rfl (index_at rfl rfl rfl rfl rfl rfl rfl rfl (Int.natCast_nonneg k) h) rfl rfl ?_)
  repeat (first | refine jS ?_ | refine jD ?_ | refine jB ?_ | refine jV hcx ?_)
  cases hb : p (at' xs (k : Int)) with
  | true =>
   repeat (first | refine jS ?_ | refine jD ?_ | refine jB ?_)
   rw [fidxG_some hk2 hb hok]
   exact jR
  | false =>
   repeat (first | refine jS ?_ | refine jD ?_ | refine jB ?_)
   refine jnextI (k + 1) ⟨by omega, fun q hq => ?_⟩ ?_ rfl (by omega)
   ·by_cases e : q = k
    ·subst e; exact hb
    ·exact hok q (by omega)
   ·show some _ = some _
    rw [idx_next hk2 (by omega)]
 ·have h := of_decide_eq_false h
  rw [List.length_map] at h
  repeat (first | refine jS ?_ | refine jD ?_ | refine jB ?_)
  rw [fidxG_none (fun q hq => hok q (by omega))]
  exact jR
theorem contains_frm (f : FuncId) (xs : List (Frm)) (p : Frm → Bool) (hl : xs.length ≤ 1000000) (hc : ∀ x ∈ xs, ACalls Tryz.prog f [encFrm x] [] (one (bv (p x)) [])) : ACalls Tryz.prog 140 [.sl (xs.map encFrm), .fn (.func f) [] []] [] (one (bv (xs.any p)) []) := by
 have h1 := findex_frm f xs p hl hc
 have h2 := fidxG_any p xs
 refine jcalls Tryz.func140 rfl (by kernel_rfl) Tryz.ntmps140 rfl rfl (fun w0 β0 ext hβ => ?_)
 repeat (first | refine jS ?_ | refine jD ?_ | refine jB ?_)
 repeat (first | refine jS ?_ | refine jD ?_ | refine jB ?_ | refine jV h1 ?_)
 repeat (first | refine jS ?_ | refine jD ?_ | refine jB ?_)
 rw [h2]
 exact jR
theorem findex_int (f : FuncId) (xs : List (Int)) (p : Int → Bool) (hl : xs.length ≤ 1000000) (hc : ∀ x ∈ xs, ACalls Tryz.prog f [iv x] [] (one (bv (p x)) [])) : ACalls Tryz.prog 186 [.sl (xs.map iv), .fn (.func f) [] []] [] (one (iv (fidxG p xs)) []) := by
 refine jcalls Tryz.func186 rfl (by kernel_rfl) Tryz.ntmps186 rfl rfl (fun w0 β0 ext hβ => ?_)
 repeat (first | refine jS ?_ | refine jD ?_ | refine jB ?_)
 refine jloopI (fun k : Nat => k ≤ xs.length ∧ ∀ q, q < k → p (at' xs (q : Int)) = false) [0, 1, 8, 7] (fun k => [.sl (xs.map iv), .fn (.func f) [] [], .v (.int .i64 (k : Int)), .v (.int .i64 ((xs.map iv).length : Int))])
  (fun _ => []) (fun k => xs.length - k) 0 ⟨Nat.zero_le _, fun q h => absurd h (by omega)⟩ rfl rfl (fun k hk => ?_)
 obtain ⟨hk, hok⟩ := hk
 repeat (first | refine jS ?_ | refine jD ?_ | refine jB ?_)
 refine jc rfl rfl rfl (fun h => ?_) (fun h => ?_)
 ·have h := of_decide_eq_true h
  rw [List.length_map] at h
  have hk2 : k < xs.length := by omega
  have hcx := hc (at' xs (k : Int)) (at_mem hk2)
  repeat (first | refine jS ?_ | refine jD ?_ | refine jB ?_ | refine jo rfl rfl (index_at rfl rfl rfl rfl rfl rfl rfl rfl (Int.natCast_nonneg k) h) rfl rfl ?_)
  repeat (first | refine jS ?_ | refine jD ?_ | refine jB ?_ | refine jV hcx ?_)
  cases hb : p (at' xs (k : Int)) with
  | true =>
   repeat (first | refine jS ?_ | refine jD ?_ | refine jB ?_)
   rw [fidxG_some hk2 hb hok]
   exact jR
  | false =>
   repeat (first | refine jS ?_ | refine jD ?_ | refine jB ?_)
   refine jnextI (k + 1) ⟨by omega, fun q hq => ?_⟩ ?_ rfl (by omega)
   ·by_cases e : q = k
    ·subst e; exact hb
    ·exact hok q (by omega)
   ·show some _ = some _
    rw [idx_next hk2 (by omega)]
 ·have h := of_decide_eq_false h
  rw [List.length_map] at h
  repeat (first | refine jS ?_ | refine jD ?_ | refine jB ?_)
  rw [fidxG_none (fun q hq => hok q (by omega))]
  exact jR
theorem contains_int (f : FuncId) (xs : List (Int)) (p : Int → Bool) (hl : xs.length ≤ 1000000) (hc : ∀ x ∈ xs, ACalls Tryz.prog f [iv x] [] (one (bv (p x)) [])) : ACalls Tryz.prog 142 [.sl (xs.map iv), .fn (.func f) [] []] [] (one (bv (xs.any p)) []) := by
 have h1 := findex_int f xs p hl hc
 have h2 := fidxG_any p xs
 refine jcalls Tryz.func142 rfl (by kernel_rfl) Tryz.ntmps142 rfl rfl (fun w0 β0 ext hβ => ?_)
 repeat (first | refine jS ?_ | refine jD ?_ | refine jB ?_)
 repeat (first | refine jS ?_ | refine jD ?_ | refine jB ?_ | refine jV h1 ?_)
 repeat (first | refine jS ?_ | refine jD ?_ | refine jB ?_)
 rw [h2]
 exact jR
end Go.AL
end
