/-
  strings.Builder as two owned things: the contracts of its methods. No conditions.
-/
import Derived.Test.YtaoiflliakjhdaaDoorW3
set_option linter.unusedVariables false
set_option linter.unusedSimpArgs false
set_option maxRecDepth 100000
namespace Go.AL
open Go Go.Proofs
attribute [local irreducible] J

def adr (u : Bool) : AVal := cond u (.ptr 0 0) (.v (.pointer none))
def bldH (u : Bool) (g : Nat) (l : Bs) : List AObj := [.box 65 [adr u, .arr 1 g], .arr g 5 1 (l.map encB)]
theorem two_cells {vs : Array Value} {p s : Value} (h : vs.toList = [p, s]) : vs = #[p, s] := by
  apply Array.ext'; simpa using h
theorem cc_ok (u : Bool) (g : Nat) (l : Bs) : ACalls Tryd.prog 62 [.ptr 0 0] (bldH u g l) (one (.tup []) (bldH true g l)) := by
  refine ⟨⟨_, Tryd.func62, by kernel_rfl, by kernel_rfl⟩, fun ext w β us hI hx hr => ?_⟩
  obtain ⟨x, us', rfl, r0, rfl⟩ := hr
  obtain ⟨e, b, vs, he, hb, rfl, hc, hrl, hone, h0⟩ := box_of hI (j := 0) rfl r0
  obtain ⟨p, vs1, hvs, rp, s, vs2, rfl, rs, rfl⟩ := hrl
  obtain rfl := two_cells hvs
  have hcell : w.cell? ⟨b, 0, none⟩ = some p := by simp [World.cell?, hc]
  have hlt : b < w.heap.size := (Array.getElem?_eq_some_iff.1 hc).1
  cases u with
  | true =>
    obtain ⟨e', b', he', h0', hb', rfl⟩ := rp
    rw [he] at he'
    obtain rfl := Option.some.inj he'
    rw [hb] at hb'
    obtain rfl := Option.some.inj hb'
    refine (cc_used b w hcell).mono fun en w' ⟨h1, h2⟩ => ?_
    subst h1; subst h2
    exact ⟨.tup [], _, β, ⟨rfl, rfl⟩, ⟨#[], rfl, rfl⟩, hI, Step.refl _ _⟩
  | false =>
    have hp : p = .pointer none := rp
    subst hp
    refine (cc_fresh b w hcell (by simp [World.shape?, hc]) (by simp [World.frozen?, hc])).mono fun en w' ⟨h1, h2⟩ => ?_
    subst h1; subst h2
    have k1 : (w.setCell ⟨b, 0, none⟩ (.pointer (some ⟨b, 0, none⟩))).heap[b]? = some (.cells #[.pointer (some ⟨b, 0, none⟩), s] 65 (0, 0)) := by
      simp [World.setCell, Array.getElem?_modify, hc]
    have k2 : ∀ c, c ≠ b → (w.setCell ⟨b, 0, none⟩ (.pointer (some ⟨b, 0, none⟩))).heap[c]? = w.heap[c]? := fun c hne => RowKit.Below.heap_setCell _ _ _ _ hne
    have k3 : (w.setCell ⟨b, 0, none⟩ (.pointer (some ⟨b, 0, none⟩))).heap.size = w.heap.size := by simp [World.setCell]
    have hst : Step w β (w.setCell ⟨b, 0, none⟩ (.pointer (some ⟨b, 0, none⟩))) β := Step.write ⟨0, e, he, hb⟩ k3 k2 rfl rfl rfl
    have hI' := hI.write (a := .box 65 [.ptr 0 0, .arr 1 g]) he hb k3 k2 rfl rfl rfl ⟨h0, rfl, b, _, hb, k1, _, _, rfl, ⟨e, b, he, h0, hb, rfl⟩, _, _, rfl, rs.le (hst.le (ext := ext)), rfl⟩
    exact ⟨.tup [], _, β, ⟨rfl, rfl⟩, ⟨#[], rfl, rfl⟩, hI', hst⟩
theorem bld_regen {f : FuncId} {args : List AVal} {H : List AObj} {v : AVal} {g g' : Nat} {l : Bs} (hv : ∀ c c' u, Rel c v u → Rel c' v u) (h : ACalls Tryd.prog f args H (one v (bldH true g l))) (hg : g ≤ g') : ACalls Tryd.prog f args H (one v (bldH true g' l)) := by
  rcases Nat.eq_or_lt_of_le hg with rfl | hlt
  · exact h
  refine ⟨h.enters, fun ext w β us hI hx hr => (h.calls ext w β us hI hx hr).mono fun en w' he => ?_⟩
  cases en with
  | returned u =>
    obtain ⟨v', H', β', ⟨h1, rfl⟩, h2, h3, h4⟩ := he
    injection h1 with h1
    subst h1
    have hl : β'.length = 2 := h3.len
    obtain ⟨e0, h0⟩ : ∃ e0, β'[0]? = some e0 := ⟨_, List.getElem?_eq_getElem (by omega)⟩
    obtain ⟨e1, h1⟩ : ∃ e1, β'[1]? = some e1 := ⟨_, List.getElem?_eq_getElem (by omega)⟩
    obtain ⟨q1, q0, q2, q3, q4, q5⟩ := h3.obj 1 _ e1 rfl h1
    obtain ⟨p1, p2, b, vs, hb, hc, p, vs1, hvs, rp, s, vs2, rfl, rs, rfl⟩ := h3.obj 0 _ e0 rfl h0
    obtain ⟨e2, f1, f2, f3, f4, f5⟩ : ∃ e2 : Ent, e2.blk = e1.blk ∧ e2.gen = g' ∧ e2.es = e1.es ∧ e2.cap = e1.cap ∧ e2.len = e1.len := ⟨{ e1 with gen := g' }, rfl, rfl, rfl, rfl, rfl⟩
    have hreg : Step w' β' w' (β'.set 1 e2) := Step.regen h1 (by omega) (by omega) (.inr f1)
    have hxt : ∀ b, ext b → b < w'.heap.size := fun b hb => Nat.lt_of_lt_of_le (hx b hb) h4.size
    have hI1 := h3.set (a := .arr g' 5 1 (l.map encB)) hxt h1 hreg (fun _ _ _ => rfl) (.inr (.inr f1)) ⟨f2, by omega, f3.trans q2, f5.trans q3, by rw [f4]; exact q4, by
      rw [f1, f4]
      cases hk : e1.blk with
      | none => rw [hk] at q5; exact q5
      | some bk =>
        rw [hk] at q5
        obtain ⟨cs, z1, z2, z3⟩ := q5
        exact ⟨cs, z1, z2, z3.le (hreg.le (ext := ext)).bare _ _ _ _⟩⟩
    have h0' : (β'.set 1 e2)[0]? = some e0 := by rw [List.getElem?_set_ne (by omega)]; exact h0
    have h1' : (β'.set 1 e2)[1]? = some e2 := List.getElem?_set_self (by omega)
    obtain ⟨rs1, ee, rs2, rs3, rs4⟩ := rs
    rw [h1] at rs2
    obtain rfl := Option.some.inj rs2
    have rsn : Rel (ctx ext w' (β'.set 1 e2)) (.arr 1 g') s := by
      obtain ⟨z1, z2⟩ := rs4 q1
      exact ⟨rs1, _, h1', by omega, fun _ => ⟨by omega, by rw [f1, f4, f5]; exact z2⟩⟩
    have hI2 := hI1.write (w' := w') (a := .box 65 [.ptr 0 0, .arr 1 g']) h0' hb rfl (fun _ _ => rfl) rfl rfl rfl ⟨p1, rfl, b, vs, hb, hc, p, _, hvs, rp.le (hreg.le (ext := ext)), s, [], rfl, rsn, rfl⟩
    exact ⟨_, _, _, ⟨rfl, rfl⟩, hv _ _ _ h2, hI2, h4.trans hreg⟩
  | panicked ch => obtain ⟨u, _, v', H', β', ⟨h1, _⟩, _⟩ := he; cases h1
  | outgrown => exact he.elim
theorem encB_elems (l : Bs) : ElemsOk 1 (l.map encB) := elems_map l fun x => ⟨rfl, rfl⟩
theorem wstr_g (u : Bool) (g : Nat) (l s : Bs) (hl : l.length + s.length ≤ 1000000000) : ACalls Tryd.prog 34 [.ptr 0 0, sv s] (bldH u g l) (one (.tup [iv s.length, .v .nilIface]) (bldH true (g + 1) (l ++ s))) := by
  have hc := cc_ok u g l
  have hlen : (l.map encB).length + s.length ≤ 140737488355328 := by rw [List.length_map]; omega
  have he := encB_elems l
  unfold bldH at *
  cases u
  all_goals refine jcalls Tryd.func34 rfl (by kernel_rfl) Tryd.ntmps34 rfl rfl (fun w0 β0 ext hβ => ?_)
  all_goals (
    repeat (first | refine js rfl ?_ | (refine jdraw ?_ ?_; · kernel_rfl) | refine jbu rfl rfl rfl rfl ?_)
  )
  all_goals refine jb [0,1] hc rfl rfl rfl ⟨rfl, rfl, rfl, rfl, rfl, rfl⟩ rfl rfl rfl rfl ?_
  all_goals (
    repeat (first | refine js rfl ?_ | (refine jdraw ?_ ?_; · kernel_rfl) | refine jbu rfl rfl rfl rfl ?_ | refine jo rfl rfl (append_text rfl rfl rfl rfl rfl rfl rfl rfl rfl rfl rfl he hlen) rfl rfl ?_)
  )
  all_goals rw [← List.map_append]
  all_goals exact jr rfl rfl rfl rfl
theorem wbyte_g (u : Bool) (g : Nat) (l : Bs) (c : UInt8) (hl : l.length ≤ 1000000) : ACalls Tryd.prog 37 [.ptr 0 0, .v (.int .u8 c.toNat)] (bldH u g l) (one (.v .nilIface) (bldH true (g + 1) (l ++ [c]))) := by
  have hc := cc_ok u g l
  unfold bldH at *
  cases u
  all_goals refine jcalls Tryd.func37 rfl (by kernel_rfl) Tryd.ntmps37 rfl rfl (fun w0 β0 ext hβ => ?_)
  all_goals (
    repeat (first | refine js rfl ?_ | (refine jdraw ?_ ?_; · kernel_rfl) | refine jbu rfl rfl rfl rfl ?_)
  )
  all_goals refine jb [0,1] hc rfl rfl rfl ⟨rfl, rfl, rfl, rfl, rfl, rfl⟩ rfl rfl rfl rfl ?_
  all_goals (
    repeat (first | refine jo rfl rfl (append_enc (enc := encB) (l := l) c rfl rfl rfl rfl rfl rfl rfl rfl rfl rfl (fun _ => ⟨rfl, rfl⟩) rfl (by omega) rfl rfl) rfl rfl ?_ | refine js rfl ?_ | (refine jdraw ?_ ?_; · kernel_rfl) | refine jbu rfl rfl rfl rfl ?_)
  )
  all_goals exact jr rfl rfl rfl rfl
/-- a builder that holds l; its generation follows its length -/
def bld (u : Bool) (l : Bs) : List AObj := bldH u (l.length + 1) l
theorem plainI (x : Value) : ∀ c c' u, Rel c (.v x) u → Rel c' (.v x) u := fun _ _ _ h => h
theorem plainT (x y : Value) : ∀ c c' u, Rel c (.tup [.v x, .v y]) u → Rel c' (.tup [.v x, .v y]) u := fun c c' u ⟨a, h1, p, r, e, hp, q, r2, e2, hq, e3⟩ => ⟨a, h1, p, r, e, hp, q, r2, e2, hq, e3⟩
theorem wstr_ok (u : Bool) (l s : Bs) (hs : 0 < s.length) (hl : l.length + s.length ≤ 1000000000) : ACalls Tryd.prog 34 [.ptr 0 0, sv s] (bld u l) (one (.tup [iv s.length, .v .nilIface]) (bld true (l ++ s))) :=
  bld_regen (plainT _ _) (wstr_g u (l.length + 1) l s hl) (by rw [List.length_append]; omega)
theorem wbyte_ok (u : Bool) (l : Bs) (c : UInt8) (hl : l.length ≤ 1000000) : ACalls Tryd.prog 37 [.ptr 0 0, .v (.int .u8 c.toNat)] (bld u l) (one (.v .nilIface) (bld true (l ++ [c]))) :=
  bld_regen (plainI _) (wbyte_g u (l.length + 1) l c hl) (by simp)
theorem freeze_size (w : World) (a : Addr) (n : Nat) : (w.freeze a n).heap.size = w.heap.size := by
  unfold World.freeze; split <;> simp
theorem freeze_other (w : World) (a : Addr) (n : Nat) {c : Nat} (h : c ≠ a.block) : (w.freeze a n).heap[c]? = w.heap[c]? := by
  unfold World.freeze
  split
  · rfl
  · simp only [Array.getElem?_modify]
    rw [if_neg (fun e => h e.symm)]
theorem str_ok (u : Bool) (l : Bs) (h0 : l ≠ []) (h63 : l.length ≤ 1000000000) : ACalls Tryd.prog 38 [.ptr 0 0] (bld u l) (one (sv l) [.box 65 [adr u, .arr 1 (l.length + 1)], .dead (l.length + 2)]) := by
  unfold bld bldH
  refine ⟨⟨_, Tryd.func38, by kernel_rfl, by kernel_rfl⟩, fun ext w β us hI hx hr => ?_⟩
  obtain ⟨x, us', rfl, r0, rfl⟩ := hr
  obtain ⟨e, b, vs, he, hb, rfl, hc, hrl, hone, hg0⟩ := box_of hI (j := 0) rfl r0
  obtain ⟨p, vs1, hvs, rp, s, vs2, rfl, rs, rfl⟩ := hrl
  obtain rfl := two_cells hvs
  obtain ⟨e1, h1, q1, q0, q2, q3, q4, q5⟩ := arr_open hI (j := 1) rfl rs
  have hl0 : 0 < l.length := List.length_pos_iff.2 h0
  rw [List.length_map] at q3 q4
  rcases q5 with ⟨_, hn, _⟩ | ⟨bk, cs, hbk, rfl, hcs, hsz, hrow⟩
  · exact absurd (List.map_eq_nil_iff.1 hn) h0
  rw [Nat.mul_one] at hsz
  rw [List.length_map] at hc
  refine (bstr_row b bk e1.cap p cs l w hc hcs h0 (by omega) hsz (by omega) fun j c hj => ?_).mono fun en w' ⟨k1, k2⟩ => ?_
  · obtain ⟨v, hv1, hv2, hv3⟩ := hrow.get (i := j) (a := encB c) (by rw [List.getElem?_map, hj]; rfl)
    have hv : v = .int .u8 c.toNat := hv1
    subst hv
    have h9 := hv3 0 (by omega)
    simp only [Nat.zero_add, Nat.mul_one, Nat.add_zero] at h9
    exact h9.trans rfl
  · subst k1; subst k2
    have hS1 : Step w β w.drew β := (drew_same w).step β
    have hS2 : Step w.drew β (w.drew.freeze ⟨bk, 0, none⟩ l.length) β := Step.write ⟨1, e1, h1, hbk⟩ (freeze_size _ _ _) (fun c hc => freeze_other _ _ _ hc) (by unfold World.freeze; split <;> rfl) (by unfold World.freeze; split <;> rfl) (by unfold World.freeze; split <;> rfl)
    have hS3 : Step (w.drew.freeze ⟨bk, 0, none⟩ l.length) β (w.drew.freeze ⟨bk, 0, none⟩ l.length) (β.set 1 ⟨none, l.length + 2, 1, 0, 0⟩) := Step.regen h1 (by omega) (by simp only; omega) (.inl rfl)
    have hS := (hS1.trans hS2).trans hS3
    refine ⟨_, _, _, ⟨rfl, rfl⟩, rfl, hI.set (a := .dead (l.length + 2)) hx h1 hS (fun c hc hne => ?_) (.inr (.inl rfl)) ⟨rfl, by omega, rfl⟩, hS⟩
    exact (freeze_other _ _ _ (fun e => hne (by rw [hbk, e]))).trans rfl
theorem alloc_v [T : TyTab Tryd.prog] {dst : Option Tmp} {t : TypeId} {type : TypeId} {pos : String} {after : Array Edge} {guard : Option (Nat × Bool)} {F : Fr} {H : List AObj} {r : TyRow} (ht : tfind T.tab t = some r) (h1 : r.z.cells.toList.all Value.oneCell' = true) :
    DSem Tryd.prog .x ⟨dst, .alloc t, type, pos, after, guard⟩ F H (.ptr H.length 0) (H ++ [.box t (r.z.cells.toList.map .v)]) := by
  refine ⟨fun j t cs hj => by rw [List.getElem?_append_left (List.getElem?_eq_some_iff.1 hj).1]; exact hj, ?_⟩
  intro ext w β ρ hI hx hκ hρ
  have h3 : (execOp ρ ⟨dst, .alloc t, type, pos, after, guard⟩).run Tryd.prog w = .ok (.value (.pointer (some ⟨w.heap.size, 0, none⟩))) (World.push w (.cells r.z.cells t)) := by
    simp only [execOp, Instr.alloc, Sem.run_bind, run_zero ht, Result.andThen_ok, newVar, newRow, run_newObj, Sem.run_pure]
    rfl
  rw [h3]
  have hrel : ∀ (c : Ctx) (vs : List Value), RelL c (vs.map .v) vs := fun c vs => by
    induction vs with
    | nil => rfl
    | cons x xs ih => exact ⟨x, xs, rfl, rfl, ih⟩
  refine newBox hI hx (hrel _ _) ?_
  rw [List.all_eq_true] at h1 ⊢
  intro x hx
  obtain ⟨y, hy, rfl⟩ := List.mem_map.1 hx
  exact h1 y hy
end Go.AL
