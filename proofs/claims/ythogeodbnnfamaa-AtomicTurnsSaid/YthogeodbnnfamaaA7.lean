/-
  Operations on the heap: loads, stores, new boxes, indexes, cuts. No conditions.
-/
import Derived.Test.YthogeodbnnfamaaA6
import Derived.Deep.AppendSrc
import Derived.Laws.MakeOwn
import Derived.Laws.CopyRow
set_option linter.unusedVariables false
set_option linter.unusedSimpArgs false
namespace Go.AL
open Go

section
variable {P : Program}

theorem box_of {ext : Nat → Prop} {w : World} {H : List AObj} {β : List Ent} (hI : Inv ext w H β) {j off : Nat} {bt : TypeId} {cs : List AVal} (hH : H[j]? = some (.box bt cs)) {u : Value} (hr : Rel (ctx ext w β) (.ptr j off) u) :
    ∃ e b us, β[j]? = some e ∧ e.blk = some b ∧ u = .pointer (some ⟨b, off, none⟩) ∧ w.heap[b]? = some (.cells us bt (0, 0)) ∧ RelL (ctx ext w β) cs us.toList ∧ cs.all AVal.one = true ∧ e.gen = 0 := by
  obtain ⟨e, b, he, h0, hb, hu⟩ := hr
  obtain ⟨h1, h2, b', us, h3, h4, h5⟩ := hI.obj j _ e hH he
  rw [hb] at h3; simp at h3; subst h3
  exact ⟨e, b, us, he, hb, hu, h4, h5, h2, h0⟩

/-- a load out of a box -/
theorem load_sem [T : TyTab P] {dst : Option Tmp} {t : TypeId} {a : Operand} {type : TypeId} {pos : String} {after : Array Edge} {guard : Option (Nat × Bool)} {F : Fr} {H : List AObj} {j off : Nat} {bt : TypeId} {cs : List AVal} {r : TyRow} {v : AVal}
    (ha : ev F a = some (.ptr j off)) (hH : H[j]? = some (.box bt cs)) (ht : tfind T.tab t = some r) (hv : takeA r cs off = some v) :
    OpSem P ⟨dst, .load t a, type, pos, after, guard⟩ F H (one v H) := by
  intro ext w β ρ hI _ hκ hρ
  obtain ⟨e, b, us, he, hb, hu, hc, hr, _⟩ := box_of hI hH (hρ a (by simp [Op.operands]) _ ha)
  obtain ⟨u, h1, h2⟩ := takeA_load (P := P) ht hr hv (w := w) (b := b) (o := 0) (fun i u hi => by
    simp only [World.cell?, hc, Nat.zero_add, Option.isSome_none, Bool.false_eq_true, if_false]
    simpa using hi)
  simp only [Nat.zero_add] at h1
  have h3 : (execOp ρ ⟨dst, .load t a, type, pos, after, guard⟩).run P w = .ok (.value u) w := by
    simp only [execOp, Instr.loadAt, Instr.sureAddr, hu, Sem.run_bind, Sem.run_pure, Result.andThen_ok, h1]
  rw [h3]
  exact came_same hI h2

theorem load_dsem [T : TyTab P] {dst : Option Tmp} {t : TypeId} {a : Operand} {type : TypeId} {pos : String} {after : Array Edge} {guard : Option (Nat × Bool)} {F : Fr} {H : List AObj} {j off : Nat} {bt : TypeId} {cs : List AVal} {r : TyRow} {v : AVal}
    (ha : ev F a = some (.ptr j off)) (hH : H[j]? = some (.box bt cs)) (ht : tfind T.tab t = some r) (hv : takeA r cs off = some v) :
    DSem P .r ⟨dst, .load t a, type, pos, after, guard⟩ F H v H :=
  ⟨rfl, fun H' hb => load_sem ha (hb j bt cs hH) ht hv⟩

def loadB (tab : List TyRow) (o : Op) (F : Fr) (H : List AObj) : Option AVal :=
  match o with
  | .load t a => match ev F a, tfind tab t with
    | some (.ptr j off), some r => match H[j]? with
      | some (.box _ cs) => takeA r cs off
      | _ => none
    | _, _ => none
  | _ => none

theorem loadB_dsem [T : TyTab P] {dst : Option Tmp} {o : Op} {type : TypeId} {pos : String} {after : Array Edge} {guard : Option (Nat × Bool)} {F : Fr} {H : List AObj} {v : AVal}
    (h : loadB T.tab o F H = some v) : DSem P .r ⟨dst, o, type, pos, after, guard⟩ F H v H := by
  cases o <;> simp only [loadB] at h <;> try (cases h; done)
  split at h
  · rename_i j off r h1 h2
    split at h
    · rename_i bt cs h3
      exact load_dsem h1 h3 h2 h
    · cases h
  · cases h

theorem readP_dsem [T : TyTab P] {dst : Option Tmp} {o : Op} {type : TypeId} {pos : String} {after : Array Edge} {guard : Option (Nat × Bool)} {F : Fr} {H : List AObj} {v : AVal}
    (h : readP T.tab o F = some v) : DSem P .p ⟨dst, o, type, pos, after, guard⟩ F H v H := ⟨rfl, fun H' => (readP_says h).sem H'⟩

/-! ### a store into a box -/
def spliceA (cs : List AVal) (off : Nat) (vs : List AVal) : List AVal := cs.take off ++ vs ++ cs.drop (off + vs.length)

theorem setRow_get {w : World} {b : Nat} {us vs : Array Value} {t : TypeId} (h : w.heap[b]? = some (.cells us t (0, 0))) : (w.setRow b vs).heap[b]? = some (.cells vs t (0, 0)) := setRow_heap w b us vs t (0, 0) h

theorem all_append {p : AVal → Bool} {a b : List AVal} (ha : a.all p = true) (hb : b.all p = true) : (a ++ b).all p = true := by simp_all
theorem all_take {p : AVal → Bool} {a : List AVal} (n : Nat) (ha : a.all p = true) : (a.take n).all p = true := by
  rw [List.all_eq_true] at *; exact fun x hx => ha x (List.mem_of_mem_take hx)
theorem all_drop {p : AVal → Bool} {a : List AVal} (n : Nat) (ha : a.all p = true) : (a.drop n).all p = true := by
  rw [List.all_eq_true] at *; exact fun x hx => ha x (List.mem_of_mem_drop hx)

theorem flat_cells {v : AVal} (h : v.flat = true) : v.cells.all AVal.one = true := by
  cases v with
  | agg cs => exact h
  | tup cs => cases h
  | v x =>
    have h1 : x.oneCell' = true := h
    simp [AVal.cells, AVal.one, h1]
  | _ => rfl

theorem store_sem [T : TyTab P] {dst : Option Tmp} {t : TypeId} {a x : Operand} {type : TypeId} {pos : String} {after : Array Edge} {guard : Option (Nat × Bool)} {F : Fr} {H : List AObj} {j off : Nat} {bt : TypeId} {cs : List AVal} {r : TyRow} {v : AVal}
    (ha : ev F a = some (.ptr j off)) (hx : ev F x = some v) (hH : H[j]? = some (.box bt cs)) (ht : tfind T.tab t = some r) (hl : v.cells.length = r.size) (hf : v.flat = true) (hin : off + r.size ≤ cs.length) :
    OpSem P ⟨dst, .store t a x, type, pos, after, guard⟩ F H (one (.tup []) (H.set j (.box bt (spliceA cs off v.cells)))) := by
  intro ext w β ρ hI _ hκ hρ
  obtain ⟨e, b, us, he, hb, hu, hc, hr, hone, h0⟩ := box_of hI hH (hρ a (by simp [Op.operands]) _ ha)
  have hv := hρ x (by simp [Op.operands]) _ hx
  obtain ⟨hcl, hco⟩ := hv.cells hf
  have l1 := hcl.length
  have l2 := hr.length
  simp only [Array.length_toList] at l1 l2
  have hst := run_storeCells_at P b off bt (ρ x).cells.toList 0 us w hc (by simp; omega) hco
  simp only [Nat.add_zero] at hst
  generalize hus : (us.toList.take off ++ (ρ x).cells.toList ++ us.toList.drop (off + (ρ x).cells.toList.length)).toArray = us' at hst
  have h3 : (execOp ρ ⟨dst, .store t a x, type, pos, after, guard⟩).run P w = .ok .skip (w.setRow b us') := by
    simp only [execOp, Instr.storeAt, Instr.sureAddr, hu, storeVar, Sem.run_bind, Sem.run_pure, Result.andThen_ok, run_size ht]
    rw [if_neg (by simp; omega)]
    rw [hst]
    rfl
  rw [h3]
  have hstep : Step w β (w.setRow b us') β := Step.write ⟨j, e, he, hb⟩ (by simp) (fun c hc => setRow_other w b c us' hc) rfl rfl rfl
  have hcs : RelL (ctx ext w β) (spliceA cs off v.cells) us'.toList := by
    rw [← hus]
    unfold spliceA
    rw [show (ρ x).cells.toList.length = v.cells.length by simp; omega]
    exact ((hr.take off).append hcl).append (hr.drop _)
  have hobj : RelO (ctx ext (w.setRow b us') β) e (.box bt (spliceA cs off v.cells)) :=
    ⟨h0, all_append (all_append (all_take _ hone) (flat_cells hf)) (all_drop _ hone), b, us', hb, setRow_get hc, hcs.le hstep.le⟩
  exact ⟨.tup [], _, β, ⟨rfl, rfl⟩, ⟨#[], rfl, rfl⟩, hI.write he hb (by simp) (fun c hc => setRow_other w b c us' hc) rfl rfl rfl hobj, hstep⟩

/-- what a store makes of the heap -/
def storeB (tab : List TyRow) (o : Op) (F : Fr) (H : List AObj) : Option (List AObj) :=
  match o with
  | .store t a x => match ev F a, ev F x, tfind tab t with
    | some (.ptr j off), some v, some r => match H[j]? with
      | some (.box bt cs) => cond (Nat.beq v.cells.length r.size && v.flat && Nat.ble (off + r.size) cs.length) (some (H.set j (.box bt (spliceA cs off v.cells)))) none
      | _ => none
    | _, _, _ => none
  | _ => none

theorem storeB_sem [T : TyTab P] {dst : Option Tmp} {o : Op} {type : TypeId} {pos : String} {after : Array Edge} {guard : Option (Nat × Bool)} {F : Fr} {H H' : List AObj}
    (h : storeB T.tab o F H = some H') : OpSem P ⟨dst, o, type, pos, after, guard⟩ F H (one (.tup []) H') := by
  cases o <;> simp only [storeB] at h <;> try (cases h; done)
  split at h
  · rename_i j off v r h1 h2 h3
    split at h
    · rename_i bt cs h4
      cases hb : (Nat.beq v.cells.length r.size && v.flat && Nat.ble (off + r.size) cs.length) with
      | false => rw [hb] at h; cases h
      | true =>
        rw [hb] at h; simp at h; subst h
        simp only [Bool.and_eq_true] at hb
        exact store_sem h1 h2 h4 h3 (Nat.eq_of_beq_eq_true hb.1.1) hb.1.2 (Nat.le_of_ble_eq_true hb.2)
    · cases h
  · cases h

/-! ### a new box -/
theorem newBox {ext : Nat → Prop} {w : World} {H : List AObj} {β : List Ent} (hI : Inv ext w H β) (hext : ∀ b, ext b → b < w.heap.size) {t : TypeId} {cs : List AVal} {us : Array Value} (hr : RelL (ctx ext w β) cs us.toList) (ho : cs.all AVal.one = true) :
    Came ext w β (one (.ptr H.length 0) (H ++ [.box t cs])) .ret (.pointer (some ⟨w.heap.size, 0, none⟩)) (World.push w (.cells us t)) := by
  have hs : Step w β (World.push w (.cells us t)) (β ++ [⟨some w.heap.size, 0, 1, 0, 0⟩]) := Step.alloc w β _ _ (.inl rfl)
  refine ⟨_, _, β ++ [⟨some w.heap.size, 0, 1, 0, 0⟩], ⟨rfl, rfl⟩, ?_, hI.alloc hext _ _ _ (.inl rfl) ?_, hs⟩
  · exact ⟨⟨some w.heap.size, 0, 1, 0, 0⟩, w.heap.size, by rw [← hI.len]; simp, rfl, rfl, rfl⟩
  · exact ⟨rfl, ho, w.heap.size, us, rfl, push_top, hr.le hs.le⟩

def allocB (tab : List TyRow) (o : Op) (F : Fr) : Option AObj :=
  match o with
  | .alloc t => match tfind tab t with
    | some r => cond (r.z.cells.toList.all Value.oneCell') (some (.box t (r.z.cells.toList.map constA))) none
    | none => none
  | .box t x => match ev F x with
    | some v => cond v.flat (some (.box t v.cells)) none
    | none => none
  | _ => none

theorem allocB_sem [T : TyTab P] {dst : Option Tmp} {o : Op} {type : TypeId} {pos : String} {after : Array Edge} {guard : Option (Nat × Bool)} {F : Fr} {H : List AObj} {a : AObj}
    (h : allocB T.tab o F = some a) : OpSem P ⟨dst, o, type, pos, after, guard⟩ F H (one (.ptr H.length 0) (H ++ [a])) := by
  intro ext w β ρ hI hx hκ hρ
  cases o <;> simp only [allocB] at h <;> try (cases h; done)
  · rename_i t
    split at h
    · rename_i r ht
      cases hb : r.z.cells.toList.all Value.oneCell' with
      | false => rw [hb] at h; cases h
      | true =>
        rw [hb] at h; simp at h; subst h
        have h3 : (execOp ρ ⟨dst, .alloc t, type, pos, after, guard⟩).run P w = .ok (.value (.pointer (some ⟨w.heap.size, 0, none⟩))) (World.push w (.cells r.z.cells t)) := by
          simp only [execOp, Instr.alloc, Sem.run_bind, run_zero ht, Result.andThen_ok, newVar, newRow, run_newObj, Sem.run_pure]
          rfl
        rw [h3]
        refine newBox hI hx (by simpa using relL_const _ r.z.cells.toList) ?_
        rw [List.all_eq_true] at hb ⊢
        intro x hx
        have hx' : x ∈ r.z.cells.toList.map constA := by simpa using hx
        obtain ⟨y, hy, rfl⟩ := List.mem_map.1 hx'
        exact constA_one (hb y hy)
    · cases h
  · rename_i t x
    split at h
    · rename_i v hv
      cases hb : v.flat with
      | false => rw [hb] at h; cases h
      | true =>
        rw [hb] at h; simp at h; subst h
        have h3 : (execOp ρ ⟨dst, .box t x, type, pos, after, guard⟩).run P w = .ok (.value (.pointer (some ⟨w.heap.size, 0, none⟩))) (World.push w (.cells (ρ x).cells t)) := by
          simp only [execOp, Instr.box, Sem.run_bind, Result.andThen_ok, newVar, newRow, run_newObj, Sem.run_pure]
          rfl
        rw [h3]
        exact newBox hI hx ((hρ x (by simp [Op.operands]) v hv).cells hb).1 (flat_cells hb)
    · cases h

theorem allocB_dsem [T : TyTab P] {dst : Option Tmp} {o : Op} {type : TypeId} {pos : String} {after : Array Edge} {guard : Option (Nat × Bool)} {F : Fr} {H : List AObj} {a : AObj}
    (h : allocB T.tab o F = some a) : DSem P .x ⟨dst, o, type, pos, after, guard⟩ F H (.ptr H.length 0) (H ++ [a]) :=
  ⟨fun j t cs hj => by rw [List.getElem?_append_left (List.getElem?_eq_some_iff.1 hj).1]; exact hj, allocB_sem h⟩

/-! ### a literal of a slice: nobody has it yet, and nobody will change it -/
def sliceParts (n : Nat) : Nat → List (Nat × AVal) → Option (List AVal)
  | k, [] => cond (Nat.beq k n) (some []) none
  | k, (i, v) :: vs => cond (Nat.beq i k) ((sliceParts n (k + 1) vs).map (v :: ·)) none

theorem cellsAt {w : World} {us : Array Value} {t : TypeId} (i : Nat) : (World.push w (.cells us t)).cell? ⟨w.heap.size, i, none⟩ = us[i]? := by
  simp only [World.cell?, push_top, Option.isSome_none, Bool.false_eq_true, if_false]
end
end Go.AL
