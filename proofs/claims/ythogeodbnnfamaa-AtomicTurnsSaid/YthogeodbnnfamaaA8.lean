/-
  Slices: literals, indexes, cuts, appending, making. No conditions.
-/
import Derived.Test.YthogeodbnnfamaaA7
set_option linter.unusedVariables false
set_option linter.unusedSimpArgs false
namespace Go.AL
open Go

section
variable {P : Program}

theorem fill_rows {es n : Nat} : ∀ (us : List (Nat × Value)) (k : Nat) (cs : Array Value), cs.size = n * es → k + us.length = n → (∀ i p, us[i]? = some p → p.1 = k + i ∧ p.2.cells.size = es) →
    ∃ cs', Instr.fill (fun i => some (i * es, es)) cs us = some cs' ∧ cs'.size = cs.size ∧ (∀ q, q < k * es → cs'[q]? = cs[q]?) ∧
      ∀ i p, us[i]? = some p → ∀ q, q < es → cs'[(k + i) * es + q]? = p.2.cells[q]?
  | [], k, cs, _, _, _ => ⟨cs, rfl, rfl, fun _ _ => rfl, fun i p h => by simp at h⟩
  | (j, u) :: us, k, cs, hs, hn, h => by
    obtain ⟨h1, h2⟩ := h 0 (j, u) rfl
    simp only [Nat.add_zero] at h1 h2
    subst h1
    simp only [List.length_cons] at hn
    have hle : j * es + es ≤ n * es := by
      rw [← Nat.succ_mul]; exact Nat.mul_le_mul_right _ (by omega)
    have hsp := foldl_splice (j * es) u.cells.toList 0 cs (by simp; omega)
    simp only [Nat.add_zero] at hsp
    have e1 : Array.foldl (fun (cs : Array Value) (p : Value × Nat) => cs.setIfInBounds (j * es + p.2) p.1) cs u.cells.zipIdx = List.foldl (fun (cs : Array Value) (p : Value × Nat) => cs.setIfInBounds (j * es + p.2) p.1) cs (u.cells.toList.zipIdx 0) := by
      rw [← Array.foldl_toList]; simp [Array.toList_zipIdx]
    generalize hc : Array.foldl (fun (cs : Array Value) (p : Value × Nat) => cs.setIfInBounds (j * es + p.2) p.1) cs u.cells.zipIdx = c1 at e1
    have hl : c1.toList = cs.toList.take (j * es) ++ u.cells.toList ++ cs.toList.drop (j * es + u.cells.toList.length) := by rw [e1, hsp]
    have hul : u.cells.toList.length = es := by simpa using h2
    have hcl : cs.toList.length = n * es := by simpa using hs
    have hsz : c1.size = cs.size := by
      rw [← Array.length_toList, hl]
      simp only [List.length_append, List.length_take, List.length_drop, hul, hcl]
      omega
    obtain ⟨cs', g1, g2, g3, g4⟩ := fill_rows (es := es) (n := n) us (j + 1) c1 (by omega) (by omega) (fun i p hp => by
      have := h (i + 1) p (by simpa using hp)
      exact ⟨by omega, this.2⟩)
    have hget : ∀ q : Nat, c1[q]? = (cs.toList.take (j * es) ++ u.cells.toList ++ cs.toList.drop (j * es + es))[q]? := fun q => by
      rw [← Array.getElem?_toList, hl, hul]
    refine ⟨cs', ?_, by omega, fun q hq => ?_, fun i p hp q hq => ?_⟩
    · simp only [Instr.fill]
      rw [if_neg (by simp; omega)]
      have : (Array.foldl (fun cs x => cs.setIfInBounds (j * es + x.snd) x.fst) cs u.cells.zipIdx) = c1 := hc
      rw [this]; exact g1
    · rw [g3 q (by rw [Nat.succ_mul]; omega), hget q, List.append_assoc, List.getElem?_append_left (by simp; omega), List.getElem?_take]
      rw [if_pos hq]; simp
    · cases i with
      | zero =>
        simp at hp; subst hp
        simp only [Nat.add_zero]
        rw [g3 _ (by rw [Nat.succ_mul]; omega), hget, List.append_assoc, List.getElem?_append_right (by simp; omega), List.getElem?_append_left (by simp; omega)]
        have : j * es + q - (cs.toList.take (j * es)).length = q := by simp; omega
        rw [this]; simp
      | succ i =>
        have := g4 i p (by simpa using hp) q hq
        rwa [show j + 1 + i = j + (i + 1) by omega] at this

def inOrder : Nat → List (Nat × AVal) → Bool
  | _, [] => true
  | k, (i, v) :: vs => Nat.beq i k && v.flat && inOrder (k + 1) vs
def sizesOk (es : Nat) : List (Nat × AVal) → Bool
  | [] => true
  | (_, v) :: vs => Nat.beq v.cells.length es && sizesOk es vs

theorem inOrder_get {c : Ctx} {es : Nat} : ∀ {vs : List (Nat × AVal)} {us : List (Nat × Value)} {k : Nat}, inOrder k vs = true → sizesOk es vs = true → RelPs c vs us →
    us.length = vs.length ∧ (∀ (i : Nat) (p : Nat × Value), us[i]? = some p → p.1 = k + i ∧ p.2.cells.size = es) ∧ (∀ (i : Nat) (v : AVal), (vs.map (·.2))[i]? = some v → ∃ p : Nat × Value, us[i]? = some p ∧ Rel c v p.2)
  | [], us, k, _, _, h => by cases h; exact ⟨rfl, fun i p h => by simp at h, fun i v h => by simp at h⟩
  | (j, v) :: vs, us, k, ho, hs, h => by
    obtain ⟨u, us', rfl, hr, h'⟩ := h
    simp only [inOrder, Bool.and_eq_true] at ho
    simp only [sizesOk, Bool.and_eq_true] at hs
    obtain ⟨h1, h2, h3⟩ := inOrder_get ho.2 hs.2 h'
    have hj := Nat.eq_of_beq_eq_true ho.1.1
    have hl := (hr.cells ho.1.2).1.length
    have hsz := Nat.eq_of_beq_eq_true hs.1
    simp only [Array.length_toList] at hl
    refine ⟨by simp [h1], fun i p hp => ?_, fun i x hx => ?_⟩
    · cases i with
      | zero => simp at hp; subst hp; exact ⟨by simpa using hj, by simp only; omega⟩
      | succ i => have := h2 i p (by simpa using hp); exact ⟨by omega, this.2⟩
    · cases i with
      | zero => simp at hx; subst hx; exact ⟨(j, u), rfl, hr⟩
      | succ i => obtain ⟨p, g1, g2⟩ := h3 i x (by simpa using hx); exact ⟨p, by simpa using g1, g2⟩

/-- a value that hangs on no owned thing -/
def AVal.free : AVal → Bool
  | .v _ | .sl _ | .slf _ => true
  | .agg cs => freeL cs
  | .fn _ a b => freeL a && freeL b
  | .ifc _ x => x.free
  | _ => false
where freeL : List AVal → Bool
  | [] => true
  | x :: xs => x.free && freeL xs

mutual
theorem Rel.bare {c : Ctx} : ∀ (a : AVal) (u : Value), a.free = true → Rel c a u → Rel { c with β := [] } a u
  | .v x, u, _, h => h
  | .agg cs, u, hf, ⟨a, e, r⟩ => ⟨a, e, RelL.bare cs _ (by simpa [AVal.free] using hf) r⟩
  | .tup cs, u, hf, _ => by simp [AVal.free] at hf
  | .sl xs, u, _, h => h
  | .slf xs, u, _, h => h
  | .arr .., u, hf, _ => by simp [AVal.free] at hf
  | .ptr .., u, hf, _ => by simp [AVal.free] at hf
  | .pp .., u, hf, _ => by simp [AVal.free] at hf
  | .ep .., u, hf, _ => by simp [AVal.free] at hf
  | .mp .., u, hf, _ => by simp [AVal.free] at hf
  | .hd .., u, hf, _ => by simp [AVal.free] at hf
  | .fn f fs cs, u, hf, ⟨a1, a2, e, r1, r2⟩ => by
      have h : AVal.free.freeL fs = true ∧ AVal.free.freeL cs = true := by simpa [AVal.free] using hf
      exact ⟨a1, a2, e, RelL.bare fs _ h.1 r1, RelL.bare cs _ h.2 r2⟩
  | .ifc t x, u, hf, ⟨y, e, r⟩ => ⟨y, e, Rel.bare x y (by simpa [AVal.free] using hf) r⟩
theorem RelL.bare {c : Ctx} : ∀ (as : List AVal) (us : List Value), AVal.free.freeL as = true → RelL c as us → RelL { c with β := [] } as us
  | [], us, _, h => h
  | x :: xs, us, hf, ⟨u, us', e, r, rs⟩ => by
      have h : x.free = true ∧ AVal.free.freeL xs = true := by simpa [AVal.free.freeL] using hf
      exact ⟨u, us', e, Rel.bare x u h.1 r, RelL.bare xs us' h.2 rs⟩
end

def buildB (tab : List TyRow) (o : Op) (F : Fr) : Option AVal :=
  match o with
  | .buildSlice t len parts => match tfind tab t, evp F parts.toList with
    | some ⟨_, .slice e, _, _, _⟩, some vs => match tfind tab e with
      | some r => cond (Nat.beq vs.length len && inOrder 0 vs && sizesOk r.size vs && AVal.free.freeL (vs.map (·.2)) && Nat.ble (len * r.size) 100000 && Nat.beq r.z.cells.size r.size) (some (.slf (vs.map (·.2)))) none
      | none => none
    | _, _ => none
  | _ => none

theorem freeL_get : ∀ {l : List AVal} {i : Nat} {v : AVal}, AVal.free.freeL l = true → l[i]? = some v → v.free = true
  | [], i, v, _, h => by simp at h
  | x :: xs, i, v, hf, h => by
    have h' : x.free = true ∧ AVal.free.freeL xs = true := by simpa [AVal.free.freeL] using hf
    cases i with
    | zero => simp at h; subst h; exact h'.1
    | succ i => exact freeL_get h'.2 (by simpa using h)

theorem buildB_dsem [T : TyTab P] {dst : Option Tmp} {o : Op} {type : TypeId} {pos : String} {after : Array Edge} {guard : Option (Nat × Bool)} {F : Fr} {H : List AObj} {v : AVal}
    (h : buildB T.tab o F = some v) : DSem P .p ⟨dst, o, type, pos, after, guard⟩ F H v H := by
  refine ⟨rfl, fun H' => ?_⟩
  intro ext w β ρ hI hx hκ hρ
  cases o <;> simp only [buildB] at h <;> try (cases h; done)
  rename_i t len parts
  split at h
  · rename_i q1 e q2 q3 q4 vs ht hvs
    split at h
    · rename_i r hr
      cases hb : (Nat.beq vs.length len && inOrder 0 vs && sizesOk r.size vs && AVal.free.freeL (vs.map (·.2)) && Nat.ble (len * r.size) 100000 && Nat.beq r.z.cells.size r.size) with
      | false => rw [hb] at h; cases h
      | true =>
        rw [hb] at h; simp at h; subst h
        simp only [Bool.and_eq_true] at hb
        obtain ⟨⟨⟨⟨⟨b1, b2⟩, b3⟩, b4⟩, b5⟩, b6⟩ := hb
        have b1 := Nat.eq_of_beq_eq_true b1
        have b5 := Nat.le_of_ble_eq_true b5
        have b6 := Nat.eq_of_beq_eq_true b6
        have hps := evp_rel (c := ctx ext w β) (ρ := ρ) (fun p hp v hv => hρ p.2 (by simp [Op.operands]; exact ⟨p.1, by simpa using hp⟩) v hv) hvs
        have hm : (parts.map fun (i, x) => (i, ρ x)).toList = parts.toList.map fun p => (p.1, ρ p.2) := by simp
        obtain ⟨g1, g2, g3⟩ := inOrder_get b2 b3 hps
        simp only [Nat.zero_add] at g2
        generalize hz : ((Array.range (len * r.size)).map (fun i => r.z.cells[i % r.z.cells.size]!)) = zc
        have hzs : zc.size = len * r.size := by rw [← hz]; simp
        obtain ⟨cs', f1, f2, f3, f4⟩ := fill_rows (es := r.size) (n := len) (parts.toList.map fun p => (p.1, ρ p.2)) 0 zc hzs (by omega) (by simpa using g2)
        simp only [Nat.zero_add] at f4
        have h3 : (execOp ρ ⟨dst, .buildSlice t len parts, type, pos, after, guard⟩).run P w = .ok (.value (.slice (some ⟨w.heap.size, 0, none⟩) len len)) (World.push w (.cells cs' e)) := by
          simp only [execOp, Instr.buildSlice, Sem.run_bind, run_und ht, run_size hr, Result.andThen_ok]
          rw [if_neg (by omega)]
          by_cases h0 : len * r.size = 0
          · have hz0 : (Array.range (len * r.size)).map (fun i => (#[] : Array Value)[i % (#[] : Array Value).size]!) = zc := by
              rw [← hz, h0]; simp
            simp only [h0, if_true, Sem.run_pure, Result.andThen_ok, Sem.run_bind]
            rw [h0] at hz0
            rw [hz0, hm, f1]
            simp only [newRow, Sem.run_bind, run_newObj, Result.andThen_ok, Sem.run_pure]
            rfl
          · simp only [h0, if_false, Sem.run_pure, Result.andThen_ok, Sem.run_bind, run_zero hr]
            rw [hz, hm, f1]
            simp only [newRow, Sem.run_bind, run_newObj, Result.andThen_ok, Sem.run_pure]
            rfl
        rw [h3]
        have hs : Step w β (World.push w (.cells cs' e)) β := Step.push w β _
        refine ⟨_, H', β, ⟨rfl, rfl⟩, ?_, hI.push _, hs⟩
        have hle := hs.le (ext := ext)
        refine ⟨some ⟨w.heap.size, 0, none⟩, r.size, by simp [b1], fun _ => ⟨w.heap.size, 0, rfl, ?_, by simp only [push_size]; omega⟩, ?_⟩
        · rintro (hb | hb)
          · exact absurd (hx _ hb) (by omega)
          · exact absurd (hI.sep _ hb).2 (by omega)
        · refine RelR.of_get fun i a ha => ?_
          obtain ⟨p, k1, k2⟩ := g3 i a ha
          obtain ⟨k3, k4⟩ := g2 i p k1
          refine ⟨p.2, Rel.bare a _ (freeL_get b4 ha) (k2.le hle), k4, fun q hq => ?_⟩
          have := f4 i p k1 q hq
          simp only [Nat.zero_add, rdA]
          rw [cellsAt]
          exact this
    · cases h
  · cases h
end
end Go.AL
