/-
  The logic of walks, part 8. A text put behind what is owned; a byte builder's two things. No conditions.
-/
import Derived.Test.YtaoiflliakjhdaaDoorL2
import Derived.Lib.AppendStr
set_option linter.unusedVariables false
namespace Go.AL
open Go

section
variable {P : Program}

def encB (c : UInt8) : AVal := .v (.int .u8 c.toNat)
theorem text_at (l : List UInt8) (i : Nat) : (Lib.strCells ⟨l.toArray⟩)[i]? = (l[i]?).map fun c => Value.int .u8 c.toNat := by
  simp [Lib.strCells]
theorem text_rel (c : Ctx) (l : List UInt8) : RelR c 1 (fun i => (Lib.strCells ⟨l.toArray⟩)[i]?) 0 (l.map encB) := by
  refine RelR.of_get fun i a ha => ?_
  rw [List.getElem?_map] at ha
  obtain ⟨x, hx, rfl⟩ := Option.map_eq_some_iff.1 ha
  refine ⟨.int .u8 x.toNat, rfl, rfl, fun q hq => ?_⟩
  have : q = 0 := by omega
  subst this
  simp only [Nat.zero_add, Nat.mul_one, Nat.add_zero]
  rw [text_at, hx]; rfl
theorem text_size (l : List UInt8) : ByteArray.size ⟨l.toArray⟩ = l.length := rfl

theorem append_text [T : TyTab P] {dst : Option Tmp} {t tx : TypeId} {x y : Operand} {type : TypeId} {pos : String} {after : Array Edge} {guard : Option (Nat × Bool)} {F : Fr} {H : List AObj} {j g : Nat} {xs : List AVal} {l : List UInt8} {e : TypeId} {r r' rx : TyRow}
    (hx : ev F x = some (.arr j g)) (hj : H[j]? = some (.arr g e 1 xs)) (hy : ev F y = some (.v (.string ⟨l.toArray⟩))) (ht : tfind T.tab t = some r') (hd : r'.d = .slice e) (he : tfind T.tab e = some r) (htx : tfind T.tab tx = some rx) (hdx : rx.d = .string)
    (hs1 : r.size = 1) (hb1 : r.bytes = 1) (hz : r.z = .int .u8 0) (ho : ElemsOk 1 xs) (h47 : xs.length + l.length ≤ 140737488355328) :
    DSem P .x ⟨dst, .call { callee := .builtin .append, args := #[x, y], argTypes := #[t, tx] }, type, pos, after, guard⟩ F H (.arr j (g + 1)) (H.set j (.arr (g + 1) e 1 (xs ++ l.map encB))) := by
  refine ⟨fun i t cs hi => ?_, ?_⟩
  · by_cases hij : i = j
    · subst hij; rw [hj] at hi; cases hi
    · rw [List.getElem?_set_ne (by omega)]; exact hi
  intro ext w β ρ hI hext hκ hρ
  have hr0 := hρ x (by simp [Op.operands, Call.operands]) _ hx
  obtain ⟨A1, m1, us, u1, u2, u3, u4, u5⟩ := src_cells hI (.arr hj) ho hr0
  obtain ⟨_, ent, hent, _, hcond⟩ := id hr0
  obtain ⟨k1, k0, k2, k3, k4, k5⟩ := hI.obj _ _ ent hj hent
  obtain ⟨c1, c2⟩ := hcond k1
  have v1 : ρ y = .string ⟨l.toArray⟩ := hρ y (by simp [Op.operands, Call.operands]) _ hy
  obtain ⟨i, i1, i2, i3, i4⟩ := ty_info he
  rw [hs1] at i3
  rw [hb1] at i4
  rw [hz] at i2
  have hu' : P.underlying t = some (.slice e) := by rw [ty_und ht, hd]
  have hk : P.underlying tx = some .string := by rw [ty_und htx, hdx]
  rw [Nat.mul_one] at u2
  have hvl : (Lib.strCells ⟨l.toArray⟩).length = l.length := by simp [Lib.strCells]
  have hgen0 : ent.gen ≠ 0 := by omega
  have fin : ∀ (w1 : World) (bo : Option Nat) (cap : Nat) (A : Option Addr), Step w β w1 (β.set j ⟨bo, g + 1, 1, cap, (xs ++ l.map encB).length⟩) →
      (∀ c, c < w.heap.size → ent.blk ≠ some c → w1.heap[c]? = w.heap[c]?) →
      ((bo = some w.heap.size ∧ w.heap.size < w1.heap.size) ∨ bo = none ∨ bo = ent.blk) → (xs ++ l.map encB).length ≤ cap →
      (match bo with | none => (xs ++ l.map encB).length = 0 ∧ cap = 0 | some b => A = some ⟨b, 0, none⟩ ∧ ∃ cs, w1.heap[b]? = some (.cells cs e (0, 0)) ∧ cs.size = cap * 1 ∧ RelR { (ctx ext w β) with β := [] } 1 (fun i => cs[i]?) 0 (xs ++ l.map encB)) →
      Came ext w β (one (.arr j (g + 1)) (H.set j (.arr (g + 1) e 1 (xs ++ l.map encB)))) .ret (.slice A (xs ++ l.map encB).length cap) w1 := by
    intro w1 bo cap A hst hk' hbo hcap hm
    have hjlt := (List.getElem?_eq_some_iff.1 hent).1
    refine ⟨_, _, _, ⟨rfl, rfl⟩, ?_, hI.set hext hent hst hk' hbo ?_, hst⟩
    · refine ⟨rfl, ⟨bo, g + 1, 1, cap, (xs ++ l.map encB).length⟩, by rw [List.getElem?_set_self hjlt], Nat.le_refl _, fun _ => ⟨hcap, ?_⟩⟩
      cases bo with
      | none => obtain ⟨h1, h2⟩ := hm; subst h2; exact ⟨h1, A, by rw [h1]⟩
      | some b => obtain ⟨h1, _⟩ := hm; rw [h1]
    · refine ⟨rfl, by omega, rfl, rfl, hcap, ?_⟩
      cases bo with
      | none => exact hm.2
      | some b => obtain ⟨h1, cs, h2, h3, h4⟩ := hm; exact ⟨cs, h2, h3, h4.le (hst.le (ext := ext)).bare _ _ _ _⟩
  have hlen : (xs ++ l.map encB).length = xs.length + l.length := by simp
  have h63 : (xs.length + l.length) * 1 ≤ 140737488355328 := by omega
  -- a new row
  have new : ∀ (cap : Nat), xs.length + l.length ≤ cap →
      (execOp ρ ⟨dst, .call { callee := .builtin .append, args := #[x, y], argTypes := #[t, tx] }, type, pos, after, guard⟩).run P w =
        .ok (.value (.slice (some ⟨w.heap.size, 0, none⟩) (xs.length + l.length) cap)) (World.push w.drew (.cells (us.toArray ++ (Lib.strCells ⟨l.toArray⟩).toArray ++ Builtin.zeroCells (Value.int .u8 0).cells (cap - (xs.length + l.length))) e)) →
      Upon P ext w β (one (.arr j (g + 1)) (H.set j (.arr (g + 1) e 1 (xs ++ l.map encB)))) ((execOp ρ ⟨dst, .call { callee := .builtin .append, args := #[x, y], argTypes := #[t, tx] }, type, pos, after, guard⟩).run P w) := by
    intro cap hcap2 h4
    rw [h4, ← hlen]
    refine fin _ (some w.heap.size) cap _ ?_ ?_ (.inl ⟨rfl, ?_⟩) (by rw [hlen]; exact hcap2) ⟨rfl, _, push_top, ?_, ?_⟩
    · exact ((drew_same w).step β).trans (Step.move (w := w.drew) _ hent hgen0 (by simp only; omega) (.inl rfl))
    · intro c hc _; exact push_get (w := w.drew) hc
    · rw [push_size]; show w.heap.size < w.heap.size + 1; omega
    · have hz1 : (Value.int IntKind.u8 0).cells.size = 1 := rfl
      simp only [Array.size_append, List.size_toArray, size_zeroCells, u2, hvl, hz1, hlen]
      omega
    · refine rows_append u4 (text_rel _ l) (by rw [Nat.mul_one]; exact u2) fun i hi => ?_
      rw [List.length_map, Nat.mul_one] at hi
      rw [Array.getElem?_append_left (by simp [u2, hvl]; omega)]
      simp
  have hfit := fun (old : Nat) (h : old < xs.length + l.length) => growslice_fits (old := old) h (by rw [i4]; exact h63 : (xs.length + l.length) * i.bytes ≤ 140737488355328)
  cases hb' : ent.blk with
  | none =>
    rw [hb'] at c2 k5
    obtain ⟨c3, A, hu⟩ := c2
    have hxs : xs = [] := List.length_eq_zero_iff.1 (by omega)
    subst hxs
    have hus : us = [] := List.length_eq_zero_iff.1 (by simpa using u2)
    subst hus
    cases l with
    | nil =>
      have hf := Lib.run_firstCells_string (P := P) w 1 ⟨#[]⟩
      have h4 : (execOp ρ ⟨dst, .call { callee := .builtin .append, args := #[x, y], argTypes := #[t, tx] }, type, pos, after, guard⟩).run P w = .ok (.value (.slice A 0 0)) w := by
        simp only [execOp, resolve, invoke, builtin, Sem.run_bind, Sem.run_pure, Result.andThen_ok, List.map_toArray, List.map_cons, List.map_nil, hu, v1]
        have hs0 : ByteArray.size { data := #[] } = 0 := rfl
        rw [hs0] at hf
        cases A <;> simp [Builtin.append_, run_underlying hu', run_underlying hk, sizeOf, typeInfo, i1, i3, Builtin.lenOf, hs0, hf, storeCells, Lib.strCells]
      rw [h4]
      exact fin w none 0 A (Step.regen hent hgen0 (by simp only; omega) (.inl rfl)) (fun _ _ _ => rfl) (.inr (.inl rfl)) (Nat.le_refl _) ⟨rfl, rfl⟩
    | cons a l' =>
      generalize hl : a :: l' = l at *
      have hpos : 0 < l.length := by rw [← hl]; simp
      simp only [List.length_nil, Nat.zero_add] at new hlen h47 h63 hfit ⊢
      cases A with
      | none =>
        have hr := run_append_nil_string (P := P) w t tx type e i (.int .u8 0) hu' hk i1 i2 ⟨l.toArray⟩ (by rw [text_size]; omega) (by rw [text_size]; omega) (by rw [text_size, i4]; omega)
        have e1 : (ByteArray.data ⟨l.toArray⟩).map (fun b => Value.int .u8 b.toNat) = (Lib.strCells ⟨l.toArray⟩).toArray := by
          apply Array.ext'
          simp [Lib.strCells]
        rw [e1, text_size] at hr
        refine new (grownCap w l.length 0 e) (grownCap_ge w l.length 0 e) ?_
        rw [show (([] : List Value).toArray ++ (Lib.strCells ⟨l.toArray⟩).toArray) = (Lib.strCells ⟨l.toArray⟩).toArray from by simp]
        simp only [execOp, resolve, invoke, builtin, Sem.run_bind, Sem.run_pure, Result.andThen_ok, List.map_toArray, List.map_cons, List.map_nil, hu, v1]
        rw [hr]
        rfl
      | some b =>
        have hr := Lib.run_append_grow_string (P := P) w t tx type e i (.int .u8 0) hu' hk i1 i2 b 0 0 [] (by simp) (fun j v h => by simp at h) ⟨l.toArray⟩ (by rw [text_size]; omega) (by rw [text_size]; omega) (by rw [text_size]; have := hfit 0 hpos; simpa using this)
        refine new (grownCap w l.length 0 e) (grownCap_ge w l.length 0 e) ?_
        rw [text_size, Nat.zero_add] at hr
        simp only [execOp, resolve, invoke, builtin, Sem.run_bind, Sem.run_pure, Result.andThen_ok, List.map_toArray, List.map_cons, List.map_nil, hu, v1, hr]
        rfl
  | some bk =>
    rw [hb'] at c2 k5
    rw [k3] at c2
    obtain ⟨cs, w1, w2, w3⟩ := k5
    rw [Nat.mul_one] at w2
    by_cases hroom : xs.length + l.length ≤ ent.cap
    · have hst := Lib.run_append_room_string (P := P) w t tx type e i hu' hk i1 i3 bk xs.length ent.cap cs w1 ⟨l.toArray⟩ (by rw [text_size]; exact hroom) (by rw [text_size]; omega)
      rw [text_size] at hst
      generalize hcs : (cs.toList.take xs.length ++ Lib.strCells ⟨l.toArray⟩ ++ cs.toList.drop (xs.length + l.length)).toArray = cs' at hst
      have h4 : (execOp ρ ⟨dst, .call { callee := .builtin .append, args := #[x, y], argTypes := #[t, tx] }, type, pos, after, guard⟩).run P w =
          .ok (.value (.slice (some ⟨bk, 0, none⟩) (xs ++ l.map encB).length ent.cap)) (w.setRow bk cs') := by
        simp only [execOp, resolve, invoke, builtin, Sem.run_bind, Sem.run_pure, Result.andThen_ok, List.map_toArray, List.map_cons, List.map_nil, c2, v1, hst, hlen]
      rw [h4]
      refine fin _ (some bk) ent.cap _ ?_ ?_ (.inr (.inr hb'.symm)) (by rw [hlen]; exact hroom) ⟨rfl, cs', setRow_get w1, ?_, ?_⟩
      · have s1 : Step w β (w.setRow bk cs') β := Step.write ⟨j, ent, hent, hb'⟩ (by simp) (fun c hc => setRow_other w bk c cs' hc) rfl rfl rfl
        exact s1.trans (Step.regen hent hgen0 (by simp only; omega) (.inr hb'.symm))
      · intro c _ hne; exact setRow_other w bk c cs' (fun h => hne (by rw [h]; exact hb'))
      · rw [← hcs]
        simp only [List.size_toArray, List.length_append, List.length_take, List.length_drop, Array.length_toList, hvl, w2]
        omega
      · refine rows_append (us := cs.toList.take xs.length) (vs := Lib.strCells ⟨l.toArray⟩) (relR_rd w3 fun i hi => ?_) (text_rel _ l) ?_ fun i hi => ?_
        · rw [Nat.mul_one] at hi
          show (cs.toList.take _)[i]? = _
          rw [List.getElem?_take, if_pos hi]; simp
        · simp [w2]; omega
        · rw [List.length_map, Nat.mul_one] at hi
          show cs'[i]? = _
          rw [← hcs]
          simp only [List.getElem?_toArray]
          rw [List.getElem?_append_left]
          simp only [List.length_append, List.length_take, Array.length_toList, hvl, w2]
          omega
    · rcases u5 with h0 | ⟨b, o, hA, holds⟩
      · subst h0
        have hus : us = [] := List.length_eq_zero_iff.1 (by simpa using u2)
        subst hus
        simp only [List.length_nil, Nat.zero_add] at *
        have hr := Lib.run_append_grow_string (P := P) w t tx type e i (.int .u8 0) hu' hk i1 i2 ⟨bk, 0, none⟩ 0 ent.cap [] (by simp) (fun j v h => by simp at h) ⟨l.toArray⟩ (by rw [text_size]; omega) (by rw [text_size]; omega) (by rw [text_size]; have := hfit ent.cap (by omega); simpa using this)
        refine new (grownCap w l.length ent.cap e) (grownCap_ge w l.length ent.cap e) ?_
        rw [text_size, Nat.zero_add] at hr
        simp only [execOp, resolve, invoke, builtin, Sem.run_bind, Sem.run_pure, Result.andThen_ok, List.map_toArray, List.map_cons, List.map_nil, c2, v1, hr]
        rfl
      · have hA2 : A1 = some ⟨bk, 0, none⟩ := by rw [c2] at u1; injection u1 with e1; exact e1.symm
        rw [hA2] at hA
        injection hA with hA
        injection hA with hA1 hA3
        subst hA1; subst hA3
        have hr := Lib.run_append_grow_string (P := P) w t tx type e i (.int .u8 0) hu' hk i1 i2 ⟨bk, 0, none⟩ xs.length ent.cap us (by rw [i3, Nat.mul_one]; exact u2) (fun q v h => by
          have := holds q v h
          rw [addr_add]; simpa using this) ⟨l.toArray⟩ (by rw [text_size]; omega) (by rw [text_size]; omega) (by rw [text_size]; exact hfit ent.cap (by omega))
        refine new (grownCap w (xs.length + l.length) ent.cap e) (grownCap_ge w _ ent.cap e) ?_
        rw [text_size] at hr
        simp only [execOp, resolve, invoke, builtin, Sem.run_bind, Sem.run_pure, Result.andThen_ok, List.map_toArray, List.map_cons, List.map_nil, c2, v1, hr]
        rfl
end
end Go.AL
