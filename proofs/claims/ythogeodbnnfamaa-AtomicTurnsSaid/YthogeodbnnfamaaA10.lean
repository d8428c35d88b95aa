/-
  Slices that are owned: appending, making, storing, and giving up. No conditions.
-/
import Derived.Test.YthogeodbnnfamaaA9
set_option linter.unusedVariables false
set_option linter.unusedSimpArgs false
namespace Go.AL
open Go

section
variable {P : Program}

/-- the cells of rows, one behind the other -/
theorem rows_cells {c : Ctx} {s : Nat} {rd : Nat → Option Value} : ∀ (xs : List AVal) (k : Nat), RelR c s rd k xs → ElemsOk s xs →
    ∃ us : List Value, us.length = xs.length * s ∧ (∀ j u, us[j]? = some u → rd (k * s + j) = some u) ∧ (∀ u ∈ us, u.oneCell' = true) ∧ ∀ k', RelR c s (fun i => if k' * s ≤ i then us[i - k' * s]? else none) k' xs
  | [], k, _, _ => ⟨[], by simp, fun j u h => by simp at h, fun u h => by simp at h, fun _ => trivial⟩
  | x :: xs, k, ⟨⟨u, h1, h2, h3⟩, hr⟩, ho => by
    obtain ⟨us, g1, g2, g3, g4⟩ := rows_cells xs (k + 1) hr (fun y hy => ho y (List.mem_cons_of_mem _ hy))
    obtain ⟨o1, o2⟩ := ho x (List.mem_cons_self ..)
    obtain ⟨q1, q2⟩ := h1.cells o2
    have hul : u.cells.toList.length = s := by simpa using h2
    refine ⟨u.cells.toList ++ us, ?_, fun j v hj => ?_, fun v hv => ?_, fun k' => ⟨⟨u, h1, h2, fun i hi => ?_⟩, ?_⟩⟩
    · simp only [List.length_append, List.length_cons, hul, g1, Nat.add_mul]; omega
    · by_cases hlt : j < s
      · rw [List.getElem?_append_left (by omega)] at hj
        rw [h3 j hlt]; simpa using hj
      · rw [List.getElem?_append_right (by omega), hul] at hj
        have := g2 _ _ hj
        rwa [show (k + 1) * s + (j - s) = k * s + j by rw [Nat.add_mul]; omega] at this
    · rcases List.mem_append.1 hv with h | h
      · exact q2 v h
      · exact g3 v h
    · simp only [Nat.le_add_right, if_true, Nat.add_sub_cancel_left]
      rw [List.getElem?_append_left (by omega)]
      simp
    · have := g4 (k' + 1)
      refine RelR.of_get fun i a ha => ?_
      obtain ⟨v, v1, v2, v3⟩ := this.get ha
      refine ⟨v, v1, v2, fun q hq => ?_⟩
      have h5 := v3 q hq
      have e1 : (k' + 1 + i) * s + q = k' * s + s + i * s + q := by simp only [Nat.add_mul, Nat.one_mul]
      have e2 : (k' + 1) * s = k' * s + s := by simp only [Nat.add_mul, Nat.one_mul]
      simp only [e1, e2] at h5 ⊢
      rw [if_pos (by omega)] at h5
      rw [if_pos (by omega), List.getElem?_append_right (by omega), hul]
      rw [← h5]
      congr 1
      omega

/-- rows laid one behind the other into an array -/
theorem rows_append {c : Ctx} {s : Nat} {xs ys : List AVal} {us vs : List Value} {rd : Nat → Option Value} (hx : RelR c s (fun i => us[i]?) 0 xs) (hy : RelR c s (fun i => vs[i]?) 0 ys) (hl : us.length = xs.length * s)
    (hrd : ∀ i, i < (xs.length + ys.length) * s → rd i = (us ++ vs)[i]?) : RelR c s rd 0 (xs ++ ys) := by
  refine RelR.of_get fun i a ha => ?_
  simp only [Nat.zero_add]
  have hlt : i < xs.length + ys.length := by simpa using (List.getElem?_eq_some_iff.1 ha).1
  have hb : ∀ q, q < s → i * s + q < (xs.length + ys.length) * s := fun q hq => by
    have : (i + 1) * s ≤ (xs.length + ys.length) * s := Nat.mul_le_mul_right _ hlt
    rw [Nat.add_mul, Nat.one_mul] at this; omega
  by_cases h : i < xs.length
  · rw [List.getElem?_append_left h] at ha
    obtain ⟨u, h1, h2, h3⟩ := hx.get ha
    refine ⟨u, h1, h2, fun q hq => ?_⟩
    have := h3 q hq
    simp only [Nat.zero_add] at this
    have hb2 : i * s + q < xs.length * s := by
      have : (i + 1) * s ≤ xs.length * s := Nat.mul_le_mul_right _ h
      rw [Nat.add_mul, Nat.one_mul] at this; omega
    rw [hrd _ (hb q hq), List.getElem?_append_left (by omega)]
    exact this
  · rw [List.getElem?_append_right (by omega)] at ha
    obtain ⟨u, h1, h2, h3⟩ := hy.get ha
    refine ⟨u, h1, h2, fun q hq => ?_⟩
    have := h3 q hq
    simp only [Nat.zero_add] at this
    have hge : xs.length * s ≤ i * s := Nat.mul_le_mul_right _ (by omega)
    rw [hrd _ (hb q hq), List.getElem?_append_right (by omega), hl]
    rw [show i * s + q - xs.length * s = (i - xs.length) * s + q by rw [Nat.sub_mul]; omega]
    exact this

/-- what is appended: rows of a slice that nobody changes, or of an owned one -/
inductive SrcOf (H : List AObj) : AVal → List AVal → Prop
  | sl {a : AVal} {xs : List AVal} : xsOf a = some xs → SrcOf H a xs
  | arr {j g : Nat} {t : TypeId} {es : Nat} {xs : List AVal} : H[j]? = some (.arr g t es xs) → SrcOf H (.arr j g) xs

theorem firstCells_run {s n : Nat} {a : Addr} {m c : Nat} {us : List Value} (w : World) (hl : us.length = n * s) (h : ∀ j u, us[j]? = some u → w.cell? (a.add j) = some u) :
    (Builtin.firstCells s n (.slice (some a) m c)).run P w = .ok us.toArray w := run_firstCells_some w s n a m c us hl h

theorem src_cells {ext : Nat → Prop} {w : World} {H : List AObj} {β : List Ent} (hI : Inv ext w H β) {a : AVal} {ys : List AVal} {s : Nat} {u : Value} (hs : SrcOf H a ys) (ho : ElemsOk s ys) (hr : Rel (ctx ext w β) a u) :
    ∃ (A : Option Addr) (m : Nat) (us : List Value), u = .slice A ys.length m ∧ us.length = ys.length * s ∧ (∀ v ∈ us, v.oneCell' = true) ∧ RelR { (ctx ext w β) with β := [] } s (fun i => us[i]?) 0 ys ∧
      (ys = [] ∨ ∃ b o, A = some ⟨b, o, none⟩ ∧ ∀ j v, us[j]? = some v → w.cell? ⟨b, o + j, none⟩ = some v) := by
  by_cases hne : ys = []
  · subst hne
    have : ∃ A m, u = .slice A 0 m := by
      cases hs with
      | sl hx => obtain ⟨A, m, es, h1, _⟩ := sl_open hx hr; exact ⟨A, m, h1⟩
      | arr hj =>
        obtain ⟨_, e, he, hg, hu⟩ := hr
        obtain ⟨h1, _, _, hl, h3, h4⟩ := hI.obj _ _ e hj he
        obtain ⟨h5, h6⟩ := hu h1
        cases hb : e.blk with
        | none => rw [hb] at h6; obtain ⟨_, A, rfl⟩ := h6; exact ⟨A, 0, rfl⟩
        | some b => rw [hb] at h6; simp at hl; rw [hl] at h6; exact ⟨_, _, h6⟩
    obtain ⟨A, m, rfl⟩ := this
    exact ⟨A, m, [], rfl, by simp, fun v h => by simp at h, trivial, .inl rfl⟩
  · cases hs with
    | sl hx =>
      obtain ⟨A, m, es, h1, h2, _, hA, hrr⟩ := sl_open hx hr
      have := rows_size hrr hne ho
      subst this
      obtain ⟨b, o, rfl, hb, hsz⟩ := hA hne
      obtain ⟨us, g1, g2, g3, g4⟩ := rows_cells ys 0 hrr ho
      refine ⟨_, m, us, h1, g1, g3, ?_, .inr ⟨b, o, rfl, fun j v hj => ?_⟩⟩
      · have := g4 0
        simpa using this
      · have := g2 j v hj
        simpa [rdA] using this
    | arr hj =>
      obtain ⟨_, e, he, hg, hu⟩ := hr
      obtain ⟨h1, _, hes, hl, h3, h4⟩ := hI.obj _ _ e hj he
      obtain ⟨h5, h6⟩ := hu h1
      cases hb : e.blk with
      | none => rw [hb] at h4; exfalso; exact hne (List.length_eq_zero_iff.1 (by rw [h4] at h3; omega))
      | some b =>
        rw [hb] at h6 h4
        obtain ⟨cs, k1, k2, k3⟩ := h4
        have := rows_size k3 hne ho
        subst this
        obtain ⟨us, g1, g2, g3, g4⟩ := rows_cells ys 0 k3 ho
        refine ⟨_, e.cap, us, by rw [h6, hl], g1, g3, ?_, .inr ⟨b, 0, rfl, fun j v hj => ?_⟩⟩
        · have := g4 0
          simpa using this
        · have := g2 j v hj
          simp only [Nat.zero_mul, Nat.zero_add] at this ⊢
          simpa [World.cell?, k1] using this

def zerosOk (r : TyRow) : Bool := Nat.beq r.z.cells.size r.size

theorem zeroCells_get {z : Array Value} {n : Nat} : (Builtin.zeroCells z n).size = n * z.size := size_zeroCells z n

theorem drew_same (w : World) : SameMem w w.drew := ⟨rfl, rfl, rfl, rfl⟩

/-- a new array that is owned -/
theorem newArr {ext : Nat → Prop} {w w' : World} {H : List AObj} {β : List Ent} (hI : Inv ext w H β) (hext : ∀ b, ext b → b < w.heap.size) (hs : SameMem w w') {e : TypeId} {s cap : Nat} {xs : List AVal} {us : Array Value}
    (hsz : us.size = cap * s) (hcap : xs.length ≤ cap) (hr : RelR { (ctx ext w β) with β := [] } s (fun i => us[i]?) 0 xs) :
    Came ext w β (one (.arr H.length 1) (H ++ [.arr 1 e s xs])) .ret (.slice (some ⟨w.heap.size, 0, none⟩) xs.length cap) (World.push w' (.cells us e)) := by
  have hh := hs.heap
  have hI' := hI.same hs
  have hst0 := hs.step β
  have hst1 : Step w' β (World.push w' (.cells us e)) (β ++ [⟨some w'.heap.size, 1, s, cap, xs.length⟩]) := Step.alloc w' β _ _ (.inl rfl)
  have hst := hst0.trans hst1
  refine ⟨_, _, _, ⟨rfl, rfl⟩, ?_, hI'.alloc (by rw [hh]; exact hext) _ _ _ (.inl rfl) ?_, hst⟩
  · refine ⟨rfl, ⟨some w'.heap.size, 1, s, cap, xs.length⟩, by rw [← hI.len]; simp, Nat.le_refl _, fun _ => ⟨hcap, by rw [hh]⟩⟩
  · exact ⟨rfl, by decide, rfl, rfl, hcap, us, push_top, hsz, hr.le (hst.le (ext := ext)).bare _ _ _ _⟩

theorem relR_rd {c : Ctx} {s : Nat} {rd rd' : Nat → Option Value} {xs : List AVal} (h : RelR c s rd 0 xs) (he : ∀ i, i < xs.length * s → rd' i = rd i) : RelR c s rd' 0 xs := by
  refine RelR.of_get fun i a ha => ?_
  obtain ⟨u, h1, h2, h3⟩ := h.get ha
  refine ⟨u, h1, h2, fun q hq => ?_⟩
  rw [he]
  · exact h3 q hq
  · have : (i + 1) * s ≤ xs.length * s := Nat.mul_le_mul_right _ (List.getElem?_eq_some_iff.1 ha).1
    rw [Nat.add_mul, Nat.one_mul] at this; rw [Nat.zero_add]; omega

theorem elems_append {s : Nat} {xs ys : List AVal} (hx : ElemsOk s xs) (hy : ElemsOk s ys) : ElemsOk s (xs ++ ys) := fun y h => by
  rcases List.mem_append.1 h with h | h
  · exact hx y h
  · exact hy y h
theorem elems_take {s : Nat} {xs : List AVal} (n : Nat) (hx : ElemsOk s xs) : ElemsOk s (xs.take n) := fun y h => hx y (List.mem_of_mem_take h)
theorem elems_drop {s : Nat} {xs : List AVal} (n : Nat) (hx : ElemsOk s xs) : ElemsOk s (xs.drop n) := fun y h => hx y (List.mem_of_mem_drop h)
theorem elems_nil {s : Nat} : ElemsOk s [] := fun y h => by simp at h

/-- the source of an append, for the kit's laws -/
theorem src_kit [T : TyTab P] {w : World} {s : Nat} {tx : TypeId} {ex : TypeId} {rx : TyRow} (ht : tfind T.tab tx = some rx) (hd : rx.d = .slice ex) {A : Option Addr} {n m : Nat} {us : List Value}
    (hl : us.length = n * s) (h1 : ∀ v ∈ us, v.oneCell' = true) (hc : n = 0 ∨ ∃ b o, A = some ⟨b, o, none⟩ ∧ ∀ j v, us[j]? = some v → w.cell? ⟨b, o + j, none⟩ = some v) :
    Src P s tx (.slice A n m) n us w := by
  have hk : P.underlying tx = some (.slice ex) := by rw [ty_und ht, hd]
  have hz : n = 0 → us = [] := fun h => List.length_eq_zero_iff.1 (by rw [hl, h, Nat.zero_mul])
  have key : ∀ w' : World, w'.heap = w.heap → (Builtin.firstCells s n (.slice A n m)).run P w' = .ok us.toArray w' := by
    intro w' hw
    rcases hc with h | ⟨b, o, rfl, h⟩
    · have hu := hz h
      subst h; subst hu
      cases A with
      | none => rfl
      | some a => simp [Builtin.firstCells, loadCells, loadCellsFrom]
    · refine run_firstCells_some w' s n _ n m us hl fun j v hj => ?_
      rw [addr_add]
      have := h j v hj
      simpa [World.cell?, hw] using this
  exact ⟨.inl ⟨ex, hk⟩, fun _ => rfl, key w rfl, key w.drew rfl, hl, h1⟩

/-- append to what is full: a new array -/
theorem append_new [T : TyTab P] {dst : Option Tmp} {t tx : TypeId} {x y : Operand} {type : TypeId} {pos : String} {after : Array Edge} {guard : Option (Nat × Bool)} {F : Fr} {H : List AObj} {xs ys : List AVal} {b : AVal} {e ex : TypeId} {r r' rx : TyRow}
    (hx : ev F x = some (.slf xs)) (hy : ev F y = some b) (hb : SrcOf H b ys) (ht : tfind T.tab t = some r') (hd : r'.d = .slice e) (he : tfind T.tab e = some r) (htx : tfind T.tab tx = some rx) (hdx : rx.d = .slice ex)
    (ho : ElemsOk r.size xs) (hoy : ElemsOk r.size ys) (hz : zerosOk r = true) (hne : ys ≠ []) (h47 : (xs.length + ys.length) * r.bytes ≤ 140737488355328) (h63 : xs.length + ys.length ≤ 9223372036854775807) :
    DSem P .x ⟨dst, .call { callee := .builtin .append, args := #[x, y], argTypes := #[t, tx] }, type, pos, after, guard⟩ F H (.arr H.length 1) (H ++ [.arr 1 e r.size (xs ++ ys)]) := by
  refine ⟨fun j t cs hj => by rw [List.getElem?_append_left (List.getElem?_eq_some_iff.1 hj).1]; exact hj, ?_⟩
  intro ext w β ρ hI hext hκ hρ
  obtain ⟨A, es, hu, hA, hr⟩ := hρ x (by simp [Op.operands, Call.operands]) _ hx
  have hr0 : Rel (ctx ext w β) (.slf xs) (ρ x) := ⟨A, es, hu, hA, hr⟩
  obtain ⟨A1, m1, us, u1, u2, u3, u4, u5⟩ := src_cells hI (.sl rfl : SrcOf H (.slf xs) xs) ho hr0
  rw [hu] at u1
  injection u1 with ha1 ha2 ha3
  subst ha1
  obtain ⟨B, m, vs, v1, v2, v3, v4, v5⟩ := src_cells hI hb hoy (hρ y (by simp [Op.operands, Call.operands]) _ hy)
  obtain ⟨i, i1, i2, i3, i4⟩ := ty_info he
  have hlen : 0 < ys.length := by cases ys with | nil => exact absurd rfl hne | cons => simp
  have hsrc : Src P i.size tx (.slice B ys.length m) ys.length vs w := by
    rw [i3]
    refine src_kit htx hdx v2 v3 ?_
    rcases v5 with h | h
    · exact .inl (by rw [h]; rfl)
    · exact .inr h
  have hold : (Builtin.firstCells i.size xs.length (.slice A xs.length xs.length)).run P w.drew = .ok us.toArray w.drew := by
    have := (src_kit (P := P) (w := w) (s := r.size) ht hd (A := A) (n := xs.length) (m := xs.length) u2 u3 (by
      rcases u5 with h | h
      · exact .inl (by rw [h]; rfl)
      · exact .inr h)).cellsD
    rw [i3]; exact this
  have hg := run_append_grow_src (P := P) w t tx type e i r.z (by rw [ty_und ht, hd]) i1 i2 A xs.length xs.length us hold _ ys.length vs hsrc (by omega) (by omega)
    (growslice_fits (by omega) (by rw [i4]; exact h47))
  generalize hcap : grownCap w (xs.length + ys.length) xs.length e = cap at hg
  have hcap2 : xs.length + ys.length ≤ cap := by rw [← hcap]; simp only [grownCap, Question.cut]; omega
  have h4 : (execOp ρ ⟨dst, .call { callee := .builtin .append, args := #[x, y], argTypes := #[t, tx] }, type, pos, after, guard⟩).run P w =
      .ok (.value (.slice (some ⟨w.heap.size, 0, none⟩) (xs ++ ys).length cap)) (World.push w.drew (.cells ((us ++ vs).toArray ++ Builtin.zeroCells r.z.cells (cap - (xs.length + ys.length))) e)) := by
    simp only [execOp, resolve, invoke, builtin, Sem.run_bind, Sem.run_pure, Result.andThen_ok, List.map_toArray, List.map_cons, List.map_nil, hu, v1, hg, List.length_append]
    rfl
  rw [h4]
  have hz' := Nat.eq_of_beq_eq_true hz
  have hlen2 : (us ++ vs).length = (xs.length + ys.length) * r.size := by rw [List.length_append, u2, v2, Nat.add_mul]
  refine newArr hI hext (drew_same w) ?_ (by simpa using hcap2) ?_
  · simp only [Array.size_append, List.size_toArray, size_zeroCells, hlen2, hz']
    rw [← Nat.add_mul]; congr 1; omega
  · refine rows_append u4 v4 u2 fun i hi => ?_
    rw [Array.getElem?_append_left (by simpa [hlen2] using hi)]
    simp

/-- append of nothing to what is full -/
theorem append_nil [T : TyTab P] {dst : Option Tmp} {t tx : TypeId} {x y : Operand} {type : TypeId} {pos : String} {after : Array Edge} {guard : Option (Nat × Bool)} {F : Fr} {H : List AObj} {xs : List AVal} {b : AVal} {e ex : TypeId} {r r' rx : TyRow}
    (hx : ev F x = some (.slf xs)) (hy : ev F y = some b) (hb : SrcOf H b []) (ht : tfind T.tab t = some r') (hd : r'.d = .slice e) (he : tfind T.tab e = some r) (htx : tfind T.tab tx = some rx) (hdx : rx.d = .slice ex) :
    OpSem P ⟨dst, .call { callee := .builtin .append, args := #[x, y], argTypes := #[t, tx] }, type, pos, after, guard⟩ F H (one (.slf xs) H) := by
  intro ext w β ρ hI hext hκ hρ
  have hr0 := hρ x (by simp [Op.operands, Call.operands]) _ hx
  obtain ⟨A, es, hu, hA, hr⟩ := id hr0
  obtain ⟨B, m, vs, v1, v2, v3, v4, v5⟩ := src_cells (s := r.size) hI hb elems_nil (hρ y (by simp [Op.operands, Call.operands]) _ hy)
  obtain ⟨i, i1, i2, i3, i4⟩ := ty_info he
  have hvs : vs = [] := List.length_eq_zero_iff.1 (by simpa using v2)
  subst hvs
  have hk : P.underlying tx = some (.slice ex) := by rw [ty_und htx, hdx]
  have hf : (Builtin.firstCells r.size 0 (.slice B 0 m)).run P w = .ok #[] w := by
    cases B with
    | none => rfl
    | some a => simp [Builtin.firstCells, loadCells, loadCellsFrom]
  have h4 : (execOp ρ ⟨dst, .call { callee := .builtin .append, args := #[x, y], argTypes := #[t, tx] }, type, pos, after, guard⟩).run P w = .ok (.value (.slice A xs.length xs.length)) w := by
    have hu' : P.underlying t = some (.slice e) := by rw [ty_und ht, hd]
    simp only [execOp, resolve, invoke, builtin, Sem.run_bind, Sem.run_pure, Result.andThen_ok, List.map_toArray, List.map_cons, List.map_nil, hu, v1]
    cases A <;> simp [Builtin.append_, run_underlying hu', run_underlying hk, sizeOf, typeInfo, i1, i3, Builtin.lenOf, hf, storeCells]
  rw [h4]
  exact came_same hI (by rw [← hu]; exact hr0)

/-- append to what is owned -/
theorem append_own [T : TyTab P] {dst : Option Tmp} {t tx : TypeId} {x y : Operand} {type : TypeId} {pos : String} {after : Array Edge} {guard : Option (Nat × Bool)} {F : Fr} {H : List AObj} {j g : Nat} {xs ys : List AVal} {b : AVal} {e ex : TypeId} {r r' rx : TyRow}
    (hx : ev F x = some (.arr j g)) (hj : H[j]? = some (.arr g e r.size xs)) (hy : ev F y = some b) (hb : SrcOf H b ys) (ht : tfind T.tab t = some r') (hd : r'.d = .slice e) (he : tfind T.tab e = some r) (htx : tfind T.tab tx = some rx) (hdx : rx.d = .slice ex)
    (ho : ElemsOk r.size xs) (hoy : ElemsOk r.size ys) (hz : zerosOk r = true) (h47 : (xs.length + ys.length) * r.bytes ≤ 140737488355328) (h63 : xs.length + ys.length ≤ 9223372036854775807) :
    DSem P .x ⟨dst, .call { callee := .builtin .append, args := #[x, y], argTypes := #[t, tx] }, type, pos, after, guard⟩ F H (.arr j (g + 1)) (H.set j (.arr (g + 1) e r.size (xs ++ ys))) := by
  refine ⟨fun i t cs hi => ?_, ?_⟩
  · by_cases hij : i = j
    · subst hij; rw [hj] at hi; cases hi
    · rw [List.getElem?_set_ne (by omega)]; exact hi
  intro ext w β ρ hI hext hκ hρ
  have hr0 := hρ x (by simp [Op.operands, Call.operands]) _ hx
  obtain ⟨A1, m1, us, u1, u2, u3, u4, u5⟩ := src_cells hI (.arr hj) ho hr0
  obtain ⟨_, ent, hent, _, hcond⟩ := id hr0
  obtain ⟨k1, k0, k2, k3, k4, k5⟩ := hI.obj _ _ ent hj hent
  obtain ⟨c1, c2⟩ := hcond k1
  obtain ⟨B, m, vs, v1, v2, v3, v4, v5⟩ := src_cells hI hb hoy (hρ y (by simp [Op.operands, Call.operands]) _ hy)
  obtain ⟨i, i1, i2, i3, i4⟩ := ty_info he
  have hu' : P.underlying t = some (.slice e) := by rw [ty_und ht, hd]
  have hk : P.underlying tx = some (.slice ex) := by rw [ty_und htx, hdx]
  have hz' := Nat.eq_of_beq_eq_true hz
  have hlen2 : (us ++ vs).length = (xs.length + ys.length) * r.size := by rw [List.length_append, u2, v2, Nat.add_mul]
  have hsrc : Src P i.size tx (.slice B ys.length m) ys.length vs w := by
    rw [i3]
    refine src_kit htx hdx v2 v3 ?_
    rcases v5 with h | h
    · exact .inl (by rw [h]; rfl)
    · exact .inr h
  have hgen0 : ent.gen ≠ 0 := by omega
  -- the new entry, wherever it lies
  have fin : ∀ (w1 : World) (bo : Option Nat) (cap : Nat) (A : Option Addr), Step w β w1 (β.set j ⟨bo, g + 1, r.size, cap, (xs ++ ys).length⟩) →
      (∀ c, c < w.heap.size → ent.blk ≠ some c → w1.heap[c]? = w.heap[c]?) →
      ((bo = some w.heap.size ∧ w.heap.size < w1.heap.size) ∨ bo = none ∨ bo = ent.blk) → (xs ++ ys).length ≤ cap →
      (match bo with | none => (xs ++ ys).length = 0 ∧ cap = 0 | some b => A = some ⟨b, 0, none⟩ ∧ ∃ cs, w1.heap[b]? = some (.cells cs e (0, 0)) ∧ cs.size = cap * r.size ∧ RelR { (ctx ext w β) with β := [] } r.size (fun i => cs[i]?) 0 (xs ++ ys)) →
      Came ext w β (one (.arr j (g + 1)) (H.set j (.arr (g + 1) e r.size (xs ++ ys)))) .ret (.slice A (xs ++ ys).length cap) w1 := by
    intro w1 bo cap A hst hk' hbo hcap hm
    have hjlt := (List.getElem?_eq_some_iff.1 hent).1
    refine ⟨_, _, _, ⟨rfl, rfl⟩, ?_, hI.set hext hent hst hk' hbo ?_, hst⟩
    · refine ⟨rfl, ⟨bo, g + 1, r.size, cap, (xs ++ ys).length⟩, by rw [List.getElem?_set_self hjlt], Nat.le_refl _, fun _ => ⟨hcap, ?_⟩⟩
      cases bo with
      | none => obtain ⟨h1, h2⟩ := hm; subst h2; exact ⟨h1, A, by rw [h1]⟩
      | some b => obtain ⟨h1, _⟩ := hm; rw [h1]
    · refine ⟨rfl, by omega, rfl, rfl, hcap, ?_⟩
      cases bo with
      | none => exact hm.2
      | some b => obtain ⟨h1, cs, h2, h3, h4⟩ := hm; exact ⟨cs, h2, h3, h4.le (hst.le (ext := ext)).bare _ _ _ _⟩
  have grow : ∀ (A : Option Addr) (cap0 : Nat), ρ x = .slice A xs.length cap0 → cap0 < xs.length + ys.length →
      Upon P ext w β (one (.arr j (g + 1)) (H.set j (.arr (g + 1) e r.size (xs ++ ys)))) ((execOp ρ ⟨dst, .call { callee := .builtin .append, args := #[x, y], argTypes := #[t, tx] }, type, pos, after, guard⟩).run P w) := by
    intro A cap0 hu hlt
    have hAA : A1 = A ∧ m1 = cap0 := by rw [hu] at u1; injection u1 with e1 e2 e3; exact ⟨e1.symm, e3.symm⟩
    obtain ⟨rfl, rfl⟩ := hAA
    have hold : (Builtin.firstCells i.size xs.length (.slice A1 xs.length m1)).run P w.drew = .ok us.toArray w.drew := by
      have := (src_kit (P := P) (w := w) (s := r.size) ht hd (A := A1) (n := xs.length) (m := m1) u2 u3 (by
        rcases u5 with h | h
        · exact .inl (by rw [h]; rfl)
        · exact .inr h)).cellsD
      rw [i3]; exact this
    have hg := run_append_grow_src (P := P) w t tx type e i r.z hu' i1 i2 A1 xs.length m1 us hold _ ys.length vs hsrc (by omega) (by omega)
      (growslice_fits (by omega) (by rw [i4]; exact h47))
    generalize hcap : grownCap w (xs.length + ys.length) m1 e = cap at hg
    have hcap2 : xs.length + ys.length ≤ cap := by rw [← hcap]; simp only [grownCap, Question.cut]; omega
    have h4 : (execOp ρ ⟨dst, .call { callee := .builtin .append, args := #[x, y], argTypes := #[t, tx] }, type, pos, after, guard⟩).run P w =
        .ok (.value (.slice (some ⟨w.heap.size, 0, none⟩) (xs ++ ys).length cap)) (World.push w.drew (.cells ((us ++ vs).toArray ++ Builtin.zeroCells r.z.cells (cap - (xs.length + ys.length))) e)) := by
      simp only [execOp, resolve, invoke, builtin, Sem.run_bind, Sem.run_pure, Result.andThen_ok, List.map_toArray, List.map_cons, List.map_nil, hu, v1, hg, List.length_append]
      rfl
    rw [h4]
    refine fin _ (some w.heap.size) cap _ ?_ ?_ (.inl ⟨rfl, ?_⟩) (by simpa using hcap2) ⟨rfl, _, push_top, ?_, ?_⟩
    · exact ((drew_same w).step β).trans (Step.move (w := w.drew) _ hent hgen0 (by simp only; omega) (.inl rfl))
    · intro c hc _; exact push_get (w := w.drew) hc
    · rw [push_size]; show w.heap.size < w.heap.size + 1; omega
    · simp only [Array.size_append, List.size_toArray, size_zeroCells, hlen2, hz']
      rw [← Nat.add_mul]; congr 1; omega
    · refine rows_append u4 v4 u2 fun i hi => ?_
      rw [Array.getElem?_append_left (by simpa [hlen2] using hi)]
      simp
  cases hb' : ent.blk with
  | none =>
    rw [hb'] at c2 k5
    obtain ⟨c3, A, hu⟩ := c2
    have hxs : xs = [] := List.length_eq_zero_iff.1 (by omega)
    subst hxs
    by_cases hys : ys = []
    · subst hys
      have hvs : vs = [] := List.length_eq_zero_iff.1 (by simpa using v2)
      subst hvs
      have hf : (Builtin.firstCells r.size 0 (.slice B 0 m)).run P w = .ok #[] w := by
        cases B with
        | none => rfl
        | some a => simp [Builtin.firstCells, loadCells, loadCellsFrom]
      have h4 : (execOp ρ ⟨dst, .call { callee := .builtin .append, args := #[x, y], argTypes := #[t, tx] }, type, pos, after, guard⟩).run P w = .ok (.value (.slice A 0 0)) w := by
        simp only [execOp, resolve, invoke, builtin, Sem.run_bind, Sem.run_pure, Result.andThen_ok, List.map_toArray, List.map_cons, List.map_nil, hu, v1]
        cases A <;> simp [Builtin.append_, run_underlying hu', run_underlying hk, sizeOf, typeInfo, i1, i3, Builtin.lenOf, hf, storeCells]
      rw [h4]
      exact fin w none 0 A (Step.regen hent hgen0 (by simp only; omega) (.inl rfl)) (fun _ _ _ => rfl) (.inr (.inl rfl)) (Nat.le_refl _) ⟨rfl, rfl⟩
    · have : 0 < ys.length := by cases ys with | nil => exact absurd rfl hys | cons => simp
      exact grow A 0 hu (by simpa using this)
  | some bk =>
    rw [hb'] at c2 k5
    rw [k3] at c2
    obtain ⟨cs, w1, w2, w3⟩ := k5
    by_cases hroom : xs.length + ys.length ≤ ent.cap
    · have hmul : (xs.length + ys.length) * r.size ≤ ent.cap * r.size := Nat.mul_le_mul_right _ hroom
      have hst := run_storeCells_at P bk (xs.length * r.size) e vs 0 cs w w1 (by rw [v2, w2]; rw [Nat.add_mul] at hmul; omega) v3
      simp only [Nat.add_zero] at hst
      generalize hcs : (cs.toList.take (xs.length * r.size) ++ vs ++ cs.toList.drop (xs.length * r.size + vs.length)).toArray = cs' at hst
      have h4 : (execOp ρ ⟨dst, .call { callee := .builtin .append, args := #[x, y], argTypes := #[t, tx] }, type, pos, after, guard⟩).run P w =
          .ok (.value (.slice (some ⟨bk, 0, none⟩) (xs ++ ys).length ent.cap)) (w.setRow bk cs') := by
        simp only [execOp, resolve, invoke, builtin, Sem.run_bind, Sem.run_pure, Result.andThen_ok, List.map_toArray, List.map_cons, List.map_nil, c2, v1]
        simp only [Builtin.append_, run_underlying hu', run_underlying hk, sizeOf, typeInfo, i1, i3, hroom]
        have hc0 := hsrc.cells
        rw [i3] at hc0
        simp [run_underlying hu', run_underlying hk, i1, i3, Builtin.lenOf, hroom, hc0, addr_add, hst]
      rw [h4]
      refine fin _ (some bk) ent.cap _ ?_ ?_ (.inr (.inr hb'.symm)) (by simpa using hroom) ⟨rfl, cs', setRow_get w1, ?_, ?_⟩
      · have s1 : Step w β (w.setRow bk cs') β := Step.write ⟨j, ent, hent, hb'⟩ (by simp) (fun c hc => setRow_other w bk c cs' hc) rfl rfl rfl
        exact s1.trans (Step.regen hent hgen0 (by simp only; omega) (.inr hb'.symm))
      · intro c _ hne; exact setRow_other w bk c cs' (fun h => hne (by rw [h]; exact hb'))
      · rw [← hcs]
        simp only [List.size_toArray, List.length_append, List.length_take, List.length_drop, Array.length_toList, v2, w2]
        rw [Nat.add_mul] at hmul
        omega
      · refine rows_append (us := cs.toList.take (xs.length * r.size)) (vs := vs) (relR_rd w3 fun i hi => ?_) v4 ?_ fun i hi => ?_
        · show (cs.toList.take _)[i]? = _
          rw [List.getElem?_take, if_pos hi]; simp
        · have hcl : cs.toList.length = ent.cap * r.size := by simpa using w2
          rw [List.length_take, hcl]
          have : xs.length * r.size ≤ ent.cap * r.size := Nat.mul_le_mul_right _ (by omega)
          omega
        · show cs'[i]? = _
          rw [← hcs]
          simp only [List.getElem?_toArray]
          rw [List.getElem?_append_left]
          simp only [List.length_append, List.length_take, Array.length_toList, v2, w2]
          have : xs.length * r.size ≤ ent.cap * r.size := Nat.mul_le_mul_right _ (by omega)
          rw [Nat.add_mul] at hi
          omega
    · exact grow _ _ c2 (by omega)
end
end Go.AL
