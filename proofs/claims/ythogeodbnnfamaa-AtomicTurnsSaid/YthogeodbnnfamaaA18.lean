/-
  Rows: owned arrays of which the whole room is seen; parts of these; copying, appending where there is room, clearing. No conditions.
-/
import Derived.Test.YthogeodbnnfamaaA17
set_option linter.unusedVariables false
set_option linter.unusedSimpArgs false
namespace Go.AL
open Go

section
variable {P : Program}

theorem mul_lt_of {i n s q : Nat} (h : i < n) (hq : q < s) : i * s + q < n * s := by
  have : (i + 1) * s ≤ n * s := Nat.mul_le_mul_right _ h
  rw [Nat.add_mul, Nat.one_mul] at this; omega

/-- rows that are laid over others -/
theorem rows_splice {c : Ctx} {s o : Nat} {xs ys : List AVal} {us vs us' : List Value} (hx : RelR c s (fun i => us[i]?) 0 xs) (hy : RelR c s (fun i => vs[i]?) 0 ys) (hl : xs.length * s ≤ us.length) (hv : vs.length = ys.length * s)
    (ho : o + ys.length ≤ xs.length) (hu : us' = us.take (o * s) ++ vs ++ us.drop (o * s + vs.length)) : RelR c s (fun i => us'[i]?) 0 (xs.take o ++ ys ++ xs.drop (o + ys.length)) := by
  have hm : o * s + ys.length * s ≤ us.length := by rw [← Nat.add_mul]; exact Nat.le_trans (Nat.mul_le_mul_right _ ho) hl
  have hl1 : (us.take (o * s)).length = o * s := by rw [List.length_take]; omega
  have hget : ∀ i, us'[i]? = if i < o * s then us[i]? else if i < o * s + ys.length * s then vs[i - o * s]? else us[i]? := fun i => by
    rw [hu]
    by_cases h1 : i < o * s
    · rw [if_pos h1, List.append_assoc, List.getElem?_append_left (by omega), List.getElem?_take, if_pos h1]
    · rw [if_neg h1]
      by_cases h2 : i < o * s + ys.length * s
      · rw [if_pos h2, List.append_assoc, List.getElem?_append_right (by omega), hl1, List.getElem?_append_left (by omega)]
      · rw [if_neg h2, List.getElem?_append_right (by rw [List.length_append]; omega), List.getElem?_drop, List.length_append, hl1]
        congr 1; omega
  have hlt : (xs.take o).length = o := by rw [List.length_take]; omega
  refine RelR.of_get fun i a ha => ?_
  simp only [Nat.zero_add]
  by_cases h1 : i < o
  · rw [List.append_assoc, List.getElem?_append_left (by omega), List.getElem?_take, if_pos h1] at ha
    obtain ⟨u, u1, u2, u3⟩ := hx.get ha
    refine ⟨u, u1, u2, fun q hq => ?_⟩
    have := mul_lt_of h1 hq
    rw [hget, if_pos this]
    simpa using u3 q hq
  · by_cases h2 : i < o + ys.length
    · rw [List.append_assoc, List.getElem?_append_right (by omega), hlt, List.getElem?_append_left (by omega)] at ha
      obtain ⟨u, u1, u2, u3⟩ := hy.get ha
      refine ⟨u, u1, u2, fun q hq => ?_⟩
      have e1 : (i - o) * s + q < ys.length * s := mul_lt_of (by omega) hq
      have e2 : i * s = o * s + (i - o) * s := by rw [← Nat.add_mul]; congr 1; omega
      rw [hget, if_neg (by omega), if_pos (by omega)]
      have := u3 q hq
      simp only [Nat.zero_add] at this
      rw [← this]; congr 1; omega
    · rw [List.getElem?_append_right (by rw [List.length_append]; omega), List.length_append, hlt, List.getElem?_drop] at ha
      rw [show o + ys.length + (i - (o + ys.length)) = i by omega] at ha
      obtain ⟨u, u1, u2, u3⟩ := hx.get ha
      refine ⟨u, u1, u2, fun q hq => ?_⟩
      have e2 : o * s + ys.length * s ≤ i * s := by rw [← Nat.add_mul]; exact Nat.mul_le_mul_right _ (by omega)
      rw [hget, if_neg (by omega), if_neg (by omega)]
      simpa using u3 q hq

/-- a part of rows -/
theorem rows_part {c : Ctx} {s o n : Nat} {xs : List AVal} {us : List Value} (hx : RelR c s (fun i => us[i]?) 0 xs) : RelR c s (fun i => us[o * s + i]?) 0 ((xs.drop o).take n) := by
  refine RelR.of_get fun i a ha => ?_
  simp only [Nat.zero_add]
  have hi : i < n := by
    have := (List.getElem?_eq_some_iff.1 ha).1
    rw [List.length_take] at this; omega
  rw [List.getElem?_take, if_pos hi, List.getElem?_drop] at ha
  obtain ⟨u, u1, u2, u3⟩ := hx.get ha
  refine ⟨u, u1, u2, fun q hq => ?_⟩
  have := u3 q hq
  simp only [Nat.zero_add] at this
  rw [← this]
  congr 1
  rw [Nat.add_mul]; omega

theorem rows_take {c : Ctx} {s n : Nat} {xs : List AVal} {rd : Nat → Option Value} (hx : RelR c s rd 0 xs) : RelR c s rd 0 (xs.take n) := by
  refine RelR.of_get fun i a ha => ?_
  have hi : i < n := by
    have := (List.getElem?_eq_some_iff.1 ha).1
    rw [List.length_take] at this; omega
  rw [List.getElem?_take, if_pos hi] at ha
  exact hx.get ha

theorem hd_open {ext : Nat → Prop} {w : World} {H : List AObj} {β : List Ent} (hI : Inv ext w H β) {j g off len : Nat} {t : TypeId} {es : Nat} {xs : List AVal} (hj : H[j]? = some (.row g t es xs)) {u : Value} (hr : Rel (ctx ext w β) (.hd j g off len) u) :
    ∃ ent b us o m, β[j]? = some ent ∧ ent.gen = g ∧ g ≠ 0 ∧ ent.es = es ∧ ent.len = xs.length ∧ ent.cap = xs.length ∧ ent.blk = some b ∧ u = .slice (some ⟨b, o, none⟩) len m ∧ off + len ≤ xs.length ∧
      (len ≠ 0 ∨ off = 0 → o = off * es ∧ m = xs.length - off) ∧ w.heap[b]? = some (.cells us t (0, 0)) ∧ us.size = xs.length * es ∧ RelR { (ctx ext w β) with β := [] } es (fun i => us[i]?) 0 xs := by
  obtain ⟨_, ent, hent, _, hcond⟩ := hr
  obtain ⟨k1, k0, k2, k3, k4, b, us, k5, k6, k7, k8⟩ := hI.obj _ _ ent hj hent
  obtain ⟨b', o, m, c1, c2, c3, c4⟩ := hcond k1
  rw [k5] at c1; injection c1 with c1; subst c1
  rw [k4] at c2 c4 k7
  rw [k2] at c4
  exact ⟨ent, b, us, o, m, hent, k1, k0, k2, k3, k4, k5, c3, c2, c4, k6, k7, k8⟩

/-- rows as a source of cells -/
def SrcK (H : List AObj) (s k : Nat) (a : AVal) (zs : List AVal) (n : Nat) : Prop :=
  zs.length = k ∧ k ≤ n ∧ ∀ (ext : Nat → Prop) (w : World) (β : List Ent) (u : Value), Inv ext w H β → Rel (ctx ext w β) a u →
    ∃ (A : Option Addr) (m : Nat) (us : List Value), u = .slice A n m ∧ us.length = k * s ∧ (∀ v ∈ us, v.oneCell' = true) ∧ RelR { (ctx ext w β) with β := [] } s (fun i => us[i]?) 0 zs ∧
      (k = 0 ∨ ∃ b o, A = some ⟨b, o, none⟩ ∧ ∀ j v, us[j]? = some v → w.cell? ⟨b, o + j, none⟩ = some v)

theorem SrcK.of {H : List AObj} {s k : Nat} {a : AVal} {ys : List AVal} (h : SrcOf H a ys) (ho : ElemsOk s ys) (hk : k ≤ ys.length) : SrcK H s k a (ys.take k) ys.length := by
  refine ⟨by rw [List.length_take]; omega, hk, fun ext w β u hI hr => ?_⟩
  obtain ⟨A, m, us, u1, u2, u3, u4, u5⟩ := src_cells hI h ho hr
  have hmul : k * s ≤ us.length := by rw [u2]; exact Nat.mul_le_mul_right _ hk
  refine ⟨A, m, us.take (k * s), u1, by rw [List.length_take]; omega, fun v hv => u3 v (List.mem_of_mem_take hv), ?_, ?_⟩
  · refine relR_rd (rows_take u4) fun i hi => ?_
    rw [List.length_take, Nat.min_eq_left hk] at hi
    rw [List.getElem?_take, if_pos hi]
  · rcases u5 with h | ⟨b, o, h1, h2⟩
    · subst h; left; simpa using hk
    · refine .inr ⟨b, o, h1, fun j v hv => h2 j v ?_⟩
      by_cases hj : j < k * s
      · rwa [List.getElem?_take, if_pos hj] at hv
      · rw [List.getElem?_take, if_neg hj] at hv; cases hv

theorem SrcK.hd {H : List AObj} {s k j g off len : Nat} {t : TypeId} {xs : List AVal} (hj : H[j]? = some (.row g t s xs)) (hk : k ≤ len) (hle : off + len ≤ xs.length) (ho : ElemsOk s ((xs.drop off).take k)) : SrcK H s k (.hd j g off len) ((xs.drop off).take k) len := by
  have hlen : ((xs.drop off).take k).length = k := by rw [List.length_take, List.length_drop]; omega
  refine ⟨hlen, hk, fun ext w β u hI hr => ?_⟩
  obtain ⟨ent, b, us, o, m, e1, e2, e3, e4, e5, e6, e7, e8, e9, e10, e11, e12, e13⟩ := hd_open hI hj hr
  have hr2 : RelR { (ctx ext w β) with β := [] } s (fun i => us[off * s + i]?) 0 ((xs.drop off).take k) := by
    have := rows_part (o := off) (n := k) (us := us.toList) (by simpa using e13)
    simpa using this
  obtain ⟨zs, z1, z2, z3, z4⟩ := rows_cells _ 0 hr2 ho
  refine ⟨_, m, zs, e8, by rw [z1, hlen], z3, by simpa using z4 0, ?_⟩
  by_cases hk0 : k = 0
  · exact .inl hk0
  · obtain ⟨f1, f2⟩ := e10 (.inl (by omega))
    refine .inr ⟨b, o, rfl, fun i v hv => ?_⟩
    have := z2 i v hv
    simp only [Nat.zero_mul, Nat.zero_add] at this
    subst f1
    simpa [World.cell?, e11] using this

theorem SrcK.cells {w : World} {s k n m : Nat} {A : Option Addr} {us : List Value} (hl : us.length = k * s) (hc : k = 0 ∨ ∃ b o, A = some ⟨b, o, none⟩ ∧ ∀ j v, us[j]? = some v → w.cell? ⟨b, o + j, none⟩ = some v) :
    ∀ w' : World, w'.heap = w.heap → (Builtin.firstCells s k (.slice A n m)).run P w' = .ok us.toArray w' := by
  intro w' hw
  rcases hc with h | ⟨b, o, rfl, h⟩
  · subst h
    have hu : us = [] := List.length_eq_zero_iff.1 (by rw [hl, Nat.zero_mul])
    subst hu
    cases A with
    | none => rfl
    | some a => simp [Builtin.firstCells, loadCells, loadCellsFrom]
  · refine run_firstCells_some w' s k _ n m us hl fun j v hj => ?_
    rw [addr_add]
    have := h j v hj
    simpa [World.cell?, hw] using this

/-- the cells of a row are written over, from an element on -/
theorem row_write {ext : Nat → Prop} {w : World} {H : List AObj} {β : List Ent} (hI : Inv ext w H β) {j g es b o : Nat} {t : TypeId} {xs zs : List AVal} {ent : Ent} {us : Array Value} {vs : List Value} (hj : H[j]? = some (.row g t es xs))
    (e1 : β[j]? = some ent) (e2 : ent.gen = g) (e3 : g ≠ 0) (e4 : ent.es = es) (e5 : ent.len = xs.length) (e6 : ent.cap = xs.length) (e7 : ent.blk = some b) (e11 : w.heap[b]? = some (.cells us t (0, 0))) (e12 : us.size = xs.length * es)
    (e13 : RelR { (ctx ext w β) with β := [] } es (fun i => us[i]?) 0 xs) (hz : RelR { (ctx ext w β) with β := [] } es (fun i => vs[i]?) 0 zs) (hv : vs.length = zs.length * es) (h1 : ∀ v ∈ vs, v.oneCell' = true) (ho : o + zs.length ≤ xs.length) :
    ∃ w', (storeCells ⟨b, o * es, none⟩ vs 0).run P w = .ok () w' ∧ Inv ext w' (H.set j (.row g t es (xs.take o ++ zs ++ xs.drop (o + zs.length)))) β ∧ Step w β w' β := by
  have hm : o * es + zs.length * es ≤ us.size := by rw [e12, ← Nat.add_mul]; exact Nat.mul_le_mul_right _ ho
  have hst := run_storeCells_at P b (o * es) t vs 0 us w e11 (by rw [hv]; simpa using hm) h1
  simp only [Nat.add_zero] at hst
  refine ⟨_, hst, ?_, Step.write ⟨j, ent, e1, e7⟩ (by simp) (fun c hc => setRow_other w b c _ hc) rfl rfl rfl⟩
  have hstep : Step w β (w.setRow b (us.toList.take (o * es) ++ vs ++ us.toList.drop (o * es + vs.length)).toArray) β := Step.write ⟨j, ent, e1, e7⟩ (by simp) (fun c hc => setRow_other w b c _ hc) rfl rfl rfl
  have hxl : (xs.take o ++ zs ++ xs.drop (o + zs.length)).length = xs.length := by
    simp only [List.length_append, List.length_take, List.length_drop]; omega
  refine hI.write e1 e7 (by simp) (fun c hc => setRow_other w b c _ hc) rfl rfl rfl ⟨e2, e3, e4, by rw [hxl]; exact e5, by rw [hxl]; exact e6, b, _, e7, setRow_get e11, ?_, ?_⟩
  · rw [e6]
    simp only [List.size_toArray, List.length_append, List.length_take, List.length_drop, Array.length_toList]
    omega
  · have := rows_splice (us := us.toList) (us' := us.toList.take (o * es) ++ vs ++ us.toList.drop (o * es + vs.length)) (by simpa using e13) hz (by rw [← e12]; simp) hv ho rfl
    refine RelR.le (hstep.le (ext := ext)).bare _ _ _ _ ?_
    simpa using this

/-- copy into a part of a row -/
theorem copy_row [T : TyTab P] {dst : Option Tmp} {t tx : TypeId} {x y : Operand} {type : TypeId} {pos : String} {after : Array Edge} {guard : Option (Nat × Bool)} {F : Fr} {H : List AObj} {j g off len n k : Nat} {xs zs : List AVal} {b : AVal} {e : TypeId} {r r' : TyRow}
    (hx : ev F x = some (.hd j g off len)) (hj : H[j]? = some (.row g e r.size xs)) (hy : ev F y = some b) (hs : SrcK H r.size k b zs n) (ht : tfind T.tab t = some r') (hd : r'.d = .slice e) (he : tfind T.tab e = some r)
    (hk : k = min n len) (hl : len ≠ 0) :
    DSem P .x ⟨dst, .call { callee := .builtin .copy, args := #[x, y], argTypes := #[t, tx] }, type, pos, after, guard⟩ F H (.v (.int .i64 k)) (H.set j (.row g e r.size (xs.take off ++ zs ++ xs.drop (off + k)))) := by
  refine ⟨fun i t cs hi => ?_, ?_⟩
  · by_cases hij : i = j
    · subst hij; rw [hj] at hi; cases hi
    · rw [List.getElem?_set_ne (by omega)]; exact hi
  intro ext w β ρ hI hext hκ hρ
  obtain ⟨ent, b0, us, o, m, e1, e2, e3, e4, e5, e6, e7, e8, e9, e10, e11, e12, e13⟩ := hd_open hI hj (hρ x (by simp [Op.operands, Call.operands]) _ hx)
  obtain ⟨hz1, hz2, hsrc⟩ := hs
  obtain ⟨A, m', vs, s1, s2, s3, s4, s5⟩ := hsrc ext w β _ hI (hρ y (by simp [Op.operands, Call.operands]) _ hy)
  obtain ⟨f1, f2⟩ := e10 (.inl hl)
  have hc := SrcK.cells (P := P) (n := n) (m := m') s2 s5 w rfl
  obtain ⟨w', q1, q2, q3⟩ := row_write (P := P) hI hj e1 e2 e3 e4 e5 e6 e7 e11 e12 e13 s4 (by rw [s2, hz1]) s3 (o := off) (by omega)
  have hu' : P.underlying t = some (.slice e) := by rw [ty_und ht, hd]
  have hmin : Nat.min n len = k := hk.symm
  have h4 : (execOp ρ ⟨dst, .call { callee := .builtin .copy, args := #[x, y], argTypes := #[t, tx] }, type, pos, after, guard⟩).run P w = .ok (.value (.int .i64 k)) w' := by
    simp only [execOp, resolve, invoke, builtin, Sem.run_bind, Sem.run_pure, Result.andThen_ok, List.map_toArray, List.map_cons, List.map_nil, e8, s1]
    subst f1
    simp [Builtin.copy_, run_underlying hu', run_size he, Builtin.lenOf, hmin, hc, q1, goInt]
  rw [h4]
  rw [hz1] at q2
  exact ⟨_, _, β, ⟨rfl, rfl⟩, rfl, q2, q3⟩

/-- append to a part of a row from its start on, where there is room -/
theorem append_row [T : TyTab P] {dst : Option Tmp} {t tx : TypeId} {x y : Operand} {type : TypeId} {pos : String} {after : Array Edge} {guard : Option (Nat × Bool)} {F : Fr} {H : List AObj} {j g len k : Nat} {xs zs : List AVal} {b : AVal} {e ex : TypeId} {r r' rx : TyRow}
    (hx : ev F x = some (.hd j g 0 len)) (hj : H[j]? = some (.row g e r.size xs)) (hy : ev F y = some b) (hs : SrcK H r.size k b zs k) (ht : tfind T.tab t = some r') (hd : r'.d = .slice e) (he : tfind T.tab e = some r) (htx : tfind T.tab tx = some rx) (hdx : rx.d = .slice ex)
    (hfit : len + k ≤ xs.length) :
    DSem P .x ⟨dst, .call { callee := .builtin .append, args := #[x, y], argTypes := #[t, tx] }, type, pos, after, guard⟩ F H (.hd j g 0 (len + k)) (H.set j (.row g e r.size (xs.take len ++ zs ++ xs.drop (len + k)))) := by
  refine ⟨fun i t cs hi => ?_, ?_⟩
  · by_cases hij : i = j
    · subst hij; rw [hj] at hi; cases hi
    · rw [List.getElem?_set_ne (by omega)]; exact hi
  intro ext w β ρ hI hext hκ hρ
  obtain ⟨ent, b0, us, o, m, e1, e2, e3, e4, e5, e6, e7, e8, e9, e10, e11, e12, e13⟩ := hd_open hI hj (hρ x (by simp [Op.operands, Call.operands]) _ hx)
  obtain ⟨hz1, hz2, hsrc⟩ := hs
  obtain ⟨A, m', vs, s1, s2, s3, s4, s5⟩ := hsrc ext w β _ hI (hρ y (by simp [Op.operands, Call.operands]) _ hy)
  obtain ⟨f1, f2⟩ := e10 (.inr rfl)
  have hc := SrcK.cells (P := P) (n := k) (m := m') s2 s5 w rfl
  obtain ⟨w', q1, q2, q3⟩ := row_write (P := P) (o := len) hI hj e1 e2 e3 e4 e5 e6 e7 e11 e12 e13 s4 (by rw [s2, hz1]) s3 (by omega)
  have hu' : P.underlying t = some (.slice e) := by rw [ty_und ht, hd]
  have hk : P.underlying tx = some (.slice ex) := by rw [ty_und htx, hdx]
  obtain ⟨i, i1, i2, i3, i4⟩ := ty_info he
  have hroom : len + k ≤ m := by omega
  have h4 : (execOp ρ ⟨dst, .call { callee := .builtin .append, args := #[x, y], argTypes := #[t, tx] }, type, pos, after, guard⟩).run P w = .ok (.value (.slice (some ⟨b0, o, none⟩) (len + k) m)) w' := by
    simp only [execOp, resolve, invoke, builtin, Sem.run_bind, Sem.run_pure, Result.andThen_ok, List.map_toArray, List.map_cons, List.map_nil, e8, s1]
    have ho : o = 0 := by rw [f1, Nat.zero_mul]
    subst ho
    simp [Builtin.append_, run_underlying hu', run_underlying hk, sizeOf, typeInfo, i1, i3, Builtin.lenOf, hroom, hc, addr_add, q1]
  rw [h4]
  rw [hz1] at q2
  refine ⟨_, _, β, ⟨rfl, rfl⟩, ?_, q2, q3⟩
  exact ⟨rfl, ent, e1, by omega, fun _ => ⟨b0, o, m, e7, by omega, rfl, fun _ => ⟨by rw [f1, Nat.zero_mul, Nat.zero_mul], by omega⟩⟩⟩
end
end Go.AL
