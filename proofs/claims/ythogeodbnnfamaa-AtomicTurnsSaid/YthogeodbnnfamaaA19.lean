/-
  Rows again: parts of them, how much room there is, clearing, appending of zeros, and that two owned things do not overlap; an owned slice is seen as a row, and back. No conditions.
-/
import Derived.Test.YthogeodbnnfamaaA18
import Derived.Lib.Overlaps
set_option linter.unusedVariables false
set_option linter.unusedSimpArgs false
namespace Go.AL
open Go

section
variable {P : Program}

theorem bounds_run (n m : Nat) (lo hi mx : Option Value) (l h mm : Int) (w : World) (hlo : lo = none ∧ l = 0 ∨ ∃ k, lo = some (.int k l)) (hhi : hi = none ∧ h = n ∧ mx = none ∨ ∃ k, hi = some (.int k h)) (hmx : mx = none ∧ mm = m ∨ ∃ k, mx = some (.int k mm))
    (h0 : 0 ≤ l) (h1 : l ≤ h) (h2 : h ≤ mm) (h3 : mm ≤ m) : (Instr.sliceBounds true n m lo hi mx).run P w = .ok (l.toNat, h.toNat, mm.toNat) w := by
  have c1 : 0 ≤ h ∧ h ≤ (m : Int) := ⟨by omega, by omega⟩
  have c2 : 0 ≤ mm ∧ mm ≤ (m : Int) := ⟨by omega, by omega⟩
  have c3 : 0 ≤ h ∧ h ≤ (mm.toNat : Int) := ⟨by omega, by omega⟩
  have c4 : 0 ≤ l ∧ l ≤ (h.toNat : Int) := ⟨by omega, by omega⟩
  have c5 : l ≤ max h 0 := by omega
  have c6 : h ≤ max mm 0 := by omega
  have c7 : 0 ≤ h := by omega
  have c8 : 0 ≤ mm := by omega
  have c9 : mm ≤ (m : Int) := by omega
  have c10 : h ≤ (m : Int) := by omega
  rcases hlo with ⟨rfl, rfl⟩ | ⟨k1, rfl⟩ <;> rcases hhi with ⟨rfl, rfl, rfl⟩ | ⟨k2, rfl⟩ <;> rcases hmx with ⟨hx, rfl⟩ | ⟨k3, hx⟩ <;> first | (cases hx; done) | ((try rw [hx]); simp [Instr.sliceBounds, Instr.sliceBound, asIntOf, c1, c2, c3, c4, c5, c6, c7, c8, c9, c10, h0, h1])

def optI (F : Fr) (d : Int) (o : Option Operand) (l : Int) : Prop := match o with | none => l = d | some o => ∃ k, ev F o = some (.v (.int k l))

theorem optI_lo {ρ : Operand → Value} {F : Fr} {c : Ctx} {d l : Int} {o : Option Operand} (h : optI F d o l) (hρ : ∀ x, o = some x → ∀ v, ev F x = some v → Rel c v (ρ x)) : (o.map ρ = none ∧ l = d ∧ o = none) ∨ ∃ k, o.map ρ = some (.int k l) := by
  cases o with
  | none => exact .inl ⟨rfl, h, rfl⟩
  | some x =>
    obtain ⟨k, hk⟩ := h
    have : ρ x = .int k l := hρ x rfl _ hk
    exact .inr ⟨k, by simp [this]⟩

/-- part of a row -/
theorem cut_row [T : TyTab P] {dst : Option Tmp} {t : TypeId} {x : Operand} {lo hi mx : Option Operand} {type : TypeId} {pos : String} {after : Array Edge} {guard : Option (Nat × Bool)} {F : Fr} {H : List AObj} {j g off len : Nat} {xs : List AVal} {e : TypeId} {r r' : TyRow} {l h mm : Int}
    (hx : ev F x = some (.hd j g off len)) (hj : H[j]? = some (.row g e r.size xs)) (hlo : optI F 0 lo l) (hhi : optI F len hi h) (hmx : optI F ((xs.length - off : Nat) : Int) mx mm)
    (ht : tfind T.tab t = some r') (hd : r'.d = .slice e) (he : tfind T.tab e = some r) (hm : mx.isSome = true → hi.isSome = true) (hok : len ≠ 0 ∨ off = 0) (h0 : 0 ≤ l) (h1 : l ≤ h) (h2 : h ≤ mm) (h3 : mm = (xs.length - off : Nat)) :
    DSem P .s ⟨dst, .slice t x lo hi mx, type, pos, after, guard⟩ F H (.hd j g (off + l.toNat) (h.toNat - l.toNat)) H := by
  refine ⟨rfl, ?_⟩
  intro ext w β ρ hI hext hκ hρ
  obtain ⟨ent, b0, us, o, m, e1, e2, e3, e4, e5, e6, e7, e8, e9, e10, e11, e12, e13⟩ := hd_open hI hj (hρ x (by simp [Op.operands]) _ hx)
  obtain ⟨f1, f2⟩ := e10 hok
  have hmem : ∀ (q : Option Operand), (q = lo ∨ q = hi ∨ q = mx) → ∀ y, q = some y → ∀ v, ev F y = some v → Rel (ctx ext w β) v (ρ y) := fun q hq y hy v hv => by
    refine hρ y ?_ v hv
    subst hy
    rcases hq with h | h | h <;> simp [Op.operands, ← h]
  have hl := optI_lo hlo (hmem lo (.inl rfl))
  have hh := optI_lo hhi (hmem hi (.inr (.inl rfl)))
  have hmx' := optI_lo hmx (hmem mx (.inr (.inr rfl)))
  have hb := bounds_run (P := P) len m (lo.map ρ) (hi.map ρ) (mx.map ρ) l h mm w (hl.imp (fun ⟨a, b, _⟩ => ⟨a, b⟩) id)
    (by
      rcases hh with ⟨a, b, c⟩ | a
      · refine .inl ⟨a, b, ?_⟩
        cases mx with
        | none => rfl
        | some q => have := hm rfl; rw [c] at this; cases this
      · exact .inr a)
    (hmx'.imp (fun ⟨a, b, _⟩ => ⟨a, by omega⟩) id) h0 h1 h2 (by omega)
  have h4 : (execOp ρ ⟨dst, .slice t x lo hi mx, type, pos, after, guard⟩).run P w = .ok (.value (.slice (if mm.toNat = l.toNat then some ⟨b0, o, none⟩ else (some (⟨b0, o, none⟩ : Addr)).map (·.add (l.toNat * r.size))) (h.toNat - l.toNat) (mm.toNat - l.toNat))) w := by
    simp only [execOp, Instr.sliceAt, Sem.run_bind, e8, run_und ht, hd, Result.andThen_ok, Instr.slice, hb, run_size he, Sem.run_pure]
  rw [h4]
  refine came_same hI ⟨rfl, ent, e1, by omega, fun _ => ?_⟩
  by_cases hml : mm.toNat = l.toNat
  · rw [if_pos hml]
    refine ⟨b0, o, _, e7, by omega, rfl, fun hq => ⟨?_, by omega⟩⟩
    have : off + l.toNat = 0 := by omega
    rw [this, f1, show off = 0 by omega]; simp
  · rw [if_neg hml]
    refine ⟨b0, o + l.toNat * r.size, mm.toNat - l.toNat, e7, by omega, by simp [addr_add], fun hq => ⟨by rw [f1, e4, Nat.add_mul], by omega⟩⟩

theorem len_row [T : TyTab P] {dst : Option Tmp} {t : TypeId} {x : Operand} {type : TypeId} {pos : String} {after : Array Edge} {guard : Option (Nat × Bool)} {F : Fr} {H : List AObj} {j g off len : Nat} {xs : List AVal} {es : Nat} {bt e : TypeId} {r : TyRow}
    (hx : ev F x = some (.hd j g off len)) (hj : H[j]? = some (.row g bt es xs)) (ht : tfind T.tab t = some r) (hd : r.d = .slice e) :
    DSem P .s ⟨dst, .call { callee := .builtin .len, args := #[x], argTypes := #[t] }, type, pos, after, guard⟩ F H (.v (.int .i64 len)) H := by
  refine ⟨rfl, ?_⟩
  intro ext w β ρ hI hext hκ hρ
  obtain ⟨ent, b0, us, o, m, e1, e2, e3, e4, e5, e6, e7, e8, _⟩ := hd_open hI hj (hρ x (by simp [Op.operands, Call.operands]) _ hx)
  have h4 : (execOp ρ ⟨dst, .call { callee := .builtin .len, args := #[x], argTypes := #[t] }, type, pos, after, guard⟩).run P w = .ok (.value (.int .i64 len)) w := by
    simp [execOp, resolve, invoke, builtin, Builtin.len_, run_und ht, hd, e8, goInt]
  rw [h4]
  exact came_same hI rfl

theorem cap_row [T : TyTab P] {dst : Option Tmp} {t : TypeId} {x : Operand} {type : TypeId} {pos : String} {after : Array Edge} {guard : Option (Nat × Bool)} {F : Fr} {H : List AObj} {j g off len : Nat} {xs : List AVal} {es : Nat} {bt e : TypeId} {r : TyRow}
    (hx : ev F x = some (.hd j g off len)) (hj : H[j]? = some (.row g bt es xs)) (ht : tfind T.tab t = some r) (hd : r.d = .slice e) (hok : len ≠ 0 ∨ off = 0) :
    DSem P .s ⟨dst, .call { callee := .builtin .cap, args := #[x], argTypes := #[t] }, type, pos, after, guard⟩ F H (.v (.int .i64 (xs.length - off : Nat))) H := by
  refine ⟨rfl, ?_⟩
  intro ext w β ρ hI hext hκ hρ
  obtain ⟨ent, b0, us, o, m, e1, e2, e3, e4, e5, e6, e7, e8, e9, e10, _⟩ := hd_open hI hj (hρ x (by simp [Op.operands, Call.operands]) _ hx)
  obtain ⟨f1, f2⟩ := e10 hok
  have h4 : (execOp ρ ⟨dst, .call { callee := .builtin .cap, args := #[x], argTypes := #[t] }, type, pos, after, guard⟩).run P w = .ok (.value (.int .i64 (xs.length - off : Nat))) w := by
    simp [execOp, resolve, invoke, builtin, Builtin.cap_, run_und ht, hd, e8, goInt, f2]
  rw [h4]
  exact came_same hI rfl

def zeroOk (r : TyRow) : Bool := Nat.beq r.z.cells.size r.size && r.z.cells.toList.all Value.oneCell' && (!(aggB r.d) || match r.z with | .agg _ => true | _ => false)

theorem zeroA_rel {r : TyRow} (h : zeroOk r = true) (c : Ctx) : Rel c (zeroA r) r.z := by
  unfold zeroA
  simp only [zeroOk, Bool.and_eq_true, Bool.or_eq_true, Bool.not_eq_true'] at h
  cases ha : aggB r.d with
  | false => exact constA_rel c _
  | true =>
    rcases h.2 with h2 | h2
    · rw [ha] at h2; cases h2
    · cases hz : r.z with
      | agg a => exact ⟨a, rfl, relL_const c _⟩
      | _ => rw [hz] at h2; cases h2

theorem zero_get {z : Array Value} {n i q : Nat} (hi : i < n) (hq : q < z.size) : (Builtin.zeroCells z n)[i * z.size + q]? = z[q]? := by
  unfold Builtin.zeroCells
  have h1 := mul_lt_of hi hq
  rw [Array.getElem?_map, Array.getElem?_range]
  simp only [h1, if_true, Option.map_some]
  have : (i * z.size + q) % z.size = q := by rw [Nat.mul_comm, Nat.mul_add_mod]; exact Nat.mod_eq_of_lt hq
  rw [this, Array.getElem?_eq_getElem hq]
  simp [hq]

theorem zero_rows {c : Ctx} {r : TyRow} (h : zeroOk r = true) (n : Nat) : RelR c r.size (fun i => (Builtin.zeroCells r.z.cells n).toList[i]?) 0 (List.replicate n (zeroA r)) := by
  have hz : r.z.cells.size = r.size := by
    simp only [zeroOk, Bool.and_eq_true] at h; exact Nat.eq_of_beq_eq_true h.1.1
  refine RelR.of_get fun i a ha => ?_
  have hi : i < n := by simpa using (List.getElem?_eq_some_iff.1 ha).1
  have : a = zeroA r := by
    rw [List.getElem?_replicate, if_pos hi] at ha
    injection ha with ha; exact ha.symm
  subst this
  refine ⟨r.z, zeroA_rel h c, hz, fun q hq => ?_⟩
  have := zero_get (z := r.z.cells) hi (q := q) (by omega)
  rw [hz] at this
  simpa using this

theorem zero_one {r : TyRow} (h : zeroOk r = true) (n : Nat) : ∀ v ∈ (Builtin.zeroCells r.z.cells n).toList, v.oneCell' = true := by
  intro v hv
  simp only [zeroOk, Bool.and_eq_true] at h
  have hz : r.z.cells.size = r.size := Nat.eq_of_beq_eq_true h.1.1
  unfold Builtin.zeroCells at hv
  simp only [Array.toList_map, List.mem_map] at hv
  obtain ⟨i, hi, rfl⟩ := hv
  have hlt : i < n * r.z.cells.size := by simpa using hi
  have hs : 0 < r.z.cells.size := Nat.pos_of_ne_zero fun e => by rw [e] at hlt; simp at hlt
  have hm : i % r.z.cells.size < r.z.cells.size := Nat.mod_lt _ hs
  rw [getElem!_pos (c := r.z.cells) (i := i % r.z.cells.size) hm]
  exact List.all_eq_true.1 h.1.2 _ (by simp)

theorem clear_row [T : TyTab P] {t : TypeId} {x : Operand} {type : TypeId} {pos : String} {after : Array Edge} {guard : Option (Nat × Bool)} {F : Fr} {H : List AObj} {dst : Option Tmp} {j g off len : Nat} {xs : List AVal} {e : TypeId} {r r' : TyRow}
    (hx : ev F x = some (.hd j g off len)) (hj : H[j]? = some (.row g e r.size xs)) (ht : tfind T.tab t = some r') (hd : r'.d = .slice e) (he : tfind T.tab e = some r) (hz : zeroOk r = true) (hl : len ≠ 0) :
    OpSem P ⟨dst, .call { callee := .builtin .clear, args := #[x], argTypes := #[t] }, type, pos, after, guard⟩ F H (one (.tup []) (H.set j (.row g e r.size (xs.take off ++ List.replicate len (zeroA r) ++ xs.drop (off + len))))) := by
  intro ext w β ρ hI hext hκ hρ
  obtain ⟨ent, b0, us, o, m, e1, e2, e3, e4, e5, e6, e7, e8, e9, e10, e11, e12, e13⟩ := hd_open hI hj (hρ x (by simp [Op.operands, Call.operands]) _ hx)
  obtain ⟨f1, f2⟩ := e10 (.inl hl)
  have hzs : r.z.cells.size = r.size := by
    simp only [zeroOk, Bool.and_eq_true] at hz; exact Nat.eq_of_beq_eq_true hz.1.1
  obtain ⟨w', q1, q2, q3⟩ := row_write (P := P) (o := off) (zs := List.replicate len (zeroA r)) hI hj e1 e2 e3 e4 e5 e6 e7 e11 e12 e13 (zero_rows hz len) (by simp [size_zeroCells, hzs]) (zero_one hz len) (by simpa using e9)
  have h4 : (execOp ρ ⟨dst, .call { callee := .builtin .clear, args := #[x], argTypes := #[t] }, type, pos, after, guard⟩).run P w = .ok (.value (.tuple #[])) w' := by
    subst f1
    cases len with
    | zero => exact absurd rfl hl
    | succ n => simp [execOp, resolve, invoke, builtin, Builtin.clear_, run_und ht, hd, e8, run_zero he, q1]
  rw [h4]
  simp only [List.length_replicate] at q2
  exact ⟨_, _, β, ⟨rfl, rfl⟩, ⟨#[], rfl, rfl⟩, q2, q3⟩

/-- a part of a row, and zeros for which there is no room -/
theorem append_zeros [T : TyTab P] {dst : Option Tmp} {t tx : TypeId} {x y : Operand} {type : TypeId} {pos : String} {after : Array Edge} {guard : Option (Nat × Bool)} {F : Fr} {H : List AObj} {j g len : Nat} {xs : List AVal} {e : TypeId} {r r' rx : TyRow} {k kx : IntKind} {n : Int}
    (hx : ev F x = some (.hd j g 0 len)) (hj : H[j]? = some (.row g e r.size xs)) (hy : ev F y = some (.v (.int kx n))) (ht : tfind T.tab t = some r') (hd : r'.d = .slice e) (he : tfind T.tab e = some r) (htx : tfind T.tab tx = some rx) (hdx : rx.d = .int k)
    (hz : zeroOk r = true) (hs : Nat.blt 0 r.size = true) (hb : Nat.blt 0 r.bytes = true) (ho : ElemsOk r.size (xs.take len)) (h0 : 0 < n) (hbig : xs.length < len + n.toNat) (h47 : (len + n.toNat) * r.bytes ≤ 140737488355328) :
    DSem P .x ⟨dst, .call { callee := .builtin .append, args := #[x, y], argTypes := #[t, tx] }, type, pos, after, guard⟩ F H (.arr H.length 1) (H ++ [.arr 1 e r.size (xs.take len ++ List.replicate n.toNat (zeroA r))]) := by
  refine ⟨fun j t cs hj => by rw [List.getElem?_append_left (List.getElem?_eq_some_iff.1 hj).1]; exact hj, ?_⟩
  intro ext w β ρ hI hext hκ hρ
  have hr0 := hρ x (by simp [Op.operands, Call.operands]) _ hx
  obtain ⟨ent, b0, us, o, m, e1, e2, e3, e4, e5, e6, e7, e8, e9, e10, e11, e12, e13⟩ := hd_open hI hj hr0
  obtain ⟨f1, f2⟩ := e10 (.inr rfl)
  have hyv : ρ y = .int kx n := hρ y (by simp [Op.operands, Call.operands]) _ hy
  obtain ⟨hz1, hz2, hsrc⟩ := SrcK.hd (k := len) hj (Nat.le_refl _) e9 (by simpa using ho)
  obtain ⟨A, m', vs, s1, s2, s3, s4, s5⟩ := hsrc ext w β _ hI hr0
  simp only [List.drop_zero] at s4
  rw [e8] at s1
  injection s1 with s11 s12 s13
  subst s11
  have hc := SrcK.cells (P := P) (n := len) (m := m) s2 s5 w.drew rfl
  obtain ⟨i, i1, i2, i3, i4⟩ := ty_info he
  have hu' : P.underlying t = some (.slice e) := by rw [ty_und ht, hd]
  have hk : P.underlying tx = some (.int k) := by rw [ty_und htx, hdx]
  have hzs : r.z.cells.size = r.size := by
    simp only [zeroOk, Bool.and_eq_true] at hz; exact Nat.eq_of_beq_eq_true hz.1.1
  have hs' : 0 < r.size := by simpa [Nat.blt_eq] using hs
  have hb' : 0 < r.bytes := by simpa [Nat.blt_eq] using hb
  obtain ⟨q, rfl⟩ : ∃ q : Nat, n = q := ⟨n.toNat, by omega⟩
  simp only [Int.toNat_natCast] at hbig h47 ⊢
  have hq0 : 0 < q := by omega
  have hle : len + q ≤ 140737488355328 := Nat.le_trans (Nat.le_mul_of_pos_right _ hb') h47
  have hw : IntKind.i64.wrap (q : Int) = q := by rw [IntKind.wrap_i64]; omega
  have hneg : ¬ ((q : Int) < 0) := by omega
  have hmb : q * r.bytes ≤ 140737488355328 := Nat.le_trans (Nat.mul_le_mul_right _ (Nat.le_add_left q len)) h47
  have hbig2 : ¬ (281474976710656 < (q : Int) * (i.bytes : Int)) := by
    rw [i4, ← Int.natCast_mul]
    omega
  have hmz : ¬ (q * i.size = 0) := by rw [i3]; exact Nat.mul_ne_zero (by omega) (by omega)
  have hroom : ¬ (len + q ≤ m) := by omega
  have h63 : ¬ (9223372036854775807 < ((len : Int) + (q : Int))) := by omega
  have hfit := growslice_fits (show m < len + q by omega) h47
  have h48 : ¬ (281474976710656 < Builtin.nextslicecap (len + q) m * i.bytes) := by rw [i4]; omega
  generalize hcap : grownCap w (len + q) m e = cap
  have hcap2 : len + q ≤ cap := by rw [← hcap]; simp only [grownCap, Question.cut]; omega
  have hrun : (Builtin.append_ #[t, tx] type #[.slice (some ⟨b0, o, none⟩) len m, .int kx q]).run P w =
      .ok (.slice (some ⟨w.heap.size, 0, none⟩) (len + q) cap) (w.drew.alloc (.cells (vs.toArray ++ Builtin.zeroCells r.z.cells q ++ Builtin.zeroCells r.z.cells (cap - (len + q))) e)) := by
    rw [← hcap]
    have hc' : (Builtin.firstCells i.size len (.slice (some ⟨b0, o, none⟩) len m)).run P w.drew = .ok vs.toArray w.drew := by rw [i3]; exact hc
    simp [Builtin.append_, run_underlying hu', run_underlying hk, sizeOf, typeInfo, zeroValue, i1, i2, asInt, asIntOf, hw, hneg, hbig2, hroom, h63, h48, Question.forced, hc', newRow, grownCap, hmz]
  have h4 : (execOp ρ ⟨dst, .call { callee := .builtin .append, args := #[x, y], argTypes := #[t, tx] }, type, pos, after, guard⟩).run P w =
      .ok (.value (.slice (some ⟨w.heap.size, 0, none⟩) (len + q) cap)) (World.push w.drew (.cells (vs.toArray ++ Builtin.zeroCells r.z.cells q ++ Builtin.zeroCells r.z.cells (cap - (len + q))) e)) := by
    simp only [execOp, resolve, invoke, builtin, Sem.run_bind, Sem.run_pure, Result.andThen_ok, List.map_toArray, List.map_cons, List.map_nil, e8, hyv, hrun]
    rfl
  rw [h4]
  have hlen : (xs.take len ++ List.replicate q (zeroA r)).length = len + q := by
    simp only [List.length_append, List.length_take, List.length_replicate]; omega
  have hlt : (xs.take len).length = len := by rw [List.length_take]; omega
  have hfin := newArr (xs := xs.take len ++ List.replicate q (zeroA r)) (cap := cap) (e := e) hI hext (drew_same w) (s := r.size) (us := vs.toArray ++ Builtin.zeroCells r.z.cells q ++ Builtin.zeroCells r.z.cells (cap - (len + q)))
    (by simp only [Array.size_append, List.size_toArray, size_zeroCells, s2, hzs, ← Nat.add_mul]; congr 1; omega)
    (by rw [hlen]; exact hcap2)
    (rows_append (us := vs) (vs := (Builtin.zeroCells r.z.cells q).toList) s4 (zero_rows hz q) (by rw [s2, hlt]) fun i hi => by
      rw [hlt, List.length_replicate] at hi
      have hsz : (vs.toArray ++ Builtin.zeroCells r.z.cells q).size = (len + q) * r.size := by simp only [Array.size_append, List.size_toArray, size_zeroCells, s2, hzs, ← Nat.add_mul]
      rw [Array.getElem?_append_left (by rw [hsz]; exact hi)]
      rw [← Array.getElem?_toList]
      simp)
  rw [hlen] at hfin
  exact hfin
end
end Go.AL
