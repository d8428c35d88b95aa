/-
  Owned slices: made, indexed, stored into, cut, copied onto, taken for owned, given up. No conditions.
-/
import Derived.Test.YthogeodbnnfamaaA10
set_option linter.unusedVariables false
set_option linter.unusedSimpArgs false
namespace Go.AL
open Go

section
variable {P : Program}

def zeroA (r : TyRow) : AVal := cond (aggB r.d) (.agg (r.z.cells.toList.map constA)) (constA r.z)

/-- what is known of an owned slice -/
theorem arr_open {ext : Nat → Prop} {w : World} {H : List AObj} {β : List Ent} (hI : Inv ext w H β) {j g : Nat} {t : TypeId} {es : Nat} {xs : List AVal} (hj : H[j]? = some (.arr g t es xs)) {u : Value} (hr : Rel (ctx ext w β) (.arr j g) u) :
    ∃ ent, β[j]? = some ent ∧ ent.gen = g ∧ g ≠ 0 ∧ ent.es = es ∧ ent.len = xs.length ∧ xs.length ≤ ent.cap ∧
      ((ent.blk = none ∧ xs = [] ∧ ent.cap = 0 ∧ ∃ A, u = .slice A 0 0) ∨ ∃ b us, ent.blk = some b ∧ u = .slice (some ⟨b, 0, none⟩) xs.length ent.cap ∧ w.heap[b]? = some (.cells us t (0, 0)) ∧ us.size = ent.cap * es ∧
        RelR { (ctx ext w β) with β := [] } es (fun i => us[i]?) 0 xs) := by
  obtain ⟨_, ent, hent, _, hcond⟩ := hr
  obtain ⟨k1, k0, k2, k3, k4, k5⟩ := hI.obj _ _ ent hj hent
  obtain ⟨c1, c2⟩ := hcond k1
  refine ⟨ent, hent, k1, k0, k2, k3, k4, ?_⟩
  cases hb : ent.blk with
  | none =>
    rw [hb] at c2 k5
    exact .inl ⟨rfl, List.length_eq_zero_iff.1 (by omega), k5, c2.2⟩
  | some b =>
    rw [hb] at c2 k5
    obtain ⟨us, w1, w2, w3⟩ := k5
    exact .inr ⟨b, us, rfl, by rw [c2, k3], w1, w2, w3⟩

theorem len_arr [T : TyTab P] {dst : Option Tmp} {t : TypeId} {x : Operand} {type : TypeId} {pos : String} {after : Array Edge} {guard : Option (Nat × Bool)} {F : Fr} {H : List AObj} {j g es : Nat} {bt e : TypeId} {xs : List AVal} {r : TyRow}
    (hx : ev F x = some (.arr j g)) (hj : H[j]? = some (.arr g bt es xs)) (ht : tfind T.tab t = some r) (hd : r.d = .slice e) :
    DSem P .s ⟨dst, .call { callee := .builtin .len, args := #[x], argTypes := #[t] }, type, pos, after, guard⟩ F H (.v (.int .i64 xs.length)) H := by
  refine ⟨rfl, ?_⟩
  intro ext w β ρ hI hext hκ hρ
  obtain ⟨ent, _, _, _, _, _, _, h⟩ := arr_open hI hj (hρ x (by simp [Op.operands, Call.operands]) _ hx)
  have hu : ∃ A m, ρ x = .slice A xs.length m := by
    rcases h with ⟨_, h1, _, A, h2⟩ | ⟨b, us, _, h2, _⟩
    · subst h1; exact ⟨A, 0, h2⟩
    · exact ⟨_, _, h2⟩
  obtain ⟨A, m, hu⟩ := hu
  have h4 : (execOp ρ ⟨dst, .call { callee := .builtin .len, args := #[x], argTypes := #[t] }, type, pos, after, guard⟩).run P w = .ok (.value (.int .i64 xs.length)) w := by
    simp [execOp, resolve, invoke, builtin, Builtin.len_, run_und ht, hd, hu, goInt]
  rw [h4]
  exact came_same hI rfl

theorem index_own [T : TyTab P] {dst : Option Tmp} {t : TypeId} {x i : Operand} {type : TypeId} {pos : String} {after : Array Edge} {guard : Option (Nat × Bool)} {F : Fr} {H : List AObj} {j g : Nat} {bt e : TypeId} {xs : List AVal} {k : IntKind} {n : Int} {r r' : TyRow}
    (hx : ev F x = some (.arr j g)) (hi : ev F i = some (.v (.int k n))) (hj : H[j]? = some (.arr g bt r.size xs)) (ht : tfind T.tab t = some r') (hd : r'.d = .slice e) (he : tfind T.tab e = some r)
    (h0 : 0 ≤ n) (hn : n < xs.length) : DSem P .s ⟨dst, .indexAddr t x i, type, pos, after, guard⟩ F H (.ep j g n.toNat 0) H := by
  refine ⟨rfl, ?_⟩
  intro ext w β ρ hI hext hκ hρ
  obtain ⟨ent, e1, e2, e3, e4, e5, e6, h⟩ := arr_open hI hj (hρ x (by simp [Op.operands]) _ hx)
  have hni : ρ i = .int k n := hρ i (by simp [Op.operands]) _ hi
  rcases h with ⟨_, h1, _⟩ | ⟨b, us, h1, hu, h3, h4, h5⟩
  · subst h1; simp at hn; omega
  · have h6 : (execOp ρ ⟨dst, .indexAddr t x i, type, pos, after, guard⟩).run P w = .ok (.value (.pointer (some ⟨b, n.toNat * r.size, none⟩))) w := by
      have hcond : 0 ≤ n ∧ n < (xs.length : Int) := ⟨h0, hn⟩
      simp only [execOp, Instr.indexAt, Sem.run_bind, hni, hu, asIntOf, Sem.run_pure, Result.andThen_ok, run_und ht, hd, if_pos hcond, run_size he, addr_add, Nat.zero_add]
    rw [h6]
    exact came_same hI ⟨rfl, ent, e1, by omega, fun _ => ⟨b, h1, by rw [e4]; rfl⟩⟩

theorem field_own [T : TyTab P] {dst : Option Tmp} {s : TypeId} {x : Operand} {f : Nat} {type : TypeId} {pos : String} {after : Array Edge} {guard : Option (Nat × Bool)} {F : Fr} {H : List AObj} {j g es k off : Nat} {bt : TypeId} {xs : List AVal} {fs : Array Field} {fd : Field} {r r' : TyRow}
    (hx : ev F x = some (.ep j g k off)) (hj : H[j]? = some (.arr g bt es xs)) (ht : tfind T.tab s = some r') (hd : r'.d = .struct fs) (hf : fs[f]? = some fd) (he : tfind T.tab fd.type = some r) (hz : r.size ≠ 0) :
    DSem P .s ⟨dst, .fieldAddr s x f, type, pos, after, guard⟩ F H (.ep j g k (off + fd.offset)) H := by
  refine ⟨rfl, ?_⟩
  intro ext w β ρ hI hext hκ hρ
  obtain ⟨_, ent, hent, hg, hcond⟩ := hρ x (by simp [Op.operands]) _ hx
  obtain ⟨k1, k0, k2, k3, k4, k5⟩ := hI.obj _ _ ent hj hent
  obtain ⟨b, hb, hu⟩ := hcond k1
  have h6 : (execOp ρ ⟨dst, .fieldAddr s x f, type, pos, after, guard⟩).run P w = .ok (.value (.pointer (some ⟨b, k * ent.es + (off + fd.offset), none⟩))) w := by
    simp only [execOp, Instr.fieldAt, Sem.run_bind, run_und ht, hd, Result.andThen_ok, hf, Instr.sureAddr, hu, fieldPlace, run_size he, hz, if_false, addr_add, Sem.run_pure, Nat.add_assoc]
  rw [h6]
  exact came_same hI ⟨rfl, ent, hent, hg, fun _ => ⟨b, hb, rfl⟩⟩

/-- the place of an element of an owned slice -/
theorem ep_open {ext : Nat → Prop} {w : World} {H : List AObj} {β : List Ent} (hI : Inv ext w H β) {j g k off : Nat} {t : TypeId} {es : Nat} {xs : List AVal} {y : AVal} (hj : H[j]? = some (.arr g t es xs)) (hy : xs[k]? = some y) {u : Value} (hr : Rel (ctx ext w β) (.ep j g k off) u) :
    ∃ ent b us v, β[j]? = some ent ∧ ent.gen = g ∧ g ≠ 0 ∧ ent.es = es ∧ ent.len = xs.length ∧ xs.length ≤ ent.cap ∧ ent.blk = some b ∧ u = .pointer (some ⟨b, k * es + off, none⟩) ∧ w.heap[b]? = some (.cells us t (0, 0)) ∧ us.size = ent.cap * es ∧
      RelR { (ctx ext w β) with β := [] } es (fun i => us[i]?) 0 xs ∧ Rel { (ctx ext w β) with β := [] } y v ∧ v.cells.size = es ∧ ∀ q, q < es → us[k * es + q]? = v.cells[q]? := by
  obtain ⟨_, ent, hent, hg, hcond⟩ := hr
  obtain ⟨k1, k0, k2, k3, k4, k5⟩ := hI.obj _ _ ent hj hent
  obtain ⟨b, hb, hu⟩ := hcond k1
  rw [hb] at k5
  obtain ⟨us, w1, w2, w3⟩ := k5
  obtain ⟨v, v1, v2, v3⟩ := w3.get hy
  exact ⟨ent, b, us, v, hent, k1, k0, k2, k3, k4, hb, by rw [hu, k2], w1, w2, w3, v1, v2, by simpa using v3⟩

theorem load_own [T : TyTab P] {dst : Option Tmp} {t : TypeId} {a : Operand} {type : TypeId} {pos : String} {after : Array Edge} {guard : Option (Nat × Bool)} {F : Fr} {H : List AObj} {j g k off es : Nat} {bt : TypeId} {xs : List AVal} {y : AVal} {r : TyRow} {v : AVal}
    (ha : ev F a = some (.ep j g k off)) (hj : H[j]? = some (.arr g bt es xs)) (hy : xs[k]? = some y) (hf : y.flat = true) (ht : tfind T.tab t = some r) (hv : takeA r y.cells off = some v) :
    DSem P .s ⟨dst, .load t a, type, pos, after, guard⟩ F H v H := by
  refine ⟨rfl, ?_⟩
  intro ext w β ρ hI hext hκ hρ
  obtain ⟨ent, b, us, x, e1, e2, e3, e4, e5, e6, e7, hu, h2, h3, h4, h5, h6, h7⟩ := ep_open hI hj hy (hρ a (by simp [Op.operands]) _ ha)
  obtain ⟨c1, c2⟩ := h5.cells hf
  obtain ⟨z, z1, z2⟩ := takeA_load (P := P) ht c1 hv (w := w) (b := b) (o := k * es) (fun i z hz => by
    have hlt : i < es := by rw [← h6]; simpa using (List.getElem?_eq_some_iff.1 hz).1
    have := h7 i hlt
    simp only [World.cell?, h2, Option.isSome_none, Bool.false_eq_true, if_false]
    rw [this]; simpa using hz)
  have h8 : (execOp ρ ⟨dst, .load t a, type, pos, after, guard⟩).run P w = .ok (.value z) w := by
    simp only [execOp, Instr.loadAt, Instr.sureAddr, hu, Sem.run_bind, Sem.run_pure, Result.andThen_ok, z1]
  rw [h8]
  exact came_same hI (Rel.le (c := { (ctx ext w β) with β := [] }) (c' := ctx ext w β) ⟨fun b hb1 hb2 => ⟨hb1, hb2, rfl⟩, fun j e he => by simp at he⟩ _ _ z2)

/-- an element with a part of it changed -/
def elemSet (y : AVal) (off : Nat) (vs : List AVal) : AVal :=
  match y with
  | .agg cs => .agg (spliceA cs off vs)
  | x => match vs with
    | [v] => v
    | _ => x

theorem rows_set {c : Ctx} {es : Nat} {us us' : Array Value} {xs : List AVal} {k : Nat} {y' : AVal} (hr : RelR c es (fun i => us[i]?) 0 xs) (hk : k < xs.length) (hy : ∃ v, Rel c y' v ∧ v.cells.size = es ∧ ∀ q, q < es → us'[k * es + q]? = v.cells[q]?)
    (ho : ∀ i, (i < k * es ∨ k * es + es ≤ i) → us'[i]? = us[i]?) : RelR c es (fun i => us'[i]?) 0 (xs.set k y') := by
  refine RelR.of_get fun i a ha => ?_
  by_cases hik : i = k
  · subst hik
    rw [List.getElem?_set_self hk] at ha
    simp at ha; subst ha
    simpa using hy
  · rw [List.getElem?_set_ne (by omega)] at ha
    obtain ⟨v, v1, v2, v3⟩ := hr.get ha
    refine ⟨v, v1, v2, fun q hq => ?_⟩
    have := v3 q hq
    simp only [Nat.zero_add] at this ⊢
    rw [ho, this]
    rcases Nat.lt_or_gt_of_ne hik with h | h
    · left
      have : (i + 1) * es ≤ k * es := Nat.mul_le_mul_right _ h
      rw [Nat.add_mul, Nat.one_mul] at this; omega
    · right
      have : (k + 1) * es ≤ i * es := Nat.mul_le_mul_right _ h
      rw [Nat.add_mul, Nat.one_mul] at this; omega

theorem agg_splice {c : Ctx} {cs vs : List AVal} {ya : Array Value} {us us' xv : List Value} {b off n es : Nat} (hy : RelL c cs ya.toList) (hv : RelL c vs xv) (hn : xv.length = n) (hl : ya.toList.length = es) (hin : off + n ≤ es)
    (hold : ∀ q, q < es → us[b + q]? = ya.toList[q]?) (hbefore : ∀ i, i < b + off → us'[i]? = us[i]?) (hafter : ∀ i, b + off + n ≤ i → us'[i]? = us[i]?) (hmid : ∀ q, q < n → us'[b + off + q]? = xv[q]?) :
    ∃ v, Rel c (.agg (spliceA cs off vs)) v ∧ v.cells.size = es ∧ ∀ q, q < es → us'[b + q]? = v.cells[q]? := by
  have hvl := hv.length
  have hl5 : (ya.toList.take off).length = off := by rw [List.length_take, hl]; omega
  refine ⟨.agg (ya.toList.take off ++ xv ++ ya.toList.drop (off + n)).toArray, ⟨_, rfl, ?_⟩, ?_, fun q hq => ?_⟩
  · unfold spliceA
    rw [← hvl, hn]
    exact ((hy.take off).append hv).append (hy.drop _)
  · show (List.toArray _).size = es
    simp only [List.size_toArray, List.length_append, hl5, List.length_drop, hl, hn]; omega
  · show us'[b + q]? = (List.toArray _)[q]?
    rw [List.getElem?_toArray]
    by_cases hq1 : q < off
    · rw [hbefore _ (by omega), hold q hq, List.append_assoc, List.getElem?_append_left (by omega), List.getElem?_take, if_pos hq1]
    · by_cases hq2 : q < off + n
      · have := hmid (q - off) (by omega)
        rw [show b + off + (q - off) = b + q by omega] at this
        rw [this, List.append_assoc, List.getElem?_append_right (by omega), hl5, List.getElem?_append_left (by omega)]
      · have hl6 : (ya.toList.take off ++ xv).length = off + n := by rw [List.length_append, hl5, hn]
        rw [hafter _ (by omega), hold q hq, List.getElem?_append_right (by omega), hl6, List.getElem?_drop]
        rw [show off + n + (q - (off + n)) = q by omega]

theorem store_own [T : TyTab P] {dst : Option Tmp} {t : TypeId} {a x : Operand} {type : TypeId} {pos : String} {after : Array Edge} {guard : Option (Nat × Bool)} {F : Fr} {H : List AObj} {j g k off es : Nat} {bt : TypeId} {xs : List AVal} {y v : AVal} {r : TyRow}
    (ha : ev F a = some (.ep j g k off)) (hx : ev F x = some v) (hj : H[j]? = some (.arr g bt es xs)) (hy : xs[k]? = some y) (hyf : y.flat = true) (ht : tfind T.tab t = some r) (hl : v.cells.length = r.size) (hf : v.flat = true) (hfr : v.free = true) (hin : off + r.size ≤ y.cells.length)
    (hwhole : (∃ cs, y = .agg cs) ∨ y.one = true ∧ v.cells = [v]) :
    OpSem P ⟨dst, .store t a x, type, pos, after, guard⟩ F H (one (.tup []) (H.set j (.arr g bt es (xs.set k (elemSet y off v.cells))))) := by
  intro ext w β ρ hI hext hκ hρ
  obtain ⟨ent, b, us, yv, e1, e2, e3, e4, e5, e6, e7, hu, h2, h3, h4, h5, h6, h7⟩ := ep_open hI hj hy (hρ a (by simp [Op.operands]) _ ha)
  have hv := Rel.bare v _ hfr (hρ x (by simp [Op.operands]) _ hx)
  obtain ⟨hcl, hco⟩ := hv.cells hf
  obtain ⟨yc, yo⟩ := h5.cells hyf
  have l1 := hcl.length
  have l2 := yc.length
  simp only [Array.length_toList] at l1 l2
  have hk : k < xs.length := (List.getElem?_eq_some_iff.1 hy).1
  have hkes : k * es + es ≤ ent.cap * es := by
    have : (k + 1) * es ≤ ent.cap * es := Nat.mul_le_mul_right _ (by omega)
    rw [Nat.add_mul, Nat.one_mul] at this; omega
  have hst := run_storeCells_at P b (k * es + off) bt (ρ x).cells.toList 0 us w h2 (by simp; omega) hco
  simp only [Nat.add_zero] at hst
  generalize hus : (us.toList.take (k * es + off) ++ (ρ x).cells.toList ++ us.toList.drop (k * es + off + (ρ x).cells.toList.length)).toArray = us' at hst
  have h9 : (execOp ρ ⟨dst, .store t a x, type, pos, after, guard⟩).run P w = .ok .skip (w.setRow b us') := by
    simp only [execOp, Instr.storeAt, Instr.sureAddr, hu, storeVar, Sem.run_bind, Sem.run_pure, Result.andThen_ok, run_size ht]
    rw [if_neg (by simp; omega)]
    rw [hst]
    rfl
  rw [h9]
  have hstep : Step w β (w.setRow b us') β := Step.write ⟨j, ent, e1, e7⟩ (by simp) (fun c hc => setRow_other w b c us' hc) rfl rfl rfl
  have hget : ∀ i : Nat, us'[i]? = (us.toList.take (k * es + off) ++ (ρ x).cells.toList ++ us.toList.drop (k * es + off + r.size))[i]? := fun i => by
    rw [← hus]; simp [l1, hl]
  have husl : us.toList.length = ent.cap * es := by simpa using h3
  have hxl : (ρ x).cells.toList.length = r.size := by simp; omega
  -- the cells one by one
  have hbefore : ∀ i, i < k * es + off → us'[i]? = us[i]? := fun i hi => by
    rw [hget, List.append_assoc, List.getElem?_append_left (by simp; omega), List.getElem?_take, if_pos hi]; simp
  have hafter : ∀ i, k * es + off + r.size ≤ i → us'[i]? = us[i]? := fun i hi => by
    have hl3 : (us.toList.take (k * es + off) ++ (ρ x).cells.toList).length = k * es + off + r.size := by
      simp only [List.length_append, List.length_take, husl, hxl]; omega
    rw [hget, List.getElem?_append_right (by omega), hl3, List.getElem?_drop]
    rw [show k * es + off + r.size + (i - (k * es + off + r.size)) = i by omega]; simp
  have hmid : ∀ q, q < r.size → us'[k * es + off + q]? = (ρ x).cells[q]? := fun q hq => by
    have hl4 : (us.toList.take (k * es + off)).length = k * es + off := by simp only [List.length_take, husl]; omega
    rw [hget, List.append_assoc, List.getElem?_append_right (by omega), hl4, List.getElem?_append_left (by omega)]
    rw [show k * es + off + q - (k * es + off) = q by omega]; simp
  have hrow : RelR { (ctx ext w β) with β := [] } es (fun i => us'[i]?) 0 (xs.set k (elemSet y off v.cells)) := by
    refine rows_set h4 hk ?_ (fun i hi => ?_)
    · rcases hwhole with ⟨cs, rfl⟩ | ⟨hz1, hz2⟩
      · obtain ⟨ya, rfl, yr⟩ := h5
        have h6' : ya.size = es := h6
        have hyl : ya.toList.length = es := by simpa using h6'
        have hcl2 : cs.length = es := by rw [← hyl]; exact yr.length.symm
        have hin' : off + r.size ≤ es := by rw [← hcl2]; exact hin
        obtain ⟨v1, g1, g2, g3⟩ := agg_splice (us := us.toList) (us' := us'.toList) (xv := (ρ x).cells.toList) yr hcl hxl hyl hin' (fun q hq => by have := h7 q hq; simpa [Value.cells] using this) (fun i hi => by simpa using hbefore i hi) (fun i hi => by simpa using hafter i hi) (fun q hq => by simpa using hmid q hq)
        exact ⟨v1, g1, g2, fun q hq => by simpa using g3 q hq⟩
      · have hes : y.cells.length = 1 := by cases y <;> first | rfl | (simp [AVal.one] at hz1)
        have hr1 : r.size = 1 := by rw [← hl, hz2]; rfl
        have hoff : off = 0 := by omega
        subst hoff
        have h10 : elemSet y 0 v.cells = v := by
          rw [hz2]; cases y <;> first | rfl | (simp [AVal.one] at hz1)
        rw [h10]
        refine ⟨ρ x, hv, by omega, fun q hq => ?_⟩
        have := hmid q (by omega)
        simpa using this
    · rcases hi with hi | hi
      · exact hbefore i (by omega)
      · exact hafter i (by omega)
  refine ⟨.tup [], _, β, ⟨rfl, rfl⟩, ⟨#[], rfl, rfl⟩, hI.write e1 e7 (by simp) (fun c hc => setRow_other w b c us' hc) rfl rfl rfl ⟨e2, e3, e4, by simpa using e5, by simpa using e6, ?_⟩, hstep⟩
  rw [e7]
  refine ⟨us', setRow_get h2, ?_, hrow.le (hstep.le (ext := ext)).bare _ _ _ _⟩
  rw [← hus]
  simp only [List.size_toArray, List.length_append, List.length_take, List.length_drop, husl, hxl]
  omega
end
end Go.AL
