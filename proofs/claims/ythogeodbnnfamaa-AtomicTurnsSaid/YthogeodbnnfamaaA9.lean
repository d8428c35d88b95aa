/-
  Slices: indexes, cuts, appending, making, and giving up what is owned. No conditions.
-/
import Derived.Test.YthogeodbnnfamaaA8
set_option linter.unusedVariables false
set_option linter.unusedSimpArgs false
namespace Go.AL
open Go

section
variable {P : Program}

def xsOf : AVal → Option (List AVal)
  | .sl xs => some xs
  | .slf xs => some xs
  | _ => none

/-- what is known of a slice that nobody changes -/
theorem sl_open {c : Ctx} {a : AVal} {xs : List AVal} (ha : xsOf a = some xs) {u : Value} (h : Rel c a u) :
    ∃ A m es, u = .slice A xs.length m ∧ xs.length ≤ m ∧ (∀ ys, a = .slf ys → m = xs.length) ∧ (xs ≠ [] → baseOk c A) ∧ RelR { c with β := [] } es (rdA c.w A) 0 xs := by
  cases a <;> simp only [xsOf] at ha <;> try (cases ha; done)
  · injection ha with ha; subst ha
    obtain ⟨A, m, es, h1, h2, h3, h4⟩ := h
    exact ⟨A, m, es, h1, h2, (by intro ys e; cases e), h3, h4⟩
  · injection ha with ha; subst ha
    obtain ⟨A, es, h1, h3, h4⟩ := h
    exact ⟨A, _, es, h1, Nat.le_refl _, fun ys _ => rfl, h3, h4⟩

theorem addr_add (b o n : Nat) : (⟨b, o, none⟩ : Addr).add n = ⟨b, o + n, none⟩ := by
  unfold Addr.add; split
  · rename_i h; rw [h]; rfl
  · rfl

/-- a slice at an index -/
theorem index_sl [T : TyTab P] {dst : Option Tmp} {t : TypeId} {x i : Operand} {type : TypeId} {pos : String} {after : Array Edge} {guard : Option (Nat × Bool)} {F : Fr} {H : List AObj} {a : AVal} {xs : List AVal} {y : AVal} {k : IntKind} {n : Int} {e : TypeId} {r r' : TyRow}
    (hx : ev F x = some a) (ha : xsOf a = some xs) (hi : ev F i = some (.v (.int k n))) (ht : tfind T.tab t = some r') (hd : r'.d = .slice e) (he : tfind T.tab e = some r) (hl : y.cells.length = r.size) (hf : y.flat = true)
    (h0 : 0 ≤ n) (hy : xs[n.toNat]? = some y) : DSem P .p ⟨dst, .indexAddr t x i, type, pos, after, guard⟩ F H (.pp y.cells 0) H := by
  refine ⟨rfl, fun H' => ?_⟩
  intro ext w β ρ hI hext hκ hρ
  obtain ⟨A, m, es, hu, hm, _, hA, hr⟩ := sl_open ha (hρ x (by simp [Op.operands]) _ hx)
  have hn : ρ i = .int k n := hρ i (by simp [Op.operands]) _ hi
  have hne : xs ≠ [] := fun e => by subst e; simp at hy
  obtain ⟨b, o, rfl, hb, hs⟩ := hA hne
  obtain ⟨u, h1, h2, h3⟩ := hr.get hy
  have hlt : n.toNat < xs.length := (List.getElem?_eq_some_iff.1 hy).1
  obtain ⟨hc, _⟩ := h1.cells hf
  have hcl := hc.length
  simp only [Array.length_toList] at hcl
  have hes : es = r.size := by omega
  have h4 : (execOp ρ ⟨dst, .indexAddr t x i, type, pos, after, guard⟩).run P w = .ok (.value (.pointer (some ⟨b, o + n.toNat * r.size, none⟩))) w := by
    have hcond : 0 ≤ n ∧ n < (xs.length : Int) := ⟨h0, by omega⟩
    simp only [execOp, Instr.indexAt, Sem.run_bind, hn, hu, asIntOf, Sem.run_pure, Result.andThen_ok, run_und ht, hd, if_pos hcond, run_size he, addr_add]
  rw [h4]
  refine came_same hI ⟨b, o + n.toNat * r.size, u.cells.toList, rfl, hb, hs, hc, fun q hq => ?_⟩
  have := h3 q (by simp at hq; omega)
  simp only [Nat.zero_add, rdA] at this
  rw [hes] at this
  rw [Nat.add_assoc, this]
  simp

/-- an array in a box at an index -/
theorem index_arr [T : TyTab P] {dst : Option Tmp} {t : TypeId} {x i : Operand} {type : TypeId} {pos : String} {after : Array Edge} {guard : Option (Nat × Bool)} {F : Fr} {H : List AObj} {j off : Nat} {k : IntKind} {n : Int} {e : TypeId} {len : Nat} {r r' : TyRow}
    (hx : ev F x = some (.ptr j off)) (hi : ev F i = some (.v (.int k n))) (ht : tfind T.tab t = some r') (hd : r'.d = .array len e) (he : tfind T.tab e = some r)
    (h0 : 0 ≤ n) (hn : n < len) : DSem P .p ⟨dst, .indexAddr t x i, type, pos, after, guard⟩ F H (.ptr j (off + n.toNat * r.size)) H := by
  refine ⟨rfl, fun H' => ?_⟩
  intro ext w β ρ hI hext hκ hρ
  obtain ⟨e', b, h1, h2, h3, hu⟩ := hρ x (by simp [Op.operands]) _ hx
  have hni : ρ i = .int k n := hρ i (by simp [Op.operands]) _ hi
  have h4 : (execOp ρ ⟨dst, .indexAddr t x i, type, pos, after, guard⟩).run P w = .ok (.value (.pointer (some ⟨b, off + n.toNat * r.size, none⟩))) w := by
    have hcond : 0 ≤ n ∧ n < (len : Int) := ⟨h0, hn⟩
    simp only [execOp, Instr.indexAt, Sem.run_bind, hni, hu, asIntOf, Sem.run_pure, Result.andThen_ok, run_und ht, hd, Instr.sureAddr, if_pos hcond, run_size he, addr_add]
  rw [h4]
  exact came_same hI ⟨e', b, h1, h2, h3, rfl⟩

/-- the value of an array at an index -/
theorem index_agg [T : TyTab P] {dst : Option Tmp} {t : TypeId} {x i : Operand} {type : TypeId} {pos : String} {after : Array Edge} {guard : Option (Nat × Bool)} {F : Fr} {H : List AObj} {cs : List AVal} {k : IntKind} {n : Int} {e : TypeId} {len : Nat} {r r' : TyRow} {v : AVal}
    (hx : ev F x = some (.agg cs)) (hi : ev F i = some (.v (.int k n))) (ht : tfind T.tab t = some r') (hd : r'.d = .array len e) (he : tfind T.tab e = some r)
    (h0 : 0 ≤ n) (hn : n < len) (hv : takeA r cs (n.toNat * r.size) = some v) : DSem P .p ⟨dst, .index t x i, type, pos, after, guard⟩ F H v H := by
  refine ⟨rfl, fun H' => ?_⟩
  intro ext w β ρ hI hext hκ hρ
  obtain ⟨a, hu, hr⟩ := hρ x (by simp [Op.operands]) _ hx
  have hni : ρ i = .int k n := hρ i (by simp [Op.operands]) _ hi
  obtain ⟨u, h1, h2⟩ := takeA_part (P := P) he hr hv w
  have h4 : (execOp ρ ⟨dst, .index t x i, type, pos, after, guard⟩).run P w = .ok (.value u) w := by
    have hcond : 0 ≤ n ∧ n < (len : Int) := ⟨h0, hn⟩
    simp only [execOp, Instr.index, Sem.run_bind, hni, hu, asIntOf, Sem.run_pure, Result.andThen_ok, run_und ht, hd, if_pos hcond, run_size he, h1]
  rw [h4]
  exact came_same hI h2

/-- a string at an index -/
theorem index_str [T : TyTab P] {dst : Option Tmp} {t : TypeId} {x i : Operand} {type : TypeId} {pos : String} {after : Array Edge} {guard : Option (Nat × Bool)} {F : Fr} {H : List AObj} {s : ByteArray} {k : IntKind} {n : Int} {r' : TyRow} {c : UInt8}
    (hx : ev F x = some (.v (.string s))) (hi : ev F i = some (.v (.int k n))) (ht : tfind T.tab t = some r') (hd : r'.d = .string)
    (h0 : 0 ≤ n) (hc : s[n.toNat]? = some c) : DSem P .p ⟨dst, .index t x i, type, pos, after, guard⟩ F H (.v (.int .u8 c.toNat)) H := by
  refine ⟨rfl, fun H' => ?_⟩
  intro ext w β ρ hI hext hκ hρ
  have hu : ρ x = .string s := hρ x (by simp [Op.operands]) _ hx
  have hni : ρ i = .int k n := hρ i (by simp [Op.operands]) _ hi
  have h4 : (execOp ρ ⟨dst, .index t x i, type, pos, after, guard⟩).run P w = .ok (.value (.int .u8 c.toNat)) w := by
    simp only [execOp, Instr.index, Sem.run_bind, hni, hu, asIntOf, Sem.run_pure, Result.andThen_ok, run_und ht, hd, if_pos h0, hc]
  rw [h4]
  exact came_same hI rfl

/-! ### cuts -/
def ElemsOk (s : Nat) (xs : List AVal) : Prop := ∀ y ∈ xs, y.cells.length = s ∧ y.flat = true

theorem elems_map {α : Type} {s : Nat} {f : α → AVal} (l : List α) (h : ∀ x, (f x).cells.length = s ∧ (f x).flat = true) : ElemsOk s (l.map f) := by
  intro y hy
  obtain ⟨x, _, rfl⟩ := List.mem_map.1 hy
  exact h x

/-- the elements' size is that of their type -/
theorem rows_size {c : Ctx} {es s : Nat} {rd : Nat → Option Value} {xs : List AVal} (hr : RelR c es rd 0 xs) (hne : xs ≠ []) (ho : ElemsOk s xs) : es = s := by
  cases xs with
  | nil => exact absurd rfl hne
  | cons x xs =>
    obtain ⟨⟨u, h1, h2, _⟩, _⟩ := hr
    obtain ⟨h3, h4⟩ := ho x (List.mem_cons_self ..)
    have := (h1.cells h4).1.length
    simp only [Array.length_toList] at this
    omega

theorem rows_cut {c : Ctx} {es : Nat} {rd : Nat → Option Value} {xs : List AVal} (hr : RelR c es rd 0 xs) (l n : Nat) : RelR c es (fun i => rd (l * es + i)) 0 ((xs.drop l).take n) := by
  refine RelR.of_get fun i a ha => ?_
  rw [List.getElem?_take] at ha
  split at ha
  · rw [List.getElem?_drop] at ha
    obtain ⟨u, h1, h2, h3⟩ := hr.get ha
    refine ⟨u, h1, h2, fun q hq => ?_⟩
    have := h3 q hq
    simp only [Nat.zero_add] at this ⊢
    rw [← this]
    congr 1
    rw [Nat.add_mul]; omega
  · cases ha

def loOf (F : Fr) : Option Operand → Option Nat
  | none => some 0
  | some o => match ev F o with
    | some (.v (.int _ (.ofNat n))) => some n
    | _ => none

theorem cut_rel {c : Ctx} {xs : List AVal} {A : Option Addr} {es m l h s : Nat} (hlh : l ≤ h) (hh : h ≤ xs.length) (hA : xs ≠ [] → baseOk c A) (hr : RelR { c with β := [] } es (rdA c.w A) 0 xs) (ho : ElemsOk s xs) :
    ((xs.drop l).take (h - l) ≠ [] → baseOk c (if m = l then A else A.map (·.add (l * s)))) ∧ RelR { c with β := [] } es (rdA c.w (A.map (·.add (l * s)))) 0 ((xs.drop l).take (h - l)) ∧ ((xs.drop l).take (h - l)).length = h - l := by
  have hlen : ((xs.drop l).take (h - l)).length = h - l := by simp; omega
  by_cases hx : xs = []
  · subst hx
    simp at hh
    subst hh
    have : l = 0 := by omega
    subst this
    exact ⟨fun h => absurd rfl h, trivial, rfl⟩
  · have hes := rows_size hr hx ho
    subst hes
    obtain ⟨b, o, rfl, hb, hs⟩ := hA hx
    refine ⟨fun _ => ?_, ?_, hlen⟩
    · split
      · exact ⟨b, o, rfl, hb, hs⟩
      · exact ⟨b, o + l * es, by simp [addr_add], hb, hs⟩
    · have := rows_cut hr l (h - l)
      have e : rdA c.w (Option.map (fun x : Addr => x.add (l * es)) (some ⟨b, o, none⟩)) = fun i => rdA c.w (some ⟨b, o, none⟩) (l * es + i) := by
        funext i
        simp only [Option.map_some, addr_add, rdA, Nat.add_assoc]
      rw [e]; exact this

/-- s[l:h], of what nobody changes; nothing is lost if the end is left out and it was full. -/
theorem cut_sl [T : TyTab P] {dst : Option Tmp} {t : TypeId} {x : Operand} {lo hi : Option Operand} {type : TypeId} {pos : String} {after : Array Edge} {guard : Option (Nat × Bool)} {F : Fr} {H : List AObj} {a : AVal} {xs : List AVal} {e : TypeId} {r r' : TyRow} {l h : Int}
    (hx : ev F x = some a) (ha : xsOf a = some xs) (hlo : match lo with | none => l = 0 | some o => ∃ k, ev F o = some (.v (.int k l))) (hhi : match hi with | none => h = xs.length | some o => ∃ k, ev F o = some (.v (.int k h)))
    (ht : tfind T.tab t = some r') (hd : r'.d = .slice e) (he : tfind T.tab e = some r) (ho : ElemsOk r.size xs) (h0 : 0 ≤ l) (hlh : l ≤ h) (hh : h ≤ xs.length) :
    DSem P .p ⟨dst, .slice t x lo hi none, type, pos, after, guard⟩ F H (.sl ((xs.drop l.toNat).take (h.toNat - l.toNat))) H := by
  refine ⟨rfl, fun H' => ?_⟩
  intro ext w β ρ hI hext hκ hρ
  obtain ⟨A, m, es, hu, hm, _, hA, hr⟩ := sl_open ha (hρ x (by simp [Op.operands]) _ hx)
  obtain ⟨g1, g2, g3⟩ := cut_rel (l := l.toNat) (h := h.toNat) (m := m) (by omega) (by omega) hA hr ho
  have hb : (Instr.sliceBounds true xs.length m (lo.map ρ) (hi.map ρ) none).run P w = .ok (l.toNat, h.toNat, m) w := by
    cases hi with
    | none =>
      simp only at hhi
      subst hhi
      cases lo with
      | none => simp only at hlo; subst hlo; simp [Instr.sliceBounds]
      | some o =>
        obtain ⟨k, hk⟩ := hlo
        have : ρ o = .int k l := hρ o (by simp [Op.operands]) _ hk
        simp [Instr.sliceBounds, Instr.sliceBound, this, asIntOf, h0, hlh]
    | some o' =>
      obtain ⟨k', hk'⟩ := hhi
      have e' : ρ o' = .int k' h := hρ o' (by simp [Op.operands]) _ hk'
      have c1 : 0 ≤ h ∧ h ≤ (m : Int) := ⟨by omega, by omega⟩
      cases lo with
      | none => simp only at hlo; subst hlo; simp [Instr.sliceBounds, Instr.sliceBound, e', asIntOf, c1]
      | some o =>
        obtain ⟨k, hk⟩ := hlo
        have e1 : ρ o = .int k l := hρ o (by simp [Op.operands]) _ hk
        have c2 : 0 ≤ l ∧ l ≤ (h.toNat : Int) := ⟨h0, by omega⟩
        have c3 : l ≤ max h 0 := by omega
        simp [Instr.sliceBounds, Instr.sliceBound, e', e1, asIntOf, c1, h0, c3]
  have h4 : (execOp ρ ⟨dst, .slice t x lo hi none, type, pos, after, guard⟩).run P w = .ok (.value (.slice (if m = l.toNat then A else A.map (·.add (l.toNat * r.size))) (h.toNat - l.toNat) (m - l.toNat))) w := by
    simp only [execOp, Instr.sliceAt, Sem.run_bind, hu, run_und ht, hd, Result.andThen_ok, Instr.slice, hb, run_size he, Sem.run_pure, Option.map_none]
  rw [h4]
  refine came_same hI ⟨_, _, es, by rw [g3], by rw [g3]; omega, g1, ?_⟩
  by_cases hml : m = l.toNat
  · rw [if_pos hml]
    have : (xs.drop l.toNat).take (h.toNat - l.toNat) = [] := List.length_eq_zero_iff.1 (by rw [g3]; omega)
    rw [this]; trivial
  · rw [if_neg hml]; exact g2

/-- s[l:h:h] -/
theorem cut_full [T : TyTab P] {dst : Option Tmp} {t : TypeId} {x : Operand} {lo : Option Operand} {hi mx : Operand} {type : TypeId} {pos : String} {after : Array Edge} {guard : Option (Nat × Bool)} {F : Fr} {H : List AObj} {a : AVal} {xs : List AVal} {e : TypeId} {r r' : TyRow} {l h : Int} {k1 k2 : IntKind}
    (hx : ev F x = some a) (ha : xsOf a = some xs) (hlo : match lo with | none => l = 0 | some o => ∃ k, ev F o = some (.v (.int k l))) (hhi : ev F hi = some (.v (.int k1 h))) (hmx : ev F mx = some (.v (.int k2 h)))
    (ht : tfind T.tab t = some r') (hd : r'.d = .slice e) (he : tfind T.tab e = some r) (ho : ElemsOk r.size xs) (h0 : 0 ≤ l) (hlh : l ≤ h) (hh : h ≤ xs.length) :
    DSem P .p ⟨dst, .slice t x lo (some hi) (some mx), type, pos, after, guard⟩ F H (.slf ((xs.drop l.toNat).take (h.toNat - l.toNat))) H := by
  refine ⟨rfl, fun H' => ?_⟩
  intro ext w β ρ hI hext hκ hρ
  obtain ⟨A, m, es, hu, hm, _, hA, hr⟩ := sl_open ha (hρ x (by simp [Op.operands]) _ hx)
  obtain ⟨g1, g2, g3⟩ := cut_rel (l := l.toNat) (h := h.toNat) (m := h.toNat) (by omega) (by omega) hA hr ho
  have hb : (Instr.sliceBounds true xs.length m (lo.map ρ) (some (ρ hi)) (some (ρ mx))).run P w = .ok (l.toNat, h.toNat, h.toNat) w := by
    have e1 : ρ hi = .int k1 h := hρ hi (by simp [Op.operands]) _ hhi
    have e2 : ρ mx = .int k2 h := hρ mx (by simp [Op.operands]) _ hmx
    have c1 : 0 ≤ h ∧ h ≤ (m : Int) := ⟨by omega, by omega⟩
    have c1' : h ≤ max h 0 := by omega
    cases lo with
    | none => simp only at hlo; subst hlo; simp [Instr.sliceBounds, Instr.sliceBound, e1, e2, asIntOf, c1, c1']
    | some o =>
      obtain ⟨k, hk⟩ := hlo
      have e3 : ρ o = .int k l := hρ o (by simp [Op.operands]) _ hk
      have c3 : l ≤ max h 0 := by omega
      simp [Instr.sliceBounds, Instr.sliceBound, e1, e2, e3, asIntOf, c1, c1', h0, c3]
  have h4 : (execOp ρ ⟨dst, .slice t x lo (some hi) (some mx), type, pos, after, guard⟩).run P w = .ok (.value (.slice (if h.toNat = l.toNat then A else A.map (·.add (l.toNat * r.size))) (h.toNat - l.toNat) (h.toNat - l.toNat))) w := by
    simp only [execOp, Instr.sliceAt, Sem.run_bind, hu, run_und ht, hd, Result.andThen_ok, Instr.slice, hb, run_size he, Sem.run_pure, Option.map_some]
  rw [h4]
  refine came_same hI ⟨_, es, by rw [g3], g1, ?_⟩
  by_cases hml : h.toNat = l.toNat
  · rw [if_pos hml]
    have : (xs.drop l.toNat).take (h.toNat - l.toNat) = [] := List.length_eq_zero_iff.1 (by rw [g3]; omega)
    rw [this]; trivial
  · rw [if_neg hml]; exact g2

/-- a piece of a string -/
theorem cut_str [T : TyTab P] {dst : Option Tmp} {t : TypeId} {x : Operand} {lo hi : Option Operand} {type : TypeId} {pos : String} {after : Array Edge} {guard : Option (Nat × Bool)} {F : Fr} {H : List AObj} {s : ByteArray} {r' : TyRow} {l h : Int}
    (hx : ev F x = some (.v (.string s))) (hlo : match lo with | none => l = 0 | some o => ∃ k, ev F o = some (.v (.int k l))) (hhi : match hi with | none => h = s.size | some o => ∃ k, ev F o = some (.v (.int k h)))
    (ht : tfind T.tab t = some r') (hd : r'.d = .string) (h0 : 0 ≤ l) (hlh : l ≤ h) (hh : h ≤ s.size) :
    DSem P .p ⟨dst, .slice t x lo hi none, type, pos, after, guard⟩ F H (.v (.string (s.extract l.toNat h.toNat))) H := by
  refine ⟨rfl, fun H' => ?_⟩
  intro ext w β ρ hI hext hκ hρ
  have hu : ρ x = .string s := hρ x (by simp [Op.operands]) _ hx
  have hb : (Instr.sliceBounds false s.size s.size (lo.map ρ) (hi.map ρ) none).run P w = .ok (l.toNat, h.toNat, s.size) w := by
    cases hi with
    | none =>
      simp only at hhi
      subst hhi
      cases lo with
      | none => simp only at hlo; subst hlo; simp [Instr.sliceBounds]
      | some o =>
        obtain ⟨k, hk⟩ := hlo
        have : ρ o = .int k l := hρ o (by simp [Op.operands]) _ hk
        simp [Instr.sliceBounds, Instr.sliceBound, this, asIntOf, h0, hlh]
    | some o' =>
      obtain ⟨k', hk'⟩ := hhi
      have e' : ρ o' = .int k' h := hρ o' (by simp [Op.operands]) _ hk'
      have c1 : 0 ≤ h ∧ h ≤ (s.size : Int) := ⟨by omega, by omega⟩
      cases lo with
      | none => simp only at hlo; subst hlo; simp [Instr.sliceBounds, Instr.sliceBound, e', asIntOf, c1]
      | some o =>
        obtain ⟨k, hk⟩ := hlo
        have e1 : ρ o = .int k l := hρ o (by simp [Op.operands]) _ hk
        have c3 : l ≤ max h 0 := by omega
        simp [Instr.sliceBounds, Instr.sliceBound, e', e1, asIntOf, c1, h0, c3]
  have h4 : (execOp ρ ⟨dst, .slice t x lo hi none, type, pos, after, guard⟩).run P w = .ok (.value (.string (s.extract l.toNat h.toNat))) w := by
    simp only [execOp, Instr.sliceAt, Sem.run_bind, hu, run_und ht, hd, Result.andThen_ok, Instr.slice, Sem.run_pure, Option.map_none]
    simp [hb]
  rw [h4]
  exact came_same hI rfl
end
end Go.AL
