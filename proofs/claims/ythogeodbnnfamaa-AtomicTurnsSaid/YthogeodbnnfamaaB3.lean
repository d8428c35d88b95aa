/-
  Owned slices in a walk: taken up, appended to, given up. No conditions.
-/
import Derived.Test.YthogeodbnnfamaaB2
set_option linter.unusedVariables false
namespace Go.AL
open Go

theorem fsetO_get : ∀ {F F' : Fr} {t : Nat} {v : AVal}, fsetO F t v = some F' → ∀ s u, fget F' s = some u → fget ((t, v) :: F) s = some u
  | [], _, _, _, h, _, _, _ => by cases h
  | (k, x) :: r, F', t, v, h, s, u, hs => by
    simp only [fsetO] at h
    cases hb : Nat.beq k t with
    | true =>
      rw [hb] at h; simp at h; subst h
      have hk := Nat.eq_of_beq_eq_true hb
      subst hk
      simp only [fget] at hs ⊢
      cases h2 : Nat.beq k s with
      | true => rw [h2] at hs; simpa using hs
      | false => rw [h2] at hs; simpa [h2] using hs
    | false =>
      rw [hb] at h; simp only [cond_false] at h
      split at h
      · rename_i r' hr
        injection h with h; subst h
        have ih := fsetO_get hr s u
        simp only [fget] at hs ih ⊢
        cases h2 : Nat.beq k s with
        | true =>
          rw [h2] at hs; simp only [cond_true] at hs
          cases h3 : Nat.beq t s with
          | true =>
            have e1 := Nat.eq_of_beq_eq_true h2
            have e2 := Nat.eq_of_beq_eq_true h3
            subst e1; subst e2; simp at hb
          | false => simpa using hs
        | false =>
          rw [h2] at hs; simp only [cond_false] at hs
          have ih := ih hs
          cases h3 : Nat.beq t s with
          | true => rw [h3] at ih; simpa using ih
          | false => rw [h3] at ih; simpa using ih
      · cases h
def hsetO : List AObj → Nat → AObj → Option (List AObj)
  | [], _, _ => none
  | _ :: r, 0, o => some (o :: r)
  | x :: r, n + 1, o => match hsetO r n o with | some r' => some (x :: r') | none => none
theorem hsetO_eq : ∀ {H H' : List AObj} {j : Nat} {o : AObj}, hsetO H j o = some H' → H' = H.set j o
  | [], _, _, _, h => by cases h
  | _ :: r, _, 0, o, h => by simp [hsetO] at h; simp [h]
  | x :: r, H', n + 1, o, h => by
    simp only [hsetO] at h
    split at h
    · rename_i r' hr; injection h with h; rw [← h, hsetO_eq hr]; rfl
    · cases h

section
variable {P : Program} {G : Gh} {Q : APost} {F F' : Fr} {H H' : List AObj} {k : Kt}
/-- an empty slice without room is taken for an owned one -/
theorem jad {c : Code} (t : Nat) (bt : TypeId) (es : Nat) {n : Nat} (ht : fget F t = some (.slf [])) (hn : lenH H = some n) (hF : fsetO F t (.arr n 1) = some F') (hH : nrmH (H ++ [.arr 1 bt es []]) = some H') (h : J P G Q (.c c k) F' H') : J P G Q (.c c k) F H := by
  have hp : fproj F [t] = some ([t].map fun _ => .slf []) := by simp [fproj, ht]
  refine aw_adopt [t] bt es hp ?_
  rw [lenH_eq hn] at hF
  rw [nrmH_eq hH] at h
  exact aw_frame F' (fsetO_get hF) h
/-- an owned slice is given up: nobody changes it any more -/
theorem jpub {c : Code} (t : Nat) {j g es : Nat} {e : TypeId} {xs : List AVal} (ht : fget F t = some (.arr j g)) (hj : H[j]? = some (.arr g e es xs)) (hF : fsetO F t (.sl xs) = some F') (hH : hsetO H j (.dead (g + 1)) = some H') (h : J P G Q (.c c k) F' H') : J P G Q (.c c k) F H := by
  have hp : fproj F [t] = some ([t].map fun _ => .arr j g) := by simp [fproj, ht]
  refine aw_publish [t] (g + 1) (by simp [Nat.blt_eq]) hp t ht hj ?_
  rw [hsetO_eq hH] at h
  exact aw_frame F' (fsetO_get hF) h

/-- one more element behind those that a list tells -/
theorem append_enc [T : TyTab P] {dst : Option Tmp} {t tx : TypeId} {x y : Operand} {type : TypeId} {pos : String} {after : Array Edge} {guard : Option (Nat × Bool)} {j g : Nat} {α : Type} {enc : α → AVal} {l : List α} (a : α) {b : AVal} {ys : List AVal} {e ex : TypeId} {r r' rx : TyRow}
    (hx : ev F x = some (.arr j g)) (hj : H[j]? = some (.arr g e r.size (l.map enc))) (hy : ev F y = some b) (hb : xsOf b = some ys) (hys : ys = [enc a]) (ht : tfind T.tab t = some r') (hd : r'.d = .slice e) (he : tfind T.tab e = some r) (htx : tfind T.tab tx = some rx) (hdx : rx.d = .slice ex)
    (ho : ∀ x, (enc x).cells.length = r.size ∧ (enc x).flat = true) (hz : zerosOk r = true) (hl : l.length ≤ 1000000) (hbt : Nat.ble r.bytes 100000000 = true) (hH : hsetO H j (.arr (g + 1) e r.size ((l ++ [a]).map enc)) = some H') :
    DSem P .x ⟨dst, .call { callee := .builtin .append, args := #[x, y], argTypes := #[t, tx] }, type, pos, after, guard⟩ F H (.arr j (g + 1)) H' := by
  subst hys
  have hbt := Nat.le_of_ble_eq_true hbt
  have h1 : (l.length + 1) * r.bytes ≤ 1000001 * 100000000 := Nat.mul_le_mul (by omega) hbt
  have := append_own (P := P) (dst := dst) (type := type) (pos := pos) (after := after) (guard := guard) hx hj hy (.sl hb) ht hd he htx hdx (elems_map l ho) (show ElemsOk r.size [enc a] from elems_map [a] ho) hz (by simp; omega) (by simp; omega)
  rw [hsetO_eq hH, List.map_append]
  exact this
/-- a part of a slice that a list tells -/
theorem cut_enc [T : TyTab P] {dst : Option Tmp} {t : TypeId} {x : Operand} {lo hi : Option Operand} {type : TypeId} {pos : String} {after : Array Edge} {guard : Option (Nat × Bool)} {a : AVal} {α : Type} {enc : α → AVal} {l : List α} {e : TypeId} {r r' : TyRow} (p q : Nat)
    (hx : ev F x = some a) (ha : xsOf a = some (l.map enc)) (hlo : match lo with | none => (p : Int) = 0 | some o => ∃ k, ev F o = some (.v (.int k p))) (hhi : match hi with | none => (q : Int) = (l.map enc).length | some o => ∃ k, ev F o = some (.v (.int k q)))
    (ht : tfind T.tab t = some r') (hd : r'.d = .slice e) (he : tfind T.tab e = some r) (ho : ∀ x, (enc x).cells.length = r.size ∧ (enc x).flat = true) (h1 : p ≤ q) (h2 : q ≤ l.length) :
    DSem P .p ⟨dst, .slice t x lo hi none, type, pos, after, guard⟩ F H (.sl (((l.drop p).take (q - p)).map enc)) H := by
  have := cut_sl (P := P) (dst := dst) (type := type) (pos := pos) (after := after) (guard := guard) (H := H) (l := p) (h := q) hx ha hlo hhi ht hd he (elems_map l ho) (by omega) (by omega) (by simp; omega)
  simpa [List.map_take, List.map_drop] using this
theorem cut_take [T : TyTab P] {dst : Option Tmp} {t : TypeId} {x o : Operand} {type : TypeId} {pos : String} {after : Array Edge} {guard : Option (Nat × Bool)} {a : AVal} {α : Type} {enc : α → AVal} {l : List α} {e : TypeId} {r r' : TyRow} {k : IntKind} {h : Int} (n : Nat)
    (hx : ev F x = some a) (ha : xsOf a = some (l.map enc)) (hhi : ev F o = some (.v (.int k h))) (hh : h = (min l.length n : Nat))
    (ht : tfind T.tab t = some r') (hd : r'.d = .slice e) (he : tfind T.tab e = some r) (ho : ∀ x, (enc x).cells.length = r.size ∧ (enc x).flat = true) :
    DSem P .p ⟨dst, .slice t x none (some o) none, type, pos, after, guard⟩ F H (.sl ((l.take n).map enc)) H := by
  subst hh
  have := cut_enc (P := P) (dst := dst) (type := type) (pos := pos) (after := after) (guard := guard) (H := H) (lo := none) (hi := some o) 0 (min l.length n) hx ha rfl ⟨k, hhi⟩ ht hd he ho (by omega) (by omega)
  have e1 : l.take (min l.length n) = l.take n := List.take_eq_take_iff.2 (by omega)
  simpa [e1] using this
theorem min_if {α : Type} (enc : α → AVal) (l : List α) (n : Nat) : (if (n : Int) < ((l.map enc).length : Int) then (n : Int) else ((l.map enc).length : Int)) = (min l.length n : Nat) := by
  rw [List.length_map]; split <;> omega
theorem idx_next {i n : Nat} (h : i < n) (hn : n ≤ 4611686018427387904) : IntKind.i64.wrap ((i : Int) + 1) = ((i + 1 : Nat) : Int) := by rw [wrap_id] <;> omega
/-- a struct of n whole numbers, which are compared one by one -/
def EqTy (P : Program) [T : TyTab P] (t n : Nat) : Prop := ∃ r, tfind T.tab t = some r ∧ n = r.size ∧ aggB r.d = true ∧ allInt T.tab P.stoodInHeld 100 t = true ∧ P.eqGuardType P.depth t = false
theorem eqty [T : TyTab P] {t n : Nat} {r : TyRow} (h1 : tfind T.tab t = some r) (h2 : n = r.size) (h3 : aggB r.d = true) (h4 : allInt T.tab P.stoodInHeld 100 t = true) (h5 : P.eqGuardType P.depth t = false) : EqTy P t n := ⟨r, h1, h2, h3, h4, h5⟩
theorem eqL [T : TyTab P] {dst : Option Tmp} {op : BinOp} {t yt : TypeId} {x y : Operand} {type : TypeId} {pos : String} {after : Array Edge} {guard : Option (Nat × Bool)} {n : Nat} (xs ys : List Int) (h : EqTy P t n)
    (hop : op = .eql ∨ op = .neq) (hx : ev F x = some (.agg (intsA xs))) (hy : ev F y = some (.agg (intsA ys))) (hlx : xs.length = n) (hly : ys.length = n) :
    DSem P .p ⟨dst, .binOp op t x y yt, type, pos, after, guard⟩ F H (.v (.bool (if op = .eql then decide (xs = ys) else !decide (xs = ys)))) H := by
  obtain ⟨r, h1, rfl, h3, h4, h5⟩ := h
  exact eq_ints hop hx hy h1 hlx hly h3 h4 h5
theorem eq2 [T : TyTab P] {dst : Option Tmp} {t yt : TypeId} {x y : Operand} {type : TypeId} {pos : String} {after : Array Edge} {guard : Option (Nat × Bool)} {a b c d : Int} (h : EqTy P t 2)
    (hx : ev F x = some (.agg [.v (.int .i64 a), .v (.int .i64 b)])) (hy : ev F y = some (.agg [.v (.int .i64 c), .v (.int .i64 d)])) :
    DSem P .p ⟨dst, .binOp .eql t x y yt, type, pos, after, guard⟩ F H (.v (.bool (decide (a = c ∧ b = d)))) H := by
  have := eqL (dst := dst) (yt := yt) (type := type) (pos := pos) (after := after) (guard := guard) (H := H) [a, b] [c, d] h (.inl rfl) hx hy rfl rfl
  simpa using this
theorem neq2 [T : TyTab P] {dst : Option Tmp} {t yt : TypeId} {x y : Operand} {type : TypeId} {pos : String} {after : Array Edge} {guard : Option (Nat × Bool)} {a b c d : Int} (h : EqTy P t 2)
    (hx : ev F x = some (.agg [.v (.int .i64 a), .v (.int .i64 b)])) (hy : ev F y = some (.agg [.v (.int .i64 c), .v (.int .i64 d)])) :
    DSem P .p ⟨dst, .binOp .neq t x y yt, type, pos, after, guard⟩ F H (.v (.bool (!decide (a = c ∧ b = d)))) H := by
  have := eqL (dst := dst) (yt := yt) (type := type) (pos := pos) (after := after) (guard := guard) (H := H) [a, b] [c, d] h (.inr rfl) hx hy rfl rfl
  simpa using this
theorem eq4 [T : TyTab P] {dst : Option Tmp} {t yt : TypeId} {x y : Operand} {type : TypeId} {pos : String} {after : Array Edge} {guard : Option (Nat × Bool)} {a b c d a' b' c' d' : Int} (h : EqTy P t 4)
    (hx : ev F x = some (.agg [.v (.int .i64 a), .v (.int .i64 b), .v (.int .i64 c), .v (.int .i64 d)])) (hy : ev F y = some (.agg [.v (.int .i64 a'), .v (.int .i64 b'), .v (.int .i64 c'), .v (.int .i64 d')])) :
    DSem P .p ⟨dst, .binOp .eql t x y yt, type, pos, after, guard⟩ F H (.v (.bool (decide (a = a' ∧ b = b' ∧ c = c' ∧ d = d')))) H := by
  have := eqL (dst := dst) (yt := yt) (type := type) (pos := pos) (after := after) (guard := guard) (H := H) [a, b, c, d] [a', b', c', d'] h (.inl rfl) hx hy rfl rfl
  simpa using this
theorem neq4 [T : TyTab P] {dst : Option Tmp} {t yt : TypeId} {x y : Operand} {type : TypeId} {pos : String} {after : Array Edge} {guard : Option (Nat × Bool)} {a b c d a' b' c' d' : Int} (h : EqTy P t 4)
    (hx : ev F x = some (.agg [.v (.int .i64 a), .v (.int .i64 b), .v (.int .i64 c), .v (.int .i64 d)])) (hy : ev F y = some (.agg [.v (.int .i64 a'), .v (.int .i64 b'), .v (.int .i64 c'), .v (.int .i64 d')])) :
    DSem P .p ⟨dst, .binOp .neq t x y yt, type, pos, after, guard⟩ F H (.v (.bool (!decide (a = a' ∧ b = b' ∧ c = c' ∧ d = d')))) H := by
  have := eqL (dst := dst) (yt := yt) (type := type) (pos := pos) (after := after) (guard := guard) (H := H) [a, b, c, d] [a', b', c', d'] h (.inr rfl) hx hy rfl rfl
  simpa using this
theorem eqS [T : TyTab P] {dst : Option Tmp} {t yt : TypeId} {x y : Operand} {type : TypeId} {pos : String} {after : Array Edge} {guard : Option (Nat × Bool)} {n : Nat} (xs : List Int) (h : EqTy P t n)
    (hx : ev F x = some (.agg (intsA xs))) (hy : ev F y = some (.agg (intsA xs))) (hlx : xs.length = n) : DSem P .p ⟨dst, .binOp .eql t x y yt, type, pos, after, guard⟩ F H (.v (.bool true)) H := by
  simpa using eqL (dst := dst) (yt := yt) (type := type) (pos := pos) (after := after) (guard := guard) (H := H) xs xs h (.inl rfl) hx hy hlx hlx
theorem neqS [T : TyTab P] {dst : Option Tmp} {t yt : TypeId} {x y : Operand} {type : TypeId} {pos : String} {after : Array Edge} {guard : Option (Nat × Bool)} {n : Nat} (xs : List Int) (h : EqTy P t n)
    (hx : ev F x = some (.agg (intsA xs))) (hy : ev F y = some (.agg (intsA xs))) (hlx : xs.length = n) : DSem P .p ⟨dst, .binOp .neq t x y yt, type, pos, after, guard⟩ F H (.v (.bool false)) H := by
  simpa using eqL (dst := dst) (yt := yt) (type := type) (pos := pos) (after := after) (guard := guard) (H := H) xs xs h (.inr rfl) hx hy hlx hlx
theorem eq2s [T : TyTab P] {dst : Option Tmp} {t yt : TypeId} {x y : Operand} {type : TypeId} {pos : String} {after : Array Edge} {guard : Option (Nat × Bool)} {a b : Int} (h : EqTy P t 2)
    (hx : ev F x = some (.agg [.v (.int .i64 a), .v (.int .i64 b)])) (hy : ev F y = some (.agg [.v (.int .i64 a), .v (.int .i64 b)])) : DSem P .p ⟨dst, .binOp .eql t x y yt, type, pos, after, guard⟩ F H (.v (.bool true)) H := eqS [a, b] h hx hy rfl
end
end Go.AL
