/-
  Structs of whole numbers held against one another. No conditions.
-/
import Derived.Test.YthogeodbnnfamaaA15
set_option linter.unusedVariables false
set_option linter.unusedSimpArgs false
namespace Go.AL
open Go

section
variable {P : Program}

def intsV (xs : List Int) : List Value := xs.map fun x => .int .i64 x
def valI (ag : Bool) (xs : List Int) : Value := cond ag (.agg (intsV xs).toArray) (.int .i64 (xs.headD 0))

def fieldsRun (tab : List TyRow) (ok : TypeId → Bool) (size : Nat) : Nat → List Field → Bool
  | off, [] => Nat.beq off size
  | off, f :: fs => Nat.beq f.offset off && decide (f.name ≠ "_") && ok f.type && (match tfind tab f.type with
    | some r => fieldsRun tab ok size (off + r.size) fs
    | none => false)

/-- only whole numbers, one behind the other -/
def allInt (tab : List TyRow) (st : TypeId → Bool) : Nat → TypeId → Bool
  | 0, _ => false
  | n + 1, t => match tfind tab t with
    | some r => (match r.d with
      | .int .i64 => Nat.beq r.size 1
      | .struct fs => !st t && fieldsRun tab (allInt tab st n) r.size 0 fs.toList
      | _ => false)
    | none => false

theorem part_ints [T : TyTab P] {t : TypeId} {r : TyRow} (h : tfind T.tab t = some r) {xs : List Int} {off : Nat} (hin : off + r.size ≤ xs.length) (hs : aggB r.d = false → r.size = 1) (w : World) :
    (part t (intsV xs).toArray off).run P w = .ok (valI (aggB r.d) ((xs.drop off).take r.size)) w := by
  unfold part
  simp only [Sem.run_bind, run_agg h, Result.andThen_ok]
  cases ha : aggB r.d with
  | true =>
    simp only [if_true, Sem.run_bind, run_size h, Result.andThen_ok, Sem.run_pure, valI, cond_true]
    congr 2
    apply Array.ext'
    simp [intsV, List.extract_eq_take_drop, List.map_take, List.map_drop]
  | false =>
    have h1 := hs ha
    simp only [Bool.false_eq_true, if_false]
    have hlt : off < xs.length := by omega
    have : (intsV xs).toArray[off]? = some (.int .i64 xs[off]) := by simp [intsV, hlt]
    rw [this]
    simp only [Sem.run_pure, valI, cond_false]
    congr 2
    rw [h1]
    have : (xs.drop off).take 1 = [xs[off]] := by
      rw [List.drop_eq_getElem_cons hlt]; rfl
    rw [this]; rfl

theorem drop_split (xs ys : List Int) (off n : Nat) : (xs.drop off = ys.drop off) ↔ ((xs.drop off).take n = (ys.drop off).take n ∧ xs.drop (off + n) = ys.drop (off + n)) := by
  constructor
  · intro h
    refine ⟨by rw [h], ?_⟩
    rw [← List.drop_drop, ← List.drop_drop, h]
  · rintro ⟨h1, h2⟩
    rw [← List.take_append_drop n (xs.drop off), ← List.take_append_drop n (ys.drop off), h1, List.drop_drop, List.drop_drop, h2]

theorem fieldsRun_le {tab : List TyRow} {ok : TypeId → Bool} {size : Nat} : ∀ {fs : List Field} {off : Nat}, fieldsRun tab ok size off fs = true → off ≤ size
  | [], off, h => by have := Nat.eq_of_beq_eq_true h; omega
  | f :: fs, off, h => by
    simp only [fieldsRun, Bool.and_eq_true] at h
    split at h
    · have := fieldsRun_le h.2; omega
    · simp at h

theorem allInt_run [T : TyTab P] : ∀ (n d : Nat) (t : TypeId) (r : TyRow), n ≤ d → allInt T.tab P.stoodInHeld n t = true → tfind T.tab t = some r → (aggB r.d = false → r.size = 1) ∧
    ∀ (xs ys : List Int) (w : World), xs.length = r.size → ys.length = r.size → (Op.equalIn d t (valI (aggB r.d) xs) (valI (aggB r.d) ys)).run P w = .ok (decide (xs = ys)) w
  | 0, d, t, r, _, h, _ => by cases h
  | n + 1, 0, t, r, hd, _, _ => absurd hd (by omega)
  | n + 1, d + 1, t, r, hd, h, ht => by
    simp only [allInt, ht] at h
    split at h
    · rename_i hk
      have h1 := Nat.eq_of_beq_eq_true h
      refine ⟨fun _ => h1, fun xs ys w hx hy => ?_⟩
      rw [h1] at hx hy
      obtain ⟨x, rfl⟩ := List.length_eq_one_iff.1 hx
      obtain ⟨y, rfl⟩ := List.length_eq_one_iff.1 hy
      have hu : P.underlying t = some (.int .i64) := by rw [ty_und ht, hk]
      rw [hk]
      show (Op.equalIn (d + 1) t (.int .i64 x) (.int .i64 y)).run P w = _
      rw [run_equalIn_int w d t .i64 .i64 x y hu]
      congr 1
      simp
      rfl
    · rename_i fs hk
      simp only [Bool.and_eq_true, Bool.not_eq_true'] at h
      obtain ⟨h1, h2⟩ := h
      have hu : P.underlying t = some (.struct fs) := by rw [ty_und ht, hk]
      have hfo : P.fieldsOf t = fs := by simp [Program.fieldsOf, hu]
      rw [hk]
      refine ⟨(fun h => by cases h), fun xs ys w hx hy => ?_⟩
      show (Op.equalIn (d + 1) t (.agg (intsV xs).toArray) (.agg (intsV ys).toArray)).run P w = _
      rw [run_equalIn_struct w d t _ _ (by rw [hfo]; exact hu) h1, hfo]
      have key : ∀ (gs : List Field) (off : Nat) (w : World), fieldsRun T.tab (allInt T.tab P.stoodInHeld n) r.size off gs = true →
          (Op.eqFields d (intsV xs).toArray (intsV ys).toArray gs).run P w = .ok (decide (xs.drop off = ys.drop off)) w := by
        intro gs
        induction gs with
        | nil =>
          intro off w hg
          have := Nat.eq_of_beq_eq_true hg
          simp only [Op.eqFields, Sem.run_pure]
          rw [List.drop_of_length_le (by omega), List.drop_of_length_le (by omega)]
          simp
        | cons f gs ih =>
          intro off w hg
          have hle := fieldsRun_le hg
          simp only [fieldsRun, Bool.and_eq_true] at hg
          obtain ⟨⟨⟨g1, g2⟩, g3⟩, g4⟩ := hg
          split at g4
          · rename_i rf hrf
            have hle2 := fieldsRun_le g4
            have g1 := Nat.eq_of_beq_eq_true g1
            have g2 := of_decide_eq_true g2
            obtain ⟨a1, a2⟩ := allInt_run n d f.type rf (by omega) g3 hrf
            have p1 := part_ints (P := P) hrf (xs := xs) (off := off) (by omega) a1 w
            have p2 := part_ints (P := P) hrf (xs := ys) (off := off) (by omega) a1 w
            have e := a2 ((xs.drop off).take rf.size) ((ys.drop off).take rf.size) w (by simp; omega) (by simp; omega)
            simp only [Op.eqFields, g2, ne_eq, not_false_eq_true, if_true, Sem.run_bind, g1, p1, p2, Result.andThen_ok, e]
            by_cases hq : (xs.drop off).take rf.size = (ys.drop off).take rf.size
            · simp only [hq, decide_true, Bool.not_true, Bool.false_eq_true, if_false]
              rw [ih _ w g4]
              congr 1
              have := drop_split xs ys off rf.size
              simp only [hq, true_and] at this
              exact decide_eq_decide.2 this.symm
            · have : ¬ (xs.drop off = ys.drop off) := fun h => hq (by rw [h])
              simp [hq, this]
          · cases g4
      have := key fs.toList 0 w h2
      simpa using this
    · cases h

/-- a struct of whole numbers as an abstract value -/
def intsA (xs : List Int) : List AVal := xs.map fun x => .v (.int .i64 x)

theorem intsA_rel {c : Ctx} : ∀ {xs : List Int} {us : List Value}, RelL c (intsA xs) us → us = intsV xs
  | [], us, h => h
  | x :: xs, us, h => by
    obtain ⟨u, us', rfl, r, rs⟩ := h
    cases (r : u = _)
    rw [intsA_rel (xs := xs) rs]
    rfl

theorem eq_ints [T : TyTab P] {dst : Option Tmp} {op : BinOp} {t yt : TypeId} {x y : Operand} {type : TypeId} {pos : String} {after : Array Edge} {guard : Option (Nat × Bool)} {F : Fr} {H : List AObj} {xs ys : List Int} {r : TyRow}
    (hop : op = .eql ∨ op = .neq) (hx : ev F x = some (.agg (intsA xs))) (hy : ev F y = some (.agg (intsA ys))) (ht : tfind T.tab t = some r) (hlx : xs.length = r.size) (hly : ys.length = r.size) (ha : aggB r.d = true)
    (hi : allInt T.tab P.stoodInHeld 100 t = true) (hg : P.eqGuardType P.depth t = false) :
    DSem P .p ⟨dst, .binOp op t x y yt, type, pos, after, guard⟩ F H (.v (.bool (if op = .eql then decide (xs = ys) else !decide (xs = ys)))) H := by
  refine ⟨rfl, fun H' => ?_⟩
  intro ext w β ρ hI hext hκ hρ
  obtain ⟨a, e1, r1⟩ := hρ x (by simp [Op.operands]) _ hx
  obtain ⟨b, e2, r2⟩ := hρ y (by simp [Op.operands]) _ hy
  have h1 : a = (intsV xs).toArray := by apply Array.ext'; simpa using intsA_rel r1
  have h2 : b = (intsV ys).toArray := by apply Array.ext'; simpa using intsA_rel r2
  subst h1; subst h2
  have h3 := (allInt_run (P := P) 100 10000 t r (by omega) hi ht).2 xs ys w hlx hly
  rw [ha] at h3
  have h3' : (Op.equal t (.agg (intsV xs).toArray) (.agg (intsV ys).toArray)).run P w = .ok (decide (xs = ys)) w := h3
  have h4 : (execOp ρ ⟨dst, .binOp op t x y yt, type, pos, after, guard⟩).run P w = .ok (.value (.bool (if op = .eql then decide (xs = ys) else !decide (xs = ys)))) w := by
    rcases hop with rfl | rfl
    · simp [execOp, e1, e2, eqGuard, hg, binOp, h3']
    · simp [execOp, e1, e2, eqGuard, hg, binOp, h3']
  rw [h4]
  exact came_same hI rfl
end
end Go.AL
