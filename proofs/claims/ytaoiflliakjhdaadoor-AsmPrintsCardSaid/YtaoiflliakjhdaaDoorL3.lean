/-
  The logic of walks, part 3. Structs of whole numbers held against one another. A guard upon a truth value that is not known: both cases. Elements at a place that is known to be in range. Rows: owned arrays of which the whole room is seen; parts of these; copying, appending where there is room, clearing. Rows again: parts of them, how much room there is, clearing, appending of zeros, and that two owned things do not overlap; an owned slice is seen as a row, and back. An owned slice is seen as a row, and back; no slice is taken for an owned one; cuts of which nothing is used; comparing with nil; two owned things do not overlap. A value in a frame is told in other words. A slice that is built is owned; an owned slice is given up; what is called is told of by a condition. A call that is handed owned things. What is no longer wanted of the owned things is let go of. A contract for a slice serves also where its room is known to be its length. No conditions.
-/
import Derived.Test.YtaoiflliakjhdaaDoorL2
import Derived.Lib.Overlaps
import Derived.Lib.SliceRun
set_option linter.unusedVariables false
set_option linter.unusedSimpArgs false
namespace Go.AL
open Go

section
variable {P : Program}

def intsV (xs : List Int) : List Value := xs.map fun x => .int .i64 x
def valI (ag : Bool) (xs : List Int) : Value := cond ag (.agg (intsV xs).toArray) (.int .i64 (xs.headD 0))

def fieldsRun (tab : List TyRow) (ok : TypeId → Bool) (size : Nat) : Nat → List Field → Bool
  | off, [] => Nat.beq off size
  | off, f :: fs => Nat.beq f.offset off && decide (f.name ≠ "_") && ok f.type && (match tfind tab f.type with
    | some r => fieldsRun tab ok size (off + r.size) fs
    | none => false)

/-- only whole numbers, one behind the other -/
def allInt (tab : List TyRow) (st : TypeId → Bool) : Nat → TypeId → Bool
  | 0, _ => false
  | n + 1, t => match tfind tab t with
    | some r => (match r.d with
      | .int .i64 => Nat.beq r.size 1
      | .struct fs => !st t && fieldsRun tab (allInt tab st n) r.size 0 fs.toList
      | _ => false)
    | none => false

theorem part_ints [T : TyTab P] {t : TypeId} {r : TyRow} (h : tfind T.tab t = some r) {xs : List Int} {off : Nat} (hin : off + r.size ≤ xs.length) (hs : aggB r.d = false → r.size = 1) (w : World) :
    (part t (intsV xs).toArray off).run P w = .ok (valI (aggB r.d) ((xs.drop off).take r.size)) w := by
  unfold part
  simp only [Sem.run_bind, run_agg h, Result.andThen_ok]
  cases ha : aggB r.d with
  | true =>
    simp only [if_true, Sem.run_bind, run_size h, Result.andThen_ok, Sem.run_pure, valI, cond_true]
    congr 2
    apply Array.ext'
    simp [intsV, List.extract_eq_take_drop, List.map_take, List.map_drop]
  | false =>
    have h1 := hs ha
    simp only [Bool.false_eq_true, if_false]
    have hlt : off < xs.length := by omega
    have : (intsV xs).toArray[off]? = some (.int .i64 xs[off]) := by simp [intsV, hlt]
    rw [this]
    simp only [Sem.run_pure, valI, cond_false]
    congr 2
    rw [h1]
    have : (xs.drop off).take 1 = [xs[off]] := by
      rw [List.drop_eq_getElem_cons hlt]; rfl
    rw [this]; rfl

theorem drop_split (xs ys : List Int) (off n : Nat) : (xs.drop off = ys.drop off) ↔ ((xs.drop off).take n = (ys.drop off).take n ∧ xs.drop (off + n) = ys.drop (off + n)) := by
  constructor
  · intro h
    refine ⟨by rw [h], ?_⟩
    rw [← List.drop_drop, ← List.drop_drop, h]
  · rintro ⟨h1, h2⟩
    rw [← List.take_append_drop n (xs.drop off), ← List.take_append_drop n (ys.drop off), h1, List.drop_drop, List.drop_drop, h2]

theorem fieldsRun_le {tab : List TyRow} {ok : TypeId → Bool} {size : Nat} : ∀ {fs : List Field} {off : Nat}, fieldsRun tab ok size off fs = true → off ≤ size
  | [], off, h => by have := Nat.eq_of_beq_eq_true h; omega
  | f :: fs, off, h => by
    simp only [fieldsRun, Bool.and_eq_true] at h
    split at h
    · have := fieldsRun_le h.2; omega
    · simp at h

theorem allInt_run [T : TyTab P] : ∀ (n d : Nat) (t : TypeId) (r : TyRow), n ≤ d → allInt T.tab P.stoodInHeld n t = true → tfind T.tab t = some r → (aggB r.d = false → r.size = 1) ∧
    ∀ (xs ys : List Int) (w : World), xs.length = r.size → ys.length = r.size → (Op.equalIn d t (valI (aggB r.d) xs) (valI (aggB r.d) ys)).run P w = .ok (decide (xs = ys)) w
  | 0, d, t, r, _, h, _ => by cases h
  | n + 1, 0, t, r, hd, _, _ => absurd hd (by omega)
  | n + 1, d + 1, t, r, hd, h, ht => by
    simp only [allInt, ht] at h
    split at h
    · rename_i hk
      have h1 := Nat.eq_of_beq_eq_true h
      refine ⟨fun _ => h1, fun xs ys w hx hy => ?_⟩
      rw [h1] at hx hy
      obtain ⟨x, rfl⟩ := List.length_eq_one_iff.1 hx
      obtain ⟨y, rfl⟩ := List.length_eq_one_iff.1 hy
      have hu : P.underlying t = some (.int .i64) := by rw [ty_und ht, hk]
      rw [hk]
      show (Op.equalIn (d + 1) t (.int .i64 x) (.int .i64 y)).run P w = _
      rw [run_equalIn_int w d t .i64 .i64 x y hu]
      congr 1
      simp
      rfl
    · rename_i fs hk
      simp only [Bool.and_eq_true, Bool.not_eq_true'] at h
      obtain ⟨h1, h2⟩ := h
      have hu : P.underlying t = some (.struct fs) := by rw [ty_und ht, hk]
      have hfo : P.fieldsOf t = fs := by simp [Program.fieldsOf, hu]
      rw [hk]
      refine ⟨(fun h => by cases h), fun xs ys w hx hy => ?_⟩
      show (Op.equalIn (d + 1) t (.agg (intsV xs).toArray) (.agg (intsV ys).toArray)).run P w = _
      rw [run_equalIn_struct w d t _ _ (by rw [hfo]; exact hu) h1, hfo]
      have key : ∀ (gs : List Field) (off : Nat) (w : World), fieldsRun T.tab (allInt T.tab P.stoodInHeld n) r.size off gs = true →
          (Op.eqFields d (intsV xs).toArray (intsV ys).toArray gs).run P w = .ok (decide (xs.drop off = ys.drop off)) w := by
        intro gs
        induction gs with
        | nil =>
          intro off w hg
          have := Nat.eq_of_beq_eq_true hg
          simp only [Op.eqFields, Sem.run_pure]
          rw [List.drop_of_length_le (by omega), List.drop_of_length_le (by omega)]
          simp
        | cons f gs ih =>
          intro off w hg
          have hle := fieldsRun_le hg
          simp only [fieldsRun, Bool.and_eq_true] at hg
          obtain ⟨⟨⟨g1, g2⟩, g3⟩, g4⟩ := hg
          split at g4
          · rename_i rf hrf
            have hle2 := fieldsRun_le g4
            have g1 := Nat.eq_of_beq_eq_true g1
            have g2 := of_decide_eq_true g2
            obtain ⟨a1, a2⟩ := allInt_run n d f.type rf (by omega) g3 hrf
            have p1 := part_ints (P := P) hrf (xs := xs) (off := off) (by omega) a1 w
            have p2 := part_ints (P := P) hrf (xs := ys) (off := off) (by omega) a1 w
            have e := a2 ((xs.drop off).take rf.size) ((ys.drop off).take rf.size) w (by simp; omega) (by simp; omega)
            simp only [Op.eqFields, g2, ne_eq, not_false_eq_true, if_true, Sem.run_bind, g1, p1, p2, Result.andThen_ok, e]
            by_cases hq : (xs.drop off).take rf.size = (ys.drop off).take rf.size
            · simp only [hq, decide_true, Bool.not_true, Bool.false_eq_true, if_false]
              rw [ih _ w g4]
              congr 1
              have := drop_split xs ys off rf.size
              simp only [hq, true_and] at this
              exact decide_eq_decide.2 this.symm
            · have : ¬ (xs.drop off = ys.drop off) := fun h => hq (by rw [h])
              simp [hq, this]
          · cases g4
      have := key fs.toList 0 w h2
      simpa using this
    · cases h

/-- a struct of whole numbers as an abstract value -/
def intsA (xs : List Int) : List AVal := xs.map fun x => .v (.int .i64 x)

theorem intsA_rel {c : Ctx} : ∀ {xs : List Int} {us : List Value}, RelL c (intsA xs) us → us = intsV xs
  | [], us, h => h
  | x :: xs, us, h => by
    obtain ⟨u, us', rfl, r, rs⟩ := h
    cases (r : u = _)
    rw [intsA_rel (xs := xs) rs]
    rfl

theorem eq_ints [T : TyTab P] {dst : Option Tmp} {op : BinOp} {t yt : TypeId} {x y : Operand} {type : TypeId} {pos : String} {after : Array Edge} {guard : Option (Nat × Bool)} {F : Fr} {H : List AObj} {xs ys : List Int} {r : TyRow}
    (hop : op = .eql ∨ op = .neq) (hx : ev F x = some (.agg (intsA xs))) (hy : ev F y = some (.agg (intsA ys))) (ht : tfind T.tab t = some r) (hlx : xs.length = r.size) (hly : ys.length = r.size) (ha : aggB r.d = true)
    (hi : allInt T.tab P.stoodInHeld 100 t = true) (hg : P.eqGuardType P.depth t = false) :
    DSem P .p ⟨dst, .binOp op t x y yt, type, pos, after, guard⟩ F H (.v (.bool (if op = .eql then decide (xs = ys) else !decide (xs = ys)))) H := by
  refine ⟨rfl, fun H' => ?_⟩
  intro ext w β ρ hI hext hκ hρ
  obtain ⟨a, e1, r1⟩ := hρ x (by simp [Op.operands]) _ hx
  obtain ⟨b, e2, r2⟩ := hρ y (by simp [Op.operands]) _ hy
  have h1 : a = (intsV xs).toArray := by apply Array.ext'; simpa using intsA_rel r1
  have h2 : b = (intsV ys).toArray := by apply Array.ext'; simpa using intsA_rel r2
  subst h1; subst h2
  have h3 := (allInt_run (P := P) 100 10000 t r (by omega) hi ht).2 xs ys w hlx hly
  rw [ha] at h3
  have h3' : (Op.equal t (.agg (intsV xs).toArray) (.agg (intsV ys).toArray)).run P w = .ok (decide (xs = ys)) w := h3
  have h4 : (execOp ρ ⟨dst, .binOp op t x y yt, type, pos, after, guard⟩).run P w = .ok (.value (.bool (if op = .eql then decide (xs = ys) else !decide (xs = ys)))) w := by
    rcases hop with rfl | rfl
    · simp [execOp, e1, e2, eqGuard, hg, binOp, h3']
    · simp [execOp, e1, e2, eqGuard, hg, binOp, h3']
  rw [h4]
  exact came_same hI rfl
end
end Go.AL

set_option linter.unusedVariables false
namespace Go.AL
open Go

def fset : Fr → Nat → AVal → Fr
  | [], _, _ => []
  | (k, x) :: r, t, v => cond (Nat.beq k t) ((k, v) :: r) ((k, x) :: fset r t v)

theorem fset_same : ∀ {F : Fr} {t : Nat} {v : AVal}, fget F t = some v → fset F t v = F
  | [], _, _, h => by cases h
  | (k, x) :: r, t, v, h => by
    simp only [fget] at h
    simp only [fset]
    cases hb : Nat.beq k t with
    | true => rw [hb] at h; simp at h; subst h; rfl
    | false => rw [hb] at h; simp at h; simp [fset_same h]

def gtmp (ops : Array Oper) (g : Option (Nat × Bool)) : Option Nat :=
  match g with
  | some (j, _) => (ops[j]?).bind (·.dst)
  | none => none

section
variable {P : Program} {G : Gh} {ops : Array Oper} {Q : APost} {R : Fr → List AObj → Prop}

theorem awl_g {F : Fr} {H : List AObj} {d : Option Tmp} {o : Op} {ty : TypeId} {pos : String} {aft : Array Edge} {g : Option (Nat × Bool)} {l : List Oper} {t : Nat} {b : Bool}
    (ht : gtmp ops g = some t) (hb : fget F t = some (.v (.bool b)))
    (h1 : b = true → AWL P G ops Q (⟨d, o, ty, pos, aft, g⟩ :: l) (fset F t (.v (.bool true))) H)
    (h2 : b = false → AWL P G ops Q (⟨d, o, ty, pos, aft, g⟩ :: l) (fset F t (.v (.bool false))) H) :
    AWL P G ops Q (⟨d, o, ty, pos, aft, g⟩ :: l) F H := by
  cases b with
  | true => have := h1 rfl; rwa [fset_same hb] at this
  | false => have := h2 rfl; rwa [fset_same hb] at this

theorem aw_condS {c : Tmp} {x y : Code} {F : Fr} {H : List AObj} {b : Bool} (hc : fget F c = some (.v (.bool b))) (ht : b = true → AW P G x Q (fset F c (.v (.bool true))) H) (hf : b = false → AW P G y Q (fset F c (.v (.bool false))) H) :
    AW P G (.cond (.tmp c) x y) Q F H := by
  refine aw_cond (b := b) hc (fun h => ?_) (fun h => ?_)
  · have := ht h; rw [h] at hc; rwa [fset_same hc] at this
  · have := hf h; rw [h] at hc; rwa [fset_same hc] at this

theorem awd_g {F : Fr} {H : List AObj} {i : Nat} {k : K} {d : Option Tmp} {o : Op} {ty : TypeId} {pos : String} {aft : Array Edge} {g : Option (Nat × Bool)} {l : List (Nat × Oper × K)} {t : Nat} {b : Bool}
    (ht : gtmp ops g = some t) (hb : fget F t = some (.v (.bool b)))
    (h1 : b = true → AWD P G ops R ((i, ⟨d, o, ty, pos, aft, g⟩, k) :: l) (fset F t (.v (.bool true))) H)
    (h2 : b = false → AWD P G ops R ((i, ⟨d, o, ty, pos, aft, g⟩, k) :: l) (fset F t (.v (.bool false))) H) :
    AWD P G ops R ((i, ⟨d, o, ty, pos, aft, g⟩, k) :: l) F H := by
  cases b with
  | true => have := h1 rfl; rwa [fset_same hb] at this
  | false => have := h2 rfl; rwa [fset_same hb] at this

/-- the element at a place, or a dull one -/
def at' {α : Type} [Inhabited α] (l : List α) (n : Int) : α := l.getD n.toNat default

theorem at_nat {α : Type} [Inhabited α] (l : List α) (k : Nat) (h : k < l.length) : at' l (k : Int) = l[k] := by
  simp [at', h]

theorem index_at [T : TyTab P] {dst : Option Tmp} {t : TypeId} {x i : Operand} {type : TypeId} {pos : String} {after : Array Edge} {guard : Option (Nat × Bool)} {F : Fr} {H : List AObj} {a : AVal} {α : Type} [Inhabited α] {enc : α → AVal} {l : List α} {k : IntKind} {n : Int} {e : TypeId} {r r' : TyRow}
    (hx : ev F x = some a) (ha : xsOf a = some (l.map enc)) (hi : ev F i = some (.v (.int k n))) (ht : tfind T.tab t = some r') (hd : r'.d = .slice e) (he : tfind T.tab e = some r)
    (hl : (enc (at' l n)).cells.length = r.size) (hf : (enc (at' l n)).flat = true) (h0 : 0 ≤ n) (h1 : n < l.length) : DSem P .p ⟨dst, .indexAddr t x i, type, pos, after, guard⟩ F H (.pp (enc (at' l n)).cells 0) H :=
  index_map hx ha hi ht hd he h0 (by have : n.toNat < l.length := by omega
                                     simp [at', this]) hl hf
end
end Go.AL

set_option linter.unusedVariables false
set_option linter.unusedSimpArgs false
namespace Go.AL
open Go

section
variable {P : Program}

theorem mul_lt_of {i n s q : Nat} (h : i < n) (hq : q < s) : i * s + q < n * s := by
  have : (i + 1) * s ≤ n * s := Nat.mul_le_mul_right _ h
  rw [Nat.add_mul, Nat.one_mul] at this; omega

/-- rows that are laid over others -/
theorem rows_splice {c : Ctx} {s o : Nat} {xs ys : List AVal} {us vs us' : List Value} (hx : RelR c s (fun i => us[i]?) 0 xs) (hy : RelR c s (fun i => vs[i]?) 0 ys) (hl : xs.length * s ≤ us.length) (hv : vs.length = ys.length * s)
    (ho : o + ys.length ≤ xs.length) (hu : us' = us.take (o * s) ++ vs ++ us.drop (o * s + vs.length)) : RelR c s (fun i => us'[i]?) 0 (xs.take o ++ ys ++ xs.drop (o + ys.length)) := by
  have hm : o * s + ys.length * s ≤ us.length := by rw [← Nat.add_mul]; exact Nat.le_trans (Nat.mul_le_mul_right _ ho) hl
  have hl1 : (us.take (o * s)).length = o * s := by rw [List.length_take]; omega
  have hget : ∀ i, us'[i]? = if i < o * s then us[i]? else if i < o * s + ys.length * s then vs[i - o * s]? else us[i]? := fun i => by
    rw [hu]
    by_cases h1 : i < o * s
    · rw [if_pos h1, List.append_assoc, List.getElem?_append_left (by omega), List.getElem?_take, if_pos h1]
    · rw [if_neg h1]
      by_cases h2 : i < o * s + ys.length * s
      · rw [if_pos h2, List.append_assoc, List.getElem?_append_right (by omega), hl1, List.getElem?_append_left (by omega)]
      · rw [if_neg h2, List.getElem?_append_right (by rw [List.length_append]; omega), List.getElem?_drop, List.length_append, hl1]
        congr 1; omega
  have hlt : (xs.take o).length = o := by rw [List.length_take]; omega
  refine RelR.of_get fun i a ha => ?_
  simp only [Nat.zero_add]
  by_cases h1 : i < o
  · rw [List.append_assoc, List.getElem?_append_left (by omega), List.getElem?_take, if_pos h1] at ha
    obtain ⟨u, u1, u2, u3⟩ := hx.get ha
    refine ⟨u, u1, u2, fun q hq => ?_⟩
    have := mul_lt_of h1 hq
    rw [hget, if_pos this]
    simpa using u3 q hq
  · by_cases h2 : i < o + ys.length
    · rw [List.append_assoc, List.getElem?_append_right (by omega), hlt, List.getElem?_append_left (by omega)] at ha
      obtain ⟨u, u1, u2, u3⟩ := hy.get ha
      refine ⟨u, u1, u2, fun q hq => ?_⟩
      have e1 : (i - o) * s + q < ys.length * s := mul_lt_of (by omega) hq
      have e2 : i * s = o * s + (i - o) * s := by rw [← Nat.add_mul]; congr 1; omega
      rw [hget, if_neg (by omega), if_pos (by omega)]
      have := u3 q hq
      simp only [Nat.zero_add] at this
      rw [← this]; congr 1; omega
    · rw [List.getElem?_append_right (by rw [List.length_append]; omega), List.length_append, hlt, List.getElem?_drop] at ha
      rw [show o + ys.length + (i - (o + ys.length)) = i by omega] at ha
      obtain ⟨u, u1, u2, u3⟩ := hx.get ha
      refine ⟨u, u1, u2, fun q hq => ?_⟩
      have e2 : o * s + ys.length * s ≤ i * s := by rw [← Nat.add_mul]; exact Nat.mul_le_mul_right _ (by omega)
      rw [hget, if_neg (by omega), if_neg (by omega)]
      simpa using u3 q hq

/-- a part of rows -/
theorem rows_part {c : Ctx} {s o n : Nat} {xs : List AVal} {us : List Value} (hx : RelR c s (fun i => us[i]?) 0 xs) : RelR c s (fun i => us[o * s + i]?) 0 ((xs.drop o).take n) := by
  refine RelR.of_get fun i a ha => ?_
  simp only [Nat.zero_add]
  have hi : i < n := by
    have := (List.getElem?_eq_some_iff.1 ha).1
    rw [List.length_take] at this; omega
  rw [List.getElem?_take, if_pos hi, List.getElem?_drop] at ha
  obtain ⟨u, u1, u2, u3⟩ := hx.get ha
  refine ⟨u, u1, u2, fun q hq => ?_⟩
  have := u3 q hq
  simp only [Nat.zero_add] at this
  rw [← this]
  congr 1
  rw [Nat.add_mul]; omega

theorem rows_take {c : Ctx} {s n : Nat} {xs : List AVal} {rd : Nat → Option Value} (hx : RelR c s rd 0 xs) : RelR c s rd 0 (xs.take n) := by
  refine RelR.of_get fun i a ha => ?_
  have hi : i < n := by
    have := (List.getElem?_eq_some_iff.1 ha).1
    rw [List.length_take] at this; omega
  rw [List.getElem?_take, if_pos hi] at ha
  exact hx.get ha

theorem hd_open {ext : Nat → Prop} {w : World} {H : List AObj} {β : List Ent} (hI : Inv ext w H β) {j g off len : Nat} {t : TypeId} {es : Nat} {xs : List AVal} (hj : H[j]? = some (.row g t es xs)) {u : Value} (hr : Rel (ctx ext w β) (.hd j g off len) u) :
    ∃ ent b us o m, β[j]? = some ent ∧ ent.gen = g ∧ g ≠ 0 ∧ ent.es = es ∧ ent.len = xs.length ∧ ent.cap = xs.length ∧ ent.blk = some b ∧ u = .slice (some ⟨b, o, none⟩) len m ∧ off + len ≤ xs.length ∧
      (len ≠ 0 ∨ off = 0 → o = off * es ∧ m = xs.length - off) ∧ w.heap[b]? = some (.cells us t (0, 0)) ∧ us.size = xs.length * es ∧ RelR { (ctx ext w β) with β := [] } es (fun i => us[i]?) 0 xs := by
  obtain ⟨_, ent, hent, _, hcond⟩ := hr
  obtain ⟨k1, k0, k2, k3, k4, b, us, k5, k6, k7, k8⟩ := hI.obj _ _ ent hj hent
  obtain ⟨b', o, m, c1, c2, c3, c4⟩ := hcond k1
  rw [k5] at c1; injection c1 with c1; subst c1
  rw [k4] at c2 c4 k7
  rw [k2] at c4
  exact ⟨ent, b, us, o, m, hent, k1, k0, k2, k3, k4, k5, c3, c2, c4, k6, k7, k8⟩

/-- rows as a source of cells -/
def SrcK (H : List AObj) (s k : Nat) (a : AVal) (zs : List AVal) (n : Nat) : Prop :=
  zs.length = k ∧ k ≤ n ∧ ∀ (ext : Nat → Prop) (w : World) (β : List Ent) (u : Value), Inv ext w H β → Rel (ctx ext w β) a u →
    ∃ (A : Option Addr) (m : Nat) (us : List Value), u = .slice A n m ∧ us.length = k * s ∧ (∀ v ∈ us, v.oneCell' = true) ∧ RelR { (ctx ext w β) with β := [] } s (fun i => us[i]?) 0 zs ∧
      (k = 0 ∨ ∃ b o, A = some ⟨b, o, none⟩ ∧ ∀ j v, us[j]? = some v → w.cell? ⟨b, o + j, none⟩ = some v)

theorem SrcK.of {H : List AObj} {s k : Nat} {a : AVal} {ys : List AVal} (h : SrcOf H a ys) (ho : ElemsOk s ys) (hk : k ≤ ys.length) : SrcK H s k a (ys.take k) ys.length := by
  refine ⟨by rw [List.length_take]; omega, hk, fun ext w β u hI hr => ?_⟩
  obtain ⟨A, m, us, u1, u2, u3, u4, u5⟩ := src_cells hI h ho hr
  have hmul : k * s ≤ us.length := by rw [u2]; exact Nat.mul_le_mul_right _ hk
  refine ⟨A, m, us.take (k * s), u1, by rw [List.length_take]; omega, fun v hv => u3 v (List.mem_of_mem_take hv), ?_, ?_⟩
  · refine relR_rd (rows_take u4) fun i hi => ?_
    rw [List.length_take, Nat.min_eq_left hk] at hi
    rw [List.getElem?_take, if_pos hi]
  · rcases u5 with h | ⟨b, o, h1, h2⟩
    · subst h; left; simpa using hk
    · refine .inr ⟨b, o, h1, fun j v hv => h2 j v ?_⟩
      by_cases hj : j < k * s
      · rwa [List.getElem?_take, if_pos hj] at hv
      · rw [List.getElem?_take, if_neg hj] at hv; cases hv

theorem SrcK.hd {H : List AObj} {s k j g off len : Nat} {t : TypeId} {xs : List AVal} (hj : H[j]? = some (.row g t s xs)) (hk : k ≤ len) (hle : off + len ≤ xs.length) (ho : ElemsOk s ((xs.drop off).take k)) : SrcK H s k (.hd j g off len) ((xs.drop off).take k) len := by
  have hlen : ((xs.drop off).take k).length = k := by rw [List.length_take, List.length_drop]; omega
  refine ⟨hlen, hk, fun ext w β u hI hr => ?_⟩
  obtain ⟨ent, b, us, o, m, e1, e2, e3, e4, e5, e6, e7, e8, e9, e10, e11, e12, e13⟩ := hd_open hI hj hr
  have hr2 : RelR { (ctx ext w β) with β := [] } s (fun i => us[off * s + i]?) 0 ((xs.drop off).take k) := by
    have := rows_part (o := off) (n := k) (us := us.toList) (by simpa using e13)
    simpa using this
  obtain ⟨zs, z1, z2, z3, z4⟩ := rows_cells _ 0 hr2 ho
  refine ⟨_, m, zs, e8, by rw [z1, hlen], z3, by simpa using z4 0, ?_⟩
  by_cases hk0 : k = 0
  · exact .inl hk0
  · obtain ⟨f1, f2⟩ := e10 (.inl (by omega))
    refine .inr ⟨b, o, rfl, fun i v hv => ?_⟩
    have := z2 i v hv
    simp only [Nat.zero_mul, Nat.zero_add] at this
    subst f1
    simpa [World.cell?, e11] using this

theorem SrcK.cells {w : World} {s k n m : Nat} {A : Option Addr} {us : List Value} (hl : us.length = k * s) (hc : k = 0 ∨ ∃ b o, A = some ⟨b, o, none⟩ ∧ ∀ j v, us[j]? = some v → w.cell? ⟨b, o + j, none⟩ = some v) :
    ∀ w' : World, w'.heap = w.heap → (Builtin.firstCells s k (.slice A n m)).run P w' = .ok us.toArray w' := by
  intro w' hw
  rcases hc with h | ⟨b, o, rfl, h⟩
  · subst h
    have hu : us = [] := List.length_eq_zero_iff.1 (by rw [hl, Nat.zero_mul])
    subst hu
    cases A with
    | none => rfl
    | some a => simp [Builtin.firstCells, loadCells, loadCellsFrom]
  · refine run_firstCells_some w' s k _ n m us hl fun j v hj => ?_
    rw [addr_add]
    have := h j v hj
    simpa [World.cell?, hw] using this

/-- the cells of a row are written over, from an element on -/
theorem row_write {ext : Nat → Prop} {w : World} {H : List AObj} {β : List Ent} (hI : Inv ext w H β) {j g es b o : Nat} {t : TypeId} {xs zs : List AVal} {ent : Ent} {us : Array Value} {vs : List Value} (hj : H[j]? = some (.row g t es xs))
    (e1 : β[j]? = some ent) (e2 : ent.gen = g) (e3 : g ≠ 0) (e4 : ent.es = es) (e5 : ent.len = xs.length) (e6 : ent.cap = xs.length) (e7 : ent.blk = some b) (e11 : w.heap[b]? = some (.cells us t (0, 0))) (e12 : us.size = xs.length * es)
    (e13 : RelR { (ctx ext w β) with β := [] } es (fun i => us[i]?) 0 xs) (hz : RelR { (ctx ext w β) with β := [] } es (fun i => vs[i]?) 0 zs) (hv : vs.length = zs.length * es) (h1 : ∀ v ∈ vs, v.oneCell' = true) (ho : o + zs.length ≤ xs.length) :
    ∃ w', (storeCells ⟨b, o * es, none⟩ vs 0).run P w = .ok () w' ∧ Inv ext w' (H.set j (.row g t es (xs.take o ++ zs ++ xs.drop (o + zs.length)))) β ∧ Step w β w' β := by
  have hm : o * es + zs.length * es ≤ us.size := by rw [e12, ← Nat.add_mul]; exact Nat.mul_le_mul_right _ ho
  have hst := run_storeCells_at P b (o * es) t vs 0 us w e11 (by rw [hv]; simpa using hm) h1
  simp only [Nat.add_zero] at hst
  refine ⟨_, hst, ?_, Step.write ⟨j, ent, e1, e7⟩ (by simp) (fun c hc => setRow_other w b c _ hc) rfl rfl rfl⟩
  have hstep : Step w β (w.setRow b (us.toList.take (o * es) ++ vs ++ us.toList.drop (o * es + vs.length)).toArray) β := Step.write ⟨j, ent, e1, e7⟩ (by simp) (fun c hc => setRow_other w b c _ hc) rfl rfl rfl
  have hxl : (xs.take o ++ zs ++ xs.drop (o + zs.length)).length = xs.length := by
    simp only [List.length_append, List.length_take, List.length_drop]; omega
  refine hI.write e1 e7 (by simp) (fun c hc => setRow_other w b c _ hc) rfl rfl rfl ⟨e2, e3, e4, by rw [hxl]; exact e5, by rw [hxl]; exact e6, b, _, e7, setRow_get e11, ?_, ?_⟩
  · rw [e6]
    simp only [List.size_toArray, List.length_append, List.length_take, List.length_drop, Array.length_toList]
    omega
  · have := rows_splice (us := us.toList) (us' := us.toList.take (o * es) ++ vs ++ us.toList.drop (o * es + vs.length)) (by simpa using e13) hz (by rw [← e12]; simp) hv ho rfl
    refine RelR.le (hstep.le (ext := ext)).bare _ _ _ _ ?_
    simpa using this

/-- copy into a part of a row -/
theorem copy_row [T : TyTab P] {dst : Option Tmp} {t tx : TypeId} {x y : Operand} {type : TypeId} {pos : String} {after : Array Edge} {guard : Option (Nat × Bool)} {F : Fr} {H : List AObj} {j g off len n k : Nat} {xs zs : List AVal} {b : AVal} {e : TypeId} {r r' : TyRow}
    (hx : ev F x = some (.hd j g off len)) (hj : H[j]? = some (.row g e r.size xs)) (hy : ev F y = some b) (hs : SrcK H r.size k b zs n) (ht : tfind T.tab t = some r') (hd : r'.d = .slice e) (he : tfind T.tab e = some r)
    (hk : k = min n len) (hl : len ≠ 0) :
    DSem P .x ⟨dst, .call { callee := .builtin .copy, args := #[x, y], argTypes := #[t, tx] }, type, pos, after, guard⟩ F H (.v (.int .i64 k)) (H.set j (.row g e r.size (xs.take off ++ zs ++ xs.drop (off + k)))) := by
  refine ⟨fun i t cs hi => ?_, ?_⟩
  · by_cases hij : i = j
    · subst hij; rw [hj] at hi; cases hi
    · rw [List.getElem?_set_ne (by omega)]; exact hi
  intro ext w β ρ hI hext hκ hρ
  obtain ⟨ent, b0, us, o, m, e1, e2, e3, e4, e5, e6, e7, e8, e9, e10, e11, e12, e13⟩ := hd_open hI hj (hρ x (by simp [Op.operands, Call.operands]) _ hx)
  obtain ⟨hz1, hz2, hsrc⟩ := hs
  obtain ⟨A, m', vs, s1, s2, s3, s4, s5⟩ := hsrc ext w β _ hI (hρ y (by simp [Op.operands, Call.operands]) _ hy)
  obtain ⟨f1, f2⟩ := e10 (.inl hl)
  have hc := SrcK.cells (P := P) (n := n) (m := m') s2 s5 w rfl
  obtain ⟨w', q1, q2, q3⟩ := row_write (P := P) hI hj e1 e2 e3 e4 e5 e6 e7 e11 e12 e13 s4 (by rw [s2, hz1]) s3 (o := off) (by omega)
  have hu' : P.underlying t = some (.slice e) := by rw [ty_und ht, hd]
  have hmin : Nat.min n len = k := hk.symm
  have h4 : (execOp ρ ⟨dst, .call { callee := .builtin .copy, args := #[x, y], argTypes := #[t, tx] }, type, pos, after, guard⟩).run P w = .ok (.value (.int .i64 k)) w' := by
    simp only [execOp, resolve, invoke, builtin, Sem.run_bind, Sem.run_pure, Result.andThen_ok, List.map_toArray, List.map_cons, List.map_nil, e8, s1]
    subst f1
    simp [Builtin.copy_, run_underlying hu', run_size he, Builtin.lenOf, hmin, hc, q1, goInt]
  rw [h4]
  rw [hz1] at q2
  exact ⟨_, _, β, ⟨rfl, rfl⟩, rfl, q2, q3⟩

/-- append to a part of a row from its start on, where there is room -/
theorem append_row [T : TyTab P] {dst : Option Tmp} {t tx : TypeId} {x y : Operand} {type : TypeId} {pos : String} {after : Array Edge} {guard : Option (Nat × Bool)} {F : Fr} {H : List AObj} {j g len k : Nat} {xs zs : List AVal} {b : AVal} {e ex : TypeId} {r r' rx : TyRow}
    (hx : ev F x = some (.hd j g 0 len)) (hj : H[j]? = some (.row g e r.size xs)) (hy : ev F y = some b) (hs : SrcK H r.size k b zs k) (ht : tfind T.tab t = some r') (hd : r'.d = .slice e) (he : tfind T.tab e = some r) (htx : tfind T.tab tx = some rx) (hdx : rx.d = .slice ex)
    (hfit : len + k ≤ xs.length) :
    DSem P .x ⟨dst, .call { callee := .builtin .append, args := #[x, y], argTypes := #[t, tx] }, type, pos, after, guard⟩ F H (.hd j g 0 (len + k)) (H.set j (.row g e r.size (xs.take len ++ zs ++ xs.drop (len + k)))) := by
  refine ⟨fun i t cs hi => ?_, ?_⟩
  · by_cases hij : i = j
    · subst hij; rw [hj] at hi; cases hi
    · rw [List.getElem?_set_ne (by omega)]; exact hi
  intro ext w β ρ hI hext hκ hρ
  obtain ⟨ent, b0, us, o, m, e1, e2, e3, e4, e5, e6, e7, e8, e9, e10, e11, e12, e13⟩ := hd_open hI hj (hρ x (by simp [Op.operands, Call.operands]) _ hx)
  obtain ⟨hz1, hz2, hsrc⟩ := hs
  obtain ⟨A, m', vs, s1, s2, s3, s4, s5⟩ := hsrc ext w β _ hI (hρ y (by simp [Op.operands, Call.operands]) _ hy)
  obtain ⟨f1, f2⟩ := e10 (.inr rfl)
  have hc := SrcK.cells (P := P) (n := k) (m := m') s2 s5 w rfl
  obtain ⟨w', q1, q2, q3⟩ := row_write (P := P) (o := len) hI hj e1 e2 e3 e4 e5 e6 e7 e11 e12 e13 s4 (by rw [s2, hz1]) s3 (by omega)
  have hu' : P.underlying t = some (.slice e) := by rw [ty_und ht, hd]
  have hk : P.underlying tx = some (.slice ex) := by rw [ty_und htx, hdx]
  obtain ⟨i, i1, i2, i3, i4⟩ := ty_info he
  have hroom : len + k ≤ m := by omega
  have h4 : (execOp ρ ⟨dst, .call { callee := .builtin .append, args := #[x, y], argTypes := #[t, tx] }, type, pos, after, guard⟩).run P w = .ok (.value (.slice (some ⟨b0, o, none⟩) (len + k) m)) w' := by
    simp only [execOp, resolve, invoke, builtin, Sem.run_bind, Sem.run_pure, Result.andThen_ok, List.map_toArray, List.map_cons, List.map_nil, e8, s1]
    have ho : o = 0 := by rw [f1, Nat.zero_mul]
    subst ho
    simp [Builtin.append_, run_underlying hu', run_underlying hk, sizeOf, typeInfo, i1, i3, Builtin.lenOf, hroom, hc, addr_add, q1]
  rw [h4]
  rw [hz1] at q2
  refine ⟨_, _, β, ⟨rfl, rfl⟩, ?_, q2, q3⟩
  exact ⟨rfl, ent, e1, by omega, fun _ => ⟨b0, o, m, e7, by omega, rfl, fun _ => ⟨by rw [f1, Nat.zero_mul, Nat.zero_mul], by omega⟩⟩⟩
end
end Go.AL

set_option linter.unusedVariables false
set_option linter.unusedSimpArgs false
namespace Go.AL
open Go

section
variable {P : Program}

theorem bounds_run (n m : Nat) (lo hi mx : Option Value) (l h mm : Int) (w : World) (hlo : lo = none ∧ l = 0 ∨ ∃ k, lo = some (.int k l)) (hhi : hi = none ∧ h = n ∧ mx = none ∨ ∃ k, hi = some (.int k h)) (hmx : mx = none ∧ mm = m ∨ ∃ k, mx = some (.int k mm))
    (h0 : 0 ≤ l) (h1 : l ≤ h) (h2 : h ≤ mm) (h3 : mm ≤ m) : (Instr.sliceBounds true n m lo hi mx).run P w = .ok (l.toNat, h.toNat, mm.toNat) w := by
  have c1 : 0 ≤ h ∧ h ≤ (m : Int) := ⟨by omega, by omega⟩
  have c2 : 0 ≤ mm ∧ mm ≤ (m : Int) := ⟨by omega, by omega⟩
  have c3 : 0 ≤ h ∧ h ≤ (mm.toNat : Int) := ⟨by omega, by omega⟩
  have c4 : 0 ≤ l ∧ l ≤ (h.toNat : Int) := ⟨by omega, by omega⟩
  have c5 : l ≤ max h 0 := by omega
  have c6 : h ≤ max mm 0 := by omega
  have c7 : 0 ≤ h := by omega
  have c8 : 0 ≤ mm := by omega
  have c9 : mm ≤ (m : Int) := by omega
  have c10 : h ≤ (m : Int) := by omega
  rcases hlo with ⟨rfl, rfl⟩ | ⟨k1, rfl⟩ <;> rcases hhi with ⟨rfl, rfl, rfl⟩ | ⟨k2, rfl⟩ <;> rcases hmx with ⟨hx, rfl⟩ | ⟨k3, hx⟩ <;> first | (cases hx; done) | ((try rw [hx]); simp [Instr.sliceBounds, Instr.sliceBound, asIntOf, c1, c2, c3, c4, c5, c6, c7, c8, c9, c10, h0, h1])

def optI (F : Fr) (d : Int) (o : Option Operand) (l : Int) : Prop := match o with | none => l = d | some o => ∃ k, ev F o = some (.v (.int k l))

theorem optI_lo {ρ : Operand → Value} {F : Fr} {c : Ctx} {d l : Int} {o : Option Operand} (h : optI F d o l) (hρ : ∀ x, o = some x → ∀ v, ev F x = some v → Rel c v (ρ x)) : (o.map ρ = none ∧ l = d ∧ o = none) ∨ ∃ k, o.map ρ = some (.int k l) := by
  cases o with
  | none => exact .inl ⟨rfl, h, rfl⟩
  | some x =>
    obtain ⟨k, hk⟩ := h
    have : ρ x = .int k l := hρ x rfl _ hk
    exact .inr ⟨k, by simp [this]⟩

/-- part of a row -/
theorem cut_row [T : TyTab P] {dst : Option Tmp} {t : TypeId} {x : Operand} {lo hi mx : Option Operand} {type : TypeId} {pos : String} {after : Array Edge} {guard : Option (Nat × Bool)} {F : Fr} {H : List AObj} {j g off len : Nat} {xs : List AVal} {e : TypeId} {r r' : TyRow} {l h mm : Int}
    (hx : ev F x = some (.hd j g off len)) (hj : H[j]? = some (.row g e r.size xs)) (hlo : optI F 0 lo l) (hhi : optI F len hi h) (hmx : optI F ((xs.length - off : Nat) : Int) mx mm)
    (ht : tfind T.tab t = some r') (hd : r'.d = .slice e) (he : tfind T.tab e = some r) (hm : mx.isSome = true → hi.isSome = true) (hok : len ≠ 0 ∨ off = 0) (h0 : 0 ≤ l) (h1 : l ≤ h) (h2 : h ≤ mm) (h3 : mm = (xs.length - off : Nat)) :
    DSem P .s ⟨dst, .slice t x lo hi mx, type, pos, after, guard⟩ F H (.hd j g (off + l.toNat) (h.toNat - l.toNat)) H := by
  refine ⟨rfl, ?_⟩
  intro ext w β ρ hI hext hκ hρ
  obtain ⟨ent, b0, us, o, m, e1, e2, e3, e4, e5, e6, e7, e8, e9, e10, e11, e12, e13⟩ := hd_open hI hj (hρ x (by simp [Op.operands]) _ hx)
  obtain ⟨f1, f2⟩ := e10 hok
  have hmem : ∀ (q : Option Operand), (q = lo ∨ q = hi ∨ q = mx) → ∀ y, q = some y → ∀ v, ev F y = some v → Rel (ctx ext w β) v (ρ y) := fun q hq y hy v hv => by
    refine hρ y ?_ v hv
    subst hy
    rcases hq with h | h | h <;> simp [Op.operands, ← h]
  have hl := optI_lo hlo (hmem lo (.inl rfl))
  have hh := optI_lo hhi (hmem hi (.inr (.inl rfl)))
  have hmx' := optI_lo hmx (hmem mx (.inr (.inr rfl)))
  have hb := bounds_run (P := P) len m (lo.map ρ) (hi.map ρ) (mx.map ρ) l h mm w (hl.imp (fun ⟨a, b, _⟩ => ⟨a, b⟩) id)
    (by
      rcases hh with ⟨a, b, c⟩ | a
      · refine .inl ⟨a, b, ?_⟩
        cases mx with
        | none => rfl
        | some q => have := hm rfl; rw [c] at this; cases this
      · exact .inr a)
    (hmx'.imp (fun ⟨a, b, _⟩ => ⟨a, by omega⟩) id) h0 h1 h2 (by omega)
  have h4 : (execOp ρ ⟨dst, .slice t x lo hi mx, type, pos, after, guard⟩).run P w = .ok (.value (.slice (if mm.toNat = l.toNat then some ⟨b0, o, none⟩ else (some (⟨b0, o, none⟩ : Addr)).map (·.add (l.toNat * r.size))) (h.toNat - l.toNat) (mm.toNat - l.toNat))) w := by
    simp only [execOp, Instr.sliceAt, Sem.run_bind, e8, run_und ht, hd, Result.andThen_ok, Instr.slice, hb, run_size he, Sem.run_pure]
  rw [h4]
  refine came_same hI ⟨rfl, ent, e1, by omega, fun _ => ?_⟩
  by_cases hml : mm.toNat = l.toNat
  · rw [if_pos hml]
    refine ⟨b0, o, _, e7, by omega, rfl, fun hq => ⟨?_, by omega⟩⟩
    have : off + l.toNat = 0 := by omega
    rw [this, f1, show off = 0 by omega]; simp
  · rw [if_neg hml]
    refine ⟨b0, o + l.toNat * r.size, mm.toNat - l.toNat, e7, by omega, by simp [addr_add], fun hq => ⟨by rw [f1, e4, Nat.add_mul], by omega⟩⟩

theorem len_row [T : TyTab P] {dst : Option Tmp} {t : TypeId} {x : Operand} {type : TypeId} {pos : String} {after : Array Edge} {guard : Option (Nat × Bool)} {F : Fr} {H : List AObj} {j g off len : Nat} {xs : List AVal} {es : Nat} {bt e : TypeId} {r : TyRow}
    (hx : ev F x = some (.hd j g off len)) (hj : H[j]? = some (.row g bt es xs)) (ht : tfind T.tab t = some r) (hd : r.d = .slice e) :
    DSem P .s ⟨dst, .call { callee := .builtin .len, args := #[x], argTypes := #[t] }, type, pos, after, guard⟩ F H (.v (.int .i64 len)) H := by
  refine ⟨rfl, ?_⟩
  intro ext w β ρ hI hext hκ hρ
  obtain ⟨ent, b0, us, o, m, e1, e2, e3, e4, e5, e6, e7, e8, _⟩ := hd_open hI hj (hρ x (by simp [Op.operands, Call.operands]) _ hx)
  have h4 : (execOp ρ ⟨dst, .call { callee := .builtin .len, args := #[x], argTypes := #[t] }, type, pos, after, guard⟩).run P w = .ok (.value (.int .i64 len)) w := by
    simp [execOp, resolve, invoke, builtin, Builtin.len_, run_und ht, hd, e8, goInt]
  rw [h4]
  exact came_same hI rfl

theorem cap_row [T : TyTab P] {dst : Option Tmp} {t : TypeId} {x : Operand} {type : TypeId} {pos : String} {after : Array Edge} {guard : Option (Nat × Bool)} {F : Fr} {H : List AObj} {j g off len : Nat} {xs : List AVal} {es : Nat} {bt e : TypeId} {r : TyRow}
    (hx : ev F x = some (.hd j g off len)) (hj : H[j]? = some (.row g bt es xs)) (ht : tfind T.tab t = some r) (hd : r.d = .slice e) (hok : len ≠ 0 ∨ off = 0) :
    DSem P .s ⟨dst, .call { callee := .builtin .cap, args := #[x], argTypes := #[t] }, type, pos, after, guard⟩ F H (.v (.int .i64 (xs.length - off : Nat))) H := by
  refine ⟨rfl, ?_⟩
  intro ext w β ρ hI hext hκ hρ
  obtain ⟨ent, b0, us, o, m, e1, e2, e3, e4, e5, e6, e7, e8, e9, e10, _⟩ := hd_open hI hj (hρ x (by simp [Op.operands, Call.operands]) _ hx)
  obtain ⟨f1, f2⟩ := e10 hok
  have h4 : (execOp ρ ⟨dst, .call { callee := .builtin .cap, args := #[x], argTypes := #[t] }, type, pos, after, guard⟩).run P w = .ok (.value (.int .i64 (xs.length - off : Nat))) w := by
    simp [execOp, resolve, invoke, builtin, Builtin.cap_, run_und ht, hd, e8, goInt, f2]
  rw [h4]
  exact came_same hI rfl

def zeroOk (r : TyRow) : Bool := Nat.beq r.z.cells.size r.size && r.z.cells.toList.all Value.oneCell' && (!(aggB r.d) || match r.z with | .agg _ => true | _ => false)

theorem zeroA_rel {r : TyRow} (h : zeroOk r = true) (c : Ctx) : Rel c (zeroA r) r.z := by
  unfold zeroA
  simp only [zeroOk, Bool.and_eq_true, Bool.or_eq_true, Bool.not_eq_true'] at h
  cases ha : aggB r.d with
  | false => exact constA_rel c _
  | true =>
    rcases h.2 with h2 | h2
    · rw [ha] at h2; cases h2
    · cases hz : r.z with
      | agg a => exact ⟨a, rfl, relL_const c _⟩
      | _ => rw [hz] at h2; cases h2

theorem zero_get {z : Array Value} {n i q : Nat} (hi : i < n) (hq : q < z.size) : (Builtin.zeroCells z n)[i * z.size + q]? = z[q]? := by
  unfold Builtin.zeroCells
  have h1 := mul_lt_of hi hq
  rw [Array.getElem?_map, Array.getElem?_range]
  simp only [h1, if_true, Option.map_some]
  have : (i * z.size + q) % z.size = q := by rw [Nat.mul_comm, Nat.mul_add_mod]; exact Nat.mod_eq_of_lt hq
  rw [this, Array.getElem?_eq_getElem hq]
  simp [hq]

theorem zero_rows {c : Ctx} {r : TyRow} (h : zeroOk r = true) (n : Nat) : RelR c r.size (fun i => (Builtin.zeroCells r.z.cells n).toList[i]?) 0 (List.replicate n (zeroA r)) := by
  have hz : r.z.cells.size = r.size := by
    simp only [zeroOk, Bool.and_eq_true] at h; exact Nat.eq_of_beq_eq_true h.1.1
  refine RelR.of_get fun i a ha => ?_
  have hi : i < n := by simpa using (List.getElem?_eq_some_iff.1 ha).1
  have : a = zeroA r := by
    rw [List.getElem?_replicate, if_pos hi] at ha
    injection ha with ha; exact ha.symm
  subst this
  refine ⟨r.z, zeroA_rel h c, hz, fun q hq => ?_⟩
  have := zero_get (z := r.z.cells) hi (q := q) (by omega)
  rw [hz] at this
  simpa using this

theorem zero_one {r : TyRow} (h : zeroOk r = true) (n : Nat) : ∀ v ∈ (Builtin.zeroCells r.z.cells n).toList, v.oneCell' = true := by
  intro v hv
  simp only [zeroOk, Bool.and_eq_true] at h
  have hz : r.z.cells.size = r.size := Nat.eq_of_beq_eq_true h.1.1
  unfold Builtin.zeroCells at hv
  simp only [Array.toList_map, List.mem_map] at hv
  obtain ⟨i, hi, rfl⟩ := hv
  have hlt : i < n * r.z.cells.size := by simpa using hi
  have hs : 0 < r.z.cells.size := Nat.pos_of_ne_zero fun e => by rw [e] at hlt; simp at hlt
  have hm : i % r.z.cells.size < r.z.cells.size := Nat.mod_lt _ hs
  rw [getElem!_pos (c := r.z.cells) (i := i % r.z.cells.size) hm]
  exact List.all_eq_true.1 h.1.2 _ (by simp)

theorem clear_row [T : TyTab P] {t : TypeId} {x : Operand} {type : TypeId} {pos : String} {after : Array Edge} {guard : Option (Nat × Bool)} {F : Fr} {H : List AObj} {dst : Option Tmp} {j g off len : Nat} {xs : List AVal} {e : TypeId} {r r' : TyRow}
    (hx : ev F x = some (.hd j g off len)) (hj : H[j]? = some (.row g e r.size xs)) (ht : tfind T.tab t = some r') (hd : r'.d = .slice e) (he : tfind T.tab e = some r) (hz : zeroOk r = true) (hl : len ≠ 0) :
    OpSem P ⟨dst, .call { callee := .builtin .clear, args := #[x], argTypes := #[t] }, type, pos, after, guard⟩ F H (one (.tup []) (H.set j (.row g e r.size (xs.take off ++ List.replicate len (zeroA r) ++ xs.drop (off + len))))) := by
  intro ext w β ρ hI hext hκ hρ
  obtain ⟨ent, b0, us, o, m, e1, e2, e3, e4, e5, e6, e7, e8, e9, e10, e11, e12, e13⟩ := hd_open hI hj (hρ x (by simp [Op.operands, Call.operands]) _ hx)
  obtain ⟨f1, f2⟩ := e10 (.inl hl)
  have hzs : r.z.cells.size = r.size := by
    simp only [zeroOk, Bool.and_eq_true] at hz; exact Nat.eq_of_beq_eq_true hz.1.1
  obtain ⟨w', q1, q2, q3⟩ := row_write (P := P) (o := off) (zs := List.replicate len (zeroA r)) hI hj e1 e2 e3 e4 e5 e6 e7 e11 e12 e13 (zero_rows hz len) (by simp [size_zeroCells, hzs]) (zero_one hz len) (by simpa using e9)
  have h4 : (execOp ρ ⟨dst, .call { callee := .builtin .clear, args := #[x], argTypes := #[t] }, type, pos, after, guard⟩).run P w = .ok (.value (.tuple #[])) w' := by
    subst f1
    cases len with
    | zero => exact absurd rfl hl
    | succ n => simp [execOp, resolve, invoke, builtin, Builtin.clear_, run_und ht, hd, e8, run_zero he, q1]
  rw [h4]
  simp only [List.length_replicate] at q2
  exact ⟨_, _, β, ⟨rfl, rfl⟩, ⟨#[], rfl, rfl⟩, q2, q3⟩

/-- a part of a row, and zeros for which there is no room -/
theorem append_zeros [T : TyTab P] {dst : Option Tmp} {t tx : TypeId} {x y : Operand} {type : TypeId} {pos : String} {after : Array Edge} {guard : Option (Nat × Bool)} {F : Fr} {H : List AObj} {j g len : Nat} {xs : List AVal} {e : TypeId} {r r' rx : TyRow} {k kx : IntKind} {n : Int}
    (hx : ev F x = some (.hd j g 0 len)) (hj : H[j]? = some (.row g e r.size xs)) (hy : ev F y = some (.v (.int kx n))) (ht : tfind T.tab t = some r') (hd : r'.d = .slice e) (he : tfind T.tab e = some r) (htx : tfind T.tab tx = some rx) (hdx : rx.d = .int k)
    (hz : zeroOk r = true) (hs : Nat.blt 0 r.size = true) (hb : Nat.blt 0 r.bytes = true) (ho : ElemsOk r.size (xs.take len)) (h0 : 0 < n) (hbig : xs.length < len + n.toNat) (h47 : (len + n.toNat) * r.bytes ≤ 140737488355328) :
    DSem P .x ⟨dst, .call { callee := .builtin .append, args := #[x, y], argTypes := #[t, tx] }, type, pos, after, guard⟩ F H (.arr H.length 1) (H ++ [.arr 1 e r.size (xs.take len ++ List.replicate n.toNat (zeroA r))]) := by
  refine ⟨fun j t cs hj => by rw [List.getElem?_append_left (List.getElem?_eq_some_iff.1 hj).1]; exact hj, ?_⟩
  intro ext w β ρ hI hext hκ hρ
  have hr0 := hρ x (by simp [Op.operands, Call.operands]) _ hx
  obtain ⟨ent, b0, us, o, m, e1, e2, e3, e4, e5, e6, e7, e8, e9, e10, e11, e12, e13⟩ := hd_open hI hj hr0
  obtain ⟨f1, f2⟩ := e10 (.inr rfl)
  have hyv : ρ y = .int kx n := hρ y (by simp [Op.operands, Call.operands]) _ hy
  obtain ⟨hz1, hz2, hsrc⟩ := SrcK.hd (k := len) hj (Nat.le_refl _) e9 (by simpa using ho)
  obtain ⟨A, m', vs, s1, s2, s3, s4, s5⟩ := hsrc ext w β _ hI hr0
  simp only [List.drop_zero] at s4
  rw [e8] at s1
  injection s1 with s11 s12 s13
  subst s11
  have hc := SrcK.cells (P := P) (n := len) (m := m) s2 s5 w.drew rfl
  obtain ⟨i, i1, i2, i3, i4⟩ := ty_info he
  have hu' : P.underlying t = some (.slice e) := by rw [ty_und ht, hd]
  have hk : P.underlying tx = some (.int k) := by rw [ty_und htx, hdx]
  have hzs : r.z.cells.size = r.size := by
    simp only [zeroOk, Bool.and_eq_true] at hz; exact Nat.eq_of_beq_eq_true hz.1.1
  have hs' : 0 < r.size := by simpa [Nat.blt_eq] using hs
  have hb' : 0 < r.bytes := by simpa [Nat.blt_eq] using hb
  obtain ⟨q, rfl⟩ : ∃ q : Nat, n = q := ⟨n.toNat, by omega⟩
  simp only [Int.toNat_natCast] at hbig h47 ⊢
  have hq0 : 0 < q := by omega
  have hle : len + q ≤ 140737488355328 := Nat.le_trans (Nat.le_mul_of_pos_right _ hb') h47
  have hw : IntKind.i64.wrap (q : Int) = q := by rw [IntKind.wrap_i64]; omega
  have hneg : ¬ ((q : Int) < 0) := by omega
  have hmb : q * r.bytes ≤ 140737488355328 := Nat.le_trans (Nat.mul_le_mul_right _ (Nat.le_add_left q len)) h47
  have hbig2 : ¬ (281474976710656 < (q : Int) * (i.bytes : Int)) := by
    rw [i4, ← Int.natCast_mul]
    omega
  have hmz : ¬ (q * i.size = 0) := by rw [i3]; exact Nat.mul_ne_zero (by omega) (by omega)
  have hroom : ¬ (len + q ≤ m) := by omega
  have h63 : ¬ (9223372036854775807 < ((len : Int) + (q : Int))) := by omega
  have hfit := growslice_fits (show m < len + q by omega) h47
  have h48 : ¬ (281474976710656 < Builtin.nextslicecap (len + q) m * i.bytes) := by rw [i4]; omega
  generalize hcap : grownCap w (len + q) m e = cap
  have hcap2 : len + q ≤ cap := by rw [← hcap]; simp only [grownCap, Question.cut]; omega
  have hrun : (Builtin.append_ #[t, tx] type #[.slice (some ⟨b0, o, none⟩) len m, .int kx q]).run P w =
      .ok (.slice (some ⟨w.heap.size, 0, none⟩) (len + q) cap) (w.drew.alloc (.cells (vs.toArray ++ Builtin.zeroCells r.z.cells q ++ Builtin.zeroCells r.z.cells (cap - (len + q))) e)) := by
    rw [← hcap]
    have hc' : (Builtin.firstCells i.size len (.slice (some ⟨b0, o, none⟩) len m)).run P w.drew = .ok vs.toArray w.drew := by rw [i3]; exact hc
    simp [Builtin.append_, run_underlying hu', run_underlying hk, sizeOf, typeInfo, zeroValue, i1, i2, asInt, asIntOf, hw, hneg, hbig2, hroom, h63, h48, Question.forced, hc', newRow, grownCap, hmz]
  have h4 : (execOp ρ ⟨dst, .call { callee := .builtin .append, args := #[x, y], argTypes := #[t, tx] }, type, pos, after, guard⟩).run P w =
      .ok (.value (.slice (some ⟨w.heap.size, 0, none⟩) (len + q) cap)) (World.push w.drew (.cells (vs.toArray ++ Builtin.zeroCells r.z.cells q ++ Builtin.zeroCells r.z.cells (cap - (len + q))) e)) := by
    simp only [execOp, resolve, invoke, builtin, Sem.run_bind, Sem.run_pure, Result.andThen_ok, List.map_toArray, List.map_cons, List.map_nil, e8, hyv, hrun]
    rfl
  rw [h4]
  have hlen : (xs.take len ++ List.replicate q (zeroA r)).length = len + q := by
    simp only [List.length_append, List.length_take, List.length_replicate]; omega
  have hlt : (xs.take len).length = len := by rw [List.length_take]; omega
  have hfin := newArr (xs := xs.take len ++ List.replicate q (zeroA r)) (cap := cap) (e := e) hI hext (drew_same w) (s := r.size) (us := vs.toArray ++ Builtin.zeroCells r.z.cells q ++ Builtin.zeroCells r.z.cells (cap - (len + q)))
    (by simp only [Array.size_append, List.size_toArray, size_zeroCells, s2, hzs, ← Nat.add_mul]; congr 1; omega)
    (by rw [hlen]; exact hcap2)
    (rows_append (us := vs) (vs := (Builtin.zeroCells r.z.cells q).toList) s4 (zero_rows hz q) (by rw [s2, hlt]) fun i hi => by
      rw [hlt, List.length_replicate] at hi
      have hsz : (vs.toArray ++ Builtin.zeroCells r.z.cells q).size = (len + q) * r.size := by simp only [Array.size_append, List.size_toArray, size_zeroCells, s2, hzs, ← Nat.add_mul]
      rw [Array.getElem?_append_left (by rw [hsz]; exact hi)]
      rw [← Array.getElem?_toList]
      simp)
  rw [hlen] at hfin
  exact hfin
end
end Go.AL

set_option linter.unusedVariables false
set_option linter.unusedSimpArgs false
namespace Go.AL
open Go

section
variable {P : Program} {G : Gh} {Q : APost}

theorem StB.more {β : List Ent} {F : Fr} {H : List AObj} {a : Act} {w : World} (h : StB G β F H a w) {v : AVal} : ∀ {ts : List Nat}, (∀ t ∈ ts, ∃ u, a.tmps[t]? = some u ∧ Rel (ctx G.ext w β) v u) → StB G β (ts.map (·, v) ++ F) H a w
  | [], _ => h
  | t :: ts, hm => by
    have h' := StB.more h (ts := ts) (fun s hs => hm s (List.mem_cons_of_mem _ hs))
    refine ⟨h.inv, h.step, h.extOk, h.size, h.defers, fun s x hs => ?_⟩
    simp only [List.map_cons, List.cons_append, fget] at hs
    cases hb : Nat.beq t s with
    | true =>
      rw [hb] at hs; simp at hs; subst hs
      rw [← Nat.eq_of_beq_eq_true hb]
      exact hm t (List.mem_cons_self ..)
    | false => rw [hb] at hs; simp at hs; exact h'.get s x hs

theorem fproj_all {F : Fr} {v : AVal} : ∀ {ts : List Nat}, fproj F ts = some (ts.map fun _ => v) → ∀ t ∈ ts, fget F t = some v
  | [], _, t, h => by simp at h
  | s :: ts, hp, t, h => by
    simp only [fproj] at hp
    cases h1 : fget F s with
    | none => rw [h1] at hp; cases hp
    | some x =>
      cases h2 : fproj F ts with
      | none => rw [h1, h2] at hp; cases hp
      | some xs =>
        rw [h1, h2] at hp
        simp only [List.map_cons, Option.some.injEq, List.cons.injEq] at hp
        rcases List.mem_cons.1 h with rfl | h
        · rw [h1, hp.1]
        · exact fproj_all (by rw [h2, hp.2]) t h

/-- the whole room of an owned slice is seen -/
theorem aw_expose {c : Code} {F : Fr} {H : List AObj} (ts : List Nat) {j g es : Nat} {t : TypeId} {xs : List AVal} (hts : fproj F ts = some (ts.map fun _ => .arr j g)) (t0 : Nat) (h0 : fget F t0 = some (.arr j g)) (hj : H[j]? = some (.arr g t es xs)) (hx : xs ≠ [])
    (h : ∀ sp, AW P G c Q (ts.map (·, .hd j (g + 1) 0 xs.length) ++ F) (H.set j (.row (g + 1) t es (xs ++ sp)))) : AW P G c Q F H := by
  rintro a w ⟨β, hs⟩
  obtain ⟨u0, hu0, hr0⟩ := hs.get t0 _ h0
  obtain ⟨ent, e1, e2, e3, e4, e5, e6, e7⟩ := arr_open hs.inv hj hr0
  rcases e7 with ⟨_, h1, _⟩ | ⟨b, us, h1, h2, h3, h4, h5⟩
  · exact absurd h1 hx
  have hjl := (List.getElem?_eq_some_iff.1 e1).1
  let sp : List AVal := (List.range (ent.cap - xs.length)).map fun i => .agg ((us.toList.drop ((xs.length + i) * es)).take es |>.map .v)
  have hst : Step w β w (β.set j ⟨some b, g + 1, es, ent.cap, ent.cap⟩) := Step.regen e1 (by omega) (by simp only; omega) (.inr h1.symm)
  have hlen : (xs ++ sp).length = ent.cap := by simp [sp]; omega
  have husl : us.toList.length = ent.cap * es := by simpa using h4
  have hxm : xs.length * es ≤ us.toList.length := by rw [husl]; exact Nat.mul_le_mul_right _ e6
  have hsp : RelR { (ctx G.ext w β) with β := [] } es (fun i => (us.toList.drop (xs.length * es))[i]?) 0 sp := by
    refine RelR.of_get fun i y hy => ?_
    have hi : i < ent.cap - xs.length := by simpa [sp] using (List.getElem?_eq_some_iff.1 hy).1
    simp only [sp, List.getElem?_map, List.getElem?_range hi, Option.map_some, Option.some.injEq] at hy
    subst hy
    have hm : (xs.length + i) * es + es ≤ us.toList.length := by
      rw [husl]
      have : (xs.length + i + 1) * es ≤ ent.cap * es := Nat.mul_le_mul_right _ (by omega)
      rw [Nat.add_mul _ 1, Nat.one_mul] at this; exact this
    have hl : ((us.toList.drop ((xs.length + i) * es)).take es).length = es := by rw [List.length_take, List.length_drop]; omega
    refine ⟨.agg ((us.toList.drop ((xs.length + i) * es)).take es).toArray, ⟨_, rfl, ?_⟩, by simpa [Value.cells] using hl, fun q hq => ?_⟩
    · have : ∀ l : List Value, RelL { (ctx G.ext w β) with β := [] } (l.map .v) l := fun l => by
        induction l with
        | nil => rfl
        | cons v l ih => exact ⟨v, l, rfl, rfl, ih⟩
      exact this _
    · simp only [Nat.zero_add, Value.cells, List.getElem?_toArray, List.getElem?_take, hq, if_true, List.getElem?_drop]
      congr 1
      rw [Nat.add_mul]; omega
  refine h sp a w ⟨_, StB.more (hs.world (hs.inv.set hs.extOk e1 hst (fun c hc _ => rfl) (.inr (.inr h1.symm)) ?_) hst) fun t ht => ?_⟩
  · refine ⟨rfl, by omega, rfl, hlen.symm, hlen.symm, b, us, rfl, h3, h4, ?_⟩
    refine RelR.le (hst.le (ext := G.ext)).bare _ _ _ _ (rows_append (us := us.toList.take (xs.length * es)) (vs := us.toList.drop (xs.length * es)) ?_ hsp (by rw [List.length_take]; omega) fun i _ => by rw [List.take_append_drop]; simp)
    refine relR_rd h5 fun i hi => ?_
    rw [List.getElem?_take, if_pos hi]; simp
  · obtain ⟨u, hu, hr⟩ := hs.get t _ (fproj_all hts t ht)
    obtain ⟨_, ent', f1, f2, f3⟩ := id hr
    rw [e1] at f1; injection f1 with f1; subst f1
    obtain ⟨f4, f5⟩ := f3 e2
    rw [h1] at f5
    refine ⟨u, hu, hr.1, ⟨some b, g + 1, es, ent.cap, ent.cap⟩, by rw [List.getElem?_set_self hjl], Nat.le_refl _, fun _ => ⟨b, 0, ent.cap, rfl, by simpa using e6, by rw [f5, e5], fun _ => ⟨by simp, by simp⟩⟩⟩

/-- a row is taken for an owned slice again, the rest of its room unseen -/
theorem aw_shrink {c : Code} {F : Fr} {H : List AObj} (ts : List Nat) {j g es k : Nat} {t : TypeId} {xs : List AVal} (hts : fproj F ts = some (ts.map fun _ => .hd j g 0 k)) (t0 : Nat) (h0 : fget F t0 = some (.hd j g 0 k)) (hj : H[j]? = some (.row g t es xs))
    (h : AW P G c Q (ts.map (·, .arr j (g + 1)) ++ F) (H.set j (.arr (g + 1) t es (xs.take k)))) : AW P G c Q F H := by
  rintro a w ⟨β, hs⟩
  obtain ⟨u0, hu0, hr0⟩ := hs.get t0 _ h0
  obtain ⟨ent, b, us, o, m, e1, e2, e3, e4, e5, e6, e7, e8, e9, e10, e11, e12, e13⟩ := hd_open hs.inv hj hr0
  have hjl := (List.getElem?_eq_some_iff.1 e1).1
  have hst : Step w β w (β.set j ⟨some b, g + 1, es, xs.length, k⟩) := Step.regen e1 (by omega) (by simp only; omega) (.inr e7.symm)
  have hlen : (xs.take k).length = k := by rw [List.length_take]; omega
  refine h a w ⟨_, StB.more (hs.world (hs.inv.set hs.extOk e1 hst (fun c hc _ => rfl) (.inr (.inr e7.symm)) ?_) hst) fun t ht => ?_⟩
  · refine ⟨rfl, by omega, rfl, hlen.symm, by rw [hlen]; simpa using e9, ?_⟩
    exact ⟨us, e11, e12, RelR.le (hst.le (ext := G.ext)).bare _ _ _ _ (rows_take e13)⟩
  · obtain ⟨u, hu, hr⟩ := hs.get t _ (fproj_all hts t ht)
    obtain ⟨ent', b', us', o', m', f1, f2, f3, f4, f5, f6, f7, f8, f9, f10, _⟩ := hd_open hs.inv hj hr
    rw [e1] at f1; injection f1 with f1; subst f1
    rw [e7] at f7; injection f7 with f7; subst f7
    obtain ⟨f11, f12⟩ := f10 (.inr rfl)
    refine ⟨u, hu, hr.1, ⟨some b, g + 1, es, xs.length, k⟩, by rw [List.getElem?_set_self hjl], Nat.le_refl _, fun _ => ⟨by simpa using e9, by rw [f8, f11, f12]; simp⟩⟩

/-- an empty slice without room is taken for an owned one -/
theorem aw_adopt {c : Code} {F : Fr} {H : List AObj} (ts : List Nat) (bt : TypeId) (es : Nat) (hts : fproj F ts = some (ts.map fun _ => .slf []))
    (h : AW P G c Q (ts.map (·, .arr H.length 1) ++ F) (H ++ [.arr 1 bt es []])) : AW P G c Q F H := by
  rintro a w ⟨β, hs⟩
  have hlen := hs.inv.len
  have hst : Step w β w (β ++ [⟨none, 1, es, 0, 0⟩]) := by
    refine ⟨rfl, rfl, rfl, Nat.le_refl _, fun b hb _ => rfl, fun b hb => ?_, fun j e he => ⟨e, by rw [List.getElem?_append_left (List.getElem?_eq_some_iff.1 he).1]; exact he, Nat.le_refl _, fun _ => rfl, fun _ => rfl⟩⟩
    obtain ⟨j, e, he, hb⟩ := hb
    rcases Nat.lt_or_ge j β.length with hlt | hge
    · rw [List.getElem?_append_left hlt] at he; exact .inl ⟨j, e, he, hb⟩
    · rw [List.getElem?_append_right hge] at he
      have : j - β.length = 0 := by
        have := (List.getElem?_eq_some_iff.1 he).1
        simpa using this
      rw [this] at he; simp at he; subst he; cases hb
  have cls : ∀ (i : Nat) (f : Ent), (β ++ [⟨none, 1, es, 0, 0⟩])[i]? = some f → β[i]? = some f ∨ (i = β.length ∧ f = ⟨none, 1, es, 0, 0⟩) := fun i f hf => by
    rcases Nat.lt_or_ge i β.length with hlt | hge
    · rw [List.getElem?_append_left hlt] at hf; exact .inl hf
    · rw [List.getElem?_append_right hge] at hf
      have : i - β.length = 0 := by
        have := (List.getElem?_eq_some_iff.1 hf).1
        simpa using this
      rw [this] at hf; simp at hf; exact .inr ⟨by omega, hf.symm⟩
  have hinv : Inv G.ext w (H ++ [.arr 1 bt es []]) (β ++ [⟨none, 1, es, 0, 0⟩]) := by
    refine hs.inv.upd hst (by simp [hlen]) ?_ ?_ ?_
    · intro j o e ho he
      rcases cls j e he with h1 | ⟨h1, h2⟩
      · have hlt := (List.getElem?_eq_some_iff.1 h1).1
        rw [List.getElem?_append_left (by rw [← hlen]; exact hlt)] at ho
        exact .inl ⟨ho, h1, fun _ _ => rfl⟩
      · subst h2
        rw [h1, hlen] at ho
        simp at ho; subst ho
        exact .inr ⟨rfl, by decide, rfl, rfl, Nat.le_refl _, rfl⟩
    · intro i k e f b hi hk he hf
      rcases cls i e hi with h1 | ⟨h1, h2⟩ <;> rcases cls k f hk with h3 | ⟨h3, h4⟩
      · exact hs.inv.uniq i k e f b h1 h3 he hf
      · subst h4; cases hf
      · subst h2; cases he
      · omega
    · intro b hb
      rcases hst.fresh b hb with h1 | h1
      · exact hs.inv.sep b h1
      · obtain ⟨j, e, he, hb⟩ := hb
        rcases cls j e he with h2 | ⟨h2, h3⟩
        · exact hs.inv.sep b ⟨j, e, h2, hb⟩
        · subst h3; cases hb
  refine h a w ⟨_, StB.more (hs.world hinv hst) fun t ht => ?_⟩
  obtain ⟨u, hu, A, es', h1, h2, h3⟩ := hs.get t _ (fproj_all hts t ht)
  refine ⟨u, hu, by subst h1; rfl, ⟨none, 1, es, 0, 0⟩, by rw [← hlen]; simp, Nat.le_refl _, fun _ => ⟨Nat.le_refl _, rfl, A, h1⟩⟩

/-- an owned slice is cut, but nothing is asked of the piece -/
theorem cut_dull [T : TyTab P] {dst : Option Tmp} {t : TypeId} {x : Operand} {lo hi mx : Option Operand} {type : TypeId} {pos : String} {after : Array Edge} {guard : Option (Nat × Bool)} {F : Fr} {H : List AObj} {j g es : Nat} {bt : TypeId} {xs : List AVal} {e : TypeId} {r r' : TyRow} {l h mm : Int}
    (hx : ev F x = some (.arr j g)) (hj : H[j]? = some (.arr g bt es xs)) (hlo : optI F 0 lo l) (hhi : optI F xs.length hi h) (hmx : mx = none ∨ ∃ k q, mx = some q ∧ ev F q = some (.v (.int k mm)))
    (ht : tfind T.tab t = some r') (hd : r'.d = .slice e) (he : tfind T.tab e = some r) (hm : mx.isSome = true → hi.isSome = true) (h0 : 0 ≤ l) (h1 : l ≤ h) (h2 : h ≤ xs.length) (h3 : mx ≠ none → h ≤ mm ∧ mm ≤ xs.length) :
    OpSem P ⟨dst, .slice t x lo hi mx, type, pos, after, guard⟩ F H (fun r H' => (∃ u, r = .ret (.v u)) ∧ H' = H) := by
  intro ext w β ρ hI hext hκ hρ
  obtain ⟨ent, e1, e2, e3, e4, e5, e6, e7⟩ := arr_open hI hj (hρ x (by simp [Op.operands]) _ hx)
  have hu : ∃ A m, ρ x = .slice A xs.length m ∧ xs.length ≤ m := by
    rcases e7 with ⟨_, h1, _, A, h2⟩ | ⟨b, us, _, h2, _⟩
    · subst h1; rename_i hA; exact ⟨A, 0, hA, Nat.le_refl _⟩
    · exact ⟨_, _, by assumption, e6⟩
  obtain ⟨A, m, hu, hmx2⟩ := hu
  have hmem : ∀ (q : Option Operand), (q = lo ∨ q = hi ∨ q = mx) → ∀ y, q = some y → ∀ v, ev F y = some v → Rel (ctx ext w β) v (ρ y) := fun q hq y hy v hv => by
    refine hρ y ?_ v hv
    subst hy
    rcases hq with h | h | h <;> simp [Op.operands, ← h]
  have hl := optI_lo hlo (hmem lo (.inl rfl))
  have hh := optI_lo hhi (hmem hi (.inr (.inl rfl)))
  have hb : ∃ p, (Instr.sliceBounds true xs.length m (lo.map ρ) (hi.map ρ) (mx.map ρ)).run P w = .ok p w := by
    rcases hmx with h | ⟨k, q, h, hq⟩
    · subst h
      exact ⟨_, bounds_run xs.length m _ _ _ l h m w (hl.imp (fun ⟨a, b, _⟩ => ⟨a, b⟩) id) (hh.imp (fun ⟨a, b, _⟩ => ⟨a, b, rfl⟩) id) (.inl ⟨rfl, rfl⟩) h0 h1 (by omega) (by omega)⟩
    · subst h
      have hv : ρ q = .int k mm := hmem (some q) (.inr (.inr rfl)) q rfl _ hq
      have := h3 (by simp)
      refine ⟨_, bounds_run xs.length m _ _ _ l h mm w (hl.imp (fun ⟨a, b, _⟩ => ⟨a, b⟩) id) (hh.imp (fun ⟨a, b, c⟩ => ?_) id) (.inr ⟨k, by simp [hv]⟩) h0 h1 (by omega) (by omega)⟩
      have := hm rfl
      rw [c] at this; cases this
  obtain ⟨⟨l1, h1', m1⟩, hb⟩ := hb
  have h4 : ∃ u, (execOp ρ ⟨dst, .slice t x lo hi mx, type, pos, after, guard⟩).run P w = .ok (.value u) w := by
    refine ⟨.slice (if m1 = l1 then A else A.map (·.add (l1 * r.size))) (h1' - l1) (m1 - l1), ?_⟩
    simp only [execOp, Instr.sliceAt, Sem.run_bind, hu, run_und ht, hd, Result.andThen_ok, Instr.slice, hb, run_size he, Sem.run_pure]
  obtain ⟨u, h4⟩ := h4
  rw [h4]
  exact ⟨.v u, H, β, ⟨⟨u, rfl⟩, rfl⟩, rfl, hI, Step.refl w β⟩

/-- a slice is compared with nil -/
theorem eq_nil [T : TyTab P] {dst : Option Tmp} {t ty : TypeId} {x : Operand} {type : TypeId} {pos : String} {after : Array Edge} {guard : Option (Nat × Bool)} {F : Fr} {H : List AObj} {a : AVal} {xs : List AVal} {e : TypeId} {r' : TyRow}
    (hx : ev F x = some a) (ha : xsOf a = some xs) (ht : tfind T.tab t = some r') (hd : r'.d = .slice e) :
    OpSem P ⟨dst, .binOp .eql t x (.const (.slice none 0 0)) ty, type, pos, after, guard⟩ F H (fun r H' => (∃ b, r = .ret (.v (.bool b)) ∧ (b = true → xs = [])) ∧ H' = H) := by
  intro ext w β ρ hI hext hκ hρ
  obtain ⟨A, m, es, hu, hm, _, hA, hr⟩ := sl_open ha (hρ x (by simp [Op.operands]) _ hx)
  have h4 : (execOp ρ ⟨dst, .binOp .eql t x (.const (.slice none 0 0)) ty, type, pos, after, guard⟩).run P w = .ok (.value (.bool A.isNone)) w := by
    simp only [execOp, hκ, hu, Sem.run_bind]
    have hu' : P.underlying t = some (.slice e) := by rw [ty_und ht, hd]
    have hg : (eqGuard .eql t x (.const (.slice none 0 0)) (.slice A xs.length m) (.slice none 0 0)).run P w = .ok () w := rfl
    simp only [hg, Result.andThen_ok, Lib.run_eql_slice_nil w t e A xs.length m 0 0 hu', Sem.run_pure]
  rw [h4]
  refine ⟨.v (.bool A.isNone), H, β, ⟨⟨_, rfl, fun h => ?_⟩, rfl⟩, rfl, hI, Step.refl w β⟩
  cases A with
  | some a => cases h
  | none =>
    by_cases hx : xs = []
    · exact hx
    · obtain ⟨b, o, h, _⟩ := hA hx; cases h

/-- two owned things do not overlap -/
theorem overlaps_sem [T : TyTab P] {dst : Option Tmp} {fo x y : Operand} {argTypes : Array TypeId} {type : TypeId} {pos : String} {after : Array Edge} {guard : Option (Nat × Bool)} {F : Fr} {H : List AObj} {f : FuncId} {fn : Func} {tS tR e e1 e2 : TypeId} {j k g1 g2 off len s1 s2 : Nat} {xs ys : List AVal} {r r' : TyRow}
    (hfo : ev F fo = some (.fn (.func f) [] [])) (hx : ev F x = some (.arr k g1)) (hk : H[k]? = some (.arr g1 e1 s1 ys)) (hys : ys ≠ []) (hy : ev F y = some (.hd j g2 off len)) (hj : H[j]? = some (.row g2 e2 s2 xs)) (hjk : k ≠ j)
    (hf : P.funcs[f]? = some fn) (hname : (fn.name == "runtime.NumGoroutine") = false) (hb : fn.body.isNone = true) (hn : Extern.findNext fn = none) (hfind : Extern.find fn = some (Extern.SlicesOverlaps.overlaps #[tS, tS] #[tR]))
    (ht : tfind T.tab tS = some r') (hd : r'.d = .slice e) (he : tfind T.tab e = some r) (hxs : xs ≠ []) (hs2 : s2 ≠ 0) :
    OpSem P ⟨dst, .call { callee := .value fo, args := #[x, y], argTypes }, type, pos, after, guard⟩ F H (one (.v (.bool false)) H) := by
  intro ext w β ρ hI hext hκ hρ
  obtain ⟨a1, a2, hu, r1, r2⟩ := hρ fo (by simp [Op.operands, Call.operands]) _ hfo
  have q1 : a1 = #[] := by apply Array.ext'; exact r1
  have q2 : a2 = #[] := by apply Array.ext'; exact r2
  subst q1; subst q2
  obtain ⟨ent, e1', e2', e3, e4, e5, e6, e7⟩ := arr_open hI hk (hρ x (by simp [Op.operands, Call.operands]) _ hx)
  obtain ⟨ent2, b2, us2, o2, m2, f1, f2, f3, f4, f5, f6, f7, f8, f9, f10, f11, f12, f13⟩ := hd_open hI hj (hρ y (by simp [Op.operands, Call.operands]) _ hy)
  rcases e7 with ⟨_, h1, _⟩ | ⟨b1, us1, h1, h2, h3, h4, h5⟩
  · exact absurd h1 hys
  have hne : b1 ≠ b2 := fun h => hjk (hI.uniq k j ent ent2 b2 e1' f1 (by rw [h1, h]) f7)
  have hrun := Lib.run_overlaps_apart (P := P) w tS tR e (by rw [ty_und ht, hd]) r.size (fun w => run_size he w) ⟨b1, 0, none⟩ ⟨b2, o2, none⟩ ys.length ent.cap len m2 hne e1 e2 us1.size us2.size
    (by simp [World.shape?, h3]) (by simp [World.shape?, f11]) (by
      rw [f12]
      have : xs.length ≠ 0 := fun h => hxs (List.length_eq_zero_iff.1 h)
      exact Nat.mul_ne_zero this hs2)
    (by simp [World.frozen?, h3]) (by simp [World.frozen?, h3])
  have h4 : (execOp ρ ⟨dst, .call { callee := .value fo, args := #[x, y], argTypes }, type, pos, after, guard⟩).run P w = .ok (.value (.bool false)) w := by
    simp only [execOp, resolve, hu, Deferred.ofValue, Sem.run_bind, Sem.run_pure, Result.andThen_ok, invoke, List.map_toArray, List.map_cons, List.map_nil, h2, f8, Array.append_empty, Array.empty_append]
    rw [run_callFunc_extern hf hname hb hn hfind, hrun]
    rfl
  rw [h4]
  exact came_same hI rfl
end
end Go.AL

set_option linter.unusedVariables false
namespace Go.AL
open Go
section
variable {P : Program} {G : Gh} {ops : Array Oper} {Q : APost} {R : Fr → List AObj → Prop}
theorem aw_re {c : Code} {F : Fr} {H : List AObj} (t : Nat) {v v' : AVal} (h : fget F t = some v) (e : v = v') (next : AW P G c Q (fset F t v') H) : AW P G c Q F H := by
  subst e; rwa [fset_same h] at next
theorem awl_re {l : List Oper} {F : Fr} {H : List AObj} (t : Nat) {v v' : AVal} (h : fget F t = some v) (e : v = v') (next : AWL P G ops Q l (fset F t v') H) : AWL P G ops Q l F H := by
  subst e; rwa [fset_same h] at next
theorem awd_re {l : List (Nat × Oper × K)} {F : Fr} {H : List AObj} (t : Nat) {v v' : AVal} (h : fget F t = some v) (e : v = v') (next : AWD P G ops R l (fset F t v') H) : AWD P G ops R l F H := by
  subst e; rwa [fset_same h] at next
/-- whole numbers in other words -/
theorem int_re {n n' : Int} {k : IntKind} (h : n = n') : AVal.v (.int k n) = AVal.v (.int k n') := by rw [h]
theorem bool_re {b b' : Bool} (h : b = b') : AVal.v (.bool b) = AVal.v (.bool b') := by rw [h]
theorem heap_re {l : List Oper} {F : Fr} {H H' : List AObj} (e : H = H') (next : AWL P G ops Q l F H') : AWL P G ops Q l F H := by subst e; exact next
theorem aw_heap_re {c : Code} {F : Fr} {H H' : List AObj} (e : H = H') (next : AW P G c Q F H') : AW P G c Q F H := by subst e; exact next
theorem half_id {n : Int} (h0 : 0 ≤ n) (h1 : n ≤ 9223372036854775807) : IntKind.i64.wrap ((IntKind.u64.wrap (IntKind.i64.wrap n)).fdiv (2 ^ min (Int.toNat 1) IntKind.u64.bits)) = n / 2 := by
  rw [wrap_id (n := n) (by omega) h1]
  have e1 : ∀ m : Int, 0 ≤ m → m ≤ 9223372036854775807 → IntKind.u64.wrap m = m := fun m h0 h1 => by
    simp only [IntKind.wrap, IntKind.bits, IntKind.signed]
    simp
    omega
  rw [e1 n h0 h1]
  have e2 : n.fdiv (2 ^ min (Int.toNat 1) IntKind.u64.bits) = n / 2 := by
    show n.fdiv (2 ^ 1) = n / 2
    rw [Int.fdiv_eq_ediv_of_nonneg _ (by decide)]; rfl
  rw [e2, wrap_id (by omega) (by omega)]
/-- a call of what takes and gives plain values, in any order of what is near -/
theorem awl_val {F : Fr} {H : List AObj} {d : Tmp} {ty : TypeId} {pos : String} {aft : Array Edge} {g : Option (Nat × Bool)} {l : List Oper} {fo : Operand} {args : Array Operand} {argTypes : Array TypeId} {f : FuncId} {first vs cap : List AVal} {v : AVal}
    (hc : ACalls P f (first ++ vs ++ cap) [] (one v [])) (hd : Nat.blt d G.n = true) (hg : guardA ops F ⟨some d, .call { callee := .value fo, args, argTypes }, ty, pos, aft, g⟩ = some true) (hf : ev F fo = some (.fn (.func f) first cap)) (ha : evs F args.toList = some vs)
    (hl : ltL 0 (first ++ vs ++ cap) = true) (hr : ∀ τ, rnL τ (first ++ vs ++ cap) = first ++ vs ++ cap) (hv : ∀ τ, rnV τ v = v)
    (next : AWL P G ops Q l ((d, v) :: F) H) : AWL P G ops Q (⟨some d, .call { callee := .value fo, args, argTypes }, ty, pos, aft, g⟩ :: l) F H :=
  awl_d hd hg (call_val hf ha hc hl hr hv) next
end
end Go.AL

set_option linter.unusedVariables false
set_option linter.unusedSimpArgs false
namespace Go.AL
open Go

section
variable {P : Program} {G : Gh} {ops : Array Oper} {Q : APost}

def buildT (tab : List TyRow) (t : TypeId) : Option (TypeId × Nat) := match tfind tab t with
  | some ⟨_, .slice e, _, _, _⟩ => (tfind tab e).map fun r => (e, r.size)
  | _ => none

/-- a slice that is built, owned -/
theorem build_own [T : TyTab P] {dst : Option Tmp} {t : TypeId} {len : Nat} {parts : Array (Nat × Operand)} {type : TypeId} {pos : String} {after : Array Edge} {guard : Option (Nat × Bool)} {F : Fr} {H : List AObj} {xs : List AVal} {e0 : TypeId} {s0 : Nat}
    (h : buildB T.tab (.buildSlice t len parts) F = some (.slf xs)) (hT : buildT T.tab t = some (e0, s0)) : DSem P .x ⟨dst, .buildSlice t len parts, type, pos, after, guard⟩ F H (.arr H.length 1) (H ++ [.arr 1 e0 s0 xs]) := by
  refine ⟨fun j t cs hj => by rw [List.getElem?_append_left (List.getElem?_eq_some_iff.1 hj).1]; exact hj, ?_⟩
  intro ext w β ρ hI hx hκ hρ
  simp only [buildB] at h
  split at h
  · rename_i q1 e q2 q3 q4 vs ht hvs
    split at h
    · rename_i r hr
      cases hb : (Nat.beq vs.length len && inOrder 0 vs && sizesOk r.size vs && AVal.free.freeL (vs.map (·.2)) && Nat.ble (len * r.size) 100000 && Nat.beq r.z.cells.size r.size) with
      | false => rw [hb] at h; cases h
      | true =>
        rw [hb] at h; simp at h
        simp only [Bool.and_eq_true] at hb
        obtain ⟨⟨⟨⟨⟨b1, b2⟩, b3⟩, b4⟩, b5⟩, b6⟩ := hb
        have b1 := Nat.eq_of_beq_eq_true b1
        have b5 := Nat.le_of_ble_eq_true b5
        have b6 := Nat.eq_of_beq_eq_true b6
        have hps := evp_rel (c := ctx ext w β) (ρ := ρ) (fun p hp v hv => hρ p.2 (by simp [Op.operands]; exact ⟨p.1, by simpa using hp⟩) v hv) hvs
        have hm : (parts.map fun (i, x) => (i, ρ x)).toList = parts.toList.map fun p => (p.1, ρ p.2) := by simp
        obtain ⟨g1, g2, g3⟩ := inOrder_get b2 b3 hps
        simp only [Nat.zero_add] at g2
        generalize hz : ((Array.range (len * r.size)).map (fun i => r.z.cells[i % r.z.cells.size]!)) = zc
        have hzs : zc.size = len * r.size := by rw [← hz]; simp
        obtain ⟨cs', f1, f2, f3, f4⟩ := fill_rows (es := r.size) (n := len) (parts.toList.map fun p => (p.1, ρ p.2)) 0 zc hzs (by omega) (by simpa using g2)
        simp only [Nat.zero_add] at f4
        have h3 : (execOp ρ ⟨dst, .buildSlice t len parts, type, pos, after, guard⟩).run P w = .ok (.value (.slice (some ⟨w.heap.size, 0, none⟩) len len)) (World.push w (.cells cs' e)) := by
          simp only [execOp, Instr.buildSlice, Sem.run_bind, run_und ht, run_size hr, Result.andThen_ok]
          rw [if_neg (by omega)]
          by_cases h0 : len * r.size = 0
          · have hz0 : (Array.range (len * r.size)).map (fun i => (#[] : Array Value)[i % (#[] : Array Value).size]!) = zc := by
              rw [← hz, h0]; simp
            simp only [h0, if_true, Sem.run_pure, Result.andThen_ok, Sem.run_bind]
            rw [h0] at hz0
            rw [hz0, hm, f1]
            simp only [newRow, Sem.run_bind, run_newObj, Result.andThen_ok, Sem.run_pure]
            rfl
          · simp only [h0, if_false, Sem.run_pure, Result.andThen_ok, Sem.run_bind, run_zero hr]
            rw [hz, hm, f1]
            simp only [newRow, Sem.run_bind, run_newObj, Result.andThen_ok, Sem.run_pure]
            rfl
        rw [h3]
        have hee : e = e0 ∧ r.size = s0 := by
          unfold buildT at hT
          rw [ht] at hT
          simp only [hr, Option.map_some, Option.some.injEq, Prod.mk.injEq] at hT
          exact hT
        obtain ⟨rfl, rfl⟩ := hee
        have hlen : xs.length = len := by rw [← h]; simpa using b1
        have hfin := newArr (xs := xs) (cap := len) (e := e) (us := cs') hI hx (w' := w) ⟨rfl, rfl, rfl, rfl⟩ (s := r.size) (by omega) (by omega) (by
          refine RelR.of_get fun i a ha => ?_
          rw [← h] at ha
          obtain ⟨p, k1, k2⟩ := g3 i a ha
          obtain ⟨k3, k4⟩ := g2 i p k1
          refine ⟨p.2, Rel.bare a _ (freeL_get b4 ha) k2, k4, fun q hq => ?_⟩
          have := f4 i p k1 q hq
          simp only [Nat.zero_add]
          exact this)
        rw [hlen] at hfin
        exact hfin
    · cases h
  · cases h

theorem awl_q {F : Fr} {H : List AObj} {d : Tmp} {o : Op} {ty : TypeId} {pos : String} {aft : Array Edge} {g : Option (Nat × Bool)} {l : List Oper} {res : Eff}
    (hd : Nat.blt d G.n = true) (hg : guardA ops F ⟨some d, o, ty, pos, aft, g⟩ = some true) (h : OpSem P ⟨some d, o, ty, pos, aft, g⟩ F H res)
    (next : ∀ r H', res r H' → ∃ v, r = .ret v ∧ AWL P G ops Q l ((d, v) :: F) H') : AWL P G ops Q (⟨some d, o, ty, pos, aft, g⟩ :: l) F H :=
  ⟨fun t ht => by injection ht with ht; subst ht; simpa [Nat.blt_eq] using hd, .inl ⟨hg, res, h, fun r H' hr => by obtain ⟨v, rfl, hn⟩ := next r H' hr; exact hn⟩⟩

/-- an owned slice is given up: nobody changes it any more -/
theorem aw_publish {c : Code} {F : Fr} {H : List AObj} (ts : List Nat) {j g es : Nat} {t : TypeId} {xs : List AVal} (g' : Nat) (hg' : Nat.blt g g' = true) (hts : fproj F ts = some (ts.map fun _ => .arr j g)) (t0 : Nat) (h0 : fget F t0 = some (.arr j g)) (hj : H[j]? = some (.arr g t es xs))
    (h : AW P G c Q (ts.map (·, .sl xs) ++ F) (H.set j (.dead g'))) : AW P G c Q F H := by
  rintro a w ⟨β, hs⟩
  have hgg : g < g' := by simpa [Nat.blt_eq] using hg'
  obtain ⟨u0, hu0, hr0⟩ := hs.get t0 _ h0
  obtain ⟨ent, e1, e2, e3, e4, e5, e6, e7⟩ := arr_open hs.inv hj hr0
  have hjl := (List.getElem?_eq_some_iff.1 e1).1
  have hst : Step w β w (β.set j ⟨none, g', es, 0, 0⟩) := Step.regen e1 (by omega) (by simp only; omega) (.inl rfl)
  refine h a w ⟨_, StB.more (hs.world (hs.inv.set hs.extOk e1 hst (fun c hc _ => rfl) (.inr (.inl rfl)) (a := .dead g') ⟨rfl, by omega, rfl⟩) hst) fun t ht => ?_⟩
  obtain ⟨u, hu, hr⟩ := hs.get t _ (fproj_all hts t ht)
  refine ⟨u, hu, ?_⟩
  obtain ⟨ent', f1, f2, f3, f4, f5, f6, f7⟩ := arr_open hs.inv hj hr
  rcases f7 with ⟨_, h8, _, A, h9⟩ | ⟨b, us, h8, h9, h10, h11, h12⟩
  · subst h8
    exact ⟨A, 0, 0, h9, Nat.le_refl _, fun hx => absurd rfl hx, trivial⟩
  · refine ⟨_, ent'.cap, es, h9, f6, fun _ => ⟨b, 0, rfl, ?_, (hs.inv.sep b ⟨j, ent', f1, h8⟩).2⟩, ?_⟩
    · rintro (hb | ⟨i, q, hq, hqb⟩)
      · exact (hs.inv.sep b ⟨j, ent', f1, h8⟩).1 hb
      · by_cases hij : i = j
        · subst hij
          rw [List.getElem?_set_self hjl] at hq
          injection hq with hq; subst hq; cases hqb
        · rw [List.getElem?_set_ne (by omega)] at hq
          exact hij (hs.inv.uniq i j q ent' b hq f1 hqb h8)
    · have : rdA w (some ⟨b, 0, none⟩) = fun (i : Nat) => us[i]? := by
        funext i
        simp [rdA, World.cell?, h10]
      show RelR _ es (rdA w (some ⟨b, 0, none⟩)) 0 xs
      rw [this]
      exact h12.le (hst.le (ext := G.ext)).bare _ _ _ _

/-- an owned thing is let go of -/
theorem aw_kill {c : Code} {F : Fr} {H : List AObj} (j g' : Nat) {o : AObj} (hj : H[j]? = some o) (ho : (match o with | .arr g _ _ _ => Nat.blt g g' | .row g _ _ _ => Nat.blt g g' | _ => false) = true)
    (h : AW P G c Q F (H.set j (.dead g'))) : AW P G c Q F H := by
  rintro a w ⟨β, hs⟩
  have hjl : j < β.length := by rw [hs.inv.len]; exact (List.getElem?_eq_some_iff.1 hj).1
  obtain ⟨ent, e1⟩ : ∃ e, β[j]? = some e := ⟨β[j], List.getElem?_eq_getElem hjl⟩
  have hro := hs.inv.obj _ _ ent hj e1
  have hgen : ent.gen ≠ 0 ∧ ent.gen < g' := by
    cases o with
    | arr g t es xs => obtain ⟨k1, k0, _⟩ := hro; simp only [Nat.blt_eq] at ho; omega
    | row g t es xs => obtain ⟨k1, k0, _⟩ := hro; simp only [Nat.blt_eq] at ho; omega
    | _ => cases ho
  have hst : Step w β w (β.set j ⟨none, g', 1, 0, 0⟩) := Step.regen e1 hgen.1 hgen.2 (.inl rfl)
  exact h a w ⟨_, hs.world (hs.inv.set hs.extOk e1 hst (fun c hc _ => rfl) (.inr (.inl rfl)) (a := .dead g') ⟨rfl, by omega, rfl⟩) hst⟩

theorem cut_row0 [T : TyTab P] {dst : Option Tmp} {t : TypeId} {x : Operand} {lo hi : Option Operand} {type : TypeId} {pos : String} {after : Array Edge} {guard : Option (Nat × Bool)} {F : Fr} {H : List AObj} {j g off len : Nat} {xs : List AVal} {e : TypeId} {r r' : TyRow} {l h : Nat}
    (hx : ev F x = some (.hd j g off len)) (hj : H[j]? = some (.row g e r.size xs)) (hlo : optI F 0 lo l) (hhi : optI F len hi h)
    (ht : tfind T.tab t = some r') (hd : r'.d = .slice e) (he : tfind T.tab e = some r) (hok : len ≠ 0 ∨ off = 0) (h1 : l ≤ h) (h2 : off + h ≤ xs.length) :
    DSem P .s ⟨dst, .slice t x lo hi none, type, pos, after, guard⟩ F H (.hd j g (off + l) (h - l)) H := by
  have := cut_row (P := P) (dst := dst) (type := type) (pos := pos) (after := after) (guard := guard) (l := l) (h := h) (mm := (xs.length - off : Nat)) (mx := none) hx hj hlo hhi rfl ht hd he (by intro h; cases h) hok (by omega) (by omega) (by omega) rfl
  simpa using this
end
end Go.AL

set_option linter.unusedVariables false
namespace Go.AL
open Go
section
variable {P : Program}
theorem call_objq {dst : Option Tmp} {fo : Operand} {args : Array Operand} {argTypes : Array TypeId} {type : TypeId} {pos : String} {after : Array Edge} {guard : Option (Nat × Bool)} {F : Fr} {Hc H : List AObj} {g : FuncId} {first vs cap args0 : List AVal} {Q : Eff}
    (σ : List Nat) (hc : ACalls P g args0 H Q) (hf : ev F fo = some (.fn (.func g) first cap)) (ha : evs F args.toList = some vs) (hargs : rnL (tau σ Hc.length) args0 = first ++ vs ++ cap)
    (hσ : sigOk σ Hc.length = true) (hl : σ.length = H.length) (hla : ltL σ.length args0 = true) (ho : H.all (ltO σ.length) = true) (hH : σ.map (fun j => Hc[j]?) = H.map (fun o => some (rnO (tau σ Hc.length) o))) :
    OpSem P ⟨dst, .call { callee := .value fo, args, argTypes }, type, pos, after, guard⟩ F Hc (fun r G => ∃ r0 Ho, Q r0 Ho ∧ σ.length ≤ Ho.length ∧ G = putBack (tau σ Hc.length) σ Hc Ho ∧ r = match r0 with | .ret v => .ret (rnV (tau σ Hc.length) v) | .pan v => .pan (rnV (tau σ Hc.length) v)) := by
  have h1 := hc.from σ hσ hl hla ho (fun i j hij => by
    have := congrArg (fun l => l[i]?) hH
    simp only [List.getElem?_map, hij, Option.map_some] at this
    cases hi : H[i]? with
    | none => rw [hi] at this; cases this
    | some o => rw [hi] at this; simpa using this)
  rw [hargs] at h1
  exact call_sem hf ha h1
theorem call_obj {dst : Option Tmp} {fo : Operand} {args : Array Operand} {argTypes : Array TypeId} {type : TypeId} {pos : String} {after : Array Edge} {guard : Option (Nat × Bool)} {F : Fr} {Hc H H' : List AObj} {g : FuncId} {first vs cap args0 : List AVal} {v : AVal}
    (σ : List Nat) (hc : ACalls P g args0 H (one v H')) (hf : ev F fo = some (.fn (.func g) first cap)) (ha : evs F args.toList = some vs) (hargs : rnL (tau σ Hc.length) args0 = first ++ vs ++ cap)
    (hσ : sigOk σ Hc.length = true) (hl : σ.length = H.length) (hla : ltL σ.length args0 = true) (ho : H.all (ltO σ.length) = true) (hH : σ.map (fun j => Hc[j]?) = H.map (fun o => some (rnO (tau σ Hc.length) o))) :
    DSem P .m ⟨dst, .call { callee := .value fo, args, argTypes }, type, pos, after, guard⟩ F Hc (rnV (tau σ Hc.length) v) (putBack (tau σ Hc.length) σ Hc H') := by
  have h1 := hc.from σ hσ hl hla ho (fun i j hij => by
    have := congrArg (fun l => l[i]?) hH
    simp only [List.getElem?_map, hij, Option.map_some] at this
    cases hi : H[i]? with
    | none => rw [hi] at this; cases this
    | some o => rw [hi] at this; simpa using this)
  rw [hargs] at h1
  refine call_sem hf ha (h1.mono ?_)
  rintro r G ⟨r0, Ho, ⟨rfl, rfl⟩, _, rfl, rfl⟩
  exact ⟨rfl, rfl⟩

/-- boxes are as they were, one by one -/
def SameBox : List AObj → List AObj → Prop
  | [], _ => True
  | .box t cs :: r, o :: r' => o = .box t cs ∧ SameBox r r'
  | .box _ _ :: _, [] => False
  | _ :: r, _ :: r' => SameBox r r'
  | _ :: r, [] => SameBox r []
theorem SameBox.ok : ∀ {H H' : List AObj}, SameBox H H' → Boxes H H'
  | [], _, _, j, t, cs, hj => by simp at hj
  | .box t0 cs0 :: r, [], h, _, _, _, _ => h.elim
  | .box t0 cs0 :: r, o :: r', h, j, t, cs, hj => by
    obtain ⟨h1, h2⟩ := h
    cases j with
    | zero => simp at hj ⊢; rw [h1, hj.1, hj.2]
    | succ j => exact h2.ok j t cs (by simpa using hj)
  | .arr .. :: r, H', h, j, t, cs, hj => by
    cases j with
    | zero => simp at hj
    | succ j => cases H' with
      | nil => exact absurd (SameBox.ok (H := r) (H' := []) h j t cs (by simpa using hj)) (by simp)
      | cons o r' => exact SameBox.ok (H := r) (H' := r') h j t cs (by simpa using hj)
  | .row .. :: r, H', h, j, t, cs, hj => by
    cases j with
    | zero => simp at hj
    | succ j => cases H' with
      | nil => exact absurd (SameBox.ok (H := r) (H' := []) h j t cs (by simpa using hj)) (by simp)
      | cons o r' => exact SameBox.ok (H := r) (H' := r') h j t cs (by simpa using hj)
  | .raw .. :: r, H', h, j, t, cs, hj => by
    cases j with
    | zero => simp at hj
    | succ j => cases H' with
      | nil => exact absurd (SameBox.ok (H := r) (H' := []) h j t cs (by simpa using hj)) (by simp)
      | cons o r' => exact SameBox.ok (H := r) (H' := r') h j t cs (by simpa using hj)
  | .fix .. :: r, H', h, j, t, cs, hj => by
    cases j with
    | zero => simp at hj
    | succ j => cases H' with
      | nil => exact absurd (SameBox.ok (H := r) (H' := []) h j t cs (by simpa using hj)) (by simp)
      | cons o r' => exact SameBox.ok (H := r) (H' := r') h j t cs (by simpa using hj)
  | .vmap .. :: r, H', h, j, t, cs, hj => by
    cases j with
    | zero => simp at hj
    | succ j => cases H' with
      | nil => exact absurd (SameBox.ok (H := r) (H' := []) h j t cs (by simpa using hj)) (by simp)
      | cons o r' => exact SameBox.ok (H := r) (H' := r') h j t cs (by simpa using hj)
  | .loop .. :: r, H', h, j, t, cs, hj => by
    cases j with
    | zero => simp at hj
    | succ j => cases H' with
      | nil => exact absurd (SameBox.ok (H := r) (H' := []) h j t cs (by simpa using hj)) (by simp)
      | cons o r' => exact SameBox.ok (H := r) (H' := r') h j t cs (by simpa using hj)
  | .map .. :: r, H', h, j, t, cs, hj => by
    cases j with
    | zero => simp at hj
    | succ j => cases H' with
      | nil => exact absurd (SameBox.ok (H := r) (H' := []) h j t cs (by simpa using hj)) (by simp)
      | cons o r' => exact SameBox.ok (H := r) (H' := r') h j t cs (by simpa using hj)
  | .dead .. :: r, H', h, j, t, cs, hj => by
    cases j with
    | zero => simp at hj
    | succ j => cases H' with
      | nil => exact absurd (SameBox.ok (H := r) (H' := []) h j t cs (by simpa using hj)) (by simp)
      | cons o r' => exact SameBox.ok (H := r) (H' := r') h j t cs (by simpa using hj)
theorem DSem.x {o : Oper} {F : Fr} {H H' : List AObj} {v : AVal} (h : DSem P .m o F H v H') (hb : SameBox H H') : DSem P .x o F H v H' := ⟨hb.ok, h⟩
end
end Go.AL

set_option linter.unusedVariables false
namespace Go.AL
open Go
section
variable {P : Program} {G : Gh} {Q : APost}
theorem zip_get {c : Ctx} {tmps : Array Value} : ∀ {ts : List Nat} {vs : List AVal} {us : List Value}, RelL c vs us → (∀ (i t : Nat), ts[i]? = some t → i < us.length → ∃ u, us[i]? = some u ∧ tmps[t]? = some u) →
    ∀ t v, fget (ts.zip vs) t = some v → ∃ u, tmps[t]? = some u ∧ Rel c v u
  | [], vs, us, _, _, t, v, h => by simp [fget] at h
  | s :: ts, [], us, _, _, t, v, h => by simp [fget] at h
  | s :: ts, x :: vs, us, hr, hg, t, v, h => by
    obtain ⟨u, us', rfl, r, rs⟩ := hr
    simp only [List.zip_cons_cons, fget] at h
    cases hb : Nat.beq s t with
    | true =>
      rw [hb] at h; simp at h; subst h
      rw [← Nat.eq_of_beq_eq_true hb]
      obtain ⟨u', h1, h2⟩ := hg 0 s rfl (by simp)
      simp at h1; subst h1
      exact ⟨u, h2, r⟩
    | false =>
      rw [hb] at h; simp at h
      exact zip_get rs (fun i t hi hl => by
        obtain ⟨u', h1, h2⟩ := hg (i + 1) t (by simpa using hi) (by simpa using hl)
        exact ⟨u', by simpa using h1, h2⟩) t v h

theorem fproj_vals {β : List Ent} {F : Fr} {H : List AObj} {a : Act} {w : World} (hs : StB G β F H a w) : ∀ {ts : List Nat} {vs : List AVal}, fproj F ts = some vs →
    ∃ us : List Value, RelL (ctx G.ext w β) vs us ∧ us.length = ts.length ∧ ∀ (i t : Nat), ts[i]? = some t → ∃ u, us[i]? = some u ∧ a.tmps[t]? = some u
  | [], vs, h => by simp [fproj] at h; subst h; exact ⟨[], rfl, rfl, fun i t hi => by simp at hi⟩
  | s :: ts, vs, h => by
    simp only [fproj] at h
    cases h1 : fget F s with
    | none => rw [h1] at h; cases h
    | some x =>
      cases h2 : fproj F ts with
      | none => rw [h1, h2] at h; cases h
      | some xs =>
        rw [h1, h2] at h; simp at h; subst h
        obtain ⟨us, r, hl, hg⟩ := fproj_vals hs h2
        obtain ⟨u, hu, hr⟩ := hs.get s x h1
        refine ⟨u :: us, ⟨u, us, rfl, hr, r⟩, by simp [hl], fun i t hi => ?_⟩
        cases i with
        | zero => simp at hi; subst hi; exact ⟨u, rfl, hu⟩
        | succ i =>
          obtain ⟨u', g1, g2⟩ := hg i t (by simpa using hi)
          exact ⟨u', by simpa using g1, g2⟩

theorem St.fin {F : Fr} {H H' : List AObj} {a : Act} {w : World} (hs : St G F H a w) (n : Nat) (ts : List Nat) {vs vs' : List AVal} {wk : Bool} (hp : fproj F ts = some vs) (hf : finish n [] wk H (.tup vs) = some (.tup vs', H')) (hn : n ≤ H.length) (hβ : G.β0.length ≤ n) :
    St G (ts.zip vs') H' a w := by
  obtain ⟨β, hs⟩ := hs
  obtain ⟨us, hr, hl, hg⟩ := fproj_vals hs hp
  have hr' : Rel (ctx G.ext w β) (.tup vs) (.tuple us.toArray) := ⟨us.toArray, rfl, hr⟩
  obtain ⟨β', h3, h4, h5, hsub⟩ := finish_came1 hs.inv hs.step hβ (by rw [hs.inv.len]; exact hn) hr' rfl hf
  obtain ⟨ua, hu, h3⟩ := h3
  injection hu with hu
  subst hu
  obtain ⟨ms, m1, m2, m3⟩ := hs.defers
  refine ⟨β', h4, h5, hs.extOk, hs.size, ⟨ms, m1, m2, fun r hr => ?_⟩, ?_⟩
  · obtain ⟨l1, l2, l3, l4⟩ := m3 r hr
    exact ⟨l1, l2, fun hb => l3 (hb.imp id (hsub r)), l4⟩
  exact zip_get h3 fun i t hi _ => by simpa using hg i t hi

/-- what was made behind the first n is let go of, and what it was given up for stays -/
theorem aw_fin {c : Code} {F : Fr} {H H' : List AObj} (n : Nat) (ts : List Nat) {vs vs' : List AVal} (wk : Bool) (hp : fproj F ts = some vs) (hf : finish n [] wk H (.tup vs) = some (.tup vs', H')) (hn : Nat.ble n H.length = true) (hβ : G.β0.length ≤ n)
    (h : AW P G c Q (ts.zip vs') H') : AW P G c Q F H :=
  fun a w hs => h a w (hs.fin n ts hp hf (Nat.le_of_ble_eq_true hn) hβ)

/-- where a round ends: what it made is let go of -/
def Round {ι : Type} (n : Nat) (I : ι → Prop) (ts : List Nat) (V : ι → List AVal) (HH : ι → List AObj) (μ : ι → Nat) (i : ι) (F' : Fr) (H' : List AObj) : Prop :=
  ∃ i', I i' ∧ μ i' < μ i ∧ ∃ wk vs vs' H'', fproj F' ts = some vs ∧ finish n [] wk H' (.tup vs) = some (.tup vs', H'') ∧ Nat.ble n H'.length = true ∧ vs' = V i' ∧ H'' = HH i'

theorem aw_loopF {c : Code} {F : Fr} {H : List AObj} {ι : Type} (n : Nat) (I : ι → Prop) (ts : List Nat) (V : ι → List AVal) (HH : ι → List AObj) (μ : ι → Nat) (i0 : ι) (hβ : G.β0.length ≤ n) (hI : I i0) (h0 : fproj F ts = some (V i0)) (hH : H = HH i0)
    (round : ∀ i, I i → AW P G c (athen (fun F' H' => Round n I ts V HH μ i F' H') Q) (ts.zip (V i)) (HH i)) : AW P G (.loop c) Q F H := by
  intro a w ⟨β, hs⟩
  refine wpIn_loop_ghost (fun k a w => ∃ i, I i ∧ μ i = k ∧ St G (ts.zip (V i)) (HH i) a w) (μ i0) ⟨i0, hI, rfl, β, by subst hH; exact hs.proj h0⟩ ?_
  rintro k a w ⟨i, hi, hk, hst⟩
  refine wpIn_mono (round i hi a w hst) ?_
  intro e a' w' he
  cases e with
  | normal =>
    obtain ⟨F', H', ⟨i', h1, h2, wk, vs, vs', H'', h3, h4, h5, rfl, rfl⟩, hs'⟩ := he
    exact ⟨μ i', by omega, i', h1, rfl, hs'.fin n ts h3 h4 (Nat.le_of_ble_eq_true h5) hβ⟩
  | exit id => exact he
  | ret => exact he
  | panic ch => exact he
  | goto l => exact he.elim
  | outgrown => exact he.elim

/-- a loop whose heads' states are told by an index of which something is known -/
theorem aw_loopI {c : Code} {F : Fr} {H : List AObj} {ι : Type} (I : ι → Prop) (ts : List Nat) (V : ι → List AVal) (HH : ι → List AObj) (μ : ι → Nat) (i0 : ι) (hI : I i0) (h0 : fproj F ts = some (V i0)) (hH : H = HH i0)
    (round : ∀ i, I i → AW P G c (athen (fun F' H' => ∃ i', I i' ∧ fproj F' ts = some (V i') ∧ H' = HH i' ∧ μ i' < μ i) Q) (ts.zip (V i)) (HH i)) : AW P G (.loop c) Q F H := by
  refine aw_loop (ι := { i // I i }) ts (fun i => V i.1) (fun i => HH i.1) (fun i => μ i.1) ⟨i0, hI⟩ h0 hH fun i => (round i.1 i.2).mono fun e F H he => ?_
  cases e with
  | normal => obtain ⟨i', h1, h2, h3, h4⟩ := he; exact ⟨⟨i', h1⟩, h2, h3, h4⟩
  | _ => exact he

theorem finish0_arr {H : List AObj} {j g es : Nat} {t : TypeId} {xs : List AVal} {wk : Bool} (hj : H[j]? = some (.arr g t es xs)) : finish 0 [] wk H (.arr j g) = some (.sl xs, []) := by
  have h0 : kap 0 [] j = none := by cases j <;> rfl
  simp [finish, finV, h0, hj, picks, finOs]
end
end Go.AL

set_option linter.unusedVariables false
namespace Go.AL
open Go
section
variable {P : Program}
theorem ACalls.slf {f : FuncId} {xs : List AVal} {args : List AVal} {H : List AObj} {Q : Eff} (h : ACalls P f (.sl xs :: args) H Q) : ACalls P f (.slf xs :: args) H Q :=
  ⟨h.enters, fun ext w β us hI hx hr => h.calls ext w β us hI hx (by
    obtain ⟨u, us', e, r, rs⟩ := hr
    exact ⟨u, us', e, sl_weak r, rs⟩)⟩
end
end Go.AL
