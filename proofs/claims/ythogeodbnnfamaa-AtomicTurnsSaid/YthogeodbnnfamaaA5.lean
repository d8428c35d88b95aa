/-
  Operations that hang on nothing of the heap: what they give, told by a function of the frame. No conditions.
-/
import Derived.Test.YthogeodbnnfamaaA4
import Derived.Laws.StructEq
set_option linter.unusedVariables false
set_option linter.unusedSimpArgs false
namespace Go.AL
open Go

structure TyRow where
  t : Nat
  d : TypeDesc
  z : Value
  size : Nat
  bytes : Nat

def TyRow.ok (P : Program) (r : TyRow) : Prop := P.underlying r.t = some r.d ∧ (P.info? r.t).map (fun i => (i.zero, i.size, i.bytes)) = some (some r.z, r.size, r.bytes)

def TyOk (P : Program) : List TyRow → Prop
  | [] => True
  | r :: rs => r.ok P ∧ TyOk P rs

class TyTab (P : Program) where
  tab : List TyRow
  ok : TyOk P tab
  mixed : P.follows .mixedOrders = true

def tfind : List TyRow → Nat → Option TyRow
  | [], _ => none
  | r :: rs, t => cond (Nat.beq r.t t) (some r) (tfind rs t)

theorem tfind_ok {P : Program} : ∀ {rs : List TyRow}, TyOk P rs → ∀ {t : Nat} {r : TyRow}, tfind rs t = some r → r.t = t ∧ r.ok P
  | [], _, t, r, h => by cases h
  | x :: xs, hx, t, r, h => by
    simp only [tfind] at h
    cases hb : Nat.beq x.t t with
    | true => rw [hb] at h; simp at h; subst h; exact ⟨Nat.eq_of_beq_eq_true hb, hx.1⟩
    | false => rw [hb] at h; simp at h; exact tfind_ok hx.2 h

section
variable {P : Program} [T : TyTab P]

theorem ty_und {t : Nat} {r : TyRow} (h : tfind T.tab t = some r) : P.underlying t = some r.d := by
  obtain ⟨rfl, h1⟩ := tfind_ok T.ok h; exact h1.1
theorem ty_info {t : Nat} {r : TyRow} (h : tfind T.tab t = some r) : ∃ i, P.info? t = some i ∧ i.zero = some r.z ∧ i.size = r.size ∧ i.bytes = r.bytes := by
  obtain ⟨rfl, h1⟩ := tfind_ok T.ok h
  have h2 := h1.2
  cases hi : P.info? r.t with
  | none => rw [hi] at h2; cases h2
  | some i => rw [hi] at h2; simp at h2; exact ⟨i, rfl, h2⟩

theorem run_und {t : Nat} {r : TyRow} (h : tfind T.tab t = some r) (w : World) : (underlying t).run P w = .ok r.d w := run_underlying (ty_und h) w
theorem run_size {t : Nat} {r : TyRow} (h : tfind T.tab t = some r) (w : World) : (sizeOf t).run P w = .ok r.size w := by
  obtain ⟨i, h1, h2, h3, h4⟩ := ty_info h
  simp [sizeOf, typeInfo, h1, h3]
theorem run_zero {t : Nat} {r : TyRow} (h : tfind T.tab t = some r) (w : World) : (zeroValue t).run P w = .ok r.z w := by
  obtain ⟨i, h1, h2, h3, h4⟩ := ty_info h
  simp [zeroValue, typeInfo, h1, h2]

def aggB : TypeDesc → Bool
  | .struct _ | .array _ _ => true
  | _ => false

theorem run_agg {t : Nat} {r : TyRow} (h : tfind T.tab t = some r) (w : World) : (isAgg t).run P w = .ok (aggB r.d) w := by
  unfold isAgg
  simp only [Sem.run_bind, run_und h, Result.andThen_ok]
  cases r.d <;> rfl

/-- the part of a row of cells that a type takes from a place on -/
def takeA (r : TyRow) (cs : List AVal) (off : Nat) : Option AVal :=
  cond (aggB r.d) (cond (Nat.ble (off + r.size) cs.length) (some (.agg ((cs.drop off).take r.size))) none) cs[off]?

theorem takeA_part {c : Ctx} {t : Nat} {r : TyRow} (h : tfind T.tab t = some r) {cs : List AVal} {us : Array Value} (hr : RelL c cs us.toList) {off : Nat} {v : AVal} (hv : takeA r cs off = some v) (w : World) :
    ∃ u, (part t us off).run P w = .ok u w ∧ Rel c v u := by
  unfold part
  simp only [Sem.run_bind, run_agg h, Result.andThen_ok]
  unfold takeA at hv
  cases ha : aggB r.d with
  | true =>
    rw [ha] at hv
    simp only [cond_true, if_true] at hv ⊢
    cases hb : Nat.ble (off + r.size) cs.length with
    | false => rw [hb] at hv; cases hv
    | true =>
      rw [hb] at hv; simp at hv; subst hv
      refine ⟨.agg (us.extract off (off + r.size)), by simp only [Sem.run_bind, run_size h, Result.andThen_ok, Sem.run_pure], ?_⟩
      refine ⟨_, rfl, ?_⟩
      have := (hr.drop off).take r.size
      have he : (us.extract off (off + r.size)).toList = (us.toList.drop off).take r.size := by
        rw [Array.toList_extract, List.extract_eq_take_drop, Nat.add_sub_cancel_left]
      rw [he]; exact this
  | false =>
    rw [ha] at hv
    simp only [cond_false, Bool.false_eq_true, if_false] at hv ⊢
    obtain ⟨u, h1, h2⟩ := hr.get hv
    have h3 : us[off]? = some u := by simpa using h1
    exact ⟨u, by rw [h3]; rfl, h2⟩

/-- what a load gives of known cells -/
theorem takeA_load {c : Ctx} {t : Nat} {r : TyRow} (h : tfind T.tab t = some r) {cs : List AVal} {us : List Value} (hr : RelL c cs us) {off : Nat} {v : AVal} (hv : takeA r cs off = some v) {w : World} {b o : Nat}
    (hc : ∀ i u, us[i]? = some u → w.cell? ⟨b, o + i, none⟩ = some u) : ∃ u, (loadVar t ⟨b, o + off, none⟩).run P w = .ok u w ∧ Rel c v u := by
  unfold loadVar
  simp only [Sem.run_bind, run_agg h, Result.andThen_ok]
  have hadd : ∀ i, (⟨b, o + off, none⟩ : Addr).add i = ⟨b, o + off + i, none⟩ := fun i => by
    unfold Addr.add
    split
    · subst_vars; rfl
    · rfl
  unfold takeA at hv
  cases ha : aggB r.d with
  | true =>
    rw [ha] at hv
    simp only [cond_true, if_true] at hv ⊢
    cases hb : Nat.ble (off + r.size) cs.length with
    | false => rw [hb] at hv; cases hv
    | true =>
      rw [hb] at hv; simp at hv; subst hv
      have hlen : ((us.drop off).take r.size).length = r.size := by
        have := hr.length
        have := Nat.le_of_ble_eq_true hb
        simp; omega
      have hl : (loadCells ⟨b, o + off, none⟩ r.size).run P w = .ok ((us.drop off).take r.size).toArray w := by
        have h1 := run_loadCells_list (P := P) w ⟨b, o + off, none⟩ ((us.drop off).take r.size) (fun j v hj => by
          rw [hadd, Nat.add_assoc]
          refine hc (off + j) v ?_
          rw [List.getElem?_take] at hj
          split at hj
          · simpa using hj
          · cases hj)
        rw [hlen] at h1
        exact h1
      refine ⟨.agg ((us.drop off).take r.size).toArray, by simp only [Sem.run_bind, run_size h, Result.andThen_ok, hl, Sem.run_pure], ?_⟩
      exact ⟨_, rfl, by simpa using (hr.drop off).take r.size⟩
  | false =>
    rw [ha] at hv
    simp only [cond_false, Bool.false_eq_true, if_false] at hv ⊢
    obtain ⟨u, h1, h2⟩ := hr.get hv
    exact ⟨u, by rw [run_load, hc off u h1], h2⟩

def evs (F : Fr) : List Operand → Option (List AVal)
  | [] => some []
  | x :: xs => match ev F x, evs F xs with
    | some v, some vs => some (v :: vs)
    | _, _ => none

theorem evs_rel {c : Ctx} {F : Fr} {ρ : Operand → Value} : ∀ {xs : List Operand} {vs : List AVal}, (∀ x ∈ xs, ∀ v, ev F x = some v → Rel c v (ρ x)) → evs F xs = some vs → RelL c vs (xs.map ρ)
  | [], vs, _, h => by simp [evs] at h; subst h; rfl
  | x :: xs, vs, hρ, h => by
    simp only [evs] at h
    cases h1 : ev F x with
    | none => rw [h1] at h; cases h
    | some v =>
      cases h2 : evs F xs with
      | none => rw [h1, h2] at h; cases h
      | some us =>
        rw [h1, h2] at h; simp at h; subst h
        exact ⟨ρ x, xs.map ρ, rfl, hρ x (List.mem_cons_self ..) v h1, evs_rel (fun y hy => hρ y (List.mem_cons_of_mem _ hy)) h2⟩

def bitsI (op : BinOp) (k : IntKind) (a b : Int) : Int :=
  match op with
  | .and => k.wrap (BitVec.ofInt k.bits a &&& BitVec.ofInt k.bits b).toNat
  | .or => k.wrap (BitVec.ofInt k.bits a ||| BitVec.ofInt k.bits b).toNat
  | .xor => k.wrap (BitVec.ofInt k.bits a ^^^ BitVec.ofInt k.bits b).toNat
  | _ => k.wrap (BitVec.ofInt k.bits a &&& ~~~ BitVec.ofInt k.bits b).toNat

def binI (op : BinOp) (k : IntKind) (a b : Int) : Option AVal :=
  match op with
  | .add => some (.v (.int k (k.wrap (a + b))))
  | .sub => some (.v (.int k (k.wrap (a - b))))
  | .mul => some (.v (.int k (k.wrap (a * b))))
  | .quo => cond (decide (b = 0)) none (some (.v (.int k (k.wrap (a.tdiv b)))))
  | .rem => cond (decide (b = 0)) none (some (.v (.int k (a.tmod b))))
  | .and | .or | .xor | .andNot => some (.v (.int k (bitsI op k a b)))
  | .eql => some (.v (.bool (a == b)))
  | .neq => some (.v (.bool (a != b)))
  | .lss => some (.v (.bool (decide (a < b))))
  | .leq => some (.v (.bool (decide (a ≤ b))))
  | .gtr => some (.v (.bool (decide (a > b))))
  | .geq => some (.v (.bool (decide (a ≥ b))))
  | _ => none

def isShift : BinOp → Bool
  | .shl | .shr => true
  | _ => false

def binS (op : BinOp) (a b : ByteArray) : Option AVal :=
  match op with
  | .eql => some (.v (.bool (a.toList == b.toList)))
  | .neq => some (.v (.bool !(a.toList == b.toList)))
  | _ => none

def binB (op : BinOp) (a b : Bool) : Option AVal :=
  match op with
  | .eql => some (.v (.bool (a == b)))
  | .neq => some (.v (.bool !(a == b)))
  | _ => none

/-- a row of cells whose parts are put in place -/
def fillA (place : Nat → Option (Nat × Nat)) (cells : List AVal) : List (Nat × AVal) → Option (List AVal)
  | [] => some cells
  | (i, v) :: rest => match place i with
    | none => none
    | some (off, size) => cond (Nat.beq v.cells.length size && Nat.ble (off + size) cells.length && v.flat) (fillA place (cells.take off ++ v.cells ++ cells.drop (off + size)) rest) none

def evp (F : Fr) : List (Nat × Operand) → Option (List (Nat × AVal))
  | [] => some []
  | (i, x) :: xs => match ev F x, evp F xs with
    | some v, some vs => some ((i, v) :: vs)
    | _, _ => none

def places (tab : List TyRow) : List Field → Option (List (Nat × Nat))
  | [] => some []
  | f :: fs => match tfind tab f.type, places tab fs with
    | some r, some ps => some ((f.offset, r.size) :: ps)
    | _, _ => none

def readP (tab : List TyRow) (o : Op) (F : Fr) : Option AVal :=
  match o with
  | .move x | .assign x => ev F x
  | .pick c a b => match ev F c with
    | some (.v (.bool t)) => cond t (ev F a) (ev F b)
    | _ => none
  | .nilCheck x => match ev F x with
    | some (.ptr j off) => some (.ptr j off)
    | some (.pp cs off) => some (.pp cs off)
    | some (.fn (.func f) a b) => some (.fn (.func f) a b)
    | _ => none
  | .binOp op t x y _ => match ev F x, ev F y with
    | some (.v (.int k a)), some (.v (.int k' b)) => cond (isShift op) (cond (decide (b < 0)) none (match op with
        | .shl => some (.v (.int k (k.wrap (a * 2 ^ (min b.toNat k.bits)))))
        | _ => some (.v (.int k (a.fdiv (2 ^ (min b.toNat k.bits))))))) (cond (decide (k = k')) (binI op k a b) none)
    | some (.v (.string a)), some (.v (.string b)) => binS op a b
    | some (.v (.bool a)), some (.v (.bool b)) => match tfind tab t with
      | some ⟨_, .bool, _, _, _⟩ => binB op a b
      | _ => none
    | _, _ => none
  | .unOp .not _ x => match ev F x with
    | some (.v (.bool b)) => some (.v (.bool (!b)))
    | _ => none
  | .convert s d x => match ev F x, tfind tab s, tfind tab d with
    | some (.v (.int _ n)), some _, some ⟨_, .int k, _, _, _⟩ => some (.v (.int k (k.wrap n)))
    | _, _, _ => none
  | .makeFunc fn first cap => match evs F first.toList, evs F cap.toList with
    | some a, some b => some (.fn fn a b)
    | _, _ => none
  | .makeInterface t x => match ev F x, tfind tab t with
    | some v, some r => (match r.d with | .interface _ => none | _ => some (.ifc t v))
    | _, _ => none
  | .fieldAddr s x f => match tfind tab s, ev F x with
    | some ⟨_, .struct fs, _, _, _⟩, some v => match fs[f]? with
      | some fd => match tfind tab fd.type with
        | some r => cond (Nat.beq r.size 0) none (match v with
          | .ptr j off => some (.ptr j (off + fd.offset))
          | .pp cs off => some (.pp cs (off + fd.offset))
          | _ => none)
        | none => none
      | none => none
    | _, _ => none
  | .field t x f => match tfind tab t, ev F x with
    | some ⟨_, .struct fs, _, _, _⟩, some (.agg cs) => match fs[f]? with
      | some fd => match tfind tab fd.type with
        | some r => takeA r cs fd.offset
        | none => none
      | none => none
    | _, _ => none
  | .extract x i => match ev F x with
    | some (.tup cs) => cs[i]?
    | _ => none
  | .build t parts => match tfind tab t, evp F parts.toList with
    | some ⟨_, .struct fs, .agg z, _, _⟩, some vs => match places tab fs.toList with
      | some ps => (fillA (fun i => ps[i]?) (z.toList.map constA) vs).map .agg
      | none => none
    | some ⟨_, .array n e, .agg z, _, _⟩, some vs => match tfind tab e with
      | some r => (fillA (fun i => some (i * r.size, r.size)) (z.toList.map constA) vs).map .agg
      | none => none
    | _, _ => none
  | .load t a => match ev F a, tfind tab t with
    | some (.pp cs off), some r => takeA r cs off
    | _, _ => none
  | .call { callee := .builtin .len, args, argTypes } => match args[0]?, argTypes[0]? with
    | some x, some t => match ev F x, tfind tab t with
      | some (.sl xs), some ⟨_, .slice _, _, _, _⟩ => some (.v (.int .i64 xs.length))
      | some (.slf xs), some ⟨_, .slice _, _, _, _⟩ => some (.v (.int .i64 xs.length))
      | some (.v (.string s)), some ⟨_, .string, _, _, _⟩ => some (.v (.int .i64 s.size))
      | _, _ => none
    | _, _ => none
  | .call { callee := .builtin .min, args, argTypes } => match evs F args.toList with
    | some [.v (.int k a), .v (.int _ b)] => some (.v (.int k (if b < a then b else a)))
    | _ => none
  | .call { callee := .builtin .max, args, argTypes } => match evs F args.toList with
    | some [.v (.int k a), .v (.int _ b)] => some (.v (.int k (if b > a then b else a)))
    | _ => none
  | _ => none

/-- an outcome that leaves the world as it was -/
theorem came_same {ext : Nat → Prop} {w : World} {β : List Ent} {H : List AObj} {v : AVal} {u : Value} (hI : Inv ext w H β) (hr : Rel (ctx ext w β) v u) :
    Came ext w β (one v H) .ret u w := ⟨v, H, β, ⟨rfl, rfl⟩, hr, hI, Step.refl w β⟩
end
end Go.AL
