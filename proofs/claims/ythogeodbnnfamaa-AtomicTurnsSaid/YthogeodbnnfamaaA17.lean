/-
  A guard upon a truth value that is not known: both cases. Elements at a place that is known to be in range. No conditions.
-/
import Derived.Test.YthogeodbnnfamaaA16
set_option linter.unusedVariables false
namespace Go.AL
open Go

def fset : Fr → Nat → AVal → Fr
  | [], _, _ => []
  | (k, x) :: r, t, v => cond (Nat.beq k t) ((k, v) :: r) ((k, x) :: fset r t v)

theorem fset_same : ∀ {F : Fr} {t : Nat} {v : AVal}, fget F t = some v → fset F t v = F
  | [], _, _, h => by cases h
  | (k, x) :: r, t, v, h => by
    simp only [fget] at h
    simp only [fset]
    cases hb : Nat.beq k t with
    | true => rw [hb] at h; simp at h; subst h; rfl
    | false => rw [hb] at h; simp at h; simp [fset_same h]

def gtmp (ops : Array Oper) (g : Option (Nat × Bool)) : Option Nat :=
  match g with
  | some (j, _) => (ops[j]?).bind (·.dst)
  | none => none

section
variable {P : Program} {G : Gh} {ops : Array Oper} {Q : APost} {R : Fr → List AObj → Prop}

theorem awl_g {F : Fr} {H : List AObj} {d : Option Tmp} {o : Op} {ty : TypeId} {pos : String} {aft : Array Edge} {g : Option (Nat × Bool)} {l : List Oper} {t : Nat} {b : Bool}
    (ht : gtmp ops g = some t) (hb : fget F t = some (.v (.bool b)))
    (h1 : b = true → AWL P G ops Q (⟨d, o, ty, pos, aft, g⟩ :: l) (fset F t (.v (.bool true))) H)
    (h2 : b = false → AWL P G ops Q (⟨d, o, ty, pos, aft, g⟩ :: l) (fset F t (.v (.bool false))) H) :
    AWL P G ops Q (⟨d, o, ty, pos, aft, g⟩ :: l) F H := by
  cases b with
  | true => have := h1 rfl; rwa [fset_same hb] at this
  | false => have := h2 rfl; rwa [fset_same hb] at this

theorem aw_condS {c : Tmp} {x y : Code} {F : Fr} {H : List AObj} {b : Bool} (hc : fget F c = some (.v (.bool b))) (ht : b = true → AW P G x Q (fset F c (.v (.bool true))) H) (hf : b = false → AW P G y Q (fset F c (.v (.bool false))) H) :
    AW P G (.cond (.tmp c) x y) Q F H := by
  refine aw_cond (b := b) hc (fun h => ?_) (fun h => ?_)
  · have := ht h; rw [h] at hc; rwa [fset_same hc] at this
  · have := hf h; rw [h] at hc; rwa [fset_same hc] at this

theorem awd_g {F : Fr} {H : List AObj} {i : Nat} {k : K} {d : Option Tmp} {o : Op} {ty : TypeId} {pos : String} {aft : Array Edge} {g : Option (Nat × Bool)} {l : List (Nat × Oper × K)} {t : Nat} {b : Bool}
    (ht : gtmp ops g = some t) (hb : fget F t = some (.v (.bool b)))
    (h1 : b = true → AWD P G ops R ((i, ⟨d, o, ty, pos, aft, g⟩, k) :: l) (fset F t (.v (.bool true))) H)
    (h2 : b = false → AWD P G ops R ((i, ⟨d, o, ty, pos, aft, g⟩, k) :: l) (fset F t (.v (.bool false))) H) :
    AWD P G ops R ((i, ⟨d, o, ty, pos, aft, g⟩, k) :: l) F H := by
  cases b with
  | true => have := h1 rfl; rwa [fset_same hb] at this
  | false => have := h2 rfl; rwa [fset_same hb] at this

/-- the element at a place, or a dull one -/
def at' {α : Type} [Inhabited α] (l : List α) (n : Int) : α := l.getD n.toNat default

theorem at_nat {α : Type} [Inhabited α] (l : List α) (k : Nat) (h : k < l.length) : at' l (k : Int) = l[k] := by
  simp [at', h]

theorem index_at [T : TyTab P] {dst : Option Tmp} {t : TypeId} {x i : Operand} {type : TypeId} {pos : String} {after : Array Edge} {guard : Option (Nat × Bool)} {F : Fr} {H : List AObj} {a : AVal} {α : Type} [Inhabited α] {enc : α → AVal} {l : List α} {k : IntKind} {n : Int} {e : TypeId} {r r' : TyRow}
    (hx : ev F x = some a) (ha : xsOf a = some (l.map enc)) (hi : ev F i = some (.v (.int k n))) (ht : tfind T.tab t = some r') (hd : r'.d = .slice e) (he : tfind T.tab e = some r)
    (hl : (enc (at' l n)).cells.length = r.size) (hf : (enc (at' l n)).flat = true) (h0 : 0 ≤ n) (h1 : n < l.length) : DSem P .p ⟨dst, .indexAddr t x i, type, pos, after, guard⟩ F H (.pp (enc (at' l n)).cells 0) H :=
  index_map hx ha hi ht hd he h0 (by have : n.toNat < l.length := by omega
                                     simp [at', this]) hl hf
end
end Go.AL
