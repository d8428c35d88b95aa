/-
  The walk as one machine: a place in the code, one step of it, and the rules by which a walk goes on. No conditions.
-/
import Derived.Test.YthogeodbnnfamaaA25
set_option linter.unusedVariables false
namespace Go.AL
open Go

inductive Kt where
  | nil
  | seq (y : Code) (k : Kt)
  | blk (id : Nat) (k : Kt)
  | lp (R : Fr → List AObj → Prop) (k : Kt)

inductive Pt where
  | c (x : Code) (k : Kt)
  | l (ops : Array Oper) (l : List Oper) (k : Kt)
  | d (ops : Array Oper) (l : List (Nat × Oper × K)) (k : Kt)
  | e (x : AExit) (k : Kt)

section
variable (P : Program) (G : Gh) (Q : APost)
def post : Kt → APost
  | .nil => Q
  | .seq y k => athen (fun F H => AW P G y (post k) F H) (post k)
  | .blk id k => ablock id (post k)
  | .lp R k => athen R (post k)

def J : Pt → Fr → List AObj → Prop
  | .c x k, F, H => AW P G x (post P G Q k) F H
  | .l ops l k, F, H => AWL P G ops (post P G Q k) l F H
  | .d ops l k, F, H => AWD P G ops (fun F H => post P G Q k .normal F H) l F H
  | .e x k, F, H => post P G Q k x F H
end

def K.le : K → K → Bool
  | .p, _ => true
  | .r, .p => false
  | .r, _ => true
  | .s, .p => false
  | .s, .r => false
  | .s, .x => true
  | .s, _ => true
  | .x, .x => true
  | .x, .m => true
  | .x, _ => false
  | .m, .m => true
  | .m, _ => false

theorem DSem.up {P : Program} {k k' : K} {o : Oper} {F : Fr} {H H1 : List AObj} {v : AVal} (h : DSem P k o F H v H1) (hk : k.le k' = true) : DSem P k' o F H v H1 := by
  cases k <;> cases k' <;> first | exact absurd hk (by decide) | skip
  all_goals clear hk
  all_goals simp only [DSem] at h ⊢
  all_goals first
    | exact h
    | (obtain ⟨rfl, h⟩ := h; exact ⟨rfl, fun H' _ => h H'⟩)
    | (obtain ⟨rfl, h⟩ := h; exact ⟨rfl, h _⟩)
    | (obtain ⟨rfl, h⟩ := h; exact ⟨Boxes.refl _, h _⟩)
    | (obtain ⟨rfl, h⟩ := h; exact h _)
    | (obtain ⟨rfl, h⟩ := h; exact ⟨rfl, h _ (Boxes.refl _)⟩)
    | (obtain ⟨rfl, h⟩ := h; exact ⟨Boxes.refl _, h _ (Boxes.refl _)⟩)
    | (obtain ⟨rfl, h⟩ := h; exact h _ (Boxes.refl _))
    | (obtain ⟨rfl, h⟩ := h; exact ⟨Boxes.refl _, h⟩)
    | (obtain ⟨rfl, h⟩ := h; exact h)
    | exact h.2

/-! ### values and heaps in plain words -/
def spine : List AVal → Option (List AVal)
  | [] => some []
  | x :: xs => match spine xs with
    | some ys => some (x :: ys)
    | none => none
theorem spine_eq : ∀ {l l' : List AVal}, spine l = some l' → l' = l
  | [], _, h => by simp [spine] at h; exact h
  | x :: xs, l', h => by
    simp only [spine] at h
    split at h
    · rename_i ys hy; injection h with h; rw [← h, spine_eq hy]
    · cases h

/-- a number in ones -/
def num : Nat → Option Nat
  | 0 => some 0
  | n + 1 => match num n with | some m => some (m + 1) | none => none
theorem num_eq : ∀ {n m : Nat}, num n = some m → m = n
  | 0, m, h => by simp [num] at h; exact h.symm
  | n + 1, m, h => by
    simp only [num] at h; split at h
    · rename_i k hk; injection h with h; rw [← h, num_eq hk]
    · cases h
def lenH : List AObj → Option Nat
  | [] => some 0
  | _ :: l => match lenH l with | some m => some (m + 1) | none => none
theorem lenH_eq : ∀ {l : List AObj} {m : Nat}, lenH l = some m → m = l.length
  | [], m, h => by simp [lenH] at h; exact h.symm
  | _ :: l, m, h => by
    simp only [lenH] at h; split at h
    · rename_i k hk; injection h with h; rw [← h, lenH_eq hk]; rfl
    · cases h
mutual
/-- a value, its shape laid open -/
def nrm : AVal → Option AVal
  | .v x => some (.v x)
  | .agg cs => match nrmL cs with | some cs => some (.agg cs) | none => none
  | .tup cs => match nrmL cs with | some cs => some (.tup cs) | none => none
  | .sl xs => some (.sl xs)
  | .slf xs => some (.slf xs)
  | .arr j g => match num j with | some j => some (.arr j g) | none => none
  | .ptr j off => match num j with | some j => some (.ptr j off) | none => none
  | .pp cs off => some (.pp cs off)
  | .ep j g k off => match num j with | some j => some (.ep j g k off) | none => none
  | .hd j g off len => match num j with | some j => some (.hd j g off len) | none => none
  | .fn f a b => match nrmL a, nrmL b with | some a, some b => some (.fn f a b) | _, _ => none
  | .mp j => match num j with | some j => some (.mp j) | none => none
  | .ifc t x => match nrm x with | some x => some (.ifc t x) | none => none
def nrmL : List AVal → Option (List AVal)
  | [] => some []
  | x :: xs => match nrm x, nrmL xs with
    | some y, some ys => some (y :: ys)
    | _, _ => none
end
mutual
theorem nrm_eq : ∀ (a : AVal) {b : AVal}, nrm a = some b → b = a
  | .v x, b, h => by simp [nrm] at h; exact h.symm
  | .agg cs, b, h => by
    simp only [nrm] at h; split at h
    · rename_i cs' hc; injection h with h; rw [← h, nrmL_eq cs hc]
    · cases h
  | .tup cs, b, h => by
    simp only [nrm] at h; split at h
    · rename_i cs' hc; injection h with h; rw [← h, nrmL_eq cs hc]
    · cases h
  | .sl xs, b, h => by simp [nrm] at h; exact h.symm
  | .slf xs, b, h => by simp [nrm] at h; exact h.symm
  | .arr j g, b, h => by
    simp only [nrm] at h; split at h
    · rename_i i hi; injection h with h; rw [← h, num_eq hi]
    · cases h
  | .ptr j g, b, h => by
    simp only [nrm] at h; split at h
    · rename_i i hi; injection h with h; rw [← h, num_eq hi]
    · cases h
  | .pp cs off, b, h => by simp [nrm] at h; exact h.symm
  | .ep j g k off, b, h => by
    simp only [nrm] at h; split at h
    · rename_i i hi; injection h with h; rw [← h, num_eq hi]
    · cases h
  | .hd j g k off, b, h => by
    simp only [nrm] at h; split at h
    · rename_i i hi; injection h with h; rw [← h, num_eq hi]
    · cases h
  | .fn f a c, b, h => by
    simp only [nrm] at h; split at h
    · rename_i a' c' ha hc; injection h with h; rw [← h, nrmL_eq a ha, nrmL_eq c hc]
    · cases h
  | .mp j, b, h => by
    simp only [nrm] at h; split at h
    · rename_i i hi; injection h with h; rw [← h, num_eq hi]
    · cases h
  | .ifc t x, b, h => by
    simp only [nrm] at h; split at h
    · rename_i x' hx; injection h with h; rw [← h, nrm_eq x hx]
    · cases h
theorem nrmL_eq : ∀ (a : List AVal) {b : List AVal}, nrmL a = some b → b = a
  | [], b, h => by simp [nrmL] at h; exact h
  | x :: xs, b, h => by
    simp only [nrmL] at h; split at h
    · rename_i y ys hy hys; injection h with h; rw [← h, nrm_eq x hy, nrmL_eq xs hys]
    · cases h
end
def nrmO : AObj → Option AObj
  | .box t cs => match nrmL cs with | some cs => some (.box t cs) | none => none
  | .arr g t es xs => some (.arr g t es xs)
  | .raw o => some (.raw o)
  | .map es c => some (.map es c)
  | .dead g => some (.dead g)
  | .row g t es xs => some (.row g t es xs)
theorem nrmO_eq {a b : AObj} (h : nrmO a = some b) : b = a := by
  cases a <;> simp only [nrmO] at h
  case box t cs =>
    split at h
    · rename_i cs' hc; injection h with h; rw [← h, nrmL_eq cs hc]
    · cases h
  all_goals (injection h with h; exact h.symm)
def nrmH : List AObj → Option (List AObj)
  | [] => some []
  | x :: xs => match nrmO x, nrmH xs with
    | some y, some ys => some (y :: ys)
    | _, _ => none
theorem nrmH_eq : ∀ {a b : List AObj}, nrmH a = some b → b = a
  | [], b, h => by simp [nrmH] at h; exact h
  | x :: xs, b, h => by
    simp only [nrmH] at h; split at h
    · rename_i y ys hy hys; injection h with h; rw [← h, nrmO_eq hy, nrmH_eq hys]
    · cases h
/-- an aggregate's cells one by one -/
def open1 : AVal → Option AVal
  | .agg cs => match spine cs with | some cs => some (.agg cs) | none => none
  | .v x => some (.v x)
  | .tup cs => some (.tup cs)
  | .sl xs => some (.sl xs)
  | .slf xs => some (.slf xs)
  | .arr j g => some (.arr j g)
  | .ptr j off => match off with | 0 => some (.ptr j 0) | n + 1 => some (.ptr j (n + 1))
  | .pp cs off => match off with | 0 => some (.pp cs 0) | n + 1 => some (.pp cs (n + 1))
  | .ep j g k off => match off with | 0 => some (.ep j g k 0) | n + 1 => some (.ep j g k (n + 1))
  | .hd j g off len => some (.hd j g off len)
  | .fn f a b => some (.fn f a b)
  | .mp j => some (.mp j)
  | .ifc t x => some (.ifc t x)
theorem open1_eq {a b : AVal} (h : open1 a = some b) : b = a := by
  cases a <;> simp only [open1] at h
  case agg cs =>
    split at h
    · rename_i cs' hc; injection h with h; rw [← h, spine_eq hc]
    · cases h
  case ptr j off => cases off <;> (simp only at h; injection h with h; exact h.symm)
  case pp cs off => cases off <;> (simp only at h; injection h with h; exact h.symm)
  case ep j g k off => cases off <;> (simp only at h; injection h with h; exact h.symm)
  all_goals (injection h with h; exact h.symm)

/-! ### one operation -/
def isOpen : Op → Bool
  | .load .. | .field .. | .fieldAddr .. | .build .. => true
  | _ => false
def opA (tab : List TyRow) (o : Op) (F : Fr) (H : List AObj) : Option (K × AVal × List AObj) :=
  match readP tab o F with
  | some v => cond (isOpen o) (match open1 v with | some v => some (.p, v, H) | none => none) (some (.p, v, H))
  | none => match loadB tab o F H with
    | some v => match open1 v with | some v => some (.r, v, H) | none => none
    | none => match allocB tab o F with
      | some a => match lenH H, nrmO a with
        | some n, some a => some (.x, .ptr n 0, H ++ [a])
        | _, _ => none
      | none => match buildB tab o F with
        | some v => some (.p, v, H)
        | none => match storeB tab o F H with
          | some H' => some (.m, .tup [], H')
          | none => none

section
variable {P : Program}
theorem opA_sem [T : TyTab P] {dst : Option Tmp} {o : Op} {type : TypeId} {pos : String} {after : Array Edge} {guard : Option (Nat × Bool)} {F : Fr} {H H' : List AObj} {k : K} {v : AVal}
    (h : opA T.tab o F H = some (k, v, H')) : DSem P k ⟨dst, o, type, pos, after, guard⟩ F H v H' := by
  unfold opA at h
  split at h
  · rename_i w hw
    cases ho : isOpen o <;> rw [ho] at h
    · simp only [cond_false, Option.some.injEq, Prod.mk.injEq] at h
      obtain ⟨rfl, rfl, rfl⟩ := h
      exact readP_dsem hw
    · simp only [cond_true] at h
      split at h
      · rename_i w' hw'
        simp only [Option.some.injEq, Prod.mk.injEq] at h
        obtain ⟨rfl, rfl, rfl⟩ := h
        rw [open1_eq hw']
        exact readP_dsem hw
      · cases h
  · split at h
    · rename_i w hw
      split at h
      · rename_i w' hw'
        simp only [Option.some.injEq, Prod.mk.injEq] at h
        obtain ⟨rfl, rfl, rfl⟩ := h
        rw [open1_eq hw']
        exact loadB_dsem hw
      · cases h
    · split at h
      · rename_i a ha
        split at h
        · rename_i n a' hn ha'
          simp only [Option.some.injEq, Prod.mk.injEq] at h
          obtain ⟨rfl, rfl, rfl⟩ := h
          rw [nrmO_eq ha', lenH_eq hn]
          exact allocB_dsem ha
        · cases h
      · split at h
        · rename_i w hw
          simp only [Option.some.injEq, Prod.mk.injEq] at h
          obtain ⟨rfl, rfl, rfl⟩ := h
          exact buildB_dsem hw
        · split at h
          · rename_i w hw
            simp only [Option.some.injEq, Prod.mk.injEq] at h
            obtain ⟨rfl, rfl, rfl⟩ := h
            exact storeB_sem hw
          · cases h
end

def putA (n : Nat) (d : Option Tmp) (v : AVal) (F : Fr) : Option Fr :=
  match d with
  | some d => cond (Nat.blt d n) (some ((d, v) :: F)) none
  | none => some F
theorem putA_ok {n : Nat} {d : Option Tmp} {v : AVal} {F F' : Fr} (h : putA n d v F = some F') : dstOk n d = true ∧ F' = fput F d v := by
  cases d with
  | none => simp [putA] at h; exact ⟨rfl, h.symm⟩
  | some d =>
    simp only [putA] at h
    cases hb : Nat.blt d n <;> rw [hb] at h <;> simp at h
    exact ⟨hb, h.symm⟩

/-! ### one step -/
def stpO (tab : List TyRow) (n : Nat) (ops : Array Oper) (o : Oper) (kk : K) (F : Fr) (H : List AObj) : Option (Fr × List AObj) :=
  match guardA ops F o with
  | some true => match opA tab o.op F H with
    | some (k, v, H') => cond (k.le kk) (match putA n o.dst v F, nrmH H' with | some F', some H' => some (F', H') | _, _ => none) none
    | none => none
  | some false => match putA n o.dst (.tup []) F with | some F' => some (F', H) | none => none
  | none => none

def stp (tab : List TyRow) (n : Nat) (F : Fr) (H : List AObj) : Pt → Option (Pt × Fr × List AObj)
  | .c x k => match x with
    | .seq x y => some (.c x (.seq y k), F, H)
    | .block id x => some (.c x (.blk id k), F, H)
    | .skip => some (.e .normal k, F, H)
    | .ret => some (.e .ret k, F, H)
    | .exit id => some (.e (.exit id) k, F, H)
    | .region _ ops false => some (.l ops ops.toList k, F, H)
    | .cond c x y => match ev F c with
      | some (.v (.bool b)) => match b with
        | true => some (.c x k, F, H)
        | false => some (.c y k, F, H)
      | _ => none
    | _ => none
  | .l ops l k => match l with
    | [] => some (.e .normal k, F, H)
    | o :: l => match stpO tab n ops o .m F H with
      | some (F', H') => some (.l ops l k, F', H')
      | none => none
  | .d ops l k => match l with
    | [] => some (.e .normal k, F, H)
    | (_, o, kk) :: l => match stpO tab n ops o kk F H with
      | some (F', H') => some (.d ops l k, F', H')
      | none => none
  | .e x k => match x, k with
    | .normal, .seq y k => some (.c y k, F, H)
    | .normal, .blk _ k => some (.e .normal k, F, H)
    | .exit i, .blk j k => cond (Nat.beq i j) (some (.e .normal k, F, H)) (some (.e (.exit i) k, F, H))
    | .exit i, .seq _ k => some (.e (.exit i) k, F, H)
    | .exit i, .lp _ k => some (.e (.exit i) k, F, H)
    | .ret, .blk _ k => some (.e .ret k, F, H)
    | .ret, .seq _ k => some (.e .ret k, F, H)
    | .ret, .lp _ k => some (.e .ret k, F, H)
    | _, _ => none

section
variable {P : Program} {G : Gh} {Q : APost}
theorem stpO_ok [T : TyTab P] {n : Nat} {ops : Array Oper} {o : Oper} {kk : K} {F F' : Fr} {H H' : List AObj} (h : stpO T.tab n ops o kk F H = some (F', H')) :
    ∃ v, dstOk n o.dst = true ∧ F' = fput F o.dst v ∧ DStep P ops kk o F H v H' := by
  unfold stpO at h
  split at h
  · rename_i hg
    split at h
    · rename_i k v H1 ho
      cases hk : k.le kk <;> rw [hk] at h
      · cases h
      · simp only [cond_true] at h
        split at h
        · rename_i F1 H2 hp hn
          simp only [Option.some.injEq, Prod.mk.injEq] at h
          obtain ⟨rfl, rfl⟩ := h
          obtain ⟨h1, h2⟩ := putA_ok hp
          exact ⟨v, h1, h2, .inl ⟨hg, by rw [nrmH_eq hn]; exact (opA_sem ho).up hk⟩⟩
        · cases h
    · cases h
  · rename_i hg
    split at h
    · rename_i F1 hp
      simp only [Option.some.injEq, Prod.mk.injEq] at h
      obtain ⟨rfl, rfl⟩ := h
      obtain ⟨h1, h2⟩ := putA_ok hp
      exact ⟨_, h1, h2, .inr ⟨hg, rfl, rfl⟩⟩
    · cases h
  · cases h

theorem awl_any {ops : Array Oper} {o : Oper} {l : List Oper} {kk : K} {F : Fr} {H H' : List AObj} {v : AVal} (hd : dstOk G.n o.dst = true) (h : DStep P ops kk o F H v H') (next : AWL P G ops Q l (fput F o.dst v) H') : AWL P G ops Q (o :: l) F H := by
  rcases h with ⟨hg, h⟩ | ⟨hg, rfl, rfl⟩
  · exact awl_op hd hg h.op next
  · exact awl_no hd hg next

/-- ONE STEP. -/
theorem js [T : TyTab P] {s s' : Pt} {F F' : Fr} {H H' : List AObj} (h : stp T.tab G.n F H s = some (s', F', H')) (next : J P G Q s' F' H') : J P G Q s F H := by
  cases s with
  | c x k =>
    simp only [stp] at h
    split at h
    · injection h with h; injection h with h1 h2; injection h2 with h2 h3; subst h1; subst h2; subst h3; exact aw_seq next
    · injection h with h; injection h with h1 h2; injection h2 with h2 h3; subst h1; subst h2; subst h3; exact aw_block next
    · injection h with h; injection h with h1 h2; injection h2 with h2 h3; subst h1; subst h2; subst h3; exact aw_skip next
    · injection h with h; injection h with h1 h2; injection h2 with h2 h3; subst h1; subst h2; subst h3; exact aw_ret next
    · injection h with h; injection h with h1 h2; injection h2 with h2 h3; subst h1; subst h2; subst h3; exact aw_exit next
    · injection h with h; injection h with h1 h2; injection h2 with h2 h3; subst h1; subst h2; subst h3; exact aw_region next
    · split at h
      · rename_i b hc
        split at h
        · injection h with h; injection h with h1 h2; injection h2 with h2 h3; subst h1; subst h2; subst h3; exact aw_cond_t hc next
        · injection h with h; injection h with h1 h2; injection h2 with h2 h3; subst h1; subst h2; subst h3; exact aw_cond_f hc next
      · cases h
    · cases h
  | l ops l k =>
    simp only [stp] at h
    split at h
    · injection h with h; injection h with h1 h2; injection h2 with h2 h3; subst h1; subst h2; subst h3; exact (awl_nil (ops := ops) (G := G) (P := P) next)
    · split at h
      · rename_i F1 H1 ho
        injection h with h; injection h with h1 h2; injection h2 with h2 h3; subst h1; subst h2; subst h3
        obtain ⟨v, h1, rfl, h3⟩ := stpO_ok ho
        exact awl_any h1 h3 next
      · cases h
  | d ops l k =>
    simp only [stp] at h
    split at h
    · injection h with h; injection h with h1 h2; injection h2 with h2 h3; subst h1; subst h2; subst h3; exact next
    · split at h
      · rename_i F1 H1 ho
        injection h with h; injection h with h1 h2; injection h2 with h2 h3; subst h1; subst h2; subst h3
        obtain ⟨v, h1, rfl, h3⟩ := stpO_ok ho
        exact ⟨dstOk_ok h1, v, _, h3, next⟩
      · cases h
  | e x k =>
    simp only [stp] at h
    split at h
    · injection h with h; injection h with h1 h2; injection h2 with h2 h3; subst h1; subst h2; subst h3; exact next
    · injection h with h; injection h with h1 h2; injection h2 with h2 h3; subst h1; subst h2; subst h3; exact next
    · rename_i i j k
      show cond (Nat.beq i j) (post P G Q k .normal F H) (post P G Q k (.exit i) F H)
      cases hb : Nat.beq i j <;> rw [hb] at h <;>
        (injection h with h; injection h with h1 h2; injection h2 with h2 h3; subst h1; subst h2; subst h3; exact next)
    · injection h with h; injection h with h1 h2; injection h2 with h2 h3; subst h1; subst h2; subst h3; exact next
    · injection h with h; injection h with h1 h2; injection h2 with h2 h3; subst h1; subst h2; subst h3; exact next
    · injection h with h; injection h with h1 h2; injection h2 with h2 h3; subst h1; subst h2; subst h3; exact next
    · injection h with h; injection h with h1 h2; injection h2 with h2 h3; subst h1; subst h2; subst h3; exact next
    · injection h with h; injection h with h1 h2; injection h2 with h2 h3; subst h1; subst h2; subst h3; exact next
    · cases h
end
end Go.AL
