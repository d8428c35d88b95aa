/-
  The logic of walks, part 4. The walk as one machine: a place in the code, one step of it, and the rules by which a walk goes on. The rules by which a walk goes on where a step does not: orders that are open, calls, conditions, loops, and the end. Owned slices in a walk: taken up, appended to, given up. Slices over boxed arrays; owned slices cut short; bit masks. No conditions.
-/
import Derived.Test.YtaoiflliakjhdaaDoorL3
set_option linter.unusedVariables false
namespace Go.AL
open Go

inductive Kt where
  | nil
  | seq (y : Code) (k : Kt)
  | blk (id : Nat) (k : Kt)
  | lp (R : Fr → List AObj → Prop) (k : Kt)

inductive Pt where
  | c (x : Code) (k : Kt)
  | l (ops : Array Oper) (l : List Oper) (k : Kt)
  | d (ops : Array Oper) (l : List (Nat × Oper × K)) (k : Kt)
  | e (x : AExit) (k : Kt)

section
variable (P : Program) (G : Gh) (Q : APost)
def post : Kt → APost
  | .nil => Q
  | .seq y k => athen (fun F H => AW P G y (post k) F H) (post k)
  | .blk id k => ablock id (post k)
  | .lp R k => athen R (post k)

def J : Pt → Fr → List AObj → Prop
  | .c x k, F, H => AW P G x (post P G Q k) F H
  | .l ops l k, F, H => AWL P G ops (post P G Q k) l F H
  | .d ops l k, F, H => AWD P G ops (fun F H => post P G Q k .normal F H) l F H
  | .e x k, F, H => post P G Q k x F H
end

def K.le : K → K → Bool
  | .p, _ => true
  | .r, .p => false
  | .r, _ => true
  | .s, .p => false
  | .s, .r => false
  | .s, .x => true
  | .s, _ => true
  | .x, .x => true
  | .x, .m => true
  | .x, _ => false
  | .m, .m => true
  | .m, _ => false

theorem DSem.up {P : Program} {k k' : K} {o : Oper} {F : Fr} {H H1 : List AObj} {v : AVal} (h : DSem P k o F H v H1) (hk : k.le k' = true) : DSem P k' o F H v H1 := by
  cases k <;> cases k' <;> first | exact absurd hk (by decide) | skip
  all_goals clear hk
  all_goals simp only [DSem] at h ⊢
  all_goals first
    | exact h
    | (obtain ⟨rfl, h⟩ := h; exact ⟨rfl, fun H' _ => h H'⟩)
    | (obtain ⟨rfl, h⟩ := h; exact ⟨rfl, h _⟩)
    | (obtain ⟨rfl, h⟩ := h; exact ⟨Boxes.refl _, h _⟩)
    | (obtain ⟨rfl, h⟩ := h; exact h _)
    | (obtain ⟨rfl, h⟩ := h; exact ⟨rfl, h _ (Boxes.refl _)⟩)
    | (obtain ⟨rfl, h⟩ := h; exact ⟨Boxes.refl _, h _ (Boxes.refl _)⟩)
    | (obtain ⟨rfl, h⟩ := h; exact h _ (Boxes.refl _))
    | (obtain ⟨rfl, h⟩ := h; exact ⟨Boxes.refl _, h⟩)
    | (obtain ⟨rfl, h⟩ := h; exact h)
    | exact h.2

/-! ### values and heaps in plain words -/
def spine : List AVal → Option (List AVal)
  | [] => some []
  | x :: xs => match spine xs with
    | some ys => some (x :: ys)
    | none => none
theorem spine_eq : ∀ {l l' : List AVal}, spine l = some l' → l' = l
  | [], _, h => by simp [spine] at h; exact h
  | x :: xs, l', h => by
    simp only [spine] at h
    split at h
    · rename_i ys hy; injection h with h; rw [← h, spine_eq hy]
    · cases h

/-- a number in ones -/
def num : Nat → Option Nat
  | 0 => some 0
  | n + 1 => match num n with | some m => some (m + 1) | none => none
theorem num_eq : ∀ {n m : Nat}, num n = some m → m = n
  | 0, m, h => by simp [num] at h; exact h.symm
  | n + 1, m, h => by
    simp only [num] at h; split at h
    · rename_i k hk; injection h with h; rw [← h, num_eq hk]
    · cases h
def lenH : List AObj → Option Nat
  | [] => some 0
  | _ :: l => match lenH l with | some m => some (m + 1) | none => none
theorem lenH_eq : ∀ {l : List AObj} {m : Nat}, lenH l = some m → m = l.length
  | [], m, h => by simp [lenH] at h; exact h.symm
  | _ :: l, m, h => by
    simp only [lenH] at h; split at h
    · rename_i k hk; injection h with h; rw [← h, lenH_eq hk]; rfl
    · cases h
mutual
/-- a value, its shape laid open -/
def nrm : AVal → Option AVal
  | .v x => some (.v x)
  | .agg cs => match nrmL cs with | some cs => some (.agg cs) | none => none
  | .tup cs => match nrmL cs with | some cs => some (.tup cs) | none => none
  | .sl xs => some (.sl xs)
  | .slf xs => some (.slf xs)
  | .arr j g => match num j with | some j => some (.arr j g) | none => none
  | .ptr j off => match num j with | some j => some (.ptr j off) | none => none
  | .pp cs off => some (.pp cs off)
  | .ep j g k off => match num j with | some j => some (.ep j g k off) | none => none
  | .hd j g off len => match num j with | some j => some (.hd j g off len) | none => none
  | .bs j off len cap => match num j with | some j => some (.bs j off len cap) | none => none
  | .fn f a b => match nrmL a, nrmL b with | some a, some b => some (.fn f a b) | _, _ => none
  | .mp j => match num j with | some j => some (.mp j) | none => none
  | .ifc t x => match nrm x with | some x => some (.ifc t x) | none => none
def nrmL : List AVal → Option (List AVal)
  | [] => some []
  | x :: xs => match nrm x, nrmL xs with
    | some y, some ys => some (y :: ys)
    | _, _ => none
end
mutual
theorem nrm_eq : ∀ (a : AVal) {b : AVal}, nrm a = some b → b = a
  | .v x, b, h => by simp [nrm] at h; exact h.symm
  | .agg cs, b, h => by
    simp only [nrm] at h; split at h
    · rename_i cs' hc; injection h with h; rw [← h, nrmL_eq cs hc]
    · cases h
  | .tup cs, b, h => by
    simp only [nrm] at h; split at h
    · rename_i cs' hc; injection h with h; rw [← h, nrmL_eq cs hc]
    · cases h
  | .sl xs, b, h => by simp [nrm] at h; exact h.symm
  | .slf xs, b, h => by simp [nrm] at h; exact h.symm
  | .arr j g, b, h => by
    simp only [nrm] at h; split at h
    · rename_i i hi; injection h with h; rw [← h, num_eq hi]
    · cases h
  | .ptr j g, b, h => by
    simp only [nrm] at h; split at h
    · rename_i i hi; injection h with h; rw [← h, num_eq hi]
    · cases h
  | .pp cs off, b, h => by simp [nrm] at h; exact h.symm
  | .ep j g k off, b, h => by
    simp only [nrm] at h; split at h
    · rename_i i hi; injection h with h; rw [← h, num_eq hi]
    · cases h
  | .bs j g k off, b, h => by
    simp only [nrm] at h; split at h
    · rename_i i hi; injection h with h; rw [← h, num_eq hi]
    · cases h
  | .hd j g k off, b, h => by
    simp only [nrm] at h; split at h
    · rename_i i hi; injection h with h; rw [← h, num_eq hi]
    · cases h
  | .fn f a c, b, h => by
    simp only [nrm] at h; split at h
    · rename_i a' c' ha hc; injection h with h; rw [← h, nrmL_eq a ha, nrmL_eq c hc]
    · cases h
  | .mp j, b, h => by
    simp only [nrm] at h; split at h
    · rename_i i hi; injection h with h; rw [← h, num_eq hi]
    · cases h
  | .ifc t x, b, h => by
    simp only [nrm] at h; split at h
    · rename_i x' hx; injection h with h; rw [← h, nrm_eq x hx]
    · cases h
theorem nrmL_eq : ∀ (a : List AVal) {b : List AVal}, nrmL a = some b → b = a
  | [], b, h => by simp [nrmL] at h; exact h
  | x :: xs, b, h => by
    simp only [nrmL] at h; split at h
    · rename_i y ys hy hys; injection h with h; rw [← h, nrm_eq x hy, nrmL_eq xs hys]
    · cases h
end
def nrmO : AObj → Option AObj
  | .box t cs => match nrmL cs with | some cs => some (.box t cs) | none => none
  | .arr g t es xs => some (.arr g t es xs)
  | .raw b o => some (.raw b o)
  | .fix b o => some (.fix b o)
  | .vmap es => some (.vmap es)
  | .loop l st pend s vs => match nrmL vs with | some vs => some (.loop l st pend s vs) | none => none
  | .map es => some (.map es)
  | .dead g => some (.dead g)
  | .row g t es xs => some (.row g t es xs)
theorem nrmO_eq {a b : AObj} (h : nrmO a = some b) : b = a := by
  cases a <;> simp only [nrmO] at h
  case box t cs =>
    split at h
    · rename_i cs' hc; injection h with h; rw [← h, nrmL_eq cs hc]
    · cases h
  case loop l st pend s vs =>
    split at h
    · rename_i cs' hc; injection h with h; rw [← h, nrmL_eq vs hc]
    · cases h
  all_goals (injection h with h; exact h.symm)
def nrmH : List AObj → Option (List AObj)
  | [] => some []
  | x :: xs => match nrmO x, nrmH xs with
    | some y, some ys => some (y :: ys)
    | _, _ => none
theorem nrmH_eq : ∀ {a b : List AObj}, nrmH a = some b → b = a
  | [], b, h => by simp [nrmH] at h; exact h
  | x :: xs, b, h => by
    simp only [nrmH] at h; split at h
    · rename_i y ys hy hys; injection h with h; rw [← h, nrmO_eq hy, nrmH_eq hys]
    · cases h
/-- an aggregate's cells one by one -/
def open1 : AVal → Option AVal
  | .agg cs => match spine cs with | some cs => some (.agg cs) | none => none
  | .v x => some (.v x)
  | .tup cs => some (.tup cs)
  | .sl xs => some (.sl xs)
  | .slf xs => some (.slf xs)
  | .arr j g => some (.arr j g)
  | .ptr j off => match off with | 0 => some (.ptr j 0) | n + 1 => some (.ptr j (n + 1))
  | .pp cs off => match off with | 0 => some (.pp cs 0) | n + 1 => some (.pp cs (n + 1))
  | .ep j g k off => match off with | 0 => some (.ep j g k 0) | n + 1 => some (.ep j g k (n + 1))
  | .hd j g off len => some (.hd j g off len)
  | .bs j off len cap => some (.bs j off len cap)
  | .fn f a b => some (.fn f a b)
  | .mp j => some (.mp j)
  | .ifc t x => some (.ifc t x)
theorem open1_eq {a b : AVal} (h : open1 a = some b) : b = a := by
  cases a <;> simp only [open1] at h
  case agg cs =>
    split at h
    · rename_i cs' hc; injection h with h; rw [← h, spine_eq hc]
    · cases h
  case ptr j off => cases off <;> (simp only at h; injection h with h; exact h.symm)
  case pp cs off => cases off <;> (simp only at h; injection h with h; exact h.symm)
  case ep j g k off => cases off <;> (simp only at h; injection h with h; exact h.symm)
  all_goals (injection h with h; exact h.symm)

/-! ### one operation -/
def isOpen : Op → Bool
  | .load .. | .field .. | .fieldAddr .. | .build .. => true
  | _ => false
def opA (tab : List TyRow) (o : Op) (F : Fr) (H : List AObj) : Option (K × AVal × List AObj) :=
  match readP tab o F with
  | some v => cond (isOpen o) (match open1 v with | some v => some (.p, v, H) | none => none) (some (.p, v, H))
  | none => match loadB tab o F H with
    | some v => match open1 v with | some v => some (.r, v, H) | none => none
    | none => match allocB tab o F with
      | some a => match lenH H, nrmO a with
        | some n, some a => match nrmH (H ++ [a]) with
          | some H' => some (.x, .ptr n 0, H')
          | none => none
        | _, _ => none
      | none => match storeB tab o F H with
        | some H' => match nrmH H' with
          | some H' => some (.m, .tup [], H')
          | none => none
        | none => none

section
variable {P : Program}
theorem opA_sem [T : TyTab P] {dst : Option Tmp} {o : Op} {type : TypeId} {pos : String} {after : Array Edge} {guard : Option (Nat × Bool)} {F : Fr} {H H' : List AObj} {k : K} {v : AVal}
    (h : opA T.tab o F H = some (k, v, H')) : DSem P k ⟨dst, o, type, pos, after, guard⟩ F H v H' := by
  unfold opA at h
  split at h
  · rename_i w hw
    cases ho : isOpen o <;> rw [ho] at h
    · simp only [cond_false, Option.some.injEq, Prod.mk.injEq] at h
      obtain ⟨rfl, rfl, rfl⟩ := h
      exact readP_dsem hw
    · simp only [cond_true] at h
      split at h
      · rename_i w' hw'
        simp only [Option.some.injEq, Prod.mk.injEq] at h
        obtain ⟨rfl, rfl, rfl⟩ := h
        rw [open1_eq hw']
        exact readP_dsem hw
      · cases h
  · split at h
    · rename_i w hw
      split at h
      · rename_i w' hw'
        simp only [Option.some.injEq, Prod.mk.injEq] at h
        obtain ⟨rfl, rfl, rfl⟩ := h
        rw [open1_eq hw']
        exact loadB_dsem hw
      · cases h
    · split at h
      · rename_i a ha
        split at h
        · rename_i n a' hn ha'
          split at h
          · rename_i H1 hH1
            simp only [Option.some.injEq, Prod.mk.injEq] at h
            obtain ⟨rfl, rfl, rfl⟩ := h
            rw [nrmH_eq hH1, nrmO_eq ha', lenH_eq hn]
            exact allocB_dsem ha
          · cases h
        · cases h
      · split at h
        · rename_i w hw
          split at h
          · rename_i H1 hH1
            simp only [Option.some.injEq, Prod.mk.injEq] at h
            obtain ⟨rfl, rfl, rfl⟩ := h
            rw [nrmH_eq hH1]
            exact storeB_sem hw
          · cases h
        · cases h
end

def putA (n : Nat) (d : Option Tmp) (v : AVal) (F : Fr) : Option Fr :=
  match d with
  | some d => cond (Nat.blt d n) (some ((d, v) :: F)) none
  | none => some F
theorem putA_ok {n : Nat} {d : Option Tmp} {v : AVal} {F F' : Fr} (h : putA n d v F = some F') : dstOk n d = true ∧ F' = fput F d v := by
  cases d with
  | none => simp [putA] at h; exact ⟨rfl, h.symm⟩
  | some d =>
    simp only [putA] at h
    cases hb : Nat.blt d n <;> rw [hb] at h <;> simp at h
    exact ⟨hb, h.symm⟩

/-! ### one step -/
def stpO (tab : List TyRow) (n : Nat) (ops : Array Oper) (o : Oper) (kk : K) (F : Fr) (H : List AObj) : Option (Fr × List AObj) :=
  match guardA ops F o with
  | some true => match opA tab o.op F H with
    | some (k, v, H') => cond (k.le kk) (match putA n o.dst v F with | some F' => some (F', H') | none => none) none
    | none => none
  | some false => match putA n o.dst (.tup []) F with | some F' => some (F', H) | none => none
  | none => none

def stp (tab : List TyRow) (n : Nat) (F : Fr) (H : List AObj) : Pt → Option (Pt × Fr × List AObj)
  | .c x k => match x with
    | .seq x y => some (.c x (.seq y k), F, H)
    | .block id x => some (.c x (.blk id k), F, H)
    | .skip => some (.e .normal k, F, H)
    | .ret => some (.e .ret k, F, H)
    | .exit id => some (.e (.exit id) k, F, H)
    | .region _ ops false => some (.l ops ops.toList k, F, H)
    | .cond c x y => match ev F c with
      | some (.v (.bool b)) => match b with
        | true => some (.c x k, F, H)
        | false => some (.c y k, F, H)
      | _ => none
    | _ => none
  | .l ops l k => match l with
    | [] => some (.e .normal k, F, H)
    | o :: l => match stpO tab n ops o .m F H with
      | some (F', H') => some (.l ops l k, F', H')
      | none => none
  | .d ops l k => match l with
    | [] => some (.e .normal k, F, H)
    | (_, o, kk) :: l => match stpO tab n ops o kk F H with
      | some (F', H') => some (.d ops l k, F', H')
      | none => none
  | .e x k => match x, k with
    | .normal, .seq y k => some (.c y k, F, H)
    | .normal, .blk _ k => some (.e .normal k, F, H)
    | .exit i, .blk j k => cond (Nat.beq i j) (some (.e .normal k, F, H)) (some (.e (.exit i) k, F, H))
    | .exit i, .seq _ k => some (.e (.exit i) k, F, H)
    | .exit i, .lp _ k => some (.e (.exit i) k, F, H)
    | .ret, .blk _ k => some (.e .ret k, F, H)
    | .ret, .seq _ k => some (.e .ret k, F, H)
    | .ret, .lp _ k => some (.e .ret k, F, H)
    | _, _ => none

section
variable {P : Program} {G : Gh} {Q : APost}
theorem stpO_ok [T : TyTab P] {n : Nat} {ops : Array Oper} {o : Oper} {kk : K} {F F' : Fr} {H H' : List AObj} (h : stpO T.tab n ops o kk F H = some (F', H')) :
    ∃ v, dstOk n o.dst = true ∧ F' = fput F o.dst v ∧ DStep P ops kk o F H v H' := by
  unfold stpO at h
  split at h
  · rename_i hg
    split at h
    · rename_i k v H1 ho
      cases hk : k.le kk <;> rw [hk] at h
      · cases h
      · simp only [cond_true] at h
        split at h
        · rename_i F1 hp
          simp only [Option.some.injEq, Prod.mk.injEq] at h
          obtain ⟨rfl, rfl⟩ := h
          obtain ⟨h1, h2⟩ := putA_ok hp
          exact ⟨v, h1, h2, .inl ⟨hg, (opA_sem ho).up hk⟩⟩
        · cases h
    · cases h
  · rename_i hg
    split at h
    · rename_i F1 hp
      simp only [Option.some.injEq, Prod.mk.injEq] at h
      obtain ⟨rfl, rfl⟩ := h
      obtain ⟨h1, h2⟩ := putA_ok hp
      exact ⟨_, h1, h2, .inr ⟨hg, rfl, rfl⟩⟩
    · cases h
  · cases h

theorem awl_any {ops : Array Oper} {o : Oper} {l : List Oper} {kk : K} {F : Fr} {H H' : List AObj} {v : AVal} (hd : dstOk G.n o.dst = true) (h : DStep P ops kk o F H v H') (next : AWL P G ops Q l (fput F o.dst v) H') : AWL P G ops Q (o :: l) F H := by
  rcases h with ⟨hg, h⟩ | ⟨hg, rfl, rfl⟩
  · exact awl_op hd hg h.op next
  · exact awl_no hd hg next

/-- ONE STEP. -/
theorem js [T : TyTab P] {s s' : Pt} {F F' : Fr} {H H' : List AObj} (h : stp T.tab G.n F H s = some (s', F', H')) (next : J P G Q s' F' H') : J P G Q s F H := by
  cases s with
  | c x k =>
    simp only [stp] at h
    split at h
    · injection h with h; injection h with h1 h2; injection h2 with h2 h3; subst h1; subst h2; subst h3; exact aw_seq next
    · injection h with h; injection h with h1 h2; injection h2 with h2 h3; subst h1; subst h2; subst h3; exact aw_block next
    · injection h with h; injection h with h1 h2; injection h2 with h2 h3; subst h1; subst h2; subst h3; exact aw_skip next
    · injection h with h; injection h with h1 h2; injection h2 with h2 h3; subst h1; subst h2; subst h3; exact aw_ret next
    · injection h with h; injection h with h1 h2; injection h2 with h2 h3; subst h1; subst h2; subst h3; exact aw_exit next
    · injection h with h; injection h with h1 h2; injection h2 with h2 h3; subst h1; subst h2; subst h3; exact aw_region next
    · split at h
      · rename_i b hc
        split at h
        · injection h with h; injection h with h1 h2; injection h2 with h2 h3; subst h1; subst h2; subst h3; exact aw_cond_t hc next
        · injection h with h; injection h with h1 h2; injection h2 with h2 h3; subst h1; subst h2; subst h3; exact aw_cond_f hc next
      · cases h
    · cases h
  | l ops l k =>
    simp only [stp] at h
    split at h
    · injection h with h; injection h with h1 h2; injection h2 with h2 h3; subst h1; subst h2; subst h3; exact (awl_nil (ops := ops) (G := G) (P := P) next)
    · split at h
      · rename_i F1 H1 ho
        injection h with h; injection h with h1 h2; injection h2 with h2 h3; subst h1; subst h2; subst h3
        obtain ⟨v, h1, rfl, h3⟩ := stpO_ok ho
        exact awl_any h1 h3 next
      · cases h
  | d ops l k =>
    simp only [stp] at h
    split at h
    · injection h with h; injection h with h1 h2; injection h2 with h2 h3; subst h1; subst h2; subst h3; exact next
    · split at h
      · rename_i F1 H1 ho
        injection h with h; injection h with h1 h2; injection h2 with h2 h3; subst h1; subst h2; subst h3
        obtain ⟨v, h1, rfl, h3⟩ := stpO_ok ho
        exact ⟨dstOk_ok h1, v, _, h3, next⟩
      · cases h
  | e x k =>
    simp only [stp] at h
    split at h
    · injection h with h; injection h with h1 h2; injection h2 with h2 h3; subst h1; subst h2; subst h3; exact next
    · injection h with h; injection h with h1 h2; injection h2 with h2 h3; subst h1; subst h2; subst h3; exact next
    · rename_i i j k
      show cond (Nat.beq i j) (post P G Q k .normal F H) (post P G Q k (.exit i) F H)
      cases hb : Nat.beq i j <;> rw [hb] at h <;>
        (injection h with h; injection h with h1 h2; injection h2 with h2 h3; subst h1; subst h2; subst h3; exact next)
    · injection h with h; injection h with h1 h2; injection h2 with h2 h3; subst h1; subst h2; subst h3; exact next
    · injection h with h; injection h with h1 h2; injection h2 with h2 h3; subst h1; subst h2; subst h3; exact next
    · injection h with h; injection h with h1 h2; injection h2 with h2 h3; subst h1; subst h2; subst h3; exact next
    · injection h with h; injection h with h1 h2; injection h2 with h2 h3; subst h1; subst h2; subst h3; exact next
    · injection h with h; injection h with h1 h2; injection h2 with h2 h3; subst h1; subst h2; subst h3; exact next
    · cases h
end
end Go.AL

set_option linter.unusedVariables false
namespace Go.AL
open Go

section
variable {P : Program} {G : Gh} {Q : APost} {F F' : Fr} {H H' : List AObj} {k : Kt}

/-- a region whose order is open, in the order of the text -/
theorem jdraw [T : TyTab P] {id : Nat} {l : List Oper} (hc : drawOk l (plan0 0 l) = true) (next : J P G Q (.d l.toArray (plan0 0 l) k) F H) : J P G Q (.c (.region id l.toArray true) k) F H := aw_draw hc next
theorem jdrawP [T : TyTab P] {id : Nat} {l : List Oper} (pl : List (Nat × K)) (hp : pl.all (fun x => Nat.blt x.1 l.length) = true) (hc : drawOk l (plan l pl) = true)
    (next : J P G Q (.d l.toArray (plan l pl) k) F H) : J P G Q (.c (.region id l.toArray true) k) F H := aw_drawP pl hp hc next

/-- the next operation, and what is behind it -/
def nextO : Pt → Option (Array Oper × Oper × Option K × Pt)
  | .l ops l k => match l with
    | [] => none
    | o :: l => some (ops, o, none, .l ops l k)
  | .d ops l k => match l with
    | [] => none
    | (_, o, kk) :: l => some (ops, o, some kk, .d ops l k)
  | _ => none
def okK (k : K) : Option K → Bool
  | none => true
  | some kk => k.le kk
/-- an operation of which DSem is known -/
theorem jo {s s' : Pt} {ops : Array Oper} {o : Oper} {kk : Option K} {kd : K} {v : AVal} (h : nextO s = some (ops, o, kk, s')) (hg : guardA ops F o = some true) (hd : DSem P kd o F H v H') (hk : okK kd kk = true) (hp : putA G.n o.dst v F = some F')
    (next : J P G Q s' F' H') : J P G Q s F H := by
  obtain ⟨h1, rfl⟩ := putA_ok hp
  cases s with
  | c => cases h
  | e => cases h
  | l os l k =>
    simp only [nextO] at h
    split at h
    · cases h
    · injection h with h; injection h with h2 h3; injection h3 with h3 h4; injection h4 with h4 h5; subst h2; subst h3; subst h5
      exact awl_op h1 hg hd.op next
  | d os l k =>
    simp only [nextO] at h
    split at h
    · cases h
    · injection h with h; injection h with h2 h3; injection h3 with h3 h4; injection h4 with h4 h5; subst h2; subst h3; subst h4; subst h5
      exact ⟨dstOk_ok h1, v, H', .inl ⟨hg, hd.up hk⟩, next⟩

/-- a slice that is built: nobody changes it, or it is owned -/
theorem jbu [T : TyTab P] {s s' : Pt} {ops : Array Oper} {dst : Option Tmp} {o : Op} {type : TypeId} {pos : String} {after : Array Edge} {guard : Option (Nat × Bool)} {kk : Option K} {v : AVal} (h : nextO s = some (ops, ⟨dst, o, type, pos, after, guard⟩, kk, s')) (hb : buildB T.tab o F = some v)
    (hg : guardA ops F ⟨dst, o, type, pos, after, guard⟩ = some true) (hp : putA G.n dst v F = some F') (next : J P G Q s' F' H) : J P G Q s F H :=
  jo h hg (buildB_dsem hb) (by cases kk <;> rfl) hp next
theorem jbo [T : TyTab P] {s s' : Pt} {ops : Array Oper} {dst : Option Tmp} {t : TypeId} {len : Nat} {parts : Array (Nat × Operand)} {type : TypeId} {pos : String} {after : Array Edge} {guard : Option (Nat × Bool)} {kk : Option K} {xs : List AVal} {e0 : TypeId} {s0 n : Nat}
    (h : nextO s = some (ops, ⟨dst, .buildSlice t len parts, type, pos, after, guard⟩, kk, s')) (hb : buildB T.tab (.buildSlice t len parts) F = some (.slf xs)) (hT : buildT T.tab t = some (e0, s0)) (hn : lenH H = some n) (hH : nrmH (H ++ [.arr 1 e0 s0 xs]) = some H')
    (hg : guardA ops F ⟨dst, .buildSlice t len parts, type, pos, after, guard⟩ = some true) (hk : okK .x kk = true) (hp : putA G.n dst (.arr n 1) F = some F') (next : J P G Q s' F' H') : J P G Q s F H := by
  have hd := build_own (P := P) (dst := dst) (type := type) (pos := pos) (after := after) (guard := guard) (F := F) (H := H) hb hT
  rw [← lenH_eq hn, ← nrmH_eq hH] at hd
  exact jo h hg hd hk hp next

theorem ltV_rn {τ : Nat → Nat} : ∀ {v : AVal}, ltV 0 v = true → rnV τ v = v := by
  intro v
  refine AVal.rec (motive_1 := fun v => ltV 0 v = true → rnV τ v = v) (motive_2 := fun l => ltL 0 l = true → rnL τ l = l) ?_ ?_ ?_ ?_ ?_ ?_ ?_ ?_ ?_ ?_ ?_ ?_ ?_ ?_ ?_ ?_ v
  all_goals intros
  all_goals try simp_all [ltV, ltL, rnV, rnL]
theorem ltL_rn {τ : Nat → Nat} : ∀ {l : List AVal}, ltL 0 l = true → rnL τ l = l
  | [], _ => rfl
  | x :: xs, h => by
    simp only [ltL, Bool.and_eq_true] at h
    simp only [rnL, ltV_rn h.1, ltL_rn h.2]

def callO (F : Fr) (o : Op) : Option (FuncId × List AVal) :=
  match o with
  | .call c => match c.callee with
    | .value fo => match ev F fo, evs F c.args.toList with
      | some (.fn (.func g) first cap), some vs => some (g, first ++ vs ++ cap)
      | _, _ => none
    | _ => none
  | _ => none
theorem callO_sem {dst : Option Tmp} {o : Op} {type : TypeId} {pos : String} {after : Array Edge} {guard : Option (Nat × Bool)} {f : FuncId} {args : List AVal} (h : callO F o = some (f, args)) {res : Eff} (hc : ACalls P f args H res) :
    OpSem P ⟨dst, o, type, pos, after, guard⟩ F H res := by
  unfold callO at h
  split at h
  · rename_i c
    split at h
    · rename_i fo hfo
      split at h
      · rename_i g first cap vs hf ha
        simp only [Option.some.injEq, Prod.mk.injEq] at h
        obtain ⟨rfl, rfl⟩ := h
        obtain ⟨callee, as, ts⟩ := c
        subst hfo
        exact call_sem hf ha hc
      · cases h
    · cases h
  · cases h

/-- a call of a function that is handed values alone and gives one -/
theorem callV {f : FuncId} {args : List AVal} {v : AVal} (hc : ACalls P f args [] (one v [])) {dst : Option Tmp} {o : Op} {type : TypeId} {pos : String} {after : Array Edge} {guard : Option (Nat × Bool)} (h : callO F o = some (f, args))
    (hl : (ltL 0 args && ltV 0 v) = true) : DSem P .p ⟨dst, o, type, pos, after, guard⟩ F H v H := by
  simp only [Bool.and_eq_true] at hl
  refine ⟨rfl, fun H' => callO_sem h ?_⟩
  have := hc.from (Hc := H') [] rfl rfl hl.1 rfl (fun i j h => by simp at h)
  rw [ltL_rn hl.1] at this
  refine this.mono ?_
  rintro r G ⟨r0, Ho, ⟨rfl, rfl⟩, _, rfl, rfl⟩
  exact ⟨by show ARes.ret (rnV _ v) = _; rw [ltV_rn hl.2], by simp [putBack]⟩
theorem jv {f : FuncId} {args : List AVal} {v : AVal} (hc : ACalls P f args [] (one v [])) {s s' : Pt} {ops : Array Oper} {dst : Option Tmp} {o : Op} {type : TypeId} {pos : String} {after : Array Edge} {guard : Option (Nat × Bool)} {kk : Option K}
    (h : nextO s = some (ops, ⟨dst, o, type, pos, after, guard⟩, kk, s')) (ho : callO F o = some (f, args)) (hg : guardA ops F ⟨dst, o, type, pos, after, guard⟩ = some true) (hl : (ltL 0 args && ltV 0 v) = true) (hp : putA G.n dst v F = some F')
    (next : J P G Q s' F' H) : J P G Q s F H :=
  jo h hg (callV hc ho hl) (by cases kk <;> rfl) hp next

/-- a call of a function that is handed owned things: σ tells which -/
def sigA (σ : List Nat) (Hc H : List AObj) (args0 args : List AVal) : Prop :=
  rnL (tau σ Hc.length) args0 = args ∧ sigOk σ Hc.length = true ∧ σ.length = H.length ∧ ltL σ.length args0 = true ∧ H.all (ltO σ.length) = true ∧ σ.map (fun j => Hc[j]?) = H.map (fun o => some (rnO (tau σ Hc.length) o))
theorem callB (σ : List Nat) {f : FuncId} {args0 args : List AVal} {v v' : AVal} {Hc Hc' : List AObj} (hc : ACalls P f args0 H (one v H')) {dst : Option Tmp} {o : Op} {type : TypeId} {pos : String} {after : Array Edge} {guard : Option (Nat × Bool)} (h : callO F o = some (f, args))
    (hσ : sigA σ Hc H args0 args) (hv : nrm (rnV (tau σ Hc.length) v) = some v') (hH : nrmH (putBack (tau σ Hc.length) σ Hc H') = some Hc') : DSem P .m ⟨dst, o, type, pos, after, guard⟩ F Hc v' Hc' := by
  obtain ⟨h1, h2, h3, h4, h5, h6⟩ := hσ
  have hf := hc.from σ h2 h3 h4 h5 (fun i j hij => by
    have := congrArg (fun l => l[i]?) h6
    simp only [List.getElem?_map, hij, Option.map_some] at this
    cases hi : H[i]? with
    | none => rw [hi] at this; cases this
    | some o => rw [hi] at this; simpa using this)
  rw [h1] at hf
  refine callO_sem h (hf.mono ?_)
  rintro r G ⟨r0, Ho, ⟨rfl, rfl⟩, _, rfl, rfl⟩
  exact ⟨by rw [nrm_eq _ hv], (nrmH_eq hH).symm⟩
theorem jb (σ : List Nat) {f : FuncId} {args0 args : List AVal} {v v' : AVal} {H0 H1 : List AObj} (hc : ACalls P f args0 H0 (one v H1)) {s s' : Pt} {ops : Array Oper} {dst : Option Tmp} {o : Op} {type : TypeId} {pos : String} {after : Array Edge} {guard : Option (Nat × Bool)} {kk : Option K}
    (h : nextO s = some (ops, ⟨dst, o, type, pos, after, guard⟩, kk, s')) (ho : callO F o = some (f, args)) (hg : guardA ops F ⟨dst, o, type, pos, after, guard⟩ = some true) (hσ : sigA σ H H0 args0 args)
    (hv : nrm (rnV (tau σ H.length) v) = some v') (hH : nrmH (putBack (tau σ H.length) σ H H1) = some H') (hk : okK .m kk = true) (hp : putA G.n dst v' F = some F') (next : J P G Q s' F' H') : J P G Q s F H :=
  jo h hg (callB σ hc ho hσ hv hH) hk hp next
/-- .. of which it is known that it leaves boxes as they are -/
theorem jbx (σ : List Nat) {f : FuncId} {args0 args : List AVal} {v v' : AVal} {H0 H1 : List AObj} (hc : ACalls P f args0 H0 (one v H1)) {s s' : Pt} {ops : Array Oper} {dst : Option Tmp} {o : Op} {type : TypeId} {pos : String} {after : Array Edge} {guard : Option (Nat × Bool)} {kk : Option K}
    (h : nextO s = some (ops, ⟨dst, o, type, pos, after, guard⟩, kk, s')) (ho : callO F o = some (f, args)) (hg : guardA ops F ⟨dst, o, type, pos, after, guard⟩ = some true) (hσ : sigA σ H H0 args0 args)
    (hv : nrm (rnV (tau σ H.length) v) = some v') (hH : nrmH (putBack (tau σ H.length) σ H H1) = some H') (hb : SameBox H H') (hk : okK .x kk = true) (hp : putA G.n dst v' F = some F') (next : J P G Q s' F' H') : J P G Q s F H :=
  jo h hg ((callB σ hc ho hσ hv hH).x hb) hk hp next

/-- a truth value that is not known -/
theorem jif {c : Operand} {x y : Code} {b : Bool} (hc : ev F c = some (.v (.bool b))) (ht : b = true → J P G Q (.c x k) F H) (hf : b = false → J P G Q (.c y k) F H) : J P G Q (.c (.cond c x y) k) F H := aw_cond hc ht hf
def fsetO : Fr → Nat → AVal → Option Fr
  | [], _, _ => none
  | (k, x) :: r, t, v => cond (Nat.beq k t) (some ((k, v) :: r)) (match fsetO r t v with | some r' => some ((k, x) :: r') | none => none)
theorem fsetO_same : ∀ {F F' : Fr} {t : Nat} {v : AVal}, fget F t = some v → fsetO F t v = some F' → F' = F
  | [], _, _, _, h, _ => by cases h
  | (k, x) :: r, F', t, v, h, h' => by
    simp only [fget] at h
    simp only [fsetO] at h'
    cases hb : Nat.beq k t with
    | true => rw [hb] at h h'; simp at h h'; subst h; exact h'.symm
    | false =>
      rw [hb] at h h'; simp only [cond_false] at h h'
      split at h'
      · rename_i r' hr; injection h' with h'; rw [← h', fsetO_same h hr]
      · cases h'
theorem jc {c : Tmp} {x y : Code} {b : Bool} {F1 F2 : Fr} (hc : fget F c = some (.v (.bool b))) (h1 : fsetO F c (.v (.bool true)) = some F1) (h2 : fsetO F c (.v (.bool false)) = some F2)
    (ht : b = true → J P G Q (.c x k) F1 H) (hf : b = false → J P G Q (.c y k) F2 H) : J P G Q (.c (.cond (.tmp c) x y) k) F H := by
  refine jif (b := b) hc (fun h => ?_) (fun h => ?_)
  · have := ht h; subst h; rwa [fsetO_same hc h1] at this
  · have := hf h; subst h; rwa [fsetO_same hc h2] at this
def guardT (s : Pt) : Option Nat := match nextO s with
  | some (ops, o, _, _) => gtmp ops o.guard
  | none => none
theorem jg {s : Pt} {t : Nat} {b : Bool} {F1 F2 : Fr} (ht : guardT s = some t) (hb : fget F t = some (.v (.bool b))) (h1 : fsetO F t (.v (.bool true)) = some F1) (h2 : fsetO F t (.v (.bool false)) = some F2)
    (hT : b = true → J P G Q s F1 H) (hF : b = false → J P G Q s F2 H) : J P G Q s F H := by
  cases b with
  | true => rw [fsetO_same hb h1] at hT; exact hT rfl
  | false => rw [fsetO_same hb h2] at hF; exact hF rfl
/-- a truth value in a temporary, by cases -/
theorem jt {s : Pt} (t : Nat) {b : Bool} {F1 F2 : Fr} (hb : fget F t = some (.v (.bool b))) (h1 : fsetO F t (.v (.bool true)) = some F1) (h2 : fsetO F t (.v (.bool false)) = some F2)
    (hT : b = true → J P G Q s F1 H) (hF : b = false → J P G Q s F2 H) : J P G Q s F H := by
  cases b with
  | true => rw [fsetO_same hb h1] at hT; exact hT rfl
  | false => rw [fsetO_same hb h2] at hF; exact hF rfl
/-- a value in other words -/
theorem jre {s : Pt} (t : Nat) {v : AVal} (v' : AVal) (h : fget F t = some v) (hF : fsetO F t v' = some F') (e : v = v') (next : J P G Q s F' H) : J P G Q s F H := by
  subst e; rw [fsetO_same h hF] at next; exact next
theorem jheap {s : Pt} (H' : List AObj) (e : H = H') (next : J P G Q s F H') : J P G Q s F H := by subst e; exact next
theorem jfr {s : Pt} (F' : Fr) (e : F = F') (next : J P G Q s F' H) : J P G Q s F H := by subst e; exact next

/-- a loop: what is carried, and what a round makes is let go of -/
theorem jloop {c : Code} {ι : Type} (n : Nat) (I : ι → Prop) (ts : List Nat) (V : ι → List AVal) (HH : ι → List AObj) (μ : ι → Nat) (i0 : ι) (hβ : G.β0.length ≤ n) (hI : I i0) (h0 : fproj F ts = some (V i0)) (hH : H = HH i0)
    (round : ∀ i, I i → J P G Q (.c c (.lp (Round n I ts V HH μ i) k)) (ts.zip (V i)) (HH i)) : J P G Q (.c (.loop c) k) F H :=
  aw_loopF n I ts V HH μ i0 hβ hI h0 hH round
theorem jnext {ι : Type} {n : Nat} {I : ι → Prop} {ts : List Nat} {V : ι → List AVal} {HH : ι → List AObj} {μ : ι → Nat} {i : ι} (i' : ι) {vs vs' : List AVal} {H'' : List AObj} (hI : I i') (hμ : μ i' < μ i) (hp : fproj F ts = some vs)
    (hf : finish n [] true H (.tup vs) = some (.tup vs', H'')) (hn : Nat.ble n H.length = true) (hV : vs' = V i') (hH : H'' = HH i') : J P G Q (.e .normal (.lp (Round n I ts V HH μ i) k)) F H :=
  ⟨i', hI, hμ, true, vs, vs', H'', hp, hf, hn, hV, hH⟩

/-- the end of a body -/
theorem jret {tab : List TyRow} {rs : List ResultVar} {n : Nat} {E : Eff} {r r' : AVal} (ks : List Nat) (wk : Bool) (h1 : resA tab rs F H = some r) (h2 : keepOk n ks = true) (h3 : finish n ks wk H r = some (r', H'))
    (h4 : E (.ret r') H') : J P G (BodyQ tab rs n E) (.e .ret .nil) F H := bodyQ_ret ks wk h1 h2 h3 h4
theorem jend {tab : List TyRow} {rs : List ResultVar} {n : Nat} {E : Eff} {r r' : AVal} (ks : List Nat) (wk : Bool) (h1 : resA tab rs F H = some r) (h2 : keepOk n ks = true) (h3 : finish n ks wk H r = some (r', H'))
    (h4 : E (.ret r') H') : J P G (BodyQ tab rs n E) (.e .normal .nil) F H := bodyQ_end ks wk h1 h2 h3 h4
/-- .. with one outcome -/
theorem jr {tab : List TyRow} {rs : List ResultVar} {n : Nat} {r r' v : AVal} {Hv : List AObj} (h1 : resA tab rs F H = some r) (h3 : finish n [] true H r = some (r', H')) (h4 : r' = v) (h5 : H' = Hv) : J P G (BodyQ tab rs n (one v Hv)) (.e .ret .nil) F H :=
  bodyQ_ret [] true h1 rfl h3 (one_ok h4.symm.symm h5)
theorem jn {tab : List TyRow} {rs : List ResultVar} {n : Nat} {r r' v : AVal} {Hv : List AObj} (h1 : resA tab rs F H = some r) (h3 : finish n [] true H r = some (r', H')) (h4 : r' = v) (h5 : H' = Hv) : J P G (BodyQ tab rs n (one v Hv)) (.e .normal .nil) F H :=
  bodyQ_end [] true h1 rfl h3 (one_ok h4.symm.symm h5)

/-- A FUNCTION's CONTRACT, by a walk through its body. -/
theorem jcalls [T : TyTab P] {f : FuncId} {fn : Func} {c : Code} {args : List AVal} {Q : Eff} {N : Nat} {rs : List ResultVar} (hf : P.funcs[f]? = some fn) (hb : fn.body = some c) (hname : (fn.name == "runtime.NumGoroutine") = false)
    (hN : fn.ntmps = N) (hl : Nat.ble args.length N = true) (hrs : fn.results.toList = rs)
    (h : ∀ w0 β0 ext, β0.length = H.length → J P ⟨w0, β0, ext, N, [], none⟩ (BodyQ T.tab rs H.length Q) (.c c .nil) (params 0 args) H) : ACalls P f args H Q :=
  acalls_intro hf hb hname hN hl hrs h

/-- an operation with several outcomes -/
theorem jq {s s' : Pt} {ops : Array Oper} {d : Tmp} {o : Op} {type : TypeId} {pos : String} {after : Array Edge} {guard : Option (Nat × Bool)} {res : Eff} (h : nextO s = some (ops, ⟨some d, o, type, pos, after, guard⟩, none, s')) (hg : guardA ops F ⟨some d, o, type, pos, after, guard⟩ = some true)
    (hd : Nat.blt d G.n = true) (ho : OpSem P ⟨some d, o, type, pos, after, guard⟩ F H res) (next : ∀ r H', res r H' → ∃ v, r = .ret v ∧ J P G Q s' ((d, v) :: F) H') : J P G Q s F H := by
  cases s with
  | c => cases h
  | e => cases h
  | l os l k =>
    simp only [nextO] at h
    split at h
    · cases h
    · injection h with h; injection h with h2 h3; injection h3 with h3 h4; injection h4 with h4 h5; subst h2; subst h3; subst h5
      exact awl_q hd hg ho next
  | d os l k =>
    simp only [nextO] at h
    split at h
    · cases h
    · injection h with h; injection h with h2 h3; injection h3 with h3 h4; injection h4 with h4 h5; cases h4

/-- an empty slice without room is taken for an owned one -/
theorem jadopt {c : Code} (ts : List Nat) (bt : TypeId) (es : Nat) (hts : fproj F ts = some (ts.map fun _ => .slf [])) (h : J P G Q (.c c k) (ts.map (·, .arr H.length 1) ++ F) (H ++ [.arr 1 bt es []])) : J P G Q (.c c k) F H := aw_adopt ts bt es hts h
theorem jpublish {c : Code} (ts : List Nat) {j g es : Nat} {t : TypeId} {xs : List AVal} (g' : Nat) (hg' : Nat.blt g g' = true) (hts : fproj F ts = some (ts.map fun _ => .arr j g)) (t0 : Nat) (h0 : fget F t0 = some (.arr j g)) (hj : H[j]? = some (.arr g t es xs))
    (h : J P G Q (.c c k) (ts.map (·, .sl xs) ++ F) (H.set j (.dead g'))) : J P G Q (.c c k) F H := aw_publish ts g' hg' hts t0 h0 hj h
end
end Go.AL

set_option linter.unusedVariables false
namespace Go.AL
open Go

theorem fsetO_get : ∀ {F F' : Fr} {t : Nat} {v : AVal}, fsetO F t v = some F' → ∀ s u, fget F' s = some u → fget ((t, v) :: F) s = some u
  | [], _, _, _, h, _, _, _ => by cases h
  | (k, x) :: r, F', t, v, h, s, u, hs => by
    simp only [fsetO] at h
    cases hb : Nat.beq k t with
    | true =>
      rw [hb] at h; simp at h; subst h
      have hk := Nat.eq_of_beq_eq_true hb
      subst hk
      simp only [fget] at hs ⊢
      cases h2 : Nat.beq k s with
      | true => rw [h2] at hs; simpa using hs
      | false => rw [h2] at hs; simpa [h2] using hs
    | false =>
      rw [hb] at h; simp only [cond_false] at h
      split at h
      · rename_i r' hr
        injection h with h; subst h
        have ih := fsetO_get hr s u
        simp only [fget] at hs ih ⊢
        cases h2 : Nat.beq k s with
        | true =>
          rw [h2] at hs; simp only [cond_true] at hs
          cases h3 : Nat.beq t s with
          | true =>
            have e1 := Nat.eq_of_beq_eq_true h2
            have e2 := Nat.eq_of_beq_eq_true h3
            subst e1; subst e2; simp at hb
          | false => simpa using hs
        | false =>
          rw [h2] at hs; simp only [cond_false] at hs
          have ih := ih hs
          cases h3 : Nat.beq t s with
          | true => rw [h3] at ih; simpa using ih
          | false => rw [h3] at ih; simpa using ih
      · cases h
def hsetO : List AObj → Nat → AObj → Option (List AObj)
  | [], _, _ => none
  | _ :: r, 0, o => some (o :: r)
  | x :: r, n + 1, o => match hsetO r n o with | some r' => some (x :: r') | none => none
theorem hsetO_eq : ∀ {H H' : List AObj} {j : Nat} {o : AObj}, hsetO H j o = some H' → H' = H.set j o
  | [], _, _, _, h => by cases h
  | _ :: r, _, 0, o, h => by simp [hsetO] at h; simp [h]
  | x :: r, H', n + 1, o, h => by
    simp only [hsetO] at h
    split at h
    · rename_i r' hr; injection h with h; rw [← h, hsetO_eq hr]; rfl
    · cases h

section
variable {P : Program} {G : Gh} {Q : APost} {F F' : Fr} {H H' : List AObj} {k : Kt}
/-- an empty slice without room is taken for an owned one -/
theorem jad {c : Code} (t : Nat) (bt : TypeId) (es : Nat) {n : Nat} (ht : fget F t = some (.slf [])) (hn : lenH H = some n) (hF : fsetO F t (.arr n 1) = some F') (hH : nrmH (H ++ [.arr 1 bt es []]) = some H') (h : J P G Q (.c c k) F' H') : J P G Q (.c c k) F H := by
  have hp : fproj F [t] = some ([t].map fun _ => .slf []) := by simp [fproj, ht]
  refine aw_adopt [t] bt es hp ?_
  rw [lenH_eq hn] at hF
  rw [nrmH_eq hH] at h
  exact aw_frame F' (fsetO_get hF) h
/-- an owned slice is given up: nobody changes it any more -/
theorem jpub {c : Code} (t : Nat) {j g es : Nat} {e : TypeId} {xs : List AVal} (ht : fget F t = some (.arr j g)) (hj : H[j]? = some (.arr g e es xs)) (hF : fsetO F t (.sl xs) = some F') (hH : hsetO H j (.dead (g + 1)) = some H') (h : J P G Q (.c c k) F' H') : J P G Q (.c c k) F H := by
  have hp : fproj F [t] = some ([t].map fun _ => .arr j g) := by simp [fproj, ht]
  refine aw_publish [t] (g + 1) (by simp [Nat.blt_eq]) hp t ht hj ?_
  rw [hsetO_eq hH] at h
  exact aw_frame F' (fsetO_get hF) h

/-- one more element behind those that a list tells -/
theorem append_enc [T : TyTab P] {dst : Option Tmp} {t tx : TypeId} {x y : Operand} {type : TypeId} {pos : String} {after : Array Edge} {guard : Option (Nat × Bool)} {j g : Nat} {α : Type} {enc : α → AVal} {l : List α} (a : α) {b : AVal} {ys : List AVal} {e ex : TypeId} {r r' rx : TyRow}
    (hx : ev F x = some (.arr j g)) (hj : H[j]? = some (.arr g e r.size (l.map enc))) (hy : ev F y = some b) (hb : xsOf b = some ys) (hys : ys = [enc a]) (ht : tfind T.tab t = some r') (hd : r'.d = .slice e) (he : tfind T.tab e = some r) (htx : tfind T.tab tx = some rx) (hdx : rx.d = .slice ex)
    (ho : ∀ x, (enc x).cells.length = r.size ∧ (enc x).flat = true) (hz : zerosOk r = true) (hl : l.length ≤ 1000000) (hbt : Nat.ble r.bytes 100000000 = true) (hH : hsetO H j (.arr (g + 1) e r.size ((l ++ [a]).map enc)) = some H') :
    DSem P .x ⟨dst, .call { callee := .builtin .append, args := #[x, y], argTypes := #[t, tx] }, type, pos, after, guard⟩ F H (.arr j (g + 1)) H' := by
  subst hys
  have hbt := Nat.le_of_ble_eq_true hbt
  have h1 : (l.length + 1) * r.bytes ≤ 1000001 * 100000000 := Nat.mul_le_mul (by omega) hbt
  have := append_own (P := P) (dst := dst) (type := type) (pos := pos) (after := after) (guard := guard) hx hj hy (.sl hb) ht hd he htx hdx (elems_map l ho) (show ElemsOk r.size [enc a] from elems_map [a] ho) hz (by simp; omega) (by simp; omega)
  rw [hsetO_eq hH, List.map_append]
  exact this
/-- a part of a slice that a list tells -/
theorem cut_enc [T : TyTab P] {dst : Option Tmp} {t : TypeId} {x : Operand} {lo hi : Option Operand} {type : TypeId} {pos : String} {after : Array Edge} {guard : Option (Nat × Bool)} {a : AVal} {α : Type} {enc : α → AVal} {l : List α} {e : TypeId} {r r' : TyRow} (p q : Nat)
    (hx : ev F x = some a) (ha : xsOf a = some (l.map enc)) (hlo : match lo with | none => (p : Int) = 0 | some o => ∃ k, ev F o = some (.v (.int k p))) (hhi : match hi with | none => (q : Int) = (l.map enc).length | some o => ∃ k, ev F o = some (.v (.int k q)))
    (ht : tfind T.tab t = some r') (hd : r'.d = .slice e) (he : tfind T.tab e = some r) (ho : ∀ x, (enc x).cells.length = r.size ∧ (enc x).flat = true) (h1 : p ≤ q) (h2 : q ≤ l.length) :
    DSem P .p ⟨dst, .slice t x lo hi none, type, pos, after, guard⟩ F H (.sl (((l.drop p).take (q - p)).map enc)) H := by
  have := cut_sl (P := P) (dst := dst) (type := type) (pos := pos) (after := after) (guard := guard) (H := H) (l := p) (h := q) hx ha hlo hhi ht hd he (elems_map l ho) (by omega) (by omega) (by simp; omega)
  simpa [List.map_take, List.map_drop] using this
theorem cut_take [T : TyTab P] {dst : Option Tmp} {t : TypeId} {x o : Operand} {type : TypeId} {pos : String} {after : Array Edge} {guard : Option (Nat × Bool)} {a : AVal} {α : Type} {enc : α → AVal} {l : List α} {e : TypeId} {r r' : TyRow} {k : IntKind} {h : Int} (n : Nat)
    (hx : ev F x = some a) (ha : xsOf a = some (l.map enc)) (hhi : ev F o = some (.v (.int k h))) (hh : h = (min l.length n : Nat))
    (ht : tfind T.tab t = some r') (hd : r'.d = .slice e) (he : tfind T.tab e = some r) (ho : ∀ x, (enc x).cells.length = r.size ∧ (enc x).flat = true) :
    DSem P .p ⟨dst, .slice t x none (some o) none, type, pos, after, guard⟩ F H (.sl ((l.take n).map enc)) H := by
  subst hh
  have := cut_enc (P := P) (dst := dst) (type := type) (pos := pos) (after := after) (guard := guard) (H := H) (lo := none) (hi := some o) 0 (min l.length n) hx ha rfl ⟨k, hhi⟩ ht hd he ho (by omega) (by omega)
  have e1 : l.take (min l.length n) = l.take n := List.take_eq_take_iff.2 (by omega)
  simpa [e1] using this
theorem min_if {α : Type} (enc : α → AVal) (l : List α) (n : Nat) : (if (n : Int) < ((l.map enc).length : Int) then (n : Int) else ((l.map enc).length : Int)) = (min l.length n : Nat) := by
  rw [List.length_map]; split <;> omega
theorem idx_next {i n : Nat} (h : i < n) (hn : n ≤ 4611686018427387904) : IntKind.i64.wrap ((i : Int) + 1) = ((i + 1 : Nat) : Int) := by rw [wrap_id] <;> omega
/-- a struct of n whole numbers, which are compared one by one -/
def EqTy (P : Program) [T : TyTab P] (t n : Nat) : Prop := ∃ r, tfind T.tab t = some r ∧ n = r.size ∧ aggB r.d = true ∧ allInt T.tab P.stoodInHeld 100 t = true ∧ P.eqGuardType P.depth t = false
theorem eqty [T : TyTab P] {t n : Nat} {r : TyRow} (h1 : tfind T.tab t = some r) (h2 : n = r.size) (h3 : aggB r.d = true) (h4 : allInt T.tab P.stoodInHeld 100 t = true) (h5 : P.eqGuardType P.depth t = false) : EqTy P t n := ⟨r, h1, h2, h3, h4, h5⟩
theorem eqL [T : TyTab P] {dst : Option Tmp} {op : BinOp} {t yt : TypeId} {x y : Operand} {type : TypeId} {pos : String} {after : Array Edge} {guard : Option (Nat × Bool)} {n : Nat} (xs ys : List Int) (h : EqTy P t n)
    (hop : op = .eql ∨ op = .neq) (hx : ev F x = some (.agg (intsA xs))) (hy : ev F y = some (.agg (intsA ys))) (hlx : xs.length = n) (hly : ys.length = n) :
    DSem P .p ⟨dst, .binOp op t x y yt, type, pos, after, guard⟩ F H (.v (.bool (if op = .eql then decide (xs = ys) else !decide (xs = ys)))) H := by
  obtain ⟨r, h1, rfl, h3, h4, h5⟩ := h
  exact eq_ints hop hx hy h1 hlx hly h3 h4 h5
theorem eq2 [T : TyTab P] {dst : Option Tmp} {t yt : TypeId} {x y : Operand} {type : TypeId} {pos : String} {after : Array Edge} {guard : Option (Nat × Bool)} {a b c d : Int} (h : EqTy P t 2)
    (hx : ev F x = some (.agg [.v (.int .i64 a), .v (.int .i64 b)])) (hy : ev F y = some (.agg [.v (.int .i64 c), .v (.int .i64 d)])) :
    DSem P .p ⟨dst, .binOp .eql t x y yt, type, pos, after, guard⟩ F H (.v (.bool (decide (a = c ∧ b = d)))) H := by
  have := eqL (dst := dst) (yt := yt) (type := type) (pos := pos) (after := after) (guard := guard) (H := H) [a, b] [c, d] h (.inl rfl) hx hy rfl rfl
  simpa using this
theorem neq2 [T : TyTab P] {dst : Option Tmp} {t yt : TypeId} {x y : Operand} {type : TypeId} {pos : String} {after : Array Edge} {guard : Option (Nat × Bool)} {a b c d : Int} (h : EqTy P t 2)
    (hx : ev F x = some (.agg [.v (.int .i64 a), .v (.int .i64 b)])) (hy : ev F y = some (.agg [.v (.int .i64 c), .v (.int .i64 d)])) :
    DSem P .p ⟨dst, .binOp .neq t x y yt, type, pos, after, guard⟩ F H (.v (.bool (!decide (a = c ∧ b = d)))) H := by
  have := eqL (dst := dst) (yt := yt) (type := type) (pos := pos) (after := after) (guard := guard) (H := H) [a, b] [c, d] h (.inr rfl) hx hy rfl rfl
  simpa using this
theorem eq4 [T : TyTab P] {dst : Option Tmp} {t yt : TypeId} {x y : Operand} {type : TypeId} {pos : String} {after : Array Edge} {guard : Option (Nat × Bool)} {a b c d a' b' c' d' : Int} (h : EqTy P t 4)
    (hx : ev F x = some (.agg [.v (.int .i64 a), .v (.int .i64 b), .v (.int .i64 c), .v (.int .i64 d)])) (hy : ev F y = some (.agg [.v (.int .i64 a'), .v (.int .i64 b'), .v (.int .i64 c'), .v (.int .i64 d')])) :
    DSem P .p ⟨dst, .binOp .eql t x y yt, type, pos, after, guard⟩ F H (.v (.bool (decide (a = a' ∧ b = b' ∧ c = c' ∧ d = d')))) H := by
  have := eqL (dst := dst) (yt := yt) (type := type) (pos := pos) (after := after) (guard := guard) (H := H) [a, b, c, d] [a', b', c', d'] h (.inl rfl) hx hy rfl rfl
  simpa using this
theorem neq4 [T : TyTab P] {dst : Option Tmp} {t yt : TypeId} {x y : Operand} {type : TypeId} {pos : String} {after : Array Edge} {guard : Option (Nat × Bool)} {a b c d a' b' c' d' : Int} (h : EqTy P t 4)
    (hx : ev F x = some (.agg [.v (.int .i64 a), .v (.int .i64 b), .v (.int .i64 c), .v (.int .i64 d)])) (hy : ev F y = some (.agg [.v (.int .i64 a'), .v (.int .i64 b'), .v (.int .i64 c'), .v (.int .i64 d')])) :
    DSem P .p ⟨dst, .binOp .neq t x y yt, type, pos, after, guard⟩ F H (.v (.bool (!decide (a = a' ∧ b = b' ∧ c = c' ∧ d = d')))) H := by
  have := eqL (dst := dst) (yt := yt) (type := type) (pos := pos) (after := after) (guard := guard) (H := H) [a, b, c, d] [a', b', c', d'] h (.inr rfl) hx hy rfl rfl
  simpa using this
theorem eqS [T : TyTab P] {dst : Option Tmp} {t yt : TypeId} {x y : Operand} {type : TypeId} {pos : String} {after : Array Edge} {guard : Option (Nat × Bool)} {n : Nat} (xs : List Int) (h : EqTy P t n)
    (hx : ev F x = some (.agg (intsA xs))) (hy : ev F y = some (.agg (intsA xs))) (hlx : xs.length = n) : DSem P .p ⟨dst, .binOp .eql t x y yt, type, pos, after, guard⟩ F H (.v (.bool true)) H := by
  simpa using eqL (dst := dst) (yt := yt) (type := type) (pos := pos) (after := after) (guard := guard) (H := H) xs xs h (.inl rfl) hx hy hlx hlx
theorem neqS [T : TyTab P] {dst : Option Tmp} {t yt : TypeId} {x y : Operand} {type : TypeId} {pos : String} {after : Array Edge} {guard : Option (Nat × Bool)} {n : Nat} (xs : List Int) (h : EqTy P t n)
    (hx : ev F x = some (.agg (intsA xs))) (hy : ev F y = some (.agg (intsA xs))) (hlx : xs.length = n) : DSem P .p ⟨dst, .binOp .neq t x y yt, type, pos, after, guard⟩ F H (.v (.bool false)) H := by
  simpa using eqL (dst := dst) (yt := yt) (type := type) (pos := pos) (after := after) (guard := guard) (H := H) xs xs h (.inr rfl) hx hy hlx hlx
theorem eq2s [T : TyTab P] {dst : Option Tmp} {t yt : TypeId} {x y : Operand} {type : TypeId} {pos : String} {after : Array Edge} {guard : Option (Nat × Bool)} {a b : Int} (h : EqTy P t 2)
    (hx : ev F x = some (.agg [.v (.int .i64 a), .v (.int .i64 b)])) (hy : ev F y = some (.agg [.v (.int .i64 a), .v (.int .i64 b)])) : DSem P .p ⟨dst, .binOp .eql t x y yt, type, pos, after, guard⟩ F H (.v (.bool true)) H := eqS [a, b] h hx hy rfl
end
end Go.AL

set_option linter.unusedVariables false
set_option linter.unusedSimpArgs false
namespace Go.AL
open Go

section
variable {P : Program} {G : Gh} {Q : APost} {F F' : Fr} {H H' : List AObj} {k : Kt}

/-- s[:n], of an owned slice: it is cut short -/
theorem cut_own [T : TyTab P] {dst : Option Tmp} {t : TypeId} {x o : Operand} {type : TypeId} {pos : String} {after : Array Edge} {guard : Option (Nat × Bool)} {j g es : Nat} {bt : TypeId} {xs : List AVal} {e : TypeId} {r r' : TyRow} {ki : IntKind} (n : Nat)
    (hx : ev F x = some (.arr j g)) (hj : H[j]? = some (.arr g bt es xs)) (hn : ev F o = some (.v (.int ki n))) (ht : tfind T.tab t = some r') (hd : r'.d = .slice e) (he : tfind T.tab e = some r) (hle : n ≤ xs.length)
    (hH : hsetO H j (.arr (g + 1) bt es (xs.take n)) = some H') :
    DSem P .x ⟨dst, .slice t x none (some o) none, type, pos, after, guard⟩ F H (.arr j (g + 1)) H' := by
  have hH := hsetO_eq hH
  subst hH
  refine ⟨fun i t cs hi => ?_, ?_⟩
  · by_cases hij : i = j
    · subst hij; rw [hj] at hi; cases hi
    · rw [List.getElem?_set_ne (by omega)]; exact hi
  intro ext w β ρ hI hext hκ hρ
  have hr0 := hρ x (by simp [Op.operands]) _ hx
  have ho := hρ o (by simp [Op.operands]) _ hn
  obtain ⟨ent, e1, e2, e3, e4, e5, e6, e7⟩ := arr_open hI hj hr0
  have ho' : ρ o = .int ki n := ho
  have hjlt := (List.getElem?_eq_some_iff.1 e1).1
  have hl : (xs.take n).length = n := by rw [List.length_take]; omega
  rcases e7 with ⟨h1, rfl, h3, A, hu⟩ | ⟨b, us, h1, hu, h3, h4, h5⟩
  · have hn0 : n = 0 := by simpa using hle
    subst hn0
    have hb : (Instr.sliceBounds true 0 0 none (some (.int ki 0)) none).run P w = .ok (0, 0, 0) w := by simp [Instr.sliceBounds, Instr.sliceBound, asIntOf]
    have hx4 : (execOp ρ ⟨dst, .slice t x none (some o) none, type, pos, after, guard⟩).run P w = .ok (.value (.slice A 0 0)) w := by
      have ho2 : ρ o = .int ki 0 := ho'
      simp only [execOp, Instr.sliceAt, Sem.run_bind, hu, run_und ht, hd, Result.andThen_ok, Instr.slice, Option.map_none, Option.map_some, ho2, hb, run_size he, Sem.run_pure]
      simp
    rw [hx4]
    have hst : Step w β w (β.set j ⟨none, g + 1, es, ent.cap, 0⟩) := Step.regen e1 (by omega) (by simp only; omega) (.inl rfl)
    refine ⟨_, _, _, ⟨rfl, rfl⟩, ?_, hI.set hext e1 hst (fun _ _ _ => rfl) (.inr (.inl rfl)) ?_, hst⟩
    · exact ⟨rfl, ⟨none, g + 1, es, ent.cap, 0⟩, by rw [List.getElem?_set_self hjlt], Nat.le_refl _, fun _ => ⟨Nat.zero_le _, rfl, A, rfl⟩⟩
    · exact ⟨rfl, by omega, rfl, rfl, Nat.zero_le _, h3⟩
  · have hb : (Instr.sliceBounds true xs.length ent.cap none (some (.int ki n)) none).run P w = .ok (0, n, ent.cap) w := by
      have c1 : (n : Int) ≤ ent.cap := by omega
      simp [Instr.sliceBounds, Instr.sliceBound, asIntOf, c1]
      omega
    have hx4 : (execOp ρ ⟨dst, .slice t x none (some o) none, type, pos, after, guard⟩).run P w = .ok (.value (.slice (some ⟨b, 0, none⟩) n ent.cap)) w := by
      simp only [execOp, Instr.sliceAt, Sem.run_bind, hu, run_und ht, hd, Result.andThen_ok, Instr.slice, Option.map_none, Option.map_some, ho', hb, run_size he, Sem.run_pure]
      simp [Addr.add]
    rw [hx4]
    have hst : Step w β w (β.set j ⟨some b, g + 1, es, ent.cap, n⟩) := Step.regen e1 (by omega) (by simp only; omega) (.inr h1.symm)
    refine ⟨_, _, _, ⟨rfl, rfl⟩, ?_, hI.set hext e1 hst (fun _ _ _ => rfl) (.inr (.inr h1.symm)) ?_, hst⟩
    · exact ⟨rfl, ⟨some b, g + 1, es, ent.cap, n⟩, by rw [List.getElem?_set_self hjlt], Nat.le_refl _, fun _ => ⟨by show n ≤ ent.cap; omega, rfl⟩⟩
    · exact ⟨rfl, by omega, rfl, hl.symm, by rw [hl]; show n ≤ ent.cap; omega, us, h3, h4, (rows_take h5).le (hst.le (ext := ext)).bare _ _ _ _⟩

theorem run_sliceBound {i : Int} {y : Nat} {ki : IntKind} {code : BoundsCode} {w : World} (h0 : 0 ≤ i) (h1 : i ≤ y) : (Instr.sliceBound (.int ki i) y code).run P w = .ok i.toNat w := by
  simp [Instr.sliceBound, asIntOf, h0, h1]
/-- a slice over a part of a boxed array -/
theorem slice_box [T : TyTab P] {dst : Option Tmp} {t : TypeId} {x : Operand} {lo hi : Option Operand} {type : TypeId} {pos : String} {after : Array Edge} {guard : Option (Nat × Bool)} {j off N : Nat} {e : TypeId} {r r' : TyRow} (l h : Nat)
    (hx : ev F x = some (.ptr j off)) (hlo : optI F 0 lo l) (hhi : optI F N hi h) (ht : tfind T.tab t = some r') (hd : r'.d = .array N e) (he : tfind T.tab e = some r) (h1 : l ≤ h) (h2 : h ≤ N) (h3 : l < N) :
    DSem P .p ⟨dst, .slice t x lo hi none, type, pos, after, guard⟩ F H (.bs j (off + l * r.size) (h - l) (N - l)) H := by
  refine ⟨rfl, fun H' => ?_⟩
  intro ext w β ρ hI hext hκ hρ
  obtain ⟨ent, b, e1, e2, e3, hu⟩ := hρ x (by simp [Op.operands]) _ hx
  have hmem : ∀ (q : Option Operand), (q = lo ∨ q = hi) → ∀ y, q = some y → ∀ v, ev F y = some v → Rel (ctx ext w β) v (ρ y) := fun q hq y hy v hv => by
    refine hρ y ?_ v hv
    subst hy
    rcases hq with h | h <;> simp [Op.operands, ← h]
  have hl := optI_lo hlo (hmem lo (.inl rfl))
  have hh := optI_lo hhi (hmem hi (.inr rfl))
  have c1 : (l : Int) ≤ h := by omega
  have c2 : (h : Int) ≤ N := by omega
  have hb : (Instr.sliceBounds false N N (lo.map ρ) (hi.map ρ) none).run P w = .ok (l, h, N) w := by
    have d1 : (Instr.sliceBound (.int .i64 l) h .sliceB).run P w = .ok l w := run_sliceBound (by omega) c1
    rcases hh with ⟨b1, b2, _⟩ | ⟨k2, b1⟩
    · obtain rfl : h = N := by omega
      rcases hl with ⟨a1, a2, _⟩ | ⟨k1, a1⟩
      · obtain rfl : l = 0 := by omega
        rw [a1, b1]; simp [Instr.sliceBounds]
      · have d1 : (Instr.sliceBound (.int k1 l) h .sliceB).run P w = .ok l w := run_sliceBound (by omega) c1
        rw [a1, b1]; simp [Instr.sliceBounds, d1]
    · have d2 : (Instr.sliceBound (.int k2 h) N .sliceAlen).run P w = .ok h w := run_sliceBound (by omega) c2
      rcases hl with ⟨a1, a2, _⟩ | ⟨k1, a1⟩
      · obtain rfl : l = 0 := by omega
        rw [a1, b1]; simp [Instr.sliceBounds, d2]
      · have d1 : (Instr.sliceBound (.int k1 l) h .sliceB).run P w = .ok l w := run_sliceBound (by omega) c1
        rw [a1, b1]; simp [Instr.sliceBounds, d1, d2]
  have h4 : (execOp ρ ⟨dst, .slice t x lo hi none, type, pos, after, guard⟩).run P w = .ok (.value (.slice (some ⟨b, off + l * r.size, none⟩) (h - l) (N - l))) w := by
    have hne : ¬ N = l := by omega
    simp only [execOp, Instr.sliceAt, Instr.sureAddr, Sem.run_bind, hu, run_und ht, hd, Result.andThen_ok, Option.map_none, hb, run_size he, Sem.run_pure, if_neg hne, addr_add]
  rw [h4]
  exact came_same hI ⟨ent, b, e1, e2, e3, rfl⟩

/-- its element's place -/
theorem index_bs [T : TyTab P] {dst : Option Tmp} {t : TypeId} {x i : Operand} {type : TypeId} {pos : String} {after : Array Edge} {guard : Option (Nat × Bool)} {j off len cap : Nat} {ki : IntKind} {n : Int} {e : TypeId} {r r' : TyRow}
    (hx : ev F x = some (.bs j off len cap)) (hi : ev F i = some (.v (.int ki n))) (ht : tfind T.tab t = some r') (hd : r'.d = .slice e) (he : tfind T.tab e = some r) (h0 : 0 ≤ n) (hn : n < len) :
    DSem P .p ⟨dst, .indexAddr t x i, type, pos, after, guard⟩ F H (.ptr j (off + n.toNat * r.size)) H := by
  refine ⟨rfl, fun H' => ?_⟩
  intro ext w β ρ hI hext hκ hρ
  obtain ⟨ent, b, e1, e2, e3, hu⟩ := hρ x (by simp [Op.operands]) _ hx
  have hi' : ρ i = .int ki n := hρ i (by simp [Op.operands]) _ hi
  have h4 : (execOp ρ ⟨dst, .indexAddr t x i, type, pos, after, guard⟩).run P w = .ok (.value (.pointer (some ⟨b, off + n.toNat * r.size, none⟩))) w := by
    simp only [execOp, Instr.indexAt, asIntOf, Sem.run_bind, hu, hi', run_und ht, hd, Result.andThen_ok, Sem.run_pure, run_size he, addr_add]
    rw [if_pos ⟨h0, hn⟩]
    simp [run_size he, addr_add]
  rw [h4]
  exact came_same hI ⟨ent, b, e1, e2, e3, rfl⟩
theorem len_bs [T : TyTab P] {dst : Option Tmp} {t : TypeId} {x : Operand} {type : TypeId} {pos : String} {after : Array Edge} {guard : Option (Nat × Bool)} {j off len cap : Nat} {e : TypeId} {r : TyRow}
    (hx : ev F x = some (.bs j off len cap)) (ht : tfind T.tab t = some r) (hd : r.d = .slice e) :
    DSem P .p ⟨dst, .call { callee := .builtin .len, args := #[x], argTypes := #[t] }, type, pos, after, guard⟩ F H (.v (.int .i64 len)) H := by
  refine ⟨rfl, fun H' => ?_⟩
  intro ext w β ρ hI hext hκ hρ
  obtain ⟨ent, b, e1, e2, e3, hu⟩ := hρ x (by simp [Op.operands, Call.operands]) _ hx
  have hu' : P.underlying t = some (.slice e) := by rw [ty_und ht, hd]
  have h4 : (execOp ρ ⟨dst, .call { callee := .builtin .len, args := #[x], argTypes := #[t] }, type, pos, after, guard⟩).run P w = .ok (.value (.int .i64 len)) w := by
    simp only [execOp, resolve, invoke, builtin, Sem.run_bind, Sem.run_pure, Result.andThen_ok, List.map_toArray, List.map_cons, List.map_nil, hu]
    simp [Builtin.len_, run_underlying hu', Builtin.lenOf, goInt]
  rw [h4]
  exact came_same hI rfl

/-- rows' cells, one behind the other -/
theorem rows_flat {c c' : Ctx} {s : Nat} (hle : ∀ a u, Rel c a u → Rel c' a u) : ∀ {zs : List AVal} {us : List Value} {k : Nat}, RelR c s (fun i => us[i]?) k zs → ElemsOk s zs → us.length = (k + zs.length) * s → RelL c' (zs.flatMap AVal.cells) (us.drop (k * s)) := by
  intro zs
  induction zs with
  | nil => intro us k _ _ hl; rw [List.drop_of_length_le (by rw [hl]; simp)]; rfl
  | cons z zs ih =>
    intro us k hr ho hl
    obtain ⟨⟨u, h1, h2, h3⟩, h4⟩ := hr
    have hz := ho z (List.mem_cons_self ..)
    have ih' := ih (k := k + 1) h4 (fun y hy => ho y (List.mem_cons_of_mem _ hy)) (by rw [hl, List.length_cons]; congr 1; omega)
    obtain ⟨g1, g2⟩ := (hle _ _ h1).cells hz.2
    have hsz : us.drop (k * s) = u.cells.toList ++ us.drop ((k + 1) * s) := by
      refine List.ext_getElem? fun i => ?_
      by_cases hi : i < s
      · rw [List.getElem?_append_left (by simpa [h2] using hi), List.getElem?_drop]
        have := h3 i hi
        simpa using this
      · rw [List.getElem?_append_right (by simp [h2]; omega), List.getElem?_drop, List.getElem?_drop]
        congr 1
        simp only [Array.length_toList, h2, Nat.add_mul, Nat.one_mul]
        omega
    rw [hsz, List.flatMap_cons]
    exact g1.append ih'
theorem rows_flat0 {c c' : Ctx} {s : Nat} (hle : ∀ a u, Rel c a u → Rel c' a u) {zs : List AVal} {us : List Value} (hr : RelR c s (fun i => us[i]?) 0 zs) (ho : ElemsOk s zs) (hl : us.length = zs.length * s) : RelL c' (zs.flatMap AVal.cells) us := by
  have := rows_flat (k := 0) hle hr ho (by simpa using hl)
  simpa using this
theorem bare_le {c : Ctx} (a : AVal) (u : Value) (h : Rel { c with β := [] } a u) : Rel c a u :=
  Rel.le (c := { c with β := [] }) (c' := c) ⟨fun b hb hn => ⟨hb, hn, .inl rfl⟩, fun j e he => by simp at he⟩ a u h
theorem flat_len {s : Nat} : ∀ {zs : List AVal}, ElemsOk s zs → (zs.flatMap AVal.cells).length = zs.length * s
  | [], _ => by simp
  | z :: zs, h => by
    rw [List.flatMap_cons, List.length_append, flat_len fun y hy => h y (List.mem_cons_of_mem _ hy), (h z (List.mem_cons_self ..)).1, List.length_cons, Nat.add_mul]; omega
theorem flat_one {s : Nat} : ∀ {zs : List AVal}, ElemsOk s zs → (zs.flatMap AVal.cells).all AVal.one = true
  | [], _ => rfl
  | z :: zs, h => by
    rw [List.flatMap_cons]
    exact all_append (flat_cells (h z (List.mem_cons_self ..)).2) (flat_one fun y hy => h y (List.mem_cons_of_mem _ hy))

/-- copy into a boxed array -/
theorem copy_box [T : TyTab P] {dst : Option Tmp} {t tx : TypeId} {x y : Operand} {type : TypeId} {pos : String} {after : Array Edge} {guard : Option (Nat × Bool)} {j off len cap n q : Nat} {zs cs : List AVal} {b : AVal} {e bt : TypeId} {r r' : TyRow}
    (hx : ev F x = some (.bs j off len cap)) (hj : H[j]? = some (.box bt cs)) (hy : ev F y = some b) (hs : SrcK H r.size q b zs n) (ht : tfind T.tab t = some r') (hd : r'.d = .slice e) (he : tfind T.tab e = some r)
    (hk : q = min n len) (ho : ElemsOk r.size zs) (hin : off + len * r.size ≤ cs.length) (hH : hsetO H j (.box bt (spliceA cs off (zs.flatMap AVal.cells))) = some H') :
    DSem P .m ⟨dst, .call { callee := .builtin .copy, args := #[x, y], argTypes := #[t, tx] }, type, pos, after, guard⟩ F H (.v (.int .i64 q)) H' := by
  have hH := hsetO_eq hH
  subst hH
  intro ext w β ρ hI hext hκ hρ
  obtain ⟨ent, b0, e1, e2, e3, hu⟩ := hρ x (by simp [Op.operands, Call.operands]) _ hx
  have hobj := hI.obj _ _ ent hj e1
  obtain ⟨_, hone, b1, us, f1, f2, f3⟩ := hobj
  have hbb : b1 = b0 := by rw [e3] at f1; injection f1 with f1; exact f1.symm
  subst hbb
  obtain ⟨hz1, hz2, hsrc⟩ := hs
  obtain ⟨A, m', vs, s1, s2, s3, s4, s5⟩ := hsrc ext w β _ hI (hρ y (by simp [Op.operands, Call.operands]) _ hy)
  have hc := SrcK.cells (P := P) (n := n) (m := m') s2 s5 w rfl
  have hu' : P.underlying t = some (.slice e) := by rw [ty_und ht, hd]
  have hmin : Nat.min n len = q := hk.symm
  have l2 := f3.length
  simp only [Array.length_toList] at l2
  have hq : q * r.size ≤ len * r.size := Nat.mul_le_mul_right _ (by omega)
  have hst := run_storeCells_at P b1 off bt vs 0 us w f2 (by omega) s3
  simp only [Nat.add_zero] at hst
  generalize hus : (us.toList.take off ++ vs ++ us.toList.drop (off + vs.length)).toArray = us' at hst
  have h4 : (execOp ρ ⟨dst, .call { callee := .builtin .copy, args := #[x, y], argTypes := #[t, tx] }, type, pos, after, guard⟩).run P w = .ok (.value (.int .i64 q)) (w.setRow b1 us') := by
    simp only [execOp, resolve, invoke, builtin, Sem.run_bind, Sem.run_pure, Result.andThen_ok, List.map_toArray, List.map_cons, List.map_nil, hu, s1]
    simp [Builtin.copy_, run_underlying hu', run_size he, Builtin.lenOf, hmin, hc, hst, goInt]
  rw [h4]
  have hstep : Step w β (w.setRow b1 us') β := Step.write ⟨j, ent, e1, e3⟩ (by simp) (fun c hc => setRow_other w b1 c us' hc) rfl rfl rfl
  have hfl := rows_flat0 (c' := ctx ext w β) bare_le s4 ho (by rw [s2, hz1])
  have hcs : RelL (ctx ext w β) (spliceA cs off (zs.flatMap AVal.cells)) us'.toList := by
    rw [← hus]
    unfold spliceA
    rw [show vs.length = (zs.flatMap AVal.cells).length by rw [hfl.length]]
    exact ((f3.take off).append hfl).append (f3.drop _)
  have hobj' : RelO (ctx ext (w.setRow b1 us') β) ent (.box bt (spliceA cs off (zs.flatMap AVal.cells))) :=
    ⟨e2, all_append (all_append (all_take _ hone) (flat_one ho)) (all_drop _ hone), b1, us', e3, setRow_get f2, hcs.le hstep.le⟩
  exact ⟨_, _, β, ⟨rfl, rfl⟩, rfl, hI.write e1 e3 (by simp) (fun c hc => setRow_other w b1 c us' hc) rfl rfl rfl hobj', hstep⟩
end

/-- a row behind a row -/
theorem append_encs {P : Program} [T : TyTab P] {F : Fr} {H H' : List AObj} {dst : Option Tmp} {t tx : TypeId} {x y : Operand} {type : TypeId} {pos : String} {after : Array Edge} {guard : Option (Nat × Bool)} {j g : Nat} {α : Type} {enc : α → AVal} {l l2 : List α} {b : AVal} {e ex : TypeId} {r r' rx : TyRow}
    (hx : ev F x = some (.arr j g)) (hj : H[j]? = some (.arr g e r.size (l.map enc))) (hy : ev F y = some b) (hb : xsOf b = some (l2.map enc)) (ht : tfind T.tab t = some r') (hd : r'.d = .slice e) (he : tfind T.tab e = some r) (htx : tfind T.tab tx = some rx) (hdx : rx.d = .slice ex)
    (ho : ∀ x, (enc x).cells.length = r.size ∧ (enc x).flat = true) (hz : zerosOk r = true) (hl : l.length + l2.length ≤ 1000000) (hbt : Nat.ble r.bytes 100000000 = true) (hH : hsetO H j (.arr (g + 1) e r.size ((l ++ l2).map enc)) = some H') :
    DSem P .x ⟨dst, .call { callee := .builtin .append, args := #[x, y], argTypes := #[t, tx] }, type, pos, after, guard⟩ F H (.arr j (g + 1)) H' := by
  have hbt := Nat.le_of_ble_eq_true hbt
  have h1 : (l.length + l2.length) * r.bytes ≤ 1000000 * 100000000 := Nat.mul_le_mul hl hbt
  have := append_own (P := P) (dst := dst) (type := type) (pos := pos) (after := after) (guard := guard) hx hj hy (.sl hb) ht hd he htx hdx (elems_map l ho) (elems_map l2 ho) hz (by simp; omega) (by simp; omega)
  rw [hsetO_eq hH, List.map_append]
  exact this

/-- a store into a box at a place that is told by other means -/
theorem store_at {P : Program} [T : TyTab P] {F : Fr} {H H' : List AObj} {dst : Option Tmp} {t : TypeId} {a x : Operand} {type : TypeId} {pos : String} {after : Array Edge} {guard : Option (Nat × Bool)} {j off : Nat} {bt : TypeId} {cs cs' : List AVal} {r : TyRow} {v : AVal}
    (ha : ev F a = some (.ptr j off)) (hx : ev F x = some v) (hH : H[j]? = some (.box bt cs)) (ht : tfind T.tab t = some r) (hl : v.cells.length = r.size) (hf : v.flat = true) (hin : off + r.size ≤ cs.length) (hs : spliceA cs off v.cells = cs') (hH' : hsetO H j (.box bt cs') = some H') :
    DSem P .m ⟨dst, .store t a x, type, pos, after, guard⟩ F H (.tup []) H' := by
  subst hs
  rw [hsetO_eq hH']
  exact store_sem ha hx hH ht hl hf hin

/-- where ways meet: what is known there -/
def Meet (ts : List Nat) (vs : List AVal) (H2 : List AObj) (F' : Fr) (H' : List AObj) : Prop := fproj F' ts = some vs ∧ H' = H2
theorem jmid {P : Program} {G : Gh} {Q : APost} {F : Fr} {H : List AObj} {x z : Code} {k : Kt} (ts : List Nat) (vs : List AVal) (H2 : List AObj) (h1 : J P G Q (.c x (.lp (Meet ts vs H2) (.seq z k))) F H) (h2 : J P G Q (.c z k) (ts.zip vs) H2) : J P G Q (.c x (.seq z k)) F H := by
  refine AW.mono h1 fun e F' H' h => ?_
  cases e with
  | normal => obtain ⟨h3, rfl⟩ := h; exact aw_cut ts h3 h2
  | _ => exact h
theorem jmeet {P : Program} {G : Gh} {Q : APost} {F : Fr} {H : List AObj} {k : Kt} {ts : List Nat} {vs : List AVal} {H2 : List AObj} (h : fproj F ts = some vs) (hH : H = H2) : J P G Q (.e .normal (.lp (Meet ts vs H2) k)) F H := ⟨h, hH⟩

/-- a full slice is a slice -/
def wk1 : AVal → AVal
  | .slf xs => .sl xs
  | .v x => .v x
  | .agg cs => .agg cs
  | .tup cs => .tup cs
  | .sl xs => .sl xs
  | .arr j g => .arr j g
  | .ptr j off => .ptr j off
  | .pp cs off => .pp cs off
  | .ep j g k off => .ep j g k off
  | .hd j g off len => .hd j g off len
  | .bs j off len cap => .bs j off len cap
  | .fn f a b => .fn f a b
  | .mp j => .mp j
  | .ifc t x => .ifc t x
theorem wk1_rel {c : Ctx} {a : AVal} {u : Value} (h : Rel c a u) : Rel c (wk1 a) u := by
  cases a with
  | slf xs => exact sl_weak h
  | _ => exact h
theorem wkL_rel {c : Ctx} : ∀ {as : List AVal} {us : List Value}, RelL c as us → RelL c (as.map wk1) us
  | [], us, h => h
  | a :: as, us, ⟨u, us', e, r, rs⟩ => ⟨u, us', e, wk1_rel r, wkL_rel rs⟩
theorem ACalls.wk {P : Program} {f : FuncId} {args : List AVal} {H : List AObj} {Q : Eff} (h : ACalls P f (args.map wk1) H Q) : ACalls P f args H Q :=
  ⟨h.enters, fun ext w β us hI hx hr => h.calls ext w β us hI hx (wkL_rel hr)⟩
theorem jw {P : Program} {G : Gh} {Q : APost} {F F' : Fr} {H : List AObj} {f : FuncId} {args args' : List AVal} {v : AVal} (hc : ACalls P f args [] (one v [])) {s s' : Pt} {ops : Array Oper} {dst : Option Tmp} {o : Op} {type : TypeId} {pos : String} {after : Array Edge} {guard : Option (Nat × Bool)} {kk : Option K}
    (h : nextO s = some (ops, ⟨dst, o, type, pos, after, guard⟩, kk, s')) (ho : callO F o = some (f, args')) (ha : args'.map wk1 = args) (hg : guardA ops F ⟨dst, o, type, pos, after, guard⟩ = some true) (hl : (ltL 0 args' && ltV 0 v) = true) (hp : putA G.n dst v F = some F')
    (next : J P G Q s' F' H) : J P G Q s F H := by
  subst ha
  exact jv hc.wk h ho hg hl hp next

/-! ### bit masks -/
theorem ofInt_toNat (d : BitVec 64) : BitVec.ofInt 64 (d.toNat : Int) = d := by
  rw [BitVec.ofInt_natCast]; simp
theorem u64_id (d : BitVec 64) : IntKind.u64.wrap (d.toNat : Int) = (d.toNat : Int) := by
  have := d.isLt
  have h2 : IntKind.u64.bits = 64 := rfl
  have h3 : IntKind.u64.signed = false := rfl
  simp only [IntKind.wrap, h2, h3, Bool.false_and, Bool.false_eq_true, if_false]
  omega
theorem u64_and (a b : BitVec 64) : bitsI .and .u64 (a.toNat : Int) (b.toNat : Int) = ((a &&& b).toNat : Int) := by
  show IntKind.u64.wrap ((BitVec.ofInt 64 (a.toNat : Int) &&& BitVec.ofInt 64 (b.toNat : Int)).toNat : Int) = _
  rw [ofInt_toNat, ofInt_toNat, u64_id]
theorem u64_or (a b : BitVec 64) : bitsI .or .u64 (a.toNat : Int) (b.toNat : Int) = ((a ||| b).toNat : Int) := by
  show IntKind.u64.wrap ((BitVec.ofInt 64 (a.toNat : Int) ||| BitVec.ofInt 64 (b.toNat : Int)).toNat : Int) = _
  rw [ofInt_toNat, ofInt_toNat, u64_id]
theorem u64_andNot (a b : BitVec 64) : bitsI .andNot .u64 (a.toNat : Int) (b.toNat : Int) = ((a &&& ~~~b).toNat : Int) := by
  show IntKind.u64.wrap ((BitVec.ofInt 64 (a.toNat : Int) &&& ~~~(BitVec.ofInt 64 (b.toNat : Int))).toNat : Int) = _
  rw [ofInt_toNat, ofInt_toNat, u64_id]
theorem u64_shl {n : Nat} (h : n < 64) : IntKind.u64.wrap (1 * 2 ^ (min (n : Int).toNat IntKind.u64.bits)) = ((1#64 <<< n).toNat : Int) := by
  have h1 : min (n : Int).toNat IntKind.u64.bits = n := by show min n 64 = n; omega
  rw [h1, Int.one_mul]
  have h2 : ((2 : Int) ^ n) = ((1#64 <<< n).toNat : Int) := by
    rw [BitVec.toNat_shiftLeft]
    simp only [BitVec.toNat_ofNat, Nat.shiftLeft_eq]
    rw [show 1 % 2 ^ 64 = 1 by decide, Nat.one_mul, Nat.mod_eq_of_lt (Nat.pow_lt_pow_right (by decide) h)]
    simp
  rw [h2, u64_id]
def u64A (d : BitVec 64) : AVal := .v (.int .u64 (d.toNat : Int))
section
variable {P : Program} [T : TyTab P] {F : Fr} {H : List AObj} {dst : Option Tmp} {t yt : TypeId} {x y : Operand} {type : TypeId} {pos : String} {after : Array Edge} {guard : Option (Nat × Bool)} {a b : BitVec 64}
theorem u64_or_op (hx : ev F x = some (.v (.int .u64 (a.toNat : Int)))) (hy : ev F y = some (.v (.int .u64 (b.toNat : Int)))) : DSem P .p ⟨dst, .binOp .or t x y yt, type, pos, after, guard⟩ F H (u64A (a ||| b)) H := by
  refine readP_dsem ?_
  unfold u64A
  rw [← u64_or]
  simp only [readP, hx, hy]; rfl
theorem u64_and_op (hx : ev F x = some (.v (.int .u64 (a.toNat : Int)))) (hy : ev F y = some (.v (.int .u64 (b.toNat : Int)))) : DSem P .p ⟨dst, .binOp .and t x y yt, type, pos, after, guard⟩ F H (u64A (a &&& b)) H := by
  refine readP_dsem ?_
  unfold u64A
  rw [← u64_and]
  simp only [readP, hx, hy]; rfl
theorem u64_andNot_op (hx : ev F x = some (.v (.int .u64 (a.toNat : Int)))) (hy : ev F y = some (.v (.int .u64 (b.toNat : Int)))) : DSem P .p ⟨dst, .binOp .andNot t x y yt, type, pos, after, guard⟩ F H (u64A (a &&& ~~~b)) H := by
  refine readP_dsem ?_
  unfold u64A
  rw [← u64_andNot]
  simp only [readP, hx, hy]; rfl
theorem u64_bit_op {n : Nat} (hx : ev F x = some (.v (.int .u64 1))) (hy : ev F y = some (.v (.int .i64 (n : Int)))) (hn : n < 64) : DSem P .p ⟨dst, .binOp .shl t x y yt, type, pos, after, guard⟩ F H (u64A (1#64 <<< n)) H := by
  refine readP_dsem ?_
  unfold u64A
  rw [← u64_shl hn]
  simp only [readP, hx, hy]
  have : decide ((n : Int) < 0) = false := by simp
  rw [this]
  rfl
end
theorem u64_ne {d : BitVec 64} : ((d.toNat : Int) != 0) = true ↔ d ≠ 0 := by
  rw [bne_iff_ne, ne_eq, ne_eq]
  exact not_congr ⟨fun h => BitVec.eq_of_toNat_eq (by simpa using h), fun h => by subst h; rfl⟩
theorem u64_eq {d : BitVec 64} : ((d.toNat : Int) == 0) = true ↔ d = 0 := by
  rw [beq_iff_eq]
  exact ⟨fun h => BitVec.eq_of_toNat_eq (by simpa using h), fun h => by subst h; rfl⟩
end Go.AL
