/-
  The plain law of AsmBack: what is printed, and that it is read back. No model.
-/
import Derived.Test.YtaoiflliakjhdaaDoorV18
set_option linter.unusedVariables false
set_option linter.unusedSimpArgs false
namespace Go.AL
open Go Go.Proofs

def nm (k : Nat) : Bs := (at' opsT (k : Int)).1
def kdO (k : Nat) : Bs := (at' opsT (k : Int)).2
def pfx (c : UInt8) : Bs := cond (decide (c = 114)) [114] (cond (decide (c = 116)) [108] [])
def prW (c : UInt8) (v : Int) : Bs := pfx c ++ Lib.itoa v
def vals3 (i : Ins) : List Int := [i.a, i.b, i.c]
def prL (i : Ins) : Bs := nm i.op.toNat ++ (List.zipWith prW (kdO i.op.toNat) (vals3 i)).flatMap (32 :: ·)
def hasT (i : Ins) (n : Int) : Bool := (List.zip (kdO i.op.toNat) (vals3 i)).any fun p => decide (p.1 = 116) && decide (p.2 = n)
def isT (l : List Ins) (n : Int) : Bool := l.any (hasT · n)
def lname (n : Nat) : Bs := 108 :: Lib.itoa n
def labL (l : List Ins) (n : Nat) : List Bs := cond (isT l n) [lname n ++ [58]] []
def pls (l : List Ins) (k : Nat) : List Bs := (List.range k).flatMap fun j => labL l j ++ [prL (l.getD j default)]
def plines (l : List Ins) : List Bs := pls l l.length ++ labL l l.length
def rprint (l : List Ins) : Bs := (plines l).flatMap (· ++ [10])
/-- what an operand may be -/
def lim (k : Option UInt8) (n : Nat) : Int × Int := match k with
  | none => (0, 0)
  | some c => cond (decide (c = 114)) (0, 7) (cond (decide (c = 110)) (-1000000000, 1000000000) (0, n))
def mayV (k : Option UInt8) (n : Nat) (v : Int) : Bool := inn v (lim k n).1 (lim k n).2
def mayI (n : Nat) (i : Ins) : Bool := inn i.op 0 26 && (mayV (kdO i.op.toNat)[0]? n i.a && (mayV (kdO i.op.toNat)[1]? n i.b && mayV (kdO i.op.toNat)[2]? n i.c))
def rightC (l : List Ins) : Bool := decide (l.length ≤ 1000) && l.all (mayI l.length)

theorem cuts_sep (c : UInt8) (r : Bs) : ∀ a : Bs, c ∉ a → cuts c (a ++ c :: r) = a :: cuts c r
  | [], _ => by simp [cuts]
  | b :: a, h => by
    have ih := cuts_sep c r a (fun hm => h (List.mem_cons_of_mem _ hm))
    have hb : ¬ b = c := fun e => h (by simp [e])
    rw [List.cons_append, cuts, if_neg hb, ih]; rfl
theorem cuts_one (c : UInt8) : ∀ a : Bs, c ∉ a → cuts c a = [a]
  | [], _ => by simp [cuts]
  | b :: a, h => by
    have ih := cuts_one c a (fun hm => h (List.mem_cons_of_mem _ hm))
    have hb : ¬ b = c := fun e => h (by simp [e])
    rw [cuts, if_neg hb, ih]; rfl
theorem cuts_words (c : UInt8) : ∀ (ws : List Bs) (a : Bs), c ∉ a → (∀ w ∈ ws, c ∉ w) → cuts c (a ++ ws.flatMap (c :: ·)) = a :: ws
  | [], a, h, _ => by simpa using cuts_one c a h
  | w :: ws, a, h, hw => by
    rw [List.flatMap_cons, List.cons_append, cuts_sep c _ a h, cuts_words c ws w (hw w (by simp)) (fun x hx => hw x (List.mem_cons_of_mem _ hx))]
theorem cuts_lines (c : UInt8) : ∀ (ls : List Bs), (∀ l ∈ ls, c ∉ l) → cuts c (ls.flatMap (· ++ [c])) = ls ++ [[]]
  | [], _ => by simp [cuts]
  | l :: ls, h => by
    rw [List.flatMap_cons, List.append_assoc, List.singleton_append, cuts_sep c _ l (h l (by simp)), cuts_lines c ls (fun x hx => h x (List.mem_cons_of_mem _ hx))]
    rfl
/-- the signs of words -/
def wch (c : UInt8) : Bool := dgt c || (decide (97 ≤ c.toNat) && decide (c.toNat ≤ 122)) || decide (c = 45)
theorem wch_no {s : Bs} (h : s.all wch = true) {c : UInt8} (hc : wch c = false) : c ∉ s := fun hm => by
  have := List.all_eq_true.1 h c hm
  rw [hc] at this; cases this
theorem dgt_wch {s : Bs} (h : s.all dgt = true) : s.all wch = true := by
  rw [List.all_eq_true] at h ⊢
  intro x hx
  unfold wch
  rw [h x hx]; rfl
theorem itoa_wch (v : Int) : (Lib.itoa v).all wch = true := by
  unfold Lib.itoa
  split
  · rw [List.all_cons, dgt_wch (dd_all _)]; rfl
  · exact dgt_wch (dd_all _)
theorem itoa_nat (n : Nat) : Lib.itoa (n : Int) = Lib.decDigits n := by
  unfold Lib.itoa
  rw [if_neg (by omega)]; rfl
theorem itoa_len {v : Int} (h : bd v) : (Lib.itoa v).length ≤ 11 := by
  unfold bd at h
  unfold Lib.itoa
  split
  · have := dd_len 9 v.natAbs (by omega)
    simp; omega
  · have := dd_len 9 v.toNat (by omega)
    omega
theorem nm_wch : ∀ k : Nat, k < 27 → (nm k).all wch = true ∧ (nm k).length ≤ 5 ∧ findOp (nm k) = (k : Int) := by decide +kernel
theorem kd_of : ∀ k : Nat, k < 27 → (kdO k).length ≤ 3 ∧ (kdO k).all (fun c => decide (c = 114) || (decide (c = 110) || decide (c = 116))) = true := by decide
theorem prW_wch (c : UInt8) (v : Int) : (prW c v).all wch = true := by
  unfold prW pfx
  rw [List.all_append, itoa_wch]
  cases decide (c = 114)
  · cases decide (c = 116) <;> rfl
  · rfl
theorem mem_zipW {α β γ : Type} {f : α → β → γ} : ∀ {A : List α} {B : List β} {w : γ}, w ∈ List.zipWith f A B → ∃ a b, w = f a b
  | [], _, _, h => by simp at h
  | _ :: _, [], _, h => by simp at h
  | a :: A, b :: B, w, h => by
    rw [List.zipWith_cons_cons] at h
    rcases List.mem_cons.1 h with rfl | h
    · exact ⟨a, b, rfl⟩
    · exact mem_zipW h
theorem prL_words {i : Ins} (h : i.op.toNat < 27) : rsplit 32 (prL i) = nm i.op.toNat :: List.zipWith prW (kdO i.op.toNat) (vals3 i) := by
  rw [rsplit_eq]
  refine cuts_words 32 _ _ (wch_no (nm_wch _ h).1 (by decide)) (fun w hw => ?_)
  obtain ⟨a, b, rfl⟩ := mem_zipW hw
  exact wch_no (prW_wch _ _) (by decide)
theorem prL_no {i : Ins} (h : i.op.toNat < 27) {c : UInt8} (hc : wch c = false) (hc2 : c ≠ 32) : c ∉ prL i := by
  unfold prL
  intro hm
  rcases List.mem_append.1 hm with hm | hm
  · exact wch_no (nm_wch _ h).1 hc hm
  · obtain ⟨w, hw, hm⟩ := List.mem_flatMap.1 hm
    rcases List.mem_cons.1 hm with hm | hm
    · exact hc2 hm
    · obtain ⟨a, b, rfl⟩ := mem_zipW hw
      exact wch_no (prW_wch _ _) hc hm
theorem prL_lab {i : Ins} (h : i.op.toNat < 27) : rlab (prL i) = false := by
  unfold rlab
  cases hg : (prL i).getLast? with
  | none => rfl
  | some d =>
    have := List.mem_of_getLast? hg
    exact decide_eq_false fun e => prL_no h (c := 58) (by decide) (by decide) (e ▸ this)
theorem lname_inj {m n : Nat} (h : lname m = lname n) : m = n := by
  unfold lname at h
  injection h with _ h
  rw [itoa_nat, itoa_nat] at h
  rw [← dd_val m, ← dd_val n, h]
theorem lname_wch (n : Nat) : (lname n).all wch = true := by
  unfold lname
  rw [List.all_cons, itoa_wch]; rfl
theorem lname_name {n : Nat} (h : n ≤ 1000) : rname (lname n) = true := by
  have hl := dd_len 9 n (by omega)
  have ha := dd_all n
  unfold lname rname
  rw [itoa_nat]
  have e : (108 :: Lib.decDigits n).all azn = true := by
    rw [List.all_cons, List.all_eq_true.2]
    · rfl
    · intro x hx
      have := List.all_eq_true.1 ha x hx
      unfold dgt at this
      unfold azn
      simp at this ⊢
      omega
  simp only [e]
  simp
  omega
end Go.AL
