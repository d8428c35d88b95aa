/-
  That readP tells the truth. No conditions.
-/
import Derived.Test.YthogeodbnnfamaaA5
set_option linter.unusedVariables false
set_option linter.unusedSimpArgs false
namespace Go.AL
open Go

section
variable {P : Program}

def Says (P : Program) (o : Oper) (F : Fr) (v : AVal) : Prop :=
  ∀ (c : Ctx) (ρ : Operand → Value) (w : World), c.w = w → (∀ x ∈ o.op.operands, ∀ v, ev F x = some v → Rel c v (ρ x)) → ∃ u, (execOp ρ o).run P w = .ok (.value u) w ∧ Rel c v u

theorem Says.sem {o : Oper} {F : Fr} {v : AVal} (h : Says P o F v) (H : List AObj) : OpSem P o F H (one v H) := by
  intro ext w β ρ hI _ hκ hρ
  obtain ⟨u, h1, h2⟩ := h (ctx ext w β) ρ w rfl hρ
  rw [h1]
  exact came_same hI h2

theorem says_bin {dst : Option Tmp} {type : TypeId} {pos : String} {after : Array Edge} {guard : Option (Nat × Bool)} {F : Fr} {op : BinOp} {t yt : TypeId} {x y : Operand} {a b : AVal} {v : AVal}
    (ha : ev F x = some a) (hb : ev F y = some b) (h : ∀ (c : Ctx) (u u' : Value) (w : World) , Rel c a u → Rel c b u' → (do eqGuard op t x y u u'; binOp op t u u' : Sem Value).run P w = .ok (match v with | .v r => r | _ => .tuple #[]) w) (hv : ∃ r, v = .v r) :
    Says P ⟨dst, .binOp op t x y yt, type, pos, after, guard⟩ F v := by
  intro c ρ w hw hρ
  have h1 := hρ x (by simp [Op.operands]) a ha
  have h2 := hρ y (by simp [Op.operands]) b hb
  have h3 := h c _ _ w h1 h2
  obtain ⟨r, rfl⟩ := hv
  refine ⟨r, ?_, rfl⟩
  simp only [execOp, Sem.run_bind] at h3 ⊢
  rw [h3]
  rfl

theorem run_eqGuard_int (op : BinOp) (t : TypeId) (x y : Operand) (k k' : IntKind) (a b : Int) (w : World) : (eqGuard op t x y (.int k a) (.int k' b)).run P w = .ok () w := by
  unfold eqGuard; cases op <;> rfl
theorem run_eqGuard_string (op : BinOp) (t : TypeId) (x y : Operand) (a b : ByteArray) (w : World) : (eqGuard op t x y (.string a) (.string b)).run P w = .ok () w := by
  unfold eqGuard; cases op <;> rfl
theorem run_eqGuard_bool (op : BinOp) (t : TypeId) (x y : Operand) (a b : Bool) (w : World) : (eqGuard op t x y (.bool a) (.bool b)).run P w = .ok () w := by
  unfold eqGuard; cases op <;> rfl

theorem binI_run {op : BinOp} {k : IntKind} {a b : Int} {v : AVal} (hs : isShift op = false) (h : binI op k a b = some v) (t : TypeId) (w : World) : ∃ r, v = .v r ∧ (binOp op t (.int k a) (.int k b)).run P w = .ok r w := by
  cases op <;> first | (simp [isShift] at hs; done) | skip
  all_goals simp only [binI] at h
  case quo =>
    cases hb : decide (b = 0) with
    | true => rw [hb] at h; cases h
    | false => rw [hb] at h; simp at h; subst h; refine ⟨_, rfl, ?_⟩; have := of_decide_eq_false hb; simp [binOp, Op.intDiv, this]
  case rem =>
    cases hb : decide (b = 0) with
    | true => rw [hb] at h; cases h
    | false => rw [hb] at h; simp at h; subst h; refine ⟨_, rfl, ?_⟩; have := of_decide_eq_false hb; simp [binOp, Op.intDiv, this]
  all_goals (injection h with h; subst h; refine ⟨_, rfl, ?_⟩; simp [binOp, Op.intArith, Op.intBits, Op.intCmp, bitsI])

theorem readP_bin [T : TyTab P] {dst : Option Tmp} {type : TypeId} {pos : String} {after : Array Edge} {guard : Option (Nat × Bool)} {F : Fr} {op : BinOp} {t yt : TypeId} {x y : Operand} {v : AVal}
    (h : readP T.tab (.binOp op t x y yt) F = some v) : Says P ⟨dst, .binOp op t x y yt, type, pos, after, guard⟩ F v := by
  simp only [readP] at h
  split at h
  · rename_i k a k' b h1 h2
    cases hs : isShift op with
    | true =>
      rw [hs] at h
      simp only [cond_true] at h
      cases hb : decide (b < 0) with
      | true => rw [hb] at h; cases h
      | false =>
        rw [hb] at h
        simp only [cond_false] at h
        have hb' := of_decide_eq_false hb
        cases op <;> first | (simp [isShift] at hs; done) | skip
        all_goals (injection h with h; subst h; refine says_bin h1 h2 (fun c u u' w r1 r2 => ?_) ⟨_, rfl⟩; cases (r1 : u = _); cases (r2 : u' = _); simp only [Sem.run_bind, run_eqGuard_int, Result.andThen_ok]; simp [binOp, Op.shift, hb'])
    | false =>
      rw [hs] at h
      simp only [cond_false] at h
      cases hk : decide (k = k') with
      | false => rw [hk] at h; cases h
      | true =>
        rw [hk] at h
        simp only [cond_true] at h
        have hk' := of_decide_eq_true hk
        subst hk'
        obtain ⟨r, rfl, _⟩ := binI_run (P := P) hs h t default
        refine says_bin h1 h2 (fun c u u' w r1 r2 => ?_) ⟨_, rfl⟩
        cases (r1 : u = _); cases (r2 : u' = _)
        obtain ⟨r', h3, h4⟩ := binI_run (P := P) hs h t w
        cases h3
        simp only [Sem.run_bind, run_eqGuard_int, Result.andThen_ok, h4]
  · rename_i a b h1 h2
    cases op <;> simp only [binS] at h <;> first | (cases h; done) | skip
    all_goals (injection h with h; subst h; refine says_bin h1 h2 (fun c u u' w r1 r2 => ?_) ⟨_, rfl⟩; cases (r1 : u = _); cases (r2 : u' = _); simp only [Sem.run_bind, run_eqGuard_string, Result.andThen_ok]; simp [binOp, Op.stringOp])
  · rename_i a b h1 h2
    split at h
    · rename_i q1 q2 q3 q4 ht
      have hu := ty_und ht
      cases op <;> simp only [binB] at h <;> first | (cases h; done) | skip
      all_goals (injection h with h; subst h; refine says_bin h1 h2 (fun c u u' w r1 r2 => ?_) ⟨_, rfl⟩; cases (r1 : u = _); cases (r2 : u' = _); simp only [Sem.run_bind, run_eqGuard_bool, Result.andThen_ok]; simp [binOp, Op.equal, Op.maxDepth, run_equalIn_bool w _ t a b hu])
    · cases h
  · cases h

theorem constA_one {v : Value} (h : v.oneCell' = true) : (constA v).one = true := by
  unfold constA; split
  · rfl
  · exact h

theorem relL_const (c : Ctx) : ∀ l : List Value, RelL c (l.map constA) l
  | [] => rfl
  | v :: l => ⟨v, l, rfl, constA_rel c v, relL_const c l⟩

def RelPs (c : Ctx) : List (Nat × AVal) → List (Nat × Value) → Prop
  | [], qs => qs = []
  | (i, v) :: vs, qs => ∃ u qs', qs = (i, u) :: qs' ∧ Rel c v u ∧ RelPs c vs qs'

theorem evp_rel {c : Ctx} {F : Fr} {ρ : Operand → Value} : ∀ {xs : List (Nat × Operand)} {vs : List (Nat × AVal)}, (∀ p ∈ xs, ∀ v, ev F p.2 = some v → Rel c v (ρ p.2)) → evp F xs = some vs →
    RelPs c vs (xs.map fun p => (p.1, ρ p.2))
  | [], vs, _, h => by simp [evp] at h; subst h; rfl
  | (i, x) :: xs, vs, hρ, h => by
    simp only [evp] at h
    cases h1 : ev F x with
    | none => rw [h1] at h; cases h
    | some v =>
      cases h2 : evp F xs with
      | none => rw [h1, h2] at h; cases h
      | some us =>
        rw [h1, h2] at h; simp at h; subst h
        exact ⟨ρ x, _, rfl, hρ (i, x) (List.mem_cons_self ..) v h1, evp_rel (fun y hy => hρ y (List.mem_cons_of_mem _ hy)) h2⟩

theorem foldl_splice (off : Nat) : ∀ (l : List Value) (j : Nat) (cs : Array Value), off + j + l.length ≤ cs.size →
    ((l.zipIdx j).foldl (fun (cs : Array Value) (p : Value × Nat) => cs.setIfInBounds (off + p.2) p.1) cs).toList = cs.toList.take (off + j) ++ l ++ cs.toList.drop (off + j + l.length)
  | [], j, cs, h => by simp
  | x :: l, j, cs, h => by
    simp only [List.zipIdx_cons, List.foldl_cons]
    rw [foldl_splice off l (j + 1) _ (by simp at h ⊢; omega)]
    simp only [List.length_cons] at h
    have hlt : off + j < cs.toList.length := by simp; omega
    simp only [Array.toList_setIfInBounds, List.length_cons]
    rw [show off + (j + 1) = off + j + 1 by omega, List.take_set, List.drop_set_of_lt (by omega), show off + j + (l.length + 1) = off + j + 1 + l.length by omega]
    congr 1
    rw [List.take_succ_eq_append_getElem hlt, List.set_append_right _ _ (by simp; omega)]
    have hmin : min (off + j) cs.size = off + j := Nat.min_eq_left (by simpa using Nat.le_of_lt hlt)
    simp [hmin]

theorem fillA_fill {c : Ctx} {place : Nat → Option (Nat × Nat)} : ∀ {vs : List (Nat × AVal)} {us : List (Nat × Value)} {cells : List AVal} {cs : Array Value} {out : List AVal},
    RelPs c vs us → RelL c cells cs.toList → fillA place cells vs = some out → ∃ cs', Instr.fill place cs us = some cs' ∧ RelL c out cs'.toList
  | [], us, cells, cs, out, hv, hc, h => by cases hv; simp [fillA] at h; subst h; exact ⟨cs, rfl, hc⟩
  | (i, v) :: vs, us, cells, cs, out, hv, hc, h => by
      obtain ⟨q2, us', rfl, h2, tl⟩ := hv
      simp only [fillA] at h
      cases hp : place i with
      | none => rw [hp] at h; cases h
      | some os =>
        obtain ⟨off, size⟩ := os
        rw [hp] at h
        simp only at h
        cases hb : (Nat.beq v.cells.length size && Nat.ble (off + size) cells.length && v.flat) with
        | false => rw [hb] at h; cases h
        | true =>
          rw [hb] at h
          simp only [cond_true] at h
          simp only [Bool.and_eq_true] at hb
          obtain ⟨⟨b1, b2⟩, b3⟩ := hb
          have b1 := Nat.eq_of_beq_eq_true b1
          have b2 := Nat.le_of_ble_eq_true b2
          obtain ⟨r1, _⟩ := h2.cells b3
          have l1 := r1.length
          have l2 := hc.length
          simp only [Array.length_toList] at l1 l2
          have hs := foldl_splice off q2.cells.toList 0 cs (by simp; omega)
          simp only [Nat.add_zero] at hs
          have e1 : Array.foldl (fun (cs : Array Value) (p : Value × Nat) => cs.setIfInBounds (off + p.2) p.1) cs q2.cells.zipIdx = List.foldl (fun (cs : Array Value) (p : Value × Nat) => cs.setIfInBounds (off + p.2) p.1) cs (q2.cells.toList.zipIdx 0) := by
            rw [← Array.foldl_toList]; simp [Array.toList_zipIdx]
          have hrel : RelL c (cells.take off ++ v.cells ++ cells.drop (off + size)) (Array.foldl (fun (cs : Array Value) (p : Value × Nat) => cs.setIfInBounds (off + p.2) p.1) cs q2.cells.zipIdx).toList := by
            rw [e1, hs, show q2.cells.toList.length = size by simp; omega]
            exact ((hc.take off).append r1).append (hc.drop (off + size))
          obtain ⟨cs', h3, h4⟩ := fillA_fill tl hrel h
          refine ⟨cs', ?_, h4⟩
          simp only [Instr.fill, hp]
          rw [if_neg (by simp; omega)]
          exact h3

theorem places_run [T : TyTab P] {tab : List TyRow} (htab : tab = T.tab) (w : World) : ∀ {fs : List Field} {ps : List (Nat × Nat)}, places tab fs = some ps →
    (fs.mapM (fun f => do pure (f.offset, ← sizeOf f.type) : Field → Sem (Nat × Nat))).run P w = .ok ps w
  | [], ps, h => by simp [places] at h; subst h; rfl
  | f :: fs, ps, h => by
    simp only [places] at h
    cases h1 : tfind tab f.type with
    | none => rw [h1] at h; cases h
    | some r =>
      cases h2 : places tab fs with
      | none => rw [h1, h2] at h; cases h
      | some qs =>
        rw [h1, h2] at h; simp at h; subst h
        subst htab
        simp only [List.mapM_cons, Sem.run_bind, run_size h1, Result.andThen_ok, Sem.run_pure, places_run rfl w h2]

theorem run_makeInterface_ok [T : TyTab P] {t : TypeId} {r : TyRow} (h : tfind T.tab t = some r) (hi : ∀ ms, r.d ≠ .interface ms) (x : Value) (w : World) : (Instr.makeInterface t x).run P w = .ok (.iface t x) w := by
  unfold Instr.makeInterface
  simp only [Sem.run_bind, run_und h, Result.andThen_ok]
  cases hd : r.d with
  | interface ms => exact absurd hd (hi ms)
  | _ => rfl

theorem relL_one {c : Ctx} {v : AVal} {us : List Value} (h : RelL c [v] us) : ∃ u, us = [u] ∧ Rel c v u := by
  obtain ⟨u, us', rfl, h1, rfl⟩ := h; exact ⟨u, rfl, h1⟩
theorem relL_two {c : Ctx} {v x : AVal} {us : List Value} (h : RelL c [v, x] us) : ∃ u y, us = [u, y] ∧ Rel c v u ∧ Rel c x y := by
  obtain ⟨u, us', rfl, h1, y, us'', rfl, h2, rfl⟩ := h; exact ⟨u, y, rfl, h1, h2⟩

theorem readP_says [T : TyTab P] {dst : Option Tmp} {op : Op} {type : TypeId} {pos : String} {after : Array Edge} {guard : Option (Nat × Bool)} {F : Fr} {v : AVal}
    (h : readP T.tab op F = some v) : Says P ⟨dst, op, type, pos, after, guard⟩ F v := by
  cases op
  case binOp => exact readP_bin h
  all_goals (simp only [readP] at h)
  all_goals (try (cases h; done))
  case move x => exact fun c ρ w hw hρ => ⟨ρ x, rfl, hρ x (by simp [Op.operands]) v h⟩
  case assign x => exact fun c ρ w hw hρ => ⟨ρ x, rfl, hρ x (by simp [Op.operands]) v h⟩
  case pick x a b =>
    intro c ρ w hw hρ
    split at h
    · rename_i t h1
      have r1 : ρ x = .bool t := hρ x (by simp [Op.operands]) _ h1
      cases t with
      | true => exact ⟨ρ a, by simp [execOp, r1, asBool], hρ a (by simp [Op.operands]) v h⟩
      | false => exact ⟨ρ b, by simp [execOp, r1, asBool], hρ b (by simp [Op.operands]) v h⟩
    · cases h
  case nilCheck x =>
    intro c ρ w hw hρ
    split at h
    · rename_i j off h1
      injection h with h; subst h
      have r := hρ x (by simp [Op.operands]) _ h1
      obtain ⟨e, b, _, _, _, h2⟩ := id r
      exact ⟨ρ x, by simp [execOp, h2], r⟩
    · rename_i cs off h1
      injection h with h; subst h
      have r := hρ x (by simp [Op.operands]) _ h1
      obtain ⟨b, o, us, h2, _⟩ := id r
      exact ⟨ρ x, by simp [execOp, h2], r⟩
    · rename_i f a b h1
      injection h with h; subst h
      have r := hρ x (by simp [Op.operands]) _ h1
      obtain ⟨a1, a2, h2, _⟩ := id r
      exact ⟨ρ x, by simp [execOp, h2], r⟩
    · cases h
  case unOp op t x =>
    intro c ρ w hw hρ
    cases op <;> simp only [] at h <;> try (cases h; done)
    split at h
    · rename_i b h1
      injection h with h; subst h
      have r1 : ρ x = .bool b := hρ x (by simp [Op.operands]) _ h1
      exact ⟨.bool (!b), by simp [execOp, r1, Op.unary], rfl⟩
    · cases h
  case convert s d x =>
    intro c ρ w hw hρ
    split at h
    · rename_i k n r a1 k' a2 a3 a4 h1 h2 h3
      injection h with h; subst h
      have r1 : ρ x = .int k n := hρ x (by simp [Op.operands]) _ h1
      exact ⟨_, by simp [execOp, r1, convert, run_und h2, run_und h3, Conv.intToInt], rfl⟩
    · cases h
  case makeFunc fn first cap =>
    intro c ρ w hw hρ
    split at h
    · rename_i a b h1 h2
      injection h with h; subst h
      refine ⟨.func fn (first.map ρ) (cap.map ρ), by simp [execOp, Instr.makeFunc], _, _, rfl, ?_, ?_⟩
      · simpa using evs_rel (c := c) (ρ := ρ) (fun x hx => hρ x (by simp [Op.operands]; exact .inl (by simpa using hx))) h1
      · simpa using evs_rel (c := c) (ρ := ρ) (fun x hx => hρ x (by simp [Op.operands]; exact .inr (by simpa using hx))) h2
    · cases h
  case makeInterface t x =>
    intro c ρ w hw hρ
    split at h
    · rename_i u r h1 h2
      have r1 := hρ x (by simp [Op.operands]) _ h1
      have hi : ∀ ms, r.d ≠ .interface ms := fun ms e => by rw [e] at h; cases h
      have hv : v = .ifc t u := by
        cases hd : r.d <;> rw [hd] at h <;> first | (injection h with h; exact h.symm) | (cases h)
      subst hv
      exact ⟨.iface t (ρ x), by simp [execOp, run_makeInterface_ok h2 hi], _, rfl, r1⟩
    · cases h
  case fieldAddr s x f =>
    intro c ρ w hw hρ
    split at h
    · rename_i q1 fs q2 q3 q4 u ht h1
      have r := hρ x (by simp [Op.operands]) _ h1
      split at h
      · rename_i fd hf
        split at h
        · rename_i rr hr
          cases hz : Nat.beq rr.size 0 with
          | true => rw [hz] at h; cases h
          | false =>
            rw [hz] at h
            simp only [cond_false] at h
            have hz' : rr.size ≠ 0 := fun e => by rw [e] at hz; cases hz
            have key : ∀ (b o : Nat), ρ x = .pointer (some ⟨b, o, none⟩) → (execOp ρ ⟨dst, .fieldAddr s x f, type, pos, after, guard⟩).run P w = .ok (.value (.pointer (some ⟨b, o + fd.offset, none⟩))) w := by
              intro b o e
              have hadd : (⟨b, o, none⟩ : Addr).add fd.offset = ⟨b, o + fd.offset, none⟩ := by
                unfold Addr.add; split
                · rename_i h0; rw [h0]; rfl
                · rfl
              simp only [execOp, Instr.fieldAt, Sem.run_bind, run_und ht, Result.andThen_ok, hf, Instr.sureAddr, e, fieldPlace, run_size hr, hz', if_false, hadd, Sem.run_pure]
            split at h
            · rename_i j off
              injection h with h; subst h
              obtain ⟨e, b, he, h0, hb, hu⟩ := r
              exact ⟨_, key b off hu, e, b, he, h0, hb, rfl⟩
            · rename_i cs off
              injection h with h; subst h
              obtain ⟨b, o, us, hu, hb, hs, hrl, hc⟩ := r
              exact ⟨_, key b _ hu, b, o, us, by rw [Nat.add_assoc], hb, hs, hrl, hc⟩
            · cases h
        · cases h
      · cases h
    · cases h
  case field t x f =>
    intro c ρ w hw hρ
    split at h
    · rename_i q1 fs q2 q3 q4 cs ht h1
      obtain ⟨a, ha, r⟩ := hρ x (by simp [Op.operands]) _ h1
      split at h
      · rename_i fd hf
        split at h
        · rename_i rr hr
          obtain ⟨u, h2, h3⟩ := takeA_part hr r h w
          exact ⟨u, by simp only [execOp, Instr.field, Sem.run_bind, run_und ht, Result.andThen_ok, hf, ha, asAgg, Sem.run_pure, h2], h3⟩
        · cases h
      · cases h
    · cases h
  case extract x i =>
    intro c ρ w hw hρ
    split at h
    · rename_i cs h1
      obtain ⟨a, ha, r⟩ := hρ x (by simp [Op.operands]) _ h1
      obtain ⟨u, h2, h3⟩ := r.get h
      have h4 : a[i]? = some u := by simpa using h2
      exact ⟨u, by simp [execOp, Instr.extract, ha, h4], h3⟩
    · cases h
  case build t parts =>
    intro c ρ w hw hρ
    have hp : ∀ p ∈ parts.toList, ∀ v, ev F p.2 = some v → Rel c v (ρ p.2) := fun p hp v hv => hρ p.2 (by simp [Op.operands]; exact ⟨p.1, by simpa using hp⟩) v hv
    have hm : (parts.map fun (i, x) => (i, ρ x)).toList = parts.toList.map fun p => (p.1, ρ p.2) := by simp
    split at h
    · rename_i q1 fs z q2 q3 vs ht h1
      split at h
      · rename_i ps hps
        cases hf : fillA (fun i => ps[i]?) (z.toList.map constA) vs with
        | none => rw [hf] at h; cases h
        | some out =>
          rw [hf] at h; simp at h; subst h
          obtain ⟨cs', h3, h4⟩ := fillA_fill (evp_rel hp h1) (relL_const c z.toList) hf
          refine ⟨.agg cs', ?_, cs', rfl, h4⟩
          have hmm : (fs.mapM (fun f => do pure (f.offset, ← sizeOf f.type) : Field → Sem (Nat × Nat))).run P w = .ok ps.toArray w := by
            rw [Array.mapM_eq_mapM_toList]
            simp only [Sem.run_map, places_run rfl w hps, Result.andThen_ok]
          simp only [execOp, Instr.build, Sem.run_bind, run_zero ht, run_und ht, Result.andThen_ok, hmm, Value.cells, hm, Sem.run_pure]
          have : (fun (i : Nat) => ps.toArray[i]?) = fun (i : Nat) => ps[i]? := by funext i; simp
          rw [this, h3]
          rfl
      · cases h
    · rename_i q1 n e z q2 q3 vs ht h1
      split at h
      · rename_i r hr
        cases hf : fillA (fun i => some (i * r.size, r.size)) (z.toList.map constA) vs with
        | none => rw [hf] at h; cases h
        | some out =>
          rw [hf] at h; simp at h; subst h
          obtain ⟨cs', h3, h4⟩ := fillA_fill (evp_rel hp h1) (relL_const c z.toList) hf
          refine ⟨.agg cs', ?_, cs', rfl, h4⟩
          simp only [execOp, Instr.build, Sem.run_bind, run_zero ht, run_und ht, run_size hr, Result.andThen_ok, Value.cells, hm, Sem.run_pure, h3]
      · cases h
    · cases h
  case load t a =>
    intro c ρ w hw hρ
    split at h
    · rename_i cs off r h1 h2
      obtain ⟨b, o, us, hu, hb, hs, hrl, hc⟩ := hρ a (by simp [Op.operands]) _ h1
      obtain ⟨u, h3, h4⟩ := takeA_load (P := P) h2 hrl h (w := w) (b := b) (o := o) (fun i u hi => by
        subst hw
        have := hc i (List.getElem?_eq_some_iff.1 hi).1
        rw [this, hi])
      refine ⟨u, by simp only [execOp, Instr.loadAt, Instr.sureAddr, hu, Sem.run_bind, Sem.run_pure, Result.andThen_ok, h3], ?_⟩
      exact Rel.le (c := { c with β := [] }) (c' := c) ⟨fun b hb1 hb2 => ⟨hb1, hb2, rfl⟩, fun j e he => by simp at he⟩ _ _ h4
    · cases h
  case call cl =>
    obtain ⟨callee, args, argTypes⟩ := cl
    cases callee with
    | value f => simp at h
    | invoke r m => simp at h
    | builtin b =>
      cases b <;> simp only [] at h <;> try (cases h; done)
      case len =>
        intro c ρ w hw hρ
        split at h
        · rename_i x t ha hat
          have hargs : (args.map ρ)[0]? = some (ρ x) := by simp [ha]
          have hmem : x ∈ args := Array.mem_of_getElem? ha
          split at h
          · rename_i xs q1 e q2 q3 q4 h1 ht
            injection h with h; subst h
            obtain ⟨A, m, es, hu, _⟩ := hρ x (by simp [Op.operands, Call.operands, hmem]) _ h1
            exact ⟨_, by simp [execOp, resolve, invoke, builtin, Builtin.len_, hargs, hat, run_und ht, hu, goInt], rfl⟩
          · rename_i xs q1 e q2 q3 q4 h1 ht
            injection h with h; subst h
            obtain ⟨A, es, hu, _⟩ := hρ x (by simp [Op.operands, Call.operands, hmem]) _ h1
            exact ⟨_, by simp [execOp, resolve, invoke, builtin, Builtin.len_, hargs, hat, run_und ht, hu, goInt], rfl⟩
          · rename_i s q1 q2 q3 q4 h1 ht
            injection h with h; subst h
            have hu : ρ x = .string s := hρ x (by simp [Op.operands, Call.operands, hmem]) _ h1
            exact ⟨_, by simp [execOp, resolve, invoke, builtin, Builtin.len_, hargs, hat, run_und ht, hu, goInt], rfl⟩
          · cases h
        · cases h
      case min =>
        intro c ρ w hw hρ
        split at h
        · rename_i k a k' b h1
          injection h with h; subst h
          have r := evs_rel (c := c) (ρ := ρ) (fun x hx => hρ x (by simp [Op.operands, Call.operands]; simpa using hx)) h1
          obtain ⟨u, y, h2, h3, h4⟩ := relL_two r
          cases (h3 : u = _); cases (h4 : y = _)
          exact ⟨_, by simp [execOp, resolve, invoke, builtin, Builtin.min_, h2, Builtin.min2], rfl⟩
        · cases h
      case max =>
        intro c ρ w hw hρ
        split at h
        · rename_i k a k' b h1
          injection h with h; subst h
          have r := evs_rel (c := c) (ρ := ρ) (fun x hx => hρ x (by simp [Op.operands, Call.operands]; simpa using hx)) h1
          obtain ⟨u, y, h2, h3, h4⟩ := relL_two r
          cases (h3 : u = _); cases (h4 : y = _)
          exact ⟨_, by simp [execOp, resolve, invoke, builtin, Builtin.max_, h2, Builtin.max2], rfl⟩
        · cases h
end
end Go.AL
