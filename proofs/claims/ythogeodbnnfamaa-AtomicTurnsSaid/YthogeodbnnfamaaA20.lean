/-
  An owned slice is seen as a row, and back; no slice is taken for an owned one; cuts of which nothing is used; comparing with nil; two owned things do not overlap. No conditions.
-/
import Derived.Test.YthogeodbnnfamaaA19
import Derived.Lib.SliceRun
set_option linter.unusedVariables false
set_option linter.unusedSimpArgs false
namespace Go.AL
open Go

section
variable {P : Program} {G : Gh} {Q : APost}

theorem StB.more {β : List Ent} {F : Fr} {H : List AObj} {a : Act} {w : World} (h : StB G β F H a w) {v : AVal} : ∀ {ts : List Nat}, (∀ t ∈ ts, ∃ u, a.tmps[t]? = some u ∧ Rel (ctx G.ext w β) v u) → StB G β (ts.map (·, v) ++ F) H a w
  | [], _ => h
  | t :: ts, hm => by
    have h' := StB.more h (ts := ts) (fun s hs => hm s (List.mem_cons_of_mem _ hs))
    refine ⟨h.inv, h.step, h.extOk, h.size, h.defers, fun s x hs => ?_⟩
    simp only [List.map_cons, List.cons_append, fget] at hs
    cases hb : Nat.beq t s with
    | true =>
      rw [hb] at hs; simp at hs; subst hs
      rw [← Nat.eq_of_beq_eq_true hb]
      exact hm t (List.mem_cons_self ..)
    | false => rw [hb] at hs; simp at hs; exact h'.get s x hs

theorem fproj_all {F : Fr} {v : AVal} : ∀ {ts : List Nat}, fproj F ts = some (ts.map fun _ => v) → ∀ t ∈ ts, fget F t = some v
  | [], _, t, h => by simp at h
  | s :: ts, hp, t, h => by
    simp only [fproj] at hp
    cases h1 : fget F s with
    | none => rw [h1] at hp; cases hp
    | some x =>
      cases h2 : fproj F ts with
      | none => rw [h1, h2] at hp; cases hp
      | some xs =>
        rw [h1, h2] at hp
        simp only [List.map_cons, Option.some.injEq, List.cons.injEq] at hp
        rcases List.mem_cons.1 h with rfl | h
        · rw [h1, hp.1]
        · exact fproj_all (by rw [h2, hp.2]) t h

/-- the whole room of an owned slice is seen -/
theorem aw_expose {c : Code} {F : Fr} {H : List AObj} (ts : List Nat) {j g es : Nat} {t : TypeId} {xs : List AVal} (hts : fproj F ts = some (ts.map fun _ => .arr j g)) (t0 : Nat) (h0 : fget F t0 = some (.arr j g)) (hj : H[j]? = some (.arr g t es xs)) (hx : xs ≠ [])
    (h : ∀ sp, AW P G c Q (ts.map (·, .hd j (g + 1) 0 xs.length) ++ F) (H.set j (.row (g + 1) t es (xs ++ sp)))) : AW P G c Q F H := by
  rintro a w ⟨β, hs⟩
  obtain ⟨u0, hu0, hr0⟩ := hs.get t0 _ h0
  obtain ⟨ent, e1, e2, e3, e4, e5, e6, e7⟩ := arr_open hs.inv hj hr0
  rcases e7 with ⟨_, h1, _⟩ | ⟨b, us, h1, h2, h3, h4, h5⟩
  · exact absurd h1 hx
  have hjl := (List.getElem?_eq_some_iff.1 e1).1
  let sp : List AVal := (List.range (ent.cap - xs.length)).map fun i => .agg ((us.toList.drop ((xs.length + i) * es)).take es |>.map .v)
  have hst : Step w β w (β.set j ⟨some b, g + 1, es, ent.cap, ent.cap⟩) := Step.regen e1 (by omega) (by simp only; omega) (.inr h1.symm)
  have hlen : (xs ++ sp).length = ent.cap := by simp [sp]; omega
  have husl : us.toList.length = ent.cap * es := by simpa using h4
  have hxm : xs.length * es ≤ us.toList.length := by rw [husl]; exact Nat.mul_le_mul_right _ e6
  have hsp : RelR { (ctx G.ext w β) with β := [] } es (fun i => (us.toList.drop (xs.length * es))[i]?) 0 sp := by
    refine RelR.of_get fun i y hy => ?_
    have hi : i < ent.cap - xs.length := by simpa [sp] using (List.getElem?_eq_some_iff.1 hy).1
    simp only [sp, List.getElem?_map, List.getElem?_range hi, Option.map_some, Option.some.injEq] at hy
    subst hy
    have hm : (xs.length + i) * es + es ≤ us.toList.length := by
      rw [husl]
      have : (xs.length + i + 1) * es ≤ ent.cap * es := Nat.mul_le_mul_right _ (by omega)
      rw [Nat.add_mul _ 1, Nat.one_mul] at this; exact this
    have hl : ((us.toList.drop ((xs.length + i) * es)).take es).length = es := by rw [List.length_take, List.length_drop]; omega
    refine ⟨.agg ((us.toList.drop ((xs.length + i) * es)).take es).toArray, ⟨_, rfl, ?_⟩, by simpa [Value.cells] using hl, fun q hq => ?_⟩
    · have : ∀ l : List Value, RelL { (ctx G.ext w β) with β := [] } (l.map .v) l := fun l => by
        induction l with
        | nil => rfl
        | cons v l ih => exact ⟨v, l, rfl, rfl, ih⟩
      exact this _
    · simp only [Nat.zero_add, Value.cells, List.getElem?_toArray, List.getElem?_take, hq, if_true, List.getElem?_drop]
      congr 1
      rw [Nat.add_mul]; omega
  refine h sp a w ⟨_, StB.more (hs.world (hs.inv.set hs.extOk e1 hst (fun c hc _ => rfl) (.inr (.inr h1.symm)) ?_) hst) fun t ht => ?_⟩
  · refine ⟨rfl, by omega, rfl, hlen.symm, hlen.symm, b, us, rfl, h3, h4, ?_⟩
    refine RelR.le (hst.le (ext := G.ext)).bare _ _ _ _ (rows_append (us := us.toList.take (xs.length * es)) (vs := us.toList.drop (xs.length * es)) ?_ hsp (by rw [List.length_take]; omega) fun i _ => by rw [List.take_append_drop]; simp)
    refine relR_rd h5 fun i hi => ?_
    rw [List.getElem?_take, if_pos hi]; simp
  · obtain ⟨u, hu, hr⟩ := hs.get t _ (fproj_all hts t ht)
    obtain ⟨_, ent', f1, f2, f3⟩ := id hr
    rw [e1] at f1; injection f1 with f1; subst f1
    obtain ⟨f4, f5⟩ := f3 e2
    rw [h1] at f5
    refine ⟨u, hu, hr.1, ⟨some b, g + 1, es, ent.cap, ent.cap⟩, by rw [List.getElem?_set_self hjl], Nat.le_refl _, fun _ => ⟨b, 0, ent.cap, rfl, by simpa using e6, by rw [f5, e5], fun _ => ⟨by simp, by simp⟩⟩⟩

/-- a row is taken for an owned slice again, the rest of its room unseen -/
theorem aw_shrink {c : Code} {F : Fr} {H : List AObj} (ts : List Nat) {j g es k : Nat} {t : TypeId} {xs : List AVal} (hts : fproj F ts = some (ts.map fun _ => .hd j g 0 k)) (t0 : Nat) (h0 : fget F t0 = some (.hd j g 0 k)) (hj : H[j]? = some (.row g t es xs))
    (h : AW P G c Q (ts.map (·, .arr j (g + 1)) ++ F) (H.set j (.arr (g + 1) t es (xs.take k)))) : AW P G c Q F H := by
  rintro a w ⟨β, hs⟩
  obtain ⟨u0, hu0, hr0⟩ := hs.get t0 _ h0
  obtain ⟨ent, b, us, o, m, e1, e2, e3, e4, e5, e6, e7, e8, e9, e10, e11, e12, e13⟩ := hd_open hs.inv hj hr0
  have hjl := (List.getElem?_eq_some_iff.1 e1).1
  have hst : Step w β w (β.set j ⟨some b, g + 1, es, xs.length, k⟩) := Step.regen e1 (by omega) (by simp only; omega) (.inr e7.symm)
  have hlen : (xs.take k).length = k := by rw [List.length_take]; omega
  refine h a w ⟨_, StB.more (hs.world (hs.inv.set hs.extOk e1 hst (fun c hc _ => rfl) (.inr (.inr e7.symm)) ?_) hst) fun t ht => ?_⟩
  · refine ⟨rfl, by omega, rfl, hlen.symm, by rw [hlen]; simpa using e9, ?_⟩
    exact ⟨us, e11, e12, RelR.le (hst.le (ext := G.ext)).bare _ _ _ _ (rows_take e13)⟩
  · obtain ⟨u, hu, hr⟩ := hs.get t _ (fproj_all hts t ht)
    obtain ⟨ent', b', us', o', m', f1, f2, f3, f4, f5, f6, f7, f8, f9, f10, _⟩ := hd_open hs.inv hj hr
    rw [e1] at f1; injection f1 with f1; subst f1
    rw [e7] at f7; injection f7 with f7; subst f7
    obtain ⟨f11, f12⟩ := f10 (.inr rfl)
    refine ⟨u, hu, hr.1, ⟨some b, g + 1, es, xs.length, k⟩, by rw [List.getElem?_set_self hjl], Nat.le_refl _, fun _ => ⟨by simpa using e9, by rw [f8, f11, f12]; simp⟩⟩

/-- an empty slice without room is taken for an owned one -/
theorem aw_adopt {c : Code} {F : Fr} {H : List AObj} (ts : List Nat) (bt : TypeId) (es : Nat) (hts : fproj F ts = some (ts.map fun _ => .slf []))
    (h : AW P G c Q (ts.map (·, .arr H.length 1) ++ F) (H ++ [.arr 1 bt es []])) : AW P G c Q F H := by
  rintro a w ⟨β, hs⟩
  have hlen := hs.inv.len
  have hst : Step w β w (β ++ [⟨none, 1, es, 0, 0⟩]) := by
    refine ⟨rfl, rfl, rfl, Nat.le_refl _, fun b hb _ => rfl, fun b hb => ?_, fun j e he => ⟨e, by rw [List.getElem?_append_left (List.getElem?_eq_some_iff.1 he).1]; exact he, Nat.le_refl _, fun _ => rfl, fun _ => rfl⟩⟩
    obtain ⟨j, e, he, hb⟩ := hb
    rcases Nat.lt_or_ge j β.length with hlt | hge
    · rw [List.getElem?_append_left hlt] at he; exact .inl ⟨j, e, he, hb⟩
    · rw [List.getElem?_append_right hge] at he
      have : j - β.length = 0 := by
        have := (List.getElem?_eq_some_iff.1 he).1
        simpa using this
      rw [this] at he; simp at he; subst he; cases hb
  have cls : ∀ (i : Nat) (f : Ent), (β ++ [⟨none, 1, es, 0, 0⟩])[i]? = some f → β[i]? = some f ∨ (i = β.length ∧ f = ⟨none, 1, es, 0, 0⟩) := fun i f hf => by
    rcases Nat.lt_or_ge i β.length with hlt | hge
    · rw [List.getElem?_append_left hlt] at hf; exact .inl hf
    · rw [List.getElem?_append_right hge] at hf
      have : i - β.length = 0 := by
        have := (List.getElem?_eq_some_iff.1 hf).1
        simpa using this
      rw [this] at hf; simp at hf; exact .inr ⟨by omega, hf.symm⟩
  have hinv : Inv G.ext w (H ++ [.arr 1 bt es []]) (β ++ [⟨none, 1, es, 0, 0⟩]) := by
    refine hs.inv.upd hst (by simp [hlen]) ?_ ?_ ?_
    · intro j o e ho he
      rcases cls j e he with h1 | ⟨h1, h2⟩
      · have hlt := (List.getElem?_eq_some_iff.1 h1).1
        rw [List.getElem?_append_left (by rw [← hlen]; exact hlt)] at ho
        exact .inl ⟨ho, h1, fun _ _ => rfl⟩
      · subst h2
        rw [h1, hlen] at ho
        simp at ho; subst ho
        exact .inr ⟨rfl, by decide, rfl, rfl, Nat.le_refl _, rfl⟩
    · intro i k e f b hi hk he hf
      rcases cls i e hi with h1 | ⟨h1, h2⟩ <;> rcases cls k f hk with h3 | ⟨h3, h4⟩
      · exact hs.inv.uniq i k e f b h1 h3 he hf
      · subst h4; cases hf
      · subst h2; cases he
      · omega
    · intro b hb
      rcases hst.fresh b hb with h1 | h1
      · exact hs.inv.sep b h1
      · obtain ⟨j, e, he, hb⟩ := hb
        rcases cls j e he with h2 | ⟨h2, h3⟩
        · exact hs.inv.sep b ⟨j, e, h2, hb⟩
        · subst h3; cases hb
  refine h a w ⟨_, StB.more (hs.world hinv hst) fun t ht => ?_⟩
  obtain ⟨u, hu, A, es', h1, h2, h3⟩ := hs.get t _ (fproj_all hts t ht)
  refine ⟨u, hu, by subst h1; rfl, ⟨none, 1, es, 0, 0⟩, by rw [← hlen]; simp, Nat.le_refl _, fun _ => ⟨Nat.le_refl _, rfl, A, h1⟩⟩

/-- an owned slice is cut, but nothing is asked of the piece -/
theorem cut_dull [T : TyTab P] {dst : Option Tmp} {t : TypeId} {x : Operand} {lo hi mx : Option Operand} {type : TypeId} {pos : String} {after : Array Edge} {guard : Option (Nat × Bool)} {F : Fr} {H : List AObj} {j g es : Nat} {bt : TypeId} {xs : List AVal} {e : TypeId} {r r' : TyRow} {l h mm : Int}
    (hx : ev F x = some (.arr j g)) (hj : H[j]? = some (.arr g bt es xs)) (hlo : optI F 0 lo l) (hhi : optI F xs.length hi h) (hmx : mx = none ∨ ∃ k q, mx = some q ∧ ev F q = some (.v (.int k mm)))
    (ht : tfind T.tab t = some r') (hd : r'.d = .slice e) (he : tfind T.tab e = some r) (hm : mx.isSome = true → hi.isSome = true) (h0 : 0 ≤ l) (h1 : l ≤ h) (h2 : h ≤ xs.length) (h3 : mx ≠ none → h ≤ mm ∧ mm ≤ xs.length) :
    OpSem P ⟨dst, .slice t x lo hi mx, type, pos, after, guard⟩ F H (fun r H' => (∃ u, r = .ret (.v u)) ∧ H' = H) := by
  intro ext w β ρ hI hext hκ hρ
  obtain ⟨ent, e1, e2, e3, e4, e5, e6, e7⟩ := arr_open hI hj (hρ x (by simp [Op.operands]) _ hx)
  have hu : ∃ A m, ρ x = .slice A xs.length m ∧ xs.length ≤ m := by
    rcases e7 with ⟨_, h1, _, A, h2⟩ | ⟨b, us, _, h2, _⟩
    · subst h1; rename_i hA; exact ⟨A, 0, hA, Nat.le_refl _⟩
    · exact ⟨_, _, by assumption, e6⟩
  obtain ⟨A, m, hu, hmx2⟩ := hu
  have hmem : ∀ (q : Option Operand), (q = lo ∨ q = hi ∨ q = mx) → ∀ y, q = some y → ∀ v, ev F y = some v → Rel (ctx ext w β) v (ρ y) := fun q hq y hy v hv => by
    refine hρ y ?_ v hv
    subst hy
    rcases hq with h | h | h <;> simp [Op.operands, ← h]
  have hl := optI_lo hlo (hmem lo (.inl rfl))
  have hh := optI_lo hhi (hmem hi (.inr (.inl rfl)))
  have hb : ∃ p, (Instr.sliceBounds true xs.length m (lo.map ρ) (hi.map ρ) (mx.map ρ)).run P w = .ok p w := by
    rcases hmx with h | ⟨k, q, h, hq⟩
    · subst h
      exact ⟨_, bounds_run xs.length m _ _ _ l h m w (hl.imp (fun ⟨a, b, _⟩ => ⟨a, b⟩) id) (hh.imp (fun ⟨a, b, _⟩ => ⟨a, b, rfl⟩) id) (.inl ⟨rfl, rfl⟩) h0 h1 (by omega) (by omega)⟩
    · subst h
      have hv : ρ q = .int k mm := hmem (some q) (.inr (.inr rfl)) q rfl _ hq
      have := h3 (by simp)
      refine ⟨_, bounds_run xs.length m _ _ _ l h mm w (hl.imp (fun ⟨a, b, _⟩ => ⟨a, b⟩) id) (hh.imp (fun ⟨a, b, c⟩ => ?_) id) (.inr ⟨k, by simp [hv]⟩) h0 h1 (by omega) (by omega)⟩
      have := hm rfl
      rw [c] at this; cases this
  obtain ⟨⟨l1, h1', m1⟩, hb⟩ := hb
  have h4 : ∃ u, (execOp ρ ⟨dst, .slice t x lo hi mx, type, pos, after, guard⟩).run P w = .ok (.value u) w := by
    refine ⟨.slice (if m1 = l1 then A else A.map (·.add (l1 * r.size))) (h1' - l1) (m1 - l1), ?_⟩
    simp only [execOp, Instr.sliceAt, Sem.run_bind, hu, run_und ht, hd, Result.andThen_ok, Instr.slice, hb, run_size he, Sem.run_pure]
  obtain ⟨u, h4⟩ := h4
  rw [h4]
  exact ⟨.v u, H, β, ⟨⟨u, rfl⟩, rfl⟩, rfl, hI, Step.refl w β⟩

/-- a slice is compared with nil -/
theorem eq_nil [T : TyTab P] {dst : Option Tmp} {t ty : TypeId} {x : Operand} {type : TypeId} {pos : String} {after : Array Edge} {guard : Option (Nat × Bool)} {F : Fr} {H : List AObj} {a : AVal} {xs : List AVal} {e : TypeId} {r' : TyRow}
    (hx : ev F x = some a) (ha : xsOf a = some xs) (ht : tfind T.tab t = some r') (hd : r'.d = .slice e) :
    OpSem P ⟨dst, .binOp .eql t x (.const (.slice none 0 0)) ty, type, pos, after, guard⟩ F H (fun r H' => (∃ b, r = .ret (.v (.bool b)) ∧ (b = true → xs = [])) ∧ H' = H) := by
  intro ext w β ρ hI hext hκ hρ
  obtain ⟨A, m, es, hu, hm, _, hA, hr⟩ := sl_open ha (hρ x (by simp [Op.operands]) _ hx)
  have h4 : (execOp ρ ⟨dst, .binOp .eql t x (.const (.slice none 0 0)) ty, type, pos, after, guard⟩).run P w = .ok (.value (.bool A.isNone)) w := by
    simp only [execOp, hκ, hu, Sem.run_bind]
    have hu' : P.underlying t = some (.slice e) := by rw [ty_und ht, hd]
    have hg : (eqGuard .eql t x (.const (.slice none 0 0)) (.slice A xs.length m) (.slice none 0 0)).run P w = .ok () w := rfl
    simp only [hg, Result.andThen_ok, Lib.run_eql_slice_nil w t e A xs.length m 0 0 hu', Sem.run_pure]
  rw [h4]
  refine ⟨.v (.bool A.isNone), H, β, ⟨⟨_, rfl, fun h => ?_⟩, rfl⟩, rfl, hI, Step.refl w β⟩
  cases A with
  | some a => cases h
  | none =>
    by_cases hx : xs = []
    · exact hx
    · obtain ⟨b, o, h, _⟩ := hA hx; cases h

/-- two owned things do not overlap -/
theorem overlaps_sem [T : TyTab P] {dst : Option Tmp} {fo x y : Operand} {argTypes : Array TypeId} {type : TypeId} {pos : String} {after : Array Edge} {guard : Option (Nat × Bool)} {F : Fr} {H : List AObj} {f : FuncId} {fn : Func} {tS tR e e1 e2 : TypeId} {j k g1 g2 off len s1 s2 : Nat} {xs ys : List AVal} {r r' : TyRow}
    (hfo : ev F fo = some (.fn (.func f) [] [])) (hx : ev F x = some (.arr k g1)) (hk : H[k]? = some (.arr g1 e1 s1 ys)) (hys : ys ≠ []) (hy : ev F y = some (.hd j g2 off len)) (hj : H[j]? = some (.row g2 e2 s2 xs)) (hjk : k ≠ j)
    (hf : P.funcs[f]? = some fn) (hname : (fn.name == "runtime.NumGoroutine") = false) (hb : fn.body.isNone = true) (hn : Extern.findNext fn = none) (hfind : Extern.find fn = some (Extern.SlicesOverlaps.overlaps #[tS, tS] #[tR]))
    (ht : tfind T.tab tS = some r') (hd : r'.d = .slice e) (he : tfind T.tab e = some r) (hxs : xs ≠ []) (hs2 : s2 ≠ 0) :
    OpSem P ⟨dst, .call { callee := .value fo, args := #[x, y], argTypes }, type, pos, after, guard⟩ F H (one (.v (.bool false)) H) := by
  intro ext w β ρ hI hext hκ hρ
  obtain ⟨a1, a2, hu, r1, r2⟩ := hρ fo (by simp [Op.operands, Call.operands]) _ hfo
  have q1 : a1 = #[] := by apply Array.ext'; exact r1
  have q2 : a2 = #[] := by apply Array.ext'; exact r2
  subst q1; subst q2
  obtain ⟨ent, e1', e2', e3, e4, e5, e6, e7⟩ := arr_open hI hk (hρ x (by simp [Op.operands, Call.operands]) _ hx)
  obtain ⟨ent2, b2, us2, o2, m2, f1, f2, f3, f4, f5, f6, f7, f8, f9, f10, f11, f12, f13⟩ := hd_open hI hj (hρ y (by simp [Op.operands, Call.operands]) _ hy)
  rcases e7 with ⟨_, h1, _⟩ | ⟨b1, us1, h1, h2, h3, h4, h5⟩
  · exact absurd h1 hys
  have hne : b1 ≠ b2 := fun h => hjk (hI.uniq k j ent ent2 b2 e1' f1 (by rw [h1, h]) f7)
  have hrun := Lib.run_overlaps_apart (P := P) w tS tR e (by rw [ty_und ht, hd]) r.size (fun w => run_size he w) ⟨b1, 0, none⟩ ⟨b2, o2, none⟩ ys.length ent.cap len m2 hne e1 e2 us1.size us2.size
    (by simp [World.shape?, h3]) (by simp [World.shape?, f11]) (by
      rw [f12]
      have : xs.length ≠ 0 := fun h => hxs (List.length_eq_zero_iff.1 h)
      exact Nat.mul_ne_zero this hs2)
    (by simp [World.frozen?, h3]) (by simp [World.frozen?, h3])
  have h4 : (execOp ρ ⟨dst, .call { callee := .value fo, args := #[x, y], argTypes }, type, pos, after, guard⟩).run P w = .ok (.value (.bool false)) w := by
    simp only [execOp, resolve, hu, Deferred.ofValue, Sem.run_bind, Sem.run_pure, Result.andThen_ok, invoke, List.map_toArray, List.map_cons, List.map_nil, h2, f8, Array.append_empty, Array.empty_append]
    rw [run_callFunc_extern hf hname hb hn hfind, hrun]
    rfl
  rw [h4]
  exact came_same hI rfl
end
end Go.AL
