/-
  A slice that is built is owned; an owned slice is given up; what is called is told of by a condition. No conditions.
-/
import Derived.Test.YthogeodbnnfamaaA21
set_option linter.unusedVariables false
set_option linter.unusedSimpArgs false
namespace Go.AL
open Go

section
variable {P : Program} {G : Gh} {ops : Array Oper} {Q : APost}

def buildT (tab : List TyRow) (t : TypeId) : Option (TypeId × Nat) := match tfind tab t with
  | some ⟨_, .slice e, _, _, _⟩ => (tfind tab e).map fun r => (e, r.size)
  | _ => none

/-- a slice that is built, owned -/
theorem build_own [T : TyTab P] {dst : Option Tmp} {t : TypeId} {len : Nat} {parts : Array (Nat × Operand)} {type : TypeId} {pos : String} {after : Array Edge} {guard : Option (Nat × Bool)} {F : Fr} {H : List AObj} {xs : List AVal} {e0 : TypeId} {s0 : Nat}
    (h : buildB T.tab (.buildSlice t len parts) F = some (.slf xs)) (hT : buildT T.tab t = some (e0, s0)) : DSem P .x ⟨dst, .buildSlice t len parts, type, pos, after, guard⟩ F H (.arr H.length 1) (H ++ [.arr 1 e0 s0 xs]) := by
  refine ⟨fun j t cs hj => by rw [List.getElem?_append_left (List.getElem?_eq_some_iff.1 hj).1]; exact hj, ?_⟩
  intro ext w β ρ hI hx hκ hρ
  simp only [buildB] at h
  split at h
  · rename_i q1 e q2 q3 q4 vs ht hvs
    split at h
    · rename_i r hr
      cases hb : (Nat.beq vs.length len && inOrder 0 vs && sizesOk r.size vs && AVal.free.freeL (vs.map (·.2)) && Nat.ble (len * r.size) 100000 && Nat.beq r.z.cells.size r.size) with
      | false => rw [hb] at h; cases h
      | true =>
        rw [hb] at h; simp at h
        simp only [Bool.and_eq_true] at hb
        obtain ⟨⟨⟨⟨⟨b1, b2⟩, b3⟩, b4⟩, b5⟩, b6⟩ := hb
        have b1 := Nat.eq_of_beq_eq_true b1
        have b5 := Nat.le_of_ble_eq_true b5
        have b6 := Nat.eq_of_beq_eq_true b6
        have hps := evp_rel (c := ctx ext w β) (ρ := ρ) (fun p hp v hv => hρ p.2 (by simp [Op.operands]; exact ⟨p.1, by simpa using hp⟩) v hv) hvs
        have hm : (parts.map fun (i, x) => (i, ρ x)).toList = parts.toList.map fun p => (p.1, ρ p.2) := by simp
        obtain ⟨g1, g2, g3⟩ := inOrder_get b2 b3 hps
        simp only [Nat.zero_add] at g2
        generalize hz : ((Array.range (len * r.size)).map (fun i => r.z.cells[i % r.z.cells.size]!)) = zc
        have hzs : zc.size = len * r.size := by rw [← hz]; simp
        obtain ⟨cs', f1, f2, f3, f4⟩ := fill_rows (es := r.size) (n := len) (parts.toList.map fun p => (p.1, ρ p.2)) 0 zc hzs (by omega) (by simpa using g2)
        simp only [Nat.zero_add] at f4
        have h3 : (execOp ρ ⟨dst, .buildSlice t len parts, type, pos, after, guard⟩).run P w = .ok (.value (.slice (some ⟨w.heap.size, 0, none⟩) len len)) (World.push w (.cells cs' e)) := by
          simp only [execOp, Instr.buildSlice, Sem.run_bind, run_und ht, run_size hr, Result.andThen_ok]
          rw [if_neg (by omega)]
          by_cases h0 : len * r.size = 0
          · have hz0 : (Array.range (len * r.size)).map (fun i => (#[] : Array Value)[i % (#[] : Array Value).size]!) = zc := by
              rw [← hz, h0]; simp
            simp only [h0, if_true, Sem.run_pure, Result.andThen_ok, Sem.run_bind]
            rw [h0] at hz0
            rw [hz0, hm, f1]
            simp only [newRow, Sem.run_bind, run_newObj, Result.andThen_ok, Sem.run_pure]
            rfl
          · simp only [h0, if_false, Sem.run_pure, Result.andThen_ok, Sem.run_bind, run_zero hr]
            rw [hz, hm, f1]
            simp only [newRow, Sem.run_bind, run_newObj, Result.andThen_ok, Sem.run_pure]
            rfl
        rw [h3]
        have hee : e = e0 ∧ r.size = s0 := by
          unfold buildT at hT
          rw [ht] at hT
          simp only [hr, Option.map_some, Option.some.injEq, Prod.mk.injEq] at hT
          exact hT
        obtain ⟨rfl, rfl⟩ := hee
        have hlen : xs.length = len := by rw [← h]; simpa using b1
        have hfin := newArr (xs := xs) (cap := len) (e := e) (us := cs') hI hx (w' := w) ⟨rfl, rfl, rfl, rfl⟩ (s := r.size) (by omega) (by omega) (by
          refine RelR.of_get fun i a ha => ?_
          rw [← h] at ha
          obtain ⟨p, k1, k2⟩ := g3 i a ha
          obtain ⟨k3, k4⟩ := g2 i p k1
          refine ⟨p.2, Rel.bare a _ (freeL_get b4 ha) k2, k4, fun q hq => ?_⟩
          have := f4 i p k1 q hq
          simp only [Nat.zero_add]
          exact this)
        rw [hlen] at hfin
        exact hfin
    · cases h
  · cases h

theorem awl_q {F : Fr} {H : List AObj} {d : Tmp} {o : Op} {ty : TypeId} {pos : String} {aft : Array Edge} {g : Option (Nat × Bool)} {l : List Oper} {res : Eff}
    (hd : Nat.blt d G.n = true) (hg : guardA ops F ⟨some d, o, ty, pos, aft, g⟩ = some true) (h : OpSem P ⟨some d, o, ty, pos, aft, g⟩ F H res)
    (next : ∀ r H', res r H' → ∃ v, r = .ret v ∧ AWL P G ops Q l ((d, v) :: F) H') : AWL P G ops Q (⟨some d, o, ty, pos, aft, g⟩ :: l) F H :=
  ⟨fun t ht => by injection ht with ht; subst ht; simpa [Nat.blt_eq] using hd, .inl ⟨hg, res, h, fun r H' hr => by obtain ⟨v, rfl, hn⟩ := next r H' hr; exact hn⟩⟩

/-- an owned slice is given up: nobody changes it any more -/
theorem aw_publish {c : Code} {F : Fr} {H : List AObj} (ts : List Nat) {j g es : Nat} {t : TypeId} {xs : List AVal} (g' : Nat) (hg' : Nat.blt g g' = true) (hts : fproj F ts = some (ts.map fun _ => .arr j g)) (t0 : Nat) (h0 : fget F t0 = some (.arr j g)) (hj : H[j]? = some (.arr g t es xs))
    (h : AW P G c Q (ts.map (·, .sl xs) ++ F) (H.set j (.dead g'))) : AW P G c Q F H := by
  rintro a w ⟨β, hs⟩
  have hgg : g < g' := by simpa [Nat.blt_eq] using hg'
  obtain ⟨u0, hu0, hr0⟩ := hs.get t0 _ h0
  obtain ⟨ent, e1, e2, e3, e4, e5, e6, e7⟩ := arr_open hs.inv hj hr0
  have hjl := (List.getElem?_eq_some_iff.1 e1).1
  have hst : Step w β w (β.set j ⟨none, g', es, 0, 0⟩) := Step.regen e1 (by omega) (by simp only; omega) (.inl rfl)
  refine h a w ⟨_, StB.more (hs.world (hs.inv.set hs.extOk e1 hst (fun c hc _ => rfl) (.inr (.inl rfl)) (a := .dead g') ⟨rfl, by omega, rfl⟩) hst) fun t ht => ?_⟩
  obtain ⟨u, hu, hr⟩ := hs.get t _ (fproj_all hts t ht)
  refine ⟨u, hu, ?_⟩
  obtain ⟨ent', f1, f2, f3, f4, f5, f6, f7⟩ := arr_open hs.inv hj hr
  rcases f7 with ⟨_, h8, _, A, h9⟩ | ⟨b, us, h8, h9, h10, h11, h12⟩
  · subst h8
    exact ⟨A, 0, 0, h9, Nat.le_refl _, fun hx => absurd rfl hx, trivial⟩
  · refine ⟨_, ent'.cap, es, h9, f6, fun _ => ⟨b, 0, rfl, ?_, (hs.inv.sep b ⟨j, ent', f1, h8⟩).2⟩, ?_⟩
    · rintro (hb | ⟨i, q, hq, hqb⟩)
      · exact (hs.inv.sep b ⟨j, ent', f1, h8⟩).1 hb
      · by_cases hij : i = j
        · subst hij
          rw [List.getElem?_set_self hjl] at hq
          injection hq with hq; subst hq; cases hqb
        · rw [List.getElem?_set_ne (by omega)] at hq
          exact hij (hs.inv.uniq i j q ent' b hq f1 hqb h8)
    · have : rdA w (some ⟨b, 0, none⟩) = fun (i : Nat) => us[i]? := by
        funext i
        simp [rdA, World.cell?, h10]
      show RelR _ es (rdA w (some ⟨b, 0, none⟩)) 0 xs
      rw [this]
      exact h12.le (hst.le (ext := G.ext)).bare _ _ _ _

/-- an owned thing is let go of -/
theorem aw_kill {c : Code} {F : Fr} {H : List AObj} (j g' : Nat) {o : AObj} (hj : H[j]? = some o) (ho : (match o with | .arr g _ _ _ => Nat.blt g g' | .row g _ _ _ => Nat.blt g g' | _ => false) = true)
    (h : AW P G c Q F (H.set j (.dead g'))) : AW P G c Q F H := by
  rintro a w ⟨β, hs⟩
  have hjl : j < β.length := by rw [hs.inv.len]; exact (List.getElem?_eq_some_iff.1 hj).1
  obtain ⟨ent, e1⟩ : ∃ e, β[j]? = some e := ⟨β[j], List.getElem?_eq_getElem hjl⟩
  have hro := hs.inv.obj _ _ ent hj e1
  have hgen : ent.gen ≠ 0 ∧ ent.gen < g' := by
    cases o with
    | arr g t es xs => obtain ⟨k1, k0, _⟩ := hro; simp only [Nat.blt_eq] at ho; omega
    | row g t es xs => obtain ⟨k1, k0, _⟩ := hro; simp only [Nat.blt_eq] at ho; omega
    | _ => cases ho
  have hst : Step w β w (β.set j ⟨none, g', 1, 0, 0⟩) := Step.regen e1 hgen.1 hgen.2 (.inl rfl)
  exact h a w ⟨_, hs.world (hs.inv.set hs.extOk e1 hst (fun c hc _ => rfl) (.inr (.inl rfl)) (a := .dead g') ⟨rfl, by omega, rfl⟩) hst⟩

theorem cut_row0 [T : TyTab P] {dst : Option Tmp} {t : TypeId} {x : Operand} {lo hi : Option Operand} {type : TypeId} {pos : String} {after : Array Edge} {guard : Option (Nat × Bool)} {F : Fr} {H : List AObj} {j g off len : Nat} {xs : List AVal} {e : TypeId} {r r' : TyRow} {l h : Nat}
    (hx : ev F x = some (.hd j g off len)) (hj : H[j]? = some (.row g e r.size xs)) (hlo : optI F 0 lo l) (hhi : optI F len hi h)
    (ht : tfind T.tab t = some r') (hd : r'.d = .slice e) (he : tfind T.tab e = some r) (hok : len ≠ 0 ∨ off = 0) (h1 : l ≤ h) (h2 : off + h ≤ xs.length) :
    DSem P .s ⟨dst, .slice t x lo hi none, type, pos, after, guard⟩ F H (.hd j g (off + l) (h - l)) H := by
  have := cut_row (P := P) (dst := dst) (type := type) (pos := pos) (after := after) (guard := guard) (l := l) (h := h) (mm := (xs.length - off : Nat)) (mx := none) hx hj hlo hhi rfl ht hd he (by intro h; cases h) hok (by omega) (by omega) (by omega) rfl
  simpa using this
end
end Go.AL
