/-
  The logic of walks, part 5. What is handed from outside is opened: whole numbers, structs of these, and slices of such. A contract, and what is asked of a row: the call returns true, and what was there is as it was. What is asked of a law's row behind a call that returned true and left what was there. No conditions.
-/
import Derived.Test.YtaoiflliakjhdaaDoorL3
import Derived.Deep.Slices
import Derived.ReadAgain
import Derived.ChangeSame
import Derived.Below
set_option linter.unusedVariables false
namespace Go.AL
open Go Go.Deep

section
variable {P : Program} [T : TyTab P] {H : Type} {enc : TypeId × Value → H} {w : World} {base : Nat} {sp : Nat → Bool} {hd : Bool}

theorem ty_cells {t : Nat} {r : TyRow} (h : tfind T.tab t = some r) : P.cellsOf t = r.size := by
  obtain ⟨i, h1, h2, h3, h4⟩ := ty_info h
  simp [Program.cellsOf, h1, h3]

theorem trod_ints {st : TypeId → Bool} : ∀ (n : Nat) (t : TypeId) (r : TyRow) (fuel : Nat) (cs : List Value) (x : DataW H × List MemPlace), allInt T.tab st n t = true → tfind T.tab t = some r →
    DataW.trod enc P w base sp hd fuel t cs = some x → ∃ ns : List Int, cs = intsV ns ∧ ns.length = r.size
  | 0, t, r, fuel, cs, x, h, _, _ => by cases h
  | n + 1, t, r, fuel, cs, x, h, ht, hx => by
    simp only [allInt, ht] at h
    have hu := ty_und ht
    split at h
    · rename_i hk
      rw [hk] at hu
      have h1 := Nat.eq_of_beq_eq_true h
      obtain ⟨z, rfl, _, _⟩ := DataW.trod_int hu hx
      exact ⟨[z], rfl, by simp [h1]⟩
    · rename_i fs hk
      rw [hk] at hu
      simp only [Bool.and_eq_true] at h
      obtain ⟨xs, m, rfl, rfl, hlen, hxl, hfs⟩ := DataW.trod_struct hu hx
      rw [ty_cells ht] at hlen
      have key : ∀ (gs : List Field) (off : Nat), (∀ f ∈ gs, ∃ y, DataW.trod enc P w base sp hd m f.type ((cs.drop f.offset).take (P.cellsOf f.type)) = some y) → fieldsRun T.tab (allInt T.tab st n) r.size off gs = true → ∃ ns : List Int, cs.drop off = intsV ns := by
        intro gs
        induction gs with
        | nil =>
          intro off _ hg
          have := Nat.eq_of_beq_eq_true hg
          exact ⟨[], List.drop_of_length_le (by omega)⟩
        | cons f gs ih =>
          intro off hy hg
          simp only [fieldsRun, Bool.and_eq_true] at hg
          obtain ⟨⟨⟨g1, g2⟩, g3⟩, g4⟩ := hg
          have g1 := Nat.eq_of_beq_eq_true g1
          cases hr : tfind T.tab f.type with
          | none => rw [hr] at g4; cases g4
          | some r' =>
            rw [hr] at g4
            obtain ⟨y, hy1⟩ := hy f (List.mem_cons_self ..)
            obtain ⟨a, ha, hal⟩ := trod_ints n f.type r' m _ y g3 hr hy1
            obtain ⟨b, hb⟩ := ih (off + r'.size) (fun f hf => hy f (List.mem_cons_of_mem _ hf)) g4
            refine ⟨a ++ b, ?_⟩
            rw [← List.take_append_drop r'.size (cs.drop off), List.drop_drop, hb]
            rw [g1, ty_cells hr] at ha
            rw [ha]
            simp [intsV]
      obtain ⟨ns, hns⟩ := key fs.toList 0 (fun f hf => by
        obtain ⟨i, hi, rfl⟩ := List.getElem_of_mem hf
        have h1 := hfs i fs.toList[i] (by rw [← Array.getElem?_toList]; exact List.getElem?_eq_getElem hi)
        rw [List.getElem?_eq_getElem (by rw [hxl]; simpa using hi)] at h1
        exact ⟨_, h1⟩) h.2
      rw [List.drop_zero] at hns
      refine ⟨ns, hns, ?_⟩
      rw [← hlen, hns]; simp [intsV]
    · cases h

/-- the context of a call from outside -/
abbrev out (w : World) : Ctx := ⟨w, [], fun _ => False⟩

def rowA (ag : Bool) (ns : List Int) : AVal := cond ag (.agg (intsA ns)) (.v (.int .i64 (ns.headD 0)))
theorem relL_ints (c : Ctx) : ∀ ns : List Int, RelL c (intsA ns) (intsV ns)
  | [] => rfl
  | n :: ns => ⟨_, _, rfl, rfl, relL_ints c ns⟩

theorem addr_spot {a : Addr} {w : World} {v : Value} (h : w.cell? a = some v) : a.spot = none := by
  cases hs : a.spot with
  | none => rfl
  | some s =>
    exfalso
    unfold World.cell? at h
    rw [hs] at h
    split at h <;> simp at h

theorem open_rows {st : TypeId → Bool} {n : Nat} {t e : TypeId} {r r' : TyRow} {fuel : Nat} {u : Value} {x : DataW H × List MemPlace} (ht : tfind T.tab t = some r') (hd' : r'.d = .slice e) (he : tfind T.tab e = some r) (hi : allInt T.tab st n e = true)
    (hz : r.size ≠ 0) (h1 : aggB r.d = false → r.size = 1) (h : DataW.trod enc P w 0 sp hd fuel t [u] = some x) :
    ∃ nss : List (List Int), (∀ ns ∈ nss, ns.length = r.size) ∧ nss.length ≤ maxLen ∧ Rel (out w) (.sl (nss.map (rowA (aggB r.d)))) u := by
  have hu : P.underlying t = some (.slice e) := by rw [ty_und ht, hd']
  rcases open_slice hu h with ⟨h0, _⟩ | ⟨a, len, cap, m, k, D, Pl, hcs, _, hl, hm, hmm, _, hx⟩
  · injection h0 with h0
    subst h0
    exact ⟨[], by simp, by simp, none, 0, 0, rfl, Nat.le_refl _, fun h => absurd rfl h, trivial⟩
  · injection hcs with hcs
    subst hcs
    rw [ty_cells he] at hx
    have hlm : len ≤ m := by rw [hmm]; split <;> omega
    have each : ∀ i, i < len → ∃ ns : List Int, ns.length = r.size ∧ w.cells? 0 (a.add (i * r.size)) r.size = some (intsV ns) := fun i hi' => by
      obtain ⟨cs', g1, g2⟩ := hx i (by omega)
      obtain ⟨ns, rfl, hn⟩ := trod_ints n e r k cs' _ hi he g2
      exact ⟨ns, hn, g1⟩
    obtain ⟨N, hN⟩ := choose_lt (α := List Int) (p := fun i ns => ns.length = r.size ∧ w.cells? 0 (a.add (i * r.size)) r.size = some (intsV ns)) each
    have hlen : ((List.range len).map N).length = len := by simp
    refine ⟨(List.range len).map N, fun ns hns => ?_, by rw [hlen]; omega, some a, cap, r.size, by simp, by simpa using hl, fun hne => ?_, ?_⟩
    · obtain ⟨i, hi', rfl⟩ := List.mem_map.1 hns
      exact (hN i (List.mem_range.1 hi')).1
    · have hpos : 0 < len := by
        rcases Nat.eq_zero_or_pos len with h0 | h0
        · subst h0; simp at hne
        · exact h0
      obtain ⟨g1, g2⟩ := hN 0 hpos
      obtain ⟨_, _, g3⟩ := World.cells?_some g2
      have g4 := g3 0 (by omega)
      rw [List.getElem?_eq_getElem (by simp [intsV, g1]; omega)] at g4
      have hs : a.spot = none := by
        have : (a.add (0 * r.size)).add 0 = a := by simp [Addr.add]
        rw [this] at g4; exact addr_spot g4
      refine ⟨a.block, a.off, by cases a; simp_all, id, ?_⟩
      have g5 : w.cell? a = some (intsV (N 0))[0] := by
        have : (a.add (0 * r.size)).add 0 = a := by simp [Addr.add]
        rwa [this] at g4
      unfold World.cell? at g5
      rw [hs] at g5
      simp at g5
      by_cases hlt : a.block < w.heap.size
      · exact hlt
      · rw [Array.getElem?_eq_none (by omega)] at g5; cases g5
    · refine RelR.of_get fun i y hy => ?_
      have hi' : i < len := by simpa using (List.getElem?_eq_some_iff.1 hy).1
      simp only [List.getElem?_map, List.getElem?_range hi', Option.map_some, Option.some.injEq] at hy
      subst hy
      obtain ⟨g1, g2⟩ := hN i hi'
      obtain ⟨_, _, g3⟩ := World.cells?_some g2
      have hs : a.spot = none := by
        obtain ⟨p1, p2⟩ := hN 0 (by omega)
        obtain ⟨_, _, p3⟩ := World.cells?_some p2
        have p4 := p3 0 (by omega)
        rw [List.getElem?_eq_getElem (by simp [intsV, p1]; omega)] at p4
        have : (a.add (0 * r.size)).add 0 = a := by simp [Addr.add]
        rw [this] at p4; exact addr_spot p4
      have hadd : ∀ j, a.add j = ⟨a.block, a.off + j, none⟩ := fun j => by
        unfold Addr.add; split
        · rename_i hj; subst hj; cases a; simp_all
        · rfl
      have hrd : ∀ q, q < r.size → rdA w (some a) (i * r.size + q) = (intsV (N i))[q]? := fun q hq => by
        have := g3 q hq
        rw [add_add, hadd] at this
        exact this
      cases ha : aggB r.d with
      | true =>
        refine ⟨.agg (intsV (N i)).toArray, ⟨_, rfl, relL_ints _ _⟩, by simp [Value.cells, intsV, g1], fun q hq => ?_⟩
        simp only [Nat.zero_add]
        rw [hrd q hq]; simp [Value.cells]
      | false =>
        have hs1 := h1 ha
        obtain ⟨z, hz'⟩ := List.length_eq_one_iff.1 (by rw [g1, hs1] : (N i).length = 1)
        refine ⟨.int .i64 z, by rw [hz']; rfl, by rw [hs1]; rfl, fun q hq => ?_⟩
        simp only [Nat.zero_add]
        rw [hrd q hq, hz']
        have : q = 0 := by omega
        subst this; rfl
end
end Go.AL

set_option linter.unusedVariables false
namespace Go.AL
open Go Go.ChangeShapes Go.RowKit

section
variable {P : Program}

theorem out_le (w : World) : (out w).le (ctx (fun _ => False) w []) where
  old := fun b hb _ => ⟨hb, fun h => by
    rcases h with h | ⟨j, e, h, _⟩
    · exact h
    · simp at h, .inl rfl⟩
  ents := fun j e h => by simp at h

theorem law_calls {f : FuncId} {as : List AVal} {args : Array Value} {W : World} {x : Value} (hA : ACalls P f as [] (one (.v x) [])) (hR : RelL (out W) as args.toList) :
    Calls P f args W fun e W' => e = .returned x ∧ Below W.heap.size W W' := by
  have hI : Inv (fun _ => False) W [] [] := ⟨rfl, fun j o e h => by simp at h, fun i j e f b h => by simp at h, fun b ⟨j, e, h, _⟩ => by simp at h⟩
  have h := hA.calls (fun _ => False) W [] args.toList hI (fun b h => h.elim) (RelL.le (out_le W) _ _ hR)
  rw [Array.toArray_toList] at h
  refine h.mono fun e W' he => ?_
  cases e with
  | returned u =>
    obtain ⟨v, H', β', ⟨h1, rfl⟩, h2, h3, h4⟩ := he
    injection h1 with h1
    subst h1
    have hu : u = x := h2
    refine ⟨by rw [hu], h4.os, h4.tape, h4.output, h4.size, fun k hk => h4.keep k hk ?_⟩
    rintro ⟨j, e, h, _⟩
    exact absurd h (by simp)
  | panicked ch => obtain ⟨u, _, v, H', β', ⟨h1, _⟩, _⟩ := he; cases h1
  | outgrown => exact he.elim
end
end Go.AL

set_option linter.unusedVariables false
namespace Go.AL
open Go Go.ChangeShapes Go.RowKit

section
variable {H : Type} {enc : TypeId × Value → H} {P : Program}

theorem trodAll_carry' {w w' : World} {base : Nat} {sp : Nat → Bool} {hd : Bool} : ∀ {ts : List TypeId} {vs : List Value} {ds : List (DataW H)} {ps : List MemPlace}, DataW.TrodAll enc P w base sp hd ts vs ds ps → (∀ p ∈ ps, w.sameAt w' p) → DataW.TrodAll enc P w' base sp hd ts vs ds ps
  | [], [], [], _, h, _ => h
  | _ :: _, _ :: _, _ :: _, _, ⟨p, q, ⟨n, h1⟩, h2, e⟩, hs => ⟨p, q, ⟨n, DataW.trod_carry n _ _ _ h1 fun x hx => hs x (by rw [e]; exact List.mem_append_left _ hx)⟩, trodAll_carry' h2 fun x hx => hs x (by rw [e]; exact List.mem_append_right _ hx), e⟩

theorem post_law {T' : TypeId → Prop} (K : Kids P T') (hz : ∀ t e, T' t → P.underlying t = some (.slice e) → 0 < P.cellsOf e) {f : Func} {s : ChangeSpec} {apart fresh handsOn again : Bool} {W W' : World} {args : Array Value} {ds gs : List (DataW H)} {before : List MemPlace} {tb : TypeId}
    (hT : ∀ t ∈ f.params.toList, T' t) (hW : DataW.Whole enc P f.params.toList s.vars apart W args.toList ds gs before) (hB : Below W.heap.size W W') (hvars : s.vars = [])
    (hr : (s.fn H (ds ++ gs)).results = [.lit (.bool true)]) (ha : (s.fn H (ds ++ gs)).args = ds) (hv : (s.fn H (ds ++ gs)).vars = []) (hrt : f.resultTypes = #[tb]) (htb : P.underlying tb = some .bool) :
    s.post enc P f apart fresh handsOn again W args (.bool true) W' := by
  have hlt := hW.lt
  have hold : ∀ p ∈ before, (fun b => decide (b < W.heap.size)) p.block = true := fun p hp => by simpa using hlt p hp
  obtain ⟨p, q, h1, h2, h3, h4, h5⟩ := id hW
  have hq : q = [] := by
    rw [hvars] at h2
    cases gs with
    | nil => exact h2
    | cons => cases h2
  subst hq
  rw [List.append_nil] at h3
  subst h3
  have hres : ∀ (b : Nat) (sp : Nat → Bool) (hd : Bool), DataW.TrodAll enc P W' b sp hd f.resultTypes.toList ((Value.bool true).resultList f.resultTypes.size) (s.fn H (ds ++ gs)).results [] := fun b sp hd => by
    rw [hr, hrt]
    exact trodAll_mk1 ⟨1, by simp [Value.cells, DataW.trod, htb]⟩
  have hargs : ∀ sp : Nat → Bool, (∀ x ∈ before, sp x.block = true) → DataW.TrodAll enc P W' 0 sp true f.params.toList args.toList (s.fn H (ds ++ gs)).args before := fun sp hsp => by
    rw [ha]
    exact trodAll_carry' (h1.respare K hz hT hsp) fun x hx => hB.same (hlt x hx)
  have hv' : ∀ sp : Nat → Bool, DataW.TrodVars enc P W' sp s.vars (s.fn H (ds ++ gs)).vars [] := fun sp => by
    rw [hvars, hv]; exact rfl
  refine ⟨ds, gs, before, [], before, [], hW, hres _ _ _, hargs _ hold, hv' _, World.keptBut_mono (fun p hp => ⟨hp, Or.inr (by simpa using hp)⟩) (hB.frame (· ∈ before)), fun _ => ?_⟩
  refine ⟨?_, _, _, ([] ++ before) ++ [], ⟨[] ++ before, [], trodAll_append (hargs _ (fun _ _ => rfl)) (hres _ _ _), hv' _, rfl, ?_, ?_⟩, ?_⟩
  · intro j t r hj hr'
    rw [hrt] at hj hr'
    cases j with
    | zero =>
      simp at hj; subst hj
      simp [Value.resultList] at hr'; subst hr'
      simp [Value.okWide, htb, Cell.okWide, Cell.ok]
    | succ j => simp at hj
  · intro b off hp
    have hp : MemPlace.cell b off ∈ before := by simpa using hp
    rw [hB.frozen (hlt _ hp)]
    exact h4 b off (by simpa using hp)
  · intro hap
    have := h5 hap
    simpa using this
  · intro p hp _
    simpa using hp
end
end Go.AL
