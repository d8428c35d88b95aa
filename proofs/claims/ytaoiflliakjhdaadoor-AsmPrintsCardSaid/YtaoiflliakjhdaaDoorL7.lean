/-
  The logic of walks, part 7. A law's contract where blocks that nobody changes are known at its start; texts that are handed in. No conditions.
-/
import Derived.Test.YtaoiflliakjhdaaDoorL5
import Derived.Test.YtaoiflliakjhdaaDoorL6
import Derived.ChangeMaps5
import Derived.HandedShaped
import Derived.Shelf.Vars
set_option linter.unusedVariables false
namespace Go.AL
open Go Go.ChangeShapes Go.RowKit

section
variable {P : Program}

def fixes (fx : List (Nat × Obj)) : List AObj := fx.map fun p => .fix p.1 p.2
def noEnt : Ent := { blk := none, gen := 0 }
theorem noBlk (n : Nat) (b : Nat) : ¬ Blk (List.replicate n noEnt) b := by
  rintro ⟨j, e, h, hb⟩
  have := List.mem_of_getElem? h
  rw [(List.mem_replicate.1 this).2] at hb
  cases hb
theorem out_leF (w : World) (n : Nat) : (out w).le (ctx (fun _ => False) w (List.replicate n noEnt)) where
  old := fun b hb _ => ⟨hb, fun h => by
    rcases h with h | h
    · exact h
    · exact noBlk n b h, .inl rfl⟩
  ents := fun j e h => by simp at h

theorem law_callsF {f : FuncId} {as : List AVal} {args : Array Value} {W : World} {x : Value} (fx : List (Nat × Obj)) (hA : ACalls P f as (fixes fx) (one (.v x) (fixes fx)))
    (hf : ∀ p ∈ fx, W.heap[p.1]? = some p.2 ∧ ∀ d, p.2 ≠ .deferred d) (hR : RelL (out W) as args.toList) :
    Calls P f args W fun e W' => e = .returned x ∧ Below W.heap.size W W' := by
  have hI : Inv (fun _ => False) W (fixes fx) (List.replicate fx.length noEnt) := by
    refine ⟨by simp [fixes], fun j o e h he => ?_, fun i j e f b h _ hb _ => absurd ⟨i, e, h, hb⟩ (noBlk _ b), fun b h => absurd h (noBlk _ b)⟩
    obtain rfl : e = noEnt := (List.mem_replicate.1 (List.mem_of_getElem? he)).2
    unfold fixes at h
    rw [List.getElem?_map] at h
    obtain ⟨p, hp, rfl⟩ := Option.map_eq_some_iff.1 h
    obtain ⟨h1, h2⟩ := hf p (List.mem_of_getElem? hp)
    refine ⟨rfl, rfl, h1, h2, ?_, (Array.getElem?_eq_some_iff.1 h1).1⟩
    rintro (h3 | h3)
    · exact h3
    · exact noBlk _ _ h3
  have h := hA.calls (fun _ => False) W (List.replicate fx.length noEnt) args.toList hI (fun b h => h.elim) (RelL.le (out_leF W _) _ _ hR)
  rw [Array.toArray_toList] at h
  refine h.mono fun e W' he => ?_
  cases e with
  | returned u =>
    obtain ⟨v, H', β', ⟨h1, rfl⟩, h2, h3, h4⟩ := he
    injection h1 with h1
    subst h1
    have hu : u = x := h2
    exact ⟨by rw [hu], h4.os, h4.tape, h4.output, h4.size, fun k hk => h4.keep k hk (noBlk _ k)⟩
  | panicked ch => obtain ⟨u, _, v, H', β', ⟨h1, _⟩, _⟩ := he; cases h1
  | outgrown => exact he.elim

theorem open_text {H : Type} {enc : TypeId × Value → H} {w : World} {base : Nat} {sp : Nat → Bool} {held : Bool} {r : Reach} {b0 : Nat} {t : TypeId} {v : Value} {d : DataW H} {ps : List MemPlace} (ht : P.underlying t = some .string) (hval : Value.okWide P w r b0 t v) (hd : DataW.Trod enc P w base sp held t v d ps) :
    ∃ x : List UInt8, x.length ≤ maxLen ∧ Rel (out w) (.v (.string ⟨x.toArray⟩)) v := by
  obtain ⟨s, rfl, _, _, hs⟩ := ChangeMaps.open_string ht hval hd
  exact ⟨s.data.toList, by simpa using hs, rfl⟩

/-- a variable of the library's own that holds some integer -/
theorem shaped_int {w : World} {g : Nat} {t : TypeId} {zero : Array Value} {k : IntKind} (h : w.ShapedOpen P) (hg : g < P.globals.size)
    (h0 : ((begin P (fun _ _ => 0) default).world.heap[g]?).bind Obj.row? = some (zero, t)) (hz : zero.size = 1)
    (hb : P.buildable t = true) (hc : P.cellTypes P.depth t = some [t]) (hu : P.underlying t = some (.int k)) :
    ∃ m, w.heap[g]? = some (.cells #[.int k m] t) := by
  obtain ⟨m, hm⟩ := Go.Proofs.cell_of_shapedOpen_int h hg h0 hz hb hc hu
  obtain ⟨cs, hh, hs, _⟩ := h.1 g zero t hg h0
  refine ⟨m, ?_⟩
  rw [hh]
  have h1 : cs.size = 1 := by omega
  simp only [World.cell?, hh] at hm
  simp at hm
  congr 2
  apply Array.ext (by simpa using h1)
  intro i h2 h3
  have : i = 0 := by simp at h3; omega
  subst this
  have := Array.getElem?_eq_some_iff.1 hm
  simp [this.2]

variable {H : Type} {enc : TypeId × Value → H}
/-- the wrap, the world's shape and a condition of one's own kept -/
theorem returnsInHanded_and_shaped {a : Assume} {C : Checked} {os : Os} {f : FuncId} {fn : Func} {s : ChangeSpec} {conds : List PathCond} {apart fresh handsOn again : Bool} {X : World → Array Value → Prop}
    (hX : ∀ (w w' : World) (args : Array Value), w.heap = w'.heap → X w args → X w' args)
    (own : ownKnob C.prog.godebug = none) (started : os.Started) (noInit : C.prog.inits.idxOf? f = none) (hfn : C.prog.funcs[f]? = some fn)
    (witness : ∃ (w : World) (tape : Tape) (i : Input), w.os = os ∧ (w.forCall tape i).Shaped C.prog ∧ i.vars = [] ∧ Input.okWide C.prog (w.forCall tape i) .any w.heap.size f i ∧
      ((s.pre enc C.prog fn conds apart (w.forCall tape i).memory i.args ∧ X (w.forCall tape i).memory i.args) ∧ sizedMet enc C.prog fn (OpenSpec.ofChange s) apart (w.forCall tape i).memory i.args) ∧ a.holds C.prog (lone (Frame.enter C.prog f i.args .normal) [] (w.forCall tape i)))
    (contract : ∀ (W : World) (base : Nat) (args : Array Value) (ds gs : List (DataW H)) (before : List MemPlace),
      (∀ (j : Nat) t v, fn.params[j]? = some t → args[j]? = some v → Value.okWide C.prog W .any base t v) →
      DataW.Whole enc C.prog fn.params.toList s.vars apart W args.toList ds gs before →
      X W args → W.ShapedOpen C.prog →
      Calls C.prog f args W fun e W' => ∃ v, e = .returned v ∧ s.post enc C.prog fn apart fresh handsOn again W args v W') :
    ReturnsInHanded a C os f .any (fun w args => (s.pre enc C.prog fn conds apart w args ∧ X w args) ∧ sizedMet enc C.prog fn (OpenSpec.ofChange s) apart w args) (s.post enc C.prog fn apart fresh handsOn again) := by
  refine returnsInHanded_of_calls own started noInit witness ?_
  intro w tape i _ hsh _ hok hpre hholds
  obtain ⟨_, _, _, fn', hfn', _, _, _, _, hval⟩ := hok
  have e : fn' = fn := Option.some.inj (hfn'.symm.trans hfn)
  subst e
  obtain ⟨⟨⟨ds, gs, before, hw, hc⟩, hx⟩, hz⟩ := hpre
  have hw' := DataW.Whole.of_heap (w' := w.forCall tape i) (by rfl) hw
  refine (contract (w.forCall tape i) w.heap.size i.args ds gs before hval hw' (hX _ _ _ (by rfl) hx) hsh).mono fun e W' ⟨v, he, hp⟩ => ?_
  subst he
  exact ChangeSpec.post_blind hp
end
end Go.AL
