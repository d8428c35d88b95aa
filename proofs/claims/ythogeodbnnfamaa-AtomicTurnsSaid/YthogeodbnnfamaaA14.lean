/-
  The rules as a walk uses them. No conditions.
-/
import Derived.Test.YthogeodbnnfamaaA13
set_option linter.unusedVariables false
namespace Go.AL
open Go

section
variable {P : Program} {G : Gh} {ops : Array Oper} {Q : APost}

/-- one step, of whatever kind -/
theorem awl_d {F : Fr} {H H' : List AObj} {d : Tmp} {o : Op} {ty : TypeId} {pos : String} {aft : Array Edge} {g : Option (Nat × Bool)} {l : List Oper} {v : AVal} {k : K}
    (hd : Nat.blt d G.n = true) (hg : guardA ops F ⟨some d, o, ty, pos, aft, g⟩ = some true) (h : DSem P k ⟨some d, o, ty, pos, aft, g⟩ F H v H') (next : AWL P G ops Q l ((d, v) :: F) H') :
    AWL P G ops Q (⟨some d, o, ty, pos, aft, g⟩ :: l) F H := awl_op hd hg h.op next
theorem awl_dn {F : Fr} {H H' : List AObj} {o : Op} {ty : TypeId} {pos : String} {aft : Array Edge} {g : Option (Nat × Bool)} {l : List Oper} {v : AVal} {k : K}
    (hg : guardA ops F ⟨none, o, ty, pos, aft, g⟩ = some true) (h : DSem P k ⟨none, o, ty, pos, aft, g⟩ F H v H') (next : AWL P G ops Q l F H') :
    AWL P G ops Q (⟨none, o, ty, pos, aft, g⟩ :: l) F H := awl_op rfl hg h.op next
theorem awl_p [T : TyTab P] {F : Fr} {H : List AObj} {d : Tmp} {o : Op} {ty : TypeId} {pos : String} {aft : Array Edge} {g : Option (Nat × Bool)} {l : List Oper} {v : AVal}
    (h : readP T.tab o F = some v) (hg : guardA ops F ⟨some d, o, ty, pos, aft, g⟩ = some true) (hd : Nat.blt d G.n = true) (next : AWL P G ops Q l ((d, v) :: F) H) :
    AWL P G ops Q (⟨some d, o, ty, pos, aft, g⟩ :: l) F H := awl_d hd hg (readP_dsem h) next
theorem awl_load [T : TyTab P] {F : Fr} {H : List AObj} {d : Tmp} {o : Op} {ty : TypeId} {pos : String} {aft : Array Edge} {g : Option (Nat × Bool)} {l : List Oper} {v : AVal}
    (h : loadB T.tab o F H = some v) (hg : guardA ops F ⟨some d, o, ty, pos, aft, g⟩ = some true) (hd : Nat.blt d G.n = true) (next : AWL P G ops Q l ((d, v) :: F) H) :
    AWL P G ops Q (⟨some d, o, ty, pos, aft, g⟩ :: l) F H := awl_d hd hg (loadB_dsem h) next
theorem awl_alloc [T : TyTab P] {F : Fr} {H : List AObj} {d : Tmp} {o : Op} {ty : TypeId} {pos : String} {aft : Array Edge} {g : Option (Nat × Bool)} {l : List Oper} {a : AObj} {n : Nat}
    (h : allocB T.tab o F = some a) (hn : H.length = n) (hg : guardA ops F ⟨some d, o, ty, pos, aft, g⟩ = some true) (hd : Nat.blt d G.n = true) (next : AWL P G ops Q l ((d, .ptr n 0) :: F) (H ++ [a])) :
    AWL P G ops Q (⟨some d, o, ty, pos, aft, g⟩ :: l) F H := by subst hn; exact awl_d hd hg (allocB_dsem h) next
theorem awl_build [T : TyTab P] {F : Fr} {H : List AObj} {d : Tmp} {o : Op} {ty : TypeId} {pos : String} {aft : Array Edge} {g : Option (Nat × Bool)} {l : List Oper} {v : AVal}
    (h : buildB T.tab o F = some v) (hg : guardA ops F ⟨some d, o, ty, pos, aft, g⟩ = some true) (hd : Nat.blt d G.n = true) (next : AWL P G ops Q l ((d, v) :: F) H) :
    AWL P G ops Q (⟨some d, o, ty, pos, aft, g⟩ :: l) F H := awl_d hd hg (buildB_dsem h) next
theorem awl_store [T : TyTab P] {F : Fr} {H H' : List AObj} {o : Op} {ty : TypeId} {pos : String} {aft : Array Edge} {g : Option (Nat × Bool)} {l : List Oper}
    (h : storeB T.tab o F H = some H') (hg : guardA ops F ⟨none, o, ty, pos, aft, g⟩ = some true) (next : AWL P G ops Q l F H') :
    AWL P G ops Q (⟨none, o, ty, pos, aft, g⟩ :: l) F H := awl_op rfl hg (storeB_sem h) next
theorem awl_skip {F : Fr} {H : List AObj} {d : Tmp} {o : Op} {ty : TypeId} {pos : String} {aft : Array Edge} {g : Option (Nat × Bool)} {l : List Oper}
    (hg : guardA ops F ⟨some d, o, ty, pos, aft, g⟩ = some false) (hd : Nat.blt d G.n = true) (next : AWL P G ops Q l ((d, .tup []) :: F) H) :
    AWL P G ops Q (⟨some d, o, ty, pos, aft, g⟩ :: l) F H := awl_no hd hg next
theorem awl_skipn {F : Fr} {H : List AObj} {o : Op} {ty : TypeId} {pos : String} {aft : Array Edge} {g : Option (Nat × Bool)} {l : List Oper}
    (hg : guardA ops F ⟨none, o, ty, pos, aft, g⟩ = some false) (next : AWL P G ops Q l F H) :
    AWL P G ops Q (⟨none, o, ty, pos, aft, g⟩ :: l) F H := awl_no rfl hg next

theorem aw_reg {id : Nat} {l : List Oper} {F : Fr} {H : List AObj} (h : AWL P G l.toArray Q l F H) : AW P G (.region id l.toArray false) Q F H := aw_region_lit h

/-! ### where the order is open -/
def kindOf : Op → K
  | .load .. => .r
  | .alloc _ | .box .. | .makeSlice .. | .makeMap .. => .x
  | .call { callee := .builtin .append, .. } => .x
  | .call { callee := .builtin .len, .. } | .call { callee := .builtin .min, .. } | .call { callee := .builtin .max, .. } => .p
  | .call { callee := .value _, .. } => .p
  | .call _ | .store .. | .mapUpdate .. | .mapEntry .. | .entryStore .. | .insert .. => .m
  | .lookup .. => .s
  | _ => .p

def plan (l : List Oper) : List (Nat × K) → List (Nat × Oper × K)
  | [] => []
  | (i, k) :: r => (i, l.getD i default, k) :: plan l r
def plan0 : Nat → List Oper → List (Nat × Oper × K)
  | _, [] => []
  | i, o :: r => (i, o, kindOf o.op) :: plan0 (i + 1) r

def waits (o : Oper) (i : Nat) : Bool := o.after.toList.any fun e => Region.binds .any e && Nat.beq e.on i
def drawGo (ops : Array Oper) : List (Nat × Oper × K) → List (Nat × Oper × K) → Bool
  | _, [] => true
  | ahead, x :: r => x.2.1.after.toList.all (fun e => !Region.binds .any e || (ahead.any (fun y => Nat.beq y.1 e.on))) && Nat.blt x.1 ops.size && !(ahead.any (fun y => Nat.beq y.1 x.1)) &&
      ahead.all (fun y => waits x.2.1 y.1 || (y.2.1.apart ops x.2.1 && y.2.2.apart x.2.2)) && drawGo ops (x :: ahead) r
def drawOk (l : List Oper) (L : List (Nat × Oper × K)) : Bool := Nat.beq L.length l.length && drawGo l.toArray [] L

theorem drawGo_split {ops : Array Oper} : ∀ {L ahead : List (Nat × Oper × K)}, drawGo ops ahead L = true → ∀ (L1 : List (Nat × Oper × K)) (x : Nat × Oper × K) (L2 : List (Nat × Oper × K)), L = L1 ++ x :: L2 →
    (∀ e ∈ x.2.1.after, Region.binds .any e = true → ∃ y ∈ L1.reverse ++ ahead, y.1 = e.on) ∧ x.1 < ops.size ∧ (∀ y ∈ L1.reverse ++ ahead, y.1 ≠ x.1) ∧
      ∀ y ∈ L1.reverse ++ ahead, (∃ e ∈ x.2.1.after, Region.binds .any e = true ∧ e.on = y.1) ∨ (y.2.1.apart ops x.2.1 = true ∧ y.2.2.apart x.2.2 = true)
  | [], ahead, _, L1, x, L2, h => by cases L1 <;> simp at h
  | z :: r, ahead, hg, L1, x, L2, h => by
    simp only [drawGo, Bool.and_eq_true] at hg
    obtain ⟨⟨⟨⟨g1, g2⟩, g3⟩, g4⟩, g5⟩ := hg
    cases L1 with
    | nil =>
      simp at h
      obtain ⟨rfl, rfl⟩ := h
      refine ⟨fun e he hb => ?_, ?_, fun y hy hyz => ?_, fun y hy => ?_⟩
      · have := List.all_eq_true.1 g1 e (by simpa using he)
        rw [hb] at this
        simp only [Bool.not_true, Bool.false_or] at this
        obtain ⟨y, hy, hye⟩ := List.any_eq_true.1 this
        exact ⟨y, by simpa using hy, Nat.eq_of_beq_eq_true hye⟩
      · exact Nat.le_of_ble_eq_true g2
      · have : ahead.any (fun y => Nat.beq y.1 z.1) = true := List.any_eq_true.2 ⟨y, by simpa using hy, by rw [hyz]; simp⟩
        rw [this] at g3; simp at g3
      · have := List.all_eq_true.1 g4 y (by simpa using hy)
        simp only [Bool.or_eq_true, Bool.and_eq_true] at this
        rcases this with h1 | h1
        · obtain ⟨e, he, hb⟩ := List.any_eq_true.1 h1
          simp only [Bool.and_eq_true] at hb
          exact .inl ⟨e, by simpa using he, hb.1, Nat.eq_of_beq_eq_true hb.2⟩
        · exact .inr h1
    | cons z' L1 =>
      simp at h
      obtain ⟨rfl, rfl⟩ := h
      have := drawGo_split g5 L1 x L2 rfl
      simpa using this

theorem drawGo_nodup {ops : Array Oper} : ∀ {L ahead : List (Nat × Oper × K)}, drawGo ops ahead L = true → (L.map (·.1)).Nodup ∧ ∀ x ∈ L, ∀ y ∈ ahead, y.1 ≠ x.1
  | [], ahead, _ => ⟨List.nodup_nil, fun x hx => by simp at hx⟩
  | z :: r, ahead, hg => by
    have h0 := drawGo_split hg [] z r rfl
    simp only [drawGo, Bool.and_eq_true] at hg
    obtain ⟨h1, h2⟩ := drawGo_nodup hg.2
    refine ⟨?_, fun x hx y hy => ?_⟩
    · rw [List.map_cons, List.nodup_cons]
      refine ⟨fun hm => ?_, h1⟩
      obtain ⟨x, hx, hxz⟩ := List.mem_map.1 hm
      exact h2 x hx z (List.mem_cons_self ..) hxz.symm
    · cases List.mem_cons.1 hx with
      | inl e => subst e; exact h0.2.2.1 y (by simpa using hy)
      | inr hm => exact h2 x hm y (List.mem_cons_of_mem _ hy)

theorem nodup_le : ∀ (n : Nat) (l : List Nat), l.Nodup → (∀ x ∈ l, x < n) → l.length ≤ n
  | 0, l, _, hb => by cases l with | nil => simp | cons x l => exact absurd (hb x (List.mem_cons_self ..)) (by omega)
  | n + 1, l, hn, hb => by
    by_cases h : n ∈ l
    · have h1 := nodup_le n (l.erase n) (hn.erase n) (fun x hx => by
        have h2 := (hn.mem_erase_iff).1 hx
        have := hb x h2.2
        have := h2.1
        omega)
      rw [List.length_erase_of_mem h] at h1
      omega
    · have := nodup_le n l hn (fun x hx => by
        have := hb x hx
        have : x ≠ n := fun e => h (e ▸ hx)
        omega)
      omega

theorem nodup_full {l : List Nat} {n : Nat} (hn : l.Nodup) (hl : l.length = n) (hb : ∀ x ∈ l, x < n) : ∀ i, i < n → i ∈ l := by
  intro i hi
  by_cases h : i ∈ l
  · exact h
  · exfalso
    have := nodup_le n (i :: l) (List.nodup_cons.2 ⟨h, hn⟩) (fun x hx => by
      cases List.mem_cons.1 hx with
      | inl e => subst e; exact hi
      | inr hm => exact hb x hm)
    simp at this; omega

theorem aw_drawL [T : TyTab P] {id : Nat} {l : List Oper} {L : List (Nat × Oper × K)} {F : Fr} {H : List AObj} (hops : ∀ x ∈ L, l.toArray[x.1]? = some x.2.1) (hc : drawOk l L = true)
    (h : AWD P G l.toArray (fun F H => Q .normal F H) L F H) : AW P G (.region id l.toArray true) Q F H := by
  intro a w hs
  simp only [drawOk, Bool.and_eq_true] at hc
  obtain ⟨c1, c2⟩ := hc
  have c1 := Nat.eq_of_beq_eq_true c1
  obtain ⟨n1, _⟩ := drawGo_nodup c2
  let Q' : APost := fun e F H => ∃ F0, FrEq F0 F ∧ Q e F0 H
  have hQ' : ∀ F F' H, FrEq F F' → Q' .normal F H → Q' .normal F' H := fun F F' H he ⟨F0, h0, h1⟩ => ⟨F0, fun t => (h0 t).trans (he t), h1⟩
  have h' : AWD P G l.toArray (Q' .normal) L F H := by
    have : ∀ (L : List (Nat × Oper × K)) (F : Fr) (H : List AObj), AWD P G l.toArray (fun F H => Q .normal F H) L F H → AWD P G l.toArray (Q' .normal) L F H := by
      intro L
      induction L with
      | nil => intro F H h; exact ⟨F, fun _ => rfl, h⟩
      | cons x r ih => intro F H ⟨hd, v, H1, h1, h2⟩; exact ⟨hd, v, H1, h1, ih _ _ h2⟩
    exact this L F H h
  have hsame : ∀ (w' : World), SameMem w w' → St G F H a w' := fun w' hw => by
    obtain ⟨β, hs⟩ := hs
    exact ⟨β, hs.world (hs.inv.same hw) (hw.step β)⟩
  refine wp_mono (wp_region_any T.mixed (Q := lift G Q') ?_) ?_
  · refine awd_any hQ' _ L _ F H (by simpa using c1) ⟨by simp, fun i hi => ?_⟩ hops n1 ?_ h' a _ (hsame _ (drew_same w))
    · have hm : i ∈ L.map (·.1) := nodup_full n1 (by simpa using c1) (fun y hy => by
        obtain ⟨x, hx, rfl⟩ := List.mem_map.1 hy
        have := (Array.getElem?_eq_some_iff.1 (hops x hx)).1
        simpa using this) i (by simpa using hi)
      obtain ⟨x, hx, hxi⟩ := List.mem_map.1 hm
      have hi' : i < l.length := by simpa using hi
      constructor
      · intro _; exact ⟨x, hx, hxi⟩
      · intro _; simp [hi']
    · intro L1 x L2 hL
      obtain ⟨s1, s2, s3, s4⟩ := drawGo_split c2 L1 x L2 hL
      simp only [List.append_nil] at s1 s3 s4
      refine ⟨fun y hy hyx e he hb hey => ?_, fun e he hb => ?_, fun y hy => s4 y (by simpa using hy)⟩
      · obtain ⟨z, hz, hze⟩ := s1 e he hb
        have hz' : z ∈ L1 := by simpa using hz
        rw [hL] at n1
        simp only [List.map_append, List.map_cons] at n1
        rw [List.nodup_append] at n1
        exact n1.2.2 z.1 (List.mem_map.2 ⟨z, hz', rfl⟩) y.1 (List.mem_cons_of_mem _ (List.mem_map.2 ⟨y, hy, rfl⟩)) (hze.trans hey)
      · obtain ⟨z, hz, hze⟩ := s1 e he hb
        have hz' : z ∈ L := by rw [hL]; exact List.mem_append_left _ (by simpa using hz)
        have := (Array.getElem?_eq_some_iff.1 (hops z hz')).1
        exact ⟨by rw [← hze]; exact this, fun hex => s3 z hz (hze.trans hex)⟩
  · intro e a' w' he
    cases e with
    | normal => obtain ⟨F', H', ⟨F0, h0, h1⟩, h2⟩ := he; exact ⟨F0, H', h1, h2.eq (fun t => (h0 t).symm)⟩
    | ret => obtain ⟨F', H', ⟨F0, h0, h1⟩, h2⟩ := he; exact ⟨F0, H', h1, h2.eq (fun t => (h0 t).symm)⟩
    | exit id => obtain ⟨F', H', ⟨F0, h0, h1⟩, h2⟩ := he; exact ⟨F0, H', h1, h2.eq (fun t => (h0 t).symm)⟩
    | panic ch =>
      obtain ⟨v, F', H', β, u, ⟨F0, h0, h1⟩, h2, h3, h4⟩ := he
      exact ⟨v, F0, H', β, u, h1, ⟨h2.inv, h2.step, h2.extOk, h2.size, h2.defers, fun t v ht => h2.get t v (by rw [← h0 t]; exact ht)⟩, h3, h4⟩
    | goto l => exact he.elim
    | outgrown => exact he.elim

theorem plan_ops {l : List Oper} : ∀ {pl : List (Nat × K)}, pl.all (fun x => Nat.blt x.1 l.length) = true → ∀ x ∈ plan l pl, l.toArray[x.1]? = some x.2.1
  | [], _, x, h => by simp [plan] at h
  | (i, k) :: r, hb, x, h => by
    simp only [List.all_cons, Bool.and_eq_true] at hb
    simp only [plan] at h
    cases List.mem_cons.1 h with
    | inl e =>
      subst e
      have := Nat.le_of_ble_eq_true hb.1
      have hlt : i < l.length := this
      simp [List.getD, hlt]
    | inr hm => exact plan_ops hb.2 x hm

theorem plan0_ops {l : List Oper} : ∀ (r : List Oper) (i : Nat), (∀ j : Nat, r[j]? = l[i + j]?) → ∀ x ∈ plan0 i r, l.toArray[x.1]? = some x.2.1
  | [], i, _, x, h => by simp [plan0] at h
  | o :: r, i, hr, x, h => by
    simp only [plan0] at h
    cases List.mem_cons.1 h with
    | inl e => subst e; have := hr 0; simpa using this.symm
    | inr hm => exact plan0_ops r (i + 1) (fun j => by have := hr (j + 1); simpa [Nat.add_assoc, Nat.add_comm 1 j] using this) x hm

/-- in the order of the text, each operation's kind by what it is -/
theorem aw_draw [T : TyTab P] {id : Nat} {l : List Oper} {F : Fr} {H : List AObj} (hc : drawOk l (plan0 0 l) = true)
    (h : AWD P G l.toArray (fun F H => Q .normal F H) (plan0 0 l) F H) : AW P G (.region id l.toArray true) Q F H :=
  aw_drawL (plan0_ops l 0 (fun j => by simp)) hc h
/-- in an order of one's own -/
theorem aw_drawP [T : TyTab P] {id : Nat} {l : List Oper} (pl : List (Nat × K)) {F : Fr} {H : List AObj} (hp : pl.all (fun x => Nat.blt x.1 l.length) = true) (hc : drawOk l (plan l pl) = true)
    (h : AWD P G l.toArray (fun F H => Q .normal F H) (plan l pl) F H) : AW P G (.region id l.toArray true) Q F H :=
  aw_drawL (plan_ops hp) hc h

section
variable {R : Fr → List AObj → Prop} {i : Nat} {l : List (Nat × Oper × K)}
theorem awd_nil {F : Fr} {H : List AObj} (h : R F H) : AWD P G ops R [] F H := h
theorem awd_d {F : Fr} {H H' : List AObj} {d : Tmp} {o : Op} {ty : TypeId} {pos : String} {aft : Array Edge} {g : Option (Nat × Bool)} {v : AVal} {k : K}
    (hd : Nat.blt d G.n = true) (hg : guardA ops F ⟨some d, o, ty, pos, aft, g⟩ = some true) (h : DSem P k ⟨some d, o, ty, pos, aft, g⟩ F H v H') (next : AWD P G ops R l ((d, v) :: F) H') :
    AWD P G ops R ((i, ⟨some d, o, ty, pos, aft, g⟩, k) :: l) F H :=
  ⟨fun t ht => by injection ht with ht; subst ht; simpa [Nat.blt_eq] using hd, v, H', .inl ⟨hg, h⟩, next⟩
theorem awd_dn {F : Fr} {H H' : List AObj} {o : Op} {ty : TypeId} {pos : String} {aft : Array Edge} {g : Option (Nat × Bool)} {v : AVal} {k : K}
    (hg : guardA ops F ⟨none, o, ty, pos, aft, g⟩ = some true) (h : DSem P k ⟨none, o, ty, pos, aft, g⟩ F H v H') (next : AWD P G ops R l F H') :
    AWD P G ops R ((i, ⟨none, o, ty, pos, aft, g⟩, k) :: l) F H :=
  ⟨(fun t ht => by cases ht), v, H', .inl ⟨hg, h⟩, next⟩
theorem awd_p [T : TyTab P] {F : Fr} {H : List AObj} {d : Tmp} {o : Op} {ty : TypeId} {pos : String} {aft : Array Edge} {g : Option (Nat × Bool)} {v : AVal}
    (h : readP T.tab o F = some v) (hg : guardA ops F ⟨some d, o, ty, pos, aft, g⟩ = some true) (hd : Nat.blt d G.n = true) (next : AWD P G ops R l ((d, v) :: F) H) :
    AWD P G ops R ((i, ⟨some d, o, ty, pos, aft, g⟩, .p) :: l) F H := awd_d hd hg (readP_dsem h) next
theorem DSem.weak {o : Oper} {F : Fr} {H : List AObj} {v : AVal} (h : DSem P .p o F H v H) : DSem P .r o F H v H := ⟨rfl, fun H' _ => h.2 H'⟩
theorem awd_load [T : TyTab P] {F : Fr} {H : List AObj} {d : Tmp} {o : Op} {ty : TypeId} {pos : String} {aft : Array Edge} {g : Option (Nat × Bool)} {v : AVal}
    (h : loadB T.tab o F H = some v) (hg : guardA ops F ⟨some d, o, ty, pos, aft, g⟩ = some true) (hd : Nat.blt d G.n = true) (next : AWD P G ops R l ((d, v) :: F) H) :
    AWD P G ops R ((i, ⟨some d, o, ty, pos, aft, g⟩, .r) :: l) F H := awd_d hd hg (loadB_dsem h) next
/-- a load of what nobody changes -/
theorem awd_loadp [T : TyTab P] {F : Fr} {H : List AObj} {d : Tmp} {o : Op} {ty : TypeId} {pos : String} {aft : Array Edge} {g : Option (Nat × Bool)} {v : AVal}
    (h : readP T.tab o F = some v) (hg : guardA ops F ⟨some d, o, ty, pos, aft, g⟩ = some true) (hd : Nat.blt d G.n = true) (next : AWD P G ops R l ((d, v) :: F) H) :
    AWD P G ops R ((i, ⟨some d, o, ty, pos, aft, g⟩, .r) :: l) F H := awd_d hd hg (readP_dsem h).weak next
theorem awd_alloc [T : TyTab P] {F : Fr} {H : List AObj} {d : Tmp} {o : Op} {ty : TypeId} {pos : String} {aft : Array Edge} {g : Option (Nat × Bool)} {a : AObj} {n : Nat}
    (h : allocB T.tab o F = some a) (hn : H.length = n) (hg : guardA ops F ⟨some d, o, ty, pos, aft, g⟩ = some true) (hd : Nat.blt d G.n = true) (next : AWD P G ops R l ((d, .ptr n 0) :: F) (H ++ [a])) :
    AWD P G ops R ((i, ⟨some d, o, ty, pos, aft, g⟩, .x) :: l) F H := by subst hn; exact awd_d hd hg (allocB_dsem h) next
theorem awd_build [T : TyTab P] {F : Fr} {H : List AObj} {d : Tmp} {o : Op} {ty : TypeId} {pos : String} {aft : Array Edge} {g : Option (Nat × Bool)} {v : AVal}
    (h : buildB T.tab o F = some v) (hg : guardA ops F ⟨some d, o, ty, pos, aft, g⟩ = some true) (hd : Nat.blt d G.n = true) (next : AWD P G ops R l ((d, v) :: F) H) :
    AWD P G ops R ((i, ⟨some d, o, ty, pos, aft, g⟩, .p) :: l) F H := awd_d hd hg (buildB_dsem h) next
theorem awd_store [T : TyTab P] {F : Fr} {H H' : List AObj} {o : Op} {ty : TypeId} {pos : String} {aft : Array Edge} {g : Option (Nat × Bool)}
    (h : storeB T.tab o F H = some H') (hg : guardA ops F ⟨none, o, ty, pos, aft, g⟩ = some true) (next : AWD P G ops R l F H') :
    AWD P G ops R ((i, ⟨none, o, ty, pos, aft, g⟩, .m) :: l) F H := awd_dn (v := .tup []) hg (storeB_sem h) next
theorem awd_skip {F : Fr} {H : List AObj} {d : Tmp} {o : Op} {ty : TypeId} {pos : String} {aft : Array Edge} {g : Option (Nat × Bool)} {k : K}
    (hg : guardA ops F ⟨some d, o, ty, pos, aft, g⟩ = some false) (hd : Nat.blt d G.n = true) (next : AWD P G ops R l ((d, .tup []) :: F) H) :
    AWD P G ops R ((i, ⟨some d, o, ty, pos, aft, g⟩, k) :: l) F H :=
  ⟨fun t ht => by injection ht with ht; subst ht; simpa [Nat.blt_eq] using hd, .tup [], H, .inr ⟨hg, rfl, rfl⟩, next⟩
end

/-- the end of a body -/
theorem bodyQ_ret {tab : List TyRow} {rs : List ResultVar} {n : Nat} {E : Eff} {F : Fr} {H H' : List AObj} {r r' : AVal} (ks : List Nat) (wk : Bool) (h1 : resA tab rs F H = some r) (h2 : keepOk n ks = true) (h3 : finish n ks wk H r = some (r', H'))
    (h4 : E (.ret r') H') : BodyQ tab rs n E .ret F H := ⟨r, r', H', ks, wk, h1, h2, h3, h4⟩
theorem bodyQ_end {tab : List TyRow} {rs : List ResultVar} {n : Nat} {E : Eff} {F : Fr} {H H' : List AObj} {r r' : AVal} (ks : List Nat) (wk : Bool) (h1 : resA tab rs F H = some r) (h2 : keepOk n ks = true) (h3 : finish n ks wk H r = some (r', H'))
    (h4 : E (.ret r') H') : BodyQ tab rs n E .normal F H := ⟨r, r', H', ks, wk, h1, h2, h3, h4⟩
theorem one_ok {v v' : AVal} {H H' : List AObj} (hv : v' = v) (hH : H' = H) : one v H (.ret v') H' := ⟨by rw [hv], hH⟩

/-- an element of a slice that a list tells -/
theorem index_map [T : TyTab P] {dst : Option Tmp} {t : TypeId} {x i : Operand} {type : TypeId} {pos : String} {after : Array Edge} {guard : Option (Nat × Bool)} {F : Fr} {H : List AObj} {a : AVal} {α : Type} {enc : α → AVal} {l : List α} {y : α} {k : IntKind} {n : Int} {e : TypeId} {r r' : TyRow}
    (hx : ev F x = some a) (ha : xsOf a = some (l.map enc)) (hi : ev F i = some (.v (.int k n))) (ht : tfind T.tab t = some r') (hd : r'.d = .slice e) (he : tfind T.tab e = some r) (h0 : 0 ≤ n) (hy : l[n.toNat]? = some y)
    (hl : (enc y).cells.length = r.size) (hf : (enc y).flat = true) : DSem P .p ⟨dst, .indexAddr t x i, type, pos, after, guard⟩ F H (.pp (enc y).cells 0) H :=
  index_sl hx ha hi ht hd he hl hf h0 (by rw [List.getElem?_map, hy]; rfl)
theorem wrap_id {n : Int} (h1 : -9223372036854775808 ≤ n) (h2 : n ≤ 9223372036854775807) : IntKind.i64.wrap n = n := by
  rw [IntKind.wrap_i64]; omega
end
end Go.AL
