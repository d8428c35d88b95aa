/-
  The logic of walks, part 9. A slice of one byte turned to a text. No conditions.
-/
import Derived.Test.YtaoiflliakjhdaaDoorL8
import Derived.Test.YtaoiflliakjhdaaDoorL2
import Derived.Laws.IdiomStrings
set_option linter.unusedVariables false
namespace Go.AL
open Go

theorem conv_byte {P : Program} [T : TyTab P] {dst : Option Tmp} {s d : TypeId} {x : Operand} {type : TypeId} {pos : String} {after : Array Edge} {guard : Option (Nat × Bool)} {F : Fr} {H : List AObj} {a : AVal} {xs : List AVal} {e : TypeId} {rs re rd : TyRow} (c : UInt8)
    (hx : ev F x = some a) (ha : xsOf a = some xs) (hxs : xs = [encB c]) (hs : tfind T.tab s = some rs) (hds : rs.d = .slice e) (he : tfind T.tab e = some re) (hde : re.d = .int .u8) (hd : tfind T.tab d = some rd) (hdd : rd.d = .string) :
    DSem P .p ⟨dst, .convert s d x, type, pos, after, guard⟩ F H (.v (.string ⟨[c].toArray⟩)) H := by
  subst hxs
  refine ⟨rfl, fun H' => ?_⟩
  intro ext w β ρ hI hext hκ hρ
  obtain ⟨A, m, es, hu, hm, _, hA, hr⟩ := sl_open ha (hρ x (by simp [Op.operands]) _ hx)
  obtain ⟨b, o, rfl, hb, hsz⟩ := hA (by simp)
  obtain ⟨⟨v, h1, h2, h3⟩, _⟩ := hr
  have hv : v = .int .u8 c.toNat := h1
  subst hv
  have hes : es = 1 := by
    have : (Value.int IntKind.u8 (c.toNat : Int)).cells.size = 1 := rfl
    omega
  subst hes
  have hcell : w.cell? ⟨b, o, none⟩ = some (.int .u8 c.toNat) := by
    have := h3 0 (by omega)
    simpa [rdA, Value.cells] using this
  have h := run_convert_bytes_back (P := P) w s d e ⟨b, o, none⟩ m [c] (by rw [ty_und hs, hds]) (by rw [ty_und he, hde]) (by rw [ty_und hd, hdd]) (fun j hj => by
    have hj0 : j = 0 := by simpa using hj
    subst hj0
    rw [addr_add]
    simpa using hcell)
  have h4 : (execOp ρ ⟨dst, .convert s d x, type, pos, after, guard⟩).run P w = .ok (.value (.string ⟨[c].toArray⟩)) w := by
    simp only [execOp, Sem.run_bind, hu]
    have h' : (convert s d (.slice (some ⟨b, o, none⟩) 1 m)).run P w = .ok (.string ⟨[c].toArray⟩) w := h
    simp only [List.length_cons, List.length_nil, Nat.zero_add, h', Result.andThen_ok, Sem.run_pure]
  rw [h4]
  exact came_same hI rfl
end Go.AL
