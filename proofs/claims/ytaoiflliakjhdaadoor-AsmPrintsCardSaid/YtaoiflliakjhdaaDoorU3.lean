/-
  The library's iterator over the lines of a text. No conditions.
-/
import Derived.Test.YtaoiflliakjhdaaDoorU2
set_option linter.unusedVariables false
set_option linter.unusedSimpArgs false
set_option maxRecDepth 100000
namespace Go.AL
open Go Go.Proofs
attribute [local irreducible] J

theorem scut_take (s : Bs) (n : Nat) : AVal.v (.string ((⟨s.toArray⟩ : ByteArray).extract 0 n)) = sv (s.take n) := by
  unfold sv S
  congr 2
  apply ByteArray.ext
  apply Array.ext'
  simp [ByteArray.data_extract]
theorem scut_drop (s : Bs) (n : Nat) : AVal.v (.string ((⟨s.toArray⟩ : ByteArray).extract n (⟨s.toArray⟩ : ByteArray).size)) = sv (s.drop n) := by
  unfold sv S
  congr 2
  apply ByteArray.ext
  apply Array.ext'
  simp [ByteArray.data_extract, ByteArray.size]
  exact List.take_of_length_le (by simp)

section
variable {P : Program} [T : TyTab P] {F : Fr} {H : List AObj} {dst : Option Tmp} {t : TypeId} {x o : Operand} {type : TypeId} {pos : String} {after : Array Edge} {guard : Option (Nat × Bool)} {s : Bs} {n : Int} {r' : TyRow}
theorem cutH (m : Nat) (hx : ev F x = some (sv s)) (ho : ev F o = some (.v (.int .i64 n))) (ht : tfind T.tab t = some r') (hd : r'.d = .string) (hn : n = m) (hm : m ≤ s.length) :
    DSem P .p ⟨dst, .slice t x none (some o) none, type, pos, after, guard⟩ F H (sv (s.take m)) H := by
  have := cut_str (P := P) (dst := dst) (type := type) (pos := pos) (after := after) (guard := guard) (H := H) (lo := none) (hi := some o) (l := 0) (h := n) hx rfl ⟨.i64, ho⟩ ht hd (by omega) (by omega) (by simp [ByteArray.size]; omega)
  rw [← scut_take, hn] at *
  simpa using this
theorem cutL (m : Nat) (hx : ev F x = some (sv s)) (ho : ev F o = some (.v (.int .i64 n))) (ht : tfind T.tab t = some r') (hd : r'.d = .string) (hn : n = m) (hm : m ≤ s.length) :
    DSem P .p ⟨dst, .slice t x (some o) none none, type, pos, after, guard⟩ F H (sv (s.drop m)) H := by
  have := cut_str (P := P) (dst := dst) (type := type) (pos := pos) (after := after) (guard := guard) (H := H) (lo := some o) (hi := none) (l := n) (h := (s.length : Int)) hx ⟨.i64, ho⟩ (by simp [ByteArray.size]) ht hd (by omega) (by omega) (by simp [ByteArray.size])
  rw [← scut_drop, hn] at *
  simpa [ByteArray.size] using this
theorem store_box {a x : Operand} {j off : Nat} {bt : TypeId} {cs cs' : List AVal} {v : AVal}
    (ha : ev F a = some (.ptr j off)) (hx : ev F x = some v) (hH : H[j]? = some (.box bt cs)) (ht : tfind T.tab t = some r') (hl : v.cells.length = r'.size) (hf : v.flat = true) (hin : off + r'.size ≤ cs.length) (hs : spliceA cs off v.cells = cs') :
    DSem P .m ⟨dst, .store t a x, type, pos, after, guard⟩ F H (.tup []) (H.set j (.box bt cs')) := by
  subst hs
  exact store_sem ha hx hH ht hl hf hin
end

/-- what an iterator over strings does, with what it keeps for itself in the box jb -/
theorem lines1_ok (l jb : Nat) (s : Bs) (hs : s.length ≤ 1000000) (A : Nat → List AObj) (ok : Nat → Prop) (h0 : ok 0) (Z : List AObj → Prop) (hA : ∀ k, k ≤ (chunks s).length → (A k)[jb]? = some (.box 9 [sv (restAt s k)]))
    (hY : ∀ (k : Nat) (hk : k < (chunks s).length), ok k → AYield Tryd.prog l [sv (chunks s)[k]] ((A k).set jb (.box 9 [sv (restAt s (k + 1))])) (fun r H' => (r = .ret (bv true) ∧ H' = A (k + 1) ∧ ok (k + 1)) ∨ (r = .ret (bv false) ∧ Z H'))) :
    ACalls Tryd.prog 53 [.fn (.yield l) [] [], .ptr jb 0] (A 0) (fun r H' => r = .ret (.tup []) ∧ ((H' = A (chunks s).length ∧ ok (chunks s).length) ∨ Z H')) := by
  refine jcalls0 Tryd.func53 rfl (by kernel_rfl) Tryd.ntmps53 rfl rfl (fun w0 β0 ext hβ => ?_)
  refine js rfl ?_
  refine jloopI (fun k => k ≤ (chunks s).length ∧ ok k) [0, 1] (fun _ => [.fn (.yield l) [] [], .ptr jb 0]) A (fun k => (chunks s).length - k) 0 ⟨Nat.zero_le _, h0⟩ rfl rfl (fun k hk => ?_)
  obtain ⟨hk, hok⟩ := hk
  have hb := hA k hk
  have hlen := rest_len s k
  by_cases hend : k = (chunks s).length
  · have he : restAt s k = [] := by rw [hend]; exact rest_end s
    rw [he] at hb
    repeat (first | refine js rfl ?_ | (refine jdraw ?_ ?_; · kernel_rfl) | refine jbu rfl rfl rfl rfl ?_ | refine jo rfl rfl (load_dsem (r := ty9) rfl hb rfl rfl) rfl rfl ?_)
    refine jend0 rfl ⟨rfl, .inl ⟨by rw [hend], by rw [← hend]; exact hok⟩⟩
  · have hk' : k < (chunks s).length := by omega
    obtain ⟨hne, hck⟩ := rest_lt hk'
    have hy := hY k hk' hok
    rw [hck] at hy
    have hidx := indexByte_ok (restAt s k) 10
    have hge := Lib.indexByte_ge (restAt s k) 10
    have hlt := indexByte_lt (restAt s k) 10
    have hnext : restAt s (k + 1) = lnTail (restAt s k) := rfl
    rw [hnext] at hy
    unfold lnHead lnTail at hy
    generalize restAt s k = r at *
    generalize Lib.indexByte r 10 = n at *
    have h0 : 0 < r.length := by cases r with | nil => exact absurd rfl hne | cons => simp
    unfold iv sv at hidx
    repeat (first | refine js rfl ?_ | (refine jdraw ?_ ?_; · kernel_rfl) | refine jbu rfl rfl rfl rfl ?_ | refine jo rfl rfl (load_dsem (r := ty9) rfl hb rfl rfl) rfl rfl ?_)
    refine jc rfl rfl rfl (fun h => ?_) (fun h => (by exfalso; have h' := of_decide_eq_false h; rw [show ByteArray.size ⟨r.toArray⟩ = r.length from rfl] at h'; omega))
    repeat (first | refine js rfl ?_ | (refine jdraw ?_ ?_; · kernel_rfl) | refine jbu rfl rfl rfl rfl ?_ | refine jo rfl rfl (load_dsem (r := ty9) rfl hb rfl rfl) rfl rfl ?_ | refine jv hidx rfl rfl rfl rfl rfl ?_)
    refine jc rfl rfl rfl (fun h1 => ?_) (fun h1 => ?_)
    · have h1 := of_decide_eq_true h1
      rw [if_pos h1, if_pos h1] at hy
      have hw : IntKind.i64.wrap (n + 1) = ((n.toNat + 1 : Nat) : Int) := by rw [wrap_id (by omega) (by omega)]; omega
      repeat (first | refine js rfl ?_ | (refine jdraw ?_ ?_; · kernel_rfl) | refine jbu rfl rfl rfl rfl ?_ | refine jo rfl rfl (load_dsem (r := ty9) rfl hb rfl rfl) rfl rfl ?_ | refine jo rfl rfl (cutH (n.toNat + 1) rfl rfl rfl rfl hw (by omega)) rfl rfl ?_ | refine jo rfl rfl (cutL (n.toNat + 1) rfl rfl rfl rfl hw (by omega)) rfl rfl ?_ | refine jo rfl rfl (store_box (r' := ty9) rfl rfl hb rfl rfl rfl (Nat.le_refl 1) rfl) rfl rfl ?_)
      refine jy hy rfl rfl rfl rfl (fun r' H' hres => ?_)
      rcases hres with ⟨rfl, rfl, hok2⟩ | ⟨rfl, hz⟩
      · refine ⟨_, rfl, ?_⟩
        repeat (first | refine js rfl ?_ | (refine jdraw ?_ ?_; · kernel_rfl) | refine jbu rfl rfl rfl rfl ?_)
        exact jnextI (k + 1) ⟨by omega, hok2⟩ rfl rfl (by omega)
      · refine ⟨_, rfl, ?_⟩
        repeat (first | refine js rfl ?_ | (refine jdraw ?_ ?_; · kernel_rfl) | refine jbu rfl rfl rfl rfl ?_)
        exact jret0 rfl ⟨rfl, .inr hz⟩
    · have h1 := of_decide_eq_false h1
      rw [if_neg h1, if_neg h1] at hy
      repeat (first | refine js rfl ?_ | (refine jdraw ?_ ?_; · kernel_rfl) | refine jbu rfl rfl rfl rfl ?_ | refine jo rfl rfl (load_dsem (r := ty9) rfl hb rfl rfl) rfl rfl ?_ | refine jo rfl rfl (store_box (r' := ty9) rfl rfl hb rfl rfl rfl (Nat.le_refl 1) rfl) rfl rfl ?_)
      refine jy hy rfl rfl rfl rfl (fun r' H' hres => ?_)
      rcases hres with ⟨rfl, rfl, hok2⟩ | ⟨rfl, hz⟩
      · refine ⟨_, rfl, ?_⟩
        repeat (first | refine js rfl ?_ | (refine jdraw ?_ ?_; · kernel_rfl) | refine jbu rfl rfl rfl rfl ?_)
        exact jnextI (k + 1) ⟨by omega, hok2⟩ rfl rfl (by omega)
      · refine ⟨_, rfl, ?_⟩
        repeat (first | refine js rfl ?_ | (refine jdraw ?_ ?_; · kernel_rfl) | refine jbu rfl rfl rfl rfl ?_)
        exact jret0 rfl ⟨rfl, .inr hz⟩
end Go.AL
