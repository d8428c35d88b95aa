/-
  asm.Print of any code, and the law AsmBack: the walks. No conditions.
-/
import Derived.Test.YtaoiflliakjhdaaDoorW9
set_option linter.unusedVariables false
set_option linter.unusedSimpArgs false
set_option maxRecDepth 100000
namespace Go.AL
open Go Go.Proofs
attribute [local irreducible] J

theorem alloc_bld {dst : Option Tmp} {type : TypeId} {pos : String} {after : Array Edge} {guard : Option (Nat × Bool)} {F : Fr} {H H' : List AObj} {n : Nat} (hn : lenH H = some n) (hH : nrmH (H ++ [.box 65 [.v (.pointer none), .v (.slice none 0 0)]]) = some H') :
    DSem Tryd.prog .x ⟨dst, .alloc 65, type, pos, after, guard⟩ F H (.ptr n 0) H' := by
  have h := alloc_v (t := 65) (dst := dst) (type := type) (pos := pos) (after := after) (guard := guard) (F := F) (H := H) (r := ty65) rfl rfl
  rw [lenH_eq hn, nrmH_eq hH]
  exact h
theorem str_nil : ACalls Tryd.prog 38 [.ptr 0 0] [.box 65 [.v (.pointer none), .v (.slice none 0 0)]] (one (sv []) [.box 65 [.v (.pointer none), .v (.slice none 0 0)]]) := by
  refine ⟨⟨_, Tryd.func38, by kernel_rfl, by kernel_rfl⟩, fun ext w β us hI hx hr => ?_⟩
  obtain ⟨x, us', rfl, r0, rfl⟩ := hr
  obtain ⟨e, b, vs, he, hb, rfl, hc, hrl, hone, hg0⟩ := box_of hI (j := 0) rfl r0
  obtain ⟨p, vs1, hvs, rp, s, vs2, rfl, rs, rfl⟩ := hrl
  have hp : p = .pointer none := rp
  have hs : s = .slice none 0 0 := rs
  subst hp; subst hs
  obtain rfl := two_cells hvs
  refine (Any.Builder_String_nil Tryd.lays169 Tryd.Builder_Extra_169 w.heap.size b (.pointer none) w hc).mono fun en w' ⟨h1, h2⟩ => ?_
  subst h1
  exact ⟨_, _, β, ⟨rfl, rfl⟩, rfl, below_inv hI h2, below_step h2 β fun b hb => (hI.sep b hb).2⟩
theorem label_nil (m : Mn) (n : Int) (h0 : decide (cntN m n > 0) = false) :
    ACalls Tryd.prog 33 [iv n, .ptr 1 0, .ptr 2 0] [.vmap (encN m), .box 56 [.mp 0], .box 65 [.v (.pointer none), .v (.slice none 0 0)]]
      (one (.tup []) [.vmap (encN m), .box 56 [.mp 0], .box 65 [.v (.pointer none), .v (.slice none 0 0)]]) := by
  have hf := encN_find m n
  have hks := encN_keys m
  have hval := cntN_val m n
  generalize cntN m n = cv at *
  refine jcalls Tryd.func33 rfl (by kernel_rfl) Tryd.ntmps33 rfl rfl (fun w0 β0 ext hβ => ?_)
  repeat (first | refine js rfl ?_ | (refine jdraw ?_ ?_; · kernel_rfl) | refine jbu rfl rfl rfl rfl ?_ | refine jo rfl rfl (map_get rfl rfl rfl rfl rfl rfl rfl rfl rfl rfl hks hf hval) rfl rfl ?_)
  rw [h0]
  repeat (first | refine js rfl ?_ | (refine jdraw ?_ ?_; · kernel_rfl) | refine jbu rfl rfl rfl rfl ?_)
  exact jn rfl rfl rfl rfl
theorem print_nil (g : Gl) : ACalls Tryd.prog 16 [.sl []] (gls g) (one (.tup [sv [], iv 0]) (gls g)) := by
  have hri := right_ok [] (by decide)
  have htg := targets_ok [] (by decide) (fun i h => by cases h)
  have hop := operations_ok
  have hlb := label_nil (tgt []) 0 rfl
  have hst := str_nil
  rw [show rightC [] = true from rfl] at hri
  unfold encIs at *
  simp only [List.map_nil] at *
  generalize tgt [] = m at *
  refine jcalls Tryd.func16 rfl (by kernel_rfl) Tryd.ntmps16 rfl rfl (fun w0 β0 ext hβ => ?_)
  repeat (first | refine js rfl ?_ | (refine jdraw ?_ ?_; · kernel_rfl) | refine jbu rfl rfl rfl rfl ?_ | refine jv hri rfl rfl rfl rfl rfl ?_)
  refine jb [] htg rfl rfl rfl ⟨rfl, rfl, rfl, rfl, rfl, rfl⟩ rfl rfl rfl rfl ?_
  repeat (first | refine jo rfl rfl (alloc_bld rfl rfl) rfl rfl ?_ | refine js rfl ?_ | (refine jdraw ?_ ?_; · kernel_rfl) | refine jbu rfl rfl rfl rfl ?_ | refine jv hop rfl rfl rfl rfl rfl ?_)
  refine jloopI (fun _ : Unit => True) [7, 5, 6, 19, 20, 21, 0] (fun _ => [.fn (.func 33) [] [.ptr 5 0, .ptr 7 0], .ptr 6 0, .ptr 7 0, .sl [], iv 0, iv 0, .sl []])
    (fun _ => gls g ++ [.vmap (encN m), .box 56 [.mp 4], .box 60 opsC, .box 65 [.v (.pointer none), .v (.slice none 0 0)]]) (fun _ => 0) () trivial rfl rfl (fun _ _ => ?_)
  repeat (first | refine js rfl ?_ | (refine jdraw ?_ ?_; · kernel_rfl) | refine jbu rfl rfl rfl rfl ?_)
  refine jb [4,5,7] hlb rfl rfl rfl ⟨rfl, rfl, rfl, rfl, rfl, rfl⟩ rfl rfl rfl rfl ?_
  repeat (first | refine js rfl ?_ | (refine jdraw ?_ ?_; · kernel_rfl) | refine jbu rfl rfl rfl rfl ?_)
  refine jb [7] hst rfl rfl rfl ⟨rfl, rfl, rfl, rfl, rfl, rfl⟩ rfl rfl rfl rfl ?_
  repeat (first | refine js rfl ?_ | (refine jdraw ?_ ?_; · kernel_rfl) | refine jbu rfl rfl rfl rfl ?_)
  exact jr rfl rfl rfl rfl
theorem print_bad (g : Gl) (l : List Ins) (hl : l.length ≤ 1000000) (hr : rightC l = false) : ACalls Tryd.prog 16 [encIs l] (gls g) (one (.tup [sv [], iv 1]) (gls g)) := by
  have hri := right_ok l hl
  rw [hr] at hri
  refine jcalls Tryd.func16 rfl (by kernel_rfl) Tryd.ntmps16 rfl rfl (fun w0 β0 ext hβ => ?_)
  repeat (first | refine js rfl ?_ | (refine jdraw ?_ ?_; · kernel_rfl) | refine jbu rfl rfl rfl rfl ?_ | refine jv hri rfl rfl rfl rfl rfl ?_)
  exact jr rfl rfl rfl rfl
def printP (l : List Ins) : Bs × Int := cond (rightC l) (rprint l, 0) ([], 1)
theorem print_ok (g : Gl) (l : List Ins) (hl : l.length ≤ 1000000) : ACalls Tryd.prog 16 [encIs l] (gls g) (one (.tup [sv (printP l).1, iv (printP l).2]) (gls g)) := by
  unfold printP
  cases hr : rightC l with
  | false => exact print_bad g l hl hr
  | true =>
    by_cases hne : l = []
    · subst hne
      exact print_nil g
    · exact print_some g l hr hne
theorem code_ok (l : List Ins) (hl : l.length ≤ 9223372036854775807) : ACalls Tryd.prog 15 [encIs l] [] (one (encIs (l.take 200)) []) := by
  have hm : (if (200 : Int) < ((l.map encIns).length : Int) then (200 : Int) else ((l.map encIns).length : Int)) = ((min l.length 200 : Nat) : Int) := by
    rw [List.length_map]; split <;> omega
  unfold encIs
  refine jcalls Tryd.func15 rfl (by kernel_rfl) Tryd.ntmps15 rfl rfl (fun w0 β0 ext hβ => ?_)
  repeat (first | refine js rfl ?_ | (refine jdraw ?_ ?_; · kernel_rfl) | refine jbu rfl rfl rfl rfl ?_)
  rw [hm]
  refine jo rfl rfl (cut_take 200 rfl rfl rfl rfl rfl rfl rfl (fun _ => ⟨rfl, rfl⟩)) rfl rfl ?_
  repeat (first | refine js rfl ?_ | (refine jdraw ?_ ?_; · kernel_rfl) | refine jbu rfl rfl rfl rfl ?_)
  exact jr rfl rfl rfl rfl
theorem back_ok (g : Gl) (l : List Ins) (hl : l.length ≤ 9223372036854775807) : ACalls Tryd.prog 7 [encIs l] (gls g) (one (bv true) (gls g)) := by
  have h1 := code_ok l hl
  have hl2 : (l.take 200).length ≤ 200 := by rw [List.length_take]; omega
  generalize l.take 200 = c at *
  have h2 := print_ok g c (by omega)
  have h4 := alive_ok g
  have h5 := same_ok c (by omega)
  unfold printP at h2
  cases hr : rightC c with
  | false =>
    rw [hr] at h2
    simp only [cond_false] at h2
    refine jcalls Tryd.func7 rfl (by kernel_rfl) Tryd.ntmps7 rfl rfl (fun w0 β0 ext hβ => ?_)
    repeat (first | refine js rfl ?_ | (refine jdraw ?_ ?_; · kernel_rfl) | refine jbu rfl rfl rfl rfl ?_ | refine jv h1 rfl rfl rfl rfl rfl ?_)
    refine jb [0,1,2,3] h2 rfl rfl rfl ⟨rfl, rfl, rfl, rfl, rfl, rfl⟩ rfl rfl rfl rfl ?_
    repeat (first | refine js rfl ?_ | (refine jdraw ?_ ?_; · kernel_rfl) | refine jbu rfl rfl rfl rfl ?_)
    refine jb [0,1,2,3] h4 rfl rfl rfl ⟨rfl, rfl, rfl, rfl, rfl, rfl⟩ rfl rfl rfl rfl ?_
    repeat (first | refine js rfl ?_ | (refine jdraw ?_ ?_; · kernel_rfl) | refine jbu rfl rfl rfl rfl ?_)
    rw [beq_self_eq_true]
    repeat (first | refine js rfl ?_ | (refine jdraw ?_ ?_; · kernel_rfl) | refine jbu rfl rfl rfl rfl ?_)
    exact jr rfl rfl rfl rfl
  | true =>
    rw [hr] at h2
    simp only [cond_true] at h2
    have hr2 : c.all (mayI c.length) = true := by unfold rightC at hr; simp at hr; simpa using hr.2
    have hbk := back_eq (l := c) (by omega) hr2
    have hlen : (rprint c).length ≤ 1000000 := by
      have h1 := pls_chars (l := c) (by omega) hr2 c.length (Nat.le_refl _)
      have h2 := labB_len (isT c c.length) (c.length : Int) ⟨by omega, by omega⟩
      rw [rprint_txt, List.length_append]
      unfold txt; omega
    have h3 := parse_ok g (rprint c) hlen
    rw [parse_eq, hbk] at h3
    simp only at h3
    generalize rprint c = s at *
    refine jcalls Tryd.func7 rfl (by kernel_rfl) Tryd.ntmps7 rfl rfl (fun w0 β0 ext hβ => ?_)
    repeat (first | refine js rfl ?_ | (refine jdraw ?_ ?_; · kernel_rfl) | refine jbu rfl rfl rfl rfl ?_ | refine jv h1 rfl rfl rfl rfl rfl ?_)
    refine jb [0,1,2,3] h2 rfl rfl rfl ⟨rfl, rfl, rfl, rfl, rfl, rfl⟩ rfl rfl rfl rfl ?_
    repeat (first | refine js rfl ?_ | (refine jdraw ?_ ?_; · kernel_rfl) | refine jbu rfl rfl rfl rfl ?_)
    refine jb [0,1,2,3] h3 rfl rfl rfl ⟨rfl, rfl, rfl, rfl, rfl, rfl⟩ rfl rfl rfl rfl ?_
    repeat (first | refine js rfl ?_ | (refine jdraw ?_ ?_; · kernel_rfl) | refine jbu rfl rfl rfl rfl ?_)
    refine jb [0,1,2,3] h4 rfl rfl rfl ⟨rfl, rfl, rfl, rfl, rfl, rfl⟩ rfl rfl rfl rfl ?_
    repeat (first | refine js rfl ?_ | (refine jdraw ?_ ?_; · kernel_rfl) | refine jbu rfl rfl rfl rfl ?_ | refine jv h5 rfl rfl rfl rfl rfl ?_)
    exact jr rfl rfl rfl rfl
end Go.AL
