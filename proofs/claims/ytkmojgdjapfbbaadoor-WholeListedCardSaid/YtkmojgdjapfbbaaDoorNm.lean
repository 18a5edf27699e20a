/- name.Right, tree.names. -/
import Derived.Test.YtkmojgdjapfbbaaDoorZe
import Derived.Test.YtkmojgdjapfbbaaDoorBd
import Derived.Lib.IndexAny
namespace Go.Proofs.YtkmojgdjapfbbaaDoor
open Go.RowKit Go.Maps
set_option linter.unusedSimpArgs false
set_option linter.unusedVariables false

def hasBad (s : ByteArray) : Bool := Lib.containsAny s.data.toList [47, 0]
def NameC (s : ByteArray) : Prop := ∀ w, Calls Tryd.prog 110 #[.string s, .string ⟨#[47, 0]⟩] w (RetB (.bool (hasBad s)) w)
/-- May an entry be called so? -/
def nameOk (s : ByteArray) : Bool := !(decide (s.toList = [])) && !(decide (s.toList = [46])) && !(decide (s.toList = [46, 46])) && decide (s.size ≤ 64) && !(hasBad s)
set_option maxHeartbeats 1000000 in
theorem name_calls (s : ByteArray) (hs : NameC s) (w : World) (hl : s.size ≤ 1000000000) : Calls Tryd.prog 103 #[.string s] w (RetB (.bool (nameOk s)) w) := by
  have H := Av.mk hs
  clear hs
  by_cases h0 : s.toList = []
  · have HR := Av.mk (show nameOk s = false by simp [nameOk, h0])
    go_enter Tryd.func103, Tryd.ntmps103
    go_wp2_with fail
    go_ret
    exact ⟨retb HR.out, Below.refl _ _⟩
  by_cases h1 : s.toList = [46]
  · have HR := Av.mk (show nameOk s = false by simp [nameOk, h1])
    go_enter Tryd.func103, Tryd.ntmps103
    go_wp2_with fail
    go_ret
    exact ⟨retb HR.out, Below.refl _ _⟩
  by_cases h2 : s.toList = [46, 46]
  · have HR := Av.mk (show nameOk s = false by simp [nameOk, h2])
    go_enter Tryd.func103, Tryd.ntmps103
    go_wp2_with fail
    go_ret
    exact ⟨retb HR.out, Below.refl _ _⟩
  by_cases h3 : s.size ≤ 64
  · have HR := Av.mk (show nameOk s = !(hasBad s) by simp [nameOk, h0, h1, h2, h3])
    obtain ⟨bb, hbb⟩ : ∃ bb, hasBad s = bb := ⟨_, rfl⟩
    have H2 := Av.mk (H.out w)
    rw [hbb] at H2 HR
    clear hbb H
    go_enter Tryd.func103, Tryd.ntmps103
    go_wp2_with fail
    refine H2.out.mono ?_
    rintro e w1 ⟨rfl, hb⟩
    have HB := Av.mk hb
    clear hb
    go_wp2_with fail
    go_ret
    exact ⟨retb (by rw [HR.out]; simp [h0, h1, h2]), HB.out⟩
  · have HR := Av.mk (show nameOk s = false by simp [nameOk, h3])
    go_enter Tryd.func103, Tryd.ntmps103
    go_wp2_with fail
    go_ret
    exact ⟨retb HR.out, Below.refl _ _⟩
/-- A name of ASCII bytes. -/
theorem nameC_ascii (s : ByteArray) (hs : s.size < 4294967281) (h : ∀ (j : Nat) b, s.data.toList[j]? = some b → b.toNat < 128) : NameC s := fun w =>
  (Tryd.strings_ContainsAny_laid s ⟨#[47, 0]⟩ w hs (by decide) h (by
    intro j b hj
    match j with
    | 0 => simp at hj; subst hj; decide
    | 1 => simp at hj; subst hj; decide
    | j + 2 => simp at hj)).mono fun e w' hh => hh
/-- A name of more than eight bytes. -/
theorem zero189 : ∀ w, (zeroValue 189).run Tryd.prog w = .ok (.agg (Array.replicate 256 (.bool false))) w := by
  intro w
  kernel_rfl
end Go.Proofs.YtkmojgdjapfbbaaDoor
