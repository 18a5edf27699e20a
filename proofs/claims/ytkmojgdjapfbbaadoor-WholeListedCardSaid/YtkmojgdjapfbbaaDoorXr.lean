/- extent.Right. -/
import Derived.Test.YtkmojgdjapfbbaaDoorSl
import Derived.Test.YtkmojgdjapfbbaaDoorProg
import Derived.Outline
namespace Go.Proofs.YtkmojgdjapfbbaaDoor
open Go.RowKit Go.Maps
set_option linter.unusedSimpArgs false
set_option linter.unusedVariables false

/-- Nothing old has turned. -/
def RetB (v : Value) (w : World) (e : Ending) (w' : World) : Prop := e = .returned v ∧ Below w.heap.size w w'
theorem below_then {B : Nat} {w w1 w2 : World} (h : Below B w w1) (hB : B ≤ w1.heap.size) (k : Below w1.heap.size w1 w2) : Below B w w2 :=
  h.trans ⟨k.os, k.tape, k.output, k.size, fun i hi => k.block i (Nat.lt_of_lt_of_le hi hB)⟩
theorem toList_eq (b : ByteArray) : b.toList = b.data.toList := Lib.toList_data b
theorem empty_iff (s : ByteArray) : s.toList.isEmpty = true ↔ s.size = 0 := by
  rw [toList_eq, Lib.size_eq, List.isEmpty_iff, List.length_eq_zero_iff]
theorem retb {a b : Bool} (h : a = b) : Ending.returned (.bool b) = .returned (.bool a) := by rw [h]
set_option maxHeartbeats 1000000 in
theorem XRight_calls (B : Nat → Prop) (size : Int) (E : List IExt) (A : Option Addr) (c : Nat) (w : World) (h : Sl B w 2 (.slice A E.length c) E.length (iCells E)) (hl : E.length ≤ 1000000000) :
    Calls Tryd.prog 29 #[.int .i64 size, .slice A E.length c] w (RetB (.bool (rX size 0 E)) w) := by
  have H := Av.mk h
  clear h
  go_enter Tryd.func29, Tryd.ntmps29
  go_wp2_with fail
  go_loopw [5, 10] (fun s5 i wr => ∃ (k : Nat) (at_ : Int), k ≤ E.length ∧ i = .int .i64 k ∧ s5 = .int .i64 at_ ∧ Below w.heap.size w wr ∧ Av (rX size at_ (E.drop k) = rX size 0 E)) (fun _ i _ => E.length - (intOf i).toNat)
  case atStart => exact ⟨0, 0, Nat.zero_le _, rfl, rfl, Below.refl _ _, ⟨rfl⟩⟩
  case round =>
    obtain ⟨k, at_, hk, rfl, rfl, hb, HX⟩ := hrel
    have HB := Av.mk hb
    clear hb
    by_cases hlt : k < E.length
    · obtain ⟨⟨xo, xd⟩, hx⟩ : ∃ x, E[k]? = some x := ⟨_, List.getElem?_eq_getElem hlt⟩
      obtain ⟨b, off, rfl, _, hbl, hc, c0, c1⟩ := (H.out.grow HB.out).elem (fun _ => rfl) (by omega) hx
      replace c1 := c1 1 (by omega)
      simp [iC] at c0 c1
      have HD := Av.mk (drop_at hx)
      clear hx
      have hw := HX.out
      rw [HD.out] at hw
      simp only [rX] at hw
      by_cases h1 : xo < at_
      · have HF : Av (rX size 0 E = false) := ⟨by rw [← hw, if_pos (.inl h1)]⟩
        clear hw
        go_wp2_with fail
        go_ret
        exact ⟨retb HF.out, below_alloc HB.out _⟩
      · by_cases h2 : xd.toList.isEmpty = true
        · have HF : Av (rX size 0 E = false) := ⟨by rw [← hw, if_pos (.inr (.inl ((empty_iff _).1 h2)))]⟩
          have h2' : xd.toList = [] := by simpa using h2
          clear hw
          go_wp2_with fail
          go_ret
          exact ⟨retb HF.out, below_alloc HB.out _⟩
        · have hne : ¬ xd.size = 0 := fun e => h2 ((empty_iff _).2 e)
          have h2f : xd.toList.isEmpty = false := by simpa using h2
          have h2' : ¬ xd.toList = [] := by simpa using h2
          by_cases h3 : wrap64 (size - xo) < xd.size
          · have HF : Av (rX size 0 E = false) := ⟨by rw [← hw, if_pos (.inr (.inr h3))]⟩
            clear hw hne h2
            go_wp2_with fail
            go_ret
            exact ⟨retb HF.out, below_alloc HB.out _⟩
          · have HN : Av (rX size (wrap64 (xo + xd.size)) (E.drop (k + 1)) = rX size 0 E) := ⟨by rw [← hw, if_neg (by rintro (h | h | h); exact h1 h; exact hne h; exact h3 h)]⟩
            clear hw hne h2
            go_wp2_with fail
            go_roundw
            case rel => exact ⟨k + 1, _, by omega, by go_num, rfl, below_alloc HB.out _, HN⟩
            case measure => simp [intOf]; omega
    · obtain rfl : k = E.length := by omega
      have hw := HX.out
      rw [List.drop_length] at hw
      simp only [rX] at hw
      have HF := Av.mk hw
      clear hw
      by_cases h0 : 0 ≤ size
      · by_cases h1 : size ≤ 1048576
        · have HR : Av (rX size 0 E = true) := ⟨by rw [← HF.out]; simp [h0, h1]⟩
          go_wp2_with fail
          go_ret
          exact ⟨retb HR.out, HB.out⟩
        · have HR : Av (rX size 0 E = false) := ⟨by rw [← HF.out]; simp [h0, h1]⟩
          go_wp2_with fail
          go_ret
          exact ⟨retb HR.out, HB.out⟩
      · have HR : Av (rX size 0 E = false) := ⟨by rw [← HF.out]; simp [h0]⟩
        go_wp2_with fail
        go_ret
        exact ⟨retb HR.out, HB.out⟩
end Go.Proofs.YtkmojgdjapfbbaaDoor
