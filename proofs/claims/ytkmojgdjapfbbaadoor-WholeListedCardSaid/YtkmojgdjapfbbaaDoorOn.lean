/- socageref03.Right. -/
import Derived.Test.YtkmojgdjapfbbaaDoorNt
namespace Go.Proofs.YtkmojgdjapfbbaaDoor
open Go.RowKit Go.Maps
set_option linter.unusedSimpArgs false
set_option linter.unusedVariables false

def prvX (E : List IExt) : Nat → Option IExt
  | 0 => none
  | k + 1 => E[k]?
theorem r3_cons {size : Int} {q : Option IExt} {x : IExt} {E : List IExt} : r3 size q (x :: E) = if x.1 < 0 ∨ size < x.1 ∨ x.2.size < 1 ∨ size < wrap64 (x.1 + x.2.size) then false
      else if prevBad q x.1 = true then false else r3 size (some x) E := rfl
set_option maxRecDepth 100000 in
set_option maxHeartbeats 4000000 in
theorem r3_calls (B : Nat → Prop) (size : Int) (E : List IExt) (A : Option Addr) (c : Nat) (w : World) (h : Sl B w 2 (.slice A E.length c) E.length (iCells E)) (hl : E.length ≤ 140737488355328) :
    Calls Tryd.prog 91 #[.int .i64 size, .slice A E.length c] w (QuB (.bool (r3B size E)) w) := by
  have H := Av.mk h
  clear h
  by_cases h0 : size < 0
  · have HR : Av (r3B size E = false) := ⟨by unfold r3B; rw [if_pos (.inl h0)]⟩
    go_enter Tryd.func91, Tryd.ntmps91
    go_wp2_with fail
    go_ret
    exact ⟨retb HR.out, 0, drewN_zero _⟩
  by_cases h1 : 1048576 < size
  · have HR : Av (r3B size E = false) := ⟨by unfold r3B; rw [if_pos (.inr h1)]⟩
    go_enter Tryd.func91, Tryd.ntmps91
    go_wp2_with fail
    go_ret
    exact ⟨retb HR.out, 0, drewN_zero _⟩
  have HR : Av (r3 size none E = r3B size E) := ⟨by unfold r3B; rw [if_neg (by omega)]⟩
  generalize r3B size E = R at *
  go_enter Tryd.func91, Tryd.ntmps91
  go_wp2_with fail
  go_loopw [5] (fun s5 wr => ∃ j : Nat, j ≤ E.length ∧ s5 = .int .i64 j ∧ (∃ m, wr = w.drewN m) ∧ Av (r3 size (prvX E j) (E.drop j) = R)) (fun s5 _ => E.length - (intOf s5).toNat)
  case atStart => exact ⟨0, Nat.zero_le _, rfl, ⟨0, drewN_zero _⟩, HR⟩
  case round =>
    obtain ⟨j, hj, rfl, ⟨m, rfl⟩, HX⟩ := hrel
    have HJ := Av.mk (H.out.grow (below_drewN (Below.refl _ w) m))
    by_cases hlt : j < E.length
    case neg =>
      obtain rfl : j = E.length := by omega
      have hw := HX.out
      rw [List.drop_length] at hw
      have HF : Av (R = true) := ⟨hw.symm⟩
      clear hw
      go_wp2_with fail
      go_ret
      exact ⟨retb HF.out, _, rfl⟩
    obtain ⟨⟨xo, xd⟩, hx⟩ : ∃ x, E[j]? = some x := ⟨_, List.getElem?_eq_getElem hlt⟩
    obtain ⟨b, off, rfl, _, hbl, hc, c0, c1⟩ := HJ.out.elem (fun _ => rfl) (by omega) hx
    replace c1 := c1 1 (by omega)
    simp [iC] at c0 c1
    have hw := HX.out
    rw [drop_at hx, r3_cons] at hw
    simp only at hw
    have HN2 : Av (prvX E (j + 1) = some (xo, xd)) := ⟨hx⟩
    by_cases b1 : xo < 0
    · have HF : Av (R = false) := ⟨by rw [← hw, if_pos (.inl b1)]⟩
      have t1 : decide (xo < 0) = true := by simp; omega
      clear hw hx
      go_upto_region 6 with (fail)
      go_quiet (fail)
      go_wp2_with fail
      go_ret
      exact ⟨retb HF.out, _, by first | rfl | exact World.drewN_drewN _ _ _⟩
    have t1 : decide (xo < 0) = false := by simp; omega
    by_cases b2 : size < xo
    · have HF : Av (R = false) := ⟨by rw [← hw, if_pos (.inr (.inl b2))]⟩
      have t2 : decide (size < xo) = true := by simp; omega
      clear hw hx
      go_upto_region 6 with (fail)
      go_quiet (fail)
      go_wp2_with fail
      go_ret
      exact ⟨retb HF.out, _, by first | rfl | exact World.drewN_drewN _ _ _⟩
    have t2 : decide (size < xo) = false := by simp; omega
    by_cases b3 : xd.size < 1
    · have HF : Av (R = false) := ⟨by rw [← hw, if_pos (.inr (.inr (.inl b3)))]⟩
      have t3 : decide ((xd.size : Int) < 1) = true := by simp; omega
      clear hw hx
      go_upto_region 6 with (fail)
      go_quiet (fail)
      go_wp2_with fail
      go_ret
      exact ⟨retb HF.out, _, by first | rfl | exact World.drewN_drewN _ _ _⟩
    have t3 : decide ((xd.size : Int) < 1) = false := by simp; omega
    by_cases b4 : size < wrap64 (xo + (xd.size : Int))
    · have HF : Av (R = false) := ⟨by rw [← hw, if_pos (.inr (.inr (.inr b4)))]⟩
      have t4 : decide (size < wrap64 (xo + (xd.size : Int))) = true := by simpa using b4
      clear hw hx
      go_upto_region 6 with (fail)
      go_quiet (fail)
      go_wp2_with fail
      go_ret
      exact ⟨retb HF.out, _, by first | rfl | exact World.drewN_drewN _ _ _⟩
    have t4 : decide (size < wrap64 (xo + (xd.size : Int))) = false := by simpa using b4
    rw [if_neg (by rintro (h | h | h | h); exact b1 h; exact b2 h; exact b3 h; exact b4 h)] at hw
    have HX2 := Av.mk hw
    clear hw b1 b2 b3 b4 hx
    by_cases hj0 : j = 0
    · subst hj0
      simp only [Nat.zero_mul, Nat.add_zero] at c0 c1
      have HX3 : Av (r3 size (prvX E 1) (E.drop 1) = R) := ⟨by rw [HN2.out, ← HX2.out]; rfl⟩
      go_upto_region 6 with (fail)
      go_quiet (fail)
      go_upto_region 8 with (fail)
      go_quiet (fail)
      go_wp2_with fail
      go_roundw
      case rel => exact ⟨1, by omega, by go_num, ⟨_, by first | rfl | exact World.drewN_drewN _ _ _ | rw [World.drewN_drewN, World.drewN_drewN]⟩, HX3⟩
      case measure => simp [intOf]; omega
    · obtain ⟨i, rfl⟩ : ∃ i, j = i + 1 := ⟨j - 1, by omega⟩
      obtain ⟨⟨yo, yd⟩, hy⟩ : ∃ y, E[i]? = some y := ⟨_, List.getElem?_eq_getElem (by omega)⟩
      obtain ⟨b', off', hbb, _, _, _, d0, d1⟩ := HJ.out.elem (fun _ => rfl) (by omega) hy
      cases hbb
      replace d1 := d1 1 (by omega)
      simp [iC] at d0 d1
      have HP : Av (prvX E (i + 1) = some (yo, yd)) := ⟨hy⟩
      have hw := HX2.out
      rw [HP.out] at hw
      have t6 : decide ((0 : Int) < ((i + 1 : Nat) : Int)) = true := by rw [decide_eq_true_eq]; omega
      have e7 : (((i + 1 : Nat) : Int) - 1) = (i : Int) := by omega
      clear hy
      by_cases b5 : xo < wrap64 (yo + (yd.size : Int))
      · have HF : Av (R = false) := ⟨by rw [← hw, if_pos (show prevBad (some (yo, yd)) xo = true from by simpa [prevBad] using b5)]⟩
        have t5 : decide (xo < wrap64 (yo + (yd.size : Int))) = true := by simpa using b5
        clear hw
        go_upto_region 6 with (fail)
        go_quiet (fail)
        go_upto_region 8 with (fail)
        go_quiet (fail)
        go_wp2_with fail
        go_ret
        exact ⟨retb HF.out, _, by first | rfl | exact World.drewN_drewN _ _ _ | rw [World.drewN_drewN, World.drewN_drewN]⟩
      · have HX3 : Av (r3 size (prvX E (i + 1 + 1)) (E.drop (i + 1 + 1)) = R) := ⟨by rw [HN2.out, ← hw, if_neg (show ¬ prevBad (some (yo, yd)) xo = true from by simpa [prevBad] using b5)]⟩
        have t5 : decide (xo < wrap64 (yo + (yd.size : Int))) = false := by simpa using b5
        clear hw b5
        go_upto_region 6 with (fail)
        go_quiet (fail)
        go_upto_region 8 with (fail)
        go_quiet (fail)
        go_wp2_with fail
        go_roundw
        case rel => exact ⟨i + 1 + 1, by omega, by go_num, ⟨_, by first | rfl | exact World.drewN_drewN _ _ _ | rw [World.drewN_drewN, World.drewN_drewN]⟩, HX3⟩
        case measure => simp [intOf]; omega
end Go.Proofs.YtkmojgdjapfbbaaDoor
