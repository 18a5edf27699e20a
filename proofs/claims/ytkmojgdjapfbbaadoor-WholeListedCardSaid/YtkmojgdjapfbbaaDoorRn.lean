/- strings.IndexRune of a rune that is no ASCII, in "/\x00". -/
import Derived.Test.YtkmojgdjapfbbaaDoorNm
import Derived.Laws.Runes
import Derived.Laws.RangeAny
import Derived.Deep.LoopGhost
import Derived.WalkMore
import Derived.Deep.DeepCutAuto
namespace Go.Proofs.YtkmojgdjapfbbaaDoor
open Go.RowKit Go.Maps
set_option linter.unusedSimpArgs false
set_option linter.unusedVariables false

abbrev sl0 : ByteArray := ⟨#[47, 0]⟩
theorem validRune_same (r : Int) : Lib.validRune r = Utf8.valid r := by rw [Go.validRune_eq]; rfl
set_option maxRecDepth 100000 in
set_option maxHeartbeats 2000000 in
/-- The rune that stands for no rune. -/
theorem Rune_err (w : World) : Calls Tryd.prog 119 #[.string sl0, .int .i32 65533] w (RetB (.int .i64 (-1)) w) := by
  go_enter Tryd.func119, Tryd.ntmps119
  go_wp2_with fail
  go_loopg [5, 6] 2 (fun g _ _ wx => ∃ i : Nat, i + g = 2 ∧ wx = w.iter sl0 i)
  case atStart => exact ⟨0, by omega, rfl⟩
  case round =>
    obtain ⟨i, hig, rfl⟩ := hrel
    cases gk with
    | zero =>
      obtain rfl : i = 2 := by omega
      have hnx := fun ty => run_next_end (P := Tryd.prog) w sl0 2 ty (by decide)
      go_wp2_with fail
      go_ret
      exact ⟨rfl, below_alloc (Below.refl _ w) _⟩
    | succ g =>
      have hi : i < sl0.size := by show i < 2; omega
      obtain ⟨x, hx⟩ : ∃ x : UInt8, sl0[i]'hi = x := ⟨_, rfl⟩
      have hx1 : x.toNat < 128 := by
        rcases Nat.lt_or_ge i 1 with h | h
        · obtain rfl : i = 0 := by omega
          have h47 : x = 47 := by rw [← hx]; rfl
          subst h47; decide
        · obtain rfl : i = 1 := by omega
          have h47 : x = 0 := by rw [← hx]; rfl
          subst h47; decide
      have hnx := fun ty => run_next_ascii (P := Tryd.prog) w sl0 i ty hi (by rw [hx]; exact hx1)
      rw [hx] at hnx
      have hne : ((x.toNat : Int) == 65533) = false := by simp; omega
      clear hx
      go_wp2_with fail
      go_roundg g
      case measure => omega
      case rel => exact ⟨i + 1, by omega, rfl⟩
set_option maxRecDepth 100000 in
set_option maxHeartbeats 2000000 in
/-- A number that is no rune. -/
theorem Rune_bad (r : Int) (w : World) (h0 : 128 ≤ r) (h1 : (r == 65533) = false) (hv : Utf8.valid r = false) : Calls Tryd.prog 119 #[.string sl0, .int .i32 r] w (RetB (.int .i64 (-1)) w) := by
  have HV := Av.mk (Tryd.utf8_ValidRune r)
  rw [validRune_same, hv] at HV
  clear hv
  have hlt : decide (r < 128) = false := by simp; omega
  have hge : decide (0 ≤ r) = true := by simp; omega
  go_enter Tryd.func119, Tryd.ntmps119
  go_wp2_with fail
  refine (HV.out _).mono ?_
  rintro e _ ⟨rfl, rfl⟩
  go_wp2_with fail
  go_ret
  exact ⟨rfl, Below.refl _ _⟩
set_option maxRecDepth 100000 in
set_option maxHeartbeats 2000000 in
/-- Another one. -/
theorem Rune_good (r : Int) (w : World) (h0 : 128 ≤ r) (h1 : (r == 65533) = false) (hv : Utf8.valid r = true) : Calls Tryd.prog 119 #[.string sl0, .int .i32 r] w (RetB (.int .i64 (-1)) w) := by
  have HV := Av.mk (Tryd.utf8_ValidRune r)
  rw [validRune_same, hv] at HV
  obtain ⟨N, hN⟩ : ∃ N, Utf8.encode r = N := ⟨_, rfl⟩
  obtain ⟨hs2, hs4, hlast⟩ := encode_facts r hv h0
  rw [hN] at hs2 hs4
  have hlast' : ∀ h : N.size - 1 < N.size, 128 ≤ (N[N.size - 1]'h).toNat := by rw [← hN]; exact hlast
  have hcv : ∀ W, (convert 21 9 (.int .i32 r)).run Tryd.prog W = .ok (.string N) W := fun W => by rw [run_convert_int_string W 21 9 .i32 r (by kernel_rfl) Tryd.underlying9, hN]
  clear hlast hv hN
  have hlt : decide (r < 128) = false := by simp; omega
  have hge : decide (0 ≤ r) = true := by simp; omega
  by_cases h2 : N.size = 2
  · obtain ⟨x, hx⟩ : ∃ x : UInt8, N[1]'(by omega) = x := ⟨_, rfl⟩
    have hx128 : 128 ≤ x.toNat := by
      have := hlast' (by omega)
      rw [← hx]
      simpa [h2] using this
    have hs1 : (1 : Nat) < sl0.size := by decide
    have hne : (((sl0[1]'hs1).toNat : Int) != (x.toNat : Int)) = true := by
      have : sl0[1]'hs1 = 0 := rfl
      rw [this]
      simp
      omega

    have HB : Av (∀ W : World, Calls Tryd.prog 128 #[.string ByteArray.empty, .int .u8 (x.toNat : Int)] W fun e w' => e = .returned (.int .i64 (-1)) ∧ ∃ m', w' = W.drewN m') := ⟨fun W => (Tryd.strings_IndexByte _ _ W).mono fun e w' h => ⟨h.1, 0, h.2⟩⟩
    clear hlast'
    go_enter Tryd.func119, Tryd.ntmps119
    go_wp2_with fail
    refine (HV.out _).mono ?_
    rintro e wv ⟨rfl, rfl⟩
    go_wp2_with fail
    go_step3
    go_wp2_with fail
    go_loopw [9] (fun i wx => i = .int .i64 1 ∧ wv = wx) (fun _ _ => 0)
    case atStart => exact ⟨by simp [h2], rfl⟩
    case round =>
      obtain ⟨rfl, rfl⟩ := hrel
      go_wp2_with fail
      go_step3
      go_upto_region 6 with (fail)
      go_region
      go_upto_region 7 with (fail)
      have HBd : Av (Bel wv wv.drew) := ⟨below_drewN (Below.refl _ wv) 1⟩
      generalize wv.drew = wd at *
      go_quiet ((go_at_call 128; refine Calls.quiet_of (HB.out _)))
      go_wp2_with fail
      have HBe : Av (Bel wv (wd.drewN nq)) := ⟨below_drewN HBd.out nq⟩
      rw [Exit.noGoto_ret]
      go_ret
      exact ⟨rfl, HBe.out⟩
  · have h3 : 3 ≤ N.size := by omega
    clear hlast'
    go_enter Tryd.func119, Tryd.ntmps119
    go_wp2_with fail
    refine (HV.out _).mono ?_
    rintro e wv ⟨rfl, rfl⟩
    go_wp2_with fail
    go_step3
    go_wp2_with fail
    go_loopw [9] (fun i wx => i = .int .i64 ((N.size : Int) - 1) ∧ wv = wx) (fun _ _ => 0)
    case atStart => exact ⟨by simp, rfl⟩
    case round =>
      obtain ⟨rfl, rfl⟩ := hrel
      go_wp2_with fail
      rw [Exit.noGoto_ret]
      go_ret
      exact ⟨rfl, Below.refl _ _⟩
/-- A rune that is no ASCII isn't in "/\x00". -/
theorem Rune_high (r : Int) (w : World) (h0 : 128 ≤ r) : Calls Tryd.prog 119 #[.string sl0, .int .i32 r] w (RetB (.int .i64 (-1)) w) := by
  by_cases h1 : r = 65533
  · subst h1; exact Rune_err w
  · have h1' : (r == 65533) = false := by simpa using h1
    cases hv : Utf8.valid r
    · exact Rune_bad r w h0 h1' hv
    · exact Rune_good r w h0 h1' hv
end Go.Proofs.YtkmojgdjapfbbaaDoor
