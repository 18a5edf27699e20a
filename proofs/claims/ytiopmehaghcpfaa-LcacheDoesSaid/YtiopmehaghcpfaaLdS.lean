/- socagelaw16.same, the closure of LcacheDoes. Printed by mac.py from LdS.src. -/
import Derived.Test.YtiopmehaghcpfaaSpk16
import Derived.BigQuiet
namespace Go.Proofs.Ytiopmehaghcpfaa.L
open Go.Proofs.Ytiopmehaghcpfaa
open Go.RowKit Go.Maps
set_option linter.unusedSimpArgs false
set_option linter.unusedVariables false
attribute [local go_sem ↓] run_max_int run_min_int

theorem entC_len (d : Int) (m : Nat) : (entC d m).length = m * 2 := by
  unfold entC
  rw [flat_len (csN d) 2 (fun _ => rfl), List.length_range]
theorem entC_get (d : Int) (m i j : Nat) (hi : i < m) (hj : j < 2) : (entC d m)[i * 2 + j]? = (csN d i)[j]? := by
  unfold entC
  rw [flat_get (csN d) 2 (fun _ => rfl) (List.range m) i j (by simpa using hi) hj]
  simp

set_option maxHeartbeats 4000000 in
theorem same55_calls (d : Int) (m : Nat) (A1 A2 : Option Addr) (c1 c2 : Nat) (b1 b2 : Nat) (w : World) (h1 : w.ownsRow b1 83 2 (.slice A1 m c1) m (entC d m)) (h2 : w.ownsRow b2 83 2 (.slice A2 m c2) m (entC d m)) (hl : m ≤ 1000) :
    Calls Try.prog 55 #[.slice A1 m c1, .slice A2 m c2] w (RetB (.bool true) w) := by
  have H1 := Av.mk h1
  have H2 := Av.mk h2
  clear h1 h2
  go_enter Try.func55, Try.ntmps55
  go_wp2_with fail
  go_loopw [13] (fun i wr => ∃ j : Nat, j ≤ m ∧ i = .int .i64 j ∧ Below w.heap.size w wr) (fun i _ => m - (intOf i).toNat)
  case atStart => exact ⟨0, Nat.zero_le _, rfl, Below.refl _ _⟩
  case round =>
    obtain ⟨j, hj, rfl, hb⟩ := hrel
    have HB := Av.mk hb
    clear hb
    by_cases hlt : j < m
    · have R1 := row_below H1.out HB.out
      have R2 := row_below H2.out HB.out
      obtain ⟨r1, rfl⟩ := row1_shape R1 (by omega)
      obtain ⟨r2, rfl⟩ := row1_shape R2 (by omega)
      have y0 : wr.cell? ⟨r1, j * 2, none⟩ = some (.string (abcd.extract j (j + 1))) := by rw [R1.cellAt _ (by omega), show j * 2 = j * 2 + 0 from rfl, entC_get d m j 0 hlt (by omega)]; rfl
      have y1 : wr.cell? ⟨r1, j * 2 + 1, none⟩ = some (.int .i64 d) := by rw [R1.cellAt _ (by omega), entC_get d m j 1 hlt (by omega)]; rfl
      have y2 : wr.cell? ⟨r2, j * 2, none⟩ = some (.string (abcd.extract j (j + 1))) := by rw [R2.cellAt _ (by omega), show j * 2 = j * 2 + 0 from rfl, entC_get d m j 0 hlt (by omega)]; rfl
      have y3 : wr.cell? ⟨r2, j * 2 + 1, none⟩ = some (.int .i64 d) := by rw [R2.cellAt _ (by omega), entC_get d m j 1 hlt (by omega)]; rfl
      generalize abcd.extract j (j + 1) = nm at *
      clear R1 R2
      go_wp2_with fail
      go_quiet (fail)
      go_wp2_with fail
      go_roundw
      case rel => exact ⟨j + 1, by omega, by go_num, below_drewN HB.out _⟩
      case measure => simp [intOf]; omega
    · obtain rfl : j = m := by omega
      go_wp2
      go_ret
      exact ⟨rfl, HB.out⟩

theorem does_closure (w0 W : World) (g gs n : Nat) (r made : Int) (vs : Value) (G : Nat → Nat) (V : Nat → Value) (Ls : Nat → PL) (h : Lc w0 W g gs n r made vs G V Ls) (ga : Nat) (kd d ep mn : Int) (h0 : 0 ≤ mn) (h1 : mn ≤ 255) (ha : Blk W ga 109 #[.int .u8 kd, .int .u8 d, .int .i64 ep, .int .u8 mn]) (m : Nat) (hm : mn % 5 = (m : Int)) :
    Calls Try.prog 56 #[.pointer (some ⟨ga, 0, none⟩)] W (MakesIs w0 g gs n r made vs G V Ls m (entC mn m) (fun W W' => Below W.heap.size W W') W) := by
  have H := Av.mk h
  have a3 := ha.cell 3
  have la := ha.lt
  simp at a3
  have HE := Av.mk (entries_calls mn h0 h1 m hm W)
  clear h ha
  go_enter Try.func56, Try.ntmps56
  go_wp2_with fail
  refine HE.out.mono ?_
  rintro e w' ⟨A, c, rfl, hr, hb⟩
  have HR := Av.mk hr
  have HB := Av.mk hb
  clear hr hb
  go_wp2
  go_ret
  exact ⟨A, c, rfl, HR.out, H.out.grow HB.out, HB.out⟩
end Go.Proofs.Ytiopmehaghcpfaa.L
