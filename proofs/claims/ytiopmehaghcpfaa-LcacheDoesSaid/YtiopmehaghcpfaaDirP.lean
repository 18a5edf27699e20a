/- One of the directories: socagelaw15.Dir. -/
import Derived.Test.YtiopmehaghcpfaaCp
namespace Go.Proofs.Ytiopmehaghcpfaa.E
open Go.Proofs.Ytiopmehaghcpfaa
open Go.RowKit Go.Maps
set_option linter.unusedSimpArgs false
set_option linter.unusedVariables false
theorem inf9 : ∃ i, Try.prog.info? 9 = some i ∧ i.size = 1 := by
  have h : (Try.prog.info? 9).map (fun i => i.size) = some 1 := by kernel_rfl
  obtain ⟨i, hi, e⟩ := Option.map_eq_some_iff.1 h
  exact ⟨i, hi, e⟩
theorem index150_0 (a b c d : ByteArray) (w : World) : (Instr.index 150 (.agg #[.string a, .string b, .string c, .string d]) (.int .u8 0)).run Try.prog w = .ok (.string a) w := by
  obtain ⟨i, hi, e⟩ := inf9
  simp [Instr.index, run_underlying Try.underlying150, run_underlying Try.underlying9, asIntOf, sizeOf, typeInfo, hi, e, part, isAgg, go_sem]
theorem index150_1 (a b c d : ByteArray) (w : World) : (Instr.index 150 (.agg #[.string a, .string b, .string c, .string d]) (.int .u8 1)).run Try.prog w = .ok (.string b) w := by
  obtain ⟨i, hi, e⟩ := inf9
  simp [Instr.index, run_underlying Try.underlying150, run_underlying Try.underlying9, asIntOf, sizeOf, typeInfo, hi, e, part, isAgg, go_sem]
theorem index150_2 (a b c d : ByteArray) (w : World) : (Instr.index 150 (.agg #[.string a, .string b, .string c, .string d]) (.int .u8 2)).run Try.prog w = .ok (.string c) w := by
  obtain ⟨i, hi, e⟩ := inf9
  simp [Instr.index, run_underlying Try.underlying150, run_underlying Try.underlying9, asIntOf, sizeOf, typeInfo, hi, e, part, isAgg, go_sem]
theorem index150_3 (a b c d : ByteArray) (w : World) : (Instr.index 150 (.agg #[.string a, .string b, .string c, .string d]) (.int .u8 3)).run Try.prog w = .ok (.string d) w := by
  obtain ⟨i, hi, e⟩ := inf9
  simp [Instr.index, run_underlying Try.underlying150, run_underlying Try.underlying9, asIntOf, sizeOf, typeInfo, hi, e, part, isAgg, go_sem]
attribute [local go_sem] index150_0 index150_1 index150_2 index150_3
/-- One of the directories. -/
def dirOf (d : Int) : ByteArray := if d % 4 = 0 then ⟨#[47]⟩ else if d % 4 = 1 then ⟨#[47, 97]⟩ else if d % 4 = 2 then ⟨#[47, 97, 47, 98]⟩ else ⟨#[47, 97, 97]⟩
theorem dirOf_size (d : Int) : (dirOf d).size ≤ 4 := by unfold dirOf; split <;> (try split) <;> (try split) <;> decide
set_option maxRecDepth 100000 in
theorem dir_calls (d : Int) (h0 : 0 ≤ d) (h1 : d ≤ 255) (w : World) : Calls Try.prog 47 #[.int .u8 d] w (Same (.string (dirOf d)) w) := by
  have hd : d % 4 = 0 ∨ d % 4 = 1 ∨ d % 4 = 2 ∨ d % 4 = 3 := by omega
  have ht : Int.tmod d 4 = d % 4 := Int.tmod_eq_emod_of_nonneg h0
  go_enter Try.func47, Try.ntmps47
  rcases hd with h | h | h | h
  · have e : dirOf d = ⟨#[47]⟩ := by unfold dirOf; rw [if_pos h]
    rw [e]
    clear e
    go_wp2
    go_ret
    exact ⟨rfl, rfl⟩
  · have e : dirOf d = ⟨#[47, 97]⟩ := by unfold dirOf; rw [if_neg (by omega), if_pos h]
    rw [e]
    clear e
    go_wp2
    go_ret
    exact ⟨rfl, rfl⟩
  · have e : dirOf d = ⟨#[47, 97, 47, 98]⟩ := by unfold dirOf; rw [if_neg (by omega), if_neg (by omega), if_pos h]
    rw [e]
    clear e
    go_wp2
    go_ret
    exact ⟨rfl, rfl⟩
  · have e : dirOf d = ⟨#[47, 97, 97]⟩ := by unfold dirOf; rw [if_neg (by omega), if_neg (by omega), if_neg (by omega)]
    rw [e]
    clear e
    go_wp2
    go_ret
    exact ⟨rfl, rfl⟩

end Go.Proofs.Ytiopmehaghcpfaa.E
