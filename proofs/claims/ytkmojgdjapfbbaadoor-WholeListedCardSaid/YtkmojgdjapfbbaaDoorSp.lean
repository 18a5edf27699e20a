/- strings.Split at one byte, with no word of MaxLen. -/
import Derived.Test.YtkmojgdjapfbbaaDoorNc
import Derived.Test.YtkmojgdjapfbbaaDoorRg
namespace Go.Proofs.YtkmojgdjapfbbaaDoor
open Go.RowKit Go.Maps
set_option linter.unusedSimpArgs false
set_option linter.unusedVariables false

abbrev sl : ByteArray := ⟨#[47]⟩
theorem genSplit_one (s : ByteArray) (w : World) (hs : s.size < 4294967281) :
    Calls Tryd.prog 109 #[.string s, .string sl, .int .i64 0, .int .i64 (-1)] w fun e w' =>
      e = .returned (.slice (some ⟨w.heap.size, 0, none⟩) (Lib.countB s sl + 1) (Lib.countB s sl + 1)) ∧ w' = w.alloc (.cells ((Lib.splitB sl 0 (Lib.countB s sl) s).map Value.string).toArray 9) := by
  have hle := Lib.countB_le sl (by decide) s.size s (Nat.le_refl _)
  have hlen := Lib.splitB_all sl (by decide) 0 _ s rfl
  have c := Any.strings_genSplit_core Tryd.lays221 (by kernel_rfl) s sl 0 (-1) (Lib.countB s sl + 1) w hs (by decide) (Nat.zero_le _)
    (fun x cs hx => (Any.strings_Index_one Tryd.lays143 x 47 _).mono fun e w' ⟨he, hw⟩ => ⟨by rw [he]; congr 2; exact (Lib.index_one x.data.toList 47).symm, hw⟩)
    ((Any.strings_Count_one Tryd.lays138 s 47 w).mono fun e w' ⟨he, hw⟩ => ⟨by
      rw [he]
      show _ = Ending.returned (Value.int .i64 ((Lib.count s.data.toList [47] : Nat) : Int))
      rw [Lib.count_one]
      rfl, hw⟩) (by decide) (by decide) (by rw [if_pos (by decide)]; omega)
  rw [Nat.add_sub_cancel, hlen] at c
  have e2 : Lib.cellsOf (Lib.splitB sl 0 (Lib.countB s sl) s) (Lib.countB s sl + 1) = ((Lib.splitB sl 0 (Lib.countB s sl) s).map Value.string).toArray := by rw [← hlen]; exact Lib.cellsOf_full _
  rw [e2] at c
  exact c
theorem Split_one (s : ByteArray) (w : World) (hs : s.size < 4294967281) :
    Calls Tryd.prog 102 #[.string s, .string sl] w fun e w' =>
      e = .returned (.slice (some ⟨w.heap.size, 0, none⟩) (Lib.countB s sl + 1) (Lib.countB s sl + 1)) ∧ w' = w.alloc (.cells ((Lib.splitB sl 0 (Lib.countB s sl) s).map Value.string).toArray 9) := by
  have HC := Av.mk (genSplit_one s w hs)
  go_enter Tryd.func102, Tryd.ntmps102
  go_wp2_with fail
  refine HC.out.mono ?_
  rintro e w1 ⟨rfl, rfl⟩
  go_wp2_with fail
  go_ret
  exact ⟨rfl, rfl⟩
theorem splitK_cut : ∀ l : List UInt8, Lib.splitK [47] 0 (l.count 47) l = cut47 l
  | [] => rfl
  | b :: l => by
    have ih := splitK_cut l
    by_cases hb : b = 47
    · subst hb
      have hc : (47 :: l : List UInt8).count 47 = l.count 47 + 1 := by simp
      rw [hc, Lib.splitK, Lib.index_one]
      have hi : Lib.indexByte (47 :: l) 47 = 0 := by simp [Lib.indexByte]
      rw [hi]
      simp only [cut47, if_true]
      rw [← ih]
      simp
    · have hc : (b :: l).count 47 = l.count 47 := by simp [hb]
      rw [hc]
      simp only [cut47, hb, if_false]
      rw [← ih]
      have hbb : (b == 47) = false := by simpa using hb
      cases hk : l.count 47 with
      | zero => simp [Lib.splitK]
      | succ k =>
        rw [Lib.splitK, Lib.splitK, Lib.index_one, Lib.index_one]
        have hi : Lib.indexByte (b :: l) 47 = if Lib.indexByte l 47 == -1 then -1 else Lib.indexByte l 47 + 1 := by rw [Lib.indexByte, hbb]; simp
        rw [hi]
        have hge := Lib.indexByte_ge l 47
        by_cases hm : Lib.indexByte l 47 = -1
        · simp [hm]
        · have h1 : (Lib.indexByte l 47 == -1) = false := by simpa using hm
          obtain ⟨i, hi2⟩ : ∃ i : Nat, Lib.indexByte l 47 = i := ⟨(Lib.indexByte l 47).toNat, by omega⟩
          rw [hi2] at h1 ⊢
          have h2 : (((i : Int) + 1) == -1) = false := by simp; omega
          have h3 : ((i : Int) + 1).toNat = i + 1 := by omega
          simp [h1, h2, h3]
theorem split_cut (s : ByteArray) : (Lib.splitB sl 0 (Lib.countB s sl) s).map (·.data.toList) = cut47 s.data.toList := by
  rw [Lib.splitB_data, ← splitK_cut]
  congr 1
  show Lib.count s.data.toList [47] = _
  rw [Lib.count_one]
end Go.Proofs.YtkmojgdjapfbbaaDoor
