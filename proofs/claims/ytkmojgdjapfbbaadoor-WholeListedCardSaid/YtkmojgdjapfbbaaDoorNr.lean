/- socageref01: Right, Less. -/
import Derived.Test.YtkmojgdjapfbbaaDoorAl
import Derived.Deep.DeepCutAuto
import Derived.Outline
namespace Go.Proofs.YtkmojgdjapfbbaaDoor
open Go.RowKit Go.Maps
set_option linter.unusedSimpArgs false
set_option linter.unusedVariables false

/-- It answers v and writes nothing. -/
def QuB (v : Value) (w : World) (e : Ending) (w' : World) : Prop := e = .returned v ∧ ∃ m, w' = w.drewN m
theorem drewN_zero (w : World) : w = w.drewN 0 := by cases w; rfl
theorem byte_at {s : ByteArray} {k : Nat} {x : UInt8} (h : k < s.size) (hx : s[k] = x) : s.data.toList[k]? = some x := by
  rw [List.getElem?_eq_getElem (by rw [← Lib.size_eq]; exact h), ← hx]
  rfl
theorem hasBad_yes {s : ByteArray} {k : Nat} {x : UInt8} (hn : Lib.NoAny s.data.toList [47, 0] k) (hx : s.data.toList[k]? = some x) (hb : x.toNat = 47 ∨ x.toNat = 0) : hasBad s = true := by
  unfold hasBad Lib.containsAny
  rw [Lib.indexAny_hit hn hx (by
    rcases hb with h | h
    · rw [show x = 47 from UInt8.toNat.inj h]; rfl
    · rw [show x = 0 from UInt8.toNat.inj h]; rfl)]
  simp
theorem hasBad_no {s : ByteArray} (hn : Lib.NoAny s.data.toList [47, 0] s.size) : hasBad s = false := by
  unfold hasBad Lib.containsAny
  rw [Lib.indexAny_none (by rw [← Lib.size_eq]; exact hn)]
  rfl
theorem noAny_succ {s : ByteArray} {k : Nat} {x : UInt8} (hn : Lib.NoAny s.data.toList [47, 0] k) (hx : s.data.toList[k]? = some x) (h1 : x.toNat ≠ 47) (h2 : x.toNat ≠ 0) : Lib.NoAny s.data.toList [47, 0] (k + 1) :=
  hn.succ hx (by
    have e1 : x ≠ 47 := fun e => h1 (by rw [e]; rfl)
    have e2 : x ≠ 0 := fun e => h2 (by rw [e]; rfl)
    simp [e1, e2])
set_option maxHeartbeats 1000000 in
theorem nright_calls (s : ByteArray) (w : World) (hl : s.size ≤ 140737488355328) : Calls Tryd.prog 105 #[.string s] w (QuB (.bool (nameOk s)) w) := by
  by_cases h0 : s.toList = []
  · have HR := Av.mk (show nameOk s = false by simp [nameOk, h0])
    go_enter Tryd.func105, Tryd.ntmps105
    go_wp2_with fail
    go_ret
    exact ⟨retb HR.out, 0, drewN_zero _⟩
  by_cases h1 : s.toList = [46]
  · have HR := Av.mk (show nameOk s = false by simp [nameOk, h1])
    go_enter Tryd.func105, Tryd.ntmps105
    go_wp2_with fail
    go_ret
    exact ⟨retb HR.out, 0, drewN_zero _⟩
  by_cases h2 : s.toList = [46, 46]
  · have HR := Av.mk (show nameOk s = false by simp [nameOk, h2])
    go_enter Tryd.func105, Tryd.ntmps105
    go_wp2_with fail
    go_ret
    exact ⟨retb HR.out, 0, drewN_zero _⟩
  by_cases h3 : s.size ≤ 64
  · have HR := Av.mk (show nameOk s = !(hasBad s) by simp [nameOk, h0, h1, h2, h3])
    have v0 : s.toList.isEmpty = false := by simpa using h0
    have v1 : (s.toList == [46]) = false := by simpa using h1
    have v2 : (s.toList == [46, 46]) = false := by simpa using h2
    generalize nameOk s = R at *
    go_enter Tryd.func105, Tryd.ntmps105
    go_wp2_with fail
    go_loop [3] (fun s3 => ∃ k : Nat, k ≤ s.size ∧ s3 = .int .i64 k ∧ Av (Lib.NoAny s.data.toList [47, 0] k)) (fun s3 => s.size - (intOf s3).toNat)
    case atStart => exact ⟨0, Nat.zero_le _, rfl, ⟨Lib.NoAny.zero _ _⟩⟩
    case round =>
      obtain ⟨k, hk, rfl, HN⟩ := hrel
      by_cases hlt : k < s.size
      · obtain ⟨x, hx⟩ : ∃ x : UInt8, s[k] = x := ⟨_, rfl⟩
        have HXX := Av.mk (byte_at hlt hx)
        by_cases b1 : x.toNat = 47
        · have HRF : Av (R = false) := ⟨by rw [HR.out, hasBad_yes HN.out HXX.out (.inl b1)]; rfl⟩
          have t1 : ((x.toNat : Int) == 47) = true := by simp; omega
          clear b1
          go_wp2_with fail
          go_ret
          exact ⟨retb HRF.out, 0, drewN_zero _⟩
        by_cases b2 : x.toNat = 0
        · have HRF : Av (R = false) := ⟨by rw [HR.out, hasBad_yes HN.out HXX.out (.inr b2)]; rfl⟩
          have t1 : ((x.toNat : Int) == 47) = false := by simp; omega
          have t2 : ((x.toNat : Int) == 0) = true := by simp; omega
          clear b1 b2
          go_wp2_with fail
          go_ret
          exact ⟨retb HRF.out, 0, drewN_zero _⟩
        have HN1 := Av.mk (noAny_succ HN.out HXX.out b1 b2)
        have t1 : ((x.toNat : Int) == 47) = false := by simp; omega
        have t2 : ((x.toNat : Int) == 0) = false := by simp; omega
        clear b1 b2
        go_wp2_with fail
        go_round
        case rel => exact ⟨k + 1, by omega, by go_num, HN1⟩
        case measure => simp [intOf]; omega
      · obtain rfl : k = s.size := by omega
        have HRF : Av (R = true) := ⟨by rw [HR.out, hasBad_no HN.out]; rfl⟩
        go_wp2_with fail
        go_ret
        exact ⟨retb HRF.out, 0, drewN_zero _⟩
  · have HR := Av.mk (show nameOk s = false by simp [nameOk, h3])
    have v0 : s.toList.isEmpty = false := by simpa using h0
    have v1 : (s.toList == [46]) = false := by simpa using h1
    have v2 : (s.toList == [46, 46]) = false := by simpa using h2
    go_enter Tryd.func105, Tryd.ntmps105
    go_wp2_with fail
    go_ret
    exact ⟨retb HR.out, 0, drewN_zero _⟩
/-- Byte by byte. -/
theorem ltS_step {a b : ByteArray} : ltS a b = Op.bytesLess (a.data.toList.drop 0) (b.data.toList.drop 0) := by
  unfold ltS
  rw [toList_eq, toList_eq]
  rfl
theorem bl_cons {x y : UInt8} {l m : List UInt8} : Op.bytesLess (x :: l) (y :: m) = if x = y then Op.bytesLess l m else decide (x < y) := by
  simp only [Op.bytesLess]
  by_cases h : x = y
  · subst h
    have : ¬ (x < x) := fun h => absurd (UInt8.lt_iff_toNat_lt.1 h) (by omega)
    simp [this]
  · simp [h]
set_option maxHeartbeats 1000000 in
theorem nless_calls (a b : ByteArray) (w : World) (ha : a.size ≤ 140737488355328) (hb : b.size ≤ 140737488355328) : Calls Tryd.prog 71 #[.string a, .string b] w (QuB (.bool (ltS a b)) w) := by
  have HR : Av (ltS a b = Op.bytesLess (a.data.toList.drop 0) (b.data.toList.drop 0)) := ⟨ltS_step⟩
  generalize ltS a b = R at *
  go_enter Tryd.func71, Tryd.ntmps71
  go_wp2_with fail
  go_loopw [5] (fun s5 wr => ∃ k : Nat, k ≤ a.size ∧ k ≤ b.size ∧ s5 = .int .i64 k ∧ (∃ m, wr = w.drewN m) ∧ Av (R = Op.bytesLess (a.data.toList.drop k) (b.data.toList.drop k))) (fun s5 _ => a.size - (intOf s5).toNat)
  case atStart => exact ⟨0, Nat.zero_le _, Nat.zero_le _, rfl, ⟨0, drewN_zero _⟩, HR⟩
  case round =>
    obtain ⟨k, hk, hk2, rfl, hwr, HX⟩ := hrel
    have HW := Av.mk hwr
    clear hwr
    by_cases hlt : k < a.size
    · by_cases hlt2 : k < b.size
      · obtain ⟨x, hx⟩ : ∃ x : UInt8, a[k] = x := ⟨_, rfl⟩
        obtain ⟨y, hy⟩ : ∃ y : UInt8, b[k] = y := ⟨_, rfl⟩
        have HX2 := HX.out
        rw [drop_at (byte_at hlt hx), drop_at (byte_at hlt2 hy), bl_cons] at HX2
        replace HX2 := Av.mk HX2
        by_cases hxy : x = y
        · have HX3 : Av (R = Op.bytesLess (a.data.toList.drop (k + 1)) (b.data.toList.drop (k + 1))) := ⟨by rw [HX2.out, if_pos hxy]⟩
          have t1 : ((x.toNat : Int) != (y.toNat : Int)) = false := by rw [hxy]; simp
          clear hxy HX2
          go_upto_region 4 with (fail)
          go_quiet (fail)
          go_wp2_with fail
          go_roundw
          case rel =>
            obtain ⟨m, rfl⟩ := HW.out
            exact ⟨k + 1, by omega, by omega, by go_num, ⟨_, (World.drewN_drewN _ _ _)⟩, HX3⟩
          case measure => simp [intOf]; omega
        · have HX3 : Av (R = decide (x.toNat < y.toNat)) := ⟨by
            rw [HX2.out, if_neg hxy]
            apply decide_eq_decide.2
            rw [UInt8.lt_iff_toNat_lt]⟩
          have t1 : ((x.toNat : Int) != (y.toNat : Int)) = true := by
            have : x.toNat ≠ y.toNat := fun e => hxy (UInt8.toNat.inj e)
            simp; omega
          clear hxy HX2
          go_upto_region 4 with (fail)
          go_quiet (fail)
          go_upto_region 5 with (fail)
          go_quiet (fail)
          go_wp2_with fail
          go_ret
          obtain ⟨m, rfl⟩ := HW.out
          exact ⟨retb HX3.out, _, by rw [World.drewN_drewN, World.drewN_drewN]⟩
      · have HX2 : Av (R = false) := ⟨by
          rw [HX.out, show b.data.toList.drop k = [] from List.drop_eq_nil_of_le (by rw [← Lib.size_eq]; omega)]
          cases a.data.toList.drop k <;> rfl⟩
        have t1 : decide (a.size < b.size) = false := by simp; omega
        go_wp2_with fail
        go_ret
        obtain ⟨m, rfl⟩ := HW.out
        exact ⟨retb HX2.out, _, rfl⟩
    · by_cases hlt2 : k < b.size
      · have HX2 : Av (R = true) := ⟨by
          rw [HX.out, show a.data.toList.drop k = [] from List.drop_eq_nil_of_le (by rw [← Lib.size_eq]; omega), drop_at (byte_at hlt2 rfl)]
          rfl⟩
        have t1 : decide (a.size < b.size) = true := by simp; omega
        go_wp2_with fail
        go_ret
        obtain ⟨m, rfl⟩ := HW.out
        exact ⟨retb HX2.out, _, rfl⟩
      · have HX2 : Av (R = false) := ⟨by
          rw [HX.out, show b.data.toList.drop k = [] from List.drop_eq_nil_of_le (by rw [← Lib.size_eq]; omega)]
          cases a.data.toList.drop k <;> rfl⟩
        have t1 : decide (a.size < b.size) = false := by simp; omega
        go_wp2_with fail
        go_ret
        obtain ⟨m, rfl⟩ := HW.out
        exact ⟨retb HX2.out, _, rfl⟩
end Go.Proofs.YtkmojgdjapfbbaaDoor
