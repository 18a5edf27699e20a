/- slices.BinarySearch at strings, tree.Find. -/
import Derived.Test.YtkmojgdjapfbbaaDoorNs
import Derived.Test.YtkmojgdjapfbbaaDoorDt
namespace Go.Proofs.YtkmojgdjapfbbaaDoor
open Go.RowKit Go.Maps
set_option linter.unusedSimpArgs false
set_option linter.unusedVariables false

theorem bl_irrefl : ∀ x : List UInt8, Op.bytesLess x x = false
  | [] => rfl
  | a :: x => by simp [Op.bytesLess, bl_irrefl x]
theorem bl_trans : ∀ x y z : List UInt8, Op.bytesLess x y = true → Op.bytesLess y z = true → Op.bytesLess x z = true
  | x, y, [], _, h => by cases y <;> simp [Op.bytesLess] at h
  | [], y, c :: z, _, _ => by simp [Op.bytesLess]
  | a :: x, [], c :: z, h, _ => by simp [Op.bytesLess] at h
  | a :: x, b :: y, c :: z, h1, h2 => by
    have ih := bl_trans x y z
    simp only [Op.bytesLess, Bool.or_eq_true, decide_eq_true_eq, Bool.and_eq_true, beq_iff_eq] at h1 h2 ⊢
    rcases h1 with h1 | ⟨rfl, h1⟩
    · rcases h2 with h2 | ⟨rfl, h2⟩
      · exact .inl (UInt8.lt_trans h1 h2)
      · exact .inl h1
    · rcases h2 with h2 | ⟨rfl, h2⟩
      · exact .inl h2
      · exact .inr ⟨rfl, ih h1 h2⟩
theorem ltS_irrefl (a : ByteArray) : ltS a a = false := bl_irrefl _
theorem ltS_trans {a b c : ByteArray} (h1 : ltS a b = true) (h2 : ltS b c = true) : ltS a c = true := bl_trans _ _ _ h1 h2
/-- Each ahead of all behind it. -/
def Rising (l : List ByteArray) : Prop := ∀ (i j : Nat) (a b : ByteArray), i < j → l[i]? = some a → l[j]? = some b → ltS a b = true
theorem nmB_rising : ∀ (l : List ByteArray) (q : Option ByteArray), nmB q l = true → Rising l ∧ (∀ s ∈ l, nameOk s = true) ∧ ∀ p, q = some p → ∀ s ∈ l, ltS p s = true
  | [], q, _ => ⟨by intro i j a b _ h; simp at h, by simp, by simp⟩
  | s :: l, q, h => by
    simp only [nmB, Bool.and_eq_true] at h
    obtain ⟨⟨h1, h2⟩, h3⟩ := h
    obtain ⟨r1, r2, r3⟩ := nmB_rising l (some s) h3
    refine ⟨fun i j a b hij ha hb => ?_, fun u hu => ?_, fun p hp u hu => ?_⟩
    · match i, j with
      | 0, 0 => omega
      | 0, j + 1 =>
        obtain rfl : s = a := by simpa using ha
        exact r3 s rfl b (List.mem_of_getElem? (by simpa using hb))
      | i + 1, 0 => omega
      | i + 1, j + 1 => exact r1 i j a b (by omega) (by simpa using ha) (by simpa using hb)
    · rcases List.mem_cons.1 hu with rfl | hu
      · exact h1
      · exact r2 u hu
    · subst hp
      rcases List.mem_cons.1 hu with rfl | hu
      · exact h2
      · exact ltS_trans h2 (r3 s rfl u hu)
def SameW (v : Value) (w : World) (e : Ending) (w' : World) : Prop := e = .returned v ∧ w = w'
theorem nan88_calls (s : ByteArray) (w : World) : Calls Tryd.prog 88 #[.string s] w (SameW (.bool false) w) := by
  go_enter Tryd.func88, Tryd.ntmps88
  go_wp2
  go_ret
  exact ⟨by simp, rfl⟩
theorem nan104_calls (s : ByteArray) (w : World) : Calls Tryd.prog 104 #[.string s] w (SameW (.bool false) w) := by
  go_enter Tryd.func104, Tryd.ntmps104
  go_wp2
  go_ret
  exact ⟨by simp, rfl⟩
theorem less_calls (a b : ByteArray) (w : World) : Calls Tryd.prog 87 #[.string a, .string b] w (SameW (.bool (ltS a b)) w) := by
  go_enter Tryd.func87, Tryd.ntmps87
  go_wp2_with fail
  refine (nan104_calls a w).mono ?_
  rintro e _ ⟨rfl, rfl⟩
  go_wp2_with fail
  go_ret
  exact ⟨rfl, rfl⟩
def SearchP (ns : List ByteArray) (x : ByteArray) (w : World) (e : Ending) (w' : World) : Prop :=
  ∃ (i : Nat) (f : Bool), e = .returned (.tuple #[.int .i64 i, .bool f]) ∧ (f = true → ns[i]? = some x) ∧ (f = false → x ∉ ns) ∧ w = w'
set_option maxHeartbeats 1000000 in
theorem Search_calls (B : Nat → Prop) (w : World) (A : Option Addr) (c : Nat) (ns : List ByteArray) (x : ByteArray) (h : Sl B w 1 (.slice A ns.length c) ns.length (ns.map Value.string)) (hr : Rising ns) (hl : ns.length ≤ 100000000) :
    Calls Tryd.prog 64 #[.slice A ns.length c, .string x] w (SearchP ns x w) := by
  have H := Av.mk h
  have HR := Av.mk hr
  clear h hr
  go_enter Tryd.func64, Tryd.ntmps64
  go_wp2_with fail
  go_loop [7, 8] (fun s7 s8 => ∃ (i j : Nat), i ≤ j ∧ j ≤ ns.length ∧ s7 = .int .i64 i ∧ s8 = .int .i64 j ∧ Av ((∀ p a, p < i → ns[p]? = some a → ltS a x = true) ∧ ∀ p a, j ≤ p → ns[p]? = some a → ltS a x = false)) (fun s7 s8 => (intOf s8).toNat - (intOf s7).toNat)
  case atStart => exact ⟨0, ns.length, by omega, by omega, rfl, rfl, ⟨fun p a h => by omega, fun p a h1 h2 => by rw [List.getElem?_eq_none h1] at h2; cases h2⟩⟩
  case round =>
    obtain ⟨i, j, hij, hj, rfl, rfl, HI⟩ := hrel
    by_cases hlt : i < j
    · obtain ⟨m, hm⟩ : ∃ m : Nat, (i + j) / 2 = m := ⟨_, rfl⟩
      have hm2 : ((i : Int) + (j : Int)) / 2 = (m : Int) := by omega
      have hm3 : i ≤ m := by omega
      have hm4 : m < j := by omega
      clear hm
      obtain ⟨s, hs⟩ : ∃ s, ns[m]? = some s := ⟨_, List.getElem?_eq_getElem (by omega)⟩
      obtain ⟨b, off, rfl, _, hbl, hc, cs, hall⟩ := H.out.str hs
      obtain ⟨lb, hlb⟩ : ∃ lb, ltS s x = lb := ⟨_, rfl⟩
      have HL := Av.mk (less_calls s x w)
      rw [hlb] at HL
      have HLB := Av.mk hlb
      have HS := Av.mk hs
      clear hs hlb hall
      cases lb
      case true =>
        go_wp2_with fail
        refine HL.out.mono ?_
        rintro e _ ⟨rfl, rfl⟩
        go_wp2_with fail
        go_round
        case rel => exact ⟨m + 1, j, by omega, hj, by go_num, rfl, ⟨fun p a hp ha => by
          rcases Nat.lt_or_ge p m with h | h
          · exact ltS_trans (HR.out p m a s h ha HS.out) HLB.out
          · obtain rfl : p = m := by omega
            rw [HS.out] at ha
            injection ha with ha
            rw [← ha]
            exact HLB.out, HI.out.2⟩⟩
        case measure => simp [intOf]; omega
      case false =>
        go_wp2_with fail
        refine HL.out.mono ?_
        rintro e _ ⟨rfl, rfl⟩
        go_wp2_with fail
        go_round
        case rel => exact ⟨i, m, hm3, by omega, rfl, rfl, ⟨HI.out.1, fun p a hp ha => by
          rcases Nat.lt_or_ge m p with h | h
          · cases hax : ltS a x
            · rfl
            · have := ltS_trans (HR.out m p s a h HS.out ha) hax
              rw [HLB.out] at this
              cases this
          · obtain rfl : p = m := by omega
            rw [HS.out] at ha
            injection ha with ha
            rw [← ha]
            exact HLB.out⟩⟩
        case measure => simp [intOf]; omega
    · obtain rfl : i = j := by omega
      have HX : Av (∀ p, p < i → ns[p]? ≠ some x) := ⟨fun p hp hx => by have := HI.out.1 p x hp hx; rw [ltS_irrefl] at this; cases this⟩
      by_cases hin : i < ns.length
      · obtain ⟨s, hs⟩ : ∃ s, ns[i]? = some s := ⟨_, List.getElem?_eq_getElem hin⟩
        obtain ⟨b, off, rfl, _, hbl, hc, cs, hall⟩ := H.out.str hs
        have HS := Av.mk hs
        clear hs hall
        by_cases hsx : s = x
        · subst hsx
          go_wp2_with fail
          refine bodyPost_ret (v := .tuple #[.int .i64 i, .bool true]) (by simp [results, Tryd.results64, go_sem]) rfl ?_
          exact ⟨i, true, rfl, fun _ => HS.out, (fun h => by cases h), rfl⟩
        · have HNX : Av (x ∉ ns) := ⟨fun hm => by
            obtain ⟨p, hp⟩ := List.getElem?_of_mem hm
            rcases Nat.lt_or_ge p i with h | h
            · exact HX.out p h hp
            · rcases Nat.eq_or_lt_of_le h with h | h
              · subst h
                rw [HS.out] at hp
                injection hp with hp
                exact hsx hp
              · have h1 := HR.out i p s x h HS.out hp
                rw [HI.out.2 i s (Nat.le_refl _) HS.out] at h1
                cases h1⟩
          have hne : (s.toList == x.toList) = false := by
            have : ¬ s.toList = x.toList := fun e => hsx (by
              rw [toList_eq, toList_eq] at e
              cases s; cases x
              simp at e
              rw [e])
            simpa using this
          have hne2 : ¬ s.toList = x.toList := by simpa using hne
          go_wp2_with fail
          refine (nan88_calls s w).mono ?_
          rintro e _ ⟨rfl, rfl⟩
          go_wp2_with fail
          refine bodyPost_ret (v := .tuple #[.int .i64 i, .bool false]) (by simp [results, Tryd.results64, go_sem]) rfl ?_
          exact ⟨i, false, rfl, (fun h => by cases h), fun _ => HNX.out, rfl⟩
      · have HNX : Av (x ∉ ns) := ⟨fun hm => by
          obtain ⟨p, hp⟩ := List.getElem?_of_mem hm
          have := (List.getElem?_eq_some_iff.1 hp).1
          exact HX.out p (by omega) hp⟩
        go_wp2_with fail
        refine bodyPost_ret (v := .tuple #[.int .i64 i, .bool false]) (by simp [results, Tryd.results64, go_sem]) rfl ?_
        exact ⟨i, false, rfl, (fun h => by cases h), fun _ => HNX.out, rfl⟩
end Go.Proofs.YtkmojgdjapfbbaaDoor
