/- The gate: Write. -/
import Derived.Test.YtjehcdedljckbaaGate3
import Derived.Deep.DeepCutAuto
namespace Go.Proofs.Ytjehcdedljckbaa
open Go.RowKit Go.Maps
set_option linter.unusedSimpArgs false
set_option linter.unusedVariables false

theorem info3 : ∃ i, Try.prog.info? 3 = some i ∧ i.zero = some (.int .i64 0) ∧ i.size = 1 ∧ i.bytes = 8 := by
  have h : (Try.prog.info? 3).map (fun i => (i.zero, i.size, i.bytes)) = some (some (.int .i64 0), 1, 8) := by kernel_rfl
  obtain ⟨i, hi, e⟩ := Option.map_eq_some_iff.1 h
  simp only [Prod.mk.injEq] at e
  exact ⟨i, hi, e.1, e.2.1, e.2.2⟩

section
variable {w w' : World} {base g : Nat} {rv : Value} {D : DataW Unit} {W : Int} {qv : Value} {Q : List Int}
/-- Who is in does not write anew. -/
theorem Write_in (h : Gt w base g rv D W qv Q) (id : Int) (h0 : 0 ≤ id) (h1 : id ≤ 1000) (hin : isIn D W id = true) : Calls Try.prog 17 #[.pointer (some ⟨g, 0, none⟩), .int .i64 id] w (RetB (.bool false) w) := by
  have HIN := Av.mk (In_calls h id h0 h1)
  rw [hin] at HIN
  clear h hin
  go_enter Try.func17, Try.ntmps17
  go_wp2_with fail
  refine HIN.out.mono ?_
  rintro e w1 ⟨rfl, hb⟩
  have HB := Av.mk hb
  clear hb
  go_wp2_with fail
  go_ret
  exact ⟨rfl, HB.out⟩

theorem plc_at {A B : List Int} {id : Int} (hA : id ∉ A) : plc (A ++ id :: B) A.length = A.length ∧ A.length ≤ (A ++ id :: B).length ∧ (∀ j, j < A.length → (A ++ id :: B)[j]? ≠ some id) ∧ (A.length < (A ++ id :: B).length → (A ++ id :: B)[A.length]? = some id) := by
  refine ⟨by unfold plc; simp, by simp, fun j hj h => ?_, fun _ => by simp⟩
  rw [List.getElem?_append_left hj] at h
  exact hA (List.mem_of_getElem? h)
theorem plc_not {Q : List Int} {id : Int} (hQ : id ∉ Q) : plc Q Q.length = -1 ∧ (∀ j, j < Q.length → Q[j]? ≠ some id) := by
  refine ⟨by unfold plc; simp, fun j hj h => hQ (List.mem_of_getElem? h)⟩

/-- Who waits, waits on. -/
theorem Write_wait {A B : List Int} {id : Int} (h : Gt w base g rv D W qv (A ++ id :: B)) (h0 : 0 ≤ id) (h1 : id ≤ 1000) (hin : isIn D W id = false) (hA : id ∉ A) (hl : (A ++ id :: B).length ≤ 1000) (hno : A ≠ [] ∨ W ≠ 0 ∨ 0 < Maps.size D) :
    Calls Try.prog 17 #[.pointer (some ⟨g, 0, none⟩), .int .i64 id] w (RetB (.bool false) w) := by
  have HIN := Av.mk (In_calls h id h0 h1)
  rw [hin] at HIN
  have H := Av.mk h
  obtain ⟨p1, p2, p3, p4⟩ := plc_at (B := B) hA
  have HP : Av (∀ w1, Gt w1 base g rv D W qv (A ++ id :: B) → Calls Try.prog 20 #[.pointer (some ⟨g, 0, none⟩), .int .i64 id] w1 fun e w' => e = .returned (.int .i64 (A.length : Int)) ∧ w1 = w') :=
    ⟨fun w1 hw => by have := place_calls hw id hl A.length p2 p3 p4; rw [p1] at this; exact this⟩
  clear h hin p1 p2 p3 p4 hl
  have go : ∀ (a b : Bool), (decide (0 < A.length) = a) → ((W != 0) = b) → (a = false → b = false → decide (0 < Maps.size D) = true) → Calls Try.prog 17 #[.pointer (some ⟨g, 0, none⟩), .int .i64 id] w (RetB (.bool false) w) := by
    intro a b ha hb hc
    cases a <;> cases b
    case false.false =>
      have hd := hc rfl rfl
      clear hc hno
      go_enter Try.func17, Try.ntmps17
      go_wp2_with fail
      refine HIN.out.mono ?_
      rintro e w1 ⟨rfl, hbl⟩
      have HB := Av.mk hbl
      have H1 := Av.mk (H.out.below hbl)
      clear hbl
      go_wp2_with fail
      refine (HP.out w1 H1.out).mono ?_
      rintro e _ ⟨rfl, rfl⟩
      have c0 := H1.out.blk.cell 0
      have c1 := H1.out.blk.cell 1
      simp at c0 c1
      have hlen := fun ty => H1.out.rm.run_len ty
      go_wp2_with fail
      go_ret
      exact ⟨rfl, HB.out⟩
    all_goals
      clear hc hno
      go_enter Try.func17, Try.ntmps17
      go_wp2_with fail
      refine HIN.out.mono ?_
      rintro e w1 ⟨rfl, hbl⟩
      have HB := Av.mk hbl
      have H1 := Av.mk (H.out.below hbl)
      clear hbl
      go_wp2_with fail
      refine (HP.out w1 H1.out).mono ?_
      rintro e _ ⟨rfl, rfl⟩
      have c0 := H1.out.blk.cell 0
      have c1 := H1.out.blk.cell 1
      simp at c0 c1
      go_wp2_with fail
      go_ret
      exact ⟨rfl, HB.out⟩
  refine go _ _ rfl rfl fun ha hb => ?_
  have ha' : ¬ 0 < A.length := by simpa using ha
  have hb' : W = 0 := by simpa using hb
  rcases hno with h | h | h
  · exact absurd (List.eq_nil_of_length_eq_zero (by omega)) h
  · exact absurd hb' h
  · simpa using h
end
end Go.Proofs.Ytjehcdedljckbaa
