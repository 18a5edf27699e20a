/- The contracts of package gate. -/
import Derived.Test.YtjehcdedljckbaaQu
import Derived.Test.YtjehcdedljckbaaSpk
namespace Go.Proofs.Ytjehcdedljckbaa
open Go.RowKit Go.Maps
set_option linter.unusedSimpArgs false
set_option linter.unusedVariables false

def rvB (v : Value) : Option Nat := match v with
  | .map x => x
  | _ => none
theorem rvB_iff {w : World} {base : Nat} {rv : Value} {D : DataW Unit} (h : RM w base rv D) {k : Nat} : rvB rv = some k ↔ rv = .map (some k) := by
  rcases h with ⟨rfl, _⟩ | ⟨b, rfl, _⟩ <;> simp [rvB]
def ints (Q : List Int) : List Value := Q.map (Value.int .i64)
/-- A gate: who reads, who writes (one more; 0: nobody), who waits. -/
structure Gt (w : World) (base g : Nat) (rv : Value) (D : DataW Unit) (W : Int) (qv : Value) (Q : List Int) : Prop where
  blk : Blk w g 47 #[rv, .int .i64 W, qv]
  rm : RM w base rv D
  q : QRow w base 3 qv (ints Q)
  hg : base ≤ g

section
variable {w w' : World} {base g : Nat} {rv : Value} {D : DataW Unit} {W : Int} {qv : Value} {Q : List Int}
theorem Gt.keep {S : Nat → Prop} (h : Gt w base g rv D W qv Q) (hk : Keep S w w') (h1 : ¬ S g) (h2 : ∀ b, rv = .map (some b) → ¬ S b) (h3 : ∀ k, qv.ownBlock = some k → ¬ S k) : Gt w' base g rv D W qv Q :=
  ⟨h.blk.keep hk h1, h.rm.keep hk h2, h.q.keep hk h3, h.hg⟩
theorem Gt.below (h : Gt w base g rv D W qv Q) (hb : Below w.heap.size w w') : Gt w' base g rv D W qv Q := h.keep (S := fun _ => False) (Keep.of_below hb) (by simp) (by simp) (by simp)

def isIn (D : DataW Unit) (W id : Int) : Bool := Maps.has D (iOf id) || decide (W = id + 1)

set_option maxHeartbeats 400000 in
theorem In_calls (h : Gt w base g rv D W qv Q) (id : Int) (h0 : 0 ≤ id) (h1 : id ≤ 1000) : Calls Try.prog 16 #[.pointer (some ⟨g, 0, none⟩), .int .i64 id] w (RetB (.bool (isIn D W id)) w) := by
  have c0 := h.blk.cell 0
  have c1 := h.blk.cell 1
  have hlt := h.blk.lt
  have HR := Av.mk h.rm
  have hkey := Av.mk (key3 (id := id) (wf64 (by omega) (by omega)))
  simp at c0 c1
  clear h
  obtain ⟨hb, hhb⟩ : ∃ hb, Maps.has D (iOf id) = hb := ⟨_, rfl⟩
  have HI := Av.mk (show isIn D W id = (hb || decide (W = id + 1)) by unfold isIn; rw [hhb])
  cases hb
  all_goals
    go_enter Try.func16, Try.ntmps16
    go_wp2_with (first | (at_lookup; refine wpList_lookR rfl _ _ rfl rfl HR.out _ _ rfl hkey.out ?_))
    go_ret
    exact ⟨by rw [HI.out]; first | rfl | (simp; done) | (simp; rfl), below_alloc (Below.refl _ _) _⟩

theorem Waiting_calls (h : Gt w base g rv D W qv Q) : Calls Try.prog 19 #[.pointer (some ⟨g, 0, none⟩)] w fun e w' => e = .returned (.int .i64 (Q.length : Int)) ∧ w = w' := by
  have c2 := h.blk.cell 2
  obtain ⟨a, c, hqv, _⟩ := h.q.shape
  simp only [ints, List.length_map] at hqv
  subst hqv
  simp at c2
  clear h
  go_enter Try.func19, Try.ntmps19
  go_wp2
  go_ret
  exact ⟨rfl, rfl⟩

/-- Where somebody waits. -/
def plc (Q : List Int) (p : Nat) : Int := if p < Q.length then p else -1
set_option maxHeartbeats 400000 in
theorem place_calls (h : Gt w base g rv D W qv Q) (id : Int) (hQ : Q.length ≤ 1000) (p : Nat) (hp : p ≤ Q.length) (hbe : ∀ j, j < p → Q[j]? ≠ some id) (hat : p < Q.length → Q[p]? = some id) :
    Calls Try.prog 20 #[.pointer (some ⟨g, 0, none⟩), .int .i64 id] w fun e w' => e = .returned (.int .i64 (plc Q p)) ∧ w = w' := by
  have c2 := h.blk.cell 2
  have HQ := Av.mk h.q
  obtain ⟨a, c, hqv, _⟩ := h.q.shape
  simp only [ints, List.length_map] at hqv
  subst hqv
  simp at c2
  have HB := Av.mk hbe
  have HA := Av.mk hat
  clear h hbe hat
  go_enter Try.func20, Try.ntmps20
  go_wp2_with fail
  go_loop [12] (fun i => ∃ k : Nat, k ≤ p ∧ i = .int .i64 k) (fun i => Q.length - (intOf i).toNat)
  case atStart => exact ⟨0, Nat.zero_le _, rfl⟩
  case round =>
    obtain ⟨k, hk, rfl⟩ := hrel
    by_cases hlt : k < Q.length
    · obtain ⟨gq, off, cap, hv, _, hql, hcap, hcells⟩ := HQ.out.at (by simp [ints]; omega)
      simp [ints] at hv
      obtain ⟨rfl, rfl⟩ := hv
      have hcell := hcells k (by simp [ints]; omega)
      obtain ⟨x, hx⟩ : ∃ x, Q[k]? = some x := ⟨_, List.getElem?_eq_getElem hlt⟩
      simp [ints, hx] at hcell
      clear hcells
      by_cases he : x = id
      · subst he
        have hkp : k = p := by
          rcases Nat.lt_or_ge k p with h | h
          · exact absurd hx (HB.out k h)
          · omega
        have HP := Av.mk (show plc Q p = (k : Int) by unfold plc; rw [← hkp, if_pos hlt])
        clear hkp hx
        go_wp2_with fail
        go_ret
        exact ⟨congrArg (fun x => Ending.returned (.int .i64 x)) HP.out.symm, rfl⟩
      · have hkp : k ≠ p := by
          rintro rfl
          have := HA.out hlt
          rw [hx] at this
          exact he (by injection this)
        clear hx
        go_wp2_with fail
        go_round
        case rel => exact ⟨k + 1, by omega, by go_num⟩
        case measure => simp [intOf]; omega
    · have HP := Av.mk (show plc Q p = -1 by unfold plc; rw [if_neg (by omega)])
      go_wp2_with fail
      go_ret
      exact ⟨congrArg (fun x => Ending.returned (.int .i64 x)) HP.out.symm, rfl⟩
end
end Go.Proofs.Ytjehcdedljckbaa
