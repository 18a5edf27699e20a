/- The contracts of package gate that write. -/
import Derived.Test.YtjehcdedljckbaaGate
namespace Go.Proofs.Ytjehcdedljckbaa
open Go.RowKit Go.Maps
set_option linter.unusedSimpArgs false
set_option linter.unusedVariables false

/-- What was one's own or is new. -/
def Near (w : World) (a b : Option Nat) : Prop := ∀ k, b = some k → a = some k ∨ w.heap.size ≤ k
theorem Near.refl (w : World) (a : Option Nat) : Near w a a := fun _ h => .inl h
/-- A gate behind a call. -/
def GtP (v : Value) (base g : Nat) (rv : Value) (D' : DataW Unit) (W' : Int) (qv : Value) (Q' : List Int) (w : World) (e : Ending) (w' : World) : Prop :=
  ∃ rv' qv', e = .returned v ∧ Gt w' base g rv' D' W' qv' Q' ∧ Keep (fun k => k = g ∨ rvB rv = some k ∨ qv.ownBlock = some k) w w' ∧ Near w (rvB rv) (rvB rv') ∧ Near w qv.ownBlock qv'.ownBlock

section
variable {w w' : World} {base g : Nat} {rv : Value} {D : DataW Unit} {W : Int} {qv : Value} {Q : List Int}
theorem key99 (id : Int) (h0 : 0 ≤ id) (h1 : id ≤ 1000) : keyOf Try.prog 3 (.int .i64 id) = some (iOf id) := key3 (wf64 (by omega) (by omega))
theorem Gt.setW (h : Gt w base g rv D W qv Q) (x : Int) : Gt (w.setCell ⟨g, 1, none⟩ (.int .i64 x)) base g rv D x qv Q := by
  have hk := (Keep.refl (fun k => k = g) w).setCell (p := ⟨g, 1, none⟩) (fun _ => rfl) (.int .i64 x)
  exact ⟨by simpa using h.blk.set_ 1 (.int .i64 x), h.rm.keep hk (h.rm.ne_blk h.blk), h.q.keep hk (h.q.ne_blk h.blk (by decide)), h.hg⟩
theorem Gt.setQ (h : Gt w base g rv D W qv Q) (v : Value) (Q' : List Int) (hv : QRow w base 3 v (ints Q')) : Gt (w.setCell ⟨g, 2, none⟩ v) base g rv D W v Q' := by
  have hk := (Keep.refl (fun k => k = g) w).setCell (p := ⟨g, 2, none⟩) (fun _ => rfl) v
  exact ⟨by simpa using h.blk.set_ 2 v, h.rm.keep hk (h.rm.ne_blk h.blk), hv.keep hk (hv.ne_blk h.blk (by decide)), h.hg⟩
theorem Gt.setR (h : Gt w base g rv D W qv Q) (v : Value) (D' : DataW Unit) (hv : RM w base v D') : Gt (w.setCell ⟨g, 0, none⟩ v) base g v D' W qv Q := by
  have hk := (Keep.refl (fun k => k = g) w).setCell (p := ⟨g, 0, none⟩) (fun _ => rfl) v
  exact ⟨by simpa using h.blk.set_ 0 v, hv.keep hk (hv.ne_blk h.blk), h.q.keep hk (h.q.ne_blk h.blk (by decide)), h.hg⟩
theorem keepg {a : World} (h : Keep (fun k => k = g ∨ rvB rv = some k ∨ qv.ownBlock = some k) a w) (i : Nat) (u : Value) : Keep (fun k => k = g ∨ rvB rv = some k ∨ qv.ownBlock = some k) a (w.setCell ⟨g, i, none⟩ u) :=
  h.setCell (p := ⟨g, i, none⟩) (fun _ => .inl rfl) u
theorem keep0 (hb : Below w.heap.size w w') : Keep (fun k => k = g ∨ rvB rv = some k ∨ qv.ownBlock = some k) w w' := (Keep.of_below (S := fun _ => False) hb).mono (fun k _ h => h.elim)

/-- Somebody goes out, who wasn't in. -/
theorem Leave_no (h : Gt w base g rv D W qv Q) (id : Int) (h0 : 0 ≤ id) (h1 : id ≤ 1000) (hin : isIn D W id = false) : Calls Try.prog 18 #[.pointer (some ⟨g, 0, none⟩), .int .i64 id] w (RetB (.bool false) w) := by
  have HIN := Av.mk (In_calls h id h0 h1)
  rw [hin] at HIN
  clear h hin
  go_enter Try.func18, Try.ntmps18
  go_wp2_with fail
  refine HIN.out.mono ?_
  rintro e w1 ⟨rfl, hb⟩
  have HB := Av.mk hb
  clear hb
  go_wp2_with fail
  go_ret
  exact ⟨rfl, HB.out⟩
/-- Who writes, when somebody has gone. -/
def lvW (W id : Int) : Int := if W = id + 1 then 0 else W
/-- Somebody goes out. -/
theorem Leave_yes (h : Gt w base g rv D W qv Q) (id : Int) (h0 : 0 ≤ id) (h1 : id ≤ 1000) (hin : isIn D W id = true) : Calls Try.prog 18 #[.pointer (some ⟨g, 0, none⟩), .int .i64 id] w (GtP (.bool true) base g rv (D.del (iOf id)) (lvW W id) qv Q w) := by
  have HIN := Av.mk (In_calls h id h0 h1)
  rw [hin] at HIN
  have H := Av.mk h
  have hkey := Av.mk (key99 id h0 h1)
  clear h hin
  by_cases hW : W = id + 1
  · have hWb : (W == id + 1) = true := by simpa using hW
    have HL := Av.mk (show lvW W id = 0 from if_pos hW)
    clear hW
    go_enter Try.func18, Try.ntmps18
    go_wp2_with fail
    refine HIN.out.mono ?_
    rintro e w1 ⟨rfl, hb⟩
    have H1 := Av.mk (H.out.below hb)
    have K1 := Av.mk (keep0 (g := g) (rv := rv) (qv := qv) hb)
    clear hb
    have c0 := H1.out.blk.cell 0
    have lg := H1.out.blk.lt
    simp at c0
    go_wp2_with (first | (at_delete; refine wpList_delR (rv := rv) rfl _ _ rfl rfl H1.out.rm _ _ rfl hkey.out ?_; intro w2 hr2 hk2; have HK2 := Av.mk hk2; have HR2 := Av.mk hr2; clear hr2 hk2; have H2 := Av.mk (show Gt w2 base g rv (D.del (iOf id)) W qv Q from ⟨H1.out.blk.keep HK2.out (fun e => H1.out.rm.ne_blk H1.out.blk _ e rfl), HR2.out, H1.out.q.keep HK2.out (fun k hk e => H1.out.rm.ne_q H1.out.q _ e k hk rfl), H1.out.hg⟩); have d1 := H2.out.blk.cell 1; have f1 := H2.out.blk.frozen 1; have lg2 := H2.out.blk.lt; simp at d1))
    have K2 := Av.mk (K1.out.trans (HK2.out.mono (fun k _ e => .inr (.inl ((rvB_iff H1.out.rm).2 e)))))
    go_wp2_with fail
    go_ret
    exact ⟨rv, qv, rfl, by rw [HL.out]; exact H2.out.setW 0, keepg K2.out 1 _, Near.refl _ _, Near.refl _ _⟩
  · have hWb : (W == id + 1) = false := by simpa using hW
    have HL := Av.mk (show lvW W id = W from if_neg hW)
    clear hW
    go_enter Try.func18, Try.ntmps18
    go_wp2_with fail
    refine HIN.out.mono ?_
    rintro e w1 ⟨rfl, hb⟩
    have H1 := Av.mk (H.out.below hb)
    have K1 := Av.mk (keep0 (g := g) (rv := rv) (qv := qv) hb)
    clear hb
    have c0 := H1.out.blk.cell 0
    have lg := H1.out.blk.lt
    simp at c0
    go_wp2_with (first | (at_delete; refine wpList_delR (rv := rv) rfl _ _ rfl rfl H1.out.rm _ _ rfl hkey.out ?_; intro w2 hr2 hk2; have HK2 := Av.mk hk2; have HR2 := Av.mk hr2; clear hr2 hk2; have H2 := Av.mk (show Gt w2 base g rv (D.del (iOf id)) W qv Q from ⟨H1.out.blk.keep HK2.out (fun e => H1.out.rm.ne_blk H1.out.blk _ e rfl), HR2.out, H1.out.q.keep HK2.out (fun k hk e => H1.out.rm.ne_q H1.out.q _ e k hk rfl), H1.out.hg⟩); have d1 := H2.out.blk.cell 1; have f1 := H2.out.blk.frozen 1; have lg2 := H2.out.blk.lt; simp at d1))
    have K2 := Av.mk (K1.out.trans (HK2.out.mono (fun k _ e => .inr (.inl ((rvB_iff H1.out.rm).2 e)))))
    go_wp2_with fail
    go_ret
    exact ⟨rv, qv, rfl, by rw [HL.out]; exact H2.out, K2.out, Near.refl _ _, Near.refl _ _⟩
end
end Go.Proofs.Ytjehcdedljckbaa
