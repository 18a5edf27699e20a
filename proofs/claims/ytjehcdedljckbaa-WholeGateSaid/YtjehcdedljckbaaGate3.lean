/- The gate: Read. -/
import Derived.Test.YtjehcdedljckbaaGate2
namespace Go.Proofs.Ytjehcdedljckbaa
open Go.RowKit Go.Maps
set_option linter.unusedSimpArgs false
set_option linter.unusedVariables false

section
variable {w w' : World} {base g : Nat} {rv : Value} {D : DataW Unit} {W : Int} {qv : Value} {Q : List Int}
/-- Not now. -/
theorem Read_no (h : Gt w base g rv D W qv Q) (id : Int) (h0 : 0 ≤ id) (h1 : id ≤ 1000) (hno : W ≠ 0 ∨ Q ≠ [] ∨ isIn D W id = true) : Calls Try.prog 15 #[.pointer (some ⟨g, 0, none⟩), .int .i64 id] w (RetB (.bool false) w) := by
  have HIN := Av.mk (In_calls h id h0 h1)
  have c1 := h.blk.cell 1
  have c2 := h.blk.cell 2
  obtain ⟨a, c, hqv, _⟩ := h.q.shape
  simp only [ints, List.length_map] at hqv
  subst hqv
  simp at c1 c2
  clear h
  by_cases hW : W = 0
  · have hWb : (W != 0) = false := by simpa using hW
    by_cases hQ : 0 < Q.length
    · clear hno hW
      go_enter Try.func15, Try.ntmps15
      go_wp2_with fail
      go_ret
      exact ⟨rfl, Below.refl _ _⟩
    · have hQn : Q = [] := List.eq_nil_of_length_eq_zero (by omega)
      have hin : isIn D W id = true := by
        rcases hno with h | h | h
        · exact absurd hW h
        · exact absurd hQn h
        · exact h
      rw [hin] at HIN
      clear hin hno hQn hW
      go_enter Try.func15, Try.ntmps15
      go_wp2_with fail
      refine HIN.out.mono ?_
      rintro e w1 ⟨rfl, hb⟩
      have HB := Av.mk hb
      clear hb
      go_wp2_with fail
      go_ret
      exact ⟨rfl, HB.out⟩
  · have hWb : (W != 0) = true := by simpa using hW
    clear hno hW
    go_enter Try.func15, Try.ntmps15
    go_wp2_with fail
    go_ret
    exact ⟨rfl, Below.refl _ _⟩

def unitD : DataW Unit := .held ()
/-- Somebody comes in to read. -/
theorem Read_yes (h : Gt w base g rv D 0 qv []) (id : Int) (h0 : 0 ≤ id) (h1 : id ≤ 1000) (hin : isIn D 0 id = false) (hsz : Maps.size D ≤ 1000000) : Calls Try.prog 15 #[.pointer (some ⟨g, 0, none⟩), .int .i64 id] w (GtP (.bool true) base g rv (D.put (iOf id) (.held ())) 0 qv [] w) := by
  have HIN := Av.mk (In_calls h id h0 h1)
  rw [hin] at HIN
  have H := Av.mk h
  have hkey := Av.mk (key99 id h0 h1)
  have c1 := h.blk.cell 1
  have c2 := h.blk.cell 2
  obtain ⟨a, c, hqv, _⟩ := h.q.shape
  simp only [ints, List.length_map] at hqv
  subst hqv
  simp at c1 c2
  have hrm := h.rm
  have hmm := @run_makeMap Try.prog
  clear h hin
  have qT : ∀ (w : World) (r : Option Nat), (binOp .eql 44 (.map r) (.map none)).run Try.prog w = .ok (.bool r.isNone) w := fun w r => run_eql_map_nil w 44 3 48 r Try.underlying44
  rcases hrm with ⟨rfl, rfl⟩ | ⟨b, rfl, hb, hm⟩
  · go_enter Try.func15, Try.ntmps15
    go_wp2_with fail
    refine HIN.out.mono ?_
    rintro e w1 ⟨rfl, hb⟩
    have H1 := Av.mk (H.out.below hb)
    have K1 := Av.mk (keep0 (g := g) (rv := .map none) (qv := .slice a 0 c) hb)
    have hsz1 := hb.size
    have hbs : base ≤ w1.heap.size := by have := H.out.hg; have := H1.out.blk.lt; omega
    clear hb
    have d0 := H1.out.blk.cell 0
    have f0 := H1.out.blk.frozen 0
    have lg := H1.out.blk.lt
    simp at d0
    have hal := ((Keep.refl (fun k => k = g) w1).setCell (p := ⟨g, 0, none⟩) (fun _ => rfl) (.map (some w1.heap.size))).alloc (.map #[] 0)
    have HO : Av (((w1.setCell ⟨g, 0, none⟩ (.map (some w1.heap.size))).alloc (.map #[] 0)).ownsMap Try.prog 3 (rdr decU) w1.heap.size 0 (.map [])) := ⟨by
      have h := World.ownsMap_made (w1.setCell ⟨g, 0, none⟩ (.map (some w1.heap.size))) Try.prog 3 (rdr decU)
      rw [show (w1.setCell ⟨g, 0, none⟩ (.map (some w1.heap.size))).heap.size = w1.heap.size from by simp [World.setCell]] at h
      exact h⟩
    have H2 : Av (Gt ((w1.setCell ⟨g, 0, none⟩ (.map (some w1.heap.size))).alloc (.map #[] 0)) base g (.map (some w1.heap.size)) (.map []) 0 (.slice a 0 c) []) := ⟨⟨by
      have h := (H1.out.blk.set_ 0 (.map (some w1.heap.size))).alloc (.map #[] 0)
      simpa using h, .inr ⟨_, rfl, hbs, HO.out⟩, H1.out.q.keep hal (H1.out.q.ne_blk H1.out.blk (by decide)), H1.out.hg⟩⟩
    have K2 := Av.mk ((keepg K1.out 0 (.map (some w1.heap.size))).alloc (.map #[] 0))
    clear hal
    go_wp2_with (first | (at_mapUpdate; refine wpList_store decU rfl _ _ _ 44 rfl 3 48 law3 Try.underlying44 w1.heap.size 0 (.map []) rfl HO.out (by decide) _ _ _ rfl rfl hkey.out () rfl ?_; intro w5 hown5 hturn5; have HO5 := Av.mk hown5; have HT5 := Av.mk hturn5; clear hown5 hturn5))
    go_ret
    have hk : Keep (fun k => k = w1.heap.size) ((w1.setCell ⟨g, 0, none⟩ (.map (some w1.heap.size))).alloc (.map #[] 0)) w5 := (Keep.refl _ _).turned HT5.out (fun _ => rfl)
    refine ⟨.map (some w1.heap.size), .slice a 0 c, rfl, ⟨H2.out.blk.keep hk (by omega), .inr ⟨_, rfl, hbs, ownsMap_tight HO5.out⟩, H2.out.q.keep hk (H2.out.q.ne_map HO.out), H2.out.hg⟩, ?_, fun k hk => .inr ?_, Near.refl _ _⟩
    · refine ⟨hk.os.trans K2.out.os, hk.tape.trans K2.out.tape, hk.output.trans K2.out.output, Nat.le_trans K2.out.size hk.size, fun j hj hs => ?_⟩
      rw [hk.block j (Nat.lt_of_lt_of_le hj K2.out.size) (by omega)]
      exact K2.out.block j hj hs
    · simp [rvB] at hk
      omega
  · go_enter Try.func15, Try.ntmps15
    go_wp2_with fail
    refine HIN.out.mono ?_
    rintro e w1 ⟨rfl, hb⟩
    have H1 := Av.mk (H.out.below hb)
    have K1 := Av.mk (keep0 (g := g) (rv := .map (some b)) (qv := .slice a 0 c) hb)
    clear hb
    have d0 := H1.out.blk.cell 0
    have lg := H1.out.blk.lt
    simp at d0
    have HO : Av (w1.ownsMap Try.prog 3 (rdr decU) b (Maps.size D) D) := by
      rcases H1.out.rm with ⟨h, _⟩ | ⟨b, h, _, hm⟩
      · cases h
      · cases h; exact ⟨hm⟩
    go_wp2_with (first | (at_mapUpdate; refine wpList_store decU rfl _ _ _ 44 rfl 3 48 law3 Try.underlying44 b _ D rfl HO.out (by unfold maxLen; omega) _ _ _ rfl rfl hkey.out () rfl ?_; intro w5 hown5 hturn5; have HO5 := Av.mk hown5; have HT5 := Av.mk hturn5; clear hown5 hturn5))
    go_ret
    have hk : Keep (fun k => k = b) w1 w5 := (Keep.refl _ _).turned HT5.out (fun _ => rfl)
    exact ⟨.map (some b), .slice a 0 c, rfl, ⟨H1.out.blk.keep hk (fun e => map_ne_blk HO.out H1.out.blk e.symm), .inr ⟨_, rfl, hb, ownsMap_tight HO5.out⟩, H1.out.q.keep hk (H1.out.q.ne_map HO.out), H1.out.hg⟩, K1.out.trans (hk.mono (fun k _ e => .inr (.inl (by rw [e]; rfl)))), Near.refl _ _, Near.refl _ _⟩
end
end Go.Proofs.Ytjehcdedljckbaa
