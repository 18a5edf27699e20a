/- socagelaw02.speaks answers true; items that came in. -/
import Derived.Test.YtlajflcfpommoaaRd
import Derived.Deep.Slices
import Derived.Deep.Fields
import Derived.ChangeSame
import Derived.ProofKit
import Derived.OpenShut
namespace Go.Proofs.Ytlajflcfpommoaa
open Go.RowKit Go.Maps

theorem below_then {B : Nat} {w w1 w2 : World} (h : Below B w w1) (hB : B ≤ w1.heap.size) (k : Below w1.heap.size w1 w2) : Below B w w2 :=
  h.trans ⟨k.os, k.tape, k.output, k.size, fun i hi => k.block i (Nat.lt_of_lt_of_le hi hB)⟩
theorem below_keep {B : Nat} {w w1 w2 : World} {S : Nat → Prop} (h : Below B w w1) (hB : B ≤ w1.heap.size) (k : Keep S w1 w2) (hS : ∀ k, S k → B ≤ k) : Below B w w2 :=
  h.trans (k.below hB hS)
theorem Wr.base_of {w : World} {base g : Nat} {v : Value} {bs : List UInt8} (h : Wr w base g v bs) : ∀ k, (k = g ∨ some k = v.ownBlock) → base ≤ k := by
  rintro k (rfl | hk)
  · exact h.le
  · rcases h.row.2 with ⟨rfl, _⟩ | ⟨r, cap, cur, rfl, hb, _⟩
    · simp [Value.ownBlock] at hk
    · simp [Value.ownBlock] at hk; omega
/-- A writer that has nothing yet. -/
theorem Wr.new (w : World) (base : Nat) (hb : base ≤ w.heap.size) : Wr (w.alloc (.cells #[.slice none 0 0] 26)) base w.heap.size (.slice none 0 0) [] :=
  ⟨Blk.new w 26 _, ⟨by simp, .inl ⟨rfl, rfl⟩⟩, hb⟩

set_option maxHeartbeats 400000 in
theorem speaks_calls (w : World) : Calls Try.prog 6 #[] w (RetB (.bool true) w) := by
  go_enter Try.func6, Try.ntmps6
  go_wp2_with fail
  have HW := Av.mk (Wr.new w w.heap.size (Nat.le_refl _))
  have HB := Av.mk (below_alloc (Below.refl _ w) (.cells #[.slice none 0 0] 26))
  generalize w.alloc (.cells #[.slice none 0 0] 26) = w1 at *
  refine (WText_yes w.heap.size w.heap.size _ [] ⟨#[97, 98]⟩ 2 w1 HW.out (by decide) (by decide) (by decide) (by decide) (by decide)).mono ?_
  rintro e w2 ⟨rfl, v2, hw2, hk2⟩
  have HW2 := Av.mk (show Wr w2 w.heap.size w.heap.size v2 [0, 2, 97, 98] from hw2)
  have HB2 := Av.mk (below_keep HB.out HB.out.size hk2 HW.out.base_of)
  clear hw2 hk2
  go_wp2_with fail
  refine (Put_no w.heap.size 256 1 w2 (by decide)).mono ?_
  rintro e w3 ⟨rfl, rfl⟩
  go_wp2_with fail
  refine (WBytes _ _ _ _ w2 HW2.out).mono ?_
  rintro e w3 ⟨rfl, rfl⟩
  go_wp2_with fail
  refine (Read_calls _ w2).mono ?_
  rintro e w3 ⟨rfl, rfl⟩
  have HR := Av.mk (show Rd (w2.alloc (.cells #[.string (stOf [0, 2, 97, 98])] 46)) w2.heap.size (stOf [0, 2, 97, 98]) from Blk.new w2 46 _)
  have HW3 := Av.mk (HW2.out.keep (Keep.alloc (Keep.refl (fun _ => False) w2) (.cells #[.string (stOf [0, 2, 97, 98])] 46)) (by simp) (by simp))
  have HB3 := Av.mk (below_alloc HB2.out (.cells #[.string (stOf [0, 2, 97, 98])] 46))
  have hgr : w.heap.size ≤ w2.heap.size := HB2.out.size
  generalize w2.alloc (.cells #[.string (stOf [0, 2, 97, 98])] 46) = w3 at *
  generalize w2.heap.size = gr at *
  go_wp2_with fail
  refine (RText_yes gr _ 2 2 w3 HR.out (by decide) (by decide) (by decide) (by decide) (by decide) (by decide)).mono ?_
  rintro e w4 ⟨rfl, hr4, hk4⟩
  have HR4 := Av.mk hr4
  have HW4 := Av.mk (HW3.out.keep hk4 (fun h => Blk.ne_ HW3.out.blk HR.out (by decide) h) (fun k e h => HW3.out.ne_row HR.out (by decide) (by rw [e, h])))
  have HB4 := Av.mk (below_keep HB3.out HB3.out.size hk4 (by rintro k rfl; exact hgr))
  clear hr4 hk4
  go_wp2_with fail
  refine (WBytes _ _ _ _ w4 HW4.out).mono ?_
  rintro e w5 ⟨rfl, rfl⟩
  have e1 : (stOf [0, 2, 97, 98]).toList = [0, 2, 97, 98] := by decide +kernel
  have e2 : (((stOf [0, 2, 97, 98]).extract 2 (stOf [0, 2, 97, 98]).size).extract 0 2).toList = [97, 98] := by decide +kernel
  go_wp2_with fail
  refine (Left_calls gr _ w4 HR4.out).mono ?_
  rintro e w5 ⟨rfl, rfl⟩
  have e3 : (((stOf [0, 2, 97, 98]).extract 2 (stOf [0, 2, 97, 98]).size).extract 2 ((stOf [0, 2, 97, 98]).size - 2)).size = 0 := by decide +kernel
  go_wp2
  go_ret
  exact ⟨rfl, HB4.out⟩

/-- What is written or read: a number and of how many bytes, or a text. -/
structure It where
  n : Int
  sz : Int
  s : ByteArray
  is : Bool
def ItOk (x : It) : Prop := (Lit.int .i64 x.n).wf = true ∧ (Lit.int .i64 x.sz).wf = true ∧ x.s.size ≤ maxLen
/-- A slice of such that came in. -/
def Its (w : World) (A : Option Addr) (n : Nat) (F : Nat → It) : Prop :=
  0 < n → ∃ b off, A = some ⟨b, off, none⟩ ∧ b < w.heap.size ∧ ∀ i, i < n → ItOk (F i) ∧
    w.cell? ⟨b, off + i * 4, none⟩ = some (.int .i64 (F i).n) ∧ w.cell? ⟨b, off + i * 4 + 1, none⟩ = some (.int .i64 (F i).sz) ∧
    w.cell? ⟨b, off + i * 4 + 2, none⟩ = some (.string (F i).s) ∧ w.cell? ⟨b, off + i * 4 + 3, none⟩ = some (.bool (F i).is)
instance : Inhabited It := ⟨⟨0, 0, ByteArray.empty, false⟩⟩

section
open Go.ChangeShapes Go.WideShapes Go.ChangeAt Go.Deep
variable {H : Type} {enc : TypeId × Value → H} {P : Program} {w : World} {base : Nat} {spare : Nat → Bool} {held : Bool}
theorem open_slice_fields {t e : TypeId} {fs : Array Field} {fuel : Nat} {cs : List Value} {x : DataW H × List MemPlace} (ht : P.underlying t = some (.slice e)) (he : P.underlying e = some (.struct fs))
    (hone : oneCellFields P fs = true) (hC : P.cellsOf e = fs.size) (h : DataW.trod enc P w base spare held fuel t cs = some x) :
    (cs = [.slice none 0 0]) ∨
    ∃ (a : Addr) (len cap : Nat), cs = [.slice (some a) len cap] ∧ len ≤ cap ∧ cap ≤ maxLen ∧
      ∀ i, i < len → ∀ (j : Nat) (f : Field), fs[j]? = some f → ∃ (v : Value) (y : DataW H × List MemPlace) (n : Nat), w.cell? (a.add (i * fs.size + j)) = some v ∧ DataW.trod enc P w base spare held n f.type [v] = some y := by
  rcases open_slice ht h with ⟨h0, _⟩ | ⟨a, len, cap, m, n, D, Pl, hcs, hb, hl, hm, hmm, hx, hi⟩
  · exact .inl h0
  · refine .inr ⟨a, len, cap, hcs, hl, hm, fun i him j f hj => ?_⟩
    have hle : len ≤ m := by rw [hmm]; split <;> omega
    obtain ⟨cs', hc, ht'⟩ := hi i (by omega)
    rw [hC] at hc
    obtain ⟨ys, n', hn', hy, hlen, hyl, hf⟩ := DataW.trod_struct he ht'
    obtain ⟨_, hcl, hat⟩ := World.cells?_some hc
    obtain ⟨ho, hk⟩ := hone_of hone j f hj
    have hjl : j < fs.size := (Array.getElem?_eq_some_iff.1 hj).1
    have hcell := hat j hjl
    have hv : cs'[j]? = some (cs'[j]'(by omega)) := List.getElem?_eq_getElem (by omega)
    have h1 := hf j f hj
    rw [ho, hk] at h1
    have hone' : (cs'.drop j).take 1 = [cs'[j]'(by omega)] := by
      rw [List.drop_eq_getElem_cons (by omega)]
      rfl
    rw [hone'] at h1
    have hys : ys[j]? = some (ys[j]'(by omega)) := List.getElem?_eq_getElem (by omega)
    refine ⟨_, _, _, ?_, h1.trans hys⟩
    rw [← Go.Deep.add_add, hcell, hv]
theorem its_of {A : Option Addr} {len cap : Nat} {d : DataW H} {p : List MemPlace} (h : DataW.Trod enc Try.prog w base spare held 22 (.slice A len cap) d p) :
    ∃ F : Nat → It, Its w A len F ∧ len ≤ 9223372036854775807 := by
  obtain ⟨fuel, hf⟩ := h
  rcases open_slice_fields Try.underlying22 (show Try.prog.underlying 28 = some (.struct _) from Try.underlying28) (by kernel_rfl) (by kernel_rfl) hf with h0 | ⟨a, l, c, hcs, hl, hm, hi⟩
  · simp [Value.cells] at h0
    obtain ⟨rfl, rfl, rfl⟩ := h0
    exact ⟨fun _ => ⟨0, 0, ByteArray.empty, false⟩, fun h => absurd h (by omega), by omega⟩
  · simp [Value.cells] at hcs
    obtain ⟨rfl, rfl, rfl⟩ := hcs
    have hone : ∀ i, i < len → ∃ x : It, ItOk x ∧ w.cell? (a.add (i * 4)) = some (.int .i64 x.n) ∧ w.cell? (a.add (i * 4 + 1)) = some (.int .i64 x.sz) ∧ w.cell? (a.add (i * 4 + 2)) = some (.string x.s) ∧ w.cell? (a.add (i * 4 + 3)) = some (.bool x.is) := by
      intro i hil
      have h4 := hi i hil
      obtain ⟨v0, y0, n0, c0, t0⟩ := h4 0 _ rfl
      obtain ⟨v1, y1, n1, c1, t1⟩ := h4 1 _ rfl
      obtain ⟨v2, y2, n2, c2, t2⟩ := h4 2 _ rfl
      obtain ⟨v3, y3, n3, c3, t3⟩ := h4 3 _ rfl
      obtain ⟨x0, e0, _, w0⟩ := DataW.trod_int Try.underlying3 t0
      obtain ⟨x1, e1, _, w1⟩ := DataW.trod_int Try.underlying3 t1
      obtain ⟨x2, e2, _, w2⟩ := DataW.trod_string Try.underlying9 t2
      obtain ⟨x3, e3, _⟩ := DataW.trod_bool Try.underlying4 t3
      simp at e0 e1 e2 e3
      subst e0 e1 e2 e3
      exact ⟨⟨x0, x1, x2, x3⟩, ⟨w0, w1, w2⟩, c0, c1, c2, c3⟩
    obtain ⟨F, hF⟩ := choose_lt (α := It) hone
    refine ⟨F, fun hpos => ?_, by unfold maxLen at hm; omega⟩
    obtain ⟨b, off, spot⟩ := a
    have hsp : spot = none := by
      have := (hF 0 hpos).2.1
      simpa [Addr.add] using World.cell?_spot this
    subst hsp
    refine ⟨b, off, rfl, World.block_lt_of_cell? w _ (by simpa [Addr.add] using (hF 0 hpos).2.1), fun i hil => ?_⟩
    obtain ⟨ok, c0, c1, c2, c3⟩ := hF i hil
    refine ⟨ok, ?_, ?_, ?_, ?_⟩
    · by_cases e : i = 0
      · subst e; simpa [Addr.add] using c0
      · have e4 : i * 4 ≠ 0 := by omega
        simpa [Addr.add, e4, e] using c0
    · simpa [Addr.add, Nat.add_assoc] using c1
    · simpa [Addr.add, Nat.add_assoc] using c2
    · simpa [Addr.add, Nat.add_assoc] using c3
end

end Go.Proofs.Ytlajflcfpommoaa
