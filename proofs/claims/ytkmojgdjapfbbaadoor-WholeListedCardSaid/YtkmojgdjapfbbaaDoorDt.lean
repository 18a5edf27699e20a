/- tree.Text, tree.Dir. -/
import Derived.Test.YtkmojgdjapfbbaaDoorCl
import Derived.Test.YtkmojgdjapfbbaaDoorOf
import Derived.Test.YtkmojgdjapfbbaaDoorPb
import Derived.Deep.DeepCutAuto
namespace Go.Proofs.YtkmojgdjapfbbaaDoor
open Go.RowKit Go.Maps
set_option linter.unusedSimpArgs false
set_option linter.unusedVariables false

/-- A block of cells of one kind. -/
def IsT (w : World) (e : TypeId) (k : Nat) : Prop := ∃ cs : Array Value, w.heap[k]? = some (.cells cs e (0, 0))
theorem IsT.keep {S : Nat → Prop} {w w' : World} {e : TypeId} {k : Nat} (h : IsT w e k) (hk : Keep S w w') (hS : ¬ S k) : IsT w' e k := by
  obtain ⟨cs, h⟩ := h
  have hlt : k < w.heap.size := by
    rcases Nat.lt_or_ge k w.heap.size with h' | h'
    · exact h'
    · rw [Array.getElem?_eq_none h'] at h; cases h
  exact ⟨cs, (hk.block k hlt hS).trans h⟩
theorem IsT.one {w : World} {e e' : TypeId} {k : Nat} (h : IsT w e k) (h' : IsT w e' k) : e = e' := by
  obtain ⟨cs, h⟩ := h
  obtain ⟨cs', h'⟩ := h'
  rw [h] at h'
  injection h' with h'
  injection h'
theorem row_isT {w : World} {base e size n : Nat} {v : Value} {xs : List Value} (h : w.ownsRow base e size v n xs) : ∀ k, v.ownBlock = some k → IsT w e k := by
  intro k hk
  rcases h.2 with ⟨rfl, _⟩ | ⟨g, cap, cur, rfl, _, hg, _⟩
  · cases hk
  · have : g = k := by simpa [Value.ownBlock] using hk
    subst this
    exact ⟨cur, hg⟩
theorem Blk.isT {w : World} {g : Nat} {t : TypeId} {cs : Array Value} (h : Blk w g t cs) : IsT w t g := ⟨cs, h⟩
theorem Rep.keepT {S : Nat → Prop} {w w' : World} {e : TypeId} {p : NV} {t : T} (h : Rep (IsT w e) w p t) (hk : Keep S w w') (hS : ∀ k, IsT w e k → ¬ S k) : Rep (IsT w' e) w' p t := by
  have h2 : Rep (fun k => IsT w e k ∧ IsT w' e k) w p t := h.mono (fun k hk' => ⟨hk', hk'.keep hk (hS k hk')⟩)
  exact (h2.keep hk (fun k hk' => hS k hk'.1)).mono (fun k hk' => hk'.2)
/-- A file of some bytes. -/
def textT (s : ByteArray) (E : List Ext) : T := .node 1 false [] [] s.size (E.map toI) ⟨#[]⟩
def TextP (s : ByteArray) (w : World) (e : Ending) (w' : World) : Prop :=
  ∃ p E, e = .returned (nodeV p (textT s E)) ∧ Rep (fun k => w.heap.size ≤ k ∧ IsT w' 107 k) w' p (textT s E) ∧ OfInv s.data.toList s.size E ∧ E.length ≤ s.size ∧ Below w.heap.size w w'
set_option maxHeartbeats 1000000 in
theorem Text_calls (s : ByteArray) (w : World) (hs : s.size ≤ 1000000000) : Calls Tryd.prog 25 #[.string s] w (TextP s w) := by
  go_enter Tryd.func25, Tryd.ntmps25
  go_wp2_with fail
  refine (Of_calls s _ hs).mono ?_
  rintro e w2 ⟨A, c, E, rfl, hr, hinv, hl, hb⟩
  have h0 := Blk.new w 33 #[.int .i64 0, .bool false, .slice none 0 0, .slice none 0 0, .int .i64 0, .slice none 0 0, .string ⟨#[]⟩]
  have X := Av.mk (h0.keep (Keep.of_below (S := fun _ => False) hb) (by simp))
  have HR := Av.mk hr
  have HI := Av.mk hinv
  have HB := Av.mk (below_then (below_alloc (Below.refl _ w) _) (by simp) hb)
  have lx := X.out.lt
  clear hr hb hinv h0
  go_wp2_with (first | (refine wpList_putB rfl 33 (.tmp 2) (.tmp 7) rfl w.heap.size 33 _ _ rfl rfl (by kernel_rfl) X.out rfl (by simp [Value.oneCell']) ?_; intro w3 hb3 hk3; have HB3 := Av.mk hb3; have HK3 := Av.mk hk3; clear hb3 hk3))
  have c0 := HB3.out.cell 0; have c1 := HB3.out.cell 1; have c2 := HB3.out.cell 2; have c3 := HB3.out.cell 3; have c4 := HB3.out.cell 4; have c5 := HB3.out.cell 5; have c6 := HB3.out.cell 6
  simp at c0 c1 c2 c3 c4 c5 c6
  have hB : Below w.heap.size w w3 := HB.out.trans (HK3.out.below (Nat.le_of_lt lx) (by rintro k rfl; exact Nat.le_refl _))
  have hsl : Sl (fun k => w.heap.size ≤ k ∧ IsT w3 107 k) w3 2 (.slice A (E.map toI).length c) (E.map toI).length (iCells (E.map toI)) := by
    rw [List.length_map, iCells_toI]
    have hrow : ExRow w3 (w.alloc (.cells #[.int .i64 0, .bool false, .slice none 0 0, .slice none 0 0, .int .i64 0, .slice none 0 0, .string ⟨#[]⟩] 33)).heap.size A c E :=
      row_keep HR.out HK3.out (fun k hk e => by have := row_base HR.out k hk.symm; simp at this; omega)
    exact Sl.of_row hrow (fun k hk => ⟨by have := row_base hrow k hk.symm; simp at this; omega, row_isT hrow k hk⟩)
  exact bodyPost_ret (v := nodeV ⟨.slice none 0 0, .slice none 0 0, .slice A E.length c⟩ (textT s E)) (by simp [results, Tryd.results25, go_sem, c0, c1, c2, c3, c4, c5, c6, nodeC, textT, T.kind, T.opq, T.size, T.target]) rfl
    ⟨⟨.slice none 0 0, .slice none 0 0, .slice A E.length c⟩, E, rfl, Rep.of (Sl.nil _ _ _ none 0) (by rw [List.length_map] at hsl; simpa [textT, T.exts] using hsl) (RepL.nil _ _ none 0), HI.out, hl, hB⟩

/-- A directory. -/
def dirT (ns : List ByteArray) (its : List T) : T := .node 2 false ns its 0 [] ⟨#[]⟩
theorem Sl.bound {B : Nat → Prop} {w : World} {size n : Nat} {v : Value} {cs : List Value} (h : Sl B w size v n cs) : Sl (fun k => B k ∧ k < w.heap.size) w size v n cs :=
  ⟨h.1, h.2.imp id fun ⟨b, off, c, h1, h2, h3, h4, h5⟩ => ⟨b, off, c, h1, h2, ⟨h3, h4⟩, h4, h5⟩⟩
theorem Rep.bound {B : Nat → Prop} {w : World} {p : NV} {t : T} (h : Rep B w p t) : Rep (fun k => B k ∧ k < w.heap.size) w p t := by
  induction h with
  | mk p t ps hn he hl hi hr ih => exact .mk p t ps hn.bound he.bound hl hi.bound ih
theorem RepL.bound {B : Nat → Prop} {w : World} {v : Value} {l : List T} (h : RepL B w v l) : RepL (fun k => B k ∧ k < w.heap.size) w v l := by
  obtain ⟨ps, hl, hi, hr⟩ := h
  exact ⟨ps, hl, hi.bound, fun i q u h1 h2 => (hr i q u h1 h2).bound⟩
def DirP (B : Nat → Prop) (ns : List ByteArray) (its : List T) (w : World) (e : Ending) (w' : World) : Prop :=
  ∃ p, e = .returned (nodeV p (dirT ns its)) ∧ Rep (fun k => w.heap.size ≤ k ∨ B k) w' p (dirT ns its) ∧ Below w.heap.size w w'
theorem one_str (l : List ByteArray) : ∀ u ∈ l.map Value.string, u.oneCell' = true := by
  intro u hu
  obtain ⟨s, _, rfl⟩ := List.mem_map.1 hu
  rfl
theorem one_nodes {B : Nat → Prop} {w : World} {ps : List NV} {l : List T} (hr : ∀ (i : Nat) (q : NV) (u : T), ps[i]? = some q → l[i]? = some u → Rep B w q u) : ∀ u ∈ (ps.zip l).flatMap pairC, u.oneCell' = true := by
  intro v hv
  obtain ⟨⟨q, u⟩, hm, hv⟩ := List.mem_flatMap.1 hv
  obtain ⟨i, hi⟩ := List.getElem?_of_mem hm
  rw [List.getElem?_zip_eq_some] at hi
  obtain ⟨An, cn, Ai, ci, Ae, ce, rfl⟩ := (hr i q u hi.1 hi.2).parts
  simp only [pairC, nodeC, List.mem_cons, List.not_mem_nil, or_false] at hv
  rcases hv with rfl | rfl | rfl | rfl | rfl | rfl | rfl <;> rfl
set_option maxHeartbeats 1000000 in
theorem Dir_calls (B : Nat → Prop) (w : World) (An Ai : Option Addr) (cn ci : Nat) (ns : List ByteArray) (its : List T) (hn : Sl B w 1 (.slice An ns.length cn) ns.length (ns.map Value.string)) (hi : RepL B w (.slice Ai its.length ci) its) (hl : ns.length ≤ 100000000) (hl2 : its.length ≤ 100000000) :
    Calls Tryd.prog 10 #[.slice An ns.length cn, .slice Ai its.length ci] w (DirP B ns its w) := by
  have HN := Av.mk hn
  have HI := Av.mk hi.bound
  clear hn hi
  go_enter Tryd.func10, Tryd.ntmps10
  go_wp2_with fail
  have hb0 := below_alloc (Below.refl _ w) (.cells #[.int .i64 0, .bool false, .slice none 0 0, .slice none 0 0, .int .i64 0, .slice none 0 0, .string ⟨#[]⟩] 33)
  refine (clone9 B _ An ns.length cn _ (HN.out.grow hb0) (one_str _) hl).mono ?_
  rintro e w1 ⟨A1, c1', rfl, hr1, hb1⟩
  have h0 := Blk.new w 33 #[.int .i64 0, .bool false, .slice none 0 0, .slice none 0 0, .int .i64 0, .slice none 0 0, .string ⟨#[]⟩]
  have X1 := Av.mk (h0.keep (Keep.of_below (S := fun _ => False) hb1) (by simp))
  have HB1 := Av.mk (below_then hb0 (by simp) hb1)
  have HR1 := Av.mk hr1
  clear hr1 hb1 hb0 h0
  obtain ⟨ps, hpl, hps, hpr⟩ := HI.out.grow HB1.out
  go_wp2_with fail
  refine (clone33 _ w1 Ai its.length ci _ hps (one_nodes hpr) hl2).mono ?_
  rintro e w2 ⟨A2, c2', rfl, hr2, hb2⟩
  have X2 := Av.mk (X1.out.keep (Keep.of_below (S := fun _ => False) hb2) (by simp))
  have HB2 := Av.mk (below_then HB1.out HB1.out.size hb2)
  have HR2 := Av.mk hr2
  have HP := Av.mk (fun (i : Nat) (q : NV) (u : T) (h1 : ps[i]? = some q) (h2 : its[i]? = some u) => (hpr i q u h1 h2).grow hb2)
  have HR12 := Av.mk (row_keep HR1.out (Keep.of_below (S := fun _ => False) hb2) (by simp))
  have lx := X2.out.lt
  have hz1 := HB1.out.size
  clear hr2 hb2 hps hpr
  go_wp2_with (first | (refine wpList_putB rfl 33 (.tmp 4) (.tmp 9) rfl w.heap.size 33 _ _ rfl rfl (by kernel_rfl) X2.out rfl (by simp [Value.oneCell']) ?_; intro w3 hb3 hk3; have HB3 := Av.mk hb3; have HK3 := Av.mk hk3; clear hb3 hk3))
  have c0 := HB3.out.cell 0; have c1 := HB3.out.cell 1; have c2 := HB3.out.cell 2; have c3 := HB3.out.cell 3; have c4 := HB3.out.cell 4; have c5 := HB3.out.cell 5; have c6 := HB3.out.cell 6
  simp at c0 c1 c2 c3 c4 c5 c6
  have hB : Below w.heap.size w w3 := HB2.out.trans (HK3.out.below (Nat.le_of_lt lx) (by rintro k rfl; exact Nat.le_refl _))
  have hrow1 : w3.ownsRow _ 9 1 (.slice A1 ns.length c1') ns.length (ns.map Value.string) :=
    row_keep HR12.out HK3.out (fun k hk e => by have := row_base HR12.out k hk.symm; simp at this; omega)
  have hrow2 : w3.ownsRow _ 33 7 (.slice A2 its.length c2') its.length ((ps.zip its).flatMap pairC) :=
    row_keep HR2.out HK3.out (fun k hk e => by have := row_base HR2.out k hk.symm; have := X1.out.lt; omega)
  have hsl1 : Sl (fun k => w.heap.size ≤ k ∨ B k) w3 1 (.slice A1 ns.length c1') ns.length (ns.map Value.string) := Sl.of_row hrow1 (fun k hk => .inl (by have := row_base hrow1 k hk.symm; simp at this; omega))
  have hsl2 : Sl (fun k => w.heap.size ≤ k ∨ B k) w3 7 (.slice A2 its.length c2') its.length ((ps.zip its).flatMap pairC) := Sl.of_row hrow2 (fun k hk => .inl (by have := row_base hrow2 k hk.symm; omega))
  have hkk : Keep (fun k => k = w.heap.size) w2 w3 := HK3.out
  exact bodyPost_ret (v := nodeV ⟨.slice A1 ns.length c1', .slice A2 its.length c2', .slice none 0 0⟩ (dirT ns its)) (by simp [results, Tryd.results10, go_sem, c0, c1, c2, c3, c4, c5, c6, nodeC, dirT, T.kind, T.opq, T.size, T.target]) rfl
    ⟨⟨.slice A1 ns.length c1', .slice A2 its.length c2', .slice none 0 0⟩, rfl, Rep.of hsl1 (Sl.nil _ _ _ none 0) ⟨ps, hpl, hsl2, fun i q u h1 h2 => ((HP.out i q u h1 h2).keep hkk (fun k hk e => by omega)).mono (fun k hk => .inr hk.1)⟩, hB⟩
end Go.Proofs.YtkmojgdjapfbbaaDoor
