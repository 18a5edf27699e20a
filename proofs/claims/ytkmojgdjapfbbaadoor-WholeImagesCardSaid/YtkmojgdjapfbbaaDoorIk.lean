/- A directory's entries while they are made: a row of nodes that grows. -/
import Derived.Test.YtkmojgdjapfbbaaDoorEnc
import Derived.Test.YtkmojgdjapfbbaaDoorPa
namespace Go.Proofs.YtkmojgdjapfbbaaDoor
open Go.RowKit Go.Maps
set_option linter.unusedSimpArgs false
set_option linter.unusedVariables false

/-- Nodes in a row that may grow in place; what is in them lies elsewhere, and not where the names' row does. -/
structure Kids (w : World) (base : Nat) (v vn : Value) (ps : List NV) (l : List T) : Prop where
  len : ps.length = l.length
  row : w.ownsRow base 33 7 v l.length ((ps.zip l).flatMap pairC)
  rep : ∀ (i : Nat) (q : NV) (u : T), ps[i]? = some q → l[i]? = some u → Rep (fun k => base ≤ k ∧ v.ownBlock ≠ some k ∧ vn.ownBlock ≠ some k) w q u
section
variable {w w1 w2 : World} {base : Nat} {v v' vn vn' : Value} {ps : List NV} {l : List T} {S : Nat → Prop} {q : NV} {u : T} {cs : Array Value}
theorem Kids.nil (w : World) (base : Nat) (vn : Value) : Kids w base (.slice none 0 0) vn [] [] :=
  ⟨rfl, ⟨rfl, .inl ⟨rfl, rfl⟩⟩, fun i q u h => by simp at h⟩
theorem Kids.keep (h : Kids w base v vn ps l) (hk : Keep S w w1) (hS : ∀ k, base ≤ k → ¬ S k) : Kids w1 base v vn ps l :=
  ⟨h.len, row_keep h.row hk (fun k e => hS k (row_base h.row k e.symm)), fun i q u h1 h2 => (h.rep i q u h1 h2).keep hk (fun k hb => hS k hb.1)⟩
theorem Kids.bel (h : Kids w base v vn ps l) (hb : Bel w w1) : Kids w1 base v vn ps l := h.keep (S := fun _ => False) (Keep.of_below hb) (fun _ _ h => h)
theorem Kids.lt (h : Kids w base v vn ps l) : ∀ k, v.ownBlock = some k → k < w.heap.size := fun k e => row_lt h.row k e.symm
theorem Kids.isT (h : Kids w base v vn ps l) : ∀ k, v.ownBlock = some k → IsT w 33 k := row_isT h.row
/-- One more. -/
theorem Kids.snoc (h : Kids w base v vn ps l) (hb : base ≤ w.heap.size) (hk : Keep S w w1) (hS : ∀ k, base ≤ k → ¬ S k) (hvn : ∀ k, vn.ownBlock = some k → k < w.heap.size)
    (hr : Rep (fun k => w.heap.size ≤ k) w1 q u) (hg : (w1.alloc (.cells cs 33)).grownBy w2 v.ownBlock) (ho : w2.ownsRow base 33 7 v' (l.length + 1) ((ps.zip l).flatMap pairC ++ pairC (q, u)))
    (hd : v'.ownBlock = v.ownBlock ∨ v'.ownBlock = some (w1.alloc (.cells cs 33)).heap.size) : Kids w2 base v' vn (ps ++ [q]) (l ++ [u]) := by
  have hz : (w1.alloc (.cells cs 33)).heap.size = w1.heap.size + 1 := by simp
  rw [hz] at hd
  have h1 := h.keep hk hS
  have hk2 : Keep (fun k => v.ownBlock = some k) w1 w2 := ((Keep.refl (fun k => v.ownBlock = some k) w1).alloc _).grown hg (fun k e _ => e)
  have hw := hk.size
  refine ⟨by simp [h.len], ?_, fun i q' u' e1 e2 => ?_⟩
  · rw [List.zip_append h.len, List.flatMap_append, List.length_append]
    simpa using ho
  · by_cases hi : i < l.length
    · rw [List.getElem?_append_left (by rw [h.len]; exact hi)] at e1
      rw [List.getElem?_append_left hi] at e2
      have h2 := ((h1.rep i q' u' e1 e2).bound).keep hk2 (fun k hk e => hk.1.2.1 e)
      refine h2.mono (fun k hk => ⟨hk.1.1, fun e => ?_, hk.1.2.2⟩)
      rcases hd with hd | hd
      · exact hk.1.2.1 (hd ▸ e)
      · rw [hd] at e
        have := hk.2
        simp at e
        omega
    · have hl := (List.getElem?_eq_some_iff.1 e2).1
      simp at hl
      obtain rfl : i = l.length := by omega
      rw [List.getElem?_append_right (by rw [h.len]; exact Nat.le_refl _), h.len] at e1
      rw [List.getElem?_append_right (Nat.le_refl _)] at e2
      simp at e1 e2
      subst e1
      subst e2
      have h2 := hr.bound.keep hk2 (fun k hk e => by have := h.lt k e; have := hk.1; omega)
      refine h2.mono (fun k hk => ⟨by have := hk.1; omega, fun e => ?_, fun e => by have := hvn k e; have := hk.1; omega⟩)
      rcases hd with hd | hd
      · rw [hd] at e
        have := h.lt k e
        have := hk.1
        omega
      · rw [hd] at e
        have := hk.2
        simp at e
        omega
/-- The names' row grew. -/
theorem Kids.named (h : Kids w base v vn ps l) (hk : Keep S w w1) (hS : ∀ k, base ≤ k → ¬ S k) (ht : ∀ k, vn.ownBlock = some k → IsT w 9 k) (hk2 : Keep (fun k => vn.ownBlock = some k) w1 w2)
    (hd : vn'.ownBlock = vn.ownBlock ∨ ∃ m, vn'.ownBlock = some m ∧ w1.heap.size ≤ m) : Kids w2 base v vn' ps l := by
  have h1 := h.keep hk hS
  refine ⟨h.len, row_keep h1.row hk2 (fun k e e2 => ?_), fun i q u e1 e2 => ?_⟩
  · exact absurd ((h.isT k e).one (ht k e2)) (by decide)
  · refine (((h1.rep i q u e1 e2).bound).keep hk2 (fun k hk e => hk.1.2.2 e)).mono (fun k hk => ⟨hk.1.1, hk.1.2.1, fun e => ?_⟩)
    rcases hd with hd | ⟨m, hd, hm⟩
    · exact hk.1.2.2 (hd ▸ e)
    · rw [hd] at e
      have := hk.2
      simp at e
      omega
theorem Kids.repL (h : Kids w base v vn ps l) : RepL (fun k => base ≤ k) w v l :=
  ⟨ps, h.len, Sl.of_row h.row (fun k e => row_base h.row k e.symm), fun i q u h1 h2 => (h.rep i q u h1 h2).mono (fun k hk => hk.1)⟩
end
end Go.Proofs.YtkmojgdjapfbbaaDoor
