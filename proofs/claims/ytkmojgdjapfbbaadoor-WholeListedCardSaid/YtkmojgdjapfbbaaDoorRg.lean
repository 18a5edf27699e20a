/- tree.right: can there be such a node, with all in it? -/
import Derived.Test.YtkmojgdjapfbbaaDoorNs
namespace Go.Proofs.YtkmojgdjapfbbaaDoor
open Go.RowKit Go.Maps
set_option linter.unusedSimpArgs false
set_option linter.unusedVariables false

/-- The parts between slashes. -/
def cut47 : List UInt8 → List (List UInt8)
  | [] => [[]]
  | b :: l => if b = 47 then [] :: cut47 l else match cut47 l with
    | p :: ps => (b :: p) :: ps
    | [] => [[b]]
def partOk (p : List UInt8) : Bool := p.isEmpty || decide (p = [46]) || decide (p = [46, 46]) || nameOk ⟨p.toArray⟩
def splitOk (s : ByteArray) : Bool := decide (s.size ≠ 0) && decide (s.size ≤ 1024) && (cut47 s.data.toList).all partOk
def SplitP (b : Bool) (w : World) (e : Ending) (w' : World) : Prop :=
  ∃ A n c rb er, e = .returned (.tuple #[.slice A n c, .bool rb, .int .i64 er]) ∧ b = (er == 0) ∧ Below w.heap.size w w'
def SplitC (s : ByteArray) : Prop := ∀ w, Calls Tryd.prog 85 #[.string s] w (SplitP (splitOk s) w)

mutual
def T.rgt (depth left : Int) : T → Bool × Int
  | .node k o ns its sz ex tg =>
    if left - 1 < 0 then (false, left - 1) else if 15 < depth then (false, left - 1) else if T.zero (.node k o ns its sz ex tg) = false then (false, left - 1)
    else if k = 1 then (rX sz 0 ex, left - 1) else if k = 3 then (splitOk tg && decide (tg.size ≤ 256), left - 1) else if k = 4 then (true, left - 1)
    else if k = 2 then if T.namesOk (.node k o ns its sz ex tg) = false then (false, left - 1) else T.rgtL (depth + 1) (left - 1) its
    else (false, left - 1)
def T.rgtL (depth left : Int) : List T → Bool × Int
  | [] => (true, left)
  | t :: l => if (T.rgt depth left t).1 = true then T.rgtL depth (T.rgt depth left t).2 l else (false, (T.rgt depth left t).2)
end
theorem T.rgtL_bound_of {l : List T} (h : ∀ u ∈ l, ∀ d x : Int, (u.rgt d x).1 = true → 0 ≤ (u.rgt d x).2 ∧ (u.rgt d x).2 ≤ x) : ∀ d x : Int, 0 ≤ x → (T.rgtL d x l).1 = true → 0 ≤ (T.rgtL d x l).2 ∧ (T.rgtL d x l).2 ≤ x := by
  induction l with
  | nil => intro d x hx _; simp [T.rgtL]; exact hx
  | cons t l ih =>
    intro d x hx hh
    simp only [T.rgtL] at hh ⊢
    split at hh
    · rename_i h1
      rw [if_pos h1]
      have h2 := h t (by simp) d x h1
      have h3 := ih (fun u hu => h u (List.mem_cons_of_mem _ hu)) d _ h2.1 hh
      omega
    · cases hh
theorem T.rgt_bound (t : T) : ∀ d x : Int, (t.rgt d x).1 = true → 0 ≤ (t.rgt d x).2 ∧ (t.rgt d x).2 ≤ x := by
  induction t using T.ind with
  | h t ih =>
    intro d x
    obtain ⟨k, o, ns, its, sz, ex, tg⟩ := t
    simp only [T.rgt]
    split
    · simp
    split
    · simp
    split
    · simp
    split
    · intro _; simp only; omega
    split
    · intro _; simp only; omega
    split
    · intro _; simp only; omega
    split
    · split
      · simp
      · intro h
        have := T.rgtL_bound_of (l := its) ih (d + 1) (x - 1) (by omega) h
        omega
    · simp
/-- Such that its parts can be asked. -/
inductive Fit (Pn Pt : ByteArray → Prop) : T → Prop where
  | mk (t : T) (hn : t.names.length ≤ 1000000000) (hi : t.items.length ≤ 1000000000) (he : t.exts.length ≤ 1000000000) (hs : ∀ s ∈ t.names, Pn s) (hg : t.kind = 3 → Pt t.target) (hr : ∀ u ∈ t.items, Fit Pn Pt u) : Fit Pn Pt t
def PnC (s : ByteArray) : Prop := NameC s ∧ s.size ≤ 1000000000
def PtC (s : ByteArray) : Prop := SplitC s ∧ s.size ≤ 1000000000
def RgtP (lf : Nat) (r : Bool × Int) (w : World) (e : Ending) (w' : World) : Prop := e = .returned (.bool r.1) ∧ Blk w' lf 3 #[.int .i64 r.2] ∧ Keep (fun k => k = lf) w w'
def RgtC (t : T) : Prop := ∀ (B : Nat → Prop) (w : World) (p : NV) (depth left : Int) (lf : Nat), Rep B w p t → (∀ k, B k → k ≠ lf) → Blk w lf 3 #[.int .i64 left] → 0 ≤ left → left ≤ 5000 → 0 ≤ depth → depth ≤ 16 →
  Calls Tryd.prog 63 #[nodeV p t, .int .i64 depth, .pointer (some ⟨lf, 0, none⟩)] w (RgtP lf (t.rgt depth left) w)
end Go.Proofs.YtkmojgdjapfbbaaDoor
