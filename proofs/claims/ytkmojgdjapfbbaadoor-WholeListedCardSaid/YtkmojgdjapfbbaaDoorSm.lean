/- How much there is of a tree (socagelaw04.Small): the plain part. -/
import Derived.Test.YtkmojgdjapfbbaaDoorSc
namespace Go.Proofs.YtkmojgdjapfbbaaDoor
open Go.RowKit Go.Maps
set_option linter.unusedSimpArgs false
set_option linter.unusedVariables false

def xsz (E : List IExt) : Nat := (E.map fun x => x.2.size).sum
mutual
def T.wt : T → Nat | .node _ _ n i _ e t => 1 + n.length + e.length + xsz e + t.size + T.wtL i
def T.wtL : List T → Nat
  | [] => 0
  | t :: l => t.wt + T.wtL l
end
theorem T.wt_eq (t : T) : t.wt = 1 + t.names.length + t.exts.length + xsz t.exts + t.target.size + T.wtL t.items := by cases t; rfl
theorem T.wt_mem {l : List T} {u : T} (h : u ∈ l) : u.wt ≤ T.wtL l := by
  induction l with
  | nil => cases h
  | cons x l ih =>
    rcases List.mem_cons.1 h with rfl | h
    · simp [T.wtL]
    · have := ih h; simp [T.wtL]; omega
theorem T.len_le_wtL : ∀ l : List T, l.length ≤ T.wtL l
  | [] => by simp
  | x :: l => by
    have := T.len_le_wtL l
    have h1 : 1 ≤ x.wt := by rw [T.wt_eq]; omega
    simp [T.wtL]; omega
/-- All names that are in it are short. -/
inductive NmS : T → Prop where
  | mk (t : T) (hs : ∀ s ∈ t.names, s.size ≤ 1000000000) (hr : ∀ u ∈ t.items, NmS u) : NmS t
theorem fit_of (t : T) : t.wt ≤ 1000000000 → NmS t → Fit PnC PtC t := by
  induction t using T.ind with
  | h t ih =>
    intro hw hn
    have he := T.wt_eq t
    have hl := T.len_le_wtL t.items
    cases hn with
    | mk _ hs hr =>
      exact .mk t (by omega) (by omega) (by omega) (fun s h => ⟨nameC_all s (by have := hs s h; omega), hs s h⟩) (fun _ => ptC_all _ (by omega)) (fun u hu => ih u hu (by have := T.wt_mem hu; omega) (hr u hu))
end Go.Proofs.YtkmojgdjapfbbaaDoor
