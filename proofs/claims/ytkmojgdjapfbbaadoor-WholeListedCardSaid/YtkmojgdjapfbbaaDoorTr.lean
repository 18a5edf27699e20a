/- Trees of nodes, plainly, and as they lie in memory. -/
import Derived.Test.YtkmojgdjapfbbaaDoorSl
namespace Go.Proofs.YtkmojgdjapfbbaaDoor
open Go.RowKit Go.Maps
set_option linter.unusedSimpArgs false
set_option linter.unusedVariables false

inductive T where
  | node (kind : Int) (opq : Bool) (names : List ByteArray) (items : List T) (size : Int) (exts : List IExt) (target : ByteArray) : T
namespace T
def kind : T → Int | .node k _ _ _ _ _ _ => k
def opq : T → Bool | .node _ o _ _ _ _ _ => o
def names : T → List ByteArray | .node _ _ n _ _ _ _ => n
def items : T → List T | .node _ _ _ i _ _ _ => i
def size : T → Int | .node _ _ _ _ s _ _ => s
def exts : T → List IExt | .node _ _ _ _ _ e _ => e
def target : T → ByteArray | .node _ _ _ _ _ _ t => t
theorem ind {P : T → Prop} (h : ∀ t : T, (∀ u ∈ t.items, P u) → P t) (t : T) : P t :=
  T.rec (motive_1 := P) (motive_2 := fun l => ∀ u ∈ l, P u) (fun k o n i s e g ih => h (.node k o n i s e g) ih) (fun u hu => by cases hu)
    (fun x l hx hl u hu => by
      rcases List.mem_cons.1 hu with rfl | hu
      · exact hx
      · exact hl u hu) t
mutual
def count : T → Nat | .node _ _ _ i _ _ _ => 1 + countL i
def countL : List T → Nat
  | [] => 0
  | t :: l => t.count + countL l
end
theorem count_eq (t : T) : t.count = 1 + countL t.items := by cases t; rfl
theorem countL_snoc (l : List T) (t : T) : countL (l ++ [t]) = countL l + t.count := by
  induction l with
  | nil => simp [countL]
  | cons x l ih => simp [countL, ih]; omega
end T
/-- Where a node's parts lie. -/
structure NV where
  nv : Value
  iv : Value
  ev : Value
def nodeC (p : NV) (t : T) : List Value := [.int .i64 t.kind, .bool t.opq, p.nv, p.iv, .int .i64 t.size, p.ev, .string t.target]
abbrev nodeV (p : NV) (t : T) : Value := .agg (nodeC p t).toArray
def pairC (x : NV × T) : List Value := nodeC x.1 x.2
/-- A tree in memory: the blocks of what it leads to are of B. -/
inductive Rep (B : Nat → Prop) (w : World) : NV → T → Prop where
  | mk (p : NV) (t : T) (ps : List NV) (hn : Sl B w 1 p.nv t.names.length (t.names.map Value.string)) (he : Sl B w 2 p.ev t.exts.length (iCells t.exts)) (hl : ps.length = t.items.length)
      (hi : Sl B w 7 p.iv t.items.length ((ps.zip t.items).flatMap pairC)) (hr : ∀ (i : Nat) (q : NV) (u : T), ps[i]? = some q → t.items[i]? = some u → Rep B w q u) : Rep B w p t
section
variable {B B' S : Nat → Prop} {w w' : World} {p : NV} {t : T}
theorem Rep.mono (h : Rep B w p t) (hB : ∀ k, B k → B' k) : Rep B' w p t := by
  induction h with
  | mk p t ps hn he hl hi hr ih => exact .mk p t ps (hn.mono hB) (he.mono hB) hl (hi.mono hB) ih
theorem Rep.keep (h : Rep B w p t) (hk : Keep S w w') (hS : ∀ k, B k → ¬ S k) : Rep B w' p t := by
  induction h with
  | mk p t ps hn he hl hi hr ih => exact .mk p t ps (hn.keep hk hS) (he.keep hk hS) hl (hi.keep hk hS) ih
theorem Rep.grow (h : Rep B w p t) (hb : Below w.heap.size w w') : Rep B w' p t := h.keep (S := fun _ => False) (Keep.of_below hb) (fun _ _ => id)
theorem Rep.names (h : Rep B w p t) : Sl B w 1 p.nv t.names.length (t.names.map Value.string) := by cases h; assumption
theorem Rep.exts (h : Rep B w p t) : Sl B w 2 p.ev t.exts.length (iCells t.exts) := by cases h; assumption
/-- Its items. -/
def RepL (B : Nat → Prop) (w : World) (v : Value) (l : List T) : Prop :=
  ∃ ps : List NV, ps.length = l.length ∧ Sl B w 7 v l.length ((ps.zip l).flatMap pairC) ∧ ∀ (i : Nat) (q : NV) (u : T), ps[i]? = some q → l[i]? = some u → Rep B w q u
theorem Rep.items (h : Rep B w p t) : RepL B w p.iv t.items := by
  cases h with
  | mk p t ps hn he hl hi hr => exact ⟨ps, hl, hi, hr⟩
theorem Rep.of (hn : Sl B w 1 p.nv t.names.length (t.names.map Value.string)) (he : Sl B w 2 p.ev t.exts.length (iCells t.exts)) (hi : RepL B w p.iv t.items) : Rep B w p t := by
  obtain ⟨ps, hl, hi, hr⟩ := hi
  exact .mk p t ps hn he hl hi hr
theorem RepL.keep {v : Value} {l : List T} (h : RepL B w v l) (hk : Keep S w w') (hS : ∀ k, B k → ¬ S k) : RepL B w' v l := by
  obtain ⟨ps, hl, hi, hr⟩ := h
  exact ⟨ps, hl, hi.keep hk hS, fun i q u h1 h2 => (hr i q u h1 h2).keep hk hS⟩
theorem RepL.grow {v : Value} {l : List T} (h : RepL B w v l) (hb : Below w.heap.size w w') : RepL B w' v l := h.keep (S := fun _ => False) (Keep.of_below hb) (fun _ _ => id)
theorem RepL.mono {v : Value} {l : List T} (h : RepL B w v l) (hB : ∀ k, B k → B' k) : RepL B' w v l := by
  obtain ⟨ps, hl, hi, hr⟩ := h
  exact ⟨ps, hl, hi.mono hB, fun i q u h1 h2 => (hr i q u h1 h2).mono hB⟩
theorem RepL.shape {v : Value} {l : List T} (h : RepL B w v l) : ∃ A c, v = .slice A l.length c := by
  obtain ⟨ps, hl, hi, hr⟩ := h
  exact hi.shape
/-- One of them: its cells and what it leads to. -/
theorem RepL.elem {l : List T} {A : Option Addr} {c k : Nat} {u : T} (h : RepL B w (.slice A l.length c) l) (hu : l[k]? = some u) :
    ∃ b off q, A = some ⟨b, off, none⟩ ∧ B b ∧ b < w.heap.size ∧ l.length ≤ c ∧ w.cell? ⟨b, off + k * 7, none⟩ = some (.int .i64 u.kind) ∧ w.cell? ⟨b, off + k * 7 + 1, none⟩ = some (.bool u.opq) ∧ w.cell? ⟨b, off + k * 7 + 2, none⟩ = some q.nv ∧
      w.cell? ⟨b, off + k * 7 + 3, none⟩ = some q.iv ∧ w.cell? ⟨b, off + k * 7 + 4, none⟩ = some (.int .i64 u.size) ∧ w.cell? ⟨b, off + k * 7 + 5, none⟩ = some q.ev ∧ w.cell? ⟨b, off + k * 7 + 6, none⟩ = some (.string u.target) ∧ Rep B w q u := by
  obtain ⟨ps, hl, hi, hr⟩ := h
  have hk := (List.getElem?_eq_some_iff.1 hu).1
  obtain ⟨q, hq⟩ : ∃ q, ps[k]? = some q := ⟨_, List.getElem?_eq_getElem (by omega)⟩
  have hz : (ps.zip l)[k]? = some (q, u) := by rw [List.getElem?_zip_eq_some]; exact ⟨hq, hu⟩
  have hzl : (ps.zip l).length = l.length := by rw [List.length_zip]; omega
  obtain ⟨b, off, rfl, hB, hb, hc, h0, hj⟩ := Sl.elem (c := c) (A := A) (l := ps.zip l) (f := pairC) (m := 7) (by rw [hzl]; exact hi) (fun _ => rfl) (by omega) hz
  exact ⟨b, off, q, rfl, hB, hb, by omega, h0, hj 1 (by omega), hj 2 (by omega), hj 3 (by omega), hj 4 (by omega), hj 5 (by omega), hj 6 (by omega), hr k q u hq hu⟩
theorem RepL.nil (B : Nat → Prop) (w : World) (A : Option Addr) (c : Nat) : RepL B w (.slice A 0 c) [] := ⟨[], rfl, Sl.nil B w 7 A c, fun i q u h => by simp at h⟩
end
/-- All the parts' slices are slices. -/
theorem Rep.parts {B : Nat → Prop} {w : World} {p : NV} {t : T} (h : Rep B w p t) : ∃ An cn Ai ci Ae ce, p = ⟨.slice An t.names.length cn, .slice Ai t.items.length ci, .slice Ae t.exts.length ce⟩ := by
  obtain ⟨An, cn, h1⟩ := h.names.shape
  obtain ⟨Ai, ci, h2⟩ := h.items.shape
  obtain ⟨Ae, ce, h3⟩ := h.exts.shape
  obtain ⟨a, b, c⟩ := p
  simp only at h1 h2 h3
  exact ⟨An, cn, Ai, ci, Ae, ce, by rw [h1, h2, h3]⟩
end Go.Proofs.YtkmojgdjapfbbaaDoor
