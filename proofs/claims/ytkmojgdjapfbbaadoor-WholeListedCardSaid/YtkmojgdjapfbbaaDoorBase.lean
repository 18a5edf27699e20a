/- Words of my own: a frame that says which blocks may have turned (Keep), and a typed view of a map (MapAt). No program in sight. -/
import Derived.Maps.OwnSet
import Derived.Maps.RangeWalk
import Derived.WalkKit
import Derived.WalkSpells
import Derived.WalkLawsBesides
import Derived.Deep.Draws
import Derived.BigQuiet
import Derived.Deep.QuietTactic
import Derived.StillTailTactics
import Derived.Lib.Hide
namespace Go.Proofs.YtkmojgdjapfbbaaDoor
open Go.RowKit Go.Maps

/-- A fact that neither the walk's simp nor 'contradiction' looks into. -/
structure Av (p : Prop) : Prop where mk :: (out : p)

/-- w' is w but for the blocks in S, and new blocks. -/
structure Keep (S : Nat → Prop) (w w' : World) : Prop where
  os : w'.os = w.os
  tape : w'.tape = w.tape
  output : w'.output = w.output
  size : w.heap.size ≤ w'.heap.size
  block : ∀ k, k < w.heap.size → ¬ S k → w'.heap[k]? = w.heap[k]?

section
variable {S S' : Nat → Prop} {a b c w w' : World}
theorem Keep.refl (S : Nat → Prop) (w : World) : Keep S w w := ⟨rfl, rfl, rfl, Nat.le_refl _, fun _ _ _ => rfl⟩
theorem Keep.trans (h : Keep S a b) (k : Keep S b c) : Keep S a c :=
  ⟨k.os.trans h.os, k.tape.trans h.tape, k.output.trans h.output, Nat.le_trans h.size k.size,
   fun i hi hs => (k.block i (Nat.lt_of_lt_of_le hi h.size) hs).trans (h.block i hi hs)⟩
theorem Keep.mono (h : Keep S a b) (hS : ∀ k, k < a.heap.size → S k → S' k) : Keep S' a b :=
  ⟨h.os, h.tape, h.output, h.size, fun i hi hs => h.block i hi fun h' => hs (hS i hi h')⟩
theorem Keep.alloc (h : Keep S a w) (o : Obj) : Keep S a (w.alloc o) :=
  h.trans ⟨rfl, rfl, rfl, by simp, fun k hk _ => Below.heap_alloc _ _ _ hk⟩
theorem Keep.drew (h : Keep S a w) : Keep S a w.drew := ⟨h.os, h.tape, h.output, h.size, h.block⟩
theorem Keep.drewN (h : Keep S a w) (n : Nat) : Keep S a (w.drewN n) := ⟨h.os, h.tape, h.output, h.size, h.block⟩
theorem Keep.setCell (h : Keep S a w) {p : Addr} (hp : p.block < a.heap.size → S p.block) (u : Value) : Keep S a (w.setCell p u) :=
  ⟨h.os, h.tape, h.output, by simpa [World.setCell] using h.size, fun k hk hs => by
    rw [Below.heap_setCell _ _ _ _ (fun e => hs (by subst e; exact hp hk))]; exact h.block k hk hs⟩
theorem Keep.grown (h : Keep S a w) {row : Option Nat} (hg : w.grownBy w' row) (hr : ∀ k, row = some k → k < a.heap.size → S k) : Keep S a w' :=
  ⟨hg.os.trans h.os, hg.tape.trans h.tape, hg.output.trans h.output, Nat.le_trans h.size hg.size, fun k hk hs =>
    (hg.block k (Nat.lt_of_lt_of_le hk h.size) (fun e => hs (hr k e.symm hk))).trans (h.block k hk hs)⟩
theorem Keep.below (h : Keep S a w) {B : Nat} (hB : B ≤ a.heap.size) (hS : ∀ k, S k → B ≤ k) : Below B a w :=
  ⟨h.os, h.tape, h.output, h.size, fun k hk => h.block k (by omega) (fun h' => by have := hS k h'; omega)⟩
theorem Keep.of_below (h : Below a.heap.size a w) : Keep S a w := ⟨h.os, h.tape, h.output, h.size, fun k hk _ => h.block k hk⟩
theorem Keep.turned {g : Nat} (h : Keep S a w) (ht : w.mapTurned w' g) (hg : g < a.heap.size → S g) : Keep S a w' :=
  h.grown ht.grown (fun k e => by cases e; exact hg)
end

theorem below_alloc {w W : World} (h : Below w.heap.size w W) (o : Obj) : Below w.heap.size w (W.alloc o) := h.alloc h.size o
theorem below_drewN {B : Nat} {w W : World} (h : Below B w W) (n : Nat) : Below B w (W.drewN n) := ⟨h.os, h.tape, h.output, h.size, h.block⟩

/-- Block g is just these cells of element type t. -/
def Blk (w : World) (g : Nat) (t : TypeId) (cs : Array Value) : Prop := w.heap[g]? = some (.cells cs t (0, 0))
section
variable {w w' : World} {g : Nat} {t : TypeId} {cs : Array Value} {S : Nat → Prop}
theorem Blk.lt (h : Blk w g t cs) : g < w.heap.size := by
  rcases Nat.lt_or_ge g w.heap.size with hlt | hge
  · exact hlt
  · unfold Blk at h; rw [Array.getElem?_eq_none hge] at h; cases h
theorem Blk.cell (h : Blk w g t cs) (i : Nat) : w.cell? ⟨g, i, none⟩ = cs[i]? := cell_of_row w g i cs t (0, 0) h
theorem Blk.frozen (h : Blk w g t cs) (i : Nat) : w.frozen? ⟨g, i, none⟩ = false := by
  unfold Blk at h
  simp [World.frozen?, h]
theorem Blk.new (w : World) (t : TypeId) (cs : Array Value) : Blk (w.alloc (.cells cs t)) w.heap.size t cs := heap_alloc_new w _
theorem Blk.drew (h : Blk w g t cs) : Blk w.drew g t cs := h
theorem Blk.drewN (h : Blk w g t cs) (n : Nat) : Blk (w.drewN n) g t cs := h
theorem Blk.alloc (h : Blk w g t cs) (o : Obj) : Blk (w.alloc o) g t cs := (Below.heap_alloc w o g h.lt).trans h
theorem Blk.set_ (h : Blk w g t cs) (i : Nat) (u : Value) : Blk (w.setCell ⟨g, i, none⟩ u) g t (cs.setIfInBounds i u) := by
  unfold Blk at h ⊢
  simp [World.setCell, Array.getElem?_modify, h]
theorem Blk.far (h : Blk w g t cs) {p : Addr} (hp : g ≠ p.block) (u : Value) : Blk (w.setCell p u) g t cs := (Below.heap_setCell w p u g hp).trans h
theorem Blk.keep (h : Blk w g t cs) (hk : Keep S w w') (hg : ¬ S g) : Blk w' g t cs := (hk.block g h.lt hg).trans h
theorem Blk.grown {row : Option Nat} (h : Blk w g t cs) (hb : w.grownBy w' row) (hg : some g ≠ row) : Blk w' g t cs := (hb.block g h.lt hg).trans h
theorem Blk.ne_ {g' : Nat} {t' : TypeId} {cs' : Array Value} (h : Blk w g t cs) (h' : Blk w g' t' cs') (hne : t ≠ t') : g ≠ g' := by
  rintro rfl
  unfold Blk at h h'
  rw [h] at h'
  injection h' with h'
  injection h' with _ ht
  exact hne ht
end

/-! ### A map, typed: what its values are is told by dec. -/
section
variable {α : Type}
/-- The reader of a map's elements. -/
def rdr (dec : Value → Option α) (v : Value) : Option (DataW α × List MemPlace) := (dec v).map fun a => (.held a, [])
/-- What a map has at a key. -/
def atK (D : DataW α) (k : Lit) (z : α) : α := match D.atKey k (.held z) with | .held a => a | _ => z
/-- All elements are of the typed kind. -/
def Held (D : DataW α) : Prop := ∀ k z, D.atKey k (.held z) = .held (atK D k z)
abbrev MapAt (w : World) (P : Program) (k : TypeId) (dec : Value → Option α) (b n : Nat) (D : DataW α) : Prop := w.ownsMap P k (rdr dec) b n D

theorem ownsMap_keep {P : Program} {k : TypeId} {R : Value → Option (DataW α × List MemPlace)} {w w' : World} {b n : Nat} {D : DataW α} {S : Nat → Prop}
    (h : w.ownsMap P k R b n D) (hk : Keep S w w') (hb : ¬ S b) : w'.ownsMap P k R b n D := by
  have hlt := h.lt
  obtain ⟨es, clock, hb', F, hs, hD⟩ := h
  exact ⟨es, clock, (hk.block b hlt hb).trans hb', F, hs, hD⟩

theorem map_ne_blk {P : Program} {k : TypeId} {R : Value → Option (DataW α × List MemPlace)} {w : World} {b n : Nat} {D : DataW α} {g : Nat} {t : TypeId} {cs : Array Value}
    (h : w.ownsMap P k R b n D) (hg : Blk w g t cs) : b ≠ g := by
  rintro rfl
  obtain ⟨es, clock, hb, _⟩ := h
  unfold Blk at hg
  rw [hb] at hg
  cases hg

/-- 'v, ok := m[k]', typed. -/
theorem wpList_look {P : Program} {w : World} {ops : Array Oper} {rest : List Oper} {o : Oper} {a : Act} {Q : Exit → Act → World → Prop}
    (dec : Value → Option α) (enc : α → Value) (hdec : ∀ v x, dec v = some x → v = enc x)
    (hg : o.guard = none) (m x : Operand) (t : TypeId) (hop : o.op = Op.lookup t m x true)
    (k e : TypeId) (K : Keyed P k) (ht : P.underlying t = some (.map k e)) (z : α) (hz : (zeroValue e).run P w = .ok (enc z) w) (hzd : dec (enc z) = some z) (b n : Nat) (D : DataW α)
    (hm : a.eval m = .map (some b)) (hown : w.ownsMap P k (rdr dec) b n D) (key : Value) (kl : Lit) (hx : a.eval x = key) (hkey : keyOf P k key = some kl)
    (hK : wpList P ops Q rest (a.put o.dst (.tuple #[enc (atK D kl z), .bool (Maps.has D kl)])) w) :
    wpList P ops Q (o :: rest) a w := by
  refine wpList_lookup_own_ok w hg m x t hop k e K ht (rdr dec) hz (.held z) [] (by simp [rdr, hzd]) b n D hm hown key kl hx hkey ?_
  intro v ps hv
  have : v = enc (atK D kl z) := by
    unfold rdr at hv
    obtain ⟨y, hy, hyy⟩ := Option.map_eq_some_iff.1 hv
    simp only [Prod.mk.injEq] at hyy
    rw [hdec v y hy]
    congr 1
    unfold atK
    rw [← hyy.1]
  subst this
  exact hK
/-- 'm[k]', typed. -/
theorem wpList_look1 {P : Program} {w : World} {ops : Array Oper} {rest : List Oper} {o : Oper} {a : Act} {Q : Exit → Act → World → Prop}
    (dec : Value → Option α) (enc : α → Value) (hdec : ∀ v x, dec v = some x → v = enc x)
    (hg : o.guard = none) (m x : Operand) (t : TypeId) (hop : o.op = Op.lookup t m x false)
    (k e : TypeId) (K : Keyed P k) (ht : P.underlying t = some (.map k e)) (z : α) (hz : (zeroValue e).run P w = .ok (enc z) w) (hzd : dec (enc z) = some z) (b n : Nat) (D : DataW α)
    (hm : a.eval m = .map (some b)) (hown : w.ownsMap P k (rdr dec) b n D) (key : Value) (kl : Lit) (hx : a.eval x = key) (hkey : keyOf P k key = some kl)
    (hK : wpList P ops Q rest (a.put o.dst (enc (atK D kl z))) w) :
    wpList P ops Q (o :: rest) a w := by
  refine wpList_plain hg fun K' hK' => ?_
  obtain ⟨v, ps, hrun, hv⟩ := hown.lookup K ht hz (show rdr dec (enc z) = some (.held z, []) by simp [rdr, hzd]) hkey
  have : v = enc (atK D kl z) := by
    unfold rdr at hv
    obtain ⟨y, hy, hyy⟩ := Option.map_eq_some_iff.1 hv
    simp only [Prod.mk.injEq] at hyy
    rw [hdec v y hy]
    congr 1
    unfold atK
    rw [← hyy.1]
  subst this
  unfold Oper.wp
  simp [execOp, hop, hm, hx, hrun, Result.andThen]
  exact hK' _ _ hK
/-- 'm[k] = v', typed. -/
theorem wpList_store {P : Program} {w : World} {ops : Array Oper} {rest : List Oper} {o : Oper} {a : Act} {Q : Exit → Act → World → Prop}
    (dec : Value → Option α)
    (hg : o.guard = none) (m x v : Operand) (t : TypeId) (hop : o.op = Op.mapUpdate t m x v)
    (k e : TypeId) (K : Keyed P k) (ht : P.underlying t = some (.map k e)) (b n : Nat) (D : DataW α)
    (hm : a.eval m = .map (some b)) (hown : w.ownsMap P k (rdr dec) b n D) (hn : n < maxLen) (key val : Value) (kl : Lit) (hx : a.eval x = key) (hv : a.eval v = val) (hkey : keyOf P k key = some kl)
    (y : α) (hval : dec val = some y)
    (hK : ∀ w', w'.ownsMap P k (rdr dec) b (n + 1) (D.put kl (.held y)) → w.mapTurned w' b → wpList P ops Q rest (a.put o.dst undef) w') :
    wpList P ops Q (o :: rest) a w :=
  wpList_mapUpdate_in w hg m x v t hop k e K ht (rdr dec) b n D hm hown hn key val kl hx hv hkey (.held y) [] (by simp [rdr, hval]) hK

/-- A step of a range over a map whose keys are integers, typed. -/
theorem wpList_next_int {P : Program} {w : World} {ops : Array Oper} {rest : List Oper} {o : Oper} {a : Act} {Q : Exit → Act → World → Prop}
    (dec : Value → Option α) (enc : α → Value) (hdec : ∀ v x, dec v = some x → v = enc x) (hde : ∀ x, dec (enc x) = some x)
    (hg : o.guard = none) (it : Operand) (hop : o.op = Op.next it false) (k : TypeId) (q : IntKind) (K : Keyed P k) (hk : P.underlying k = some (.int q)) (b r n : Nat) (D : DataW α) (left : Lit → Bool) (cnt : Nat)
    (hit : a.eval it = .pointer (some ⟨r, 0, none⟩)) (h : w.ranges P k (rdr dec) b r n D left cnt)
    (hDone : cnt = 0 → (∀ kl, left kl = false) → wpList P ops Q rest (a.put o.dst (.tuple #[.bool false])) w)
    (hMore : ∀ (x : Int) (c : α) (w' : World) (cnt' : Nat), (Lit.int q x).wf = true → left (.int q x) = true → Maps.has D (.int q x) = true → (∀ z, atK D (.int q x) z = c) → w'.ranges P k (rdr dec) b r n D (fun z => left z && !z.sameKey (.int q x)) cnt' → cnt' < cnt →
      w.grownBy w' (some r) → w'.heap.size = w.heap.size → (Instr.entry (.pointer (some ⟨r, 0, none⟩))).run P w' = .ok (.tuple #[.int q x, enc c]) w' → wpList P ops Q rest (a.put o.dst (.tuple #[.bool true, .int q x, enc c])) w') :
    wpList P ops Q (o :: rest) a w :=
  wpList_next_ranges w hg it hop k K (rdr dec) (Value.int q) enc (fun key kl hkey => by obtain ⟨x, rfl, _⟩ := Maps.keyOf_int_inv hk hkey; exact ⟨x, rfl⟩)
    (fun v y hv => by
      unfold rdr at hv
      obtain ⟨c, hc, _⟩ := Option.map_eq_some_iff.1 hv
      exact ⟨c, hdec v c hc⟩)
    b r n D left cnt hit h hDone (fun x c kl y w' cnt' hkey hlk hv hat hrg hlt hgr hsz hen => by
      obtain ⟨x', ex, rfl, hwx⟩ := Maps.keyOf_int_inv hk hkey
      cases ex
      have hy : y.1 = .held c := by
        unfold rdr at hv
        rw [hde] at hv
        simp at hv
        rw [← hv]
      exact hMore x c w' cnt' hwx hlk (has_true_of_atKey hat) (fun z => by unfold atK; rw [hat, hy]) hrg hlt hgr hsz hen)

/-- A bound on a map's entries that does not grow with the stores. -/
theorem ownsMap_tight {P : Program} {k : TypeId} {R : Value → Option (DataW α × List MemPlace)} {w : World} {b n : Nat} {D : DataW α} (h : w.ownsMap P k R b n D) : w.ownsMap P k R b (Maps.size D) D := by
  obtain ⟨es, clock, hb, F, hs, rfl⟩ := h
  exact ⟨es, clock, hb, F, by simp [Maps.size, length_sorted], rfl⟩

theorem atK_put_same {D : DataW α} (hD : IsMap D) {k : Lit} (hk : WideAt.IsKeyLit k) (y z : α) : atK (D.put k (.held y)) k z = y := by
  unfold atK; rw [atKey_put_same hD hk]
theorem atK_put_other {D : DataW α} {k k' : Lit} (hne : k' ≠ k) (y z : α) : atK (D.put k (.held y)) k' z = atK D k' z := by
  unfold atK; rw [atKey_put_other hne]
theorem atK_del_other {D : DataW α} {k k' : Lit} (hne : k' ≠ k) (z : α) : atK (D.del k) k' z = atK D k' z := by
  unfold atK; rw [atKey_del_other hne]
theorem atK_not {D : DataW α} {k : Lit} (h : Maps.has D k = false) (z : α) : atK D k z = z := by
  unfold atK; rw [atKey_of_not_has h]
end

def mx (a b : Int) : Int := if a < b then b else a
def mn (a b : Int) : Int := if b < a then b else a
theorem run_max_int (P : Program) (w : World) (ats : Array TypeId) (ty : TypeId) (k k' : IntKind) (x y : Int) : (Builtin.max_ ats ty #[.int k x, .int k' y]).run P w = .ok (.int k (mx x y)) w := by
  simp [Builtin.max_, Builtin.max2, mx]
theorem run_min_int (P : Program) (w : World) (ats : Array TypeId) (ty : TypeId) (k k' : IntKind) (x y : Int) : (Builtin.min_ ats ty #[.int k x, .int k' y]).run P w = .ok (.int k (mn x y)) w := by
  simp [Builtin.min_, Builtin.min2, mn]

/-- A region that draws its order: n operations that only read, then a forced tail. -/
theorem wp_tail {P : Program} {id : Nat} {Q : Exit → Act → World → Prop} {a : Act} {w : World} {l : List Oper} (n : Nat) (hm : P.follows .mixedOrders = true) (hB : Region.lexTailB .any l.toArray n = true)
    (h : wpStill P l.toArray w.drew (fun a' => wpList P l.toArray Q (l.drop n) a' w.drew) (l.take n) a) : (Code.region id l.toArray true).wp P Q a w :=
  wp_region_still_tail n hm hB h

end Go.Proofs.YtkmojgdjapfbbaaDoor
