/- heap: the heads of rows: less, Len, Less, Swap, Pop. -/
import Derived.Test.YtkmojgdjapfbbaaDoorBs
import Derived.Test.YtkmojgdjapfbbaaDoorPa
import Derived.Deep.DeepCutAuto
import Derived.Outline
import Derived.StillTailTactics
import Derived.BigRegion
import Derived.Test.YtkmojgdjapfbbaaDoorFw
namespace Go.Proofs.YtkmojgdjapfbbaaDoor
open Go.RowKit Go.Maps
set_option linter.unusedSimpArgs false
set_option linter.unusedVariables false

/-- Rows of names; a head: a row, and which of its names is first. -/
abbrev Rws := List (List ByteArray)
def Rws.name (R : Rws) (h : Nat × Nat) : ByteArray := (R.getD h.1 []).getD h.2 ⟨#[]⟩
theorem eqB_not {a b : ByteArray} (h : a ≠ b) : (a.toList == b.toList) = false := by
  rw [beq_eq_false_iff_ne]
  intro e
  rw [toList_eq, toList_eq] at e
  exact h (ByteArray.ext (Array.toList_inj.1 e))
/-- Does one item come ahead of another one? -/
def klt (a b : ByteArray × Nat) : Bool := if a.1 = b.1 then decide (a.2 < b.2) else ltS a.1 b.1
def Rws.lt (R : Rws) (a b : Nat × Nat) : Bool := klt (R.name a, a.1) (R.name b, b.1)
set_option maxHeartbeats 1000000 in
theorem iless_calls (a b : ByteArray) (i j : Nat) (w : World) : Calls Tryd.prog 65 #[.agg #[.string a, .int .i64 i], .agg #[.string b, .int .i64 j]] w (RetB (.bool (klt (a, i) (b, j))) w) := by
  have HB : Av (Bel w ((w.alloc (.cells #[.string a, .int .i64 i] 76)).alloc (.cells #[.string b, .int .i64 j] 76))) := ⟨below_alloc (below_alloc (Below.refl _ w) _) _⟩
  have X := Av.mk ((Blk.new w 76 #[.string a, .int .i64 i]).alloc (.cells #[.string b, .int .i64 j] 76))
  have Y := Av.mk (Blk.new (w.alloc (.cells #[.string a, .int .i64 i] 76)) 76 #[.string b, .int .i64 j])
  have hz : (w.alloc (.cells #[.string a, .int .i64 i] 76)).heap.size = w.heap.size + 1 := by simp
  rw [hz] at Y
  clear hz
  by_cases hab : a = b
  · have hk : klt (a, i) (b, j) = decide (i < j) := by simp [klt, hab]
    rw [hk]
    have t1 : (a.toList == b.toList) = true := by simp [hab]
    clear hab hk
    go_enter Tryd.func65, Tryd.ntmps65
    go_upto_region 1 with (fail)
    generalize (w.alloc (.cells #[.string a, .int .i64 i] 76)).alloc (.cells #[.string b, .int .i64 j] 76) = w1 at *
    have c0 := X.out.cell 0; have c1 := X.out.cell 1
    have d0 := Y.out.cell 0; have d1 := Y.out.cell 1
    have lx := X.out.lt
    have ly := Y.out.lt
    simp at c0 c1 d0 d1
    go_wp2_with fail
    go_ret
    exact ⟨by simp, HB.out⟩
  · have hk : klt (a, i) (b, j) = ltS a b := by simp [klt, hab]
    rw [hk]
    have t1 : (a.toList == b.toList) = false := eqB_not hab
    clear hab hk
    go_enter Tryd.func65, Tryd.ntmps65
    go_upto_region 1 with (fail)
    generalize (w.alloc (.cells #[.string a, .int .i64 i] 76)).alloc (.cells #[.string b, .int .i64 j] 76) = w1 at *
    have c0 := X.out.cell 0; have c1 := X.out.cell 1
    have d0 := Y.out.cell 0; have d1 := Y.out.cell 1
    have lx := X.out.lt
    have ly := Y.out.lt
    simp at c0 c1 d0 d1
    go_wp2_with fail
    go_ret
    exact ⟨rfl, HB.out⟩
theorem bel_drew' (w : World) : Bel w w.drew := below_drewN (Below.refl _ w) 1
/-- A head's cells; V: where the rows lie. -/
def restV (v : Value) (k : Nat) : Value := match v with
  | .slice (some ⟨b, o, q⟩) n c => .slice (some ⟨b, o + (if k = c then k - 1 else k), q⟩) (n - k) (c - k)
  | v => v
def hdC (R : Rws) (V : Nat → Value) (h : Nat × Nat) : List Value := [.string (R.name h), .int .i64 (h.1 : Int), restV (V h.1) (h.2 + 1)]
/-- The heads in memory. -/
structure HdAt (w : World) (g base : Nat) (R : Rws) (V : Nat → Value) (A : Option Addr) (c : Nat) (hs : List (Nat × Nat)) : Prop where
  blk : Blk w g 126 #[.slice A hs.length c, .func (.func 65) #[] #[]]
  row : w.ownsRow base 128 3 (.slice A hs.length c) hs.length (hs.flatMap (hdC R V))
  sl : ∀ i, ∃ B n c, V i = .slice B n c
theorem restV_slice {v : Value} (h : ∃ B n c, v = .slice B n c) (k : Nat) : ∃ B n c, restV v k = .slice B n c := by
  obtain ⟨B, n, c, rfl⟩ := h
  cases B with
  | none => exact ⟨_, _, _, rfl⟩
  | some a => exact ⟨_, _, _, rfl⟩
theorem hlen_calls {w : World} {g base : Nat} {R : Rws} {V : Nat → Value} {A : Option Addr} {c : Nat} {hs : List (Nat × Nat)} (h : HdAt w g base R V A c hs) : Calls Tryd.prog 67 #[.pointer (some ⟨g, 0, none⟩)] w (SameW (.int .i64 (hs.length : Int)) w) := by
  have c0 := h.blk.cell 0
  have lx := h.blk.lt
  simp at c0
  clear h
  generalize hs.length = n at *
  go_enter Tryd.func67, Tryd.ntmps67
  go_wp2_with fail
  go_ret
  exact ⟨rfl, rfl⟩
theorem hdC_len (R : Rws) (V : Nat → Value) (h : Nat × Nat) : (hdC R V h).length = 3 := rfl
theorem HdAt.elem {w : World} {g base : Nat} {R : Rws} {V : Nat → Value} {A : Option Addr} {c i : Nat} {hs : List (Nat × Nat)} {x : Nat × Nat} (h : HdAt w g base R V A c hs) (hx : hs[i]? = some x) :
    ∃ r, A = some ⟨r, 0, none⟩ ∧ base ≤ r ∧ r < w.heap.size ∧ hs.length ≤ c ∧ w.cell? ⟨r, i * 3, none⟩ = some (.string (R.name x)) ∧ w.cell? ⟨r, i * 3 + 1, none⟩ = some (.int .i64 (x.1 : Int)) ∧ w.cell? ⟨r, i * 3 + 2, none⟩ = some (restV (V x.1) (x.2 + 1)) := by
  have hi := (List.getElem?_eq_some_iff.1 hx).1
  have hrow := h.row
  rcases hrow.2 with ⟨hv, hn⟩ | ⟨r, cap, cur, hv, hb, hh, hnc, _⟩
  · exfalso
    omega
  · simp only [Value.slice.injEq, true_and] at hv
    obtain ⟨rfl, rfl⟩ := hv
    obtain ⟨b, off, e, hB, hbl, hcc, h0, hj⟩ := (Sl.of_row (B := fun k => base ≤ k) hrow (fun k e => row_base hrow k e.symm)).elem (f := hdC R V) (hdC_len R V) (by omega) hx
    injection e with e
    injection e with e1 e2 e3
    subst e1
    subst e2
    have d0 := hj 0 (by omega); have d1 := hj 1 (by omega); have d2 := hj 2 (by omega)
    exact ⟨r, rfl, hB, hbl, hcc, by simpa [hdC] using d0, by simpa [hdC] using d1, by simpa [hdC] using d2⟩
set_option maxRecDepth 100000 in
set_option maxHeartbeats 1000000 in
theorem hless_calls {w : World} {g base : Nat} {R : Rws} {V : Nat → Value} {A : Option Addr} {c i j : Nat} {hs : List (Nat × Nat)} {x y : Nat × Nat} (h : HdAt w g base R V A c hs) (hx : hs[i]? = some x) (hy : hs[j]? = some y) :
    Calls Tryd.prog 150 #[.pointer (some ⟨g, 0, none⟩), .int .i64 i, .int .i64 j] w (RetB (.bool (R.lt x y)) w) := by
  have hil := (List.getElem?_eq_some_iff.1 hx).1
  have hjl := (List.getElem?_eq_some_iff.1 hy).1
  have g0 := h.blk.cell 0; have g1 := h.blk.cell 1
  have lg := h.blk.lt
  simp at g0 g1
  obtain ⟨r, hA, _, hrl, hcc, a0, a1, _⟩ := h.elem hx
  obtain ⟨r', hA', _, _, _, b0, b1, _⟩ := h.elem hy
  rw [hA] at hA'
  obtain rfl : r = r' := by simpa using hA'
  subst hA
  clear hA' h
  have HL : Av (∀ W, Calls Tryd.prog 65 #[.agg #[.string (R.name x), .int .i64 x.1], .agg #[.string (R.name y), .int .i64 y.1]] W (RetB (.bool (R.lt x y)) W)) := ⟨fun W => iless_calls _ _ _ _ W⟩
  generalize R.lt x y = res at *
  generalize R.name x = nx at *
  generalize R.name y = ny at *
  clear hx hy
  obtain ⟨x1, x2⟩ := x
  obtain ⟨y1, y2⟩ := y
  simp only at a1 b1 HL
  generalize hs.length = n at *
  go_enter Tryd.func150, Tryd.ntmps150
  go_upto_region 1 with (fail)
  go_still_tail 20, (by kernel_rfl)
  change wpList _ _ _ _ _ w.drew
  have HB := Av.mk (bel_drew' w)
  generalize w.drew = w2 at *
  go_wp2_with fail
  refine (HL.out w2).mono ?_
  rintro e w3 ⟨rfl, hb3⟩
  have HB3 : Av (Bel w w3) := ⟨below_then HB.out (Below.size HB.out) hb3⟩
  clear hb3
  go_wp2_with fail
  go_ret
  exact ⟨rfl, HB3.out⟩
theorem set3_eq : ∀ (k : Nat) (L : List Value) (a b c : Value), k + 3 ≤ L.length → ((L.set k a).set (k + 1) b).set (k + 2) c = L.take k ++ [a, b, c] ++ L.drop (k + 3)
  | 0, x :: y :: z :: t, a, b, c, _ => by simp
  | 0, [], a, b, c, h => by simp at h
  | 0, [_], a, b, c, h => by simp at h
  | 0, [_, _], a, b, c, h => by simp at h
  | k + 1, [], a, b, c, h => by simp at h
  | k + 1, x :: t, a, b, c, h => by
    have ih := set3_eq k t a b c (by simp at h; omega)
    exact congrArg (x :: ·) ih
theorem flat_set {α : Type} {f : α → List Value} (hf : ∀ x, (f x).length = 3) (y : α) : ∀ (l : List α) (i : Nat), i < l.length → (l.set i y).flatMap f = (l.flatMap f).take (i * 3) ++ f y ++ (l.flatMap f).drop (i * 3 + 3)
  | [], i, h => by simp at h
  | x :: t, 0, _ => by
    simp only [List.set_cons_zero, List.flatMap_cons, Nat.zero_mul, List.take_zero, List.nil_append, Nat.zero_add]
    rw [List.drop_append_of_le_length (by rw [hf]; exact Nat.le_refl _), List.drop_of_length_le (by rw [hf]; exact Nat.le_refl _), List.nil_append]
  | x :: t, i + 1, h => by
    have ih := flat_set hf y t i (by simpa using h)
    have e1 : (f x ++ t.flatMap f).take ((i + 1) * 3) = f x ++ (t.flatMap f).take (i * 3) := by
      rw [List.take_append, List.take_of_length_le (l := f x) (by rw [hf]; omega), hf, show (i + 1) * 3 - 3 = i * 3 by omega]
    have e2 : (f x ++ t.flatMap f).drop ((i + 1) * 3 + 3) = (t.flatMap f).drop (i * 3 + 3) := by
      rw [List.drop_append, List.drop_of_length_le (l := f x) (by rw [hf]; omega), hf, show (i + 1) * 3 + 3 - 3 = i * 3 + 3 by omega, List.nil_append]
    simp only [List.set_cons_succ, List.flatMap_cons]
    rw [ih, e1, e2, List.append_assoc, List.append_assoc, List.append_assoc]
theorem row_set3 {α : Type} {f : α → List Value} (hf : ∀ x, (f x).length = 3) {w : World} {base e r n c i : Nat} {l : List α} {y : α} {v0 v1 v2 : Value} (h : w.ownsRow base e 3 (.slice (some ⟨r, 0, none⟩) n c) n (l.flatMap f)) (hn : l.length = n) (hi : i < n) (hy : f y = [v0, v1, v2]) :
    (((w.setCell ⟨r, i * 3, none⟩ v0).setCell ⟨r, i * 3 + 1, none⟩ v1).setCell ⟨r, i * 3 + 2, none⟩ v2).ownsRow base e 3 (.slice (some ⟨r, 0, none⟩) n c) n ((l.set i y).flatMap f) := by
  have hl3 : (l.flatMap f).length = n * 3 := by rw [← hn]; exact flat_length f 3 hf l
  have hl4 : ((l.set i y).flatMap f).length = n * 3 := by rw [← hn, flat_length f 3 hf (l.set i y), List.length_set]
  obtain ⟨hl, hr⟩ := h
  rcases hr with ⟨hr, _⟩ | ⟨r', cap, cur, hv, hb, hh, hnc, hcm, hcs, htk⟩
  · simp at hr
  · simp only [Value.slice.injEq, Option.some.injEq, Addr.mk.injEq, and_true, true_and] at hv
    obtain ⟨rfl, rfl⟩ := hv
    have hB : Blk w r e cur := hh
    have hB2 := ((hB.set_ (i * 3) v0).set_ (i * 3 + 1) v1).set_ (i * 3 + 2) v2
    refine ⟨hl4, .inr ⟨r, c, _, rfl, hb, hB2, hnc, hcm, by simpa using hcs, ?_⟩⟩
    simp only [Array.toList_setIfInBounds]
    rw [List.take_set, List.take_set, List.take_set, htk, set3_eq _ _ _ _ _ (by omega), flat_set hf y l i (by omega), hy]
/-- Two of them change places. -/
def swapL {α : Type} (l : List α) (i j : Nat) : List α := match l[i]?, l[j]? with
  | some a, some b => (l.set i b).set j a
  | _, _ => l
/-- What a heap's doing may write: the struct, and the row. -/
def FR (g : Nat) (A : Option Addr) (k : Nat) : Prop := k = g ∨ (Value.slice A 0 0).ownBlock = some k
def SwapP (g base : Nat) (R : Rws) (V : Nat → Value) (A : Option Addr) (c : Nat) (hs : List (Nat × Nat)) (v : Value) (w : World) (e : Ending) (w' : World) : Prop := e = .returned v ∧ HdAt w' g base R V A c hs ∧ Keep (FR g A) w w'
set_option maxRecDepth 100000 in
set_option maxHeartbeats 1000000 in
theorem hswap_calls {w : World} {g base : Nat} {R : Rws} {V : Nat → Value} {A : Option Addr} {c i j : Nat} {hs : List (Nat × Nat)} {x y : Nat × Nat} (h : HdAt w g base R V A c hs) (hx : hs[i]? = some x) (hy : hs[j]? = some y) :
    Calls Tryd.prog 152 #[.pointer (some ⟨g, 0, none⟩), .int .i64 i, .int .i64 j] w (SwapP g base R V A c (swapL hs i j) (.tuple #[]) w) := by
  have hil := (List.getElem?_eq_some_iff.1 hx).1
  have hjl := (List.getElem?_eq_some_iff.1 hy).1
  have g0 := h.blk.cell 0; have g1 := h.blk.cell 1
  have lg := h.blk.lt
  simp at g0 g1
  obtain ⟨r, hA, _, hrl, hcc, a0, a1, a2⟩ := h.elem hx
  obtain ⟨r', hA', _, _, _, b0, b1, b2⟩ := h.elem hy
  rw [hA] at hA'
  obtain rfl : r = r' := by simpa using hA'
  subst hA
  obtain ⟨cur, hcur, hcc3, htk⟩ : ∃ cur : Array Value, Blk w r 128 cur ∧ cur.size = c * 3 ∧ cur.toList.take (hs.length * 3) = hs.flatMap (hdC R V) := by
    rcases h.row.2 with ⟨hv, _⟩ | ⟨r', cap, cur, hv, hb, hh, hnc, hcm, hcs, htk⟩
    · simp at hv
    · simp only [Value.slice.injEq, Option.some.injEq, Addr.mk.injEq, and_true, true_and] at hv
      obtain ⟨rfl, rfl⟩ := hv
      exact ⟨cur, hh, hcs, htk⟩
  have H := Av.mk h
  have HX := Av.mk (And.intro hx hy)
  have HC := Av.mk (And.intro hcc3 htk)
  have BC := Av.mk hcur
  have fi0 := hcur.frozen (i * 3); have fi1 := hcur.frozen (i * 3 + 1); have fi2 := hcur.frozen (i * 3 + 2)
  have fj0 := hcur.frozen (j * 3); have fj1 := hcur.frozen (j * 3 + 1); have fj2 := hcur.frozen (j * 3 + 2)
  clear hA' h hx hy hcc3 htk hcur
  obtain ⟨n, hn⟩ : ∃ n, hs.length = n := ⟨_, rfl⟩
  rw [hn] at g0 hil hjl hcc
  clear hn
  obtain ⟨nx, hnx⟩ : ∃ nx, R.name x = nx := ⟨_, rfl⟩
  obtain ⟨ny, hny⟩ : ∃ ny, R.name y = ny := ⟨_, rfl⟩
  rw [hnx] at a0
  rw [hny] at b0
  have HNX := Av.mk (And.intro hnx.symm hny.symm)
  clear hnx hny
  obtain ⟨Ax, mx, qx, hrx⟩ := restV_slice (H.out.sl x.1) (x.2 + 1)
  obtain ⟨Ay, my, qy, hry⟩ := restV_slice (H.out.sl y.1) (y.2 + 1)
  rw [hrx] at a2
  rw [hry] at b2
  have HRV := Av.mk (And.intro hrx hry)
  clear hrx hry
  obtain ⟨x1, x2⟩ := x
  obtain ⟨y1, y2⟩ := y
  simp only at a1 b1
  by_cases hij : i = j
  · subst hij
    obtain ⟨rfl, rfl⟩ : x1 = y1 ∧ x2 = y2 := by
      have := HX.out.1.symm.trans HX.out.2
      simpa using this
    obtain rfl : nx = ny := by
      rw [a0] at b0
      simpa using b0
    obtain ⟨rfl, rfl, rfl⟩ : Ax = Ay ∧ mx = my ∧ qx = qy := by
      rw [a2] at b2
      simpa using b2
    clear b0 b1 b2 fj0 fj1 fj2 hjl
    go_enter Tryd.func152, Tryd.ntmps152
    go_upto_region 0 with (fail)
    go_region
    all_goals go_end0
    obtain ⟨hx, hy⟩ := HX.out
    have hsw : swapL hs i i = (hs.set i (x1, x2)).set i (x1, x2) := by unfold swapL; simp only [hx, hy]
    have hln : (swapL hs i i).length = hs.length := by rw [hsw]; simp
    have hrow := H.out.row
    have hR1 := row_set3 (hdC_len R V) (y := (x1, x2)) (i := i) (v0 := .string nx) (v1 := .int .i64 x1) (v2 := .slice Ax mx qx) hrow rfl (by have := (List.getElem?_eq_some_iff.1 hx).1; exact this) (by rw [HNX.out.1]; unfold hdC; rw [HRV.out.1])
    have hR2 := row_set3 (hdC_len R V) (y := (x1, x2)) (i := i) (v0 := .string nx) (v1 := .int .i64 x1) (v2 := .slice Ax mx qx) hR1 (by rw [List.length_set]) (by have := (List.getElem?_eq_some_iff.1 hy).1; exact this) (by rw [HNX.out.1]; unfold hdC; rw [HRV.out.1])
    rw [hsw]
    have hg : g ≠ r := fun e => by have := H.out.blk.ne_ BC.out (by decide); exact this e
    have hbr : base ≤ r := row_base hrow r rfl
    have hk6 : Keep (fun k => k = r) w ((((((w.setCell ⟨r, i * 3, none⟩ (.string nx)).setCell ⟨r, i * 3 + 1, none⟩ (.int .i64 x1)).setCell ⟨r, i * 3 + 2, none⟩ (.slice Ax mx qx)).setCell ⟨r, i * 3, none⟩ (.string nx)).setCell ⟨r, i * 3 + 1, none⟩ (.int .i64 x1)).setCell ⟨r, i * 3 + 2, none⟩ (.slice Ax mx qx)) :=
      ((((((Keep.refl (fun k => k = r) w).setCell (p := ⟨r, i * 3, none⟩) (fun _ => rfl) _).setCell (p := ⟨r, i * 3 + 1, none⟩) (fun _ => rfl) _).setCell (p := ⟨r, i * 3 + 2, none⟩) (fun _ => rfl) _).setCell (p := ⟨r, i * 3, none⟩) (fun _ => rfl) _).setCell (p := ⟨r, i * 3 + 1, none⟩) (fun _ => rfl) _).setCell (p := ⟨r, i * 3 + 2, none⟩) (fun _ => rfl) _
    have hk7 := hk6.drewN 1
    refine ⟨rfl, ⟨?_, ?_, H.out.sl⟩, hk7.mono (fun k _ h => .inr (by rw [h]; rfl))⟩
    · have hb := H.out.blk.keep hk7 hg
      rw [List.length_set, List.length_set]
      exact hb
    · have h9 : ((hs.set i (x1, x2)).set i (x1, x2)).length = hs.length := by rw [List.length_set, List.length_set]
      rw [h9]
      exact row_keep hR2 ((Keep.refl (fun _ => False) _).drewN 1) (fun _ _ => id)
  have k00 : j * 3 ≠ i * 3 := by omega
  have k01 : j * 3 ≠ i * 3 + 1 := by omega
  have k02 : j * 3 ≠ i * 3 + 2 := by omega
  have k10 : j * 3 + 1 ≠ i * 3 := by omega
  have k11 : j * 3 + 1 ≠ i * 3 + 1 := by omega
  have k12 : j * 3 + 1 ≠ i * 3 + 2 := by omega
  have k20 : j * 3 + 2 ≠ i * 3 := by omega
  have k21 : j * 3 + 2 ≠ i * 3 + 1 := by omega
  have k22 : j * 3 + 2 ≠ i * 3 + 2 := by omega
  go_enter Tryd.func152, Tryd.ntmps152
  go_upto_region 0 with (fail)
  go_region
  all_goals go_end0
  obtain ⟨hx, hy⟩ := HX.out
  have hsw : swapL hs i j = (hs.set i (y1, y2)).set j (x1, x2) := by unfold swapL; simp only [hx, hy]
  have hln : (swapL hs i j).length = hs.length := by rw [hsw]; simp
  have hrow := H.out.row
  have hR1 := row_set3 (hdC_len R V) (y := (y1, y2)) (i := i) (v0 := .string ny) (v1 := .int .i64 y1) (v2 := .slice Ay my qy) hrow rfl (by have := (List.getElem?_eq_some_iff.1 hx).1; exact this) (by rw [HNX.out.2]; unfold hdC; rw [HRV.out.2])
  have hR2 := row_set3 (hdC_len R V) (y := (x1, x2)) (i := j) (v0 := .string nx) (v1 := .int .i64 x1) (v2 := .slice Ax mx qx) hR1 (by rw [List.length_set]) (by have := (List.getElem?_eq_some_iff.1 hy).1; exact this) (by rw [HNX.out.1]; unfold hdC; rw [HRV.out.1])
  rw [hsw]
  have hg : g ≠ r := fun e => by have := H.out.blk.ne_ BC.out (by decide); exact this e
  have hbr : base ≤ r := row_base hrow r rfl
  have hk6 : Keep (fun k => k = r) w ((((((w.setCell ⟨r, i * 3, none⟩ (.string ny)).setCell ⟨r, i * 3 + 1, none⟩ (.int .i64 y1)).setCell ⟨r, i * 3 + 2, none⟩ (.slice Ay my qy)).setCell ⟨r, j * 3, none⟩ (.string nx)).setCell ⟨r, j * 3 + 1, none⟩ (.int .i64 x1)).setCell ⟨r, j * 3 + 2, none⟩ (.slice Ax mx qx)) :=
    ((((((Keep.refl (fun k => k = r) w).setCell (p := ⟨r, i * 3, none⟩) (fun _ => rfl) _).setCell (p := ⟨r, i * 3 + 1, none⟩) (fun _ => rfl) _).setCell (p := ⟨r, i * 3 + 2, none⟩) (fun _ => rfl) _).setCell (p := ⟨r, j * 3, none⟩) (fun _ => rfl) _).setCell (p := ⟨r, j * 3 + 1, none⟩) (fun _ => rfl) _).setCell (p := ⟨r, j * 3 + 2, none⟩) (fun _ => rfl) _
  have hk7 := hk6.drewN 1
  refine ⟨rfl, ⟨?_, ?_, H.out.sl⟩, hk7.mono (fun k _ h => .inr (by rw [h]; rfl))⟩
  · have hb := H.out.blk.keep hk7 hg
    rw [List.length_set, List.length_set]
    exact hb
  · have h9 : ((hs.set i (y1, y2)).set j (x1, x2)).length = hs.length := by rw [List.length_set, List.length_set]
    rw [h9]
    exact row_keep hR2 ((Keep.refl (fun _ => False) _).drewN 1) (fun _ _ => id)
end Go.Proofs.YtkmojgdjapfbbaaDoor
namespace Go.Proofs.YtkmojgdjapfbbaaDoor
open Go.RowKit Go.Maps
set_option linter.unusedSimpArgs false
set_option linter.unusedVariables false

def lessAt (R : Rws) (hs : List (Nat × Nat)) (i j : Nat) : Bool := match hs[i]?, hs[j]? with
  | some a, some b => R.lt a b
  | _, _ => false
def kidL (R : Rws) (n : Nat) (hs : List (Nat × Nat)) (i : Nat) : Nat := if 2 * i + 2 < n ∧ lessAt R hs (2 * i + 2) (2 * i + 1) = true then 2 * i + 2 else 2 * i + 1
/-- The head in place i goes down. -/
def downL (R : Rws) (n : Nat) : Nat → List (Nat × Nat) → Nat → List (Nat × Nat)
  | 0, hs, _ => hs
  | f + 1, hs, i => if 2 * i + 1 < n then (if lessAt R hs (kidL R n hs i) i = true then downL R n f (swapL hs i (kidL R n hs i)) (kidL R n hs i) else hs) else hs
theorem downL_stop {R : Rws} {n : Nat} {hs : List (Nat × Nat)} {i : Nat} (f : Nat) (h : ¬ 2 * i + 1 < n) : downL R n f hs i = hs := by
  cases f with
  | zero => rfl
  | succ f => rw [downL, if_neg h]
theorem downL_rest {R : Rws} {n : Nat} {hs : List (Nat × Nat)} {i : Nat} (f : Nat) (h : lessAt R hs (kidL R n hs i) i = false) : downL R n f hs i = hs := by
  cases f with
  | zero => rfl
  | succ f =>
    rw [downL, h]
    simp
theorem downL_go {R : Rws} {n : Nat} {hs : List (Nat × Nat)} {i : Nat} (f : Nat) (h1 : 2 * i + 1 < n) (h : lessAt R hs (kidL R n hs i) i = true) : downL R n (f + 1) hs i = downL R n f (swapL hs i (kidL R n hs i)) (kidL R n hs i) := by
  rw [downL, if_pos h1, if_pos h]
theorem swapL_len {α : Type} (l : List α) (i j : Nat) : (swapL l i j).length = l.length := by
  unfold swapL
  split <;> simp
theorem HdAt.grow {w w' : World} {g base : Nat} {R : Rws} {V : Nat → Value} {A : Option Addr} {c : Nat} {hs : List (Nat × Nat)} (h : HdAt w g base R V A c hs) (hb : Bel w w') : HdAt w' g base R V A c hs :=
  ⟨h.blk.keep (Keep.of_below (S := fun _ => False) hb) (by simp), row_keep h.row (Keep.of_below (S := fun _ => False) hb) (fun _ _ => id), h.sl⟩
def DownP (g base : Nat) (R : Rws) (V : Nat → Value) (A : Option Addr) (c : Nat) (hs : List (Nat × Nat)) (w : World) (e : Ending) (w' : World) : Prop := ∃ b : Bool, e = .returned (.bool b) ∧ HdAt w' g base R V A c hs ∧ Keep (FR g A) w w'
set_option maxRecDepth 100000 in
set_option maxHeartbeats 1000000 in
theorem down_calls {w : World} {g base : Nat} {R : Rws} {V : Nat → Value} {A : Option Addr} {c : Nat} {hs : List (Nat × Nat)} (h : HdAt w g base R V A c hs) (i0 n : Nat) (hn : n ≤ hs.length) (hi : i0 ≤ 1000000) (hn2 : n ≤ 1000000) :
    Calls Tryd.prog 89 #[.iface 121 (.pointer (some ⟨g, 0, none⟩)), .int .i64 i0, .int .i64 n] w (DownP g base R V A c (downL R n n hs i0) w) := by
  have H := Av.mk h
  have HN := Av.mk hn
  clear h hn
  obtain ⟨RES, hres⟩ : ∃ RES, downL R n n hs i0 = RES := ⟨_, rfl⟩
  rw [hres]
  have HR := Av.mk hres
  clear hres
  go_enter Tryd.func89, Tryd.ntmps89
  go_wp2_with fail
  go_loopw [7] (fun s7 wr => ∃ (i f : Nat) (l : List (Nat × Nat)), i ≤ 2000002 ∧ s7 = .int .i64 i ∧ n ≤ i + f ∧ Av (downL R n f l i = RES) ∧ l.length = hs.length ∧ HdAt wr g base R V A c l ∧ Keep (FR g A) w wr) (fun s7 _ => n - (intOf s7).toNat)
  case atStart => exact ⟨i0, n, hs, by omega, rfl, by omega, HR, rfl, H.out, Keep.refl _ _⟩
  case round =>
    obtain ⟨i, f, l, hi2, rfl, hf, HD, hll, hh, hk⟩ := hrel
    have HJ := Av.mk hh
    have KJ := Av.mk hk
    have HL := Av.mk hll
    clear hh hk hll
    by_cases h1 : 2 * i + 1 < n
    · have hln := HN.out
      have hll := HL.out
      obtain ⟨f, rfl⟩ : ∃ f', f = f' + 1 := ⟨f - 1, by omega⟩
      obtain ⟨x, hx⟩ : ∃ x, l[i]? = some x := ⟨_, List.getElem?_eq_getElem (by omega)⟩
      obtain ⟨y, hy⟩ : ∃ y, l[2 * i + 1]? = some y := ⟨_, List.getElem?_eq_getElem (by omega)⟩
      have t1 : decide ((n : Int) ≤ 2 * (i : Int) + 1) = false := by rw [decide_eq_false_iff_not]; omega
      have t0 : decide (2 * (i : Int) + 1 < 0) = false := by rw [decide_eq_false_iff_not]; omega
      by_cases h2 : 2 * i + 2 < n
      · have t2 : decide (2 * (i : Int) + 1 + 1 < (n : Int)) = true := by rw [decide_eq_true_eq]; omega
        obtain ⟨z, hz⟩ : ∃ z, l[2 * i + 2]? = some z := ⟨_, List.getElem?_eq_getElem (by omega)⟩
        have hlz : lessAt R l (2 * i + 2) (2 * i + 1) = R.lt z y := by unfold lessAt; simp only [hz, hy]
        have HL2 : Av (∀ W, HdAt W g base R V A c l → Calls Tryd.prog 150 #[.pointer (some ⟨g, 0, none⟩), .int .i64 (2 * (i : Int) + 1 + 1), .int .i64 (2 * (i : Int) + 1)] W (RetB (.bool (R.lt z y)) W)) := ⟨fun W hW => by
          have h := hless_calls hW hz hy
          rw [show ((2 * i + 2 : Nat) : Int) = 2 * (i : Int) + 1 + 1 by omega, show ((2 * i + 1 : Nat) : Int) = 2 * (i : Int) + 1 by omega] at h
          exact h⟩
        clear hln hll
        cases hb : R.lt z y
        case true =>
          rw [hb] at HL2 hlz
          have hkid : kidL R n l i = 2 * i + 2 := by unfold kidL; rw [if_pos ⟨h2, hlz⟩]
          have HLS : Av (∀ W, HdAt W g base R V A c l → Calls Tryd.prog 150 #[.pointer (some ⟨g, 0, none⟩), .int .i64 (2 * (i : Int) + 1 + 1), .int .i64 (i : Int)] W (RetB (.bool (R.lt z x)) W)) := ⟨fun W hW => by
            have h := hless_calls hW hz hx
            rw [show ((2 * i + 2 : Nat) : Int) = 2 * (i : Int) + 1 + 1 by omega] at h
            exact h⟩
          have hla : lessAt R l (2 * i + 2) i = R.lt z x := by unfold lessAt; simp only [hz, hx]
          have hd := HD.out
          cases hc : R.lt z x
          case false =>
            rw [hc] at HLS hla
            rw [downL_rest (f + 1) (by rw [hkid]; exact hla)] at hd
            have HE : Av (l = RES) := ⟨hd⟩
            clear hd hla hkid hc hz hx hy
            go_wp2_with fail
            refine (HL2.out wr HJ.out).mono ?_
            rintro e w3 ⟨rfl, hb3⟩
            have H3 := Av.mk (HJ.out.grow hb3)
            have K3 := Av.mk (KJ.out.trans (Keep.of_below (S := FR g A) hb3))
            clear hb3
            go_wp2_with fail
            refine (HLS.out w3 H3.out).mono ?_
            rintro e w4 ⟨rfl, hb4⟩
            have H4 := Av.mk ((H3.out).grow hb4)
            have K4 := Av.mk (K3.out.trans (Keep.of_below (S := FR g A) hb4))
            clear hb4
            go_wp2_with fail
            go_ret
            exact ⟨_, rfl, by rw [← HE.out]; exact H4.out, K4.out⟩
          case true =>
            rw [hc] at HLS hla
            rw [downL_go f h1 (by rw [hkid]; exact hla), hkid] at hd
            have HE : Av (downL R n f (swapL l i (2 * i + 2)) (2 * i + 2) = RES) := ⟨hd⟩
            have HSW : Av (∀ W, HdAt W g base R V A c l → Calls Tryd.prog 152 #[.pointer (some ⟨g, 0, none⟩), .int .i64 (i : Int), .int .i64 (2 * (i : Int) + 1 + 1)] W (SwapP g base R V A c (swapL l i (2 * i + 2)) (.tuple #[]) W)) := ⟨fun W hW => by
              have h := hswap_calls hW hx hz
              rw [show ((2 * i + 2 : Nat) : Int) = 2 * (i : Int) + 1 + 1 by omega] at h
              exact h⟩
            clear hd hla hkid hc hz hx hy
            go_wp2_with fail
            refine (HL2.out wr HJ.out).mono ?_
            rintro e w3 ⟨rfl, hb3⟩
            have H3 := Av.mk (HJ.out.grow hb3)
            have K3 := Av.mk (KJ.out.trans (Keep.of_below (S := FR g A) hb3))
            clear hb3
            go_wp2_with fail
            refine (HLS.out w3 H3.out).mono ?_
            rintro e w4 ⟨rfl, hb4⟩
            have H4 := Av.mk ((H3.out).grow hb4)
            have K4 := Av.mk (K3.out.trans (Keep.of_below (S := FR g A) hb4))
            clear hb4
            go_wp2_with fail
            refine (HSW.out w4 H4.out).mono ?_
            rintro e w5 ⟨rfl, hh5, hk5⟩
            have H5 := Av.mk hh5
            have K5 := Av.mk (K4.out.trans hk5)
            clear hh5 hk5
            go_wp2_with fail
            go_roundw
            case rel => exact ⟨2 * i + 2, f, swapL l i (2 * i + 2), by omega, by go_num, by omega, HE, by rw [swapL_len]; exact HL.out, H5.out, K5.out⟩
            case measure => simp [intOf]; omega
        case false =>
          rw [hb] at HL2 hlz
          have hkid : kidL R n l i = 2 * i + 1 := by unfold kidL; rw [if_neg (by rw [hlz]; simp)]
          have HLS : Av (∀ W, HdAt W g base R V A c l → Calls Tryd.prog 150 #[.pointer (some ⟨g, 0, none⟩), .int .i64 (2 * (i : Int) + 1), .int .i64 (i : Int)] W (RetB (.bool (R.lt y x)) W)) := ⟨fun W hW => by
            have h := hless_calls hW hy hx
            rw [show ((2 * i + 1 : Nat) : Int) = 2 * (i : Int) + 1 by omega] at h
            exact h⟩
          have hla : lessAt R l (2 * i + 1) i = R.lt y x := by unfold lessAt; simp only [hy, hx]
          have hd := HD.out
          cases hc : R.lt y x
          case false =>
            rw [hc] at HLS hla
            rw [downL_rest (f + 1) (by rw [hkid]; exact hla)] at hd
            have HE : Av (l = RES) := ⟨hd⟩
            clear hd hla hkid hc hy hx
            go_wp2_with fail
            refine (HL2.out wr HJ.out).mono ?_
            rintro e w3 ⟨rfl, hb3⟩
            have H3 := Av.mk (HJ.out.grow hb3)
            have K3 := Av.mk (KJ.out.trans (Keep.of_below (S := FR g A) hb3))
            clear hb3
            go_wp2_with fail
            refine (HLS.out w3 H3.out).mono ?_
            rintro e w4 ⟨rfl, hb4⟩
            have H4 := Av.mk ((H3.out).grow hb4)
            have K4 := Av.mk (K3.out.trans (Keep.of_below (S := FR g A) hb4))
            clear hb4
            go_wp2_with fail
            go_ret
            exact ⟨_, rfl, by rw [← HE.out]; exact H4.out, K4.out⟩
          case true =>
            rw [hc] at HLS hla
            rw [downL_go f h1 (by rw [hkid]; exact hla), hkid] at hd
            have HE : Av (downL R n f (swapL l i (2 * i + 1)) (2 * i + 1) = RES) := ⟨hd⟩
            have HSW : Av (∀ W, HdAt W g base R V A c l → Calls Tryd.prog 152 #[.pointer (some ⟨g, 0, none⟩), .int .i64 (i : Int), .int .i64 (2 * (i : Int) + 1)] W (SwapP g base R V A c (swapL l i (2 * i + 1)) (.tuple #[]) W)) := ⟨fun W hW => by
              have h := hswap_calls hW hx hy
              rw [show ((2 * i + 1 : Nat) : Int) = 2 * (i : Int) + 1 by omega] at h
              exact h⟩
            clear hd hla hkid hc hy hx
            go_wp2_with fail
            refine (HL2.out wr HJ.out).mono ?_
            rintro e w3 ⟨rfl, hb3⟩
            have H3 := Av.mk (HJ.out.grow hb3)
            have K3 := Av.mk (KJ.out.trans (Keep.of_below (S := FR g A) hb3))
            clear hb3
            go_wp2_with fail
            refine (HLS.out w3 H3.out).mono ?_
            rintro e w4 ⟨rfl, hb4⟩
            have H4 := Av.mk ((H3.out).grow hb4)
            have K4 := Av.mk (K3.out.trans (Keep.of_below (S := FR g A) hb4))
            clear hb4
            go_wp2_with fail
            refine (HSW.out w4 H4.out).mono ?_
            rintro e w5 ⟨rfl, hh5, hk5⟩
            have H5 := Av.mk hh5
            have K5 := Av.mk (K4.out.trans hk5)
            clear hh5 hk5
            go_wp2_with fail
            go_roundw
            case rel => exact ⟨2 * i + 1, f, swapL l i (2 * i + 1), by omega, by go_num, by omega, HE, by rw [swapL_len]; exact HL.out, H5.out, K5.out⟩
            case measure => simp [intOf]; omega
      · have t2 : decide (2 * (i : Int) + 1 + 1 < (n : Int)) = false := by rw [decide_eq_false_iff_not]; omega
        clear hln hll
        have hkid : kidL R n l i = 2 * i + 1 := by unfold kidL; rw [if_neg (by omega)]
        have HLS : Av (∀ W, HdAt W g base R V A c l → Calls Tryd.prog 150 #[.pointer (some ⟨g, 0, none⟩), .int .i64 (2 * (i : Int) + 1), .int .i64 (i : Int)] W (RetB (.bool (R.lt y x)) W)) := ⟨fun W hW => by
          have h := hless_calls hW hy hx
          rw [show ((2 * i + 1 : Nat) : Int) = 2 * (i : Int) + 1 by omega] at h
          exact h⟩
        have hla : lessAt R l (2 * i + 1) i = R.lt y x := by unfold lessAt; simp only [hy, hx]
        have hd := HD.out
        cases hc : R.lt y x
        case false =>
          rw [hc] at HLS hla
          rw [downL_rest (f + 1) (by rw [hkid]; exact hla)] at hd
          have HE : Av (l = RES) := ⟨hd⟩
          clear hd hla hkid hc hy hx
          go_wp2_with fail
          refine (HLS.out wr HJ.out).mono ?_
          rintro e w4 ⟨rfl, hb4⟩
          have H4 := Av.mk ((HJ.out).grow hb4)
          have K4 := Av.mk (KJ.out.trans (Keep.of_below (S := FR g A) hb4))
          clear hb4
          go_wp2_with fail
          go_ret
          exact ⟨_, rfl, by rw [← HE.out]; exact H4.out, K4.out⟩
        case true =>
          rw [hc] at HLS hla
          rw [downL_go f h1 (by rw [hkid]; exact hla), hkid] at hd
          have HE : Av (downL R n f (swapL l i (2 * i + 1)) (2 * i + 1) = RES) := ⟨hd⟩
          have HSW : Av (∀ W, HdAt W g base R V A c l → Calls Tryd.prog 152 #[.pointer (some ⟨g, 0, none⟩), .int .i64 (i : Int), .int .i64 (2 * (i : Int) + 1)] W (SwapP g base R V A c (swapL l i (2 * i + 1)) (.tuple #[]) W)) := ⟨fun W hW => by
            have h := hswap_calls hW hx hy
            rw [show ((2 * i + 1 : Nat) : Int) = 2 * (i : Int) + 1 by omega] at h
            exact h⟩
          clear hd hla hkid hc hy hx
          go_wp2_with fail
          refine (HLS.out wr HJ.out).mono ?_
          rintro e w4 ⟨rfl, hb4⟩
          have H4 := Av.mk ((HJ.out).grow hb4)
          have K4 := Av.mk (KJ.out.trans (Keep.of_below (S := FR g A) hb4))
          clear hb4
          go_wp2_with fail
          refine (HSW.out w4 H4.out).mono ?_
          rintro e w5 ⟨rfl, hh5, hk5⟩
          have H5 := Av.mk hh5
          have K5 := Av.mk (K4.out.trans hk5)
          clear hh5 hk5
          go_wp2_with fail
          go_roundw
          case rel => exact ⟨2 * i + 1, f, swapL l i (2 * i + 1), by omega, by go_num, by omega, HE, by rw [swapL_len]; exact HL.out, H5.out, K5.out⟩
          case measure => simp [intOf]; omega
    · have hd := HD.out
      rw [downL_stop f h1] at hd
      have HE : Av (l = RES) := ⟨hd⟩
      clear hd
      have t1 : decide ((n : Int) ≤ 2 * (i : Int) + 1) = true := by rw [decide_eq_true_eq]; omega
      go_wp2_with fail
      go_ret
      exact ⟨_, rfl, by rw [← HE.out]; exact HJ.out, KJ.out⟩
end Go.Proofs.YtkmojgdjapfbbaaDoor
namespace Go.Proofs.YtkmojgdjapfbbaaDoor
open Go.RowKit Go.Maps
set_option linter.unusedSimpArgs false
set_option linter.unusedVariables false

theorem flat_take3 {α : Type} {f : α → List Value} (hf : ∀ x, (f x).length = 3) : ∀ (l : List α) (m : Nat), (l.flatMap f).take (m * 3) = (l.take m).flatMap f
  | [], m => by simp
  | x :: t, 0 => by simp
  | x :: t, m + 1 => by
    rw [List.take_succ_cons, List.flatMap_cons, List.flatMap_cons, List.take_append, List.take_of_length_le (l := f x) (by rw [hf]; omega), hf, show (m + 1) * 3 - 3 = m * 3 by omega, flat_take3 hf t m]
theorem row_take {w : World} {base e size n m c : Nat} {A : Option Addr} {xs : List Value} (h : w.ownsRow base e size (.slice A n c) n xs) (hm : m ≤ n) : w.ownsRow base e size (.slice A m c) m (xs.take (m * size)) := by
  obtain ⟨hl, hr⟩ := h
  have hle := Nat.mul_le_mul_right size hm
  refine ⟨by rw [List.length_take]; omega, ?_⟩
  rcases hr with ⟨hr, hn⟩ | ⟨r, cap, cur, hv, hb, hh, hnc, hcm, hcs, htk⟩
  · simp only [Value.slice.injEq] at hr
    obtain ⟨rfl, -, rfl⟩ := hr
    exact .inl ⟨by rw [show m = 0 by omega], by omega⟩
  · simp only [Value.slice.injEq] at hv
    obtain ⟨rfl, -, rfl⟩ := hv
    refine .inr ⟨r, c, cur, rfl, hb, hh, by omega, hcm, hcs, ?_⟩
    rw [← htk, List.take_take, Nat.min_eq_left hle]
theorem up_calls (w : World) (v : Value) : Calls Tryd.prog 90 #[.iface 121 v, .int .i64 0] w (SameW (.tuple #[]) w) := by
  go_enter Tryd.func90, Tryd.ntmps90
  go_wp2_with fail
  go_loopw [1] (fun s1 wr => s1 = .int .i64 0 ∧ Av (w = wr)) (fun _ _ => 0)
  case atStart => exact ⟨rfl, ⟨rfl⟩⟩
  case round =>
    obtain ⟨rfl, ⟨rfl⟩⟩ := hrel
    go_wp2_with fail
    go_end0
    exact ⟨rfl, rfl⟩
def PopP (g base : Nat) (R : Rws) (V : Nat → Value) (A : Option Addr) (c : Nat) (hs : List (Nat × Nat)) (w : World) (e : Ending) (w' : World) : Prop := ∃ v, e = .returned v ∧ HdAt w' g base R V A c hs ∧ Keep (FR g A) w w'
set_option maxRecDepth 100000 in
set_option maxHeartbeats 1000000 in
theorem hpop_calls {w : World} {g base : Nat} {R : Rws} {V : Nat → Value} {A : Option Addr} {c n : Nat} {hs : List (Nat × Nat)} (h : HdAt w g base R V A c hs) (hn : hs.length = n + 1) (hbg : base ≤ g) (hn2 : n ≤ 1000000) :
    Calls Tryd.prog 151 #[.pointer (some ⟨g, 0, none⟩)] w (PopP g base R V A c (hs.take n) w) := by
  obtain ⟨x, hx⟩ : ∃ x, hs[n]? = some x := ⟨_, List.getElem?_eq_getElem (by omega)⟩
  have g0 := h.blk.cell 0; have g1 := h.blk.cell 1
  have f0 := h.blk.frozen 0
  have lg := h.blk.lt
  simp at g0 g1
  obtain ⟨r, hA, hbr, hrl, hcc, a0, a1, a2⟩ := h.elem hx
  subst hA
  obtain ⟨Ax, mx, qx, hrx⟩ := restV_slice (h.sl x.1) (x.2 + 1)
  rw [hrx] at a2
  have H := Av.mk h
  have HB1 := Av.mk (below_alloc (Below.refl _ w) (.cells #[.string (R.name x), .int .i64 (x.1 : Int), .slice Ax mx qx] 128))
  have HN := Av.mk hn
  rw [hn] at g0 hcc
  clear h hx hrx hn
  generalize R.name x = nx at *
  obtain ⟨x1, x2⟩ := x
  simp only at a1 HB1
  go_enter Tryd.func151, Tryd.ntmps151
  go_upto_region 3 with (fail)
  have H2 := Av.mk (H.out.grow HB1.out)
  have KB1 := Av.mk (Keep.of_below (S := FR g (some ⟨r, 0, none⟩)) HB1.out)
  have X2 := Av.mk (Blk.new w 128 #[.string nx, .int .i64 (x1 : Int), .slice Ax mx qx])
  have hne : w.heap.size ≠ g := by omega
  have hgs : g < (w.alloc (.cells #[.string nx, .int .i64 (x1 : Int), .slice Ax mx qx] 128)).heap.size := by simp; omega
  clear H g0 g1 f0 lg a0 a1 a2
  generalize w.alloc (.cells #[.string nx, .int .i64 (x1 : Int), .slice Ax mx qx] 128) = w2 at *
  generalize w.heap.size = gx at *
  have g0 := H2.out.blk.cell 0; have g1 := H2.out.blk.cell 1
  have f0 := H2.out.blk.frozen 0
  simp at g0 g1
  rw [HN.out] at g0
  go_upto_region 4 with (fail)
  have X3 := Av.mk (X2.out.far (p := ⟨g, 0, none⟩) hne (.slice (some ⟨r, 0, none⟩) n c))
  have hk : Keep (fun k => k = g) w2 (w2.setCell ⟨g, 0, none⟩ (.slice (some ⟨r, 0, none⟩) n c)) := (Keep.refl (fun k => k = g) w2).setCell (p := ⟨g, 0, none⟩) (fun _ => rfl) _
  have hrg : r ≠ g := fun e => by have := row_ne H2.out.row H2.out.blk (by decide); simp [Value.ownBlock] at this; omega
  have htl : (hs.take n).length = n := by rw [List.length_take, HN.out]; omega
  have HP : Av (HdAt (w2.setCell ⟨g, 0, none⟩ (.slice (some ⟨r, 0, none⟩) n c)) g base R V (some ⟨r, 0, none⟩) c (hs.take n)) := ⟨⟨by
      have := H2.out.blk.set_ 0 (.slice (some ⟨r, 0, none⟩) n c)
      rw [htl]
      simpa using this, by
      have h1 := row_take (m := n) (row_keep H2.out.row hk (fun k e h => by simp [Value.ownBlock] at e; omega)) (by rw [HN.out]; omega)
      rw [flat_take3 (hdC_len R V)] at h1
      rw [htl]
      exact h1, H2.out.sl⟩⟩
  have KP : Av (Keep (FR g (some ⟨r, 0, none⟩)) w (w2.setCell ⟨g, 0, none⟩ (.slice (some ⟨r, 0, none⟩) n c))) := ⟨KB1.out.trans (hk.mono (fun k _ h => .inl h))⟩
  clear hk htl H2 X2 g0 g1 f0 hgs
  generalize w2.setCell ⟨g, 0, none⟩ (.slice (some ⟨r, 0, none⟩) n c) = w3 at *
  have d0 := X3.out.cell 0; have d1 := X3.out.cell 1; have d2 := X3.out.cell 2
  have lx := X3.out.lt
  simp at d0 d1 d2
  go_wp2_with fail
  go_ret
  exact ⟨_, rfl, HP.out, KP.out⟩
theorem downL_len (R : Rws) (n : Nat) : ∀ (f : Nat) (hs : List (Nat × Nat)) (i : Nat), (downL R n f hs i).length = hs.length
  | 0, hs, i => rfl
  | f + 1, hs, i => by
    rw [downL]
    split
    · split
      · rw [downL_len R n f, swapL_len]
      · rfl
    · rfl
def popL (R : Rws) (hs : List (Nat × Nat)) (n : Nat) : List (Nat × Nat) := (downL R n n (swapL hs 0 n) 0).take n
set_option maxRecDepth 100000 in
set_option maxHeartbeats 1000000 in
theorem cpop_calls {w : World} {g base : Nat} {R : Rws} {V : Nat → Value} {A : Option Addr} {c n : Nat} {hs : List (Nat × Nat)} (h : HdAt w g base R V A c hs) (hn : hs.length = n + 1) (hbg : base ≤ g) (hn2 : n ≤ 1000000) :
    Calls Tryd.prog 68 #[.iface 121 (.pointer (some ⟨g, 0, none⟩))] w (PopP g base R V A c (popL R hs n) w) := by
  obtain ⟨x, hx⟩ : ∃ x, hs[0]? = some x := ⟨_, List.getElem?_eq_getElem (by omega)⟩
  obtain ⟨y, hy⟩ : ∃ y, hs[n]? = some y := ⟨_, List.getElem?_eq_getElem (by omega)⟩
  have H := Av.mk h
  have HLN : Av (∀ W, HdAt W g base R V A c hs → Calls Tryd.prog 67 #[.pointer (some ⟨g, 0, none⟩)] W (SameW (.int .i64 ((n : Int) + 1)) W)) := ⟨fun W hW => by
    have h1 := hlen_calls hW
    rw [hn] at h1
    exact h1⟩
  have HSW : Av (∀ W, HdAt W g base R V A c hs → Calls Tryd.prog 152 #[.pointer (some ⟨g, 0, none⟩), .int .i64 0, .int .i64 n] W (SwapP g base R V A c (swapL hs 0 n) (.tuple #[]) W)) := ⟨fun W hW => hswap_calls hW hx hy⟩
  have HDN : Av (∀ W, HdAt W g base R V A c (swapL hs 0 n) → Calls Tryd.prog 89 #[.iface 121 (.pointer (some ⟨g, 0, none⟩)), .int .i64 0, .int .i64 n] W (DownP g base R V A c (downL R n n (swapL hs 0 n) 0) W)) := ⟨fun W hW => down_calls hW 0 n (by rw [swapL_len]; omega) (by omega) hn2⟩
  have HPP : Av (∀ W, HdAt W g base R V A c (downL R n n (swapL hs 0 n) 0) → Calls Tryd.prog 151 #[.pointer (some ⟨g, 0, none⟩)] W (PopP g base R V A c (popL R hs n) W)) := ⟨fun W hW => hpop_calls hW (by rw [downL_len, swapL_len]; exact hn) hbg hn2⟩
  clear h hx hy hn
  generalize popL R hs n = RES at *
  generalize downL R n n (swapL hs 0 n) 0 = l2 at *
  generalize swapL hs 0 n = l1 at *
  go_enter Tryd.func68, Tryd.ntmps68
  go_wp2_with fail
  refine (HLN.out w H.out).mono ?_
  rintro e _ ⟨rfl, rfl⟩
  go_wp2_with fail
  refine (HSW.out w H.out).mono ?_
  rintro e w2 ⟨rfl, hh2, hk2⟩
  have H2 := Av.mk hh2
  have K2 := Av.mk hk2
  clear hh2 hk2
  go_wp2_with fail
  refine (HDN.out w2 H2.out).mono ?_
  rintro e w3 ⟨b, rfl, hh3, hk3⟩
  have H3 := Av.mk hh3
  have K3 := Av.mk (K2.out.trans hk3)
  clear hh3 hk3
  go_wp2_with fail
  refine (HPP.out w3 H3.out).mono ?_
  rintro e w4 ⟨v, rfl, hh4, hk4⟩
  have H4 := Av.mk hh4
  have K4 := Av.mk (K3.out.trans hk4)
  clear hh4 hk4
  go_wp2_with fail
  go_ret
  exact ⟨_, rfl, H4.out, K4.out⟩
set_option maxRecDepth 100000 in
set_option maxHeartbeats 1000000 in
theorem cfix_calls {w : World} {g base : Nat} {R : Rws} {V : Nat → Value} {A : Option Addr} {c : Nat} {hs : List (Nat × Nat)} (h : HdAt w g base R V A c hs) (hn2 : hs.length ≤ 1000000) :
    Calls Tryd.prog 69 #[.iface 121 (.pointer (some ⟨g, 0, none⟩)), .int .i64 0] w (SwapP g base R V A c (downL R hs.length hs.length hs 0) (.tuple #[]) w) := by
  have H := Av.mk h
  have HLN : Av (∀ W, HdAt W g base R V A c hs → Calls Tryd.prog 67 #[.pointer (some ⟨g, 0, none⟩)] W (SameW (.int .i64 (hs.length : Int)) W)) := ⟨fun W hW => hlen_calls hW⟩
  have HDN : Av (∀ W, HdAt W g base R V A c hs → Calls Tryd.prog 89 #[.iface 121 (.pointer (some ⟨g, 0, none⟩)), .int .i64 0, .int .i64 (hs.length : Int)] W (DownP g base R V A c (downL R hs.length hs.length hs 0) W)) := ⟨fun W hW => down_calls hW 0 hs.length (Nat.le_refl _) (by omega) hn2⟩
  have HUP : Av (∀ W, Calls Tryd.prog 90 #[.iface 121 (.pointer (some ⟨g, 0, none⟩)), .int .i64 0] W (SameW (.tuple #[]) W)) := ⟨fun W => up_calls W _⟩
  clear h
  generalize downL R hs.length hs.length hs 0 = l2 at *
  generalize hs.length = n at *
  go_enter Tryd.func69, Tryd.ntmps69
  go_wp2_with fail
  refine (HLN.out w H.out).mono ?_
  rintro e _ ⟨rfl, rfl⟩
  go_wp2_with fail
  refine (HDN.out w H.out).mono ?_
  rintro e w3 ⟨b, rfl, hh3, hk3⟩
  have H3 := Av.mk hh3
  have K3 := Av.mk hk3
  clear hh3 hk3
  cases b
  case true =>
    go_wp2_with fail
    go_end0
    exact ⟨rfl, H3.out, K3.out⟩
  case false =>
    go_wp2_with fail
    refine (HUP.out w3).mono ?_
    rintro e _ ⟨rfl, rfl⟩
    go_wp2_with fail
    go_end0
    exact ⟨rfl, H3.out, K3.out⟩
def initL (R : Rws) (n : Nat) : Nat → List (Nat × Nat) → List (Nat × Nat)
  | 0, hs => hs
  | k + 1, hs => initL R n k (downL R n n hs k)
theorem initL_len (R : Rws) (n : Nat) : ∀ (k : Nat) (hs : List (Nat × Nat)), (initL R n k hs).length = hs.length
  | 0, hs => rfl
  | k + 1, hs => by rw [initL, initL_len R n k, downL_len]
theorem popL_len (R : Rws) (hs : List (Nat × Nat)) (n : Nat) : (popL R hs n).length ≤ n := by
  unfold popL
  rw [List.length_take]
  omega
theorem FR.isT {w : World} {g base : Nat} {R : Rws} {V : Nat → Value} {A : Option Addr} {c : Nat} {hs : List (Nat × Nat)} (h : HdAt w g base R V A c hs) {k : Nat} (hk : FR g A k) : IsT w 126 k ∨ IsT w 128 k := by
  rcases hk with rfl | hk
  · exact .inl h.blk.isT
  · exact .inr (row_isT h.row k (by cases A with | none => simp [Value.ownBlock] at hk | some a => simpa [Value.ownBlock] using hk))
theorem FR.low {w : World} {g base : Nat} {R : Rws} {V : Nat → Value} {A : Option Addr} {c : Nat} {hs : List (Nat × Nat)} (h : HdAt w g base R V A c hs) (hg : base ≤ g) {k : Nat} (hk : FR g A k) : base ≤ k := by
  rcases hk with rfl | hk
  · exact hg
  · exact row_base h.row k (by cases A with | none => simp [Value.ownBlock] at hk | some a => simpa [Value.ownBlock] using hk.symm)
set_option maxRecDepth 100000 in
set_option maxHeartbeats 1000000 in
theorem cinit_calls {w : World} {g base : Nat} {R : Rws} {V : Nat → Value} {A : Option Addr} {c : Nat} {hs : List (Nat × Nat)} (h : HdAt w g base R V A c hs) (hn2 : hs.length ≤ 1000000) :
    Calls Tryd.prog 66 #[.iface 121 (.pointer (some ⟨g, 0, none⟩))] w (SwapP g base R V A c (initL R hs.length (hs.length / 2) hs) (.tuple #[]) w) := by
  have H := Av.mk h
  have HLN : Av (∀ W, HdAt W g base R V A c hs → Calls Tryd.prog 67 #[.pointer (some ⟨g, 0, none⟩)] W (SameW (.int .i64 (hs.length : Int)) W)) := ⟨fun W hW => hlen_calls hW⟩
  obtain ⟨n, hn⟩ : ∃ n, hs.length = n := ⟨_, rfl⟩
  have HN := Av.mk hn
  rw [hn] at HLN hn2 ⊢
  obtain ⟨RES, hres⟩ : ∃ RES, initL R n (n / 2) hs = RES := ⟨_, rfl⟩
  rw [hres]
  have HR := Av.mk hres
  clear h hn hres
  have hq : Int.tdiv (n : Int) 2 = ((n / 2 : Nat) : Int) := by rw [Int.tdiv_eq_ediv_of_nonneg (by omega)]; omega
  obtain ⟨m, hm⟩ : ∃ m, n / 2 = m := ⟨_, rfl⟩
  have hmn : m ≤ n := by omega
  rw [hm] at hq HR
  clear hm
  go_enter Tryd.func66, Tryd.ntmps66
  go_wp2_with fail
  refine (HLN.out w H.out).mono ?_
  rintro e _ ⟨rfl, rfl⟩
  go_wp2_with fail
  go_loopw [3] (fun s3 wr => ∃ (k : Nat) (l : List (Nat × Nat)), k ≤ n ∧ s3 = .int .i64 ((k : Int) - 1) ∧ Av (initL R n k l = RES) ∧ l.length = n ∧ HdAt wr g base R V A c l ∧ Keep (FR g A) w wr) (fun s3 _ => (intOf s3 + 1).toNat)
  case atStart => exact ⟨m, hs, hmn, rfl, HR, HN.out, H.out, Keep.refl _ _⟩
  case round =>
    obtain ⟨k, l, hkn, rfl, HD, hll, hh, hk⟩ := hrel
    have HJ := Av.mk hh
    have KJ := Av.mk hk
    have HL := Av.mk hll
    clear hh hk hll
    cases k with
    | zero =>
      have HE : Av (l = RES) := ⟨HD.out⟩
      have t1 : decide ((0 : Int) ≤ ((0 : Nat) : Int) - 1) = false := by rfl
      go_wp2_with fail
      go_end0
      exact ⟨rfl, by rw [← HE.out]; exact HJ.out, KJ.out⟩
    | succ k =>
      have HDN : Av (Calls Tryd.prog 89 #[.iface 121 (.pointer (some ⟨g, 0, none⟩)), .int .i64 (k : Int), .int .i64 (n : Int)] wr (DownP g base R V A c (downL R n n l k) wr)) := ⟨down_calls HJ.out k n (by rw [HL.out]; exact Nat.le_refl _) (by omega) hn2⟩
      have HE : Av (initL R n k (downL R n n l k) = RES) := ⟨HD.out⟩
      have hc : ((k + 1 : Nat) : Int) - 1 = (k : Int) := by omega
      rw [hc]
      clear hc
      go_wp2_with fail
      refine HDN.out.mono ?_
      rintro e w3 ⟨b, rfl, hh3, hk3⟩
      have H3 := Av.mk hh3
      have K3 := Av.mk (KJ.out.trans hk3)
      clear hh3 hk3
      go_wp2_with fail
      go_roundw
      case rel => exact ⟨k, _, by omega, rfl, HE, by rw [downL_len]; exact HL.out, H3.out, K3.out⟩
      case measure => simp [intOf]
end Go.Proofs.YtkmojgdjapfbbaaDoor
namespace Go.Proofs.YtkmojgdjapfbbaaDoor
open Go.RowKit Go.Maps
set_option linter.unusedSimpArgs false
set_option linter.unusedVariables false

/-- Rows of names in memory. -/
structure RowsAt (Q : Nat → Prop) (w : World) (A : Option Addr) (c : Nat) (vs : List Value) (R : Rws) : Prop where
  len : vs.length = R.length
  row : Sl Q w 1 (.slice A R.length c) R.length vs
  sub : ∀ (i : Nat) (v : Value) (r : List ByteArray), vs[i]? = some v → R[i]? = some r → Sl Q w 1 v r.length (r.map Value.string)
theorem RowsAt.grow {Q : Nat → Prop} {w w' : World} {A : Option Addr} {c : Nat} {vs : List Value} {R : Rws} (h : RowsAt Q w A c vs R) (hb : Bel w w') : RowsAt Q w' A c vs R :=
  ⟨h.len, h.row.grow hb, fun i v r h1 h2 => (h.sub i v r h1 h2).grow hb⟩
theorem RowsAt.lt {Q : Nat → Prop} {w : World} {A : Option Addr} {c : Nat} {vs : List Value} {R : Rws} (h : RowsAt Q w A c vs R) : RowsAt (fun k => Q k ∧ k < w.heap.size) w A c vs R :=
  ⟨h.len, h.row.bound, fun i v r h1 h2 => (h.sub i v r h1 h2).bound⟩
/-- Where row i lies. -/
def rowV (vs : List Value) (i : Nat) : Value := match vs[i]? with
  | some (.slice B n c) => .slice B n c
  | _ => .slice none 0 0
theorem rowV_slice (vs : List Value) (i : Nat) : ∃ B n c, rowV vs i = .slice B n c := by
  unfold rowV
  split <;> exact ⟨_, _, _, rfl⟩
def manyL (R : Rws) : Nat → Nat
  | 0 => 0
  | k + 1 => manyL R k + (R.getD k []).length
def headsL (R : Rws) : Nat → List (Nat × Nat)
  | 0 => []
  | k + 1 => headsL R k ++ (if 0 < (R.getD k []).length then [(k, 0)] else [])
theorem headsL_len (R : Rws) : ∀ k, (headsL R k).length ≤ k
  | 0 => Nat.le_refl _
  | k + 1 => by
    have := headsL_len R k
    rw [headsL, List.length_append]
    split <;> simp <;> omega
theorem manyL_mono (R : Rws) {a b : Nat} (h : a ≤ b) : manyL R a ≤ manyL R b := by
  induction b with
  | zero => rw [show a = 0 by omega]; exact Nat.le_refl _
  | succ b ih =>
    rcases Nat.lt_or_ge a (b + 1) with h2 | h2
    · have := ih (by omega)
      rw [manyL]; omega
    · rw [show a = b + 1 by omega]; exact Nat.le_refl _
theorem info128 : ∃ i, Tryd.prog.info? 128 = some i ∧ i.zero = some (.agg #[.string ⟨#[]⟩, .int .i64 0, .slice none 0 0]) ∧ i.size = 3 ∧ i.bytes = 48 := by
  have h : (Tryd.prog.info? 128).map (fun i => (i.zero, i.size, i.bytes)) = some (some (.agg #[.string ⟨#[]⟩, .int .i64 0, .slice none 0 0]), 3, 48) := by kernel_rfl
  obtain ⟨i, hi, e⟩ := Option.map_eq_some_iff.1 h
  simp only [Prod.mk.injEq] at e
  exact ⟨i, hi, e.1, e.2.1, e.2.2⟩
theorem info76 : ∃ i, Tryd.prog.info? 76 = some i ∧ i.zero = some (.agg #[.string ⟨#[]⟩, .int .i64 0]) ∧ i.size = 2 ∧ i.bytes = 24 := by
  have h : (Tryd.prog.info? 76).map (fun i => (i.zero, i.size, i.bytes)) = some (some (.agg #[.string ⟨#[]⟩, .int .i64 0]), 2, 24) := by kernel_rfl
  obtain ⟨i, hi, e⟩ := Option.map_eq_some_iff.1 h
  simp only [Prod.mk.injEq] at e
  exact ⟨i, hi, e.1, e.2.1, e.2.2⟩
def lenV : Value → Nat | .slice _ n _ => n | _ => 0
def itC (x : ByteArray × Nat) : List Value := [.string x.1, .int .i64 (x.2 : Int)]
/-- The next heads, when the first was taken. -/
def nextL (R : Rws) (x : Nat × Nat) (t : List (Nat × Nat)) : List (Nat × Nat) :=
  if x.2 + 1 < (R.getD x.1 []).length then downL R (t.length + 1) (t.length + 1) ((x.1, x.2 + 1) :: t) 0 else popL R (x :: t) t.length
def mergeL (R : Rws) : Nat → List (Nat × Nat) → List (ByteArray × Nat)
  | 0, _ => []
  | _ + 1, [] => []
  | f + 1, x :: t => (R.name x, x.1) :: mergeL R f (nextL R x t)
/-- It comes to its end in so many steps, and each head on the way is one. -/
def Dn (R : Rws) : Nat → List (Nat × Nat) → Prop
  | 0, l => l = []
  | _ + 1, [] => True
  | f + 1, x :: t => (x.1 < R.length ∧ x.2 < (R.getD x.1 []).length) ∧ Dn R f (nextL R x t)
def MergeP (out : List (ByteArray × Nat)) (w : World) (e : Ending) (w' : World) : Prop := ∃ A c, e = .returned (.slice A out.length c) ∧ Sl (fun k => w.heap.size ≤ k) w' 2 (.slice A out.length c) out.length (out.flatMap itC) ∧ Bel w w'
/-- The heads that a merge begins with. -/
def startL (R : Rws) : List (Nat × Nat) := initL R (headsL R R.length).length ((headsL R R.length).length / 2) (headsL R R.length)
theorem HdAt.keep {S : Nat → Prop} {w w' : World} {g base : Nat} {R : Rws} {V : Nat → Value} {A : Option Addr} {c : Nat} {hs : List (Nat × Nat)} (h : HdAt w g base R V A c hs) (hk : Keep S w w') (hS : ∀ k, IsT w 126 k ∨ IsT w 128 k → ¬ S k) : HdAt w' g base R V A c hs :=
  ⟨h.blk.keep hk (hS g (.inl h.blk.isT)), row_keep h.row hk (fun k e => hS k (.inr (row_isT h.row k e))), h.sl⟩
theorem HdAt.frz {w : World} {g base r c : Nat} {R : Rws} {V : Nat → Value} {hs : List (Nat × Nat)} (h : HdAt w g base R V (some ⟨r, 0, none⟩) c hs) (k : Nat) : w.frozen? ⟨r, k, none⟩ = false := by
  obtain ⟨cs, hcs⟩ := row_isT h.row r rfl
  exact Blk.frozen (t := 128) (cs := cs) hcs k
theorem row_set02 {α : Type} {f : α → List Value} {w : World} {base e r n c : Nat} {x y : α} {t : List α} {a b d a' d' : Value} (h : w.ownsRow base e 3 (.slice (some ⟨r, 0, none⟩) n c) n ((x :: t).flatMap f)) (hn : 0 < n) (hx : f x = [a, b, d]) (hy : f y = [a', b, d']) :
    ((w.setCell ⟨r, 0, none⟩ a').setCell ⟨r, 2, none⟩ d').ownsRow base e 3 (.slice (some ⟨r, 0, none⟩) n c) n ((y :: t).flatMap f) := by
  obtain ⟨hl, hr⟩ := h
  rw [List.flatMap_cons, hx] at hl
  have hl2 : ((y :: t).flatMap f).length = n * 3 := by rw [List.flatMap_cons, hy]; simpa using hl
  rcases hr with ⟨hr, _⟩ | ⟨r', cap, cur, hv, hb, hh, hnc, hcm, hcs, htk⟩
  · simp at hr
  · simp only [Value.slice.injEq, Option.some.injEq, Addr.mk.injEq, and_true, true_and] at hv
    obtain ⟨rfl, rfl⟩ := hv
    have hB : Blk w r e cur := hh
    have hB2 := (hB.set_ 0 a').set_ 2 d'
    refine ⟨hl2, .inr ⟨r, c, _, rfl, hb, hB2, hnc, hcm, by simpa using hcs, ?_⟩⟩
    simp only [Array.toList_setIfInBounds]
    rw [List.take_set, List.take_set, htk, List.flatMap_cons, List.flatMap_cons, hx, hy]
    simp
set_option maxRecDepth 100000 in
set_option maxHeartbeats 1000000 in
theorem merge_calls {Q : Nat → Prop} {w : World} {A : Option Addr} {c : Nat} {vs : List Value} {R : Rws} (h : RowsAt Q w A c vs R) (hm : manyL R R.length ≤ 100000) (hr : R.length ≤ 1000) (N : Nat) (hN : N ≤ 100000) (hd : Dn R N (startL R)) :
    Calls Tryd.prog 30 #[.slice A R.length c] w (MergeP (mergeL R N (startL R)) w) := by
  have HDN := Av.mk hd
  clear hd
  obtain ⟨RES, hres⟩ : ∃ RES, mergeL R N (startL R) = RES := ⟨_, rfl⟩
  rw [hres]
  have HRES := Av.mk hres
  clear hres
  obtain ⟨i76, hi76⟩ := info76
  have I76 := Av.mk hi76
  clear hi76
  have HB1 := Av.mk (below_alloc (Below.refl _ w) (.cells #[.slice none 0 0, .func (.func 65) #[] #[]] 126))
  have HH0 : Av (HdAt (w.alloc (.cells #[.slice none 0 0, .func (.func 65) #[] #[]] 126)) w.heap.size w.heap.size R (rowV vs) none 0 (headsL R 0)) := ⟨⟨Blk.new w 126 _, ⟨rfl, .inl ⟨rfl, rfl⟩⟩, rowV_slice vs⟩⟩
  have HRW := Av.mk h
  obtain ⟨i128, hi128⟩ := info128
  have I128 := Av.mk hi128
  clear h hi128
  go_enter Tryd.func30, Tryd.ntmps30
  go_wp2_with fail
  generalize w.alloc (.cells #[.slice none 0 0, .func (.func 65) #[] #[]] 126) = w1 at *
  obtain ⟨g, hg⟩ : ∃ g, w.heap.size = g := ⟨_, rfl⟩
  rw [hg] at HH0 ⊢
  have HG := Av.mk hg
  clear hg
  go_loopw [4, 13] (fun s4 s13 wr => ∃ (i : Nat) (B : Option Addr) (d : Nat), i ≤ R.length ∧ s13 = .int .i64 i ∧ s4 = .int .i64 (manyL R i) ∧ HdAt wr g g R (rowV vs) B d (headsL R i) ∧ Bel w wr) (fun _ s13 _ => R.length - (intOf s13).toNat)
  case atStart => exact ⟨0, none, 0, Nat.zero_le _, rfl, rfl, HH0.out, HB1.out⟩
  case round =>
    obtain ⟨i, B, d, hi, rfl, rfl, hh, hb⟩ := hrel
    have HJ := Av.mk hh
    have HBJ := Av.mk hb
    have RJ := Av.mk (HRW.out.grow hb)
    clear hh hb
    by_cases hlt : i < R.length
    · obtain ⟨r, hrr⟩ : ∃ r, R[i]? = some r := ⟨_, List.getElem?_eq_getElem hlt⟩
      obtain ⟨v, hv⟩ : ∃ v, vs[i]? = some v := ⟨_, List.getElem?_eq_getElem (by rw [RJ.out.len]; exact hlt)⟩
      have hsub := RJ.out.sub i v r hv hrr
      obtain ⟨Ai, ci, rfl⟩ := hsub.shape
      obtain ⟨b, off, rfl, hQb, hbl, hcc, hat⟩ := RJ.out.row.at (by omega)
      have hcell := hat i (by omega)
      rw [hv] at hcell
      have hget : R.getD i [] = r := by rw [List.getD_eq_getElem?_getD, hrr]; rfl
      have hmany : manyL R (i + 1) = manyL R i + r.length := by rw [manyL, hget]
      have hmle := manyL_mono R (show i + 1 ≤ R.length by omega)
      have hhl := headsL_len R i
      have hM : manyL R i ≤ 100000 := by omega
      cases r with
      | nil =>
        have hheads : headsL R (i + 1) = headsL R i := by rw [headsL, hget]; simp
        have HHE := Av.mk hheads
        have HME : Av (manyL R (i + 1) = manyL R i) := ⟨by rw [hmany]; rfl⟩
        simp only [List.length_nil] at hcell
        clear hsub hat hv hrr hget hmany hheads
        generalize manyL R i = M at *
        go_wp2_with fail
        go_roundw
        case rel => exact ⟨i + 1, B, d, by omega, by go_num, by rw [HME.out], by rw [HHE.out]; exact HJ.out, HBJ.out⟩
        case measure => simp [intOf]; omega
      | cons s rr =>
        have hheads : headsL R (i + 1) = headsL R i ++ [(i, 0)] := by rw [headsL, hget]; simp
        obtain ⟨b', off', hA', hci, hQ', hbl', hat'⟩ := hsub.at (by simp)
        subst hA'
        have hs0 := hat' 0 (by simp)
        simp at hs0
        obtain ⟨r', hr'⟩ : ∃ r', (s :: rr).length = r' + 1 := ⟨rr.length, rfl⟩
        rw [hr'] at hcell hmany hci
        have h1r : (1 : Int) ≤ (r' : Int) + 1 := by omega
        obtain ⟨o1, ho1⟩ : ∃ o1, off' + (if 1 = ci then 1 - 1 else 1) = o1 := ⟨_, rfl⟩
        have hnm : hdC R (rowV vs) (i, 0) = [.string s, .int .i64 (i : Int), .slice (some ⟨b', o1, none⟩) r' (ci - 1)] := by
          have h1 : R.name (i, 0) = s := by show (R.getD i []).getD 0 ⟨#[]⟩ = s; rw [hget]; rfl
          have h2 : rowV vs i = .slice (some ⟨b', off', none⟩) (r' + 1) ci := by unfold rowV; rw [hv, hr']
          unfold hdC
          rw [h1, h2, ← ho1]
          rfl
        have HHE := Av.mk hheads
        have HNM := Av.mk hnm
        have HME := Av.mk hmany
        have q1 : (headsL R i).length + 1 ≤ maxLen := by unfold maxLen; omega
        have q2 : ((headsL R i).length + 1) * 48 ≤ 140737488355328 := by omega
        clear hsub hat hv hrr hget hmany hheads hnm hat' hr'
        have hg0 := HJ.out.blk.cell 0
        have fg0 := HJ.out.blk.frozen 0
        have lg := HJ.out.blk.lt
        simp at hg0
        generalize manyL R i = M at *
        have HWR : Av (wrap64 ((M : Int) + ((r' : Int) + 1)) = ((M + (r' + 1) : Nat) : Int)) := ⟨by
          have hme := HME.out
          rw [IntWalk.wrap64_in _ (by omega)]; omega⟩
        obtain ⟨hl, hhle⟩ : ∃ hl, (headsL R i).length = hl := ⟨_, rfl⟩
        have DJ : Av (wr.ownsRow g 128 3 (.slice B hl d) hl ((headsL R i).flatMap (hdC R (rowV vs)))) := ⟨by
          have := HJ.out.row
          rw [hhle] at this
          exact this⟩
        rw [hhle] at hg0 q1 q2
        have HHL := Av.mk hhle
        clear hhle
        have DA : Av (∀ o, (wr.alloc o).drew.ownsRow g 128 3 (.slice B hl d) hl ((headsL R i).flatMap (hdC R (rowV vs)))) := ⟨fun o => row_keep (DJ.out.alloc o) ((Keep.refl (fun _ => False) _).drewN 1) (fun _ _ => id)⟩
        have BA : Av (∀ o, Blk (wr.alloc o).drew g 126 #[.slice B hl d, .func (.func 65) #[] #[]]) := ⟨fun o => by
          have h1 := (HJ.out.blk.alloc o).drewN 1
          rw [HHL.out] at h1
          exact h1⟩
        have HGS : Av (∀ o, g ≤ (wr.alloc o).drew.heap.size) := ⟨fun o => by
          show g ≤ (wr.alloc o).heap.size
          simp
          omega⟩
        clear DJ
        by_cases hc1 : ci = 1
        · obtain rfl : o1 = off' := by rw [← ho1, if_pos hc1.symm]; rfl
          subst hc1
          obtain rfl : r' = 0 := by omega
          clear ho1
          go_upto_region 8 with (fail)
          go_region_law (first
            | (refine step_app rfl _ _ 124 rfl g 128 i128 _ 3 48 Tryd.underlying124 I128.out.1 I128.out.2.1 I128.out.2.2.1 I128.out.2.2.2 (by rfl) (by decide) (.slice B hl d) hl _ rfl (DA.out (.cells #[.string s, .int .i64 (i : Int), .slice (some ⟨b', o1, none⟩) 0 0] 128)) ⟨wr.heap.size, 0, none⟩ 1 1 [.string s, .int .i64 (i : Int), .slice (some ⟨b', o1, none⟩) 0 0] rfl rfl (new_cells wr [.string s, .int .i64 (i : Int), .slice (some ⟨b', o1, none⟩) 0 0] 128) (by simp [Value.oneCell']) q1 q2 (HGS.out _) ?_
               intro A2 c2 w10 ho10 hg10 hd10
               have HO10 := Av.mk ho10
               have HG10 := Av.mk hg10
               have X10 := Av.mk ((BA.out (.cells #[.string s, .int .i64 (i : Int), .slice (some ⟨b', o1, none⟩) 0 0] 128)).grown hg10 (row_ne (DA.out (.cells #[.string s, .int .i64 (i : Int), .slice (some ⟨b', o1, none⟩) 0 0] 128)) (BA.out (.cells #[.string s, .int .i64 (i : Int), .slice (some ⟨b', o1, none⟩) 0 0] 128)) (by decide)))
               have y0 := X10.out.cell 0
               have fy0 := X10.out.frozen 0
               have ly := X10.out.lt
               simp at y0
               clear ho10 hg10 hd10))
          all_goals go_wp2_with fail
          all_goals
            have hks : Keep (fun k => k = g) w10 (w10.setCell ⟨g, 0, none⟩ (.slice A2 (hl + 1) c2)) := (Keep.refl (fun k => k = g) w10).setCell (p := ⟨g, 0, none⟩) (fun _ => rfl) _
            have hka : Keep (fun k => (Value.slice B hl d).ownBlock = some k) wr w10 := (((Keep.refl (fun k => (Value.slice B hl d).ownBlock = some k) wr).alloc _).drewN 1).grown HG10.out (fun k hk _ => hk)
            have hob : ∀ k, (Value.slice B hl d).ownBlock = some k → g ≤ k := fun k e => row_base (DA.out (.cells #[] 128)) k e.symm
            have hne := row_ne HO10.out X10.out (by decide)
            have hlen1 : (headsL R i ++ [(i, 0)]).length = hl + 1 := by rw [List.length_append, HHL.out]; rfl
            have HN : HdAt (w10.setCell ⟨g, 0, none⟩ (.slice A2 (hl + 1) c2)) g g R (rowV vs) A2 c2 (headsL R (i + 1)) := by
              rw [HHE.out]
              refine ⟨?_, ?_, rowV_slice vs⟩
              · rw [hlen1]
                simpa using X10.out.set_ 0 (.slice A2 (hl + 1) c2)
              · rw [hlen1, List.flatMap_append]
                have h2 := row_keep HO10.out hks (fun k e hk => hne (by rw [← hk, e]))
                have h3 : [((i : Nat), (0 : Nat))].flatMap (hdC R (rowV vs)) = hdC R (rowV vs) (i, 0) := by simp
                rw [h3, HNM.out]
                exact h2
            have BB : Below w.heap.size w (w10.setCell ⟨g, 0, none⟩ (.slice A2 (hl + 1) c2)) := by
              have h1 : Below w.heap.size w wr := HBJ.out
              have h2 := Below.size h1
              have h3 := hka.size
              exact (h1.trans (hka.below h2 (fun k e => by have := hob k e; have := HG.out; omega))).trans (hks.below (by omega) (fun k e => by have := HG.out; omega))
            have hme := HME.out
            exact ⟨⟨i + 1, A2, c2, by omega, by go_num, by rw [hme]; go_num, HN, BB⟩, by simp [intOf]; omega⟩
        · obtain rfl : o1 = off' + 1 := by rw [← ho1, if_neg (fun e => hc1 e.symm)]
          clear ho1
          go_upto_region 8 with (fail)
          go_region_law (first
            | (refine step_app rfl _ _ 124 rfl g 128 i128 _ 3 48 Tryd.underlying124 I128.out.1 I128.out.2.1 I128.out.2.2.1 I128.out.2.2.2 (by rfl) (by decide) (.slice B hl d) hl _ rfl (DA.out (.cells #[.string s, .int .i64 (i : Int), .slice (some ⟨b', off' + 1, none⟩) r' (ci - 1)] 128)) ⟨wr.heap.size, 0, none⟩ 1 1 [.string s, .int .i64 (i : Int), .slice (some ⟨b', off' + 1, none⟩) r' (ci - 1)] rfl rfl (new_cells wr [.string s, .int .i64 (i : Int), .slice (some ⟨b', off' + 1, none⟩) r' (ci - 1)] 128) (by simp [Value.oneCell']) q1 q2 (HGS.out _) ?_
               intro A2 c2 w10 ho10 hg10 hd10
               have HO10 := Av.mk ho10
               have HG10 := Av.mk hg10
               have X10 := Av.mk ((BA.out (.cells #[.string s, .int .i64 (i : Int), .slice (some ⟨b', off' + 1, none⟩) r' (ci - 1)] 128)).grown hg10 (row_ne (DA.out (.cells #[.string s, .int .i64 (i : Int), .slice (some ⟨b', off' + 1, none⟩) r' (ci - 1)] 128)) (BA.out (.cells #[.string s, .int .i64 (i : Int), .slice (some ⟨b', off' + 1, none⟩) r' (ci - 1)] 128)) (by decide)))
               have y0 := X10.out.cell 0
               have fy0 := X10.out.frozen 0
               have ly := X10.out.lt
               simp at y0
               clear ho10 hg10 hd10))
          all_goals go_wp2_with fail
          all_goals
            have hks : Keep (fun k => k = g) w10 (w10.setCell ⟨g, 0, none⟩ (.slice A2 (hl + 1) c2)) := (Keep.refl (fun k => k = g) w10).setCell (p := ⟨g, 0, none⟩) (fun _ => rfl) _
            have hka : Keep (fun k => (Value.slice B hl d).ownBlock = some k) wr w10 := (((Keep.refl (fun k => (Value.slice B hl d).ownBlock = some k) wr).alloc _).drewN 1).grown HG10.out (fun k hk _ => hk)
            have hob : ∀ k, (Value.slice B hl d).ownBlock = some k → g ≤ k := fun k e => row_base (DA.out (.cells #[] 128)) k e.symm
            have hne := row_ne HO10.out X10.out (by decide)
            have hlen1 : (headsL R i ++ [(i, 0)]).length = hl + 1 := by rw [List.length_append, HHL.out]; rfl
            have HN : HdAt (w10.setCell ⟨g, 0, none⟩ (.slice A2 (hl + 1) c2)) g g R (rowV vs) A2 c2 (headsL R (i + 1)) := by
              rw [HHE.out]
              refine ⟨?_, ?_, rowV_slice vs⟩
              · rw [hlen1]
                simpa using X10.out.set_ 0 (.slice A2 (hl + 1) c2)
              · rw [hlen1, List.flatMap_append]
                have h2 := row_keep HO10.out hks (fun k e hk => hne (by rw [← hk, e]))
                have h3 : [((i : Nat), (0 : Nat))].flatMap (hdC R (rowV vs)) = hdC R (rowV vs) (i, 0) := by simp
                rw [h3, HNM.out]
                exact h2
            have BB : Below w.heap.size w (w10.setCell ⟨g, 0, none⟩ (.slice A2 (hl + 1) c2)) := by
              have h1 : Below w.heap.size w wr := HBJ.out
              have h2 := Below.size h1
              have h3 := hka.size
              exact (h1.trans (hka.below h2 (fun k e => by have := hob k e; have := HG.out; omega))).trans (hks.below (by omega) (fun k e => by have := HG.out; omega))
            have hme := HME.out
            exact ⟨⟨i + 1, A2, c2, by omega, by go_num, by rw [hme, HWR.out], HN, BB⟩, by simp [intOf]; omega⟩
    · obtain rfl : i = R.length := by omega
      have hhl := headsL_len R R.length
      have HIN := Av.mk (cinit_calls HJ.out (by omega))
      obtain ⟨L0, hL0⟩ : ∃ L0, startL R = L0 := ⟨_, rfl⟩
      unfold startL at hL0
      have HL1000 : Av (L0.length ≤ 1000) := ⟨by rw [← hL0, initL_len]; omega⟩
      rw [hL0] at HIN
      unfold startL at HDN HRES
      rw [hL0] at HDN HRES
      clear hL0
      generalize hM : manyL R R.length = M at *
      go_wp2_with fail
      refine HIN.out.mono ?_
      rintro e w2 ⟨rfl, hh2, hk2⟩
      have H2 := Av.mk hh2
      have B2 : Av (Bel w w2) := ⟨by
        have h1 : Below w.heap.size w wr := HBJ.out
        exact h1.trans (hk2.below (Below.size h1) (fun k h => by
          have h2 := HG.out
          have := FR.low HJ.out (Nat.le_refl g) h
          omega))⟩
      clear hh2 hk2 HIN HJ HBJ RJ
      have hBs := Below.size B2.out
      rw [HG.out] at hBs
      go_wp2_with (first | (at_make; refine wpList_make_own _ rfl _ _ 65 rfl g 76 i76 _ 2 Tryd.underlying65 I76.out.1 I76.out.2.1 I76.out.2.2.1 .i64 .i64 _ M rfl rfl rfl (by rw [I76.out.2.2.2]; omega) (by unfold maxLen; omega) hBs ?_; intro w3 hown3 hgrow3; have HO3 := Av.mk hown3; have HG3 := Av.mk hgrow3; clear hown3 hgrow3))
      have hk3 : Keep (fun _ => False) w2 w3 := (Keep.refl (fun _ => False) w2).grown HG3.out (fun k hk _ => by cases hk)
      have H3 := Av.mk (H2.out.keep hk3 (fun _ _ => id))
      have B3 : Av (Bel w w3) := ⟨(show Below w.heap.size w w2 from B2.out).trans (hk3.below (Below.size B2.out) (fun k h => h.elim))⟩
      clear hk3 H2 B2 HG3 hBs
      go_loopw [7] (fun s7 wr => ∃ (f : Nat) (l : List (Nat × Nat)) (out : List (ByteArray × Nat)) (Ao : Option Addr) (co : Nat), s7 = .slice Ao out.length co ∧ out.length + f = N ∧ Av (out ++ mergeL R f l = RES) ∧ Av (Dn R f l) ∧ l.length ≤ 1000 ∧
        wr.ownsRow g 76 2 (.slice Ao out.length co) out.length (out.flatMap itC) ∧ (∃ B d, HdAt wr g g R (rowV vs) B d l) ∧ Bel w wr) (fun s7 _ => N - lenV s7)
      case atStart => exact ⟨N, L0, [], _, M, rfl, by simp, ⟨by simpa using HRES.out⟩, HDN, HL1000.out, HO3.out, ⟨_, _, H3.out⟩, B3.out⟩
      case round =>
        obtain ⟨f, l, out, Ao, co, rfl, hfN, HM, HDl, hl1000, hout, ⟨B, d, hh⟩, hb⟩ := hrel
        have HJ := Av.mk hh
        have OJ := Av.mk hout
        have BJ := Av.mk hb
        have RJ := Av.mk (HRW.out.grow hb)
        clear hh hout hb
        cases l with
        | nil =>
          have HE : Av (out = RES) := ⟨by
            have := HM.out
            cases f <;> simpa [mergeL] using this⟩
          have HLN := Av.mk (hlen_calls HJ.out)
          simp only [List.length_nil] at HLN
          go_wp2_with fail
          refine HLN.out.mono ?_
          rintro e _ ⟨rfl, rfl⟩
          go_wp2_with fail
          go_ret
          rw [← HE.out]
          exact ⟨Ao, co, rfl, Sl.of_row OJ.out (fun k e => by rw [HG.out]; exact row_base OJ.out k e.symm), BJ.out⟩
        | cons x t =>
          cases f with
          | zero => exact absurd HDl.out (by simp [Dn])
          | succ f =>
          have hdn := HDl.out
          simp only [Dn] at hdn
          obtain ⟨⟨hx1, hx2⟩, hdn2⟩ := hdn
          have HD2 := Av.mk hdn2
          have HM2 : Av ((out ++ [(R.name x, x.1)]) ++ mergeL R f (nextL R x t) = RES) := ⟨by rw [← HM.out, List.append_assoc]; rfl⟩
          have HLN : Av (Calls Tryd.prog 67 #[.pointer (some ⟨g, 0, none⟩)] wr (SameW (.int .i64 ((t.length : Int) + 1)) wr)) := ⟨hlen_calls HJ.out⟩
          obtain ⟨r, hA, hbr, hrl, hcc, a0, a1, a2⟩ := HJ.out.elem (i := 0) (x := x) rfl
          subst hA
          obtain ⟨rx, hrx⟩ : ∃ rx, R[x.1]? = some rx := ⟨_, List.getElem?_eq_getElem hx1⟩
          have hget : R.getD x.1 [] = rx := by rw [List.getD_eq_getElem?_getD, hrx]; rfl
          obtain ⟨v, hv⟩ : ∃ v, vs[x.1]? = some v := ⟨_, List.getElem?_eq_getElem (by rw [RJ.out.len]; exact hx1)⟩
          have hsub := RJ.out.sub x.1 v rx hv hrx
          obtain ⟨Ax, cx, rfl⟩ := hsub.shape
          rw [hget] at hx2
          obtain ⟨b', off', rfl, hci, hQ', hbl', hat'⟩ := hsub.at (by omega)
          have hV : rowV vs x.1 = .slice (some ⟨b', off', none⟩) rx.length cx := by unfold rowV; rw [hv]
          obtain ⟨m, hm⟩ : ∃ m, rx.length - (x.2 + 1) = m := ⟨_, rfl⟩
          obtain ⟨ov, hov⟩ : ∃ ov, off' + (if x.2 + 1 = cx then x.2 + 1 - 1 else x.2 + 1) = ov := ⟨_, rfl⟩
          have hrv : restV (rowV vs x.1) (x.2 + 1) = .slice (some ⟨b', ov, none⟩) m (cx - (x.2 + 1)) := by rw [hV]; unfold restV; rw [← hov, ← hm]
          rw [hrv] at a2
          cases m with
          | zero =>
            have hnx : nextL R x t = popL R (x :: t) t.length := by unfold nextL; rw [hget, if_neg (by omega)]
            rw [hnx] at HD2 HM2
            clear hsub hrx hv hat' hV hov hnx
            have n1 : out.length + 1 ≤ maxLen := by unfold maxLen; omega
            have n2 : (out.length + 1) * 24 ≤ 140737488355328 := by omega
            have g0 := HJ.out.blk.cell 0
            have f0 := HJ.out.blk.frozen 0
            have lg := HJ.out.blk.lt
            simp at g0 a0 a1 a2
            have HGW : Av (g ≤ wr.heap.size) := ⟨by omega⟩
            have tl : decide ((0 : Int) < (t.length : Int) + 1) = true := by rw [decide_eq_true_eq]; omega
            go_wp2_with fail
            refine HLN.out.mono ?_
            rintro e _ ⟨rfl, rfl⟩
            go_wp2_with (first
              | (at_builtin
                 refine wpList_app rfl _ _ 65 rfl g 76 i76 _ 2 24 Tryd.underlying65 I76.out.1 I76.out.2.1 I76.out.2.2.1 I76.out.2.2.2 (by rfl) (by decide) (.slice Ao out.length co) out.length _ rfl (OJ.out.alloc _) ⟨wr.heap.size, 0, none⟩ 1 1 [.string (R.name x), .int .i64 (x.1 : Int)] rfl rfl (new_cells wr [.string (R.name x), .int .i64 (x.1 : Int)] 76) (by simp [Value.oneCell']) n1 n2 (by have := HGW.out; simp; omega) ?_
                 intro A5 c5 w5 ho5 hg5 hd5
                 have HO5 := Av.mk ho5
                 have hk5 : Keep (fun k => (Value.slice Ao out.length co).ownBlock = some k) wr w5 := ((Keep.refl (fun k => (Value.slice Ao out.length co).ownBlock = some k) wr).alloc (.cells #[.string (R.name x), .int .i64 (x.1 : Int)] 76)).grown hg5 (fun k hk _ => hk)
                 have H5 := Av.mk (HJ.out.keep hk5 (fun k hk e => by rcases hk with hk | hk; exact absurd (hk.one (row_isT OJ.out k e)) (by decide); exact absurd (hk.one (row_isT OJ.out k e)) (by decide)))
                 have B5 : Av (Bel w w5) := ⟨(show Below w.heap.size w wr from BJ.out).trans (hk5.below (Below.size BJ.out) (fun k e => by rw [HG.out]; exact row_base OJ.out k e.symm))⟩
                 obtain ⟨_, hA5, _, _, _, p0, p1, p2⟩ := H5.out.elem (i := 0) (x := x) rfl
                 injection hA5 with hA5
                 injection hA5 with hA5 _ _
                 subst hA5
                 rw [hrv] at p2
                 simp at p0 p1 p2
                 clear ho5 hg5 hd5 hk5))
            refine (cpop_calls (n := t.length) H5.out rfl (Nat.le_refl g) (by simp at hl1000; omega)).mono ?_
            rintro e w6 ⟨vv, rfl, hh6, hk6⟩
            have OK6 := row_keep HO5.out hk6 (fun k e h => by
              have h1 := row_isT HO5.out k e
              rcases FR.isT H5.out h with h2 | h2
              · exact absurd (h1.one h2) (by decide)
              · exact absurd (h1.one h2) (by decide))
            have B6 : Bel w w6 := (show Below w.heap.size w w5 from B5.out).trans (hk6.below (Below.size B5.out) (fun k h => by rw [HG.out]; exact FR.low H5.out (Nat.le_refl g) h))
            have O6 := Av.mk OK6
            have H6 := Av.mk hh6
            have B6 := Av.mk B6
            clear hh6 hk6 OK6
            go_wp2_with fail
            go_roundw
            case rel =>
              refine ⟨f, _, out ++ [(R.name x, x.1)], A5, c5, by rw [List.length_append]; rfl, by rw [List.length_append]; simp; omega, HM2, HD2, by have := popL_len R (x :: t) t.length; simp at hl1000; omega, ?_, ⟨_, _, H6.out⟩, B6.out⟩
              rw [List.length_append, List.flatMap_append]
              exact O6.out
            case measure => simp [lenV]; omega
          | succ m =>
            have hnx : nextL R x t = downL R (t.length + 1) (t.length + 1) ((x.1, x.2 + 1) :: t) 0 := by unfold nextL; rw [hget, if_pos (by omega)]
            rw [hnx] at HD2 HM2
            have n1 : out.length + 1 ≤ maxLen := by unfold maxLen; omega
            have n2 : (out.length + 1) * 24 ≤ 140737488355328 := by omega
            have g0 := HJ.out.blk.cell 0
            have f0 := HJ.out.blk.frozen 0
            have lg := HJ.out.blk.lt
            simp at g0 a0 a1 a2
            have HGW : Av (g ≤ wr.heap.size) := ⟨by omega⟩
            have tl : decide ((0 : Int) < (t.length : Int) + 1) = true := by rw [decide_eq_true_eq]; omega
            go_wp2_with fail
            refine HLN.out.mono ?_
            rintro e _ ⟨rfl, rfl⟩
            go_wp2_with (first
              | (at_builtin
                 refine wpList_app rfl _ _ 65 rfl g 76 i76 _ 2 24 Tryd.underlying65 I76.out.1 I76.out.2.1 I76.out.2.2.1 I76.out.2.2.2 (by rfl) (by decide) (.slice Ao out.length co) out.length _ rfl (OJ.out.alloc _) ⟨wr.heap.size, 0, none⟩ 1 1 [.string (R.name x), .int .i64 (x.1 : Int)] rfl rfl (new_cells wr [.string (R.name x), .int .i64 (x.1 : Int)] 76) (by simp [Value.oneCell']) n1 n2 (by have := HGW.out; simp; omega) ?_
                 intro A5 c5 w5 ho5 hg5 hd5
                 have HO5 := Av.mk ho5
                 have hk5 : Keep (fun k => (Value.slice Ao out.length co).ownBlock = some k) wr w5 := ((Keep.refl (fun k => (Value.slice Ao out.length co).ownBlock = some k) wr).alloc (.cells #[.string (R.name x), .int .i64 (x.1 : Int)] 76)).grown hg5 (fun k hk _ => hk)
                 have H5 := Av.mk (HJ.out.keep hk5 (fun k hk e => by rcases hk with hk | hk; exact absurd (hk.one (row_isT OJ.out k e)) (by decide); exact absurd (hk.one (row_isT OJ.out k e)) (by decide)))
                 have B5 : Av (Bel w w5) := ⟨(show Below w.heap.size w wr from BJ.out).trans (hk5.below (Below.size BJ.out) (fun k e => by rw [HG.out]; exact row_base OJ.out k e.symm))⟩
                 obtain ⟨_, hA5, _, _, _, p0, p1, p2⟩ := H5.out.elem (i := 0) (x := x) rfl
                 injection hA5 with hA5
                 injection hA5 with hA5 _ _
                 subst hA5
                 rw [hrv] at p2
                 simp at p0 p1 p2
                 clear ho5 hg5 hd5 hk5))
            have z0 := H5.out.frz 0
            have z2 := H5.out.frz 2
            have hs5 := (HRW.out.grow B5.out).sub x.1 _ rx hv hrx
            obtain ⟨b2, o2, e2, _, _, _, hat5⟩ := hs5.at (by omega)
            injection e2 with e2
            injection e2 with e21 e22 _
            subst e21
            subst e22
            obtain ⟨nm, hnm⟩ : ∃ nm, rx[x.2 + 1]? = some nm := ⟨_, List.getElem?_eq_getElem (by omega)⟩
            have hov2 : ov = off' + (x.2 + 1) := by rw [← hov, if_neg (by omega)]
            have q0 := hat5 (x.2 + 1) (by omega)
            rw [List.getElem?_map, hnm, ← hov2] at q0
            simp at q0
            have hnam : R.name (x.1, x.2 + 1) = nm := by show (R.getD x.1 []).getD (x.2 + 1) ⟨#[]⟩ = nm; rw [hget, List.getD_eq_getElem?_getD, hnm]; rfl
            have hm1 : (1 : Int) ≤ (m : Int) + 1 := by omega
            have HFX : Av (∀ W, HdAt W g g R (rowV vs) (some ⟨r, 0, none⟩) d ((x.1, x.2 + 1) :: t) → Calls Tryd.prog 69 #[.iface 121 (.pointer (some ⟨g, 0, none⟩)), .int .i64 0] W (SwapP g g R (rowV vs) (some ⟨r, 0, none⟩) d (downL R (t.length + 1) (t.length + 1) ((x.1, x.2 + 1) :: t) 0) (.tuple #[]) W)) := ⟨fun W hW => cfix_calls hW (by simp at hl1000 ⊢; omega)⟩
            obtain ⟨qx, hqx⟩ : ∃ qx, cx - (x.2 + 1) = qx := ⟨_, rfl⟩
            rw [hqx] at p2
            have HHX := Av.mk (show hdC R (rowV vs) x = [.string (R.name x), .int .i64 (x.1 : Int), .slice (some ⟨b', ov, none⟩) (m + 1) qx] by unfold hdC; rw [hrv, hqx])
            by_cases hc1 : qx = 1
            · have hr2 : hdC R (rowV vs) (x.1, x.2 + 1) = [.string nm, .int .i64 (x.1 : Int), .slice (some ⟨b', ov, none⟩) 0 0] := by
                unfold hdC
                rw [hnam, hV]
                unfold restV
                simp only
                rw [if_pos (show x.2 + 1 + 1 = cx by omega), show off' + (x.2 + 1 + 1 - 1) = ov by omega, show rx.length - (x.2 + 1 + 1) = 0 by omega, show cx - (x.2 + 1 + 1) = 0 by omega]
              obtain rfl : m = 0 := by omega
              subst hc1
              have HR2 := Av.mk hr2
              clear hr2 hsub hrx hv hat' hat5 hs5 hV hov hov2 hnx hnam hrv hqx hget hm hnm
              go_region
              all_goals
                have hkS : Keep (fun k => k = r) w5 (((w5.setCell ⟨r, 0, none⟩ (.string nm)).setCell ⟨r, 2, none⟩ (.slice (some ⟨b', ov, none⟩) 0 0)).drew) := (((Keep.refl (fun k => k = r) w5).setCell (p := ⟨r, 0, none⟩) (fun _ => rfl) _).setCell (p := ⟨r, 2, none⟩) (fun _ => rfl) _).drewN 1
                have HN : Av (HdAt (((w5.setCell ⟨r, 0, none⟩ (.string nm)).setCell ⟨r, 2, none⟩ (.slice (some ⟨b', ov, none⟩) 0 0)).drew) g g R (rowV vs) (some ⟨r, 0, none⟩) d ((x.1, x.2 + 1) :: t)) := ⟨⟨H5.out.blk.keep hkS (fun e => by have := H5.out.blk.ne_ (show Blk w5 r 128 _ from (row_isT H5.out.row r rfl).choose_spec) (by decide); exact this e),
                  row_keep (row_set02 H5.out.row (by simp) HHX.out HR2.out) ((Keep.refl (fun _ => False) _).drewN 1) (fun _ _ => id), rowV_slice vs⟩⟩
                have HKS := Av.mk hkS
                clear hkS
                generalize ((w5.setCell ⟨r, 0, none⟩ (.string nm)).setCell ⟨r, 2, none⟩ (.slice (some ⟨b', ov, none⟩) 0 0)).drew = wS at *
                go_wp2_with fail
                refine (HFX.out wS HN.out).mono ?_
                rintro e w6 ⟨rfl, hh6, hk7⟩
                have hk6 : Keep (FR g (some ⟨r, 0, none⟩)) w5 w6 := (HKS.out.mono (fun k _ h => .inr (by rw [h]; rfl))).trans hk7
                clear hk7
                have OK6 := row_keep HO5.out hk6 (fun k e h => by
                  have h1 := row_isT HO5.out k e
                  rcases FR.isT H5.out h with h2 | h2
                  · exact absurd (h1.one h2) (by decide)
                  · exact absurd (h1.one h2) (by decide))
                have B6 : Bel w w6 := (show Below w.heap.size w w5 from B5.out).trans (hk6.below (Below.size B5.out) (fun k h => by rw [HG.out]; exact FR.low H5.out (Nat.le_refl g) h))
                have O6 := Av.mk OK6
                have H6 := Av.mk hh6
                have B6 := Av.mk B6
                clear hh6 hk6 OK6
                go_wp2_with fail
                go_roundw
                case rel =>
                  refine ⟨f, _, out ++ [(R.name x, x.1)], A5, c5, by rw [List.length_append]; rfl, by rw [List.length_append]; simp; omega, HM2, HD2, by rw [downL_len]; exact hl1000, ?_, ⟨_, _, H6.out⟩, B6.out⟩
                  rw [List.length_append, List.flatMap_append]
                  exact O6.out
                case measure => simp [lenV]; omega
            · have hr2 : hdC R (rowV vs) (x.1, x.2 + 1) = [.string nm, .int .i64 (x.1 : Int), .slice (some ⟨b', ov + 1, none⟩) m (qx - 1)] := by
                unfold hdC
                rw [hnam, hV]
                unfold restV
                simp only
                rw [if_neg (show ¬ x.2 + 1 + 1 = cx by omega), show off' + (x.2 + 1 + 1) = ov + 1 by omega, show rx.length - (x.2 + 1 + 1) = m by omega, show cx - (x.2 + 1 + 1) = qx - 1 by omega]
              have HR2 := Av.mk hr2
              clear hr2 hsub hrx hv hat' hat5 hs5 hV hov hov2 hnx hnam hrv hqx hget hm hnm
              go_region
              all_goals
                have hkS : Keep (fun k => k = r) w5 (((w5.setCell ⟨r, 0, none⟩ (.string nm)).setCell ⟨r, 2, none⟩ (.slice (some ⟨b', ov + 1, none⟩) m (qx - 1))).drew) := (((Keep.refl (fun k => k = r) w5).setCell (p := ⟨r, 0, none⟩) (fun _ => rfl) _).setCell (p := ⟨r, 2, none⟩) (fun _ => rfl) _).drewN 1
                have HN : Av (HdAt (((w5.setCell ⟨r, 0, none⟩ (.string nm)).setCell ⟨r, 2, none⟩ (.slice (some ⟨b', ov + 1, none⟩) m (qx - 1))).drew) g g R (rowV vs) (some ⟨r, 0, none⟩) d ((x.1, x.2 + 1) :: t)) := ⟨⟨H5.out.blk.keep hkS (fun e => by have := H5.out.blk.ne_ (show Blk w5 r 128 _ from (row_isT H5.out.row r rfl).choose_spec) (by decide); exact this e),
                  row_keep (row_set02 H5.out.row (by simp) HHX.out HR2.out) ((Keep.refl (fun _ => False) _).drewN 1) (fun _ _ => id), rowV_slice vs⟩⟩
                have HKS := Av.mk hkS
                clear hkS
                generalize ((w5.setCell ⟨r, 0, none⟩ (.string nm)).setCell ⟨r, 2, none⟩ (.slice (some ⟨b', ov + 1, none⟩) m (qx - 1))).drew = wS at *
                go_wp2_with fail
                refine (HFX.out wS HN.out).mono ?_
                rintro e w6 ⟨rfl, hh6, hk7⟩
                have hk6 : Keep (FR g (some ⟨r, 0, none⟩)) w5 w6 := (HKS.out.mono (fun k _ h => .inr (by rw [h]; rfl))).trans hk7
                clear hk7
                have OK6 := row_keep HO5.out hk6 (fun k e h => by
                  have h1 := row_isT HO5.out k e
                  rcases FR.isT H5.out h with h2 | h2
                  · exact absurd (h1.one h2) (by decide)
                  · exact absurd (h1.one h2) (by decide))
                have B6 : Bel w w6 := (show Below w.heap.size w w5 from B5.out).trans (hk6.below (Below.size B5.out) (fun k h => by rw [HG.out]; exact FR.low H5.out (Nat.le_refl g) h))
                have O6 := Av.mk OK6
                have H6 := Av.mk hh6
                have B6 := Av.mk B6
                clear hh6 hk6 OK6
                go_wp2_with fail
                go_roundw
                case rel =>
                  refine ⟨f, _, out ++ [(R.name x, x.1)], A5, c5, by rw [List.length_append]; rfl, by rw [List.length_append]; simp; omega, HM2, HD2, by rw [downL_len]; exact hl1000, ?_, ⟨_, _, H6.out⟩, B6.out⟩
                  rw [List.length_append, List.flatMap_append]
                  exact O6.out
                case measure => simp [lenV]; omega
end Go.Proofs.YtkmojgdjapfbbaaDoor
