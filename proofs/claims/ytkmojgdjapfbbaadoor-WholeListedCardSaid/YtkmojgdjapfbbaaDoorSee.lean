/- seen.Root. -/
import Derived.Test.YtkmojgdjapfbbaaDoorStk
namespace Go.Proofs.YtkmojgdjapfbbaaDoor
open Go.RowKit Go.Maps
set_option linter.unusedSimpArgs false
set_option linter.unusedVariables false

def spC (p : Nat × Nat) : List Value := [.int .i64 (p.1 : Int), .int .i64 (p.2 : Int)]
/-- A place in memory. -/
def PlAt (w : World) (A : Option Addr) (c : Nat) (P : List (Nat × Nat)) : Prop := Sl (IsT w 41) w 2 (.slice A P.length c) P.length (P.flatMap spC)
theorem PlAt.grow {w w' : World} {A : Option Addr} {c : Nat} {P : List (Nat × Nat)} (h : PlAt w A c P) (hb : Below w.heap.size w w') : PlAt w' A c P := Sl.keepT h (S := fun _ => False) (Keep.of_below hb) (fun _ _ => id)
theorem info41 : ∃ i, Tryd.prog.info? 41 = some i ∧ i.zero = some (.agg #[.int .i64 0, .int .i64 0]) ∧ i.size = 2 ∧ i.bytes = 16 := by
  have h : (Tryd.prog.info? 41).map (fun i => (i.zero, i.size, i.bytes)) = some (some (.agg #[.int .i64 0, .int .i64 0]), 2, 16) := by kernel_rfl
  obtain ⟨i, hi, e⟩ := Option.map_eq_some_iff.1 h
  simp only [Prod.mk.injEq] at e
  exact ⟨i, hi, e.1, e.2.1, e.2.2⟩
/-- How many roots are one. -/
def rootN : List (List Ino) → Nat
  | [] => 0
  | xs :: l => if (inoAt xs 0).opq = true then 1 else 1 + rootN l
def rootP (r : Nat) : List (Nat × Nat) := (List.range r).map fun k => (k, 0)
theorem rootP_len (r : Nat) : (rootP r).length = r := by simp [rootP]
theorem rootP_succ (r : Nat) : rootP (r + 1) = rootP r ++ [(r, 0)] := by simp [rootP, List.range_succ]
def PlaceP (P : List (Nat × Nat)) (w : World) (e : Ending) (w' : World) : Prop := ∃ A c, e = .returned (.slice A P.length c) ∧ PlAt w' A c P ∧ Bel w w'
theorem rootN_drop {l : List (List Ino)} {j : Nat} {xs : List Ino} (h : l[j]? = some xs) : rootN (l.drop j) = if (inoAt xs 0).opq = true then 1 else 1 + rootN (l.drop (j + 1)) := by rw [drop_at h]; rfl
set_option maxRecDepth 100000 in
set_option maxHeartbeats 4000000 in
theorem root_calls {w : World} {A : Option Addr} {c : Nat} {ms : List Mt} (h : StAt w A c ms) (next : Int) (hl : ms.length ≤ 100) : Calls Tryd.prog 15 #[.agg #[.slice A ms.length c, .int .i64 next]] w (PlaceP (rootP (rootN (ms.map Mt.xs))) w) := by
  obtain ⟨i41, hi41⟩ := info41
  have I41 := Av.mk hi41
  have HS := Av.mk h
  clear hi41 h
  obtain ⟨N, hN⟩ : ∃ N, rootN (ms.map Mt.xs) = N := ⟨_, rfl⟩
  rw [hN]
  have HNN := Av.mk hN
  clear hN
  have hba := below_alloc (Below.refl _ w) (.cells #[.slice A ms.length c, .int .i64 next] 28)
  have X1 := Av.mk (Blk.new w 28 #[.slice A ms.length c, .int .i64 next])
  have HB1 : Av (Bel w (w.alloc (.cells #[.slice A ms.length c, .int .i64 next] 28))) := ⟨hba⟩
  have HS1 := Av.mk (HS.out.grow hba)
  have HLC := Av.mk (fun W => len_calls A ms.length c next W)
  clear hba
  go_enter Tryd.func15, Tryd.ntmps15
  go_upto_region 2 with (fail)
  generalize w.alloc (.cells #[.slice A ms.length c, .int .i64 next] 28) = w1 at *
  generalize hg : w.heap.size = g at *
  have HG := Av.mk hg
  clear hg
  have x0 := X1.out.cell 0
  have x1 := X1.out.cell 1
  have lx := X1.out.lt
  simp at x0 x1
  go_wp2_with fail
  refine (HLC.out w1).mono ?_
  rintro e w2 ⟨rfl, hb2⟩
  have HB2 : Av (Bel w w2) := ⟨below_then HB1.out (Below.size HB1.out) hb2⟩
  have X2 := Av.mk (X1.out.keep (Keep.of_below (S := fun _ => False) hb2) (by simp))
  have HS2 := Av.mk (HS1.out.grow hb2)
  clear hb2 x0 x1 lx X1 HS1 HB1
  go_wp2_with fail
  go_loopw [3, 7] (fun s3 s7 wr => ∃ (j : Nat) (Ap : Option Addr) (cp : Nat), j ≤ ms.length ∧ s7 = .int .i64 j ∧ s3 = .slice Ap j cp ∧ wr.ownsRow w2.heap.size 41 2 (.slice Ap j cp) j ((rootP j).flatMap spC) ∧ Below w2.heap.size w2 wr ∧ Av (N = j + rootN ((ms.map Mt.xs).drop j))) (fun _ s7 _ => ms.length - (intOf s7).toNat)
  case atStart => exact ⟨0, none, 0, Nat.zero_le _, rfl, rfl, ⟨rfl, .inl ⟨rfl, rfl⟩⟩, Below.refl _ _, ⟨by rw [Nat.zero_add]; exact HNN.out.symm⟩⟩
  case round =>
    obtain ⟨j, Ap, cp, hj, rfl, rfl, hrow, hb, HX⟩ := hrel
    have HRW := Av.mk hrow
    have HB := Av.mk hb
    have HB3 : Av (Bel w wr) := ⟨below_then HB2.out (Below.size HB2.out) hb⟩
    have X3 := Av.mk (X2.out.keep (Keep.of_below (S := fun _ => False) hb) (by simp))
    have HS3 := Av.mk (HS2.out.grow hb)
    have hsz : w2.heap.size ≤ wr.heap.size := hb.size
    clear hrow hb
    by_cases hlt : j < ms.length
    · obtain ⟨m, hm⟩ : ∃ m, ms[j]? = some m := ⟨_, List.getElem?_eq_getElem hlt⟩
      have hmx : (ms.map Mt.xs)[j]? = some m.xs := by rw [List.getElem?_map, hm]; rfl
      have HX2 := HX.out
      rw [rootN_drop hmx] at HX2
      replace HX2 := Av.mk HX2
      have HAT : Av (atR ms j = .pointer (some ⟨m.b, 0, none⟩)) := ⟨by unfold atR; rw [hm]⟩
      have HBR := Av.mk (HS3.out.2 m (List.mem_of_getElem? hm))
      go_upto_region 6 with (first | (at_builtin; refine wpList_app rfl _ _ 43 rfl w2.heap.size 41 i41 _ 2 16 Tryd.underlying43 I41.out.1 I41.out.2.1 I41.out.2.2.1 I41.out.2.2.2 (by rfl) (by decide) (.slice Ap j cp) j _ rfl (HRW.out.alloc _) ⟨wr.heap.size, 0, none⟩ 1 1 [.int .i64 (j : Int), .int .i64 0] rfl rfl (new_cells wr [.int .i64 (j : Int), .int .i64 0] 41) (by simp [Value.oneCell']) (by unfold maxLen; omega) (by omega) (by simp; omega) ?_; intro A4 c4 w4 ho4 hg4 _; have HO4 := Av.mk ho4; have HG4 := Av.mk hg4; clear ho4 hg4))
      have hb4 : Below w2.heap.size w2 w4 := (HB.out.alloc hsz _).grown HG4.out (by simp; omega) (fun k hk => row_base HRW.out k hk.symm)
      have hb34 : Below w2.heap.size wr w4 := ((Below.refl w2.heap.size wr).alloc hsz _).grown HG4.out (by simp; omega) (fun k hk => row_base HRW.out k hk.symm)
      have HB4 := Av.mk hb4
      have X4 := Av.mk (X2.out.keep (Keep.of_below (S := fun _ => False) hb4) (by simp))
      have HS4 := Av.mk (HS2.out.grow hb4)
      have HO5 : Av (w4.ownsRow w2.heap.size 41 2 (.slice A4 (j + 1) c4) (j + 1) ((rootP (j + 1)).flatMap spC)) := ⟨by rw [rootP_succ, List.flatMap_append]; exact HO4.out⟩
      clear hb4 hb34 HO4
      have HSA := Av.mk (sat_calls HS4.out next j)
      rw [HAT.out] at HSA
      have HOP : Av (∀ W, Bel w4 W → Calls Tryd.prog 46 #[.pointer (some ⟨m.b, 0, none⟩), .int .i64 0] W (RetB (.bool (inoAt m.xs 0).opq) W)) := ⟨fun W hW => opaque_calls (((HS4.out.2 m (List.mem_of_getElem? hm))).grow hW) 0⟩
      have x0 := X4.out.cell 0
      have x1 := X4.out.cell 1
      have lx := X4.out.lt
      simp at x0 x1
      clear hm hmx
      generalize hop : (inoAt m.xs 0).opq = op at *
      go_wp2_with fail
      refine HSA.out.mono ?_
      rintro e w5 ⟨rfl, hb5⟩
      have HB5 : Av (Bel w4 w5) := ⟨hb5⟩
      clear hb5
      go_wp2_with fail
      refine (HOP.out _ HB5.out).mono ?_
      rintro e w6 ⟨rfl, hb6⟩
      have HB6 : Av (Bel w4 w6) := ⟨below_then HB5.out (Below.size HB5.out) hb6⟩
      have HO6 := Av.mk (row_keep HO5.out (Keep.of_below (S := fun _ => False) HB6.out) (by simp))
      have HBB6 : Av (Below w2.heap.size w2 w6) := ⟨below_then HB4.out HB4.out.size HB6.out⟩
      clear hb6 x0 x1 lx
      cases op
      case false =>
        have HX3 : Av (N = (j + 1) + rootN ((ms.map Mt.xs).drop (j + 1))) := ⟨by rw [HX2.out]; simp; omega⟩
        go_wp2_with fail
        exact ⟨⟨j + 1, A4, c4, by omega, by go_num, rfl, HO6.out, HBB6.out, HX3⟩, by simp [intOf]; omega⟩
      case true =>
        have HX3 : Av (N = j + 1) := ⟨by rw [HX2.out]; simp⟩
        go_wp2_with fail
        go_ret
        have hs : Sl (IsT w6 41) w6 2 (.slice A4 (j + 1) c4) (j + 1) ((rootP (j + 1)).flatMap spC) := Sl.of_row HO6.out (fun k hk => row_isT HO6.out k hk)
        refine ⟨A4, c4, ?_, ?_, below_then HB2.out (Below.size HB2.out) HBB6.out⟩
        · rw [HX3.out, rootP_len]; rfl
        · rw [HX3.out]
          unfold PlAt
          rw [rootP_len]
          exact hs
    · obtain rfl : j = ms.length := by omega
      have HX3 : Av (N = ms.length) := ⟨by
        have h1 := HX.out
        rw [List.drop_eq_nil_of_le (by simp)] at h1
        exact h1⟩
      go_wp2_with fail
      go_ret
      have hs : Sl (IsT wr 41) wr 2 (.slice Ap ms.length cp) ms.length ((rootP ms.length).flatMap spC) := Sl.of_row HRW.out (fun k hk => row_isT HRW.out k hk)
      refine ⟨Ap, cp, ?_, ?_, HB3.out⟩
      · rw [HX3.out, rootP_len]; rfl
      · rw [HX3.out]
        unfold PlAt
        rw [rootP_len]
        exact hs
end Go.Proofs.YtkmojgdjapfbbaaDoor
namespace Go.Proofs.YtkmojgdjapfbbaaDoor
open Go.RowKit Go.Maps
set_option linter.unusedSimpArgs false
set_option linter.unusedVariables false

/-- What is found: its kind, and where it is. -/
structure Fd where
  kind : Int
  lv : Nat
  ino : Nat
def Fd.zero : Fd := ⟨0, 0, 0⟩
/-- What is seen by a name. -/
def seenL (xss : List (List Ino)) (s : ByteArray) : List (Nat × Nat) → Fd → Fd
  | [], f => f
  | p :: P, f =>
    match xss[p.1]? with
    | none => seenL xss s P f
    | some xs =>
      match lookI xs p.2 s with
      | none => seenL xss s P f
      | some k =>
        if (inoAt xs k).kind = 2 then
          if (inoAt xs k).opq = true then (if f.kind = 0 then ⟨2, p.1, k⟩ else f)
          else seenL xss s P (if f.kind = 0 then ⟨2, p.1, k⟩ else f)
        else if f.kind = 0 ∧ (inoAt xs k).kind ≠ 4 then ⟨(inoAt xs k).kind, p.1, k⟩ else f
def SeenP (f : Fd) (w : World) (e : Ending) (w' : World) : Prop := ∃ A n c, e = .returned (.tuple #[.agg #[.int .i64 f.kind, .int .i64 (f.lv : Int), .int .i64 (f.ino : Int), .slice A n c], .bool (f.kind != 0)]) ∧ Bel w w'
def Oks (ms : List Mt) : Prop := ∀ m ∈ ms, ∀ i, InoOk (inoAt m.xs i)
theorem info45 : ∃ i, Tryd.prog.info? 45 = some i ∧ i.zero = some (.agg #[.int .i64 0, .int .i64 0, .int .i64 0, .slice none 0 0]) ∧ i.size = 4 := by
  have h : (Tryd.prog.info? 45).map (fun i => (i.zero, i.size)) = some (some (.agg #[.int .i64 0, .int .i64 0, .int .i64 0, .slice none 0 0]), 4) := by kernel_rfl
  obtain ⟨i, hi, e⟩ := Option.map_eq_some_iff.1 h
  simp only [Prod.mk.injEq] at e
  exact ⟨i, hi, e.1, e.2⟩
theorem four_set {w : World} {g : Nat} {t : TypeId} {c0 c1 c2 c3 : Value} (h : Blk w g t #[c0, c1, c2, c3]) (v0 v1 v2 v3 : Value) :
    Blk ((((w.setCell ⟨g, 0, none⟩ v0).setCell ⟨g, 1, none⟩ v1).setCell ⟨g, 2, none⟩ v2).setCell ⟨g, 3, none⟩ v3) g t #[v0, v1, v2, v3] ∧
    Keep (fun k => k = g) w ((((w.setCell ⟨g, 0, none⟩ v0).setCell ⟨g, 1, none⟩ v1).setCell ⟨g, 2, none⟩ v2).setCell ⟨g, 3, none⟩ v3) :=
  ⟨by simpa using (((h.set_ 0 v0).set_ 1 v1).set_ 2 v2).set_ 3 v3,
   ((((Keep.refl (fun k => k = g) w).setCell (p := ⟨g, 0, none⟩) (fun _ => rfl) v0).setCell (p := ⟨g, 1, none⟩) (fun _ => rfl) v1).setCell (p := ⟨g, 2, none⟩) (fun _ => rfl) v2).setCell (p := ⟨g, 3, none⟩) (fun _ => rfl) v3⟩
theorem found_bel {w w1 W W' : World} {g : Nat} (h1 : Bel w w1) (hk : Keep (fun k => k = g + 1 + 1) w1 W) (hg : w.heap.size = g) (hlt : g + 1 < w1.heap.size) (hk2 : Keep (fun k => k = g + 1) W W') : Bel w W' := by
  have h2 : Below w.heap.size w w1 := h1
  exact (h2.trans (hk.below (by have := h2.size; omega) (fun k h => by omega))).trans (hk2.below (by have := h2.size; have := hk.size; omega) (fun k h => by omega))
theorem keep_app {w0 w w8 : World} {gf n c : Nat} {A : Option Addr} {cs : Array Value} {xs : List Value} {t : TypeId} (hk : Keep (fun k => k = gf) w0 w) (hg : (w.alloc (.cells cs t)).grownBy w8 (Value.slice A n c).ownBlock) (hr : w.ownsRow w0.heap.size 41 2 (.slice A n c) n xs) (v : Value) :
    Keep (fun k => k = gf) w0 (w8.setCell ⟨gf, 3, none⟩ v) :=
  ((hk.alloc (.cells cs t)).grown hg (fun k h1 h2 => absurd (row_base hr k h1.symm) (by omega))).setCell (p := ⟨gf, 3, none⟩) (fun _ => rfl) v
theorem br_app {w w8 : World} {gf n c base b : Nat} {A : Option Addr} {cs cs8 : Array Value} {xs : List Value} {t : TypeId} {ys : List Ino} (h : BrAt w b ys) (hg : (w.alloc (.cells cs t)).grownBy w8 (Value.slice A n c).ownBlock) (hr : w.ownsRow base 41 2 (.slice A n c) n xs) (hy : Blk w8 gf 45 cs8) (v : Value) :
    BrAt (w8.setCell ⟨gf, 3, none⟩ v) b ys := by
  have k1 : Keep (fun k => (Value.slice A n c).ownBlock = some k) w w8 := ((Keep.refl (fun k => (Value.slice A n c).ownBlock = some k) w).alloc (.cells cs t)).grown hg (fun k h1 _ => h1)
  have h1 := h.keep (e := 41) k1 (by decide) (by decide) (by decide) (by decide) (fun k h => row_isT hr k h)
  exact h1.keep (e := 45) ((Keep.refl (fun k => k = gf) w8).setCell (p := ⟨gf, 3, none⟩) (fun _ => rfl) v) (by decide) (by decide) (by decide) (by decide) (fun k h => by rw [h]; exact hy.isT)
set_option maxRecDepth 100000 in
set_option maxHeartbeats 8000000 in
theorem look_calls {w : World} {A : Option Addr} {c : Nat} {ms : List Mt} (h : StAt w A c ms) (hok : Oks ms) (next : Int) {Ap : Option Addr} {cp : Nat} {P : List (Nat × Nat)} (hp : PlAt w Ap cp P) (hpl : P.length ≤ 100) (s : ByteArray) :
    Calls Tryd.prog 14 #[.agg #[.slice A ms.length c, .int .i64 next], .slice Ap P.length cp, .string s] w (SeenP (seenL (ms.map Mt.xs) s P Fd.zero) w) := by
  obtain ⟨i41, hi41⟩ := info41
  have I41 := Av.mk hi41
  have HOK := Av.mk hok
  obtain ⟨F, hF⟩ : ∃ F, seenL (ms.map Mt.xs) s P Fd.zero = F := ⟨_, rfl⟩
  rw [hF]
  have HF := Av.mk hF
  have hba := below_alloc (below_alloc (below_alloc (Below.refl _ w) (.cells #[.slice A ms.length c, .int .i64 next] 28)) (.cells #[.int .i64 0, .int .i64 0, .int .i64 0, .slice none 0 0] 45)) (.cells #[.int .i64 0, .int .i64 0, .int .i64 0, .slice none 0 0] 45)
  have X1 := Av.mk (((Blk.new w 28 #[.slice A ms.length c, .int .i64 next]).alloc (.cells #[.int .i64 0, .int .i64 0, .int .i64 0, .slice none 0 0] 45)).alloc (.cells #[.int .i64 0, .int .i64 0, .int .i64 0, .slice none 0 0] 45))
  have R1 := Av.mk ((Blk.new (w.alloc (.cells #[.slice A ms.length c, .int .i64 next] 28)) 45 #[.int .i64 0, .int .i64 0, .int .i64 0, .slice none 0 0]).alloc (.cells #[.int .i64 0, .int .i64 0, .int .i64 0, .slice none 0 0] 45))
  have Y1 := Av.mk (Blk.new ((w.alloc (.cells #[.slice A ms.length c, .int .i64 next] 28)).alloc (.cells #[.int .i64 0, .int .i64 0, .int .i64 0, .slice none 0 0] 45)) 45 #[.int .i64 0, .int .i64 0, .int .i64 0, .slice none 0 0])
  have hz1 : (w.alloc (.cells #[.slice A ms.length c, .int .i64 next] 28)).heap.size = w.heap.size + 1 := by simp
  have hz2 : ((w.alloc (.cells #[.slice A ms.length c, .int .i64 next] 28)).alloc (.cells #[.int .i64 0, .int .i64 0, .int .i64 0, .slice none 0 0] 45)).heap.size = w.heap.size + 1 + 1 := by simp
  rw [hz1] at R1
  rw [hz2] at Y1
  have HB1 : Av (Bel w (((w.alloc (.cells #[.slice A ms.length c, .int .i64 next] 28)).alloc (.cells #[.int .i64 0, .int .i64 0, .int .i64 0, .slice none 0 0] 45)).alloc (.cells #[.int .i64 0, .int .i64 0, .int .i64 0, .slice none 0 0] 45))) := ⟨hba⟩
  have HS1 := Av.mk (h.grow hba)
  have HP1 := Av.mk (hp.grow hba)
  clear hba hz1 hz2 hi41 hF h hok hp
  go_enter Tryd.func14, Tryd.ntmps14
  go_upto_region 2 with (fail)
  generalize ((w.alloc (.cells #[.slice A ms.length c, .int .i64 next] 28)).alloc (.cells #[.int .i64 0, .int .i64 0, .int .i64 0, .slice none 0 0] 45)).alloc (.cells #[.int .i64 0, .int .i64 0, .int .i64 0, .slice none 0 0] 45) = w1 at *
  generalize hg : w.heap.size = g at *
  have HG := Av.mk hg
  clear hg
  go_wp2_with fail
  go_loopw [17] (fun s17 wr => ∃ (j : Nat) (f : Fd) (Ad : Option Addr) (nd cd : Nat) (xs : List Value), j ≤ P.length ∧ s17 = .int .i64 j ∧ Blk wr (g + 1 + 1) 45 #[.int .i64 f.kind, .int .i64 (f.lv : Int), .int .i64 (f.ino : Int), .slice Ad nd cd] ∧ wr.ownsRow w1.heap.size 41 2 (.slice Ad nd cd) nd xs ∧ nd ≤ j ∧ Keep (fun k => k = g + 1 + 1) w1 wr ∧ Av (seenL (ms.map Mt.xs) s (P.drop j) f = F)) (fun s17 _ => P.length - (intOf s17).toNat)
  case atStart => exact ⟨0, Fd.zero, none, 0, 0, [], Nat.zero_le _, rfl, Y1.out, ⟨rfl, .inl ⟨rfl, rfl⟩⟩, Nat.le_refl _, Keep.refl _ _, ⟨HF.out⟩⟩
  case round =>
    obtain ⟨j, f, Ad, nd, cd, xs, hj, rfl, hy, hrow, hnd, hk, HX⟩ := hrel
    obtain ⟨fk, flv, fino⟩ := f
    simp only at hy
    have YJ := Av.mk hy
    have RJ := Av.mk hrow
    have KJ := Av.mk hk
    have hsz : w1.heap.size ≤ wr.heap.size := hk.size
    have X2 := Av.mk (X1.out.keep hk (by have := HG.out; omega))
    have R2 := Av.mk (R1.out.keep hk (by have := HG.out; omega))
    have HS2 := Av.mk (HS1.out.keep (e := 45) hk (by decide) (by decide) (by decide) (by decide) (by decide) (fun k h => by rw [h]; exact Y1.out.isT))
    have HP2 := Av.mk (Sl.keepT HP1.out hk (fun k h e => by rw [e] at h; exact absurd (h.one Y1.out.isT) (by decide)))
    clear hy hrow hk
    by_cases hlt : j < P.length
    · obtain ⟨⟨lv, ii⟩, hpj⟩ : ∃ p, P[j]? = some p := ⟨_, List.getElem?_eq_getElem hlt⟩
      obtain ⟨r, off, rfl, _, hrl, hcc, -, hall⟩ := Sl.elem (f := spC) HP2.out (fun _ => rfl) (by omega) hpj
      have d0 := hall 0 (by omega)
      have d1 := hall 1 (by omega)
      simp [spC] at d0 d1
      have hx := HX.out
      rw [drop_at hpj] at hx
      simp only [seenL] at hx
      have HX2 := Av.mk hx
      clear hall hpj hx HX
      go_upto_region 5 with (fail)
      have hba := below_alloc (Below.refl _ wr) (.cells #[.int .i64 (lv : Int), .int .i64 (ii : Int)] 41)
      have Z3 := Av.mk (Blk.new wr 41 #[.int .i64 (lv : Int), .int .i64 (ii : Int)])
      have X3 := Av.mk (X2.out.keep (Keep.of_below (S := fun _ => False) hba) (by simp))
      have R3 := Av.mk (R2.out.keep (Keep.of_below (S := fun _ => False) hba) (by simp))
      have Y3 := Av.mk (YJ.out.keep (Keep.of_below (S := fun _ => False) hba) (by simp))
      have HS3 := Av.mk (HS2.out.grow hba)
      have D3 := Av.mk (row_keep RJ.out (Keep.of_below (S := fun _ => False) hba) (by simp))
      have K3 := Av.mk (KJ.out.trans (Keep.of_below hba))
      clear hba d0 d1 X2 R2 YJ HS2 HP2 RJ KJ
      generalize wr.alloc (.cells #[.int .i64 (lv : Int), .int .i64 (ii : Int)] 41) = w3 at *
      generalize wr.heap.size = gz at *
      have x0 := X3.out.cell 0
      have x1 := X3.out.cell 1
      have lx := X3.out.lt
      have z0 := Z3.out.cell 0
      have lz := Z3.out.lt
      simp at x0 x1 z0
      have HSA := Av.mk (sat_calls HS3.out next lv)
      cases hm : ms[lv]? with
      | none =>
        have HX3 : Av (seenL (ms.map Mt.xs) s (P.drop (j + 1)) ⟨fk, flv, fino⟩ = F) := ⟨by
          have h := HX2.out
          rw [List.getElem?_map, hm] at h
          exact h⟩
        have hat : atR ms lv = .pointer none := by unfold atR; rw [hm]
        rw [hat] at HSA
        clear hm
        go_wp2_with fail
        refine HSA.out.mono ?_
        rintro e w4 ⟨rfl, hb4⟩
        have K4 := Av.mk (K3.out.trans (Keep.of_below hb4))
        have Y4 := Av.mk (Y3.out.keep (Keep.of_below (S := fun _ => False) hb4) (by simp))
        have D4 := Av.mk (row_keep D3.out (Keep.of_below (S := fun _ => False) hb4) (by simp))
        clear hb4
        go_wp2_with fail
        exact ⟨⟨j + 1, ⟨fk, flv, fino⟩, Ad, nd, cd, xs, by omega, by go_num, Y4.out, D4.out, by omega, K4.out, HX3⟩, by simp [intOf]; omega⟩
      | some m =>
        have hmm := List.mem_of_getElem? hm
        have hx := HX2.out
        rw [List.getElem?_map, hm] at hx
        simp only [Option.map_some] at hx
        have hat : atR ms lv = .pointer (some ⟨m.b, 0, none⟩) := by unfold atR; rw [hm]
        rw [hat] at HSA
        have HOKM := Av.mk (HOK.out m hmm)
        have HX3 := Av.mk hx
        clear hm hx HX2
        go_wp2_with fail
        refine HSA.out.mono ?_
        rintro e w4 ⟨rfl, hb4⟩
        have K4 := Av.mk (K3.out.trans (Keep.of_below hb4))
        have Y4 := Av.mk (Y3.out.keep (Keep.of_below (S := fun _ => False) hb4) (by simp))
        have R4 := Av.mk (R3.out.keep (Keep.of_below (S := fun _ => False) hb4) (by simp))
        have Z4 := Av.mk (Z3.out.keep (Keep.of_below (S := fun _ => False) hb4) (by simp))
        have D4 := Av.mk (row_keep D3.out (Keep.of_below (S := fun _ => False) hb4) (by simp))
        have BR4 := Av.mk ((HS3.out.grow hb4).2 m hmm)
        clear hb4 x0 x1 lx z0 lz X3 Y3 R3 Z3 D3 K3 HS3 hmm
        have HLK := Av.mk (blook_calls BR4.out ii s (HOKM.out ii))
        have z1 := Z4.out.cell 1
        have lz := Z4.out.lt
        simp at z1
        cases hlk : lookI m.xs ii s with
        | none =>
          have HX4 : Av (seenL (ms.map Mt.xs) s (P.drop (j + 1)) ⟨fk, flv, fino⟩ = F) := ⟨by
            have h := HX3.out
            rw [hlk] at h
            exact h⟩
          rw [hlk] at HLK
          simp only [lookR] at HLK
          clear hlk
          go_wp2_with fail
          refine HLK.out.mono ?_
          rintro e w5 ⟨rfl, hb5⟩
          have K5 := Av.mk (K4.out.trans (Keep.of_below hb5))
          have Y5 := Av.mk (Y4.out.keep (Keep.of_below (S := fun _ => False) hb5) (by simp))
          have D5 := Av.mk (row_keep D4.out (Keep.of_below (S := fun _ => False) hb5) (by simp))
          clear hb5
          go_wp2_with fail
          exact ⟨⟨j + 1, ⟨fk, flv, fino⟩, Ad, nd, cd, xs, by omega, by go_num, Y5.out, D5.out, by omega, K5.out, HX4⟩, by simp [intOf]; omega⟩
        | some kk =>
          have hx := HX3.out
          rw [hlk] at hx
          simp only at hx
          rw [hlk] at HLK
          simp only [lookR] at HLK
          have HX4 := Av.mk hx
          clear hlk hx HX3
          go_wp2_with fail
          refine HLK.out.mono ?_
          rintro e w5 ⟨rfl, hb5⟩
          have K5 := Av.mk (K4.out.trans (Keep.of_below hb5))
          have Y5 := Av.mk (Y4.out.keep (Keep.of_below (S := fun _ => False) hb5) (by simp))
          have R5 := Av.mk (R4.out.keep (Keep.of_below (S := fun _ => False) hb5) (by simp))
          have Z5 := Av.mk (Z4.out.keep (Keep.of_below (S := fun _ => False) hb5) (by simp))
          have D5 := Av.mk (row_keep D4.out (Keep.of_below (S := fun _ => False) hb5) (by simp))
          have BR5 := Av.mk (BR4.out.grow hb5)
          clear hb5 z1 lz Y4 R4 Z4 D4 K4 BR4
          have HKD := Av.mk (kind_calls BR5.out kk)
          have HOP : Av (∀ W, BrAt W m.b m.xs → Calls Tryd.prog 46 #[.pointer (some ⟨m.b, 0, none⟩), .int .i64 kk] W (RetB (.bool (inoAt m.xs kk).opq) W)) := ⟨fun W hW => opaque_calls hW kk⟩
          generalize (inoAt m.xs kk).kind = kd at *
          generalize (inoAt m.xs kk).opq = op at *
          go_wp2_with fail
          refine HKD.out.mono ?_
          rintro e w6 ⟨rfl, hb6⟩
          have hk56 : Keep (fun k => k = g + 1 + 1) w5 w6 := Keep.of_below hb6
          have K6 := Av.mk (K5.out.trans (Keep.of_below hb6))
          have BR6 := Av.mk (BR5.out.grow hb6)
          have Y6 := Av.mk (Y5.out.keep (Keep.of_below (S := fun _ => False) hb6) (by simp))
          have R6 := Av.mk (R5.out.keep (Keep.of_below (S := fun _ => False) hb6) (by simp))
          have Z6 := Av.mk (Z5.out.keep (Keep.of_below (S := fun _ => False) hb6) (by simp))
          have D6 := Av.mk (row_keep D5.out (Keep.of_below (S := fun _ => False) hb6) (by simp))
          clear hb6 R5 Z5 D5 K5 hk56 BR5
          have z0 := Z6.out.cell 0
          have lz := Z6.out.lt
          have y0 := Y6.out.cell 0
          have ly := Y6.out.lt
          simp at z0 y0
          by_cases hkd : kd = 2
          · subst hkd
            have HX5 := HX4.out
            simp only [if_true] at HX5
            replace HX5 := Av.mk HX5
            clear HX4
            by_cases hf0 : fk = 0
            · skip
              have HX6 := HX5.out
              rw [if_pos hf0] at HX6
              replace HX5 := Av.mk HX6
              clear HX6
              have t1 : (fk == 0) = true := by simpa using hf0
              clear hf0
              go_upto_region 15 with (first | (refine wpList_putB rfl 45 (.tmp 8) (.tmp 63) rfl (g + 1 + 1) 45 _ _ rfl rfl (by kernel_rfl) Y6.out rfl (by simp [Value.oneCell']) ?_; intro w7 hb7 hk7; have Y7 := Av.mk hb7; have HK7 := Av.mk hk7; clear hb7 hk7))
              have K7 := Av.mk (K6.out.trans HK7.out)
              have R7 := Av.mk (R6.out.keep HK7.out (by omega))
              have BR7 := Av.mk (BR6.out.keep (e := 45) HK7.out (by decide) (by decide) (by decide) (by decide) (fun k h => by rw [h]; exact Y6.out.isT))
              have Z7 := Av.mk (Z6.out.keep HK7.out (by intro e; exact Z6.out.ne_ Y6.out (by decide) e))
              have D7 : Av (w7.ownsRow w1.heap.size 41 2 (.slice none 0 0) 0 []) := ⟨⟨rfl, .inl ⟨rfl, rfl⟩⟩⟩
              clear z0 y0 lz ly
              have z0 := Z7.out.cell 0
              have lz := Z7.out.lt
              have y0 := Y7.out.cell 0
              have y3 := Y7.out.cell 3
              have ly := Y7.out.lt
              simp at z0 y0 y3
              go_upto_region 16 with (first | (at_builtin; refine wpList_app rfl _ _ 43 rfl w1.heap.size 41 i41 _ 2 16 Tryd.underlying43 I41.out.1 I41.out.2.1 I41.out.2.2.1 I41.out.2.2.2 (by rfl) (by decide) (.slice none 0 0) 0 ([] : List Value) rfl (D7.out.alloc _) ⟨w7.heap.size, 0, none⟩ 1 1 [.int .i64 (lv : Int), .int .i64 (kk : Int)] rfl rfl (new_cells w7 [.int .i64 (lv : Int), .int .i64 (kk : Int)] 41) (by simp [Value.oneCell']) (by unfold maxLen; omega) (by omega) (by have := K7.out.size; simp; omega) ?_; intro A8 c8 w8 ho8 hg8 _; have HO8 := Av.mk ho8; have HG8 := Av.mk hg8; have Y8 := Av.mk ((Y7.out.alloc (.cells #[.int .i64 (lv : Int), .int .i64 (kk : Int)] 41)).grown hg8 (row_ne D7.out Y7.out (by decide))); clear ho8 hg8; have y83 := Y8.out.cell 3; have f83 := Y8.out.frozen 3; have ly8 := Y8.out.lt; simp at y83))
              have BR9 : Av (BrAt (w8.setCell ⟨g + 1 + 1, 3, none⟩ (.slice A8 (0 + 1) c8)) m.b m.xs) := ⟨br_app BR7.out HG8.out D7.out Y8.out _⟩
              have K9 : Av (Keep (fun k => k = g + 1 + 1) w1 (w8.setCell ⟨g + 1 + 1, 3, none⟩ (.slice A8 (0 + 1) c8))) := ⟨keep_app K7.out HG8.out D7.out _⟩
              have Y9 : Av (Blk (w8.setCell ⟨g + 1 + 1, 3, none⟩ (.slice A8 (0 + 1) c8)) (g + 1 + 1) 45 #[.int .i64 2, .int .i64 (lv : Int), .int .i64 (kk : Int), .slice A8 (0 + 1) c8]) := ⟨by
                have := Y8.out.set_ 3 (.slice A8 (0 + 1) c8)
                simpa using this⟩
              have R9 : Av (Blk (w8.setCell ⟨g + 1 + 1, 3, none⟩ (.slice A8 (0 + 1) c8)) (g + 1) 45 #[.int .i64 0, .int .i64 0, .int .i64 0, .slice none 0 0]) := ⟨((R7.out.alloc (.cells #[.int .i64 (lv : Int), .int .i64 (kk : Int)] 41)).grown HG8.out (row_ne D7.out R7.out (by decide))).far (p := ⟨g + 1 + 1, 3, none⟩) (by show g + 1 ≠ g + 1 + 1; omega) _⟩
              have D9 : Av ((w8.setCell ⟨g + 1 + 1, 3, none⟩ (.slice A8 (0 + 1) c8)).ownsRow w1.heap.size 41 2 (.slice A8 (0 + 1) c8) (0 + 1) (([] : List Value) ++ [.int .i64 (lv : Int), .int .i64 (kk : Int)])) := ⟨by
                have hn : some (g + 1 + 1) ≠ (Value.slice A8 (0 + 1) c8).ownBlock := row_ne HO8.out Y8.out (by decide)
                exact row_keep HO8.out ((Keep.refl (fun k => k = g + 1 + 1) w8).setCell (p := ⟨g + 1 + 1, 3, none⟩) (fun _ => rfl) _) (fun k hk e => hn (by rw [hk, e]))⟩
              clear y83 f83 ly8
              generalize w8.setCell ⟨g + 1 + 1, 3, none⟩ (.slice A8 (0 + 1) c8) = w9 at *
              have hko := Av.mk (HOP.out w9 BR9.out)
              cases op
              case true =>
                simp only [if_true] at HX5
                go_wp2_with fail
                refine hko.out.mono ?_
                rintro e wz ⟨rfl, hbz⟩
                have Yz := Av.mk (Y9.out.keep (Keep.of_below (S := fun _ => False) hbz) (by simp))
                have Rz := Av.mk (R9.out.keep (Keep.of_below (S := fun _ => False) hbz) (by simp))
                have Kz := Av.mk (K9.out.trans (Keep.of_below hbz))
                have HFF : Av (F = ⟨2, lv, kk⟩) := ⟨HX5.out.symm⟩
                clear hbz
                have ye0 := Yz.out.cell 0
                have ye1 := Yz.out.cell 1
                have ye2 := Yz.out.cell 2
                have ye3 := Yz.out.cell 3
                have lye := Yz.out.lt
                have re0 := Rz.out.cell 0
                have re1 := Rz.out.cell 1
                have re2 := Rz.out.cell 2
                have re3 := Rz.out.cell 3
                have rf0 := Rz.out.frozen 0
                have rf1 := Rz.out.frozen 1
                have rf2 := Rz.out.frozen 2
                have rf3 := Rz.out.frozen 3
                have lre := Rz.out.lt
                simp at ye0 ye1 ye2 ye3 re0 re1 re2 re3
                go_upto_region 18 with (fail)
                go_region
                all_goals
                  go_wp2_with fail
                  have h4 := four_set Rz.out (.int .i64 2) (.int .i64 (lv : Int)) (.int .i64 (kk : Int)) (.slice A8 (0 + 1) c8)
                  have hbl := found_bel HB1.out Kz.out HG.out R1.out.lt h4.2.drew
                  have h4d := h4.1.drew
                  have e0 := h4d.cell 0
                  have e1 := h4d.cell 1
                  have e2 := h4d.cell 2
                  have e3 := h4d.cell 3
                  simp only [List.getElem?_toArray, List.getElem?_cons_zero, List.getElem?_cons_succ] at e0 e1 e2 e3
                  generalize (((((wz.setCell ⟨g + 1, 0, none⟩ (.int .i64 2)).setCell ⟨g + 1, 1, none⟩ (.int .i64 (lv : Int))).setCell ⟨g + 1, 2, none⟩ (.int .i64 (kk : Int))).setCell ⟨g + 1, 3, none⟩ (.slice A8 (0 + 1) c8)).drew) = w9 at *
                  refine bodyPost_ret (v := .tuple #[.agg #[.int .i64 2, .int .i64 (lv : Int), .int .i64 (kk : Int), .slice A8 (0 + 1) c8], .bool (2 != 0)]) (by simp [results, Tryd.results14, go_sem, e0, e1, e2, e3]) rfl ?_
                  exact ⟨_, _, _, by rw [HFF.out] <;> rfl, hbl⟩
              case false =>
                have HX6 : Av (seenL (ms.map Mt.xs) s (P.drop (j + 1)) ⟨2, lv, kk⟩ = F) := ⟨by have h := HX5.out; simpa using h⟩
                go_wp2_with fail
                refine hko.out.mono ?_
                rintro e wz ⟨rfl, hbz⟩
                have Yz := Av.mk (Y9.out.keep (Keep.of_below (S := fun _ => False) hbz) (by simp))
                have Dz := Av.mk (row_keep D9.out (Keep.of_below (S := fun _ => False) hbz) (by simp))
                have Kz := Av.mk (K9.out.trans (Keep.of_below hbz))
                clear hbz
                go_wp2_with fail
                exact ⟨⟨j + 1, ⟨2, lv, kk⟩, A8, 0 + 1, c8, _, by omega, by go_num, Yz.out, Dz.out, by omega, Kz.out, HX6⟩, by simp [intOf]; omega⟩
            · skip
              have HX6 := HX5.out
              rw [if_neg hf0] at HX6
              replace HX5 := Av.mk HX6
              clear HX6
              have t1 : (fk == 0) = false := by simpa using hf0
              clear hf0
              have y3 := Y6.out.cell 3
              simp at y3
              go_upto_region 16 with (first | (at_builtin; refine wpList_app rfl _ _ 43 rfl w1.heap.size 41 i41 _ 2 16 Tryd.underlying43 I41.out.1 I41.out.2.1 I41.out.2.2.1 I41.out.2.2.2 (by rfl) (by decide) (.slice Ad nd cd) nd xs rfl (D6.out.alloc _) ⟨w6.heap.size, 0, none⟩ 1 1 [.int .i64 (lv : Int), .int .i64 (kk : Int)] rfl rfl (new_cells w6 [.int .i64 (lv : Int), .int .i64 (kk : Int)] 41) (by simp [Value.oneCell']) (by unfold maxLen; omega) (by omega) (by have := K6.out.size; simp; omega) ?_; intro A8 c8 w8 ho8 hg8 _; have HO8 := Av.mk ho8; have HG8 := Av.mk hg8; have Y8 := Av.mk ((Y6.out.alloc (.cells #[.int .i64 (lv : Int), .int .i64 (kk : Int)] 41)).grown hg8 (row_ne D6.out Y6.out (by decide))); clear ho8 hg8; have y83 := Y8.out.cell 3; have f83 := Y8.out.frozen 3; have ly8 := Y8.out.lt; simp at y83))
              have BR9 : Av (BrAt (w8.setCell ⟨g + 1 + 1, 3, none⟩ (.slice A8 (nd + 1) c8)) m.b m.xs) := ⟨br_app BR6.out HG8.out D6.out Y8.out _⟩
              have K9 : Av (Keep (fun k => k = g + 1 + 1) w1 (w8.setCell ⟨g + 1 + 1, 3, none⟩ (.slice A8 (nd + 1) c8))) := ⟨keep_app K6.out HG8.out D6.out _⟩
              have Y9 : Av (Blk (w8.setCell ⟨g + 1 + 1, 3, none⟩ (.slice A8 (nd + 1) c8)) (g + 1 + 1) 45 #[.int .i64 fk, .int .i64 (flv : Int), .int .i64 (fino : Int), .slice A8 (nd + 1) c8]) := ⟨by
                have := Y8.out.set_ 3 (.slice A8 (nd + 1) c8)
                simpa using this⟩
              have R9 : Av (Blk (w8.setCell ⟨g + 1 + 1, 3, none⟩ (.slice A8 (nd + 1) c8)) (g + 1) 45 #[.int .i64 0, .int .i64 0, .int .i64 0, .slice none 0 0]) := ⟨((R6.out.alloc (.cells #[.int .i64 (lv : Int), .int .i64 (kk : Int)] 41)).grown HG8.out (row_ne D6.out R6.out (by decide))).far (p := ⟨g + 1 + 1, 3, none⟩) (by show g + 1 ≠ g + 1 + 1; omega) _⟩
              have D9 : Av ((w8.setCell ⟨g + 1 + 1, 3, none⟩ (.slice A8 (nd + 1) c8)).ownsRow w1.heap.size 41 2 (.slice A8 (nd + 1) c8) (nd + 1) (xs ++ [.int .i64 (lv : Int), .int .i64 (kk : Int)])) := ⟨by
                have hn : some (g + 1 + 1) ≠ (Value.slice A8 (nd + 1) c8).ownBlock := row_ne HO8.out Y8.out (by decide)
                exact row_keep HO8.out ((Keep.refl (fun k => k = g + 1 + 1) w8).setCell (p := ⟨g + 1 + 1, 3, none⟩) (fun _ => rfl) _) (fun k hk e => hn (by rw [hk, e]))⟩
              clear y83 f83 ly8
              generalize w8.setCell ⟨g + 1 + 1, 3, none⟩ (.slice A8 (nd + 1) c8) = w9 at *
              have hko := Av.mk (HOP.out w9 BR9.out)
              cases op
              case true =>
                simp only [if_true] at HX5
                go_wp2_with fail
                refine hko.out.mono ?_
                rintro e wz ⟨rfl, hbz⟩
                have Yz := Av.mk (Y9.out.keep (Keep.of_below (S := fun _ => False) hbz) (by simp))
                have Rz := Av.mk (R9.out.keep (Keep.of_below (S := fun _ => False) hbz) (by simp))
                have Kz := Av.mk (K9.out.trans (Keep.of_below hbz))
                have HFF : Av (F = ⟨fk, flv, fino⟩) := ⟨HX5.out.symm⟩
                clear hbz
                have ye0 := Yz.out.cell 0
                have ye1 := Yz.out.cell 1
                have ye2 := Yz.out.cell 2
                have ye3 := Yz.out.cell 3
                have lye := Yz.out.lt
                have re0 := Rz.out.cell 0
                have re1 := Rz.out.cell 1
                have re2 := Rz.out.cell 2
                have re3 := Rz.out.cell 3
                have rf0 := Rz.out.frozen 0
                have rf1 := Rz.out.frozen 1
                have rf2 := Rz.out.frozen 2
                have rf3 := Rz.out.frozen 3
                have lre := Rz.out.lt
                simp at ye0 ye1 ye2 ye3 re0 re1 re2 re3
                go_upto_region 18 with (fail)
                go_region
                all_goals
                  go_wp2_with fail
                  have h4 := four_set Rz.out (.int .i64 fk) (.int .i64 (flv : Int)) (.int .i64 (fino : Int)) (.slice A8 (nd + 1) c8)
                  have hbl := found_bel HB1.out Kz.out HG.out R1.out.lt h4.2.drew
                  have h4d := h4.1.drew
                  have e0 := h4d.cell 0
                  have e1 := h4d.cell 1
                  have e2 := h4d.cell 2
                  have e3 := h4d.cell 3
                  simp only [List.getElem?_toArray, List.getElem?_cons_zero, List.getElem?_cons_succ] at e0 e1 e2 e3
                  generalize (((((wz.setCell ⟨g + 1, 0, none⟩ (.int .i64 fk)).setCell ⟨g + 1, 1, none⟩ (.int .i64 (flv : Int))).setCell ⟨g + 1, 2, none⟩ (.int .i64 (fino : Int))).setCell ⟨g + 1, 3, none⟩ (.slice A8 (nd + 1) c8)).drew) = w9 at *
                  refine bodyPost_ret (v := .tuple #[.agg #[.int .i64 fk, .int .i64 (flv : Int), .int .i64 (fino : Int), .slice A8 (nd + 1) c8], .bool (fk != 0)]) (by simp [results, Tryd.results14, go_sem, e0, e1, e2, e3]) rfl ?_
                  exact ⟨_, _, _, by rw [HFF.out] <;> rfl, hbl⟩
              case false =>
                have HX6 : Av (seenL (ms.map Mt.xs) s (P.drop (j + 1)) ⟨fk, flv, fino⟩ = F) := ⟨by have h := HX5.out; simpa using h⟩
                go_wp2_with fail
                refine hko.out.mono ?_
                rintro e wz ⟨rfl, hbz⟩
                have Yz := Av.mk (Y9.out.keep (Keep.of_below (S := fun _ => False) hbz) (by simp))
                have Dz := Av.mk (row_keep D9.out (Keep.of_below (S := fun _ => False) hbz) (by simp))
                have Kz := Av.mk (K9.out.trans (Keep.of_below hbz))
                clear hbz
                go_wp2_with fail
                exact ⟨⟨j + 1, ⟨fk, flv, fino⟩, A8, nd + 1, c8, _, by omega, by go_num, Yz.out, Dz.out, by omega, Kz.out, HX6⟩, by simp [intOf]; omega⟩
          · have hkd1 : (kd != 2) = true := by simpa using hkd
            have HX5 := HX4.out
            rw [if_neg hkd] at HX5
            replace HX5 := Av.mk HX5
            clear hkd
            by_cases hf0 : fk = 0
            · by_cases hk4 : kd = 4
              · have HFF : Av (F = ⟨fk, flv, fino⟩) := ⟨by rw [← HX5.out, if_neg (by rintro ⟨_, h⟩; exact h hk4)]⟩
                have t1 : (fk == 0) = true := by simpa using hf0
                have t2 : (kd != 4) = false := by simpa using hk4
                clear hf0 hk4 z0 y0
                have ye0 := Y6.out.cell 0
                have ye1 := Y6.out.cell 1
                have ye2 := Y6.out.cell 2
                have ye3 := Y6.out.cell 3
                have lye := Y6.out.lt
                have re0 := R6.out.cell 0
                have re1 := R6.out.cell 1
                have re2 := R6.out.cell 2
                have re3 := R6.out.cell 3
                have rf0 := R6.out.frozen 0
                have rf1 := R6.out.frozen 1
                have rf2 := R6.out.frozen 2
                have rf3 := R6.out.frozen 3
                have lre := R6.out.lt
                simp at ye0 ye1 ye2 ye3 re0 re1 re2 re3
                go_upto_region 18 with (fail)
                go_region
                go_wp2_with fail
                have h4 := four_set R6.out (.int .i64 fk) (.int .i64 (flv : Int)) (.int .i64 (fino : Int)) (.slice Ad nd cd)
                have hbl := found_bel HB1.out K6.out HG.out R1.out.lt h4.2.drew
                have h4d := h4.1.drew
                have e0 := h4d.cell 0
                have e1 := h4d.cell 1
                have e2 := h4d.cell 2
                have e3 := h4d.cell 3
                simp only [List.getElem?_toArray, List.getElem?_cons_zero, List.getElem?_cons_succ] at e0 e1 e2 e3
                generalize (((((w6.setCell ⟨g + 1, 0, none⟩ (.int .i64 fk)).setCell ⟨g + 1, 1, none⟩ (.int .i64 (flv : Int))).setCell ⟨g + 1, 2, none⟩ (.int .i64 (fino : Int))).setCell ⟨g + 1, 3, none⟩ (.slice Ad nd cd)).drew) = w9 at *
                refine bodyPost_ret (v := .tuple #[.agg #[.int .i64 fk, .int .i64 (flv : Int), .int .i64 (fino : Int), .slice Ad nd cd], .bool (fk != 0)]) (by simp [results, Tryd.results14, go_sem, e0, e1, e2, e3]) rfl ?_
                exact ⟨_, _, _, by rw [HFF.out] <;> rfl, hbl⟩
              · have HFF : Av (F = ⟨kd, lv, kk⟩) := ⟨by rw [← HX5.out, if_pos ⟨hf0, hk4⟩]⟩
                have t1 : (fk == 0) = true := by simpa using hf0
                have t2 : (kd != 4) = true := by simpa using hk4
                clear hf0 hk4
                go_upto_region 18 with (first | (refine wpList_putB rfl 45 (.tmp 8) (.tmp 54) rfl (g + 1 + 1) 45 _ _ rfl rfl (by kernel_rfl) Y6.out rfl (by simp [Value.oneCell']) ?_; intro w7 hb7 hk7; have Y7 := Av.mk hb7; have HK7 := Av.mk hk7; clear hb7 hk7))
                have K7 := Av.mk (K6.out.trans HK7.out)
                have R7 := Av.mk (R6.out.keep HK7.out (by omega))
                clear z0 y0 lz ly
                have ye0 := Y7.out.cell 0
                have ye1 := Y7.out.cell 1
                have ye2 := Y7.out.cell 2
                have ye3 := Y7.out.cell 3
                have lye := Y7.out.lt
                have re0 := R7.out.cell 0
                have re1 := R7.out.cell 1
                have re2 := R7.out.cell 2
                have re3 := R7.out.cell 3
                have rf0 := R7.out.frozen 0
                have rf1 := R7.out.frozen 1
                have rf2 := R7.out.frozen 2
                have rf3 := R7.out.frozen 3
                have lre := R7.out.lt
                simp at ye0 ye1 ye2 ye3 re0 re1 re2 re3
                go_region
                all_goals
                  go_wp2_with fail
                  have h4 := four_set R7.out (.int .i64 kd) (.int .i64 (lv : Int)) (.int .i64 (kk : Int)) (.slice none 0 0)
                  have hbl := found_bel HB1.out K7.out HG.out R1.out.lt h4.2.drew
                  have h4d := h4.1.drew
                  have e0 := h4d.cell 0
                  have e1 := h4d.cell 1
                  have e2 := h4d.cell 2
                  have e3 := h4d.cell 3
                  simp only [List.getElem?_toArray, List.getElem?_cons_zero, List.getElem?_cons_succ] at e0 e1 e2 e3
                  generalize (((((w7.setCell ⟨g + 1, 0, none⟩ (.int .i64 kd)).setCell ⟨g + 1, 1, none⟩ (.int .i64 (lv : Int))).setCell ⟨g + 1, 2, none⟩ (.int .i64 (kk : Int))).setCell ⟨g + 1, 3, none⟩ (.slice none 0 0)).drew) = w9 at *
                  refine bodyPost_ret (v := .tuple #[.agg #[.int .i64 kd, .int .i64 (lv : Int), .int .i64 (kk : Int), .slice none 0 0], .bool (kd != 0)]) (by simp [results, Tryd.results14, go_sem, e0, e1, e2, e3]) rfl ?_
                  exact ⟨_, _, _, by rw [HFF.out] <;> rfl, hbl⟩
            · have HFF : Av (F = ⟨fk, flv, fino⟩) := ⟨by rw [← HX5.out, if_neg (by rintro ⟨h, _⟩; exact hf0 h)]⟩
              have t1 : (fk == 0) = false := by simpa using hf0
              clear hf0 z0 y0
              have ye0 := Y6.out.cell 0
              have ye1 := Y6.out.cell 1
              have ye2 := Y6.out.cell 2
              have ye3 := Y6.out.cell 3
              have lye := Y6.out.lt
              have re0 := R6.out.cell 0
              have re1 := R6.out.cell 1
              have re2 := R6.out.cell 2
              have re3 := R6.out.cell 3
              have rf0 := R6.out.frozen 0
              have rf1 := R6.out.frozen 1
              have rf2 := R6.out.frozen 2
              have rf3 := R6.out.frozen 3
              have lre := R6.out.lt
              simp at ye0 ye1 ye2 ye3 re0 re1 re2 re3
              go_upto_region 18 with (fail)
              go_region
              go_wp2_with fail
              have h4 := four_set R6.out (.int .i64 fk) (.int .i64 (flv : Int)) (.int .i64 (fino : Int)) (.slice Ad nd cd)
              have hbl := found_bel HB1.out K6.out HG.out R1.out.lt h4.2.drew
              have h4d := h4.1.drew
              have e0 := h4d.cell 0
              have e1 := h4d.cell 1
              have e2 := h4d.cell 2
              have e3 := h4d.cell 3
              simp only [List.getElem?_toArray, List.getElem?_cons_zero, List.getElem?_cons_succ] at e0 e1 e2 e3
              generalize (((((w6.setCell ⟨g + 1, 0, none⟩ (.int .i64 fk)).setCell ⟨g + 1, 1, none⟩ (.int .i64 (flv : Int))).setCell ⟨g + 1, 2, none⟩ (.int .i64 (fino : Int))).setCell ⟨g + 1, 3, none⟩ (.slice Ad nd cd)).drew) = w9 at *
              refine bodyPost_ret (v := .tuple #[.agg #[.int .i64 fk, .int .i64 (flv : Int), .int .i64 (fino : Int), .slice Ad nd cd], .bool (fk != 0)]) (by simp [results, Tryd.results14, go_sem, e0, e1, e2, e3]) rfl ?_
              exact ⟨_, _, _, by rw [HFF.out] <;> rfl, hbl⟩
    · obtain rfl : j = P.length := by omega
      have hx := HX.out
      rw [List.drop_length] at hx
      have HFF : Av (F = ⟨fk, flv, fino⟩) := ⟨hx.symm⟩
      clear hx HX
      have ye0 := YJ.out.cell 0
      have ye1 := YJ.out.cell 1
      have ye2 := YJ.out.cell 2
      have ye3 := YJ.out.cell 3
      have lye := YJ.out.lt
      have re0 := R2.out.cell 0
      have re1 := R2.out.cell 1
      have re2 := R2.out.cell 2
      have re3 := R2.out.cell 3
      have rf0 := R2.out.frozen 0
      have rf1 := R2.out.frozen 1
      have rf2 := R2.out.frozen 2
      have rf3 := R2.out.frozen 3
      have lre := R2.out.lt
      simp at ye0 ye1 ye2 ye3 re0 re1 re2 re3
      go_upto_region 18 with (fail)
      go_region
      go_wp2_with fail
      have h4 := four_set R2.out (.int .i64 fk) (.int .i64 (flv : Int)) (.int .i64 (fino : Int)) (.slice Ad nd cd)
      have hbl := found_bel HB1.out KJ.out HG.out R1.out.lt h4.2.drew
      have h4d := h4.1.drew
      have e0 := h4d.cell 0
      have e1 := h4d.cell 1
      have e2 := h4d.cell 2
      have e3 := h4d.cell 3
      simp only [List.getElem?_toArray, List.getElem?_cons_zero, List.getElem?_cons_succ] at e0 e1 e2 e3
      generalize (((((wr.setCell ⟨g + 1, 0, none⟩ (.int .i64 fk)).setCell ⟨g + 1, 1, none⟩ (.int .i64 (flv : Int))).setCell ⟨g + 1, 2, none⟩ (.int .i64 (fino : Int))).setCell ⟨g + 1, 3, none⟩ (.slice Ad nd cd)).drew) = w9 at *
      refine bodyPost_ret (v := .tuple #[.agg #[.int .i64 fk, .int .i64 (flv : Int), .int .i64 (fino : Int), .slice Ad nd cd], .bool (fk != 0)]) (by simp [results, Tryd.results14, go_sem, e0, e1, e2, e3]) rfl ?_
      exact ⟨_, _, _, by rw [HFF.out] <;> rfl, hbl⟩
end Go.Proofs.YtkmojgdjapfbbaaDoor
