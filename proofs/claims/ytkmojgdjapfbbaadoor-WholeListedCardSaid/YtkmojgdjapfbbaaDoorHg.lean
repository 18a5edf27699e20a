/- merge.List: the walk. -/
import Derived.Test.YtkmojgdjapfbbaaDoorHr
import Derived.Test.YtkmojgdjapfbbaaDoorSee
namespace Go.Proofs.YtkmojgdjapfbbaaDoor
open Go.RowKit Go.Maps
set_option linter.unusedSimpArgs false
set_option linter.unusedVariables false

attribute [local go_sem ↓] fld135 fld33_0 fld33_1 fld33_2 fld33_4 fld33_6
set_option maxRecDepth 100000 in
theorem bnames_fresh {w : World} {b : Nat} {xs : List Ino} (h : BrAt w b xs) (i : Nat) (hl : (inoAt xs i).names.length ≤ 100000000) : Calls Tryd.prog 32 #[.pointer (some ⟨b, 0, none⟩), .int .i64 i] w (NmsP (inoAt xs i).names w) := by
  have HC := Av.mk (at_calls h i)
  clear h
  generalize inoAt xs i = x at *
  go_enter Tryd.func32, Tryd.ntmps32
  go_wp2_with fail
  refine HC.out.mono ?_
  rintro e w1 ⟨nv, ev, iv, rfl, hr, hb⟩
  have HB := Av.mk hb
  obtain ⟨A, c, hnv⟩ := hr.names.shape
  simp only at hnv
  subst hnv
  have HS := Av.mk (clone9 _ w1 A x.names.length c _ hr.names (one_str _) hl)
  clear hb hr
  go_wp2_with fail
  refine HS.out.mono ?_
  rintro e w2 ⟨A2, c2, rfl, hrow, hb2⟩
  have HB2 : Av (Bel w w2) := ⟨below_then HB.out (Below.size HB.out) hb2⟩
  have HR2 := Av.mk (Sl.of_row (B := fun k => w.heap.size ≤ k) hrow (fun k hk => by have h1 := row_base hrow k hk.symm; have h2 := Below.size HB.out; omega))
  clear hb2 hrow
  go_wp2_with fail
  go_ret
  exact ⟨A2, c2, rfl, HR2.out, HB2.out⟩
attribute [-go_sem] fld135 fld33_0 fld33_1 fld33_2 fld33_4 fld33_6
theorem row_set1 {w : World} {base e r n c i : Nat} {xs : List Value} {v : Value} (h : w.ownsRow base e 1 (.slice (some ⟨r, 0, none⟩) n c) n xs) : (w.setCell ⟨r, i, none⟩ v).ownsRow base e 1 (.slice (some ⟨r, 0, none⟩) n c) n (xs.set i v) := by
  obtain ⟨hl, hr⟩ := h
  refine ⟨by rw [List.length_set]; exact hl, ?_⟩
  rcases hr with ⟨hr, _⟩ | ⟨r', cap, cur, hv, hb, hh, hnc, hcm, hcs, htk⟩
  · simp at hr
  · simp only [Value.slice.injEq, Option.some.injEq, Addr.mk.injEq, and_true, true_and] at hv
    obtain ⟨rfl, rfl⟩ := hv
    have hB : Blk w r e cur := hh
    exact .inr ⟨r, c, _, rfl, hb, hB.set_ i v, hnc, hcm, by simpa using hcs, by simp only [Array.toList_setIfInBounds]; rw [List.take_set, htk]⟩
/-- The names that are in a place's directory. -/
def rowN (ms : List Mt) (p : Nat × Nat) : List ByteArray := match ms[p.1]? with
  | some m => (inoAt m.xs p.2).names
  | none => []
def kindN (ms : List Mt) (P : List (Nat × Nat)) (x : ByteArray × Nat) : Int := match P[x.2]? with
  | some p => match ms[p.1]? with
    | some m => (inoAt m.xs ((lookI m.xs p.2 x.1).getD 0)).kind
    | none => 0
  | none => 0
/-- What is listed. -/
def entsL (ms : List Mt) (P : List (Nat × Nat)) : List (ByteArray × Nat) → List (ByteArray × Int)
  | [] => []
  | x :: l => if kindN ms P x = 4 then entsL ms P l else (x.1, kindN ms P x) :: entsL ms P l
def ListP (out : List (ByteArray × Int)) (w : World) (e : Ending) (w' : World) : Prop := ∃ A c, e = .returned (.slice A out.length c) ∧ Sl (fun k => w.heap.size ≤ k) w' 2 (.slice A out.length c) out.length (out.flatMap enC) ∧ Bel w w'
theorem pl_at {w : World} {A : Option Addr} {c k : Nat} {P : List (Nat × Nat)} {p : Nat × Nat} (h : PlAt w A c P) (hx : P[k]? = some p) :
    ∃ b off, A = some ⟨b, off, none⟩ ∧ b < w.heap.size ∧ P.length ≤ c ∧ w.cell? ⟨b, off + k * 2, none⟩ = some (.int .i64 (p.1 : Int)) ∧ w.cell? ⟨b, off + k * 2 + 1, none⟩ = some (.int .i64 (p.2 : Int)) := by
  obtain ⟨b, off, rfl, _, hb, hc, h0, hj⟩ := Sl.elem (f := spC) h (fun _ => rfl) (by omega) hx
  have d1 := hj 1 (by omega)
  have d0 := hj 0 (by omega)
  exact ⟨b, off, rfl, hb, hc, by simpa [spC] using d0, by simpa [spC] using d1⟩
set_option maxRecDepth 100000 in
set_option maxHeartbeats 1000000 in
theorem list_calls {w : World} {A : Option Addr} {c : Nat} {ms : List Mt} (h : StAt w A c ms) (hok : Oks ms) (next : Int) {Ap : Option Addr} {cp : Nat} {P : List (Nat × Nat)} (hp : PlAt w Ap cp P) (hpl : P.length ≤ 100) (hlv : ∀ p ∈ P, p.1 < ms.length)
    (hr : Rise (P.map (rowN ms))) (hN : manyL (P.map (rowN ms)) (P.map (rowN ms)).length ≤ 100000) :
    Calls Tryd.prog 33 #[.agg #[.slice A ms.length c, .int .i64 next], .slice Ap P.length cp] w (ListP (entsL ms P (allN (P.map (rowN ms)))) w) := by
  have HS := Av.mk h
  have HP := Av.mk hp
  have HOK := Av.mk hok
  have HLV := Av.mk hlv
  have HRI := Av.mk hr
  have HNN := Av.mk hN
  obtain ⟨i23, hi23⟩ : ∃ i, Tryd.prog.info? 23 = some i ∧ i.zero = some (.slice none 0 0) ∧ i.size = 1 ∧ i.bytes = 24 := by
    have h : (Tryd.prog.info? 23).map (fun i => (i.zero, i.size, i.bytes)) = some (some (.slice none 0 0), 1, 24) := by kernel_rfl
    obtain ⟨i, hi, e⟩ := Option.map_eq_some_iff.1 h
    simp only [Prod.mk.injEq] at e
    exact ⟨i, hi, e.1, e.2.1, e.2.2⟩
  have I23 := Av.mk hi23
  obtain ⟨RES, hres⟩ : ∃ RES, entsL ms P (allN (P.map (rowN ms))) = RES := ⟨_, rfl⟩
  rw [hres]
  have HRES0 := Av.mk hres
  clear h hp hok hlv hr hN hi23 hres
  have hb1 := below_alloc (Below.refl _ w) (.cells #[.slice A ms.length c, .int .i64 next] 28)
  have HB1 := Av.mk hb1
  have X1 := Av.mk (Blk.new w 28 #[.slice A ms.length c, .int .i64 next])
  clear hb1
  go_enter Tryd.func33, Tryd.ntmps33
  go_upto_region 1 with (fail)
  obtain ⟨g, hg⟩ : ∃ g, w.heap.size = g := ⟨_, rfl⟩
  have HG := Av.mk hg
  generalize w.alloc (.cells #[.slice A ms.length c, .int .i64 next] 28) = w1 at *
  rw [hg] at X1 ⊢
  clear hg
  have hg1 := X1.out.lt
  go_wp2_with (first | (at_make; refine wpList_make_full _ rfl _ _ 67 rfl w1.heap.size 23 i23 _ 1 Tryd.underlying67 I23.out.1 I23.out.2.1 I23.out.2.2.1 .i64 .i64 _ _ P.length rfl rfl rfl rfl (by rw [I23.out.2.2.2]; omega) (by unfold maxLen; omega) (Nat.le_refl _) ?_; intro w3 hown3 hgrow3; have HO3 := Av.mk hown3; have HG3 := Av.mk hgrow3; clear hown3 hgrow3))
  have hk3 : Keep (fun _ => False) w1 w3 := (Keep.refl (fun _ => False) w1).grown HG3.out (fun k hk _ => by cases hk)
  have X3 := Av.mk (X1.out.keep hk3 (fun h => h))
  have B3 : Av (Bel w w3) := ⟨(show Below w.heap.size w w1 from HB1.out).trans (hk3.below (Below.size HB1.out) (fun k h => h.elim))⟩
  have hgb : w.heap.size ≤ w1.heap.size := Below.size HB1.out
  obtain ⟨cs0, hcs0⟩ : ∃ cs0, (madeCells (Value.slice none 0 0).cells (P.length * 1)).toList = cs0 := ⟨_, rfl⟩
  rw [hcs0] at HO3
  generalize hb0 : w1.heap.size = b0 at *
  clear hk3 HG3 HB1 X1 hcs0 hb0
  go_loopw [22] (fun s22 wr => ∃ (j : Nat) (cs : List Value), j ≤ P.length ∧ s22 = .int .i64 j ∧ wr.ownsRow b0 23 1 (.slice (some ⟨b0, 0, none⟩) P.length P.length) P.length cs ∧
    Av (∀ (i : Nat) (v : Value) (p : Nat × Nat), i < j → cs[i]? = some v → P[i]? = some p → Sl (fun k => b0 < k) wr 1 v (rowN ms p).length ((rowN ms p).map Value.string)) ∧ Keep (fun k => k = b0) w3 wr) (fun s22 _ => P.length - (intOf s22).toNat)
  case atStart => exact ⟨0, cs0, Nat.zero_le _, rfl, HO3.out, ⟨fun i v p h => by omega⟩, Keep.refl _ _⟩
  case round =>
    obtain ⟨j, cs, hj, rfl, hrow, HSUB, hk⟩ := hrel
    have OJ := Av.mk hrow
    have KJ := Av.mk hk
    have BJ : Av (Bel w wr) := ⟨(show Below w.heap.size w w3 from B3.out).trans (hk.below (Below.size B3.out) (fun k e => by omega))⟩
    have XJ := Av.mk (X3.out.keep hk (by have := X3.out.lt; omega))
    have SJ := Av.mk (HS.out.grow BJ.out)
    have PJ := Av.mk (HP.out.grow BJ.out)
    clear hrow hk
    by_cases hlt : j < P.length
    · obtain ⟨⟨lv, ino⟩, hpj⟩ : ∃ p, P[j]? = some p := ⟨_, List.getElem?_eq_getElem hlt⟩
      have hlv := HLV.out _ (List.mem_of_getElem? hpj)
      simp only at hlv
      obtain ⟨m, hm⟩ : ∃ m, ms[lv]? = some m := ⟨_, List.getElem?_eq_getElem hlv⟩
      obtain ⟨b, off, hA, hbl, hcc, d0, d1⟩ := pl_at PJ.out hpj
      subst hA
      simp only at d0 d1
      have hrn : rowN ms (lv, ino) = (inoAt m.xs ino).names := by unfold rowN; rw [hm]
      have hat : atR ms lv = .pointer (some ⟨m.b, 0, none⟩) := by unfold atR; rw [hm]
      have hok2 := (HOK.out m (List.mem_of_getElem? hm) ino).2.2
      have HC31 : Av (∀ W, Bel w W → Calls Tryd.prog 31 #[.agg #[.slice A ms.length c, .int .i64 next], .int .i64 (lv : Int)] W (RetB (.pointer (some ⟨m.b, 0, none⟩)) W)) := ⟨fun W hW => by
        have h1 := sat_calls (HS.out.grow hW) next lv
        rw [hat] at h1
        exact h1⟩
      have HC32 : Av (∀ W, Bel w W → Calls Tryd.prog 32 #[.pointer (some ⟨m.b, 0, none⟩), .int .i64 (ino : Int)] W (NmsP (rowN ms (lv, ino)) W)) := ⟨fun W hW => by
        rw [hrn]
        exact bnames_fresh ((HS.out.2 m (List.mem_of_getElem? hm)).grow hW) ino (by omega)⟩
      have hbg := below_alloc (Below.refl _ wr) (.cells #[.int .i64 (lv : Int), .int .i64 (ino : Int)] 41)
      have E2 := Av.mk (Blk.new wr 41 #[.int .i64 (lv : Int), .int .i64 (ino : Int)])
      have B2 : Av (Bel w (wr.alloc (.cells #[.int .i64 (lv : Int), .int .i64 (ino : Int)] 41))) := ⟨below_then BJ.out (Below.size BJ.out) hbg⟩
      have X2 := Av.mk (XJ.out.keep (Keep.of_below (S := fun _ => False) hbg) (by simp))
      have K2 := Av.mk (KJ.out.trans (Keep.of_below (S := fun k => k = b0) hbg))
      have HPJ := Av.mk hpj
      clear hbg hm hrn hat hok2 XJ BJ PJ SJ hpj
      go_upto_region 5 with (fail)
      generalize hw2 : wr.alloc (.cells #[.int .i64 (lv : Int), .int .i64 (ino : Int)] 41) = w2 at *
      have HB12 : Av (Bel wr w2) := ⟨by rw [← hw2]; exact below_alloc (Below.refl _ wr) _⟩
      clear hw2
      generalize wr.heap.size = gx at *
      have c0 := E2.out.cell 0; have c1 := E2.out.cell 1
      have lx := E2.out.lt
      have x0 := X2.out.cell 0; have x1 := X2.out.cell 1
      have lg := X2.out.lt
      simp at c0 c1 x0 x1
      go_wp2_with fail
      refine (HC31.out w2 B2.out).mono ?_
      rintro e w4 ⟨rfl, hb4⟩
      have B4 : Av (Bel w w4) := ⟨below_then B2.out (Below.size B2.out) hb4⟩
      have HB14 : Av (Bel wr w4) := ⟨below_then HB12.out (Below.size HB12.out) hb4⟩
      have E4 := Av.mk (E2.out.keep (Keep.of_below (S := fun _ => False) hb4) (by simp))
      have K4 := Av.mk (K2.out.trans (Keep.of_below (S := fun k => k = b0) hb4))
      clear hb4 c0 c1 x0 x1 lx lg E2 X2 B2 K2
      have c0 := E4.out.cell 0; have c1 := E4.out.cell 1
      have lx := E4.out.lt
      simp at c0 c1
      go_wp2_with fail
      refine (HC32.out w4 B4.out).mono ?_
      rintro e w5 ⟨An, cn, rfl, hsl5, hb5⟩
      have HB15 : Av (Bel wr w5) := ⟨below_then HB14.out (Below.size HB14.out) hb5⟩
      have hw4 : b0 < w4.heap.size := by have h1 := row_lt OJ.out b0 rfl; have h2 := Below.size HB14.out; omega
      have S5 := Av.mk (hsl5.mono (B' := fun k => b0 < k) (fun k hk => Nat.lt_of_lt_of_le hw4 hk))
      have K5 := Av.mk (K4.out.trans (Keep.of_below (S := fun k => k = b0) hb5))
      have O5 := Av.mk (row_keep OJ.out (Keep.of_below (S := fun _ => False) HB15.out) (fun _ _ => id))
      have hcl : cs.length = P.length := by have := OJ.out.1; omega
      obtain ⟨old, hold⟩ : ∃ old, cs[j]? = some old := ⟨_, List.getElem?_eq_getElem (by omega)⟩
      have y0 : w5.cell? ⟨b0, j, none⟩ = some old := by
        have h1 := O5.out.cellAt j (by omega)
        rw [hold] at h1
        exact h1
      have fy : w5.frozen? ⟨b0, j, none⟩ = false := by
        obtain ⟨cc, hcc⟩ := row_isT O5.out b0 rfl
        exact Blk.frozen (t := 23) (cs := cc) hcc j
      clear hsl5 hb5 c0 c1 lx HB14 HB12 E4 K4 B4 OJ
      go_wp2_with fail
      go_roundw
      case rel =>
        have hks : Keep (fun k => k = b0) w5 (w5.setCell ⟨b0, j, none⟩ (.slice An (rowN ms (lv, ino)).length cn)) := (Keep.refl (fun k => k = b0) w5).setCell (p := ⟨b0, j, none⟩) (fun _ => rfl) _
        refine ⟨j + 1, cs.set j (.slice An (rowN ms (lv, ino)).length cn), by omega, by go_num, row_set1 O5.out, ⟨fun i v p hi hv hp => ?_⟩, K5.out.trans hks⟩
        by_cases hij : i = j
        · subst hij
          rw [List.getElem?_set_self (by omega)] at hv
          injection hv with hv
          rw [HPJ.out] at hp
          injection hp with hp
          subst hv
          subst hp
          exact S5.out.keep hks (fun k hk e => by omega)
        · rw [List.getElem?_set_ne (fun e => hij e.symm)] at hv
          exact ((HSUB.out i v p (by omega) hv hp).grow HB15.out).keep hks (fun k hk e => by omega)
      case measure => simp [intOf]; omega
    · obtain rfl : j = P.length := by omega
      obtain ⟨R, hR⟩ : ∃ R, P.map (rowN ms) = R := ⟨_, rfl⟩
      rw [hR] at HRI HNN HRES0
      have hRl : R.length = P.length := by rw [← hR, List.length_map]
      have hRat : ∀ (i : Nat) (r : List ByteArray), R[i]? = some r → ∃ p, P[i]? = some p ∧ rowN ms p = r := fun i r hi => by
        rw [← hR, List.getElem?_map] at hi
        cases hp : P[i]? with
        | none => rw [hp] at hi; cases hi
        | some p => rw [hp] at hi; exact ⟨p, rfl, by simpa using hi⟩
      have hcl : cs.length = P.length := by have := OJ.out.1; omega
      have hrows : RowsAt (fun _ => True) wr (some ⟨b0, 0, none⟩) P.length cs R := by
        refine ⟨by rw [hcl, hRl], ?_, fun i v r hv hr => ?_⟩
        · rw [hRl]
          exact Sl.of_row OJ.out (fun _ _ => trivial)
        · obtain ⟨p, hp, rfl⟩ := hRat i r hr
          exact (HSUB.out i v p (List.getElem?_eq_some_iff.1 hp).1 hv hp).mono (fun _ _ => trivial)
      obtain ⟨hl1, hl2, hl3⟩ := allN_law R HRI.out
      have hst := (start_law R HRI.out)
      have hF : allN R = firstL none (mergeL R (manyL R R.length) (startL R)) := rfl
      have hnn := HNN.out
      have hml := hst.2.1
      have hdn := hst.1
      obtain ⟨N, hN⟩ : ∃ N, manyL R R.length = N := ⟨_, rfl⟩
      have hmc := merge_calls hrows hnn (by omega) N (by omega) (by rw [← hN]; exact hdn)
      rw [hN] at hF hml hl3 hnn
      rw [hRl] at hmc
      have HMC := Av.mk hmc
      generalize hMG : mergeL R N (startL R) = MG at *
      obtain ⟨F, hFF⟩ : ∃ F, allN R = F := ⟨_, rfl⟩
      rw [hFF] at hl1 hl3 hF HRES0
      have HFC : Av (∀ W Am cm, Sl (fun k => wr.heap.size ≤ k) W 2 (.slice Am MG.length cm) MG.length (MG.flatMap itC) → Calls Tryd.prog 36 #[.slice Am MG.length cm] W (MergeP F W)) := ⟨fun W Am cm hW => by
        rw [hF]
        exact first_calls hW (by omega)⟩
      have HL1 : Av (∀ x ∈ F, ∃ p, P[x.2]? = some p) := ⟨fun x hx => by
        obtain ⟨⟨r, hr, _⟩, _⟩ := hl1 x hx
        obtain ⟨p, hp, _⟩ := hRat _ _ hr
        exact ⟨p, hp⟩⟩
      have hFl : F.length ≤ 100000 := by omega
      clear hl1 hl2 hl3 hst hF hnn hml hdn hmc hrows hRat hMG hFF hR hRl hcl HNN HRI
      go_wp2_with fail
      refine HMC.out.mono ?_
      rintro e w6 ⟨Am, cm, rfl, hsm, hb6⟩
      have HF6 := Av.mk (HFC.out w6 Am cm hsm)
      have B6 : Av (Bel w w6) := ⟨below_then BJ.out (Below.size BJ.out) hb6⟩
      have X6 := Av.mk (XJ.out.keep (Keep.of_below (S := fun _ => False) hb6) (by simp))
      clear hsm hb6 HMC HFC BJ XJ SJ PJ OJ KJ
      go_wp2_with fail
      refine HF6.out.mono ?_
      rintro e w7 ⟨Af, cf, rfl, hsf, hb7⟩
      have B7 : Av (Bel w w7) := ⟨below_then B6.out (Below.size B6.out) hb7⟩
      have X7 := Av.mk (X6.out.keep (Keep.of_below (S := fun _ => False) hb7) (by simp))
      have F7 := Av.mk hsf
      clear hsf hb7 HF6 B6 X6
      obtain ⟨i78, hi78⟩ := info78
      have I78 := Av.mk hi78
      clear hi78
      have HRES : Av (entsL ms P F = RES) := HRES0
      go_wp2_with fail
      go_loopw [9, 45] (fun s9 s45 wr => ∃ (j : Nat) (out : List (ByteArray × Int)) (B : Option Addr) (d : Nat), j ≤ F.length ∧ s45 = .int .i64 j ∧ s9 = .slice B out.length d ∧ wr.ownsRow w7.heap.size 78 2 (.slice B out.length d) out.length (out.flatMap enC) ∧ out.length ≤ j ∧
        Av (out ++ entsL ms P (F.drop j) = RES) ∧ Bel w7 wr) (fun _ s45 _ => F.length - (intOf s45).toNat)
      case atStart => exact ⟨0, [], none, 0, Nat.zero_le _, rfl, rfl, ⟨rfl, .inl ⟨rfl, rfl⟩⟩, Nat.le_refl _, HRES, Below.refl _ _⟩
      case round =>
        obtain ⟨j, out, B, d, hj, rfl, rfl, hrow, hoj, HM, hb⟩ := hrel
        have OJ := Av.mk hrow
        have BJ := Av.mk hb
        have FJ := Av.mk (F7.out.grow hb)
        have BWJ : Av (Bel w wr) := ⟨below_then B7.out (Below.size B7.out) hb⟩
        have XJ := Av.mk (X7.out.keep (Keep.of_below (S := fun _ => False) hb) (by simp))
        clear hrow hb
        by_cases hlt : j < F.length
        · obtain ⟨⟨s, r⟩, hx⟩ : ∃ x, F[j]? = some x := ⟨_, List.getElem?_eq_getElem hlt⟩
          obtain ⟨⟨lv, ino⟩, hp⟩ := HL1.out _ (List.mem_of_getElem? hx)
          simp only at hp
          have hlv := HLV.out _ (List.mem_of_getElem? hp)
          simp only at hlv
          obtain ⟨m, hm⟩ : ∃ m, ms[lv]? = some m := ⟨_, List.getElem?_eq_getElem hlv⟩
          have hmm := List.mem_of_getElem? hm
          have hrl := (List.getElem?_eq_some_iff.1 hp).1
          have hm2 := HM.out
          rw [drop_at hx] at hm2
          simp only [entsL] at hm2
          obtain ⟨kk, hkk⟩ : ∃ kk, (lookI m.xs ino s).getD 0 = kk := ⟨_, rfl⟩
          have hkd : kindN ms P (s, r) = (inoAt m.xs kk).kind := by unfold kindN; rw [hp]; simp only; rw [hm]; simp only; rw [hkk]
          rw [hkd] at hm2
          obtain ⟨kd, hkd2⟩ : ∃ kd, (inoAt m.xs kk).kind = kd := ⟨_, rfl⟩
          rw [hkd2] at hm2
          have hat : atR ms lv = .pointer (some ⟨m.b, 0, none⟩) := by unfold atR; rw [hm]
          have hC31 : ∀ W, Bel w W → Calls Tryd.prog 31 #[.agg #[.slice A ms.length c, .int .i64 next], .int .i64 (lv : Int)] W (RetB (.pointer (some ⟨m.b, 0, none⟩)) W) := fun W hW => by
            have h1 := sat_calls (HS.out.grow hW) next lv
            rw [hat] at h1
            exact h1
          have HC44 : Av (∀ W, Bel w W → Calls Tryd.prog 44 #[.pointer (some ⟨m.b, 0, none⟩), .int .i64 (ino : Int), .string s] W (RetB (.tuple #[.int .i64 (kk : Int), .bool (lookI m.xs ino s).isSome]) W)) := ⟨fun W hW => by
            have h1 := blook_calls ((HS.out.2 m hmm).grow hW) ino s (HOK.out m hmm ino)
            have h2 : lookR (lookI m.xs ino s) = .tuple #[.int .i64 (kk : Int), .bool (lookI m.xs ino s).isSome] := by
              rw [← hkk]
              cases lookI m.xs ino s <;> rfl
            rw [h2] at h1
            exact h1⟩
          have HC45 : Av (∀ W, Bel w W → Calls Tryd.prog 45 #[.pointer (some ⟨m.b, 0, none⟩), .int .i64 (kk : Int)] W (RetB (.int .i64 kd) W)) := ⟨fun W hW => by
            have h1 := kind_calls ((HS.out.2 m hmm).grow hW) kk
            rw [hkd2] at h1
            exact h1⟩
          obtain ⟨b, off, hA, hbl, hcc, d0, d1⟩ := item_at FJ.out hx
          subst hA
          simp only at d0 d1
          have hbg := below_alloc (Below.refl _ wr) (.cells #[.string s, .int .i64 (r : Int)] 76)
          have E2 := Av.mk (Blk.new wr 76 #[.string s, .int .i64 (r : Int)])
          have O2 := Av.mk (OJ.out.alloc (.cells #[.string s, .int .i64 (r : Int)] 76))
          have B2 : Av (Bel w7 (wr.alloc (.cells #[.string s, .int .i64 (r : Int)] 76))) := ⟨below_then BJ.out (Below.size BJ.out) hbg⟩
          have BW2 : Av (Bel w (wr.alloc (.cells #[.string s, .int .i64 (r : Int)] 76))) := ⟨below_then BWJ.out (Below.size BWJ.out) hbg⟩
          have X2 := Av.mk (XJ.out.keep (Keep.of_below (S := fun _ => False) hbg) (by simp))
          have HPP := Av.mk hp
          generalize (lookI m.xs ino s).isSome = bs at *
          clear hx hm hmm hlv hkk hkd hkd2 hat hbg HM OJ BJ FJ XJ BWJ hp
          go_upto_region 13 with (fail)
          generalize wr.alloc (.cells #[.string s, .int .i64 (r : Int)] 76) = w2 at *
          generalize wr.heap.size = gx at *
          obtain ⟨bp, op, hAp, hblp, hccp, p0, p1⟩ := pl_at (HP.out.grow BW2.out) HPP.out
          subst hAp
          simp only at p0 p1
          have c0 := E2.out.cell 0; have c1 := E2.out.cell 1
          have lx := E2.out.lt
          have x0 := X2.out.cell 0; have x1 := X2.out.cell 1
          have lg := X2.out.lt
          simp at c0 c1 x0 x1
          have HT : Av (∀ W, Bel w2 W → Calls Tryd.prog 31 #[.agg #[.slice A ms.length c, .int .i64 next], .int .i64 (lv : Int)] W (RetB (.pointer (some ⟨m.b, 0, none⟩)) W)) := ⟨fun W hW => hC31 W (below_then BW2.out (Below.size BW2.out) hW)⟩
          clear hC31
          go_cut [12, 13] (fun s12 s13 wx => s12 = .pointer (some ⟨m.b, 0, none⟩) ∧ s13 = .int .i64 (ino : Int) ∧ Bel w2 wx)
          case first =>
            go_region_law (first
              | (go_simp
                 go_at_call 31
                 go_wp2_with
                   (go_at_call 31
                    refine (HT.out _ (bel_drew _)).mono ?_
                    rintro e w9 ⟨rfl, hb9⟩
                    have B9 : Av (Bel w2 w9) := ⟨below_then (bel_drew w2) (Below.size (bel_drew w2)) hb9⟩
                    have E9 := Av.mk (E2.out.keep (Keep.of_below (S := fun _ => False) B9.out) (by simp))
                    have hpl9 := (HP.out.grow (below_then BW2.out (Below.size BW2.out) B9.out))
                    obtain ⟨_, _, hAp9, _, _, p0', p1'⟩ := pl_at hpl9 HPP.out
                    injection hAp9 with hAp9
                    injection hAp9 with hAp1 hAp2 _
                    subst hAp1
                    subst hAp2
                    have c1' := E9.out.cell 1
                    have lx' := E9.out.lt
                    simp at c1'
                    simp only at p0' p1'
                    clear hb9 hpl9)))
            all_goals go_wp2_with fail
            all_goals
              go_meet
              exact ⟨rfl, rfl, B9.out⟩
          case rest =>
            obtain ⟨rfl, rfl, hbc⟩ := hcut
            obtain ⟨w3, rfl⟩ : ∃ w3, w3 = wc := ⟨_, rfl⟩
            have E3 := Av.mk (E2.out.keep (Keep.of_below (S := fun _ => False) hbc) (by simp))
            have O3 := Av.mk (row_keep O2.out (Keep.of_below (S := fun _ => False) hbc) (fun _ _ => id))
            have B3' : Av (Bel w7 w3) := ⟨below_then B2.out (Below.size B2.out) hbc⟩
            have BW3 : Av (Bel w w3) := ⟨below_then BW2.out (Below.size BW2.out) hbc⟩
            clear hbc E2 O2 B2 BW2 X2 c0 c1 lx x0 x1 lg p0 p1 hblp HT
            have c0 := E3.out.cell 0
            have lx := E3.out.lt
            simp at c0
            go_wp2_with fail
            refine (HC44.out w3 BW3.out).mono ?_
            rintro e w4 ⟨rfl, hb4⟩
            have E4 := Av.mk (E3.out.keep (Keep.of_below (S := fun _ => False) hb4) (by simp))
            have O4 := Av.mk (row_keep O3.out (Keep.of_below (S := fun _ => False) hb4) (fun _ _ => id))
            have B4 : Av (Bel w7 w4) := ⟨below_then B3'.out (Below.size B3'.out) hb4⟩
            have BW4 : Av (Bel w w4) := ⟨below_then BW3.out (Below.size BW3.out) hb4⟩
            clear hb4 E3 O3 B3' BW3 c0 lx
            go_wp2_with fail
            refine (HC45.out w4 BW4.out).mono ?_
            rintro e w5 ⟨rfl, hb5⟩
            have E5 := Av.mk (E4.out.keep (Keep.of_below (S := fun _ => False) hb5) (by simp))
            have O5 := Av.mk (row_keep O4.out (Keep.of_below (S := fun _ => False) hb5) (fun _ _ => id))
            have B5 : Av (Bel w7 w5) := ⟨below_then B4.out (Below.size B4.out) hb5⟩
            clear hb5 E4 O4 B4 BW4
            by_cases hk4 : kd = 4
            · rw [if_pos hk4] at hm2
              have HM2 := Av.mk hm2
              have t4 : (kd != 4) = false := by simpa using hk4
              clear hm2 hk4
              go_wp2_with fail
              go_roundw
              case rel => exact ⟨j + 1, out, B, d, by omega, by go_num, rfl, O5.out, by omega, HM2, B5.out⟩
              case measure => simp [intOf]; omega
            · rw [if_neg hk4] at hm2
              have HM2 : Av ((out ++ [(s, kd)]) ++ entsL ms P (F.drop (j + 1)) = RES) := ⟨by rw [← hm2, List.append_assoc]; rfl⟩
              have t4 : (kd != 4) = true := by simpa using hk4
              have HOJ := Av.mk hoj
              have n1 : out.length + 1 ≤ maxLen := by unfold maxLen; omega
              have n2 : (out.length + 1) * 24 ≤ 140737488355328 := by omega
              have HSZ := Av.mk (Below.size B5.out)
              clear hm2 hk4 hoj
              have c0 := E5.out.cell 0
              have lx := E5.out.lt
              simp at c0
              go_wp2_with (first
                | (at_builtin
                   refine wpList_app rfl _ _ 70 rfl w7.heap.size 78 i78 _ 2 24 Tryd.underlying70 I78.out.1 I78.out.2.1 I78.out.2.2.1 I78.out.2.2.2 (by rfl) (by decide) (.slice B out.length d) out.length _ rfl (O5.out.alloc _) ⟨w5.heap.size, 0, none⟩ 1 1 [.string s, .int .i64 kd] rfl rfl (new_cells w5 [.string s, .int .i64 kd] 78) (by simp [Value.oneCell']) n1 n2 (by have := HSZ.out; simp; omega) ?_
                   intro A6 c6 w6 ho6 hg6 hd6
                   have HO6 := Av.mk ho6
                   have hk6 : Keep (fun k => (Value.slice B out.length d).ownBlock = some k) w5 w6 := ((Keep.refl (fun k => (Value.slice B out.length d).ownBlock = some k) w5).alloc _).grown hg6 (fun k hk _ => hk)
                   have B6 : Av (Bel w7 w6) := ⟨(show Below w7.heap.size w7 w5 from B5.out).trans (hk6.below HSZ.out (fun k e => row_base O5.out k e.symm))⟩
                   clear ho6 hg6 hd6 hk6))
              go_roundw
              case rel =>
                refine ⟨j + 1, out ++ [(s, kd)], A6, c6, by omega, by go_num, by rw [List.length_append]; rfl, ?_, by have := HOJ.out; rw [List.length_append]; show out.length + 1 ≤ _; omega, HM2, B6.out⟩
                rw [List.length_append, List.flatMap_append]
                exact HO6.out
              case measure => simp [intOf]; omega
        · obtain rfl : j = F.length := by omega
          have HE : Av (out = RES) := ⟨by
            have := HM.out
            rw [List.drop_length] at this
            simpa [entsL] using this⟩
          go_wp2_with fail
          go_ret
          rw [← HE.out]
          exact ⟨B, d, rfl, Sl.of_row OJ.out (fun k e => by have h1 := row_base OJ.out k e.symm; have h2 := Below.size B7.out; omega), BWJ.out⟩
end Go.Proofs.YtkmojgdjapfbbaaDoor
