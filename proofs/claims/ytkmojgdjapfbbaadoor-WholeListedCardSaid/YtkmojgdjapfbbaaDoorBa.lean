/- branch.add: a tree into the table. -/
import Derived.Test.YtkmojgdjapfbbaaDoorBr
import Derived.Test.YtkmojgdjapfbbaaDoorCm
import Derived.Test.YtkmojgdjapfbbaaDoorPa
import Derived.Deep.DeepCutAuto
import Derived.Outline
namespace Go.Proofs.YtkmojgdjapfbbaaDoor
open Go.RowKit Go.Maps
set_option linter.unusedSimpArgs false
set_option linter.unusedVariables false

/-- The table of the branch at b. -/
structure TabAt (C : Nat → Prop) (w : World) (b base : Nat) (A : Option Addr) (c : Nat) (rows : List (RV × Ino)) : Prop where
  blk : Blk w b 110 #[.slice A rows.length c]
  row : w.ownsRow base 135 8 (.slice A rows.length c) rows.length (rows.flatMap inoC)
  ats : ∀ r ∈ rows, RowAt C w r
/-- The block of a slice. -/
def oB (A : Option Addr) (k : Nat) : Prop := ∃ n c, (Value.slice A n c).ownBlock = some k
theorem oB_iff {A : Option Addr} {k n c : Nat} : oB A k ↔ (Value.slice A n c).ownBlock = some k := by
  constructor
  · rintro ⟨n', c', h⟩
    cases A <;> simp_all [Value.ownBlock]
  · intro h; exact ⟨n, c, h⟩
def AddS (b : Nat) (A : Option Addr) (k : Nat) : Prop := k = b ∨ oB A k
def AddP (C : Nat → Prop) (n b base : Nat) (A : Option Addr) (rows : List (RV × Ino)) (xs : List Ino) (w : World) (e : Ending) (w' : World) : Prop :=
  ∃ (A' : Option Addr) (c' : Nat) (new : List (RV × Ino)), e = .returned (.int .i64 (n : Int)) ∧ new.map (·.2) = xs ∧ TabAt (fun k => C k ∨ w.heap.size ≤ k) w' b base A' c' (rows ++ new) ∧ Keep (AddS b A) w w' ∧ (∀ k, oB A' k → oB A k ∨ w.heap.size ≤ k)
def AddC (t : T) : Prop := ∀ (B C : Nat → Prop) (w : World) (p : NV) (b base : Nat) (A : Option Addr) (c : Nat) (rows : List (RV × Ino)), Rep B w p t → (∀ k, B k → k < base) → base ≤ b → base ≤ w.heap.size → TabAt C w b base A c rows → rows.length + t.count ≤ 1000000 → t.wt ≤ 1000000 →
  Calls Tryd.prog 79 #[.pointer (some ⟨b, 0, none⟩), nodeV p t] w (AddP C rows.length b base A rows (t.rows rows.length) w)
section
variable {S C C' : Nat → Prop} {w w' : World} {b base : Nat} {A : Option Addr} {c : Nat} {rows : List (RV × Ino)}
theorem TabAt.keep (h : TabAt C w b base A c rows) (hk : Keep S w w') (hb : ¬ S b) (ho : ∀ k, oB A k → ¬ S k) (hS : ∀ k, IsT w 9 k → ¬ S k) (h3 : ∀ k, IsT w 3 k → C k → ¬ S k) : TabAt C w' b base A c rows :=
  ⟨h.blk.keep hk hb, row_keep h.row hk (fun k hk' => ho k (oB_iff.2 hk')), fun r hr => (h.ats r hr).keep hk hS h3⟩
theorem TabAt.grow (h : TabAt C w b base A c rows) (hb : Below w.heap.size w w') : TabAt C w' b base A c rows :=
  h.keep (S := fun _ => False) (Keep.of_below hb) id (fun _ _ => id) (fun _ _ => id) (fun _ _ _ => id)
theorem TabAt.mono (h : TabAt C w b base A c rows) (hC : ∀ k, C k → k < w.heap.size → C' k) : TabAt C' w b base A c rows := ⟨h.blk, h.row, fun r hr => (h.ats r hr).mono hC⟩
theorem TabAt.own (h : TabAt C w b base A c rows) {k : Nat} (hk : oB A k) : IsT w 135 k ∧ base ≤ k ∧ k < w.heap.size :=
  ⟨row_isT h.row k (oB_iff.1 hk), row_base h.row k (oB_iff.1 hk).symm, row_lt h.row k (oB_iff.1 hk).symm⟩
/-- What a change of the table leaves. -/
theorem TabAt.side (h : TabAt C w b base A c rows) {e : TypeId} (h1 : e ≠ 110) (h2 : e ≠ 135) {k : Nat} (hk : IsT w e k) : ¬ AddS b A k := by
  rintro (rfl | ho)
  · exact h1 (hk.one h.blk.isT)
  · exact h2 (hk.one (h.own ho).1)
end
theorem one_ext (E : List IExt) : ∀ u ∈ iCells E, u.oneCell' = true := by
  intro v hv
  obtain ⟨x, _, hv⟩ := List.mem_flatMap.1 hv
  simp only [iC, List.mem_cons, List.not_mem_nil, or_false] at hv
  rcases hv with rfl | rfl <;> rfl
set_option maxRecDepth 100000 in
set_option maxHeartbeats 8000000 in
theorem add_calls (t : T) : AddC t := by
  induction t using T.ind with
  | h t ih =>
    intro B C w p b base A c rows h hB hb hbase htab hcnt hwt
    rw [T.wt_eq] at hwt
    obtain ⟨i135, hi135⟩ := info135
    have I135 := Av.mk hi135
    obtain ⟨i3, hi3⟩ := info3
    have I3 := Av.mk hi3
    clear hi135 hi3
    have HIH : Av (∀ u ∈ t.items, AddC u) := ⟨ih⟩
    have HBB := Av.mk hB
    have H := Av.mk h
    have HT := Av.mk htab
    obtain ⟨An, cn, Ai, ci, Ae, ce, rfl⟩ := h.parts
    rw [T.count_eq] at hcnt
    obtain ⟨k, o, ns, its, sz, ex, tg⟩ := t
    simp only [T.items, T.names, T.exts, T.target] at HIH hcnt hwt
    clear ih hB h htab
    show Calls Tryd.prog 79 #[.pointer (some ⟨b, 0, none⟩), .agg #[.int .i64 k, .bool o, .slice An ns.length cn, .slice Ai its.length ci, .int .i64 sz, .slice Ae ex.length ce, .string tg]] w _
    have t0 := HT.out.blk.cell 0
    have f0 := HT.out.blk.frozen 0
    have lb := HT.out.blk.lt
    simp at t0
    have hbx := below_alloc (Below.refl _ w) (.cells #[.int .i64 k, .bool o, .slice An ns.length cn, .slice Ai its.length ci, .int .i64 sz, .slice Ae ex.length ce, .string tg] 33)
    have X1 := Av.mk (Blk.new w 33 #[.int .i64 k, .bool o, .slice An ns.length cn, .slice Ai its.length ci, .int .i64 sz, .slice Ae ex.length ce, .string tg])
    have H1 := Av.mk (H.out.grow hbx)
    have T1 := Av.mk (HT.out.grow hbx)
    have K1 := Av.mk ((Keep.refl (AddS b A) w).alloc (.cells #[.int .i64 k, .bool o, .slice An ns.length cn, .slice Ai its.length ci, .int .i64 sz, .slice Ae ex.length ce, .string tg] 33))
    clear hbx
    go_enter Tryd.func79, Tryd.ntmps79
    go_upto_region 2 with (fail)
    have hz0 : w.heap.size < (w.alloc (.cells #[.int .i64 k, .bool o, .slice An ns.length cn, .slice Ai its.length ci, .int .i64 sz, .slice Ae ex.length ce, .string tg] 33)).heap.size := by simp
    generalize w.alloc (.cells #[.int .i64 k, .bool o, .slice An ns.length cn, .slice Ai its.length ci, .int .i64 sz, .slice Ae ex.length ce, .string tg] 33) = w1 at *
    have HG0 : Av (∀ k, oB A k → k < w.heap.size) := ⟨fun k hk => (HT.out.own hk).2.2⟩
    generalize hgx : w.heap.size = g at *
    have HGX := Av.mk hgx
    have HKW := Av.mk hz0
    clear hgx hz0 t0 f0
    have t0 := T1.out.blk.cell 0
    have f0 := T1.out.blk.frozen 0
    have lb1 := T1.out.blk.lt
    have hlen := T.len_le_countL its
    simp at t0
    go_upto_region 3 with (first | (at_builtin; refine wpList_app rfl _ _ 108 rfl base 135 i135 _ 8 136 Tryd.underlying108 I135.out.1 I135.out.2.1 I135.out.2.2.1 I135.out.2.2.2 (by rfl) (by decide) (.slice A rows.length c) rows.length (rows.flatMap inoC) rfl (T1.out.row.alloc _) ⟨w1.heap.size, 0, none⟩ 1 1 [.int .i64 0, .bool false, .slice none 0 0, .slice none 0 0, .int .i64 0, .slice none 0 0, .string ⟨#[]⟩, .slice none 0 0] rfl rfl (new_cells w1 [.int .i64 0, .bool false, .slice none 0 0, .slice none 0 0, .int .i64 0, .slice none 0 0, .string ⟨#[]⟩, .slice none 0 0] 135) (by simp [Value.oneCell']) (by unfold maxLen; omega) (by omega) (by have := HKW.out; simp; omega) ?_; intro A1 c1 w2 ho2 hg2 hd2; have HO2 := Av.mk ho2; have HG2 := Av.mk hg2; have HD2 := Av.mk hd2; have B2 := Av.mk ((T1.out.blk.alloc (.cells #[.int .i64 0, .bool false, .slice none 0 0, .slice none 0 0, .int .i64 0, .slice none 0 0, .string ⟨#[]⟩, .slice none 0 0] 135)).grown hg2 (row_ne T1.out.row T1.out.blk (by decide))); clear ho2 hg2 hd2; have f2 := B2.out.frozen 0; have lb2 := B2.out.lt; have e2 := B2.out.cell 0; simp at e2))
    have K2 : Av (Keep (AddS b A) w w2) := ⟨(K1.out.alloc _).grown HG2.out (fun k hk _ => .inr (oB_iff.2 hk))⟩
    have K3 : Av (Keep (AddS b A) w (w2.setCell ⟨b, 0, none⟩ (.slice A1 (rows.length + 1) c1))) := ⟨K2.out.setCell (p := ⟨b, 0, none⟩) (fun _ => (Or.inl rfl : AddS b A b)) _⟩
    have k23 : Keep (fun k => k = b) w2 (w2.setCell ⟨b, 0, none⟩ (.slice A1 (rows.length + 1) c1)) := (Keep.refl (fun k => k = b) w2).setCell (p := ⟨b, 0, none⟩) (fun _ => rfl) _
    have hnb : some b ≠ (Value.slice A1 (rows.length + 1) c1).ownBlock := row_ne HO2.out B2.out (by decide)
    have hlr : (rows ++ [zeroR]).length = rows.length + 1 := by simp
    have T3 : Av (TabAt C (w2.setCell ⟨b, 0, none⟩ (.slice A1 (rows.length + 1) c1)) b base A1 c1 (rows ++ [zeroR])) := ⟨{
      blk := by rw [hlr]; have := B2.out.set_ 0 (.slice A1 (rows.length + 1) c1); simpa using this
      row := by
        rw [hlr, List.flatMap_append]
        exact row_keep HO2.out k23 (fun k hk e => hnb (by rw [hk, e]))
      ats := fun r hr => by
        rcases List.mem_append.1 hr with hr | hr
        · exact (HT.out.ats r hr).keep K3.out (fun k hk => HT.out.side (by decide) (by decide) hk) (fun k hk _ => HT.out.side (by decide) (by decide) hk)
        · obtain rfl : r = zeroR := by simpa using hr
          exact zeroR_at _ _ }⟩
    have hgb : g ≠ b := X1.out.ne_ T1.out.blk (by decide)
    have X3 : Av (Blk (w2.setCell ⟨b, 0, none⟩ (.slice A1 (rows.length + 1) c1)) g 33 #[.int .i64 k, .bool o, .slice An ns.length cn, .slice Ai its.length ci, .int .i64 sz, .slice Ae ex.length ce, .string tg]) :=
      ⟨((X1.out.alloc _).grown HG2.out (row_ne T1.out.row X1.out (by decide))).far (p := ⟨b, 0, none⟩) hgb _⟩
    have H3 := Av.mk (H.out.keep K3.out (fun k hk hs => by
      have h1 := HBB.out k hk
      rcases hs with rfl | ho
      · omega
      · have := (HT.out.own ho).2.1; omega))
    have D3 : Av (∀ k, oB A1 k → oB A k ∨ g ≤ k) := ⟨fun k hk => by
      rcases HD2.out with hd | hd
      · exact .inl (oB_iff.2 (by rw [← hd]; exact oB_iff.1 hk))
      · have h1 := (oB_iff (n := rows.length + 1) (c := c1)).1 hk
        rw [hd] at h1
        have h2 := HKW.out
        simp at h1
        exact .inr (by omega)⟩
    have hz3 : Av (g < (w2.setCell ⟨b, 0, none⟩ (.slice A1 (rows.length + 1) c1)).heap.size) := ⟨X3.out.lt⟩
    clear k23 hnb hlr hgb K2 HO2 HG2 HD2 B2 f2 lb2 e2 t0 f0 lb1 T1 X1 H1 K1 HKW
    generalize w2.setCell ⟨b, 0, none⟩ (.slice A1 (rows.length + 1) c1) = w3 at *
    have c0 := X3.out.cell 0; have c1' := X3.out.cell 1; have c2 := X3.out.cell 2; have c3 := X3.out.cell 3; have c4 := X3.out.cell 4; have c5 := X3.out.cell 5; have c6 := X3.out.cell 6
    have lx := X3.out.lt
    simp at c0 c1' c2 c3 c4 c5 c6
    go_upto_region 4 with (fail)
    have hb4 := below_alloc (Below.refl _ w3) (.cells #[.int .i64 k, .bool o, .slice An ns.length cn, .slice Ai its.length ci, .int .i64 sz, .slice Ae ex.length ce, .string tg, .slice none 0 0] 135)
    have X4 := Av.mk (X3.out.keep (Keep.of_below (S := fun _ => False) hb4) (by simp))
    have Y4 := Av.mk (Blk.new w3 135 #[.int .i64 k, .bool o, .slice An ns.length cn, .slice Ai its.length ci, .int .i64 sz, .slice Ae ex.length ce, .string tg, .slice none 0 0])
    have T4 := Av.mk (T3.out.grow hb4)
    have H4 := Av.mk (H3.out.grow hb4).items
    have H4' := Av.mk (H3.out.grow hb4)
    have K4 := Av.mk (K3.out.alloc (.cells #[.int .i64 k, .bool o, .slice An ns.length cn, .slice Ai its.length ci, .int .i64 sz, .slice Ae ex.length ce, .string tg, .slice none 0 0] 135))
    have E4 : Av (∀ k, oB A1 k → k ≠ w3.heap.size) := ⟨fun k hk e => by have := (T3.out.own hk).2.2; omega⟩
    have G4 : Av (g ≤ w3.heap.size) := ⟨Nat.le_of_lt hz3.out⟩
    clear hb4 c0 c1' c2 c3 c4 c5 c6 lx X3 T3 H3 K3 hz3
    generalize w3.alloc (.cells #[.int .i64 k, .bool o, .slice An ns.length cn, .slice Ai its.length ci, .int .i64 sz, .slice Ae ex.length ce, .string tg, .slice none 0 0] 135) = w4 at *
    generalize hgx : w3.heap.size = gx at *
    clear hgx
    have c3 := X4.out.cell 3
    have lx := X4.out.lt
    simp at c3
    go_wp2_with fail
    clear c3 lx
    go_loopw [29] (fun i wr => ∃ (j : Nat) (A2 : Option Addr) (c2 : Nat) (new : List (RV × Ino)) (Ad : Option Addr) (cd : Nat), j ≤ its.length ∧ i = .int .i64 j ∧ new.map (·.2) = T.rowsL (rows.length + 1) (its.take j) ∧ TabAt (fun k => (C k ∨ g ≤ k) ∧ (Value.slice Ad j cd).ownBlock ≠ some k) wr b base A2 c2 (rows ++ zeroR :: new) ∧
      Blk wr gx 135 #[.int .i64 k, .bool o, .slice An ns.length cn, .slice Ai its.length ci, .int .i64 sz, .slice Ae ex.length ce, .string tg, .slice Ad j cd] ∧ wr.ownsRow g 3 1 (.slice Ad j cd) j ((T.idsL (rows.length + 1) (its.take j)).map fun n : Nat => Value.int .i64 (n : Int)) ∧ Keep (AddS b A) w wr ∧ Blk wr g 33 #[.int .i64 k, .bool o, .slice An ns.length cn, .slice Ai its.length ci, .int .i64 sz, .slice Ae ex.length ce, .string tg] ∧ Av ((∀ k, oB A2 k → oB A k ∨ g ≤ k) ∧ (∀ k, oB A2 k → k ≠ gx) ∧ gx < wr.heap.size)) (fun i _ => its.length - (intOf i).toNat)
    case atStart => exact ⟨0, A1, c1, [], none, 0, Nat.zero_le _, rfl, rfl, T4.out.mono (fun k hk _ => ⟨.inl hk, by simp [Value.ownBlock]⟩), Y4.out, ⟨rfl, .inl ⟨rfl, rfl⟩⟩, K4.out, X4.out, ⟨D3.out, E4.out, Y4.out.lt⟩⟩
    case round =>
      obtain ⟨j, A2, c2, new, Ad, cd, hj, rfl, hnew, ht, hy, hi, hk, hx, HD⟩ := hrel
      have HN := Av.mk hnew
      have TJ := Av.mk ht
      have YJ := Av.mk hy
      have IJ := Av.mk hi
      have KJ := Av.mk hk
      have XJ := Av.mk hx
      have HJ := Av.mk (H.out.keep hk (fun k hk hs => by
        have h1 := HBB.out k hk
        rcases hs with rfl | ho
        · omega
        · have := (HT.out.own ho).2.1; omega))
      clear hnew ht hy hi hk hx
      have hnl : new.length = T.countL (its.take j) := by
        have h1 := congrArg List.length HN.out
        rw [List.length_map] at h1
        rw [h1]
        have : ∀ (l : List T) n, (T.rowsL n l).length = T.countL l := by
          intro l
          induction l with
          | nil => intro n; rfl
          | cons x l ih => intro n; simp [T.rowsL, T.countL, T.rows_len, ih]
        exact this _ _
      by_cases hlt : j < its.length
      · obtain ⟨u, hu⟩ : ∃ u, its[j]? = some u := ⟨_, List.getElem?_eq_getElem hlt⟩
        obtain ⟨ub, off, q, rfl, hBb, hbl, hcp, d0, d1, d2, d3, d4, d5, d6, hq⟩ := HJ.out.items.elem hu
        obtain ⟨Bn, dn, Bi, di, Be, de, rfl⟩ := hq.parts
        obtain ⟨uk, uo, uns, uits, usz, uex, utg⟩ := u
        simp only [T.kind, T.opq, T.names, T.items, T.size, T.exts, T.target] at d0 d1 d2 d3 d4 d5 d6
        have hsum := T.countL_take hu
        have hle2 := T.countL_le its (j + 1)
        have HRT := Av.mk (T.rowsL_take hu (rows.length + 1))
        have HIT := Av.mk (T.idsL_take hu (rows.length + 1))
        have hl2 : (rows ++ zeroR :: new).length = rows.length + 1 + T.countL (its.take j) := by simp; omega
        have hba := below_alloc (Below.refl _ wr) (.cells #[.int .i64 uk, .bool uo, .slice Bn uns.length dn, .slice Bi uits.length di, .int .i64 usz, .slice Be uex.length de, .string utg] 33)
        have HQ5 := Av.mk (hq.grow hba)
        have T5 := Av.mk (TJ.out.grow hba)
        have Y5 := Av.mk (YJ.out.keep (Keep.of_below (S := fun _ => False) hba) (by simp))
        have I5 := Av.mk (row_keep IJ.out (Keep.of_below (S := fun _ => False) hba) (by simp))
        have X5 := Av.mk (XJ.out.keep (Keep.of_below (S := fun _ => False) hba) (by simp))
        have K5 := Av.mk (KJ.out.trans (Keep.of_below hba))
        have Z5 := Av.mk (Blk.new wr 33 #[.int .i64 uk, .bool uo, .slice Bn uns.length dn, .slice Bi uits.length di, .int .i64 usz, .slice Be uex.length de, .string utg])
        obtain ⟨m0, hm0⟩ : ∃ m0, (rows ++ zeroR :: new).length = m0 := ⟨_, rfl⟩
        rw [hm0] at hl2
        have HCu : Av (∀ W, Bel (wr.alloc (.cells #[.int .i64 uk, .bool uo, .slice Bn uns.length dn, .slice Bi uits.length di, .int .i64 usz, .slice Be uex.length de, .string utg] 33)) W → Calls Tryd.prog 79 #[.pointer (some ⟨b, 0, none⟩), .agg #[.int .i64 uk, .bool uo, .slice Bn uns.length dn, .slice Bi uits.length di, .int .i64 usz, .slice Be uex.length de, .string utg]] W (AddP (fun k => (C k ∨ g ≤ k) ∧ (Value.slice Ad j cd).ownBlock ≠ some k) m0 b base A2 (rows ++ zeroR :: new) (T.rows m0 (.node uk uo uns uits usz uex utg)) W)) := ⟨fun W hW => by
          have h1 := HIH.out _ (List.mem_of_getElem? hu) B _ W _ b base A2 c2 (rows ++ zeroR :: new) (HQ5.out.grow hW) HBB.out hb (by have h2 := hba.size; have h3 := Below.size hW; have h4 := KJ.out.size; have h5 := HGX.out; omega) (T5.out.grow hW) (by omega) (by have := T.wt_mem (List.mem_of_getElem? hu); omega)
          rw [hm0] at h1
          exact h1⟩
        rw [hsum] at hle2
        have HS := Av.mk hsum
        have HL2 := Av.mk hl2
        have hgxb : gx ≠ b := YJ.out.ne_ TJ.out.blk (by decide)
        have hgbb : g ≠ b := XJ.out.ne_ TJ.out.blk (by decide)
        have hge : ∀ k, oB A2 k → k ≠ g := fun k hk e => by
          have h1 := (TJ.out.own hk).1
          rw [e] at h1
          exact absurd (h1.one XJ.out.isT) (by decide)
        have GE := Av.mk hge
        have HM0 := Av.mk hm0
        clear hq hu hsum hl2 hge hm0 KJ TJ YJ IJ XJ HJ
        go_upto_region 7 with (fail)
        generalize wr.alloc (.cells #[.int .i64 uk, .bool uo, .slice Bn uns.length dn, .slice Bi uits.length di, .int .i64 usz, .slice Be uex.length de, .string utg] 33) = w5 at *
        generalize wr.heap.size = gy at *
        have z0 := Z5.out.cell 0; have z1 := Z5.out.cell 1; have z2 := Z5.out.cell 2; have z3 := Z5.out.cell 3; have z4 := Z5.out.cell 4; have z5 := Z5.out.cell 5; have z6 := Z5.out.cell 6
        have lz := Z5.out.lt
        have y7 := Y5.out.cell 7
        have ly := Y5.out.lt
        simp at z0 z1 z2 z3 z4 z5 z6 y7
        clear d0 d1 d2 d3 d4 d5 d6
        have q1 : j + 1 ≤ maxLen := by unfold maxLen; omega
        have q2 : (j + 1) * 8 ≤ 140737488355328 := by omega
        have q3 : g ≤ gx := G4.out
        go_region_law? (first
          | (go_simp
             go_at_call 79
             go_wp2_with
               (go_at_call 79
                refine (HCu.out _ (bel_drew _)).mono ?_
                rintro e w6 ⟨A3, c3, new2, rfl, hmap, ht6, hk6, hd6⟩
                have HM6 := Av.mk hmap
                have T6 := Av.mk ht6
                have K6 := Av.mk hk6
                have D6 := Av.mk hd6
                have Y6 := Av.mk (Y5.out.drew.keep hk6 (by rintro (h | h); exact hgxb h; exact HD.out.2.1 _ h rfl))
                have I6 := Av.mk (row_keep (w := w5.drew) I5.out hk6 (fun k hk => T5.out.side (e := 3) (by decide) (by decide) (row_isT I5.out k hk)))
                have y7' := Y6.out.cell 7
                have fy7 := Y6.out.frozen 7
                have ly' := Y6.out.lt
                simp at y7'
                clear hmap ht6 hk6 hd6))
          | (refine step_app rfl _ _ 133 rfl g 3 i3 _ 1 8 Tryd.underlying133 I3.out.1 I3.out.2.1 I3.out.2.2.1 I3.out.2.2.2 (by rfl) (by decide) (.slice Ad j cd) j _ rfl (I6.out.alloc _) ⟨w6.heap.size, 0, none⟩ 1 1 [.int .i64 (m0 : Int)] rfl rfl (new_cells w6 [.int .i64 (m0 : Int)] 3) (by simp [Value.oneCell']) q1 q2 (by simp; omega) ?_
             intro Ad7 cd7 w7 ho7 hg7 hd7
             have HO7 := Av.mk ho7
             have HG7 := Av.mk hg7
             have HD7 := Av.mk hd7
             have Y7 := Av.mk ((Y6.out.alloc (.cells #[.int .i64 (m0 : Int)] 3)).grown hg7 (row_ne I6.out Y6.out (by decide)))
             have y7'' := Y7.out.cell 7
             have fy7'' := Y7.out.frozen 7
             have ly'' := Y7.out.lt
             simp at y7''
             clear ho7 hg7 hd7))
        all_goals go_wp2_with fail
        all_goals
          have hidl : ∀ k, (Value.slice Ad j cd).ownBlock = some k → k < w5.heap.size ∧ IsT w6 3 k := fun k hk => ⟨row_lt I5.out k hk.symm, row_isT I6.out k hk⟩
          have hkk : Keep (fun k => k = gx ∨ (Value.slice Ad j cd).ownBlock = some k) w6 (w7.setCell ⟨gx, 7, none⟩ (.slice Ad7 (j + 1) cd7)) :=
            (((Keep.refl (fun k => k = gx ∨ (Value.slice Ad j cd).ownBlock = some k) w6).alloc (.cells #[.int .i64 (m0 : Int)] 3)).grown HG7.out (fun k hk _ => .inr hk)).setCell (p := ⟨gx, 7, none⟩) (fun _ => .inl rfl) _
          have hw6 : w5.heap.size ≤ w6.heap.size := K6.out.size
          have hown7 : ∀ k, k < w6.heap.size → ((((C k ∨ g ≤ k) ∧ (Value.slice Ad j cd).ownBlock ≠ some k) ∨ w5.drew.heap.size ≤ k)) → (C k ∨ g ≤ k) ∧ (Value.slice Ad7 (j + 1) cd7).ownBlock ≠ some k := fun k hk hc => by
            have hg5 : g ≤ w5.heap.size := by have h1 := G4.out; omega
            refine ⟨?_, fun e => ?_⟩
            · rcases hc with hc | hc
              · exact hc.1
              · have h1 : w5.heap.size ≤ k := hc
                exact .inr (by omega)
            · rcases HD7.out with hd | hd
              · rw [hd] at e
                rcases hc with hc | hc
                · exact hc.2 e
                · have h1 := (hidl k e).1
                  have h2 : w5.heap.size ≤ k := hc
                  omega
              · rw [hd] at e
                simp at e
                omega
          have hgT : IsT w6 135 gx := Y6.out.isT
          have hA3 : ∀ k, oB A3 k → (oB A k ∨ g ≤ k) ∧ k ≠ gx := fun k hk => by
            have hg5 : g ≤ w5.heap.size := by have h1 := G4.out; omega
            rcases D6.out k hk with h | h
            · exact ⟨HD.out.1 k h, HD.out.2.1 k h⟩
            · have h1 : w5.heap.size ≤ k := h
              exact ⟨.inr (by omega), by omega⟩
          have T6b := T6.out.mono (C' := fun k => (((C k ∨ g ≤ k) ∧ (Value.slice Ad j cd).ownBlock ≠ some k) ∨ w5.drew.heap.size ≤ k) ∧ k < w6.heap.size) (fun k hc hk => ⟨hc, hk⟩)
          have T8 := (T6b.keep (S := fun k => k = gx ∨ (Value.slice Ad j cd).ownBlock = some k) hkk
            (by
              rintro (h | h)
              · exact hgxb h.symm
              · exact absurd ((hidl b h).2.one T6.out.blk.isT) (by decide))
            (by
              rintro k hk (h | h)
              · exact (hA3 k hk).2 h
              · exact absurd ((hidl k h).2.one (T6.out.own hk).1) (by decide))
            (by
              rintro k hk (h | h)
              · rw [h] at hk; exact absurd (hk.one hgT) (by decide)
              · exact absurd ((hidl k h).2.one hk) (by decide))
            (by
              rintro k hk ⟨hc, hlt⟩ (h | h)
              · rw [h] at hk; exact absurd (hk.one hgT) (by decide)
              · rcases hc with hc | hc
                · exact hc.2 h
                · have h1 := (hidl k h).1
                  have h2 : w5.heap.size ≤ k := hc
                  omega)).mono (C' := fun k => (C k ∨ g ≤ k) ∧ (Value.slice Ad7 (j + 1) cd7).ownBlock ≠ some k) (fun k hc _ => hown7 k hc.2 hc.1)
          have hrow : (rows ++ zeroR :: new) ++ new2 = rows ++ zeroR :: (new ++ new2) := by simp
          rw [hrow] at T8
          have Y8 : Blk (w7.setCell ⟨gx, 7, none⟩ (.slice Ad7 (j + 1) cd7)) gx 135 #[.int .i64 k, .bool o, .slice An ns.length cn, .slice (some ⟨ub, off, none⟩) its.length ci, .int .i64 sz, .slice Ae ex.length ce, .string tg, .slice Ad7 (j + 1) cd7] := by
            have := Y7.out.set_ 7 (.slice Ad7 (j + 1) cd7)
            simpa using this
          have hn7 : some gx ≠ (Value.slice Ad7 (j + 1) cd7).ownBlock := row_ne HO7.out Y7.out (by decide)
          have I8 : (w7.setCell ⟨gx, 7, none⟩ (.slice Ad7 (j + 1) cd7)).ownsRow g 3 1 (.slice Ad7 (j + 1) cd7) (j + 1) ((T.idsL (rows.length + 1) (its.take (j + 1))).map fun n : Nat => Value.int .i64 (n : Int)) := by
            rw [HIT.out, List.map_append, ← HL2.out]
            exact row_keep HO7.out ((Keep.refl (fun k => k = gx) w7).setCell (p := ⟨gx, 7, none⟩) (fun _ => rfl) _) (fun k hk e => hn7 (by rw [hk, e]))
          have K8 : Keep (AddS b A) w (w7.setCell ⟨gx, 7, none⟩ (.slice Ad7 (j + 1) cd7)) := by
            have k1 : Keep (fun k => AddS b A k ∨ g ≤ k) w w5.drew := (K5.out.mono (fun k _ h => .inl h)).drew
            have k2 : Keep (fun k => AddS b A k ∨ g ≤ k) w5.drew w6 := K6.out.mono (fun k _ h => by
              rcases h with h | h
              · exact .inl (.inl h)
              · rcases HD.out.1 k h with h | h
                · exact .inl (.inr h)
                · exact .inr h)
            have k3 := hkk.mono (S' := fun k => AddS b A k ∨ g ≤ k) (fun k _ h => by
              rcases h with h | h
              · rw [h]; exact .inr G4.out
              · exact .inr (row_base I6.out k h.symm))
            exact ((k1.trans k2).trans k3).mono (fun k hk h => by
              rcases h with h | h
              · exact h
              · have := HGX.out; omega)
          have X6 := X5.out.drew.keep K6.out (by
            rintro (h | h)
            · exact hgbb h
            · exact GE.out g h rfl)
          have X8 := X6.keep hkk (by
            rintro (h | h)
            · exact X6.ne_ Y6.out (by decide) h
            · exact absurd ((hidl g h).2.one X6.isT) (by decide))
          refine ⟨⟨j + 1, A3, c3, new ++ new2, Ad7, cd7, by omega, by go_num, ?_, T8, Y8, I8, K8, X8, ⟨fun k hk => (hA3 k hk).1, fun k hk => (hA3 k hk).2, Y8.lt⟩⟩, by simp [intOf]; omega⟩
          rw [List.map_append, HN.out, HM6.out, HRT.out, HL2.out]
      · obtain rfl : j = its.length := by omega
        have C38 : Av (∀ W, Bel wr W → Calls Tryd.prog 38 #[.slice An ns.length cn] W (CloneP 9 1 ns.length (ns.map Value.string) W)) := ⟨fun W hW => clone9 B W An ns.length cn _ (HJ.out.grow hW).names (one_str ns) (by omega)⟩
        have C96 : Av (∀ W, Bel wr W → Calls Tryd.prog 96 #[.slice Ae ex.length ce] W (CloneP 107 2 ex.length (iCells ex) W)) := ⟨fun W hW => clone107 B W Ae ex.length ce _ (HJ.out.grow hW).exts (one_ext ex) (by omega)⟩
        have c2' := XJ.out.cell 2; have c5 := XJ.out.cell 5
        have lx := XJ.out.lt
        simp at c2' c5
        go_upto_region 9 with (fail)
        go_cut [44] (fun s44 wx => ∃ (An' : Option Addr) (cn' : Nat) (Ae' : Option Addr) (ce' : Nat), s44 = .slice An' ns.length cn' ∧ Blk wx gx 135 #[.int .i64 k, .bool o, .slice An' ns.length cn', .slice none 0 0, .int .i64 sz, .slice Ae' ex.length ce', .string tg, .slice Ad its.length cd] ∧
          Sl (IsT wx 9) wx 1 (.slice An' ns.length cn') ns.length (ns.map Value.string) ∧ Keep (fun k => k = gx) wr wx)
        case first =>
          go_region_with (first
            | (go_at_call 96
               refine (C96.out _ HBa.out).mono ?_
               rintro e wb ⟨Ae', ce', rfl, hrb, hbb⟩
               have HBb : Av (Bel wa wb) := ⟨hbb⟩
               have Yb := Av.mk (Ya.out.keep (Keep.of_below (S := fun _ => False) hbb) (by simp))
               have f2 := Yb.out.frozen 2
               have f3 := Yb.out.frozen 3
               have f5 := Yb.out.frozen 5
               have y2 := Yb.out.cell 2
               have y3 := Yb.out.cell 3
               have y5 := Yb.out.cell 5
               have ly := Yb.out.lt
               simp at y2 y3 y5
               clear hrb hbb)
            | (go_at_call 38
               refine (C38.out _ (bel_drew _)).mono ?_
               rintro e wa ⟨An', cn', rfl, hra, hba⟩
               have HBa : Av (Bel wr wa) := ⟨below_then (bel_drew wr) (Below.size (bel_drew wr)) hba⟩
               have Ya := Av.mk (YJ.out.drew.keep (Keep.of_below (S := fun _ => False) hba) (by simp))
               have Xa := Av.mk (XJ.out.drew.keep (Keep.of_below (S := fun _ => False) hba) (by simp))
               have Ra := Av.mk hra
               have c5a := Xa.out.cell 5
               have lxa := Xa.out.lt
               simp at c5a
               clear hra hba))
          all_goals
            go_wp2_with fail
            go_meet
            have kw : Keep (fun k => k = gx) wb (((wb.setCell ⟨gx, 3, none⟩ (.slice none 0 0)).setCell ⟨gx, 2, none⟩ (.slice An' ns.length cn')).setCell ⟨gx, 5, none⟩ (.slice Ae' ex.length ce')) :=
              (((Keep.refl (fun k => k = gx) wb).setCell (p := ⟨gx, 3, none⟩) (fun _ => rfl) _).setCell (p := ⟨gx, 2, none⟩) (fun _ => rfl) _).setCell (p := ⟨gx, 5, none⟩) (fun _ => rfl) _
            have hbl : Blk (((wb.setCell ⟨gx, 3, none⟩ (.slice none 0 0)).setCell ⟨gx, 2, none⟩ (.slice An' ns.length cn')).setCell ⟨gx, 5, none⟩ (.slice Ae' ex.length ce')) gx 135 #[.int .i64 k, .bool o, .slice An' ns.length cn', .slice none 0 0, .int .i64 sz, .slice Ae' ex.length ce', .string tg, .slice Ad its.length cd] := by
              have := ((Yb.out.set_ 3 (.slice none 0 0)).set_ 2 (.slice An' ns.length cn')).set_ 5 (.slice Ae' ex.length ce')
              simpa using this
            have hsl : Sl (IsT wa 9) wa 1 (.slice An' ns.length cn') ns.length (ns.map Value.string) := Sl.of_row Ra.out (fun k hk => row_isT Ra.out k hk)
            exact ⟨An', cn', Ae', ce', rfl, hbl, (hsl.keepT (Keep.of_below (S := fun _ => False) HBb.out) (fun _ _ => id)).keepT kw (fun k hk e => by rw [e] at hk; exact absurd (hk.one Yb.out.isT) (by decide)), ((Keep.of_below (S := fun k => k = gx) HBa.out).trans (Keep.of_below HBb.out)).trans kw⟩
        case rest =>
          obtain ⟨An', cn', Ae', ce', rfl, hy, hsl, hkw⟩ := hcut
          obtain ⟨w5, rfl⟩ : ∃ w5, w5 = wc := ⟨_, rfl⟩
          have Y5 := Av.mk hy
          have S5 := Av.mk hsl
          have KW := Av.mk hkw
          have hidl : ∀ k, (Value.slice Ad its.length cd).ownBlock = some k → IsT wr 3 k := fun k hk => row_isT IJ.out k hk
          have hgT : IsT wr 135 gx := YJ.out.isT
          have T5 := Av.mk (TJ.out.keep (S := fun k => k = gx) hkw (fun h => YJ.out.ne_ TJ.out.blk (by decide) h.symm) (fun k hk h => HD.out.2.1 k hk h) (fun k hk h => by rw [h] at hk; exact absurd (hk.one hgT) (by decide)) (fun k hk _ h => by rw [h] at hk; exact absurd (hk.one hgT) (by decide)))
          have I5 := Av.mk (row_keep IJ.out hkw (fun k hk h => by
            have h1 := hidl k hk
            rw [h] at h1
            exact absurd (h1.one hgT) (by decide)))
          have K5 : Av (Keep (AddS b A) w w5) := ⟨((KJ.out.mono (S' := fun k => AddS b A k ∨ g ≤ k) (fun k _ h => .inl h)).trans (hkw.mono (S' := fun k => AddS b A k ∨ g ≤ k) (fun k _ h => by rw [h]; exact .inr G4.out))).mono (fun k hk h => h.elim id (fun h => by have := HGX.out; omega))⟩
          clear hy hsl hkw TJ IJ KJ XJ HJ C38 C96 c2' c5 lx YJ
          obtain ⟨r, rfl⟩ : ∃ r, A2 = some ⟨r, 0, none⟩ := by
            rcases T5.out.row.2 with ⟨hv, _⟩ | ⟨r, cap, cur, hv, _⟩
            · simp at hv
            · simp only [Value.slice.injEq] at hv
              exact ⟨r, hv.1⟩
          have hrb : oB (some ⟨r, 0, none⟩) r := ⟨0, 0, rfl⟩
          have hrT : IsT w5 135 r := (T5.out.own hrb).1
          have HRB := Av.mk (And.intro hrb hrT)
          obtain ⟨n0, hn0⟩ : ∃ n0, (rows ++ zeroR :: new).length = n0 := ⟨_, rfl⟩
          have hrn : rows.length < n0 := by rw [← hn0]; simp
          have tb := T5.out.blk
          have trow := T5.out.row
          rw [hn0] at tb trow
          have TB := Av.mk tb
          have TR := Av.mk trow
          have hfit : rows.length * 8 + 8 ≤ n0 * 8 := by omega
          have hone : ∀ v ∈ ([.int .i64 k, .bool o, .slice An' ns.length cn', .slice none 0 0, .int .i64 sz, .slice Ae' ex.length ce', .string tg, .slice Ad its.length cd] : List Value), v.oneCell' = true := by
            intro v hv
            simp only [List.mem_cons, List.not_mem_nil, or_false] at hv
            rcases hv with rfl | rfl | rfl | rfl | rfl | rfl | rfl | rfl <;> rfl
          have HONE := Av.mk hone
          have t0 := TB.out.cell 0
          have lb := TB.out.lt
          have y0 := Y5.out.cell 0; have y1 := Y5.out.cell 1; have y2 := Y5.out.cell 2; have y3 := Y5.out.cell 3; have y4 := Y5.out.cell 4; have y5 := Y5.out.cell 5; have y6 := Y5.out.cell 6; have y7 := Y5.out.cell 7
          have ly := Y5.out.lt
          simp at t0 y0 y1 y2 y3 y4 y5 y6 y7
          have HN0 := Av.mk hn0
          clear tb trow hn0 hrT hrb hone
          go_upto_region 10 with (fail)
          refine wp_tail 7 (by kernel_rfl) (by kernel_rfl) ?_
          simp only [List.take_succ_cons, List.take_zero, List.drop_succ_cons, List.drop_zero]
          repeat (refine wpStill_step (fun K hK => ?_); go_simp; refine hK _ ?_; clear hK K)
          refine wpStill_nil ?_
          go_wp2_with (first | (refine wpList_lay rfl 135 (.tmp 60) (.tmp 59) rfl base r n0 c2 (rows.length * 8) 135 8 ((rows ++ zeroR :: new).flatMap inoC) #[.int .i64 k, .bool o, .slice An' ns.length cn', .slice none 0 0, .int .i64 sz, .slice Ae' ex.length ce', .string tg, .slice Ad its.length cd] rfl rfl (by kernel_rfl) TR.out hfit HONE.out ?_; intro w6 ho6 hk6; have HO6 := Av.mk ho6; have HK6 := Av.mk hk6; clear ho6 hk6))
          go_ret
          have hnew0 := HN.out
          rw [List.take_length] at hnew0
          have hrow : (rows ++ (⟨.slice An' ns.length cn', .slice Ae' ex.length ce', .slice Ad its.length cd⟩, ⟨k, o, ns, sz, tg, T.idsL (rows.length + 1) its⟩) :: new).length = n0 := by rw [← HN0.out]; simp
          have hk56 : Keep (fun k => k = r) w5 w6 := ⟨HK6.out.os, HK6.out.tape, HK6.out.output, HK6.out.size, HK6.out.block⟩
          have nr : ∀ e, e ≠ 135 → ∀ k, IsT w5 e k → ¬ k = r := fun e he k hk h => by rw [h] at hk; exact he (hk.one HRB.out.2)
          have hrW := HGX.out
          refine ⟨some ⟨r, 0, none⟩, c2, (⟨.slice An' ns.length cn', .slice Ae' ex.length ce', .slice Ad its.length cd⟩, ⟨k, o, ns, sz, tg, T.idsL (rows.length + 1) its⟩) :: new, rfl, ?_, ⟨?_, ?_, fun x hx => ?_⟩, ?_, fun k hk => ?_⟩
          · rw [List.map_cons, hnew0]; rfl
          · rw [hrow]
            exact TB.out.keep hk56 (fun h => nr 110 (by decide) b TB.out.isT h)
          · have h1 := HO6.out
            rw [hrow, ← rows_fill rows new zeroR]
            exact h1
          · rw [hrW]
            have hold : ∀ x ∈ rows ++ zeroR :: new, RowAt (fun k => C k ∨ g ≤ k) w6 x := fun x hx => ((T5.out.ats x hx).keep hk56 (nr 9 (by decide)) (fun k h _ => nr 3 (by decide) k h)).mono (fun k hc _ => hc.1)
            rcases List.mem_append.1 hx with hx | hx
            · exact hold x (List.mem_append.2 (.inl hx))
            · rcases List.mem_cons.1 hx with rfl | hx
              · refine ⟨S5.out.keepT hk56 (nr 9 (by decide)), ?_, ⟨_, _, _, rfl⟩⟩
                have h1 : Sl (fun k => IsT w5 3 k ∧ (C k ∨ g ≤ k)) w5 1 (.slice Ad its.length cd) its.length ((T.idsL (rows.length + 1) (its.take its.length)).map fun n : Nat => Value.int .i64 (n : Int)) :=
                  Sl.of_row I5.out (fun k hk => ⟨row_isT I5.out k hk, .inr (row_base I5.out k hk.symm)⟩)
                rw [List.take_length] at h1
                have h2 := h1.keepC hk56 (fun k h _ => nr 3 (by decide) k h)
                simp only [T.idsL_len]
                exact h2
              · exact hold x (List.mem_append.2 (.inr (List.mem_cons_of_mem _ hx)))
          · exact ((K5.out.mono (S' := fun k => AddS b A k ∨ g ≤ k) (fun k _ h => .inl h)).trans (hk56.mono (S' := fun k => AddS b A k ∨ g ≤ k) (fun k _ h => by
              rw [h]
              rcases HD.out.1 r HRB.out.1 with h | h
              · exact .inl (.inr h)
              · exact .inr h))).mono (fun k hk h => h.elim id (fun h => by omega))
          · rw [hrW]; exact HD.out.1 k hk
end Go.Proofs.YtkmojgdjapfbbaaDoor
