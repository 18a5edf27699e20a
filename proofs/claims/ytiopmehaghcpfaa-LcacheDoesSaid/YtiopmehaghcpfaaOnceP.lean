/- entries, the closure of LcacheOnce, socagelaw16.speaks. Printed by mac.py from OnceP.src. -/
import Derived.Test.YtiopmehaghcpfaaLcL2
import Derived.Test.YtiopmehaghcpfaaKeepsW
import Derived.StringKeys
namespace Go.Proofs.Ytiopmehaghcpfaa.L
open Go.Proofs.Ytiopmehaghcpfaa
open Go.RowKit Go.Maps
set_option linter.unusedSimpArgs false
set_option linter.unusedVariables false
attribute [local go_sem ↓] run_max_int run_min_int

abbrev abcd : ByteArray := ⟨#[97, 98, 99, 100]⟩
def csN (d : Int) (j : Nat) : List Value := [.string (abcd.extract j (j + 1)), .int .i64 d]
/-- The cells of so many entries. -/
def entC (d : Int) (m : Nat) : List Value := (List.range m).flatMap (csN d)
theorem entC_succ (d : Int) (m : Nat) : entC d (m + 1) = entC d m ++ csN d m := by unfold entC; rw [List.range_succ, List.flatMap_append]; simp
theorem one_N (d : Int) (m : Nat) : ∀ v ∈ entC d m, v.oneCell' = true := by
  intro v hv
  obtain ⟨x, _, hx⟩ := List.mem_flatMap.1 hv
  simp [csN] at hx
  rcases hx with rfl | rfl <;> rfl
theorem keep_grown {w w' : World} {o : Obj} {row : Option Nat} (h : (w.alloc o).grownBy w' row) : Keep (fun i => some i = row) w w' := ((Keep.refl _ w).alloc o).grown h (fun _ hk _ => hk.symm)
def EntsIs (d : Int) (m : Nat) (w : World) (e : Ending) (w' : World) : Prop :=
  ∃ A c, e = .returned (.slice A m c) ∧ w'.ownsRow w.heap.size 83 2 (.slice A m c) m (entC d m) ∧ Below w.heap.size w w'

set_option maxRecDepth 100000 in
set_option maxHeartbeats 4000000 in
theorem entries_calls (d : Int) (h0 : 0 ≤ d) (h1 : d ≤ 255) (m : Nat) (hm : d % 5 = (m : Int)) (w : World) : Calls Try.prog 50 #[.int .u8 d] w (EntsIs d m w) := by
  obtain ⟨i0, hi0⟩ := info83
  have I := Av.mk hi0
  have hm4 : m ≤ 4 := by omega
  have ht : Int.tmod d 5 = (m : Int) := by rw [Int.tmod_eq_emod_of_nonneg h0, hm]
  have hc : IntKind.i64.wrap d = d := wrapI (by omega) (by omega)
  clear hi0 hm
  go_enter Try.func50, Try.ntmps50
  go_wp2_with fail
  go_loopw [3, 8] (fun v i wr => ∃ (j : Nat), j ≤ m ∧ i = .int .i64 j ∧ wr.ownsRow w.heap.size 83 2 v j (entC d j) ∧ Below w.heap.size w wr) (fun _ i _ => m - (intOf i).toNat)
  case atStart => exact ⟨0, Nat.zero_le _, rfl, ⟨rfl, .inl ⟨rfl, rfl⟩⟩, Below.refl _ _⟩
  case round =>
    obtain ⟨j, hj, rfl, hr, hb⟩ := hrel
    have HR := Av.mk hr
    have HB := Av.mk hb
    obtain ⟨AL, cl, rfl⟩ := own_slice hr
    clear hr hb
    have hsz := HB.out.size
    by_cases hlt : j < m
    · have hj4 : j = 0 ∨ j = 1 ∨ j = 2 ∨ j = 3 := by omega
      have hN : csN d j = [.string (abcd.extract j (j + 1)), .int .i64 d] := rfl
      have HE := Av.mk (entC_succ d j)
      rcases hj4 with rfl | rfl | rfl | rfl
      · go_wp2_with (first | (at_builtin; refine wpList_app rfl _ _ 79 rfl w.heap.size 83 i0 (.agg #[.string (⟨#[]⟩ : ByteArray), .int .i64 0]) 2 24 Try.underlying79 I.out.1 I.out.2.1 I.out.2.2.1 I.out.2.2.2 rfl (by decide) (.slice AL _ cl) _ _ rfl (row_keep HR.out ((Keep.refl (fun _ => False) wr).alloc _) (by simp)) ⟨wr.heap.size, 0, none⟩ 1 1 (csN d _) rfl rfl (new_cells wr (csN d _) 83) (by intro v hv; simp [csN] at hv; rcases hv with rfl | rfl <;> rfl) (by unfold maxLen; omega) (by omega) (by simp; omega) ?_; intro A2 c2 w6 hown2 hgrow2 hloc2; have HO := Av.mk hown2; have HG := Av.mk hgrow2; clear hown2 hgrow2 hloc2))
        have HK6 := keep_grown HG.out
        have HB6 := below_keep HB.out hsz HK6 (fun i e => row_base HR.out i e)
        refine ⟨⟨1, ?_, rfl, by rw [HE.out]; exact HO.out, HB6⟩, ?_⟩
        · omega
        · simp [intOf]; omega
      · go_wp2_with (first | (at_builtin; refine wpList_app rfl _ _ 79 rfl w.heap.size 83 i0 (.agg #[.string (⟨#[]⟩ : ByteArray), .int .i64 0]) 2 24 Try.underlying79 I.out.1 I.out.2.1 I.out.2.2.1 I.out.2.2.2 rfl (by decide) (.slice AL _ cl) _ _ rfl (row_keep HR.out ((Keep.refl (fun _ => False) wr).alloc _) (by simp)) ⟨wr.heap.size, 0, none⟩ 1 1 (csN d _) rfl rfl (new_cells wr (csN d _) 83) (by intro v hv; simp [csN] at hv; rcases hv with rfl | rfl <;> rfl) (by unfold maxLen; omega) (by omega) (by simp; omega) ?_; intro A2 c2 w6 hown2 hgrow2 hloc2; have HO := Av.mk hown2; have HG := Av.mk hgrow2; clear hown2 hgrow2 hloc2))
        have HK6 := keep_grown HG.out
        have HB6 := below_keep HB.out hsz HK6 (fun i e => row_base HR.out i e)
        refine ⟨⟨2, ?_, rfl, by rw [HE.out]; exact HO.out, HB6⟩, ?_⟩
        · omega
        · simp [intOf]; omega
      · go_wp2_with (first | (at_builtin; refine wpList_app rfl _ _ 79 rfl w.heap.size 83 i0 (.agg #[.string (⟨#[]⟩ : ByteArray), .int .i64 0]) 2 24 Try.underlying79 I.out.1 I.out.2.1 I.out.2.2.1 I.out.2.2.2 rfl (by decide) (.slice AL _ cl) _ _ rfl (row_keep HR.out ((Keep.refl (fun _ => False) wr).alloc _) (by simp)) ⟨wr.heap.size, 0, none⟩ 1 1 (csN d _) rfl rfl (new_cells wr (csN d _) 83) (by intro v hv; simp [csN] at hv; rcases hv with rfl | rfl <;> rfl) (by unfold maxLen; omega) (by omega) (by simp; omega) ?_; intro A2 c2 w6 hown2 hgrow2 hloc2; have HO := Av.mk hown2; have HG := Av.mk hgrow2; clear hown2 hgrow2 hloc2))
        have HK6 := keep_grown HG.out
        have HB6 := below_keep HB.out hsz HK6 (fun i e => row_base HR.out i e)
        refine ⟨⟨3, ?_, rfl, by rw [HE.out]; exact HO.out, HB6⟩, ?_⟩
        · omega
        · simp [intOf]; omega
      · go_wp2_with (first | (at_builtin; refine wpList_app rfl _ _ 79 rfl w.heap.size 83 i0 (.agg #[.string (⟨#[]⟩ : ByteArray), .int .i64 0]) 2 24 Try.underlying79 I.out.1 I.out.2.1 I.out.2.2.1 I.out.2.2.2 rfl (by decide) (.slice AL _ cl) _ _ rfl (row_keep HR.out ((Keep.refl (fun _ => False) wr).alloc _) (by simp)) ⟨wr.heap.size, 0, none⟩ 1 1 (csN d _) rfl rfl (new_cells wr (csN d _) 83) (by intro v hv; simp [csN] at hv; rcases hv with rfl | rfl <;> rfl) (by unfold maxLen; omega) (by omega) (by simp; omega) ?_; intro A2 c2 w6 hown2 hgrow2 hloc2; have HO := Av.mk hown2; have HG := Av.mk hgrow2; clear hown2 hgrow2 hloc2))
        have HK6 := keep_grown HG.out
        have HB6 := below_keep HB.out hsz HK6 (fun i e => row_base HR.out i e)
        refine ⟨⟨4, ?_, rfl, by rw [HE.out]; exact HO.out, HB6⟩, ?_⟩
        · omega
        · simp [intOf]; omega
    · obtain rfl : j = m := by omega
      go_wp2
      go_ret
      exact ⟨AL, cl, rfl, HR.out, HB.out⟩

/-! ### A map of strings to integers. -/
theorem law9 : Keyed Try.prog 9 := string_keyed Try.underlying9
def keyS (s : ByteArray) : Lit := .string s.data.toList
theorem key9 {s : ByteArray} (hs : s.size ≤ 3000) : keyOf Try.prog 9 (.string s) = some (keyS s) := Go.WideMaps.keyOf_string_mk Try.underlying9 (by unfold maxLen; omega)
theorem keyS_inj {a b : ByteArray} : keyS a = keyS b ↔ a = b := by
  unfold keyS
  constructor
  · intro h
    cases a; cases b
    simpa using h
  · rintro rfl; rfl
theorem isKey_S (s : ByteArray) : WideAt.IsKeyLit (keyS s) := by unfold keyS; first | trivial | exact .string _ | simp [WideAt.IsKeyLit]
/-- The law's map behind a pointer: the variable's block, and the map. -/
structure Mst (w : World) (gm bm : Nat) (D : DataW Int) : Prop where
  blk : Blk w gm 94 #[.map (some bm)]
  map : w.ownsMap Try.prog 9 (rdr decI) bm (Maps.size D) D
theorem Mst.keep {w w' : World} {gm bm : Nat} {D : DataW Int} {S : Nat → Prop} (h : Mst w gm bm D) (hk : Keep S w w') (h1 : ¬ S gm) (h2 : ¬ S bm) : Mst w' gm bm D := ⟨h.blk.keep hk h1, ownsMap_keep h.map hk h2⟩
theorem Mst.below {w w' : World} {gm bm : Nat} {D : DataW Int} (h : Mst w gm bm D) (hb : Below w.heap.size w w') : Mst w' gm bm D := h.keep (S := fun _ => False) (Keep.of_below hb) (by simp) (by simp)
theorem map_ne_row2 {P : Program} {k : TypeId} {R : Value → Option (DataW Int × List MemPlace)} {w : World} {b n : Nat} {D : DataW Int} {base e size m : Nat} {v : Value} {xs : List Value}
    (h : w.ownsMap P k R b n D) (hr : w.ownsRow base e size v m xs) : some b ≠ v.ownBlock := fun e' => map_ne_row h hr b e'.symm rfl
/-- What a call of the cache leaves of the map. -/
theorem Mst.byC {w0 w w' : World} {g gs n : Nat} {r made : Int} {vs : Value} {G : Nat → Nat} {V : Nat → Value} {Ls : Nat → PL} {i gm bm : Nat} {D : DataW Int} (h : Mst w gm bm D) (hl : Lc w0 w g gs n r made vs G V Ls) (hi : i < n) (hk : KeepC g G V i w w') : Mst w' gm bm D := by
  refine h.keep hk ?_ ?_
  · rintro (e | e | e)
    · exact h.blk.ne_ hl.blk (by decide) e
    · exact h.blk.ne_ (hl.fam.lru i hi).blk (by decide) e
    · exact row_ne (hl.fam.lru i hi).row h.blk (by decide) e
  · rintro (e | e | e)
    · exact map_ne_blk h.map hl.blk e
    · exact map_ne_blk h.map (hl.fam.lru i hi).blk e
    · exact map_ne_row2 h.map (hl.fam.lru i hi).row e
/-- What a change of the map leaves of the cache. -/
theorem Lc.byM {w0 w w' : World} {g gs n : Nat} {r made : Int} {vs : Value} {G : Nat → Nat} {V : Nat → Value} {Ls : Nat → PL} {bm m : Nat} {D : DataW Int} (h : Lc w0 w g gs n r made vs G V Ls) (hm : w.ownsMap Try.prog 9 (rdr decI) bm m D) (hb : w0.heap.size ≤ bm) (hk : Keep (fun k => k = bm) w w') : Lc w0 w' g gs n r made vs G V Ls :=
  ⟨h.blk.keep hk (map_ne_blk hm h.blk).symm, h.sh.keep hk (map_ne_blk hm h.sh.blk).symm (fun i hi e => map_ne_row hm h.sh.row i hi e),
    h.fam.keep hk (fun i hi => (map_ne_blk hm (h.fam.lru i hi).blk).symm) (fun i k hi hk' e => map_ne_row hm (h.fam.lru i hi).row k hk' e), below_keep h.below h.below.size hk (fun k e => by rw [e]; exact hb), h.hg⟩

/-- What the closure of LcacheOnce leaves: the map has counted once more. -/
def QM (gm bm : Nat) (D : DataW Int) (S : World → Prop) (W W' : World) : Prop := Mst W' gm bm D ∧ Keep (fun k => k = bm) W W' ∧ S W'

set_option maxRecDepth 100000 in
set_option maxHeartbeats 4000000 in
theorem once_closure (w0 W : World) (g gs n : Nat) (r made : Int) (vs : Value) (G : Nat → Nat) (V : Nat → Value) (Ls : Nat → PL) (h : Lc w0 W g gs n r made vs G V Ls) (gm bm gd gb : Nat) (D : DataW Int) (hm : Mst W gm bm D) (hb : w0.heap.size ≤ bm) (dir : ByteArray) (hds : dir.size ≤ 1000) (d : Int) (h0 : 0 ≤ d) (h1 : d ≤ 255)
    (hd : Blk W gd 9 #[.string dir]) (hbk : Blk W gb 5 #[.int .u8 d]) (hsz : Maps.size D ≤ 1000) (hat : atK D (keyS dir) 0 = 0) (m : Nat) (hmm : d % 4 = (m : Int)) :
    Calls Try.prog 49 #[.pointer (some ⟨gm, 0, none⟩), .pointer (some ⟨gd, 0, none⟩), .pointer (some ⟨gb, 0, none⟩)] W (MakesIs w0 g gs n r made vs G V Ls m (entC (m : Int) m) (QM gm bm (D.put (keyS dir) (.held 1)) (fun W' => Lc w0 W' g gs n r made vs G V Ls)) W) := by
  have HL := Av.mk h
  have HM := Av.mk hm
  have HD := Av.mk hd
  have HB := Av.mk hbk
  have m0 := hm.blk.cell 0
  have d0 := hd.cell 0
  have b0 := hbk.cell 0
  have lm := hm.blk.lt
  have ld := hd.lt
  have lb := hbk.lt
  have hkey := Av.mk (key9 (s := dir) (by omega))
  have HAT := Av.mk hat
  have ht4 : Int.tmod d 4 = (m : Int) := by rw [Int.tmod_eq_emod_of_nonneg h0, hmm]
  have hm4 : m < 4 := by omega
  have hz : (zeroValue 3).run Try.prog W = .ok (.int .i64 0) W := by kernel_rfl
  have HZ := Av.mk hz
  simp at m0 d0 b0
  clear h hm hd hbk hat hz hmm
  go_enter Try.func49, Try.ntmps49
  go_wp2_with (first | (at_lookup; refine wpList_look1 decI (fun c => .int .i64 c) decI_inv rfl _ _ 94 rfl 9 3 law9 Try.underlying94 0 HZ.out rfl bm _ D rfl HM.out.map _ _ rfl hkey.out ?_; rw [HAT.out]) | (at_mapUpdate; refine wpList_store decI rfl _ _ _ 94 rfl 9 3 law9 Try.underlying94 bm _ D rfl HM.out.map (by unfold maxLen; omega) _ _ _ rfl rfl hkey.out 1 rfl ?_; intro w5 hown5 hturn5; have HO5 := Av.mk hown5; have HT5 := Av.mk hturn5; have K5 := Av.mk ((Keep.refl (fun k => k = bm) W).turned hturn5 (fun _ => rfl)); have HB5 := Av.mk (HB.out.keep K5.out (map_ne_blk HM.out.map HB.out).symm); have b5 := HB5.out.cell 0; have lb5 := HB5.out.lt; simp at b5; clear hown5 hturn5))
  have HL5 := Av.mk (HL.out.byM HM.out.map hb K5.out)
  have HM5 := Av.mk (show Mst w5 gm bm (D.put (keyS dir) (.held 1)) from ⟨HM.out.blk.keep K5.out (map_ne_blk HM.out.map HM.out.blk).symm, ownsMap_tight HO5.out⟩)
  refine (entries_calls (m : Int) (by omega) (by omega) m (by omega) w5).mono ?_
  rintro e w6 ⟨A, c, rfl, hr6, hb6⟩
  have HR6 := Av.mk hr6
  have HB6 := Av.mk hb6
  clear hr6 hb6
  go_wp2
  go_ret
  exact ⟨A, c, rfl, row_mono HR6.out K5.out.size, HL5.out.grow HB6.out, HM5.out.below HB6.out, K5.out.trans (Keep.of_below HB6.out), HL5.out.grow HB6.out⟩
end Go.Proofs.Ytiopmehaghcpfaa.L
