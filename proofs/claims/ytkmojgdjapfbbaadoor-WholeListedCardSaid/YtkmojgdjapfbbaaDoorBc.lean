/- branch: at, Kind, Opaque, Look, Names, Size, Target. -/
import Derived.Test.YtkmojgdjapfbbaaDoorBb
import Derived.Test.YtkmojgdjapfbbaaDoorOt
namespace Go.Proofs.YtkmojgdjapfbbaaDoor
open Go.RowKit Go.Maps
set_option linter.unusedSimpArgs false
set_option linter.unusedVariables false

def inoAt (xs : List Ino) (i : Nat) : Ino := xs[i]?.getD Ino.zero
def AtP (x : Ino) (w : World) (e : Ending) (w' : World) : Prop := ∃ nv ev iv, e = .returned (.agg #[.int .i64 x.kind, .bool x.opq, nv, .slice none 0 0, .int .i64 x.size, ev, .string x.target, iv]) ∧ RowAt (fun _ => True) w' (⟨nv, ev, iv⟩, x) ∧ Bel w w'
set_option maxRecDepth 100000 in
set_option maxHeartbeats 2000000 in
theorem at_calls {w : World} {b : Nat} {xs : List Ino} (h : BrAt w b xs) (i : Nat) : Calls Tryd.prog 70 #[.pointer (some ⟨b, 0, none⟩), .int .i64 i] w (AtP (inoAt xs i) w) := by
  obtain ⟨C, base, A, c, rows, hmap, ht⟩ := h
  replace ht := ht.grow (below_alloc (Below.refl _ w) (.cells #[.int .i64 0, .bool false, .slice none 0 0, .slice none 0 0, .int .i64 0, .slice none 0 0, .string ⟨#[]⟩, .slice none 0 0] 135))
  have X0 := Av.mk (Blk.new w 135 #[.int .i64 0, .bool false, .slice none 0 0, .slice none 0 0, .int .i64 0, .slice none 0 0, .string ⟨#[]⟩, .slice none 0 0])
  have lx := X0.out.lt
  have HB0 : Av (Bel w (w.alloc (.cells #[.int .i64 0, .bool false, .slice none 0 0, .slice none 0 0, .int .i64 0, .slice none 0 0, .string ⟨#[]⟩, .slice none 0 0] 135))) := ⟨below_alloc (Below.refl _ w) _⟩
  go_enter Tryd.func70, Tryd.ntmps70
  go_upto_region 1 with (fail)
  generalize w.alloc (.cells #[.int .i64 0, .bool false, .slice none 0 0, .slice none 0 0, .int .i64 0, .slice none 0 0, .string ⟨#[]⟩, .slice none 0 0] 135) = w1 at *
  generalize hg : w.heap.size = g at *
  have HG := Av.mk hg
  clear hg
  have t0 := ht.blk.cell 0
  have lb := ht.blk.lt
  simp at t0
  by_cases hlt : i < rows.length
  · obtain ⟨⟨⟨nv, ev, iv⟩, x⟩, hx⟩ : ∃ x, rows[i]? = some x := ⟨_, List.getElem?_eq_getElem hlt⟩
    have hxx : inoAt xs i = x := by unfold inoAt; rw [← hmap, List.getElem?_map, hx]; rfl
    replace hxx := Av.mk hxx
    have hrx := ht.ats _ (List.mem_of_getElem? hx)
    have hone := hrx.one
    have HRX := Av.mk hrx
    obtain ⟨r, off, rfl, _, hrl, hcc, -, hall⟩ := (Sl.of_row (B := fun _ => True) ht.row (fun _ _ => trivial)).elem (f := inoC) inoC_len (by omega) hx
    have d0 := hall 0 (by omega); have d1 := hall 1 (by omega); have d2 := hall 2 (by omega); have d3 := hall 3 (by omega); have d4 := hall 4 (by omega); have d5 := hall 5 (by omega); have d6 := hall 6 (by omega); have d7 := hall 7 (by omega)
    simp only [Nat.add_zero, inoC] at d0 d1 d2 d3 d4 d5 d6 d7
    simp at d0 d1 d2 d3 d4 d5 d6 d7
    simp only [inoC] at hone
    have HONE : Av (∀ v ∈ (#[.int .i64 x.kind, .bool x.opq, nv, .slice none 0 0, .int .i64 x.size, ev, .string x.target, iv] : Array Value).toList, v.oneCell' = true) := ⟨by simpa using hone⟩
    obtain ⟨n0, hn0⟩ : ∃ n0, rows.length = n0 := ⟨_, rfl⟩
    rw [hn0] at t0 hlt hcc
    clear ht hx hrx hone hall hn0 hmap
    go_wp2_with (first | (refine wpList_putB rfl 135 (.tmp 4) (.tmp 23) rfl g 135 _ _ rfl rfl (by kernel_rfl) X0.out rfl HONE.out ?_; intro w3 hb3 hk3; have HB3 := Av.mk hb3; have HK3 := Av.mk hk3; clear hb3 hk3))
    have e0 := HB3.out.cell 0; have e1 := HB3.out.cell 1; have e2 := HB3.out.cell 2; have e3 := HB3.out.cell 3; have e4 := HB3.out.cell 4; have e5 := HB3.out.cell 5; have e6 := HB3.out.cell 6; have e7 := HB3.out.cell 7
    simp at e0 e1 e2 e3 e4 e5 e6 e7
    have hB : Bel w w3 := Below.trans HB0.out (HK3.out.below (by have := HG.out; omega) (by rintro k rfl; have := HG.out; omega))
    refine bodyPost_ret (v := .agg #[.int .i64 x.kind, .bool x.opq, nv, .slice none 0 0, .int .i64 x.size, ev, .string x.target, iv]) (by simp [results, Tryd.results70, go_sem, e0, e1, e2, e3, e4, e5, e6, e7]) rfl ?_
    rw [hxx.out]
    exact ⟨nv, ev, iv, rfl, ((HRX.out.keep HK3.out (fun k hk e => by rw [e] at hk; exact absurd (hk.one X0.out.isT) (by decide)) (fun k hk _ e => by rw [e] at hk; exact absurd (hk.one X0.out.isT) (by decide)))).mono (fun _ _ _ => trivial), hB⟩
  · have hxx : inoAt xs i = Ino.zero := by unfold inoAt; rw [← hmap, List.getElem?_map, List.getElem?_eq_none (by omega)]; rfl
    replace hxx := Av.mk hxx
    obtain ⟨n0, hn0⟩ : ∃ n0, rows.length = n0 := ⟨_, rfl⟩
    rw [hn0] at t0 hlt
    clear ht hn0 hmap
    go_wp2_with (first | (refine wpList_putB rfl 135 (.tmp 4) (.tmp 16) rfl g 135 _ _ rfl rfl (by kernel_rfl) X0.out rfl (by simp [Value.oneCell']) ?_; intro w3 hb3 hk3; have HB3 := Av.mk hb3; have HK3 := Av.mk hk3; clear hb3 hk3))
    have e0 := HB3.out.cell 0; have e1 := HB3.out.cell 1; have e2 := HB3.out.cell 2; have e3 := HB3.out.cell 3; have e4 := HB3.out.cell 4; have e5 := HB3.out.cell 5; have e6 := HB3.out.cell 6; have e7 := HB3.out.cell 7
    simp at e0 e1 e2 e3 e4 e5 e6 e7
    have hB : Bel w w3 := Below.trans HB0.out (HK3.out.below (by have := HG.out; omega) (by rintro k rfl; have := HG.out; omega))
    refine bodyPost_ret (v := .agg #[.int .i64 0, .bool false, .slice none 0 0, .slice none 0 0, .int .i64 0, .slice none 0 0, .string ⟨#[]⟩, .slice none 0 0]) (by simp [results, Tryd.results70, go_sem, e0, e1, e2, e3, e4, e5, e6, e7, Ino.zero]) rfl ?_
    rw [hxx.out]
    exact ⟨_, _, _, rfl, zeroR_at _ _, hB⟩
theorem fld135 (a0 a1 a2 a3 a4 a5 a6 a7 : Value) (w : World) : (Instr.field 135 (.agg #[a0, a1, a2, a3, a4, a5, a6, a7]) 0).run Tryd.prog w = .ok (.agg #[a0, a1, a2, a3, a4, a5, a6]) w := by kernel_rfl
theorem fld33_0 (a0 a1 a2 a3 a4 a5 a6 : Value) (w : World) : (Instr.field 33 (.agg #[a0, a1, a2, a3, a4, a5, a6]) 0).run Tryd.prog w = .ok a0 w := by kernel_rfl
theorem fld33_1 (a0 a1 a2 a3 a4 a5 a6 : Value) (w : World) : (Instr.field 33 (.agg #[a0, a1, a2, a3, a4, a5, a6]) 1).run Tryd.prog w = .ok a1 w := by kernel_rfl
theorem fld33_2 (a0 a1 a2 a3 a4 a5 a6 : Value) (w : World) : (Instr.field 33 (.agg #[a0, a1, a2, a3, a4, a5, a6]) 2).run Tryd.prog w = .ok a2 w := by kernel_rfl
theorem fld33_4 (a0 a1 a2 a3 a4 a5 a6 : Value) (w : World) : (Instr.field 33 (.agg #[a0, a1, a2, a3, a4, a5, a6]) 4).run Tryd.prog w = .ok a4 w := by kernel_rfl
theorem fld33_6 (a0 a1 a2 a3 a4 a5 a6 : Value) (w : World) : (Instr.field 33 (.agg #[a0, a1, a2, a3, a4, a5, a6]) 6).run Tryd.prog w = .ok a6 w := by kernel_rfl
attribute [local go_sem ↓] fld135 fld33_0 fld33_1 fld33_2 fld33_4 fld33_6
set_option maxRecDepth 100000 in
theorem kind_calls {w : World} {b : Nat} {xs : List Ino} (h : BrAt w b xs) (i : Nat) : Calls Tryd.prog 45 #[.pointer (some ⟨b, 0, none⟩), .int .i64 i] w (RetB (.int .i64 (inoAt xs i).kind) w) := by
  have HC := Av.mk (at_calls h i)
  clear h
  generalize inoAt xs i = x at *
  go_enter Tryd.func45, Tryd.ntmps45
  go_wp2_with fail
  refine HC.out.mono ?_
  rintro e w1 ⟨nv, ev, iv, rfl, _, hb⟩
  have HB := Av.mk hb
  clear hb
  go_wp2_with fail
  go_ret
  exact ⟨rfl, HB.out⟩
set_option maxRecDepth 100000 in
theorem opaque_calls {w : World} {b : Nat} {xs : List Ino} (h : BrAt w b xs) (i : Nat) : Calls Tryd.prog 46 #[.pointer (some ⟨b, 0, none⟩), .int .i64 i] w (RetB (.bool (inoAt xs i).opq) w) := by
  have HC := Av.mk (at_calls h i)
  clear h
  generalize inoAt xs i = x at *
  go_enter Tryd.func46, Tryd.ntmps46
  go_wp2_with fail
  refine HC.out.mono ?_
  rintro e w1 ⟨nv, ev, iv, rfl, _, hb⟩
  have HB := Av.mk hb
  clear hb
  go_wp2_with fail
  go_ret
  exact ⟨rfl, HB.out⟩
set_option maxRecDepth 100000 in
theorem size_calls {w : World} {b : Nat} {xs : List Ino} (h : BrAt w b xs) (i : Nat) : Calls Tryd.prog 55 #[.pointer (some ⟨b, 0, none⟩), .int .i64 i] w (RetB (.int .i64 (inoAt xs i).size) w) := by
  have HC := Av.mk (at_calls h i)
  clear h
  generalize inoAt xs i = x at *
  go_enter Tryd.func55, Tryd.ntmps55
  go_wp2_with fail
  refine HC.out.mono ?_
  rintro e w1 ⟨nv, ev, iv, rfl, _, hb⟩
  have HB := Av.mk hb
  clear hb
  go_wp2_with fail
  go_ret
  exact ⟨rfl, HB.out⟩
set_option maxRecDepth 100000 in
theorem target_calls {w : World} {b : Nat} {xs : List Ino} (h : BrAt w b xs) (i : Nat) : Calls Tryd.prog 56 #[.pointer (some ⟨b, 0, none⟩), .int .i64 i] w (RetB (.string (inoAt xs i).target) w) := by
  have HC := Av.mk (at_calls h i)
  clear h
  generalize inoAt xs i = x at *
  go_enter Tryd.func56, Tryd.ntmps56
  go_wp2_with fail
  refine HC.out.mono ?_
  rintro e w1 ⟨nv, ev, iv, rfl, _, hb⟩
  have HB := Av.mk hb
  clear hb
  go_wp2_with fail
  go_ret
  exact ⟨rfl, HB.out⟩
def NamesP (ns : List ByteArray) (w : World) (e : Ending) (w' : World) : Prop := ∃ A c, e = .returned (.slice A ns.length c) ∧ Sl (Lt w') w' 1 (.slice A ns.length c) ns.length (ns.map Value.string) ∧ Bel w w'
set_option maxRecDepth 100000 in
theorem bnames_calls {w : World} {b : Nat} {xs : List Ino} (h : BrAt w b xs) (i : Nat) (hl : (inoAt xs i).names.length ≤ 100000000) : Calls Tryd.prog 32 #[.pointer (some ⟨b, 0, none⟩), .int .i64 i] w (NamesP (inoAt xs i).names w) := by
  have HC := Av.mk (at_calls h i)
  clear h
  generalize inoAt xs i = x at *
  go_enter Tryd.func32, Tryd.ntmps32
  go_wp2_with fail
  refine HC.out.mono ?_
  rintro e w1 ⟨nv, ev, iv, rfl, hr, hb⟩
  have HB := Av.mk hb
  obtain ⟨A, c, hnv⟩ := hr.names.shape
  simp only at hnv
  subst hnv
  have HS := Av.mk (clone9 _ w1 A x.names.length c _ hr.names (one_str _) hl)
  clear hb hr
  go_wp2_with fail
  refine HS.out.mono ?_
  rintro e w2 ⟨A2, c2, rfl, hrow, hb2⟩
  have HB2 : Av (Bel w w2) := ⟨below_then HB.out (Below.size HB.out) hb2⟩
  have HR2 := Av.mk (Sl.of_row (B := Lt w2) hrow (fun k hk => row_lt hrow k hk.symm))
  clear hb2 hrow
  go_wp2_with fail
  go_ret
  exact ⟨A2, c2, rfl, HR2.out, HB2.out⟩
/-- A directory's entry. -/
def lookL : List ByteArray → List Nat → ByteArray → Option Nat
  | n :: ns, i :: is, s => if n = s then some i else lookL ns is s
  | _, _, _ => none
theorem lookL_none : ∀ (ns : List ByteArray) (is : List Nat) (s : ByteArray), s ∉ ns → lookL ns is s = none
  | [], is, s, _ => by cases is <;> rfl
  | n :: ns, [], s, _ => rfl
  | n :: ns, i :: is, s, h => by
    have h1 : n ≠ s := fun e => h (by simp [e])
    simp only [lookL, if_neg h1]
    exact lookL_none ns is s (fun e => h (by simp [e]))
theorem lookL_some : ∀ (ns : List ByteArray) (is : List Nat) (s : ByteArray) (j k : Nat), Rising ns → ns[j]? = some s → is[j]? = some k → lookL ns is s = some k
  | [], is, s, j, k, _, h, _ => by simp at h
  | n :: ns, [], s, j, k, _, _, h => by simp at h
  | n :: ns, i :: is, s, 0, k, _, h1, h2 => by
    simp at h1 h2
    simp [lookL, h1, h2]
  | n :: ns, i :: is, s, j + 1, k, hr, h1, h2 => by
    have hne : n ≠ s := fun e => by
      have h3 := hr 0 (j + 1) n s (by omega) rfl h1
      rw [e, ltS_irrefl] at h3
      cases h3
    simp only [lookL, if_neg hne]
    exact lookL_some ns is s j k (fun a b x y hab hx hy => hr (a + 1) (b + 1) x y (by omega) (by simpa using hx) (by simpa using hy)) (by simpa using h1) (by simpa using h2)
/-- What a table must be for its names to be asked. -/
def InoOk (x : Ino) : Prop := Rising x.names ∧ x.names.length = x.ids.length ∧ x.names.length ≤ 1000000
theorem InoOk.zero : InoOk Ino.zero := ⟨fun i j a b _ h => by simp [Ino.zero] at h, rfl, by simp [Ino.zero]⟩
def lookI (xs : List Ino) (i : Nat) (s : ByteArray) : Option Nat := lookL (inoAt xs i).names (inoAt xs i).ids s
def lookR (r : Option Nat) : Value := match r with
  | some k => .tuple #[.int .i64 (k : Int), .bool true]
  | none => .tuple #[.int .i64 0, .bool false]
set_option maxRecDepth 100000 in
set_option maxHeartbeats 2000000 in
theorem blook_calls {w : World} {b : Nat} {xs : List Ino} (h : BrAt w b xs) (i : Nat) (s : ByteArray) (hok : InoOk (inoAt xs i)) : Calls Tryd.prog 44 #[.pointer (some ⟨b, 0, none⟩), .int .i64 i, .string s] w (RetB (lookR (lookI xs i s)) w) := by
  have HC := Av.mk (at_calls h i)
  obtain ⟨R, hR⟩ : ∃ R, lookI xs i s = R := ⟨_, rfl⟩
  rw [hR]
  unfold lookI at hR
  have HR := Av.mk hR
  have HOK := Av.mk hok
  clear h hR hok
  generalize inoAt xs i = x at *
  go_enter Tryd.func44, Tryd.ntmps44
  go_wp2_with fail
  refine HC.out.mono ?_
  rintro e w1 ⟨nv, ev, iv, rfl, hr, hb⟩
  have HB := Av.mk hb
  obtain ⟨An, cn, hnv⟩ := hr.names.shape
  obtain ⟨Ai, ci, hiv⟩ := hr.ids.shape
  obtain ⟨Ae, ne, ce, hev⟩ := hr.exts
  simp only at hnv hiv hev
  subst hnv; subst hiv; subst hev
  have HRW := Av.mk hr
  clear hb hr
  go_upto_region 2 with (fail)
  have hba := below_alloc (Below.refl _ w1) (.cells #[.int .i64 x.kind, .bool x.opq, .slice An x.names.length cn, .slice none 0 0, .int .i64 x.size, .slice Ae ne ce, .string x.target, .slice Ai x.ids.length ci] 135)
  have HRW2 := Av.mk (HRW.out.grow hba)
  have HB2 : Av (Bel w (w1.alloc (.cells #[.int .i64 x.kind, .bool x.opq, .slice An x.names.length cn, .slice none 0 0, .int .i64 x.size, .slice Ae ne ce, .string x.target, .slice Ai x.ids.length ci] 135))) := ⟨below_then HB.out (Below.size HB.out) hba⟩
  have Y2 := Av.mk (Blk.new w1 135 #[.int .i64 x.kind, .bool x.opq, .slice An x.names.length cn, .slice none 0 0, .int .i64 x.size, .slice Ae ne ce, .string x.target, .slice Ai x.ids.length ci])
  clear hba HRW HB
  generalize w1.alloc (.cells #[.int .i64 x.kind, .bool x.opq, .slice An x.names.length cn, .slice none 0 0, .int .i64 x.size, .slice Ae ne ce, .string x.target, .slice Ai x.ids.length ci] 135) = w2 at *
  generalize w1.heap.size = g at *
  have y2 := Y2.out.cell 2; have y7 := Y2.out.cell 7
  have ly := Y2.out.lt
  simp at y2 y7
  have HS := Av.mk (Search_calls _ w2 An cn x.names s HRW2.out.names HOK.out.1 (by have := HOK.out.2.2; omega))
  go_wp2_with fail
  refine HS.out.mono ?_
  rintro e _ ⟨j, f, rfl, hf1, hf2, rfl⟩
  cases f
  case false =>
    have HF : Av (R = none) := ⟨by rw [← HR.out]; exact lookL_none _ _ _ (hf2 rfl)⟩
    clear hf1 hf2
    go_wp2_with fail
    go_ret2
    exact ⟨by rw [HF.out]; rfl, HB2.out⟩
  case true =>
    have hj := hf1 rfl
    have hjl := (List.getElem?_eq_some_iff.1 hj).1
    have hil : j < x.ids.length := by have := HOK.out.2.1; omega
    obtain ⟨k, hk⟩ : ∃ k, x.ids[j]? = some k := ⟨_, List.getElem?_eq_getElem hil⟩
    have HF : Av (R = some k) := ⟨by rw [← HR.out]; exact lookL_some _ _ _ j k HOK.out.1 hj hk⟩
    have hids := HRW2.out.ids
    simp only at hids
    obtain ⟨bi, oi, hai, hci, _, hbl, hcell⟩ := hids.at (by omega)
    subst hai
    have hcj := hcell j (by omega)
    rw [List.getElem?_map, hk] at hcj
    simp at hcj
    clear hf1 hf2 hj hk hids hcell
    go_wp2_with fail
    go_ret2
    exact ⟨by rw [HF.out]; rfl, HB2.out⟩
end Go.Proofs.YtkmojgdjapfbbaaDoor
