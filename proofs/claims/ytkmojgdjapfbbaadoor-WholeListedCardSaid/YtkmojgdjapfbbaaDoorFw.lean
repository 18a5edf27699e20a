/- WholeFiles: the walk. -/
import Derived.Test.YtkmojgdjapfbbaaDoorFp
import Derived.Test.YtkmojgdjapfbbaaDoorRd
import Derived.Deep.RegionHeld3
namespace Go.Proofs.YtkmojgdjapfbbaaDoor
open Go.RowKit Go.Maps
set_option linter.unusedSimpArgs false
set_option linter.unusedVariables false
attribute [local go_sem ↓] run_max_int run_min_int

theorem IsT.lt {w : World} {e : TypeId} {k : Nat} (h : IsT w e k) : k < w.heap.size := by
  obtain ⟨cs, h⟩ := h
  rcases Nat.lt_or_ge k w.heap.size with h' | h'
  · exact h'
  · rw [Array.getElem?_eq_none h'] at h; cases h
theorem new_cells (w : World) (cs : List Value) (t : TypeId) : ∀ j u, cs[j]? = some u → (w.alloc (.cells cs.toArray t)).cell? ((⟨w.heap.size, 0, none⟩ : Addr).add j) = some u := by
  intro j u h
  rw [Addr.add_lit, (Blk.new w t cs.toArray).cell]
  simpa using h
abbrev abS : ByteArray := ⟨#[97, 98]⟩
theorem ab_read {E : List Ext} (h : OfInv abS.data.toList abS.size E) : bytesOf E 1 (min 9 (2 - 1)) = [98] := by
  have h1 := bytesOf_all h (Nat.le_of_eq rfl)
  have h2 : bytesOf E 0 (1 + 1) = bytesOf E 0 1 ++ bytesOf E (0 + 1) 1 := bytesOf_add E 0 1 1
  have h3 : bytesOf E 0 (1 + 1) = [97, 98] := h1
  have h4 : (bytesOf E 0 1).length = 1 := bytesOf_len _ _ _
  rw [h3] at h2
  match hb : bytesOf E 0 1, h4 with
  | [x], _ =>
    rw [hb] at h2
    simp at h2
    exact h2.2.symm
/-- The files' part of a world. -/
structure FSt (w wr : World) (fs : List ByteArray) (i : Nat) (An : Option Addr) (cn : Nat) (Ai : Option Addr) (ci : Nat) (its : List T) (ps : List NV) : Prop where
  names : wr.ownsRow w.heap.size 9 1 (.slice An i cn) i ((letters i).map Value.string)
  items : wr.ownsRow w.heap.size 33 7 (.slice Ai i ci) i ((ps.zip its).flatMap pairC)
  below : Below w.heap.size w wr
  len : ps.length = i
  files : FilesT (fs.take i) its
  reps : ∀ (j : Nat) (q : NV) (u : T), ps[j]? = some q → its[j]? = some u → Rep (IsT wr 107) wr q u
theorem TextP.opened {s : ByteArray} {w : World} {e : Ending} {w' : World} (h : TextP s w e w') : ∃ (An : Option Addr) (cn : Nat) (Ai : Option Addr) (ci : Nat) (Ae : Option Addr) (ce : Nat) (E : List Ext),
    e = .returned (.agg #[.int .i64 1, .bool false, .slice An 0 cn, .slice Ai 0 ci, .int .i64 s.size, .slice Ae E.length ce, .string ⟨#[]⟩]) ∧ Rep (IsT w' 107) w' ⟨.slice An 0 cn, .slice Ai 0 ci, .slice Ae E.length ce⟩ (textT s E) ∧
    OfInv s.data.toList s.size E ∧ E.length ≤ s.size ∧ Below w.heap.size w w' := by
  obtain ⟨p, E, rfl, hr, hinv, hl, hb⟩ := h
  obtain ⟨An, cn, Ai, ci, Ae, ce, rfl⟩ := hr.parts
  simp only [textT, T.names, T.items, T.exts, List.length_map, List.length_nil] at hr
  exact ⟨An, cn, Ai, ci, Ae, ce, E, by simp [nodeV, nodeC, textT, T.kind, T.opq, T.names, T.items, T.size, T.exts, T.target], hr.mono (fun k hk => hk.2), hinv, hl, hb⟩
theorem DirP.opened {B : Nat → Prop} {ns : List ByteArray} {its : List T} {w : World} {e : Ending} {w' : World} (h : DirP B ns its w e w') : ∃ (An : Option Addr) (cn : Nat) (Ai : Option Addr) (ci : Nat) (Ae : Option Addr) (ce : Nat),
    e = .returned (.agg #[.int .i64 2, .bool false, .slice An ns.length cn, .slice Ai its.length ci, .int .i64 0, .slice Ae 0 ce, .string ⟨#[]⟩]) ∧ Rep (fun k => k < w'.heap.size) w' ⟨.slice An ns.length cn, .slice Ai its.length ci, .slice Ae 0 ce⟩ (dirT ns its) ∧
    Below w.heap.size w w' := by
  obtain ⟨p, rfl, hr, hb⟩ := h
  obtain ⟨An, cn, Ai, ci, Ae, ce, rfl⟩ := hr.parts
  have hr := hr.bound
  simp only [dirT, T.names, T.items, T.exts, List.length_nil] at hr
  exact ⟨An, cn, Ai, ci, Ae, ce, by simp [nodeV, nodeC, dirT, T.kind, T.opq, T.names, T.items, T.size, T.exts, T.target], hr.mono (fun k hk => hk.2), hb⟩
theorem Rep.exts' {B : Nat → Prop} {w : World} {s : ByteArray} {E : List Ext} {a b : Value} {A : Option Addr} {c : Nat} (h : Rep B w ⟨a, b, .slice A E.length c⟩ (textT s E)) : Sl (fun k => k < w.heap.size) w 2 (.slice A E.length c) E.length (exCells E) := by
  have h1 := h.bound.exts
  simp only [textT, T.exts, List.length_map] at h1
  rw [iCells_toI] at h1
  exact h1.mono (fun k hk => hk.2)
abbrev dirV (n : Nat) (An : Option Addr) (cn : Nat) (Ai : Option Addr) (ci : Nat) (Ae : Option Addr) (ce : Nat) : Value :=
  .agg #[.int .i64 2, .bool false, .slice An n cn, .slice Ai n ci, .int .i64 0, .slice Ae 0 ce, .string ⟨#[]⟩]
theorem dirV_eq {n : Nat} {ns : List ByteArray} {its : List T} {x y z : Value} : nodeV ⟨x, y, z⟩ (dirT ns its) = .agg #[.int .i64 2, .bool false, x, y, .int .i64 0, z, .string ⟨#[]⟩] := by
  simp [nodeV, nodeC, dirT, T.kind, T.opq, T.names, T.items, T.size, T.exts, T.target]
theorem dir_right {w : World} {fs : List ByteArray} {its : List T} {An Ai Ae : Option Addr} {cn ci ce : Nat} {g : Nat} (hg : g ≤ w.heap.size) (h : Rep (fun k => k < g) w ⟨.slice An fs.length cn, .slice Ai fs.length ci, .slice Ae 0 ce⟩ (dirT (letters fs.length) its)) (hf : FilesT fs its) (hn : fs.length ≤ 26) :
    Calls Tryd.prog 27 #[.agg #[.int .i64 2, .bool false, .slice An fs.length cn, .slice Ai fs.length ci, .int .i64 0, .slice Ae 0 ce, .string ⟨#[]⟩]] w (RetB (.bool true) w) := by
  have h1 := Right_calls h (fun k hk => Nat.lt_of_lt_of_le hk hg) (files_fit hf hn)
  rw [files_right hf hn, dirV_eq (n := 0)] at h1
  exact h1
theorem dir_count {w : World} {fs : List ByteArray} {its : List T} {An Ai Ae : Option Addr} {cn ci ce : Nat} {g : Nat} (h : Rep (fun k => k < g) w ⟨.slice An fs.length cn, .slice Ai fs.length ci, .slice Ae 0 ce⟩ (dirT (letters fs.length) its)) (hf : FilesT fs its) (hn : fs.length ≤ 26) :
    Calls Tryd.prog 23 #[.agg #[.int .i64 2, .bool false, .slice An fs.length cn, .slice Ai fs.length ci, .int .i64 0, .slice Ae 0 ce, .string ⟨#[]⟩]] w (RetB (.int .i64 ((fs.length : Int) + 1)) w) := by
  have h1 := count_calls (dirT (letters fs.length) its) (by rw [files_count hf]; omega) (fun k => k < g) w _ h
  rw [files_count hf, dirV_eq (n := 0)] at h1
  exact h1
theorem letters_inj {n i j : Nat} (hn : n ≤ 26) (hi : i < n) (h : (letters n)[j]? = some (letter i)) : j = i := by
  have hj := (List.getElem?_eq_some_iff.1 h).1
  rw [letters_len] at hj
  rw [letters_get hj] at h
  injection h with h
  rcases Nat.lt_trichotomy i j with hl | hl | hl
  · have h1 := letter_lt i j hl (by omega)
    rw [h, ltS_irrefl] at h1
    cases h1
  · exact hl.symm
  · have h1 := letter_lt j i hl (by omega)
    rw [h, ltS_irrefl] at h1
    cases h1
theorem Rep.exts2 {B : Nat → Prop} {w : World} {s : ByteArray} {E : List Ext} {a b : Value} {A : Option Addr} {c : Nat} (h : Rep B w ⟨a, b, .slice A E.length c⟩ (textT s E)) : Sl B w 2 (.slice A E.length c) E.length (exCells E) := by
  have h1 := h.exts
  simp only [textT, T.exts, List.length_map] at h1
  rw [iCells_toI] at h1
  exact h1
theorem seven {w : World} {g : Nat} {t : TypeId} {c0 c1 c2 c3 c4 c5 c6 : Value} (h : Blk w g t #[c0, c1, c2, c3, c4, c5, c6]) (v0 v1 v2 v3 v4 v5 v6 : Value) :
    Blk (((((((w.setCell ⟨g, 0, none⟩ v0).setCell ⟨g, 1, none⟩ v1).setCell ⟨g, 2, none⟩ v2).setCell ⟨g, 3, none⟩ v3).setCell ⟨g, 4, none⟩ v4).setCell ⟨g, 5, none⟩ v5).setCell ⟨g, 6, none⟩ v6) g t #[v0, v1, v2, v3, v4, v5, v6] ∧
    Keep (fun k => k = g) w (((((((w.setCell ⟨g, 0, none⟩ v0).setCell ⟨g, 1, none⟩ v1).setCell ⟨g, 2, none⟩ v2).setCell ⟨g, 3, none⟩ v3).setCell ⟨g, 4, none⟩ v4).setCell ⟨g, 5, none⟩ v5).setCell ⟨g, 6, none⟩ v6) :=
  ⟨by simpa using ((((((h.set_ 0 v0).set_ 1 v1).set_ 2 v2).set_ 3 v3).set_ 4 v4).set_ 5 v5).set_ 6 v6,
   (((((((Keep.refl (fun k => k = g) w).setCell (p := ⟨g, 0, none⟩) (fun _ => rfl) v0).setCell (p := ⟨g, 1, none⟩) (fun _ => rfl) v1).setCell (p := ⟨g, 2, none⟩) (fun _ => rfl) v2).setCell (p := ⟨g, 3, none⟩) (fun _ => rfl) v3).setCell (p := ⟨g, 4, none⟩) (fun _ => rfl) v4).setCell (p := ⟨g, 5, none⟩) (fun _ => rfl) v5).setCell (p := ⟨g, 6, none⟩) (fun _ => rfl) v6⟩
def FileP (g : Nat) (s : ByteArray) (w : World) (e : Ending) (w' : World) : Prop :=
  ∃ (An : Option Addr) (cn : Nat) (Ai : Option Addr) (ci : Nat) (Ae : Option Addr) (ce : Nat) (E : List Ext), e = .returned (.tuple #[.agg #[.int .i64 1, .bool false, .slice An 0 cn, .slice Ai 0 ci, .int .i64 s.size, .slice Ae E.length ce, .string ⟨#[]⟩], .bool true]) ∧
    Sl (fun k => k < g) w' 2 (.slice Ae E.length ce) E.length (exCells E) ∧ OfInv s.data.toList s.size E ∧ E.length ≤ s.size ∧ Below w.heap.size w w'
theorem find_file {w : World} {fs : List ByteArray} {its : List T} {An Ai Ae : Option Addr} {cn ci ce : Nat} {g : Nat} (h : Rep (fun k => k < g) w ⟨.slice An fs.length cn, .slice Ai fs.length ci, .slice Ae 0 ce⟩ (dirT (letters fs.length) its)) (hf : FilesT fs its) (hn : fs.length ≤ 26)
    {i : Nat} (hi : i < fs.length) {s : ByteArray} (hs : fs[i]? = some s) :
    Calls Tryd.prog 28 #[.agg #[.int .i64 2, .bool false, .slice An fs.length cn, .slice Ai fs.length ci, .int .i64 0, .slice Ae 0 ce, .string ⟨#[]⟩], .string (letter i)] w (FileP g s w) := by
  have h1 := Find_yes h (by simp only [dirT, T.names]; exact letters_rising _ hn) (by simp only [dirT, T.names, letters_len]; omega) (by simp only [dirT, T.names, T.items, letters_len, hf.1]) (letter i) (by simp only [dirT, T.names]; exact List.mem_of_getElem? (letters_get hi))
  rw [dirV_eq (n := 0)] at h1
  refine h1.mono ?_
  rintro e w' ⟨j, u, q, hj, hu, rfl, hr, hb⟩
  simp only [dirT, T.names, T.items] at hj hu
  obtain rfl := letters_inj hn hi hj
  obtain ⟨_, E, rfl, hinv, hl⟩ := hf.2 j s u hs hu
  obtain ⟨Bn, bn, Bi, bi, Be, be, rfl⟩ := hr.parts
  simp only [textT, T.names, T.items, T.exts, List.length_map, List.length_nil] at hr
  refine ⟨Bn, bn, Bi, bi, Be, be, E, by simp [nodeV, nodeC, textT, T.kind, T.opq, T.names, T.items, T.size, T.exts, T.target], ?_, hinv, hl, hb⟩
  exact Rep.exts2 hr
theorem row_letter {w : World} {base n c i : Nat} {A : Option Addr} (h : w.ownsRow base 9 1 (.slice A n c) n ((letters n).map Value.string)) (hi : i < n) :
    ∃ b off, A = some ⟨b, off, none⟩ ∧ b < w.heap.size ∧ n ≤ c ∧ w.cell? ⟨b, off + i, none⟩ = some (.string (letter i)) := by
  have h1 : Sl (fun _ => True) w 1 (.slice A (letters n).length c) (letters n).length ((letters n).map Value.string) := by rw [letters_len]; exact Sl.of_row h (fun _ _ => trivial)
  obtain ⟨b, off, rfl, _, hb, hc, h2, _⟩ := h1.str (letters_get hi)
  rw [letters_len] at hc
  exact ⟨b, off, rfl, hb, hc, h2⟩
theorem bel_drew (w : World) : Bel w w.drew := below_drewN (Below.refl _ w) 1
theorem bel_alloc_drew (w : World) (o : Obj) : Bel w (w.alloc o).drew := below_drewN (below_alloc (Below.refl _ w) o) 1
theorem cat_file {s : ByteArray} {E : List Ext} {k : Nat} (h : OfInv s.data.toList s.size E) (hk : k ≤ s.size) : (⟨(bytesOf E 0 k).toArray⟩ : ByteArray) ++ ⟨(bytesOf E k (s.size - k)).toArray⟩ = s := by
  have h1 := bytesOf_all h (by rw [Lib.size_eq]; exact Nat.le_refl _)
  have h2 := bytesOf_add E 0 k (s.size - k)
  rw [Nat.zero_add, show k + (s.size - k) = s.data.toList.length by rw [← Lib.size_eq]; omega, h1] at h2
  apply ByteArray.ext
  apply Array.ext'
  simp
  exact h2.symm
set_option maxRecDepth 100000 in
set_option maxHeartbeats 4000000 in
theorem Files_calls (fs : List ByteArray) (cut : Nat) (hcut : cut < 256) (A : Option Addr) (cA : Nat) (w : World) (h : Sl (fun k => k < w.heap.size) w 1 (.slice A fs.length cA) fs.length (fs.map Value.string)) :
    Calls Tryd.prog 5 #[.slice A fs.length cA, .int .u8 cut] w (RetB (.bool true) w) := by
  obtain ⟨i0, hi0⟩ := info9
  have I9 := Av.mk hi0
  clear hi0
  obtain ⟨i1, hi1⟩ := info33
  have I33 := Av.mk hi1
  clear hi1
  have H := Av.mk h
  clear h
  go_enter Tryd.func5, Tryd.ntmps5
  go_wp2_with fail
  refine (Text_calls abS w (by decide)).mono ?_
  intro e w1 ht
  obtain ⟨An, cn, Ai, ci, Ae, ce, E, rfl, hr, hinv, hl, hb⟩ := ht.opened
  have HEX := Av.mk hr.exts'
  have HI := Av.mk hinv
  have HL : Av (E.length ≤ 2) := ⟨hl⟩
  have HB := Av.mk hb
  clear hinv hl hb hr ht
  have e2 : (abS.size : Int) = 2 := rfl
  rw [e2]
  clear e2
  have X0 := Av.mk (Blk.new w1 33 #[.int .i64 0, .bool false, .slice none 0 0, .slice none 0 0, .int .i64 0, .slice none 0 0, .string ⟨#[]⟩])
  have hzz := HB.out.size
  go_wp2_with (first | (refine wpList_putB rfl 33 (.tmp 7) (.tmp 16) rfl w1.heap.size 33 _ _ rfl rfl (by kernel_rfl) X0.out rfl (by simp [Value.oneCell']) ?_; intro w2 hb2 hk2; have HB2 := Av.mk hb2; have HK2 := Av.mk hk2; clear hb2 hk2; have c4 := HB2.out.cell 4; have c5 := HB2.out.cell 5; have lx := HB2.out.lt; simp at c4 c5))
  have HB3 : Av (Below w.heap.size w w2) := ⟨(HB.out.alloc HB.out.size _).trans (HK2.out.below (by have := HB.out.size; simp; omega) (by rintro k rfl; exact HB.out.size))⟩
  have HEX2 := Av.mk ((HEX.out.grow (below_alloc (Below.refl _ w1) _)).keep HK2.out (fun k hk e => by omega))
  have HR := Av.mk (Read_calls _ 2 E Ae ce 1 9 2 w2 HEX2.out (HI.out.ord.mono (by decide)) (by omega) (by have := HL.out; omega) (by omega) (by omega) (by omega))
  rw [ab_read HI.out] at HR
  refine HR.out.mono ?_
  rintro e w3 ⟨rfl, hb3⟩
  have HB4 : Av (Bel w w3) := ⟨below_then HB3.out HB3.out.size hb3⟩
  clear hb3 HR HEX2 HB3 HEX HB HK2 X0 HB2 HI HL lx c4 c5 hzz
  generalize w1.heap.size = g7 at *
  by_cases hn : fs.length ≤ 26
  case neg =>
    go_wp2_with fail
    go_ret
    exact ⟨rfl, HB4.out⟩
  go_upto_region 8 with (fail)
  go_wp2_with fail
  go_loopw [5, 6, 33] (fun s5 s6 s33 wr => ∃ (i : Nat) (An : Option Addr) (cn : Nat) (Ai : Option Addr) (ci : Nat) (its : List T) (ps : List NV), i ≤ fs.length ∧ s33 = .int .i64 i ∧ s5 = .slice An i cn ∧ s6 = .slice Ai i ci ∧ Av (FSt w wr fs i An cn Ai ci its ps)) (fun _ _ s33 _ => fs.length - (intOf s33).toNat)
  case atStart => exact ⟨0, none, 0, none, 0, [], [], Nat.zero_le _, rfl, rfl, rfl, ⟨⟨⟨rfl, .inl ⟨rfl, rfl⟩⟩, ⟨rfl, .inl ⟨rfl, rfl⟩⟩, HB4.out, rfl, FilesT.nil, fun j q u h => by simp at h⟩⟩⟩
  case round =>
    obtain ⟨i, An, cn, Ai, ci, its, ps, hi, rfl, rfl, rfl, HF⟩ := hrel
    by_cases hlt : i < fs.length
    · obtain ⟨s, hs⟩ : ∃ s, fs[i]? = some s := ⟨_, List.getElem?_eq_getElem hlt⟩
      obtain ⟨bx, ox, rfl, _, hbl, hcA, c0, _⟩ := (H.out.grow HF.out.below).str hs
      have HS := Av.mk hs
      clear hs
      by_cases h1000 : s.size ≤ 1000
      case neg =>
        go_wp2_with fail
        go_ret
        exact ⟨rfl, HF.out.below⟩
      have HN := Av.mk HF.out.names
      go_wp2_with (first | (at_builtin; refine wpList_app rfl _ _ 23 rfl w.heap.size 9 i0 _ 1 16 Tryd.underlying23 I9.out.1 I9.out.2.1 I9.out.2.2.1 I9.out.2.2.2 (by rfl) (by decide) (.slice An i cn) i ((letters i).map Value.string) rfl (HN.out.alloc _) ⟨wr.heap.size, 0, none⟩ 1 1 [.string (letter i)] rfl rfl (new_cells wr [.string (letter i)] 9) (by simp [Value.oneCell']) (by unfold maxLen; omega) (by omega) (by have := HF.out.below.size; simp; omega) ?_; intro A4 c4 w4 ho4 hg4 _; have HO4 := Av.mk ho4; have HG4 := Av.mk hg4; clear ho4 hg4))
      have HK4 : Av (Keep (fun k => some k = (Value.slice An i cn).ownBlock) wr w4) := ⟨((Keep.refl _ wr).alloc _).grown HG4.out (fun k e _ => e.symm)⟩
      have HI4 := Av.mk (row_keep HF.out.items HK4.out (fun k hk e => absurd ((row_isT HF.out.items k hk).one (row_isT HF.out.names k e.symm)) (by decide)))
      have HR4 : Av (∀ (j : Nat) (q : NV) (u : T), ps[j]? = some q → its[j]? = some u → Rep (IsT w4 107) w4 q u) := ⟨fun j q u h1 h2 => (HF.out.reps j q u h1 h2).keepT HK4.out (fun k hk e => absurd (hk.one (row_isT HF.out.names k e.symm)) (by decide))⟩
      have HB5 : Av (Bel w w4) := ⟨(HF.out.below.alloc HF.out.below.size _).grown HG4.out (by have := HF.out.below.size; simp; omega) (fun k hk => row_base HF.out.names k hk.symm)⟩
      clear HG4 HK4 HN
      have HO4' : Av (w4.ownsRow w.heap.size 9 1 (.slice A4 (i + 1) c4) (i + 1) ((letters (i + 1)).map Value.string)) := ⟨by rw [letters_succ, List.map_append]; exact HO4.out⟩
      clear HO4
      refine (Text_calls s w4 (by omega)).mono ?_
      intro e w5 ht
      obtain ⟨Bn, bn, Bi, bi, Be, be, E5, rfl, hr5, hinv5, hl5, hb5⟩ := ht.opened
      have HO5 := Av.mk (row_keep HO4'.out (Keep.of_below (S := fun _ => False) hb5) (by simp))
      have HI5 := Av.mk (row_keep HI4.out (Keep.of_below (S := fun _ => False) hb5) (by simp))
      have HR5 : Av (∀ (j : Nat) (q : NV) (u : T), ps[j]? = some q → its[j]? = some u → Rep (IsT w5 107) w5 q u) := ⟨fun j q u h1 h2 => (HR4.out j q u h1 h2).keepT (Keep.of_below (S := fun _ => False) hb5) (by simp)⟩
      have HB6 : Av (Bel w w5) := ⟨below_then HB5.out HB5.out.size hb5⟩
      have HX5 := Av.mk hr5
      have HV5 := Av.mk hinv5
      clear ht hr5 hinv5 hb5 HO4' HI4 HR4 HB5
      go_wp2_with (first | (at_builtin; refine wpList_app rfl _ _ 22 rfl w.heap.size 33 i1 _ 7 112 Tryd.underlying22 I33.out.1 I33.out.2.1 I33.out.2.2.1 I33.out.2.2.2 (by rfl) (by decide) (.slice Ai i ci) i ((ps.zip its).flatMap pairC) rfl (HI5.out.alloc _) ⟨w5.heap.size, 0, none⟩ 1 1 [.int .i64 1, .bool false, .slice Bn 0 bn, .slice Bi 0 bi, .int .i64 s.size, .slice Be E5.length be, .string ⟨#[]⟩] rfl rfl (new_cells w5 [.int .i64 1, .bool false, .slice Bn 0 bn, .slice Bi 0 bi, .int .i64 s.size, .slice Be E5.length be, .string ⟨#[]⟩] 33) (by simp [Value.oneCell']) (by unfold maxLen; omega) (by omega) (by have := HB6.out.size; simp; omega) ?_; intro A6 c6 w6 ho6 hg6 _; have HO6 := Av.mk ho6; have HG6 := Av.mk hg6; clear ho6 hg6))
      go_roundw
      case rel =>
        have HK6 : Keep (fun k => some k = (Value.slice Ai i ci).ownBlock) w5 w6 := ((Keep.refl _ w5).alloc _).grown HG6.out (fun k e _ => e.symm)
        have hnm := row_keep HO5.out HK6 (fun k hk e => absurd ((row_isT HO5.out k hk).one (row_isT HI5.out k e.symm)) (by decide))
        have h107 : ∀ k, IsT w5 107 k → ¬ some k = (Value.slice Ai i ci).ownBlock := fun k hk e => absurd (hk.one (row_isT HI5.out k e.symm)) (by decide)
        have hlen := HF.out.len
        have hfl : its.length = i := by rw [HF.out.files.1, List.length_take]; omega
        have hbel : Below w.heap.size w w6 := (Below.alloc HB6.out (Below.size HB6.out) _).grown HG6.out (by have := Below.size HB6.out; simp; omega) (fun k hk => row_base HI5.out k hk.symm)
        refine ⟨i + 1, A4, c4, A6, c6, its ++ [textT s E5], ps ++ [⟨.slice Bn 0 bn, .slice Bi 0 bi, .slice Be E5.length be⟩], by omega, by go_num, rfl, rfl, ⟨⟨hnm, ?_, hbel, by simp [hlen], ?_, ?_⟩⟩⟩
        · rw [List.zip_append (by omega), List.flatMap_append]
          have h6 := HO6.out
          simpa [pairC, nodeC, textT, T.kind, T.opq, T.names, T.items, T.size, T.exts, T.target] using h6
        · rw [List.take_add_one, HS.out, Option.toList_some]
          exact HF.out.files.snoc h1000 HV5.out hl5
        · intro j q u h1 h2
          rcases Nat.lt_or_ge j i with hj | hj
          · rw [List.getElem?_append_left (by omega)] at h1 h2
            exact (HR5.out j q u h1 h2).keepT HK6 h107
          · have hjl := (List.getElem?_eq_some_iff.1 h1).1
            simp at hjl
            obtain rfl : j = i := by omega
            rw [List.getElem?_append_right (by omega), show j - ps.length = 0 by omega] at h1
            rw [List.getElem?_append_right (by omega), show j - its.length = 0 by omega] at h2
            simp at h1 h2
            subst h1 h2
            exact HX5.out.keepT HK6 h107
      case measure => simp [intOf]; omega
    · obtain rfl : i = fs.length := by omega
      have HFT : Av (FilesT fs its) := ⟨by have := HF.out.files; rwa [List.take_length] at this⟩
      have hil : its.length = fs.length := HFT.out.1
      have HD := Dir_calls (fun k => k < wr.heap.size) wr An Ai cn ci (letters fs.length) its
        (by rw [letters_len]; exact Sl.of_row HF.out.names (fun k hk => row_lt HF.out.names k hk.symm))
        (by rw [hil]; exact ⟨ps, by rw [HF.out.len, hil], by rw [hil]; exact Sl.of_row HF.out.items (fun k hk => row_lt HF.out.items k hk.symm), fun j q u h1 h2 => (HF.out.reps j q u h1 h2).mono (fun k hk => hk.lt)⟩)
        (by rw [letters_len]; omega) (by omega)
      rw [letters_len, hil] at HD
      have HDD := Av.mk HD
      clear HD
      go_wp2_with fail
      refine HDD.out.mono ?_
      intro e w1' ht
      obtain ⟨Cn, dn, Ci, di, Ce, de, rfl, hr2, hb2⟩ := ht.opened
      rw [letters_len, hil] at hr2 ⊢
      have HR2 := Av.mk hr2
      have HG2 := Av.mk (HF.out.names)
      have HN2 := Av.mk (row_keep HF.out.names (Keep.of_below (S := fun _ => False) hb2) (by simp))
      have HB2 : Av (Bel w w1') := ⟨below_then HF.out.below HF.out.below.size hb2⟩
      clear HDD ht hr2 hb2 HG2
      have X0 := Av.mk (Blk.new w1' 33 #[.int .i64 0, .bool false, .slice none 0 0, .slice none 0 0, .int .i64 0, .slice none 0 0, .string ⟨#[]⟩])
      have hzz := Below.size HB2.out
      go_upto_region 17 with (first | (refine wpList_putB rfl 33 (.tmp 10) (.tmp 56) rfl w1'.heap.size 33 _ _ rfl rfl (by kernel_rfl) X0.out rfl (by simp [Value.oneCell']) ?_; intro w2 hb2 hk2; have XB := Av.mk hb2; have HK2 := Av.mk hk2; clear hb2 hk2))
      have HB3 : Av (Bel w w2) := ⟨((Below.alloc HB2.out (Below.size HB2.out) _).trans (HK2.out.below (by have := Below.size HB2.out; simp; omega) (by rintro k rfl; exact Below.size HB2.out)))⟩
      have HR3 := Av.mk ((HR2.out.grow (below_alloc (Below.refl _ w1') _)).keep HK2.out (fun k hk e => by omega))
      have HN3 := Av.mk (row_keep (row_keep HN2.out (Keep.of_below (S := fun _ => False) (below_alloc (Below.refl _ w1') _)) (by simp)) HK2.out (fun k hk e => by have := row_lt HN2.out k hk.symm; omega))
      clear HR2 HN2 X0 HK2 HB2 HF
      generalize w1'.heap.size = g10 at *
      have c0 := XB.out.cell 0; have c1 := XB.out.cell 1; have c2 := XB.out.cell 2; have c3 := XB.out.cell 3; have c4 := XB.out.cell 4; have c5 := XB.out.cell 5; have c6 := XB.out.cell 6
      have lx := XB.out.lt
      simp at c0 c1 c2 c3 c4 c5 c6
      go_wp2_with fail
      refine (dir_right (Nat.le_of_lt lx) HR3.out HFT.out hn).mono ?_
      rintro e w3 ⟨rfl, hb⟩
      have HB4 : Av (Bel w w3) := ⟨below_then HB3.out (Below.size HB3.out) hb⟩
      have XB4 := Av.mk (XB.out.keep (Keep.of_below (S := fun _ => False) hb) (by simp))
      have HR4 := Av.mk (HR3.out.grow hb)
      have HN4 := Av.mk (row_keep HN3.out (Keep.of_below (S := fun _ => False) hb) (by simp))
      clear c0 c1 c2 c3 c4 c5 c6 lx hb HB3 HR3 HN3 XB
      have c0 := XB4.out.cell 0; have c1 := XB4.out.cell 1; have c2 := XB4.out.cell 2; have c3 := XB4.out.cell 3; have c4 := XB4.out.cell 4; have c5 := XB4.out.cell 5; have c6 := XB4.out.cell 6
      have lx := XB4.out.lt
      simp at c0 c1 c2 c3 c4 c5 c6
      go_wp2_with fail
      refine (dir_count HR4.out HFT.out hn).mono ?_
      rintro e w4 ⟨rfl, hb⟩
      have HB5 : Av (Bel w w4) := ⟨below_then HB4.out (Below.size HB4.out) hb⟩
      have XB5 := Av.mk (XB4.out.keep (Keep.of_below (S := fun _ => False) hb) (by simp))
      have HR5 := Av.mk (HR4.out.grow hb)
      have HN5 := Av.mk (row_keep HN4.out (Keep.of_below (S := fun _ => False) hb) (by simp))
      clear c0 c1 c2 c3 c4 c5 c6 lx hb HB4 HR4 HN4 XB4
      go_upto_region 19 with (fail)
      go_wp2_with fail
      go_loopw [70] (fun s70 wx => ∃ i : Nat, i ≤ fs.length ∧ s70 = .int .i64 i ∧ Av (Bel w4 wx)) (fun s70 _ => fs.length - (intOf s70).toNat)
      case atStart => exact ⟨0, Nat.zero_le _, rfl, ⟨Below.refl _ _⟩⟩
      case round =>
        obtain ⟨i, hi, rfl, HW⟩ := hrel
        by_cases hlt : i < fs.length
        · obtain ⟨s, hs⟩ : ∃ s, fs[i]? = some s := ⟨_, List.getElem?_eq_getElem hlt⟩
          have HB6 : Av (Bel w wr) := ⟨below_then HB5.out (Below.size HB5.out) HW.out⟩
          obtain ⟨bx, ox, rfl, _, hbl, hcA, a0, _⟩ := (H.out.grow HB6.out).str hs
          have HS := Av.mk hs
          have XB6 := Av.mk (XB5.out.keep (Keep.of_below (S := fun _ => False) HW.out) (by simp))
          have HR6 := Av.mk (HR5.out.grow HW.out)
          obtain ⟨by', oy, rfl, hyl, hyc, y0⟩ := row_letter (row_keep HN5.out (Keep.of_below (S := fun _ => False) HW.out) (by simp)) hlt
          clear hs
          have HC : Av (∀ W, Bel wr W → Calls Tryd.prog 28 #[.agg #[.int .i64 2, .bool false, .slice Cn fs.length dn, .slice Ci fs.length di, .int .i64 0, .slice Ce 0 de, .string ⟨#[]⟩], .string (letter i)] W (FileP g10 s W)) := ⟨fun W hW => find_file (HR6.out.grow hW) HFT.out hn hlt HS.out⟩
          have c0 := XB6.out.cell 0; have c1 := XB6.out.cell 1; have c2 := XB6.out.cell 2; have c3 := XB6.out.cell 3; have c4 := XB6.out.cell 4; have c5 := XB6.out.cell 5; have c6 := XB6.out.cell 6
          have lx := XB6.out.lt
          simp at c0 c1 c2 c3 c4 c5 c6
          go_upto_region 22 with (fail)
          go_cut [13, 14] (fun s13 s14 wx => ∃ (g13 : Nat) (An : Option Addr) (cn : Nat) (Ai : Option Addr) (ci : Nat) (Ae : Option Addr) (ce : Nat) (E : List Ext), s13 = .pointer (some ⟨g13, 0, none⟩) ∧ s14 = .bool true ∧ Blk wx g13 33 #[.int .i64 1, .bool false, .slice An 0 cn, .slice Ai 0 ci, .int .i64 s.size, .slice Ae E.length ce, .string ⟨#[]⟩] ∧
            Sl (fun k => k < g10) wx 2 (.slice Ae E.length ce) E.length (exCells E) ∧ Av (OfInv s.data.toList s.size E ∧ E.length ≤ s.size) ∧ Bel wr wx)
          case first =>
            go_region_with (first | (go_at_call 28; refine (HC.out _ (bel_drew _)).mono ?_; intro e wf hfp; obtain ⟨Fn, fn, Fi, fi, Fe, fe, EF, rfl, hsl, hof, hll, hbf⟩ := hfp; have HSL := Av.mk hsl; have HOF := Av.mk (And.intro hof hll); have HBF := Av.mk hbf; clear hsl hof hll hbf) | (go_at_call 28; refine (HC.out _ (bel_alloc_drew _ _)).mono ?_; intro e wf hfp; obtain ⟨Fn, fn, Fi, fi, Fe, fe, EF, rfl, hsl, hof, hll, hbf⟩ := hfp; have HSL := Av.mk hsl; have HOF := Av.mk (And.intro hof hll); have HBF := Av.mk hbf; have X13 := Av.mk (((Blk.new wr 33 #[.int .i64 0, .bool false, .slice none 0 0, .slice none 0 0, .int .i64 0, .slice none 0 0, .string ⟨#[]⟩]).drew).keep (Keep.of_below (S := fun _ => False) hbf) (by simp)); have f0 := X13.out.frozen 0; have f1 := X13.out.frozen 1; have f2 := X13.out.frozen 2; have f3 := X13.out.frozen 3; have f4 := X13.out.frozen 4; have f5 := X13.out.frozen 5; have f6 := X13.out.frozen 6; have z0 := X13.out.cell 0; have z1 := X13.out.cell 1; have z2 := X13.out.cell 2; have z3 := X13.out.cell 3; have z4 := X13.out.cell 4; have z5 := X13.out.cell 5; have z6 := X13.out.cell 6; have lz := X13.out.lt; simp at z0 z1 z2 z3 z4 z5 z6; clear hsl hof hll hbf))
            all_goals
              go_wp2_with fail
              go_meet
            all_goals first
              | (have h13 := seven X13.out (.int .i64 1) (.bool false) (.slice Fn 0 fn) (.slice Fi 0 fi) (.int .i64 s.size) (.slice Fe EF.length fe) (.string ⟨#[]⟩)
                 have hb1 := (below_then (bel_alloc_drew wr _) (Below.size (bel_alloc_drew wr _)) HBF.out).trans (h13.2.below (Nat.le_of_lt lz) (by rintro k rfl; exact Nat.le_refl _))
                 exact ⟨wr.heap.size, Fn, fn, Fi, fi, Fe, fe, EF, rfl, rfl, h13.1, HSL.out.keep h13.2 (fun k hk e => by omega), HOF, hb1⟩)
              | (have hb1 := below_then (bel_drew wr) (Below.size (bel_drew wr)) HBF.out
                 exact ⟨wf.heap.size, Fn, fn, Fi, fi, Fe, fe, EF, rfl, rfl, Blk.new wf 33 _, HSL.out.grow (below_alloc (Below.refl _ wf) _), HOF, Below.alloc hb1 (Below.size hb1) _⟩)
          case rest =>
            obtain ⟨g13, Fn, fn, Fi, fi, Fe, fe, EF, rfl, rfl, hx, hsl, HOF, hbw⟩ := hcut
            obtain ⟨w7, rfl⟩ : ∃ w7, w7 = wc := ⟨_, rfl⟩
            have X7 := Av.mk hx
            have HSL := Av.mk hsl
            have HB7 := Av.mk hbw
            clear hx hsl hbw HC c0 c1 c2 c3 c4 c5 c6 lx XB6 HR6 y0 hyl
            have hss : s.size ≤ 1000 := (HFT.out.2 i s _ HS.out (List.getElem?_eq_getElem (by omega))).1
            obtain ⟨k, hk⟩ : ∃ k : Nat, min cut s.size = k := ⟨_, rfl⟩
            have HMN : Av (mn (cut : Int) (s.size : Int) = (k : Int)) := ⟨by unfold mn; split <;> omega⟩
            have hk2 : k ≤ s.size := by omega
            have HCAT := Av.mk (cat_file HOF.out.1 hk2)
            have HX : Av (∀ W, Bel w7 W → Calls Tryd.prog 29 #[.int .i64 s.size, .slice Fe EF.length fe] W (RetB (.bool true) W)) := ⟨fun W hW => by
              have h1 := (HSL.out.grow hW)
              have h2 := XRight_calls (fun k => k < g10) s.size (EF.map toI) Fe fe W (by rw [List.length_map, iCells_toI]; exact h1) (by rw [List.length_map]; have := HOF.out.2; omega)
              rw [List.length_map, text_rX hss HOF.out.1] at h2
              exact h2⟩
            have HR1 : Av (∀ W, Bel w7 W → Calls Tryd.prog 26 #[.int .i64 s.size, .slice Fe EF.length fe, .int .i64 0, .int .i64 k] W (StrB (bytesOf EF 0 k) W)) := ⟨fun W hW => by
              have h1 := Read_calls (fun k => k < g10) s.size EF Fe fe 0 k s.size W (HSL.out.grow hW) (HOF.out.1.ord.mono (Nat.min_le_left _ _)) (by omega) (by have := HOF.out.2; omega) (by omega) (by omega) (by omega)
              rw [show min k (s.size - 0) = k by omega] at h1
              exact h1⟩
            have HR2 : Av (∀ W, Bel w7 W → Calls Tryd.prog 26 #[.int .i64 s.size, .slice Fe EF.length fe, .int .i64 k, .int .i64 s.size] W (StrB (bytesOf EF k (s.size - k)) W)) := ⟨fun W hW => by
              have h1 := Read_calls (fun k => k < g10) s.size EF Fe fe k s.size s.size W (HSL.out.grow hW) (HOF.out.1.ord.mono (Nat.min_le_left _ _)) (by omega) (by have := HOF.out.2; omega) (by omega) (by omega) (by omega)
              rw [show min s.size (s.size - k) = s.size - k by omega] at h1
              exact h1⟩
            clear hk HSL HOF
            have c4 := X7.out.cell 4; have c5 := X7.out.cell 5
            have lx := X7.out.lt
            simp at c4 c5
            go_upto_region 24 with (fail)
            rw [HMN.out]
            go_cut [117] (fun s117 wx => s117 = .bool false ∧ Bel w7 wx)
            case first =>
              have HK : Av (∀ W, Bel w7 W → W.cell? ⟨g13, 4, none⟩ = some (.int .i64 s.size) ∧ W.cell? ⟨g13, 5, none⟩ = some (.slice Fe EF.length fe)) := ⟨fun W hW => by
                have h1 := X7.out.keep (Keep.of_below (S := fun _ => False) hW) (by simp)
                have h4 := h1.cell 4
                have h5 := h1.cell 5
                simp at h4 h5
                exact ⟨h4, h5⟩⟩
              have HX' : Av (∀ W, Bel w7 W → Calls Tryd.prog 29 #[.int .i64 s.size, .slice Fe EF.length fe] W (fun e w' => e = .returned (.bool true) ∧ Bel w7 w' ∧ w'.cell? ⟨g13, 4, none⟩ = some (.int .i64 s.size) ∧ w'.cell? ⟨g13, 5, none⟩ = some (.slice Fe EF.length fe))) := ⟨fun W hW => (HX.out W hW).mono (fun e w' h => ⟨h.1, below_then hW (Below.size hW) h.2, HK.out _ (below_then hW (Below.size hW) h.2)⟩)⟩
              have HR1' : Av (∀ W, Bel w7 W → Calls Tryd.prog 26 #[.int .i64 s.size, .slice Fe EF.length fe, .int .i64 0, .int .i64 k] W (fun e w' => e = .returned (.string ⟨(bytesOf EF 0 k).toArray⟩) ∧ Bel w7 w' ∧ w'.cell? ⟨g13, 4, none⟩ = some (.int .i64 s.size) ∧ w'.cell? ⟨g13, 5, none⟩ = some (.slice Fe EF.length fe))) := ⟨fun W hW => (HR1.out W hW).mono (fun e w' h => ⟨h.1, below_then hW (Below.size hW) h.2, HK.out _ (below_then hW (Below.size hW) h.2)⟩)⟩
              have HR2' : Av (∀ W, Bel w7 W → Calls Tryd.prog 26 #[.int .i64 s.size, .slice Fe EF.length fe, .int .i64 k, .int .i64 s.size] W (fun e w' => e = .returned (.string ⟨(bytesOf EF k (s.size - k)).toArray⟩) ∧ Bel w7 w' ∧ w'.cell? ⟨g13, 4, none⟩ = some (.int .i64 s.size) ∧ w'.cell? ⟨g13, 5, none⟩ = some (.slice Fe EF.length fe))) := ⟨fun W hW => (HR2.out W hW).mono (fun e w' h => ⟨h.1, below_then hW (Below.size hW) h.2, HK.out _ (below_then hW (Below.size hW) h.2)⟩)⟩
              clear HX HR1 HR2 HK
              obtain ⟨a1, ha1⟩ : ∃ a1 : ByteArray, ⟨(bytesOf EF 0 k).toArray⟩ = a1 := ⟨_, rfl⟩
              obtain ⟨a2, ha2⟩ : ∃ a2 : ByteArray, ⟨(bytesOf EF k (s.size - k)).toArray⟩ = a2 := ⟨_, rfl⟩
              rw [ha1] at HR1' HCAT
              rw [ha2] at HR2' HCAT
              have hcat := HCAT.out
              have hsum : a1.size + a2.size ≤ 9223372036854775807 := by
                have h1 : (a1 ++ a2).size = s.size := by rw [hcat]
                rw [ByteArray.size_append] at h1
                omega
              have hlt1 : (9223372036854775807 < a1.size + a2.size) = False := by simp; omega
              clear ha1 ha2 HCAT
              go_region_held3 (fun W => W.cell? ⟨g13, 4, none⟩ = some (.int .i64 s.size) ∧ W.cell? ⟨g13, 5, none⟩ = some (.slice Fe EF.length fe)) (first | (exact ⟨by assumption, by assumption⟩) | go_keep)
                (first
                | (go_at_call 29; refine Calls.mono (HX'.out _ (bel_drew w7)) ?_; rintro e wa ⟨rfl, hba, ha4, ha5⟩; have HBa : Av (Bel w7 wa) := ⟨hba⟩; clear hba)
                | (go_at_call 26; refine Calls.mono (HR2'.out wb HBb.out) ?_; rintro e wc ⟨rfl, hba, hc4, hc5⟩; have HBc : Av (Bel w7 wc) := ⟨hba⟩; clear hba)
                | (go_at_call 26; refine Calls.mono (HR1'.out wa HBa.out) ?_; rintro e wb ⟨rfl, hba, hb4, hb5⟩; have HBb : Av (Bel w7 wb) := ⟨hba⟩; clear hba))
              all_goals
                go_wp2_with fail
                go_meet
                exact ⟨rfl, HBc.out⟩
            case rest =>
              obtain ⟨rfl, hb⟩ := hcut
              have HB8 : Av (Bel w4 wc) := ⟨below_then (below_then HW.out (Below.size HW.out) HB7.out) (Below.size (below_then HW.out (Below.size HW.out) HB7.out)) hb⟩
              clear c4 c5 lx hb
              go_wp2_with fail
              go_roundw
              case rel => exact ⟨i + 1, by omega, by go_num, HB8⟩
              case measure => simp [intOf]; omega
        · obtain rfl : i = fs.length := by omega
          have HB8 : Av (Bel w wr) := ⟨below_then HB5.out (Below.size HB5.out) HW.out⟩
          go_wp2_with fail
          go_ret
          exact ⟨rfl, HB8.out⟩
end Go.Proofs.YtkmojgdjapfbbaaDoor
