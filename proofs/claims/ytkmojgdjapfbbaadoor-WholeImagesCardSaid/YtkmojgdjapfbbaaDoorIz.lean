/- image.reader.node: the walk (printed by gen_iz.py). -/
import Derived.Test.YtkmojgdjapfbbaaDoorIk
import Derived.Test.YtkmojgdjapfbbaaDoorPb
import Derived.Test.YtkmojgdjapfbbaaDoorOf
namespace Go.Proofs.YtkmojgdjapfbbaaDoor
open Go.RowKit Go.Maps
set_option linter.unusedSimpArgs false
set_option linter.unusedVariables false

theorem Rr.keep {w w' : World} {r x : Nat} {s : ByteArray} {left : Int} {S : Nat → Prop} (h : Rr w r x s left) (hk : Keep S w w') (h1 : ¬ S r) (h2 : ¬ S x) : Rr w' r x s left := ⟨h.blk.keep hk h1, Blk.keep h.rd hk h2⟩
theorem Rr.grow {w w' : World} {r x : Nat} {s : ByteArray} {left : Int} (h : Rr w r x s left) (hb : Below w.heap.size w w') : Rr w' r x s left := h.keep (S := fun _ => False) (Keep.of_below hb) id id
theorem Rr.less {w : World} {r x : Nat} {s : ByteArray} {left left' : Int} (h : Rr w r x s left) : Rr (w.setCell ⟨r, 2, none⟩ (.int .i64 left')) r x s left' :=
  ⟨by simpa using h.blk.set_ 2 (.int .i64 left'), Blk.far h.rd (fun e => h.ne e.symm) _⟩
section
variable {w : World} {r x : Nat} {rest : List UInt8} {left n : Int}
theorem num_back (sz : Nat) (h : Rr w r x (stOf (be n sz ++ rest)) left) (hl : rest.length ≤ 900000) (h1 : 1 ≤ sz) (h4 : sz ≤ 4) (h0 : 0 ≤ n) (hn : n < 256 ^ sz) :
    Calls Tryd.prog 94 #[.pointer (some ⟨r, 0, none⟩), .int .i64 sz] w (RrP (.int .i64 n) r x (stOf rest) left w) := by
  obtain ⟨m, rfl⟩ := Int.eq_ofNat_of_zero_le h0
  exact number_back sz m h (by omega) h1 h4 hn
theorem num1 (h : Rr w r x (stOf (be n 1 ++ rest)) left) (hl : rest.length ≤ 900000) (h0 : 0 ≤ n) (hn : n < 256) :
    Calls Tryd.prog 94 #[.pointer (some ⟨r, 0, none⟩), .int .i64 1] w (RrP (.int .i64 n) r x (stOf rest) left w) := num_back 1 h hl (by decide) (by decide) h0 hn
theorem num2 (h : Rr w r x (stOf (be n 2 ++ rest)) left) (hl : rest.length ≤ 900000) (h0 : 0 ≤ n) (hn : n < 65536) :
    Calls Tryd.prog 94 #[.pointer (some ⟨r, 0, none⟩), .int .i64 2] w (RrP (.int .i64 n) r x (stOf rest) left w) := num_back 2 h hl (by decide) (by decide) h0 hn
theorem num4 (h : Rr w r x (stOf (be n 4 ++ rest)) left) (hl : rest.length ≤ 900000) (h0 : 0 ≤ n) (hn : n < 4294967296) :
    Calls Tryd.prog 94 #[.pointer (some ⟨r, 0, none⟩), .int .i64 4] w (RrP (.int .i64 n) r x (stOf rest) left w) := num_back 4 h hl (by decide) (by decide) h0 hn
theorem txt1 {s : ByteArray} (h : Rr w r x (stOf (be s.size 1 ++ (bsOf s ++ rest))) left) (hl : s.size + rest.length ≤ 900000) (hn : s.size < 256) :
    Calls Tryd.prog 95 #[.pointer (some ⟨r, 0, none⟩), .int .i64 1] w (RrP (.string s) r x (stOf rest) left w) := text_back 1 h (by omega) (by decide) (by decide) (by have e1 : (256 : Int) ^ 1 = 256 := rfl; omega)
theorem txt2 {s : ByteArray} (h : Rr w r x (stOf (be s.size 2 ++ (bsOf s ++ rest))) left) (hl : s.size + rest.length ≤ 900000) (hn : s.size < 65536) :
    Calls Tryd.prog 95 #[.pointer (some ⟨r, 0, none⟩), .int .i64 2] w (RrP (.string s) r x (stOf rest) left w) := text_back 2 h (by omega) (by decide) (by decide) (by have e1 : (256 : Int) ^ 2 = 65536 := rfl; omega)
theorem txt4 {s : ByteArray} (h : Rr w r x (stOf (be s.size 4 ++ (bsOf s ++ rest))) left) (hl : s.size + rest.length ≤ 900000) (hn : s.size < 4294967296) :
    Calls Tryd.prog 95 #[.pointer (some ⟨r, 0, none⟩), .int .i64 4] w (RrP (.string s) r x (stOf rest) left w) := text_back 4 h (by omega) (by decide) (by decide) (by have e1 : (256 : Int) ^ 4 = 4294967296 := rfl; omega)
end
/-- What a reader's node answers: the tree. -/
def NodeP (r x : Nat) (uk : Int) (uo : Bool) (uns : List ByteArray) (uits : List T) (usz : Int) (uex : List IExt) (utg : ByteArray) (rest : List UInt8) (left : Int) (w : World) (e : Ending) (w' : World) : Prop :=
  ∃ An cn Ai ci Ae ce, e = .returned (.agg #[.int .i64 uk, .bool uo, .slice An uns.length cn, .slice Ai uits.length ci, .int .i64 usz, .slice Ae uex.length ce, .string utg]) ∧
    Rep (fun k => w.heap.size ≤ k) w' ⟨.slice An uns.length cn, .slice Ai uits.length ci, .slice Ae uex.length ce⟩ (.node uk uo uns uits usz uex utg) ∧ Rr w' r x (stOf rest) left ∧ Keep (fun k => k = r ∨ k = x) w w'
def NodeC : T → Prop
  | .node uk uo uns uits usz uex utg => ∀ (w : World) (r x : Nat) (rest : List UInt8) (depth left : Int), Rr w r x (stOf (T.enc (.node uk uo uns uits usz uex utg) ++ rest)) left → (T.enc (.node uk uo uns uits usz uex utg) ++ rest).length ≤ 900000 →
    (T.count (.node uk uo uns uits usz uex utg) : Int) ≤ left → left ≤ 5000 → 0 ≤ depth → depth + (T.depth (.node uk uo uns uits usz uex utg)) ≤ 15 →
    Calls Tryd.prog 77 #[.pointer (some ⟨r, 0, none⟩), .int .i64 depth] w (NodeP r x uk uo uns uits usz uex utg rest (left - T.count (.node uk uo uns uits usz uex utg)) w)
theorem node_keep2 {w wz w9 : World} {r x g : Nat} (K : Keep (fun k => (k = r ∨ k = x) ∨ g ≤ k) w wz) (hk9 : Keep (fun k => k = g) wz w9) (hg : w.heap.size = g) : Keep (fun k => k = r ∨ k = x) w w9 :=
  (K.trans (hk9.mono (fun k _ h => .inr (by omega)))).mono (fun k hk h => h.elim id (fun h => by omega))
theorem node_keep {w wz w9 : World} {r x g : Nat} (K : Keep (fun k => k = r ∨ k = x) w wz) (hk9 : Keep (fun k => k = g) wz w9) (hg : w.heap.size = g) : Keep (fun k => k = r ∨ k = x) w w9 :=
  ((K.mono (S' := fun k => (k = r ∨ k = x) ∨ w.heap.size ≤ k) (fun k _ h => .inl h)).trans (hk9.mono (fun k _ h => .inr (by omega)))).mono (fun k hk h => h.elim id (fun h => by omega))

set_option maxRecDepth 100000 in
set_option maxHeartbeats 4000000 in
theorem node_white : NodeC (.node 4 false [] [] 0 [] ⟨#[]⟩) := by
  intro w r x rest depth left hr hlen h1 h2 h3 h4
  rw [enc_white] at hr hlen
  have hcnt : T.count (.node 4 false [] [] 0 [] ⟨#[]⟩) = 1 := by simp [T.count, T.countL]
  rw [hcnt] at h1 ⊢
  simp only [List.length_append, be_length] at hlen
  have h1' : (1 : Int) ≤ left := by omega
  have HR := Av.mk hr
  have hb1 := below_alloc (Below.refl _ w) (.cells #[.int .i64 0, .bool false, .slice none 0 0, .slice none 0 0, .int .i64 0, .slice none 0 0, .string ⟨#[]⟩] 33)
  have R1 := Av.mk (hr.grow hb1)
  have Z1 := Av.mk (Blk.new w 33 #[.int .i64 0, .bool false, .slice none 0 0, .slice none 0 0, .int .i64 0, .slice none 0 0, .string ⟨#[]⟩])
  have K1 := Av.mk ((Keep.refl (fun k => k = r ∨ k = x) w).alloc (.cells #[.int .i64 0, .bool false, .slice none 0 0, .slice none 0 0, .int .i64 0, .slice none 0 0, .string ⟨#[]⟩] 33))
  have hrg := hr.blk.lt
  have hxg := Blk.lt hr.rd
  clear hr hb1
  go_enter Tryd.func77, Tryd.ntmps77
  go_upto_region 1 with (fail)
  generalize w.alloc (.cells #[.int .i64 0, .bool false, .slice none 0 0, .slice none 0 0, .int .i64 0, .slice none 0 0, .string ⟨#[]⟩] 33) = w1 at *
  generalize hg : w.heap.size = g at *
  have HG := Av.mk hg
  clear hg
  have c2 := R1.out.blk.cell 2
  have f2 := R1.out.blk.frozen 2
  have lr := R1.out.blk.lt
  simp at c2
  go_upto_region 2 with (fail)
  have R2 := Av.mk (R1.out.less (left' := left - 1))
  have K2 := Av.mk (K1.out.setCell (p := ⟨r, 2, none⟩) (fun _ => .inl rfl) (.int .i64 (left - 1)))
  have Z2 := Av.mk (Z1.out.far (p := ⟨r, 2, none⟩) (by show g ≠ r; omega) (.int .i64 (left - 1)))
  clear c2 f2 lr R1 K1 Z1
  generalize w1.setCell ⟨r, 2, none⟩ (.int .i64 (left - 1)) = w2 at *
  have c1 := R2.out.blk.cell 1
  have c2 := R2.out.blk.cell 2
  have lr := R2.out.blk.lt
  simp at c1 c2
  have hd15 : depth ≤ 15 := by omega
  go_wp2_with fail
  refine (num1 (n := 4) R2.out (by omega) (by decide) (by decide)).mono ?_
  rintro e w3 ⟨rfl, hr3, hk3⟩
  have R3 := Av.mk hr3
  have K3 := Av.mk (K2.out.trans hk3)
  have Z3 := Av.mk (Z2.out.keep hk3 (by rintro (h | h) <;> omega))
  clear hr3 hk3 c1 c2 lr R2 K2 Z2
  go_upto_region 7 with (fail)
  have hb4 := below_alloc (Below.refl _ w3) (.cells #[.int .i64 4, .bool false, .slice none 0 0, .slice none 0 0, .int .i64 0, .slice none 0 0, .string ⟨#[]⟩] 33)
  have X4 := Av.mk (Blk.new w3 33 #[.int .i64 4, .bool false, .slice none 0 0, .slice none 0 0, .int .i64 0, .slice none 0 0, .string ⟨#[]⟩])
  have R4 := Av.mk (R3.out.grow hb4)
  have K4 := Av.mk (K3.out.alloc (.cells #[.int .i64 4, .bool false, .slice none 0 0, .slice none 0 0, .int .i64 0, .slice none 0 0, .string ⟨#[]⟩] 33))
  have Z4 := Av.mk (Z3.out.alloc (.cells #[.int .i64 4, .bool false, .slice none 0 0, .slice none 0 0, .int .i64 0, .slice none 0 0, .string ⟨#[]⟩] 33))
  have hgx := Z3.out.lt
  clear hb4 R3 K3 Z3
  generalize w3.alloc (.cells #[.int .i64 4, .bool false, .slice none 0 0, .slice none 0 0, .int .i64 0, .slice none 0 0, .string ⟨#[]⟩] 33) = w4 at *
  generalize w3.heap.size = gx at *
  have c0 := X4.out.cell 0; have c1 := X4.out.cell 1; have c2 := X4.out.cell 2; have c3 := X4.out.cell 3; have c4 := X4.out.cell 4; have c5 := X4.out.cell 5; have c6 := X4.out.cell 6
  have lx := X4.out.lt
  simp at c0 c1 c2 c3 c4 c5 c6
  go_wp2_with (first | (refine wpList_putB rfl 33 (.tmp 4) (.tmp 120) rfl g 33 _ _ rfl rfl (by kernel_rfl) Z4.out rfl (by simp [Value.oneCell']) ?_; intro w9 hb9 hk9; have HB9 := Av.mk hb9; have HK9 := Av.mk hk9; clear hb9 hk9))
  have e0 := HB9.out.cell 0; have e1 := HB9.out.cell 1; have e2 := HB9.out.cell 2; have e3 := HB9.out.cell 3; have e4 := HB9.out.cell 4; have e5 := HB9.out.cell 5; have e6 := HB9.out.cell 6
  simp at e0 e1 e2 e3 e4 e5 e6
  refine bodyPost_ret (v := .agg #[.int .i64 4, .bool false, .slice none 0 0, .slice none 0 0, .int .i64 0, .slice none 0 0, .string ⟨#[]⟩]) (by simp [results, Tryd.results77, go_sem, e0, e1, e2, e3, e4, e5, e6]) rfl ?_
  exact ⟨none, 0, none, 0, none, 0, rfl, Rep.of (Sl.nil _ _ _ none 0) (Sl.nil _ _ _ none 0) (RepL.nil _ _ none 0), R4.out.keep HK9.out (by omega) (by omega), node_keep K4.out HK9.out HG.out⟩

set_option maxRecDepth 100000 in
set_option maxHeartbeats 4000000 in
theorem node_link (tg : ByteArray) (htg : tg.size < 65536) : NodeC (.node 3 false [] [] 0 [] tg) := by
  intro w r x rest depth left hr hlen h1 h2 h3 h4
  rw [enc_link, List.append_assoc, List.append_assoc] at hr hlen
  have hcnt : T.count (.node 3 false [] [] 0 [] tg) = 1 := by simp [T.count, T.countL]
  rw [hcnt] at h1 ⊢
  simp only [List.length_append, be_length] at hlen
  simp only [bsOf_length] at hlen
  have h1' : (1 : Int) ≤ left := by omega
  have HR := Av.mk hr
  have hb1 := below_alloc (Below.refl _ w) (.cells #[.int .i64 0, .bool false, .slice none 0 0, .slice none 0 0, .int .i64 0, .slice none 0 0, .string ⟨#[]⟩] 33)
  have R1 := Av.mk (hr.grow hb1)
  have Z1 := Av.mk (Blk.new w 33 #[.int .i64 0, .bool false, .slice none 0 0, .slice none 0 0, .int .i64 0, .slice none 0 0, .string ⟨#[]⟩])
  have K1 := Av.mk ((Keep.refl (fun k => k = r ∨ k = x) w).alloc (.cells #[.int .i64 0, .bool false, .slice none 0 0, .slice none 0 0, .int .i64 0, .slice none 0 0, .string ⟨#[]⟩] 33))
  have hrg := hr.blk.lt
  have hxg := Blk.lt hr.rd
  clear hr hb1
  go_enter Tryd.func77, Tryd.ntmps77
  go_upto_region 1 with (fail)
  generalize w.alloc (.cells #[.int .i64 0, .bool false, .slice none 0 0, .slice none 0 0, .int .i64 0, .slice none 0 0, .string ⟨#[]⟩] 33) = w1 at *
  generalize hg : w.heap.size = g at *
  have HG := Av.mk hg
  clear hg
  have c2 := R1.out.blk.cell 2
  have f2 := R1.out.blk.frozen 2
  have lr := R1.out.blk.lt
  simp at c2
  go_upto_region 2 with (fail)
  have R2 := Av.mk (R1.out.less (left' := left - 1))
  have K2 := Av.mk (K1.out.setCell (p := ⟨r, 2, none⟩) (fun _ => .inl rfl) (.int .i64 (left - 1)))
  have Z2 := Av.mk (Z1.out.far (p := ⟨r, 2, none⟩) (by show g ≠ r; omega) (.int .i64 (left - 1)))
  clear c2 f2 lr R1 K1 Z1
  generalize w1.setCell ⟨r, 2, none⟩ (.int .i64 (left - 1)) = w2 at *
  have c1 := R2.out.blk.cell 1
  have c2 := R2.out.blk.cell 2
  have lr := R2.out.blk.lt
  simp at c1 c2
  have hd15 : depth ≤ 15 := by omega
  go_wp2_with fail
  refine (num1 (n := 3) R2.out (by simp only [List.length_append, be_length, bsOf_length]; omega) (by decide) (by decide)).mono ?_
  rintro e w3 ⟨rfl, hr3, hk3⟩
  have R3 := Av.mk hr3
  have K3 := Av.mk (K2.out.trans hk3)
  have Z3 := Av.mk (Z2.out.keep hk3 (by rintro (h | h) <;> omega))
  clear hr3 hk3 c1 c2 lr R2 K2 Z2
  go_upto_region 7 with (fail)
  have hb4 := below_alloc (Below.refl _ w3) (.cells #[.int .i64 3, .bool false, .slice none 0 0, .slice none 0 0, .int .i64 0, .slice none 0 0, .string ⟨#[]⟩] 33)
  have X4 := Av.mk (Blk.new w3 33 #[.int .i64 3, .bool false, .slice none 0 0, .slice none 0 0, .int .i64 0, .slice none 0 0, .string ⟨#[]⟩])
  have R4 := Av.mk (R3.out.grow hb4)
  have K4 := Av.mk (K3.out.alloc (.cells #[.int .i64 3, .bool false, .slice none 0 0, .slice none 0 0, .int .i64 0, .slice none 0 0, .string ⟨#[]⟩] 33))
  have Z4 := Av.mk (Z3.out.alloc (.cells #[.int .i64 3, .bool false, .slice none 0 0, .slice none 0 0, .int .i64 0, .slice none 0 0, .string ⟨#[]⟩] 33))
  have hgx := Z3.out.lt
  clear hb4 R3 K3 Z3
  generalize w3.alloc (.cells #[.int .i64 3, .bool false, .slice none 0 0, .slice none 0 0, .int .i64 0, .slice none 0 0, .string ⟨#[]⟩] 33) = w4 at *
  generalize w3.heap.size = gx at *
  have c0 := X4.out.cell 0; have c1 := X4.out.cell 1; have c2 := X4.out.cell 2; have c3 := X4.out.cell 3; have c4 := X4.out.cell 4; have c5 := X4.out.cell 5; have c6 := X4.out.cell 6
  have lx := X4.out.lt
  simp at c0 c1 c2 c3 c4 c5 c6
  go_wp2_with fail
  refine (txt2 R4.out (by omega) htg).mono ?_
  rintro e w5 ⟨rfl, hr5, hk5⟩
  have R5 := Av.mk hr5
  have K5 := Av.mk (K4.out.trans hk5)
  have Z5 := Av.mk (Z4.out.keep hk5 (by rintro (h | h) <;> omega))
  have X5 := Av.mk (X4.out.keep hk5 (by rintro (h | h) <;> omega))
  clear hr5 hk5 c0 c1 c2 c3 c4 c5 c6 lx R4 K4 Z4 X4
  have f6 := X5.out.frozen 6
  have c6 := X5.out.cell 6
  have lx := X5.out.lt
  simp at c6
  go_upto_region 25 with (fail)
  have X6 := Av.mk (X5.out.set_ 6 (.string tg))
  have K6 := Av.mk ((K5.out.mono (S' := fun k => (k = r ∨ k = x) ∨ g ≤ k) (fun k _ h => .inl h)).setCell (p := ⟨gx, 6, none⟩) (fun _ => .inr (Nat.le_of_lt hgx)) (.string tg))
  have Z6 := Av.mk (Z5.out.far (p := ⟨gx, 6, none⟩) (by show g ≠ gx; omega) (.string tg))
  have R6 : Av (Rr (w5.setCell ⟨gx, 6, none⟩ (.string tg)) r x (stOf rest) (left - 1)) := ⟨R5.out.keep ((Keep.refl (fun k => k = gx) w5).setCell (p := ⟨gx, 6, none⟩) (fun _ => rfl) _) (by omega) (by omega)⟩
  clear lx f6 c6 X5 K5 Z5 R5
  generalize w5.setCell ⟨gx, 6, none⟩ (.string tg) = w6 at *
  have c0 := X6.out.cell 0; have c1 := X6.out.cell 1; have c2 := X6.out.cell 2; have c3 := X6.out.cell 3; have c4 := X6.out.cell 4; have c5 := X6.out.cell 5; have c6 := X6.out.cell 6
  have lx := X6.out.lt
  simp at c0 c1 c2 c3 c4 c5 c6
  go_wp2_with (first | (refine wpList_putB rfl 33 (.tmp 4) (.tmp 120) rfl g 33 _ _ rfl rfl (by kernel_rfl) Z6.out rfl (by simp [Value.oneCell']) ?_; intro w9 hb9 hk9; have HB9 := Av.mk hb9; have HK9 := Av.mk hk9; clear hb9 hk9))
  have e0 := HB9.out.cell 0; have e1 := HB9.out.cell 1; have e2 := HB9.out.cell 2; have e3 := HB9.out.cell 3; have e4 := HB9.out.cell 4; have e5 := HB9.out.cell 5; have e6 := HB9.out.cell 6
  simp at e0 e1 e2 e3 e4 e5 e6
  refine bodyPost_ret (v := .agg #[.int .i64 3, .bool false, .slice none 0 0, .slice none 0 0, .int .i64 0, .slice none 0 0, .string tg]) (by simp [results, Tryd.results77, go_sem, e0, e1, e2, e3, e4, e5, e6]) rfl ?_
  exact ⟨none, 0, none, 0, none, 0, rfl, Rep.of (Sl.nil _ _ _ none 0) (Sl.nil _ _ _ none 0) (RepL.nil _ _ none 0), R6.out.keep HK9.out (by omega) (by omega), node_keep2 K6.out HK9.out HG.out⟩

theorem flat_drop_len (ex : List IExt) (j : Nat) : ((ex.drop j).flatMap exB).length ≤ (ex.flatMap exB).length := by
  conv => rhs; rw [← List.take_append_drop j ex, List.flatMap_append, List.length_append]
  omega
theorem take_one {α : Type} {l : List α} {j : Nat} {a : α} (h : l[j]? = some a) : l.take (j + 1) = l.take j ++ [a] := by
  rw [List.take_add_one, h]; rfl

set_option maxRecDepth 100000 in
set_option maxHeartbeats 4000000 in
theorem node_file (sz : Int) (ex : List IExt) (hs0 : 0 ≤ sz) (hs1 : sz < 4294967296) (hel : ex.length ≤ 1000000) (hex : ∀ x ∈ ex, 0 ≤ x.1 ∧ x.1 < 4294967296 ∧ x.2.size ≤ 1000000) : NodeC (.node 1 false [] [] sz ex ⟨#[]⟩) := by
  intro w r x rest depth left hr hlen h1 h2 h3 h4
  rw [enc_file, List.append_assoc, List.append_assoc, List.append_assoc] at hr hlen
  have hcnt : T.count (.node 1 false [] [] sz ex ⟨#[]⟩) = 1 := by simp [T.count, T.countL]
  rw [hcnt] at h1 ⊢
  simp only [List.length_append, be_length] at hlen
  have HEX := Av.mk hex
  clear hex
  have h1' : (1 : Int) ≤ left := by omega
  have HR := Av.mk hr
  have hb1 := below_alloc (Below.refl _ w) (.cells #[.int .i64 0, .bool false, .slice none 0 0, .slice none 0 0, .int .i64 0, .slice none 0 0, .string ⟨#[]⟩] 33)
  have R1 := Av.mk (hr.grow hb1)
  have Z1 := Av.mk (Blk.new w 33 #[.int .i64 0, .bool false, .slice none 0 0, .slice none 0 0, .int .i64 0, .slice none 0 0, .string ⟨#[]⟩])
  have K1 := Av.mk ((Keep.refl (fun k => k = r ∨ k = x) w).alloc (.cells #[.int .i64 0, .bool false, .slice none 0 0, .slice none 0 0, .int .i64 0, .slice none 0 0, .string ⟨#[]⟩] 33))
  have hrg := hr.blk.lt
  have hxg := Blk.lt hr.rd
  clear hr hb1
  go_enter Tryd.func77, Tryd.ntmps77
  go_upto_region 1 with (fail)
  generalize w.alloc (.cells #[.int .i64 0, .bool false, .slice none 0 0, .slice none 0 0, .int .i64 0, .slice none 0 0, .string ⟨#[]⟩] 33) = w1 at *
  generalize hg : w.heap.size = g at *
  have HG := Av.mk hg
  clear hg
  have c2 := R1.out.blk.cell 2
  have f2 := R1.out.blk.frozen 2
  have lr := R1.out.blk.lt
  simp at c2
  go_upto_region 2 with (fail)
  have R2 := Av.mk (R1.out.less (left' := left - 1))
  have K2 := Av.mk (K1.out.setCell (p := ⟨r, 2, none⟩) (fun _ => .inl rfl) (.int .i64 (left - 1)))
  have Z2 := Av.mk (Z1.out.far (p := ⟨r, 2, none⟩) (by show g ≠ r; omega) (.int .i64 (left - 1)))
  clear c2 f2 lr R1 K1 Z1
  generalize w1.setCell ⟨r, 2, none⟩ (.int .i64 (left - 1)) = w2 at *
  have c1 := R2.out.blk.cell 1
  have c2 := R2.out.blk.cell 2
  have lr := R2.out.blk.lt
  simp at c1 c2
  have hd15 : depth ≤ 15 := by omega
  go_wp2_with fail
  refine (num1 (n := 1) R2.out (by simp only [List.length_append, be_length]; omega) (by decide) (by decide)).mono ?_
  rintro e w3 ⟨rfl, hr3, hk3⟩
  have R3 := Av.mk hr3
  have K3 := Av.mk (K2.out.trans hk3)
  have Z3 := Av.mk (Z2.out.keep hk3 (by rintro (h | h) <;> omega))
  clear hr3 hk3 c1 c2 lr R2 K2 Z2
  go_upto_region 7 with (fail)
  have hb4 := below_alloc (Below.refl _ w3) (.cells #[.int .i64 1, .bool false, .slice none 0 0, .slice none 0 0, .int .i64 0, .slice none 0 0, .string ⟨#[]⟩] 33)
  have X4 := Av.mk (Blk.new w3 33 #[.int .i64 1, .bool false, .slice none 0 0, .slice none 0 0, .int .i64 0, .slice none 0 0, .string ⟨#[]⟩])
  have R4 := Av.mk (R3.out.grow hb4)
  have K4 := Av.mk (K3.out.alloc (.cells #[.int .i64 1, .bool false, .slice none 0 0, .slice none 0 0, .int .i64 0, .slice none 0 0, .string ⟨#[]⟩] 33))
  have Z4 := Av.mk (Z3.out.alloc (.cells #[.int .i64 1, .bool false, .slice none 0 0, .slice none 0 0, .int .i64 0, .slice none 0 0, .string ⟨#[]⟩] 33))
  have hgx := Z3.out.lt
  clear hb4 R3 K3 Z3
  generalize w3.alloc (.cells #[.int .i64 1, .bool false, .slice none 0 0, .slice none 0 0, .int .i64 0, .slice none 0 0, .string ⟨#[]⟩] 33) = w4 at *
  generalize w3.heap.size = gx at *
  have c0 := X4.out.cell 0; have c1 := X4.out.cell 1; have c2 := X4.out.cell 2; have c3 := X4.out.cell 3; have c4 := X4.out.cell 4; have c5 := X4.out.cell 5; have c6 := X4.out.cell 6
  have lx := X4.out.lt
  simp at c0 c1 c2 c3 c4 c5 c6
  go_wp2_with fail
  refine (num4 R4.out (by simp only [List.length_append, be_length]; omega) hs0 hs1).mono ?_
  rintro e w5 ⟨rfl, hr5, hk5⟩
  have R5 := Av.mk hr5
  have K5 := Av.mk (K4.out.trans hk5)
  have Z5 := Av.mk (Z4.out.keep hk5 (by rintro (h | h) <;> omega))
  have X5 := Av.mk (X4.out.keep hk5 (by rintro (h | h) <;> omega))
  clear hr5 hk5 c0 c1 c2 c3 c4 c5 c6 lx R4 K4 Z4 X4
  have f4 := X5.out.frozen 4
  have c4 := X5.out.cell 4
  have lx := X5.out.lt
  simp at c4
  go_upto_region 10 with (fail)
  have X6 := Av.mk (X5.out.set_ 4 (.int .i64 sz))
  have K6 := Av.mk ((K5.out.mono (S' := fun k => (k = r ∨ k = x) ∨ g ≤ k) (fun k _ h => .inl h)).setCell (p := ⟨gx, 4, none⟩) (fun _ => .inr (Nat.le_of_lt hgx)) (.int .i64 sz))
  have Z6 := Av.mk (Z5.out.far (p := ⟨gx, 4, none⟩) (by show g ≠ gx; omega) (.int .i64 sz))
  have R6 : Av (Rr (w5.setCell ⟨gx, 4, none⟩ (.int .i64 sz)) r x (stOf (be ex.length 4 ++ (ex.flatMap exB ++ rest))) (left - 1)) := ⟨R5.out.keep ((Keep.refl (fun k => k = gx) w5).setCell (p := ⟨gx, 4, none⟩) (fun _ => rfl) _) (by omega) (by omega)⟩
  clear lx f4 c4 X5 K5 Z5 R5
  generalize w5.setCell ⟨gx, 4, none⟩ (.int .i64 sz) = w6 at *
  go_wp2_with fail
  refine (num4 R6.out (by simp only [List.length_append, be_length]; omega) (by omega) (by omega)).mono ?_
  rintro e w7 ⟨rfl, hr7, hk7⟩
  have R7 := Av.mk hr7
  have K7 := Av.mk (K6.out.trans (hk7.mono (fun k _ h => .inl h)))
  have Z7 := Av.mk (Z6.out.keep hk7 (by rintro (h | h) <;> omega))
  have X7 : Av (Blk w7 gx 33 #[.int .i64 1, .bool false, .slice none 0 0, .slice none 0 0, .int .i64 sz, .slice none 0 0, .string ⟨#[]⟩]) := ⟨X6.out.keep hk7 (by rintro (h | h) <;> omega)⟩
  clear hr7 hk7 R6 K6 Z6 X6
  go_wp2_with fail
  go_loopw [6] (fun s6 wr => ∃ (j : Nat) (Ae : Option Addr) (ce : Nat), j ≤ ex.length ∧ s6 = .int .i64 ((ex.length : Int) - j) ∧ Rr wr r x (stOf ((ex.drop j).flatMap exB ++ rest)) (left - 1) ∧ Blk wr gx 33 #[.int .i64 1, .bool false, .slice none 0 0, .slice none 0 0, .int .i64 sz, .slice Ae j ce, .string ⟨#[]⟩] ∧
    Blk wr g 33 #[.int .i64 0, .bool false, .slice none 0 0, .slice none 0 0, .int .i64 0, .slice none 0 0, .string ⟨#[]⟩] ∧ wr.ownsRow gx 107 2 (.slice Ae j ce) j (iCells (ex.take j)) ∧ Keep (fun k => (k = r ∨ k = x) ∨ g ≤ k) w wr) (fun s6 _ => (intOf s6).toNat)
  case atStart => exact ⟨0, none, 0, Nat.zero_le _, by simp, R7.out, X7.out, Z7.out, ⟨rfl, .inl ⟨rfl, rfl⟩⟩, K7.out⟩
  case round =>
    obtain ⟨j, Ae, ce, hj, rfl, hr, hx, hz, he, hk⟩ := hrel
    have RJ := Av.mk hr
    have XJ := Av.mk hx
    have ZJ := Av.mk hz
    have EJ := Av.mk he
    have KJ := Av.mk hk
    have c1 := hr.blk.cell 1
    have lr := hr.blk.lt
    simp at c1
    clear hr hx hz he hk
    by_cases hlt : j < ex.length
    · obtain ⟨⟨xo, xd⟩, hxj⟩ : ∃ x, ex[j]? = some x := ⟨_, List.getElem?_eq_getElem hlt⟩
      have hxx := HEX.out _ (List.mem_of_getElem? hxj)
      simp only at hxx
      obtain ⟨hx0, hx1, hx2⟩ := hxx
      have hl8 := flat_drop_len ex j
      rw [drop_at hxj, List.flatMap_cons, List.length_append] at hl8
      simp only [exB, List.length_append, be_length, bsOf_length] at hl8
      have RJ2 : Av (Rr wr r x (stOf (be xo 4 ++ (be xd.size 4 ++ (bsOf xd ++ ((ex.drop (j + 1)).flatMap exB ++ rest))))) (left - 1)) := ⟨by
        have := RJ.out
        rw [drop_at hxj, List.flatMap_cons] at this
        simpa only [exB, List.append_assoc] using this⟩
      have HTK := Av.mk (take_one hxj)
      obtain ⟨rs, hrs⟩ : ∃ rs, (ex.drop (j + 1)).flatMap exB ++ rest = rs := ⟨_, rfl⟩
      have hrl : rs.length = ((ex.drop (j + 1)).flatMap exB).length + rest.length := by rw [← hrs, List.length_append]
      rw [hrs] at RJ2
      have HRS := Av.mk hrs
      have hb9 : xd.size + rs.length ≤ 900000 := by omega
      have hb8 : (be xd.size 4 ++ (bsOf xd ++ rs)).length ≤ 900000 := by simp only [List.length_append, be_length, bsOf_length]; omega
      clear hxj hl8 hrs hrl RJ
      go_wp2_with fail
      refine (num4 RJ2.out hb8 hx0 hx1).mono ?_
      rintro e w8 ⟨rfl, hr8, hk8⟩
      have R8 := Av.mk hr8
      have K8 := Av.mk (KJ.out.trans (hk8.mono (fun k _ h => .inl h)))
      have Z8 := Av.mk (ZJ.out.keep hk8 (by rintro (h | h) <;> omega))
      have X8 := Av.mk (XJ.out.keep hk8 (by rintro (h | h) <;> omega))
      have E8 := Av.mk (row_keep EJ.out hk8 (fun k e => by have := row_base EJ.out k e.symm; rintro (h | h) <;> omega))
      clear hr8 hk8 c1 lr RJ2 KJ ZJ XJ EJ
      go_upto_region 14 with (fail)
      have HT : Av (∀ W, Bel w8 W → Calls Tryd.prog 95 #[.pointer (some ⟨r, 0, none⟩), .int .i64 4] W (RrP (.string xd) r x (stOf rs) (left - 1) W)) := ⟨fun W hW => txt4 (R8.out.grow hW) hb9 (by omega)⟩
      have y5 := X8.out.cell 5
      have ly := X8.out.lt
      simp at y5
      have q1 : j + 1 ≤ maxLen := by unfold maxLen; omega
      have q2 : (j + 1) * 24 ≤ 140737488355328 := by omega
      obtain ⟨i107, hi107⟩ := info107
      have I107 := Av.mk hi107
      clear hi107
      go_region_law (first
        | (go_simp
           go_at_call 95
           go_wp2_with
             (go_at_call 95
              refine (HT.out _ (bel_drew _)).mono ?_
              rintro e w9 ⟨rfl, hr9, hk9⟩
              have R9 := Av.mk hr9
              have K9 := Av.mk hk9
              have Z9 := Av.mk (Z8.out.drew.keep hk9 (by rintro (h | h) <;> omega))
              have X9 := Av.mk (X8.out.drew.keep hk9 (by rintro (h | h) <;> omega))
              have E9 := Av.mk (row_keep (w := w8.drew) E8.out hk9 (fun k e => by have := row_base E8.out k e.symm; rintro (h | h) <;> omega))
              have y5' := X9.out.cell 5
              have fy5 := X9.out.frozen 5
              have ly' := X9.out.lt
              simp at y5'
              clear hr9 hk9))
        | (refine step_app rfl _ _ 31 rfl gx 107 i107 _ 2 24 Tryd.underlying31 I107.out.1 I107.out.2.1 I107.out.2.2.1 I107.out.2.2.2 (by rfl) (by decide) (.slice Ae j ce) j _ rfl (E9.out.alloc _) ⟨w9.heap.size, 0, none⟩ 1 1 [.int .i64 xo, .string xd] rfl rfl (new_cells w9 [.int .i64 xo, .string xd] 107) (by simp [Value.oneCell']) q1 q2 (by simp; omega) ?_
           intro Ae2 ce2 w10 ho10 hg10 hd10
           have HO10 := Av.mk ho10
           have HG10 := Av.mk hg10
           have HD10 := Av.mk hd10
           have X10 := Av.mk ((X9.out.alloc (.cells #[.int .i64 xo, .string xd] 107)).grown hg10 (row_ne E9.out X9.out (by decide)))
           have y5'' := X10.out.cell 5
           have fy5'' := X10.out.frozen 5
           have ly'' := X10.out.lt
           simp at y5''
           clear ho10 hg10 hd10))
      all_goals go_wp2_with fail
      all_goals
        have hkk : Keep (fun k => k = gx ∨ (Value.slice Ae j ce).ownBlock = some k) w9 (w10.setCell ⟨gx, 5, none⟩ (.slice Ae2 (j + 1) ce2)) :=
          (((Keep.refl (fun k => k = gx ∨ (Value.slice Ae j ce).ownBlock = some k) w9).alloc (.cells #[.int .i64 xo, .string xd] 107)).grown HG10.out (fun k hk _ => .inr hk)).setCell (p := ⟨gx, 5, none⟩) (fun _ => .inl rfl) _
        have hob : ∀ k, (Value.slice Ae j ce).ownBlock = some k → gx ≤ k := fun k e => row_base E9.out k e.symm
        have X11 : Blk (w10.setCell ⟨gx, 5, none⟩ (.slice Ae2 (j + 1) ce2)) gx 33 #[.int .i64 1, .bool false, .slice none 0 0, .slice none 0 0, .int .i64 sz, .slice Ae2 (j + 1) ce2, .string ⟨#[]⟩] := by
          simpa using X10.out.set_ 5 (.slice Ae2 (j + 1) ce2)
        have R11 := R9.out.keep hkk (by rintro (h | h); omega; have := hob _ h; omega) (by rintro (h | h); omega; have := hob _ h; omega)
        have Z11 := Z9.out.keep hkk (by rintro (h | h); omega; have := hob _ h; omega)
        have E11 : (w10.setCell ⟨gx, 5, none⟩ (.slice Ae2 (j + 1) ce2)).ownsRow gx 107 2 (.slice Ae2 (j + 1) ce2) (j + 1) (iCells (ex.take (j + 1))) := by
          have e1 : iCells (ex.take (j + 1)) = iCells (ex.take j) ++ [.int .i64 xo, .string xd] := by rw [HTK.out]; simp [iCells, iC]
          rw [e1]
          have hn := row_ne HO10.out X10.out (by decide)
          exact row_keep HO10.out ((Keep.refl (fun k => k = gx) w10).setCell (p := ⟨gx, 5, none⟩) (fun _ => rfl) _) (fun k e hk => hn (by rw [← hk, e]))
        have K11 := ((K8.out.drew).trans (K9.out.mono (S' := fun k => (k = r ∨ k = x) ∨ g ≤ k) (fun k _ h => .inl h))).trans (hkk.mono (S' := fun k => (k = r ∨ k = x) ∨ g ≤ k) (fun k _ h => .inr (by rcases h with h | h; omega; have := hob _ h; omega)))
        refine ⟨⟨j + 1, Ae2, ce2, by omega, by go_num, by rw [HRS.out]; exact R11, X11, Z11, E11, K11⟩, by simp [intOf]; omega⟩
    · obtain rfl : j = ex.length := by omega
      have c0 := XJ.out.cell 0; have c1x := XJ.out.cell 1; have c2 := XJ.out.cell 2; have c3 := XJ.out.cell 3; have c4 := XJ.out.cell 4; have c5 := XJ.out.cell 5; have c6 := XJ.out.cell 6
      have lx := XJ.out.lt
      simp at c0 c1x c2 c3 c4 c5 c6
      have RL : Av (Rr wr r x (stOf rest) (left - 1)) := ⟨by have := RJ.out; rwa [List.drop_length, List.flatMap_nil, List.nil_append] at this⟩
      have EL : Av (wr.ownsRow gx 107 2 (.slice Ae ex.length ce) ex.length (iCells ex)) := ⟨by have := EJ.out; rwa [List.take_length] at this⟩
      go_wp2_with (first | (refine wpList_putB rfl 33 (.tmp 4) (.tmp 120) rfl g 33 _ _ rfl rfl (by kernel_rfl) ZJ.out rfl (by simp [Value.oneCell']) ?_; intro w9 hb9 hk9; have HB9 := Av.mk hb9; have HK9 := Av.mk hk9; clear hb9 hk9))
      have e0 := HB9.out.cell 0; have e1 := HB9.out.cell 1; have e2 := HB9.out.cell 2; have e3 := HB9.out.cell 3; have e4 := HB9.out.cell 4; have e5 := HB9.out.cell 5; have e6 := HB9.out.cell 6
      simp at e0 e1 e2 e3 e4 e5 e6
      refine bodyPost_ret (v := .agg #[.int .i64 1, .bool false, .slice none 0 0, .slice none 0 0, .int .i64 sz, .slice Ae ex.length ce, .string ⟨#[]⟩]) (by simp [results, Tryd.results77, go_sem, e0, e1, e2, e3, e4, e5, e6]) rfl ?_
      have EL2 := row_keep EL.out HK9.out (fun k e h => by have := row_base EL.out k e.symm; omega)
      exact ⟨none, 0, none, 0, Ae, ce, rfl, Rep.of (Sl.nil _ _ _ none 0) (Sl.of_row EL2 (fun k e => by have := row_base EL2 k e.symm; have := HG.out; omega)) (RepL.nil _ _ none 0), RL.out.keep HK9.out (by omega) (by omega), node_keep2 KJ.out HK9.out HG.out⟩

set_option maxRecDepth 100000 in
set_option maxHeartbeats 4000000 in
theorem node_dir (o : Bool) (ns : List ByteArray) (its : List T) (hn : ns.length = its.length) (hl : ns.length < 65536) (hs : ∀ s ∈ ns, s.size < 256) (ih : ∀ u ∈ its, NodeC u) : NodeC (.node 2 o ns its 0 [] ⟨#[]⟩) := by
  intro w r x rest depth left hr hlen h1 h2 h3 h4
  rw [enc_dir, List.append_assoc, List.append_assoc, List.append_assoc] at hr hlen
  have hcnt : T.count (.node 2 o ns its 0 [] ⟨#[]⟩) = 1 + T.countL its := by rw [T.count_eq]; rfl
  have hdep : T.depth (.node 2 o ns its 0 [] ⟨#[]⟩) = T.depthL its := rfl
  rw [hcnt] at h1 ⊢
  rw [hdep] at h4
  simp only [List.length_append, be_length] at hlen
  have HIH := Av.mk ih
  have HNL := Av.mk hn
  have HS := Av.mk hs
  clear ih hn hs
  obtain ⟨q, hq⟩ : ∃ q : Int, q = if o = true then 1 else 0 := ⟨_, rfl⟩
  rw [← hq] at hr
  have tq : (q == 1) = o := by rw [hq]; cases o <;> rfl
  have tq1 : ¬ 1 < q := by rw [hq]; cases o <;> decide
  have hq0 : 0 ≤ q := by rw [hq]; cases o <;> decide
  have HTQ := Av.mk tq
  clear hq tq
  have h1' : (1 : Int) ≤ left := by omega
  have HR := Av.mk hr
  have hb1 := below_alloc (Below.refl _ w) (.cells #[.int .i64 0, .bool false, .slice none 0 0, .slice none 0 0, .int .i64 0, .slice none 0 0, .string ⟨#[]⟩] 33)
  have R1 := Av.mk (hr.grow hb1)
  have Z1 := Av.mk (Blk.new w 33 #[.int .i64 0, .bool false, .slice none 0 0, .slice none 0 0, .int .i64 0, .slice none 0 0, .string ⟨#[]⟩])
  have K1 := Av.mk ((Keep.refl (fun k => k = r ∨ k = x) w).alloc (.cells #[.int .i64 0, .bool false, .slice none 0 0, .slice none 0 0, .int .i64 0, .slice none 0 0, .string ⟨#[]⟩] 33))
  have hrg := hr.blk.lt
  have hxg := Blk.lt hr.rd
  clear hr hb1
  go_enter Tryd.func77, Tryd.ntmps77
  go_upto_region 1 with (fail)
  generalize w.alloc (.cells #[.int .i64 0, .bool false, .slice none 0 0, .slice none 0 0, .int .i64 0, .slice none 0 0, .string ⟨#[]⟩] 33) = w1 at *
  generalize hg : w.heap.size = g at *
  have HG := Av.mk hg
  clear hg
  have c2 := R1.out.blk.cell 2
  have f2 := R1.out.blk.frozen 2
  have lr := R1.out.blk.lt
  simp at c2
  go_upto_region 2 with (fail)
  have R2 := Av.mk (R1.out.less (left' := left - 1))
  have K2 := Av.mk (K1.out.setCell (p := ⟨r, 2, none⟩) (fun _ => .inl rfl) (.int .i64 (left - 1)))
  have Z2 := Av.mk (Z1.out.far (p := ⟨r, 2, none⟩) (by show g ≠ r; omega) (.int .i64 (left - 1)))
  clear c2 f2 lr R1 K1 Z1
  generalize w1.setCell ⟨r, 2, none⟩ (.int .i64 (left - 1)) = w2 at *
  have c1 := R2.out.blk.cell 1
  have c2 := R2.out.blk.cell 2
  have lr := R2.out.blk.lt
  simp at c1 c2
  have hd15 : depth ≤ 15 := by omega
  go_wp2_with fail
  refine (num1 (n := 2) R2.out (by simp only [List.length_append, be_length]; omega) (by decide) (by decide)).mono ?_
  rintro e w3 ⟨rfl, hr3, hk3⟩
  have R3 := Av.mk hr3
  have K3 := Av.mk (K2.out.trans hk3)
  have Z3 := Av.mk (Z2.out.keep hk3 (by rintro (h | h) <;> omega))
  clear hr3 hk3 c1 c2 lr R2 K2 Z2
  go_upto_region 7 with (fail)
  have hb4 := below_alloc (Below.refl _ w3) (.cells #[.int .i64 2, .bool false, .slice none 0 0, .slice none 0 0, .int .i64 0, .slice none 0 0, .string ⟨#[]⟩] 33)
  have X4 := Av.mk (Blk.new w3 33 #[.int .i64 2, .bool false, .slice none 0 0, .slice none 0 0, .int .i64 0, .slice none 0 0, .string ⟨#[]⟩])
  have R4 := Av.mk (R3.out.grow hb4)
  have K4 := Av.mk (K3.out.alloc (.cells #[.int .i64 2, .bool false, .slice none 0 0, .slice none 0 0, .int .i64 0, .slice none 0 0, .string ⟨#[]⟩] 33))
  have Z4 := Av.mk (Z3.out.alloc (.cells #[.int .i64 2, .bool false, .slice none 0 0, .slice none 0 0, .int .i64 0, .slice none 0 0, .string ⟨#[]⟩] 33))
  have hgx := Z3.out.lt
  clear hb4 R3 K3 Z3
  generalize w3.alloc (.cells #[.int .i64 2, .bool false, .slice none 0 0, .slice none 0 0, .int .i64 0, .slice none 0 0, .string ⟨#[]⟩] 33) = w4 at *
  generalize w3.heap.size = gx at *
  have c0 := X4.out.cell 0; have c1 := X4.out.cell 1; have c2 := X4.out.cell 2; have c3 := X4.out.cell 3; have c4 := X4.out.cell 4; have c5 := X4.out.cell 5; have c6 := X4.out.cell 6
  have lx := X4.out.lt
  simp at c0 c1 c2 c3 c4 c5 c6
  go_wp2_with fail
  refine (num1 R4.out (by simp only [List.length_append, be_length]; omega) hq0 (by omega)).mono ?_
  rintro e w5 ⟨rfl, hr5, hk5⟩
  have R5 := Av.mk hr5
  have K5 := Av.mk (K4.out.trans hk5)
  have Z5 := Av.mk (Z4.out.keep hk5 (by rintro (h | h) <;> omega))
  have X5 := Av.mk (X4.out.keep hk5 (by rintro (h | h) <;> omega))
  clear hr5 hk5 c0 c1 c2 c3 c4 c5 c6 lx R4 K4 Z4 X4
  have f1 := X5.out.frozen 1
  have c1 := X5.out.cell 1
  have lx := X5.out.lt
  have d1 := R5.out.blk.cell 1
  have g1 := R5.out.blk.frozen 1
  have lr := R5.out.blk.lt
  have hne : gx ≠ r := by omega
  simp at c1 d1
  have tq := HTQ.out
  go_upto_region 18 with (fail)
  have hdq : decide (1 < q) = false := decide_eq_false (by omega)
  simp only [hdq]
  clear hdq
  have X6 := Av.mk ((X5.out.set_ 1 (.bool o)).far (p := ⟨r, 1, none⟩) hne (.bool false))
  have Z6 := Av.mk ((Z5.out.far (p := ⟨gx, 1, none⟩) (by show g ≠ gx; omega) (.bool o)).far (p := ⟨r, 1, none⟩) (by show g ≠ r; omega) (.bool false))
  have K6 := Av.mk (((K5.out.mono (S' := fun k => (k = r ∨ k = x) ∨ g ≤ k) (fun k _ h => .inl h)).setCell (p := ⟨gx, 1, none⟩) (fun _ => .inr (Nat.le_of_lt hgx)) (.bool o)).setCell (p := ⟨r, 1, none⟩) (fun _ => .inl (.inl rfl)) (.bool false))
  have R6 : Av (Rr ((w5.setCell ⟨gx, 1, none⟩ (.bool o)).setCell ⟨r, 1, none⟩ (.bool false)) r x (stOf (be ns.length 2 ++ (T.encL ns its ++ rest))) (left - 1)) := ⟨by
    have h0 := R5.out.keep ((Keep.refl (fun k => k = gx) w5).setCell (p := ⟨gx, 1, none⟩) (fun _ => rfl) (.bool o)) (by omega) (by omega)
    exact ⟨by simpa using h0.blk.set_ 1 (.bool false), Blk.far h0.rd (fun e => h0.ne e.symm) _⟩⟩
  clear lx f1 c1 d1 g1 lr tq X5 K5 Z5 R5
  generalize (w5.setCell ⟨gx, 1, none⟩ (.bool o)).setCell ⟨r, 1, none⟩ (.bool false) = w6 at *
  go_wp2_with fail
  refine (num2 R6.out (by simp only [List.length_append, be_length]; omega) (by omega) (by omega)).mono ?_
  rintro e w7 ⟨rfl, hr7, hk7⟩
  have R7 := Av.mk hr7
  have K7 := Av.mk (K6.out.trans (hk7.mono (fun k _ h => .inl h)))
  have Z7 := Av.mk (Z6.out.keep hk7 (by rintro (h | h) <;> omega))
  have X7 : Av (Blk w7 gx 33 #[.int .i64 2, .bool o, .slice none 0 0, .slice none 0 0, .int .i64 0, .slice none 0 0, .string ⟨#[]⟩]) := ⟨X6.out.keep hk7 (by rintro (h | h) <;> omega)⟩
  clear hr7 hk7 R6 K6 Z6 X6
  go_wp2_with fail
  go_loopw [9] (fun s9 wr => ∃ (j : Nat) (An : Option Addr) (cn : Nat) (Ai : Option Addr) (ci : Nat) (ps : List NV), j ≤ ns.length ∧ s9 = .int .i64 ((ns.length : Int) - j) ∧ Rr wr r x (stOf (T.encL (ns.drop j) (its.drop j) ++ rest)) (left - 1 - (T.countL (its.take j) : Int)) ∧
    Blk wr gx 33 #[.int .i64 2, .bool o, .slice An j cn, .slice Ai j ci, .int .i64 0, .slice none 0 0, .string ⟨#[]⟩] ∧ Blk wr g 33 #[.int .i64 0, .bool false, .slice none 0 0, .slice none 0 0, .int .i64 0, .slice none 0 0, .string ⟨#[]⟩] ∧ wr.ownsRow (gx + 1) 9 1 (.slice An j cn) j ((ns.take j).map Value.string) ∧ Kids wr (gx + 1) (.slice Ai j ci) (.slice An j cn) ps (its.take j) ∧ Keep (fun k => (k = r ∨ k = x) ∨ g ≤ k) w wr ∧
    Av ((T.encL (ns.drop j) (its.drop j)).length + rest.length ≤ 900000)) (fun s9 _ => (intOf s9).toNat)
  case atStart => exact ⟨0, none, 0, none, 0, [], Nat.zero_le _, by simp, by simpa [T.countL] using R7.out, X7.out, Z7.out, ⟨rfl, .inl ⟨rfl, rfl⟩⟩, Kids.nil _ _ _, K7.out, ⟨by show (T.encL ns its).length + rest.length ≤ 900000; omega⟩⟩
  case round =>
    obtain ⟨j, An, cn, Ai, ci, ps, hj, rfl, hr, hx, hz, hnm, hkd, hk, HLN⟩ := hrel
    have RJ := Av.mk hr
    have XJ := Av.mk hx
    have ZJ := Av.mk hz
    have NJ := Av.mk hnm
    have DJ := Av.mk hkd
    have KJ := Av.mk hk
    have c1 := hr.blk.cell 1
    have lr := hr.blk.lt
    simp at c1
    clear hr hx hz hnm hkd hk
    by_cases hlt : j < ns.length
    · obtain ⟨s, hsj⟩ : ∃ s, ns[j]? = some s := ⟨_, List.getElem?_eq_getElem hlt⟩
      have hlt2 : j < its.length := by rw [← HNL.out]; exact hlt
      obtain ⟨u, hu⟩ : ∃ u, its[j]? = some u := ⟨_, List.getElem?_eq_getElem hlt2⟩
      have hss := HS.out s (List.mem_of_getElem? hsj)
      have HIu := Av.mk (HIH.out u (List.mem_of_getElem? hu))
      have hct := T.countL_take hu
      have hct2 := T.countL_le its (j + 1)
      have hdp := T.depth_mem (List.mem_of_getElem? hu)
      have hle := HLN.out
      rw [T.encL_at hsj hu] at hle
      simp only [List.length_append, be_length, bsOf_length] at hle
      have RJ2 : Av (Rr wr r x (stOf (be s.size 1 ++ (bsOf s ++ (u.enc ++ (T.encL (ns.drop (j + 1)) (its.drop (j + 1)) ++ rest))))) (left - 1 - (T.countL (its.take j) : Int))) := ⟨by
        have := RJ.out
        rw [T.encL_at hsj hu] at this
        simpa only [List.append_assoc] using this⟩
      have HTN := Av.mk (take_one hsj)
      have HTI := Av.mk (take_one hu)
      have htl : (its.take j).length = j := by rw [List.length_take]; omega
      obtain ⟨lj, hlj⟩ : ∃ lj : Int, left - 1 - (T.countL (its.take j) : Int) = lj := ⟨_, rfl⟩
      obtain ⟨cj, hcj⟩ : ∃ cj : Nat, T.countL (its.take j) = cj := ⟨_, rfl⟩
      rw [hcj] at hlj hct
      rw [hct] at hct2
      have HCT := Av.mk hct
      have HLJ := Av.mk hlj
      have HCJ := Av.mk hcj
      rw [hcj, hlj] at RJ2
      obtain ⟨rs, hrs⟩ : ∃ rs, T.encL (ns.drop (j + 1)) (its.drop (j + 1)) ++ rest = rs := ⟨_, rfl⟩
      have hrl : rs.length = (T.encL (ns.drop (j + 1)) (its.drop (j + 1))).length + rest.length := by rw [← hrs, List.length_append]
      rw [hrs] at RJ2
      have HRS := Av.mk hrs
      have HTL := Av.mk htl
      have hb9 : s.size + (u.enc ++ rs).length ≤ 900000 := by rw [List.length_append]; omega
      have hb8 : (u.enc ++ rs).length ≤ 900000 := by omega
      have hb7 : (T.encL (ns.drop (j + 1)) (its.drop (j + 1))).length + rest.length ≤ 900000 := by omega
      have hu1 : (u.count : Int) ≤ lj := by omega
      have hu2 : lj ≤ 5000 := by omega
      have hu3 : depth + 1 + (u.depth : Int) ≤ 15 := by omega
      have hu4 : (0 : Int) ≤ depth + 1 := by omega
      have HN7 : Av (lj - (u.count : Int) = left - 1 - (T.countL (its.take (j + 1)) : Int)) := ⟨by rw [HCT.out]; omega⟩
      have HC77 : Av (∀ (W : World), Rr W r x (stOf (u.enc ++ rs)) lj → Calls Tryd.prog 77 #[.pointer (some ⟨r, 0, none⟩), .int .i64 (depth + 1)] W (NodeP r x u.kind u.opq u.names u.items u.size u.exts u.target rs (lj - u.count) W)) := ⟨fun W hW => by
        have h0 := HIu.out
        obtain ⟨uk, uo, uns, uits, usz, uex, utg⟩ := u
        exact h0 W r x rs (depth + 1) lj hW hb8 hu1 hu2 hu4 hu3⟩
      have HENC := Av.mk hb8
      clear hsj hu hle hrs hrl RJ hlj hcj hct hct2 hdp htl HIu hu1 hu2 hu3 hb8 HLN
      go_upto_region 21 with (fail)
      have HT : Av (∀ W, Bel wr W → Calls Tryd.prog 95 #[.pointer (some ⟨r, 0, none⟩), .int .i64 1] W (RrP (.string s) r x (stOf (u.enc ++ rs)) lj W)) := ⟨fun W hW => txt1 (RJ2.out.grow hW) hb9 hss⟩
      have y2 := XJ.out.cell 2
      have ly := XJ.out.lt
      simp at y2
      have q1 : j + 1 ≤ maxLen := by unfold maxLen; omega
      have q2 : (j + 1) * 16 ≤ 140737488355328 := by omega
      obtain ⟨i9, hi9⟩ := info9
      have I9 := Av.mk hi9
      clear hi9 c1 lr
      go_cut [104] (fun s104 wx => ∃ (An2 : Option Addr) (cn2 : Nat), Rr wx r x (stOf (u.enc ++ rs)) lj ∧ Blk wx gx 33 #[.int .i64 2, .bool o, .slice An2 (j + 1) cn2, .slice Ai j ci, .int .i64 0, .slice none 0 0, .string ⟨#[]⟩] ∧ Blk wx g 33 #[.int .i64 0, .bool false, .slice none 0 0, .slice none 0 0, .int .i64 0, .slice none 0 0, .string ⟨#[]⟩] ∧
        wx.ownsRow (gx + 1) 9 1 (.slice An2 (j + 1) cn2) (j + 1) ((ns.take (j + 1)).map Value.string) ∧ Kids wx (gx + 1) (.slice Ai j ci) (.slice An2 (j + 1) cn2) ps (its.take j) ∧ Keep (fun k => (k = r ∨ k = x) ∨ g ≤ k) w wx)
      case first =>
        go_region_law (first
          | (go_simp
             go_at_call 95
             go_wp2_with
               (go_at_call 95
                refine (HT.out _ (bel_drew _)).mono ?_
                rintro e w9 ⟨rfl, hr9, hk9⟩
                have R9 := Av.mk hr9
                have K9 := Av.mk hk9
                have Z9 := Av.mk (ZJ.out.drew.keep hk9 (by rintro (h | h) <;> omega))
                have X9 := Av.mk (XJ.out.drew.keep hk9 (by rintro (h | h) <;> omega))
                have N9 := Av.mk (row_keep (w := wr.drew) NJ.out hk9 (fun k e => by have := row_base NJ.out k e.symm; rintro (h | h) <;> omega))
                have y2' := X9.out.cell 2
                have fy2 := X9.out.frozen 2
                have ly' := X9.out.lt
                simp at y2'
                clear hr9 hk9))
          | (refine step_app rfl _ _ 23 rfl (gx + 1) 9 i9 _ 1 16 Tryd.underlying23 I9.out.1 I9.out.2.1 I9.out.2.2.1 I9.out.2.2.2 (by rfl) (by decide) (.slice An j cn) j _ rfl (N9.out.alloc _) ⟨w9.heap.size, 0, none⟩ 1 1 [.string s] rfl rfl (new_cells w9 [.string s] 9) (by simp [Value.oneCell']) q1 q2 (by simp; omega) ?_
             intro An2 cn2 w10 ho10 hg10 hd10
             have HO10 := Av.mk ho10
             have HG10 := Av.mk hg10
             have HD10 := Av.mk hd10
             have X10 := Av.mk ((X9.out.alloc (.cells #[.string s] 9)).grown hg10 (row_ne N9.out X9.out (by decide)))
             have y2'' := X10.out.cell 2
             have fy2'' := X10.out.frozen 2
             have ly'' := X10.out.lt
             simp at y2''
             clear ho10 hg10 hd10))
        all_goals
          go_wp2_with fail
          go_meet
          have hka : Keep (fun k => (Value.slice An j cn).ownBlock = some k) w9 w10 := ((Keep.refl (fun k => (Value.slice An j cn).ownBlock = some k) w9).alloc (.cells #[.string s] 9)).grown HG10.out (fun k hk _ => hk)
          have hks : Keep (fun k => k = gx) w10 (w10.setCell ⟨gx, 2, none⟩ (.slice An2 (j + 1) cn2)) := (Keep.refl (fun k => k = gx) w10).setCell (p := ⟨gx, 2, none⟩) (fun _ => rfl) _
          have hkk : Keep (fun k => k = gx ∨ (Value.slice An j cn).ownBlock = some k) w9 (w10.setCell ⟨gx, 2, none⟩ (.slice An2 (j + 1) cn2)) :=
            (hka.mono (fun k _ h => .inr h)).trans (hks.mono (fun k _ h => .inl h))
          have hob : ∀ k, (Value.slice An j cn).ownBlock = some k → gx + 1 ≤ k := fun k e => row_base N9.out k e.symm
          have X11 : Blk (w10.setCell ⟨gx, 2, none⟩ (.slice An2 (j + 1) cn2)) gx 33 #[.int .i64 2, .bool o, .slice An2 (j + 1) cn2, .slice Ai j ci, .int .i64 0, .slice none 0 0, .string ⟨#[]⟩] := by
            simpa using X10.out.set_ 2 (.slice An2 (j + 1) cn2)
          have R11 := R9.out.keep hkk (by rintro (h | h); omega; have := hob _ h; omega) (by rintro (h | h); omega; have := hob _ h; omega)
          have Z11 := Z9.out.keep hkk (by rintro (h | h); omega; have := hob _ h; omega)
          have N11 : (w10.setCell ⟨gx, 2, none⟩ (.slice An2 (j + 1) cn2)).ownsRow (gx + 1) 9 1 (.slice An2 (j + 1) cn2) (j + 1) ((ns.take (j + 1)).map Value.string) := by
            have e1 : (ns.take (j + 1)).map Value.string = (ns.take j).map Value.string ++ [.string s] := by rw [HTN.out, List.map_append]; rfl
            rw [e1]
            exact row_keep HO10.out hks (fun k e hk => by have := row_base HO10.out k e.symm; omega)
          have D10 : Kids w10 (gx + 1) (.slice Ai j ci) (.slice An2 (j + 1) cn2) ps (its.take j) := DJ.out.named (S := fun k => k = r ∨ k = x) (w1 := w9) ((Keep.refl (fun k => k = r ∨ k = x) wr).drew.trans K9.out) (by rintro k hk (h | h) <;> omega) (row_isT NJ.out) hka (by
            rcases HD10.out with h | h
            · exact .inl h
            · exact .inr ⟨_, h, by simp⟩)
          have D11 := D10.keep hks (by rintro k hk h; omega)
          have K11 := ((KJ.out.drew).trans (K9.out.mono (S' := fun k => (k = r ∨ k = x) ∨ g ≤ k) (fun k _ h => .inl h))).trans (hkk.mono (S' := fun k => (k = r ∨ k = x) ∨ g ≤ k) (fun k _ h => .inr (by rcases h with h | h; omega; have := hob _ h; omega)))
          exact ⟨An2, cn2, R11, X11, Z11, N11, D11, K11⟩
      case rest =>
        obtain ⟨An2, cn2, hr, hx, hz, hnm, hkd, hk⟩ := hcut
        obtain ⟨wn, rfl⟩ : ∃ wn, wn = wc := ⟨_, rfl⟩
        have RN := Av.mk hr
        have XN := Av.mk hx
        have ZN := Av.mk hz
        have NN := Av.mk hnm
        have DN := Av.mk hkd
        have KN := Av.mk hk
        clear hr hx hz hnm hkd hk RJ2 XJ ZJ NJ DJ KJ HT y2 ly q2 I9
        have HT : Av (∀ W, Bel wn W → Calls Tryd.prog 77 #[.pointer (some ⟨r, 0, none⟩), .int .i64 (depth + 1)] W (NodeP r x u.kind u.opq u.names u.items u.size u.exts u.target rs (lj - u.count) W)) := ⟨fun W hW => HC77.out W (RN.out.grow hW)⟩
        clear HC77
        obtain ⟨uk, uo, uns, uits, usz, uex, utg⟩ := u
        simp only [T.kind, T.opq, T.names, T.items, T.size, T.exts, T.target] at HT
        have y3 := XN.out.cell 3
        have ly := XN.out.lt
        simp at y3
        have q2 : (j + 1) * 112 ≤ 140737488355328 := by omega
        obtain ⟨i33, hi33⟩ := info33
        have I33 := Av.mk hi33
        clear hi33
        have drow : wn.ownsRow (gx + 1) 33 7 (.slice Ai j ci) j ((ps.zip (its.take j)).flatMap pairC) := by
          have := DN.out.row
          rwa [HTL.out] at this
        have DR := Av.mk drow
        clear drow
        have HWR : Av (IntKind.i64.wrap (depth + 1) = depth + 1) := ⟨IntWalk.i64_in _ (by omega)⟩
        go_upto_region 22 with (fail)
        go_region_law (first
          | (go_simp
             go_at_call 77
             go_wp2_with
               (go_at_call 77
                rw [HWR.out]
                refine (HT.out _ (bel_drew _)).mono ?_
                rintro e w9 ⟨Bn, dn, Bi, di, Be, de, rfl, hrep, hr9, hk9⟩
                have P9 := Av.mk hrep
                have R9 := Av.mk hr9
                have K9 := Av.mk hk9
                have Z9 := Av.mk (ZN.out.drew.keep hk9 (by rintro (h | h) <;> omega))
                have X9 := Av.mk (XN.out.drew.keep hk9 (by rintro (h | h) <;> omega))
                have N9 := Av.mk (row_keep (w := wn.drew) NN.out hk9 (fun k e => by have := row_base NN.out k e.symm; rintro (h | h) <;> omega))
                have D9 := Av.mk (row_keep (w := wn.drew) DR.out hk9 (fun k e => by have := row_base DR.out k e.symm; rintro (h | h) <;> omega))
                have y3' := X9.out.cell 3
                have fy3 := X9.out.frozen 3
                have ly' := X9.out.lt
                simp at y3'
                clear hrep hr9 hk9))
          | (refine step_app rfl _ _ 22 rfl (gx + 1) 33 i33 _ 7 112 Tryd.underlying22 I33.out.1 I33.out.2.1 I33.out.2.2.1 I33.out.2.2.2 (by rfl) (by decide) (.slice Ai j ci) j _ rfl (D9.out.alloc _) ⟨w9.heap.size, 0, none⟩ 1 1 [.int .i64 uk, .bool uo, .slice Bn uns.length dn, .slice Bi uits.length di, .int .i64 usz, .slice Be uex.length de, .string utg] rfl rfl (new_cells w9 [.int .i64 uk, .bool uo, .slice Bn uns.length dn, .slice Bi uits.length di, .int .i64 usz, .slice Be uex.length de, .string utg] 33) (by simp [Value.oneCell']) q1 q2 (by simp; omega) ?_
             intro Ai2 ci2 w10 ho10 hg10 hd10
             have HO10 := Av.mk ho10
             have HG10 := Av.mk hg10
             have HD10 := Av.mk hd10
             have X10 := Av.mk ((X9.out.alloc (.cells #[.int .i64 uk, .bool uo, .slice Bn uns.length dn, .slice Bi uits.length di, .int .i64 usz, .slice Be uex.length de, .string utg] 33)).grown hg10 (fun e => by have := row_base D9.out gx e; omega))
             have y3'' := X10.out.cell 3
             have fy3'' := X10.out.frozen 3
             have ly'' := X10.out.lt
             simp at y3''
             clear ho10 hg10 hd10))
        all_goals go_wp2_with fail
        all_goals
          have hka : Keep (fun k => (Value.slice Ai j ci).ownBlock = some k) w9 w10 := ((Keep.refl (fun k => (Value.slice Ai j ci).ownBlock = some k) w9).alloc (.cells #[.int .i64 uk, .bool uo, .slice Bn uns.length dn, .slice Bi uits.length di, .int .i64 usz, .slice Be uex.length de, .string utg] 33)).grown HG10.out (fun k hk _ => hk)
          have hks : Keep (fun k => k = gx) w10 (w10.setCell ⟨gx, 3, none⟩ (.slice Ai2 (j + 1) ci2)) := (Keep.refl (fun k => k = gx) w10).setCell (p := ⟨gx, 3, none⟩) (fun _ => rfl) _
          have hkk : Keep (fun k => k = gx ∨ (Value.slice Ai j ci).ownBlock = some k) w9 (w10.setCell ⟨gx, 3, none⟩ (.slice Ai2 (j + 1) ci2)) :=
            (hka.mono (fun k _ h => .inr h)).trans (hks.mono (fun k _ h => .inl h))
          have hob : ∀ k, (Value.slice Ai j ci).ownBlock = some k → gx + 1 ≤ k := fun k e => row_base D9.out k e.symm
          have hoT : ∀ k, (Value.slice Ai j ci).ownBlock = some k → IsT w9 33 k := row_isT D9.out
          have X11 : Blk (w10.setCell ⟨gx, 3, none⟩ (.slice Ai2 (j + 1) ci2)) gx 33 #[.int .i64 2, .bool o, .slice An2 (j + 1) cn2, .slice Ai2 (j + 1) ci2, .int .i64 0, .slice none 0 0, .string ⟨#[]⟩] := by
            simpa using X10.out.set_ 3 (.slice Ai2 (j + 1) ci2)
          have R11 := R9.out.keep hkk (by rintro (h | h); omega; have := hob _ h; omega) (by rintro (h | h); omega; have := hob _ h; omega)
          have Z11 := Z9.out.keep hkk (by rintro (h | h); omega; have := hob _ h; omega)
          have N11 : (w10.setCell ⟨gx, 3, none⟩ (.slice Ai2 (j + 1) ci2)).ownsRow (gx + 1) 9 1 (.slice An2 (j + 1) cn2) (j + 1) ((ns.take (j + 1)).map Value.string) :=
            row_keep N9.out hkk (fun k e hk => by
              rcases hk with hk | hk
              · have := row_base N9.out k e.symm; omega
              · exact absurd ((hoT k hk).one (row_isT N9.out k e)) (by decide))
          have D10 : Kids w10 (gx + 1) (.slice Ai2 (j + 1) ci2) (.slice An2 (j + 1) cn2) (ps ++ [⟨.slice Bn uns.length dn, .slice Bi uits.length di, .slice Be uex.length de⟩]) (its.take j ++ [.node uk uo uns uits usz uex utg]) :=
            DN.out.snoc (S := fun k => k = r ∨ k = x) (w1 := w9) (by have := XN.out.lt; omega) ((Keep.refl (fun k => k = r ∨ k = x) wn).drew.trans K9.out) (by rintro k hk (h | h) <;> omega) (fun k e => row_lt NN.out k e.symm) P9.out HG10.out (by rw [HTL.out]; exact HO10.out) HD10.out
          have D11 := D10.keep hks (by rintro k hk h; omega)
          rw [← HTI.out] at D11
          have K11 := ((KN.out.drew).trans (K9.out.mono (S' := fun k => (k = r ∨ k = x) ∨ g ≤ k) (fun k _ h => .inl h))).trans (hkk.mono (S' := fun k => (k = r ∨ k = x) ∨ g ≤ k) (fun k _ h => .inr (by rcases h with h | h; omega; have := hob _ h; omega)))
          refine ⟨⟨j + 1, An2, cn2, Ai2, ci2, _, by omega, by go_num, by rw [HRS.out, ← HN7.out]; exact R11, X11, Z11, N11, D11, K11, ⟨hb7⟩⟩, by simp [intOf]; omega⟩
    · obtain rfl : j = ns.length := by omega
      have c0 := XJ.out.cell 0; have c1x := XJ.out.cell 1; have c2 := XJ.out.cell 2; have c3 := XJ.out.cell 3; have c4 := XJ.out.cell 4; have c5 := XJ.out.cell 5; have c6 := XJ.out.cell 6
      have lx := XJ.out.lt
      simp at c0 c1x c2 c3 c4 c5 c6
      have htk : its.take ns.length = its := by rw [HNL.out, List.take_length]
      have hdk : its.drop ns.length = [] := by rw [HNL.out, List.drop_length]
      have RL : Av (Rr wr r x (stOf rest) (left - (1 + (T.countL its : Int)))) := ⟨by
        have h0 := RJ.out
        rw [htk, hdk, show ∀ l, T.encL l [] = [] from fun _ => rfl, List.nil_append] at h0
        rw [show left - (1 + (T.countL its : Int)) = left - 1 - (T.countL its : Int) by omega]
        exact h0⟩
      have NL : Av (wr.ownsRow (gx + 1) 9 1 (.slice An ns.length cn) ns.length (ns.map Value.string)) := ⟨by have := NJ.out; rwa [List.take_length] at this⟩
      have DL : Av (Kids wr (gx + 1) (.slice Ai ns.length ci) (.slice An ns.length cn) ps its) := ⟨by have := DJ.out; rwa [htk] at this⟩
      clear htk hdk
      go_wp2_with (first | (refine wpList_putB rfl 33 (.tmp 4) (.tmp 120) rfl g 33 _ _ rfl rfl (by kernel_rfl) ZJ.out rfl (by simp [Value.oneCell']) ?_; intro w9 hb9 hk9; have HB9 := Av.mk hb9; have HK9 := Av.mk hk9; clear hb9 hk9))
      have e0 := HB9.out.cell 0; have e1 := HB9.out.cell 1; have e2 := HB9.out.cell 2; have e3 := HB9.out.cell 3; have e4 := HB9.out.cell 4; have e5 := HB9.out.cell 5; have e6 := HB9.out.cell 6
      simp at e0 e1 e2 e3 e4 e5 e6
      refine bodyPost_ret (v := .agg #[.int .i64 2, .bool o, .slice An ns.length cn, .slice Ai ns.length ci, .int .i64 0, .slice none 0 0, .string ⟨#[]⟩]) (by simp [results, Tryd.results77, go_sem, e0, e1, e2, e3, e4, e5, e6]) rfl ?_
      have NL2 := row_keep NL.out HK9.out (fun k e h => by have := row_base NL.out k e.symm; omega)
      have DL2 := (DL.out.keep HK9.out (by rintro k hk h; omega)).repL.mono (B' := fun k => w.heap.size ≤ k) (fun k hk => by have := HG.out; omega)
      rw [HNL.out] at DL2
      exact ⟨An, cn, Ai, ci, none, 0, by rw [HNL.out]; rfl, Rep.of (Sl.of_row NL2 (fun k e => by have := row_base NL2 k e.symm; have := HG.out; omega)) (Sl.nil _ _ _ none 0) DL2, RL.out.keep HK9.out (by omega) (by omega), node_keep2 KJ.out HK9.out HG.out⟩
theorem node_calls {t : T} (h : Eok t) : NodeC t := by
  induction h with
  | file sz ex h0 h1 he hx => exact node_file sz ex h0 h1 he hx
  | dir o ns its hn hl hs hr ih => exact node_dir o ns its hn hl hs ih
  | link tg h => exact node_link tg h
  | white => exact node_white
end Go.Proofs.YtkmojgdjapfbbaaDoor
