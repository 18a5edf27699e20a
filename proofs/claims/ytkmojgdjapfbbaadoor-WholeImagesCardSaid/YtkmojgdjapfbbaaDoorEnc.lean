/- image.put: what a writer has, and what is still to be written. -/
import Derived.Test.YtkmojgdjapfbbaaDoorWir
import Derived.Test.YtkmojgdjapfbbaaDoorDt
import Derived.Test.YtkmojgdjapfbbaaDoorCt
namespace Go.Proofs.YtkmojgdjapfbbaaDoor
open Go.RowKit Go.Maps
set_option linter.unusedSimpArgs false
set_option linter.unusedVariables false

/-- Of all bytes some are written, since a world; some are left. -/
structure PE (w : World) (base g : Nat) (wr : World) (tot rest : List UInt8) : Prop where
  ex : ∃ v cur, Wr wr base g v cur ∧ tot = cur ++ rest
  keep : Keep (fun k => base ≤ k ∧ (k = g ∨ IsT w 5 k)) w wr
  g0 : IsT w 95 g
def PEP (v : Value) (w : World) (base g : Nat) (tot rest : List UInt8) (e : Ending) (w' : World) : Prop := e = .returned v ∧ PE w base g w' tot rest

section
variable {w wr w1 w2 : World} {base g : Nat} {tot r r2 : List UInt8} {n : Int} {sz : Nat}
theorem PE.self (h : PE w base g wr tot r) : PE wr base g wr tot r := by
  obtain ⟨v, cur, hw, e⟩ := h.ex
  exact ⟨⟨v, cur, hw, e⟩, Keep.refl _ _, hw.blk.isT⟩
theorem PE.next (h : PE w base g wr tot r) (h2 : PE wr base g w2 tot r2) : PE w base g w2 tot r2 :=
  ⟨h2.ex, ((h.keep.mono (S' := fun k => (base ≤ k ∧ (k = g ∨ IsT w 5 k)) ∨ w.heap.size ≤ k) (fun k _ hs => .inl hs)).trans (h2.keep.mono (fun k hk hs => by
    by_cases hkw : k < w.heap.size
    · rcases hs.2 with e | ht
      · exact .inl ⟨hs.1, .inl e⟩
      · by_cases hS : base ≤ k ∧ (k = g ∨ IsT w 5 k)
        · exact .inl hS
        · obtain ⟨cs, hcs⟩ := ht
          exact .inl ⟨hs.1, .inr ⟨cs, (h.keep.block k hkw hS).symm.trans hcs⟩⟩
    · exact .inr (by omega)))).mono (fun k hk hs => hs.elim id (fun h => absurd hk (by omega))), h.g0⟩
theorem PE.bel (h : PE w base g wr tot r) (hb : Bel wr w2) : PE w base g w2 tot r := by
  obtain ⟨v, cur, hw, e⟩ := h.ex
  exact h.next ⟨⟨v, cur, hw.keep (S := fun _ => False) (Keep.of_below hb) (fun h => h) (fun _ _ h => h), e⟩, (Keep.of_below hb), hw.blk.isT⟩
theorem PE.begin (h : PE w base g w tot r) (hb : Bel w w1) : PE w1 base g w1 tot r := (h.bel hb).self
theorem PE.blk (h : PE w base g wr tot r) {b : Nat} {t : TypeId} {cs : Array Value} (hb : Blk w b t cs) (h1 : t ≠ 95) (h2 : t ≠ 5) : Blk wr b t cs :=
  hb.keep h.keep (by
    rintro ⟨_, rfl | ht⟩
    · exact h1 (hb.isT.one h.g0)
    · exact h2 (hb.isT.one ht))
theorem PE.rep {B : Nat → Prop} {p : NV} {t : T} (h : PE w base g wr tot r) (hr : Rep B w p t) (hB : ∀ k, B k → k < base) : Rep B wr p t :=
  hr.keep h.keep (fun k hk hs => by have := hB k hk; have := hs.1; omega)
theorem PE.sl {B : Nat → Prop} {size n : Nat} {v : Value} {cs : List Value} (h : PE w base g wr tot r) (hr : Sl B w size v n cs) (hB : ∀ k, B k → k < base) : Sl B wr size v n cs :=
  hr.keep h.keep (fun k hk hs => by have := hB k hk; have := hs.1; omega)
theorem PE.repL {B : Nat → Prop} {v : Value} {l : List T} (h : PE w base g wr tot r) (hr : RepL B w v l) (hB : ∀ k, B k → k < base) : RepL B wr v l :=
  hr.keep h.keep (fun k hk hs => by have := hB k hk; have := hs.1; omega)
/-- A number written. -/
theorem PE.put (h : PE w base g wr tot (be n sz ++ r)) (ht : tot.length ≤ 900000) (h1 : 1 ≤ sz) (h4 : sz ≤ 4) (hn0 : 0 ≤ n) (hn1 : n < 256 ^ sz) :
    Calls Tryd.prog 73 #[.pointer (some ⟨g, 0, none⟩), .int .i64 n, .int .i64 sz] wr (PEP (.bool true) w base g tot r) := by
  obtain ⟨v, cur, hw, e⟩ := h.ex
  have hl : cur.length ≤ 1000000 := by rw [e, List.length_append] at ht; omega
  refine (Put_yes base g v cur n sz wr hw h1 h4 hn0 hn1 hl).mono ?_
  rintro e' w' ⟨rfl, v', hw', hk, _⟩
  exact ⟨rfl, h.next ⟨⟨v', _, hw', by rw [e, List.append_assoc]⟩, hk.mono (fun k hk hs => hs.elim (fun e => by subst e; exact ⟨hw.le, .inl rfl⟩) (fun hs => ⟨row_base hw.row k hs, .inr (row_isT hw.row k hs.symm)⟩)), hw.blk.isT⟩⟩
theorem PE.put1 (h : PE w base g wr tot (be n 1 ++ r)) (ht : tot.length ≤ 900000) (hn0 : 0 ≤ n) (hn1 : n < 256) :
    Calls Tryd.prog 73 #[.pointer (some ⟨g, 0, none⟩), .int .i64 n, .int .i64 1] wr (PEP (.bool true) w base g tot r) := h.put ht (by decide) (by decide) hn0 hn1
theorem PE.put2 (h : PE w base g wr tot (be n 2 ++ r)) (ht : tot.length ≤ 900000) (hn0 : 0 ≤ n) (hn1 : n < 65536) :
    Calls Tryd.prog 73 #[.pointer (some ⟨g, 0, none⟩), .int .i64 n, .int .i64 2] wr (PEP (.bool true) w base g tot r) := h.put ht (by decide) (by decide) hn0 hn1
theorem PE.put4 (h : PE w base g wr tot (be n 4 ++ r)) (ht : tot.length ≤ 900000) (hn0 : 0 ≤ n) (hn1 : n < 4294967296) :
    Calls Tryd.prog 73 #[.pointer (some ⟨g, 0, none⟩), .int .i64 n, .int .i64 4] wr (PEP (.bool true) w base g tot r) := h.put ht (by decide) (by decide) hn0 hn1
/-- A text written. -/
theorem PE.text {s : ByteArray} (h : PE w base g wr tot (be s.size sz ++ (bsOf s ++ r))) (ht : tot.length ≤ 900000) (h1 : 1 ≤ sz) (h4 : sz ≤ 4) (hn1 : (s.size : Int) < 256 ^ sz) :
    Calls Tryd.prog 74 #[.pointer (some ⟨g, 0, none⟩), .string s, .int .i64 sz] wr (PEP (.bool true) w base g tot r) := by
  obtain ⟨v, cur, hw, e⟩ := h.ex
  have hl : cur.length + s.size ≤ 900000 := by
    rw [e] at ht
    simp only [List.length_append, be_length, bsOf_length] at ht
    omega
  refine (WText_yes base g v cur s sz wr hw h1 h4 hn1 (by omega) (by omega)).mono ?_
  rintro e' w' ⟨rfl, v', hw', hk⟩
  exact ⟨rfl, h.next ⟨⟨v', _, hw', by rw [e]; simp only [List.append_assoc]⟩, hk.mono (fun k hk hs => hs.elim (fun e => by subst e; exact ⟨hw.le, .inl rfl⟩) (fun hs => ⟨row_base hw.row k hs, .inr (row_isT hw.row k hs.symm)⟩)), hw.blk.isT⟩⟩
theorem PE.text1 {s : ByteArray} (h : PE w base g wr tot (be s.size 1 ++ (bsOf s ++ r))) (ht : tot.length ≤ 900000) (hn1 : s.size < 256) :
    Calls Tryd.prog 74 #[.pointer (some ⟨g, 0, none⟩), .string s, .int .i64 1] wr (PEP (.bool true) w base g tot r) := h.text ht (by decide) (by decide) (by have e1 : (256 : Int) ^ 1 = 256 := rfl; have e2 : (256 : Int) ^ 2 = 65536 := rfl; have e4 : (256 : Int) ^ 4 = 4294967296 := rfl; omega)
theorem PE.text2 {s : ByteArray} (h : PE w base g wr tot (be s.size 2 ++ (bsOf s ++ r))) (ht : tot.length ≤ 900000) (hn1 : s.size < 65536) :
    Calls Tryd.prog 74 #[.pointer (some ⟨g, 0, none⟩), .string s, .int .i64 2] wr (PEP (.bool true) w base g tot r) := h.text ht (by decide) (by decide) (by have e1 : (256 : Int) ^ 1 = 256 := rfl; have e2 : (256 : Int) ^ 2 = 65536 := rfl; have e4 : (256 : Int) ^ 4 = 4294967296 := rfl; omega)
theorem PE.text4 {s : ByteArray} (h : PE w base g wr tot (be s.size 4 ++ (bsOf s ++ r))) (ht : tot.length ≤ 900000) (hn1 : s.size < 4294967296) :
    Calls Tryd.prog 74 #[.pointer (some ⟨g, 0, none⟩), .string s, .int .i64 4] wr (PEP (.bool true) w base g tot r) := h.text ht (by decide) (by decide) (by have e1 : (256 : Int) ^ 1 = 256 := rfl; have e2 : (256 : Int) ^ 2 = 65536 := rfl; have e4 : (256 : Int) ^ 4 = 4294967296 := rfl; omega)
end

/-- What put does of a tree. -/
def PutC (t : T) : Prop := ∀ (B : Nat → Prop) (w : World) (p : NV) (base g : Nat) (tot r : List UInt8), Rep B w p t → (∀ k, B k → k < base) → PE w base g w tot (t.enc ++ r) → tot.length ≤ 900000 →
  Calls Tryd.prog 47 #[.pointer (some ⟨g, 0, none⟩), nodeV p t] w (PEP (.tuple #[]) w base g tot r)
theorem PE.done {w w1 w2 : World} {base g : Nat} {tot r r2 : List UInt8} (h : PE w base g w tot r) (hb : Bel w w1) (h2 : PE w1 base g w2 tot r2) : PE w base g w2 tot r2 := (h.bel hb).next h2
end Go.Proofs.YtkmojgdjapfbbaaDoor
namespace Go.Proofs.YtkmojgdjapfbbaaDoor
open Go.RowKit Go.Maps
set_option linter.unusedSimpArgs false
set_option linter.unusedVariables false

set_option maxHeartbeats 4000000 in
theorem put_white : PutC (.node 4 false [] [] 0 [] ⟨#[]⟩) := by
  intro B w p base g tot r h hB hp ht
  obtain ⟨An, cn, Ai, ci, Ae, ce, rfl⟩ := h.parts
  rw [enc_white] at hp
  show Calls Tryd.prog 47 #[.pointer (some ⟨g, 0, none⟩), .agg #[.int .i64 4, .bool false, .slice An 0 cn, .slice Ai 0 ci, .int .i64 0, .slice Ae 0 ce, .string ⟨#[]⟩]] w _
  have hb1 := below_alloc (Below.refl _ w) (.cells #[.int .i64 4, .bool false, .slice An 0 cn, .slice Ai 0 ci, .int .i64 0, .slice Ae 0 ce, .string ⟨#[]⟩] 33)
  have X := Av.mk (Blk.new w 33 #[.int .i64 4, .bool false, .slice An 0 cn, .slice Ai 0 ci, .int .i64 0, .slice Ae 0 ce, .string ⟨#[]⟩])
  have P0 := Av.mk hp
  have HB1 : Av (Bel w (w.alloc (.cells #[.int .i64 4, .bool false, .slice An 0 cn, .slice Ai 0 ci, .int .i64 0, .slice Ae 0 ce, .string ⟨#[]⟩] 33))) := ⟨hb1⟩
  have P1 := Av.mk (hp.begin hb1)
  clear h hp hb1
  go_enter Tryd.func47, Tryd.ntmps47
  go_wp2_with fail
  generalize w.alloc (.cells #[.int .i64 4, .bool false, .slice An 0 cn, .slice Ai 0 ci, .int .i64 0, .slice Ae 0 ce, .string ⟨#[]⟩] 33) = w1 at *
  generalize w.heap.size = gx at *
  refine (P1.out.put1 ht (by decide) (by decide)).mono ?_
  rintro e w2 ⟨rfl, hp⟩
  have P2 := Av.mk hp
  have X2 := Av.mk (hp.blk X.out (by decide) (by decide))
  have c0 := X2.out.cell 0
  have lx := X2.out.lt
  simp at c0
  clear hp
  go_wp2_with fail
  go_end0
  exact ⟨rfl, P0.out.done HB1.out P2.out⟩

set_option maxHeartbeats 4000000 in
theorem put_link (tg : ByteArray) (hg : tg.size < 65536) : PutC (.node 3 false [] [] 0 [] tg) := by
  intro B w p base g tot r h hB hp ht
  obtain ⟨An, cn, Ai, ci, Ae, ce, rfl⟩ := h.parts
  rw [enc_link, List.append_assoc, List.append_assoc] at hp
  show Calls Tryd.prog 47 #[.pointer (some ⟨g, 0, none⟩), .agg #[.int .i64 3, .bool false, .slice An 0 cn, .slice Ai 0 ci, .int .i64 0, .slice Ae 0 ce, .string tg]] w _
  have hb1 := below_alloc (Below.refl _ w) (.cells #[.int .i64 3, .bool false, .slice An 0 cn, .slice Ai 0 ci, .int .i64 0, .slice Ae 0 ce, .string tg] 33)
  have X := Av.mk (Blk.new w 33 #[.int .i64 3, .bool false, .slice An 0 cn, .slice Ai 0 ci, .int .i64 0, .slice Ae 0 ce, .string tg])
  have P0 := Av.mk hp
  have HB1 : Av (Bel w (w.alloc (.cells #[.int .i64 3, .bool false, .slice An 0 cn, .slice Ai 0 ci, .int .i64 0, .slice Ae 0 ce, .string tg] 33))) := ⟨hb1⟩
  have P1 := Av.mk (hp.begin hb1)
  clear h hp hb1
  go_enter Tryd.func47, Tryd.ntmps47
  go_wp2_with fail
  generalize w.alloc (.cells #[.int .i64 3, .bool false, .slice An 0 cn, .slice Ai 0 ci, .int .i64 0, .slice Ae 0 ce, .string tg] 33) = w1 at *
  generalize w.heap.size = gx at *
  refine (P1.out.put1 ht (by decide) (by decide)).mono ?_
  rintro e w2 ⟨rfl, hp⟩
  have P2 := Av.mk hp
  have X2 := Av.mk (hp.blk X.out (by decide) (by decide))
  have c0 := X2.out.cell 0
  have c6 := X2.out.cell 6
  have lx := X2.out.lt
  simp at c0 c6
  clear hp
  go_wp2_with fail
  refine (P2.out.text2 ht hg).mono ?_
  rintro e w3 ⟨rfl, hp⟩
  have P3 := Av.mk hp
  clear hp c0 c6 lx
  go_wp2_with fail
  go_end0
  exact ⟨rfl, P0.out.done HB1.out P3.out⟩

set_option maxHeartbeats 4000000 in
theorem put_file (sz : Int) (ex : List IExt) (h0 : 0 ≤ sz) (h1 : sz < 4294967296) (he : ex.length ≤ 1000000) (hx : ∀ x ∈ ex, 0 ≤ x.1 ∧ x.1 < 4294967296 ∧ x.2.size ≤ 1000000) : PutC (.node 1 false [] [] sz ex ⟨#[]⟩) := by
  intro B w p base g tot r h hB hp ht
  have HE := Av.mk h.exts
  obtain ⟨An, cn, Ai, ci, Ae, ce, rfl⟩ := h.parts
  rw [enc_file, List.append_assoc, List.append_assoc, List.append_assoc] at hp
  show Calls Tryd.prog 47 #[.pointer (some ⟨g, 0, none⟩), .agg #[.int .i64 1, .bool false, .slice An 0 cn, .slice Ai 0 ci, .int .i64 sz, .slice Ae ex.length ce, .string ⟨#[]⟩]] w _
  replace HE : Av (Sl B w 2 (.slice Ae ex.length ce) ex.length (iCells ex)) := HE
  have hb1 := below_alloc (Below.refl _ w) (.cells #[.int .i64 1, .bool false, .slice An 0 cn, .slice Ai 0 ci, .int .i64 sz, .slice Ae ex.length ce, .string ⟨#[]⟩] 33)
  have X := Av.mk (Blk.new w 33 #[.int .i64 1, .bool false, .slice An 0 cn, .slice Ai 0 ci, .int .i64 sz, .slice Ae ex.length ce, .string ⟨#[]⟩])
  have P0 := Av.mk hp
  have HB1 : Av (Bel w (w.alloc (.cells #[.int .i64 1, .bool false, .slice An 0 cn, .slice Ai 0 ci, .int .i64 sz, .slice Ae ex.length ce, .string ⟨#[]⟩] 33))) := ⟨hb1⟩
  have P1 := Av.mk (hp.begin hb1)
  have HE1 := Av.mk (HE.out.grow hb1)
  have HX := Av.mk hx
  have HBB := Av.mk hB
  clear h hp hb1 HE hx hB
  go_enter Tryd.func47, Tryd.ntmps47
  go_wp2_with fail
  generalize w.alloc (.cells #[.int .i64 1, .bool false, .slice An 0 cn, .slice Ai 0 ci, .int .i64 sz, .slice Ae ex.length ce, .string ⟨#[]⟩] 33) = w1 at *
  generalize w.heap.size = gx at *
  refine (P1.out.put1 ht (by decide) (by decide)).mono ?_
  rintro e w2 ⟨rfl, hp⟩
  have P2 := Av.mk hp
  have X2 := Av.mk (hp.blk X.out (by decide) (by decide))
  have c0 := X2.out.cell 0
  have c4 := X2.out.cell 4
  have lx := X2.out.lt
  simp at c0 c4
  clear hp
  go_wp2_with fail
  refine (P2.out.put4 ht h0 h1).mono ?_
  rintro e w3 ⟨rfl, hp⟩
  have P3 := Av.mk hp
  have X3 := Av.mk (hp.blk X.out (by decide) (by decide))
  clear hp c0 c4 lx X2 P2
  have c5 := X3.out.cell 5
  have lx := X3.out.lt
  simp at c5
  go_wp2_with fail
  refine (P3.out.put4 ht (by omega) (by omega)).mono ?_
  rintro e w4 ⟨rfl, hp⟩
  have P4 := Av.mk hp
  have X4 := Av.mk (hp.blk X.out (by decide) (by decide))
  clear hp c5 lx X3 P3
  have c5 := X4.out.cell 5
  have lx := X4.out.lt
  simp at c5
  go_wp2_with fail
  clear c5 lx
  go_loopw [29] (fun s29 wr => ∃ (j : Nat), j ≤ ex.length ∧ s29 = .int .i64 j ∧ PE w1 base g wr tot ((ex.drop j).flatMap exB ++ r)) (fun s29 _ => ex.length - (intOf s29).toNat)
  case atStart => exact ⟨0, Nat.zero_le _, rfl, P4.out⟩
  case round =>
    obtain ⟨j, hj, rfl, hp⟩ := hrel
    have P5 := Av.mk hp
    have HE5 := Av.mk (hp.sl HE1.out HBB.out)
    clear hp
    by_cases hlt : j < ex.length
    · obtain ⟨⟨xo, xd⟩, hxj⟩ : ∃ x, ex[j]? = some x := ⟨_, List.getElem?_eq_getElem hlt⟩
      obtain ⟨b, off, rfl, _, hbl, hc, d0, d1⟩ := HE5.out.elem (fun _ => rfl) (by omega) hxj
      replace d1 := d1 1 (by omega)
      simp [iC] at d0 d1
      have HD := Av.mk (drop_at hxj)
      have hxx := HX.out _ (List.mem_of_getElem? hxj)
      simp only at hxx
      obtain ⟨hx0, hx1, hx2⟩ := hxx
      have P6 : Av (PE w1 base g wr tot (be xo 4 ++ (be xd.size 4 ++ (bsOf xd ++ ((ex.drop (j + 1)).flatMap exB ++ r))))) := ⟨by
        have := P5.out
        rw [HD.out, List.flatMap_cons] at this
        simpa only [exB, List.append_assoc] using this⟩
      have hb6 := below_alloc (Below.refl _ wr) (.cells #[.int .i64 xo, .string xd] 107)
      have P7 := Av.mk (P6.out.bel hb6)
      have Y := Av.mk (Blk.new wr 107 #[.int .i64 xo, .string xd])
      clear hxj P5 hb6 P6
      go_wp2_with fail
      generalize wr.alloc (.cells #[.int .i64 xo, .string xd] 107) = w6 at *
      generalize wr.heap.size = gy at *
      refine (P7.out.self.put4 ht hx0 hx1).mono ?_
      rintro e w7 ⟨rfl, hp⟩
      have P8 := Av.mk hp
      have Y8 := Av.mk (hp.blk Y.out (by decide) (by decide))
      have y1 := Y8.out.cell 1
      have ly := Y8.out.lt
      simp at y1
      clear hp
      go_wp2_with fail
      refine (P8.out.text4 ht (by omega)).mono ?_
      rintro e w8 ⟨rfl, hp⟩
      have P9 := Av.mk (P7.out.next hp)
      clear hp P8 Y8 y1 ly
      go_wp2_with fail
      go_roundw
      case rel => exact ⟨j + 1, by omega, by go_num, P9.out⟩
      case measure => simp [intOf]; omega
    · obtain rfl : j = ex.length := by omega
      have P6 : Av (PE w1 base g wr tot r) := ⟨by have := P5.out; rwa [List.drop_length, List.flatMap_nil, List.nil_append] at this⟩
      go_wp2_with fail
      go_end0
      exact ⟨rfl, P0.out.done HB1.out P6.out⟩

set_option maxHeartbeats 4000000 in
theorem put_dir (o : Bool) (ns : List ByteArray) (its : List T) (hn : ns.length = its.length) (hl : ns.length < 65536) (hs : ∀ s ∈ ns, s.size < 256) (ih : ∀ u ∈ its, PutC u) : PutC (.node 2 o ns its 0 [] ⟨#[]⟩) := by
  intro B w p base g tot r h hB hp ht
  have HI : Av (RepL B w p.iv its) := ⟨h.items⟩
  have HNM : Av (Sl B w 1 p.nv ns.length (ns.map Value.string)) := ⟨h.names⟩
  obtain ⟨An, cn, Ai, ci, Ae, ce, rfl⟩ := h.parts
  rw [enc_dir, List.append_assoc, List.append_assoc, List.append_assoc] at hp
  show Calls Tryd.prog 47 #[.pointer (some ⟨g, 0, none⟩), .agg #[.int .i64 2, .bool o, .slice An ns.length cn, .slice Ai its.length ci, .int .i64 0, .slice Ae 0 ce, .string ⟨#[]⟩]] w _
  replace HI : Av (RepL B w (.slice Ai its.length ci) its) := HI
  replace HNM : Av (Sl B w 1 (.slice An ns.length cn) ns.length (ns.map Value.string)) := HNM
  have hb1 := below_alloc (Below.refl _ w) (.cells #[.int .i64 2, .bool o, .slice An ns.length cn, .slice Ai its.length ci, .int .i64 0, .slice Ae 0 ce, .string ⟨#[]⟩] 33)
  have X := Av.mk (Blk.new w 33 #[.int .i64 2, .bool o, .slice An ns.length cn, .slice Ai its.length ci, .int .i64 0, .slice Ae 0 ce, .string ⟨#[]⟩])
  have P0 := Av.mk hp
  have HB1 : Av (Bel w (w.alloc (.cells #[.int .i64 2, .bool o, .slice An ns.length cn, .slice Ai its.length ci, .int .i64 0, .slice Ae 0 ce, .string ⟨#[]⟩] 33))) := ⟨hb1⟩
  have P1 := Av.mk (hp.begin hb1)
  have HI1 := Av.mk (HI.out.grow hb1)
  have HN1 := Av.mk (HNM.out.grow hb1)
  have HBB := Av.mk hB
  have HS := Av.mk hs
  have HIH := Av.mk ih
  have HNL := Av.mk hn
  clear h hp hb1 HI HNM hB hs ih hn
  go_enter Tryd.func47, Tryd.ntmps47
  go_wp2_with fail
  generalize w.alloc (.cells #[.int .i64 2, .bool o, .slice An ns.length cn, .slice Ai its.length ci, .int .i64 0, .slice Ae 0 ce, .string ⟨#[]⟩] 33) = w1 at *
  generalize w.heap.size = gx at *
  refine (P1.out.put1 ht (by decide) (by decide)).mono ?_
  rintro e w2 ⟨rfl, hp⟩
  have P2 := Av.mk hp
  have X2 := Av.mk (hp.blk X.out (by decide) (by decide))
  have c0 := X2.out.cell 0
  have c1 := X2.out.cell 1
  have lx := X2.out.lt
  simp at c0 c1
  clear hp
  obtain ⟨q, hq⟩ : ∃ q : Int, q = if o = true then 1 else 0 := ⟨_, rfl⟩
  rw [← hq] at P2
  have hq0 : 0 ≤ q ∧ q < 256 := by rw [hq]; cases o <;> decide
  obtain ⟨hq0, hq1⟩ := hq0
  have HC : Av (Calls Tryd.prog 73 #[.pointer (some ⟨g, 0, none⟩), .int .i64 q, .int .i64 1] w2 (PEP (.bool true) w1 base g tot (be ns.length 2 ++ (T.encL ns its ++ r)))) := ⟨P2.out.put1 ht hq0 hq1⟩
  have HQ := Av.mk hq
  clear hq P2
  cases o
  · obtain rfl : q = 0 := by rw [HQ.out]; rfl
    go_wp2_with fail
    refine HC.out.mono ?_
    rintro e w3 ⟨rfl, hp⟩
    have P3 := Av.mk hp
    have X3 := Av.mk (hp.blk X.out (by decide) (by decide))
    clear hp c0 c1 lx X2
    have c2 := X3.out.cell 2
    have lx := X3.out.lt
    simp at c2
    go_wp2_with fail
    refine (P3.out.put2 ht (by omega) (by omega)).mono ?_
    rintro e w4 ⟨rfl, hp⟩
    have P4 := Av.mk hp
    have X4 := Av.mk (hp.blk X.out (by decide) (by decide))
    clear hp c2 lx X3 P3
    have c2 := X4.out.cell 2
    have lx := X4.out.lt
    simp at c2
    go_wp2_with fail
    clear c2 lx
    go_loopw [57] (fun s57 wr => ∃ (j : Nat), j ≤ ns.length ∧ s57 = .int .i64 j ∧ PE w1 base g wr tot (T.encL (ns.drop j) (its.drop j) ++ r)) (fun s57 _ => ns.length - (intOf s57).toNat)
    case atStart => exact ⟨0, Nat.zero_le _, rfl, P4.out⟩
    case round =>
      obtain ⟨j, hj, rfl, hp⟩ := hrel
      have P5 := Av.mk hp
      have HN5 := Av.mk (hp.sl HN1.out HBB.out)
      have HI5 := Av.mk (hp.repL HI1.out HBB.out)
      have X5 := Av.mk (hp.blk X.out (by decide) (by decide))
      clear hp
      by_cases hlt : j < ns.length
      · obtain ⟨s, hsj⟩ : ∃ s, ns[j]? = some s := ⟨_, List.getElem?_eq_getElem hlt⟩
        have hlt2 : j < its.length := by rw [← HNL.out]; exact hlt
        obtain ⟨u, hu⟩ : ∃ u, its[j]? = some u := ⟨_, List.getElem?_eq_getElem hlt2⟩
        have P6 : Av (PE w1 base g wr tot (be s.size 1 ++ (bsOf s ++ (u.enc ++ (T.encL (ns.drop (j + 1)) (its.drop (j + 1)) ++ r))))) := ⟨by
          have := P5.out
          rw [T.encL_at hsj hu] at this
          simpa only [List.append_assoc] using this⟩
        obtain ⟨b, off, e, _, hbl, hc, d0⟩ := HN5.out.at (by omega)
        subst e
        have dd := d0 j (by omega)
        rw [List.getElem?_map, hsj] at dd
        simp at dd
        have hss := HS.out s (List.mem_of_getElem? hsj)
        obtain ⟨bi, offi, qn, e, hBb, hbli, hcpi, e0, e1, e2, e3, e4, e5, e6, hq⟩ := HI5.out.elem hu
        subst e
        clear e0 e1 e2 e3 e4 e5 e6 hq hbli d0
        have HUM := Av.mk (List.mem_of_getElem? hu)
        have HU := Av.mk hu
        clear hu hsj P5
        go_wp2_with fail
        refine (P6.out.text1 ht hss).mono ?_
        rintro e w7 ⟨rfl, hp⟩
        have P7 := Av.mk hp
        have HI7 := Av.mk (hp.repL HI1.out HBB.out)
        have X7 := Av.mk (hp.blk X.out (by decide) (by decide))
        clear hp dd hbl
        obtain ⟨bi2, offi2, qn, e, hBb, hbli, hcpi, e0, e1, e2, e3, e4, e5, e6, hq⟩ := HI7.out.elem HU.out
        simp only [Option.some.injEq, Addr.mk.injEq] at e
        obtain ⟨rfl, rfl, _⟩ := e
        obtain ⟨Bn, dn, Bi, di, Be, de, rfl⟩ := hq.parts
        have HCu : Av (Calls Tryd.prog 47 #[.pointer (some ⟨g, 0, none⟩), nodeV ⟨.slice Bn u.names.length dn, .slice Bi u.items.length di, .slice Be u.exts.length de⟩ u] w7 (PEP (.tuple #[]) w7 base g tot (T.encL (ns.drop (j + 1)) (its.drop (j + 1)) ++ r))) :=
          ⟨HIH.out u HUM.out B w7 _ base g tot _ hq HBB.out P7.out.self ht⟩
        clear hq
        obtain ⟨uk, uo, uns, uits, usz, uex, utg⟩ := u
        simp only [T.kind, T.opq, T.names, T.items, T.size, T.exts, T.target] at e0 e1 e2 e3 e4 e5 e6 HCu
        have c3 := X7.out.cell 3
        have lx := X7.out.lt
        simp at c3
        go_wp2_with fail
        refine HCu.out.mono ?_
        rintro e w8 ⟨rfl, hp⟩
        have P8 := Av.mk (P7.out.next hp)
        clear hp e0 e1 e2 e3 e4 e5 e6 c3 lx hbli
        go_wp2_with fail
        go_roundw
        case rel => exact ⟨j + 1, by omega, by go_num, P8.out⟩
        case measure => simp [intOf]; omega
      · obtain rfl : j = ns.length := by omega
        have P6 : Av (PE w1 base g wr tot r) := ⟨by have := P5.out; rwa [HNL.out, List.drop_length, show ∀ l, T.encL l [] = [] from fun _ => rfl, List.nil_append] at this⟩
        go_wp2_with fail
        go_end0
        exact ⟨rfl, P0.out.done HB1.out P6.out⟩
  · obtain rfl : q = 1 := by rw [HQ.out]; rfl
    go_wp2_with fail
    refine HC.out.mono ?_
    rintro e w3 ⟨rfl, hp⟩
    have P3 := Av.mk hp
    have X3 := Av.mk (hp.blk X.out (by decide) (by decide))
    clear hp c0 c1 lx X2
    have c2 := X3.out.cell 2
    have lx := X3.out.lt
    simp at c2
    go_wp2_with fail
    refine (P3.out.put2 ht (by omega) (by omega)).mono ?_
    rintro e w4 ⟨rfl, hp⟩
    have P4 := Av.mk hp
    have X4 := Av.mk (hp.blk X.out (by decide) (by decide))
    clear hp c2 lx X3 P3
    have c2 := X4.out.cell 2
    have lx := X4.out.lt
    simp at c2
    go_wp2_with fail
    clear c2 lx
    go_loopw [57] (fun s57 wr => ∃ (j : Nat), j ≤ ns.length ∧ s57 = .int .i64 j ∧ PE w1 base g wr tot (T.encL (ns.drop j) (its.drop j) ++ r)) (fun s57 _ => ns.length - (intOf s57).toNat)
    case atStart => exact ⟨0, Nat.zero_le _, rfl, P4.out⟩
    case round =>
      obtain ⟨j, hj, rfl, hp⟩ := hrel
      have P5 := Av.mk hp
      have HN5 := Av.mk (hp.sl HN1.out HBB.out)
      have HI5 := Av.mk (hp.repL HI1.out HBB.out)
      have X5 := Av.mk (hp.blk X.out (by decide) (by decide))
      clear hp
      by_cases hlt : j < ns.length
      · obtain ⟨s, hsj⟩ : ∃ s, ns[j]? = some s := ⟨_, List.getElem?_eq_getElem hlt⟩
        have hlt2 : j < its.length := by rw [← HNL.out]; exact hlt
        obtain ⟨u, hu⟩ : ∃ u, its[j]? = some u := ⟨_, List.getElem?_eq_getElem hlt2⟩
        have P6 : Av (PE w1 base g wr tot (be s.size 1 ++ (bsOf s ++ (u.enc ++ (T.encL (ns.drop (j + 1)) (its.drop (j + 1)) ++ r))))) := ⟨by
          have := P5.out
          rw [T.encL_at hsj hu] at this
          simpa only [List.append_assoc] using this⟩
        obtain ⟨b, off, e, _, hbl, hc, d0⟩ := HN5.out.at (by omega)
        subst e
        have dd := d0 j (by omega)
        rw [List.getElem?_map, hsj] at dd
        simp at dd
        have hss := HS.out s (List.mem_of_getElem? hsj)
        obtain ⟨bi, offi, qn, e, hBb, hbli, hcpi, e0, e1, e2, e3, e4, e5, e6, hq⟩ := HI5.out.elem hu
        subst e
        clear e0 e1 e2 e3 e4 e5 e6 hq hbli d0
        have HUM := Av.mk (List.mem_of_getElem? hu)
        have HU := Av.mk hu
        clear hu hsj P5
        go_wp2_with fail
        refine (P6.out.text1 ht hss).mono ?_
        rintro e w7 ⟨rfl, hp⟩
        have P7 := Av.mk hp
        have HI7 := Av.mk (hp.repL HI1.out HBB.out)
        have X7 := Av.mk (hp.blk X.out (by decide) (by decide))
        clear hp dd hbl
        obtain ⟨bi2, offi2, qn, e, hBb, hbli, hcpi, e0, e1, e2, e3, e4, e5, e6, hq⟩ := HI7.out.elem HU.out
        simp only [Option.some.injEq, Addr.mk.injEq] at e
        obtain ⟨rfl, rfl, _⟩ := e
        obtain ⟨Bn, dn, Bi, di, Be, de, rfl⟩ := hq.parts
        have HCu : Av (Calls Tryd.prog 47 #[.pointer (some ⟨g, 0, none⟩), nodeV ⟨.slice Bn u.names.length dn, .slice Bi u.items.length di, .slice Be u.exts.length de⟩ u] w7 (PEP (.tuple #[]) w7 base g tot (T.encL (ns.drop (j + 1)) (its.drop (j + 1)) ++ r))) :=
          ⟨HIH.out u HUM.out B w7 _ base g tot _ hq HBB.out P7.out.self ht⟩
        clear hq
        obtain ⟨uk, uo, uns, uits, usz, uex, utg⟩ := u
        simp only [T.kind, T.opq, T.names, T.items, T.size, T.exts, T.target] at e0 e1 e2 e3 e4 e5 e6 HCu
        have c3 := X7.out.cell 3
        have lx := X7.out.lt
        simp at c3
        go_wp2_with fail
        refine HCu.out.mono ?_
        rintro e w8 ⟨rfl, hp⟩
        have P8 := Av.mk (P7.out.next hp)
        clear hp e0 e1 e2 e3 e4 e5 e6 c3 lx hbli
        go_wp2_with fail
        go_roundw
        case rel => exact ⟨j + 1, by omega, by go_num, P8.out⟩
        case measure => simp [intOf]; omega
      · obtain rfl : j = ns.length := by omega
        have P6 : Av (PE w1 base g wr tot r) := ⟨by have := P5.out; rwa [HNL.out, List.drop_length, show ∀ l, T.encL l [] = [] from fun _ => rfl, List.nil_append] at this⟩
        go_wp2_with fail
        go_end0
        exact ⟨rfl, P0.out.done HB1.out P6.out⟩
end Go.Proofs.YtkmojgdjapfbbaaDoor
namespace Go.Proofs.YtkmojgdjapfbbaaDoor
open Go.RowKit Go.Maps
set_option linter.unusedSimpArgs false
set_option linter.unusedVariables false

theorem put_calls {t : T} (h : Eok t) : PutC t := by
  induction h with
  | file sz ex h0 h1 he hx => exact put_file sz ex h0 h1 he hx
  | dir o ns its hn hl hs hr ih => exact put_dir o ns its hn hl hs ih
  | link tg h => exact put_link tg h
  | white => exact put_white

abbrev magic : ByteArray := ⟨#[115, 111, 99, 97, 103, 101, 49]⟩
def imageOf (t : T) : ByteArray := magic ++ stOf t.enc
theorem imageOf_size (t : T) : (imageOf t).size = 7 + t.enc.length := by
  unfold imageOf
  rw [ByteArray.size_append, stOf_size]; rfl

theorem writer_new (w : World) : Wr (w.alloc (.cells #[.slice none 0 0] 95)) w.heap.size w.heap.size (.slice none 0 0) [] :=
  ⟨Blk.new w 95 _, ⟨rfl, .inl ⟨rfl, rfl⟩⟩, Nat.le_refl _⟩

set_option maxHeartbeats 4000000 in
theorem Encode_calls {B : Nat → Prop} {w : World} {p : NV} {t : T} (h : Rep B w p t) (hB : ∀ k, B k → k < w.heap.size) (hf : Fit PnC PtC t) (hr : t.right = true) (he : Eok t) (hl : t.enc.length ≤ 800000) :
    Calls Tryd.prog 16 #[nodeV p t] w (RetB (.tuple #[.string (imageOf t), .int .i64 0]) w) := by
  have HR : Av (∀ W, Bel w W → Calls Tryd.prog 27 #[nodeV p t] W (RetB (.bool true) W)) := ⟨fun W hW => by
    have h1 := Right_calls (h.grow hW) (fun k hk => Nat.lt_of_lt_of_le (hB k hk) (Below.size hW)) hf
    rw [hr] at h1
    exact h1⟩
  have HA : Av (∀ (W : World), Bel w W → Calls Tryd.prog 47 #[.pointer (some ⟨W.heap.size, 0, none⟩), nodeV p t] (W.alloc (.cells #[.slice none 0 0] 95)) (PEP (.tuple #[]) (W.alloc (.cells #[.slice none 0 0] 95)) W.heap.size W.heap.size t.enc [])) := ⟨fun W hW => by
    have hb := below_alloc hW (.cells #[.slice none 0 0] 95)
    refine put_calls he B _ p W.heap.size W.heap.size t.enc [] (h.grow hb) (fun k hk => Nat.lt_of_lt_of_le (hB k hk) (Below.size hW)) ⟨⟨_, [], writer_new W, by simp⟩, Keep.refl _ _, (writer_new W).blk.isT⟩ (by omega)⟩
  have HEQ : Av (imageOf t = magic ++ stOf t.enc ∧ (imageOf t).size = 7 + t.enc.length) := ⟨rfl, imageOf_size t⟩
  obtain ⟨An, cn, Ai, ci, Ae, ce, rfl⟩ := h.parts
  generalize imageOf t = IM at *
  generalize t.enc = en at *
  obtain ⟨k, o, ns, its, sz, ex, tg⟩ := t
  clear h hf hr he
  show Calls Tryd.prog 16 #[.agg #[.int .i64 k, .bool o, .slice An ns.length cn, .slice Ai its.length ci, .int .i64 sz, .slice Ae ex.length ce, .string tg]] w _
  have X := Av.mk (Blk.new w 33 #[.int .i64 k, .bool o, .slice An ns.length cn, .slice Ai its.length ci, .int .i64 sz, .slice Ae ex.length ce, .string tg])
  have HB1 : Av (Bel w (w.alloc (.cells #[.int .i64 k, .bool o, .slice An ns.length cn, .slice Ai its.length ci, .int .i64 sz, .slice Ae ex.length ce, .string tg] 33))) := ⟨below_alloc (Below.refl _ w) _⟩
  go_enter Tryd.func16, Tryd.ntmps16
  go_wp2_with fail
  refine (HR.out _ HB1.out).mono ?_
  rintro e w2 ⟨rfl, hb2⟩
  have HB2 : Av (Bel w w2) := ⟨below_then HB1.out (Below.size HB1.out) hb2⟩
  have X2 := Av.mk (X.out.keep (Keep.of_below (S := fun _ => False) hb2) (by simp))
  clear hb2 X
  generalize hg : w.heap.size = g at *
  have HG := Av.mk hg
  have c0 := X2.out.cell 0; have c1 := X2.out.cell 1; have c2 := X2.out.cell 2; have c3 := X2.out.cell 3; have c4 := X2.out.cell 4; have c5 := X2.out.cell 5; have c6 := X2.out.cell 6
  have lx := X2.out.lt
  simp at c0 c1 c2 c3 c4 c5 c6
  go_upto_region 4 with (fail)
  have HB3 : Av (Bel w (w2.alloc (.cells #[.slice none 0 0] 95))) := ⟨HB2.out.alloc (Below.size HB2.out) _⟩
  have X3 := Av.mk (X2.out.alloc (.cells #[.slice none 0 0] 95))
  have HC := Av.mk (HA.out w2 HB2.out)
  have HZ : Av (g ≤ w2.heap.size) := ⟨by rw [← HG.out]; exact Below.size HB2.out⟩
  have HZ3 : Av (w2.heap.size ≤ (w2.alloc (.cells #[.slice none 0 0] 95)).heap.size) := ⟨by simp⟩
  clear c0 c1 c2 c3 c4 c5 c6 lx X2 HA HR hg
  generalize w2.alloc (.cells #[.slice none 0 0] 95) = w3 at *
  generalize w2.heap.size = b at *
  have c0 := X3.out.cell 0; have c1 := X3.out.cell 1; have c2 := X3.out.cell 2; have c3 := X3.out.cell 3; have c4 := X3.out.cell 4; have c5 := X3.out.cell 5; have c6 := X3.out.cell 6
  have lx := X3.out.lt
  simp at c0 c1 c2 c3 c4 c5 c6
  go_wp2_with fail
  refine HC.out.mono ?_
  rintro e w4 ⟨rfl, hp⟩
  have HB4 : Av (Bel w w4) := ⟨by
    have h1 : Below w.heap.size w w3 := HB3.out
    have h2 := HZ.out
    have h3 := HZ3.out
    have h4 := HG.out
    exact h1.trans (hp.keep.below (by omega) (fun k h => by have := h.1; omega))⟩
  obtain ⟨v, cur, hw, e⟩ := hp.ex
  rw [List.append_nil] at e
  subst e
  have HY := Av.mk (WBytes b b v en w4 hw)
  clear hp hw c0 c1 c2 c3 c4 c5 c6 lx HC
  go_wp2_with fail
  refine HY.out.mono ?_
  rintro e w5 ⟨rfl, rfl⟩
  have hsz := HEQ.out.2
  have heq := HEQ.out.1
  rw [heq] at hsz
  have hsz2 : (magic ++ stOf en).size ≤ 4194304 := by omega
  clear heq
  have h7 : 7 + en.length ≤ 9223372036854775807 := by omega
  have h8 : (⟨#[115, 111, 99, 97, 103, 101, 49]⟩ : ByteArray).size + (stOf en).size ≤ 9223372036854775807 := by rw [stOf_size]; exact h7
  have h9 : 7 + (stOf en).size ≤ 9223372036854775807 := by rw [stOf_size]; exact h7
  go_wp2_with fail
  go_ret2
  exact ⟨by rw [HEQ.out.1]; rfl, HB4.out⟩
end Go.Proofs.YtkmojgdjapfbbaaDoor
