/- image, wire: the writer (turned from the seat of wire). -/
import Derived.Test.YtkmojgdjapfbbaaDoorPa
import Derived.Test.YtkmojgdjapfbbaaDoorXr
import Derived.Lib.AppendStr
import Derived.Lib.ConvBytes
import Derived.Laws.BytesArg
import Derived.Deep.DeepCutAuto
import Derived.Deep.CutBlock
import Derived.Test.YtkmojgdjapfbbaaDoorAl
namespace Go.Proofs.YtkmojgdjapfbbaaDoor
open Go.RowKit Go.Maps
set_option linter.unusedSimpArgs false
set_option linter.unusedVariables false

def u8 (b : UInt8) : Value := .int .u8 b.toNat
/-- The lowest k bytes of a number, the highest first. -/
def be (n : Int) : Nat → List UInt8
  | 0 => []
  | k + 1 => UInt8.ofNat (n / 256 ^ k % 256).toNat :: be n k
theorem be_length (n : Int) : ∀ k, (be n k).length = k
  | 0 => rfl
  | k + 1 => by simp [be, be_length n k]

structure Wr (w : World) (base g : Nat) (v : Value) (bs : List UInt8) : Prop where
  blk : Blk w g 95 #[v]
  row : w.ownsRow base 5 1 v bs.length (bs.map u8)
  le : base ≤ g

def SmW (v : Value) (w : World) (e : Ending) (w' : World) : Prop := e = .returned v ∧ w = w'
/-- Where a slice's row lies behind a call: where it lay, or in a new block. -/
def Loc (v v' : Value) (w : World) : Prop := ∀ k, v'.ownBlock = some k → k < w.heap.size → some k = v.ownBlock
def WrP (base g : Nat) (v : Value) (bs : List UInt8) (w : World) (e : Ending) (w' : World) : Prop :=
  e = .returned (.bool true) ∧ ∃ v', Wr w' base g v' bs ∧ Keep (fun k => k = g ∨ some k = v.ownBlock) w w' ∧ Loc v v' w

def WtP (base g : Nat) (v : Value) (bs : List UInt8) (w : World) (e : Ending) (w' : World) : Prop :=
  e = .returned (.bool true) ∧ ∃ v', Wr w' base g v' bs ∧ Keep (fun k => k = g ∨ some k = v.ownBlock) w w'

theorem Wr.ne_row {w : World} {base g : Nat} {v : Value} {bs : List UInt8} (h : Wr w base g v bs) {b : Nat} {t : TypeId} {cs : Array Value} (hb : Blk w b t cs) (ht : t ≠ 5) : some b ≠ v.ownBlock := by
  rcases h.row.2 with ⟨rfl, _⟩ | ⟨r, cap, cur, rfl, _, hh, _⟩
  · simp [Value.ownBlock]
  · intro he
    have : b = r := by simpa [Value.ownBlock] using he
    subst this
    exact ht (by unfold Blk at hb; rw [hb] at hh; injection hh with hh; injection hh)
theorem Wr.keep {w w' : World} {base g : Nat} {v : Value} {bs : List UInt8} {S : Nat → Prop} (h : Wr w base g v bs) (hk : Keep S w w') (h1 : ¬ S g) (h2 : ∀ k, v.ownBlock = some k → ¬ S k) : Wr w' base g v bs := by
  refine ⟨h.blk.keep hk h1, ?_, h.le⟩
  obtain ⟨hl, hr⟩ := h.row
  refine ⟨hl, ?_⟩
  rcases hr with hr | ⟨r, cap, cur, rfl, hbr, hh, r'⟩
  · exact .inl hr
  · have hlt : r < w.heap.size := (Array.getElem?_eq_some_iff.1 hh).1
    exact .inr ⟨r, cap, cur, rfl, hbr, (hk.block r hlt (h2 r rfl)).trans hh, r'⟩
theorem Wr.size {w : World} {base g : Nat} {v : Value} {bs : List UInt8} (h : Wr w base g v bs) : base ≤ w.heap.size := by
  have := h.blk.lt
  have := h.le
  omega

/-- Does it fit? -/
def fits (n size : Int) : Prop := 1 ≤ size ∧ size ≤ 4 ∧ 0 ≤ n ∧ n < 256 ^ size.toNat
instance (n size : Int) : Decidable (fits n size) := by unfold fits; infer_instance

theorem info5 : ∃ i, Tryd.prog.info? 5 = some i ∧ i.zero = some (.int .u8 0) ∧ i.size = 1 ∧ i.bytes = 1 := by
  have h : (Tryd.prog.info? 5).map (fun i => (i.zero, i.size, i.bytes)) = some (some (.int .u8 0), 1, 1) := by kernel_rfl
  obtain ⟨i, hi, e⟩ := Option.map_eq_some_iff.1 h
  simp only [Prod.mk.injEq] at e
  exact ⟨i, hi, e.1, e.2.1, e.2.2⟩

theorem wpList_app_str {P : Program} {w : World} {ops : Array Oper} {rest : List Oper} {o : Oper} {a : Act} {Q : Exit → Act → World → Prop} (hgd : o.guard = none) (sl x : Operand) (t u : TypeId)
    (ho : o.op = .call { callee := .builtin .append, args := #[sl, x], argTypes := #[t, u] })
    (base : Nat) (e : TypeId) (i : TypeInfo) (ht : P.underlying t = some (.slice e)) (hu : P.underlying u = some .string) (hi : P.info? e = some i) (hz : i.zero = some (.int .u8 0))
    (hsize : i.size = 1) (hby : i.bytes = 1)
    (v : Value) (n : Nat) (xs : List Value) (hs : a.eval sl = v) (hown : w.ownsRow base e 1 v n xs) (s : ByteArray) (hx : a.eval x = .string s)
    (h63 : n + s.size ≤ maxLen) (hbytes : n + s.size ≤ 140737488355328) (hbase : base ≤ w.heap.size)
    (h : ∀ A c' w', w'.ownsRow base e 1 (.slice A (n + s.size) c') (n + s.size) (xs ++ Lib.strCells s) → w.grownBy w' v.ownBlock → wpList P ops Q rest (a.put o.dst (.slice A (n + s.size) c')) w') : wpList P ops Q (o :: rest) a w :=
  Lib.wpList_append_own_string w hgd sl x t u ho base e i ht hu hi hz hsize hby v n xs hs hown s hx h63 hbytes hbase (fun v' w' ho hg _ => by
    obtain ⟨A, c', rfl⟩ := own_slice ho
    exact h A c' w' ho hg)

/-- A step of writing: what was appended is stored into the writer. -/
theorem Wr.wrote {w wr w1 w2 : World} {base g : Nat} {v v1 v2 : Value} {cur l : List UInt8} (h : Wr wr base g v1 cur) (hk1 : Keep (fun _ => False) wr w1) (hg : w1.grownBy w2 v1.ownBlock) (ho : w2.ownsRow base 5 1 v2 (cur.length + l.length) (cur.map u8 ++ l.map u8))
    (hk : Keep (fun k => k = g ∨ some k = v.ownBlock) w wr) (hl : Loc v v1 w) :
    Wr (w2.setCell ⟨g, 0, none⟩ v2) base g v2 (cur ++ l) ∧ Keep (fun k => k = g ∨ some k = v.ownBlock) w (w2.setCell ⟨g, 0, none⟩ v2) := by
  have b1 := h.blk.keep hk1 (by simp)
  have b2 := b1.grown hg (h.ne_row h.blk (by decide))
  refine ⟨⟨by simpa using b2.set_ 0 v2, ?_, h.le⟩, ?_⟩
  · have := row_keep ho ((Keep.refl (fun k => k = g) w2).setCell (p := ⟨g, 0, none⟩) (fun _ => rfl) v2) (fun k e hk => by subst hk; exact row_ne ho b2 (by decide) e.symm)
    simpa using this
  · have h1 := hk.trans (hk1.mono (fun _ _ hf => hf.elim))
    have h2 := h1.grown hg (fun k e hk => .inr (hl k e hk))
    exact h2.setCell (p := ⟨g, 0, none⟩) (fun _ => .inl rfl) v2

theorem pow8 : ∀ k : Nat, (2 : Int) ^ (8 * k) = 256 ^ k
  | 0 => rfl
  | k + 1 => by rw [Nat.mul_succ, Int.pow_add, pow8 k, Int.pow_succ]; rfl
theorem shr0 {n : Int} {k : Nat} (h0 : 0 ≤ n) (h : n < 256 ^ k) : (n / 2 ^ (8 * k) != 0) = false := by
  rw [pow8, Int.ediv_eq_zero_of_lt h0 h]; rfl
theorem u8_be (n : Int) (k : Nat) : Value.int .u8 (n / 2 ^ (8 * k) % 256) = u8 (UInt8.ofNat (n / 256 ^ k % 256).toNat) := by
  unfold u8
  rw [pow8]
  have h0 : 0 ≤ n / 256 ^ k % 256 := Int.emod_nonneg _ (by decide)
  have h1 : n / 256 ^ k % 256 < 256 := Int.emod_lt_of_pos _ (by decide)
  have : ((UInt8.ofNat (n / 256 ^ k % 256).toNat).toNat : Int) = n / 256 ^ k % 256 := by
    rw [UInt8.toNat_ofNat']
    omega
  rw [this]

set_option maxHeartbeats 400000 in
theorem Put_yes (base g : Nat) (v : Value) (bs : List UInt8) (n : Int) (sz : Nat) (w : World) (h : Wr w base g v bs) (h1 : 1 ≤ sz) (h4 : sz ≤ 4) (hn0 : 0 ≤ n) (hn1 : n < 256 ^ sz) (hb : bs.length ≤ 1000000) :
    Calls Tryd.prog 73 #[.pointer (some ⟨g, 0, none⟩), .int .i64 n, .int .i64 sz] w (WrP base g v (bs ++ be n sz) w) := by
  have hs := shr0 hn0 hn1
  obtain ⟨i0, hi, hz0, hz1, hz2⟩ := info5
  have H := Av.mk h
  have hsz := h.blk.lt
  have I := Av.mk (And.intro hi (And.intro hz0 (And.intro hz1 hz2)))
  clear h hi hz0 hz1 hz2
  go_enter Tryd.func73, Tryd.ntmps73
  go_wp2
  go_loopw [7] (fun i wr => ∃ (k : Nat) (cur : List UInt8) (v' : Value), k ≤ sz ∧ i = .int .i64 ((k : Int) - 1) ∧ Wr wr base g v' cur ∧ cur.length ≤ bs.length + 4 ∧ cur ++ be n k = bs ++ be n sz ∧ Keep (fun k => k = g ∨ some k = v.ownBlock) w wr ∧ Loc v v' w) (fun i _ => (intOf i + 1).toNat)
  case atStart => exact ⟨sz, bs, v, Nat.le_refl _, rfl, H.out, by omega, rfl, Keep.refl _ _, fun k e _ => e.symm⟩
  case round =>
    obtain ⟨k, cur, v', hk, rfl, hw, hlen, he, hkp, hloc⟩ := hrel
    rcases k with _ | k
    · have HK := Av.mk hkp
      have HW := Av.mk hw
      have HE := Av.mk he
      have HL := Av.mk hloc
      clear hkp hw he hloc
      go_wp2
      go_ret
      refine ⟨rfl, v', ?_, HK.out, HL.out⟩
      have := HE.out
      simp [be] at this
      rw [← this]
      exact HW.out
    · have ek : (((k + 1 : Nat) : Int) - 1) = k := by omega
      rw [ek]
      have HK := Av.mk hkp
      have HW := Av.mk hw
      have HE := Av.mk he
      have HL := Av.mk hloc
      have c0 := hw.blk.cell 0
      simp at c0
      have X := Av.mk (u8_be n k)
      have hln := HW.out.blk.lt
      have hsz := HW.out.size
      clear hkp hw he hloc ek hs
      go_wp2_with (first | (at_builtin; refine wpList_app rfl _ _ 93 rfl base 5 i0 (.int .u8 0) 1 1 Tryd.underlying93 I.out.1 I.out.2.1 I.out.2.2.1 I.out.2.2.2 rfl (by decide) v' cur.length (cur.map u8) rfl (HW.out.row.alloc _) ⟨wr.heap.size, 0, none⟩ 1 1 [.int .u8 (n / 2 ^ (8 * k) % 256)] rfl rfl (cell_one_new _ _ _) (ints_oneCell .u8 [_]) (by unfold maxLen; omega) (by omega) (by simp; omega) ?_; intro A2 c2 w2 hown2 hgrow2 hloc2; have HO := Av.mk hown2; have HG := Av.mk hgrow2; have HL2 := Av.mk hloc2; have HB2 := Av.mk ((HW.out.blk.alloc (.cells #[.int .u8 (n / 2 ^ (8 * k) % 256)] 5)).grown hgrow2 (HW.out.ne_row HW.out.blk (by decide))); have d0 := HB2.out.cell 0; have df := HB2.out.frozen 0; simp at d0; clear hown2 hgrow2 hloc2))
      have HR := Av.mk (HW.out.wrote (l := [UInt8.ofNat (n / 256 ^ k % 256).toNat]) ((Keep.refl _ wr).alloc _) HG.out (by have := HO.out; rw [X.out] at this; exact this) HK.out HL.out)
      have HS := Av.mk (show Loc v (.slice A2 (cur.length + 1) c2) w from fun j e hj => by
        rcases HL2.out with h | h
        · exact HL.out j (by rw [← h]; exact e) hj
        · have e' := Option.some.inj (h.symm.trans e)
          have := HK.out.size
          simp at e'
          omega)
      go_roundw
      case rel => exact ⟨k, _, _, by omega, rfl, HR.out.1, by have := congrArg List.length HE.out; simp [be_length] at this ⊢; omega, by rw [List.append_assoc]; exact HE.out, HR.out.2, HS.out⟩
      case measure => simp [intOf]

def bsOf (s : ByteArray) : List UInt8 := s.data.toList
theorem bsOf_length (s : ByteArray) : (bsOf s).length = s.size := by rw [bsOf, Array.length_toList]; rfl
theorem strCells_bs (s : ByteArray) : Lib.strCells s = (bsOf s).map u8 := rfl

set_option maxHeartbeats 400000 in
theorem WText_yes (base g : Nat) (v : Value) (bs : List UInt8) (s : ByteArray) (sz : Nat) (w : World) (h : Wr w base g v bs) (h1 : 1 ≤ sz) (h4 : sz ≤ 4) (hn1 : (s.size : Int) < 256 ^ sz) (hb : bs.length ≤ 1000000) (hss : s.size ≤ 1000000) :
    Calls Tryd.prog 74 #[.pointer (some ⟨g, 0, none⟩), .string s, .int .i64 sz] w (WtP base g v (bs ++ be s.size sz ++ bsOf s) w) := by
  have HP := Av.mk (Put_yes base g v bs s.size sz w h h1 h4 (by omega) hn1 hb)
  obtain ⟨i0, hi, hz0, hz1, hz2⟩ := info5
  have I := Av.mk (And.intro hi (And.intro hz0 (And.intro hz1 hz2)))
  clear h hi hz0 hz1 hz2 hn1
  go_enter Tryd.func74, Tryd.ntmps74
  go_wp2_with fail
  refine HP.out.mono ?_
  rintro e w1 ⟨rfl, v1, hw, hk, hl⟩
  have HW := Av.mk hw
  have HK := Av.mk hk
  have HL := Av.mk hl
  have c0 := hw.blk.cell 0
  have hsz := hw.size
  have hle : (bs ++ be s.size sz).length = bs.length + sz := by simp [be_length]
  have hln : (bs ++ be s.size sz).length ≤ 1000004 := by omega
  simp at c0
  clear hw hk hl hle
  generalize bs ++ be s.size sz = bs1 at *
  go_wp2_with (first | (at_builtin; refine wpList_app_str rfl _ _ 93 9 rfl base 5 i0 Tryd.underlying93 Tryd.underlying9 I.out.1 I.out.2.1 I.out.2.2.1 I.out.2.2.2 v1 bs1.length (bs1.map u8) rfl HW.out.row s rfl (by unfold maxLen; omega) (by omega) hsz ?_; intro A2 c2 w2 hown2 hgrow2; have HO := Av.mk hown2; have HG := Av.mk hgrow2; have HB2 := Av.mk (HW.out.blk.grown hgrow2 (HW.out.ne_row HW.out.blk (by decide))); have d0 := HB2.out.cell 0; have df := HB2.out.frozen 0; simp at d0; clear hown2 hgrow2))
  go_ret
  have HR := HW.out.wrote (w := w) (v := v) (v2 := .slice A2 (bs1.length + s.size) c2) (l := bsOf s) (Keep.refl _ w1) HG.out (by rw [bsOf_length, ← strCells_bs]; exact HO.out) HK.out HL.out
  exact ⟨rfl, _, HR.1, HR.2⟩

def stOf (bs : List UInt8) : ByteArray := ⟨bs.toArray⟩
theorem bsOf_stOf (bs : List UInt8) : bsOf (stOf bs) = bs := rfl
theorem stOf_bsOf (s : ByteArray) : stOf (bsOf s) = s := rfl

theorem run_conv_row {P : Program} {w : World} {base : Nat} {src e dst : TypeId} {v : Value} {bs : List UInt8} (hs : P.underlying src = some (.slice e)) (he : P.underlying e = some (.int .u8)) (hd : P.underlying dst = some .string)
    (h : w.ownsRow base e 1 v bs.length (bs.map u8)) : (convert src dst v).run P w = .ok (.string (stOf bs)) w := by
  rcases h.2 with ⟨rfl, h0⟩ | ⟨r, cap, cur, rfl, _⟩
  · have : bs = [] := List.eq_nil_of_length_eq_zero h0
    subst this
    exact run_convert_bytes_nil w src e hs he 0 0 dst hd
  · have := run_convert_bytes_arg (P := P) w src e hs he r 0 bs.length cap (bs.map fun b => (b.toNat : Int)) (by simp) (fun i hi => by
      have hc := h.cellAt i (by omega)
      rw [Nat.zero_add, hc]
      simp [u8, List.getD, List.getElem?_eq_getElem hi]) dst hd
    rw [this]
    congr 2
    unfold strOfNums stOf
    congr 2
    rw [List.map_map]
    conv => rhs; rw [← List.map_id bs]
    apply List.map_congr_left
    intro b _
    simp

set_option maxHeartbeats 400000 in
theorem WBytes (base g : Nat) (v : Value) (bs : List UInt8) (w : World) (h : Wr w base g v bs) :
    Calls Tryd.prog 48 #[.pointer (some ⟨g, 0, none⟩)] w (SmW (.string (stOf bs)) w) := by
  have c0 := h.blk.cell 0
  have hc := run_conv_row Tryd.underlying93 Tryd.underlying5 Tryd.underlying9 h.row
  obtain ⟨A, c, rfl⟩ := own_slice h.row
  simp at c0
  go_enter Tryd.func48, Tryd.ntmps48
  go_wp2
  go_ret
  exact ⟨rfl, rfl⟩

end Go.Proofs.YtkmojgdjapfbbaaDoor
namespace Go.Proofs.YtkmojgdjapfbbaaDoor
open Go.RowKit Go.Maps
set_option linter.unusedSimpArgs false
set_option linter.unusedVariables false

/-- The number that bytes are. -/
def beV (l : List UInt8) : Int := l.foldl (fun n b => n * 256 + b.toNat) 0
theorem beV_snoc (l : List UInt8) (b : UInt8) : beV (l ++ [b]) = beV l * 256 + b.toNat := by simp [beV, List.foldl_append]
theorem beV_bound : ∀ (k : Nat) (l : List UInt8), l.length = k → 0 ≤ beV l ∧ beV l < 256 ^ k
  | 0, l, h => by
    have : l = [] := List.eq_nil_of_length_eq_zero h
    subst this
    exact ⟨Int.le_refl 0, by show (0 : Int) < 1; decide⟩
  | k + 1, l, h => by
    obtain ⟨l', b, rfl⟩ : ∃ l' b, l = l' ++ [b] := by
      rcases List.eq_nil_or_concat l with rfl | ⟨l', b, rfl⟩
      · simp at h
      · exact ⟨l', b, by simp⟩
    have hl : l'.length = k := by simpa using h
    have ih := beV_bound k l' hl
    rw [beV_snoc, Int.pow_succ]
    have := b.toNat_lt
    omega
theorem or_byte {n : Int} {b : Int} (h0 : 0 ≤ n) (h1 : n < 16777216) (hb0 : 0 ≤ b) (hb1 : b < 256) : bits .or .i64 (n * 256) b = n * 256 + b := by
  obtain ⟨n, rfl⟩ := Int.eq_ofNat_of_zero_le h0
  obtain ⟨b, rfl⟩ := Int.eq_ofNat_of_zero_le hb0
  have hn : n < 16777216 := by omega
  have hb : b < 256 := by omega
  have e1 : ((n : Int) * 256) = ((n * 256 : Nat) : Int) := by omega
  rw [e1]
  have e2 : (BitVec.ofInt 64 ((n * 256 : Nat) : Int) ||| BitVec.ofInt 64 (b : Int)).toNat = n * 256 + b := by
    rw [BitVec.ofInt_natCast, BitVec.ofInt_natCast, BitVec.toNat_or, BitVec.toNat_ofNat, BitVec.toNat_ofNat, Nat.mod_eq_of_lt (by omega), Nat.mod_eq_of_lt (by omega)]
    have := Nat.two_pow_add_eq_or_of_lt (i := 8) (b := b) hb n
    rw [Nat.mul_comm (2 ^ 8) n] at this
    exact this.symm
  have e3 : bits .or .i64 ((n * 256 : Nat) : Int) (b : Int) = IntKind.wrap .i64 (((BitVec.ofInt 64 ((n * 256 : Nat) : Int) ||| BitVec.ofInt 64 (b : Int)).toNat : Nat) : Int) := rfl
  rw [e3, e2, IntWalk.i64_in _ (by omega)]
  omega

def Rd (w : World) (g : Nat) (s : ByteArray) : Prop := Blk w g 165 #[.string s]
def RdP (v : Value) (g : Nat) (s : ByteArray) (w : World) (e : Ending) (w' : World) : Prop := e = .returned v ∧ Rd w' g s ∧ Keep (fun k => k = g) w w'

set_option maxHeartbeats 400000 in
theorem WRead_calls (s : ByteArray) (w : World) : Calls Tryd.prog 76 #[.string s] w fun e w' => e = .returned (.pointer (some ⟨w.heap.size, 0, none⟩)) ∧ w.alloc (.cells #[.string s] 165) = w' := by
  go_enter Tryd.func76, Tryd.ntmps76
  go_wp2
  go_ret
  exact ⟨rfl, rfl⟩

set_option maxHeartbeats 400000 in
theorem Left_calls (g : Nat) (s : ByteArray) (w : World) (h : Rd w g s) : Calls Tryd.prog 78 #[.pointer (some ⟨g, 0, none⟩)] w (SmW (.int .i64 s.size) w) := by
  have c0 := Blk.cell h 0
  simp at c0
  go_enter Tryd.func78, Tryd.ntmps78
  go_wp2
  go_ret
  exact ⟨rfl, rfl⟩

theorem take_snoc (s : ByteArray) (k : Nat) (h : k < s.size) : (bsOf s).take (k + 1) = (bsOf s).take k ++ [s[k]] := by
  rw [List.take_succ_eq_append_getElem (by rw [bsOf_length]; exact h)]; rfl

set_option maxHeartbeats 1000000 in
theorem WTake_yes (g : Nat) (s : ByteArray) (sz : Nat) (w : World) (h : Rd w g s) (hs : s.size ≤ 9000000000000000000) (h1 : 1 ≤ sz) (h4 : sz ≤ 4) (hle : sz ≤ s.size) :
    Calls Tryd.prog 106 #[.pointer (some ⟨g, 0, none⟩), .int .i64 sz] w (RdP (.tuple #[.int .i64 (beV ((bsOf s).take sz)), .bool true]) g (s.extract sz s.size) w) := by
  have c0 := Blk.cell h 0
  have fz := Blk.frozen h 0
  have hlt := Blk.lt h
  simp at c0
  have H := Av.mk h
  clear h
  go_enter Tryd.func106, Tryd.ntmps106
  go_wp2
  go_loop [6, 24] (fun n i => ∃ k : Nat, k ≤ sz ∧ i = .int .i64 k ∧ n = .int .i64 (beV ((bsOf s).take k))) (fun _ i => sz - (intOf i).toNat)
  case atStart => exact ⟨0, Nat.zero_le _, rfl, rfl⟩
  case round =>
    obtain ⟨k, hk, rfl, rfl⟩ := hrel
    by_cases hkl : k < sz
    · have hb := beV_bound k ((bsOf s).take k) (by rw [List.length_take, bsOf_length]; omega)
      have hks : k < s.size := by omega
      have hp : (256 : Int) ^ k ≤ 16777216 := by
        have : k = 0 ∨ k = 1 ∨ k = 2 ∨ k = 3 := by omega
        rcases this with rfl | rfl | rfl | rfl <;> decide
      have X := Av.mk (show beV ((bsOf s).take (k + 1)) = bits .or .i64 (beV ((bsOf s).take k) * 256) (wrap64 (s[k].toNat : Int)) from by
        rw [IntWalk.wrap64_in _ (by have := s[k].toNat_lt; omega), take_snoc s k hks, beV_snoc, or_byte hb.1 (by omega) (by omega) (by have := s[k].toNat_lt; omega)])
      have hb1 : 0 ≤ beV ((bsOf s).take k) := hb.1
      have hb2 : beV ((bsOf s).take k) < 16777216 := by omega
      clear hb hp
      go_wp2
      go_round
      case rel => exact ⟨k + 1, by omega, by go_num, by rw [X.out]⟩
      case measure => simp [intOf]; omega
    · obtain rfl : k = sz := by omega
      go_wp2
      go_ret2
      exact ⟨rfl, by simpa [Rd] using Blk.set_ H.out 0 (.string (s.extract k s.size)), (Keep.refl (fun k => k = g) w).setCell (p := ⟨g, 0, none⟩) (fun _ => rfl) _⟩

set_option maxHeartbeats 400000 in
theorem RText_yes (g : Nat) (s : ByteArray) (sz n : Nat) (w : World) (h : Rd w g s) (hs : s.size ≤ 9000000000000000000) (h1 : 1 ≤ sz) (h4 : sz ≤ 4) (hle : sz ≤ s.size) (hn : beV ((bsOf s).take sz) = n) (hnn : n ≤ s.size - sz) :
    Calls Tryd.prog 107 #[.pointer (some ⟨g, 0, none⟩), .int .i64 sz] w (RdP (.tuple #[.string ((s.extract sz s.size).extract 0 n), .bool true]) g ((s.extract sz s.size).extract n (s.size - sz)) w) := by
  have c0 := Blk.cell h 0
  have HT := Av.mk (WTake_yes g s sz w h hs h1 h4 hle)
  rw [hn] at HT
  have H := Av.mk h
  simp at c0
  clear h hn
  go_enter Tryd.func107, Tryd.ntmps107
  go_wp2_with fail
  refine HT.out.mono ?_
  rintro e w1 ⟨rfl, hr, hk⟩
  have d0 := Blk.cell hr 0
  have fz := Blk.frozen hr 0
  have hlt := Blk.lt hr
  have HR := Av.mk hr
  have HK := Av.mk hk
  simp at d0
  clear hr hk
  go_wp2
  go_ret2
  exact ⟨rfl, by simpa [Rd] using Blk.set_ HR.out 0 (.string ((s.extract sz s.size).extract n (s.size - sz))), HK.out.setCell (p := ⟨g, 0, none⟩) (fun _ => rfl) _⟩


/-- An image's reader. -/
structure Rr (w : World) (r x : Nat) (s : ByteArray) (left : Int) : Prop where
  blk : Blk w r 146 #[.pointer (some ⟨x, 0, none⟩), .bool false, .int .i64 left]
  rd : Rd w x s
def RrP (v : Value) (r x : Nat) (s : ByteArray) (left : Int) (w : World) (e : Ending) (w' : World) : Prop := e = .returned v ∧ Rr w' r x s left ∧ Keep (fun k => k = r ∨ k = x) w w'
theorem Rr.ne {w : World} {r x : Nat} {s : ByteArray} {left : Int} (h : Rr w r x s left) : r ≠ x := h.blk.ne_ h.rd (by decide)

set_option maxHeartbeats 1000000 in
theorem number_calls {w : World} {r x : Nat} {s : ByteArray} {left : Int} (sz n : Nat) (h : Rr w r x s left) (hs : s.size ≤ 9000000000000000000) (h1 : 1 ≤ sz) (h4 : sz ≤ 4) (hle : sz ≤ s.size) (hn : beV ((bsOf s).take sz) = n) :
    Calls Tryd.prog 94 #[.pointer (some ⟨r, 0, none⟩), .int .i64 sz] w (RrP (.int .i64 n) r x (s.extract sz s.size) left w) := by
  have HT := Av.mk (WTake_yes x s sz w h.rd hs h1 h4 hle)
  rw [hn] at HT
  have hne := h.ne
  have HR := Av.mk h.blk
  have c0 := h.blk.cell 0
  have lr := h.blk.lt
  simp at c0
  clear h hn
  go_enter Tryd.func94, Tryd.ntmps94
  go_wp2_with fail
  refine HT.out.mono ?_
  rintro e w1 ⟨rfl, hr, hk⟩
  have HB := Av.mk (HR.out.keep hk (fun e => hne e))
  have d1 := HB.out.cell 1
  have f1 := HB.out.frozen 1
  have lr1 := HB.out.lt
  simp at d1
  have HR1 := Av.mk hr
  have HK1 := Av.mk hk
  clear hr hk c0 lr
  go_wp2_with fail
  go_ret
  refine ⟨rfl, ⟨by simpa using HB.out.set_ 1 (.bool false), Blk.far HR1.out (fun e => hne e.symm) _⟩, (HK1.out.mono (fun k _ e => .inr e)).setCell (p := ⟨r, 1, none⟩) (fun _ => .inl rfl) _⟩

set_option maxHeartbeats 1000000 in
theorem text_calls {w : World} {r x : Nat} {s : ByteArray} {left : Int} (sz n : Nat) (h : Rr w r x s left) (hs : s.size ≤ 9000000000000000000) (h1 : 1 ≤ sz) (h4 : sz ≤ 4) (hle : sz ≤ s.size) (hn : beV ((bsOf s).take sz) = n) (hnn : n ≤ s.size - sz) :
    Calls Tryd.prog 95 #[.pointer (some ⟨r, 0, none⟩), .int .i64 sz] w (RrP (.string ((s.extract sz s.size).extract 0 n)) r x ((s.extract sz s.size).extract n (s.size - sz)) left w) := by
  have HT := Av.mk (RText_yes x s sz n w h.rd hs h1 h4 hle hn hnn)
  have hne := h.ne
  have HR := Av.mk h.blk
  have c0 := h.blk.cell 0
  have lr := h.blk.lt
  simp at c0
  clear h hn
  go_enter Tryd.func95, Tryd.ntmps95
  go_wp2_with fail
  refine HT.out.mono ?_
  rintro e w1 ⟨rfl, hr, hk⟩
  have HB := Av.mk (HR.out.keep hk (fun e => hne e))
  have d1 := HB.out.cell 1
  have f1 := HB.out.frozen 1
  have lr1 := HB.out.lt
  simp at d1
  have HR1 := Av.mk hr
  have HK1 := Av.mk hk
  clear hr hk c0 lr
  go_wp2_with fail
  go_ret
  refine ⟨rfl, ⟨by simpa using HB.out.set_ 1 (.bool false), Blk.far HR1.out (fun e => hne e.symm) _⟩, (HK1.out.mono (fun k _ e => .inr e)).setCell (p := ⟨r, 1, none⟩) (fun _ => .inl rfl) _⟩

theorem beV_from (l : List UInt8) : ∀ a : Int, l.foldl (fun n b => n * 256 + (b.toNat : Int)) a = a * 256 ^ l.length + beV l := by
  induction l with
  | nil => intro a; simp [beV]
  | cons b l ih =>
    intro a
    unfold beV
    rw [List.foldl_cons, List.foldl_cons, ih, ih, List.length_cons, Int.pow_succ]
    rw [Int.add_mul, Int.mul_assoc, Int.mul_comm 256 (256 ^ l.length), Int.zero_mul, Int.zero_add]
    omega
theorem beV_cons (b : UInt8) (l : List UInt8) : beV (b :: l) = (b.toNat : Int) * 256 ^ l.length + beV l := by
  have := beV_from l (b.toNat : Int)
  unfold beV
  rw [List.foldl_cons, Int.zero_mul, Int.zero_add, this]
  rfl
theorem beV_be_mod (m : Nat) : ∀ k : Nat, beV (be (m : Int) k) = ((m % 256 ^ k : Nat) : Int)
  | 0 => by simp [be, beV, Nat.mod_one]
  | k + 1 => by
    have e1 : ((m : Int) / 256 ^ k % 256) = ((m / 256 ^ k % 256 : Nat) : Int) := by rw [Int.natCast_emod, Int.natCast_ediv, Int.natCast_pow]; rfl
    have e2 : (UInt8.ofNat (m / 256 ^ k % 256)).toNat = m / 256 ^ k % 256 := by
      rw [UInt8.toNat_ofNat']
      omega
    rw [be, beV_cons, be_length, beV_be_mod m k, e1, Int.toNat_natCast, e2, Nat.pow_succ, Nat.mod_mul]
    rw [Int.natCast_add, Int.natCast_mul, Int.natCast_pow, Int.mul_comm, Int.add_comm]
    rfl
theorem beV_be {n : Int} {k : Nat} (h0 : 0 ≤ n) (h1 : n < 256 ^ k) : beV (be n k) = n := by
  obtain ⟨m, rfl⟩ := Int.eq_ofNat_of_zero_le h0
  rw [beV_be_mod, Nat.mod_eq_of_lt]
  have : ((m : Nat) : Int) < ((256 ^ k : Nat) : Int) := by rw [Int.natCast_pow]; exact h1
  omega
theorem stOf_size (l : List UInt8) : (stOf l).size = l.length := rfl
theorem stOf_extract (l : List UInt8) (a b : Nat) : (stOf l).extract a b = stOf ((l.take b).drop a) := by
  apply ByteArray.ext
  simp [stOf, ByteArray.data_extract, List.extract_eq_take_drop, List.drop_take]
theorem ex_left (l r : List UInt8) (k : Nat) (h : l.length = k) : (stOf (l ++ r)).extract k (stOf (l ++ r)).size = stOf r := by
  rw [stOf_extract, stOf_size, List.take_length, ← h, List.drop_left]
theorem num_left {n : Int} {k : Nat} (h0 : 0 ≤ n) (h1 : n < 256 ^ k) (r : List UInt8) : beV ((bsOf (stOf (be n k ++ r))).take k) = n := by
  rw [bsOf_stOf, List.take_left' (be_length n k), beV_be h0 h1]
/-- What was written is read: a number. -/
theorem number_back {w : World} {r x : Nat} {rest : List UInt8} {left : Int} (sz n : Nat) (h : Rr w r x (stOf (be n sz ++ rest)) left) (hl : rest.length ≤ 1000000000) (h1 : 1 ≤ sz) (h4 : sz ≤ 4) (hn : (n : Int) < 256 ^ sz) :
    Calls Tryd.prog 94 #[.pointer (some ⟨r, 0, none⟩), .int .i64 sz] w (RrP (.int .i64 n) r x (stOf rest) left w) := by
  have hs : (stOf (be n sz ++ rest)).size = sz + rest.length := by rw [stOf_size, List.length_append, be_length]
  have := number_calls sz n h (by omega) h1 h4 (by omega) (num_left (by omega) hn rest)
  rwa [ex_left _ _ _ (be_length n sz)] at this
/-- A text. -/
theorem text_back {w : World} {r x : Nat} {s : ByteArray} {rest : List UInt8} {left : Int} (sz : Nat) (h : Rr w r x (stOf (be s.size sz ++ (bsOf s ++ rest))) left) (hl : s.size + rest.length ≤ 1000000000) (h1 : 1 ≤ sz) (h4 : sz ≤ 4) (hn : (s.size : Int) < 256 ^ sz) :
    Calls Tryd.prog 95 #[.pointer (some ⟨r, 0, none⟩), .int .i64 sz] w (RrP (.string s) r x (stOf rest) left w) := by
  have hz : (bsOf s ++ rest).length = s.size + rest.length := by rw [List.length_append, bsOf_length]
  have hs : (stOf (be s.size sz ++ (bsOf s ++ rest))).size = sz + (s.size + rest.length) := by rw [stOf_size, List.length_append, be_length, hz]
  have h0 := text_calls sz s.size h (by omega) h1 h4 (by omega) (num_left (by omega) hn _) (by omega)
  rw [ex_left _ _ _ (be_length _ sz)] at h0
  have e1 : (stOf (bsOf s ++ rest)).extract 0 s.size = s := by
    rw [stOf_extract, List.take_left' (bsOf_length s), List.drop_zero]; rfl
  have e2 : (stOf (bsOf s ++ rest)).extract s.size ((stOf (be s.size sz ++ (bsOf s ++ rest))).size - sz) = stOf rest := by
    rw [show (stOf (be s.size sz ++ (bsOf s ++ rest))).size - sz = (stOf (bsOf s ++ rest)).size by rw [hs, stOf_size, hz]; omega]
    exact ex_left _ _ _ (bsOf_length s)
  rwa [e1, e2] at h0
end Go.Proofs.YtkmojgdjapfbbaaDoor
namespace Go.Proofs.YtkmojgdjapfbbaaDoor
open Go.RowKit Go.Maps
set_option linter.unusedSimpArgs false
set_option linter.unusedVariables false

def exB (x : IExt) : List UInt8 := be x.1 4 ++ (be x.2.size 4 ++ bsOf x.2)
def hd (ns : List ByteArray) : ByteArray := ns.headD ⟨#[]⟩
mutual
def T.enc : T → List UInt8
  | .node k o ns its sz ex tg => be k 1 ++ (if k = 1 then be sz 4 ++ (be ex.length 4 ++ ex.flatMap exB) else if k = 2 then be (if o = true then 1 else 0) 1 ++ (be ns.length 2 ++ T.encL ns its) else if k = 3 then be tg.size 2 ++ bsOf tg else [])
def T.encL (ns : List ByteArray) : List T → List UInt8
  | [] => []
  | t :: l => be (hd ns).size 1 ++ (bsOf (hd ns) ++ (t.enc ++ T.encL ns.tail l))
end
theorem enc_file (sz : Int) (ex : List IExt) : T.enc (.node 1 false [] [] sz ex ⟨#[]⟩) = be 1 1 ++ (be sz 4 ++ (be ex.length 4 ++ ex.flatMap exB)) := by simp [T.enc]
theorem enc_dir (o : Bool) (ns : List ByteArray) (its : List T) : T.enc (.node 2 o ns its 0 [] ⟨#[]⟩) = be 2 1 ++ (be (if o = true then 1 else 0) 1 ++ (be ns.length 2 ++ T.encL ns its)) := by simp [T.enc]
theorem enc_link (tg : ByteArray) : T.enc (.node 3 false [] [] 0 [] tg) = be 3 1 ++ (be tg.size 2 ++ bsOf tg) := by simp [T.enc]
theorem enc_white : T.enc (.node 4 false [] [] 0 [] ⟨#[]⟩) = be 4 1 := by simp [T.enc]
theorem T.encL_at {ns : List ByteArray} {its : List T} {j : Nat} {s : ByteArray} {u : T} (hs : ns[j]? = some s) (hu : its[j]? = some u) :
    T.encL (ns.drop j) (its.drop j) = be s.size 1 ++ (bsOf s ++ (u.enc ++ T.encL (ns.drop (j + 1)) (its.drop (j + 1)))) := by
  rw [drop_at hu, drop_at hs]; rfl

inductive Eok : T → Prop
  | file (sz : Int) (ex : List IExt) (h0 : 0 ≤ sz) (h1 : sz < 4294967296) (he : ex.length ≤ 1000000) (hx : ∀ x ∈ ex, 0 ≤ x.1 ∧ x.1 < 4294967296 ∧ x.2.size ≤ 1000000) : Eok (.node 1 false [] [] sz ex ⟨#[]⟩)
  | dir (o : Bool) (ns : List ByteArray) (its : List T) (hn : ns.length = its.length) (hl : ns.length < 65536) (hs : ∀ s ∈ ns, s.size < 256) (hr : ∀ u ∈ its, Eok u) : Eok (.node 2 o ns its 0 [] ⟨#[]⟩)
  | link (tg : ByteArray) (h : tg.size < 65536) : Eok (.node 3 false [] [] 0 [] tg)
  | white : Eok (.node 4 false [] [] 0 [] ⟨#[]⟩)

theorem r3_offs {size : Int} : ∀ (E : List IExt) (q : Option IExt), r3 size q E = true → ∀ x ∈ E, 0 ≤ x.1 ∧ x.1 ≤ size
  | [], q, _, x, hx => by cases hx
  | y :: E, q, h, x, hx => by
    unfold r3 at h
    split at h
    · cases h
    split at h
    · cases h
    rcases List.mem_cons.1 hx with rfl | hx
    · omega
    · exact r3_offs E _ h x hx
theorem xsz_mem {E : List IExt} {x : IExt} (h : x ∈ E) : x.2.size ≤ xsz E := by
  induction E with
  | nil => cases h
  | cons y E ih =>
    simp only [xsz, List.map_cons, List.sum_cons] at ih ⊢
    rcases List.mem_cons.1 h with rfl | h
    · omega
    · have := ih h; omega
theorem empty_bytes {s : ByteArray} (h : s.toList.isEmpty = true) : s = ⟨#[]⟩ := by
  have := (empty_iff s).1 h
  apply ByteArray.ext
  apply Array.eq_empty_of_size_eq_zero
  exact this
theorem nil_of {α : Type} {l : List α} (h : l.length = 0) : l = [] := List.length_eq_zero_iff.1 h

theorem eok_of (t : T) : Sz t → t.all = true → t.wt ≤ 1000 → Eok t := by
  induction t using T.ind with
  | h t ih =>
    intro hz ha hw
    obtain ⟨_, hn, hi, he, hs, hx, hg, hr⟩ := hz
    rw [T.all_eq, Bool.and_eq_true] at ha
    rw [T.wt_eq] at hw
    have ho := T.one_law hx ha.2
    obtain ⟨k, o, ns, its, sz, ex, tg⟩ := t
    have h := ha.2
    have hL := ha.1
    rw [T.one_node] at h
    simp only [T.kind, T.target, T.size, T.exts, T.names, T.items] at hx ho hL hw hr ih
    by_cases hk : k = 1
    · rw [if_pos hk] at h
      subst hk
      simp only [Bool.and_eq_true] at h
      obtain ⟨⟨h1, h2⟩, h3⟩ := h
      have n1 := T.noneB_iff h1
      simp only [T.opq, T.names, T.items] at n1
      obtain ⟨rfl, n2, n3⟩ := n1
      obtain rfl := nil_of n2
      obtain rfl := nil_of n3
      obtain rfl := empty_bytes h2
      unfold r3B at h3
      split at h3
      · cases h3
      exact Eok.file sz ex (by omega) (by omega) (by omega) (fun x hx => by
        have h4 := r3_offs ex none h3 x hx
        have h5 := xsz_mem hx
        exact ⟨h4.1, by omega, by omega⟩)
    rw [if_neg hk] at h
    by_cases hk2 : k = 2
    · rw [if_pos hk2] at h
      subst hk2
      simp only [Bool.and_eq_true] at h
      obtain ⟨⟨h1, h2⟩, h3⟩ := h
      have n1 := T.emptyB_iff h1
      simp only [T.size, T.exts] at n1
      obtain ⟨rfl, n2⟩ := n1
      obtain rfl := nil_of n2
      obtain rfl := empty_bytes h2
      have h4 := h3
      unfold T.namesOk at h4
      simp only [T.names, T.items, Bool.and_eq_true, decide_eq_true_eq] at h4
      exact Eok.dir o ns its (of_decide_eq_true h4.2) (by omega) (fun s hs => by have := nameOk_size (ho.2.2.1 s hs); omega) (fun u hu => ih u hu (hr u hu) (T.allL_mem hL hu) (by have := T.wt_mem hu; omega))
    rw [if_neg hk2] at h
    by_cases hk3 : k = 3
    · rw [if_pos hk3] at h
      subst hk3
      simp only [Bool.and_eq_true, decide_eq_true_eq] at h
      obtain ⟨⟨⟨h1, h2⟩, h3⟩, h5⟩ := h
      have n1 := T.noneB_iff h1
      have n2 := T.emptyB_iff h2
      simp only [T.opq, T.names, T.items, T.size, T.exts] at n1 n2
      obtain ⟨rfl, n3, n4⟩ := n1
      obtain ⟨rfl, n5⟩ := n2
      obtain rfl := nil_of n3
      obtain rfl := nil_of n4
      obtain rfl := nil_of n5
      exact Eok.link tg (by omega)
    rw [if_neg hk3] at h
    by_cases hk4 : k = 4
    · rw [if_pos hk4] at h
      subst hk4
      simp only [Bool.and_eq_true, decide_eq_true_eq] at h
      obtain ⟨⟨h1, h2⟩, h3⟩ := h
      have n1 := T.noneB_iff h1
      have n2 := T.emptyB_iff h2
      simp only [T.opq, T.names, T.items, T.size, T.exts] at n1 n2
      obtain ⟨rfl, n3, n4⟩ := n1
      obtain ⟨rfl, n5⟩ := n2
      obtain rfl := nil_of n3
      obtain rfl := nil_of n4
      obtain rfl := nil_of n5
      obtain rfl := empty_bytes h3
      exact Eok.white
    rw [if_neg hk4] at h
    cases h

theorem exB_len (ex : List IExt) : (ex.flatMap exB).length = 8 * ex.length + xsz ex := by
  induction ex with
  | nil => simp [xsz]
  | cons x ex ih =>
    simp only [List.flatMap_cons, List.length_append, ih, exB, be_length, bsOf_length, xsz, List.map_cons, List.sum_cons, List.length_cons]
    omega
theorem encL_len {its : List T} (h : ∀ u ∈ its, u.enc.length ≤ 256 * u.wt) : ∀ ns : List ByteArray, (∀ s ∈ ns, s.size < 256) → (T.encL ns its).length ≤ 256 * its.length + 256 * T.wtL its := by
  induction its with
  | nil => intro ns _; simp [T.encL]
  | cons u l ih =>
    intro ns hs
    have h1 := h u (by simp)
    have h2 := ih (fun v hv => h v (List.mem_cons_of_mem _ hv)) ns.tail (fun s hs' => hs s (List.mem_of_mem_tail hs'))
    have h3 : (hd ns).size < 256 := by
      cases ns with
      | nil => show (0 : Nat) < 256; decide
      | cons a ns => exact hs a (by simp)
    simp only [T.encL, List.length_append, be_length, bsOf_length, T.wtL, List.length_cons]
    omega
theorem enc_len {t : T} (h : Eok t) : t.enc.length ≤ 256 * t.wt := by
  induction h with
  | file sz ex h0 h1 he hx =>
    rw [enc_file, T.wt_eq]
    simp only [List.length_append, be_length, exB_len, T.exts]
    omega
  | dir o ns its hn hl hs hr ih =>
    rw [enc_dir, T.wt_eq]
    have := encL_len ih ns hs
    simp only [List.length_append, be_length, T.names, T.items]
    omega
  | link tg h =>
    rw [enc_link, T.wt_eq]
    simp only [List.length_append, be_length, bsOf_length, T.target]
    omega
  | white =>
    rw [enc_white, T.wt_eq]
    simp only [be_length]
    omega
end Go.Proofs.YtkmojgdjapfbbaaDoor
