/- The contracts of package wire: the writer. -/
import Derived.Test.YtlajflcfpommoaaBase
import Derived.Test.YtlajflcfpommoaaProg
import Derived.Lib.AppendStr
import Derived.Lib.ConvBytes
import Derived.Laws.BytesArg
import Derived.Maps.AppendAt
namespace Go.Proofs.Ytlajflcfpommoaa
open Go.RowKit Go.Maps

def u8 (b : UInt8) : Value := .int .u8 b.toNat
/-- The lowest k bytes of a number, the highest first. -/
def be (n : Int) : Nat → List UInt8
  | 0 => []
  | k + 1 => UInt8.ofNat (n / 256 ^ k % 256).toNat :: be n k
theorem be_length (n : Int) : ∀ k, (be n k).length = k
  | 0 => rfl
  | k + 1 => by simp [be, be_length n k]

structure Wr (w : World) (base g : Nat) (v : Value) (bs : List UInt8) : Prop where
  blk : Blk w g 26 #[v]
  row : w.ownsRow base 5 1 v bs.length (bs.map u8)
  le : base ≤ g

def RetB (v : Value) (w : World) (e : Ending) (w' : World) : Prop := e = .returned v ∧ Below w.heap.size w w'
def Same (v : Value) (w : World) (e : Ending) (w' : World) : Prop := e = .returned v ∧ w = w'
/-- Where a slice's row lies behind a call: where it lay, or in a new block. -/
def Loc (v v' : Value) (w : World) : Prop := ∀ k, v'.ownBlock = some k → k < w.heap.size → some k = v.ownBlock
def WrP (base g : Nat) (v : Value) (bs : List UInt8) (w : World) (e : Ending) (w' : World) : Prop :=
  e = .returned (.bool true) ∧ ∃ v', Wr w' base g v' bs ∧ Keep (fun k => k = g ∨ some k = v.ownBlock) w w' ∧ Loc v v' w

def WtP (base g : Nat) (v : Value) (bs : List UInt8) (w : World) (e : Ending) (w' : World) : Prop :=
  e = .returned (.bool true) ∧ ∃ v', Wr w' base g v' bs ∧ Keep (fun k => k = g ∨ some k = v.ownBlock) w w'

theorem Wr.ne_row {w : World} {base g : Nat} {v : Value} {bs : List UInt8} (h : Wr w base g v bs) {b : Nat} {t : TypeId} {cs : Array Value} (hb : Blk w b t cs) (ht : t ≠ 5) : some b ≠ v.ownBlock := by
  rcases h.row.2 with ⟨rfl, _⟩ | ⟨r, cap, cur, rfl, _, hh, _⟩
  · simp [Value.ownBlock]
  · intro he
    have : b = r := by simpa [Value.ownBlock] using he
    subst this
    exact ht (by unfold Blk at hb; rw [hb] at hh; injection hh with hh; injection hh)
theorem Wr.keep {w w' : World} {base g : Nat} {v : Value} {bs : List UInt8} {S : Nat → Prop} (h : Wr w base g v bs) (hk : Keep S w w') (h1 : ¬ S g) (h2 : ∀ k, v.ownBlock = some k → ¬ S k) : Wr w' base g v bs := by
  refine ⟨h.blk.keep hk h1, ?_, h.le⟩
  obtain ⟨hl, hr⟩ := h.row
  refine ⟨hl, ?_⟩
  rcases hr with hr | ⟨r, cap, cur, rfl, hbr, hh, r'⟩
  · exact .inl hr
  · have hlt : r < w.heap.size := (Array.getElem?_eq_some_iff.1 hh).1
    exact .inr ⟨r, cap, cur, rfl, hbr, (hk.block r hlt (h2 r rfl)).trans hh, r'⟩
theorem Wr.size {w : World} {base g : Nat} {v : Value} {bs : List UInt8} (h : Wr w base g v bs) : base ≤ w.heap.size := by
  have := h.blk.lt
  have := h.le
  omega

/-- Does it fit? -/
def fits (n size : Int) : Prop := 1 ≤ size ∧ size ≤ 4 ∧ 0 ≤ n ∧ n < 256 ^ size.toNat
instance (n size : Int) : Decidable (fits n size) := by unfold fits; infer_instance

theorem Try.info5 : (Try.prog.info? 5).map (fun i => (i.zero, i.size, i.bytes)) = some (some (.int .u8 0), 1, 1) := by kernel_rfl

theorem row_keep {w w' : World} {base e size n : Nat} {v : Value} {xs : List Value} {S : Nat → Prop} (h : w.ownsRow base e size v n xs) (hk : Keep S w w') (h2 : ∀ k, v.ownBlock = some k → ¬ S k) : w'.ownsRow base e size v n xs := by
  obtain ⟨hl, hr⟩ := h
  refine ⟨hl, ?_⟩
  rcases hr with hr | ⟨r, cap, cur, rfl, hbr, hh, r'⟩
  · exact .inl hr
  · have hlt : r < w.heap.size := (Array.getElem?_eq_some_iff.1 hh).1
    exact .inr ⟨r, cap, cur, rfl, hbr, (hk.block r hlt (h2 r rfl)).trans hh, r'⟩
theorem row_ne {w : World} {base e size n : Nat} {v : Value} {xs : List Value} (h : w.ownsRow base e size v n xs) {b : Nat} {t : TypeId} {cs : Array Value} (hb : Blk w b t cs) (ht : t ≠ e) : some b ≠ v.ownBlock := by
  rcases h.2 with ⟨rfl, _⟩ | ⟨r, cap, cur, rfl, _, hh, _⟩
  · simp [Value.ownBlock]
  · intro he
    have : b = r := by simpa [Value.ownBlock] using he
    subst this
    exact ht (by unfold Blk at hb; rw [hb] at hh; injection hh with hh; injection hh)
theorem own_slice {w : World} {base n : Nat} {e : TypeId} {size : Nat} {v : Value} {xs : List Value} (h : w.ownsRow base e size v n xs) : ∃ A c, v = .slice A n c := by
  rcases h.2 with ⟨rfl, rfl⟩ | ⟨g, cap, cur, rfl, _⟩
  · exact ⟨none, 0, rfl⟩
  · exact ⟨_, cap, rfl⟩
/-- append, its result's shape written out. -/
theorem wpList_app {P : Program} {w : World} {ops : Array Oper} {rest : List Oper} {o : Oper} {a : Act} {Q : Exit → Act → World → Prop} (hgd : o.guard = none) (s x : Operand) (t : TypeId)
    (ho : o.op = .call { callee := .builtin .append, args := #[s, x], argTypes := #[t, t] })
    (base : Nat) (e : TypeId) (i : TypeInfo) (z : Value) (size bytes : Nat) (ht : P.underlying t = some (.slice e)) (hi : P.info? e = some i) (hz : i.zero = some z)
    (hsize : i.size = size) (hby : i.bytes = bytes) (hzs : z.cells.size = size) (hsz : 0 < size)
    (v : Value) (n : Nat) (xs : List Value) (hs : a.eval s = v) (hown : w.ownsRow base e size v n xs)
    (ad : Addr) (m c : Nat) (news : List Value) (hx : a.eval x = .slice (some ad) m c) (hl : news.length = m * size) (hnews : ∀ j u, news[j]? = some u → w.cell? (ad.add j) = some u) (h1 : ∀ u ∈ news, u.oneCell' = true)
    (h63 : n + m ≤ maxLen) (hbytes : (n + m) * bytes ≤ 140737488355328) (hbase : base ≤ w.heap.size)
    (h : ∀ A c' w', w'.ownsRow base e size (.slice A (n + m) c') (n + m) (xs ++ news) → w.grownBy w' v.ownBlock → ((Value.slice A (n + m) c').ownBlock = v.ownBlock ∨ (Value.slice A (n + m) c').ownBlock = some w.heap.size) → wpList P ops Q rest (a.put o.dst (.slice A (n + m) c')) w') :
    wpList P ops Q (o :: rest) a w :=
  wpList_append_own_at w hgd s x t ho base e i z size bytes ht hi hz hsize hby hzs hsz v n xs hs hown ad m c news hx hl hnews h1 h63 hbytes hbase (fun v' w' ho hg _ hl => by
    obtain ⟨A, c', rfl⟩ := own_slice ho
    exact h A c' w' ho hg hl)
theorem wpList_app_str {P : Program} {w : World} {ops : Array Oper} {rest : List Oper} {o : Oper} {a : Act} {Q : Exit → Act → World → Prop} (hgd : o.guard = none) (sl x : Operand) (t u : TypeId)
    (ho : o.op = .call { callee := .builtin .append, args := #[sl, x], argTypes := #[t, u] })
    (base : Nat) (e : TypeId) (i : TypeInfo) (ht : P.underlying t = some (.slice e)) (hu : P.underlying u = some .string) (hi : P.info? e = some i) (hz : i.zero = some (.int .u8 0))
    (hsize : i.size = 1) (hby : i.bytes = 1)
    (v : Value) (n : Nat) (xs : List Value) (hs : a.eval sl = v) (hown : w.ownsRow base e 1 v n xs) (s : ByteArray) (hx : a.eval x = .string s)
    (h63 : n + s.size ≤ maxLen) (hbytes : n + s.size ≤ 140737488355328) (hbase : base ≤ w.heap.size)
    (h : ∀ A c' w', w'.ownsRow base e 1 (.slice A (n + s.size) c') (n + s.size) (xs ++ Lib.strCells s) → w.grownBy w' v.ownBlock → wpList P ops Q rest (a.put o.dst (.slice A (n + s.size) c')) w') : wpList P ops Q (o :: rest) a w :=
  Lib.wpList_append_own_string w hgd sl x t u ho base e i ht hu hi hz hsize hby v n xs hs hown s hx h63 hbytes hbase (fun v' w' ho hg _ => by
    obtain ⟨A, c', rfl⟩ := own_slice ho
    exact h A c' w' ho hg)

/-- A step of writing: what was appended is stored into the writer. -/
theorem Wr.wrote {w wr w1 w2 : World} {base g : Nat} {v v1 v2 : Value} {cur l : List UInt8} (h : Wr wr base g v1 cur) (hk1 : Keep (fun _ => False) wr w1) (hg : w1.grownBy w2 v1.ownBlock) (ho : w2.ownsRow base 5 1 v2 (cur.length + l.length) (cur.map u8 ++ l.map u8))
    (hk : Keep (fun k => k = g ∨ some k = v.ownBlock) w wr) (hl : Loc v v1 w) :
    Wr (w2.setCell ⟨g, 0, none⟩ v2) base g v2 (cur ++ l) ∧ Keep (fun k => k = g ∨ some k = v.ownBlock) w (w2.setCell ⟨g, 0, none⟩ v2) := by
  have b1 := h.blk.keep hk1 (by simp)
  have b2 := b1.grown hg (h.ne_row h.blk (by decide))
  refine ⟨⟨by simpa using b2.set_ 0 v2, ?_, h.le⟩, ?_⟩
  · have := row_keep ho ((Keep.refl (fun k => k = g) w2).setCell (p := ⟨g, 0, none⟩) (fun _ => rfl) v2) (fun k e hk => by subst hk; exact row_ne ho b2 (by decide) e.symm)
    simpa using this
  · have h1 := hk.trans (hk1.mono (fun _ _ hf => hf.elim))
    have h2 := h1.grown hg (fun k e hk => .inr (hl k e hk))
    exact h2.setCell (p := ⟨g, 0, none⟩) (fun _ => .inl rfl) v2

theorem pow8 : ∀ k : Nat, (2 : Int) ^ (8 * k) = 256 ^ k
  | 0 => rfl
  | k + 1 => by rw [Nat.mul_succ, Int.pow_add, pow8 k, Int.pow_succ]; rfl
theorem shr0 {n : Int} {k : Nat} (h0 : 0 ≤ n) (h : n < 256 ^ k) : (n / 2 ^ (8 * k) != 0) = false := by
  rw [pow8, Int.ediv_eq_zero_of_lt h0 h]; rfl
theorem u8_be (n : Int) (k : Nat) : Value.int .u8 (n / 2 ^ (8 * k) % 256) = u8 (UInt8.ofNat (n / 256 ^ k % 256).toNat) := by
  unfold u8
  rw [pow8]
  have h0 : 0 ≤ n / 256 ^ k % 256 := Int.emod_nonneg _ (by decide)
  have h1 : n / 256 ^ k % 256 < 256 := Int.emod_lt_of_pos _ (by decide)
  have : ((UInt8.ofNat (n / 256 ^ k % 256).toNat).toNat : Int) = n / 256 ^ k % 256 := by
    rw [UInt8.toNat_ofNat']
    omega
  rw [this]

set_option maxHeartbeats 400000 in
theorem Put_yes (base g : Nat) (v : Value) (bs : List UInt8) (n : Int) (sz : Nat) (w : World) (h : Wr w base g v bs) (h1 : 1 ≤ sz) (h4 : sz ≤ 4) (hn0 : 0 ≤ n) (hn1 : n < 256 ^ sz) (hb : bs.length ≤ 1000000) :
    Calls Try.prog 10 #[.pointer (some ⟨g, 0, none⟩), .int .i64 n, .int .i64 sz] w (WrP base g v (bs ++ be n sz) w) := by
  have hs := shr0 hn0 hn1
  obtain ⟨i0, hi, hz0, hz1, hz2⟩ := info_parts Try.info5
  have H := Av.mk h
  have hsz := h.blk.lt
  have I := Av.mk (And.intro hi (And.intro hz0 (And.intro hz1 hz2)))
  clear h hi hz0 hz1 hz2
  go_enter Try.func10, Try.ntmps10
  go_wp2
  go_loopw [7] (fun i wr => ∃ (k : Nat) (cur : List UInt8) (v' : Value), k ≤ sz ∧ i = .int .i64 ((k : Int) - 1) ∧ Wr wr base g v' cur ∧ cur.length ≤ bs.length + 4 ∧ cur ++ be n k = bs ++ be n sz ∧ Keep (fun k => k = g ∨ some k = v.ownBlock) w wr ∧ Loc v v' w) (fun i _ => (intOf i + 1).toNat)
  case atStart => exact ⟨sz, bs, v, Nat.le_refl _, rfl, H.out, by omega, rfl, Keep.refl _ _, fun k e _ => e.symm⟩
  case round =>
    obtain ⟨k, cur, v', hk, rfl, hw, hlen, he, hkp, hloc⟩ := hrel
    rcases k with _ | k
    · have HK := Av.mk hkp
      have HW := Av.mk hw
      have HE := Av.mk he
      have HL := Av.mk hloc
      clear hkp hw he hloc
      go_wp2
      go_ret
      refine ⟨rfl, v', ?_, HK.out, HL.out⟩
      have := HE.out
      simp [be] at this
      rw [← this]
      exact HW.out
    · have ek : (((k + 1 : Nat) : Int) - 1) = k := by omega
      rw [ek]
      have HK := Av.mk hkp
      have HW := Av.mk hw
      have HE := Av.mk he
      have HL := Av.mk hloc
      have c0 := hw.blk.cell 0
      simp at c0
      have X := Av.mk (u8_be n k)
      have hln := HW.out.blk.lt
      have hsz := HW.out.size
      clear hkp hw he hloc ek hs
      go_wp2_with (first | (at_builtin; refine wpList_app rfl _ _ 24 rfl base 5 i0 (.int .u8 0) 1 1 Try.underlying24 I.out.1 I.out.2.1 I.out.2.2.1 I.out.2.2.2 rfl (by decide) v' cur.length (cur.map u8) rfl (HW.out.row.alloc _) ⟨wr.heap.size, 0, none⟩ 1 1 [.int .u8 (n / 2 ^ (8 * k) % 256)] rfl rfl (cell_one_new _ _ _) (ints_oneCell .u8 [_]) (by unfold maxLen; omega) (by omega) (by simp; omega) ?_; intro A2 c2 w2 hown2 hgrow2 hloc2; have HO := Av.mk hown2; have HG := Av.mk hgrow2; have HL2 := Av.mk hloc2; have HB2 := Av.mk ((HW.out.blk.alloc (.cells #[.int .u8 (n / 2 ^ (8 * k) % 256)] 5)).grown hgrow2 (HW.out.ne_row HW.out.blk (by decide))); have d0 := HB2.out.cell 0; have df := HB2.out.frozen 0; simp at d0; clear hown2 hgrow2 hloc2))
      have HR := Av.mk (HW.out.wrote (l := [UInt8.ofNat (n / 256 ^ k % 256).toNat]) ((Keep.refl _ wr).alloc _) HG.out (by have := HO.out; rw [X.out] at this; exact this) HK.out HL.out)
      have HS := Av.mk (show Loc v (.slice A2 (cur.length + 1) c2) w from fun j e hj => by
        rcases HL2.out with h | h
        · exact HL.out j (by rw [← h]; exact e) hj
        · have e' := Option.some.inj (h.symm.trans e)
          have := HK.out.size
          simp at e'
          omega)
      go_roundw
      case rel => exact ⟨k, _, _, by omega, rfl, HR.out.1, by have := congrArg List.length HE.out; simp [be_length] at this ⊢; omega, by rw [List.append_assoc]; exact HE.out, HR.out.2, HS.out⟩
      case measure => simp [intOf]

theorem shr1 {n : Int} {k : Nat} (h0 : 0 ≤ n) (h : 256 ^ k ≤ n) : (n / 2 ^ (8 * k) != 0) = true := by
  rw [pow8, bne_iff_ne]
  have hp : (0 : Int) < 256 ^ k := Int.pow_pos (by decide)
  have := Int.ediv_le_ediv hp h
  rw [Int.ediv_self (by omega)] at this
  omega

set_option maxHeartbeats 400000 in
theorem Put_no (g : Nat) (n sz : Int) (w : World) (h : ¬ fits n sz) :
    Calls Try.prog 10 #[.pointer (some ⟨g, 0, none⟩), .int .i64 n, .int .i64 sz] w (Same (.bool false) w) := by
  unfold fits at h
  by_cases h1 : sz < 1
  · clear h
    go_enter Try.func10, Try.ntmps10
    go_wp2
    go_ret
    exact ⟨rfl, rfl⟩
  by_cases h2 : 4 < sz
  · clear h
    go_enter Try.func10, Try.ntmps10
    go_wp2
    go_ret
    exact ⟨rfl, rfl⟩
  by_cases h3 : n < 0
  · clear h
    go_enter Try.func10, Try.ntmps10
    go_wp2
    go_ret
    exact ⟨rfl, rfl⟩
  obtain ⟨k, rfl⟩ : ∃ k : Nat, sz = k := ⟨sz.toNat, by omega⟩
  have hs := shr1 (n := n) (k := k) (by omega) (by
    rcases Int.lt_or_le n (256 ^ k) with hlt | hge
    · exact absurd ⟨by omega, by omega, by omega, by rw [Int.toNat_natCast]; exact hlt⟩ h
    · exact hge)
  have g1 : 1 ≤ k := by omega
  have g2 : k ≤ 4 := by omega
  have g3 : 0 ≤ n := by omega
  clear h h1 h2 h3
  go_enter Try.func10, Try.ntmps10
  go_wp2
  go_ret
  exact ⟨rfl, rfl⟩

def bsOf (s : ByteArray) : List UInt8 := s.data.toList
theorem bsOf_length (s : ByteArray) : (bsOf s).length = s.size := by rw [bsOf, Array.length_toList]; rfl
theorem strCells_bs (s : ByteArray) : Lib.strCells s = (bsOf s).map u8 := rfl

set_option maxHeartbeats 400000 in
theorem WText_no (g : Nat) (s : ByteArray) (sz : Int) (w : World) (h : ¬ fits s.size sz) :
    Calls Try.prog 9 #[.pointer (some ⟨g, 0, none⟩), .string s, .int .i64 sz] w (Same (.bool false) w) := by
  have HP := Av.mk (Put_no g s.size sz w h)
  clear h
  go_enter Try.func9, Try.ntmps9
  go_wp2_with fail
  refine HP.out.mono ?_
  rintro e w1 ⟨rfl, rfl⟩
  go_wp2
  go_ret
  exact ⟨rfl, rfl⟩

set_option maxHeartbeats 400000 in
theorem WText_yes (base g : Nat) (v : Value) (bs : List UInt8) (s : ByteArray) (sz : Nat) (w : World) (h : Wr w base g v bs) (h1 : 1 ≤ sz) (h4 : sz ≤ 4) (hn1 : (s.size : Int) < 256 ^ sz) (hb : bs.length ≤ 1000000) (hss : s.size ≤ 1000000) :
    Calls Try.prog 9 #[.pointer (some ⟨g, 0, none⟩), .string s, .int .i64 sz] w (WtP base g v (bs ++ be s.size sz ++ bsOf s) w) := by
  have HP := Av.mk (Put_yes base g v bs s.size sz w h h1 h4 (by omega) hn1 hb)
  obtain ⟨i0, hi, hz0, hz1, hz2⟩ := info_parts Try.info5
  have I := Av.mk (And.intro hi (And.intro hz0 (And.intro hz1 hz2)))
  clear h hi hz0 hz1 hz2 hn1
  go_enter Try.func9, Try.ntmps9
  go_wp2_with fail
  refine HP.out.mono ?_
  rintro e w1 ⟨rfl, v1, hw, hk, hl⟩
  have HW := Av.mk hw
  have HK := Av.mk hk
  have HL := Av.mk hl
  have c0 := hw.blk.cell 0
  have hsz := hw.size
  have hle : (bs ++ be s.size sz).length = bs.length + sz := by simp [be_length]
  have hln : (bs ++ be s.size sz).length ≤ 1000004 := by omega
  simp at c0
  clear hw hk hl hle
  generalize bs ++ be s.size sz = bs1 at *
  go_wp2_with (first | (at_builtin; refine wpList_app_str rfl _ _ 24 9 rfl base 5 i0 Try.underlying24 Try.underlying9 I.out.1 I.out.2.1 I.out.2.2.1 I.out.2.2.2 v1 bs1.length (bs1.map u8) rfl HW.out.row s rfl (by unfold maxLen; omega) (by omega) hsz ?_; intro A2 c2 w2 hown2 hgrow2; have HO := Av.mk hown2; have HG := Av.mk hgrow2; have HB2 := Av.mk (HW.out.blk.grown hgrow2 (HW.out.ne_row HW.out.blk (by decide))); have d0 := HB2.out.cell 0; have df := HB2.out.frozen 0; simp at d0; clear hown2 hgrow2))
  go_ret
  have HR := HW.out.wrote (w := w) (v := v) (v2 := .slice A2 (bs1.length + s.size) c2) (l := bsOf s) (Keep.refl _ w1) HG.out (by rw [bsOf_length, ← strCells_bs]; exact HO.out) HK.out HL.out
  exact ⟨rfl, _, HR.1, HR.2⟩

def stOf (bs : List UInt8) : ByteArray := ⟨bs.toArray⟩
theorem bsOf_stOf (bs : List UInt8) : bsOf (stOf bs) = bs := rfl
theorem stOf_bsOf (s : ByteArray) : stOf (bsOf s) = s := rfl

theorem run_conv_row {P : Program} {w : World} {base : Nat} {src e dst : TypeId} {v : Value} {bs : List UInt8} (hs : P.underlying src = some (.slice e)) (he : P.underlying e = some (.int .u8)) (hd : P.underlying dst = some .string)
    (h : w.ownsRow base e 1 v bs.length (bs.map u8)) : (convert src dst v).run P w = .ok (.string (stOf bs)) w := by
  rcases h.2 with ⟨rfl, h0⟩ | ⟨r, cap, cur, rfl, _⟩
  · have : bs = [] := List.eq_nil_of_length_eq_zero h0
    subst this
    exact run_convert_bytes_nil w src e hs he 0 0 dst hd
  · have := run_convert_bytes_arg (P := P) w src e hs he r 0 bs.length cap (bs.map fun b => (b.toNat : Int)) (by simp) (fun i hi => by
      have hc := h.cellAt i (by omega)
      rw [Nat.zero_add, hc]
      simp [u8, List.getD, List.getElem?_eq_getElem hi]) dst hd
    rw [this]
    congr 2
    unfold strOfNums stOf
    congr 2
    rw [List.map_map]
    conv => rhs; rw [← List.map_id bs]
    apply List.map_congr_left
    intro b _
    simp

set_option maxHeartbeats 400000 in
theorem WBytes (base g : Nat) (v : Value) (bs : List UInt8) (w : World) (h : Wr w base g v bs) :
    Calls Try.prog 11 #[.pointer (some ⟨g, 0, none⟩)] w (Same (.string (stOf bs)) w) := by
  have c0 := h.blk.cell 0
  have hc := run_conv_row Try.underlying24 Try.underlying5 Try.underlying9 h.row
  obtain ⟨A, c, rfl⟩ := own_slice h.row
  simp at c0
  go_enter Try.func11, Try.ntmps11
  go_wp2
  go_ret
  exact ⟨rfl, rfl⟩

end Go.Proofs.Ytlajflcfpommoaa
