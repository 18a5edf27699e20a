/- extent.Read. -/
import Derived.Test.YtkmojgdjapfbbaaDoorXr
import Derived.Test.YtkmojgdjapfbbaaDoorBd
import Derived.Deep.DeepCutAuto
namespace Go.Proofs.YtkmojgdjapfbbaaDoor
open Go.RowKit Go.Maps
set_option linter.unusedSimpArgs false
set_option linter.unusedVariables false
attribute [local go_sem ↓] run_max_int run_min_int

abbrev n1 : ByteArray := ⟨#[0]⟩
def StrB (l : List UInt8) (w : World) (e : Ending) (w' : World) : Prop := e = .returned (.string ⟨l.toArray⟩) ∧ Below w.heap.size w w'
theorem repeat_nul : ∀ c, Lib.repeatL [0] c = List.replicate c 0
  | 0 => rfl
  | c + 1 => by rw [Lib.repeatL, repeat_nul c]; rfl
theorem Nul_calls (c : Nat) (w : World) (hc : c ≤ 1000000000) : Calls Tryd.prog 61 #[.string n1, .int .i64 c] w (StrB (List.replicate c 0) w) := by
  refine (Tryd.strings_Repeat n1 c w (by omega) (by have : n1.size = 1 := rfl; rw [this]; omega)).mono ?_
  rintro e w' ⟨rfl, hb⟩
  have : n1.data.toList = [0] := rfl
  rw [this, repeat_nul]
  exact ⟨rfl, hb⟩
/-- The reader's state: so much is written. -/
structure RdS (B0 b : Nat) (l : List UInt8) (w : World) : Prop where
  bd : Lib.IsBuilderF 114 5 B0 b (Lib.byteCells l) w
theorem othersCell {b : Nat} {w w' : World} {t : TypeId} {cs : Array Value} {g : Nat} (h : Lib.OthersKept 5 (some b) w w') (hx : Blk w g t cs) (ht : t ≠ 5) (hb : g ≠ b) : Blk w' g t cs :=
  h g _ hx (by simpa using hb) (fun c fz e => by cases e; exact ht rfl)
theorem isb_below {T e : TypeId} {B b : Nat} {bs : List Value} {w w' : World} (h : Lib.IsBuilderF T e B b bs w) (hb : Below w.heap.size w w') : Lib.IsBuilderF T e B b bs w' := by
  have go : ∀ p, Lib.BuilderAtF T e B b p bs w → Lib.BuilderAtF T e B b p bs w' := by
    rintro p hp
    have hlt := hp.lt
    obtain ⟨h1, v, h2, h3, h4⟩ := hp
    exact ⟨h1, v, (hb.block b hlt).trans h2, h3.kept (row := none) ⟨hb.os, hb.tape, hb.output, hb.size, fun k hk _ => hb.block k hk⟩ (by cases h : v.ownBlock <;> simp), h4⟩
  exact h.imp (go _) (go _)
theorem isb_le {T e : TypeId} {B b : Nat} {bs : List Value} {w : World} (h : Lib.IsBuilderF T e B b bs w) : b ≤ w.heap.size := by
  rcases h with h | h <;> exact Nat.le_of_lt h.lt
theorem Lib_str (s : ByteArray) : Lib.strCells s = Lib.byteCells s.data.toList := Lib.strCells_eq s
set_option maxHeartbeats 4000000 in
theorem Read_calls (B : Nat → Prop) (size : Nat) (E : List Ext) (A : Option Addr) (c off n e : Nat) (w : World) (h : Sl B w 2 (.slice A E.length c) E.length (exCells E)) (ho : Ordered 0 E e) (he : e ≤ 1048576) (hl : E.length ≤ 1048576) (hsz : size ≤ 1048576) (hoff : off ≤ 1048576) (hn : n ≤ 1048576) :
    Calls Tryd.prog 26 #[.int .i64 size, .slice A E.length c, .int .i64 off, .int .i64 n] w (StrB (bytesOf E off (min n (size - off))) w) := by
  have H := Av.mk h
  have HO := Av.mk ho
  clear h ho
  by_cases h1 : size ≤ off
  · have hz : min n (size - off) = 0 := by omega
    have HZ := Av.mk hz
    clear hz
    go_enter Tryd.func26, Tryd.ntmps26
    go_wp2_with fail
    go_ret
    exact ⟨by rw [HZ.out]; rfl, Below.refl _ _⟩
  by_cases h2 : n < 1
  · have hz : min n (size - off) = 0 := by omega
    have HZ := Av.mk hz
    clear hz
    go_enter Tryd.func26, Tryd.ntmps26
    go_wp2_with fail
    go_ret
    exact ⟨by rw [HZ.out]; rfl, Below.refl _ _⟩
  obtain ⟨N, hN⟩ : ∃ N, min n (size - off) = N := ⟨_, rfl⟩
  have hmn : mn (n : Int) ((size : Int) - (off : Int)) = (N : Int) := by unfold mn; split <;> omega
  have hN2 : N ≤ 1048576 := by omega
  have HMN := Av.mk hmn
  rw [hN]
  clear hmn hN
  go_enter Tryd.func26, Tryd.ntmps26
  go_wp2_with fail
  rw [HMN.out]
  have hba := below_alloc (Below.refl _ w) (.cells #[.pointer none, .slice none 0 0] 114)
  have HS0 : Av (Lib.IsBuilderF 114 5 w.heap.size w.heap.size (Lib.byteCells (bytesOf E off 0)) (w.alloc (.cells #[.pointer none, .slice none 0 0] 114))) :=
    ⟨.inl ⟨Nat.le_refl _, .slice none 0 0, heap_alloc_new w _, World.ownsRowF_nil _ _ _ _, by simp [Value.ownBlock]⟩⟩
  have HB0 := Av.mk hba
  clear hba
  obtain ⟨b, hb⟩ : ∃ b, b = w.heap.size := ⟨_, rfl⟩
  rw [← hb] at HS0 HB0
  have HBS := Av.mk hb
  rw [← hb]
  generalize w.alloc (.cells #[.pointer none, .slice none 0 0] 114) = w0 at *
  clear hb
  go_loopw [32] (fun i wr => ∃ (k L : Nat), k ≤ E.length ∧ i = .int .i64 k ∧ Lib.IsBuilderF 114 5 b b (Lib.byteCells (bytesOf E off L)) wr ∧ Below b w wr ∧ Av (RdInv E off N k L)) (fun i _ => E.length - (intOf i).toNat)
  case atStart => exact ⟨0, 0, Nat.zero_le _, rfl, HS0.out, HB0.out, ⟨RdInv.start _ _ _⟩⟩
  case round =>
    obtain ⟨k, L, hk, rfl, hs, hb, HI⟩ := hrel
    have HS := Av.mk hs
    have HB := Av.mk hb
    clear hs hb
    have hLen := HI.out.le
    by_cases hlt : k < E.length
    · obtain ⟨⟨xo, xd⟩, hx⟩ : ∃ x, E[k]? = some x := ⟨_, List.getElem?_eq_getElem hlt⟩
      have HBw : Av (Below w.heap.size w wr) := ⟨by rw [← HBS.out]; exact HB.out⟩
      obtain ⟨bx, ox, rfl, _, hbl, hc, c0, c1⟩ := (H.out.grow HBw.out).elem (fun _ => rfl) (by omega) hx
      replace c1 := c1 1 (by omega)
      simp [exC] at c0 c1
      have HD := Av.mk (drop_at hx)
      have hfin : Ext.fin (xo, xd) ≤ e := by
        obtain ⟨a, h3⟩ := ordered_drop k HO.out
        rw [HD.out] at h3
        exact h3.2.2.le
      have hpos : 0 < xd.size := by
        obtain ⟨a, h3⟩ := ordered_drop k HO.out
        rw [HD.out] at h3
        exact h3.2.1
      unfold Ext.fin at hfin
      simp only at hfin
      obtain ⟨fr, hfr⟩ : ∃ fr, max xo (off + L) = fr := ⟨_, rfl⟩
      obtain ⟨tt, htt⟩ : ∃ tt, min (xo + xd.size) (off + N) = tt := ⟨_, rfl⟩
      have hmx : mx (xo : Int) ((off : Int) + (L : Int)) = (fr : Int) := by unfold mx; split <;> omega
      have hmn : mn ((xo : Int) + (xd.size : Int)) ((off : Int) + (N : Int)) = (tt : Int) := by unfold mn; split <;> omega
      have s1 : IntKind.i64.wrap ((off : Int) + (L : Int)) = ((off + L : Nat) : Int) := by rw [IntKind.wrap_i64]; omega
      have s2 : IntKind.i64.wrap ((xo : Int) + (xd.size : Int)) = ((xo + xd.size : Nat) : Int) := by rw [IntKind.wrap_i64]; omega
      have s3 : IntKind.i64.wrap ((off : Int) + (N : Int)) = ((off + N : Nat) : Int) := by rw [IntKind.wrap_i64]; omega
      have HMX := Av.mk hmx
      have HMN2 := Av.mk hmn
      have HFR := Av.mk hfr
      have HTT := Av.mk htt
      have hb1 : fr ≤ 3000000 := by omega
      have hb2 : tt ≤ 3000000 := by omega
      have hb3 : xo ≤ fr := by omega
      have hb4 : off + L ≤ fr := by omega
      have hb5 : tt ≤ xo + xd.size := by omega
      have hb6 : tt ≤ off + N := by omega
      clear hx hfr htt hmx hmn
      go_upto_region 8 with (fail)
      have X1 := Av.mk (Blk.new wr 107 #[.int .i64 xo, .string xd])
      have HS1 := Av.mk (Lib.IsBuilderF.alloc HS.out (.cells #[.int .i64 xo, .string xd] 107))
      have HB1 := Av.mk (HB.out.alloc (by rw [HBS.out]; exact HBw.out.size) (.cells #[.int .i64 xo, .string xd] 107))
      have hxb : b < wr.heap.size := by
        rcases HS.out with h | h <;> exact h.lt
      clear HS HB c0 c1
      generalize wr.alloc (.cells #[.int .i64 xo, .string xd] 107) = w1 at *
      generalize wr.heap.size = gx at *
      have d0 := X1.out.cell 0
      have d1 := X1.out.cell 1
      have lx := X1.out.lt
      simp at d0 d1
      have HL : Av (∀ m, Calls Tryd.prog 59 #[.pointer (some ⟨b, 0, none⟩)] (w1.drewN m) (fun e w' => e = .returned (.int .i64 (L : Int)) ∧ ∃ m', w' = (w1.drewN m).drewN m')) :=
        ⟨fun m => (Tryd.Builder_Len_f b b _ (w1.drewN m) HS1.out).mono fun e w' h => ⟨by rw [h.1, Lib.byteCells_length, bytesOf_len], 0, h.2⟩⟩
      go_quiet ((go_at_call 59; refine Calls.quiet_of (HL.out _)))
      rw [HMX.out, HMN2.out]
      have X2 := Av.mk (X1.out.drewN nq)
      have HS2 : Av (Lib.IsBuilderF 114 5 b b (Lib.byteCells (bytesOf E off L)) (w1.drewN nq)) := ⟨HS1.out⟩
      have HB2 := Av.mk (below_drewN HB1.out nq)
      clear X1 HS1 HB1 d0 d1 lx s1 s2 s3 HL
      generalize w1.drewN nq = w2 at *
      by_cases hge : tt ≤ fr
      · have HI2 : Av (RdInv E off N (k + 1) L) := ⟨HI.out.skip HO.out HD.out (by rw [HFR.out]; unfold Ext.fin; rw [HTT.out]; exact hge)⟩
        go_wp2_with fail
        go_roundw
        case rel => exact ⟨k + 1, L, by omega, by go_num, HS2.out, HB2.out, HI2⟩
        case measure => simp [intOf]; omega
      · obtain ⟨hrd, hby⟩ := HI.out.read HO.out HD.out HFR.out (by unfold Ext.fin; exact HTT.out) (by omega)
        have HRD := Av.mk hrd
        have HBY := Av.mk hby
        obtain ⟨G, hG⟩ : ∃ G : Nat, fr - off - L = G := ⟨_, rfl⟩
        obtain ⟨a1, ha1⟩ : ∃ a1 : Nat, fr - xo = a1 := ⟨_, rfl⟩
        obtain ⟨a2, ha2⟩ : ∃ a2 : Nat, tt - xo = a2 := ⟨_, rfl⟩
        have e1 : (fr : Int) - (off : Int) - (L : Int) = (G : Int) := by omega
        have e2 : (fr : Int) - (xo : Int) = (a1 : Int) := by omega
        have e3 : (tt : Int) - (xo : Int) = (a2 : Int) := by omega
        have hG2 : G ≤ 3000000 := by omega
        have ha12 : a1 ≤ a2 := by omega
        have ha2x : a2 ≤ xd.size := by omega
        have hta : tt - fr = a2 - a1 := by omega
        have HG := Av.mk hG
        have HA1 := Av.mk ha1
        have HTA := Av.mk hta
        clear hrd hby hG ha1 ha2 hta
        have HL : Av (Calls Tryd.prog 59 #[.pointer (some ⟨b, 0, none⟩)] w2 (fun e w' => e = .returned (.int .i64 (L : Int)) ∧ w2 = w')) :=
          ⟨(Tryd.Builder_Len_f b b _ w2 HS2.out).mono fun e w' h => ⟨by rw [h.1, Lib.byteCells_length, bytesOf_len], h.2.symm⟩⟩
        go_wp2_with fail
        refine HL.out.mono ?_
        rintro e' _ ⟨rfl, rfl⟩
        go_wp2_with fail
        refine (Nul_calls G w2 (by omega)).mono ?_
        rintro e' w3 ⟨rfl, hb3'⟩
        have HS3 := Av.mk (isb_below HS2.out hb3')
        have X3 := Av.mk (X2.out.keep (Keep.of_below (S := fun _ => False) hb3') (by simp))
        have HB3 := Av.mk (below_then HB2.out (isb_le HS2.out) hb3')
        clear hb3'
        have HW := Av.mk (WriteString_calls b b _ ⟨(List.replicate G 0).toArray⟩ w3 HS3.out (by rw [Lib.byteCells_length, bytesOf_len, Lib.size_eq]; simp; omega) (isb_le HS3.out))
        go_wp2_with fail
        refine HW.out.mono ?_
        rintro e' w4 ⟨rfl, h4, hb4', ho4⟩
        have X4 := Av.mk (othersCell ho4 X3.out (by decide) (by omega))
        have HB4 := Av.mk (HB3.out.trans hb4')
        have HS4 := Av.mk h4
        have d0 := X4.out.cell 0
        have d1 := X4.out.cell 1
        have lx := X4.out.lt
        simp at d0 d1
        clear h4 hb4' ho4 HW
        have HW2 := Av.mk (WriteString_calls b b _ (xd.extract a1 a2) w4 (.inr HS4.out) (by
          rw [List.length_append, Lib.byteCells_length, bytesOf_len, Lib.strCells_length, Lib.size_eq, Lib.size_eq, Lib.extract_data]
          simp
          omega) (isb_le (.inr HS4.out)))
        go_wp2_with fail
        refine HW2.out.mono ?_
        rintro e' w5 ⟨rfl, h5, hb5', ho5⟩
        have HB5 := Av.mk (HB4.out.trans hb5')
        have HS5 := Av.mk h5
        clear h5 hb5' ho5 HW2 d0 d1 lx
        go_wp2_with fail
        go_roundw
        case rel =>
          refine ⟨k + 1, tt - off, by omega, by go_num, .inr ?_, HB5.out, HRD⟩
          rw [HBY.out, HG.out, HTA.out, HA1.out, Lib.byteCells_append, Lib.byteCells_append]
          have h5 := HS5.out
          rw [Lib_str, Lib_str, Lib.extract_data] at h5
          exact h5
        case measure => simp [intOf]; omega
    · obtain rfl : k = E.length := by omega
      have HF := Av.mk HI.out.done
      obtain ⟨G, hG⟩ : ∃ G : Nat, N - L = G := ⟨_, rfl⟩
      have e1 : (N : Int) - (L : Int) = (G : Int) := by omega
      have hG2 : G ≤ 3000000 := by omega
      have HG := Av.mk hG
      clear hG
      have HL : Av (Calls Tryd.prog 59 #[.pointer (some ⟨b, 0, none⟩)] wr (fun e w' => e = .returned (.int .i64 (L : Int)) ∧ wr = w')) :=
        ⟨(Tryd.Builder_Len_f b b _ wr HS.out).mono fun e w' h => ⟨by rw [h.1, Lib.byteCells_length, bytesOf_len], h.2.symm⟩⟩
      go_wp2_with fail
      refine HL.out.mono ?_
      rintro e' _ ⟨rfl, rfl⟩
      go_wp2_with fail
      refine (Nul_calls G wr (by omega)).mono ?_
      rintro e' w3 ⟨rfl, hb3'⟩
      have HS3 := Av.mk (isb_below HS.out hb3')
      have hBw := HB.out.size
      have hbw : b ≤ wr.heap.size := by
        rcases HS.out with h | h <;> exact Nat.le_of_lt h.lt
      have HB3 := Av.mk (below_then HB.out hbw hb3')
      clear hb3'
      have HW := Av.mk (WriteString_calls b b _ ⟨(List.replicate G 0).toArray⟩ w3 HS3.out (by rw [Lib.byteCells_length, bytesOf_len, Lib.size_eq]; simp; omega) (by
        have := HS3.out
        rcases this with h | h <;> exact Nat.le_of_lt h.lt))
      go_wp2_with fail
      refine HW.out.mono ?_
      rintro e' w4 ⟨rfl, h4, hb4', ho4⟩
      have HB4 := Av.mk (HB3.out.trans hb4')
      have HS4 : Av (Lib.IsBuilderF 114 5 b b (Lib.byteCells (bytesOf E off N)) w4) := ⟨by
        rw [HF.out, HG.out, Lib.byteCells_append]
        rw [Lib_str] at h4
        exact .inr h4⟩
      clear h4 hb4' ho4 HW
      have HSt := Av.mk (Tryd.Builder_String_any_f b b _ w4 HS4.out (by
        have := HS4.out
        rcases this with h | h <;> exact Nat.le_of_lt h.lt))
      go_wp2_with fail
      refine HSt.out.mono ?_
      rintro e' w5 ⟨rfl, _, hb5⟩
      have HB5 := Av.mk (HB4.out.trans hb5)
      clear hb5
      go_wp2
      go_ret
      exact ⟨rfl, by rw [← HBS.out]; exact HB5.out⟩
end Go.Proofs.YtkmojgdjapfbbaaDoor
