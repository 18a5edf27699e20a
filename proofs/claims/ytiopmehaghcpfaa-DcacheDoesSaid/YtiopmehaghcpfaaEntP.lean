/- Right, Dir, entry, same, socagelaw15.speaks. Printed by mac.py from EntP.src. -/
import Derived.Test.YtiopmehaghcpfaaDirP
import Derived.Test.YtiopmehaghcpfaaDcE2
import Derived.Test.YtiopmehaghcpfaaDcE3
namespace Go.Proofs.Ytiopmehaghcpfaa.E
open Go.Proofs.Ytiopmehaghcpfaa
open Go.RowKit Go.Maps
attribute [local go_sem ↓] run_max_int run_min_int
set_option linter.unusedSimpArgs false
set_option linter.unusedVariables false

/-- What Right answers is of a short name. -/
def RightIs (s : ByteArray) (w : World) (e : Ending) (w' : World) : Prop := ∃ b : Bool, e = .returned (.bool b) ∧ (b = true → s.size ≤ 64) ∧ w = w'

set_option maxHeartbeats 1000000 in
theorem right_calls (s : ByteArray) (w : World) : Calls Try.prog 41 #[.string s] w (RightIs s w) := by
  go_enter Try.func41, Try.ntmps41
  obtain ⟨t0, h0⟩ : ∃ t : Bool, (s.toList == []) = t := ⟨_, rfl⟩
  obtain ⟨t1, h1⟩ : ∃ t : Bool, (s.toList == [46]) = t := ⟨_, rfl⟩
  obtain ⟨t2, h2⟩ : ∃ t : Bool, (s.toList == [46, 46]) = t := ⟨_, rfl⟩
  cases t0
  case true =>
    go_wp2
    go_ret
    exact ⟨false, rfl, by simp, rfl⟩
  cases t1
  case true =>
    go_wp2
    go_ret
    exact ⟨false, rfl, by simp, rfl⟩
  cases t2
  case true =>
    go_wp2
    go_ret
    exact ⟨false, rfl, by simp, rfl⟩
  by_cases hs : 64 < s.size
  · go_wp2
    go_ret
    exact ⟨false, rfl, by simp, rfl⟩
  go_wp2_with fail
  go_loop [3] (fun i => ∃ k : Nat, k ≤ s.size ∧ i = .int .i64 k) (fun i => s.size - (intOf i).toNat)
  case atStart => exact ⟨0, Nat.zero_le _, rfl⟩
  case round =>
    obtain ⟨k, hk, rfl⟩ := hrel
    by_cases hlt : k < s.size
    · obtain ⟨c, hc⟩ : ∃ c : Nat, s[k].toNat = c := ⟨_, rfl⟩
      by_cases h47 : c = 47
      · subst h47
        go_wp2
        go_ret
        exact ⟨false, rfl, by simp, rfl⟩
      · by_cases h0 : c = 0
        · subst h0
          go_wp2
          go_ret
          exact ⟨false, rfl, by simp, rfl⟩
        · have b47 : ((c : Int) == 47) = false := by simp; omega
          have b0 : ((c : Int) == 0) = false := by simp; omega
          go_wp2_with fail
          go_round
          case rel => exact ⟨k + 1, by omega, by go_num⟩
          case measure => simp [intOf]; omega
    · obtain rfl : k = s.size := by omega
      go_wp2
      go_ret
      exact ⟨true, rfl, fun _ => by omega, rfl⟩

/-- What 'entry' answers. -/
def EntIs (th : Bool) (nm : ByteArray) (ep mk : Int) (w : World) (e : Ending) (w' : World) : Prop :=
  ∃ rr, e = .returned (.agg #[.int .i64 ep, .bool th, .int .i64 mk, .int .i64 0, .int .i64 0, .slice (some ⟨rr, 0, none⟩) 1 1, .string nm]) ∧ w'.ownsRow w.heap.size 70 2 (.slice (some ⟨rr, 0, none⟩) 1 1) 1 [.int .i64 mk, .int .i64 0] ∧ Below w.heap.size w w'

theorem row_new70 (m : Int) (B : Nat) (W : World) (hB : B ≤ W.heap.size) : (W.alloc (.cells #[.int .i64 m, .int .i64 0] 70)).ownsRow B 70 2 (.slice (some ⟨W.heap.size, 0, none⟩) 1 1) 1 [.int .i64 m, .int .i64 0] :=
  ⟨rfl, .inr ⟨W.heap.size, 1, #[.int .i64 m, .int .i64 0], rfl, hB, Blk.new W 70 #[.int .i64 m, .int .i64 0], Nat.le_refl _, by decide, rfl, rfl⟩⟩
set_option maxRecDepth 100000 in
set_option maxHeartbeats 4000000 in
theorem entry_calls (kp th : Bool) (d : Int) (nm : ByteArray) (ep mk : Int) (w : World) :
    Calls Try.prog 53 #[.agg #[.bool kp, .bool th, .int .u8 d, .string nm, .int .i64 ep, .int .i64 mk]] w (EntIs th nm ep mk w) := by
  go_enter Try.func53, Try.ntmps53
  go_upto_region 1 with (fail)
  have X1 := Av.mk ((Blk.new w 101 #[.bool kp, .bool th, .int .u8 d, .string nm, .int .i64 ep, .int .i64 mk]).alloc (.cells #[.int .i64 0, .bool false, .int .i64 0, .int .i64 0, .int .i64 0, .slice none 0 0, .string (⟨#[]⟩ : ByteArray)] 76))
  have X2 := Av.mk (Blk.new (w.alloc (.cells #[.bool kp, .bool th, .int .u8 d, .string nm, .int .i64 ep, .int .i64 mk] 101)) 76 #[.int .i64 0, .bool false, .int .i64 0, .int .i64 0, .int .i64 0, .slice none 0 0, .string (⟨#[]⟩ : ByteArray)])
  have es : (w.alloc (.cells #[.bool kp, .bool th, .int .u8 d, .string nm, .int .i64 ep, .int .i64 mk] 101)).heap.size = w.heap.size + 1 := by simp
  rw [es] at X2
  have HK := Av.mk (((Keep.refl (fun _ => False) w).alloc (.cells #[.bool kp, .bool th, .int .u8 d, .string nm, .int .i64 ep, .int .i64 mk] 101)).alloc (.cells #[.int .i64 0, .bool false, .int .i64 0, .int .i64 0, .int .i64 0, .slice none 0 0, .string (⟨#[]⟩ : ByteArray)] 76))
  have hsz : ((w.alloc (.cells #[.bool kp, .bool th, .int .u8 d, .string nm, .int .i64 ep, .int .i64 mk] 101)).alloc (.cells #[.int .i64 0, .bool false, .int .i64 0, .int .i64 0, .int .i64 0, .slice none 0 0, .string (⟨#[]⟩ : ByteArray)] 76)).heap.size = w.heap.size + 2 := by simp
  have HS := Av.mk hsz
  have hge : w.heap.size ≤ w.heap.size + 1 := by omega
  clear es hsz
  generalize (w.alloc (.cells #[.bool kp, .bool th, .int .u8 d, .string nm, .int .i64 ep, .int .i64 mk] 101)).alloc (.cells #[.int .i64 0, .bool false, .int .i64 0, .int .i64 0, .int .i64 0, .slice none 0 0, .string (⟨#[]⟩ : ByteArray)] 76) = w2 at *
  generalize w.heap.size + 1 = g2 at *
  have d0 := X1.out.cell 0; have d1 := X1.out.cell 1; have d2 := X1.out.cell 2; have d3 := X1.out.cell 3; have d4 := X1.out.cell 4; have d5 := X1.out.cell 5; have z0 := X2.out.cell 0; have z1 := X2.out.cell 1; have z2 := X2.out.cell 2; have z3 := X2.out.cell 3; have z4 := X2.out.cell 4; have z5 := X2.out.cell 5; have z6 := X2.out.cell 6; have q0 := X2.out.frozen 0; have q1 := X2.out.frozen 1; have q2 := X2.out.frozen 2; have q3 := X2.out.frozen 3; have q4 := X2.out.frozen 4; have q5 := X2.out.frozen 5; have q6 := X2.out.frozen 6
  have l1 := X1.out.lt
  have l2 := X2.out.lt
  simp at d0 d1 d2 d3 d4 d5 z0 z1 z2 z3 z4 z5 z6
  have Y3 := Av.mk (Blk.new w2 70 #[.int .i64 mk, .int .i64 0])
  go_wp2
  refine bodyPost_ret (v := .agg #[.int .i64 ep, .bool th, .int .i64 mk, .int .i64 0, .int .i64 0, .slice (some ⟨w2.heap.size, 0, none⟩) 1 1, .string nm]) (by simp [results, Try.results53, go_sem, z0,z1,z2,z3,z4,z5,z6, l2]) rfl ?_
  refine ⟨w2.heap.size, rfl, ?_, ?_⟩
  · obtain ⟨xx, hxx⟩ : ∃ xx : Pay, xx = ⟨ep, th, mk, 0, 0, some ⟨w2.heap.size, 0, none⟩, 1, 1, nm⟩ := ⟨_, rfl⟩
    have e : (((((((w2.setCell ⟨g2, 0, none⟩ (.int .i64 xx.ep)).setCell ⟨g2, 1, none⟩ (.bool xx.there)).setCell ⟨g2, 2, none⟩ (.int .i64 xx.kind)).setCell ⟨g2, 3, none⟩ (.int .i64 xx.lev)).setCell ⟨g2, 4, none⟩ (.int .i64 xx.ino)).setCell ⟨g2, 5, none⟩ (.slice xx.A xx.n xx.c)).setCell ⟨g2, 6, none⟩ (.string xx.tg)).heap.size = w2.heap.size := by simp
    have r := row_new70 mk w.heap.size (((((((w2.setCell ⟨g2, 0, none⟩ (.int .i64 xx.ep)).setCell ⟨g2, 1, none⟩ (.bool xx.there)).setCell ⟨g2, 2, none⟩ (.int .i64 xx.kind)).setCell ⟨g2, 3, none⟩ (.int .i64 xx.lev)).setCell ⟨g2, 4, none⟩ (.int .i64 xx.ino)).setCell ⟨g2, 5, none⟩ (.slice xx.A xx.n xx.c)).setCell ⟨g2, 6, none⟩ (.string xx.tg)) (by rw [e]; have := HS.out; omega)
    rw [e] at r
    subst hxx
    exact r
  · refine below_of_keep ?_
    repeat (with_reducible first | apply Keep.alloc | refine kset ?_ (by omega))
    exact HK.out

def csD (p : Int × Int) : List Value := [.int .i64 p.1, .int .i64 p.2]
theorem csD_len (p : Int × Int) : (csD p).length = 2 := rfl
theorem one_D (l : List (Int × Int)) : ∀ v ∈ l.flatMap csD, v.oneCell' = true := by
  intro v hv
  obtain ⟨x, _, hx⟩ := List.mem_flatMap.1 hv
  simp [csD] at hx
  rcases hx with rfl | rfl <;> rfl
abbrev RowD (w : World) (b : Nat) (v : Value) (ms : List (Int × Int)) : Prop := w.ownsRow b 70 2 v ms.length (ms.flatMap csD)
theorem RowD.cell {w : World} {b r c : Nat} {ms : List (Int × Int)} (h : RowD w b (.slice (some ⟨r, 0, none⟩) ms.length c) ms) (i : Nat) (hi : i < ms.length) (j : Nat) (hj : j < 2) : w.cell? ⟨r, i * 2 + j, none⟩ = (csD ms[i])[j]? := by
  have : i * 2 + j < ms.length * 2 := by omega
  rw [h.cellAt _ this, flat_get csD 2 csD_len ms i j hi hj]
theorem RowD.shape {w : World} {b : Nat} {v : Value} {ms : List (Int × Int)} (h : RowD w b v ms) (hl : 0 < ms.length) : ∃ r c, v = .slice (some ⟨r, 0, none⟩) ms.length c := by
  rcases h.2 with ⟨rfl, h0⟩ | ⟨r, cap, cur, rfl, _⟩
  · omega
  · exact ⟨r, cap, rfl⟩

set_option maxRecDepth 100000 in
set_option maxHeartbeats 4000000 in
theorem same_calls (ep : Int) (th : Bool) (kd lev ino : Int) (tg : ByteArray) (A1 A2 : Option Addr) (c1 c2 : Nat) (ms : List (Int × Int)) (b1 b2 : Nat) (w : World) (h1 : RowD w b1 (.slice A1 ms.length c1) ms) (h2 : RowD w b2 (.slice A2 ms.length c2) ms) (hl : ms.length ≤ 1000) :
    Calls Try.prog 54 #[.agg #[.int .i64 ep, .bool th, .int .i64 kd, .int .i64 lev, .int .i64 ino, .slice A1 ms.length c1, .string tg], .agg #[.int .i64 ep, .bool th, .int .i64 kd, .int .i64 lev, .int .i64 ino, .slice A2 ms.length c2, .string tg]] w (RetB (.bool true) w) := by
  have H1 := Av.mk h1
  have H2 := Av.mk h2
  clear h1 h2
  go_enter Try.func54, Try.ntmps54
  go_upto_region 1 with (fail)
  have X1 := Av.mk ((Blk.new w 76 #[.int .i64 ep, .bool th, .int .i64 kd, .int .i64 lev, .int .i64 ino, .slice A1 ms.length c1, .string tg]).alloc (.cells #[.int .i64 ep, .bool th, .int .i64 kd, .int .i64 lev, .int .i64 ino, .slice A2 ms.length c2, .string tg] 76))
  have X2 := Av.mk (Blk.new (w.alloc (.cells #[.int .i64 ep, .bool th, .int .i64 kd, .int .i64 lev, .int .i64 ino, .slice A1 ms.length c1, .string tg] 76)) 76 #[.int .i64 ep, .bool th, .int .i64 kd, .int .i64 lev, .int .i64 ino, .slice A2 ms.length c2, .string tg])
  have es : (w.alloc (.cells #[.int .i64 ep, .bool th, .int .i64 kd, .int .i64 lev, .int .i64 ino, .slice A1 ms.length c1, .string tg] 76)).heap.size = w.heap.size + 1 := by simp
  rw [es] at X2
  have HK := Av.mk (((Keep.refl (fun _ => False) w).alloc (.cells #[.int .i64 ep, .bool th, .int .i64 kd, .int .i64 lev, .int .i64 ino, .slice A1 ms.length c1, .string tg] 76)).alloc (.cells #[.int .i64 ep, .bool th, .int .i64 kd, .int .i64 lev, .int .i64 ino, .slice A2 ms.length c2, .string tg] 76))
  have R1 := Av.mk (show RowD _ b1 _ ms from row_keep H1.out HK.out (by simp))
  have R2 := Av.mk (show RowD _ b2 _ ms from row_keep H2.out HK.out (by simp))
  clear es H1 H2
  generalize (w.alloc (.cells #[.int .i64 ep, .bool th, .int .i64 kd, .int .i64 lev, .int .i64 ino, .slice A1 ms.length c1, .string tg] 76)).alloc (.cells #[.int .i64 ep, .bool th, .int .i64 kd, .int .i64 lev, .int .i64 ino, .slice A2 ms.length c2, .string tg] 76) = w2 at *
  have HB := Av.mk (below_of_keep HK.out)
  have d0 := X1.out.cell 0; have d1 := X1.out.cell 1; have d2 := X1.out.cell 2; have d3 := X1.out.cell 3; have d4 := X1.out.cell 4; have d5 := X1.out.cell 5; have d6 := X1.out.cell 6; have z0 := X2.out.cell 0; have z1 := X2.out.cell 1; have z2 := X2.out.cell 2; have z3 := X2.out.cell 3; have z4 := X2.out.cell 4; have z5 := X2.out.cell 5; have z6 := X2.out.cell 6
  have l1 := X1.out.lt
  have l2 := X2.out.lt
  simp at d0 d1 d2 d3 d4 d5 d6 z0 z1 z2 z3 z4 z5 z6
  clear HK X1 X2
  generalize w.heap.size + 1 = g2 at *
  go_wp2_with fail
  go_loopw [58] (fun i wr => ∃ j m : Nat, j ≤ ms.length ∧ i = .int .i64 j ∧ wr = w2.drewN m) (fun i _ => ms.length - (intOf i).toNat)
  case atStart => exact ⟨0, 0, Nat.zero_le _, rfl, rfl⟩
  case round =>
    obtain ⟨j, m, hj, rfl, rfl⟩ := hrel
    by_cases hlt : j < ms.length
    · obtain ⟨r1, cc1, e1⟩ := R1.out.shape (by omega)
      obtain ⟨r2, cc2, e2⟩ := R2.out.shape (by omega)
      cases e1
      cases e2
      have y0 : w2.cell? ⟨r1, j * 2, none⟩ = some (.int .i64 ms[j].1) := R1.out.cell j hlt 0 (by omega)
      have y1 : w2.cell? ⟨r1, j * 2 + 1, none⟩ = some (.int .i64 ms[j].2) := R1.out.cell j hlt 1 (by omega)
      have y2 : w2.cell? ⟨r2, j * 2, none⟩ = some (.int .i64 ms[j].1) := R2.out.cell j hlt 0 (by omega)
      have y3 : w2.cell? ⟨r2, j * 2 + 1, none⟩ = some (.int .i64 ms[j].2) := R2.out.cell j hlt 1 (by omega)
      generalize ms[j].1 = v0 at *
      generalize ms[j].2 = v1 at *
      go_wp2_with fail
      go_quiet (fail)
      go_wp2_with fail
      go_roundw
      case rel => exact ⟨j + 1, _, by omega, by go_num, rfl⟩
      case measure => simp [intOf]; omega
    · obtain rfl : j = ms.length := by omega
      go_wp2
      go_ret
      exact ⟨rfl, below_drewN HB.out _⟩
end Go.Proofs.Ytiopmehaghcpfaa.E
