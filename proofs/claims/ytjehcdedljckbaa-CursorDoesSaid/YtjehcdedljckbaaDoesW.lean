/- CursorDoes: the walk. -/
import Derived.Test.YtjehcdedljckbaaRoomW
import Derived.Deep.DeepCutAuto
import Derived.Deep.CutBlock
import Derived.Maps.Ext
namespace Go.Proofs.Ytjehcdedljckbaa
open Go.RowKit Go.Maps
attribute [local go_sem ↓] run_max_int run_min_int

/-- What is asked: its kind, a number, how many, a directory. -/
structure Ac where
  kind : Int
  id : Int
  n : Int
  dir : ByteArray
def AcOk (a : Ac) : Prop := 0 ≤ a.kind ∧ a.kind ≤ 255 ∧ (Lit.int .i64 a.id).wf = true ∧ 0 ≤ a.n ∧ a.n ≤ 65535
/-- A slice of such that came in. -/
def Acts (w : World) (A : Option Addr) (n : Nat) (F : Nat → Ac) : Prop :=
  0 < n → ∃ b off, A = some ⟨b, off, none⟩ ∧ b < w.heap.size ∧ ∀ i, i < n → AcOk (F i) ∧
    w.cell? ⟨b, off + i * 4, none⟩ = some (.int .u8 (F i).kind) ∧ w.cell? ⟨b, off + i * 4 + 1, none⟩ = some (.int .i64 (F i).id) ∧
    w.cell? ⟨b, off + i * 4 + 2, none⟩ = some (.int .u16 (F i).n) ∧ w.cell? ⟨b, off + i * 4 + 3, none⟩ = some (.string (F i).dir)

/-- Both the table and the law's own map hold D; the keys are numbers that were given. -/
structure Sim (w : World) (g bm bo : Nat) (room : Int) (made : Nat) (D : DataW Cr) : Prop where
  tab : Tab w g room made bm (Maps.size D) D
  own : w.ownsMap Try.prog 3 (rdr decC) bo (Maps.size D) D
  ne : bo ≠ bm
  few : (Maps.size D : Int) ≤ room
  given : ∀ j : Int, Maps.has D (iOf j) = true → 1 ≤ j ∧ j ≤ made

theorem Below.grown' {w w' : World} (h : Below w.heap.size w w') : w.grownBy w' none := ⟨h.os, h.tape, h.output, h.size, fun k hk _ => h.block k hk⟩
theorem Sim.keep {w w' : World} {g bm bo : Nat} {room : Int} {made : Nat} {D : DataW Cr} (h : Sim w g bm bo room made D) (hk : Keep (fun _ => False) w w') : Sim w' g bm bo room made D :=
  ⟨h.tab.keep hk (by simp) (by simp), ownsMap_keep h.own hk (by simp), h.ne, h.few, h.given⟩

theorem Sim.opened {w w4 w5 : World} {g bm bo n m : Nat} {room : Int} {made : Nat} {D : DataW Cr} {c : Cr} (h : Sim w g bm bo room made D)
    (ht : Tab w4 g room ((made : Int) + 1) bm n (D.put (iOf ((made : Int) + 1)) (.held c))) (ho : w5.ownsMap Try.prog 3 (rdr decC) bo m (D.put (iOf ((made : Int) + 1)) (.held c))) (htu : w4.mapTurned w5 bo) (hbg : bo ≠ g) (hf : (Maps.size D : Int) < room) :
    Sim w5 g bm bo room (made + 1) (D.put (iOf ((made : Int) + 1)) (.held c)) := by
  have hk : Keep (fun k => k = bo) w4 w5 := (Keep.refl _ w4).turned htu (fun _ => rfl)
  have ht5 := ht.keep hk (fun e => hbg e.symm) (fun e => h.ne e.symm)
  have htd := h.own.tidy law3
  refine ⟨⟨by simpa using ht5.blk, ownsMap_tight ht5.map⟩, ownsMap_tight ho, h.ne, ?_, ?_⟩
  · rw [size_put htd]; split <;> omega
  · intro j hj
    by_cases e : j = (made : Int) + 1
    · omega
    · rw [has_put_other (by rw [Ne, iOf_inj]; exact e)] at hj
      have := h.given j hj
      omega
theorem Sim.moved {w w4 w5 : World} {g bm bo n m : Nat} {room : Int} {made : Nat} {D : DataW Cr} {c : Cr} {id : Int} (h : Sim w g bm bo room made D) (hh : Maps.has D (iOf id) = true)
    (ht : Tab w4 g room made bm n (D.put (iOf id) (.held c))) (ho : w5.ownsMap Try.prog 3 (rdr decC) bo m (D.put (iOf id) (.held c))) (htu : w4.mapTurned w5 bo) (hbg : bo ≠ g) :
    Sim w5 g bm bo room made (D.put (iOf id) (.held c)) := by
  have hk : Keep (fun k => k = bo) w4 w5 := (Keep.refl _ w4).turned htu (fun _ => rfl)
  have ht5 := ht.keep hk (fun e => hbg e.symm) (fun e => h.ne e.symm)
  have htd := h.own.tidy law3
  refine ⟨⟨ht5.blk, ownsMap_tight ht5.map⟩, ownsMap_tight ho, h.ne, ?_, ?_⟩
  · rw [size_put htd, if_pos hh]; exact h.few
  · intro j hj
    by_cases e : j = id
    · subst e; exact h.given j hh
    · rw [has_put_other (by rw [Ne, iOf_inj]; exact e)] at hj
      exact h.given j hj
theorem Sim.closed {w w4 w5 : World} {g bm bo n m : Nat} {room : Int} {made : Nat} {D : DataW Cr} {id : Int} (h : Sim w g bm bo room made D)
    (ht : Tab w4 g room made bm n (D.del (iOf id))) (ho : w5.ownsMap Try.prog 3 (rdr decC) bo m (D.del (iOf id))) (htu : w4.mapTurned w5 bo) (hbg : bo ≠ g) :
    Sim w5 g bm bo room made (D.del (iOf id)) := by
  have hk : Keep (fun k => k = bo) w4 w5 := (Keep.refl _ w4).turned htu (fun _ => rfl)
  have ht5 := ht.keep hk (fun e => hbg e.symm) (fun e => h.ne e.symm)
  have htd := h.own.tidy law3
  refine ⟨⟨ht5.blk, ownsMap_tight ht5.map⟩, ownsMap_tight ho, h.ne, ?_, ?_⟩
  · have := size_del (k := iOf id) htd
    have := h.few
    omega
  · intro j hj
    by_cases e : j = id
    · subst e; rw [has_del_same] at hj; cases hj
    · rw [has_del_other (by rw [Ne, iOf_inj]; exact e)] at hj
      exact h.given j hj
theorem Sim.struck {w w5 : World} {g bm bo m : Nat} {room : Int} {made : Nat} {D : DataW Cr} {id : Int} (h : Sim w g bm bo room made D) (hh : Maps.has D (iOf id) = false)
    (ho : w5.ownsMap Try.prog 3 (rdr decC) bo m (D.del (iOf id))) (htu : w.mapTurned w5 bo) : Sim w5 g bm bo room made D := by
  have hk : Keep (fun k => k = bo) w w5 := (Keep.refl _ w).turned htu (fun _ => rfl)
  have ht5 := h.tab.keep hk (fun e => (map_ne_blk h.own h.tab.blk) e.symm) (fun e => h.ne e.symm)
  rw [del_of_not_has hh] at ho
  exact ⟨ht5, ownsMap_tight ho, h.ne, h.few, h.given⟩

set_option maxHeartbeats 2000000 in
set_option maxRecDepth 100000 in
theorem does_walk (room : Int) (A : Option Addr) (n c : Nat) (F : Nat → Ac) (w : World) (hA : Acts w A n F) (hn : n ≤ 9223372036854775807) :
    Calls Try.prog 4 #[.int .i64 room, .slice A n c] w (RetB (.bool true) w) := by
  by_cases hbig : 300 < n
  · go_enter Try.func4, Try.ntmps4
    go_wp2_with fail
    refine (speaks_calls w).mono ?_
    rintro e w1 ⟨rfl, hb1⟩
    have HB1 := Av.mk hb1
    clear hb1
    go_wp2
    go_ret
    exact ⟨rfl, HB1.out⟩
  have hn3 : n ≤ 300 := by omega
  clear hn hbig
  obtain ⟨N, hN, h1, h2⟩ : ∃ N : Nat, mn (mx room 1) 1024 = (N : Int) ∧ 1 ≤ N ∧ N ≤ 1024 := by
    refine ⟨(mn (mx room 1) 1024).toNat, ?_, ?_, ?_⟩ <;> (unfold mn mx; split <;> split <;> omega)
  have HN := Av.mk hN
  clear hN
  have HA := Av.mk hA
  clear hA
  have hmm := @run_makeMap Try.prog
  go_enter Try.func4, Try.ntmps4
  go_wp2_with fail
  refine (speaks_calls w).mono ?_
  rintro e w1 ⟨rfl, hb1⟩
  have HB1 := Av.mk hb1
  clear hb1
  go_wp2_with fail
  refine (New_calls room w1).mono ?_
  rintro e w2 ⟨g, bm, rfl, hg, hbm, ht, hb2⟩
  have hg' : w.heap.size ≤ g := Nat.le_trans HB1.out.size hg
  have hbm' : w.heap.size ≤ bm := Nat.le_trans HB1.out.size hbm
  have hlt := ht.map.lt
  have HT := Av.mk (show Tab w2 g N 0 bm 0 (.map []) from by rw [← HN.out]; exact ht)
  have HB := Av.mk (below_then HB1.out HB1.out.size hb2)
  have hz := HB.out.size
  clear hb2 ht HB1 hg hbm
  go_wp2_with fail
  rw [HN.out]
  have hbo : w.heap.size ≤ w2.heap.size := hz
  have HS := Av.mk (show Sim (w2.alloc (.map #[] 0)) g bm w2.heap.size N 0 (.map []) from
    ⟨HT.out.keep ((Keep.refl (fun _ => False) _).alloc _) (by simp) (by simp), World.ownsMap_made w2 _ _ _, by omega, by simp [Maps.size], fun j h => by rw [has_nil] at h; cases h⟩)
  have HB2 := Av.mk (below_alloc HB.out (.map #[] 0))
  clear HB HT
  generalize w2.heap.size = bo at *
  generalize w2.alloc (.map #[] 0) = w3 at *
  go_loopw [7, 35] (fun m i wr => ∃ (k made : Nat) (D : DataW Cr), k ≤ n ∧ made ≤ k ∧ m = .int .i64 made ∧ i = .int .i64 k ∧ Sim wr g bm bo N made D ∧ Below w.heap.size w wr) (fun _ i _ => n - (intOf i).toNat)
  case atStart => exact ⟨0, 0, .map [], Nat.zero_le _, Nat.le_refl _, rfl, rfl, HS.out, HB2.out⟩
  case round =>
    obtain ⟨k, made, D, hk, hmk, rfl, rfl, hs, hb⟩ := hrel
    have HS2 := Av.mk hs
    have HB3 := Av.mk hb
    clear hs hb
    by_cases hlt : k < n
    · obtain ⟨b, off, rfl, hbl, hF⟩ := HA.out (by omega)
      obtain ⟨hok, e0, e1, e2, e3⟩ := hF k hlt
      generalize F k = a at *
      clear hF
      rw [← HB3.out.cell (p := ⟨b, _, none⟩) hbl] at e0 e1 e2 e3
      have hlen := fun ty => HS2.out.own.len Try.underlying32 ty
      have hkey := Av.mk (key3 hok.2.2.1)
      obtain ⟨hk0, hk1, hwid, hn0, hn1⟩ := hok
      rcases (show a.kind % 4 = 0 ∨ a.kind % 4 = 1 ∨ a.kind % 4 = 2 ∨ a.kind % 4 = 3 by omega) with h4 | h4 | h4 | h4
      · by_cases hh : Maps.has D (iOf a.id) = true
        · by_cases hfull : N ≤ Maps.size D
          · have hd : decide (N ≤ Maps.size D) = true := by simp; omega

            have hfw := HS2.out.few
            go_wp2_with (first | (at_lookup; refine wpList_look decC encC decC_inv rfl _ _ 32 rfl 3 37 law3 Try.underlying32 c0 (zero37 _) rfl bo _ D rfl (HS2.out.own.alloc _) _ _ rfl hkey.out ?_))
            have X1 := Av.mk (((Keep.refl (fun _ => False) wr).alloc (.cells #[.int .u8 a.kind, .int .i64 a.id, .int .u16 a.n, .string a.dir] 35)).alloc (.cells #[.int .i64 (atK D (iOf a.id) c0).1, .string (atK D (iOf a.id) c0).2.1, .int .i64 (atK D (iOf a.id) c0).2.2] 37))
            have X2 := Av.mk ((Blk.new wr 35 #[.int .u8 a.kind, .int .i64 a.id, .int .u16 a.n, .string a.dir]).alloc (.cells #[.int .i64 (atK D (iOf a.id) c0).1, .string (atK D (iOf a.id) c0).2.1, .int .i64 (atK D (iOf a.id) c0).2.2] 37))
            have X3 := Av.mk (show Blk ((wr.alloc (.cells #[.int .u8 a.kind, .int .i64 a.id, .int .u16 a.n, .string a.dir] 35)).alloc (.cells #[.int .i64 (atK D (iOf a.id) c0).1, .string (atK D (iOf a.id) c0).2.1, .int .i64 (atK D (iOf a.id) c0).2.2] 37)) (wr.heap.size + 1) 37 #[.int .i64 (atK D (iOf a.id) c0).1, .string (atK D (iOf a.id) c0).2.1, .int .i64 (atK D (iOf a.id) c0).2.2] from by simpa using Blk.new (wr.alloc (.cells #[.int .u8 a.kind, .int .i64 a.id, .int .u16 a.n, .string a.dir] 35)) 37 #[.int .i64 (atK D (iOf a.id) c0).1, .string (atK D (iOf a.id) c0).2.1, .int .i64 (atK D (iOf a.id) c0).2.2])
            have HB4 := Av.mk (HB3.out.trans (X1.out.below HB3.out.size (by simp)))
            have hga : w.heap.size ≤ wr.heap.size := HB3.out.size
            have S1 := Av.mk (HS2.out.keep X1.out)
            generalize (wr.alloc (.cells #[.int .u8 a.kind, .int .i64 a.id, .int .u16 a.n, .string a.dir] 35)).alloc (.cells #[.int .i64 (atK D (iOf a.id) c0).1, .string (atK D (iOf a.id) c0).2.1, .int .i64 (atK D (iOf a.id) c0).2.2] 37) = W1 at *
            generalize wr.heap.size = ga at *
            have f1 := X2.out.cell 1
            have f2 := X2.out.cell 2
            have f3 := X2.out.cell 3
            simp at f1 f2 f3
            clear hlen

            refine (Open_no g _ _ bm _ _ _ _ W1 S1.out.tab (by omega)).mono ?_
            rintro e w4 ⟨rfl, hb4⟩

            have HSF := Av.mk (S1.out.keep (Keep.of_below (S := fun _ => False) hb4))
            have HBF := Av.mk (HB4.out.trans (Below.mono hb4 HB4.out.size))
            clear hb4
            have hlen := fun ty => HSF.out.own.len Try.underlying32 ty

            have hfew := HSF.out.few
            have hlenF := fun ty => HSF.out.own.len Try.underlying32 ty
            go_wp2_with (first | (go_at_call 10; refine (Len_calls g _ _ bm _ _ _ HSF.out.tab).mono ?_; rintro e w' ⟨rfl, rfl⟩) | (go_at_call 13; refine (Room_calls g _ _ bm _ _ _ HSF.out.tab).mono ?_; rintro e w' ⟨rfl, rfl⟩))
            go_roundw
            case rel => exact ⟨k + 1, made, D, by omega, by omega, by go_num, by go_num, HSF.out, HBF.out⟩
            case measure => simp [intOf]; omega
          · have hd : decide (N ≤ Maps.size D) = false := by simp; omega
            replace hfull : Maps.size D < N := by omega

            have hfw := HS2.out.few
            go_wp2_with (first | (at_lookup; refine wpList_look decC encC decC_inv rfl _ _ 32 rfl 3 37 law3 Try.underlying32 c0 (zero37 _) rfl bo _ D rfl (HS2.out.own.alloc _) _ _ rfl hkey.out ?_))
            have X1 := Av.mk (((Keep.refl (fun _ => False) wr).alloc (.cells #[.int .u8 a.kind, .int .i64 a.id, .int .u16 a.n, .string a.dir] 35)).alloc (.cells #[.int .i64 (atK D (iOf a.id) c0).1, .string (atK D (iOf a.id) c0).2.1, .int .i64 (atK D (iOf a.id) c0).2.2] 37))
            have X2 := Av.mk ((Blk.new wr 35 #[.int .u8 a.kind, .int .i64 a.id, .int .u16 a.n, .string a.dir]).alloc (.cells #[.int .i64 (atK D (iOf a.id) c0).1, .string (atK D (iOf a.id) c0).2.1, .int .i64 (atK D (iOf a.id) c0).2.2] 37))
            have X3 := Av.mk (show Blk ((wr.alloc (.cells #[.int .u8 a.kind, .int .i64 a.id, .int .u16 a.n, .string a.dir] 35)).alloc (.cells #[.int .i64 (atK D (iOf a.id) c0).1, .string (atK D (iOf a.id) c0).2.1, .int .i64 (atK D (iOf a.id) c0).2.2] 37)) (wr.heap.size + 1) 37 #[.int .i64 (atK D (iOf a.id) c0).1, .string (atK D (iOf a.id) c0).2.1, .int .i64 (atK D (iOf a.id) c0).2.2] from by simpa using Blk.new (wr.alloc (.cells #[.int .u8 a.kind, .int .i64 a.id, .int .u16 a.n, .string a.dir] 35)) 37 #[.int .i64 (atK D (iOf a.id) c0).1, .string (atK D (iOf a.id) c0).2.1, .int .i64 (atK D (iOf a.id) c0).2.2])
            have HB4 := Av.mk (HB3.out.trans (X1.out.below HB3.out.size (by simp)))
            have hga : w.heap.size ≤ wr.heap.size := HB3.out.size
            have S1 := Av.mk (HS2.out.keep X1.out)
            generalize (wr.alloc (.cells #[.int .u8 a.kind, .int .i64 a.id, .int .u16 a.n, .string a.dir] 35)).alloc (.cells #[.int .i64 (atK D (iOf a.id) c0).1, .string (atK D (iOf a.id) c0).2.1, .int .i64 (atK D (iOf a.id) c0).2.2] 37) = W1 at *
            generalize wr.heap.size = ga at *
            have f1 := X2.out.cell 1
            have f2 := X2.out.cell 2
            have f3 := X2.out.cell 3
            simp at f1 f2 f3
            clear hlen

            refine (Open_yes g _ made bm _ D _ _ W1 S1.out.tab (by unfold maxLen; omega) (by omega) (by omega) (by omega)).mono ?_
            rintro e w4 ⟨rfl, ht4, hk4⟩

            have HBG := Av.mk (map_ne_blk S1.out.own S1.out.tab.blk)
            have O4 := Av.mk (ownsMap_keep S1.out.own hk4 (by rintro (h | h); exact HBG.out h; exact S1.out.ne h))
            have Y2 := Av.mk (X2.out.keep hk4 (by rintro (h | h); exact (X2.out.ne_ S1.out.tab.blk (by decide)) h; exact (map_ne_blk S1.out.tab.map X2.out) h.symm))
            have Y3 := Av.mk (X3.out.keep hk4 (by rintro (h | h); exact (X3.out.ne_ S1.out.tab.blk (by decide)) h; exact (map_ne_blk S1.out.tab.map X3.out) h.symm))
            have HB5 := Av.mk (below_keep HB4.out HB4.out.size hk4 (by rintro k (rfl | rfl) <;> assumption))
            have T4 := Av.mk ht4
            clear hk4 ht4
            have g1 := Y2.out.cell 1
            have g2 := Y2.out.cell 2
            have g3 := Y2.out.cell 3
            have hlen := fun ty => O4.out.len Try.underlying32 ty
            simp at g1 g2 g3

            have hkey2 := Av.mk (key3 (id := (made : Int) + 1) (wf64 (by omega) (by omega)))
            go_wp2_with (first | (at_mapUpdate; refine wpList_store decC rfl _ _ _ 32 rfl 3 37 law3 Try.underlying32 bo _ D rfl O4.out (by unfold maxLen; omega) _ _ _ rfl rfl hkey2.out (a.n, a.dir, 0) rfl ?_; intro w5 hown5 hturn5; have HSF := Av.mk (S1.out.opened T4.out hown5 hturn5 HBG.out (by omega)); have HBF := Av.mk (HB5.out.grown hturn5.grown HB5.out.size (fun k e => by cases e; omega)); clear hown5 hturn5))

            have hfew := HSF.out.few
            have hlenF := fun ty => HSF.out.own.len Try.underlying32 ty
            go_wp2_with (first | (go_at_call 10; refine (Len_calls g _ _ bm _ _ _ HSF.out.tab).mono ?_; rintro e w' ⟨rfl, rfl⟩) | (go_at_call 13; refine (Room_calls g _ _ bm _ _ _ HSF.out.tab).mono ?_; rintro e w' ⟨rfl, rfl⟩))
            go_roundw
            case rel => exact ⟨k + 1, made + 1, _, by omega, by omega, by go_num, by go_num, HSF.out, HBF.out⟩
            case measure => simp [intOf]; omega
        · replace hh : Maps.has D (iOf a.id) = false := by simpa using hh
          by_cases hfull : N ≤ Maps.size D
          · have hd : decide (N ≤ Maps.size D) = true := by simp; omega

            have hfw := HS2.out.few
            go_wp2_with (first | (at_lookup; refine wpList_look decC encC decC_inv rfl _ _ 32 rfl 3 37 law3 Try.underlying32 c0 (zero37 _) rfl bo _ D rfl (HS2.out.own.alloc _) _ _ rfl hkey.out ?_))
            have X1 := Av.mk (((Keep.refl (fun _ => False) wr).alloc (.cells #[.int .u8 a.kind, .int .i64 a.id, .int .u16 a.n, .string a.dir] 35)).alloc (.cells #[.int .i64 (atK D (iOf a.id) c0).1, .string (atK D (iOf a.id) c0).2.1, .int .i64 (atK D (iOf a.id) c0).2.2] 37))
            have X2 := Av.mk ((Blk.new wr 35 #[.int .u8 a.kind, .int .i64 a.id, .int .u16 a.n, .string a.dir]).alloc (.cells #[.int .i64 (atK D (iOf a.id) c0).1, .string (atK D (iOf a.id) c0).2.1, .int .i64 (atK D (iOf a.id) c0).2.2] 37))
            have X3 := Av.mk (show Blk ((wr.alloc (.cells #[.int .u8 a.kind, .int .i64 a.id, .int .u16 a.n, .string a.dir] 35)).alloc (.cells #[.int .i64 (atK D (iOf a.id) c0).1, .string (atK D (iOf a.id) c0).2.1, .int .i64 (atK D (iOf a.id) c0).2.2] 37)) (wr.heap.size + 1) 37 #[.int .i64 (atK D (iOf a.id) c0).1, .string (atK D (iOf a.id) c0).2.1, .int .i64 (atK D (iOf a.id) c0).2.2] from by simpa using Blk.new (wr.alloc (.cells #[.int .u8 a.kind, .int .i64 a.id, .int .u16 a.n, .string a.dir] 35)) 37 #[.int .i64 (atK D (iOf a.id) c0).1, .string (atK D (iOf a.id) c0).2.1, .int .i64 (atK D (iOf a.id) c0).2.2])
            have HB4 := Av.mk (HB3.out.trans (X1.out.below HB3.out.size (by simp)))
            have hga : w.heap.size ≤ wr.heap.size := HB3.out.size
            have S1 := Av.mk (HS2.out.keep X1.out)
            generalize (wr.alloc (.cells #[.int .u8 a.kind, .int .i64 a.id, .int .u16 a.n, .string a.dir] 35)).alloc (.cells #[.int .i64 (atK D (iOf a.id) c0).1, .string (atK D (iOf a.id) c0).2.1, .int .i64 (atK D (iOf a.id) c0).2.2] 37) = W1 at *
            generalize wr.heap.size = ga at *
            have f1 := X2.out.cell 1
            have f2 := X2.out.cell 2
            have f3 := X2.out.cell 3
            simp at f1 f2 f3
            clear hlen

            refine (Open_no g _ _ bm _ _ _ _ W1 S1.out.tab (by omega)).mono ?_
            rintro e w4 ⟨rfl, hb4⟩

            have HSF := Av.mk (S1.out.keep (Keep.of_below (S := fun _ => False) hb4))
            have HBF := Av.mk (HB4.out.trans (Below.mono hb4 HB4.out.size))
            clear hb4
            have hlen := fun ty => HSF.out.own.len Try.underlying32 ty

            have hfew := HSF.out.few
            have hlenF := fun ty => HSF.out.own.len Try.underlying32 ty
            go_wp2_with (first | (go_at_call 10; refine (Len_calls g _ _ bm _ _ _ HSF.out.tab).mono ?_; rintro e w' ⟨rfl, rfl⟩) | (go_at_call 13; refine (Room_calls g _ _ bm _ _ _ HSF.out.tab).mono ?_; rintro e w' ⟨rfl, rfl⟩))
            go_roundw
            case rel => exact ⟨k + 1, made, D, by omega, by omega, by go_num, by go_num, HSF.out, HBF.out⟩
            case measure => simp [intOf]; omega
          · have hd : decide (N ≤ Maps.size D) = false := by simp; omega
            replace hfull : Maps.size D < N := by omega

            have hfw := HS2.out.few
            go_wp2_with (first | (at_lookup; refine wpList_look decC encC decC_inv rfl _ _ 32 rfl 3 37 law3 Try.underlying32 c0 (zero37 _) rfl bo _ D rfl (HS2.out.own.alloc _) _ _ rfl hkey.out ?_))
            have X1 := Av.mk (((Keep.refl (fun _ => False) wr).alloc (.cells #[.int .u8 a.kind, .int .i64 a.id, .int .u16 a.n, .string a.dir] 35)).alloc (.cells #[.int .i64 (atK D (iOf a.id) c0).1, .string (atK D (iOf a.id) c0).2.1, .int .i64 (atK D (iOf a.id) c0).2.2] 37))
            have X2 := Av.mk ((Blk.new wr 35 #[.int .u8 a.kind, .int .i64 a.id, .int .u16 a.n, .string a.dir]).alloc (.cells #[.int .i64 (atK D (iOf a.id) c0).1, .string (atK D (iOf a.id) c0).2.1, .int .i64 (atK D (iOf a.id) c0).2.2] 37))
            have X3 := Av.mk (show Blk ((wr.alloc (.cells #[.int .u8 a.kind, .int .i64 a.id, .int .u16 a.n, .string a.dir] 35)).alloc (.cells #[.int .i64 (atK D (iOf a.id) c0).1, .string (atK D (iOf a.id) c0).2.1, .int .i64 (atK D (iOf a.id) c0).2.2] 37)) (wr.heap.size + 1) 37 #[.int .i64 (atK D (iOf a.id) c0).1, .string (atK D (iOf a.id) c0).2.1, .int .i64 (atK D (iOf a.id) c0).2.2] from by simpa using Blk.new (wr.alloc (.cells #[.int .u8 a.kind, .int .i64 a.id, .int .u16 a.n, .string a.dir] 35)) 37 #[.int .i64 (atK D (iOf a.id) c0).1, .string (atK D (iOf a.id) c0).2.1, .int .i64 (atK D (iOf a.id) c0).2.2])
            have HB4 := Av.mk (HB3.out.trans (X1.out.below HB3.out.size (by simp)))
            have hga : w.heap.size ≤ wr.heap.size := HB3.out.size
            have S1 := Av.mk (HS2.out.keep X1.out)
            generalize (wr.alloc (.cells #[.int .u8 a.kind, .int .i64 a.id, .int .u16 a.n, .string a.dir] 35)).alloc (.cells #[.int .i64 (atK D (iOf a.id) c0).1, .string (atK D (iOf a.id) c0).2.1, .int .i64 (atK D (iOf a.id) c0).2.2] 37) = W1 at *
            generalize wr.heap.size = ga at *
            have f1 := X2.out.cell 1
            have f2 := X2.out.cell 2
            have f3 := X2.out.cell 3
            simp at f1 f2 f3
            clear hlen

            refine (Open_yes g _ made bm _ D _ _ W1 S1.out.tab (by unfold maxLen; omega) (by omega) (by omega) (by omega)).mono ?_
            rintro e w4 ⟨rfl, ht4, hk4⟩

            have HBG := Av.mk (map_ne_blk S1.out.own S1.out.tab.blk)
            have O4 := Av.mk (ownsMap_keep S1.out.own hk4 (by rintro (h | h); exact HBG.out h; exact S1.out.ne h))
            have Y2 := Av.mk (X2.out.keep hk4 (by rintro (h | h); exact (X2.out.ne_ S1.out.tab.blk (by decide)) h; exact (map_ne_blk S1.out.tab.map X2.out) h.symm))
            have Y3 := Av.mk (X3.out.keep hk4 (by rintro (h | h); exact (X3.out.ne_ S1.out.tab.blk (by decide)) h; exact (map_ne_blk S1.out.tab.map X3.out) h.symm))
            have HB5 := Av.mk (below_keep HB4.out HB4.out.size hk4 (by rintro k (rfl | rfl) <;> assumption))
            have T4 := Av.mk ht4
            clear hk4 ht4
            have g1 := Y2.out.cell 1
            have g2 := Y2.out.cell 2
            have g3 := Y2.out.cell 3
            have hlen := fun ty => O4.out.len Try.underlying32 ty
            simp at g1 g2 g3

            have hkey2 := Av.mk (key3 (id := (made : Int) + 1) (wf64 (by omega) (by omega)))
            go_wp2_with (first | (at_mapUpdate; refine wpList_store decC rfl _ _ _ 32 rfl 3 37 law3 Try.underlying32 bo _ D rfl O4.out (by unfold maxLen; omega) _ _ _ rfl rfl hkey2.out (a.n, a.dir, 0) rfl ?_; intro w5 hown5 hturn5; have HSF := Av.mk (S1.out.opened T4.out hown5 hturn5 HBG.out (by omega)); have HBF := Av.mk (HB5.out.grown hturn5.grown HB5.out.size (fun k e => by cases e; omega)); clear hown5 hturn5))

            have hfew := HSF.out.few
            have hlenF := fun ty => HSF.out.own.len Try.underlying32 ty
            go_wp2_with (first | (go_at_call 10; refine (Len_calls g _ _ bm _ _ _ HSF.out.tab).mono ?_; rintro e w' ⟨rfl, rfl⟩) | (go_at_call 13; refine (Room_calls g _ _ bm _ _ _ HSF.out.tab).mono ?_; rintro e w' ⟨rfl, rfl⟩))
            go_roundw
            case rel => exact ⟨k + 1, made + 1, _, by omega, by omega, by go_num, by go_num, HSF.out, HBF.out⟩
            case measure => simp [intOf]; omega
      · by_cases hh : Maps.has D (iOf a.id) = true
        · have hfw := HS2.out.few
          go_wp2_with (first | (at_lookup; refine wpList_look decC encC decC_inv rfl _ _ 32 rfl 3 37 law3 Try.underlying32 c0 (zero37 _) rfl bo _ D rfl (HS2.out.own.alloc _) _ _ rfl hkey.out ?_))
          have X1 := Av.mk (((Keep.refl (fun _ => False) wr).alloc (.cells #[.int .u8 a.kind, .int .i64 a.id, .int .u16 a.n, .string a.dir] 35)).alloc (.cells #[.int .i64 (atK D (iOf a.id) c0).1, .string (atK D (iOf a.id) c0).2.1, .int .i64 (atK D (iOf a.id) c0).2.2] 37))
          have X2 := Av.mk ((Blk.new wr 35 #[.int .u8 a.kind, .int .i64 a.id, .int .u16 a.n, .string a.dir]).alloc (.cells #[.int .i64 (atK D (iOf a.id) c0).1, .string (atK D (iOf a.id) c0).2.1, .int .i64 (atK D (iOf a.id) c0).2.2] 37))
          have X3 := Av.mk (show Blk ((wr.alloc (.cells #[.int .u8 a.kind, .int .i64 a.id, .int .u16 a.n, .string a.dir] 35)).alloc (.cells #[.int .i64 (atK D (iOf a.id) c0).1, .string (atK D (iOf a.id) c0).2.1, .int .i64 (atK D (iOf a.id) c0).2.2] 37)) (wr.heap.size + 1) 37 #[.int .i64 (atK D (iOf a.id) c0).1, .string (atK D (iOf a.id) c0).2.1, .int .i64 (atK D (iOf a.id) c0).2.2] from by simpa using Blk.new (wr.alloc (.cells #[.int .u8 a.kind, .int .i64 a.id, .int .u16 a.n, .string a.dir] 35)) 37 #[.int .i64 (atK D (iOf a.id) c0).1, .string (atK D (iOf a.id) c0).2.1, .int .i64 (atK D (iOf a.id) c0).2.2])
          have HB4 := Av.mk (HB3.out.trans (X1.out.below HB3.out.size (by simp)))
          have hga : w.heap.size ≤ wr.heap.size := HB3.out.size
          have S1 := Av.mk (HS2.out.keep X1.out)
          generalize (wr.alloc (.cells #[.int .u8 a.kind, .int .i64 a.id, .int .u16 a.n, .string a.dir] 35)).alloc (.cells #[.int .i64 (atK D (iOf a.id) c0).1, .string (atK D (iOf a.id) c0).2.1, .int .i64 (atK D (iOf a.id) c0).2.2] 37) = W1 at *
          generalize wr.heap.size = ga at *
          have f1 := X2.out.cell 1
          have f2 := X2.out.cell 2
          have f3 := X2.out.cell 3
          simp at f1 f2 f3
          clear hlen

          refine (Move_yes g _ _ bm _ D a.id a.n W1 S1.out.tab (by unfold maxLen; omega) hwid hh).mono ?_
          rintro e w4 ⟨rfl, ht4, hk4⟩

          have HBG := Av.mk (map_ne_blk S1.out.own S1.out.tab.blk)
          have O4 := Av.mk (ownsMap_keep S1.out.own hk4 (by rintro (h | h); exact HBG.out h; exact S1.out.ne h))
          have Y2 := Av.mk (X2.out.keep hk4 (by rintro (h | h); exact (X2.out.ne_ S1.out.tab.blk (by decide)) h; exact (map_ne_blk S1.out.tab.map X2.out) h.symm))
          have Y3 := Av.mk (X3.out.keep hk4 (by rintro (h | h); exact (X3.out.ne_ S1.out.tab.blk (by decide)) h; exact (map_ne_blk S1.out.tab.map X3.out) h.symm))
          have HB5 := Av.mk (below_keep HB4.out HB4.out.size hk4 (by rintro k (rfl | rfl) <;> assumption))
          have T4 := Av.mk ht4
          clear hk4 ht4
          have g1 := Y2.out.cell 1
          have g2 := Y2.out.cell 2
          have g3 := Y2.out.cell 3
          have hlen := fun ty => O4.out.len Try.underlying32 ty
          simp at g1 g2 g3

          have j2 := Y3.out.cell 2
          have j0 := Y3.out.cell 0
          have j1 := Y3.out.cell 1
          have fz := Y3.out.frozen 2
          simp at j0 j1 j2
          go_upto_region 34 with (fail)
          have Z2 := Av.mk (Y2.out.far (p := ⟨ga + 1, 2, none⟩) (by simp) (.int .i64 (wrap64 ((atK D (iOf a.id) c0).2.2 + a.n))))
          have Z3 := Av.mk (Y3.out.set_ 2 (.int .i64 (wrap64 ((atK D (iOf a.id) c0).2.2 + a.n))))
          have O5 := Av.mk (O4.out.setCell (a := ⟨ga + 1, 2, none⟩) (map_ne_blk O4.out Y3.out) (.int .i64 (wrap64 ((atK D (iOf a.id) c0).2.2 + a.n))))
          have T5 := Av.mk (T4.out.keep ((Keep.refl (fun k => k = ga + 1) w4).setCell (p := ⟨ga + 1, 2, none⟩) (fun _ => rfl) (.int .i64 (wrap64 ((atK D (iOf a.id) c0).2.2 + a.n)))) (fun h => (Y3.out.ne_ T4.out.blk (by decide)) h.symm) (fun h => (map_ne_blk T4.out.map Y3.out) h))
          have HB6 := Av.mk (HB5.out.setCell (p := ⟨ga + 1, 2, none⟩) (by show w.heap.size ≤ ga + 1; omega) (.int .i64 (wrap64 ((atK D (iOf a.id) c0).2.2 + a.n))))
          generalize w4.setCell ⟨ga + 1, 2, none⟩ (.int .i64 (wrap64 ((atK D (iOf a.id) c0).2.2 + a.n))) = W5 at *
          clear g1 g2 g3 j0 j1 j2 fz
          have g1 := Z2.out.cell 1
          have j0 := Z3.out.cell 0
          have j1 := Z3.out.cell 1
          have j2 := Z3.out.cell 2
          simp at g1 j0 j1 j2
          go_wp2_with (first | (at_mapUpdate; refine wpList_store decC rfl _ _ _ 32 rfl 3 37 law3 Try.underlying32 bo _ D rfl O5.out (by unfold maxLen; omega) _ _ _ rfl rfl hkey.out (mv (atK D (iOf a.id) c0) a.n) rfl ?_; intro w5 hown5 hturn5; have HSF := Av.mk (S1.out.moved hh T5.out hown5 hturn5 HBG.out); have HBF := Av.mk (HB6.out.grown hturn5.grown HB6.out.size (fun k e => by cases e; omega)); clear hown5 hturn5))

          have hfew := HSF.out.few
          have hlenF := fun ty => HSF.out.own.len Try.underlying32 ty
          go_wp2_with (first | (go_at_call 10; refine (Len_calls g _ _ bm _ _ _ HSF.out.tab).mono ?_; rintro e w' ⟨rfl, rfl⟩) | (go_at_call 13; refine (Room_calls g _ _ bm _ _ _ HSF.out.tab).mono ?_; rintro e w' ⟨rfl, rfl⟩))
          go_roundw
          case rel => exact ⟨k + 1, made, _, by omega, by omega, by go_num, by go_num, HSF.out, HBF.out⟩
          case measure => simp [intOf]; omega
        · replace hh : Maps.has D (iOf a.id) = false := by simpa using hh
          have hfw := HS2.out.few
          go_wp2_with (first | (at_lookup; refine wpList_look decC encC decC_inv rfl _ _ 32 rfl 3 37 law3 Try.underlying32 c0 (zero37 _) rfl bo _ D rfl (HS2.out.own.alloc _) _ _ rfl hkey.out ?_))
          have X1 := Av.mk (((Keep.refl (fun _ => False) wr).alloc (.cells #[.int .u8 a.kind, .int .i64 a.id, .int .u16 a.n, .string a.dir] 35)).alloc (.cells #[.int .i64 (atK D (iOf a.id) c0).1, .string (atK D (iOf a.id) c0).2.1, .int .i64 (atK D (iOf a.id) c0).2.2] 37))
          have X2 := Av.mk ((Blk.new wr 35 #[.int .u8 a.kind, .int .i64 a.id, .int .u16 a.n, .string a.dir]).alloc (.cells #[.int .i64 (atK D (iOf a.id) c0).1, .string (atK D (iOf a.id) c0).2.1, .int .i64 (atK D (iOf a.id) c0).2.2] 37))
          have X3 := Av.mk (show Blk ((wr.alloc (.cells #[.int .u8 a.kind, .int .i64 a.id, .int .u16 a.n, .string a.dir] 35)).alloc (.cells #[.int .i64 (atK D (iOf a.id) c0).1, .string (atK D (iOf a.id) c0).2.1, .int .i64 (atK D (iOf a.id) c0).2.2] 37)) (wr.heap.size + 1) 37 #[.int .i64 (atK D (iOf a.id) c0).1, .string (atK D (iOf a.id) c0).2.1, .int .i64 (atK D (iOf a.id) c0).2.2] from by simpa using Blk.new (wr.alloc (.cells #[.int .u8 a.kind, .int .i64 a.id, .int .u16 a.n, .string a.dir] 35)) 37 #[.int .i64 (atK D (iOf a.id) c0).1, .string (atK D (iOf a.id) c0).2.1, .int .i64 (atK D (iOf a.id) c0).2.2])
          have HB4 := Av.mk (HB3.out.trans (X1.out.below HB3.out.size (by simp)))
          have hga : w.heap.size ≤ wr.heap.size := HB3.out.size
          have S1 := Av.mk (HS2.out.keep X1.out)
          generalize (wr.alloc (.cells #[.int .u8 a.kind, .int .i64 a.id, .int .u16 a.n, .string a.dir] 35)).alloc (.cells #[.int .i64 (atK D (iOf a.id) c0).1, .string (atK D (iOf a.id) c0).2.1, .int .i64 (atK D (iOf a.id) c0).2.2] 37) = W1 at *
          generalize wr.heap.size = ga at *
          have f1 := X2.out.cell 1
          have f2 := X2.out.cell 2
          have f3 := X2.out.cell 3
          simp at f1 f2 f3
          clear hlen

          refine (Move_no g _ _ bm _ D a.id a.n W1 S1.out.tab hwid hh).mono ?_
          rintro e w4 ⟨rfl, hb4⟩

          have HSF := Av.mk (S1.out.keep (Keep.of_below (S := fun _ => False) hb4))
          have HBF := Av.mk (HB4.out.trans (Below.mono hb4 HB4.out.size))
          clear hb4
          have hlen := fun ty => HSF.out.own.len Try.underlying32 ty

          have hfew := HSF.out.few
          have hlenF := fun ty => HSF.out.own.len Try.underlying32 ty
          go_wp2_with (first | (go_at_call 10; refine (Len_calls g _ _ bm _ _ _ HSF.out.tab).mono ?_; rintro e w' ⟨rfl, rfl⟩) | (go_at_call 13; refine (Room_calls g _ _ bm _ _ _ HSF.out.tab).mono ?_; rintro e w' ⟨rfl, rfl⟩))
          go_roundw
          case rel => exact ⟨k + 1, made, D, by omega, by omega, by go_num, by go_num, HSF.out, HBF.out⟩
          case measure => simp [intOf]; omega
      · by_cases hh : Maps.has D (iOf a.id) = true
        · have hfw := HS2.out.few
          go_wp2_with (first | (at_lookup; refine wpList_look decC encC decC_inv rfl _ _ 32 rfl 3 37 law3 Try.underlying32 c0 (zero37 _) rfl bo _ D rfl (HS2.out.own.alloc _) _ _ rfl hkey.out ?_))
          have X1 := Av.mk (((Keep.refl (fun _ => False) wr).alloc (.cells #[.int .u8 a.kind, .int .i64 a.id, .int .u16 a.n, .string a.dir] 35)).alloc (.cells #[.int .i64 (atK D (iOf a.id) c0).1, .string (atK D (iOf a.id) c0).2.1, .int .i64 (atK D (iOf a.id) c0).2.2] 37))
          have X2 := Av.mk ((Blk.new wr 35 #[.int .u8 a.kind, .int .i64 a.id, .int .u16 a.n, .string a.dir]).alloc (.cells #[.int .i64 (atK D (iOf a.id) c0).1, .string (atK D (iOf a.id) c0).2.1, .int .i64 (atK D (iOf a.id) c0).2.2] 37))
          have X3 := Av.mk (show Blk ((wr.alloc (.cells #[.int .u8 a.kind, .int .i64 a.id, .int .u16 a.n, .string a.dir] 35)).alloc (.cells #[.int .i64 (atK D (iOf a.id) c0).1, .string (atK D (iOf a.id) c0).2.1, .int .i64 (atK D (iOf a.id) c0).2.2] 37)) (wr.heap.size + 1) 37 #[.int .i64 (atK D (iOf a.id) c0).1, .string (atK D (iOf a.id) c0).2.1, .int .i64 (atK D (iOf a.id) c0).2.2] from by simpa using Blk.new (wr.alloc (.cells #[.int .u8 a.kind, .int .i64 a.id, .int .u16 a.n, .string a.dir] 35)) 37 #[.int .i64 (atK D (iOf a.id) c0).1, .string (atK D (iOf a.id) c0).2.1, .int .i64 (atK D (iOf a.id) c0).2.2])
          have HB4 := Av.mk (HB3.out.trans (X1.out.below HB3.out.size (by simp)))
          have hga : w.heap.size ≤ wr.heap.size := HB3.out.size
          have S1 := Av.mk (HS2.out.keep X1.out)
          generalize (wr.alloc (.cells #[.int .u8 a.kind, .int .i64 a.id, .int .u16 a.n, .string a.dir] 35)).alloc (.cells #[.int .i64 (atK D (iOf a.id) c0).1, .string (atK D (iOf a.id) c0).2.1, .int .i64 (atK D (iOf a.id) c0).2.2] 37) = W1 at *
          generalize wr.heap.size = ga at *
          have f1 := X2.out.cell 1
          have f2 := X2.out.cell 2
          have f3 := X2.out.cell 3
          simp at f1 f2 f3
          clear hlen

          refine (Close_yes g _ _ bm _ D a.id W1 S1.out.tab hwid hh).mono ?_
          rintro e w4 ⟨rfl, ht4, hk4⟩

          have HBG := Av.mk (map_ne_blk S1.out.own S1.out.tab.blk)
          have O4 := Av.mk (ownsMap_keep S1.out.own hk4 (by rintro (h | h); exact HBG.out h; exact S1.out.ne h))
          have Y2 := Av.mk (X2.out.keep hk4 (by rintro (h | h); exact (X2.out.ne_ S1.out.tab.blk (by decide)) h; exact (map_ne_blk S1.out.tab.map X2.out) h.symm))
          have Y3 := Av.mk (X3.out.keep hk4 (by rintro (h | h); exact (X3.out.ne_ S1.out.tab.blk (by decide)) h; exact (map_ne_blk S1.out.tab.map X3.out) h.symm))
          have HB5 := Av.mk (below_keep HB4.out HB4.out.size hk4 (by rintro k (rfl | rfl) <;> assumption))
          have T4 := Av.mk ht4
          clear hk4 ht4
          have g1 := Y2.out.cell 1
          have g2 := Y2.out.cell 2
          have g3 := Y2.out.cell 3
          have hlen := fun ty => O4.out.len Try.underlying32 ty
          simp at g1 g2 g3

          go_wp2_with (first | (at_delete; refine wpList_delete_own _ rfl _ _ 32 3 rfl 37 law3 Try.underlying32 (rdr decC) bo _ D rfl O4.out _ _ rfl hkey.out ?_; intro w5 hown5 hturn5; have HSF := Av.mk (S1.out.closed T4.out hown5 hturn5 HBG.out); have HBF := Av.mk (HB5.out.grown hturn5.grown HB5.out.size (fun k e => by cases e; omega)); clear hown5 hturn5))

          have hfew := HSF.out.few
          have hlenF := fun ty => HSF.out.own.len Try.underlying32 ty
          go_wp2_with (first | (go_at_call 10; refine (Len_calls g _ _ bm _ _ _ HSF.out.tab).mono ?_; rintro e w' ⟨rfl, rfl⟩) | (go_at_call 13; refine (Room_calls g _ _ bm _ _ _ HSF.out.tab).mono ?_; rintro e w' ⟨rfl, rfl⟩))
          go_roundw
          case rel => exact ⟨k + 1, made, _, by omega, by omega, by go_num, by go_num, HSF.out, HBF.out⟩
          case measure => simp [intOf]; omega
        · replace hh : Maps.has D (iOf a.id) = false := by simpa using hh
          have hfw := HS2.out.few
          go_wp2_with (first | (at_lookup; refine wpList_look decC encC decC_inv rfl _ _ 32 rfl 3 37 law3 Try.underlying32 c0 (zero37 _) rfl bo _ D rfl (HS2.out.own.alloc _) _ _ rfl hkey.out ?_))
          have X1 := Av.mk (((Keep.refl (fun _ => False) wr).alloc (.cells #[.int .u8 a.kind, .int .i64 a.id, .int .u16 a.n, .string a.dir] 35)).alloc (.cells #[.int .i64 (atK D (iOf a.id) c0).1, .string (atK D (iOf a.id) c0).2.1, .int .i64 (atK D (iOf a.id) c0).2.2] 37))
          have X2 := Av.mk ((Blk.new wr 35 #[.int .u8 a.kind, .int .i64 a.id, .int .u16 a.n, .string a.dir]).alloc (.cells #[.int .i64 (atK D (iOf a.id) c0).1, .string (atK D (iOf a.id) c0).2.1, .int .i64 (atK D (iOf a.id) c0).2.2] 37))
          have X3 := Av.mk (show Blk ((wr.alloc (.cells #[.int .u8 a.kind, .int .i64 a.id, .int .u16 a.n, .string a.dir] 35)).alloc (.cells #[.int .i64 (atK D (iOf a.id) c0).1, .string (atK D (iOf a.id) c0).2.1, .int .i64 (atK D (iOf a.id) c0).2.2] 37)) (wr.heap.size + 1) 37 #[.int .i64 (atK D (iOf a.id) c0).1, .string (atK D (iOf a.id) c0).2.1, .int .i64 (atK D (iOf a.id) c0).2.2] from by simpa using Blk.new (wr.alloc (.cells #[.int .u8 a.kind, .int .i64 a.id, .int .u16 a.n, .string a.dir] 35)) 37 #[.int .i64 (atK D (iOf a.id) c0).1, .string (atK D (iOf a.id) c0).2.1, .int .i64 (atK D (iOf a.id) c0).2.2])
          have HB4 := Av.mk (HB3.out.trans (X1.out.below HB3.out.size (by simp)))
          have hga : w.heap.size ≤ wr.heap.size := HB3.out.size
          have S1 := Av.mk (HS2.out.keep X1.out)
          generalize (wr.alloc (.cells #[.int .u8 a.kind, .int .i64 a.id, .int .u16 a.n, .string a.dir] 35)).alloc (.cells #[.int .i64 (atK D (iOf a.id) c0).1, .string (atK D (iOf a.id) c0).2.1, .int .i64 (atK D (iOf a.id) c0).2.2] 37) = W1 at *
          generalize wr.heap.size = ga at *
          have f1 := X2.out.cell 1
          have f2 := X2.out.cell 2
          have f3 := X2.out.cell 3
          simp at f1 f2 f3
          clear hlen

          refine (Close_no g _ _ bm _ D a.id W1 S1.out.tab hwid hh).mono ?_
          rintro e w4 ⟨rfl, hb4⟩
          have S4 := Av.mk (S1.out.keep (Keep.of_below (S := fun _ => False) hb4))
          have HB5 := Av.mk (HB4.out.trans (Below.mono hb4 HB4.out.size))
          have Y2 := Av.mk (X2.out.keep (Keep.of_below (S := fun _ => False) hb4) (by simp))
          have g1 := Y2.out.cell 1
          simp at g1
          clear hb4
          go_wp2_with (first | (at_delete; refine wpList_delete_own _ rfl _ _ 32 3 rfl 37 law3 Try.underlying32 (rdr decC) bo _ D rfl S4.out.own _ _ rfl hkey.out ?_; intro w5 hown5 hturn5; have HSF := Av.mk (S4.out.struck hh hown5 hturn5); have HBF := Av.mk (HB5.out.grown hturn5.grown HB5.out.size (fun k e => by cases e; omega)); clear hown5 hturn5))

          have hfew := HSF.out.few
          have hlenF := fun ty => HSF.out.own.len Try.underlying32 ty
          go_wp2_with (first | (go_at_call 10; refine (Len_calls g _ _ bm _ _ _ HSF.out.tab).mono ?_; rintro e w' ⟨rfl, rfl⟩) | (go_at_call 13; refine (Room_calls g _ _ bm _ _ _ HSF.out.tab).mono ?_; rintro e w' ⟨rfl, rfl⟩))
          go_roundw
          case rel => exact ⟨k + 1, made, D, by omega, by omega, by go_num, by go_num, HSF.out, HBF.out⟩
          case measure => simp [intOf]; omega
      · by_cases hh : Maps.has D (iOf a.id) = true
        · have hfw := HS2.out.few
          go_wp2_with (first | (at_lookup; refine wpList_look decC encC decC_inv rfl _ _ 32 rfl 3 37 law3 Try.underlying32 c0 (zero37 _) rfl bo _ D rfl (HS2.out.own.alloc _) _ _ rfl hkey.out ?_))
          have X1 := Av.mk (((Keep.refl (fun _ => False) wr).alloc (.cells #[.int .u8 a.kind, .int .i64 a.id, .int .u16 a.n, .string a.dir] 35)).alloc (.cells #[.int .i64 (atK D (iOf a.id) c0).1, .string (atK D (iOf a.id) c0).2.1, .int .i64 (atK D (iOf a.id) c0).2.2] 37))
          have X2 := Av.mk ((Blk.new wr 35 #[.int .u8 a.kind, .int .i64 a.id, .int .u16 a.n, .string a.dir]).alloc (.cells #[.int .i64 (atK D (iOf a.id) c0).1, .string (atK D (iOf a.id) c0).2.1, .int .i64 (atK D (iOf a.id) c0).2.2] 37))
          have X3 := Av.mk (show Blk ((wr.alloc (.cells #[.int .u8 a.kind, .int .i64 a.id, .int .u16 a.n, .string a.dir] 35)).alloc (.cells #[.int .i64 (atK D (iOf a.id) c0).1, .string (atK D (iOf a.id) c0).2.1, .int .i64 (atK D (iOf a.id) c0).2.2] 37)) (wr.heap.size + 1) 37 #[.int .i64 (atK D (iOf a.id) c0).1, .string (atK D (iOf a.id) c0).2.1, .int .i64 (atK D (iOf a.id) c0).2.2] from by simpa using Blk.new (wr.alloc (.cells #[.int .u8 a.kind, .int .i64 a.id, .int .u16 a.n, .string a.dir] 35)) 37 #[.int .i64 (atK D (iOf a.id) c0).1, .string (atK D (iOf a.id) c0).2.1, .int .i64 (atK D (iOf a.id) c0).2.2])
          have HB4 := Av.mk (HB3.out.trans (X1.out.below HB3.out.size (by simp)))
          have hga : w.heap.size ≤ wr.heap.size := HB3.out.size
          have S1 := Av.mk (HS2.out.keep X1.out)
          generalize (wr.alloc (.cells #[.int .u8 a.kind, .int .i64 a.id, .int .u16 a.n, .string a.dir] 35)).alloc (.cells #[.int .i64 (atK D (iOf a.id) c0).1, .string (atK D (iOf a.id) c0).2.1, .int .i64 (atK D (iOf a.id) c0).2.2] 37) = W1 at *
          generalize wr.heap.size = ga at *
          have f1 := X2.out.cell 1
          have f2 := X2.out.cell 2
          have f3 := X2.out.cell 3
          simp at f1 f2 f3
          clear hlen

          refine (Get_yes g _ _ bm _ D a.id W1 S1.out.tab hwid hh).mono ?_
          rintro e w4 ⟨rfl, hb4⟩
          have Y3 := Av.mk (X3.out.keep (Keep.of_below (S := fun _ => False) hb4) (by simp))
          have HS4 := Av.mk (S1.out.keep (Keep.of_below (S := fun _ => False) hb4))
          have HB5 := Av.mk (HB4.out.trans (Below.mono hb4 HB4.out.size))
          have hlt4 := Y3.out.lt
          have j0 := Y3.out.cell 0
          have j1 := Y3.out.cell 1
          have j2 := Y3.out.cell 2
          simp at j0 j1 j2
          clear hb4
          go_upto_region 39 with (fail)
          have HSF := Av.mk (HS4.out.keep ((Keep.refl (fun _ => False) w4).alloc (.cells #[.int .i64 (atK D (iOf a.id) c0).1, .string (atK D (iOf a.id) c0).2.1, .int .i64 (atK D (iOf a.id) c0).2.2] 37)))
          have HBF := Av.mk (below_alloc HB5.out (.cells #[.int .i64 (atK D (iOf a.id) c0).1, .string (atK D (iOf a.id) c0).2.1, .int .i64 (atK D (iOf a.id) c0).2.2] 37))
          have hlen := fun ty => HSF.out.own.len Try.underlying32 ty

          have hfew := HSF.out.few
          have hlenF := fun ty => HSF.out.own.len Try.underlying32 ty
          go_wp2_with (first | (go_at_call 10; refine (Len_calls g _ _ bm _ _ _ HSF.out.tab).mono ?_; rintro e w' ⟨rfl, rfl⟩) | (go_at_call 13; refine (Room_calls g _ _ bm _ _ _ HSF.out.tab).mono ?_; rintro e w' ⟨rfl, rfl⟩))
          go_roundw
          case rel => exact ⟨k + 1, made, D, by omega, by omega, by go_num, by go_num, HSF.out, HBF.out⟩
          case measure => simp [intOf]; omega
        · replace hh : Maps.has D (iOf a.id) = false := by simpa using hh
          have hfw := HS2.out.few
          go_wp2_with (first | (at_lookup; refine wpList_look decC encC decC_inv rfl _ _ 32 rfl 3 37 law3 Try.underlying32 c0 (zero37 _) rfl bo _ D rfl (HS2.out.own.alloc _) _ _ rfl hkey.out ?_))
          have X1 := Av.mk (((Keep.refl (fun _ => False) wr).alloc (.cells #[.int .u8 a.kind, .int .i64 a.id, .int .u16 a.n, .string a.dir] 35)).alloc (.cells #[.int .i64 (atK D (iOf a.id) c0).1, .string (atK D (iOf a.id) c0).2.1, .int .i64 (atK D (iOf a.id) c0).2.2] 37))
          have X2 := Av.mk ((Blk.new wr 35 #[.int .u8 a.kind, .int .i64 a.id, .int .u16 a.n, .string a.dir]).alloc (.cells #[.int .i64 (atK D (iOf a.id) c0).1, .string (atK D (iOf a.id) c0).2.1, .int .i64 (atK D (iOf a.id) c0).2.2] 37))
          have X3 := Av.mk (show Blk ((wr.alloc (.cells #[.int .u8 a.kind, .int .i64 a.id, .int .u16 a.n, .string a.dir] 35)).alloc (.cells #[.int .i64 (atK D (iOf a.id) c0).1, .string (atK D (iOf a.id) c0).2.1, .int .i64 (atK D (iOf a.id) c0).2.2] 37)) (wr.heap.size + 1) 37 #[.int .i64 (atK D (iOf a.id) c0).1, .string (atK D (iOf a.id) c0).2.1, .int .i64 (atK D (iOf a.id) c0).2.2] from by simpa using Blk.new (wr.alloc (.cells #[.int .u8 a.kind, .int .i64 a.id, .int .u16 a.n, .string a.dir] 35)) 37 #[.int .i64 (atK D (iOf a.id) c0).1, .string (atK D (iOf a.id) c0).2.1, .int .i64 (atK D (iOf a.id) c0).2.2])
          have HB4 := Av.mk (HB3.out.trans (X1.out.below HB3.out.size (by simp)))
          have hga : w.heap.size ≤ wr.heap.size := HB3.out.size
          have S1 := Av.mk (HS2.out.keep X1.out)
          generalize (wr.alloc (.cells #[.int .u8 a.kind, .int .i64 a.id, .int .u16 a.n, .string a.dir] 35)).alloc (.cells #[.int .i64 (atK D (iOf a.id) c0).1, .string (atK D (iOf a.id) c0).2.1, .int .i64 (atK D (iOf a.id) c0).2.2] 37) = W1 at *
          generalize wr.heap.size = ga at *
          have f1 := X2.out.cell 1
          have f2 := X2.out.cell 2
          have f3 := X2.out.cell 3
          simp at f1 f2 f3
          clear hlen

          replace X3 := Av.mk (show Blk W1 (ga + 1) 37 #[.int .i64 c0.1, .string c0.2.1, .int .i64 c0.2.2] from by have := X3.out; rw [atK_not hh] at this; exact this)

          refine (Get_no g _ _ bm _ D a.id W1 S1.out.tab hwid hh).mono ?_
          rintro e w4 ⟨rfl, hb4⟩
          have Y3 := Av.mk (X3.out.keep (Keep.of_below (S := fun _ => False) hb4) (by simp))
          have HS4 := Av.mk (S1.out.keep (Keep.of_below (S := fun _ => False) hb4))
          have HB5 := Av.mk (HB4.out.trans (Below.mono hb4 HB4.out.size))
          have hlt4 := Y3.out.lt
          have j0 := Y3.out.cell 0
          have j1 := Y3.out.cell 1
          have j2 := Y3.out.cell 2
          simp at j0 j1 j2
          clear hb4
          go_upto_region 39 with (fail)
          have HSF := Av.mk (HS4.out.keep ((Keep.refl (fun _ => False) w4).alloc (.cells #[.int .i64 c0.1, .string c0.2.1, .int .i64 c0.2.2] 37)))
          have HBF := Av.mk (below_alloc HB5.out (.cells #[.int .i64 c0.1, .string c0.2.1, .int .i64 c0.2.2] 37))
          have hlen := fun ty => HSF.out.own.len Try.underlying32 ty

          have hfew := HSF.out.few
          have hlenF := fun ty => HSF.out.own.len Try.underlying32 ty
          go_wp2_with (first | (go_at_call 10; refine (Len_calls g _ _ bm _ _ _ HSF.out.tab).mono ?_; rintro e w' ⟨rfl, rfl⟩) | (go_at_call 13; refine (Room_calls g _ _ bm _ _ _ HSF.out.tab).mono ?_; rintro e w' ⟨rfl, rfl⟩))
          go_roundw
          case rel => exact ⟨k + 1, made, D, by omega, by omega, by go_num, by go_num, HSF.out, HBF.out⟩
          case measure => simp [intOf]; omega
    · obtain rfl : k = n := by omega
      have hlb := HS2.out.own.lt
      have hlg := HS2.out.tab.blk.lt
      have hlm := HS2.out.tab.map.lt
      have hz2 := HB3.out.size
      go_wp2_with (first | (at_range; refine wpList_range_own _ rfl _ 32 rfl 3 37 law3 Try.underlying32 (rdr decC) bo _ D rfl HS2.out.own ?_; intro w5 hrg0 hg0 hs0; have R0 := Av.mk hrg0; have G0 := Av.mk hg0; clear hrg0 hg0 hs0))
      have T0 := Av.mk (HS2.out.tab.keep ((Keep.refl (fun _ => False) _).grown G0.out (by simp)) (by simp) (by simp))
      have HB5 := Av.mk (HB3.out.grown G0.out hz2 (by simp))
      generalize wr.heap.size = r at *
      go_frame
      go_loopw [18] (fun _ wx => ∃ (left : Lit → Bool) (cnt : Nat), wx.ranges Try.prog 3 (rdr decC) bo r (Maps.size D) D left cnt ∧ Tab wx g N made bm (Maps.size D) D ∧ Below w.heap.size w wx) (fun _ wx => wx.rangeLeft bo r)
      case atStart => exact ⟨_, _, R0.out, T0.out, HB5.out⟩
      case round =>
        obtain ⟨left, cnt, hrg, ht, hb⟩ := hrel
        have R1 := Av.mk hrg
        have T1 := Av.mk ht
        have HB6 := Av.mk hb
        clear hrg ht hb
        go_wp2_with (first | (at_next; refine wpList_next_int decC encC decC_inv decC_enc rfl _ rfl 3 .i64 law3 Try.underlying3 bo r _ D left cnt rfl R1.out ?_ ?_))
        · intro _ _
          go_wp2
          go_ret
          exact ⟨rfl, HB6.out⟩
        · intro x ca cs cb w7 cnt1 hwx hlx hhas hat hrg1 hcl hg1 hs1 hen
          have hat0 := Av.mk (show atK D (iOf x) c0 = (ca, cs, cb) from hat _ _ _)
          have R2 := Av.mk hrg1
          have T2 := Av.mk (T1.out.keep ((Keep.refl (fun k => k = r) _).grown hg1 (by simp)) (by omega) (by omega))
          have HB7 := Av.mk (HB6.out.grown hg1 HB6.out.size (fun k e => by cases e; exact hz2))
          clear hat hrg1 hg1 hlx hs1
          go_wp2_with fail
          have T3 := Av.mk (T2.out.keep ((Keep.refl (fun _ => False) w7).alloc (.cells #[.int .i64 ca, .string cs, .int .i64 cb] 37)) (by simp) (by simp))
          have HB8 := Av.mk (below_alloc HB7.out (.cells #[.int .i64 ca, .string cs, .int .i64 cb] 37))
          have R3 := Av.mk (R2.out.alloc (.cells #[.int .i64 ca, .string cs, .int .i64 cb] 37))
          have Y3 := Av.mk (Blk.new w7 37 #[.int .i64 ca, .string cs, .int .i64 cb])
          have hz7 := HB7.out.size
          generalize w7.alloc (.cells #[.int .i64 ca, .string cs, .int .i64 cb] 37) = W8 at *
          generalize w7.heap.size = gy at *
          refine (Get_yes g _ _ bm _ D x W8 T3.out hwx hhas).mono ?_
          rw [hat0.out]
          rintro e w9 ⟨rfl, hb9⟩
          have T4 := Av.mk (T3.out.keep (Keep.of_below (S := fun _ => False) hb9) (by simp) (by simp))
          have HB9 := Av.mk (HB8.out.trans (Below.mono hb9 HB8.out.size))
          have Y4 := Av.mk (Y3.out.keep (Keep.of_below (S := fun _ => False) hb9) (by simp))
          have R4 := Av.mk (R3.out.kept (w' := w9) (row := none) (Below.grown' hb9) (by simp) (by simp))
          have hlt4 := Y4.out.lt
          have j0 := Y4.out.cell 0
          have j1 := Y4.out.cell 1
          have j2 := Y4.out.cell 2
          simp at j0 j1 j2
          clear hb9
          go_wp2_with fail
          have R5 := Av.mk (R4.out.alloc (.cells #[.int .i64 ca, .string cs, .int .i64 cb] 37))
          go_roundw
          case rel => exact ⟨_, _, R5.out, T4.out.keep ((Keep.refl (fun _ => False) w9).alloc _) (by simp) (by simp), below_alloc HB9.out _⟩
          case measure => rw [R5.out.left_eq, R1.out.left_eq]; exact hcl

end Go.Proofs.Ytjehcdedljckbaa
