/- The contract of socagelaw13.speaks. -/
import Derived.Test.YtiopmehaghcpfaaLruS
namespace Go.Proofs.Ytiopmehaghcpfaa
open Go.RowKit Go.Maps
attribute [local go_sem ↓] run_max_int run_min_int

theorem room_S (base g : Nat) (room : Int) (v : Value) (l : List (ByteArray × Int)) (w : World) (h : LruS w base g room v l) : Calls Try.prog 19 #[.pointer (some ⟨g, 0, none⟩)] w (Same (.int .i64 room) w) := by
  have c1 := h.blk.cell 0
  have lt := h.blk.lt
  simp at c1
  clear h
  go_enter Try.func19, Try.ntmps19
  go_wp2
  go_ret
  exact ⟨rfl, rfl⟩

theorem below_keep {B : Nat} {w w1 w2 : World} {S : Nat → Prop} (h : Below B w w1) (hB : B ≤ w1.heap.size) (k : Keep S w1 w2) (hS : ∀ k, S k → B ≤ k) : Below B w w2 := h.trans (k.below hB hS)
abbrev sa : ByteArray := { data := #[97] }
abbrev sb : ByteArray := { data := #[98] }
abbrev sc : ByteArray := { data := #[99] }

/-- What holds of a cache made in world w. -/
structure Own {α : Type} (TC TP sz : Nat) (cs : α → List Value) (w wr : World) (g : Nat) (room : Int) (l : List α) : Prop where
  ex : ∃ v, LruW TC TP sz cs wr g g room v l ∧ Below w.heap.size w wr ∧ w.heap.size ≤ g
abbrev OwnS (w wr : World) (g : Nat) (room : Int) (l : List (ByteArray × Int)) : Prop := Own 127 131 2 csS w wr g room l
abbrev OwnI (w wr : World) (g : Nat) (room : Int) (l : List (Int × Int)) : Prop := Own 121 123 2 csI w wr g room l
def Res (v : Value) (p : World → Prop) (e : Ending) (w' : World) : Prop := e = .returned v ∧ p w'

theorem row_ge {w : World} {base e size n : Nat} {v : Value} {xs : List Value} (h : w.ownsRow base e size v n xs) {k : Nat} (hk : v.ownBlock = some k) : base ≤ k := row_base h k hk.symm

section
variable {w wr : World} {g : Nat} {room : Int} {l : List (ByteArray × Int)}
theorem own_new_S (room : Int) (w : World) : Calls Try.prog 18 #[.int .i64 room] w (Res (.pointer (some ⟨w.heap.size, 0, none⟩)) (fun w' => OwnS w w' w.heap.size (mx room 1) [])) :=
  (new_S room w).mono fun _ _ h => ⟨h.1, ⟨_, h.2.1, h.2.2, Nat.le_refl _⟩⟩
theorem own_put_S (h : OwnS w wr g room l) {v : Value} {l' : List (ByteArray × Int)} {res : Value} {e : Ending} {w' : World} (hl : LruS wr g g room v l) (hb : Below w.heap.size w wr) (hg : w.heap.size ≤ g) (hp : PutS g g room v l' res wr e w') : Res res (fun w' => OwnS w w' g room l') e w' := by
  obtain ⟨rfl, v', h', k', _⟩ := hp
  refine ⟨rfl, ⟨v', h', ?_, hg⟩⟩
  exact below_keep hb hb.size k' (by
    rintro k (rfl | e)
    · exact hg
    · exact Nat.le_trans hg (row_ge hl.row e.symm))
theorem own_put_room_S (h : OwnS w wr g room l) (k : ByteArray) (x : Int) (hl : l.length < 900000) (hn : ¬ keyAt k l < l.length) (hr : (l.length : Int) < room) :
    Calls Try.prog 21 #[.pointer (some ⟨g, 0, none⟩), .string k, .int .i64 x] wr (Res (.tuple #[.string (⟨#[]⟩ : ByteArray), .bool false]) (fun w' => OwnS w w' g room ((k, x) :: l))) := by
  obtain ⟨v, hv, hb, hg⟩ := h.ex
  exact (put_room_S g g room v l k x wr hv hl _ rfl hn hr (Nat.le_refl _)).mono fun e w' hp => own_put_S h hv hb hg hp
theorem own_put_hit_S (h : OwnS w wr g room l) (k : ByteArray) (x : Int) (hl : l.length < 900000) (hn : keyAt k l < l.length) :
    Calls Try.prog 21 #[.pointer (some ⟨g, 0, none⟩), .string k, .int .i64 x] wr (Res (.tuple #[.string (⟨#[]⟩ : ByteArray), .bool false]) (fun w' => OwnS w w' g room ((k, x) :: l.eraseIdx (keyAt k l)))) := by
  obtain ⟨v, hv, hb, hg⟩ := h.ex
  exact (put_hit_S g g room v l k x wr hv (by omega) _ rfl hn).mono fun e w' hp => own_put_S h hv hb hg hp
theorem own_put_evict_S (h : OwnS w wr g room l) (k : ByteArray) (x : Int) (hl : l.length < 900000) (hn : ¬ keyAt k l < l.length) (hr : room ≤ l.length) (h0 : 0 < l.length) :
    Calls Try.prog 21 #[.pointer (some ⟨g, 0, none⟩), .string k, .int .i64 x] wr (Res (.tuple #[.string (l[l.length - 1]'(by omega)).1, .bool true]) (fun w' => OwnS w w' g room ((k, x) :: l.eraseIdx (l.length - 1)))) := by
  obtain ⟨v, hv, hb, hg⟩ := h.ex
  exact (put_evict_S g g room v l k x wr hv (by omega) _ rfl hn hr h0).mono fun e w' hp => own_put_S h hv hb hg hp
theorem own_get_S (h : OwnS w wr g room l) {v : Value} {l' : List (ByteArray × Int)} {res : Value} {e : Ending} {w' : World} (hl : LruS wr g g room v l) (hb : Below w.heap.size w wr) (hg : w.heap.size ≤ g) (hp : GetS g g room v l' res wr e w') : Res res (fun w' => OwnS w w' g room l') e w' := by
  obtain ⟨rfl, h', k'⟩ := hp
  refine ⟨rfl, ⟨v, h', ?_, hg⟩⟩
  exact below_keep hb hb.size k' (fun k e => Nat.le_trans hg (row_ge hl.row e.symm))
theorem own_get_hit_S (h : OwnS w wr g room l) (k : ByteArray) (hl : l.length < 900000) (hn : keyAt k l < l.length) :
    Calls Try.prog 23 #[.pointer (some ⟨g, 0, none⟩), .string k] wr (Res (.tuple #[.int .i64 l[keyAt k l].2, .bool true]) (fun w' => OwnS w w' g room (l[keyAt k l] :: l.eraseIdx (keyAt k l)))) := by
  obtain ⟨v, hv, hb, hg⟩ := h.ex
  exact (get_hit_S g g room v l k wr hv (by omega) _ rfl hn).mono fun e w' hp => own_get_S h hv hb hg hp
theorem own_get_not_S (h : OwnS w wr g room l) (k : ByteArray) (hl : l.length < 900000) (hn : ¬ keyAt k l < l.length) :
    Calls Try.prog 23 #[.pointer (some ⟨g, 0, none⟩), .string k] wr (Res (.tuple #[.int .i64 0, .bool false]) (fun w' => OwnS w w' g room l)) := by
  obtain ⟨v, hv, hb, hg⟩ := h.ex
  exact (get_not_S g g room v l k wr hv (by omega) _ rfl hn).mono fun e w' hp => own_get_S h hv hb hg hp
theorem own_len_S (h : OwnS w wr g room l) : Calls Try.prog 27 #[.pointer (some ⟨g, 0, none⟩)] wr (Same (.int .i64 l.length) wr) := by
  obtain ⟨v, hv, _⟩ := h.ex
  exact len_S g g room v l wr hv
theorem own_room_S (h : OwnS w wr g room l) : Calls Try.prog 19 #[.pointer (some ⟨g, 0, none⟩)] wr (Same (.int .i64 room) wr) := by
  obtain ⟨v, hv, _⟩ := h.ex
  exact room_S g g room v l wr hv
end

set_option maxHeartbeats 1000000 in
theorem speaks13 (w : World) : Calls Try.prog 13 #[] w (RetB (.bool true) w) := by
  go_enter Try.func13, Try.ntmps13
  go_wp2_with fail
  refine (own_new_S 2 w).mono ?_
  rintro e w1 ⟨rfl, h1⟩
  have H1 := Av.mk h1
  clear h1
  go_wp2_with fail
  refine (own_put_room_S H1.out sa 1 (by decide) (by decide) (by decide)).mono ?_
  rintro e w2 ⟨rfl, h2⟩
  have H2 := Av.mk h2
  clear h2
  go_wp2_with fail
  refine (own_put_room_S H2.out sb 2 (by decide) (by decide) (by decide)).mono ?_
  rintro e w3 ⟨rfl, h3⟩
  have H3 := Av.mk h3
  clear h3
  go_wp2_with fail
  refine (own_get_hit_S H3.out sa (by decide) (by decide)).mono ?_
  rintro e w4 ⟨rfl, h4⟩
  have H4 := Av.mk (show OwnS w w4 w.heap.size 2 [(sa, 1), (sb, 2)] from h4)
  clear h4
  go_wp2_with fail
  refine (own_put_evict_S H4.out sc 3 (by decide) (by decide) (by decide) (by decide)).mono ?_
  rintro e w5 ⟨rfl, h5⟩
  have H5 := Av.mk (show OwnS w w5 w.heap.size 2 [(sc, 3), (sa, 1)] from h5)
  clear h5
  go_wp2_with fail
  refine (own_len_S H5.out).mono ?_
  rintro e w6 ⟨rfl, rfl⟩
  go_wp2_with fail
  refine (own_room_S H5.out).mono ?_
  rintro e w6 ⟨rfl, rfl⟩
  go_wp2
  go_ret
  obtain ⟨_, _, hb, _⟩ := H5.out.ex
  exact ⟨rfl, hb⟩
end Go.Proofs.Ytiopmehaghcpfaa
