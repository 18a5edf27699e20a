/- LruDoes: what is known around its walk. -/
import Derived.Test.YtiopmehaghcpfaaRef
import Derived.Test.YtiopmehaghcpfaaInts
namespace Go.Proofs.Ytiopmehaghcpfaa
open Go.RowKit Go.Maps

theorem row_ne_row {w : World} {b1 e1 s1 n1 : Nat} {v1 : Value} {x1 : List Value} {b2 e2 s2 n2 : Nat} {v2 : Value} {x2 : List Value} (h1 : w.ownsRow b1 e1 s1 v1 n1 x1) (h2 : w.ownsRow b2 e2 s2 v2 n2 x2) (hne : e1 ≠ e2) : ∀ k, v1.ownBlock = some k → ¬ some k = v2.ownBlock := by
  intro k hk he
  rcases h1.2 with ⟨rfl, _⟩ | ⟨r, cap, cur, rfl, _, hh, _⟩
  · simp [Value.ownBlock] at hk
  · have : r = k := by simpa [Value.ownBlock] using hk
    subst this
    exact row_ne h2 (show Blk w r e1 cur from hh) hne he

theorem nodup_use (l : List (ByteArray × Int)) (x : ByteArray × Int) (h : (l.map (·.1)).Nodup) : ((x :: l.filter (fun p => decide (p.1 ≠ x.1))).map (·.1)).Nodup := by
  rw [List.map_cons, List.nodup_cons]
  refine ⟨?_, h.sublist (List.Sublist.map _ List.filter_sublist)⟩
  simp only [List.mem_map, List.mem_filter, not_exists, not_and]
  rintro p ⟨_, hp⟩ e
  simp at hp
  exact hp e
theorem len_use_hit (l : List (ByteArray × Int)) (x : ByteArray × Int) (h : (l.map (·.1)).Nodup) (hk : keyAt x.1 l < l.length) : (x :: l.filter (fun p => decide (p.1 ≠ x.1))).length = l.length := by
  rw [← erase_key x.1 l h, List.length_cons, List.length_eraseIdx, if_pos hk]
  omega

/-- The law's state: the cache's list is the reference's. -/
structure Dst (w0 wr : World) (g : Nat) (room : Int) (l : List (ByteArray × Int)) (pv : Value) : Prop where
  lru : ∃ v, LruS wr g g room v l
  prs : Pairs wr w0.heap.size pv l
  nodup : (l.map (·.1)).Nodup
  fits : (l.length : Int) ≤ room
  below : Below w0.heap.size w0 wr
  at_ : w0.heap.size ≤ g
section
variable {w0 wr w' : World} {g : Nat} {room : Int} {l : List (ByteArray × Int)} {pv : Value}
theorem Dst.keep (h : Dst w0 wr g room l pv) (hb : Below wr.heap.size wr w') : Dst w0 w' g room l pv := by
  obtain ⟨v, hv⟩ := h.lru
  exact ⟨⟨v, hv.below hb⟩, row_below h.prs hb, h.nodup, h.fits, below_then h.below h.below.size hb, h.at_⟩
/-- Behind a Get that found it. -/
theorem Dst.got {v : Value} (h : Dst w0 wr g room l pv) (hl : LruS wr g g room v l) {l' : List (ByteArray × Int)} (hl' : LruS w' g g room v l') (hk : Keep (fun k => some k = v.ownBlock) wr w') : Pairs w' w0.heap.size pv l ∧ Below w0.heap.size w0 w' :=
  ⟨row_keep h.prs hk (row_ne_row h.prs hl.row (by decide)), below_keep h.below h.below.size hk (fun k e => Nat.le_trans h.at_ (row_ge hl.row e.symm))⟩
theorem Dst.putt {v : Value} (h : Dst w0 wr g room l pv) (hl : LruS wr g g room v l) (hk : Keep (fun k => k = g ∨ some k = v.ownBlock) wr w') : Below w0.heap.size w0 w' ∧ ∀ pv2 l2, Pairs wr w0.heap.size pv2 l2 → Pairs w' w0.heap.size pv2 l2 :=
  ⟨below_keep h.below h.below.size hk (by
    rintro k (rfl | e)
    · exact h.at_
    · exact Nat.le_trans h.at_ (row_ge hl.row e.symm)), fun pv2 l2 hp => row_keep hp hk (by
    rintro k e (rfl | e2)
    · exact row_ne hp hl.blk (by decide) e.symm
    · exact row_ne_row hp hl.row (by decide) k e e2)⟩
end

/-- Both Puts, in one word. -/
theorem put_both (l : List (ByteArray × Int)) (room : Int) (x : ByteArray × Int) (hn : (l.map (·.1)).Nodup) (hf : (l.length : Int) ≤ room) (h1 : 1 ≤ room) (hl : l.length < 900000) :
    ∃ (l' : List (ByteArray × Int)) (gone : ByteArray) (is : Bool),
      (∀ w base v, Pairs w base v l → Calls Try.prog 31 #[v, .int .i64 room, .agg #[.string x.1, .int .i64 x.2]] w (PutRef l' gone is w)) ∧
      (∀ w g v, LruS w g g room v l → Calls Try.prog 21 #[.pointer (some ⟨g, 0, none⟩), .string x.1, .int .i64 x.2] w (PutS g g room v l' (.tuple #[.string gone, .bool is]) w)) ∧
      (l'.map (·.1)).Nodup ∧ (l'.length : Int) ≤ room ∧ l'.length ≤ l.length + 1 := by
  by_cases hk : keyAt x.1 l < l.length
  · have hlen := len_use_hit l x hn hk
    refine ⟨_, ⟨#[]⟩, false, fun w base v hp => Put13_fits base v l room x w hp hl (by omega), fun w g v hv => ?_, nodup_use l x hn, by omega, by omega⟩
    rw [← erase_key x.1 l hn]
    exact put_hit_S g g room v l x.1 x.2 w hv (by omega) _ rfl hk
  · have hno : x.1 ∉ l.map (·.1) := by rwa [keyAt_lt] at hk
    have hfl := filter_none x.1 l hno
    by_cases hr : (l.length : Int) < room
    · refine ⟨x :: l, ⟨#[]⟩, false, fun w base v hp => ?_, fun w g v hv => put_room_S g g room v l x.1 x.2 w hv hl _ rfl hk hr (Nat.le_refl _), ?_, by simp; omega, by simp⟩
      · have := Put13_fits base v l room x w hp hl (by rw [hfl]; simp; omega)
        rwa [hfl] at this
      · have := nodup_use l x hn
        rwa [hfl] at this
    · obtain ⟨m, hm⟩ : ∃ m, l.length = m + 1 := ⟨l.length - 1, by omega⟩
      have e1 : l.length - 1 = m := by omega
      have e3 : (x :: l).take (m + 1) = x :: l.eraseIdx m := by
        rw [List.take_succ_cons, List.eraseIdx_eq_take_drop_succ, List.drop_of_length_le (by omega), List.append_nil]
      refine ⟨(x :: l).take (m + 1), l[m].1, true, fun w base v hp => ?_, fun w g v hv => ?_, ?_, ?_, ?_⟩
      · have := Put13_full base v l room x w hp hl (x :: l) (by rw [hfl]) (m + 1) (by simp; omega) (by omega)
        simpa using this
      · have := put_evict_S g g room v l x.1 x.2 w hv (by omega) _ rfl hk (by omega) (by omega)
        simp only [e1] at this
        rw [e3]
        exact this
      · have := nodup_use l x hn
        rw [hfl] at this
        exact this.sublist (List.Sublist.map _ (List.take_sublist _ _))
      · rw [List.length_take]; simp; omega
      · rw [List.length_take]; simp; omega

/-- A Get that finds it, in the reference's words. -/
theorem get_ref (l : List (ByteArray × Int)) (k : ByteArray) (hn : (l.map (·.1)).Nodup) (hl : l.length < 900000) (hk : keyAt k l < l.length) :
    ∃ (m : Nat) (hm : m < l.length), fnd (keyAt k l) l.length = (m : Int) ∧ l[m].1 = k ∧
      ∀ w g R v, LruS w g g R v l → Calls Try.prog 23 #[.pointer (some ⟨g, 0, none⟩), .string k] w (GetS g g R v ((k, l[m].2) :: l.filter (fun p => decide (p.1 ≠ k))) (.tuple #[.int .i64 l[m].2, .bool true]) w) := by
  refine ⟨keyAt k l, hk, fnd_hit hk, keyAt_hit k l hk, fun w g R v h => ?_⟩
  have := get_hit_S g g R v l k w h (by omega) _ rfl hk
  rw [erase_key k l hn] at this
  have e : l[keyAt k l] = (k, l[keyAt k l].2) := Prod.ext (keyAt_hit k l hk) rfl
  rw [e] at this
  exact this
/-- A slice of acts that came in. -/
def Acs (w : World) (A : Option Addr) (n : Nat) (F : Nat → ByteArray × Int) : Prop :=
  0 < n → ∃ b off, A = some ⟨b, off, none⟩ ∧ b < w.heap.size ∧ ∀ i, i < n → (-9223372036854775808 ≤ (F i).2 ∧ (F i).2 ≤ 9223372036854775807) ∧ w.cell? ⟨b, off + i * 2, none⟩ = some (.string (F i).1) ∧ w.cell? ⟨b, off + i * 2 + 1, none⟩ = some (.int .i64 (F i).2)
section
open Go.ChangeShapes Go.WideShapes Go.ChangeAt Go.Deep
variable {H : Type} {enc : TypeId × Value → H} {P : Program} {w : World} {base : Nat} {spare : Nat → Bool} {held : Bool}
theorem open_slice_fields {t e : TypeId} {fs : Array Field} {fuel : Nat} {cs : List Value} {x : DataW H × List MemPlace} (ht : P.underlying t = some (.slice e)) (he : P.underlying e = some (.struct fs))
    (hone : oneCellFields P fs = true) (hC : P.cellsOf e = fs.size) (h : DataW.trod enc P w base spare held fuel t cs = some x) :
    (cs = [.slice none 0 0]) ∨
    ∃ (a : Addr) (len cap : Nat), cs = [.slice (some a) len cap] ∧ len ≤ cap ∧ cap ≤ maxLen ∧
      ∀ i, i < len → ∀ (j : Nat) (f : Field), fs[j]? = some f → ∃ (v : Value) (y : DataW H × List MemPlace) (n : Nat), w.cell? (a.add (i * fs.size + j)) = some v ∧ DataW.trod enc P w base spare held n f.type [v] = some y := by
  rcases open_slice ht h with ⟨h0, _⟩ | ⟨a, len, cap, m, n, D, Pl, hcs, hb, hl, hm, hmm, hx, hi⟩
  · exact .inl h0
  · refine .inr ⟨a, len, cap, hcs, hl, hm, fun i him j f hj => ?_⟩
    have hle : len ≤ m := by rw [hmm]; split <;> omega
    obtain ⟨cs', hc, ht'⟩ := hi i (by omega)
    rw [hC] at hc
    obtain ⟨ys, n', hn', hy, hlen, hyl, hf⟩ := DataW.trod_struct he ht'
    obtain ⟨_, hcl, hat⟩ := World.cells?_some hc
    obtain ⟨ho, hk⟩ := hone_of hone j f hj
    have hjl : j < fs.size := (Array.getElem?_eq_some_iff.1 hj).1
    have hcell := hat j hjl
    have hv : cs'[j]? = some (cs'[j]'(by omega)) := List.getElem?_eq_getElem (by omega)
    have h1 := hf j f hj
    rw [ho, hk] at h1
    have hone' : (cs'.drop j).take 1 = [cs'[j]'(by omega)] := by
      rw [List.drop_eq_getElem_cons (by omega)]
      rfl
    rw [hone'] at h1
    have hys : ys[j]? = some (ys[j]'(by omega)) := List.getElem?_eq_getElem (by omega)
    refine ⟨_, _, _, ?_, h1.trans hys⟩
    rw [← Go.Deep.add_add, hcell, hv]
instance : Inhabited ByteArray := ⟨⟨#[]⟩⟩
theorem acs_of {A : Option Addr} {len cap : Nat} {d : DataW H} {p : List MemPlace} (h : DataW.Trod enc Try.prog w base spare held 42 (.slice A len cap) d p) :
    ∃ F : Nat → ByteArray × Int, Acs w A len F ∧ len ≤ 9223372036854775807 := by
  obtain ⟨fuel, hf⟩ := h
  rcases open_slice_fields Try.underlying42 (show Try.prog.underlying 45 = some (.struct _) from Try.underlying45) (by kernel_rfl) (by kernel_rfl) hf with h0 | ⟨a, l, c, hcs, hl, hm, hi⟩
  · simp [Value.cells] at h0
    obtain ⟨rfl, rfl, rfl⟩ := h0
    exact ⟨fun _ => (⟨#[]⟩, 0), fun h => absurd h (by omega), by omega⟩
  · simp [Value.cells] at hcs
    obtain ⟨rfl, rfl, rfl⟩ := hcs
    have hone : ∀ i, i < len → ∃ x : ByteArray × Int, (-9223372036854775808 ≤ x.2 ∧ x.2 ≤ 9223372036854775807) ∧ w.cell? (a.add (i * 2)) = some (.string x.1) ∧ w.cell? (a.add (i * 2 + 1)) = some (.int .i64 x.2) := by
      intro i hil
      have h4 := hi i hil
      obtain ⟨v0, y0, n0, c0, t0⟩ := h4 0 _ rfl
      obtain ⟨v1, y1, n1, c1, t1⟩ := h4 1 _ rfl
      obtain ⟨x0, e0, _, _⟩ := DataW.trod_string Try.underlying9 t0
      obtain ⟨x1, e1, _, w1⟩ := DataW.trod_int Try.underlying3 t1
      simp at e0 e1
      subst e0 e1
      exact ⟨(x0, x1), bounds_i64 w1, c0, c1⟩
    obtain ⟨F, hF⟩ := choose_lt hone
    refine ⟨F, fun hpos => ?_, by unfold maxLen at hm; omega⟩
    obtain ⟨b, off, spot⟩ := a
    have hsp : spot = none := by
      have := (hF 0 hpos).2.1
      simpa [Addr.add] using World.cell?_spot this
    subst hsp
    refine ⟨b, off, rfl, World.block_lt_of_cell? w _ (by simpa [Addr.add] using (hF 0 hpos).2.1), fun i hil => ?_⟩
    obtain ⟨ok, c0, c1⟩ := hF i hil
    refine ⟨ok, ?_, ?_⟩
    · by_cases e : i = 0
      · subst e; simpa [Addr.add] using c0
      · have e4 : i * 2 ≠ 0 := by omega
        simpa [Addr.add, e4, e] using c0
    · simpa [Addr.add, Nat.add_assoc] using c1
end
end Go.Proofs.Ytiopmehaghcpfaa
