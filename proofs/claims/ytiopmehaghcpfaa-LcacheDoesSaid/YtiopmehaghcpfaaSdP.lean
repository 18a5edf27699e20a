/- ShardDoes: its state. -/
import Derived.Test.YtiopmehaghcpfaaTopW
namespace Go.Proofs.Ytiopmehaghcpfaa
open Go.RowKit Go.Maps

theorem Blk.by_fam {w w' : World} {base m : Nat} {R : Nat → Int} {G : Nat → Nat} {V : Nat → Value} {Ls : Nat → PL} {i b : Nat} {t : TypeId} {cs : Array Value} (hb : Blk w b t cs) (h1 : t ≠ 127) (h2 : t ≠ 131)
    (hF : Fam w base m R G V Ls) (hi : i < m) (hk : Keep (fun k => k = G i ∨ some k = (V i).ownBlock) w w') : Blk w' b t cs :=
  hb.keep hk (by
    rintro (e | e)
    · exact hb.ne_ (hF.lru i hi).blk h1 e
    · exact row_ne (hF.lru i hi).row hb h2 e)
theorem row_by_fam {w w' : World} {base m : Nat} {R : Nat → Int} {G : Nat → Nat} {V : Nat → Value} {Ls : Nat → PL} {i b e size n : Nat} {v : Value} {xs : List Value} (h : w.ownsRow b e size v n xs) (h1 : e ≠ 127) (h2 : e ≠ 131)
    (hF : Fam w base m R G V Ls) (hi : i < m) (hk : Keep (fun k => k = G i ∨ some k = (V i).ownBlock) w w') : w'.ownsRow b e size v n xs :=
  row_keep h hk (by
    rintro k hk' (e' | e')
    · exact row_ne h (hF.lru i hi).blk (Ne.symm h1) (by rw [hk', e'])
    · exact row_ne_row h (hF.lru i hi).row h2 k hk' e')

/-- The shards, the law's own caches (n .. 2n - 1 of the family), and the block of the sizes. -/
structure Sst (B : Nat) (w0 w : World) (n : Nat) (r : Int) (g gb : Nat) (a b : Int) (vs vl : Value) (G : Nat → Nat) (V : Nat → Value) (Ls : Nat → PL) : Prop where
  fam : Fam w w0.heap.size (n + n) (fun _ => r) G V Ls
  sh : Shb w g g n vs (fun j => G (0 + j))
  row : w.ownsRow B 33 1 vl n ((List.range n).map fun j => .pointer (some ⟨G (n + j), 0, none⟩))
  box : Blk w gb 88 #[.int .i64 a, .int .i64 b]
  below : Below w0.heap.size w0 w
section
variable {B : Nat} {w0 w w' : World} {n : Nat} {r a b : Int} {g gb : Nat} {vs vl : Value} {G : Nat → Nat} {V : Nat → Value} {Ls : Nat → PL} {i : Nat} {l' : PL} {res : Value} {e : Ending}
theorem Sst.put (h : Sst B w0 w n r g gb a b vs vl G V Ls) (hi : i < n + n) (hp : PutS w0.heap.size (G i) r (V i) l' res w e w') :
    e = .returned res ∧ (∃ V', Sst B w0 w' n r g gb a b vs vl G V' (up Ls i l')) ∧ Keep (fun k => k = G i ∨ some k = (V i).ownBlock) w w' := by
  obtain ⟨he, v', hF, hk⟩ := after_put h.fam hi hp
  exact ⟨he, ⟨_, hF, h.sh.by_fam h.fam hi hk, row_by_fam h.row (by decide) (by decide) h.fam hi hk, h.box.by_fam (by decide) (by decide) h.fam hi hk, below_fam h.fam hi h.below h.below.size (Nat.le_refl _) hk⟩, hk⟩
theorem Sst.get (h : Sst B w0 w n r g gb a b vs vl G V Ls) (hi : i < n + n) (hp : GetS w0.heap.size (G i) r (V i) l' res w e w') :
    e = .returned res ∧ Sst B w0 w' n r g gb a b vs vl G V (up Ls i l') ∧ Keep (fun k => k = G i ∨ some k = (V i).ownBlock) w w' := by
  obtain ⟨he, hF, hk⟩ := after_get h.fam hi hp
  exact ⟨he, ⟨hF, h.sh.by_fam h.fam hi hk, row_by_fam h.row (by decide) (by decide) h.fam hi hk, h.box.by_fam (by decide) (by decide) h.fam hi hk, below_fam h.fam hi h.below h.below.size (Nat.le_refl _) hk⟩, hk⟩
theorem Sst.keep (h : Sst B w0 w n r g gb a b vs vl G V Ls) (hb : Below w.heap.size w w') : Sst B w0 w' n r g gb a b vs vl G V Ls :=
  ⟨h.fam.below hb, h.sh.below hb, row_below h.row hb, h.box.keep (Keep.of_below (S := fun _ => False) hb) (by simp), below_then h.below h.below.size hb⟩
end
theorem sd_grow {w5 w6 : World} {base m g n k gb B : Nat} {R : Nat → Int} {G Gs : Nat → Nat} {V : Nat → Value} {Ls : Nat → PL} {vs vl : Value} {cs : Array Value} {xs : List Value} {o : Obj}
    (hF : Fam w5 base m R G V Ls) (hS : Shb w5 g g n vs Gs) (hX : Blk w5 gb 88 cs) (hR : w5.ownsRow B 33 1 vl k xs) (hvs : ∀ i, vs.ownBlock = some i → i < B) (hG : (w5.alloc o).grownBy w6 vl.ownBlock) :
    Fam w6 base m R G V Ls ∧ Shb w6 g g n vs Gs ∧ Blk w6 gb 88 cs ∧ Keep (fun i => some i = vl.ownBlock) w5 w6 := by
  have hk : Keep (fun i => some i = vl.ownBlock) w5 w6 := ((Keep.refl _ w5).alloc o).grown hG (fun k hk _ => hk.symm)
  refine ⟨hF.keep hk (fun j hj => row_ne hR (hF.lru j hj).blk (by decide)) (fun j k hj hk => row_ne_row (hF.lru j hj).row hR (by decide) k hk), hS.keep hk (row_ne hR hS.blk (by decide)) (fun i hi e => ?_), hX.keep hk (row_ne hR hX (by decide)), hk⟩
  have h1 := hvs i hi
  have h2 := row_base hR i e
  omega
/-- What the lists have to do with one another. -/
structure Srel (n : Nat) (r : Int) (Ls : Nat → PL) : Prop where
  eq : ∀ j, j < n → Ls (n + j) = Ls j
  nd : ∀ j, j < n → ((Ls j).map (·.1)).Nodup
  len : ∀ j, j < n → ((Ls j).length : Int) ≤ r
theorem Srel.step {n : Nat} {r : Int} {Ls : Nat → PL} (h : Srel n r Ls) (j : Nat) (hj : j < n) (l' : PL) (h1 : (l'.map (·.1)).Nodup) (h2 : (l'.length : Int) ≤ r) : Srel n r (up (up Ls j l') (n + j) l') := by
  refine ⟨fun i hi => ?_, fun i hi => ?_, fun i hi => ?_⟩
  · by_cases e : i = j
    · subst e; rw [up_same, up_other _ _ _ (by omega), up_same]
    · rw [up_other _ _ _ (by omega), up_other _ _ _ (by omega), up_other _ _ _ (by omega), up_other _ _ _ e]; exact h.eq i hi
  · rw [up_other _ _ _ (by omega)]
    by_cases e : i = j
    · subst e; rw [up_same]; exact h1
    · rw [up_other _ _ _ e]; exact h.nd i hi
  · rw [up_other _ _ _ (by omega)]
    by_cases e : i = j
    · subst e; rw [up_same]; exact h2
    · rw [up_other _ _ _ e]; exact h.len i hi

set_option maxHeartbeats 1000000 in
theorem slen_out (b2 g n : Nat) (v : Value) (Gs : Nat → Nat) (j : Int) (w : World) (hS : Shb w b2 g n v Gs) (h : j < 0 ∨ (n : Int) ≤ j) :
    Calls Try.prog 26 #[.pointer (some ⟨g, 0, none⟩), .int .i64 j] w (Same (.int .i64 0) w) := by
  have c0 := hS.blk.cell 0
  have lt := hS.blk.lt
  obtain ⟨A, c, rfl⟩ := own_slice hS.row
  simp at c0
  clear hS
  rcases h with h | h
  · go_enter Try.func26, Try.ntmps26
    go_wp2
    go_ret
    exact ⟨rfl, rfl⟩
  · have h0 : ¬ j < 0 := by omega
    go_enter Try.func26, Try.ntmps26
    go_wp2
    go_ret
    exact ⟨rfl, rfl⟩

theorem shd_wrap (n : Nat) (k : ByteArray) (hn0 : 0 < n) (hn : n ≤ 256) : wrap64 ((Fnv.sum (Fnv.bsOf k) : Int) % (n : Int)) = ((shd n k : Nat) : Int) := by
  have h := shd_lt hn0 k
  unfold shd at h ⊢
  generalize Fnv.sum (Fnv.bsOf k) = s at *
  rw [← Int.natCast_emod]
  generalize s % n = z at *
  unfold wrap64
  omega
theorem sh_at (G : Nat → Nat) (n : Nat) (k : ByteArray) : (fun j => G (0 + j)) (Fnv.sum (Fnv.bsOf k) % n) = G (shd n k) := by
  unfold shd
  generalize Fnv.sum (Fnv.bsOf k) % n = z
  simp
theorem row_shape1 {w : World} {b e n : Nat} {v : Value} {xs : List Value} (h : w.ownsRow b e 1 v n xs) (hn : 0 < n) : ∃ r c, v = .slice (some ⟨r, 0, none⟩) n c ∧ r < w.heap.size ∧ n ≤ c := by
  rcases h.2 with ⟨rfl, h0⟩ | ⟨r, cap, cur, rfl, hb, hh, hc, _⟩
  · omega
  · exact ⟨r, cap, rfl, (Array.getElem?_eq_some_iff.1 hh).1, hc⟩
theorem Sst.cell {B : Nat} {w0 w : World} {n : Nat} {r a b : Int} {g gb : Nat} {vs : Value} {G : Nat → Nat} {V : Nat → Value} {Ls : Nat → PL} {rr c : Nat} (h : Sst B w0 w n r g gb a b vs (.slice (some ⟨rr, 0, none⟩) n c) G V Ls) (j : Nat) (hj : j < n) : w.cell? ⟨rr, j, none⟩ = some (.pointer (some ⟨G (n + j), 0, none⟩)) := by
  rw [h.row.cellAt _ (by omega)]
  simp [hj]
section
variable {B : Nat} {w0 w w' : World} {n : Nat} {r a b : Int} {g gb : Nat} {vs vl : Value} {G : Nat → Nat} {V : Nat → Value} {Ls : Nat → PL} {l' : PL} {k : ByteArray} {x : Int}
def KeepI (G : Nat → Nat) (V : Nat → Value) (i : Nat) : World → World → Prop := Keep (fun k => k = G i ∨ some k = (V i).ownBlock)
theorem Sst.sget {ok : Bool} (h : Sst B w0 w n r g gb a b vs vl G V Ls) (hn0 : 0 < n) (hn1 : n ≤ 256) (hk : k.size ≤ 9000000000000000000) (hP : GetIs r (Ls (shd n k)) k l' x ok) :
    Calls Try.prog 24 #[.pointer (some ⟨g, 0, none⟩), .string k] w (Res (.tuple #[.int .i64 x, .bool ok]) (fun w' => Sst B w0 w' n r g gb a b vs vl G V (up Ls (shd n k) l') ∧ KeepI G V (shd n k) w w')) := by
  have hj := shd_lt hn0 k
  have hl := h.fam.lru (shd n k) (by omega)
  exact (sget_calls g g n vs _ k w h.sh hn0 hn1 hk w0.heap.size _ r _ _ l' x ok hl (sh_at G n k) hP).mono fun e w' hp => ⟨(h.get (by omega) hp).1, (h.get (by omega) hp).2.1, (h.get (by omega) hp).2.2⟩
theorem Sst.sput {gone : ByteArray} {is : Bool} (h : Sst B w0 w n r g gb a b vs vl G V Ls) (hn0 : 0 < n) (hn1 : n ≤ 256) (hk : k.size ≤ 9000000000000000000) (hP : PutIs r (Ls (shd n k)) k x l' gone is) :
    Calls Try.prog 22 #[.pointer (some ⟨g, 0, none⟩), .string k, .int .i64 x] w (Res (.tuple #[.string gone, .bool is]) (fun w' => ∃ V', Sst B w0 w' n r g gb a b vs vl G V' (up Ls (shd n k) l') ∧ KeepI G V (shd n k) w w')) := by
  have hj := shd_lt hn0 k
  have hl := h.fam.lru (shd n k) (by omega)
  exact (sput_calls g g n vs _ k x w h.sh hn0 hn1 hk w0.heap.size _ r _ _ l' gone is hl (h.fam.ge _ (by omega)) (sh_at G n k) hP).mono fun e w' hp => by
    obtain ⟨he, ⟨V', h1⟩, h2⟩ := h.put (by omega) hp
    exact ⟨he, V', h1, h2⟩
theorem Sst.act (h : Sst B w0 w n r g gb a b vs vl G V Ls) {i gx : Nat} {cs : Array Value} (hi : i < n + n) (hk : KeepI G V i w w') (hx : Blk w gx 91 cs) : Blk w' gx 91 cs :=
  hx.by_fam (by decide) (by decide) h.fam hi hk
/-- The law's own cache of the same index. -/
theorem Sst.oget {ok : Bool} {j : Nat} (h : Sst B w0 w n r g gb a b vs vl G V Ls) (hj : j < n) (hP : GetIs r (Ls (n + j)) k l' x ok) :
    Calls Try.prog 23 #[.pointer (some ⟨G (n + j), 0, none⟩), .string k] w (Res (.tuple #[.int .i64 x, .bool ok]) (fun w' => Sst B w0 w' n r g gb a b vs vl G V (up Ls (n + j) l') ∧ KeepI G V (n + j) w w')) :=
  (hP w w0.heap.size _ _ (h.fam.lru (n + j) (by omega))).mono fun e w' hp => ⟨(h.get (by omega) hp).1, (h.get (by omega) hp).2.1, (h.get (by omega) hp).2.2⟩
theorem Sst.drewN (h : Sst B w0 w n r g gb a b vs vl G V Ls) (d : Nat) : Sst B w0 (w.drewN d) n r g gb a b vs vl G V Ls :=
  ⟨h.fam.keep ((Keep.refl (fun _ => False) w).drewN d) (by simp) (by simp), ⟨h.sh.blk, h.sh.row⟩, h.row, h.box, below_drewN h.below _⟩
theorem Sst.drew (h : Sst B w0 w n r g gb a b vs vl G V Ls) : Sst B w0 w.drew n r g gb a b vs vl G V Ls := h.drewN 1
theorem Sst.actd (h : Sst B w0 w n r g gb a b vs vl G V Ls) {i gx : Nat} {cs : Array Value} (hi : i < n + n) (hk : KeepI G V i w.drew w') (hx : Blk w gx 91 cs) : Blk w' gx 91 cs :=
  Sst.act h.drew hi hk hx.drew
theorem oget_all {ok : Bool} {j : Nat} (hj : j < n) (hP : GetIs r (Ls (n + j)) k l' x ok) (W : World) (h : Sst B w0 W n r g gb a b vs vl G V Ls) :
    Calls Try.prog 23 #[.pointer (some ⟨G (n + j), 0, none⟩), .string k] W (Res (.tuple #[.int .i64 x, .bool ok]) (fun w' => Sst B w0 w' n r g gb a b vs vl G V (up Ls (n + j) l') ∧ KeepI G V (n + j) W w')) := h.oget hj hP
theorem oput_all {gone : ByteArray} {is : Bool} {j : Nat} (hj : j < n) (hP : PutIs r (Ls (n + j)) k x l' gone is) (W : World) (V : Nat → Value) (h : Sst B w0 W n r g gb a b vs vl G V Ls) :
    Calls Try.prog 21 #[.pointer (some ⟨G (n + j), 0, none⟩), .string k, .int .i64 x] W (Res (.tuple #[.string gone, .bool is]) (fun w' => ∃ V', Sst B w0 w' n r g gb a b vs vl G V' (up Ls (n + j) l') ∧ KeepI G V (n + j) W w')) :=
  (hP W w0.heap.size _ _ (h.fam.lru (n + j) (by omega)) (h.fam.ge _ (by omega))).mono fun e w' hp => by
    obtain ⟨he, ⟨V', h1⟩, h2⟩ := h.put (by omega) hp
    exact ⟨he, V', h1, h2⟩
theorem Sst.oput {gone : ByteArray} {is : Bool} {j : Nat} (h : Sst B w0 w n r g gb a b vs vl G V Ls) (hj : j < n) (hP : PutIs r (Ls (n + j)) k x l' gone is) :
    Calls Try.prog 21 #[.pointer (some ⟨G (n + j), 0, none⟩), .string k, .int .i64 x] w (Res (.tuple #[.string gone, .bool is]) (fun w' => ∃ V', Sst B w0 w' n r g gb a b vs vl G V' (up Ls (n + j) l') ∧ KeepI G V (n + j) w w')) :=
  (hP w w0.heap.size _ _ (h.fam.lru (n + j) (by omega)) (h.fam.ge _ (by omega))).mono fun e w' hp => by
    obtain ⟨he, ⟨V', h1⟩, h2⟩ := h.put (by omega) hp
    exact ⟨he, V', h1, h2⟩
end
/-- The most keys of a shard. -/
def mst (Ls : Nat → PL) (n : Nat) : Nat := most (fun j => (Ls j).length) n
section
variable {B : Nat} {w0 w : World} {n : Nat} {r a b : Int} {g gb : Nat} {vs vl : Value} {G : Nat → Nat} {V : Nat → Value} {Ls : Nat → PL}
theorem Sst.slen (h : Sst B w0 w n r g gb a b vs vl G V Ls) (j : Nat) (hj : j < n) : Calls Try.prog 26 #[.pointer (some ⟨g, 0, none⟩), .int .i64 j] w (Same (.int .i64 (Ls j).length) w) := by
  have := slen_calls g g n vs 0 _ _ _ G V Ls j w h.sh h.fam (by omega) hj
  rw [Nat.zero_add] at this
  exact this
theorem Sst.olen (h : Sst B w0 w n r g gb a b vs vl G V Ls) (hr : Srel n r Ls) (j : Nat) (hj : j < n) : Calls Try.prog 27 #[.pointer (some ⟨G (n + j), 0, none⟩)] w (Same (.int .i64 (Ls j).length) w) := by
  have := len_S _ _ _ _ _ w (h.fam.lru (n + j) (by omega))
  rw [hr.eq j hj] at this
  exact this
theorem Sst.most (h : Sst B w0 w n r g gb a b vs vl G V Ls) (hn : n ≤ 256) : Calls Try.prog 28 #[.pointer (some ⟨g, 0, none⟩)] w (Same (.int .i64 (mst Ls n)) w) := by
  have := most_calls g g n vs 0 _ _ _ G V Ls w h.sh h.fam (by omega) hn
  have e : (fun j => (Ls (0 + j)).length) = fun j => (Ls j).length := by funext j; rw [Nat.zero_add]
  rw [e] at this
  exact this
end
theorem mst_mx (Ls : Nat → PL) (n : Nat) : mx (mst Ls n : Nat) ((Ls n).length : Nat) = ((mst Ls (n + 1) : Nat) : Int) := mx_nat _ _
theorem mst_le {n : Nat} {r : Int} {Ls : Nat → PL} (h : Srel n r Ls) (h0 : 0 ≤ r) : ((mst Ls n : Nat) : Int) ≤ r := by
  have := most_le (fun j => (Ls j).length) r.toNat n (fun i hi => by have := h.len i hi; omega)
  unfold mst
  omega
theorem len_step {Ls : Nat → PL} {n q s : Nat} {l2 : PL} (h : ∀ j, j < n → (Ls j).length ≤ q) (h2 : l2.length ≤ q + 1) : ∀ j, j < n → ((up (up Ls s l2) (n + s) l2) j).length ≤ q + 1 := by
  intro j hj
  rw [up_other _ _ _ (by omega)]
  by_cases e : j = s
  · subst e; rw [up_same]; exact h2
  · rw [up_other _ _ _ e]; have := h j hj; omega
end Go.Proofs.Ytiopmehaghcpfaa
