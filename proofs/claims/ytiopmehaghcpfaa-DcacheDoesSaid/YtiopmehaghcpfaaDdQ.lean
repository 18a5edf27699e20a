/- DcacheDoes: its state and the calls on it. Printed by mac.py from DdQ.src. -/
import Derived.Test.YtiopmehaghcpfaaDdP
import Derived.Test.YtiopmehaghcpfaaEpP
import Derived.Test.YtiopmehaghcpfaaEntP
namespace Go.Proofs.Ytiopmehaghcpfaa.Dd
open Go.Proofs.Ytiopmehaghcpfaa
open Go.RowKit Go.Maps
set_option linter.unusedSimpArgs false
set_option linter.unusedVariables false

abbrev law9 := L.law9
abbrev keyS := L.keyS
/-- An act of the law, as the map keeps it. -/
structure AV where
  kp : Bool
  th : Bool
  d : Int
  nm : ByteArray
  ep : Int
  mark : Int
def encA (a : AV) : Value := .agg #[.bool a.kp, .bool a.th, .int .u8 a.d, .string a.nm, .int .i64 a.ep, .int .i64 a.mark]
theorem encA_inj {a b : AV} (h : encA a = encA b) : a = b := by
  cases a; cases b
  simp [encA] at h
  obtain ⟨rfl, rfl, rfl, rfl, rfl, rfl⟩ := h
  rfl
open Classical in
noncomputable def decA (v : Value) : Option AV := if h : ∃ a, v = encA a then some h.choose else none
theorem decA_enc (a : AV) : decA (encA a) = some a := by
  have h : ∃ b, encA a = encA b := ⟨a, rfl⟩
  unfold decA
  rw [dif_pos h]
  exact congrArg some (encA_inj h.choose_spec.symm)
theorem decA_inv (v : Value) (x : AV) (h : decA v = some x) : v = encA x := by
  unfold decA at h
  split at h
  · rename_i he
    cases h
    exact he.choose_spec
  · cases h
def zA : AV := ⟨false, false, 0, ⟨#[]⟩, 0, 0⟩

theorem map_ne_rowA {α : Type} {P : Program} {k : TypeId} {R : Value → Option (DataW α × List MemPlace)} {w : World} {b n : Nat} {D : DataW α} {base e size m : Nat} {v : Value} {xs : List Value}
    (h : w.ownsMap P k R b n D) (hr : w.ownsRow base e size v m xs) : ∀ i, v.ownBlock = some i → i ≠ b := by
  rintro i hi rfl
  obtain ⟨es, clock, hb, _⟩ := h
  rcases hr.2 with ⟨rfl, _⟩ | ⟨r, cap, cur, rfl, _, hh, _⟩
  · simp [Value.ownBlock] at hi
  · have : r = i := by simpa [Value.ownBlock] using hi
    subst this
    rw [hb] at hh
    cases hh

/-- The cache, the law's map, and what the cache's entries hold. -/
structure Dst (w0 w : World) (n : Nat) (r : Int) (g gs : Nat) (hits misses : Int) (vs : Value) (G : Nat → Nat) (V : Nat → Value) (Ls : Nat → E.PL) (bm : Nat) (D : DataW AV) : Prop where
  dc : E.Dc w0 w g gs n r hits misses vs G V Ls
  map : w.ownsMap Try.prog 9 (rdr decA) bm (Maps.size D) D
  hb : w0.heap.size ≤ bm
  erow : ∀ j, j < n → ∀ q ∈ Ls j, q.2.n = 1 ∧ q.2.lev = 0 ∧ q.2.ino = 0 ∧ w.ownsRow w0.heap.size 70 2 (.slice q.2.A 1 q.2.c) 1 [.int .i64 q.2.kind, .int .i64 0]
/-- What the lists and the map say of one another. -/
structure DFit (n : Nat) (r : Int) (q : Nat) (Ls : Nat → E.PL) (D : DataW AV) : Prop where
  nd : ∀ j, j < n → ((Ls j).map (·.1)).Nodup
  len : ∀ j, j < n → ((Ls j).length : Int) ≤ r ∧ (Ls j).length ≤ q
  ent : ∀ j, j < n → ∀ p ∈ Ls j, shd n p.1 = j ∧ p.2.ep = (atK D (keyS p.1) zA).ep ∧ p.2.there = (atK D (keyS p.1) zA).th ∧ p.2.kind = (atK D (keyS p.1) zA).mark ∧ p.2.tg = (atK D (keyS p.1) zA).nm

section
variable {w0 w w' : World} {n : Nat} {r : Int} {g gs : Nat} {hits misses : Int} {vs : Value} {G : Nat → Nat} {V : Nat → Value} {Ls : Nat → E.PL} {bm : Nat} {D : DataW AV} {q i : Nat} {k : ByteArray}
theorem touch_mem (hn : ((Ls i).map (·.1)).Nodup) : ∀ p, p ∈ touch k (Ls i) → p ∈ Ls i := by
  intro p hp
  by_cases hk : k ∈ (Ls i).map (·.1)
  · obtain ⟨q, hq, rfl⟩ := List.mem_map.1 hk
    rw [touch_hit (x := q.2) hn hq] at hp
    exact Ep.useL_mem _ _ _ hq p hp
  · rw [touch_not hk] at hp; exact hp
theorem touch_nodup (hn : ((Ls i).map (·.1)).Nodup) : ((touch k (Ls i)).map (·.1)).Nodup := by
  by_cases hk : k ∈ (Ls i).map (·.1)
  · obtain ⟨q, hq, rfl⟩ := List.mem_map.1 hk
    rw [touch_hit (x := q.2) hn hq]
    exact E.useL_nodup _ _ _ hn
  · rw [touch_not hk]; exact hn
theorem touch_length (hn : ((Ls i).map (·.1)).Nodup) : (touch k (Ls i)).length = (Ls i).length := by
  by_cases hk : k ∈ (Ls i).map (·.1)
  · obtain ⟨q, hq, rfl⟩ := List.mem_map.1 hk
    rw [touch_hit (x := q.2) hn hq]
    exact E.len_use_hit (Ls i) q hn (by rw [keyAt_lt]; exact hk)
  · rw [touch_not hk]
/-- A Get of a cache, whatever is there. -/
theorem get_touch (hn : ((Ls i).map (·.1)).Nodup) (hl : (Ls i).length < 900000) : ∃ (x : E.Pay) (ok : Bool), E.GetIs r (Ls i) k (touch k (Ls i)) x ok ∧ (ok = true → (k, x) ∈ Ls i) ∧ (ok = false → k ∉ (Ls i).map (·.1)) := by
  by_cases hk : k ∈ (Ls i).map (·.1)
  · obtain ⟨q, hq, rfl⟩ := List.mem_map.1 hk
    rw [touch_hit (x := q.2) hn hq]
    exact ⟨q.2, true, E.getIs_hit r (Ls i) q.1 q.2 hn hl hq, fun _ => hq, (fun h => by cases h)⟩
  · rw [touch_not hk]
    exact ⟨_, false, E.getIs_not r (Ls i) k hl hk, (fun h => by cases h), fun _ => hk⟩
theorem DFit.touch (h : DFit n r q Ls D) (hi : i < n) (k : ByteArray) : DFit n r q (up Ls i (touch k (Ls i))) D := by
  refine ⟨fun j hj => ?_, fun j hj => ?_, fun j hj p hp => h.ent j hj p (Ep.up_mem (touch_mem (h.nd i hi)) j p hp)⟩
  · by_cases e : j = i
    · subst e; rw [up_same]; exact touch_nodup (h.nd j hj)
    · rw [up_other _ _ _ e]; exact h.nd j hj
  · by_cases e : j = i
    · subst e; rw [up_same, touch_length (h.nd j hj)]; exact h.len j hj
    · rw [up_other _ _ _ e]; exact h.len j hj
theorem DFit.mono {q' : Nat} (h : DFit n r q Ls D) (hq : q ≤ q') : DFit n r q' Ls D := ⟨h.nd, fun j hj => ⟨(h.len j hj).1, Nat.le_trans (h.len j hj).2 hq⟩, h.ent⟩
theorem DFit.put (h : DFit n r q Ls D) (hD : IsMap D) (hr : 0 ≤ r) (hi : i < n) (k : ByteArray) (hki : shd n k = i) (a : AV) (x : E.Pay) (hx : x.ep = a.ep ∧ x.there = a.th ∧ x.kind = a.mark ∧ x.tg = a.nm) : DFit n r (q + 1) (up Ls i (putL r k x (Ls i))) (D.put (keyS k) (.held a)) := by
  have old : ∀ j, j < n → ∀ p, p ∈ Ls j → p.1 ≠ k → shd n p.1 = j ∧ p.2.ep = (atK (D.put (keyS k) (.held a)) (keyS p.1) zA).ep ∧ p.2.there = (atK (D.put (keyS k) (.held a)) (keyS p.1) zA).th ∧ p.2.kind = (atK (D.put (keyS k) (.held a)) (keyS p.1) zA).mark ∧ p.2.tg = (atK (D.put (keyS k) (.held a)) (keyS p.1) zA).nm := by
    intro j hj p hp hne
    rw [atK_put_other (by rw [Ne, L.keyS_inj]; exact hne)]
    exact h.ent j hj p hp
  refine ⟨fun j hj => ?_, fun j hj => ?_, fun j hj p hp => ?_⟩
  · by_cases e : j = i
    · subst e; rw [up_same]; exact putL_nodup (h.nd j hj)
    · rw [up_other _ _ _ e]; exact h.nd j hj
  · by_cases e : j = i
    · subst e; rw [up_same]; exact ⟨putL_length hr, by have := putL_le r k x (Ls j); have := (h.len j hj).2; omega⟩
    · rw [up_other _ _ _ e]; exact ⟨(h.len j hj).1, by have := (h.len j hj).2; omega⟩
  · by_cases e : j = i
    · subst e
      rw [up_same] at hp
      rcases putL_mem hp with rfl | ⟨hp, hne⟩
      · rw [atK_put_same hD (L.isKey_S _)]
        exact ⟨hki, hx.1, hx.2.1, hx.2.2.1, hx.2.2.2⟩
      · exact old j hj p hp hne
    · rw [up_other _ _ _ e] at hp
      exact old j hj p hp (fun h' => e (by have := (h.ent j hj p hp).1; rw [h', hki] at this; exact this.symm))

theorem Dst.below (h : Dst w0 w n r g gs hits misses vs G V Ls bm D) (hb : Below w.heap.size w w') : Dst w0 w' n r g gs hits misses vs G V Ls bm D :=
  ⟨h.dc.grow hb, ownsMap_keep h.map (Keep.of_below (S := fun _ => False) hb) (by simp), h.hb, fun j hj q hq => ⟨(h.erow j hj q hq).1, (h.erow j hj q hq).2.1, (h.erow j hj q hq).2.2.1, row_below (h.erow j hj q hq).2.2.2 hb⟩⟩
theorem Dst.drewN (h : Dst w0 w n r g gs hits misses vs G V Ls bm D) (m : Nat) : Dst w0 (w.drewN m) n r g gs hits misses vs G V Ls bm D := ⟨h.dc.drewN m, h.map, h.hb, h.erow⟩
theorem Dst.drew (h : Dst w0 w n r g gs hits misses vs G V Ls bm D) : Dst w0 w.drew n r g gs hits misses vs G V Ls bm D := h.drewN 1
/-- Behind a call of the cache. -/
theorem Dst.byE (h : Dst w0 w n r g gs hits misses vs G V Ls bm D) (hi : i < n) (hk : E.KeepC g G V i w w') {hits' misses' : Int} {V' : Nat → Value} {Ls' : Nat → E.PL} (hd : E.Dc w0 w' g gs n r hits' misses' vs G V' Ls')
    (her : ∀ j, j < n → ∀ q ∈ Ls' j, q ∈ Ls j ∨ (q.2.n = 1 ∧ q.2.lev = 0 ∧ q.2.ino = 0 ∧ w'.ownsRow w0.heap.size 70 2 (.slice q.2.A 1 q.2.c) 1 [.int .i64 q.2.kind, .int .i64 0])) : Dst w0 w' n r g gs hits' misses' vs G V' Ls' bm D := by
  refine ⟨hd, ownsMap_keep h.map hk ?_, h.hb, fun j hj q hq => ?_⟩
  · rintro (e | e | e)
    · exact map_ne_blk h.map h.dc.blk e
    · exact map_ne_blk h.map (h.dc.fam.lru i hi).blk e
    · exact map_ne_rowA h.map (h.dc.fam.lru i hi).row bm e.symm rfl
  · rcases her j hj q hq with h1 | h1
    · obtain ⟨a, b, c, d⟩ := h.erow j hj q h1
      exact ⟨a, b, c, row_keep d hk (Ep.Dc.apartRow h.dc hi d (by decide) (by decide) (by decide))⟩
    · exact h1
/-- Behind a store that is not the cache's: into the map, or into the row of pairs. -/
theorem Dst.byS (h : Dst w0 w n r g gs hits misses vs G V Ls bm D) {b : Nat} (hk : Keep (fun k => k = b) w w') (hb : w0.heap.size ≤ b) (h1 : ∀ g t cs, Blk w g t cs → ¬ g = b) (h2 : ∀ B e m v xs sz, w.ownsRow B e sz v m xs → (e = 154 ∨ e = 168 ∨ e = 70) → ∀ k, v.ownBlock = some k → ¬ k = b) {m : Nat} {D' : DataW AV} (hm : w'.ownsMap Try.prog 9 (rdr decA) bm m D') : Dst w0 w' n r g gs hits misses vs G V Ls bm D' :=
  ⟨Ep.Dc.keepS h.dc hk (fun k e => by rw [e]; exact hb) (fun g t cs hx _ => h1 g t cs hx) (fun B e m v xs sz hx he => h2 B e m v xs sz hx (by rcases he with he | he; exact .inl he; exact .inr (.inl he))), ownsMap_tight hm, h.hb, fun j hj q hq =>
    ⟨(h.erow j hj q hq).1, (h.erow j hj q hq).2.1, (h.erow j hj q hq).2.2.1, row_keep (h.erow j hj q hq).2.2.2 hk (h2 _ _ _ _ _ _ (h.erow j hj q hq).2.2.2 (.inr (.inr rfl)))⟩⟩
theorem Dst.byMap (h : Dst w0 w n r g gs hits misses vs G V Ls bm D) {m : Nat} {D' : DataW AV} (hm : w'.ownsMap Try.prog 9 (rdr decA) bm m D') (ht : w.mapTurned w' bm) : Dst w0 w' n r g gs hits misses vs G V Ls bm D' :=
  h.byS ((Keep.refl _ w).turned ht (fun _ => rfl)) h.hb (fun g t cs hx e => map_ne_blk h.map hx e.symm) (fun B e m v xs sz hx _ k hk e' => map_ne_rowA h.map hx k hk e') hm
theorem Dst.byRow (h : Dst w0 w n r g gs hits misses vs G V Ls bm D) {R cap m : Nat} {xs : List Value} (hr : w.ownsRow w0.heap.size 43 1 (.slice (some ⟨R, 0, none⟩) m cap) m xs) (hk : Keep (fun k => k = R) w w') : Dst w0 w' n r g gs hits misses vs G V Ls bm D :=
  Ep.Dc.keepS h.dc hk (fun k e => by rw [e]; exact row_base hr R rfl) (fun g t cs hx ht e => row_ne hr hx (by rcases ht with rfl | rfl | rfl <;> decide) (by rw [e]; rfl)) (fun B e m v xs sz hx he k hk' e' => row_ne_row hx hr (by rcases he with rfl | rfl <;> decide) k hk' (by rw [e']; rfl)) |> fun hd =>
  ⟨hd, ownsMap_keep h.map hk (fun e => map_ne_rowA h.map hr bm (by rw [e]; rfl) rfl), h.hb, fun j hj q hq =>
    ⟨(h.erow j hj q hq).1, (h.erow j hj q hq).2.1, (h.erow j hj q hq).2.2.1, row_keep (h.erow j hj q hq).2.2.2 hk (fun k hk' e' => row_ne_row (h.erow j hj q hq).2.2.2 hr (by decide) k hk' (by rw [e']; rfl))⟩⟩
/-- The pairs behind a call of the cache, and behind a store into the map. -/
theorem PSt.byE {R cap m : Nat} {PV : Nat → Value} {Lp : Nat → E.PL} (hp : PSt w w0.heap.size R cap m PV Lp) (h : Dst w0 w n r g gs hits misses vs G V Ls bm D) (hi : i < n) (hk : E.KeepC g G V i w w') : PSt w' w0.heap.size R cap m PV Lp :=
  hp.keep hk (Ep.Dc.apartRow h.dc hi hp.row (by decide) (by decide) (by decide) R rfl) (fun j hj k hk' => Ep.Dc.apartRow h.dc hi (hp.prs j hj) (by decide) (by decide) (by decide) k hk')
theorem PSt.byMap {R cap m : Nat} {PV : Nat → Value} {Lp : Nat → E.PL} (hp : PSt w w0.heap.size R cap m PV Lp) (h : Dst w0 w n r g gs hits misses vs G V Ls bm D) (ht : w.mapTurned w' bm) : PSt w' w0.heap.size R cap m PV Lp :=
  hp.keep ((Keep.refl (fun k => k = bm) w).turned ht (fun _ => rfl)) (fun e => map_ne_rowA h.map hp.row R rfl e) (fun j hj k hk' e => map_ne_rowA h.map (hp.prs j hj) k hk' e)

def DHit (w0 : World) (n : Nat) (r : Int) (g gs : Nat) (hits misses : Int) (vs : Value) (G : Nat → Nat) (V : Nat → Value) (Ls : Nat → E.PL) (bm : Nat) (D : DataW AV) (i : Nat) (x : E.Pay) (w : World) (e : Ending) (w' : World) : Prop :=
  ∃ A c, e = .returned (.tuple #[.agg #[.int .i64 x.ep, .bool x.there, .int .i64 x.kind, .int .i64 0, .int .i64 0, .slice A 1 c, .string x.tg], .bool true]) ∧ w'.ownsRow w.heap.size 70 2 (.slice A 1 c) 1 [.int .i64 x.kind, .int .i64 0] ∧ Dst w0 w' n r g gs (hits + 1) misses vs G V Ls bm D ∧ E.KeepC g G V i w w'
theorem dst_hit (h : Dst w0 w n r g gs hits misses vs G V Ls bm D) (hf : DFit n r q Ls D) (hq : q ≤ 1000) (hn0 : 0 < n) (hn1 : n ≤ 256) (h0 : 0 ≤ hits) (h1 : hits ≤ 1000000) (dir s k : ByteArray) (hd : dir.size ≤ 4) (hs : s.size ≤ 64) (hk : chd dir s = k) (hks : k.size ≤ 3000) (hi : shd n k = i) (x : E.Pay) (hx : (k, x) ∈ Ls i) :
    Calls Try.prog 42 #[.pointer (some ⟨g, 0, none⟩), .int .i64 x.ep, .string dir, .string s] w (DHit w0 n r g gs hits misses vs G V (up Ls i (touch k (Ls i))) bm D i x w) := by
  have hil : i < n := by rw [← hi]; exact shd_lt hn0 _
  have hlen := (hf.len i hil).2
  have hg := E.getIs_hit r (Ls i) k x (hf.nd i hil) (by omega) hx
  rw [← touch_hit (hf.nd i hil) hx] at hg
  obtain ⟨e1, e2, e3, hrow⟩ := h.erow i hil _ hx
  refine (E.look_hit w0 w g gs n r hits misses vs G V Ls h.dc hn0 hn1 h0 h1 dir s k (by omega) (by omega) hk hks i hi x _ hg w0.heap.size [.int .i64 x.kind, .int .i64 0] (by rw [e1]; exact hrow) (by simp [Value.oneCell']) (by rw [e1]; omega)).mono ?_
  rintro e w' ⟨A, c, rfl, hr, hd', hk'⟩
  simp only at e1 e2 e3
  rw [e1] at hr
  exact ⟨A, c, by rw [e1, e2, e3], hr, h.byE hil hk' hd' (fun j hj q hq => .inl (Ep.up_mem (touch_mem (hf.nd i hil)) j q hq)), hk'⟩

def DMiss (w0 : World) (n : Nat) (r : Int) (g gs : Nat) (hits misses : Int) (vs : Value) (G : Nat → Nat) (V : Nat → Value) (Ls : Nat → E.PL) (bm : Nat) (D : DataW AV) (i : Nat) (w : World) (e : Ending) (w' : World) : Prop :=
  e = .returned (.tuple #[.agg #[.int .i64 0, .bool false, .int .i64 0, .int .i64 0, .int .i64 0, .slice none 0 0, .string (⟨#[]⟩ : ByteArray)], .bool false]) ∧ Dst w0 w' n r g gs hits (misses + 1) vs G V Ls bm D ∧ E.KeepC g G V i w w'
theorem dst_miss (h : Dst w0 w n r g gs hits misses vs G V Ls bm D) (hf : DFit n r q Ls D) (hq : q ≤ 1000) (hn0 : 0 < n) (hn1 : n ≤ 256) (h0 : 0 ≤ misses) (h1 : misses ≤ 1000000) (dir s k : ByteArray) (hd : dir.size ≤ 4) (hs : s.size ≤ 64) (hk : chd dir s = k) (hks : k.size ≤ 3000) (hi : shd n k = i) (ep : Int) (hx : ∀ x, (k, x) ∈ Ls i → x.ep ≠ ep) :
    Calls Try.prog 42 #[.pointer (some ⟨g, 0, none⟩), .int .i64 ep, .string dir, .string s] w (DMiss w0 n r g gs hits misses vs G V (up Ls i (touch k (Ls i))) bm D i w) := by
  have hil : i < n := by rw [← hi]; exact shd_lt hn0 _
  have hlen := (hf.len i hil).2
  obtain ⟨x, ok, hg, h1', h2'⟩ := get_touch (r := r) (k := k) (hf.nd i hil) (by omega)
  refine (E.look_miss w0 w g gs n r hits misses vs G V Ls h.dc hn0 hn1 h0 h1 dir s k (by omega) (by omega) hk hks i hi x _ ok ep hg (by cases ok; exact .inl rfl; exact .inr (hx x (h1' rfl)))).mono ?_
  rintro e w' ⟨rfl, hd', hk'⟩
  exact ⟨rfl, h.byE hil hk' hd' (fun j hj q hq => .inl (Ep.up_mem (touch_mem (hf.nd i hil)) j q hq)), hk'⟩

def DNo (w0 : World) (n : Nat) (r : Int) (g gs : Nat) (hits misses : Int) (vs : Value) (G : Nat → Nat) (V : Nat → Value) (Ls : Nat → E.PL) (bm : Nat) (D : DataW AV) (i : Nat) (w : World) (e : Ending) (w' : World) : Prop :=
  e = .returned (.bool false) ∧ Dst w0 w' n r g gs hits misses vs G V Ls bm D ∧ E.KeepC g G V i w w'
theorem dst_no (h : Dst w0 w n r g gs hits misses vs G V Ls bm D) (hf : DFit n r q Ls D) (hq : q ≤ 1000) (hn0 : 0 < n) (hn1 : n ≤ 256) (dir s k : ByteArray) (hd : dir.size ≤ 4) (hs : s.size ≤ 64) (hk : chd dir s = k) (hks : k.size ≤ 3000) (hi : shd n k = i) (x : E.Pay) (hx : (k, x) ∈ Ls i) (y : E.Pay) (hlt : y.ep < x.ep) :
    Calls Try.prog 45 #[.pointer (some ⟨g, 0, none⟩), .string dir, .string s, .agg #[.int .i64 y.ep, .bool y.there, .int .i64 y.kind, .int .i64 y.lev, .int .i64 y.ino, .slice y.A y.n y.c, .string y.tg]] w (DNo w0 n r g gs hits misses vs G V (up Ls i (touch k (Ls i))) bm D i w) := by
  have hil : i < n := by rw [← hi]; exact shd_lt hn0 _
  have hlen := (hf.len i hil).2
  have hg := E.getIs_hit r (Ls i) k x (hf.nd i hil) (by omega) hx
  rw [← touch_hit (hf.nd i hil) hx] at hg
  refine (E.keep_no w0 w g gs n r hits misses vs G V Ls h.dc hn0 hn1 dir s k (by omega) (by omega) hk hks i hi x y _ hg hlt).mono ?_
  rintro e w' ⟨rfl, hd', hk'⟩
  exact ⟨rfl, h.byE hil hk' hd' (fun j hj q hq => .inl (Ep.up_mem (touch_mem (hf.nd i hil)) j q hq)), hk'⟩

def DYes (w0 : World) (n : Nat) (r : Int) (g gs : Nat) (hits misses : Int) (vs : Value) (G : Nat → Nat) (V : Nat → Value) (Ls : Nat → E.PL) (bm : Nat) (D : DataW AV) (i : Nat) (k : ByteArray) (y : E.Pay) (w : World) (e : Ending) (w' : World) : Prop :=
  ∃ A c V', e = .returned (.bool true) ∧ Dst w0 w' n r g gs hits misses vs G V' (up Ls i (putL r k ⟨y.ep, y.there, y.kind, y.lev, y.ino, A, y.n, c, y.tg⟩ (touch k (Ls i)))) bm D ∧ E.KeepC g G V i w w'
theorem dst_yes (h : Dst w0 w n r g gs hits misses vs G V Ls bm D) (hf : DFit n r q Ls D) (hq : q ≤ 1000) (hr1 : 1 ≤ r) (hn0 : 0 < n) (hn1 : n ≤ 256) (dir s k : ByteArray) (hd : dir.size ≤ 4) (hs : s.size ≤ 64) (hk : chd dir s = k) (hks : k.size ≤ 3000) (hi : shd n k = i) (y : E.Pay) (hx : ∀ x, (k, x) ∈ Ls i → x.ep ≤ y.ep) (hy : y.n = 1 ∧ y.lev = 0 ∧ y.ino = 0) (b : Nat) (hrow : w.ownsRow b 70 2 (.slice y.A 1 y.c) 1 [.int .i64 y.kind, .int .i64 0]) :
    Calls Try.prog 45 #[.pointer (some ⟨g, 0, none⟩), .string dir, .string s, .agg #[.int .i64 y.ep, .bool y.there, .int .i64 y.kind, .int .i64 y.lev, .int .i64 y.ino, .slice y.A y.n y.c, .string y.tg]] w (DYes w0 n r g gs hits misses vs G V Ls bm D i k y w) := by
  have hil : i < n := by rw [← hi]; exact shd_lt hn0 _
  have hlen := hf.len i hil
  have htl := touch_length (k := k) (hf.nd i hil)
  obtain ⟨x, ok, hg, h1', h2'⟩ := get_touch (r := r) (k := k) (hf.nd i hil) (by omega)
  refine (E.keep_yes w0 w g gs n r hits misses vs G V Ls h.dc hn0 hn1 dir s k (by omega) (by omega) hk hks i hi x y _ ok hg (by cases ok; exact .inl rfl; exact .inr (hx x (h1' rfl))) (fun A c => putL r k ⟨y.ep, y.there, y.kind, y.lev, y.ino, A, y.n, c, y.tg⟩ (touch k (Ls i)))
    (fun A c => putL_is r _ k _ (touch_nodup (hf.nd i hil)) (by omega) (by omega) hr1) b [.int .i64 y.kind, .int .i64 0] (by rw [hy.1]; exact hrow) (by simp [Value.oneCell']) (by rw [hy.1]; omega)).mono ?_
  rintro e w' ⟨rfl, A, c, V', hr, hd', _, hk'⟩
  refine ⟨A, c, V', rfl, h.byE hil hk' hd' (fun j hj p hp => ?_), hk'⟩
  by_cases e : j = i
  · subst e
    rw [up_same] at hp
    rcases putL_mem hp with rfl | ⟨hp, _⟩
    · rw [hy.1] at hr
      exact .inr ⟨hy.1, hy.2.1, hy.2.2, row_mono hr h.dc.below.size⟩
    · exact .inl (touch_mem (hf.nd j hj) p hp)
  · rw [up_other _ _ _ e] at hp; exact .inl hp
/-- A Keep, whatever comes of it. -/
def DKeep (w0 : World) (n : Nat) (r : Int) (g gs : Nat) (hits misses : Int) (vs : Value) (G : Nat → Nat) (V : Nat → Value) (Ls : Nat → E.PL) (bm : Nat) (D : DataW AV) (i : Nat) (k : ByteArray) (th : Bool) (ep mk : Int) (nm : ByteArray) (w : World) (e : Ending) (w' : World) : Prop :=
  ∃ (bb : Bool) (V' : Nat → Value) (Ls' : Nat → E.PL), e = .returned (.bool bb) ∧ Dst w0 w' n r g gs hits misses vs G V' Ls' bm D ∧ E.KeepC g G V i w w' ∧
    (bb = true → (∀ x, (k, x) ∈ Ls i → x.ep ≤ ep) ∧ ∃ A c, Ls' = up Ls i (putL r k ⟨ep, th, mk, 0, 0, A, 1, c, nm⟩ (touch k (Ls i)))) ∧ (bb = false → (∃ x, (k, x) ∈ Ls i ∧ ep < x.ep) ∧ Ls' = up Ls i (touch k (Ls i)))
theorem dst_keep (h : Dst w0 w n r g gs hits misses vs G V Ls bm D) (hf : DFit n r q Ls D) (hq : q ≤ 1000) (hr1 : 1 ≤ r) (hn0 : 0 < n) (hn1 : n ≤ 256) (dir s k : ByteArray) (hd : dir.size ≤ 4) (hs : s.size ≤ 64) (hk : chd dir s = k) (hks : k.size ≤ 3000) (hi : shd n k = i) (th : Bool) (ep mk : Int) (rr b : Nat) (hrow : w.ownsRow b 70 2 (.slice (some ⟨rr, 0, none⟩) 1 1) 1 [.int .i64 mk, .int .i64 0]) :
    Calls Try.prog 45 #[.pointer (some ⟨g, 0, none⟩), .string dir, .string s, .agg #[.int .i64 ep, .bool th, .int .i64 mk, .int .i64 0, .int .i64 0, .slice (some ⟨rr, 0, none⟩) 1 1, .string s]] w (DKeep w0 n r g gs hits misses vs G V Ls bm D i k th ep mk s w) := by
  by_cases hno : ∃ x, (k, x) ∈ Ls i ∧ ep < x.ep
  · obtain ⟨x, hx, hlt⟩ := hno
    refine (dst_no h hf hq hn0 hn1 dir s k hd hs hk hks hi x hx ⟨ep, th, mk, 0, 0, some ⟨rr, 0, none⟩, 1, 1, s⟩ hlt).mono ?_
    rintro e w' ⟨rfl, h', hk'⟩
    exact ⟨false, V, _, rfl, h', hk', (fun h => by cases h), fun _ => ⟨⟨x, hx, hlt⟩, rfl⟩⟩
  · have hall : ∀ x, (k, x) ∈ Ls i → x.ep ≤ ep := fun x hx => by
      rcases Int.lt_or_le ep x.ep with h' | h'
      · exact absurd ⟨x, hx, h'⟩ hno
      · exact h'
    refine (dst_yes h hf hq hr1 hn0 hn1 dir s k hd hs hk hks hi ⟨ep, th, mk, 0, 0, some ⟨rr, 0, none⟩, 1, 1, s⟩ hall ⟨rfl, rfl, rfl⟩ b hrow).mono ?_
    rintro e w' ⟨A, c, V', rfl, h', hk'⟩
    exact ⟨true, V', _, rfl, h', hk', (fun _ => ⟨hall, A, c, rfl⟩), (fun h => by cases h)⟩
end
end Go.Proofs.Ytiopmehaghcpfaa.Dd
namespace Go.Proofs.Ytiopmehaghcpfaa.E
open Go.Proofs.Ytiopmehaghcpfaa
theorem chd_size2 (dir s : ByteArray) (h1 : dir.size ≤ 4) (h2 : s.size ≤ 64) : (chd dir s).size ≤ 3000 := by
  unfold chd
  split
  · rw [ByteArray.size_append]; omega
  · rw [ByteArray.size_append, ByteArray.size_append]
    have : sl.size = 1 := rfl
    omega
end Go.Proofs.Ytiopmehaghcpfaa.E
