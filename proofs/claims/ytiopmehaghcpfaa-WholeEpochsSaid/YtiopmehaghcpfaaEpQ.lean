/- WholeEpochs: the calls on its state. Printed by mac.py from EpQ.src. -/
import Derived.Test.YtiopmehaghcpfaaEpP
namespace Go.Proofs.Ytiopmehaghcpfaa.Ep
open Go.Proofs.Ytiopmehaghcpfaa
open Go.RowKit Go.Maps
set_option linter.unusedSimpArgs false
set_option linter.unusedVariables false

theorem chd_sl (nm : ByteArray) : chd sl nm = sl ++ nm := if_pos rfl
theorem app_inj {a b : ByteArray} (h : sl ++ a = sl ++ b) : a = b := by
  have h2 : (sl ++ a).data = (sl ++ b).data := by rw [h]
  rw [ByteArray.data_append, ByteArray.data_append] at h2
  have h3 := congrArg Array.toList h2
  simp at h3
  cases a; cases b
  simpa using h3
theorem sl_size (nm : ByteArray) : (sl ++ nm).size = nm.size + 1 := by
  rw [ByteArray.size_append]
  have : sl.size = 1 := rfl
  omega

section
variable {w0 w : World} {n : Nat} {r : Int} {g gs : Nat} {hits misses : Int} {vs : Value} {G : Nat → Nat} {V : Nat → Value} {Ls : Nat → E.PL} {g2 gs2 : Nat} {vs2 : Value} {G2 : Nat → Nat} {V2 : Nat → Value} {Ls2 : Nat → L.PL} {bm : Nat} {D : DataW Int} {q : Nat}
/-- What a Look among the names comes to. -/
def ELook (w0 : World) (n : Nat) (r : Int) (g gs : Nat) (hits misses : Int) (vs : Value) (G : Nat → Nat) (V : Nat → Value) (Ls : Nat → E.PL) (g2 gs2 : Nat) (vs2 : Value) (G2 : Nat → Nat) (V2 : Nat → Value) (Ls2 : Nat → L.PL) (bm : Nat) (D : DataW Int) (q : Nat) (nm : ByteArray) (ep : Int) (ga : Nat) (act : Array Value) (e : Ending) (w' : World) : Prop :=
  ∃ (b : Bool) (y : E.Pay) (hits' misses' : Int) (Ls' : Nat → E.PL), e = .returned (.tuple #[.agg #[.int .i64 y.ep, .bool y.there, .int .i64 y.kind, .int .i64 y.lev, .int .i64 y.ino, .slice y.A y.n y.c, .string y.tg], .bool b]) ∧ Est w0 w' n r g gs hits' misses' vs G V Ls' g2 gs2 vs2 G2 V2 Ls2 bm D ∧ EFit n r q Ls' D ∧
    (hits' = hits + 1 ∧ misses' = misses ∨ hits' = hits ∧ misses' = misses + 1) ∧ (b = true → y.ep = ep ∧ y.tg = nm) ∧ (∀ x, (sl ++ nm, x) ∈ Ls (shd n (sl ++ nm)) → x.ep = ep → b = true) ∧ (∀ j p, p ∈ Ls' j → p ∈ Ls j) ∧ Blk w' ga 67 act

theorem est_look (h : Est w0 w n r g gs hits misses vs G V Ls g2 gs2 vs2 G2 V2 Ls2 bm D) (hf : EFit n r q Ls D) (hq : q ≤ 1000) (hn0 : 0 < n) (hn1 : n ≤ 256) (h0 : 0 ≤ hits) (h1 : hits ≤ 1000000) (h2 : 0 ≤ misses) (h3 : misses ≤ 1000000) (nm : ByteArray) (hnm : nm.size ≤ 64) (ep : Int) (ga : Nat) (act : Array Value) (ha : Blk w ga 67 act) :
    Calls Try.prog 42 #[.pointer (some ⟨g, 0, none⟩), .int .i64 ep, .string sl, .string nm] w (ELook w0 n r g gs hits misses vs G V Ls g2 gs2 vs2 G2 V2 Ls2 bm D q nm ep ga act) := by
  obtain ⟨i, hi⟩ : ∃ i, shd n (sl ++ nm) = i := ⟨_, rfl⟩
  have hil : i < n := by rw [← hi]; exact shd_lt hn0 _
  have hlen := (hf.len i hil).2
  have hks : (sl ++ nm).size ≤ 3000 := by rw [sl_size]; omega
  by_cases hk : sl ++ nm ∈ (Ls i).map (·.1)
  · obtain ⟨p, hp, hpk⟩ := List.mem_map.1 hk
    obtain ⟨pk, x⟩ := p
    simp only at hpk
    subst hpk
    have hg := E.getIs_hit r (Ls i) (sl ++ nm) x (hf.nd i hil) (by omega) hp
    have hent := hf.ent i hil _ hp
    have htg : x.tg = nm := app_inj hent.1.symm
    have hrow := h.erow i hil _ hp
    have hmem : ∀ j p, p ∈ up Ls i (E.useL (sl ++ nm) x (Ls i)) j → p ∈ Ls j := up_mem (useL_mem (sl ++ nm) x _ hp)
    by_cases hep : x.ep = ep
    · subst hep
      refine (E.look_hit w0 w g gs n r hits misses vs G V Ls h.dc hn0 hn1 h0 h1 sl nm (sl ++ nm) (by decide) (by omega) (chd_sl nm) hks i hi x _ hg w0.heap.size [] (by rw [hrow.1]; exact hrow.2) (by simp) (by rw [hrow.1]; omega)).mono ?_
      rintro e w' ⟨A, c, rfl, _, hd, hk'⟩
      refine ⟨true, ⟨x.ep, x.there, x.kind, x.lev, x.ino, A, x.n, c, x.tg⟩, hits + 1, misses, _, rfl, h.byE hil hk' hd (fun j hj q hq => .inl (hmem j q hq)), hf.use i hil _ x hp, .inl ⟨rfl, rfl⟩, fun _ => ⟨rfl, htg⟩, fun _ _ _ => rfl, hmem, ha.keep hk' (Dc.apartBlk h.dc hil ha (by decide) (by decide) (by decide))⟩
    · refine (E.look_miss w0 w g gs n r hits misses vs G V Ls h.dc hn0 hn1 h2 h3 sl nm (sl ++ nm) (by decide) (by omega) (chd_sl nm) hks i hi x _ true ep hg (.inr hep)).mono ?_
      rintro e w' ⟨rfl, hd, hk'⟩
      refine ⟨false, ⟨0, false, 0, 0, 0, none, 0, 0, ⟨#[]⟩⟩, hits, misses + 1, _, rfl, h.byE hil hk' hd (fun j hj q hq => .inl (hmem j q hq)), hf.use i hil _ x hp, .inr ⟨rfl, rfl⟩, (fun h => by cases h), fun x' hx' he' => ?_, hmem, ha.keep hk' (Dc.apartBlk h.dc hil ha (by decide) (by decide) (by decide))⟩
      rw [hi] at hx'
      have := E.getIs_hit.key_one (Ls i) (hf.nd i hil) hx' hp rfl
      injection this with _ hxx
      rw [hxx] at he'
      exact absurd he' hep
  · have hg := E.getIs_not r (Ls i) (sl ++ nm) (by omega) hk
    refine (E.look_miss w0 w g gs n r hits misses vs G V Ls h.dc hn0 hn1 h2 h3 sl nm (sl ++ nm) (by decide) (by omega) (chd_sl nm) hks i hi _ _ false ep hg (.inl rfl)).mono ?_
    rintro e w' ⟨rfl, hd, hk'⟩
    rw [up_self] at hd
    refine ⟨false, ⟨0, false, 0, 0, 0, none, 0, 0, ⟨#[]⟩⟩, hits, misses + 1, Ls, rfl, h.byE hil hk' hd (fun j hj q hq => .inl hq), hf, .inr ⟨rfl, rfl⟩, (fun h => by cases h), fun x' hx' _ => ?_, fun _ _ h => h, ha.keep hk' (Dc.apartBlk h.dc hil ha (by decide) (by decide) (by decide))⟩
    rw [hi] at hx'
    exact absurd (List.mem_map_of_mem (f := (·.1)) hx') hk

/-- What a Look among the lists comes to. -/
def LLook (w0 : World) (n : Nat) (r : Int) (g gs : Nat) (hits misses : Int) (vs : Value) (G : Nat → Nat) (V : Nat → Value) (Ls : Nat → E.PL) (g2 gs2 : Nat) (vs2 : Value) (G2 : Nat → Nat) (V2 : Nat → Value) (bm : Nat) (D : DataW Int) (q : Nat) (ep : Int) (ga : Nat) (act : Array Value) (e : Ending) (w' : World) : Prop :=
  ∃ (b : Bool) (A : Option Addr) (m c : Nat) (Ls2' : Nat → L.PL), e = .returned (.tuple #[.slice A m c, .bool b]) ∧ Est w0 w' n r g gs hits misses vs G V Ls g2 gs2 vs2 G2 V2 Ls2' bm D ∧ LFit n r q Ls2' ∧
    (b = true → m = 1 ∧ ∃ rr, A = some ⟨rr, 0, none⟩ ∧ w'.cell? ⟨rr, 1, none⟩ = some (.int .i64 ep) ∧ rr < w'.heap.size) ∧ Blk w' ga 67 act

theorem est_llook (h : Est w0 w n r g gs hits misses vs G V Ls g2 gs2 vs2 G2 V2 Ls2 bm D) (hf : LFit n r q Ls2) (hq : q ≤ 1000) (hn0 : 0 < n) (hn1 : n ≤ 256) (nm : ByteArray) (hnm : nm.size ≤ 64) (ep : Int) (ga : Nat) (act : Array Value) (ha : Blk w ga 67 act) :
    Calls Try.prog 43 #[.pointer (some ⟨g2, 0, none⟩), .int .i64 ep, .string (sl ++ nm)] w (LLook w0 n r g gs hits misses vs G V Ls g2 gs2 vs2 G2 V2 bm D q ep ga act) := by
  obtain ⟨i, hi⟩ : ∃ i, shd n (sl ++ nm) = i := ⟨_, rfl⟩
  have hil : i < n := by rw [← hi]; exact shd_lt hn0 _
  have hlen := (hf.len i hil).2
  have hks : (sl ++ nm).size ≤ 3000 := by rw [sl_size]; omega
  by_cases hk : sl ++ nm ∈ (Ls2 i).map (·.1)
  · obtain ⟨p, hp, hpk⟩ := List.mem_map.1 hk
    obtain ⟨pk, x⟩ := p
    simp only at hpk
    subst hpk
    have hg := L.getIs_hit r (Ls2 i) (sl ++ nm) x (hf.nd i hil) (by omega) hp
    obtain ⟨hn1', s, hrow⟩ := h.lrow i hil _ hp
    have hmem : ∀ j p, p ∈ up Ls2 i (L.useL (sl ++ nm) x (Ls2 i)) j → p ∈ Ls2 j := up_mem (useL_memL (sl ++ nm) x _ hp)
    by_cases hep : x.ep = ep
    · subst hep
      refine (L.look_hit w0 w g2 gs2 n r 0 vs2 G2 V2 Ls2 h.lc hn0 hn1 (sl ++ nm) hks i hi x _ hg w0.heap.size [.string s, .int .i64 x.ep] (by rw [hn1']; exact hrow) (by simp [Value.oneCell']) (by rw [hn1']; omega)).mono ?_
      rintro e w' ⟨A, c, rfl, hr, hd, hk'⟩
      rw [hn1'] at hr
      refine ⟨true, A, x.n, c, _, rfl, h.byL hil hk' hd (fun j hj q hq => .inl (hmem j q hq)), hf.use i hil _ x hp, fun _ => ⟨hn1', ?_⟩, ha.keep hk' (Lc.apartBlk h.lc hil ha (by decide) (by decide) (by decide))⟩
      rcases hr.2 with ⟨e, _⟩ | ⟨rr, cap, cur, e, _⟩
      · cases e
      · cases e
        exact ⟨rr, rfl, by have := hr.cellAt 1 (by decide); simpa using this, row_lt hr rr rfl⟩
    · refine (L.look_miss w0 w g2 gs2 n r 0 vs2 G2 V2 Ls2 h.lc hn0 hn1 (sl ++ nm) hks i hi x _ true ep hg (.inr hep)).mono ?_
      rintro e w' ⟨rfl, hd, hk'⟩
      exact ⟨false, none, 0, 0, _, rfl, h.byL hil hk' hd (fun j hj q hq => .inl (hmem j q hq)), hf.use i hil _ x hp, (fun h => by cases h), ha.keep hk' (Lc.apartBlk h.lc hil ha (by decide) (by decide) (by decide))⟩
  · have hg := L.getIs_not r (Ls2 i) (sl ++ nm) (by omega) hk
    refine (L.look_miss w0 w g2 gs2 n r 0 vs2 G2 V2 Ls2 h.lc hn0 hn1 (sl ++ nm) hks i hi _ _ false ep hg (.inl rfl)).mono ?_
    rintro e w' ⟨rfl, hd, hk'⟩
    rw [up_self] at hd
    exact ⟨false, none, 0, 0, Ls2, rfl, h.byL hil hk' hd (fun j hj q hq => .inl hq), hf, (fun h => by cases h), ha.keep hk' (Lc.apartBlk h.lc hil ha (by decide) (by decide) (by decide))⟩

def LKeep (w0 : World) (n : Nat) (r : Int) (g gs : Nat) (hits misses : Int) (vs : Value) (G : Nat → Nat) (V : Nat → Value) (Ls : Nat → E.PL) (g2 gs2 : Nat) (vs2 : Value) (G2 : Nat → Nat) (bm : Nat) (D : DataW Int) (q : Nat) (e : Ending) (w' : World) : Prop :=
  ∃ (b : Bool) (V2' : Nat → Value) (Ls2' : Nat → L.PL), e = .returned (.bool b) ∧ Est w0 w' n r g gs hits misses vs G V Ls g2 gs2 vs2 G2 V2' Ls2' bm D ∧ LFit n r (q + 1) Ls2'

theorem est_lkeep (h : Est w0 w n r g gs hits misses vs G V Ls g2 gs2 vs2 G2 V2 Ls2 bm D) (hf : LFit n r q Ls2) (hq : q ≤ 1000) (hr1 : 1 ≤ r) (hn0 : 0 < n) (hn1 : n ≤ 256) (nm : ByteArray) (hnm : nm.size ≤ 64) (ep : Int) (b : Nat) (A0 : Option Addr) (c1 : Nat) (hrow : w.ownsRow b 83 2 (.slice A0 1 c1) 1 [.string nm, .int .i64 ep]) :
    Calls Try.prog 44 #[.pointer (some ⟨g2, 0, none⟩), .int .i64 ep, .string (sl ++ nm), .slice A0 1 c1] w (LKeep w0 n r g gs hits misses vs G V Ls g2 gs2 vs2 G2 bm D q) := by
  obtain ⟨i, hi⟩ : ∃ i, shd n (sl ++ nm) = i := ⟨_, rfl⟩
  have hil : i < n := by rw [← hi]; exact shd_lt hn0 _
  have hlen := hf.len i hil
  have hks : (sl ++ nm).size ≤ 3000 := by rw [sl_size]; omega
  -- whatever the Get leaves
  have yes : ∀ (x : L.Pay) (l1 : L.PL) (ok : Bool), L.GetIs r (Ls2 i) (sl ++ nm) l1 x ok → (ok = false ∨ x.ep ≤ ep) → (l1.map (·.1)).Nodup → l1.length = (Ls2 i).length → (∀ p, p ∈ l1 → p ∈ Ls2 i) →
      Calls Try.prog 44 #[.pointer (some ⟨g2, 0, none⟩), .int .i64 ep, .string (sl ++ nm), .slice A0 1 c1] w (LKeep w0 n r g gs hits misses vs G V Ls g2 gs2 vs2 G2 bm D q) := by
    intro x l1 ok hg hle hnd hl1 hm1
    have hput : ∀ A c, ∃ (l' : L.PL) (gone : ByteArray) (is : Bool), L.PutIs r l1 (sl ++ nm) ⟨ep, A, 1, c⟩ l' gone is ∧ (l'.map (·.1)).Nodup ∧ (l'.length : Int) ≤ r ∧ l'.length ≤ l1.length + 1 ∧ ∀ p, p ∈ l' → p = (sl ++ nm, ⟨ep, A, 1, c⟩) ∨ (p ∈ l1 ∧ p.1 ≠ sl ++ nm) :=
      fun A c => L.putIs_any r l1 (sl ++ nm) ⟨ep, A, 1, c⟩ hnd (by omega) (by omega) hr1
    refine (L.keep_yes w0 w g2 gs2 n r 0 vs2 G2 V2 Ls2 h.lc hn0 hn1 (sl ++ nm) hks i hi x l1 ok ep hg hle (fun A c => (hput A c).choose) 1 (fun A c => ⟨_, _, (hput A c).choose_spec.choose_spec.choose_spec.1⟩) b A0 c1 [.string nm, .int .i64 ep] hrow (by simp [Value.oneCell']) (by omega)).mono ?_
    rintro e w' ⟨rfl, A, c, V2', hr', hd, _, hk'⟩
    obtain ⟨gone, is, hP, hnd', hlr, hl', hmem⟩ := (hput A c).choose_spec
    refine ⟨true, V2', _, rfl, h.byL hil hk' hd (fun j hj p hp => ?_), ⟨fun j hj => ?_, fun j hj => ?_⟩⟩
    · by_cases e : j = i
      · subst e
        rw [up_same] at hp
        rcases hmem p hp with rfl | ⟨hp, _⟩
        · exact .inr ⟨rfl, nm, row_mono hr' h.lc.below.size⟩
        · exact .inl (hm1 p hp)
      · rw [up_other _ _ _ e] at hp; exact .inl hp
    · by_cases e : j = i
      · subst e; rw [up_same]; exact hnd'
      · rw [up_other _ _ _ e]; exact hf.nd j hj
    · by_cases e : j = i
      · subst e; rw [up_same]; exact ⟨hlr, Nat.le_trans hl' (by omega)⟩
      · rw [up_other _ _ _ e]; exact ⟨(hf.len j hj).1, by have := (hf.len j hj).2; omega⟩
  by_cases hk : sl ++ nm ∈ (Ls2 i).map (·.1)
  · obtain ⟨p, hp, hpk⟩ := List.mem_map.1 hk
    obtain ⟨pk, x⟩ := p
    simp only at hpk
    subst hpk
    have hg := L.getIs_hit r (Ls2 i) (sl ++ nm) x (hf.nd i hil) (by omega) hp
    have hl1 : (L.useL (sl ++ nm) x (Ls2 i)).length = (Ls2 i).length := L.len_use_hit (Ls2 i) (sl ++ nm, x) (hf.nd i hil) (by rw [keyAt_lt]; exact hk)
    by_cases hep : ep < x.ep
    · refine (L.keep_no w0 w g2 gs2 n r 0 vs2 G2 V2 Ls2 h.lc hn0 hn1 (sl ++ nm) hks i hi x ep _ _ hg hep).mono ?_
      rintro e w' ⟨rfl, hd, hk'⟩
      exact ⟨false, V2, _, rfl, h.byL hil hk' hd (fun j hj q hq => .inl (up_mem (useL_memL (sl ++ nm) x _ hp) j q hq)), (hf.use i hil _ x hp).mono (by omega)⟩
    · exact yes x _ true hg (.inr (by omega)) (L.useL_nodup _ _ _ (hf.nd i hil)) hl1 (useL_memL _ _ _ hp)
  · exact yes _ _ false (L.getIs_not r (Ls2 i) (sl ++ nm) (by omega) hk) (.inl rfl) (hf.nd i hil) rfl (fun _ h => h)

/-- What a Keep among the names comes to. -/
def EKeep (w0 : World) (n : Nat) (r : Int) (g gs : Nat) (hits misses : Int) (vs : Value) (G : Nat → Nat) (Ls : Nat → E.PL) (g2 gs2 : Nat) (vs2 : Value) (G2 : Nat → Nat) (V2 : Nat → Value) (Ls2 : Nat → L.PL) (bm : Nat) (D : DataW Int) (q : Nat) (nm : ByteArray) (ep : Int) (ga : Nat) (act : Array Value) (e : Ending) (w' : World) : Prop :=
  ∃ (b : Bool) (V' : Nat → Value) (Ls' : Nat → E.PL), e = .returned (.bool b) ∧ Est w0 w' n r g gs hits misses vs G V' Ls' g2 gs2 vs2 G2 V2 Ls2 bm D ∧ EFit n r (q + 1) Ls' (if b then D.put (keyS nm) (.held ep) else D) ∧
    (b = false → ∃ x, (sl ++ nm, x) ∈ Ls (shd n (sl ++ nm)) ∧ ep < x.ep) ∧ Blk w' ga 67 act

theorem est_keep (h : Est w0 w n r g gs hits misses vs G V Ls g2 gs2 vs2 G2 V2 Ls2 bm D) (hf : EFit n r q Ls D) (hq : q ≤ 1000) (hr1 : 1 ≤ r) (hn0 : 0 < n) (hn1 : n ≤ 256) (nm : ByteArray) (hnm : nm.size ≤ 64) (ep : Int) (ga : Nat) (act : Array Value) (ha : Blk w ga 67 act) :
    Calls Try.prog 45 #[.pointer (some ⟨g, 0, none⟩), .string sl, .string nm, .agg #[.int .i64 ep, .bool false, .int .i64 0, .int .i64 0, .int .i64 0, .slice none 0 0, .string nm]] w (EKeep w0 n r g gs hits misses vs G Ls g2 gs2 vs2 G2 V2 Ls2 bm D q nm ep ga act) := by
  obtain ⟨i, hi⟩ : ∃ i, shd n (sl ++ nm) = i := ⟨_, rfl⟩
  have hil : i < n := by rw [← hi]; exact shd_lt hn0 _
  have hlen := hf.len i hil
  have hks : (sl ++ nm).size ≤ 3000 := by rw [sl_size]; omega
  have hD : IsMap D := (h.map.tidy law9).isMap
  have yes : ∀ (x : E.Pay) (l1 : E.PL) (ok : Bool), E.GetIs r (Ls i) (sl ++ nm) l1 x ok → (ok = false ∨ x.ep ≤ ep) → (l1.map (·.1)).Nodup → l1.length = (Ls i).length → (∀ p, p ∈ l1 → p ∈ Ls i) →
      Calls Try.prog 45 #[.pointer (some ⟨g, 0, none⟩), .string sl, .string nm, .agg #[.int .i64 ep, .bool false, .int .i64 0, .int .i64 0, .int .i64 0, .slice none 0 0, .string nm]] w (EKeep w0 n r g gs hits misses vs G Ls g2 gs2 vs2 G2 V2 Ls2 bm D q nm ep ga act) := by
    intro x l1 ok hg hle hnd hl1 hm1
    have hput : ∀ A c, ∃ (l' : E.PL) (gone : ByteArray) (is : Bool), E.PutIs r l1 (sl ++ nm) ⟨ep, false, 0, 0, 0, A, 0, c, nm⟩ l' gone is ∧ (l'.map (·.1)).Nodup ∧ (l'.length : Int) ≤ r ∧ l'.length ≤ l1.length + 1 ∧ ∀ p, p ∈ l' → p = (sl ++ nm, ⟨ep, false, 0, 0, 0, A, 0, c, nm⟩) ∨ (p ∈ l1 ∧ p.1 ≠ sl ++ nm) :=
      fun A c => E.putIs_any r l1 (sl ++ nm) ⟨ep, false, 0, 0, 0, A, 0, c, nm⟩ hnd (by omega) (by omega) hr1
    refine (E.keep_yes w0 w g gs n r hits misses vs G V Ls h.dc hn0 hn1 sl nm (sl ++ nm) (by decide) (by omega) (chd_sl nm) hks i hi x ⟨ep, false, 0, 0, 0, none, 0, 0, nm⟩ l1 ok hg hle (fun A c => (hput A c).choose) (fun A c => ⟨_, _, (hput A c).choose_spec.choose_spec.choose_spec.1⟩) w0.heap.size [] ⟨rfl, .inl ⟨rfl, rfl⟩⟩ (by simp) (by simp)).mono ?_
    rintro e w' ⟨rfl, A, c, V', hr', hd, _, hk'⟩
    obtain ⟨gone, is, hP, hnd', hlr, hl', hmem⟩ := (hput A c).choose_spec
    refine ⟨true, V', _, rfl, h.byE hil hk' hd (fun j hj p hp => ?_), ⟨fun j hj => ?_, fun j hj => ?_, fun j hj p hp => ?_⟩, (fun h => by cases h), ha.keep hk' (Dc.apartBlk h.dc hil ha (by decide) (by decide) (by decide))⟩
    · by_cases e : j = i
      · subst e
        rw [up_same] at hp
        rcases hmem p hp with rfl | ⟨hp, _⟩
        · exact .inr ⟨rfl, row_mono hr' h.dc.below.size⟩
        · exact .inl (hm1 p hp)
      · rw [up_other _ _ _ e] at hp; exact .inl hp
    · by_cases e : j = i
      · subst e; rw [up_same]; exact hnd'
      · rw [up_other _ _ _ e]; exact hf.nd j hj
    · by_cases e : j = i
      · subst e; rw [up_same]; exact ⟨hlr, Nat.le_trans hl' (by omega)⟩
      · rw [up_other _ _ _ e]; exact ⟨(hf.len j hj).1, by have := (hf.len j hj).2; omega⟩
    · -- an entry of another name, and the new one
      have old : ∀ p, p ∈ Ls j → p.1 ≠ sl ++ nm → p.1 = sl ++ p.2.tg ∧ shd n p.1 = j ∧ Maps.has (D.put (keyS nm) (.held ep)) (keyS p.2.tg) = true ∧ atK (D.put (keyS nm) (.held ep)) (keyS p.2.tg) 0 = p.2.ep := by
        intro p hp hne
        obtain ⟨e1, e2, e3, e4⟩ := hf.ent j hj p hp
        have hne' : keyS p.2.tg ≠ keyS nm := by rw [Ne, L.keyS_inj]; intro e; exact hne (by rw [e1, e])
        exact ⟨e1, e2, by rw [has_put_other hne']; exact e3, by rw [atK_put_other hne']; exact e4⟩
      simp only [if_true]
      by_cases e : j = i
      · subst e
        rw [up_same] at hp
        rcases hmem p hp with rfl | ⟨hp, hne⟩
        · exact ⟨rfl, hi, has_put_same hD (L.isKey_S _) _, atK_put_same hD (L.isKey_S _) _ _⟩
        · exact old p (hm1 p hp) hne
      · rw [up_other _ _ _ e] at hp
        exact old p hp (fun h' => e (by have := (hf.ent j hj p hp).2.1; rw [h', hi] at this; exact this.symm))
  by_cases hk : sl ++ nm ∈ (Ls i).map (·.1)
  · obtain ⟨p, hp, hpk⟩ := List.mem_map.1 hk
    obtain ⟨pk, x⟩ := p
    simp only at hpk
    subst hpk
    have hg := E.getIs_hit r (Ls i) (sl ++ nm) x (hf.nd i hil) (by omega) hp
    have hl1 : (E.useL (sl ++ nm) x (Ls i)).length = (Ls i).length := E.len_use_hit (Ls i) (sl ++ nm, x) (hf.nd i hil) (by rw [keyAt_lt]; exact hk)
    by_cases hep : ep < x.ep
    · refine (E.keep_no w0 w g gs n r hits misses vs G V Ls h.dc hn0 hn1 sl nm (sl ++ nm) (by decide) (by omega) (chd_sl nm) hks i hi x ⟨ep, false, 0, 0, 0, none, 0, 0, nm⟩ _ hg hep).mono ?_
      rintro e w' ⟨rfl, hd, hk'⟩
      exact ⟨false, V, _, rfl, h.byE hil hk' hd (fun j hj q hq => .inl (up_mem (useL_mem (sl ++ nm) x _ hp) j q hq)), (hf.use i hil _ x hp).mono (by omega), fun _ => ⟨x, by rw [hi]; exact hp, hep⟩, ha.keep hk' (Dc.apartBlk h.dc hil ha (by decide) (by decide) (by decide))⟩
    · exact yes x _ true hg (.inr (by omega)) (E.useL_nodup _ _ _ (hf.nd i hil)) hl1 (useL_mem _ _ _ hp)
  · exact yes _ _ false (E.getIs_not r (Ls i) (sl ++ nm) (by omega) hk) (.inl rfl) (hf.nd i hil) rfl (fun _ h => h)
end
end Go.Proofs.Ytiopmehaghcpfaa.Ep
