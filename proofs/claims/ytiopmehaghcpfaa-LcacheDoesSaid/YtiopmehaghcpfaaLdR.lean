/- LcacheDoes: the calls on its state. Printed by mac.py from LdR.src. -/
import Derived.Test.YtiopmehaghcpfaaLdQ
namespace Go.Proofs.Ytiopmehaghcpfaa.Ld
open Go.Proofs.Ytiopmehaghcpfaa
open Go.RowKit Go.Maps
set_option linter.unusedSimpArgs false
set_option linter.unusedVariables false

section
variable {w0 w w' : World} {n : Nat} {r : Int} {g gs : Nat} {made : Int} {vs : Value} {G : Nat → Nat} {V : Nat → Value} {Ls : Nat → L.PL} {bm : Nat} {D : DataW AV} {M : ByteArray → Int} {q i : Nat} {k : ByteArray}
theorem same_mem (hf : LFit n r q Ls D M) (hil : i < n) (k : ByteArray) : ∀ j, j < n → ∀ p ∈ up Ls i (touch k (Ls i)) j, (p ∈ Ls j ∧ M p.1 = M p.1) ∨ LRow w' w0.heap.size M p :=
  fun j _ p hp => .inl ⟨Ep.up_mem (touch_mem (hf.nd i hil)) j p hp, rfl⟩

def LHit (w0 : World) (n : Nat) (r : Int) (g gs : Nat) (made : Int) (vs : Value) (G : Nat → Nat) (V : Nat → Value) (Ls : Nat → L.PL) (bm : Nat) (D : DataW AV) (M : ByteArray → Int) (i m : Nat) (mn : Int) (res : Value → Value) (w : World) (e : Ending) (w' : World) : Prop :=
  ∃ A c, e = .returned (res (.slice A m c)) ∧ w'.ownsRow w.heap.size 83 2 (.slice A m c) m (L.entC mn m) ∧ Lst w0 w' n r g gs made vs G V Ls bm D M ∧ L.KeepC g G V i w w'
theorem lst_hit (h : Lst w0 w n r g gs made vs G V Ls bm D M) (hf : LFit n r q Ls D M) (hq : q ≤ 1000) (hn0 : 0 < n) (hn1 : n ≤ 256) (k : ByteArray) (hks : k.size ≤ 3000) (hi : shd n k = i) (x : L.Pay) (hx : (k, x) ∈ Ls i) :
    Calls Try.prog 43 #[.pointer (some ⟨g, 0, none⟩), .int .i64 x.ep, .string k] w (LHit w0 n r g gs made vs G V (up Ls i (touch k (Ls i))) bm D M i x.n (M k) (fun v => .tuple #[v, .bool true]) w) := by
  have hil : i < n := by rw [← hi]; exact shd_lt hn0 _
  have hlen := (hf.len i hil).2
  have hg := L.getIs_hit r (Ls i) k x (hf.nd i hil) (by omega) hx
  rw [← touch_hit (hf.nd i hil) hx] at hg
  obtain ⟨a, b, c, hrow⟩ := h.lrow i hil _ hx
  refine (L.look_hit w0 w g gs n r made vs G V Ls h.lc hn0 hn1 k hks i hi x _ hg w0.heap.size _ hrow (L.one_N _ _) (by simp only at c; omega)).mono ?_
  rintro e w' ⟨A, c', rfl, hr, hd, hk⟩
  exact ⟨A, c', rfl, hr, h.byL hil hk hd (same_mem hf hil k), hk⟩
theorem lst_take_hit (h : Lst w0 w n r g gs made vs G V Ls bm D M) (hf : LFit n r q Ls D M) (hq : q ≤ 1000) (hn0 : 0 < n) (hn1 : n ≤ 256) (k : ByteArray) (hks : k.size ≤ 3000) (hi : shd n k = i) (x : L.Pay) (hx : (k, x) ∈ Ls i) (fv : Value) :
    Calls Try.prog 48 #[.pointer (some ⟨g, 0, none⟩), .int .i64 x.ep, .string k, fv] w (LHit w0 n r g gs made vs G V (up Ls i (touch k (Ls i))) bm D M i x.n (M k) (fun v => v) w) := by
  have hil : i < n := by rw [← hi]; exact shd_lt hn0 _
  have hlen := (hf.len i hil).2
  have hg := L.getIs_hit r (Ls i) k x (hf.nd i hil) (by omega) hx
  rw [← touch_hit (hf.nd i hil) hx] at hg
  obtain ⟨a, b, c, hrow⟩ := h.lrow i hil _ hx
  refine (L.take_hit w0 w g gs n r made vs G V Ls h.lc hn0 hn1 k hks i hi x _ hg w0.heap.size _ hrow (L.one_N _ _) (by simp only at c; omega) fv).mono ?_
  rintro e w' ⟨A, c', rfl, hr, hd, hk⟩
  exact ⟨A, c', rfl, hr, h.byL hil hk hd (same_mem hf hil k), hk⟩

def LMiss (w0 : World) (n : Nat) (r : Int) (g gs : Nat) (made : Int) (vs : Value) (G : Nat → Nat) (V : Nat → Value) (Ls : Nat → L.PL) (bm : Nat) (D : DataW AV) (M : ByteArray → Int) (i : Nat) (w : World) (e : Ending) (w' : World) : Prop :=
  e = .returned (.tuple #[.slice none 0 0, .bool false]) ∧ Lst w0 w' n r g gs made vs G V Ls bm D M ∧ L.KeepC g G V i w w'
theorem lst_miss (h : Lst w0 w n r g gs made vs G V Ls bm D M) (hf : LFit n r q Ls D M) (hq : q ≤ 1000) (hn0 : 0 < n) (hn1 : n ≤ 256) (k : ByteArray) (hks : k.size ≤ 3000) (hi : shd n k = i) (ep : Int) (hx : ∀ x, (k, x) ∈ Ls i → x.ep ≠ ep) :
    Calls Try.prog 43 #[.pointer (some ⟨g, 0, none⟩), .int .i64 ep, .string k] w (LMiss w0 n r g gs made vs G V (up Ls i (touch k (Ls i))) bm D M i w) := by
  have hil : i < n := by rw [← hi]; exact shd_lt hn0 _
  have hlen := (hf.len i hil).2
  obtain ⟨x, ok, hg, _, h1', h2'⟩ := get_touch (r := r) (k := k) (hf.nd i hil) (by omega)
  refine (L.look_miss w0 w g gs n r made vs G V Ls h.lc hn0 hn1 k hks i hi x _ ok ep hg (by cases ok; exact .inl rfl; exact .inr (hx x (h1' rfl)))).mono ?_
  rintro e w' ⟨rfl, hd, hk⟩
  exact ⟨rfl, h.byL hil hk hd (same_mem hf hil k), hk⟩

/-- What is remembered behind a Keep that is taken. -/
theorem put_mem (hf : LFit n r q Ls D M) (hil : i < n) (k : ByteArray) (hi : shd n k = i) (y : L.Pay) (mn : Int) (hy : LRow w' w0.heap.size (upM M k mn) (k, y)) : ∀ j, j < n → ∀ p ∈ up Ls i (putL r k y (touch k (Ls i))) j, (p ∈ Ls j ∧ upM M k mn p.1 = M p.1) ∨ LRow w' w0.heap.size (upM M k mn) p := by
  intro j hj p hp
  by_cases e : j = i
  · subst e
    rw [up_same] at hp
    rcases putL_mem hp with rfl | ⟨hp, hne⟩
    · exact .inr hy
    · exact .inl ⟨touch_mem (hf.nd j hj) p hp, upM_other hne⟩
  · rw [up_other _ _ _ e] at hp
    exact .inl ⟨hp, upM_other (fun h' => e (by have := (hf.ent j hj p hp).1; rw [h', hi] at this; exact this.symm))⟩

/-- A Keep, whatever comes of it. -/
def LKeep (w0 : World) (n : Nat) (r : Int) (g gs : Nat) (made : Int) (vs : Value) (G : Nat → Nat) (V : Nat → Value) (Ls : Nat → L.PL) (bm : Nat) (D : DataW AV) (M : ByteArray → Int) (i : Nat) (k : ByteArray) (ep mn : Int) (m : Nat) (w : World) (e : Ending) (w' : World) : Prop :=
  ∃ (bb : Bool) (V' : Nat → Value) (Ls' : Nat → L.PL), e = .returned (.bool bb) ∧ Lst w0 w' n r g gs made vs G V' Ls' bm D (if bb then upM M k mn else M) ∧ L.KeepC g G V i w w' ∧
    (bb = true → (∀ x, (k, x) ∈ Ls i → x.ep ≤ ep) ∧ ∃ A c, Ls' = up Ls i (putL r k ⟨ep, A, m, c⟩ (touch k (Ls i))) ∧ ∀ j, (Value.slice A m c).ownBlock = some j → w.heap.size ≤ j) ∧ (bb = false → (∃ x, (k, x) ∈ Ls i ∧ ep < x.ep) ∧ Ls' = up Ls i (touch k (Ls i)))
theorem lst_keep (h : Lst w0 w n r g gs made vs G V Ls bm D M) (hf : LFit n r q Ls D M) (hq : q ≤ 1000) (hr1 : 1 ≤ r) (hn0 : 0 < n) (hn1 : n ≤ 256) (k : ByteArray) (hks : k.size ≤ 3000) (hi : shd n k = i) (ep mn : Int) (hm0 : 0 ≤ mn) (hm1 : mn ≤ 255) (m : Nat) (hm : mn % 5 = (m : Int)) (b : Nat) (A0 : Option Addr) (c0 : Nat) (hrow : w.ownsRow b 83 2 (.slice A0 m c0) m (L.entC mn m)) :
    Calls Try.prog 44 #[.pointer (some ⟨g, 0, none⟩), .int .i64 ep, .string k, .slice A0 m c0] w (LKeep w0 n r g gs made vs G V Ls bm D M i k ep mn m w) := by
  have hil : i < n := by rw [← hi]; exact shd_lt hn0 _
  have hlen := hf.len i hil
  have htl := touch_length (k := k) (hf.nd i hil)
  obtain ⟨x, ok, hg, _, h1', h2'⟩ := get_touch (r := r) (k := k) (hf.nd i hil) (by omega)
  by_cases hno : ok = true ∧ ep < x.ep
  · obtain ⟨rfl, hlt⟩ := hno
    refine (L.keep_no w0 w g gs n r made vs G V Ls h.lc hn0 hn1 k hks i hi x ep _ _ hg hlt).mono ?_
    rintro e w' ⟨rfl, hd, hk⟩
    exact ⟨false, V, _, rfl, h.byL hil hk hd (same_mem hf hil k), hk, (fun h => by cases h), fun _ => ⟨⟨x, h1' rfl, hlt⟩, rfl⟩⟩
  · have hle : ok = false ∨ x.ep ≤ ep := by
      cases ok
      · exact .inl rfl
      · exact .inr (by have : ¬ ep < x.ep := fun h => hno ⟨rfl, h⟩; omega)
    have hall : ∀ y, (k, y) ∈ Ls i → y.ep ≤ ep := fun y hy => by
      cases ok
      · exact absurd (List.mem_map_of_mem (f := (·.1)) hy) (h2' rfl)
      · have := L.getIs_hit.key_one (Ls i) (hf.nd i hil) hy (h1' rfl) rfl
        injection this with _ hxx
        rw [hxx]
        rcases hle with h | h
        · cases h
        · exact h
    refine (L.keep_yes w0 w g gs n r made vs G V Ls h.lc hn0 hn1 k hks i hi x _ ok ep hg hle (fun A c => putL r k ⟨ep, A, m, c⟩ (touch k (Ls i))) m (fun A c => putL_is r _ k _ (touch_nodup (hf.nd i hil)) (by omega) (by omega) hr1) b A0 c0 (L.entC mn m) hrow (L.one_N _ _) (by omega)).mono ?_
    rintro e w' ⟨rfl, A, c, V', hr, hd, _, hk⟩
    refine ⟨true, V', _, rfl, h.byL hil hk hd (put_mem hf hil k hi _ mn ?_), hk, fun _ => ⟨hall, A, c, rfl, fun j hj => row_base hr j hj.symm⟩, (fun h => by cases h)⟩
    unfold LRow
    rw [upM_same]
    exact ⟨hm0, hm1, hm, row_mono hr h.lc.below.size⟩
end
end Go.Proofs.Ytiopmehaghcpfaa.Ld
