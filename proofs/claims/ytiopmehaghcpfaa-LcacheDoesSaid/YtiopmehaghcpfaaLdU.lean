/- LcacheDoes: Take that makes. Printed by mac.py from LdU.src. -/
import Derived.Test.YtiopmehaghcpfaaLdR
namespace Go.Proofs.Ytiopmehaghcpfaa.Ld
open Go.Proofs.Ytiopmehaghcpfaa
open Go.RowKit Go.Maps
set_option linter.unusedSimpArgs false
set_option linter.unusedVariables false

section
variable {w0 w w' : World} {n : Nat} {r : Int} {g gs : Nat} {made : Int} {vs : Value} {G : Nat → Nat} {V : Nat → Value} {Ls : Nat → L.PL} {bm : Nat} {D : DataW AV} {M : ByteArray → Int} {q i : Nat} {k : ByteArray}
/-- The pairs behind a call of the cache. -/
theorem PSt.byL {R cap m : Nat} {PV : Nat → Value} {Lp : Nat → L.PL} (hp : PSt w w0.heap.size R cap m PV Lp) (h : L.Lc w0 w g gs n r made vs G V Ls) (hi : i < n) (hk : L.KeepC g G V i w w') : PSt w' w0.heap.size R cap m PV Lp :=
  hp.keep hk (Ep.Lc.apartRow h hi hp.row (by decide) (by decide) (by decide) R rfl) (fun j hj k hk' => Ep.Lc.apartRow h hi (hp.prs j hj) (by decide) (by decide) (by decide) k hk')
theorem PSt.byMap {R cap m : Nat} {PV : Nat → Value} {Lp : Nat → L.PL} (hp : PSt w w0.heap.size R cap m PV Lp) (h : Lst w0 w n r g gs made vs G V Ls bm D M) (ht : w.mapTurned w' bm) : PSt w' w0.heap.size R cap m PV Lp :=
  hp.keep ((Keep.refl (fun k => k = bm) w).turned ht (fun _ => rfl)) (fun e => map_ne_rowA h.map hp.row R rfl e) (fun j hj k hk' e => map_ne_rowA h.map (hp.prs j hj) k hk' e)

/-- A Take that makes: what is answered is its own, and the cache remembers it, or not. -/
def LTake (w0 : World) (n : Nat) (r : Int) (g gs : Nat) (made : Int) (vs : Value) (G : Nat → Nat) (V : Nat → Value) (Ls : Nat → L.PL) (bm : Nat) (D : DataW AV) (M : ByteArray → Int) (i : Nat) (k : ByteArray) (ep mn : Int) (m R cap np : Nat) (PV : Nat → Value) (Lp : Nat → L.PL) (w : World) (e : Ending) (w' : World) : Prop :=
  ∃ (bb : Bool) (A0 : Option Addr) (c0 : Nat) (V' : Nat → Value) (Ls' : Nat → L.PL), e = .returned (.slice A0 m c0) ∧ w'.ownsRow w.heap.size 83 2 (.slice A0 m c0) m (L.entC mn m) ∧ Lst w0 w' n r g gs (made + 1) vs G V' Ls' bm D (if bb then upM M k mn else M) ∧
    (bb = true → (∀ x, (k, x) ∈ Ls i → x.ep ≤ ep) ∧ ∃ A c, Ls' = up Ls i (putL r k ⟨ep, A, m, c⟩ (touch k (Ls i)))) ∧ (bb = false → (∃ x, (k, x) ∈ Ls i ∧ ep < x.ep) ∧ Ls' = up Ls i (touch k (Ls i))) ∧
    (∀ j, j < n → ∀ p ∈ Ls' j, ∀ b, (Value.slice p.2.A p.2.n p.2.c).ownBlock = some b → (Value.slice A0 m c0).ownBlock ≠ some b) ∧
    (∀ b t cs, Blk w b t cs → t ≠ 143 → t ≠ 166 → t ≠ 171 → Blk w' b t cs) ∧ PSt w' w0.heap.size R cap np PV Lp

set_option maxHeartbeats 4000000 in
theorem lst_take (h : Lst w0 w n r g gs made vs G V Ls bm D M) (hf : LFit n r q Ls D M) (hq : q ≤ 1000) (hr1 : 1 ≤ r) (hn0 : 0 < n) (hn1 : n ≤ 256) (h0 : 0 ≤ made) (h1 : made ≤ 1000000) (k : ByteArray) (hks : k.size ≤ 3000) (hi : shd n k = i) (ga : Nat) (kd d ep mn : Int) (hm0 : 0 ≤ mn) (hm1 : mn ≤ 255) (m : Nat) (hm : mn % 5 = (m : Int))
    (hx : ∀ x, (k, x) ∈ Ls i → x.ep ≠ ep) (ha : Blk w ga 109 #[.int .u8 kd, .int .u8 d, .int .i64 ep, .int .u8 mn]) {R cap np : Nat} {PV : Nat → Value} {Lp : Nat → L.PL} (hp : PSt w w0.heap.size R cap np PV Lp) :
    Calls Try.prog 48 #[.pointer (some ⟨g, 0, none⟩), .int .i64 ep, .string k, .func (.func 56) #[] #[.pointer (some ⟨ga, 0, none⟩)]] w (LTake w0 n r g gs made vs G V Ls bm D M i k ep mn m R cap np PV Lp w) := by
  have hil : i < n := by rw [← hi]; exact shd_lt hn0 _
  have hlen := hf.len i hil
  have htl := touch_length (k := k) (hf.nd i hil)
  obtain ⟨x, ok, hg, hg2, h1', h2'⟩ := get_touch (r := r) (k := k) (hf.nd i hil) (by omega)
  have hclo : ∀ W, L.KeepC g G V i w W → L.Lc w0 W g gs n r (made + 1) vs G V (up Ls i (touch k (Ls i))) → Calls Try.prog 56 #[.pointer (some ⟨ga, 0, none⟩)] W (L.MakesIs w0 g gs n r (made + 1) vs G V (up Ls i (touch k (Ls i))) m (L.entC mn m) (fun W W' => Below W.heap.size W W' ∧ L.Lc w0 W g gs n r (made + 1) vs G V (up Ls i (touch k (Ls i))) ∧ L.Lc w0 W' g gs n r (made + 1) vs G V (up Ls i (touch k (Ls i)))) W) :=
    fun W hkW hlW => (L.does_closure w0 W g gs n r (made + 1) vs G V _ hlW ga kd d ep mn hm0 hm1 (ha.keep hkW (Ep.Lc.apartBlk h.lc hil ha (by decide) (by decide) (by decide))) m hm).mono fun e W' hh => by
      obtain ⟨A, c, he, hr, hl, hb⟩ := hh
      exact ⟨A, c, he, hr, hl, hb, hlW, hl⟩
  have hrows : ∀ j, j < n → ∀ p ∈ Ls j, ∀ b, (Value.slice p.2.A p.2.n p.2.c).ownBlock = some b → b < w.heap.size := fun j hj p hpm b hb => row_lt (h.lrow j hj p hpm).2.2.2 b hb.symm
  by_cases hno : ok = true ∧ ep < x.ep
  · obtain ⟨rfl, hlt⟩ := hno
    refine (L.take_no w0 w g gs n r made vs G V Ls h.lc hn0 hn1 h0 h1 k hks i hi x _ _ ep hg hg2 hlt m (L.entC mn m) 56 _ _ (L.enter56 _) hclo).mono ?_
    rintro e w' ⟨A0, c0, W, W', rfl, hr, hd, k1, ⟨hb, hlW, hlW'⟩, k2⟩
    have hLW := h.byL (M' := M) hil k1 hlW (same_mem hf hil k)
    have hLW' := hLW.below hb
    have hf2 := hf.touch hil k
    refine ⟨false, A0, c0, V, _, rfl, row_mono hr k1.size, hLW'.byL (M' := M) hil k2 hd (fun j _ p hpm => .inl ⟨hpm, rfl⟩), (fun h => by cases h), fun _ => ⟨⟨x, h1' rfl, hlt⟩, rfl⟩, fun j hj p hpm b hb1 hb2 => ?_, fun b t cs hbk a1 a2 a3 => ?_, ?_⟩
    · have e1 := hrows j hj p (Ep.up_mem (touch_mem (hf.nd i hil)) j p hpm) b hb1
      have e2 := row_base hr b hb2.symm
      have := k1.size
      omega
    · exact ((hbk.keep k1 (Ep.Lc.apartBlk h.lc hil hbk a1 a2 a3)).keep (Keep.of_below (S := fun _ => False) hb) (by simp)).keep k2 (Ep.Lc.apartBlk hlW' hil ((hbk.keep k1 (Ep.Lc.apartBlk h.lc hil hbk a1 a2 a3)).keep (Keep.of_below (S := fun _ => False) hb) (by simp)) a1 a2 a3)
    · exact PSt.byL (PSt.below (PSt.byL hp h.lc hil k1) hb) hlW' hil k2
  · have hlt2 : ok = false ∨ x.ep < ep := by
      cases ok
      · exact .inl rfl
      · exact .inr (by have a1 : ¬ ep < x.ep := fun h => hno ⟨rfl, h⟩; have a2 := hx x (h1' rfl); omega)
    have hall : ∀ y, (k, y) ∈ Ls i → y.ep ≤ ep := fun y hy => by
      cases ok
      · exact absurd (List.mem_map_of_mem (f := (·.1)) hy) (h2' rfl)
      · have := L.getIs_hit.key_one (Ls i) (hf.nd i hil) hy (h1' rfl) rfl
        injection this with _ hxx
        rw [hxx]
        rcases hlt2 with h | h
        · cases h
        · omega
    refine (L.take_miss w0 w g gs n r made vs G V Ls h.lc hn0 hn1 h0 h1 k hks i hi x _ _ ok ep hg hg2 hlt2 (fun A c => putL r k ⟨ep, A, m, c⟩ (touch k (Ls i))) m (fun A c => putL_is r _ k _ (touch_nodup (hf.nd i hil)) (by omega) (by omega) hr1) (L.entC mn m) (L.one_N _ _) (by omega) 56 _ _ (fun W W' hh => hh.1.size) (L.enter56 _) hclo).mono ?_
    rintro e w' ⟨A0, c0, A, c, V', W, W', rfl, hr0, hr, hlt0, hd, _, k1, ⟨hb, hlW, hlW'⟩, k2⟩
    have hLW := h.byL (M' := M) hil k1 hlW (same_mem hf hil k)
    have hLW' := hLW.below hb
    have hWsz : w0.heap.size ≤ W'.heap.size := hlW'.below.size
    have hnew : LRow w' w0.heap.size (upM M k mn) (k, ⟨ep, A, m, c⟩) := by
      unfold LRow
      rw [upM_same]
      exact ⟨hm0, hm1, hm, row_mono hr hWsz⟩
    refine ⟨true, A0, c0, V', _, rfl, hr0, ?_, fun _ => ⟨hall, A, c, rfl⟩, (fun h => by cases h), fun j hj p hpm b hb1 hb2 => ?_, fun b t cs hbk a1 a2 a3 => ?_, ?_⟩
    · refine hLW'.byL (M' := upM M k mn) hil k2 hd (fun j hj p hpm => ?_)
      by_cases e : j = i
      · subst e
        rw [up_same] at hpm
        rcases putL_mem hpm with rfl | ⟨hpm, hne⟩
        · exact .inr hnew
        · exact .inl ⟨by rw [up_same]; exact hpm, upM_other hne⟩
      · rw [up_other _ _ _ e] at hpm
        exact .inl ⟨by rw [up_other _ _ _ e]; exact hpm, upM_other (fun h' => e (by have := (hf.ent j hj p hpm).1; rw [h', hi] at this; exact this.symm))⟩
    · have hbW := hlt0 b hb2
      by_cases e : j = i
      · subst e
        rw [up_same] at hpm
        rcases putL_mem hpm with rfl | ⟨hpm, hne⟩
        · have := row_base hr b hb1.symm
          omega
        · have e1 := hrows j hj p (touch_mem (hf.nd j hj) p hpm) b hb1
          have e2 := row_base hr0 b hb2.symm
          omega
      · rw [up_other _ _ _ e] at hpm
        have e1 := hrows j hj p hpm b hb1
        have e2 := row_base hr0 b hb2.symm
        omega
    · exact ((hbk.keep k1 (Ep.Lc.apartBlk h.lc hil hbk a1 a2 a3)).keep (Keep.of_below (S := fun _ => False) hb) (by simp)).keep k2 (Ep.Lc.apartBlk hlW' hil ((hbk.keep k1 (Ep.Lc.apartBlk h.lc hil hbk a1 a2 a3)).keep (Keep.of_below (S := fun _ => False) hb) (by simp)) a1 a2 a3)
    · exact PSt.byL (PSt.below (PSt.byL hp h.lc hil k1) hb) hlW' hil k2
end
end Go.Proofs.Ytiopmehaghcpfaa.Ld
