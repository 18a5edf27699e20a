/- LcacheOnce: its state. Printed by mac.py from OnceQ.src. -/
import Derived.Test.YtiopmehaghcpfaaSpk16
import Derived.Test.YtiopmehaghcpfaaDirP
namespace Go.Proofs.Ytiopmehaghcpfaa.L
open Go.Proofs.Ytiopmehaghcpfaa
open Go.RowKit Go.Maps
set_option linter.unusedSimpArgs false
set_option linter.unusedVariables false

theorem nodup_le {α : Type} [DecidableEq α] : ∀ (l S : List α), l.Nodup → (∀ x ∈ l, x ∈ S) → l.length ≤ S.length
  | [], S, _, _ => Nat.zero_le _
  | x :: t, S, hn, hs => by
    rw [List.nodup_cons] at hn
    have hx := hs x (by simp)
    have := nodup_le t (S.erase x) hn.2 (fun y hy => (List.mem_erase_of_ne (fun e => hn.1 (by rw [← e]; exact hy))).2 (hs y (by simp [hy])))
    rw [List.length_erase_of_mem hx] at this
    have hp := List.length_pos_of_mem hx
    rw [List.length_cons]
    omega
abbrev dirOf := E.dirOf
theorem dirOf_mod (d : Int) (m : Nat) (h : d % 4 = (m : Int)) : dirOf d = dirOf (m : Int) := by
  have h2 : (m : Int) % 4 = d % 4 := by omega
  unfold dirOf E.dirOf
  rw [h2]
theorem dirOf_inj {a b : Nat} (ha : a < 4) (hb : b < 4) (h : dirOf (a : Int) = dirOf (b : Int)) : a = b := by
  have : ∀ a b : Fin 4, dirOf ((a.val : Nat) : Int) = dirOf ((b.val : Nat) : Int) → a = b := by decide
  have := this ⟨a, ha⟩ ⟨b, hb⟩ h
  simpa using this
def dirs4 : List ByteArray := [dirOf 0, dirOf 1, dirOf 2, dirOf 3]
theorem mem_dirs4 (j : Nat) (h : j < 4) : dirOf (j : Int) ∈ dirs4 := by
  have : j = 0 ∨ j = 1 ∨ j = 2 ∨ j = 3 := by omega
  rcases this with rfl | rfl | rfl | rfl <;> simp [dirs4]

structure OFit (l : PL) (D : DataW Int) (ep : Int) : Prop where
  nd : (l.map (·.1)).Nodup
  ent : ∀ q ∈ l, q.2.ep = ep ∧ ∃ j : Nat, j < 4 ∧ q.1 = dirOf (j : Int) ∧ q.2.n = j
  has : ∀ k : ByteArray, Maps.has D (keyS k) = true ↔ k ∈ l.map (·.1)
  val : ∀ k : ByteArray, k ∈ l.map (·.1) → atK D (keyS k) 0 = 1
  size : Maps.size D = l.length
theorem OFit.nil (ep : Int) : OFit [] (.map []) ep := ⟨by simp, by simp, fun k => by simp [Maps.has], by simp, by simp [Maps.size]⟩
theorem OFit.keys {l : PL} {D : DataW Int} {ep : Int} (h : OFit l D ep) : ∀ k ∈ l.map (·.1), k ∈ dirs4 := by
  intro k hk
  obtain ⟨q, hq, rfl⟩ := List.mem_map.1 hk
  obtain ⟨_, j, hj, e, _⟩ := h.ent q hq
  rw [e]
  exact mem_dirs4 j hj
theorem OFit.len {l : PL} {D : DataW Int} {ep : Int} (h : OFit l D ep) : l.length ≤ 4 := by
  have := nodup_le _ dirs4 h.nd h.keys
  simpa [dirs4] using this
theorem OFit.room {l : PL} {D : DataW Int} {ep : Int} (h : OFit l D ep) (j : Nat) (hj : j < 4) (hk : dirOf (j : Int) ∉ l.map (·.1)) : l.length < 4 := by
  have := nodup_le (dirOf (j : Int) :: l.map (·.1)) dirs4 (List.nodup_cons.2 ⟨hk, h.nd⟩) (by
    intro k hm
    rcases List.mem_cons.1 hm with rfl | hm
    · exact mem_dirs4 j hj
    · exact h.keys k hm)
  simp [dirs4] at this
  omega
theorem OFit.use {l : PL} {D : DataW Int} {ep : Int} (h : OFit l D ep) (k : ByteArray) (x : Pay) (hm : (k, x) ∈ l) : OFit (useL k x l) D ep := by
  have hk : k ∈ l.map (·.1) := List.mem_map_of_mem hm
  have hmem : ∀ q, q ∈ useL k x l → q ∈ l := fun q hq => by
    rcases (mem_useL k x l q).1 hq with rfl | h
    · exact hm
    · exact h.1
  have hks : ∀ k', k' ∈ (useL k x l).map (·.1) ↔ k' ∈ l.map (·.1) := by
    intro k'
    constructor
    · intro h'
      obtain ⟨q, hq, rfl⟩ := List.mem_map.1 h'
      exact List.mem_map_of_mem (hmem q hq)
    · intro h'
      obtain ⟨q, hq, rfl⟩ := List.mem_map.1 h'
      by_cases e : q.1 = k
      · rw [e]; exact List.mem_map_of_mem (f := (·.1)) ((mem_useL k x l (k, x)).2 (.inl rfl))
      · exact List.mem_map_of_mem ((mem_useL k x l q).2 (.inr ⟨hq, e⟩))
  refine ⟨useL_nodup k x l h.nd, fun q hq => h.ent q (hmem q hq), fun k' => ?_, fun k' hk' => h.val k' ((hks k').1 hk'), ?_⟩
  · rw [h.has]
    exact (hks k').symm
  · rw [h.size]
    exact (len_use_hit l (k, x) h.nd (by rw [keyAt_lt]; exact hk)).symm
theorem OFit.add {l : PL} {D : DataW Int} {ep : Int} (h : OFit l D ep) (hD : IsMap D) (j : Nat) (hj : j < 4) (hk : dirOf (j : Int) ∉ l.map (·.1)) (A : Option Addr) (c : Nat) (hs : Maps.size (D.put (keyS (dirOf (j : Int))) (.held 1)) = Maps.size D + 1) :
    OFit (useL (dirOf (j : Int)) ⟨ep, A, j, c⟩ l) (D.put (keyS (dirOf (j : Int))) (.held 1)) ep := by
  have e : useL (dirOf (j : Int)) ⟨ep, A, j, c⟩ l = (dirOf (j : Int), ⟨ep, A, j, c⟩) :: l := by unfold useL; rw [filter_none _ l hk]
  rw [e]
  refine ⟨?_, ?_, ?_, ?_, ?_⟩
  · rw [List.map_cons, List.nodup_cons]; exact ⟨hk, h.nd⟩
  · intro q hq
    rcases List.mem_cons.1 hq with rfl | hq
    · exact ⟨rfl, j, hj, rfl, rfl⟩
    · exact h.ent q hq
  · intro k
    by_cases ek : k = dirOf (j : Int)
    · subst ek
      rw [has_put_same hD (isKey_S _)]
      simp
    · rw [has_put_other (by rw [Ne, keyS_inj]; exact ek), h.has]
      simp [ek]
  · intro k hk'
    by_cases ek : k = dirOf (j : Int)
    · subst ek
      exact atK_put_same hD (isKey_S _) _ _
    · rw [atK_put_other (by rw [Ne, keyS_inj]; exact ek)]
      refine h.val k ?_
      rw [List.map_cons, List.mem_cons] at hk'
      exact hk'.resolve_left ek
  · rw [hs, h.size, List.length_cons]

structure Ost (w0 w : World) (g gs : Nat) (made : Int) (vs : Value) (G : Nat → Nat) (V : Nat → Value) (Ls : Nat → PL) (gm bm : Nat) (D : DataW Int) (ep : Int) : Prop where
  lc : Lc w0 w g gs 1 4 made vs G V Ls
  ms : Mst w gm bm D
  fit : OFit (Ls 0) D ep
  rows : ∀ q ∈ Ls 0, w.ownsRow w0.heap.size 83 2 (.slice q.2.A q.2.n q.2.c) q.2.n (entC (q.2.n : Int) q.2.n)
  made_eq : made = (Ls 0).length
  hb : w0.heap.size ≤ bm
theorem Ost.below {w0 w w' : World} {g gs : Nat} {made : Int} {vs : Value} {G : Nat → Nat} {V : Nat → Value} {Ls : Nat → PL} {gm bm : Nat} {D : DataW Int} {ep : Int} (h : Ost w0 w g gs made vs G V Ls gm bm D ep) (hb : Below w.heap.size w w') : Ost w0 w' g gs made vs G V Ls gm bm D ep :=
  ⟨h.lc.grow hb, h.ms.below hb, h.fit, fun q hq => row_below (h.rows q hq) hb, h.made_eq, h.hb⟩

theorem shd_one (k : ByteArray) : shd 1 k = 0 := by unfold shd; exact Nat.mod_one _

def OTake (w0 : World) (g gs : Nat) (vs : Value) (G : Nat → Nat) (gm bm : Nat) (ep : Int) (gd gb m : Nat) (d : Int) (dir : ByteArray) (e : Ending) (w' : World) : Prop :=
  ∃ (A : Option Addr) (c : Nat) (made' : Int) (V' : Nat → Value) (Ls' : Nat → PL) (D' : DataW Int), e = .returned (.slice A m c) ∧ Ost w0 w' g gs made' vs G V' Ls' gm bm D' ep ∧ atK D' (keyS dir) 0 = 1 ∧ Blk w' gd 9 #[.string dir] ∧ Blk w' gb 5 #[.int .u8 d]

theorem ost_take {w0 w : World} {g gs : Nat} {made : Int} {vs : Value} {G : Nat → Nat} {V : Nat → Value} {Ls : Nat → PL} {gm bm : Nat} {D : DataW Int} {ep : Int} (h : Ost w0 w g gs made vs G V Ls gm bm D ep) (gd gb : Nat) (d : Int) (h0 : 0 ≤ d) (h1 : d ≤ 255) (m : Nat) (hm : d % 4 = (m : Int)) (dir : ByteArray) (hdir : dir = dirOf d)
    (hd : Blk w gd 9 #[.string dir]) (hbk : Blk w gb 5 #[.int .u8 d]) :
    Calls Try.prog 48 #[.pointer (some ⟨g, 0, none⟩), .int .i64 ep, .string dir, .func (.func 49) #[] #[.pointer (some ⟨gm, 0, none⟩), .pointer (some ⟨gd, 0, none⟩), .pointer (some ⟨gb, 0, none⟩)]] w (OTake w0 g gs vs G gm bm ep gd gb m d dir) := by
  have hm4 : m < 4 := by omega
  have hdm : dir = dirOf (m : Int) := by rw [hdir]; exact dirOf_mod d m hm
  have hds : dir.size ≤ 4 := by rw [hdir]; exact E.dirOf_size d
  have hlen := h.fit.len
  by_cases hk : dir ∈ (Ls 0).map (·.1)
  · obtain ⟨q, hq, hqk⟩ := List.mem_map.1 hk
    obtain ⟨qk, x⟩ := q
    obtain rfl : qk = dir := hqk
    obtain ⟨hep, j, hj, hqj, hn⟩ := h.fit.ent _ hq
    have hjm : j = m := dirOf_inj hj hm4 (by rw [← hqj, ← hdm])
    subst hjm
    simp only at hep hn
    subst hep
    have hg := getIs_hit 4 (Ls 0) qk x h.fit.nd (by omega) hq
    refine (take_hit w0 w g gs 1 4 made vs G V Ls h.lc (by decide) (by decide) qk (by omega) 0 (shd_one qk) x _ hg w0.heap.size (entC (x.n : Int) x.n) (h.rows _ hq) (one_N _ _) (by omega) _).mono ?_
    rintro e w' ⟨A, c, rfl, hr, hl, hk'⟩
    refine ⟨A, c, made, V, _, D, by rw [hn], ⟨hl, h.ms.byC h.lc (by decide) hk', by rw [up_same]; exact h.fit.use qk x hq, ?_, ?_, h.hb⟩, h.fit.val _ hk, h.lc.blkC (by decide) hk' hd (by decide) (by decide) (by decide), h.lc.blkC (by decide) hk' hbk (by decide) (by decide) (by decide)⟩
    · rw [up_same]
      intro p hp
      refine h.lc.row83 (by decide) hk' (h.rows p ?_)
      rcases (mem_useL _ _ _ p).1 hp with rfl | hp
      · exact hq
      · exact hp.1
    · rw [up_same, h.made_eq]
      congr 1
      exact (len_use_hit _ (qk, x) h.fit.nd (by rw [keyAt_lt]; exact hk)).symm
  · have hroom : (Ls 0).length < 4 := h.fit.room m hm4 (by rw [← hdm]; exact hk)
    have hg := getIs_not 4 (Ls 0) dir (by omega) hk
    have hat : atK D (keyS dir) 0 = 0 := atK_not (by rw [← Bool.not_eq_true, h.fit.has]; exact hk) _
    have hmd : (0 : Int) ≤ made ∧ made ≤ 1000000 := by rw [h.made_eq]; omega
    refine (take_miss w0 w g gs 1 4 made vs G V Ls h.lc (by decide) (by decide) hmd.1 hmd.2 dir (by omega) 0 (shd_one dir) ⟨0, none, 0, 0⟩ (Ls 0) (Ls 0) false ep hg hg (.inl rfl) (fun A c => useL dir ⟨ep, A, m, c⟩ (Ls 0)) m
      (fun A c => ⟨_, _, putIs_fits 4 (Ls 0) dir ⟨ep, A, m, c⟩ h.fit.nd (by omega) (by omega)⟩) (entC (m : Int) m) (one_N _ _) (by omega) 49 #[.pointer (some ⟨gm, 0, none⟩), .pointer (some ⟨gd, 0, none⟩), .pointer (some ⟨gb, 0, none⟩)]
      (QM gm bm (D.put (keyS dir) (.held 1)) (fun W' => Lc w0 W' g gs 1 4 (made + 1) vs G V (up Ls 0 (Ls 0)))) (fun W W' hq => hq.2.1.size) (enter49 _ _ _)
      (fun W hkW hlW => once_closure w0 W g gs 1 4 (made + 1) vs G V _ hlW gm bm gd gb D (h.ms.byC h.lc (by decide) hkW) h.hb dir (by omega) d h0 h1 (h.lc.blkC (by decide) hkW hd (by decide) (by decide) (by decide)) (h.lc.blkC (by decide) hkW hbk (by decide) (by decide) (by decide)) (by rw [h.fit.size]; omega) hat m hm)).mono ?_
    rintro e w' ⟨A0, c0, A, c, V', W, W', rfl, _, hrn, _, hl, _, k1, ⟨hmW, kW, hlW⟩, k2⟩
    have hmsW := h.ms.byC h.lc (by decide) k1
    have hD : IsMap D := (h.ms.map.tidy law9).isMap
    have hs : Maps.size (D.put (keyS dir) (.held 1)) = Maps.size D + 1 := by
      rw [size_put (h.ms.map.tidy law9), if_neg]
      rw [h.fit.has]
      exact hk
    have hW : ∀ {b t : Nat} {cs : Array Value}, Blk w b t cs → t ≠ 143 → t ≠ 166 → t ≠ 171 → Blk w' b t cs := fun hb a1 a2 a3 =>
      hlW.blkC (by decide) k2 ((h.lc.blkC (by decide) k1 hb a1 a2 a3).keep kW (map_ne_blk hmsW.map (h.lc.blkC (by decide) k1 hb a1 a2 a3)).symm) a1 a2 a3
    refine ⟨A0, c0, made + 1, V', _, _, rfl, ⟨hl, hmW.byC hlW (by decide) k2, ?_, ?_, ?_, h.hb⟩, atK_put_same hD (isKey_S _) _ _, hW hd (by decide) (by decide) (by decide), hW hbk (by decide) (by decide) (by decide)⟩
    · rw [up_same, hdm]
      exact h.fit.add hD m hm4 (by rw [← hdm]; exact hk) A c (by rw [← hdm]; exact hs)
    · rw [up_same]
      intro p hp
      rcases (mem_useL _ _ _ p).1 hp with rfl | hp
      · exact row_mono hrn (Nat.le_trans h.lc.below.size (Nat.le_trans k1.size kW.size))
      · have r1 := h.lc.row83 (by decide) k1 (h.rows p hp.1)
        exact hlW.row83 (by decide) k2 (row_keep r1 kW (fun k hk' e' => map_ne_row hmsW.map r1 k hk' e'))
    · rw [up_same, h.made_eq]
      have e : useL dir ⟨ep, A, m, c⟩ (Ls 0) = (dir, ⟨ep, A, m, c⟩) :: Ls 0 := by unfold useL; rw [filter_none _ _ hk]
      show ((Ls 0).length : Int) + 1 = ((useL dir ⟨ep, A, m, c⟩ (Ls 0)).length : Int)
      rw [e, List.length_cons]
      omega
end Go.Proofs.Ytiopmehaghcpfaa.L
