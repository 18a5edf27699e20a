/- Shards: Most, Len, socagelaw14.speaks. -/
import Derived.Test.YtiopmehaghcpfaaShard
namespace Go.Proofs.Ytiopmehaghcpfaa
open Go.RowKit Go.Maps
attribute [local go_sem ↓] run_max_int run_min_int

section
variable {w w' : World} {base m : Nat} {R : Nat → Int} {G : Nat → Nat} {V : Nat → Value} {Ls : Nat → List (ByteArray × Int)} {i : Nat} {l' : List (ByteArray × Int)} {res : Value} {e : Ending}
theorem after_put (hF : Fam w base m R G V Ls) (hi : i < m) (h : PutS base (G i) (R i) (V i) l' res w e w') :
    e = .returned res ∧ ∃ v', Fam w' base m R G (up V i v') (up Ls i l') ∧ Keep (fun k => k = G i ∨ some k = (V i).ownBlock) w w' := by
  obtain ⟨he, v', hl, hk, ho⟩ := h
  exact ⟨he, v', hF.putt hi hl hk ho, hk⟩
theorem after_get (hF : Fam w base m R G V Ls) (hi : i < m) (h : GetS base (G i) (R i) (V i) l' res w e w') :
    e = .returned res ∧ Fam w' base m R G V (up Ls i l') ∧ Keep (fun k => k = G i ∨ some k = (V i).ownBlock) w w' := by
  obtain ⟨he, hl, hk⟩ := h
  exact ⟨he, hF.got hi hl hk, hk.mono (fun _ _ h => .inr h)⟩
theorem below_fam {B : Nat} {w0 : World} (hF : Fam w base m R G V Ls) (hi : i < m) (hb : Below B w0 w) (hB : B ≤ w.heap.size) (hbase : B ≤ base) (hk : Keep (fun k => k = G i ∨ some k = (V i).ownBlock) w w') : Below B w0 w' :=
  below_keep hb hB hk (by
    rintro k (rfl | e)
    · exact Nat.le_trans hbase (hF.ge i hi)
    · exact Nat.le_trans hbase (row_ge (hF.lru i hi).row e.symm))
theorem Shb.by_fam {b2 g n : Nat} {v : Value} {Gs : Nat → Nat} (h : Shb w b2 g n v Gs) (hF : Fam w base m R G V Ls) (hi : i < m) (hk : Keep (fun k => k = G i ∨ some k = (V i).ownBlock) w w') : Shb w' b2 g n v Gs :=
  h.by_cache (hF.lru i hi) hk
end

/-- The most of the first numbers. -/
def most (L : Nat → Nat) : Nat → Nat
  | 0 => 0
  | k + 1 => max (most L k) (L k)
theorem most_le (L : Nat → Nat) (b : Nat) : ∀ n, (∀ i, i < n → L i ≤ b) → most L n ≤ b
  | 0, _ => Nat.zero_le _
  | n + 1, h => Nat.max_le.2 ⟨most_le L b n (fun i hi => h i (by omega)), h n (by omega)⟩
theorem mx_nat (a b : Nat) : mx (a : Int) (b : Int) = ((max a b : Nat) : Int) := by
  unfold mx
  split <;> omega

set_option maxHeartbeats 1000000 in
theorem most_calls (b2 g n : Nat) (v : Value) (off base m : Nat) (R : Nat → Int) (G : Nat → Nat) (V : Nat → Value) (Ls : Nat → List (ByteArray × Int)) (w : World) (hS : Shb w b2 g n v (fun j => G (off + j))) (hF : Fam w base m R G V Ls) (hm : off + n ≤ m) (hn : n ≤ 256) :
    Calls Try.prog 28 #[.pointer (some ⟨g, 0, none⟩)] w (Same (.int .i64 (most (fun j => (Ls (off + j)).length) n)) w) := by
  have HS := Av.mk hS
  have HF := Av.mk hF
  have c0 := hS.blk.cell 0
  have lt := hS.blk.lt
  obtain ⟨A, c, rfl⟩ := own_slice hS.row
  simp at c0
  clear hS hF
  go_enter Try.func28, Try.ntmps28
  go_wp2_with fail
  go_loop [3, 11] (fun x i => ∃ k : Nat, k ≤ n ∧ i = .int .i64 k ∧ x = .int .i64 (most (fun j => (Ls (off + j)).length) k)) (fun _ i => n - (intOf i).toNat)
  case atStart => exact ⟨0, Nat.zero_le _, rfl, rfl⟩
  case round =>
    obtain ⟨k, hk, rfl, rfl⟩ := hrel
    by_cases hlt : k < n
    · obtain ⟨r, c2, e, hr, hc⟩ := HS.out.shape1 (by omega)
      cases e
      have ck := HS.out.cell k hlt
      have hL := len_S base (G (off + k)) (R (off + k)) (V (off + k)) (Ls (off + k)) w (HF.out.lru _ (by omega))
      have HX := Av.mk hL
      clear hL
      go_wp2_with fail
      refine HX.out.mono ?_
      rintro e _ ⟨rfl, rfl⟩
      have hmx := mx_nat (most (fun j => (Ls (off + j)).length) k) (Ls (off + k)).length
      go_wp2_with fail
      go_round
      case rel => exact ⟨k + 1, by omega, by go_num, by simp [most]⟩
      case measure => simp [intOf]; omega
    · obtain rfl : k = n := by omega
      go_wp2
      go_ret
      exact ⟨rfl, rfl⟩

set_option maxHeartbeats 1000000 in
theorem slen_calls (b2 g n : Nat) (v : Value) (off base m : Nat) (R : Nat → Int) (G : Nat → Nat) (V : Nat → Value) (Ls : Nat → List (ByteArray × Int)) (j : Nat) (w : World) (hS : Shb w b2 g n v (fun j => G (off + j))) (hF : Fam w base m R G V Ls) (hm : off + n ≤ m) (hj : j < n) :
    Calls Try.prog 26 #[.pointer (some ⟨g, 0, none⟩), .int .i64 j] w (Same (.int .i64 (Ls (off + j)).length) w) := by
  have c0 := hS.blk.cell 0
  have lt := hS.blk.lt
  obtain ⟨r, c, rfl, hr, hc⟩ := hS.shape1 (by omega)
  have ck := hS.cell j hj
  have HX := Av.mk (len_S base (G (off + j)) (R (off + j)) (V (off + j)) (Ls (off + j)) w (hF.lru _ (by omega)))
  simp at c0
  clear hS hF
  go_enter Try.func26, Try.ntmps26
  go_wp2_with fail
  refine HX.out.mono ?_
  rintro e _ ⟨rfl, rfl⟩
  go_wp2
  go_ret
  exact ⟨rfl, rfl⟩

theorem sum_a : Fnv.sum (Fnv.bsOf sa) = 3826002220 := by decide
theorem sum_nil : Fnv.sum (Fnv.bsOf ⟨#[]⟩) = 2166136261 := by decide
theorem putIs_a : PutIs 1 [] sa 7 [(sa, 7)] ⟨#[]⟩ false := fun w base g v h hb => put_room_S base g 1 v [] sa 7 w h (by decide) _ rfl (by decide) (by decide) hb
theorem getIs_a : GetIs 1 [(sa, 7)] sa [(sa, 7)] 7 true := fun w base g v h => get_hit_S base g 1 v [(sa, 7)] sa w h (by decide) 0 rfl (by decide)

set_option maxRecDepth 100000 in
set_option maxHeartbeats 2000000 in
theorem speaks14 (w : World) : Calls Try.prog 34 #[] w (RetB (.bool true) w) := by
  have hN := snew_calls 2 1 2 (by decide) (by decide) (by decide) w.heap.size 0 (fun _ => 0) (fun _ => 0) (fun _ => .slice none 0 0) (fun _ => []) w (Fam.nil w _ _ _ _ _) (Nat.le_refl _)
  have HN := Av.mk hN
  clear hN
  go_enter Try.func34, Try.ntmps34
  go_wp2_with fail
  refine HN.out.mono ?_
  rintro e w1 ⟨v, G, V, rfl, hb, hS, hF, _⟩
  have HS := Av.mk hS
  have HF := Av.mk (show Fam w1 w.heap.size 2 (fun _ => 1) G V (fun _ => []) from hF)
  have HB := Av.mk hb
  clear hS hF hb HN
  go_wp2_with fail
  refine (Fnv.sum_calls sa w1 (by decide)).mono ?_
  rw [sum_a]
  rintro e _ ⟨rfl, rfl⟩
  go_wp2_with fail
  refine (Fnv.sum_calls ⟨#[]⟩ w1 (by decide)).mono ?_
  rw [sum_nil]
  rintro e _ ⟨rfl, rfl⟩
  go_wp2_with fail
  refine (sput_calls w.heap.size w.heap.size 2 v _ sa 7 w1 HS.out (by decide) (by decide) (by decide) w.heap.size (G 0) 1 (V 0) [] [(sa, 7)] ⟨#[]⟩ false (HF.out.lru 0 (by decide)) (HF.out.ge 0 (by decide)) (by rw [sum_a]) putIs_a).mono ?_
  rintro e w2 hp
  obtain ⟨rfl, v2, hF2, k2⟩ := after_put (i := 0) HF.out (by decide) hp
  have HS2 := Av.mk (HS.out.by_fam HF.out (i := 0) (by decide) k2)
  have HB2 := Av.mk (below_fam HF.out (i := 0) (by decide) HB.out HB.out.size (Nat.le_refl _) k2)
  have HF2 := Av.mk hF2
  clear hF2 k2 hp HS HF HB
  go_wp2_with fail
  have hl2 := HF2.out.lru 0 (by decide)
  rw [up_same, up_same] at hl2
  refine (sget_calls w.heap.size w.heap.size 2 v _ sa w2 HS2.out (by decide) (by decide) (by decide) w.heap.size (G 0) 1 v2 [(sa, 7)] [(sa, 7)] 7 true hl2 (by rw [sum_a]) getIs_a).mono ?_
  rintro e w3 hp
  obtain ⟨rfl, hF3, k3⟩ := after_get (i := 0) HF2.out (by decide) (by rw [up_same]; exact hp)
  have HS3 := Av.mk (HS2.out.by_fam HF2.out (i := 0) (by decide) k3)
  have HB3 := Av.mk (below_fam HF2.out (i := 0) (by decide) HB2.out HB2.out.size (Nat.le_refl _) k3)
  have HF3 := Av.mk hF3
  clear hF3 k3 hp HS2 HF2 HB2 hl2
  go_wp2_with fail
  refine (many_calls w.heap.size w.heap.size 2 v _ w3 HS3.out).mono ?_
  rintro e _ ⟨rfl, rfl⟩
  go_wp2_with fail
  refine (of_calls w.heap.size w.heap.size 2 v _ sa w3 HS3.out (by decide) (by decide) (by decide)).mono ?_
  rw [sum_a]
  rintro e _ ⟨rfl, nd, rfl⟩
  go_wp2_with fail
  refine (most_calls w.heap.size w.heap.size 2 v 0 w.heap.size 2 _ G _ _ (w3.drewN nd) ⟨HS3.out.blk, HS3.out.row⟩ (HF3.out.keep ((Keep.refl (fun _ => False) w3).drewN nd) (by simp) (by simp)) (by decide) (by decide)).mono ?_
  rintro e _ ⟨rfl, rfl⟩
  go_wp2
  go_ret
  exact ⟨rfl, below_drewN HB3.out _⟩
end Go.Proofs.Ytiopmehaghcpfaa
