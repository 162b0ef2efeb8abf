import Derived.Test.YtpkclnkibhgpkaaGreatPD
import Derived.Stop.RegionWithIn
namespace Go.Proofs.YtpkclnkibhgpkaaGreat
open Go.RowKit Go.Shelf
attribute [local go_sem] Oper.semAt_some

theorem levels_fn (a b m : Int) (w : World) : Calls Tryz.prog 94 #[.int .i64 a, .int .i64 b, .int .i64 m] w fun e w' =>
    e = .returned (.func (.func 162) #[] #[.pointer (some ⟨w.heap.size + 2, 0, none⟩), .pointer (some ⟨w.heap.size, 0, none⟩), .pointer (some ⟨w.heap.size + 1, 0, none⟩)]) ∧ w' = ((w.alloc (.cells #[.int .i64 a] 3)).alloc (.cells #[.int .i64 b] 3)).alloc (.cells #[.int .i64 m] 3) := by
  go_enter Tryz.func94, Tryz.ntmps94
  go_wp2
  go_ret
  exact ⟨rfl, rfl⟩
def ThreeC (W : World) (bm bw bh : Nat) (m a b : Int) : Prop := W.cell? ⟨bm, 0, none⟩ = some (.int .i64 m) ∧ W.cell? ⟨bw, 0, none⟩ = some (.int .i64 a) ∧ W.cell? ⟨bh, 0, none⟩ = some (.int .i64 b)
set_option maxRecDepth 100000 in
set_option maxHeartbeats 1000000 in
theorem levels1_in (n l bm bw bh : Nat) (m a b : Int) (hm0 : -9223372036854775808 ≤ m) (hm : m ≤ 9223372036854775807) (ha0 : -9223372036854775808 ≤ a) (ha : a ≤ 9223372036854775807) (hb0 : -9223372036854775808 ≤ b) (hb : b ≤ 9223372036854775807) (J Jx : Nat → World → Prop) (W : World)
    (hc : ∀ k W, J k W → ThreeC W bm bw bh m a b) (hs : ∀ k W W', J k W → Below W.heap.size W W' → J k W')
    (hY : ∀ (k : Nat) W, (k : Int) < m → J k W → YieldAt Fence.wide (n - 1) Tryz.prog l #[.int .i64 (sideV a k), .int .i64 (sideV b k)] W fun e W' => ∃ t, e = .returned (.bool t) ∧ ((t = true ∧ J (k + 1) W') ∨ (t = false ∧ Jx k W')))
    (h0 : J 0 W) :
    CallsIn Fence.wide n Tryz.prog 162 #[.func (.yield l) #[] #[], .pointer (some ⟨bm, 0, none⟩), .pointer (some ⟨bw, 0, none⟩), .pointer (some ⟨bh, 0, none⟩)] W fun e W' => (∃ v, e = .returned v) ∧ (J m.toNat W' ∨ ∃ k : Nat, (k : Int) < m ∧ Jx k W') := by
  have HC := hide hc
  have HS := hide hs
  have HY := hide hY
  have H0 := hide h0
  obtain ⟨c0, c1, c2⟩ := hc 0 W h0
  clear hc hs hY h0
  refine callsIn_of_wp Tryz.func162 rfl trivial ?_ rfl
  simp only [Tryz.ntmps162, List.size_toArray, List.length_cons, List.length_nil, Nat.reduceAdd, Nat.reduceSub, Array.replicate_succ, Array.replicate_zero, List.push_toArray, List.append_toArray, List.nil_append, List.cons_append]
  gi_wp2_with fail
  gi_loopw [7] (fun i wr => ∃ k : Nat, i = .int .i64 k ∧ (k = 0 ∨ (k : Int) ≤ m) ∧ Hid (J k wr)) (fun i _ => (m - intOf i).toNat)
  case atStart => exact ⟨0, rfl, .inl rfl, H0⟩
  case round =>
    obtain ⟨k, rfl, hk, hj⟩ := hrel
    obtain ⟨c0, c1, c2⟩ := HC.out k wr hj.out
    have hbm : bm < wr.heap.size := World.block_lt_of_cell? wr _ c0
    have hbw : bw < wr.heap.size := World.block_lt_of_cell? wr _ c1
    have hbh : bh < wr.heap.size := World.block_lt_of_cell? wr _ c2
    by_cases hlt : (k : Int) < m
    · have d : decide ((k : Int) < m) = true := by simpa using hlt
      have s : ∀ x w, -9223372036854775808 ≤ x → x ≤ 9223372036854775807 → CallsIn Fence.wide (n - 1) Tryz.prog 42 #[.int .i64 x, .int .i64 k] w fun e w' => e = .returned (.int .i64 (sideV x k)) ∧ Below w.heap.size w w' := fun x w h1 h2 => callsIn_wide.2 (side_any x k w h1 h2 (by omega))
      gi_wp2_with fail
      gi_region_with (first
        | (refine ⟨trivial, fun h => (by simp [Fence.wide] at h), ?_⟩; refine (s _ _ (by omega) (by omega)).mono ?_; rintro e w1 ⟨rfl, hb1⟩; first
          | (have hB := Below.trans hb0 (hb1.mono hb0.size); obtain ⟨fn, tmps, assign, body, hy, hR⟩ := HY.out k _ hlt (HS.out k wr _ hj.out hB); have HR := hide hR; clear hR)
          | (have hb0 : Below wr.heap.size wr w1 := ⟨hb1.os, hb1.tape, hb1.output, hb1.size, hb1.block⟩; have e1 : w1.cell? ⟨bh, 0, none⟩ = some (.int .i64 b) := (hb0.cell (by exact hbh)).trans c2))
        | (refine ⟨fun h => (by simp [Fence.wide] at h), HR.out.mono ?_⟩; rintro e W3 ⟨t, rfl, ht⟩))
      all_goals
        rcases ht with ⟨rfl, hJ⟩ | ⟨rfl, hJ⟩
        · have HJ := hide hJ
          clear hJ hy
          gi_wp2_with fail
          refine ⟨⟨k + 1, rfl, .inr (by omega), HJ⟩, ?_⟩
          simp only [intOf]
          omega
        · have HJ := hide hJ
          clear hJ hy
          gi_wp2_with fail
          refine bodyPost_ret (results_none rfl _ _ _) rfl ?_
          exact ⟨⟨_, rfl⟩, .inr ⟨k, by assumption, HJ.out⟩⟩
    · have d : decide ((k : Int) < m) = false := by simpa using hlt
      gi_wp2_with fail
      have hkm : k = m.toNat := by omega
      go_end0
      exact ⟨⟨_, rfl⟩, .inl (hkm ▸ hj.out)⟩
end Go.Proofs.YtpkclnkibhgpkaaGreat
