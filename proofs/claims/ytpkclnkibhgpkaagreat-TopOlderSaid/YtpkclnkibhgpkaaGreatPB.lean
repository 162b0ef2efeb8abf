import Derived.Test.YtpkclnkibhgpkaaGreatPM
import Derived.RangeFuncKeeps
import Derived.RangeFuncLeaves
import Derived.RangeFuncCalls
import Derived.Shelf.Abstract
import Derived.OwnWalkIn
import Derived.TacticsInMore
import Derived.LoopNIn
import Derived.LoopIn
import Derived.StillTailTactics
namespace Go.Proofs.YtpkclnkibhgpkaaGreat
open Go.RowKit Go.Shelf
attribute [local go_sem] Oper.semAt_some

theorem sizes_any (a b : Int) (w : World) : Calls Tryz.prog 65 #[.int .i64 a, .int .i64 b] w fun e w' =>
    e = .returned (.func (.func 99) #[] #[.pointer (some ⟨w.heap.size, 0, none⟩), .pointer (some ⟨w.heap.size + 1, 0, none⟩)]) ∧ w' = (w.alloc (.cells #[.int .i64 a] 3)).alloc (.cells #[.int .i64 b] 3) := by
  go_enter Tryz.func65, Tryz.ntmps65
  go_wp2
  go_ret
  exact ⟨rfl, rfl⟩

/-- the two captured sides -/
def TwoC (W : World) (bw bh : Nat) (x y : Int) : Prop := (W.cell? ⟨bw, 0, none⟩ = some (.int .i64 x) ∧ W.frozen? ⟨bw, 0, none⟩ = false) ∧ W.cell? ⟨bh, 0, none⟩ = some (.int .i64 y) ∧ W.frozen? ⟨bh, 0, none⟩ = false
def twoSum (W : World) (bw bh : Nat) : Nat := ((match W.cell? ⟨bw, 0, none⟩ with | some v => intOf v | none => 0) + (match W.cell? ⟨bh, 0, none⟩ with | some v => intOf v | none => 0)).toNat

theorem twoSum_of {W : World} {bw bh : Nat} {x y : Int} (h : TwoC W bw bh x y) : twoSum W bw bh = (x + y).toNat := by
  unfold twoSum
  rw [h.1.1, h.2.1]
  rfl

set_option maxRecDepth 100000 in
set_option maxHeartbeats 1000000 in
theorem sizes1_in (n l bw bh : Nat) (a b : Int) (hab : bw ≠ bh) (ha0 : -9223372036854775808 ≤ a) (ha : a ≤ 9223372036854775807) (hb0 : -9223372036854775808 ≤ b) (hb : b ≤ 9223372036854775807) (J Jm Jx : Nat → World → Prop) (W : World)
    (hc : ∀ k W, J k W → TwoC W bw bh (hk k a) (hk k b)) (hm : ∀ k W, Jm k W → TwoC W bw bh (hk k a) (hk k b))
    (hs : ∀ k W, Jm k W → J (k + 1) (((W.drew).setCell ⟨bw, 0, none⟩ (.int .i64 (hk (k + 1) a))).setCell ⟨bh, 0, none⟩ (.int .i64 (hk (k + 1) b))))
    (hY : 1 ≤ a → 1 ≤ b → ∀ k W, J k W → (∀ j, j < k → 1 < hk j a ∨ 1 < hk j b) → YieldAt Fence.wide (n - 1) Tryz.prog l #[.int .i64 (hk k a), .int .i64 (hk k b)] W fun e W' => (e = .returned (.bool true) ∧ Jm k W') ∨ (e = .returned (.bool false) ∧ Jx k W'))
    (h0 : J 0 W) :
    CallsIn Fence.wide n Tryz.prog 99 #[.func (.yield l) #[] #[], .pointer (some ⟨bw, 0, none⟩), .pointer (some ⟨bh, 0, none⟩)] W fun e W' => (∃ v, e = .returned v) ∧
      ((∃ k, (1 ≤ a ∧ 1 ≤ b ∧ hk k a ≤ 1 ∧ hk k b ≤ 1 ∧ ∀ j, j < k → 1 < hk j a ∨ 1 < hk j b) ∧ Jm k W') ∨ (∃ k, (1 ≤ a ∧ 1 ≤ b ∧ ∀ j, j < k → 1 < hk j a ∨ 1 < hk j b) ∧ Jx k W') ∨ ((a < 1 ∨ b < 1) ∧ J 0 W')) := by
  have HC := hide hc
  have HM := hide hm
  have HS := hide hs
  have HY := hide hY
  have H0 := hide h0
  clear hc hm hs hY h0
  refine callsIn_of_wp Tryz.func99 rfl trivial ?_ rfl
  simp only [Tryz.ntmps99, List.size_toArray, List.length_cons, List.length_nil, Nat.reduceAdd, Nat.reduceSub, Array.replicate_succ, Array.replicate_zero, List.push_toArray, List.append_toArray, List.nil_append, List.cons_append]
  gi_wp2_with fail
  gi_loopw [4] (fun _ wr => ∃ k : Nat, Hid (J k wr) ∧ (k = 0 ∨ 1 ≤ a ∧ 1 ≤ b) ∧ Hid (∀ j, j < k → 1 < hk j a ∨ 1 < hk j b)) (fun _ wr => twoSum wr bw bh)
  case atStart => exact ⟨0, H0, Or.inl rfl, hide (fun j hj => by omega)⟩
  case round =>
    obtain ⟨k, hj, hk0, hall⟩ := hrel
    have HK := hide (HC.out k wr hj.out)
    by_cases hp : 1 ≤ a ∧ 1 ≤ b
    · obtain ⟨a1, b1⟩ := hp
      have p1 := hk_pos a1 k
      have p2 := hk_pos b1 k
      have q1 := hk_le a1 k
      have q2 := hk_le b1 k
      obtain ⟨fn, tmps, assign, body, hy, hR⟩ := HY.out a1 b1 k wr hj.out hall.out
      have HR := hide hR
      have HMk := hide (HM.out k)
      have HSk := hide (HS.out k)
      obtain ⟨x, hx⟩ : ∃ x, x = hk k a := ⟨_, rfl⟩
      obtain ⟨y, hy'⟩ : ∃ y, y = hk k b := ⟨_, rfl⟩
      have HX := hide hx
      have HYY := hide hy'
      rw [← hx, ← hy'] at HK hy HMk
      rw [← hx] at p1 q1
      rw [← hy'] at p2 q2
      clear hx hy' hR HY
      obtain ⟨⟨c0, f0⟩, c1, f1⟩ := HK.out
      have d1 : decide (1 ≤ x) = true := by simpa using p1
      have d2 : decide (1 ≤ y) = true := by simpa using p2
      gi_wp2_with fail
      refine ⟨fun h => (by simp [Fence.wide] at h), HR.out.mono ?_⟩
      rintro e W3 (⟨rfl, hjm⟩ | ⟨rfl, hjx⟩)
      · have HJ := hide hjm
        obtain ⟨⟨e0, g0⟩, e1, g1⟩ := HMk.out W3 hjm
        clear hjm c0 f0 c1 f1 hy
        by_cases h1 : 1 < x
        · have d3 : decide (1 < x) = true := by simpa using h1
          gi_wp2_with fail
          refine wpIn_wide.2 ?_
          refine wp_region_still_tail 4 (by kernel_rfl) (by kernel_rfl) ?_
          simp only [List.take_succ_cons, List.take_zero, List.drop_succ_cons, List.drop_zero]
          repeat (first | still_step | still_call ((half_any _ _ (by omega) (by omega)).mono fun _ _ h => ⟨h.1, h.2.symm⟩))
          refine wpStill_nil ?_
          change wpList _ _ _ _ _ W3.drew
          go_wp2_with fail
          have hJ2 := HSk.out W3 HJ.out
          have hh : hk (k + 1) a = halfV x ∧ hk (k + 1) b = halfV y := ⟨by rw [HX.out]; rfl, by rw [HYY.out]; rfl⟩
          rw [hh.1, hh.2] at hJ2
          have l1 := halfV_pos x
          have l2 := halfV_pos y
          have l3 := halfV_le p1
          have l4 := halfV_le p2
          have l5 := halfV_lt h1
          have HALL := hide (show ∀ j, j < k + 1 → 1 < hk j a ∨ 1 < hk j b from fun j hj => by
            by_cases hjk : j = k
            · rw [hjk, ← HX.out, ← HYY.out]; exact Or.inl h1
            · exact hall.out j (by omega))
          refine ⟨⟨k + 1, hide hJ2, Or.inr ⟨a1, b1⟩, HALL⟩, ?_⟩
          have t1 := twoSum_of (HC.out (k + 1) _ hJ2)
          rw [hh.1, hh.2] at t1
          refine Nat.lt_of_le_of_lt (Nat.le_of_eq t1) ?_
          rw [twoSum_of HK.out]
          omega
        · have d3 : decide (1 < x) = false := by simpa using h1
          by_cases h2 : 1 < y
          · have d4 : decide (1 < y) = true := by simpa using h2
            gi_wp2_with fail
            refine wpIn_wide.2 ?_
            refine wp_region_still_tail 4 (by kernel_rfl) (by kernel_rfl) ?_
            simp only [List.take_succ_cons, List.take_zero, List.drop_succ_cons, List.drop_zero]
            repeat (first | still_step | still_call ((half_any _ _ (by omega) (by omega)).mono fun _ _ h => ⟨h.1, h.2.symm⟩))
            refine wpStill_nil ?_
            change wpList _ _ _ _ _ W3.drew
            go_wp2_with fail
            have hJ2 := HSk.out W3 HJ.out
            have hh : hk (k + 1) a = halfV x ∧ hk (k + 1) b = halfV y := ⟨by rw [HX.out]; rfl, by rw [HYY.out]; rfl⟩
            rw [hh.1, hh.2] at hJ2
            have l1 := halfV_pos x
            have l2 := halfV_pos y
            have l3 := halfV_le p1
            have l4 := halfV_le p2
            have l5 := halfV_lt h2
            have HALL := hide (show ∀ j, j < k + 1 → 1 < hk j a ∨ 1 < hk j b from fun j hj => by
              by_cases hjk : j = k
              · rw [hjk, ← HX.out, ← HYY.out]; exact Or.inr h2
              · exact hall.out j (by omega))
            refine ⟨⟨k + 1, hide hJ2, Or.inr ⟨a1, b1⟩, HALL⟩, ?_⟩
            have t1 := twoSum_of (HC.out (k + 1) _ hJ2)
            rw [hh.1, hh.2] at t1
            refine Nat.lt_of_le_of_lt (Nat.le_of_eq t1) ?_
            rw [twoSum_of HK.out]
            omega
          · have d4 : decide (1 < y) = false := by simpa using h2
            gi_wp2_with fail
            go_end0
            exact ⟨⟨_, rfl⟩, .inl ⟨k, ⟨a1, b1, by rw [← HX.out]; omega, by rw [← HYY.out]; omega, hall.out⟩, HJ.out⟩⟩
      · have HJ := hide hjx
        clear hjx c0 f0 c1 f1 hy
        gi_wp2_with fail
        go_end0
        exact ⟨⟨_, rfl⟩, .inr (.inl ⟨k, ⟨a1, b1, hall.out⟩, HJ.out⟩)⟩
    · obtain rfl : k = 0 := by omega
      obtain ⟨⟨c0, f0⟩, c1, f1⟩ := HK.out
      have hh : hk 0 a = a ∧ hk 0 b = b := ⟨rfl, rfl⟩
      rw [hh.1] at c0
      rw [hh.2] at c1
      clear hh HK HY
      by_cases h1 : 1 ≤ a
      · have d1 : decide (1 ≤ a) = true := by simpa using h1
        have d2 : decide (1 ≤ b) = false := by simp; omega
        gi_wp2_with fail
        refine ⟨fun _ h => (by cases h), ?_⟩
        gi_wp2_with fail
        go_end0
        exact ⟨⟨_, rfl⟩, .inr (.inr ⟨Or.inr (by omega), hj.out⟩)⟩
      · have d1 : decide (1 ≤ a) = false := by simpa using h1
        gi_wp2_with fail
        refine ⟨fun _ h => (by cases h), ?_⟩
        gi_wp2_with fail
        go_end0
        exact ⟨⟨_, rfl⟩, .inr (.inr ⟨Or.inl (by omega), hj.out⟩)⟩
end Go.Proofs.YtpkclnkibhgpkaaGreat
