import Derived.Test.YtonamhikhjjacaaI
import Derived.Test.YtonamhikhjjacaaP
namespace Go.Proofs.Ytonamhikhjjacaa
open Go.RowKit

theorem wide19 : wideV 1 9 = 0 := by decide +kernel
theorem near10 : nearV 1 0 = 0 := by decide +kernel

set_option maxRecDepth 100000 in
set_option maxHeartbeats 800000 in
theorem rises_no (n bits : Int) (w : World) (h : bits < 1 ∨ 8 < bits ∨ smallV n = false) : Calls Try.prog 5 #[.int .i64 n, .int .i64 bits] w fun e w' => e = .returned (.bool true) ∧ Below w.heap.size w w' := by
  have tail : ∀ (w1 : World), Below w.heap.size w w1 → True := fun _ _ => trivial
  by_cases hb : bits < 1
  · clear h tail
    go_enter Try.func5, Try.ntmps5
    go_wp2_with fail
    refine (awake_any _).mono ?_
    rintro e w1 ⟨rfl, hb1⟩
    go_wp2_with fail
    refine (wide_any 1 9 _ (by omega) (by omega)).mono ?_
    rintro e w' ⟨rfl, rfl⟩
    rw [wide19]
    go_wp2_with fail
    refine (near_any 1 0 _ (by omega) (by omega)).mono ?_
    rintro e w2 ⟨rfl, hb2⟩
    rw [near10]
    have hb3 := hb1.trans (hb2.mono hb1.size)
    clear hb1 hb2
    go_wp2_with fail
    go_ret
    exact ⟨rfl, hb3⟩
  · by_cases hb8 : 8 < bits
    · clear h tail
      go_enter Try.func5, Try.ntmps5
      go_wp2_with fail
      refine (awake_any _).mono ?_
      rintro e w1 ⟨rfl, hb1⟩
      go_wp2_with fail
      refine (wide_any 1 9 _ (by omega) (by omega)).mono ?_
      rintro e w' ⟨rfl, rfl⟩
      rw [wide19]
      go_wp2_with fail
      refine (near_any 1 0 _ (by omega) (by omega)).mono ?_
      rintro e w2 ⟨rfl, hb2⟩
      rw [near10]
      have hb3 := hb1.trans (hb2.mono hb1.size)
      clear hb1 hb2
      go_wp2_with fail
      go_ret
      exact ⟨rfl, hb3⟩
    · have hs : smallV n = false := by rcases h with h | h | h; omega; omega; exact h
      have hd : (decide (bits < 1) || decide (8 < bits)) = false := by simp; omega
      have HS := hide hs
      clear h hs tail
      go_enter Try.func5, Try.ntmps5
      go_wp2_with fail
      refine (awake_any _).mono ?_
      rintro e w1 ⟨rfl, hb1⟩
      go_wp2_with fail
      refine (small_any _ _).mono ?_
      rintro e w' ⟨rfl, rfl⟩
      rw [HS.out]
      go_wp2_with fail
      refine (wide_any 1 9 _ (by omega) (by omega)).mono ?_
      rintro e w' ⟨rfl, rfl⟩
      rw [wide19]
      go_wp2_with fail
      refine (near_any 1 0 _ (by omega) (by omega)).mono ?_
      rintro e w2 ⟨rfl, hb2⟩
      rw [near10]
      have hb3 := hb1.trans (hb2.mono hb1.size)
      clear hb1 hb2
      go_wp2_with fail
      go_ret
      exact ⟨rfl, hb3⟩

theorem int_sq {x y : Int} (h : x * x ≤ y * y) : ¬ y * y < x * x := by omega

set_option maxRecDepth 100000 in
set_option maxHeartbeats 1600000 in
theorem rises_ok (n : Int) (b : Nat) (w : World) (h1 : 1 ≤ b) (h2 : b ≤ 8) (hsm : smallV n = true) : Calls Try.prog 5 #[.int .i64 n, .int .i64 b] w fun e w' => e = .returned (.bool true) ∧ Below w.heap.size w w' := by
  have hn : sml n := by unfold smallV at hsm; unfold sml; simpa using hsm
  have g := hn
  unfold sml at g
  have hd : (decide ((b : Int) < 1) || decide (8 < (b : Int))) = false := by simp; omega
  have HS := hide hsm
  clear hsm hn
  obtain ⟨k, hk, hkl, hmin⟩ := near_facts n b h1 h2
  have hpn : 2 ^ b ≤ 256 := by have : 2 ^ b ≤ 2 ^ 8 := Nat.pow_le_pow_right (by omega) h2; omega
  have hp1 : 1 ≤ 2 ^ b := Nat.pow_pos (by omega)
  have HK := hide hk
  have HMIN := hide hmin
  have HW := hide (wide_mono b h1 h2)
  have HWN := hide (fun u hu => wideV_nat u b hu h1 h2)
  have HNW := hide (near_wide k b hkl h1 h2)
  have HADD := hide (wideV_add k b h1 h2)
  have HTOP := hide ((wide_facts (2 ^ b - 1) b (by omega) h1 h2).2.2 rfl)
  have HZ := hide ((wide_facts 0 b (by omega) h1 h2).1 rfl)
  clear hk hmin
  obtain ⟨m, hm⟩ : ∃ m : Nat, m = 2 ^ b := ⟨_, rfl⟩
  have HM : Hid ((2 : Int) ^ b = (m : Int)) := by rw [hm, Int.natCast_pow]; exact hide rfl
  rw [← hm] at hpn hp1 hkl
  have HM2 := hide hm
  clear hm
  go_enter Try.func5, Try.ntmps5
  go_wp2_with fail
  refine (awake_any _).mono ?_
  rintro e w1 ⟨rfl, hb1⟩
  go_wp2_with fail
  refine (small_any _ _).mono ?_
  rintro e w' ⟨rfl, rfl⟩
  rw [HS.out]
  go_wp2_with fail
  go_loop [6, 7] (fun p i => ∃ j : Nat, j ≤ b ∧ i = .int .i64 j ∧ p = .int .i64 (2 ^ j)) (fun _ i => b - (intOf i).toNat)
  case atStart => exact ⟨0, by omega, rfl, rfl⟩
  case round =>
    obtain ⟨j, hj, rfl, rfl⟩ := hrel
    have hp := pow2_le (show j ≤ 8 by omega)
    have hp0 := pow2_pos j
    by_cases hlt : j < b
    · go_wp2_with fail
      go_round
      case rel => exact ⟨j + 1, by omega, by go_num, by rw [Int.pow_succ, Int.mul_comm]⟩
      case measure => simp [intOf]; omega
    · obtain rfl : j = b := by omega
      rw [HM.out]
      clear hp hp0
      go_wp2_with fail
      refine (near_any n j _ g.1 g.2).mono ?_
      rintro e w2 ⟨rfl, hb2'⟩
      rw [HK.out]
      have hb2 := hb1.trans (hb2'.mono hb1.size)
      clear hb2'
      go_wp2_with fail
      refine (wide_any k j _ (by omega) (by omega)).mono ?_
      rintro e w' ⟨rfl, rfl⟩
      have q1 := wideV_bd k j
      have hsq := sq_bd (n := wideV k j - n) (by omega) (by omega)
      go_wp2_with fail
      go_loop [10, 11, 12] (fun last v _ => ∃ i : Nat, i ≤ m ∧ v = .int .i64 i ∧ last = .int .i64 (if i = 0 then -1 else (wideN (i - 1) j : Int))) (fun _ v _ => m - (intOf v).toNat)
      case atStart => exact ⟨0, by omega, rfl, rfl⟩
      case round =>
        obtain ⟨i, hi, rfl, rfl⟩ := hrel
        by_cases hlt2 : i < m
        · have hii : i < 2 ^ j := by rw [← HM2.out]; exact hlt2
          obtain ⟨last, hlast⟩ : ∃ last : Int, last = (if i = 0 then -1 else (wideN (i - 1) j : Int)) := ⟨_, rfl⟩
          obtain ⟨x, hx⟩ : ∃ x : Int, x = wideV i j := ⟨_, rfl⟩
          have hx0 : x = wideN i j := by rw [hx]; exact HWN.out i hii
          have q2 := wideV_bd i j
          rw [← hx] at q2
          have hll : last < x := by
            rw [hlast, hx0]
            split
            · omega
            · have := HW.out i hii (i - 1) (by omega); omega
          have hl2 : -1 ≤ last := by rw [hlast]; split <;> omega
          have hsq2 := sq_bd (n := x - n) (by omega) (by omega)
          have hmn : ¬ (x - n) * (x - n) < (wideV k j - n) * (wideV k j - n) := by
            have := HMIN.out i hii
            rw [← hx] at this
            exact int_sq this
          have hnext : x = (if i + 1 = 0 then -1 else (wideN (i + 1 - 1) j : Int)) := by rw [if_neg (by omega), hx0]; rfl
          rw [← hlast]
          have HX := hide hx
          have HN := hide hnext
          clear hx hx0 hlast hii hnext
          go_wp2_with fail
          refine (wide_any i j _ (by omega) (by omega)).mono ?_
          rintro e w' ⟨rfl, rfl⟩
          rw [← HX.out]
          go_wp2_with fail
          go_round
          case rel => exact ⟨i + 1, by omega, by go_num, by rw [← HN.out]⟩
          case measure => simp [intOf]; omega
        · obtain rfl : i = m := by omega
          have hlast : (if i = 0 then (-1 : Int) else (wideN (i - 1) j : Int)) = 255 := by
            rw [if_neg (by omega), HM2.out, HTOP.out]; rfl
          rw [hlast]
          clear hlast
          go_wp2_with fail
          refine (wide_any 0 j _ (by omega) (by omega)).mono ?_
          rintro e w' ⟨rfl, rfl⟩
          have hz : wideV 0 j = 0 := by
            have h := HWN.out 0 (by rw [← HM2.out]; omega)
            rw [HZ.out] at h
            exact h
          rw [hz]
          clear hz
          go_wp2_with fail
          refine (wide_any k j _ (by omega) (by omega)).mono ?_
          rintro e w' ⟨rfl, rfl⟩
          go_wp2_with fail
          refine (near_any (wideV k j) j _ (by omega) (by omega)).mono ?_
          rintro e w3 ⟨rfl, hb3'⟩
          rw [HNW.out]
          have hb3 := hb2.trans (hb3'.mono hb2.size)
          clear hb3' hb2 hb1
          go_wp2_with fail
          refine (wide_any _ j _ (by omega) (by omega)).mono ?_
          rintro e w' ⟨rfl, rfl⟩
          rw [show wideV ((k : Int) + (i : Int)) j = wideV k j by rw [← HM.out]; exact HADD.out]
          go_wp2_with fail
          refine (wide_any k j _ (by omega) (by omega)).mono ?_
          rintro e w' ⟨rfl, rfl⟩
          go_wp2_with fail
          go_ret
          exact ⟨rfl, hb3⟩

theorem rises_any (n bits : Int) (w : World) : Calls Try.prog 5 #[.int .i64 n, .int .i64 bits] w fun e w' => e = .returned (.bool true) ∧ Below w.heap.size w w' := by
  by_cases h : bits < 1 ∨ 8 < bits ∨ smallV n = false
  · exact rises_no n bits w h
  · obtain ⟨b, rfl⟩ := Int.eq_ofNat_of_zero_le (show 0 ≤ bits by omega)
    exact rises_ok n b w (by omega) (by omega) (by
      cases hs : smallV n
      · exact absurd (Or.inr (Or.inr hs)) h
      · rfl)
end Go.Proofs.Ytonamhikhjjacaa
