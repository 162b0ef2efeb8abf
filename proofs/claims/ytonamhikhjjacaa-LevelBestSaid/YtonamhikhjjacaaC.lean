import Derived.Test.YtonamhikhjjacaaB
namespace Go.Proofs.Ytonamhikhjjacaa
open Go.RowKit

theorem power_int (x : Int) (w : World) (h0 : 0 ≤ x) (h : x ≤ 60) : Calls Try.prog 24 #[.int .i64 x] w fun e w' => e = .returned (.int .i64 (2 ^ x.toNat)) ∧ w = w' := by
  obtain ⟨k, rfl⟩ := Int.eq_ofNat_of_zero_le h0
  rw [Int.toNat_natCast]
  exact power_any k w (by omega)

theorem wr_lt (u b i : Nat) : wr' u b i < 2 ^ i := by
  induction i with
  | zero => simp [wr']
  | succ i ih => simp only [wr']; rw [Nat.pow_succ]; omega

theorem rwide_no (v bits : Int) (w : World) (h : bits < 1 ∨ 8 < bits) : Calls Try.prog 10 #[.int .i64 v, .int .i64 bits] w fun e w' => e = .returned (.int .i64 0) ∧ w = w' := by
  go_enter Try.func10, Try.ntmps10
  go_wp2_with fail
  all_goals first | (exfalso; omega) | skip
  all_goals go_ret
  all_goals exact ⟨rfl, rfl⟩

set_option maxHeartbeats 400000 in
theorem rwide_ok (v : Int) (b : Nat) (w : World) (h1 : 1 ≤ b) (h2 : b ≤ 8) (g1 : -9223372036854775808 ≤ v) (g2 : v ≤ 9223372036854775807) :
    Calls Try.prog 10 #[.int .i64 v, .int .i64 b] w fun e w' => e = .returned (.int .i64 (wideN (v % 2 ^ b).toNat b)) ∧ w = w' := by
  have ho : (decide ((b : Int) < 1) || decide (8 < (b : Int))) = false := by simp; omega
  have hp := pow2_le h2
  have hp0 := pow2_pos b
  obtain ⟨u, hu⟩ : ∃ u : Nat, (u : Int) = v % 2 ^ b := ⟨(v % 2 ^ b).toNat, Int.toNat_of_nonneg (Int.emod_nonneg _ (by omega))⟩
  have hlt : (u : Int) < 2 ^ b := by rw [hu]; exact Int.emod_lt_of_pos _ hp0
  have hun : u < 2 ^ b := by
    have e : ((2 : Int) ^ b) = ((2 ^ b : Nat) : Int) := by rw [Int.natCast_pow]; rfl
    rw [e] at hlt; omega
  have HU := hide hu
  rw [← hu, Int.toNat_natCast, (wide_eq u b hun h1 h2).1]
  have hu8 : u < 256 := by have : 2 ^ b ≤ 2 ^ 8 := Nat.pow_le_pow_right (by omega) h2; omega
  clear hu hun hlt
  go_enter Try.func10, Try.ntmps10
  go_wp2_with (first | (go_at_call 24; refine (power_any b _ (by omega)).mono ?_; rintro e w' ⟨rfl, rfl⟩) | (go_at_call 23; refine (mod_any _ _ _ (by omega) (by omega) g1 g2).mono ?_; rintro e w' ⟨rfl, rfl⟩; rw [← HU.out]))
  clear hp hp0
  go_loop [5, 6] (fun o i => ∃ k : Nat, k ≤ 8 ∧ i = .int .i64 k ∧ o = .int .i64 (wr' u b k : Int)) (fun _ i => 8 - (intOf i).toNat)
  case atStart => exact ⟨0, by omega, rfl, rfl⟩
  case round =>
    obtain ⟨k, hk, rfl, rfl⟩ := hrel
    have hw := wr_lt u b k
    have h16 : 2 ^ k ≤ 2 ^ 8 := Nat.pow_le_pow_right (by omega) hk
    obtain ⟨o, ho⟩ : ∃ o, o = wr' u b k := ⟨_, rfl⟩
    have hw2 : o < 256 := by omega
    clear h16 hw
    rw [← ho]
    have HO := hide ho
    clear ho
    by_cases hlt : k < 8
    · have m1 : 0 ≤ (k : Int) % (b : Int) := Int.emod_nonneg _ (by omega)
      have m2 : (k : Int) % (b : Int) < (b : Int) := Int.emod_lt_of_pos _ (by omega)
      have e1 : ((b : Int) - 1 - (k : Int) % (b : Int)).toNat = b - 1 - k % b := by rw [← Int.natCast_emod]; omega
      have HE := hide e1
      clear e1
      obtain ⟨p, hpp⟩ : ∃ p : Nat, p = 2 ^ (b - 1 - k % b) := ⟨_, rfl⟩
      have hp1 : 1 ≤ p := by rw [hpp]; exact Nat.pow_pos (by omega)
      have hp2 : p ≤ 256 := by rw [hpp]; have : 2 ^ (b - 1 - k % b) ≤ 2 ^ 8 := Nat.pow_le_pow_right (by omega) (by omega); omega
      have HP : Hid ((2 : Int) ^ (b - 1 - k % b) = (p : Int)) := by rw [hpp, Int.natCast_pow]; exact hide rfl
      have HPP := hide hpp
      clear hpp
      have q1 : 0 ≤ (u : Int) / (p : Int) := Int.ediv_nonneg (by omega) (by omega)
      have q2 : (u : Int) / (p : Int) ≤ u := Int.ediv_le_self _ (by omega)
      go_wp2_with (go_at_call 24; refine (power_int _ _ (by omega) (by omega)).mono ?_; rintro e w' ⟨rfl, rfl⟩; rw [HE.out, HP.out])
      go_round
      case rel => exact ⟨k + 1, by omega, by go_num, by rw [wr', ← HO.out, ← HPP.out, Int.natCast_add, Int.natCast_emod, Int.natCast_ediv, Int.natCast_mul]; rfl⟩
      case measure => simp [intOf]; omega
    · obtain rfl : k = 8 := by omega
      go_wp2
      go_ret
      exact ⟨ret1 (by rw [HO.out]), rfl⟩

theorem wide_any (v bits : Int) (w : World) (g1 : -9223372036854775808 ≤ v) (g2 : v ≤ 9223372036854775807) :
    Calls Try.prog 9 #[.int .i64 v, .int .i64 bits] w fun e w' => e = .returned (.int .i64 (wideV v bits)) ∧ w = w' := by
  unfold wideV
  by_cases h : bits < 1 ∨ 8 < bits
  · rw [if_pos h]; exact wide_no v bits w h
  · rw [if_neg h]
    obtain ⟨b, rfl⟩ := Int.eq_ofNat_of_zero_le (show 0 ≤ bits by omega)
    rw [Int.toNat_natCast]
    exact wide_ok v b w (by omega) (by omega) g1 g2
theorem rwide_any (v bits : Int) (w : World) (g1 : -9223372036854775808 ≤ v) (g2 : v ≤ 9223372036854775807) :
    Calls Try.prog 10 #[.int .i64 v, .int .i64 bits] w fun e w' => e = .returned (.int .i64 (wideV v bits)) ∧ w = w' := by
  unfold wideV
  by_cases h : bits < 1 ∨ 8 < bits
  · rw [if_pos h]; exact rwide_no v bits w h
  · rw [if_neg h]
    obtain ⟨b, rfl⟩ := Int.eq_ofNat_of_zero_le (show 0 ≤ bits by omega)
    rw [Int.toNat_natCast]
    exact rwide_ok v b w (by omega) (by omega) g1 g2
theorem wideV_bd (v bits : Int) : 0 ≤ wideV v bits ∧ wideV v bits ≤ 255 := by
  unfold wideV
  by_cases h : bits < 1 ∨ 8 < bits
  · rw [if_pos h]; omega
  · rw [if_neg h]
    obtain ⟨b, rfl⟩ := Int.eq_ofNat_of_zero_le (show 0 ≤ bits by omega)
    rw [Int.toNat_natCast]
    have hp0 := pow2_pos b
    have hlt := Int.emod_lt_of_pos v hp0
    have hnn := Int.emod_nonneg v (show (2 : Int) ^ b ≠ 0 by omega)
    have e : ((2 : Int) ^ b) = ((2 ^ b : Nat) : Int) := by rw [Int.natCast_pow]; rfl
    have := (wide_eq (v % 2 ^ b).toNat b (by rw [e] at hlt hnn ⊢; omega) (by omega) (by omega)).2
    omega

/-- the closure of Near -/
theorem near1_any (i n bits : Int) (B1 B2 : Nat) (w : World) (hi1 : -9223372036854775808 ≤ i) (hi2 : i ≤ 9223372036854775807) (hn1 : -1048576 ≤ n) (hn2 : n ≤ 1048576)
    (c1 : w.cell? ⟨B1, 0, none⟩ = some (.int .i64 bits)) (c2 : w.cell? ⟨B2, 0, none⟩ = some (.int .i64 n)) :
    Calls Try.prog 26 #[.int .i64 i, .pointer (some ⟨B1, 0, none⟩), .pointer (some ⟨B2, 0, none⟩)] w fun e w' => e = .returned (.int .i64 ((wideV i bits - n) * (wideV i bits - n))) ∧ Dr w w' := by
  have hb := wideV_bd i bits
  have hsq := sq_bd (n := wideV i bits - n) (by omega) (by omega)
  have s1 : IntKind.i64.wrap (wideV i bits - n) = wideV i bits - n := IntWalk.i64_in _ (by omega)
  go_enter Try.func26, Try.ntmps26
  go_wp2_with fail
  go_quiet ((first | (go_at_call 9; exact Calls.quiet_of_same ((wide_any _ _ _ hi1 hi2).mono (fun _ _ h => ⟨h.1, h.2.symm⟩))) | (go_at_call 27; exact Calls.quiet_of_same ((square_any _ _ (by omega) (by omega)).mono (fun _ _ h => ⟨h.1, h.2.symm⟩)))))
  go_wp2
  go_ret
  exact ⟨rfl, Dr.drewN (Dr.refl _) _⟩
end Go.Proofs.Ytonamhikhjjacaa
