import Derived.Test.YtonamhikhjjacaaRows
import Derived.WalkKit
import Derived.ProofKit
import Derived.OpenShut
import Derived.Deep.QuietTactic
import Derived.BigQuiet
import Derived.WalkSpells
import Derived.Laws.BitsAllLaws
import Derived.Laws.BitsLemmas
namespace Go.Proofs.Ytonamhikhjjacaa
open Go.RowKit

theorem hide {p : Prop} (h : p) : Hid p := h
theorem ret2 {k l : IntKind} {a b c d : Int} (h : (a, b) = (c, d)) : Ending.returned (.tuple #[.int k a, .int l b]) = Ending.returned (.tuple #[.int k c, .int l d]) := by
  cases h; rfl
theorem ret1b {a b : Bool} (h : a = b) : Ending.returned (.bool a) = Ending.returned (.bool b) := by rw [h]
theorem ret1 {k : IntKind} {a b : Int} (h : a = b) : Ending.returned (.int k a) = Ending.returned (.int k b) := by rw [h]

def Dr (w w' : World) : Prop := ∃ q, w' = w.drewN q
theorem Dr.refl (w : World) : Dr w w := ⟨0, rfl⟩
theorem Dr.drewN {w w' : World} (h : Dr w w') (n : Nat) : Dr w (w'.drewN n) := by obtain ⟨q, rfl⟩ := h; exact ⟨q + n, by simp⟩
theorem Dr.drew {w w' : World} (h : Dr w w') : Dr w w'.drew := h.drewN 1
theorem Dr.trans {a b c : World} (h : Dr a b) (k : Dr b c) : Dr a c := by obtain ⟨q, rfl⟩ := k; exact h.drewN q
theorem Dr.cell {w w' : World} (h : Dr w w') (a : Addr) : w'.cell? a = w.cell? a := by obtain ⟨q, rfl⟩ := h; rfl
theorem Dr.below {w w' : World} (h : Dr w w') (B : Nat) : Below B w w' := by obtain ⟨q, rfl⟩ := h; exact ⟨rfl, rfl, rfl, Nat.le_refl _, fun _ _ => rfl⟩
theorem Dr.heap {w w' : World} (h : Dr w w') : w'.heap = w.heap := by obtain ⟨q, rfl⟩ := h; rfl

def oddV (bits : Int) : Bool := decide (bits < 1 ∨ 8 < bits)
theorem odd_any (bits : Int) (w : World) : Calls Try.prog 22 #[.int .i64 bits] w fun e w' => e = .returned (.bool (oddV bits)) ∧ w = w' := by
  go_enter Try.func22, Try.ntmps22
  go_wp2
  all_goals go_ret
  all_goals refine ⟨ret1b ?_, rfl⟩
  all_goals unfold oddV
  all_goals (rw [Bool.eq_iff_iff]; simp; try omega)

theorem sq_bd {n : Int} (h1 : -16777216 ≤ n) (h2 : n ≤ 16777216) : 0 ≤ n * n ∧ n * n ≤ 281474976710656 := by
  by_cases h : 0 ≤ n
  · exact ⟨Int.mul_nonneg h h, by have := Int.mul_le_mul h2 h2 h (by omega); omega⟩
  · have e : n * n = (-n) * (-n) := by rw [Int.neg_mul_neg]
    rw [e]
    have h3 : 0 ≤ -n := by omega
    exact ⟨Int.mul_nonneg h3 h3, by have := Int.mul_le_mul (show -n ≤ 16777216 by omega) (show -n ≤ 16777216 by omega) h3 (by omega); omega⟩

theorem square_any (n : Int) (w : World) (h1 : -16777216 ≤ n) (h2 : n ≤ 16777216) : Calls Try.prog 27 #[.int .i64 n] w fun e w' => e = .returned (.int .i64 (n * n)) ∧ w = w' := by
  have hb := sq_bd h1 h2
  go_enter Try.func27, Try.ntmps27
  go_wp2
  go_ret
  exact ⟨rfl, rfl⟩
theorem far_any (n : Int) (w : World) (h1 : -16777216 ≤ n) (h2 : n ≤ 16777216) : Calls Try.prog 28 #[.int .i64 n] w fun e w' => e = .returned (.int .i64 (n * n)) ∧ w = w' := by
  have hb := sq_bd h1 h2
  go_enter Try.func28, Try.ntmps28
  go_wp2
  go_ret
  exact ⟨rfl, rfl⟩

def smallV (n : Int) : Bool := decide (-1048576 ≤ n ∧ n ≤ 1048576)
theorem small_any (n : Int) (w : World) : Calls Try.prog 17 #[.int .i64 n] w fun e w' => e = .returned (.bool (smallV n)) ∧ w = w' := by
  go_enter Try.func17, Try.ntmps17
  go_wp2
  all_goals go_ret
  all_goals refine ⟨ret1b ?_, rfl⟩
  all_goals unfold smallV
  all_goals (rw [Bool.eq_iff_iff]; simp; try omega)

theorem tmod_facts {n m : Int} (hm : 1 ≤ m) (hn : n < 0) : -m < n.tmod m ∧ n.tmod m ≤ 0 ∧ (n.tmod m < 0 → n % m = n.tmod m + m) ∧ (0 ≤ n.tmod m → n % m = n.tmod m) := by
  have e : n.tmod m = -((-n) % m) := by
    have h := Int.neg_tmod (-n) m
    rw [Int.neg_neg] at h
    rw [h, Int.tmod_eq_emod_of_nonneg (by omega)]
  have b1 := Int.emod_nonneg (-n) (show m ≠ 0 by omega)
  have b2 := Int.emod_lt_of_pos (-n) (show 0 < m by omega)
  have d := Int.mul_ediv_add_emod (-n) m
  have hn2 : n = -((-n) % m) + m * (-((-n) / m)) := by rw [Int.mul_neg]; omega
  have key : n % m = (-((-n) % m)) % m := by
    conv => lhs; rw [hn2]
    rw [Int.add_mul_emod_self_left]
  rw [e]
  refine ⟨by omega, by omega, fun h => ?_, fun h => ?_⟩
  · rw [key, ← Int.add_emod_right, Int.emod_eq_of_lt (by omega) (by omega)]
  · have h0 : (-n) % m = 0 := by omega
    rw [key, h0]; simp

theorem mod_any (n m : Int) (w : World) (h1 : 1 ≤ m) (h2 : m ≤ 9223372036854775807) (_h3 : -9223372036854775808 ≤ n) (_h4 : n ≤ 9223372036854775807) : Calls Try.prog 23 #[.int .i64 n, .int .i64 m] w fun e w' => e = .returned (.int .i64 (n % m)) ∧ w = w' := by
  by_cases hn : 0 ≤ n
  · have b1 := Int.emod_nonneg n (show m ≠ 0 by omega)
    go_enter Try.func23, Try.ntmps23
    go_wp2
    go_ret
    exact ⟨rfl, rfl⟩
  · obtain ⟨g1, g2, g3, g4⟩ := tmod_facts h1 (show n < 0 by omega)
    have H3 := hide g3
    have H4 := hide g4
    clear g3 g4
    go_enter Try.func23, Try.ntmps23
    go_wp2
    · go_ret
      exact ⟨ret1 (H3.out (by assumption)).symm, rfl⟩
    · go_ret
      exact ⟨ret1 (H4.out (by assumption)).symm, rfl⟩

theorem pow2_le {k m : Nat} (h : k ≤ m) : (2 : Int) ^ k ≤ 2 ^ m := by
  have h1 : 2 ^ k ≤ 2 ^ m := Nat.pow_le_pow_right (by omega) h
  have e : ∀ j : Nat, ((2 : Int) ^ j) = ((2 ^ j : Nat) : Int) := fun j => by rw [Int.natCast_pow]; rfl
  rw [e, e]; omega
theorem pow2_pos (k : Nat) : 0 < (2 : Int) ^ k := Int.pow_pos (by omega)

theorem power_any (k : Nat) (w : World) (h : k ≤ 60) : Calls Try.prog 24 #[.int .i64 k] w fun e w' => e = .returned (.int .i64 (2 ^ k)) ∧ w = w' := by
  go_enter Try.func24, Try.ntmps24
  go_wp2
  go_loop [3, 4] (fun m i => ∃ j : Nat, j ≤ k ∧ i = .int .i64 j ∧ m = .int .i64 (2 ^ j)) (fun _ i => k - (intOf i).toNat)
  case atStart => exact ⟨0, by omega, rfl, rfl⟩
  case round =>
    obtain ⟨j, hj, rfl, rfl⟩ := hrel
    have hp := pow2_le (show j ≤ 60 by omega)
    have hp0 := pow2_pos j
    by_cases hlt : j < k
    · go_wp2
      go_round
      case rel => exact ⟨j + 1, by omega, by go_num, by rw [Int.pow_succ, Int.mul_comm]⟩
      case measure => simp [intOf]; omega
    · obtain rfl : j = k := by omega
      go_wp2
      go_ret
      exact ⟨rfl, rfl⟩

def clampV (n most : Int) : Int := if n > most then (if most < 0 then 0 else most) else if n < 0 then 0 else n
theorem clamp_any (n most : Int) (w : World) : Calls Try.prog 13 #[.int .i64 n, .int .i64 most] w fun e w' => e = .returned (.int .i64 (clampV n most)) ∧ w = w' := by
  go_enter Try.func13, Try.ntmps13
  go_wp2
  all_goals go_ret
  all_goals refine ⟨ret1 ?_, rfl⟩
  all_goals unfold clampV
  all_goals (repeat' split) <;> omega
theorem clamp_ref (n most : Int) (w : World) : Calls Try.prog 14 #[.int .i64 n, .int .i64 most] w fun e w' => e = .returned (.int .i64 (clampV n most)) ∧ w = w' := by
  go_enter Try.func14, Try.ntmps14
  go_wp2
  all_goals go_ret
  all_goals refine ⟨ret1 ?_, rfl⟩
  all_goals unfold clampV
  all_goals (repeat' split) <;> omega
end Go.Proofs.Ytonamhikhjjacaa
