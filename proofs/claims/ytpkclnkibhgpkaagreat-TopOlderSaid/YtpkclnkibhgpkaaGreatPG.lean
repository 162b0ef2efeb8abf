import Derived.Test.YtpkclnkibhgpkaaGreatPA
namespace Go.Proofs.YtpkclnkibhgpkaaGreat
open Go.RowKit

def sumV (a b : Int) : Int × Int := if a < 0 ∨ b < 0 then (0, 1) else if 2147483647 < a ∨ 2147483647 - a < b then (0, 10) else (a + b, 0)
def timesV (a b : Int) : Int × Int := if a < 0 ∨ b < 0 then (0, 1) else if 2147483647 < a * b then (0, 10) else (a * b, 0)

theorem sum_any (a b : Int) (w : World) (h1 : -9223372036854775808 ≤ a) (h2 : a ≤ 9223372036854775807) (h3 : -9223372036854775808 ≤ b) (h4 : b ≤ 9223372036854775807) :
    Calls Tryz.prog 96 #[.int .i64 a, .int .i64 b] w fun e w' => e = .returned (.tuple #[.int .i64 (sumV a b).1, .int .i64 (sumV a b).2]) ∧ w = w' := by
  go_enter Tryz.func96, Tryz.ntmps96
  go_wp2
  all_goals go_ret2
  all_goals refine ⟨ret2 ?_, rfl⟩
  all_goals unfold sumV
  all_goals (repeat' split) <;> first | rfl | (exfalso; omega)

theorem tv_neg {a b : Int} (h : a < 0 ∨ b < 0) : ((0 : Int), (1 : Int)) = timesV a b := by unfold timesV; rw [if_pos h]
theorem tv_over {a b : Int} (ha : 0 ≤ a) (hb : 0 < b) (h : 2147483647 / b < a) : ((0 : Int), (10 : Int)) = timesV a b := by
  rw [Int.ediv_lt_iff_lt_mul hb] at h
  unfold timesV; rw [if_neg (by omega), if_pos h]
theorem tv_ok {a b : Int} (ha : 0 ≤ a) (hb : 0 < b) (h : a ≤ 2147483647 / b) : (wrap64 (a * b), (0 : Int)) = timesV a b := by
  rw [Int.le_ediv_iff_mul_le hb] at h
  have h0 : 0 ≤ a * b := Int.mul_nonneg ha (by omega)
  rw [IntWalk.wrap64_in (a * b) ⟨by omega, by omega⟩]
  unfold timesV; rw [if_neg (by omega), if_neg (by omega)]

theorem tv_zero {a b : Int} (hn : ¬ (a < 0 ∨ b < 0)) (h : a = 0 ∨ b = 0) : ((0 : Int), (0 : Int)) = timesV a b := by
  have e : a * b = 0 := by rcases h with h | h <;> simp [h]
  unfold timesV; rw [if_neg hn, e]; rfl

theorem times_any (a b : Int) (w : World) (h1 : -9223372036854775808 ≤ a) (h2 : a ≤ 9223372036854775807) (h3 : -9223372036854775808 ≤ b) (h4 : b ≤ 9223372036854775807) :
    Calls Tryz.prog 95 #[.int .i64 a, .int .i64 b] w fun e w' => e = .returned (.tuple #[.int .i64 (timesV a b).1, .int .i64 (timesV a b).2]) ∧ w = w' := by
  by_cases hn : a < 0 ∨ b < 0
  · go_enter Tryz.func95, Tryz.ntmps95
    go_wp2
    all_goals first | (exfalso; omega) | skip
    all_goals go_ret2
    all_goals exact ⟨ret2 (tv_neg hn), rfl⟩
  · by_cases hb : b = 0
    · subst hb
      go_enter Tryz.func95, Tryz.ntmps95
      go_wp2
      all_goals first | (exfalso; omega) | skip
      all_goals go_ret2
      all_goals first | exact ⟨ret2 (tv_zero hn (by omega)), rfl⟩ | (simp only [Int.mul_zero, Int.zero_mul]; exact ⟨ret2 (tv_zero hn (by omega)), rfl⟩)
    · have hb' : 0 < b := by omega
      have ha' : 0 ≤ a := by omega
      have hq : 0 ≤ 2147483647 / b := Int.ediv_nonneg (by omega) (by omega)
      have hq2 : 2147483647 / b ≤ 2147483647 := Int.ediv_le_self _ (by omega)
      clear hn
      by_cases hl : 2147483647 / b < a
      · go_enter Tryz.func95, Tryz.ntmps95
        go_wp2
        go_ret2
        exact ⟨ret2 (tv_over ha' hb' hl), rfl⟩
      · have hl' : a ≤ 2147483647 / b := by omega
        go_enter Tryz.func95, Tryz.ntmps95
        go_wp2
        go_ret2
        exact ⟨ret2 (tv_ok ha' hb' hl'), rfl⟩

end Go.Proofs.YtpkclnkibhgpkaaGreat
