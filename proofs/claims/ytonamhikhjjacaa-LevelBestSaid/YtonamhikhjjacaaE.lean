import Derived.Test.YtonamhikhjjacaaD
namespace Go.Proofs.Ytonamhikhjjacaa
open Go.RowKit

def sqd (n bits : Int) (v : Nat) : Int := (wideV v bits - n) * (wideV v bits - n)
def nearV (n bits : Int) : Int := if bits < 1 ∨ 8 < bits then 0 else ((leastK (sqd n bits) (2 ^ bits.toNat)).1 : Int)

theorem leastK_val (g : Nat → Int) (k : Nat) (h : 1 ≤ k) : (leastK g k).2 = g (leastK g k).1 ∧ (leastK g k).1 < k := by
  induction k with
  | zero => omega
  | succ k ih =>
    rw [leastK]
    by_cases hc : k = 0 ∨ g k < (leastK g k).2
    · rw [if_pos hc]; exact ⟨rfl, by simp⟩
    · rw [if_neg hc]
      have := ih (by omega)
      exact ⟨this.1, by omega⟩

theorem cell_new (w : World) (cs : Array Value) (t : TypeId) (j : Nat) : (w.alloc (.cells cs t)).cell? ⟨w.heap.size, j, none⟩ = cs[j]? := by
  rw [cell_of_row _ _ j _ _ _ (heap_alloc_new w _)]
theorem cell_old (w : World) (o : Obj) {a : Addr} (h : a.block < w.heap.size) : (w.alloc o).cell? a = w.cell? a :=
  ((Below.refl w.heap.size w).alloc (Nat.le_refl _) o).cell h

theorem hmf (fn : Fn) (first cap : Array Value) (w : World) : (Instr.makeFunc fn first cap).run Try.prog w = .ok (.func fn first cap) w := rfl

theorem near_no (n bits : Int) (w : World) (h : bits < 1 ∨ 8 < bits) : Calls Try.prog 11 #[.int .i64 n, .int .i64 bits] w fun e w' => e = .returned (.int .i64 0) ∧ Below w.heap.size w w' := by
  have ho : oddV bits = true := by unfold oddV; simpa using h
  clear h
  go_enter Try.func11, Try.ntmps11
  go_wp2_with (go_at_call 22; refine (odd_any _ _).mono ?_; rintro e w' ⟨rfl, rfl⟩)
  go_ret
  exact ⟨rfl, ((Below.refl _ _).alloc (Nat.le_refl _) _).alloc (by simp) _⟩

set_option maxHeartbeats 400000 in
theorem near_ok (n : Int) (b : Nat) (w : World) (h1 : 1 ≤ b) (h2 : b ≤ 8) (hn1 : -1048576 ≤ n) (hn2 : n ≤ 1048576) :
    Calls Try.prog 11 #[.int .i64 n, .int .i64 b] w fun e w' => e = .returned (.int .i64 ((leastK (sqd n b) (2 ^ b)).1 : Int)) ∧ Below w.heap.size w w' := by
  have ho : oddV b = false := by unfold oddV; simp; omega
  have hp := pow2_le h2
  have hp0 := pow2_pos b
  have hm := hmf
  have hpn : 2 ^ b ≤ 256 := by have : 2 ^ b ≤ 2 ^ 8 := Nat.pow_le_pow_right (by omega) h2; omega
  obtain ⟨m, hm2⟩ : ∃ m : Nat, m = 2 ^ b := ⟨_, rfl⟩
  have HM : Hid ((2 : Int) ^ b = (m : Int)) := by rw [hm2, Int.natCast_pow]; exact hide rfl
  rw [← hm2] at hpn ⊢
  clear hm2
  have c1 : ((w.alloc (.cells #[.int .i64 n] 3)).alloc (.cells #[.int .i64 b] 3)).cell? ⟨w.heap.size + 1, 0, none⟩ = some (.int .i64 b) := by
    simp
  have c2 : ((w.alloc (.cells #[.int .i64 n] 3)).alloc (.cells #[.int .i64 b] 3)).cell? ⟨w.heap.size, 0, none⟩ = some (.int .i64 n) := by
    rw [cell_old _ _ (by simp), cell_new]; rfl
  have C1 := hide c1
  have C2 := hide c2
  clear c1 c2
  go_enter Try.func11, Try.ntmps11
  go_wp2_with (go_at_call 22; refine (odd_any _ _).mono ?_; rintro e w' ⟨rfl, rfl⟩)
  rw [HM.out]
  refine (least_any 26 _ _ (sqd n b) m _ (by omega) cf26 (fun i wr hi hd => near1_any i n b (w.heap.size + 1) w.heap.size wr (by omega) (by omega) hn1 hn2 ((hd.cell _).trans C1.out) ((hd.cell _).trans C2.out))).mono ?_
  rintro e w' ⟨rfl, hd⟩
  go_wp2
  go_ret
  exact ⟨rfl, (((Below.refl _ _).alloc (Nat.le_refl _) _).alloc (by simp) _).trans (hd.below _)⟩

theorem near_any (n bits : Int) (w : World) (hn1 : -1048576 ≤ n) (hn2 : n ≤ 1048576) :
    Calls Try.prog 11 #[.int .i64 n, .int .i64 bits] w fun e w' => e = .returned (.int .i64 (nearV n bits)) ∧ Below w.heap.size w w' := by
  unfold nearV
  by_cases h : bits < 1 ∨ 8 < bits
  · rw [if_pos h]; exact near_no n bits w h
  · rw [if_neg h]
    obtain ⟨b, rfl⟩ := Int.eq_ofNat_of_zero_le (show 0 ≤ bits by omega)
    rw [Int.toNat_natCast]
    exact near_ok n b w (by omega) (by omega) hn1 hn2

theorem rnear_no (n bits : Int) (w : World) (h : bits < 1 ∨ 8 < bits) : Calls Try.prog 12 #[.int .i64 n, .int .i64 bits] w fun e w' => e = .returned (.int .i64 0) ∧ w = w' := by
  go_enter Try.func12, Try.ntmps12
  go_wp2_with fail
  all_goals first | (exfalso; omega) | skip
  all_goals go_ret
  all_goals exact ⟨rfl, rfl⟩

set_option maxHeartbeats 800000 in
theorem rnear_ok (n : Int) (b : Nat) (w : World) (h1 : 1 ≤ b) (h2 : b ≤ 8) (hn1 : -1048576 ≤ n) (hn2 : n ≤ 1048576) :
    Calls Try.prog 12 #[.int .i64 n, .int .i64 b] w fun e w' => e = .returned (.int .i64 ((leastK (sqd n b) (2 ^ b)).1 : Int)) ∧ w = w' := by
  have ho : (decide ((b : Int) < 1) || decide (8 < (b : Int))) = false := by simp; omega
  have hpn : 2 ^ b ≤ 256 := by have : 2 ^ b ≤ 2 ^ 8 := Nat.pow_le_pow_right (by omega) h2; omega
  have hpn1 : 2 ≤ 2 ^ b := by have : 2 ^ 1 ≤ 2 ^ b := Nat.pow_le_pow_right (by omega) h1; omega
  obtain ⟨m, hm2⟩ : ∃ m : Nat, m = 2 ^ b := ⟨_, rfl⟩
  have HM : Hid ((2 : Int) ^ b = (m : Int)) := by rw [hm2, Int.natCast_pow]; exact hide rfl
  rw [← hm2] at hpn hpn1 ⊢
  clear hm2
  have HB := hide wideV_bd
  go_enter Try.func12, Try.ntmps12
  go_wp2_with fail
  go_loop [5, 6] (fun o i => ∃ k : Nat, 1 ≤ k ∧ k ≤ m ∧ i = .int .i64 k ∧ o = .int .i64 ((leastK (sqd n b) k).1 : Int)) (fun _ i => m - (intOf i).toNat)
  case atStart => exact ⟨1, by omega, by omega, rfl, rfl⟩
  case round =>
    obtain ⟨k, hk1, hk, rfl, rfl⟩ := hrel
    obtain ⟨hv, hl⟩ := leastK_val (sqd n b) k hk1
    obtain ⟨o, ho2⟩ : ∃ o, o = leastK (sqd n b) k := ⟨_, rfl⟩
    rw [← ho2] at hv hl ⊢
    have HV := hide hv
    have HO := hide ho2
    clear ho2 hv
    go_wp2_with fail
    refine (power_any b _ (by omega)).mono ?_
    rintro e w' ⟨rfl, rfl⟩
    rw [HM.out]
    by_cases hlt : k < m
    · have x1 := HB.out (k : Int) b
      have x2 := HB.out (o.1 : Int) b
      by_cases hc : sqd n b k < o.2
      · have HL : Hid (leastK (sqd n b) (k + 1) = (k, sqd n b k)) := by rw [leastK, if_pos (by rw [← HO.out]; exact Or.inr hc)]; exact hide rfl
        have hc2 : (wideV k b - n) * (wideV k b - n) < (wideV o.1 b - n) * (wideV o.1 b - n) := by rw [HV.out] at hc; exact hc
        clear hc
        go_wp2_with fail
        refine (rwide_any _ _ _ (by omega) (by omega)).mono ?_
        rintro e w' ⟨rfl, rfl⟩
        go_wp2_with fail
        refine (far_any _ _ (by omega) (by omega)).mono ?_
        rintro e w' ⟨rfl, rfl⟩
        go_wp2_with fail
        refine (rwide_any _ _ _ (by omega) (by omega)).mono ?_
        rintro e w' ⟨rfl, rfl⟩
        go_wp2_with fail
        refine (far_any _ _ (by omega) (by omega)).mono ?_
        rintro e w' ⟨rfl, rfl⟩
        go_wp2_with fail
        go_round
        case rel => exact ⟨k + 1, by omega, by omega, by go_num, by rw [HL.out]⟩
        case measure => simp [intOf]; omega
      · have HL : Hid (leastK (sqd n b) (k + 1) = o) := by rw [leastK, if_neg (by rw [← HO.out]; intro h; rcases h with h | h; omega; exact hc h)]; exact hide HO.out.symm
        have hc2 : ¬ (wideV k b - n) * (wideV k b - n) < (wideV o.1 b - n) * (wideV o.1 b - n) := by rw [HV.out] at hc; exact hc
        clear hc
        go_wp2_with fail
        refine (rwide_any _ _ _ (by omega) (by omega)).mono ?_
        rintro e w' ⟨rfl, rfl⟩
        go_wp2_with fail
        refine (far_any _ _ (by omega) (by omega)).mono ?_
        rintro e w' ⟨rfl, rfl⟩
        go_wp2_with fail
        refine (rwide_any _ _ _ (by omega) (by omega)).mono ?_
        rintro e w' ⟨rfl, rfl⟩
        go_wp2_with fail
        refine (far_any _ _ (by omega) (by omega)).mono ?_
        rintro e w' ⟨rfl, rfl⟩
        go_wp2_with fail
        go_round
        case rel => exact ⟨k + 1, by omega, by omega, by go_num, by rw [HL.out]⟩
        case measure => simp [intOf]; omega
    · obtain rfl : k = m := by omega
      go_wp2_with fail
      go_ret
      exact ⟨ret1 (by rw [HO.out]), rfl⟩

theorem rnear_any (n bits : Int) (w : World) (hn1 : -1048576 ≤ n) (hn2 : n ≤ 1048576) :
    Calls Try.prog 12 #[.int .i64 n, .int .i64 bits] w fun e w' => e = .returned (.int .i64 (nearV n bits)) ∧ w = w' := by
  unfold nearV
  by_cases h : bits < 1 ∨ 8 < bits
  · rw [if_pos h]; exact rnear_no n bits w h
  · rw [if_neg h]
    obtain ⟨b, rfl⟩ := Int.eq_ofNat_of_zero_le (show 0 ≤ bits by omega)
    rw [Int.toNat_natCast]
    exact rnear_ok n b w (by omega) (by omega) hn1 hn2
end Go.Proofs.Ytonamhikhjjacaa
