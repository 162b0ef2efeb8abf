import Derived.Test.YtonamhikhjjacaaA
namespace Go.Proofs.Ytonamhikhjjacaa
open Go.RowKit

/-- bits repeated -/
def wl (u b : Nat) : Nat → Nat
  | 0 => 0
  | k + 1 => wl u b k * 2 ^ b + u
def rounds (b : Nat) : Nat := (7 + b) / b
def wideN (u b : Nat) : Nat := wl u b (rounds b) / 2 ^ (b * rounds b - 8)
def wr' (u b : Nat) : Nat → Nat
  | 0 => 0
  | i + 1 => 2 * wr' u b i + u / 2 ^ (b - 1 - i % b) % 2
def wideV (v bits : Int) : Int := if bits < 1 ∨ 8 < bits then 0 else (wideN (v % 2 ^ bits.toNat).toNat bits.toNat : Int)

theorem wide_eq_all : ∀ b : Fin 9, ∀ u : Fin 256, 1 ≤ b.val → u.val < 2 ^ b.val → wideN u.val b.val = wr' u.val b.val 8 ∧ wideN u.val b.val < 256 := by decide +kernel
theorem wide_eq (u b : Nat) (hu : u < 2 ^ b) (h1 : 1 ≤ b) (h2 : b ≤ 8) : wideN u b = wr' u b 8 ∧ wideN u b < 256 :=
  wide_eq_all ⟨b, by omega⟩ ⟨u, by have : 2 ^ b ≤ 2 ^ 8 := Nat.pow_le_pow_right (by omega) h2; omega⟩ h1 hu

theorem wl_lt (u b : Nat) (hu : u < 2 ^ b) (k : Nat) : wl u b k < 2 ^ (b * k) := by
  induction k with
  | zero => simp [wl]
  | succ k ih =>
    simp only [wl]
    have : (wl u b k + 1) * 2 ^ b ≤ 2 ^ (b * k) * 2 ^ b := Nat.mul_le_mul_right _ (by omega)
    rw [Nat.mul_succ, Nat.pow_add]
    rw [Nat.add_mul] at this
    omega

/-- a mask of low bits, of any number -/
theorem and_low (v : Int) (k : Nat) (hk : k ≤ 60) : bits .and .i64 v (2 ^ k - 1) = v % 2 ^ k := by
  have hp : 2 ^ k ≤ 2 ^ 60 := Nat.pow_le_pow_right (by omega) hk
  have hp0 : 0 < 2 ^ k := Nat.pow_pos (by omega)
  have e : ((2 : Int) ^ k) = ((2 ^ k : Nat) : Int) := by rw [Int.natCast_pow]; rfl
  have e1 : ((2 : Int) ^ k) - 1 = ((2 ^ k - 1 : Nat) : Int) := by rw [e]; omega
  rw [e1, e]
  show IntKind.i64.wrap ((BitVec.ofInt 64 v &&& BitVec.ofInt 64 ((2 ^ k - 1 : Nat) : Int)).toNat : Int) = _
  rw [BitVec.toNat_and, BitVec.ofInt_natCast, BitVec.toNat_ofNat, Nat.mod_eq_of_lt (show 2 ^ k - 1 < 2 ^ 64 by omega), Nat.and_two_pow_sub_one_eq_mod, BitVec.toNat_ofInt]
  have hd : ((2 ^ 64 : Nat) : Int) = ((2 ^ k : Nat) : Int) * ((2 ^ (64 - k) : Nat) : Int) := by
    rw [← Int.natCast_mul, ← Nat.pow_add, show k + (64 - k) = 64 by omega]
  have hnn : 0 ≤ v % ((2 ^ 64 : Nat) : Int) := Int.emod_nonneg _ (by omega)
  have key : ((v % ((2 ^ 64 : Nat) : Int)).toNat % 2 ^ k : Nat) = (v % ((2 ^ k : Nat) : Int)).toNat := by
    have h1 : (((v % ((2 ^ 64 : Nat) : Int)).toNat % 2 ^ k : Nat) : Int) = v % ((2 ^ k : Nat) : Int) := by
      rw [Int.natCast_emod, Int.toNat_of_nonneg hnn, Int.emod_emod_of_dvd _ ⟨_, hd⟩]
    omega
  rw [key]
  have b1 := Int.emod_nonneg v (show ((2 ^ k : Nat) : Int) ≠ 0 by omega)
  have b2 := Int.emod_lt_of_pos v (show 0 < ((2 ^ k : Nat) : Int) by omega)
  rw [Int.toNat_of_nonneg b1, IntKind.wrap_i64]
  omega

theorem ofInt_i64 (a : Nat) (ha : a < 9223372036854775808) : (BitVec.ofInt 64 (a : Int)).toNat = a := by
  rw [BitVec.ofInt_natCast, BitVec.toNat_ofNat]; exact Nat.mod_eq_of_lt (by omega)
theorem i64_or_nat (a b : Nat) (ha : a < 9223372036854775808) (hb : b < 9223372036854775808) : bits .or .i64 (a : Int) (b : Int) = ((a ||| b : Nat) : Int) := by
  have hx : a ||| b < 2 ^ 63 := Nat.or_lt_two_pow (by omega) (by omega)
  show IntKind.i64.wrap ((BitVec.ofInt 64 (a : Int) ||| BitVec.ofInt 64 (b : Int)).toNat : Int) = _
  rw [BitVec.toNat_or, ofInt_i64 a ha, ofInt_i64 b hb, IntKind.wrap_i64]
  omega
theorem or_shift (o u b : Nat) (ho : o < 65536) (hb : b ≤ 8) (hu : u < 2 ^ b) : bits .or .i64 (wrap64 ((o : Int) * 2 ^ b)) (u : Int) = ((o * 2 ^ b + u : Nat) : Int) := by
  have h2 : 2 ^ b ≤ 2 ^ 8 := Nat.pow_le_pow_right (by omega) hb
  have h3 : o * 2 ^ b ≤ 65536 * 2 ^ 8 := Nat.mul_le_mul (by omega) h2
  have e : ((2 : Int) ^ b) = ((2 ^ b : Nat) : Int) := by rw [Int.natCast_pow]; rfl
  rw [e, ← Int.natCast_mul, IntWalk.wrap64_in _ ⟨by omega, by omega⟩, i64_or_nat _ _ (by omega) (by omega), Nat.mul_comm, ← Nat.two_pow_add_eq_or_of_lt hu]

theorem wide_no (v bits : Int) (w : World) (h : bits < 1 ∨ 8 < bits) : Calls Try.prog 9 #[.int .i64 v, .int .i64 bits] w fun e w' => e = .returned (.int .i64 0) ∧ w = w' := by
  have ho : oddV bits = true := by unfold oddV; simpa using h
  clear h
  go_enter Try.func9, Try.ntmps9
  go_wp2_with (go_at_call 22; refine (odd_any _ _).mono ?_; rintro e w' ⟨rfl, rfl⟩)
  go_ret
  exact ⟨rfl, rfl⟩

set_option maxHeartbeats 400000 in
theorem wide_ok (v : Int) (b : Nat) (w : World) (h1 : 1 ≤ b) (h2 : b ≤ 8) (_g1 : -9223372036854775808 ≤ v) (_g2 : v ≤ 9223372036854775807) :
    Calls Try.prog 9 #[.int .i64 v, .int .i64 b] w fun e w' => e = .returned (.int .i64 (wideN (v % 2 ^ b).toNat b)) ∧ w = w' := by
  have ho : oddV b = false := by unfold oddV; simp; omega
  have hp := pow2_le h2
  have hp0 := pow2_pos b
  obtain ⟨u, hu⟩ : ∃ u : Nat, (u : Int) = v % 2 ^ b := ⟨(v % 2 ^ b).toNat, Int.toNat_of_nonneg (Int.emod_nonneg _ (by omega))⟩
  have hlt : (u : Int) < 2 ^ b := by rw [hu]; exact Int.emod_lt_of_pos _ hp0
  have ha := and_low v b (by omega)
  rw [← hu] at ha
  rw [← hu, Int.toNat_natCast]
  clear hu
  go_enter Try.func9, Try.ntmps9
  go_wp2_with (go_at_call 22; refine (odd_any _ _).mono ?_; rintro e w' ⟨rfl, rfl⟩)
  have hpn : 2 ^ b ≤ 256 := by have : 2 ^ b ≤ 2 ^ 8 := Nat.pow_le_pow_right (by omega) h2; omega
  have hun : u < 2 ^ b := by
    have e : ((2 : Int) ^ b) = ((2 ^ b : Nat) : Int) := by rw [Int.natCast_pow]; rfl
    rw [e] at hlt; omega
  have HL := hide (wl_lt u b hun)
  have HN := hide hun
  clear hun ha ho
  go_loop [5, 6] (fun o h => ∃ k m : Nat, Hid (m = b * k) ∧ m < 8 + b ∧ h = .int .i64 (m : Int) ∧ o = .int .i64 (wl u b k : Int)) (fun _ h => 8 - (intOf h).toNat)
  case atStart => exact ⟨0, 0, hide rfl, by omega, by simp, rfl⟩
  case round =>
    obtain ⟨k, m, hkm, hk, rfl, rfl⟩ := hrel
    have h16 : 2 ^ (b * k) ≤ 2 ^ 16 := Nat.pow_le_pow_right (by omega) (by rw [← hkm.out]; omega)
    have hw := HL.out k
    obtain ⟨o, ho⟩ : ∃ o, o = wl u b k := ⟨_, rfl⟩
    have hw2 : o < 65536 := by omega
    clear h16 hw
    rw [← ho]
    have HO := hide ho
    clear ho
    by_cases hl : m < 8
    · go_wp2
      go_round
      case rel => exact ⟨k + 1, m + b, by rw [hkm.out, Nat.mul_succ]; exact hide rfl, by omega, by go_num, by rw [or_shift o u b hw2 h2 HN.out, wl, HO.out]⟩
      case measure => simp [intOf]; omega
    · go_wp2
      go_ret
      have hkr : k = rounds b := by
        have h := hkm.out
        have e : (k + 1) * b = b * k + b := by rw [Nat.add_mul, Nat.mul_comm k]; omega
        have e2 : k * b = b * k := Nat.mul_comm _ _
        exact (Nat.div_eq_of_lt_le (by omega) (by omega)).symm
      refine ⟨ret1 ?_, rfl⟩
      have h := hkm.out
      subst hkr
      unfold wideN
      rw [← h, ← HO.out, Int.natCast_ediv, Int.natCast_pow]
      rfl
end Go.Proofs.Ytonamhikhjjacaa
