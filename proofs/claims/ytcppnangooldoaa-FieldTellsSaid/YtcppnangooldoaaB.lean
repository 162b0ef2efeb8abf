import Derived.Test.YtcppnangooldoaaA
import Derived.Laws.BitsAllLaws
import Derived.Laws.BitsLemmas
namespace Go.Proofs.Ytcppnangooldoaa
open Go.RowKit

def Dr (w w' : World) : Prop := ∃ q, w' = w.drewN q
theorem Dr.refl (w : World) : Dr w w := ⟨0, rfl⟩
theorem Dr.drewN {w w' : World} (h : Dr w w') (n : Nat) : Dr w (w'.drewN n) := by obtain ⟨q, rfl⟩ := h; exact ⟨q + n, by simp⟩
theorem Dr.drew {w w' : World} (h : Dr w w') : Dr w w'.drew := h.drewN 1
theorem Dr.trans {a b c : World} (h : Dr a b) (k : Dr b c) : Dr a c := by obtain ⟨q, rfl⟩ := k; exact h.drewN q
theorem Dr.cell {w w' : World} (h : Dr w w') (a : Addr) : w'.cell? a = w.cell? a := by obtain ⟨q, rfl⟩ := h; rfl
theorem Dr.below {w w' : World} (h : Dr w w') (B : Nat) : Below B w w' := by obtain ⟨q, rfl⟩ := h; exact ⟨rfl, rfl, rfl, Nat.le_refl _, fun _ _ => rfl⟩
theorem Dr.heap {w w' : World} (h : Dr w w') : w'.heap = w.heap := by obtain ⟨q, rfl⟩ := h; rfl

theorem ret1b {a b : Bool} (h : a = b) : Ending.returned (.bool a) = Ending.returned (.bool b) := by rw [h]
theorem ret1 {k : IntKind} {a b : Int} (h : a = b) : Ending.returned (.int k a) = Ending.returned (.int k b) := by rw [h]
def roomB (n at' bytes : Int) : Bool := decide (at' ≤ n ∧ bytes ≤ n - at')
def chkV (n at' bytes : Int) : Int := if bytes < 1 ∨ 4 < bytes ∨ at' < 0 then 1 else if roomB n at' bytes then 0 else 2
def farV (i bytes : Int) (big : Bool) : Int := if big then 8 * (bytes - 1 - i) else 8 * i

theorem room_any (ao : Option Addr) (n cap : Nat) (at' bytes : Int) (w : World) (hn : n ≤ 9223372036854775807) (h1 : 0 ≤ at') (h2 : at' ≤ 9223372036854775807) :
    Calls Try.prog 21 #[.slice ao n cap, .int .i64 at', .int .i64 bytes] w fun e w' => e = .returned (.bool (roomB n at' bytes)) ∧ w = w' := by
  go_enter Try.func21, Try.ntmps21
  go_wp2
  all_goals go_ret
  all_goals refine ⟨ret1b ?_, rfl⟩
  all_goals unfold roomB
  all_goals simp
  all_goals omega

theorem room_ref (ao : Option Addr) (n cap : Nat) (at' bytes : Int) (w : World) (hn : n ≤ 9223372036854775807) (h1 : 0 ≤ at') (h2 : at' ≤ 9223372036854775807) :
    Calls Try.prog 20 #[.slice ao n cap, .int .i64 at', .int .i64 bytes] w fun e w' => e = .returned (.bool (roomB n at' bytes)) ∧ w = w' := by
  go_enter Try.func20, Try.ntmps20
  go_wp2
  all_goals go_ret
  all_goals refine ⟨ret1b ?_, rfl⟩
  all_goals unfold roomB
  all_goals simp
  all_goals omega

theorem check_any (ao : Option Addr) (n cap : Nat) (at' bytes : Int) (w : World) (hn : n ≤ 9223372036854775807) (h1 : -9223372036854775808 ≤ at') (h2 : at' ≤ 9223372036854775807) (h3 : -9223372036854775808 ≤ bytes) (h4 : bytes ≤ 9223372036854775807) :
    Calls Try.prog 18 #[.slice ao n cap, .int .i64 at', .int .i64 bytes] w fun e w' => e = .returned (.int .i64 (chkV n at' bytes)) ∧ w = w' := by
  by_cases h : bytes < 1 ∨ 4 < bytes ∨ at' < 0
  · go_enter Try.func18, Try.ntmps18
    go_wp2_with fail
    all_goals first | (exfalso; omega) | skip
    all_goals go_ret
    all_goals exact ⟨ret1 (by unfold chkV; rw [if_pos h]), rfl⟩
  · have g1 : 1 ≤ bytes := by omega
    have g2 : bytes ≤ 4 := by omega
    have g3 : 0 ≤ at' := by omega
    have g4 : (decide (bytes < 1) || decide (4 < bytes) || decide (at' < 0)) = false := by simp; omega
    clear h
    by_cases hr : roomB n at' bytes = true
    · go_enter Try.func18, Try.ntmps18
      go_wp2_with (go_at_call 21; refine (room_any _ _ _ _ _ _ hn g3 h2).mono ?_; rintro e w' ⟨rfl, rfl⟩)
      go_ret
      exact ⟨ret1 (by unfold chkV; rw [if_neg (by omega), if_pos hr]), rfl⟩
    · have hr' : roomB n at' bytes = false := by simpa using hr
      clear hr
      go_enter Try.func18, Try.ntmps18
      go_wp2_with (go_at_call 21; refine (room_any _ _ _ _ _ _ hn g3 h2).mono ?_; rintro e w' ⟨rfl, rfl⟩)
      go_ret
      exact ⟨ret1 (by unfold chkV; rw [if_neg (by omega), if_neg (by simp [hr'])]), rfl⟩

theorem far_any (i bytes : Int) (big : Bool) (w : World) (h1 : 0 ≤ i) (h2 : i < bytes) (h3 : bytes ≤ 4) :
    Calls Try.prog 19 #[.int .i64 i, .int .i64 bytes, .bool big] w fun e w' => e = .returned (.int .i64 (farV i bytes big)) ∧ w = w' := by
  cases big <;>
  · go_enter Try.func19, Try.ntmps19
    go_wp2
    go_ret
    exact ⟨ret1 (by simp [farV]), rfl⟩

def getN (f : Nat → Int) (at' bytes : Nat) (big : Bool) : Nat → Int
  | 0 => 0
  | k + 1 => bits .or .i64 (getN f at' bytes big k) (wrap64 (f (at' + k) * 2 ^ (farV k bytes big).toNat))

def refN (f : Nat → Int) (at' bytes : Nat) (big : Bool) : Nat → Int
  | 0 => 0
  | k + 1 => 256 * refN f at' bytes big k + f (if big then at' + k else at' + bytes - 1 - k)

theorem refN_bd (f : Nat → Int) (hf : ∀ i, 0 ≤ f i ∧ f i ≤ 255) (at' bytes : Nat) (big : Bool) (k : Nat) : 0 ≤ refN f at' bytes big k ∧ refN f at' bytes big k < 256 ^ k := by
  induction k with
  | zero => simp [refN]
  | succ k ih =>
    have := hf (if big then at' + k else at' + bytes - 1 - k)
    simp only [refN]
    rw [Int.pow_succ]
    omega

theorem ofInt_i64 (a : Nat) (ha : a < 9223372036854775808) : (BitVec.ofInt 64 (a : Int)).toNat = a := by
  rw [BitVec.ofInt_natCast, BitVec.toNat_ofNat]; exact Nat.mod_eq_of_lt (by omega)
theorem i64_or_nat (a b : Nat) (ha : a < 9223372036854775808) (hb : b < 9223372036854775808) : bits .or .i64 (a : Int) (b : Int) = ((a ||| b : Nat) : Int) := by
  have hx : a ||| b < 2 ^ 63 := Nat.or_lt_two_pow (by omega) (by omega)
  show IntKind.i64.wrap ((BitVec.ofInt 64 (a : Int) ||| BitVec.ofInt 64 (b : Int)).toNat : Int) = _
  rw [BitVec.toNat_or, ofInt_i64 a ha, ofInt_i64 b hb, IntKind.wrap_i64]
  omega
theorem i64_and_nat (a b : Nat) (ha : a < 9223372036854775808) (hb : b < 9223372036854775808) : bits .and .i64 (a : Int) (b : Int) = ((a &&& b : Nat) : Int) := by
  have hx : a &&& b < 2 ^ 63 := Nat.and_lt_two_pow _ (by omega)
  show IntKind.i64.wrap ((BitVec.ofInt 64 (a : Int) &&& BitVec.ofInt 64 (b : Int)).toNat : Int) = _
  rw [BitVec.toNat_and, ofInt_i64 a ha, ofInt_i64 b hb, IntKind.wrap_i64]
  omega

/-- a below 2^s, x times 2^s -/
theorem or_low (a x : Int) (s : Nat) (hs : s ≤ 24) (ha : 0 ≤ a) (ha' : a < 2 ^ s) (hx : 0 ≤ x) (hx' : x ≤ 255) : bits .or .i64 a (wrap64 (x * 2 ^ s)) = a + x * 2 ^ s := by
  obtain ⟨a, rfl⟩ := Int.eq_ofNat_of_zero_le ha
  obtain ⟨x, rfl⟩ := Int.eq_ofNat_of_zero_le hx
  have h2 : 2 ^ s ≤ 2 ^ 24 := Nat.pow_le_pow_right (by omega) hs
  have e : ((2 : Int) ^ s) = ((2 ^ s : Nat) : Int) := by simp
  rw [e] at ha' ⊢
  have h3 : x * 2 ^ s ≤ 255 * 2 ^ 24 := Nat.mul_le_mul (by omega) h2
  rw [← Int.natCast_mul, IntWalk.wrap64_in _ ⟨by omega, by omega⟩, i64_or_nat _ _ (by omega) (by omega)]
  have := Nat.two_pow_add_eq_or_of_lt (i := s) (b := a) (by omega) x
  rw [Nat.mul_comm x, Nat.or_comm, ← this]
  omega
/-- a times 2^(s+8), x times 2^s -/
theorem or_high (a x : Int) (s : Nat) (hs : s ≤ 24) (ha : 0 ≤ a) (ha' : a < 2 ^ 24) (hx : 0 ≤ x) (hx' : x ≤ 255) : bits .or .i64 (a * 2 ^ (s + 8)) (wrap64 (x * 2 ^ s)) = a * 2 ^ (s + 8) + x * 2 ^ s := by
  obtain ⟨a, rfl⟩ := Int.eq_ofNat_of_zero_le ha
  obtain ⟨x, rfl⟩ := Int.eq_ofNat_of_zero_le hx
  have h2 : 2 ^ s ≤ 2 ^ 24 := Nat.pow_le_pow_right (by omega) hs
  have e : ((2 : Int) ^ s) = ((2 ^ s : Nat) : Int) := by simp
  have e8 : ((2 : Int) ^ (s + 8)) = ((2 ^ (s + 8) : Nat) : Int) := by simp
  rw [e, e8]
  have h3 : x * 2 ^ s ≤ 255 * 2 ^ 24 := Nat.mul_le_mul (by omega) h2
  have h8 : (2 : Nat) ^ (s + 8) = 256 * 2 ^ s := by rw [Nat.pow_add]; omega
  have h4 : a * 2 ^ (s + 8) ≤ 2 ^ 24 * 2 ^ 32 := Nat.mul_le_mul (by omega) (by omega)
  have h5 : x * 2 ^ s < 2 ^ (s + 8) := by
    have : x * 2 ^ s ≤ 255 * 2 ^ s := Nat.mul_le_mul_right _ (by omega)
    have : 0 < 2 ^ s := Nat.pow_pos (by omega)
    omega
  rw [← Int.natCast_mul, ← Int.natCast_mul, IntWalk.wrap64_in _ ⟨by omega, by omega⟩, i64_or_nat _ _ (by omega) (by omega)]
  have := Nat.two_pow_add_eq_or_of_lt (i := s + 8) (b := x * 2 ^ s) h5 a
  rw [Nat.mul_comm a, ← this]
  omega

theorem getN_little (f : Nat → Int) (hf : ∀ i, 0 ≤ f i ∧ f i ≤ 255) (at' bytes : Nat) (hb : bytes ≤ 4) : getN f at' bytes false bytes = refN f at' bytes false bytes := by
  have a0 := hf at'; have a1 := hf (at' + 1); have a2 := hf (at' + 2); have a3 := hf (at' + 3)
  match bytes, hb with
  | 0, _ => rfl
  | 1, _ =>
    simp only [getN, refN, farV]
    have := or_low 0 (f at') 0 (by omega) (by omega) (by omega) (by omega) (by omega)
    simp at this ⊢; rw [this]
  | 2, _ =>
    simp only [getN, refN, farV]
    have h0 := or_low 0 (f at') 0 (by omega) (by omega) (by omega) (by omega) (by omega)
    have h1 := or_low (f at') (f (at' + 1)) 8 (by omega) (by omega) (by omega) (by omega) (by omega)
    simp at h0 h1 ⊢; rw [h0, h1]; omega
  | 3, _ =>
    simp only [getN, refN, farV]
    have h0 := or_low 0 (f at') 0 (by omega) (by omega) (by omega) (by omega) (by omega)
    have h1 := or_low (f at') (f (at' + 1)) 8 (by omega) (by omega) (by omega) (by omega) (by omega)
    have h2 := or_low (f at' + f (at' + 1) * 256) (f (at' + 2)) 16 (by omega) (by omega) (by omega) (by omega) (by omega)
    simp at h0 h1 h2 ⊢; rw [h0, h1, h2]; omega
  | 4, _ =>
    simp only [getN, refN, farV]
    have h0 := or_low 0 (f at') 0 (by omega) (by omega) (by omega) (by omega) (by omega)
    have h1 := or_low (f at') (f (at' + 1)) 8 (by omega) (by omega) (by omega) (by omega) (by omega)
    have h2 := or_low (f at' + f (at' + 1) * 256) (f (at' + 2)) 16 (by omega) (by omega) (by omega) (by omega) (by omega)
    have h3 := or_low (f at' + f (at' + 1) * 256 + f (at' + 2) * 65536) (f (at' + 3)) 24 (by omega) (by omega) (by omega) (by omega) (by omega)
    simp at h0 h1 h2 h3 ⊢; rw [h0, h1, h2, h3]; omega

theorem getN_big (f : Nat → Int) (hf : ∀ i, 0 ≤ f i ∧ f i ≤ 255) (at' bytes : Nat) (hb : bytes ≤ 4) (k : Nat) (hk : k ≤ bytes) : getN f at' bytes true k = refN f at' bytes true k * 256 ^ (bytes - k) := by
  induction k with
  | zero => simp [getN, refN]
  | succ k ih =>
    have hx := hf (at' + k)
    have hbd := refN_bd f hf at' bytes true k
    have h24 : (256 : Int) ^ k ≤ 256 ^ 3 := by
      have h : 256 ^ k ≤ 256 ^ 3 := Nat.pow_le_pow_right (by omega) (by omega)
      have e : ((256 : Int) ^ k) = ((256 ^ k : Nat) : Int) := by rw [Int.natCast_pow]; rfl
      rw [e]; omega
    simp only [getN, refN]
    rw [ih (by omega)]
    have e1 : (farV k bytes true).toNat = 8 * (bytes - k - 1) := by simp [farV]; omega
    have e2 : (256 : Int) ^ (bytes - k) = 2 ^ (8 * (bytes - k - 1) + 8) := by
      rw [show 8 * (bytes - k - 1) + 8 = 8 * (bytes - k) by omega, Int.pow_mul]; rfl
    have e3 : (256 : Int) ^ (bytes - (k + 1)) = 2 ^ (8 * (bytes - k - 1)) := by
      rw [show bytes - (k + 1) = bytes - k - 1 by omega, Int.pow_mul]; rfl
    rw [e1, e2, or_high _ _ _ (by omega) hbd.1 (by omega) hx.1 hx.2, e3]
    rw [Int.pow_add, show (2 : Int) ^ 8 = 256 from rfl]
    simp only [if_true]
    generalize (2 : Int) ^ (8 * (bytes - k - 1)) = p
    rw [Int.add_mul, Int.mul_comm 256, Int.mul_assoc, Int.mul_comm p]

theorem getN_eq (f : Nat → Int) (hf : ∀ i, 0 ≤ f i ∧ f i ≤ 255) (at' bytes : Nat) (big : Bool) (hb : bytes ≤ 4) : getN f at' bytes big bytes = refN f at' bytes big bytes := by
  cases big
  · exact getN_little f hf at' bytes hb
  · rw [getN_big f hf at' bytes hb bytes (Nat.le_refl _)]; simp
end Go.Proofs.Ytcppnangooldoaa
