import Derived.Test.YtcppnangooldoaaB
namespace Go.Proofs.Ytcppnangooldoaa
open Go.RowKit

def Rd (w : World) (v : Value) (n : Nat) (f : Nat → Int) : Prop :=
  ∃ ao cap, v = .slice ao n cap ∧ n ≤ 9223372036854775807 ∧ (∀ i, 0 ≤ f i ∧ f i ≤ 255) ∧
    (0 < n → ∃ b off, ao = some ⟨b, off, none⟩ ∧ ∀ i, i < n → w.cell? ⟨b, off + i, none⟩ = some (.int .u8 (f i)))

def getV (f : Nat → Int) (n : Nat) (at' bytes : Int) (big : Bool) : Int × Int := if chkV n at' bytes = 0 then (refN f at'.toNat bytes.toNat big bytes.toNat, 0) else (0, chkV n at' bytes)

theorem chk_ok {n : Nat} {at' bytes : Int} (h : chkV n at' bytes = 0) : 1 ≤ bytes ∧ bytes ≤ 4 ∧ 0 ≤ at' ∧ at' + bytes ≤ n := by
  unfold chkV roomB at h
  by_cases h1 : bytes < 1 ∨ 4 < bytes ∨ at' < 0
  · rw [if_pos h1] at h; omega
  · rw [if_neg h1] at h
    by_cases h2 : at' ≤ (n : Int) ∧ bytes ≤ n - at'
    · omega
    · rw [if_neg (by simpa using h2)] at h; omega

set_option maxHeartbeats 400000 in
theorem get_ok (b off n cap : Nat) (f : Nat → Int) (at' bytes : Nat) (big : Bool) (w : World) (hn : n ≤ 9223372036854775807) (h3 : 1 ≤ bytes) (h4 : bytes ≤ 4) (h5 : at' + bytes ≤ n)
    (hc : ∀ i, i < n → w.cell? ⟨b, off + i, none⟩ = some (.int .u8 (f i))) (hf : ∀ i, 0 ≤ f i ∧ f i ≤ 255) :
    Calls Try.prog 12 #[.slice (some ⟨b, off, none⟩) n cap, .int .i64 at', .int .i64 bytes, .bool big] w fun e w' => e = .returned (.tuple #[.int .i64 (getN f at' bytes big bytes), .int .i64 0]) ∧ Dr w w' := by
  have hchk : chkV n at' bytes = 0 := by unfold chkV roomB; rw [if_neg (by omega), if_pos (by simp; omega)]
  go_enter Try.func12, Try.ntmps12
  go_wp2_with (go_at_call 18; refine (check_any _ _ _ _ _ _ hn (by omega) (by omega) (by omega) (by omega)).mono ?_; rintro e w' ⟨rfl, rfl⟩; rw [hchk])
  clear hchk
  go_loopw [11, 21] (fun v i wr => ∃ k : Nat, k ≤ bytes ∧ i = .int .i64 k ∧ v = .int .i64 (getN f at' bytes big k) ∧ Dr w wr) (fun _ i _ => bytes - (intOf i).toNat)
  case atStart => exact ⟨0, by omega, rfl, rfl, Dr.refl w⟩
  case round =>
    obtain ⟨k, hk, rfl, rfl, hdr⟩ := hrel
    by_cases hlt : k < bytes
    · have hck := (hdr.cell _).trans (hc (at' + k) (by omega))
      have hfk := hf (at' + k)
      go_wp2_with fail
      have e1 : IntKind.i64.wrap ((at' : Int) + (k : Int)) = (at' : Int) + (k : Int) := IntWalk.i64_in _ (by omega)
      have e2 : 0 ≤ (at' : Int) + (k : Int) := by omega
      have e3 : ((at' : Int) + (k : Int)).toNat = at' + k := by omega
      have e4 : (at' : Int) + (k : Int) < (n : Int) := by omega
      have e5 : IntKind.i64.wrap (f (at' + k)) = f (at' + k) := IntWalk.i64_in _ (by omega)
      have e6 : 0 ≤ farV k bytes big := by unfold farV; split <;> omega
      have e7 : farV k bytes big ≤ 24 := by unfold farV; split <;> omega
      go_quiet ((go_at_call 19; exact Calls.quiet_of_same ((far_any _ _ _ _ (by omega) (by omega) (by omega)).mono (fun _ _ h => ⟨h.1, h.2.symm⟩))))
      go_wp2
      go_roundw
      case rel => exact ⟨k + 1, by omega, by go_num, rfl, hdr.drewN _⟩
      case measure => simp [intOf]; omega
    · obtain rfl : k = bytes := by omega
      go_wp2
      go_ret2
      exact ⟨rfl, hdr⟩

set_option maxHeartbeats 400000 in
theorem get_no (ao : Option Addr) (n cap : Nat) (at' bytes : Int) (big : Bool) (w : World) (hn : n ≤ 9223372036854775807) (h1 : -9223372036854775808 ≤ at') (h2 : at' ≤ 9223372036854775807) (h3 : -9223372036854775808 ≤ bytes) (h4 : bytes ≤ 9223372036854775807)
    (h : chkV n at' bytes ≠ 0) :
    Calls Try.prog 12 #[.slice ao n cap, .int .i64 at', .int .i64 bytes, .bool big] w fun e w' => e = .returned (.tuple #[.int .i64 0, .int .i64 (chkV n at' bytes)]) ∧ Dr w w' := by
  have hb : (chkV n at' bytes != 0) = true := by simpa using h
  clear h
  go_enter Try.func12, Try.ntmps12
  go_wp2_with (go_at_call 18; refine (check_any _ _ _ _ _ _ hn h1 h2 h3 h4).mono ?_; rintro e w' ⟨rfl, rfl⟩)
  go_ret2
  exact ⟨rfl, Dr.refl _⟩

theorem get_any {n : Nat} {f : Nat → Int} {v : Value} {w : World} (hv : Rd w v n f) (at' bytes : Int) (big : Bool) (h1 : -9223372036854775808 ≤ at') (h2 : at' ≤ 9223372036854775807) (h3 : -9223372036854775808 ≤ bytes) (h4 : bytes ≤ 9223372036854775807) :
    Calls Try.prog 12 #[v, .int .i64 at', .int .i64 bytes, .bool big] w fun e w' => e = .returned (.tuple #[.int .i64 (getV f n at' bytes big).1, .int .i64 (getV f n at' bytes big).2]) ∧ Dr w w' := by
  obtain ⟨ao, cap, rfl, hn, hf, hc⟩ := hv
  unfold getV
  by_cases h : chkV n at' bytes = 0
  · rw [if_pos h]
    obtain ⟨g1, g2, g3, g4⟩ := chk_ok h
    obtain ⟨b, off, rfl, hcc⟩ := hc (by omega)
    obtain ⟨a, rfl⟩ := Int.eq_ofNat_of_zero_le g3
    obtain ⟨m, rfl⟩ := Int.eq_ofNat_of_zero_le (show 0 ≤ bytes by omega)
    rw [Int.toNat_natCast, Int.toNat_natCast, ← getN_eq f hf a m big (by omega)]
    exact get_ok b off n cap f a m big w hn (by omega) (by omega) (by omega) hcc hf
  · rw [if_neg h]
    exact get_no ao n cap at' bytes big w hn h1 h2 h3 h4 h

set_option maxHeartbeats 400000 in
theorem rget_ok (b off n cap : Nat) (f : Nat → Int) (at' bytes : Nat) (big : Bool) (w : World) (hn : n ≤ 9223372036854775807) (h3 : 1 ≤ bytes) (h4 : bytes ≤ 4) (h5 : at' + bytes ≤ n)
    (hc : ∀ i, i < n → w.cell? ⟨b, off + i, none⟩ = some (.int .u8 (f i))) (hf : ∀ i, 0 ≤ f i ∧ f i ≤ 255) :
    Calls Try.prog 13 #[.slice (some ⟨b, off, none⟩) n cap, .int .i64 at', .int .i64 bytes, .bool big] w fun e w' => e = .returned (.tuple #[.int .i64 (refN f at' bytes big bytes), .int .i64 0]) ∧ w = w' := by
  have hroom : roomB n at' bytes = true := by unfold roomB; simp; omega
  go_enter Try.func13, Try.ntmps13
  go_wp2_with (go_at_call 20; refine (room_ref _ _ _ _ _ _ hn (by omega) (by omega)).mono ?_; rintro e w' ⟨rfl, rfl⟩; rw [hroom])
  clear hroom
  go_loop [10, 11, 12] (fun v i _ => ∃ k : Nat, k ≤ bytes ∧ i = .int .i64 k ∧ v = .int .i64 (refN f at' bytes big k)) (fun _ i _ => bytes - (intOf i).toNat)
  case atStart => exact ⟨0, by omega, rfl, rfl⟩
  case round =>
    obtain ⟨k, hk, rfl, rfl⟩ := hrel
    by_cases hlt : k < bytes
    · have hbd := refN_bd f hf at' bytes big k
      have h24 : (256 : Int) ^ k ≤ 256 ^ 3 := by
        have h : 256 ^ k ≤ 256 ^ 3 := Nat.pow_le_pow_right (by omega) (by omega)
        have e : ((256 : Int) ^ k) = ((256 ^ k : Nat) : Int) := by rw [Int.natCast_pow]; rfl
        rw [e]; omega
      have hb1 := hbd.1
      have hb2 : refN f at' bytes big k < 16777216 := by omega
      clear hbd h24
      cases big
      · have hck := hc (at' + bytes - 1 - k) (by omega)
        have hfk := hf (at' + bytes - 1 - k)
        have e1 : ((at' : Int) + bytes - 1 - k).toNat = at' + bytes - 1 - k := by omega
        go_wp2
        go_round
        case rel => exact ⟨k + 1, by omega, by go_num, by simp [refN]⟩
        case measure => simp [intOf]; omega
      · have hck := hc (at' + k) (by omega)
        have hfk := hf (at' + k)
        go_wp2
        go_round
        case rel => exact ⟨k + 1, by omega, by go_num, by simp [refN]⟩
        case measure => simp [intOf]; omega
    · obtain rfl : k = bytes := by omega
      go_wp2
      go_ret2
      exact ⟨rfl, rfl⟩

set_option maxHeartbeats 400000 in
theorem rget_no (ao : Option Addr) (n cap : Nat) (at' bytes : Int) (big : Bool) (w : World) (hn : n ≤ 9223372036854775807) (h1 : -9223372036854775808 ≤ at') (h2 : at' ≤ 9223372036854775807) (h3 : -9223372036854775808 ≤ bytes) (h4 : bytes ≤ 9223372036854775807)
    (h : chkV n at' bytes ≠ 0) :
    Calls Try.prog 13 #[.slice ao n cap, .int .i64 at', .int .i64 bytes, .bool big] w fun e w' => e = .returned (.tuple #[.int .i64 0, .int .i64 (chkV n at' bytes)]) ∧ w = w' := by
  by_cases hz : bytes < 1 ∨ 4 < bytes ∨ at' < 0
  · have hv : chkV n at' bytes = 1 := by unfold chkV; rw [if_pos hz]
    rw [hv]
    clear hv h
    go_enter Try.func13, Try.ntmps13
    go_wp2_with fail
    all_goals first | (exfalso; omega) | skip
    all_goals go_ret2
    all_goals exact ⟨rfl, rfl⟩
  · have hr : roomB n at' bytes = false := by
      unfold chkV at h
      rw [if_neg hz] at h
      revert h
      cases roomB n at' bytes <;> simp
    have hv : chkV n at' bytes = 2 := by unfold chkV; rw [if_neg hz, hr]; rfl
    rw [hv]
    have g1 : 1 ≤ bytes := by omega
    have g2 : bytes ≤ 4 := by omega
    have g3 : 0 ≤ at' := by omega
    have g4 : (decide (bytes < 1) || decide (4 < bytes) || decide (at' < 0)) = false := by simp; omega
    clear hv h hz
    go_enter Try.func13, Try.ntmps13
    go_wp2_with (go_at_call 20; refine (room_ref _ _ _ _ _ _ hn g3 h2).mono ?_; rintro e w' ⟨rfl, rfl⟩; rw [hr])
    go_ret2
    exact ⟨rfl, rfl⟩

theorem rget_any {n : Nat} {f : Nat → Int} {v : Value} {w : World} (hv : Rd w v n f) (at' bytes : Int) (big : Bool) (h1 : -9223372036854775808 ≤ at') (h2 : at' ≤ 9223372036854775807) (h3 : -9223372036854775808 ≤ bytes) (h4 : bytes ≤ 9223372036854775807) :
    Calls Try.prog 13 #[v, .int .i64 at', .int .i64 bytes, .bool big] w fun e w' => e = .returned (.tuple #[.int .i64 (getV f n at' bytes big).1, .int .i64 (getV f n at' bytes big).2]) ∧ w = w' := by
  obtain ⟨ao, cap, rfl, hn, hf, hc⟩ := hv
  unfold getV
  by_cases h : chkV n at' bytes = 0
  · rw [if_pos h]
    obtain ⟨g1, g2, g3, g4⟩ := chk_ok h
    obtain ⟨b, off, rfl, hcc⟩ := hc (by omega)
    obtain ⟨a, rfl⟩ := Int.eq_ofNat_of_zero_le g3
    obtain ⟨m, rfl⟩ := Int.eq_ofNat_of_zero_le (show 0 ≤ bytes by omega)
    rw [Int.toNat_natCast, Int.toNat_natCast]
    exact rget_ok b off n cap f a m big w hn (by omega) (by omega) (by omega) hcc hf
  · rw [if_neg h]
    exact rget_no ao n cap at' bytes big w hn h1 h2 h3 h4 h
end Go.Proofs.Ytcppnangooldoaa
