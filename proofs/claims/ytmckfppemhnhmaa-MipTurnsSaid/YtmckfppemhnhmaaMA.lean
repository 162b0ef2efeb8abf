import Derived.Test.YtmckfppemhnhmaaL
namespace Go.Proofs.Ytmckfppemhnhmaa
open Go.RowKit

def halfV (n : Int) : Int := if n < 2 then 1 else n / 2
theorem halfV_pos (n : Int) : 1 ≤ halfV n := by unfold halfV; split <;> omega
theorem halfV_le {n : Int} (h : 1 ≤ n) : halfV n ≤ n := by unfold halfV; split <;> omega
theorem halfV_lt {n : Int} (h : 1 < n) : halfV n < n := by unfold halfV; split <;> omega
theorem halfV_one : halfV 1 = 1 := by decide
theorem halfV_big {n : Int} (h : 1 < n) : n / 2 = halfV n := by unfold halfV; split <;> omega

theorem half_any (n : Int) (w : World) (h1 : -9223372036854775808 ≤ n) (h2 : n ≤ 9223372036854775807) : Calls Try.prog 41 #[.int .i64 n] w fun e w' => e = .returned (.int .i64 (halfV n)) ∧ w = w' := by
  by_cases h : n < 2
  · have e : halfV n = 1 := by unfold halfV; rw [if_pos h]
    rw [e]
    by_cases h0 : 0 ≤ n
    · have q : n / 2 ≤ 0 := by omega
      clear e
      go_enter Try.func41, Try.ntmps41
      go_wp2
      all_goals go_ret
      all_goals exact ⟨ret1 (by omega), rfl⟩
    · have q : n.tdiv 2 ≤ 0 := by
        have := Int.tdiv_nonneg (a := -n) (b := 2) (by omega) (by omega)
        rw [Int.neg_tdiv] at this
        omega
      have q2 : -9223372036854775808 ≤ n.tdiv 2 := by
        have := Int.tdiv_le_self (a := -n) (b := 2) (by omega)
        rw [Int.neg_tdiv] at this
        omega
      have q3 : wrap64 (n.tdiv 2) = n.tdiv 2 := wrap_in (by omega)
      have hn : n < 0 := by omega
      clear e h0 h
      go_enter Try.func41, Try.ntmps41
      go_wp2
      all_goals go_ret
      all_goals exact ⟨ret1 (by omega), rfl⟩
  · have e : halfV n = n / 2 := by unfold halfV; rw [if_neg h]
    rw [e]
    have g : 2 ≤ n := by omega
    have q : 1 ≤ n / 2 := by omega
    clear e h
    go_enter Try.func41, Try.ntmps41
    go_wp2
    all_goals go_ret
    all_goals exact ⟨ret1 (by omega), rfl⟩

/-- a side, halved k times -/
def hk : Nat → Int → Int
  | 0, w => w
  | k + 1, w => halfV (hk k w)
theorem hk_succ (k : Nat) (w : Int) : hk (k + 1) w = hk k (halfV w) := by
  induction k with
  | zero => rfl
  | succ k ih => rw [hk, ih, ← hk]
theorem hk_pos {w : Int} (h : 1 ≤ w) : ∀ k, 1 ≤ hk k w
  | 0 => h
  | _ + 1 => halfV_pos _
theorem hk_le {w : Int} (h : 1 ≤ w) : ∀ k, hk k w ≤ w
  | 0 => Int.le_refl _
  | k + 1 => Int.le_trans (halfV_le (hk_pos h k)) (hk_le h k)
theorem hk_one : ∀ k, hk k 1 = 1
  | 0 => rfl
  | k + 1 => by rw [hk, hk_one k, halfV_one]
theorem hk_stay {w : Int} (h : 1 ≤ w) {k : Nat} (h1 : hk k w ≤ 1) : ∀ j, k ≤ j → hk j w = 1 := by
  intro j hj
  have e : hk k w = 1 := by have := hk_pos h k; omega
  induction j with
  | zero => obtain rfl : k = 0 := by omega
            exact e
  | succ j ih =>
    by_cases hk' : k = j + 1
    · rw [← hk']; exact e
    · rw [hk, ih (by omega), halfV_one]

def lv : Nat → Int → Int → Nat
  | 0, _, _ => 0
  | f + 1, w, h => if 1 < w ∨ 1 < h then lv f (halfV w) (halfV h) + 1 else 1
def levelsV (w h : Int) : Int := if w < 1 ∨ h < 1 then 0 else lv (w + h).toNat w h
theorem lv_of (f : Nat) : ∀ (k : Nat) (w h : Int), k < f → hk k w ≤ 1 → hk k h ≤ 1 → (∀ j, j < k → 1 < hk j w ∨ 1 < hk j h) → lv f w h = k + 1 := by
  induction f with
  | zero => intro k w h hk; omega
  | succ f ih =>
    intro k w h hkf h1 h2 hall
    cases k with
    | zero =>
      rw [lv, if_neg (by simp only [hk] at h1 h2; omega)]
    | succ k =>
      have h0 := hall 0 (by omega)
      simp only [hk] at h0
      rw [lv, if_pos h0, ih k (halfV w) (halfV h) (by omega) (by rw [← hk_succ]; exact h1) (by rw [← hk_succ]; exact h2) (fun j hj => by rw [← hk_succ, ← hk_succ]; exact hall (j + 1) (by omega))]
theorem hk_sum {w h : Int} (hw : 1 ≤ w) (hh : 1 ≤ h) : ∀ k : Nat, (∀ j, j < k → 1 < hk j w ∨ 1 < hk j h) → hk k w + hk k h + k ≤ w + h
  | 0, _ => by simp [hk]
  | k + 1, hall => by
    have ih := hk_sum hw hh k (fun j hj => hall j (by omega))
    have a1 := hk_pos hw k
    have a2 := hk_pos hh k
    have b1 := halfV_le a1
    have b2 := halfV_le a2
    rcases hall k (by omega) with g | g
    · have := halfV_lt g
      rw [hk, hk]
      omega
    · have := halfV_lt g
      rw [hk, hk]
      omega
/-- the number of the sizes, by what a walk finds -/
theorem levels_of {w h : Int} {k : Nat} (hw : 1 ≤ w) (hh : 1 ≤ h) (h1 : hk k w ≤ 1) (h2 : hk k h ≤ 1) (hall : ∀ j, j < k → 1 < hk j w ∨ 1 < hk j h) : levelsV w h = (k : Int) + 1 := by
  have hs := hk_sum hw hh k hall
  have a1 := hk_pos hw k
  have a2 := hk_pos hh k
  unfold levelsV
  rw [if_neg (by omega), lv_of _ k w h (by omega) h1 h2 hall]
  simp

theorem rlevels_any (a b : Int) (w : World) (ha : a ≤ 1073741824) (hb : b ≤ 1073741824) (ha0 : -9223372036854775808 ≤ a) (hb0 : -9223372036854775808 ≤ b) :
    Calls Try.prog 18 #[.int .i64 a, .int .i64 b] w fun e w' => e = .returned (.int .i64 (levelsV a b)) ∧ w = w' := by
  by_cases h1 : a < 1
  · have e : levelsV a b = 0 := by unfold levelsV; rw [if_pos (Or.inl h1)]
    rw [e]
    have d1 : decide (a < 1) = true := by simpa using h1
    clear e
    go_enter Try.func18, Try.ntmps18
    go_wp2
    go_ret
    exact ⟨rfl, rfl⟩
  · by_cases h2 : b < 1
    · have e : levelsV a b = 0 := by unfold levelsV; rw [if_pos (Or.inr h2)]
      rw [e]
      have d1 : decide (a < 1) = false := by simpa using h1
      have d2 : decide (b < 1) = true := by simpa using h2
      clear e
      go_enter Try.func18, Try.ntmps18
      go_wp2
      go_ret
      exact ⟨rfl, rfl⟩
    · have d1 : decide (a < 1) = false := by simpa using h1
      have d2 : decide (b < 1) = false := by simpa using h2
      have a1 : 1 ≤ a := by omega
      have b1 : 1 ≤ b := by omega
      obtain ⟨L, hL⟩ : ∃ L, L = levelsV a b := ⟨_, rfl⟩
      rw [← hL]
      have HL := hide hL
      clear hL h1 h2
      go_enter Try.func18, Try.ntmps18
      go_wp2_with fail
      go_loop [0, 1, 5] (fun x y n => ∃ k : Nat, x = .int .i64 (hk k a) ∧ y = .int .i64 (hk k b) ∧ n = .int .i64 ((k : Int) + 1) ∧ Hid (∀ j, j < k → 1 < hk j a ∨ 1 < hk j b)) (fun x y _ => (intOf x + intOf y).toNat)
      case atStart => exact ⟨0, rfl, rfl, rfl, hide (fun j hj => by omega)⟩
      case round =>
        obtain ⟨k, rfl, rfl, rfl, hall⟩ := hrel
        have p1 := hk_pos a1 k
        have p2 := hk_pos b1 k
        have q1 := hk_le a1 k
        have q2 := hk_le b1 k
        have hs := hk_sum a1 b1 k hall.out
        have n1 : halfV (hk k a) = hk (k + 1) a := rfl
        have n2 : halfV (hk k b) = hk (k + 1) b := rfl
        have N1 := hide n1
        have N2 := hide n2
        have HF := hide (show hk k a ≤ 1 → hk k b ≤ 1 → L = (k : Int) + 1 from fun g1 g2 => by rw [HL.out]; exact levels_of a1 b1 g1 g2 hall.out)
        have HN := hide (show 1 < hk k a ∨ 1 < hk k b → ∀ j, j < k + 1 → 1 < hk j a ∨ 1 < hk j b from fun g j hj => by
          by_cases hjk : j = k
          · rw [hjk]; exact g
          · exact hall.out j (by omega))
        clear n1 n2 hall
        generalize hk k a = x at *
        generalize hk k b = y at *
        have half_is : ∀ z v : Int, 1 ≤ z → (v = z / 2 ∧ 1 ≤ z / 2 ∨ v = 1 ∧ z / 2 ≤ 1) → v = halfV z := by
          intro z v hz hv
          unfold halfV
          split <;> omega
        have HH := hide half_is
        clear half_is
        by_cases g1 : 1 < x
        · have d1 : decide (1 < x) = true := by simpa using g1
          have HN2 := hide (HN.out (Or.inl g1))
          have q3 : 0 ≤ y / 2 := by omega
          have q4 : 1 ≤ x / 2 := by omega
          go_wp2
          all_goals (
            go_round
            case rel => exact ⟨k + 1, by rw [← N1.out]; exact congrArg (Value.int .i64) (HH.out _ _ p1 (by omega)), by rw [← N2.out]; exact congrArg (Value.int .i64) (HH.out _ _ p2 (by omega)), by go_num, HN2⟩
            case measure => simp [intOf]; omega)
        · have d1 : decide (1 < x) = false := by simpa using g1
          by_cases g2 : 1 < y
          · have d2 : decide (1 < y) = true := by simpa using g2
            have HN2 := hide (HN.out (Or.inr g2))
            have q3 : 0 ≤ x / 2 := by omega
            have q4 : 1 ≤ y / 2 := by omega
            go_wp2
            all_goals (
              go_round
              case rel => exact ⟨k + 1, by rw [← N1.out]; exact congrArg (Value.int .i64) (HH.out _ _ p1 (by omega)), by rw [← N2.out]; exact congrArg (Value.int .i64) (HH.out _ _ p2 (by omega)), by go_num, HN2⟩
              case measure => simp [intOf]; omega)
          · have d2 : decide (1 < y) = false := by simpa using g2
            have HE := hide (HF.out (by omega) (by omega))
            go_wp2
            go_ret
            exact ⟨ret1 HE.out.symm, rfl⟩

def sideV (n of : Int) : Int := if n < 1 ∨ of < 0 then 0 else hk of.toNat n
theorem rside_any (a b : Int) (w : World) (ha : a ≤ 9223372036854775807) (hb : b ≤ 9223372036854775807) :
    Calls Try.prog 20 #[.int .i64 a, .int .i64 b] w fun e w' => e = .returned (.int .i64 (sideV a b)) ∧ w = w' := by
  by_cases h1 : a < 1
  · have e : sideV a b = 0 := by unfold sideV; rw [if_pos (Or.inl h1)]
    rw [e]
    have d1 : decide (a < 1) = true := by simpa using h1
    clear e
    go_enter Try.func20, Try.ntmps20
    go_wp2
    go_ret
    exact ⟨rfl, rfl⟩
  · by_cases h2 : b < 0
    · have e : sideV a b = 0 := by unfold sideV; rw [if_pos (Or.inr h2)]
      rw [e]
      have d1 : decide (a < 1) = false := by simpa using h1
      have d2 : decide (b < 0) = true := by simpa using h2
      clear e
      go_enter Try.func20, Try.ntmps20
      go_wp2
      go_ret
      exact ⟨rfl, rfl⟩
    · have d1 : decide (a < 1) = false := by simpa using h1
      have d2 : decide (b < 0) = false := by simpa using h2
      have a1 : 1 ≤ a := by omega
      have b1 : 0 ≤ b := by omega
      obtain ⟨L, hL⟩ : ∃ L, L = sideV a b := ⟨_, rfl⟩
      rw [← hL]
      have HL := hide (show L = hk b.toNat a by rw [hL]; unfold sideV; rw [if_neg (by omega)])
      clear hL h1 h2
      go_enter Try.func20, Try.ntmps20
      go_wp2_with fail
      go_loop [0, 5] (fun x i => ∃ k : Nat, (k : Int) ≤ b ∧ x = .int .i64 (hk k a) ∧ i = .int .i64 (k : Int)) (fun x _ => (intOf x).toNat)
      case atStart => exact ⟨0, by omega, rfl, rfl⟩
      case round =>
        obtain ⟨k, hkb, rfl, rfl⟩ := hrel
        have p1 := hk_pos a1 k
        have q1 := hk_le a1 k
        have N1 := hide (show halfV (hk k a) = hk (k + 1) a from rfl)
        have HE := hide (show (hk k a ≤ 1 ∨ b = k) → hk k a = L from fun h => by
          rw [HL.out]
          rcases h with h | h
          · rw [hk_stay a1 h b.toNat (by omega)]
            have := hk_pos a1 k
            omega
          · rw [h, Int.toNat_natCast])
        generalize hk k a = x at *
        by_cases g1 : (k : Int) < b
        · have e1 : decide ((k : Int) < b) = true := by simpa using g1
          by_cases g2 : 1 < x
          · have e2 : decide (1 < x) = true := by simpa using g2
            have HX := hide (halfV_big g2)
            have q3 : x / 2 < x := by omega
            have q4 : 0 ≤ x / 2 := by omega
            go_wp2
            go_round
            case rel => exact ⟨k + 1, by omega, by rw [← N1.out, ← HX.out], by go_num⟩
            case measure => simp [intOf]; omega
          · have e2 : decide (1 < x) = false := by simpa using g2
            have HE2 := hide (HE.out (Or.inl (by omega)))
            go_wp2
            go_ret
            exact ⟨ret1 HE2.out, rfl⟩
        · have e1 : decide ((k : Int) < b) = false := by simpa using g1
          have HE2 := hide (HE.out (Or.inr (by omega)))
          go_wp2
          go_ret
          exact ⟨ret1 HE2.out, rfl⟩
end Go.Proofs.Ytmckfppemhnhmaa
