import Derived.Test.YtmckfppemhnhmaaA

namespace Go.Proofs.Ytmckfppemhnhmaa
open Go.RowKit

def sizedV (W H : Int) : Bool := decide (1 ≤ W ∧ 1 ≤ H ∧ W ≤ 4096 ∧ H ≤ 4096)
def inV (x y W H : Int) : Bool := decide (0 ≤ x ∧ 0 ≤ y ∧ x < W ∧ y < H)
def rightV (W H : Int) (n : Nat) : Bool := decide ((1 ≤ W ∧ 1 ≤ H ∧ W ≤ 4096 ∧ H ≤ 4096) ∧ (n : Int) = 4 * W * H)

theorem sized_any (W H : Int) (w : World) : Calls Try.prog 45 #[.int .i64 W, .int .i64 H] w fun e w' => e = .returned (.bool (sizedV W H)) ∧ w = w' := by
  go_enter Try.func45, Try.ntmps45
  go_wp2
  all_goals go_ret
  all_goals refine ⟨ret1b ?_, rfl⟩
  all_goals unfold sizedV
  all_goals (rw [Bool.eq_iff_iff]; simp; try omega)
theorem in_any (x y W H : Int) (w : World) : Calls Try.prog 46 #[.int .i64 x, .int .i64 y, .int .i64 W, .int .i64 H] w fun e w' => e = .returned (.bool (inV x y W H)) ∧ w = w' := by
  go_enter Try.func46, Try.ntmps46
  go_wp2
  all_goals go_ret
  all_goals refine ⟨ret1b ?_, rfl⟩
  all_goals unfold inV
  all_goals (rw [Bool.eq_iff_iff]; simp; try omega)

def tilesV (w h : Int) : Int × Int := if w < 1 ∨ h < 1 then (0, 0) else ((w - 1) / 4 + 1, (h - 1) / 4 + 1)
theorem tiles_any (a b : Int) (w : World) (h1 : -9223372036854775808 ≤ a) (h2 : a ≤ 9223372036854775807) (h3 : -9223372036854775808 ≤ b) (h4 : b ≤ 9223372036854775807) :
    Calls Try.prog 30 #[.int .i64 a, .int .i64 b] w fun e w' => e = .returned (.tuple #[.int .i64 (tilesV a b).1, .int .i64 (tilesV a b).2]) ∧ w = w' := by
  by_cases h : a < 1 ∨ b < 1
  · have e : tilesV a b = (0, 0) := by unfold tilesV; rw [if_pos h]
    rw [e]
    clear e
    go_enter Try.func30, Try.ntmps30
    go_wp2
    all_goals first | (exfalso; omega) | skip
    all_goals go_ret2
    all_goals exact ⟨rfl, rfl⟩
  · have e : tilesV a b = ((a - 1) / 4 + 1, (b - 1) / 4 + 1) := by unfold tilesV; rw [if_neg h]
    rw [e]
    have g1 : 1 ≤ a := by omega
    have g2 : 1 ≤ b := by omega
    have hd : (decide (a < 1) || decide (b < 1)) = false := by simp; omega
    clear e h
    go_enter Try.func30, Try.ntmps30
    go_wp2
    go_ret2
    exact ⟨rfl, rfl⟩
theorem rtiles_any (a b : Int) (w : World) (h1 : -9223372036854775808 ≤ a) (h2 : a ≤ 9223372036854775807) (h3 : -9223372036854775808 ≤ b) (h4 : b ≤ 9223372036854775807) :
    Calls Try.prog 36 #[.int .i64 a, .int .i64 b] w fun e w' => e = .returned (.tuple #[.int .i64 (tilesV a b).1, .int .i64 (tilesV a b).2]) ∧ w = w' := by
  by_cases h : a < 1 ∨ b < 1
  · have e : tilesV a b = (0, 0) := by unfold tilesV; rw [if_pos h]
    rw [e]
    clear e
    go_enter Try.func36, Try.ntmps36
    go_wp2
    all_goals first | (exfalso; omega) | skip
    all_goals go_ret2
    all_goals exact ⟨rfl, rfl⟩
  · have e : tilesV a b = ((a - 1) / 4 + 1, (b - 1) / 4 + 1) := by unfold tilesV; rw [if_neg h]
    rw [e]
    have g1 : 1 ≤ a := by omega
    have g2 : 1 ≤ b := by omega
    have hd : (decide (a < 1) || decide (b < 1)) = false := by simp; omega
    clear e h
    go_enter Try.func36, Try.ntmps36
    go_wp2
    go_ret2
    exact ⟨rfl, rfl⟩

def clampV (n most : Int) : Int := if n > most then (if most < 0 then 0 else most) else if n < 0 then 0 else n
theorem clamp_any (n most : Int) (w : World) : Calls Try.prog 43 #[.int .i64 n, .int .i64 most] w fun e w' => e = .returned (.int .i64 (clampV n most)) ∧ w = w' := by
  go_enter Try.func43, Try.ntmps43
  go_wp2
  all_goals go_ret
  all_goals refine ⟨ret1 ?_, rfl⟩
  all_goals unfold clampV
  all_goals (repeat' split) <;> omega
theorem clamp_ref (n : Int) (w : World) : Calls Try.prog 50 #[.int .i64 n] w fun e w' => e = .returned (.int .i64 (clampV n 255)) ∧ w = w' := by
  go_enter Try.func50, Try.ntmps50
  go_wp2
  all_goals go_ret
  all_goals refine ⟨ret1 ?_, rfl⟩
  all_goals unfold clampV
  all_goals (repeat' split) <;> omega
theorem clampV_bd (n : Int) : 0 ≤ clampV n 255 ∧ clampV n 255 ≤ 255 := by unfold clampV; (repeat' split) <;> omega

theorem area_bd {W H : Int} (h : 1 ≤ W ∧ 1 ≤ H ∧ W ≤ 4096 ∧ H ≤ 4096) : 0 ≤ 4 * W * H ∧ 4 * W * H ≤ 67108864 := by
  have h1 := mul_bd (x := 4 * W) (y := H) (X := 16384) (Y := 4096) (by omega) (by omega) (by omega) (by omega)
  exact ⟨Int.mul_nonneg (by omega) (by omega), by omega⟩

theorem right_any (W H : Int) (ao : Option Addr) (n cap : Nat) (w : World) :
    Calls Try.prog 21 #[.agg #[.int .i64 W, .int .i64 H, .slice ao n cap]] w fun e w' => e = .returned (.bool (rightV W H n)) ∧ Below w.heap.size w w' := by
  by_cases h : 1 ≤ W ∧ 1 ≤ H ∧ W ≤ 4096 ∧ H ≤ 4096
  · have hs : sizedV W H = true := by unfold sizedV; simpa using h
    have ha := area_bd h
    obtain ⟨g1, g2, g3, g4⟩ := h
    have hr : rightV W H n = ((n : Int) == 4 * W * H) := by unfold rightV; rw [Bool.eq_iff_iff]; simp; omega
    rw [hr]
    have HS := hide hs
    clear hr hs
    go_enter Try.func21, Try.ntmps21
    go_wp2_with (go_at_call 45; refine (sized_any _ _ _).mono ?_; rintro e w' ⟨rfl, rfl⟩; rw [HS.out])
    go_ret
    exact ⟨rfl, (Below.refl _ _).alloc (Nat.le_refl _) _⟩
  · have hs : sizedV W H = false := by unfold sizedV; simpa using h
    have hr : rightV W H n = false := by unfold rightV; rw [decide_eq_false_iff_not]; exact fun hh => h hh.1
    rw [hr]
    have HS := hide hs
    clear hr hs h
    go_enter Try.func21, Try.ntmps21
    go_wp2_with (go_at_call 45; refine (sized_any _ _ _).mono ?_; rintro e w' ⟨rfl, rfl⟩; rw [HS.out])
    go_ret
    exact ⟨rfl, (Below.refl _ _).alloc (Nat.le_refl _) _⟩

theorem rright_any (W H : Int) (ao : Option Addr) (n cap : Nat) (w : World) :
    Calls Try.prog 28 #[.agg #[.int .i64 W, .int .i64 H, .slice ao n cap]] w fun e w' => e = .returned (.bool (rightV W H n)) ∧ Below w.heap.size w w' := by
  by_cases h : 1 ≤ W ∧ 1 ≤ H ∧ W ≤ 4096 ∧ H ≤ 4096
  · have ha := area_bd h
    obtain ⟨g1, g2, g3, g4⟩ := h
    have d1 : decide (1 ≤ W) = true := by simpa using g1
    have d2 : decide (1 ≤ H) = true := by simpa using g2
    have d3 : decide (W ≤ 4096) = true := by simpa using g3
    have d4 : decide (H ≤ 4096) = true := by simpa using g4
    have hr : rightV W H n = ((n : Int) == 4 * W * H) := by unfold rightV; rw [Bool.eq_iff_iff]; simp; omega
    rw [hr]
    clear hr
    go_enter Try.func28, Try.ntmps28
    go_wp2_with fail
    go_ret
    exact ⟨rfl, (Below.refl _ _).alloc (Nat.le_refl _) _⟩
  · have hr : rightV W H n = false := by unfold rightV; rw [decide_eq_false_iff_not]; exact fun hh => h hh.1
    rw [hr]
    clear hr
    by_cases g1 : 1 ≤ W
    · have d1 : decide (1 ≤ W) = true := by simpa using g1
      by_cases g2 : 1 ≤ H
      · have d2 : decide (1 ≤ H) = true := by simpa using g2
        by_cases g3 : W ≤ 4096
        · have d3 : decide (W ≤ 4096) = true := by simpa using g3
          have d4 : decide (H ≤ 4096) = false := by simp; omega
          clear h
          go_enter Try.func28, Try.ntmps28
          go_wp2_with fail
          go_ret
          exact ⟨rfl, (Below.refl _ _).alloc (Nat.le_refl _) _⟩
        · have d3 : decide (W ≤ 4096) = false := by simp; omega
          clear h
          go_enter Try.func28, Try.ntmps28
          go_wp2_with fail
          go_ret
          exact ⟨rfl, (Below.refl _ _).alloc (Nat.le_refl _) _⟩
      · have d2 : decide (1 ≤ H) = false := by simp; omega
        clear h
        go_enter Try.func28, Try.ntmps28
        go_wp2_with fail
        go_ret
        exact ⟨rfl, (Below.refl _ _).alloc (Nat.le_refl _) _⟩
    · have d1 : decide (1 ≤ W) = false := by simp; omega
      clear h
      go_enter Try.func28, Try.ntmps28
      go_wp2_with fail
      go_ret
      exact ⟨rfl, (Below.refl _ _).alloc (Nat.le_refl _) _⟩

/-- what a law goes through -/
def lightV (W H : Int) (n : Nat) : Bool := decide ((n : Int) ≤ 4096) && (decide (4096 < W) || decide (4096 < H) || decide (wrap64 (W * H) ≤ 1024))
theorem light_any (W H : Int) (ao : Option Addr) (n cap : Nat) (w : World) :
    Calls Try.prog 11 #[.agg #[.int .i64 W, .int .i64 H, .slice ao n cap]] w fun e w' => e = .returned (.bool (lightV W H n)) ∧ Below w.heap.size w w' := by
  unfold lightV
  generalize h1 : decide ((n : Int) ≤ 4096) = b1
  generalize h2 : decide (4096 < W) = b2
  generalize h3 : decide (4096 < H) = b3
  cases b1 <;> cases b2 <;> cases b3 <;>
  · go_enter Try.func11, Try.ntmps11
    go_wp2_with fail
    all_goals first | (exfalso; simp at h1 h2 h3; omega) | skip
    all_goals go_ret
    all_goals exact ⟨ret1b (by simp), (Below.refl _ _).alloc (Nat.le_refl _) _⟩

def hasV (W H x y : Int) (n : Nat) : Bool := rightV W H n && inV x y (tilesV W H).1 (tilesV W H).2
theorem has_any (W H x y : Int) (ao : Option Addr) (n cap : Nat) (w : World) (h1 : -9223372036854775808 ≤ W) (h2 : W ≤ 9223372036854775807) (h3 : -9223372036854775808 ≤ H) (h4 : H ≤ 9223372036854775807) :
    Calls Try.prog 52 #[.agg #[.int .i64 W, .int .i64 H, .slice ao n cap], .int .i64 x, .int .i64 y] w fun e w' => e = .returned (.bool (hasV W H x y n)) ∧ Below w.heap.size w w' := by
  unfold hasV
  generalize hr : rightV W H n = r
  have HR := hide hr
  clear hr
  cases r <;>
  · go_enter Try.func52, Try.ntmps52
    go_wp2_with fail
    refine (tiles_any W H _ h1 h2 h3 h4).mono ?_
    rintro e w' ⟨rfl, rfl⟩
    go_wp2_with fail
    refine (right_any W H ao n cap _).mono ?_
    rintro e w1 ⟨rfl, hb⟩
    rw [HR.out]
    have hb1 := ((Below.refl _ w).alloc (Nat.le_refl _) _).trans (hb.mono (by simp))
    clear hb
    go_wp2_with (go_at_call 46; refine (in_any _ _ _ _ _).mono ?_; rintro e w' ⟨rfl, rfl⟩)
    go_ret
    exact ⟨ret1b (by simp), hb1⟩

theorem rhas_any (W H x y : Int) (ao : Option Addr) (n cap : Nat) (w : World) (h1 : -9223372036854775808 ≤ W) (h2 : W ≤ 9223372036854775807) (h3 : -9223372036854775808 ≤ H) (h4 : H ≤ 9223372036854775807) :
    Calls Try.prog 56 #[.agg #[.int .i64 W, .int .i64 H, .slice ao n cap], .int .i64 x, .int .i64 y] w fun e w' => e = .returned (.bool (hasV W H x y n)) ∧ Below w.heap.size w w' := by
  have he : hasV W H x y n = (rightV W H n && decide (0 ≤ x) && decide (0 ≤ y) && decide (x < (tilesV W H).1) && decide (y < (tilesV W H).2)) := by
    unfold hasV inV; rw [Bool.eq_iff_iff]; simp [and_assoc]
  rw [he]
  clear he
  generalize hr : rightV W H n = r
  have HR := hide hr
  clear hr
  generalize g1 : decide (0 ≤ x) = b1
  generalize g2 : decide (0 ≤ y) = b2
  cases r <;> cases b1 <;> cases b2 <;>
  · go_enter Try.func56, Try.ntmps56
    go_wp2_with fail
    refine (rtiles_any W H _ h1 h2 h3 h4).mono ?_
    rintro e w' ⟨rfl, rfl⟩
    go_wp2_with fail
    refine (rright_any W H ao n cap _).mono ?_
    rintro e w1 ⟨rfl, hb⟩
    rw [HR.out]
    have hb1 := ((Below.refl _ w).alloc (Nat.le_refl _) _).trans (hb.mono (by simp))
    clear hb
    go_wp2_with fail
    all_goals go_ret
    all_goals exact ⟨ret1b (by first | rfl | (simp; done) | (simp; omega)), hb1⟩
end Go.Proofs.Ytmckfppemhnhmaa
