/-
How many tiles a size has, and how many bytes; what a format is. Its conditions: sides that are numbers of 64 bits; a format that there is.
-/
import Derived.Test.YtpkclnkibhgpkaaGreatPJ
namespace Go.Proofs.YtpkclnkibhgpkaaGreat
open Go.RowKit
theorem of7 : OfOK 7 8 7 false := fun w => by
  go_enter Tryz.func11, Tryz.ntmps11
  go_wp2
  refine bodyPost_ret (v := .tuple #[.agg #[.int .i64 8, .int .i64 7, .bool false], .int .i64 0]) (by simp [results, Tryz.results11, go_sem]) rfl ⟨rfl, ?_⟩
  repeat' (first | exact Below.refl _ _ | refine Below.setCell ?_ (by simp) _ | refine Below.alloc ?_ (by simp) _)
theorem of8 : OfOK 8 8 7 false := fun w => by
  go_enter Tryz.func11, Tryz.ntmps11
  go_wp2
  refine bodyPost_ret (v := .tuple #[.agg #[.int .i64 8, .int .i64 7, .bool false], .int .i64 0]) (by simp [results, Tryz.results11, go_sem]) rfl ⟨rfl, ?_⟩
  repeat' (first | exact Below.refl _ _ | refine Below.setCell ?_ (by simp) _ | refine Below.alloc ?_ (by simp) _)
def tilesV (a b : Int) : Int × Int := if a < 1 ∨ b < 1 then (0, 0) else ((a - 1) / 4 + 1, (b - 1) / 4 + 1)
theorem tiles_any (a b : Int) (w : World) (h1 : -9223372036854775808 ≤ a) (h2 : a ≤ 9223372036854775807) (h3 : -9223372036854775808 ≤ b) (h4 : b ≤ 9223372036854775807) :
    Calls Tryz.prog 52 #[.int .i64 a, .int .i64 b] w fun e w' => e = .returned (.tuple #[.int .i64 (tilesV a b).1, .int .i64 (tilesV a b).2]) ∧ w = w' := by
  by_cases h : a < 1 ∨ b < 1
  · have e : tilesV a b = (0, 0) := by unfold tilesV; rw [if_pos h]
    rw [e]
    clear e
    go_enter Tryz.func52, Tryz.ntmps52
    go_wp2
    all_goals first | (exfalso; omega) | skip
    all_goals go_ret2
    all_goals exact ⟨rfl, rfl⟩
  · have e : tilesV a b = ((a - 1) / 4 + 1, (b - 1) / 4 + 1) := by unfold tilesV; rw [if_neg h]
    rw [e]
    have g1 : 1 ≤ a := by omega
    have g2 : 1 ≤ b := by omega
    have hd : (decide (a < 1) || decide (b < 1)) = false := by simp; omega
    clear e h
    go_enter Tryz.func52, Tryz.ntmps52
    go_wp2
    go_ret2
    exact ⟨rfl, rfl⟩
theorem tilesV_bd {a b : Int} (ha : a ≤ 9223372036854775807) (hb : b ≤ 9223372036854775807) : 0 ≤ (tilesV a b).1 ∧ (tilesV a b).1 ≤ 9223372036854775807 ∧ 0 ≤ (tilesV a b).2 ∧ (tilesV a b).2 ≤ 9223372036854775807 := by
  unfold tilesV
  split <;> simp only [] <;> omega
/-- the bytes of a level of a size, of so many a block -/
def bytV (b w h : Int) : Int × Int := if w < 1 ∨ h < 1 then (0, 1) else
  if (timesV (tilesV w h).1 (tilesV w h).2).2 ≠ 0 then (0, (timesV (tilesV w h).1 (tilesV w h).2).2) else timesV (timesV (tilesV w h).1 (tilesV w h).2).1 b
set_option maxHeartbeats 1000000 in
theorem bytes_any (f b m W H : Int) (wd : Bool) (w : World) (OF : OfOK f b m wd) (hb0 : 0 ≤ b) (hb1 : b ≤ 1000) (hW0 : -9223372036854775808 ≤ W) (hW : W ≤ 9223372036854775807) (hH0 : -9223372036854775808 ≤ H) (hH : H ≤ 9223372036854775807) :
    Calls Tryz.prog 98 #[.int .i64 f, .int .i64 W, .int .i64 H] w fun e w' => e = .returned (.tuple #[.int .i64 (bytV b W H).1, .int .i64 (bytV b W H).2]) ∧ Below w.heap.size w w' := by
  have hO := hide OF
  clear OF
  by_cases h1 : W < 1
  · have d1 : decide (W < 1) = true := by simpa using h1
    have HX := hide (show bytV b W H = (0, 1) by unfold bytV; rw [if_pos (by omega)])
    clear h1
    go_enter Tryz.func98, Tryz.ntmps98
    go_wp2_with fail
    refine (hO.out _).mono ?_
    rintro e w1 ⟨rfl, hb1⟩
    have HB := hide hb1
    clear hb1
    go_wp2
    go_ret2
    exact ⟨ret2 HX.out.symm, HB.out.alloc HB.out.size _⟩
  by_cases h2 : H < 1
  · have d1 : decide (W < 1) = false := by simpa using h1
    have d2 : decide (H < 1) = true := by simpa using h2
    have HX := hide (show bytV b W H = (0, 1) by unfold bytV; rw [if_pos (by omega)])
    clear h1 h2
    go_enter Tryz.func98, Tryz.ntmps98
    go_wp2_with fail
    refine (hO.out _).mono ?_
    rintro e w1 ⟨rfl, hb1⟩
    have HB := hide hb1
    clear hb1
    go_wp2
    go_ret2
    exact ⟨ret2 HX.out.symm, HB.out.alloc HB.out.size _⟩
  have d1 : decide (W < 1) = false := by simpa using h1
  have d2 : decide (H < 1) = false := by simpa using h2
  have tb := tilesV_bd hW hH
  obtain ⟨x, y, hxy⟩ : ∃ x y, tilesV W H = (x, y) := ⟨_, _, rfl⟩
  have tt := timesV_bd x y
  obtain ⟨q, e1, hq⟩ : ∃ q e, timesV x y = (q, e) := ⟨_, _, rfl⟩
  obtain ⟨u, e2, hu⟩ : ∃ u e, timesV q b = (u, e) := ⟨_, _, rfl⟩
  rw [hxy] at tb
  rw [hq] at tt
  simp only at tb tt
  have hv : bytV b W H = if e1 ≠ 0 then (0, e1) else (u, e2) := by
    unfold bytV
    rw [if_neg (by omega), hxy]
    simp only [hq, hu]
  have s52 : ∀ w, Calls Tryz.prog 52 #[.int .i64 W, .int .i64 H] w fun e w' => e = .returned (.tuple #[.int .i64 x, .int .i64 y]) ∧ w = w' := fun w => by
    have := tiles_any W H w hW0 hW hH0 hH
    rw [hxy] at this; exact this
  have s1 : ∀ w, Calls Tryz.prog 95 #[.int .i64 x, .int .i64 y] w fun e w' => e = .returned (.tuple #[.int .i64 q, .int .i64 e1]) ∧ w = w' := fun w => by
    have := times_any x y w (by omega) (by omega) (by omega) (by omega)
    rw [hq] at this; exact this
  have s2 : ∀ w, Calls Tryz.prog 95 #[.int .i64 q, .int .i64 b] w fun e w' => e = .returned (.tuple #[.int .i64 u, .int .i64 e2]) ∧ w = w' := fun w => by
    have := times_any q b w (by omega) (by omega) (by omega) (by omega)
    rw [hu] at this; exact this
  have HV := hide hv
  clear hv hq hu hxy h1 h2 tb tt
  by_cases he : e1 = 0
  · have d3 : (e1 != 0) = false := by simpa using he
    have HX := hide (show bytV b W H = (u, e2) by rw [HV.out, if_neg (by omega)])
    clear he HV
    go_enter Tryz.func98, Tryz.ntmps98
    go_wp2_with fail
    refine (hO.out _).mono ?_
    rintro e w1 ⟨rfl, hb1⟩
    have HB := hide hb1
    clear hb1
    go_wp2_with (first
      | (go_at_call 52; ((with_reducible refine (s52 _).mono ?_); rintro e w' ⟨rfl, rfl⟩))
      | (go_at_call 95; ((with_reducible refine (s1 _).mono ?_); rintro e w' ⟨rfl, rfl⟩))
      | (go_at_call 95; ((with_reducible refine (s2 _).mono ?_); rintro e w' ⟨rfl, rfl⟩)))
    go_ret2
    exact ⟨ret2 HX.out.symm, HB.out.alloc HB.out.size _⟩
  · have d3 : (e1 != 0) = true := by simpa using he
    have HX := hide (show bytV b W H = (0, e1) by rw [HV.out, if_pos he])
    clear he HV
    go_enter Tryz.func98, Tryz.ntmps98
    go_wp2_with fail
    refine (hO.out _).mono ?_
    rintro e w1 ⟨rfl, hb1⟩
    have HB := hide hb1
    clear hb1
    go_wp2_with (first
      | (go_at_call 52; ((with_reducible refine (s52 _).mono ?_); rintro e w' ⟨rfl, rfl⟩))
      | (go_at_call 95; ((with_reducible refine (s1 _).mono ?_); rintro e w' ⟨rfl, rfl⟩)))
    go_ret2
    exact ⟨ret2 HX.out.symm, HB.out.alloc HB.out.size _⟩
end Go.Proofs.YtpkclnkibhgpkaaGreat
