import Derived.Test.YtonamhikhjjacaaI
import Derived.Test.YtonamhikhjjacaaP
namespace Go.Proofs.Ytonamhikhjjacaa
open Go.RowKit

set_option maxHeartbeats 400000 in
theorem best_zero (ao : Option Addr) (m cap : Nat) (w : World) :
    Calls Try.prog 18 #[.slice none 0 0, .slice ao m cap] w fun e w' => e = .returned (.int .i64 0) ∧ Below w.heap.size w w' := by
  have hmm := hmf
  go_enter Try.func18, Try.ntmps18
  go_wp2_with fail
  refine (least_any 29 _ _ (fun _ => 0) 0 _ (by omega) cf29 (fun i wr hi hd => by omega)).mono ?_
  rintro e w' ⟨rfl, hd⟩
  go_wp2
  go_ret
  exact ⟨rfl, (((Below.refl _ _).alloc (Nat.le_refl _) _).alloc (by simp) _).trans (hd.below _)⟩

theorem sumK_sub (x y : Int) (h : Nat → Int) (k : Nat) : sumK x h (k + 1) - sumK y h (k + 1) = sumK x h k - sumK y h k + (x - h k) * (x - h k) - (y - h k) * (y - h k) := by
  simp only [sumK]
  have e1 : (h k - x) * (h k - x) = (x - h k) * (x - h k) := by rw [← Int.neg_mul_neg]; congr 1 <;> omega
  have e2 : (h k - y) * (h k - y) = (y - h k) * (y - h k) := by rw [← Int.neg_mul_neg]; congr 1 <;> omega
  omega

theorem best_facts (n m : Nat) (f h : Nat → Int) (hn : 1 ≤ n) : bestV n m f h < n ∧ ∀ i, i < n → sumK (f (bestV n m f h)) h m ≤ sumK (f i) h m ∧ (i < bestV n m f h → sumK (f (bestV n m f h)) h m < sumK (f i) h m) := by
  unfold bestV
  obtain ⟨g1, g2⟩ := leastK_val (fun i => sumK (f i) h m) n hn
  refine ⟨g2, fun i hi => ⟨?_, fun hlt => ?_⟩⟩
  · have := leastK_min (fun i => sumK (f i) h m) n i hi
    rw [g1] at this; exact this
  · have := leastK_first (fun i => sumK (f i) h m) n i hlt
    rw [g1] at this; exact this

theorem best_three (n a : Nat) (f : Nat → Int) (ha : a < n) (hs : ∀ i, i < n → sml (f i)) : f (bestV n 3 f (fun _ => f a)) = f a := by
  obtain ⟨h1, h2⟩ := best_facts n 3 f (fun _ => f a) (by omega)
  have h := (h2 a ha).1
  have hq := hs _ h1
  have hx := hs a ha
  generalize f (bestV n 3 f (fun _ => f a)) = q at h hq
  unfold sml at hq hx
  simp only [sumK, Int.sub_self, Int.mul_zero, Int.add_zero, Int.zero_add] at h
  have := (sq_bd (n := f a - q) (by omega) (by omega)).1
  have hz : (f a - q) * (f a - q) = 0 := by omega
  rcases Int.mul_eq_zero.1 hz with h | h <;> omega

set_option maxRecDepth 100000 in
set_option maxHeartbeats 1600000 in
theorem none_no {n m : Nat} {f h : Nat → Int} {v u : Value} {w : World} (hv : RI w v n f) (hu : RI w u m h) (at' : Int) (hno : allSmall n f = false ∨ allSmall m h = false ∨ n = 0) :
    Calls Try.prog 6 #[v, u, .int .i64 at'] w fun e w' => e = .returned (.bool true) ∧ Below w.heap.size w w' := by
  have HV := hide hv
  have HU := hide hu
  obtain ⟨ao, cap, rfl, hn, _⟩ := hv
  obtain ⟨ao2, cap2, rfl, hm, _⟩ := hu
  have hb : (!allSmall n f || !allSmall m h || ((n : Int) == 0)) = true := by
    rcases hno with h | h | h
    · rw [h]; rfl
    · rw [h]; simp
    · rw [h]; simp
  clear hno
  generalize hA : allSmall n f = A at hb
  generalize hB : allSmall m h = B at hb
  have HA := hide hA
  have HB := hide hB
  clear hA hB
  by_cases h0 : n = 0
  · subst h0
    clear hb
    cases A <;> cases B <;>
    · go_enter Try.func6, Try.ntmps6
      go_wp2_with fail
      refine (awake_any _).mono ?_
      rintro e w1 ⟨rfl, hb1⟩
      go_wp2_with fail
      refine (smalls_any 0 f _ _ (HV.out.below hb1 (Nat.le_refl _))).mono ?_
      rintro e w' ⟨rfl, rfl⟩
      rw [HA.out]
      go_wp2_with fail
      refine (smalls_any m h _ _ (HU.out.below hb1 (Nat.le_refl _))).mono ?_
      rintro e w' ⟨rfl, rfl⟩
      rw [HB.out]
      go_wp2_with fail
      refine (best_zero _ _ _ _).mono ?_
      rintro e w2 ⟨rfl, hb2⟩
      have hb3 := hb1.trans (hb2.mono hb1.size)
      clear hb1 hb2
      go_wp2_with fail
      go_ret
      exact ⟨rfl, hb3⟩
  · have hz : ((n : Int) == 0) = false := by simp; omega
    rw [hz] at hb
    cases A <;> cases B
    case true.true => simp at hb
    all_goals
      clear hb
      go_enter Try.func6, Try.ntmps6
      go_wp2_with fail
      refine (awake_any _).mono ?_
      rintro e w1 ⟨rfl, hb1⟩
      go_wp2_with fail
      refine (smalls_any n f _ _ (HV.out.below hb1 (Nat.le_refl _))).mono ?_
      rintro e w' ⟨rfl, rfl⟩
      rw [HA.out]
      go_wp2_with fail
      refine (smalls_any m h _ _ (HU.out.below hb1 (Nat.le_refl _))).mono ?_
      rintro e w' ⟨rfl, rfl⟩
      rw [HB.out]
      go_wp2_with fail
      refine (best_zero _ _ _ _).mono ?_
      rintro e w2 ⟨rfl, hb2⟩
      have hb3 := hb1.trans (hb2.mono hb1.size)
      clear hb1 hb2
      go_wp2_with fail
      go_ret
      exact ⟨rfl, hb3⟩
end Go.Proofs.Ytonamhikhjjacaa
