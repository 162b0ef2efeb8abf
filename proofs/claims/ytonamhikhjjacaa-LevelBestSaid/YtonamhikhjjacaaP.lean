import Derived.Test.YtonamhikhjjacaaF
namespace Go.Proofs.Ytonamhikhjjacaa
open Go.RowKit

theorem leastK_min (g : Nat → Int) (k : Nat) : ∀ j, j < k → (leastK g k).2 ≤ g j := by
  induction k with
  | zero => intro j hj; omega
  | succ k ih =>
    intro j hj
    rw [leastK]
    by_cases hc : k = 0 ∨ g k < (leastK g k).2
    · rw [if_pos hc]
      rcases hc with h0 | hl
      · obtain rfl : j = k := by omega
        exact Int.le_refl _
      · by_cases e : j = k
        · subst e; exact Int.le_refl _
        · have := ih j (by omega)
          simp only []
          omega
    · rw [if_neg hc]
      by_cases e : j = k
      · subst e
        have : ¬ g j < (leastK g j).2 := fun h => hc (Or.inr h)
        omega
      · exact ih j (by omega)

theorem leastK_first (g : Nat → Int) (k : Nat) : ∀ j, j < (leastK g k).1 → (leastK g k).2 < g j := by
  induction k with
  | zero => intro j hj; simp [leastK] at hj
  | succ k ih =>
    intro j hj
    rw [leastK] at hj ⊢
    by_cases hc : k = 0 ∨ g k < (leastK g k).2
    · rw [if_pos hc] at hj ⊢
      simp only [] at hj ⊢
      rcases hc with h0 | hl
      · omega
      · have := leastK_min g k j hj
        omega
    · rw [if_neg hc] at hj ⊢
      exact ih j hj

theorem wide_all : ∀ b : Fin 9, ∀ u : Fin 256, 1 ≤ b.val → u.val < 2 ^ b.val → (u.val = 0 → wideN u.val b.val = 0) ∧ (0 < u.val → wideN (u.val - 1) b.val < wideN u.val b.val) ∧ (u.val = 2 ^ b.val - 1 → wideN u.val b.val = 255) := by decide +kernel
theorem wide_facts (u b : Nat) (hu : u < 2 ^ b) (h1 : 1 ≤ b) (h2 : b ≤ 8) : (u = 0 → wideN u b = 0) ∧ (0 < u → wideN (u - 1) b < wideN u b) ∧ (u = 2 ^ b - 1 → wideN u b = 255) :=
  wide_all ⟨b, by omega⟩ ⟨u, by have : 2 ^ b ≤ 2 ^ 8 := Nat.pow_le_pow_right (by omega) h2; omega⟩ h1 hu
theorem wide_mono (b : Nat) (h1 : 1 ≤ b) (h2 : b ≤ 8) : ∀ v, v < 2 ^ b → ∀ u, u < v → wideN u b < wideN v b := by
  intro v
  induction v with
  | zero => intro _ u hu; omega
  | succ v ih =>
    intro hv u hu
    have h := (wide_facts (v + 1) b hv h1 h2).2.1 (by omega)
    simp at h
    by_cases e : u = v
    · subst e; exact h
    · have := ih (by omega) u (by omega)
      omega
theorem wideV_nat (u b : Nat) (hu : u < 2 ^ b) (h1 : 1 ≤ b) (h2 : b ≤ 8) : wideV u b = wideN u b := by
  unfold wideV
  rw [if_neg (by omega), Int.toNat_natCast]
  have e : ((2 : Int) ^ b) = ((2 ^ b : Nat) : Int) := by rw [Int.natCast_pow]; rfl
  rw [e, Int.emod_eq_of_lt (by omega) (by omega), Int.toNat_natCast]
theorem wideV_add (v : Int) (b : Nat) (h1 : 1 ≤ b) (h2 : b ≤ 8) : wideV (v + 2 ^ b) b = wideV v b := by
  unfold wideV
  rw [if_neg (by omega), if_neg (by omega), Int.toNat_natCast, Int.add_emod_right]

theorem near_facts (n : Int) (b : Nat) (h1 : 1 ≤ b) (h2 : b ≤ 8) : ∃ k : Nat, nearV n b = k ∧ k < 2 ^ b ∧ ∀ j : Nat, j < 2 ^ b → (wideV k b - n) * (wideV k b - n) ≤ (wideV j b - n) * (wideV j b - n) := by
  unfold nearV
  rw [if_neg (by omega), Int.toNat_natCast]
  have hp : 1 ≤ 2 ^ b := Nat.pow_pos (by omega)
  obtain ⟨g1, g2⟩ := leastK_val (sqd n b) (2 ^ b) hp
  refine ⟨_, rfl, g2, fun j hj => ?_⟩
  have := leastK_min (sqd n b) (2 ^ b) j hj
  rw [g1] at this
  exact this
theorem near_wide (k b : Nat) (hk : k < 2 ^ b) (h1 : 1 ≤ b) (h2 : b ≤ 8) : nearV (wideV k b) b = k := by
  obtain ⟨j, hj, hjl, hmin⟩ := near_facts (wideV k b) b h1 h2
  rw [hj]
  have h := hmin k hk
  rw [Int.sub_self, Int.zero_mul] at h
  have e : wideV j b = wideV k b := by
    have h0 := (sq_bd (n := wideV j b - wideV k b) (by have := wideV_bd j b; have := wideV_bd k b; omega) (by have := wideV_bd j b; have := wideV_bd k b; omega)).1
    have hz : (wideV j b - wideV k b) * (wideV j b - wideV k b) = 0 := by omega
    rcases Int.mul_eq_zero.1 hz with h | h <;> omega
  rw [wideV_nat j b hjl h1 h2, wideV_nat k b hk h1 h2] at e
  by_cases c1 : j < k
  · have := wide_mono b h1 h2 k hk j c1; omega
  · by_cases c2 : k < j
    · have := wide_mono b h1 h2 j hjl k c2; omega
    · have : j = k := by omega
      rw [this]
end Go.Proofs.Ytonamhikhjjacaa
