import Derived.Test.YtmckfppemhnhmaaL
namespace Go.Proofs.Ytmckfppemhnhmaa
open Go.RowKit

theorem place_inj {W x y x' y' : Int} (h1 : 0 ≤ x ∧ x < W) (h2 : 0 ≤ x' ∧ x' < W) (h : y * W + x = y' * W + x') : x = x' ∧ y = y' := by
  have key : ∀ a b : Int, a < b → a * W + W ≤ b * W := fun a b hab => by
    have := Int.mul_le_mul_of_nonneg_right (show a + 1 ≤ b by omega) (show 0 ≤ W by omega)
    rwa [Int.add_mul, Int.one_mul] at this
  rcases Int.lt_trichotomy y y' with g | g | g
  · have := key _ _ g; omega
  · subst g; omega
  · have := key _ _ g; omega

/-- the number of a texel in its tile -/
def numV (x y : Int) : Nat := (y % 4 * 4 + x % 4).toNat
theorem layK_at {W H x y : Int} {f t : Nat → Int} {X Y : Int} (hi : inV x y W H = true) (c : Nat) (hc : c < 4) : ∀ k : Nat, k ≤ 16 →
    layK W H f t X Y k ((4 * (y * W + x)).toNat + c) = if x / 4 = X ∧ y / 4 = Y ∧ numV x y < k then clampV (t (numV x y * 4 + c)) 255 else f ((4 * (y * W + x)).toNat + c)
  | 0, _ => by rw [layK, if_neg (by omega)]
  | k + 1, hk => by
    have ih := layK_at (f := f) (t := t) (X := X) (Y := Y) hi c hc k (by omega)
    have hb := hi
    unfold inV at hb
    simp at hb
    obtain ⟨b1, b2, b3, b4⟩ := hb
    have hp : 0 ≤ y * W := Int.mul_nonneg (by omega) (by omega)
    rw [layK]
    unfold layS
    by_cases hin : inV (4 * X + (k : Int) % 4) (4 * Y + (k : Int) / 4) W H = true
    · rw [if_pos hin]
      have hb' := hin
      unfold inV at hb'
      simp at hb'
      obtain ⟨d1, d2, d3, d4⟩ := hb'
      have hq : 0 ≤ (4 * Y + (k : Int) / 4) * W := Int.mul_nonneg (by omega) (by omega)
      unfold updK
      by_cases he : x = 4 * X + (k : Int) % 4 ∧ y = 4 * Y + (k : Int) / 4
      · have hnum : numV x y = k := by unfold numV; omega
        rw [← he.1, ← he.2, if_pos (by omega), if_pos (by omega), hnum]
        congr 2
        omega
      · have hne : ¬ (y * W + x = (4 * Y + (k : Int) / 4) * W + (4 * X + (k : Int) % 4)) := fun h => he (by
          obtain ⟨e1, e2⟩ := place_inj ⟨b1, b3⟩ ⟨d1, d3⟩ h
          exact ⟨e1, e2⟩)
        generalize (4 * Y + (k : Int) / 4) * W = q at *
        generalize y * W = p at *
        rw [if_neg (by omega), ih]
        have hiff : (x / 4 = X ∧ y / 4 = Y ∧ numV x y < k) ↔ (x / 4 = X ∧ y / 4 = Y ∧ numV x y < k + 1) := by
          constructor
          · intro h; omega
          · intro h
            refine ⟨h.1, h.2.1, ?_⟩
            unfold numV at h ⊢
            omega
        by_cases hh : x / 4 = X ∧ y / 4 = Y ∧ numV x y < k
        · rw [if_pos hh, if_pos (hiff.1 hh)]
        · rw [if_neg hh, if_neg (fun h => hh (hiff.2 h))]
    · rw [if_neg hin, ih]
      have hiff : (x / 4 = X ∧ y / 4 = Y ∧ numV x y < k) ↔ (x / 4 = X ∧ y / 4 = Y ∧ numV x y < k + 1) := by
        constructor
        · intro h; omega
        · intro h
          refine ⟨h.1, h.2.1, ?_⟩
          have hno : ¬ (x = 4 * X + (k : Int) % 4 ∧ y = 4 * Y + (k : Int) / 4) := fun e => hin (by rw [← e.1, ← e.2]; exact hi)
          unfold numV at h ⊢
          omega
      by_cases hh : x / 4 = X ∧ y / 4 = Y ∧ numV x y < k
      · rw [if_pos hh, if_pos (hiff.1 hh)]
      · rw [if_neg hh, if_neg (fun h => hh (hiff.2 h))]
theorem numV_lt (x y : Int) : numV x y < 16 := by unfold numV; omega
/-- a texel of an image with a tile laid -/
theorem lay_texel {W H x y : Int} {f t : Nat → Int} {X Y : Int} (hi : inV x y W H = true) (c : Nat) (hc : c < 4) :
    layK W H f t X Y 16 ((4 * (y * W + x)).toNat + c) = if x / 4 = X ∧ y / 4 = Y then clampV (t (numV x y * 4 + c)) 255 else f ((4 * (y * W + x)).toNat + c) := by
  rw [layK_at hi c hc 16 (Nat.le_refl _)]
  have := numV_lt x y
  by_cases h : x / 4 = X ∧ y / 4 = Y
  · rw [if_pos h, if_pos ⟨h.1, h.2, this⟩]
  · rw [if_neg h, if_neg (fun e => h ⟨e.1, e.2.1⟩)]
end Go.Proofs.Ytmckfppemhnhmaa
