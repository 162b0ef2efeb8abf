import Derived.Test.YtmckfppemhnhmaaU
import Derived.Test.YtmckfppemhnhmaaW
namespace Go.Proofs.Ytmckfppemhnhmaa
open Go.RowKit

theorem clampV_id {n : Int} (h : 0 ≤ n ∧ n ≤ 255) : clampV n 255 = n := by unfold clampV; (repeat' split) <;> omega

/-- the tiles of an image, row by row -/
def tilesOf (W H : Int) (f : Nat → Int) (k j : Nat) : Int := gatV W H f ((k : Int) % (tilesV W H).1) ((k : Int) / (tilesV W H).1) j

theorem tile_num {x y a : Int} (ha : 1 ≤ a) (hx : 0 ≤ x) (hxa : x < a) (k : Int) : (x = k % a ∧ y = k / a) ↔ k = y * a + x := by
  constructor
  · rintro ⟨rfl, rfl⟩
    have := Int.mul_ediv_add_emod k a
    rw [Int.mul_comm] at this
    omega
  · rintro rfl
    constructor
    · rw [Int.add_comm, Int.add_mul_emod_self_right, Int.emod_eq_of_lt hx hxa]
    · rw [Int.add_comm, Int.add_mul_ediv_right _ _ (by omega), Int.ediv_eq_zero_of_lt hx hxa, Int.zero_add]

theorem tile_texel {W H x y : Int} {f : Nat → Int} (hi : inV x y W H = true) (c : Nat) (hc : c < 4) :
    gatV W H f (x / 4) (y / 4) (numV x y * 4 + c) = f ((4 * (y * W + x)).toNat + c) := by
  unfold inV at hi
  simp at hi
  obtain ⟨b1, b2, b3, b4⟩ := hi
  have e1 : (numV x y * 4 + c) / 4 = numV x y := by omega
  have e2 : (numV x y * 4 + c) % 4 = c := by omega
  unfold gatV
  rw [e1, e2]
  have h1 : 4 * (x / 4) + ((numV x y : Nat) : Int) % 4 = x := by unfold numV; omega
  have h2 : 4 * (y / 4) + ((numV x y : Nat) : Int) / 4 = y := by unfold numV; omega
  rw [h1, h2]
  unfold nearO
  rw [show min y (H - 1) = y by omega, show min x (W - 1) = x by omega]

theorem wholeK_at {W H x y : Int} {f : Nat → Int} (hf : ∀ i, 0 ≤ f i ∧ f i ≤ 255) (hi : inV x y W H = true) (c : Nat) (hc : c < 4) : ∀ k : Nat,
    wholeK W H (tilesOf W H f) k ((4 * (y * W + x)).toNat + c) = if y / 4 * (tilesV W H).1 + x / 4 < (k : Int) then f ((4 * (y * W + x)).toNat + c) else 0
  | 0 => by
    have hb := hi
    unfold inV at hb
    simp at hb
    obtain ⟨b1, b2, b3, b4⟩ := hb
    have ha : (tilesV W H).1 = (W - 1) / 4 + 1 := by unfold tilesV; rw [if_neg (by omega)]
    have h0 : 0 ≤ y / 4 * (tilesV W H).1 := Int.mul_nonneg (by omega) (by rw [ha]; omega)
    rw [wholeK, if_neg (by omega)]
  | k + 1 => by
    have ih := wholeK_at hf hi c hc k
    have hb := hi
    unfold inV at hb
    simp at hb
    obtain ⟨b1, b2, b3, b4⟩ := hb
    have ha : (tilesV W H).1 = (W - 1) / 4 + 1 := by unfold tilesV; rw [if_neg (by omega)]
    rw [wholeK, lay_texel hi c hc, ih]
    have hiff := tile_num (a := (tilesV W H).1) (x := x / 4) (y := y / 4) (by rw [ha]; omega) (by omega) (by rw [ha]; omega) (k : Int)
    by_cases h : x / 4 = (k : Int) % (tilesV W H).1 ∧ y / 4 = (k : Int) / (tilesV W H).1
    · have hk := hiff.1 h
      rw [if_pos h, if_pos (by omega)]
      unfold tilesOf
      rw [← h.1, ← h.2, tile_texel hi c hc, clampV_id (hf _)]
    · have hk : ¬ (k : Int) = y / 4 * (tilesV W H).1 + x / 4 := fun e => h (hiff.2 e)
      rw [if_neg h]
      by_cases h2 : y / 4 * (tilesV W H).1 + x / 4 < (k : Int)
      · rw [if_pos h2, if_pos (by omega)]
      · rw [if_neg h2, if_neg (by omega)]

/-- an image comes whole of its tiles -/
theorem whole_back {W H : Int} {n m : Nat} {f : Nat → Int} (hr : rightV W H n = true) (hf : ∀ i, 0 ≤ f i ∧ f i ≤ 255) (hm : (m : Int) = (tilesV W H).1 * (tilesV W H).2) (i : Nat) (hi : i < n) :
    wholeK W H (tilesOf W H f) m i = f i := by
  unfold rightV at hr
  simp at hr
  obtain ⟨⟨g1, g2, g3, g4⟩, hn⟩ := hr
  have hW : tilesV W H = ((W - 1) / 4 + 1, (H - 1) / 4 + 1) := by unfold tilesV; rw [if_neg (by omega)]
  obtain ⟨q, hq⟩ : ∃ q : Int, q = ((i / 4 : Nat) : Int) := ⟨_, rfl⟩
  have hdm := Int.mul_ediv_add_emod q W
  have x0 : 0 ≤ q % W := Int.emod_nonneg _ (by omega)
  have x1 : q % W < W := Int.emod_lt_of_pos _ (by omega)
  have y0 : 0 ≤ q / W := Int.ediv_nonneg (by omega) (by omega)
  have y1 : q / W < H := Int.ediv_lt_of_lt_mul (by omega) (by
    have : 4 * W * H = 4 * (H * W) := by rw [Int.mul_assoc, Int.mul_comm W H]
    omega)
  obtain ⟨x, hx⟩ : ∃ x, x = q % W := ⟨_, rfl⟩
  obtain ⟨y, hy⟩ : ∃ y, y = q / W := ⟨_, rfl⟩
  rw [← hx, ← hy] at hdm
  rw [← hx] at x0 x1
  rw [← hy] at y0 y1
  rw [Int.mul_comm] at hdm
  have hin : inV x y W H = true := by unfold inV; simp; omega
  have hp : 0 ≤ y * W := Int.mul_nonneg y0 (by omega)
  have hi' : i = (4 * (y * W + x)).toNat + i % 4 := by omega
  have hlt : y / 4 * (tilesV W H).1 + x / 4 < (m : Int) := by
    rw [hm, hW]
    simp only []
    have h1 : y / 4 + 1 ≤ (H - 1) / 4 + 1 := by omega
    have h2 := Int.mul_le_mul_of_nonneg_right h1 (show 0 ≤ (W - 1) / 4 + 1 by omega)
    rw [Int.add_mul, Int.one_mul, Int.mul_comm ((H - 1) / 4 + 1)] at h2
    omega
  rw [hi', wholeK_at hf hin (i % 4) (by omega) m, if_pos hlt]
end Go.Proofs.Ytmckfppemhnhmaa
