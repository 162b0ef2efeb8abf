import Derived.Test.YtmckfppemhnhmaaMO
namespace Go.Proofs.Ytmckfppemhnhmaa
open Go.RowKit

theorem Im.congr {w : World} {v : Value} {W H : Int} {n : Nat} {f g : Nat → Int} (h : Im w v W H n f) (hg : ∀ i, 0 ≤ g i ∧ g i ≤ 255) (he : ∀ i, i < n → f i = g i) : Im w v W H n g := by
  obtain ⟨ao, cap, rfl, ⟨ao', cap', e, hn, _, hc⟩, hW, hH⟩ := h
  refine ⟨ao, cap, rfl, ⟨ao', cap', e, hn, hg, fun h0 => ?_⟩, hW, hH⟩
  obtain ⟨b, off, e2, h2⟩ := hc h0
  exact ⟨b, off, e2, fun i hi => by rw [h2 i hi, he i hi]⟩
theorem turnN_bd {a b : Nat} {f : Nat → Int} (hf : ∀ i, 0 ≤ f i ∧ f i ≤ 255) (i : Nat) : 0 ≤ turnN a b f i ∧ turnN a b f i ≤ 255 := hf _

/-- the k-th corner of a turned image is the other's with the two sides of k changed -/
theorem corn_turn {a b : Nat} {f : Nat → Int} (ha : 1 ≤ a) (hb : 1 ≤ b) (x y : Nat) (k k' c : Nat) (hc : c < 4) (_ : k < 4) (h1 : k' % 2 = k / 2) (h2 : k' / 2 = k % 2) :
    cornV b a (turnN a b f) x y k c = cornV a b f y x k' c := by
  unfold cornV nearO
  obtain ⟨X, hX⟩ : ∃ X : Nat, (X : Int) = min (2 * (x : Int) + (k : Int) % 2) ((b : Int) - 1) := ⟨(min (2 * (x : Int) + (k : Int) % 2) ((b : Int) - 1)).toNat, by omega⟩
  obtain ⟨Y, hY⟩ : ∃ Y : Nat, (Y : Int) = min (2 * (y : Int) + (k : Int) / 2) ((a : Int) - 1) := ⟨(min (2 * (y : Int) + (k : Int) / 2) ((a : Int) - 1)).toNat, by omega⟩
  have hX' : min (2 * (x : Int) + (k' : Int) / 2) ((b : Int) - 1) = X := by rw [hX]; omega
  have hY' : min (2 * (y : Int) + (k' : Int) % 2) ((a : Int) - 1) = Y := by rw [hY]; omega
  rw [← hX, ← hY, hX', hY']
  have e1 : (4 * ((Y : Int) * b + X)).toNat = 4 * (Y * b + X) := by
    have : (4 * ((Y : Int) * (b : Int) + X)) = ((4 * (Y * b + X) : Nat) : Int) := by push_cast; rfl
    rw [this, Int.toNat_natCast]
  have e2 : (4 * ((X : Int) * a + Y)).toNat = 4 * (X * a + Y) := by
    have : (4 * ((X : Int) * (a : Int) + Y)) = ((4 * (X * a + Y) : Nat) : Int) := by push_cast; rfl
    rw [this, Int.toNat_natCast]
  rw [e1, e2]
  exact turnN_at (by omega) hc
theorem mean_turn {a b : Nat} {f : Nat → Int} (ha : 1 ≤ a) (hb : 1 ≤ b) (x y : Nat) (c : Nat) (hc : c < 4) : meanV b a (turnN a b f) x y c = meanV a b f y x c := by
  unfold meanV
  simp only [sumK]
  rw [corn_turn ha hb x y 0 0 c hc (by omega) (by omega) (by omega), corn_turn ha hb x y 1 2 c hc (by omega) (by omega) (by omega), corn_turn ha hb x y 2 1 c hc (by omega) (by omega) (by omega), corn_turn ha hb x y 3 3 c hc (by omega) (by omega) (by omega)]
  omega
theorem half_turn {a b p q : Nat} {f : Nat → Int} (ha : 1 ≤ a) (hb : 1 ≤ b) (hp : halfV a = (p : Int)) (hq : halfV b = (q : Int)) (i : Nat) (hi : i < 4 * (p * q)) :
    turnN p q (halfF a b f) i = halfF b a (turnN a b f) i := by
  have hp1 : 1 ≤ p := by have := halfV_pos (a : Int); omega
  have hq1 : 1 ≤ q := by have := halfV_pos (b : Int); omega
  have e : i = 4 * (i / 4 / q * q + i / 4 % q) + i % 4 := by
    have h1 := Nat.div_add_mod (i / 4) q
    rw [Nat.mul_comm] at h1
    omega
  have hx : i / 4 % q < q := Nat.mod_lt _ (by omega)
  have hy : i / 4 / q < p := Nat.div_lt_of_lt_mul (by rw [Nat.mul_comm]; omega)
  have hc : i % 4 < 4 := Nat.mod_lt _ (by omega)
  generalize i / 4 % q = x at *
  generalize i / 4 / q = y at *
  generalize i % 4 = c at *
  subst e
  rw [turnN_at hx hc, halfF_at hp hy hc, halfF_at hq hx hc, mean_turn ha hb x y c hc]

/-- one colour everywhere -/
def colF (t : Nat → Int) (i : Nat) : Int := clampV (t (i % 4)) 255
theorem colF_bd (t : Nat → Int) (i : Nat) : 0 ≤ colF t i ∧ colF t i ≤ 255 := clampV_bd _
/-- one colour in the first m texels -/
def paintF (t : Nat → Int) (m i : Nat) : Int := if i < 4 * m then colF t i else 0
theorem paintF_next (t : Nat → Int) (m : Nat) : updK (paintF t m) (4 * m) t 4 = paintF t (m + 1) := by
  funext i
  unfold updK paintF colF
  by_cases h : 4 * m ≤ i ∧ i < 4 * m + 4
  · rw [if_pos h, if_pos (by omega), show i % 4 = i - 4 * m by omega]
  · rw [if_neg h]
    by_cases h2 : i < 4 * m
    · rw [if_pos h2, if_pos (by omega)]
    · rw [if_neg h2, if_neg (by omega)]
theorem paintF_zero (t : Nat → Int) : paintF t 0 = fun _ => 0 := by
  funext i; unfold paintF; rw [if_neg (by omega)]
theorem cornV_col (W H : Int) (t : Nat → Int) (x y : Int) (k c : Nat) : cornV W H (colF t) x y k c = colF t c := by
  unfold cornV nearO colF
  generalize (min (2 * y + (k : Int) / 2) (H - 1) * W + min (2 * x + (k : Int) % 2) (W - 1)) = z
  rw [show ((4 * z).toNat + c) % 4 = c % 4 by omega]
theorem halfF_col (W H : Int) (t : Nat → Int) : halfF W H (colF t) = colF t := by
  funext i
  unfold halfF meanV
  simp only [sumK, cornV_col]
  rw [show colF t (i % 4) = colF t i by unfold colF; rw [Nat.mod_mod]]
  omega
theorem chF_col (W H : Int) (t : Nat → Int) : ∀ i, chF W H (colF t) i = colF t
  | 0 => rfl
  | i + 1 => by rw [chF, chF_col W H t i, halfF_col]

theorem ex_min (P : Nat → Prop) : ∀ n, P n → ∃ k, P k ∧ ∀ j, j < k → ¬ P j := by
  intro n
  induction n using Nat.strongRecOn with
  | ind n ih =>
    intro hn
    by_cases h : ∃ j, j < n ∧ P j
    · obtain ⟨j, hj, hp⟩ := h
      exact ih j hj hp
    · exact ⟨n, hn, fun j hj hp => h ⟨j, hj, hp⟩⟩
/-- the last size is one by one -/
theorem last_one {w h : Int} (hw : 1 ≤ w) (hh : 1 ≤ h) : ∃ k : Nat, levelsV w h = (k : Int) + 1 ∧ hk k w = 1 ∧ hk k h = 1 := by
  by_cases hs : ∃ n, hk n w ≤ 1 ∧ hk n h ≤ 1
  · obtain ⟨n, hn⟩ := hs
    obtain ⟨k, ⟨h1, h2⟩, hall⟩ := ex_min (fun n => hk n w ≤ 1 ∧ hk n h ≤ 1) n hn
    refine ⟨k, levels_of hw hh h1 h2 (fun j hj => ?_), ?_, ?_⟩
    · have h3 : ¬ (hk j w ≤ 1 ∧ hk j h ≤ 1) := hall j hj
      omega
    · have := hk_pos hw k; omega
    · have := hk_pos hh k; omega
  · exfalso
    have hall : ∀ j, 1 < hk j w ∨ 1 < hk j h := fun j => by
      by_cases h1 : hk j w ≤ 1
      · by_cases h2 : hk j h ≤ 1
        · exact absurd ⟨j, h1, h2⟩ hs
        · omega
      · omega
    have := hk_sum hw hh (w + h).toNat (fun j _ => hall j)
    have := hk_pos hw (w + h).toNat
    have := hk_pos hh (w + h).toNat
    omega
end Go.Proofs.Ytmckfppemhnhmaa
