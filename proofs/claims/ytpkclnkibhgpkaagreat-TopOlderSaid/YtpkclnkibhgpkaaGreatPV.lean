/-
One surface of a texture, told by its number. Its conditions: a texture that passed the check, of data that is not too long.
-/
import Derived.Test.YtpkclnkibhgpkaaGreatPU
namespace Go.Proofs.YtpkclnkibhgpkaaGreat
open Go.RowKit
attribute [local irreducible] agOf
def sX (W n : Int) (i : Nat) : Int := sideV W ((i : Int) % n)
def sM (W H n : Int) (i : Nat) : Nat := (sX W n i * sX H n i).toNat
def sC (W H n : Int) (i : Nat) : Nat := (tilesV (sX W n i) (sX H n i)).1.toNat
def sR (W H n : Int) (i : Nat) : Nat := (tilesV (sX W n i) (sX H n i)).2.toNat
def sF (T : (Nat → Int) → Nat → Int) (g : Nat → Nat → Int) (W H n : Int) (i : Nat) : Nat → Int :=
  surV (sX W n i) (sX H n i) (fun y x => T (fun j => g i ((y * sC W H n i + x) * 8 + j))) (sC W H n i) (sR W H n i)
/-- what a texture is that passed the check -/
structure TexOK (W H Ly F n : Int) (N : Nat) (L : Nat → Nat) : Prop where
  w1 : 1 ≤ W
  w2 : W ≤ 4096
  h1 : 1 ≤ H
  h2 : H ≤ 4096
  l1 : 1 ≤ Ly
  l2 : Ly ≤ 2147483647
  f : F = 1 ∨ F = 6
  n1 : 1 ≤ n
  n2 : n ≤ 63
  lv : n ≤ levelsV W H
  hN : (N : Int) = Ly * F * n
  hL : ∀ i, i < N → (L i : Int) = sizF 8 W H ((i : Int) % n).toNat
theorem sideV_one {x k : Int} (h : 1 ≤ x) (hk : 0 ≤ k) : 1 ≤ sideV x k := by
  unfold sideV
  rw [if_neg (by omega)]
  exact hk_pos h _
theorem lenI {W H Ly F n : Int} {N : Nat} {L : Nat → Nat} (ok : TexOK W H Ly F n N L) {i : Nat} (hiN : i < N) : L i = sC W H n i * sR W H n i * 8 ∧ sC W H n i ≤ 1024 ∧ sR W H n i ≤ 1024 := by
  have hn1 := ok.n1
  have hm := Int.emod_nonneg (i : Int) (show n ≠ 0 by omega)
  have bX := sideV_bd (of := ((i : Int) % n)) ok.w1
  have bY := sideV_bd (of := ((i : Int) % n)) ok.h1
  have pX := sideV_one ok.w1 hm
  have pY := sideV_one ok.h1 hm
  have hw2 := ok.w2
  have hh2 := ok.h2
  have eX : sideV W ((i : Int) % n) = sX W n i := rfl
  have eY : sideV H ((i : Int) % n) = sX H n i := rfl
  rw [eX] at bX pX
  rw [eY] at bY pY
  have tv : tilesV (sX W n i) (sX H n i) = ((sX W n i - 1) / 4 + 1, (sX H n i - 1) / 4 + 1) := by unfold tilesV; rw [if_neg (by omega)]
  have eC : ((sC W H n i : Nat) : Int) = (sX W n i - 1) / 4 + 1 := by unfold sC; rw [tv]; simp only; omega
  have eR : ((sR W H n i : Nat) : Int) = (sX H n i - 1) / 4 + 1 := by unfold sR; rw [tv]; simp only; omega
  have tt : tilesV (sX W n i) (sX H n i) = ((sC W H n i : Int), (sR W H n i : Int)) := by rw [tv, eC, eR]
  have hL := ok.hL i hiN
  have hsz : (L i : Int) = (sC W H n i : Int) * (sR W H n i : Int) * 8 := by
    rw [hL]
    unfold sizF
    rw [Int.toNat_of_nonneg hm, eX, eY]
    unfold bytV
    rw [if_neg (by omega), tt]
    simp only
    have hcr := mul_bd (x := (sC W H n i : Int)) (y := (sR W H n i : Int)) (X := 1024) (Y := 1024) (by omega) (by omega) (by omega) (by omega)
    obtain ⟨pr, hpr⟩ : ∃ pr, pr = (sC W H n i : Int) * (sR W H n i : Int) := ⟨_, rfl⟩
    have q1 : timesV (sC W H n i : Int) (sR W H n i : Int) = (pr, 0) := by
      unfold timesV
      rw [if_neg (by omega), ← hpr, if_neg (by omega)]
    have hp0 : 0 ≤ pr := by rw [hpr]; exact Int.mul_nonneg (by omega) (by omega)
    rw [q1]
    simp only [ne_eq, not_true_eq_false, if_false]
    unfold timesV
    rw [if_neg (by omega), if_neg (by omega)]
    simp only
    rw [hpr]
  refine ⟨?_, by omega, by omega⟩
  have : ((L i : Nat) : Int) = ((sC W H n i * sR W H n i * 8 : Nat) : Int) := by rw [hsz]; simp
  omega
theorem lenI_le {W H Ly F n : Int} {N : Nat} {L : Nat → Nat} (ok : TexOK W H Ly F n N L) : ∀ i, i < N → L i ≤ 10000000 := fun i hi => by
  obtain ⟨h1, h2, h3⟩ := lenI ok hi
  have := Nat.mul_le_mul h2 h3
  omega
theorem surf_at (f m W H Ly F n a c l : Int) (wd : Bool) (dv pv : Value) (T : (Nat → Int) → Nat → Int) (N : Nat) (V : Nat → Value) (L : Nat → Nat) (g : Nat → Nat → Int) (i : Nat) (w0 w : World) (OF : OfOK f 8 m wd) (HDE : DecOK f T)
    (ok : TexOK W H Ly F n N L) (hD : Dat w0 dv N V L g) (hb : Below w0.heap.size w0 w) (hLi : ∀ i, i < N → L i ≤ 10000000) (ha : 0 ≤ a ∧ a < Ly) (hc : 0 ≤ c ∧ c < F) (hl : 0 ≤ l ∧ l < n) (hi : (a * F + c) * n + l = (i : Int)) (hiN : i < N) :
    Calls Tryz.prog 20 #[.agg #[.int .i64 f, .int .i64 W, .int .i64 H, .int .i64 Ly, .int .i64 F, .int .i64 n, dv, pv], .int .i64 a, .int .i64 c, .int .i64 l] w
      fun e w' => ∃ gp cap, e = .returned (.agg #[.int .i64 (sX W n i), .int .i64 (sX H n i), .slice (some ⟨gp, 0, none⟩) (sM W H n i) cap]) ∧ Bk w' gp (sM W H n i * 4) (sF T g W H n i) ∧ w.heap.size ≤ gp ∧ Below w.heap.size w w' := by
  have hF := ok.f
  have hlm : (i : Int) % n = l := by
    rw [← hi, Int.add_comm, Int.add_mul_emod_self_right]
    exact Int.emod_eq_of_lt hl.1 hl.2
  have eX : sideV W l = sX W n i := by unfold sX; rw [hlm]
  have eY : sideV H l = sX H n i := by unfold sX; rw [hlm]
  have bX := sideV_bd (of := l) ok.w1
  have bY := sideV_bd (of := l) ok.h1
  have pX := sideV_one ok.w1 hl.1
  have pY := sideV_one ok.h1 hl.1
  have hw2 := ok.w2
  have hh2 := ok.h2
  rw [eX] at bX pX
  rw [eY] at bY pY
  have tv : tilesV (sX W n i) (sX H n i) = ((sX W n i - 1) / 4 + 1, (sX H n i - 1) / 4 + 1) := by unfold tilesV; rw [if_neg (by omega)]
  have eC : ((sC W H n i : Nat) : Int) = (sX W n i - 1) / 4 + 1 := by unfold sC; rw [tv]; simp only; omega
  have eR : ((sR W H n i : Nat) : Int) = (sX H n i - 1) / 4 + 1 := by unfold sR; rw [tv]; simp only; omega
  have tt : tilesV (sX W n i) (sX H n i) = ((sC W H n i : Int), (sR W H n i : Int)) := by rw [tv, eC, eR]
  have hL := ok.hL i hiN
  have hsz : (L i : Int) = (sC W H n i : Int) * (sR W H n i : Int) * 8 := by
    rw [hL, hlm]
    unfold sizF
    rw [Int.toNat_of_nonneg hl.1, eX, eY]
    unfold bytV
    rw [if_neg (by omega), tt]
    simp only
    have hcr := mul_bd (x := (sC W H n i : Int)) (y := (sR W H n i : Int)) (X := 1024) (Y := 1024) (by omega) (by omega) (by omega) (by omega)
    obtain ⟨pr, hpr⟩ : ∃ pr, pr = (sC W H n i : Int) * (sR W H n i : Int) := ⟨_, rfl⟩
    have q1 : timesV (sC W H n i : Int) (sR W H n i : Int) = (pr, 0) := by
      unfold timesV
      rw [if_neg (by omega), ← hpr, if_neg (by omega)]
    have hp0 : 0 ≤ pr := by rw [hpr]; exact Int.mul_nonneg (by omega) (by omega)
    rw [q1]
    simp only [ne_eq, not_true_eq_false, if_false]
    unfold timesV
    rw [if_neg (by omega), if_neg (by omega)]
    simp only
    rw [hpr]
  refine surface_any f W H Ly F n a c l (sX W n i) (sX H n i) dv pv T (fun y x j => g i ((y * sC W H n i + x) * 8 + j)) (sC W H n i) (sR W H n i) (sM W H n i) w0 w hb (fun y x wr hy hx hbw => ?_) HDE (by omega) (by omega) (by have := ok.h1; omega) (by omega) (by have := ok.n2; omega) eX eY tt (by omega) (by omega) (by omega) (by omega) ?_
  · refine block_any f m W H Ly F n a c l (x : Int) (y : Int) (sC W H n i : Int) (sR W H n i : Int) wd dv pv N V L g i ((y * sC W H n i + x) * 8) wr OF (by omega) (by omega) (by have := ok.h1; omega) (by omega) ok.l2 (by omega) ok.n2 ha hc hl (hD.below hbw (Nat.le_refl _)) hi hiN (by rw [eX, eY]; exact tt) (by omega) (by omega) (by simp [Int.natCast_add, Int.natCast_mul]) ?_ (hLi i hiN)
    have := Nat.mul_le_mul_right (sC W H n i) (show y + 1 ≤ sR W H n i by omega)
    rw [Nat.add_mul, Nat.one_mul, Nat.mul_comm (sR W H n i)] at this
    have h2 : L i = sC W H n i * sR W H n i * 8 := by
      have : ((L i : Nat) : Int) = ((sC W H n i * sR W H n i * 8 : Nat) : Int) := by rw [hsz]; simp
      omega
    rw [h2]
    omega
  · unfold sM
    have := Int.mul_nonneg (show 0 ≤ sX W n i by omega) (show 0 ≤ sX H n i by omega)
    omega
end Go.Proofs.YtpkclnkibhgpkaaGreat
