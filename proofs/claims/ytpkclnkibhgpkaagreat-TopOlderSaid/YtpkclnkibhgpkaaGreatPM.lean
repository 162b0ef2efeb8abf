import Derived.Test.YtpkclnkibhgpkaaGreatPA
namespace Go.Proofs.YtpkclnkibhgpkaaGreat
open Go.RowKit

theorem wrap_in' {n : Int} (h : -9223372036854775808 ≤ n ∧ n ≤ 9223372036854775807) : IntKind.i64.wrap n = n := by
  simp [IntKind.wrap, IntKind.signed, IntKind.bits]; omega
def halfV (n : Int) : Int := if n < 2 then 1 else n / 2
theorem halfV_pos (n : Int) : 1 ≤ halfV n := by unfold halfV; split <;> omega
theorem halfV_le {n : Int} (h : 1 ≤ n) : halfV n ≤ n := by unfold halfV; split <;> omega
theorem halfV_lt {n : Int} (h : 1 < n) : halfV n < n := by unfold halfV; split <;> omega
theorem halfV_one : halfV 1 = 1 := by decide
theorem halfV_big {n : Int} (h : 1 < n) : n / 2 = halfV n := by unfold halfV; split <;> omega

theorem half_any (n : Int) (w : World) (h1 : -9223372036854775808 ≤ n) (h2 : n ≤ 9223372036854775807) : Calls Tryz.prog 73 #[.int .i64 n] w fun e w' => e = .returned (.int .i64 (halfV n)) ∧ w = w' := by
  by_cases h : n < 2
  · have e : halfV n = 1 := by unfold halfV; rw [if_pos h]
    rw [e]
    by_cases h0 : 0 ≤ n
    · have q : n / 2 ≤ 0 := by omega
      clear e
      go_enter Tryz.func73, Tryz.ntmps73
      go_wp2
      all_goals go_ret
      all_goals exact ⟨ret1 (by omega), rfl⟩
    · have q : n.tdiv 2 ≤ 0 := by
        have := Int.tdiv_nonneg (a := -n) (b := 2) (by omega) (by omega)
        rw [Int.neg_tdiv] at this
        omega
      have q2 : -9223372036854775808 ≤ n.tdiv 2 := by
        have := Int.tdiv_le_self (a := -n) (b := 2) (by omega)
        rw [Int.neg_tdiv] at this
        omega
      have q3 : IntKind.i64.wrap (n.tdiv 2) = n.tdiv 2 := wrap_in' (by omega)
      have hn : n < 0 := by omega
      clear e h0 h
      go_enter Tryz.func73, Tryz.ntmps73
      go_wp2
      all_goals go_ret
      all_goals exact ⟨ret1 (by omega), rfl⟩
  · have e : halfV n = n / 2 := by unfold halfV; rw [if_neg h]
    rw [e]
    have g : 2 ≤ n := by omega
    have q : 1 ≤ n / 2 := by omega
    clear e h
    go_enter Tryz.func73, Tryz.ntmps73
    go_wp2
    all_goals go_ret
    all_goals exact ⟨ret1 (by omega), rfl⟩

/-- a side, halved k times -/
def hk : Nat → Int → Int
  | 0, w => w
  | k + 1, w => halfV (hk k w)
theorem hk_succ (k : Nat) (w : Int) : hk (k + 1) w = hk k (halfV w) := by
  induction k with
  | zero => rfl
  | succ k ih => rw [hk, ih, ← hk]
theorem hk_pos {w : Int} (h : 1 ≤ w) : ∀ k, 1 ≤ hk k w
  | 0 => h
  | _ + 1 => halfV_pos _
theorem hk_le {w : Int} (h : 1 ≤ w) : ∀ k, hk k w ≤ w
  | 0 => Int.le_refl _
  | k + 1 => Int.le_trans (halfV_le (hk_pos h k)) (hk_le h k)
theorem hk_one : ∀ k, hk k 1 = 1
  | 0 => rfl
  | k + 1 => by rw [hk, hk_one k, halfV_one]
theorem hk_stay {w : Int} (h : 1 ≤ w) {k : Nat} (h1 : hk k w ≤ 1) : ∀ j, k ≤ j → hk j w = 1 := by
  intro j hj
  have e : hk k w = 1 := by have := hk_pos h k; omega
  induction j with
  | zero => obtain rfl : k = 0 := by omega
            exact e
  | succ j ih =>
    by_cases hk' : k = j + 1
    · rw [← hk']; exact e
    · rw [hk, ih (by omega), halfV_one]

def lv : Nat → Int → Int → Nat
  | 0, _, _ => 0
  | f + 1, w, h => if 1 < w ∨ 1 < h then lv f (halfV w) (halfV h) + 1 else 1
def levelsV (w h : Int) : Int := if w < 1 ∨ h < 1 then 0 else lv (w + h).toNat w h
theorem lv_of (f : Nat) : ∀ (k : Nat) (w h : Int), k < f → hk k w ≤ 1 → hk k h ≤ 1 → (∀ j, j < k → 1 < hk j w ∨ 1 < hk j h) → lv f w h = k + 1 := by
  induction f with
  | zero => intro k w h hk; omega
  | succ f ih =>
    intro k w h hkf h1 h2 hall
    cases k with
    | zero =>
      rw [lv, if_neg (by simp only [hk] at h1 h2; omega)]
    | succ k =>
      have h0 := hall 0 (by omega)
      simp only [hk] at h0
      rw [lv, if_pos h0, ih k (halfV w) (halfV h) (by omega) (by rw [← hk_succ]; exact h1) (by rw [← hk_succ]; exact h2) (fun j hj => by rw [← hk_succ, ← hk_succ]; exact hall (j + 1) (by omega))]
theorem hk_sum {w h : Int} (hw : 1 ≤ w) (hh : 1 ≤ h) : ∀ k : Nat, (∀ j, j < k → 1 < hk j w ∨ 1 < hk j h) → hk k w + hk k h + k ≤ w + h
  | 0, _ => by simp [hk]
  | k + 1, hall => by
    have ih := hk_sum hw hh k (fun j hj => hall j (by omega))
    have a1 := hk_pos hw k
    have a2 := hk_pos hh k
    have b1 := halfV_le a1
    have b2 := halfV_le a2
    rcases hall k (by omega) with g | g
    · have := halfV_lt g
      rw [hk, hk]
      omega
    · have := halfV_lt g
      rw [hk, hk]
      omega
/-- the number of the sizes, by what a walk finds -/
theorem levels_of {w h : Int} {k : Nat} (hw : 1 ≤ w) (hh : 1 ≤ h) (h1 : hk k w ≤ 1) (h2 : hk k h ≤ 1) (hall : ∀ j, j < k → 1 < hk j w ∨ 1 < hk j h) : levelsV w h = (k : Int) + 1 := by
  have hs := hk_sum hw hh k hall
  have a1 := hk_pos hw k
  have a2 := hk_pos hh k
  unfold levelsV
  rw [if_neg (by omega), lv_of _ k w h (by omega) h1 h2 hall]
  simp

def sideV (n of : Int) : Int := if n < 1 ∨ of < 0 then 0 else hk of.toNat n
theorem hk_pow {w : Int} (h : 1 ≤ w) : ∀ k : Nat, 1 < hk k w → 2 ^ k * 2 ≤ w
  | 0, g => by simp only [hk] at g; omega
  | k + 1, g => by
    have ih := hk_pow h k
    have p := hk_pos h k
    rw [hk] at g
    have g2 : 1 < hk k w := by
      rcases Int.lt_or_le 1 (hk k w) with q | q
      · exact q
      · have : hk k w = 1 := by omega
        rw [this, halfV_one] at g; omega
    have key : ∀ k : Nat, 1 < hk k w → 2 ^ k * hk k w ≤ w := by
      intro k
      induction k with
      | zero => intro _; simp [hk]
      | succ k ih =>
        intro g
        rw [hk] at g ⊢
        have p := hk_pos h k
        have g2 : 1 < hk k w := by
          rcases Int.lt_or_le 1 (hk k w) with q | q
          · exact q
          · have : hk k w = 1 := by omega
            rw [this, halfV_one] at g; omega
        have e : halfV (hk k w) = hk k w / 2 := (halfV_big g2).symm
        have := ih g2
        rw [e]
        have h2 : hk k w / 2 * 2 ≤ hk k w := by omega
        calc (2 : Int) ^ (k + 1) * (hk k w / 2) = 2 ^ k * (hk k w / 2 * 2) := by rw [Int.pow_succ, Int.mul_assoc, Int.mul_comm 2]
          _ ≤ 2 ^ k * hk k w := Int.mul_le_mul_of_nonneg_left h2 (Int.le_of_lt (Int.pow_pos (by omega)))
          _ ≤ w := this
    have := key (k + 1) (by rw [hk]; exact g)
    rw [hk] at this
    have hp : (0 : Int) < 2 ^ (k + 1) := Int.pow_pos (by omega)
    have : (2 : Int) ^ (k + 1) * 2 ≤ 2 ^ (k + 1) * halfV (hk k w) := Int.mul_le_mul_of_nonneg_left (by omega) (Int.le_of_lt hp)
    omega
theorem hk_steps {x y : Int} (hx : 1 ≤ x) (hy : 1 ≤ y) (bx : x ≤ 9223372036854775807) (by' : y ≤ 9223372036854775807) {k : Nat} (h : ∀ j, j < k → 1 < hk j x ∨ 1 < hk j y) : k ≤ 62 := by
  rcases Nat.lt_or_ge 62 k with q | q
  · have e : (2 : Int) ^ 62 * 2 = 9223372036854775808 := by decide
    rcases h 62 q with g | g
    · have := hk_pow hx 62 g; omega
    · have := hk_pow hy 62 g; omega
  · exact q
def Box (w : World) (b : Nat) (cs : Array Value) : Prop := ∀ j v, cs[j]? = some v → w.cell? ⟨b, j, none⟩ = some v ∧ w.frozen? ⟨b, j, none⟩ = false
theorem Box.mk' {w : World} {b : Nat} {cs : Array Value} {t : TypeId} (hb : b = w.heap.size) : Box (w.alloc (.cells cs t)) b cs := by
  subst hb; intro j v h; exact ⟨(cell_new w cs t j).trans h, by rw [frozen_of_row _ _ j _ _ (heap_alloc_new w _)]⟩
theorem Box.old {w : World} {b : Nat} {cs : Array Value} {o : Obj} (h : Box w b cs) (hb : b < w.heap.size) : Box (w.alloc o) b cs := fun j v hv =>
  ⟨(cell_old _ _ (by exact hb)).trans (h j v hv).1, (World.frozen?_alloc_old _ _ _ (by simp; omega)).trans (h j v hv).2⟩
theorem Box.below {w w' : World} {b B : Nat} {cs : Array Value} (h : Box w b cs) (hb : Below B w w') (hB : b < B) : Box w' b cs := fun j v hv =>
  ⟨(hb.cell (by exact hB)).trans (h j v hv).1, (hb.frozen (by exact hB)).trans (h j v hv).2⟩
theorem cell_alike {w w' : World} {b : Nat} (h : w'.heap[b]? = w.heap[b]?) (x : Addr) (hx : x.block = b) : w'.cell? x = w.cell? x ∧ w'.frozen? x = w.frozen? x := by
  subst hx
  refine ⟨?_, ?_⟩
  · unfold World.cell?; rw [h]
  · unfold World.frozen?; rw [h]
end Go.Proofs.YtpkclnkibhgpkaaGreat
