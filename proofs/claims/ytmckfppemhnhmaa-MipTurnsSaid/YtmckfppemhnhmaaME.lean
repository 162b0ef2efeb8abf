import Derived.Test.YtmckfppemhnhmaaMA
import Derived.Test.YtmckfppemhnhmaaN
import Derived.StillTailTactics
import Derived.Deep.DeepCutAuto
namespace Go.Proofs.Ytmckfppemhnhmaa
open Go.RowKit

/-- the four texels that a half's texel is of -/
def cornV (W H : Int) (f : Nat → Int) (x y : Int) (k c : Nat) : Int := f (nearO W H (2 * x + (k : Int) % 2) (2 * y + (k : Int) / 2) + c)
def sumK (W H : Int) (f : Nat → Int) (x y : Int) : Nat → Nat → Int
  | 0, _ => 2
  | k + 1, c => sumK W H f x y k c + cornV W H f x y k c
def meanV (W H : Int) (f : Nat → Int) (x y : Int) (c : Nat) : Int := sumK W H f x y 4 c / 4
theorem sumK_bd {W H : Int} {f : Nat → Int} (hf : ∀ i, 0 ≤ f i ∧ f i ≤ 255) (x y : Int) (c : Nat) : ∀ k : Nat, 2 ≤ sumK W H f x y k c ∧ sumK W H f x y k c ≤ 2 + 255 * k
  | 0 => ⟨Int.le_refl _, by simp [sumK]⟩
  | k + 1 => by
    have ih := sumK_bd hf x y c (W := W) (H := H) k
    have h := hf (nearO W H (2 * x + (k : Int) % 2) (2 * y + (k : Int) / 2) + c)
    rw [sumK]
    unfold cornV
    omega
theorem meanV_bd {W H : Int} {f : Nat → Int} (hf : ∀ i, 0 ≤ f i ∧ f i ≤ 255) (x y : Int) (c : Nat) : 0 ≤ meanV W H f x y c ∧ meanV W H f x y c ≤ 255 := by
  have := sumK_bd hf x y c (W := W) (H := H) 4
  unfold meanV
  omega

/-- four numbers, the first j of one kind -/
def mix4 (p q : Nat → Int) (j : Nat) : Array Value := #[.int .i64 (if 0 < j then p 0 else q 0), .int .i64 (if 1 < j then p 1 else q 1), .int .i64 (if 2 < j then p 2 else q 2), .int .i64 (if 3 < j then p 3 else q 3)]
def four (p : Nat → Int) : Array Value := #[.int .i64 (p 0), .int .i64 (p 1), .int .i64 (p 2), .int .i64 (p 3)]
theorem mix4_next (p q : Nat → Int) (j : Nat) (hj : j < 4) : (mix4 p q j).setIfInBounds j (.int .i64 (p j)) = mix4 p q (j + 1) := by
  rcases (by omega : j = 0 ∨ j = 1 ∨ j = 2 ∨ j = 3) with rfl | rfl | rfl | rfl <;> simp [mix4]
theorem mix4_zero (p q : Nat → Int) : mix4 p q 0 = four q := by simp [mix4, four]
theorem mix4_four (p q : Nat → Int) : mix4 p q 4 = four p := by simp [mix4, four]
theorem mix4_at (p q : Nat → Int) (j : Nat) (hj : j < 4) : (mix4 p q j)[j]? = some (.int .i64 (q j)) := by
  rcases (by omega : j = 0 ∨ j = 1 ∨ j = 2 ∨ j = 3) with rfl | rfl | rfl | rfl <;> simp [mix4]
theorem four_at (p : Nat → Int) (j : Nat) (hj : j < 4) : (four p)[j]? = some (.int .i64 (p j)) := by
  rcases (by omega : j = 0 ∨ j = 1 ∨ j = 2 ∨ j = 3) with rfl | rfl | rfl | rfl <;> simp [four]
theorem four_tex (f : Nat → Int) (o : Nat) : texV f o = four (fun c => f (o + c)) := rfl
theorem four_ag (p : Nat → Int) : Ag (four p) 4 p := ⟨rfl, fun i hi => four_at p i hi⟩

set_option maxRecDepth 100000 in
set_option maxHeartbeats 1600000 in
theorem mean_any {W H : Int} (x y : Int) {n : Nat} {f : Nat → Int} {v : Value} {w : World} (hv : Im w v W H n f) (hr : rightV W H n = true) (hx : 0 ≤ x ∧ x ≤ 4096) (hy : 0 ≤ y ∧ y ≤ 4096) :
    Calls Try.prog 42 #[v, .int .i64 x, .int .i64 y] w fun e w' => e = .returned (.agg (four (meanV W H f x y))) ∧ Below w.heap.size w w' := by
  have HV := hide hv
  obtain ⟨ao, cap, rfl, hrd, hW, hH⟩ := hv
  have hf : ∀ i, 0 ≤ f i ∧ f i ≤ 255 := by obtain ⟨_, _, _, _, hf, _⟩ := hrd; exact hf
  have HF := hide hf
  have HR := hide hr
  have hws : 1 ≤ W ∧ 1 ≤ H ∧ W ≤ 4096 ∧ H ≤ 4096 := by unfold rightV at hr; simp at hr; omega
  clear hrd hf hr
  unfold four
  go_enter Try.func42, Try.ntmps42
  go_upto_region 2 with (fail)
  obtain ⟨w1, hw1⟩ : ∃ w1, w1 = ((w.alloc (.cells #[.int .i64 W, .int .i64 H, .slice ao n cap] 24)).alloc (.cells #[.int .i64 0, .int .i64 0, .int .i64 0, .int .i64 0] 38)).alloc (.cells #[.int .i64 2, .int .i64 2, .int .i64 2, .int .i64 2] 38) := ⟨_, rfl⟩
  rw [← hw1]
  have BI := hide (show Box w1 w.heap.size #[.int .i64 W, .int .i64 H, .slice ao n cap] by rw [hw1]; (repeat' (first | (refine Box.mk' ?_; simp; done) | (refine Box.old ?_ ?_; rotate_left; (simp <;> omega)))))
  have BR := hide (show Box w1 (w.heap.size + 1) #[.int .i64 0, .int .i64 0, .int .i64 0, .int .i64 0] by rw [hw1]; (repeat' (first | (refine Box.mk' ?_; simp; done) | (refine Box.old ?_ ?_; rotate_left; (simp <;> omega)))))
  have BT := hide (show Box w1 (w.heap.size + 1 + 1) (four (sumK W H f x y 0)) by rw [hw1]; exact Box.mk' (by simp))
  have hb1 := hide (show Below w.heap.size w w1 by rw [hw1]; (repeat' (first | exact Below.refl _ _ | assumption | refine Below.setCell ?_ (by simp <;> omega) _ | refine Below.alloc ?_ (by simp <;> omega) _)))
  have hs1 : w.heap.size + 3 ≤ w1.heap.size := by rw [hw1]; simp
  clear hw1
  go_wp2_with fail
  go_loopw [14] (fun i wr => ∃ k : Nat, k ≤ 4 ∧ i = .int .i64 k ∧ Box wr (w.heap.size + 1 + 1) (four (sumK W H f x y k)) ∧ Below (w.heap.size + 1 + 1) w1 wr ∧ w.heap.size + 3 ≤ wr.heap.size) (fun i _ => 4 - (intOf i).toNat)
  case atStart => exact ⟨0, by omega, rfl, BT.out, Below.refl _ _, hs1⟩
  case round =>
    obtain ⟨k, hk, rfl, hbt, hbw, hsr⟩ := hrel
    have HT := hide hbt
    have HB := hide hbw
    have BIr := hide (BI.out.below hbw (by omega))
    clear hbt hbw
    by_cases hlt : k < 4
    · obtain ⟨⟨k0, k1, k2⟩, _⟩ := BIr.out.c3
      have dk : decide ((k : Int) < 4) = true := by simp; omega
      go_upto_region 5 with (fail)
      clear dk
      go_cut [9, 10] from 17 to 39 (fun s9 s10 wx => ∃ pu : Nat, s9 = .pointer (some ⟨pu, 0, none⟩) ∧ s10 = .int .i64 0 ∧ Box wx pu (four (cornV W H f x y k)) ∧ Below wr.heap.size wr wx ∧ wr.heap.size ≤ pu ∧ pu < wx.heap.size)
      case first =>
        go_wp2_with fail
        all_goals (
          refine (at_any _ _ (HV.out.below (hb1.out.trans (HB.out.mono (by omega))) (Nat.le_refl _))).mono ?_
          rintro e w8 ⟨rfl, hb⟩
          generalize hA : atV W H _ _ n f = A
          have hA2 : A = (texV f (nearO W H (2 * x + (k : Int) % 2) (2 * y + (k : Int) / 2)), 0) := by rw [← hA]; exact near_at HR.out (by omega) (by omega) (by omega) (by omega)
          clear hA
          subst hA2
          unfold texV
          have HB8 := hide hb
          clear hb k0 k1 k2
          go_wp2_with fail
          go_meet
          exact ⟨w8.heap.size, rfl, rfl, Box.mk' rfl, HB8.out.alloc HB8.out.size _, HB8.out.size, by simp⟩)
      case rest =>
        obtain ⟨pu, rfl, rfl, hbu, hbc, hpu, hpu2⟩ := hcut
        have BU := hide hbu
        have HBC := hide hbc
        have HT2 := hide (HT.out.below hbc (by omega))
        clear hbu hbc k0 k1 k2
        obtain ⟨sv, hsv⟩ : ∃ sv, sv = sumK W H f x y k := ⟨_, rfl⟩
        obtain ⟨cv, hcv⟩ : ∃ cv, cv = cornV W H f x y k := ⟨_, rfl⟩
        rw [← hsv] at HT2
        rw [← hcv] at BU
        have HSC := hide (show ∀ j, sumK W H f x y (k + 1) j = sv j + cv j from fun j => by rw [hsv, hcv]; rfl)
        have hbd := hide (show ∀ j, (2 ≤ sv j ∧ sv j ≤ 2000) ∧ 0 ≤ cv j ∧ cv j ≤ 255 from fun j => by
          rw [hsv, hcv]
          have := sumK_bd HF.out x y j (W := W) (H := H) k
          have := HF.out (nearO W H (2 * x + (k : Int) % 2) (2 * y + (k : Int) / 2) + j)
          unfold cornV
          omega)
        clear hsv hcv HT
        go_wp2_with fail
        go_loopw [40] (fun c wq => ∃ j : Nat, j ≤ 4 ∧ c = .int .i64 j ∧ Box wq (w.heap.size + 1 + 1) (mix4 (fun j => sv j + cv j) sv j) ∧ But (w.heap.size + 1 + 1) wc wq) (fun c _ => 4 - (intOf c).toNat)
        case atStart => exact ⟨0, by omega, rfl, by rw [mix4_zero]; exact HT2.out, But.refl _ _⟩
        case round =>
          obtain ⟨j, hj, rfl, hbt, hbut⟩ := hrel
          have HJ := hide hbt
          have HU := hide hbut
          have BUr := hide (BU.out.but hbut (by omega) hpu2)
          by_cases hltj : j < 4
          · have hjI : (j : Int) < 4 := by omega
            have hj0 : (0 : Int) ≤ (j : Int) := by omega
            obtain ⟨t0, tf0⟩ := hbt j _ (mix4_at _ _ j hltj)
            obtain ⟨u0, _⟩ := BUr.out j _ (four_at _ j hltj)
            have hb2 := hbd.out j
            have HADD := hide (show (sv j + cv j) = sv j + cv j from rfl)
            obtain ⟨p, hp⟩ : ∃ p, p = sv j := ⟨_, rfl⟩
            obtain ⟨q, hq⟩ : ∃ q, q = cv j := ⟨_, rfl⟩
            rw [← hp] at t0 hb2
            rw [← hq] at u0 hb2
            have HP := hide hp
            have HQ := hide hq
            have e1 : IntKind.i64.wrap (p + q) = p + q := (i64w _).trans (wrap_in (by omega))
            clear hbt hbut hp hq HADD
            go_wp2_with fail
            refine wp_region_still_tail 8 (by kernel_rfl) (by kernel_rfl) ?_
            simp only [List.take_succ_cons, List.take_zero, List.drop_succ_cons, List.drop_zero]
            repeat still_step
            refine wpStill_nil ?_
            change wpList _ _ _ _ _ wr.drew
            go_wp2
            refine ⟨⟨j + 1, by omega, by go_num, ?_, (HU.out.setCell (Or.inl rfl) _).drew⟩, by simp [intOf]; omega⟩
            rw [← mix4_next _ _ j hltj, HP.out, HQ.out]
            exact HJ.out.set _ (by simp [mix4]; omega)
          · obtain rfl : j = 4 := by omega
            rw [mix4_four] at hbt
            have HE := hide (show Box wr (w.heap.size + 1 + 1) (four (sumK W H f x y (k + 1))) by
              rw [show sumK W H f x y (k + 1) = fun j => sv j + cv j from funext HSC.out]; exact hbt)
            have HBq := hide (HB.out.trans ((HBC.out.mono (by omega)).trans (HU.out.below (Nat.le_refl _) (by omega))))
            have hsq : w.heap.size + 3 ≤ wr.heap.size := by have := hbut.size; omega
            clear hbt hbut
            go_wp2_with fail
            exact ⟨⟨k + 1, by omega, by go_num, HE.out, HBq.out, hsq⟩, by simp [intOf]; omega⟩
    · obtain rfl : k = 4 := by omega
      obtain ⟨sv, hsv⟩ : ∃ sv, sv = sumK W H f x y 4 := ⟨_, rfl⟩
      rw [← hsv] at HT
      have HM := hide (show ∀ j, meanV W H f x y j = sv j / 4 from fun j => by rw [hsv]; rfl)
      have hbd := hide (show ∀ j, 2 ≤ sv j ∧ sv j ≤ 2000 from fun j => by
        rw [hsv]
        have := sumK_bd HF.out x y j (W := W) (H := H) 4
        omega)
      have BR3 := hide (BR.out.below HB.out (by omega))
      have HB3 := hide (hb1.out.trans (HB.out.mono (by omega)))
      clear hsv BIr
      go_wp2_with fail
      go_loopw [53] (fun c wq => ∃ j : Nat, j ≤ 4 ∧ c = .int .i64 j ∧ Box wq (w.heap.size + 1 + 1) (mix4 (meanV W H f x y) sv j) ∧ But (w.heap.size + 1 + 1) wr wq) (fun c _ => 4 - (intOf c).toNat)
      case atStart => exact ⟨0, by omega, rfl, by rw [mix4_zero]; exact HT.out, But.refl _ _⟩
      case round =>
        obtain ⟨j, hj, rfl, hbt, hbut⟩ := hrel
        have HJ := hide hbt
        have HU := hide hbut
        by_cases hltj : j < 4
        · have hjI : (j : Int) < 4 := by omega
          have hj0 : (0 : Int) ≤ (j : Int) := by omega
          obtain ⟨t0, tf0⟩ := hbt j _ (mix4_at _ _ j hltj)
          have hb2 := hbd.out j
          obtain ⟨p, hp⟩ : ∃ p, p = sv j := ⟨_, rfl⟩
          rw [← hp] at t0 hb2
          have HP := hide hp
          clear hbt hbut hp
          go_wp2_with fail
          refine ⟨⟨j + 1, by omega, by go_num, ?_, HU.out.setCell (Or.inl rfl) _⟩, by simp [intOf]; omega⟩
          rw [← mix4_next _ _ j hltj, HM.out, ← HP.out]
          exact HJ.out.set _ (by simp [mix4]; omega)
        · obtain rfl : j = 4 := by omega
          rw [mix4_four] at hbt
          obtain ⟨m0, m1, m2, m3⟩ := hbt.c4.1
          obtain ⟨⟨l0, l1, l2, l3⟩, lf0, lf1, lf2, lf3⟩ := (BR3.out.but hbut (by omega) (by omega)).c4
          have HB4 := hide (HB3.out.trans (hbut.below (B := w.heap.size) (by omega) (by omega)))
          clear hbt hbut
          go_wp2_with fail
          refine bodyPost_ret (v := .agg #[.int .i64 (meanV W H f x y 0), .int .i64 (meanV W H f x y 1), .int .i64 (meanV W H f x y 2), .int .i64 (meanV W H f x y 3)]) (by simp [results, Try.results42, go_sem, World.cell?_setCell_same', l0, l1, l2, l3]) rfl ⟨rfl, ?_⟩
          have hbw := HB4.out
          (repeat' (first | exact Below.refl _ _ | assumption | refine Below.setCell ?_ (by simp <;> omega) _ | refine Below.alloc ?_ (by simp <;> omega) _))
end Go.Proofs.Ytmckfppemhnhmaa
