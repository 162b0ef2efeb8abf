import Derived.Test.YtmckfppemhnhmaaI
import Derived.Deep.Cut

namespace Go.Proofs.Ytmckfppemhnhmaa
open Go.RowKit

theorem atV_in {W H x y : Int} {n : Nat} {f : Nat → Int} (hr : rightV W H n = true) (hi : inV x y W H = true) : atV W H x y n f = (texV f (4 * (y * W + x)).toNat, 0) := by
  unfold atV; rw [if_pos ⟨hr, hi⟩]

theorem near_at {W H X Y a b : Int} {n : Nat} {f : Nat → Int} (hr : rightV W H n = true) (ha : a = min X (W - 1)) (hb : b = min Y (H - 1)) (hx : 0 ≤ X) (hy : 0 ≤ Y) : atV W H a b n f = (texV f (nearO W H X Y), 0) := by
  subst ha hb
  rw [atV_in hr (near_ok hr hx hy)]; rfl

set_option maxHeartbeats 1000000 in
theorem rgather_ok {W H : Int} (x y : Int) {n : Nat} {f : Nat → Int} {v : Value} {w : World} (hv : Im w v W H n f) (hh : hasV W H x y n = true) :
    Calls Try.prog 34 #[v, .int .i64 x, .int .i64 y] w (gatP W H x y n f w) := by
  have HV := hide hv
  obtain ⟨ao, cap, rfl, hrd, hW, hH⟩ := hv
  obtain ⟨hr, x1, x2, y1, y2⟩ := has_facts hh
  have hws : 1 ≤ W ∧ 1 ≤ H ∧ W ≤ 4096 ∧ H ≤ 4096 := by unfold rightV at hr; simp at hr; omega
  unfold gatP
  rw [hh, if_pos rfl, if_pos rfl]
  obtain ⟨G, hG⟩ : ∃ G, G = gatV W H f x y := ⟨_, rfl⟩
  rw [← hG]
  have HG := hide hG
  have HH := hide hh
  have HR := hide hr
  have HZ := hide Z64_ag
  have hz := Z64_ag.1
  clear hG hr hh hrd
  go_enter Try.func34, Try.ntmps34
  go_upto_region 1 with (first | (with_reducible refine wpList_run rfl (exec_alloc T48 rfl) ?_))
  obtain ⟨w0, hw0⟩ : ∃ w0 : World, w0 = (w.alloc (.cells #[.int .i64 W, .int .i64 H, .slice ao n cap] 24)).alloc (.cells Z64 48) := ⟨_, rfl⟩
  rw [← hw0]
  have BI0 := hide (show Box w0 w.heap.size #[.int .i64 W, .int .i64 H, .slice ao n cap] by rw [hw0]; (repeat' (first | (refine Box.mk' ?_; simp; done) | (refine Box.old ?_ ?_; rotate_left; (simp <;> omega)))))
  have BR0 := hide (show Box w0 (w.heap.size + 1) Z64 by rw [hw0]; (repeat' (first | (refine Box.mk' ?_; simp; done) | (refine Box.old ?_ ?_; rotate_left; (simp <;> omega)))))
  have hb0 := hide (show Below w.heap.size w w0 by rw [hw0]; (repeat' (first | exact Below.refl _ _ | assumption | refine Below.setCell ?_ (by simp <;> omega) _ | refine Below.alloc ?_ (by simp <;> omega) _)))
  have hs0 := hide (show w0.heap.size = w.heap.size + 2 by rw [hw0]; simp)
  clear hw0
  have k1 := hide (Bk.new Z64_ag w0 48)
  go_wp2_with (first | (with_reducible refine wpList_run rfl (exec_build T48 rfl) ?_) | (with_reducible refine wpList_run rfl (exec_alloc T48 rfl) ?_) | (with_reducible refine wpList_store T48 rfl (.tmp 8) (.tmp 12) rfl w0.heap.size 0 rfl Z64 rfl hz (k1.out.isSome (by omega)) (k1.out.free (by omega)) HZ.out.one ?_))
  intro w1 hs
  have hs1 : w.heap.size + 3 ≤ w1.heap.size := by have := hs0.out; rw [hs.size]; simp; omega
  have KT := hide ((k1.out.set hs HZ.out).congr (g := fun _ => 0) (fun i hi => by simp))
  have BI1 := hide ((BI0.out.old (o := .cells Z64 48) (by have := hs0.out; omega)).below (hs.below (Nat.le_refl _)) (by have := hs0.out; omega))
  have BR1 := hide ((BR0.out.old (o := .cells Z64 48) (by have := hs0.out; omega)).below (hs.below (Nat.le_refl _)) (by have := hs0.out; omega))
  have hb1 := hide ((hb0.out.alloc (by have := hs0.out; omega) (.cells Z64 48)).trans (hs.below (by have := hs0.out; omega)))
  clear hs k1 BI0 BR0 hb0
  obtain ⟨T, hT⟩ : ∃ T, T = w0.heap.size := ⟨_, rfl⟩
  rw [← hT] at KT ⊢
  have hT2 : T = w.heap.size + 2 := hT.trans hs0.out
  have HT2 := hide hT2
  clear hs0 hT hT2
  obtain ⟨⟨k0, k1, k2⟩, kf0, kf1, kf2⟩ := BI1.out.c3
  go_wp2_with fail
  refine (rhas_any W H x y _ n cap _ hW.1 hW.2 hH.1 hH.2).mono ?_
  rintro e w2 ⟨rfl, hb⟩
  rw [HH.out]
  have hTlt : T < w1.heap.size := by have := HT2.out; omega
  have KT2 := hide (KT.out.below hb hTlt)
  have BI2 := hide (BI1.out.below hb (by omega))
  have BR2 := hide (BR1.out.below hb (by omega))
  have hb2 := hide (hb1.out.trans (hb.mono (by omega)))
  have hs2 : w.heap.size + 3 ≤ w2.heap.size := by have := hb.size; omega
  clear hb k0 k1 k2 kf0 kf1 kf2 KT BI1 BR1 hb1 hTlt hs1
  go_wp2_with fail
  go_loopw [9] (fun i wr => ∃ k : Nat, k ≤ 16 ∧ i = .int .i64 k ∧ Bk wr T 64 (gatK W H f x y k) ∧ Below T w2 wr) (fun i _ => 16 - (intOf i).toNat)
  case atStart => exact ⟨0, by omega, rfl, KT2.out, Below.refl _ _⟩
  case round =>
    obtain ⟨k, hk, rfl, hbk, hbw⟩ := hrel
    have HK := hide hbk
    have HW := hide hbw
    have hsr : w.heap.size + 3 ≤ wr.heap.size := by have := hbw.size; omega
    have BI3 := hide (BI2.out.below hbw (by have := HT2.out; omega))
    have BR3 := hide (BR2.out.below hbw (by have := HT2.out; omega))
    clear hbk hbw
    by_cases hlt : k < 16
    · obtain ⟨⟨k0, k1, k2⟩, _⟩ := BI3.out.c3
      have hkk : (k : Int) / 4 ≤ 3 ∧ 0 ≤ (k : Int) / 4 ∧ 0 ≤ (k : Int) % 4 ∧ (k : Int) % 4 ≤ 3 := by omega
      go_wp2_with fail
      all_goals (
        refine (rat_any (W := W) (H := H) (n := n) (f := f) _ _ (HV.out.below (hb2.out.trans (HW.out.mono (by have := HT2.out; omega))) (Nat.le_refl _)) (by omega) (by omega)).mono ?_
        rintro e w3 ⟨rfl, hb3⟩
        generalize hA : atV W H _ _ n f = A
        have hA2 : A = (texV f (nearO W H (4 * x + (k : Int) % 4) (4 * y + (k : Int) / 4)), 0) := by rw [← hA]; exact near_at HR.out (by omega) (by omega) (by omega) (by omega)
        clear hA
        subst hA2
        obtain ⟨o, ho⟩ : ∃ o, o = nearO W H (4 * x + (k : Int) % 4) (4 * y + (k : Int) / 4) := ⟨_, rfl⟩
        rw [← ho]
        have HO := hide ho
        have HB3 := hide hb3
        clear ho hb3 k0 k1 k2
        obtain ⟨v0, v1, v2, v3, hv4⟩ : ∃ v0 v1 v2 v3 : Int, texV f o = #[.int .i64 v0, .int .i64 v1, .int .i64 v2, .int .i64 v3] := ⟨_, _, _, _, rfl⟩
        have ag := hide (show Ag #[.int .i64 v0, .int .i64 v1, .int .i64 v2, .int .i64 v3] 4 _ from hv4 ▸ texV_ag f o)
        rw [hv4]
        clear hv4
        go_upto_region 8 with (fail)
        obtain ⟨w4, hw4⟩ : ∃ w4 : World, w4 = w3.alloc (.cells #[.int .i64 v0, .int .i64 v1, .int .i64 v2, .int .i64 v3] 38) := ⟨_, rfl⟩
        rw [← hw4]
        have hs3 : w.heap.size + 3 ≤ w3.heap.size := by have := HB3.out.size; omega
        have HK4 := hide (show Bk w4 T 64 (gatK W H f x y k) by
          have h1 := HT2.out
          rw [hw4]
          exact (HK.out.below HB3.out (by omega)).below ((Below.refl w3.heap.size w3).alloc (Nat.le_refl _) _) (by omega))
        have HW4 := hide (show Below T w2 w4 by
          have h1 := HT2.out
          rw [hw4]
          exact (HW.out.trans (HB3.out.mono (by omega))).alloc (by omega) _)
        obtain ⟨⟨q0, q1, q2, q3⟩, _⟩ := (show Box w4 w3.heap.size #[.int .i64 v0, .int .i64 v1, .int .i64 v2, .int .i64 v3] by rw [hw4]; exact Box.mk' rfl).c4
        clear hw4
        go_wp2_with (with_reducible refine wpList_store T38 rfl (.tmp 48) (.tmp 47) rfl T (k * 4) rfl #[.int .i64 v0, .int .i64 v1, .int .i64 v2, .int .i64 v3] rfl rfl (HK4.out.isSome (by omega)) (HK4.out.free (by omega)) ag.out.one ?_)
        intro w5 hs
        have HK5 := hide (HK4.out.set hs ag.out)
        have HW5 := hide (HW4.out.trans (hs.below (Nat.le_refl _)))
        clear hs q0 q1 q2 q3
        go_wp2_with fail
        go_roundw
        case rel => exact ⟨k + 1, by omega, by go_num, HK5.out.congr fun j hj => by rw [← gatK_next, HO.out, Nat.mul_comm k 4], HW5.out⟩
        case measure => simp [intOf]; omega)
    · obtain rfl : k = 16 := by omega
      have HKG := hide (HK.out.congr (g := G) (fun j hj => by rw [HG.out]; unfold gatK; rw [if_pos (by omega)]))
      have BR4 := hide (Bk.of_box BR3.out HZ.out)
      have HBF := hide (hb2.out.trans (HW.out.mono (by have := HT2.out; omega)))
      have HTo := hide (show T ≠ w.heap.size + 1 by have := HT2.out; omega)
      clear HK HW BR3
      have A0 := hide (agOf_ag 0 64 G)
      have z0 := A0.out.1
      go_wp2_with (first | (with_reducible refine wpList_run rfl (exec_load T48 (.tmp 8) rfl ⟨T, 0, none⟩ rfl (agOf 0 64 G) z0 (HKG.out.load (by omega))) ?_) | (with_reducible refine wpList_store T48 rfl (.tmp 6) (.tmp 49) rfl (w.heap.size + 1) 0 rfl (agOf 0 64 G) rfl z0 (BR4.out.isSome (by omega)) (BR4.out.free (by omega)) A0.out.one ?_))
      intro w6 hs
      have HR6 := hide ((BR4.out.set hs A0.out).congr (g := G) (fun j hj => by simp; intro h; omega))
      have HB6 := hide (HBF.out.trans (hs.below (by omega)))
      clear hs
      go_wp2_with fail
      have hl := run_loadVar_cells T48 w6 ⟨w.heap.size + 1, 0, none⟩ (agOf 0 64 G) z0 (HR6.out.load (by omega))
      refine bodyPost_ret (v := .tuple #[.agg (agOf 0 64 G), .int .i64 0]) (by simp [results, Try.results34, asAddr, hl]) rfl ⟨rfl, HB6.out⟩

set_option maxHeartbeats 400000 in
theorem rgather_no {W H : Int} (x y : Int) {n : Nat} {f : Nat → Int} {v : Value} {w : World} (hv : Im w v W H n f) (hh : hasV W H x y n = false) :
    Calls Try.prog 34 #[v, .int .i64 x, .int .i64 y] w (gatP W H x y n f w) := by
  obtain ⟨ao, cap, rfl, hrd, hW, hH⟩ := hv
  unfold gatP
  rw [hh]
  have HH := hide hh
  have HZ := hide Z64_ag
  have hz := Z64_ag.1
  clear hh hrd
  go_enter Try.func34, Try.ntmps34
  go_upto_region 1 with (first | (with_reducible refine wpList_run rfl (exec_alloc T48 rfl) ?_))
  obtain ⟨w0, hw0⟩ : ∃ w0 : World, w0 = (w.alloc (.cells #[.int .i64 W, .int .i64 H, .slice ao n cap] 24)).alloc (.cells Z64 48) := ⟨_, rfl⟩
  rw [← hw0]
  have BI0 := hide (show Box w0 w.heap.size #[.int .i64 W, .int .i64 H, .slice ao n cap] by rw [hw0]; (repeat' (first | (refine Box.mk' ?_; simp; done) | (refine Box.old ?_ ?_; rotate_left; (simp <;> omega)))))
  have BR0 := hide (show Box w0 (w.heap.size + 1) Z64 by rw [hw0]; (repeat' (first | (refine Box.mk' ?_; simp; done) | (refine Box.old ?_ ?_; rotate_left; (simp <;> omega)))))
  have hb0 := hide (show Below w.heap.size w w0 by rw [hw0]; (repeat' (first | exact Below.refl _ _ | assumption | refine Below.setCell ?_ (by simp <;> omega) _ | refine Below.alloc ?_ (by simp <;> omega) _)))
  have hs0 := hide (show w0.heap.size = w.heap.size + 2 by rw [hw0]; simp)
  clear hw0
  have k1 := hide (Bk.new Z64_ag w0 48)
  go_wp2_with (first | (with_reducible refine wpList_run rfl (exec_build T48 rfl) ?_) | (with_reducible refine wpList_run rfl (exec_alloc T48 rfl) ?_) | (with_reducible refine wpList_store T48 rfl (.tmp 8) (.tmp 12) rfl w0.heap.size 0 rfl Z64 rfl hz (k1.out.isSome (by omega)) (k1.out.free (by omega)) HZ.out.one ?_))
  intro w1 hs
  have hs1 : w.heap.size + 3 ≤ w1.heap.size := by have := hs0.out; rw [hs.size]; simp; omega
  have KT := hide ((k1.out.set hs HZ.out).congr (g := fun _ => 0) (fun i hi => by simp))
  have BI1 := hide ((BI0.out.old (o := .cells Z64 48) (by have := hs0.out; omega)).below (hs.below (Nat.le_refl _)) (by have := hs0.out; omega))
  have BR1 := hide ((BR0.out.old (o := .cells Z64 48) (by have := hs0.out; omega)).below (hs.below (Nat.le_refl _)) (by have := hs0.out; omega))
  have hb1 := hide ((hb0.out.alloc (by have := hs0.out; omega) (.cells Z64 48)).trans (hs.below (by have := hs0.out; omega)))
  clear hs k1 BI0 BR0 hb0
  obtain ⟨T, hT⟩ : ∃ T, T = w0.heap.size := ⟨_, rfl⟩
  rw [← hT] at KT ⊢
  have hT2 : T = w.heap.size + 2 := hT.trans hs0.out
  have HT2 := hide hT2
  clear hs0 hT hT2
  obtain ⟨⟨k0, k1, k2⟩, kf0, kf1, kf2⟩ := BI1.out.c3
  go_wp2_with fail
  refine (rhas_any W H x y _ n cap _ hW.1 hW.2 hH.1 hH.2).mono ?_
  rintro e w2 ⟨rfl, hb⟩
  rw [HH.out]
  have hTlt : T < w1.heap.size := by have := HT2.out; omega
  have KT2 := hide (KT.out.below hb hTlt)
  have BR2 := hide (Bk.of_box (BR1.out.below hb (by omega)) HZ.out)
  have hb2 := hide (hb1.out.trans (hb.mono (by omega)))
  clear hb k0 k1 k2 kf0 kf1 kf2 KT BI1 BR1 hb1 hTlt hs1
  have A0 := hide (agOf_ag 0 64 (fun _ => (0 : Int)))
  have z0 := A0.out.1
  go_wp2_with (first | (with_reducible refine wpList_run rfl (exec_load T48 (.tmp 8) rfl ⟨T, 0, none⟩ rfl (agOf 0 64 (fun _ => (0 : Int))) z0 (KT2.out.load (by omega))) ?_) | (with_reducible refine wpList_store T48 rfl (.tmp 6) (.tmp 18) rfl (w.heap.size + 1) 0 rfl (agOf 0 64 (fun _ => (0 : Int))) rfl z0 (BR2.out.isSome (by omega)) (BR2.out.free (by omega)) A0.out.one ?_))
  intro w6 hs
  have HR6 := hide ((BR2.out.set hs A0.out).congr (g := fun _ => 0) (fun j hj => by simp))
  have HB6 := hide (hb2.out.trans (hs.below (by omega)))
  clear hs
  go_wp2_with fail
  have hl := run_loadVar_cells T48 w6 ⟨w.heap.size + 1, 0, none⟩ (agOf 0 64 (fun _ => (0 : Int))) z0 (HR6.out.load (by omega))
  refine bodyPost_ret (v := .tuple #[.agg (agOf 0 64 (fun _ => (0 : Int))), .int .i64 1]) (by simp [results, Try.results34, asAddr, hl]) rfl ⟨rfl, HB6.out⟩
theorem rgather_any {W H : Int} (x y : Int) {n : Nat} {f : Nat → Int} {v : Value} {w : World} (hv : Im w v W H n f) :
    Calls Try.prog 34 #[v, .int .i64 x, .int .i64 y] w (gatP W H x y n f w) := by
  by_cases h : hasV W H x y n = true
  · exact rgather_ok x y hv h
  · exact rgather_no x y hv (by simpa using h)
end Go.Proofs.Ytmckfppemhnhmaa
