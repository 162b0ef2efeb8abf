import Derived.Test.YtmckfppemhnhmaaD

namespace Go.Proofs.Ytmckfppemhnhmaa
open Go.RowKit

/-- an image that may be none -/
def Out (w : World) (v : Value) (ok : Bool) (W H : Int) (n : Nat) (g : Nat → Int) : Prop :=
  Im w v (if ok then W else 0) (if ok then H else 0) (if ok then n else 0) (if ok then g else fun _ => 0)
theorem Out.nil (w : World) (W H : Int) (n : Nat) (g : Nat → Int) : Out w (.agg #[.int .i64 0, .int .i64 0, .slice none 0 0]) false W H n g :=
  ⟨_, 0, rfl, Rd.nil w, by simp, by simp⟩
theorem Box.put3 {w : World} {b : Nat} {x y z x' y' z' : Value} (h : Box w b #[x, y, z]) : Box (((w.setCell ⟨b, 0, none⟩ x').setCell ⟨b, 1, none⟩ y').setCell ⟨b, 2, none⟩ z') b #[x', y', z'] := by
  have := ((h.set (k := 0) x' (by simp)).set (k := 1) y' (by simp)).set (k := 2) z' (by simp)
  simpa using this
def putP (W H x y : Int) (n : Nat) (f t : Nat → Int) (w : World) (e : Ending) (w' : World) : Prop :=
  ∃ v, e = .returned (.tuple #[v, .int .i64 (if rightV W H n && inV x y W H then 0 else 1)]) ∧ Out w' v (rightV W H n && inV x y W H) W H n (updK f (4 * (y * W + x)).toNat t 4) ∧ Below w.heap.size w w'
theorem updK_bd {f t : Nat → Int} (hf : ∀ i, 0 ≤ f i ∧ f i ≤ 255) (o k : Nat) : ∀ i, 0 ≤ updK f o t k i ∧ updK f o t k i ≤ 255 := by
  intro i; unfold updK; split
  · exact clampV_bd _
  · exact hf i

theorem put_ok {W H : Int} (x y : Int) {n : Nat} {f t : Nat → Int} {v : Value} {w : World} (hv : Im w v W H n f) (hr : rightV W H n = true) (hi : inV x y W H = true) :
    Calls Try.prog 25 #[v, .int .i64 x, .int .i64 y, tx t] w (putP W H x y n f t w) := by
  obtain ⟨ao, cap, rfl, hrd, hW, hH⟩ := hv
  obtain ⟨_, _, e, hn, hf, hc⟩ := hrd
  injection e with e1 e2 e3
  subst e1 e3
  unfold putP
  rw [hr, hi]
  have HR := hide hr
  have HI := hide hi
  obtain ⟨p1, p2, p3, p4, p5, p6, p7, p8⟩ := place_ok hr hi
  obtain ⟨o, ho⟩ : ∃ o : Nat, 4 * (y * W + x) = o := ⟨(4 * (y * W + x)).toNat, by omega⟩
  rw [ho]
  obtain ⟨b, off, rfl, hcc⟩ := hc p7
  have HC := hide hcc
  have HF := hide hf
  have hbl : b < w.heap.size := World.block_lt_of_cell? w _ (HC.out 0 (by omega))
  unfold tx
  clear hr hi hc hf hcc
  go_enter Try.func25, Try.ntmps25
  go_wp2_with fail
  refine (right_any _ _ _ _ _ _).mono ?_
  rintro e w1 ⟨rfl, hb⟩
  rw [HR.out]
  have BI := hide (Box.below (b := w.heap.size) (cs := #[.int .i64 W, .int .i64 H, .slice (some ⟨b, off, none⟩) n cap]) (by (repeat' (first | (refine Box.mk' ?_; simp; done) | (refine Box.old ?_ ?_; rotate_left; (simp <;> omega))))) hb (by simp; omega))
  have BT := hide (Box.below (b := w.heap.size + 1) (cs := #[.int .i64 (t 0), .int .i64 (t 1), .int .i64 (t 2), .int .i64 (t 3)]) (by (repeat' (first | (refine Box.mk' ?_; simp; done) | (refine Box.old ?_ ?_; rotate_left; (simp <;> omega))))) hb (by simp <;> omega))
  have BR := hide (Box.below (b := w.heap.size + 1 + 1) (cs := #[.int .i64 0, .int .i64 0, .slice none 0 0]) (by (repeat' (first | (refine Box.mk' ?_; simp; done) | (refine Box.old ?_ ?_; rotate_left; (simp <;> omega))))) hb (by simp))
  have hb1 := hide (Below.trans (by (repeat' (first | exact Below.refl _ _ | assumption | refine Below.setCell ?_ (by simp <;> omega) _ | refine Below.alloc ?_ (by simp <;> omega) _))) (hb.mono (by simp; omega)) : Below w.heap.size w w1)
  have hs1 : w.heap.size + 3 ≤ w1.heap.size := by have := hb.size; simp at this; omega
  clear hb
  obtain ⟨⟨k0, k1, k2⟩, kf0, kf1, kf2⟩ := BI.out.c3
  go_wp2_with (go_at_call 46; refine (in_any _ _ _ _ _).mono ?_; rintro e w' ⟨rfl, rfl⟩; rw [HI.out])
  refine (copied_any (f := f) W H p7 p8 ⟨b, off, rfl, fun i hi => (hb1.out.cell (by exact hbl)).trans (HC.out i hi)⟩).mono ?_
  rintro e w2 ⟨g, cap', rfl, hg, hcl, hb2⟩
  have BI2 := hide (BI.out.below hb2 (by omega))
  have BT2 := hide (BT.out.below hb2 (by omega))
  have BR2 := hide (BR.out.below hb2 (by omega))
  clear k0 k1 k2 kf0 kf1 kf2
  obtain ⟨⟨k0, k1, k2⟩, kf0, kf1, kf2⟩ := BI2.out.c3
  obtain ⟨⟨l0, l1, l2, l3⟩, lf0, lf1, lf2, lf3⟩ := BT2.out.c4
  have hb3 := hide (hb1.out.trans (hb2.mono (by omega)))
  have HCL := hide hcl
  clear hb2 hcl
  go_wp2_with fail
  refine (write_any W H x y g o n cap' w1.heap.size f t _ p1 p2 p3 p4 ho (by omega) hn (((HCL.out.other (by simp; omega)).other (by simp; omega)).other (by simp; omega)) hg).mono ?_
  rintro e w3 ⟨rfl, hb4, hcl⟩
  clear k0 k1 k2 kf0 kf1 kf2 l0 l1 l2 l3 lf0 lf1 lf2 lf3
  have BI3 := hide (BI2.out.put3.below hb4 (by omega))
  have BR3 := hide ((((BR2.out.other (by simp <;> omega)).other (by simp <;> omega)).other (by simp <;> omega)).below hb4 (by omega))
  have hb5 := hide (Below.trans (((hb3.out.setCell (by simp) _).setCell (by simp) _).setCell (by simp) _) (hb4.mono (by omega)))
  have HCL3 := hide hcl
  clear hb4 hcl
  obtain ⟨⟨k0, k1, k2⟩, kf0, kf1, kf2⟩ := BI3.out.c3
  obtain ⟨⟨l0, l1, l2⟩, lf0, lf1, lf2⟩ := BR3.out.c3
  go_wp2_with fail
  refine bodyPost_ret (v := .tuple #[.agg #[.int .i64 W, .int .i64 H, .slice (some ⟨g, 0, none⟩) n cap'], .int .i64 0]) (by simp [results, Try.results25, go_sem, World.cell?_setCell_same', l0, l1, l2]) rfl ⟨_, rfl, ?_, ?_⟩
  · refine ⟨_, _, rfl, Rd.of_cl (f := updK f o t 4) (((HCL3.out.other (by simp; omega)).other (by simp; omega)).other (by simp; omega)) hn (updK_bd HF.out o 4), hW, hH⟩
  · have hbw := hb5.out
    (repeat' (first | exact Below.refl _ _ | assumption | refine Below.setCell ?_ (by simp <;> omega) _ | refine Below.alloc ?_ (by simp <;> omega) _))

theorem put_no1 {W H : Int} (x y : Int) {n : Nat} {ao : Option Addr} {cap : Nat} {f t : Nat → Int} {w : World} (hr : rightV W H n = false) :
    Calls Try.prog 25 #[.agg #[.int .i64 W, .int .i64 H, .slice ao n cap], .int .i64 x, .int .i64 y, tx t] w (putP W H x y n f t w) := by
  unfold putP
  rw [hr]
  simp only [Bool.false_and]
  unfold tx
  have HR := hide hr
  clear hr
  go_enter Try.func25, Try.ntmps25
  go_wp2_with fail
  refine (right_any _ _ _ _ _ _).mono ?_
  rintro e w1 ⟨rfl, hb⟩
  rw [HR.out]
  have BI := hide (Box.below (b := w.heap.size) (cs := #[.int .i64 W, .int .i64 H, .slice ao n cap]) (by (repeat' (first | (refine Box.mk' ?_; simp; done) | (refine Box.old ?_ ?_; rotate_left; (simp <;> omega))))) hb (by simp; omega))
  have BR := hide (Box.below (b := w.heap.size + 1 + 1) (cs := #[.int .i64 0, .int .i64 0, .slice none 0 0]) (by (repeat' (first | (refine Box.mk' ?_; simp; done) | (refine Box.old ?_ ?_; rotate_left; (simp <;> omega))))) hb (by simp))
  have hb1 := hide (Below.trans (by (repeat' (first | exact Below.refl _ _ | assumption | refine Below.setCell ?_ (by simp <;> omega) _ | refine Below.alloc ?_ (by simp <;> omega) _))) (hb.mono (by simp; omega)) : Below w.heap.size w w1)
  clear hb
  obtain ⟨⟨k0, k1, k2⟩, kf0, kf1, kf2⟩ := BI.out.c3
  obtain ⟨⟨l0, l1, l2⟩, lf0, lf1, lf2⟩ := BR.out.c3
  go_wp2_with fail
  refine bodyPost_ret (v := .tuple #[.agg #[.int .i64 0, .int .i64 0, .slice none 0 0], .int .i64 1]) (by simp [results, Try.results25, go_sem, World.cell?_setCell_same', l0, l1, l2]) rfl ⟨_, rfl, Out.nil _ _ _ _ _, ?_⟩
  have hbw := hb1.out
  (repeat' (first | exact Below.refl _ _ | assumption | refine Below.setCell ?_ (by simp <;> omega) _ | refine Below.alloc ?_ (by simp <;> omega) _))
theorem put_no2 {W H : Int} (x y : Int) {n : Nat} {ao : Option Addr} {cap : Nat} {f t : Nat → Int} {w : World} (hr : rightV W H n = true) (hi : inV x y W H = false) :
    Calls Try.prog 25 #[.agg #[.int .i64 W, .int .i64 H, .slice ao n cap], .int .i64 x, .int .i64 y, tx t] w (putP W H x y n f t w) := by
  unfold putP
  rw [hr, hi]
  simp only [Bool.true_and]
  unfold tx
  have HR := hide hr
  have HI := hide hi
  clear hr hi
  go_enter Try.func25, Try.ntmps25
  go_wp2_with fail
  refine (right_any _ _ _ _ _ _).mono ?_
  rintro e w1 ⟨rfl, hb⟩
  rw [HR.out]
  have BI := hide (Box.below (b := w.heap.size) (cs := #[.int .i64 W, .int .i64 H, .slice ao n cap]) (by (repeat' (first | (refine Box.mk' ?_; simp; done) | (refine Box.old ?_ ?_; rotate_left; (simp <;> omega))))) hb (by simp; omega))
  have BR := hide (Box.below (b := w.heap.size + 1 + 1) (cs := #[.int .i64 0, .int .i64 0, .slice none 0 0]) (by (repeat' (first | (refine Box.mk' ?_; simp; done) | (refine Box.old ?_ ?_; rotate_left; (simp <;> omega))))) hb (by simp))
  have hb1 := hide (Below.trans (by (repeat' (first | exact Below.refl _ _ | assumption | refine Below.setCell ?_ (by simp <;> omega) _ | refine Below.alloc ?_ (by simp <;> omega) _))) (hb.mono (by simp; omega)) : Below w.heap.size w w1)
  clear hb
  obtain ⟨⟨k0, k1, k2⟩, kf0, kf1, kf2⟩ := BI.out.c3
  obtain ⟨⟨l0, l1, l2⟩, lf0, lf1, lf2⟩ := BR.out.c3
  go_wp2_with (go_at_call 46; refine (in_any _ _ _ _ _).mono ?_; rintro e w' ⟨rfl, rfl⟩; rw [HI.out])
  refine bodyPost_ret (v := .tuple #[.agg #[.int .i64 0, .int .i64 0, .slice none 0 0], .int .i64 1]) (by simp [results, Try.results25, go_sem, World.cell?_setCell_same', l0, l1, l2]) rfl ⟨_, rfl, Out.nil _ _ _ _ _, ?_⟩
  have hbw := hb1.out
  (repeat' (first | exact Below.refl _ _ | assumption | refine Below.setCell ?_ (by simp <;> omega) _ | refine Below.alloc ?_ (by simp <;> omega) _))
theorem put_any {W H : Int} (x y : Int) {n : Nat} {f t : Nat → Int} {v : Value} {w : World} (hv : Im w v W H n f) : Calls Try.prog 25 #[v, .int .i64 x, .int .i64 y, tx t] w (putP W H x y n f t w) := by
  by_cases hr : rightV W H n = true
  · by_cases hi : inV x y W H = true
    · exact put_ok x y hv hr hi
    · obtain ⟨ao, cap, rfl, _⟩ := hv
      exact put_no2 x y hr (by simpa using hi)
  · obtain ⟨ao, cap, rfl, _⟩ := hv
    exact put_no1 x y (by simpa using hr)
end Go.Proofs.Ytmckfppemhnhmaa
