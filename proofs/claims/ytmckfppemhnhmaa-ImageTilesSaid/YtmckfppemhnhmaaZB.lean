import Derived.Test.YtmckfppemhnhmaaZA
namespace Go.Proofs.Ytmckfppemhnhmaa
open Go.RowKit
attribute [local irreducible] agOf

theorem rwhole_no1 {W H : Int} {v : Value} {m : Nat} {T : Nat → Nat → Int} {w : World} (hs : sizedV W H = false) :
    Calls Try.prog 38 #[.int .i64 W, .int .i64 H, v] w (wholeP W H m T w) := by
  unfold wholeP wholeOk
  rw [hs]
  simp only [Bool.false_and]
  have HS := hide hs
  clear hs
  go_enter Try.func38, Try.ntmps38
  go_wp2_with fail
  refine (rnew_no W H _ HS.out).mono ?_
  rintro e w1 ⟨rfl, hb⟩
  have BR := hide (Box.below (b := w.heap.size) (cs := #[.int .i64 0, .int .i64 0, .slice none 0 0]) (by (repeat' (first | (refine Box.mk' ?_; simp; done) | (refine Box.old ?_ ?_; rotate_left; (simp <;> omega))))) hb (by simp))
  have hb1 := hide (Below.trans (by (repeat' (first | exact Below.refl _ _ | assumption | refine Below.setCell ?_ (by simp <;> omega) _ | refine Below.alloc ?_ (by simp <;> omega) _))) (hb.mono (by simp)) : Below w.heap.size w w1)
  have hs1 : w.heap.size < w1.heap.size := by have := hb.size; simp at this; omega
  clear hb
  go_upto_region 2 with (fail)
  generalize hw2 : w1.alloc (.cells #[.int .i64 0, .int .i64 0, .slice none 0 0] 24) = w2
  have BR2 := hide (show Box w2 w.heap.size _ by rw [← hw2]; exact BR.out.old hs1)
  have hb2 := hide (show Below w.heap.size w w2 by rw [← hw2]; exact hb1.out.alloc (by omega) _)
  have BM2 := hide (show Box w2 w1.heap.size #[.int .i64 0, .int .i64 0, .slice none 0 0] by rw [← hw2]; exact Box.mk' rfl)
  clear hw2 BR hb1
  obtain ⟨⟨l0, l1, l2⟩, lf0, lf1, lf2⟩ := BR2.out.c3
  obtain ⟨⟨m0, m1, m2⟩, _⟩ := BM2.out.c3
  go_wp2_with fail
  refine bodyPost_ret (v := .tuple #[.agg #[.int .i64 0, .int .i64 0, .slice none 0 0], .int .i64 1]) (by simp [results, Try.results38, go_sem, World.cell?_setCell_same', l0, l1, l2]) rfl ⟨_, rfl, Out.nil _ _ _ _ _, ?_⟩
  have hbw := hb2.out
  (repeat' (first | exact Below.refl _ _ | assumption | refine Below.setCell ?_ (by simp <;> omega) _ | refine Below.alloc ?_ (by simp <;> omega) _))

set_option maxHeartbeats 400000 in
theorem rwhole_no2 {W H : Int} {ao : Option Addr} {m cap : Nat} {T : Nat → Nat → Int} {w : World} (hs : sizedV W H = true) (hm : ¬ (m : Int) = (tilesV W H).1 * (tilesV W H).2) :
    Calls Try.prog 38 #[.int .i64 W, .int .i64 H, .slice ao m cap] w (wholeP W H m T w) := by
  unfold wholeP wholeOk
  rw [hs, decide_eq_false hm]
  simp only [Bool.and_false]
  have h' := hs
  unfold sizedV at h'
  simp at h'
  have ha := area_bd h'
  have hN : (((4 * W * H).toNat : Nat) : Int) = 4 * W * H := by omega
  have HS := hide hs
  obtain ⟨a, b, hab, ha1, hb1⟩ : ∃ a b : Int, tilesV W H = (a, b) ∧ (0 ≤ a ∧ a ≤ 1024) ∧ (0 ≤ b ∧ b ≤ 1024) :=
    ⟨(W - 1) / 4 + 1, (H - 1) / 4 + 1, by unfold tilesV; rw [if_neg (by omega)], by omega, by omega⟩
  have e1 : ((m : Int) == a * b) = false := by rw [hab] at hm; simpa using hm
  have hWb : 1 ≤ W ∧ 1 ≤ H ∧ W ≤ 4096 ∧ H ≤ 4096 := h'
  have hw := mul_bd (x := a) (y := b) (X := 1024) (Y := 1024) (by omega) (by omega) (by omega) (by omega)
  have w1' : wrap64 (a * b) = a * b := wrap_in (by omega)
  have e2 : ((m : Int) != a * b) = true := by simpa using e1
  have HAB := hide hab
  generalize (4 * W * H).toNat = n at *
  have HN := hide hN
  clear hs hm h' ha hab hw hN
  go_enter Try.func38, Try.ntmps38
  go_wp2_with fail
  refine (rnew_ok W H n _ HS.out HN.out).mono ?_
  rintro e w1 ⟨g, rfl, hg, hcl, hb⟩
  have BR := hide (Box.below (b := w.heap.size) (cs := #[.int .i64 0, .int .i64 0, .slice none 0 0]) (by (repeat' (first | (refine Box.mk' ?_; simp; done) | (refine Box.old ?_ ?_; rotate_left; (simp <;> omega))))) hb (by simp))
  have hbw1 := hide (Below.trans (by (repeat' (first | exact Below.refl _ _ | assumption | refine Below.setCell ?_ (by simp <;> omega) _ | refine Below.alloc ?_ (by simp <;> omega) _))) (hb.mono (by simp)) : Below w.heap.size w w1)
  have hs1 : w.heap.size < w1.heap.size := by have := hb.size; simp at this; omega
  clear hb hcl hg
  go_upto_region 2 with (fail)
  generalize hw2 : w1.alloc (.cells #[.int .i64 W, .int .i64 H, .slice (some ⟨g, 0, none⟩) n n] 24) = w2
  have BR2 := hide (show Box w2 w.heap.size _ by rw [← hw2]; exact BR.out.old hs1)
  have hb2 := hide (show Below w.heap.size w w2 by rw [← hw2]; exact hbw1.out.alloc (by omega) _)
  clear hw2 BR hbw1
  obtain ⟨⟨l0, l1, l2⟩, lf0, lf1, lf2⟩ := BR2.out.c3
  go_wp2_with fail
  refine (rtiles_any W H _ (by omega) (by omega) (by omega) (by omega)).mono ?_
  rintro e w' ⟨rfl, rfl⟩
  rw [HAB.out]
  go_wp2_with fail
  refine bodyPost_ret (v := .tuple #[.agg #[.int .i64 0, .int .i64 0, .slice none 0 0], .int .i64 1]) (by simp [results, Try.results38, go_sem, World.cell?_setCell_same', l0, l1, l2]) rfl ⟨_, rfl, Out.nil _ _ _ _ _, ?_⟩
  have hbw := hb2.out
  (repeat' (first | exact Below.refl _ _ | assumption | refine Below.setCell ?_ (by simp <;> omega) _ | refine Below.alloc ?_ (by simp <;> omega) _))

theorem rwhole_any {W H : Int} {v : Value} {m : Nat} {T : Nat → Nat → Int} {w : World} (hv : Tl w v m T) :
    Calls Try.prog 38 #[.int .i64 W, .int .i64 H, v] w (wholeP W H m T w) := by
  by_cases hs : sizedV W H = true
  · by_cases hm : (m : Int) = (tilesV W H).1 * (tilesV W H).2
    · exact rwhole_ok hv hs hm
    · obtain ⟨ao, cap, rfl, _⟩ := hv
      exact rwhole_no2 hs hm
  · exact rwhole_no1 (by simpa using hs)
end Go.Proofs.Ytmckfppemhnhmaa
