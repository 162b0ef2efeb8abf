import Derived.Test.YtmckfppemhnhmaaG
import Derived.Deep.Cut

namespace Go.Proofs.Ytmckfppemhnhmaa
open Go.RowKit

/-- a fresh image without colours -/
def newP (W H : Int) (n : Nat) (w : World) (e : Ending) (w' : World) : Prop :=
  ∃ g, e = .returned (.tuple #[.agg #[.int .i64 W, .int .i64 H, .slice (some ⟨g, 0, none⟩) n n], .int .i64 0]) ∧ w.heap.size ≤ g ∧ Cl w' g 0 n (fun _ => 0) ∧ Below w.heap.size w w'
def noP (w : World) (e : Ending) (w' : World) : Prop := e = .returned (.tuple #[.agg #[.int .i64 0, .int .i64 0, .slice none 0 0], .int .i64 1]) ∧ Below w.heap.size w w'

theorem made_cl {w w1 : World} {n : Nat} (h0 : 0 < n) (hown : w1.ownsRow w.heap.size 5 1 (.slice (some ⟨w.heap.size, 0, none⟩) n n) n (madeCells #[Value.int .u8 0] n).toList) : Cl w1 w.heap.size 0 n (fun _ => 0) := by
  obtain ⟨g, cap, e, _, h⟩ := own_cl hown h0 (f := fun _ => 0) (fun i hi => by simp [madeCells, hi, Nat.mod_one])
  injection e with e1 _ _
  injection e1 with e1
  injection e1 with e1 _ _
  rw [e1]; exact h

theorem new_no (W H : Int) (w : World) (h : sizedV W H = false) : Calls Try.prog 40 #[.int .i64 W, .int .i64 H] w (noP w) := by
  have HS := hide h
  clear h
  unfold noP
  go_enter Try.func40, Try.ntmps40
  go_wp2_with (go_at_call 45; refine (sized_any _ _ _).mono ?_; rintro e w' ⟨rfl, rfl⟩; rw [HS.out])
  refine bodyPost_ret (v := .tuple #[.agg #[.int .i64 0, .int .i64 0, .slice none 0 0], .int .i64 1]) (by simp [results, Try.results40, go_sem]) rfl ⟨rfl, ?_⟩
  (repeat' (first | exact Below.refl _ _ | assumption | refine Below.setCell ?_ (by simp <;> omega) _ | refine Below.alloc ?_ (by simp <;> omega) _))

theorem new_ok (W H : Int) (n : Nat) (w : World) (h : sizedV W H = true) (hn : (n : Int) = 4 * W * H) : Calls Try.prog 40 #[.int .i64 W, .int .i64 H] w (newP W H n w) := by
  have h' := h
  unfold sizedV at h'
  simp at h'
  have ha := area_bd h'
  have w1' : wrap64 (4 * W * H) = (n : Int) := by rw [← hn]; exact wrap_in (by omega)
  have hn2 : (n : Int) ≤ 67108864 := by omega
  have hn0 : 0 < n := by
    have := Int.mul_pos (show 0 < 4 * W by omega) (show 0 < H by omega)
    omega
  have HS := hide h
  have hW : 1 ≤ W ∧ W ≤ 4096 := by omega
  clear h h' ha
  obtain ⟨i0, hi0, hz0, hz1, hz2⟩ := info_parts Try.info5
  unfold newP
  clear hn
  go_enter Try.func40, Try.ntmps40
  go_upto_region 3 with (go_at_call 45; refine (sized_any _ _ _).mono ?_; rintro e w' ⟨rfl, rfl⟩; rw [HS.out])
  obtain ⟨w1, hw1⟩ : ∃ w1 : World, w1 = w.alloc (.cells #[.int .i64 0, .int .i64 0, .slice none 0 0] 24) := ⟨_, rfl⟩
  rw [← hw1]
  have hs1 : w.heap.size + 1 = w1.heap.size := by rw [hw1]; simp
  have BR := hide (show Box w1 w.heap.size #[.int .i64 0, .int .i64 0, .slice none 0 0] by rw [hw1]; (repeat' (first | (refine Box.mk' ?_; simp; done) | (refine Box.old ?_ ?_; rotate_left; (simp <;> omega)))))
  have hb := hide (show Below w.heap.size w w1 by rw [hw1]; (repeat' (first | exact Below.refl _ _ | assumption | refine Below.setCell ?_ (by simp <;> omega) _ | refine Below.alloc ?_ (by simp <;> omega) _)))
  clear hw1
  have Hs1 := hide hs1
  clear hs1
  go_wp2_with (at_make; refine wpList_make_full _ rfl _ _ 22 rfl w1.heap.size 5 i0 (.int .u8 0) 1 Try.underlying22 hi0 hz0 hz1 _ _ _ _ n rfl rfl w1' w1' ?c1 ?c2 ?c3 ?_)
  case c1 => rw [hz2]; omega
  case c2 => unfold maxLen; omega
  case c3 => exact Nat.le_refl _
  intro w2 hown hgrow
  have hb1 := hide ((Below.refl _ _).grown hgrow (Nat.le_refl _) (fun k e => by cases e) : Below w1.heap.size w1 w2)
  have hcl := hide (made_cl (w := w1) hn0 hown)
  clear hown hgrow
  have hlt : w.heap.size < w1.heap.size := by have := Hs1.out; omega
  obtain ⟨⟨l0, l1, l2⟩, lf0, lf1, lf2⟩ := (BR.out.below hb1.out hlt).c3
  go_wp2_with fail
  refine bodyPost_ret (v := .tuple #[.agg #[.int .i64 W, .int .i64 H, .slice (some ⟨w1.heap.size, 0, none⟩) n n], .int .i64 0]) (by simp [results, Try.results40, go_sem, World.cell?_setCell_same', l0, l1, l2]) rfl ⟨_, rfl, by omega, ?_, ?_⟩
  · exact (((hcl.out.other (by simp; omega)).other (by simp; omega)).other (by simp; omega))
  · have hbw := hb.out.trans (hb1.out.mono (by omega))
    (repeat' (first | exact Below.refl _ _ | assumption | refine Below.setCell ?_ (by simp <;> omega) _ | refine Below.alloc ?_ (by simp <;> omega) _))
theorem rnew_ok (W H : Int) (n : Nat) (w : World) (h : sizedV W H = true) (hn : (n : Int) = 4 * W * H) : Calls Try.prog 57 #[.int .i64 W, .int .i64 H] w (newP W H n w) := by
  have h' := h
  unfold sizedV at h'
  simp at h'
  have ha := area_bd h'
  have w1' : wrap64 (4 * W * H) = (n : Int) := by rw [← hn]; exact wrap_in (by omega)
  have hn2 : (n : Int) ≤ 67108864 := by omega
  have hn0 : 0 < n := by
    have := Int.mul_pos (show 0 < 4 * W by omega) (show 0 < H by omega)
    omega
  have HS := hide h
  have hW : 1 ≤ W ∧ W ≤ 4096 := by omega
  have d1 : decide (W < 1) = false := by simp; omega
  have d2 : decide (H < 1) = false := by simp; omega
  have d3 : decide (4096 < W) = false := by simp; omega
  have d4 : decide (4096 < H) = false := by simp; omega
  clear h h' ha
  obtain ⟨i0, hi0, hz0, hz1, hz2⟩ := info_parts Try.info5
  unfold newP
  clear hn
  go_enter Try.func57, Try.ntmps57
  go_upto_region 3 with (fail)
  obtain ⟨w1, hw1⟩ : ∃ w1 : World, w1 = w.alloc (.cells #[.int .i64 0, .int .i64 0, .slice none 0 0] 24) := ⟨_, rfl⟩
  rw [← hw1]
  have hs1 : w.heap.size + 1 = w1.heap.size := by rw [hw1]; simp
  have BR := hide (show Box w1 w.heap.size #[.int .i64 0, .int .i64 0, .slice none 0 0] by rw [hw1]; (repeat' (first | (refine Box.mk' ?_; simp; done) | (refine Box.old ?_ ?_; rotate_left; (simp <;> omega)))))
  have hb := hide (show Below w.heap.size w w1 by rw [hw1]; (repeat' (first | exact Below.refl _ _ | assumption | refine Below.setCell ?_ (by simp <;> omega) _ | refine Below.alloc ?_ (by simp <;> omega) _)))
  clear hw1
  have Hs1 := hide hs1
  clear hs1
  go_wp2_with (at_make; refine wpList_make_full _ rfl _ _ 22 rfl w1.heap.size 5 i0 (.int .u8 0) 1 Try.underlying22 hi0 hz0 hz1 _ _ _ _ n rfl rfl w1' w1' ?c1 ?c2 ?c3 ?_)
  case c1 => rw [hz2]; omega
  case c2 => unfold maxLen; omega
  case c3 => exact Nat.le_refl _
  intro w2 hown hgrow
  have hb1 := hide ((Below.refl _ _).grown hgrow (Nat.le_refl _) (fun k e => by cases e) : Below w1.heap.size w1 w2)
  have hcl := hide (made_cl (w := w1) hn0 hown)
  clear hown hgrow
  have hlt : w.heap.size < w1.heap.size := by have := Hs1.out; omega
  obtain ⟨⟨l0, l1, l2⟩, lf0, lf1, lf2⟩ := (BR.out.below hb1.out hlt).c3
  go_wp2_with fail
  refine bodyPost_ret (v := .tuple #[.agg #[.int .i64 W, .int .i64 H, .slice (some ⟨w1.heap.size, 0, none⟩) n n], .int .i64 0]) (by simp [results, Try.results57, go_sem, World.cell?_setCell_same', l0, l1, l2]) rfl ⟨_, rfl, by omega, ?_, ?_⟩
  · exact (((hcl.out.other (by simp; omega)).other (by simp; omega)).other (by simp; omega))
  · have hbw := hb.out.trans (hb1.out.mono (by omega))
    (repeat' (first | exact Below.refl _ _ | assumption | refine Below.setCell ?_ (by simp <;> omega) _ | refine Below.alloc ?_ (by simp <;> omega) _))
theorem rnew_no (W H : Int) (w : World) (h : sizedV W H = false) : Calls Try.prog 57 #[.int .i64 W, .int .i64 H] w (noP w) := by
  unfold noP
  have hor : decide (W < 1) = true ∨ (decide (W < 1) = false ∧ decide (H < 1) = true) ∨ (decide (W < 1) = false ∧ decide (H < 1) = false ∧ decide (4096 < W) = true) ∨ (decide (W < 1) = false ∧ decide (H < 1) = false ∧ decide (4096 < W) = false ∧ decide (4096 < H) = true) := by
    unfold sizedV at h; simp at h ⊢; omega
  clear h
  rcases hor with h1 | ⟨h1, h2⟩ | ⟨h1, h2, h3⟩ | ⟨h1, h2, h3, h4⟩
  · go_enter Try.func57, Try.ntmps57
    go_wp2_with fail
    refine bodyPost_ret (v := .tuple #[.agg #[.int .i64 0, .int .i64 0, .slice none 0 0], .int .i64 1]) (by simp [results, Try.results57, go_sem]) rfl ⟨rfl, ?_⟩
    (repeat' (first | exact Below.refl _ _ | assumption | refine Below.setCell ?_ (by simp <;> omega) _ | refine Below.alloc ?_ (by simp <;> omega) _))
  · go_enter Try.func57, Try.ntmps57
    go_wp2_with fail
    refine bodyPost_ret (v := .tuple #[.agg #[.int .i64 0, .int .i64 0, .slice none 0 0], .int .i64 1]) (by simp [results, Try.results57, go_sem]) rfl ⟨rfl, ?_⟩
    (repeat' (first | exact Below.refl _ _ | assumption | refine Below.setCell ?_ (by simp <;> omega) _ | refine Below.alloc ?_ (by simp <;> omega) _))
  · go_enter Try.func57, Try.ntmps57
    go_wp2_with fail
    refine bodyPost_ret (v := .tuple #[.agg #[.int .i64 0, .int .i64 0, .slice none 0 0], .int .i64 1]) (by simp [results, Try.results57, go_sem]) rfl ⟨rfl, ?_⟩
    (repeat' (first | exact Below.refl _ _ | assumption | refine Below.setCell ?_ (by simp <;> omega) _ | refine Below.alloc ?_ (by simp <;> omega) _))
  · go_enter Try.func57, Try.ntmps57
    go_wp2_with fail
    refine bodyPost_ret (v := .tuple #[.agg #[.int .i64 0, .int .i64 0, .slice none 0 0], .int .i64 1]) (by simp [results, Try.results57, go_sem]) rfl ⟨rfl, ?_⟩
    (repeat' (first | exact Below.refl _ _ | assumption | refine Below.setCell ?_ (by simp <;> omega) _ | refine Below.alloc ?_ (by simp <;> omega) _))
end Go.Proofs.Ytmckfppemhnhmaa
