import Derived.Test.YtmckfppemhnhmaaL
import Derived.Deep.Cut
import Derived.StillTailTactics
namespace Go.Proofs.Ytmckfppemhnhmaa
open Go.RowKit

/-- a slice of m tiles -/
def Tl (w : World) (v : Value) (m : Nat) (T : Nat → Nat → Int) : Prop :=
  ∃ ao cap, v = .slice ao m cap ∧ m ≤ 9223372036854775807 ∧ (0 < m → ∃ b off, ao = some ⟨b, off, none⟩ ∧ ∀ i j, i < m → j < 64 → w.cell? ⟨b, off + i * 64 + j, none⟩ = some (.int .i64 (T i j)))
theorem Tl.below {w w' : World} {v : Value} {m : Nat} {T : Nat → Nat → Int} (h : Tl w v m T) {B : Nat} (hb : Below B w w') (hB : w.heap.size ≤ B) : Tl w' v m T := by
  obtain ⟨ao, cap, rfl, hm, hc⟩ := h
  refine ⟨ao, cap, rfl, hm, fun h0 => ?_⟩
  obtain ⟨b, off, rfl, hcc⟩ := hc h0
  exact ⟨b, off, rfl, fun i j hi hj => (hb.cell (Nat.lt_of_lt_of_le (World.block_lt_of_cell? w _ (hcc i j hi hj)) hB)).trans (hcc i j hi hj)⟩

def wholeK (W H : Int) (T : Nat → Nat → Int) : Nat → Nat → Int
  | 0 => fun _ => 0
  | k + 1 => layK W H (wholeK W H T k) (T k) ((k : Int) % (tilesV W H).1) ((k : Int) / (tilesV W H).1) 16
theorem wholeK_bd (W H : Int) (T : Nat → Nat → Int) : ∀ k j, 0 ≤ wholeK W H T k j ∧ wholeK W H T k j ≤ 255
  | 0 => fun _ => ⟨Int.le_refl 0, (by decide : (0 : Int) ≤ 255)⟩
  | k + 1 => layK_bd (wholeK_bd W H T k) 16
def wholeOk (W H : Int) (m : Nat) : Bool := sizedV W H && decide ((m : Int) = (tilesV W H).1 * (tilesV W H).2)
def wholeP (W H : Int) (m : Nat) (T : Nat → Nat → Int) (w : World) (e : Ending) (w' : World) : Prop :=
  ∃ v, e = .returned (.tuple #[v, .int .i64 (if wholeOk W H m then 0 else 1)]) ∧ Out w' v (wholeOk W H m) W H (4 * W * H).toNat (wholeK W H T m) ∧ Below w.heap.size w w'

theorem iwhole_no1 {W H : Int} {v : Value} {m : Nat} {T : Nat → Nat → Int} {w : World} (hs : sizedV W H = false) :
    Calls Try.prog 32 #[.int .i64 W, .int .i64 H, v] w (wholeP W H m T w) := by
  unfold wholeP wholeOk
  rw [hs]
  simp only [Bool.false_and]
  have HS := hide hs
  clear hs
  go_enter Try.func32, Try.ntmps32
  go_wp2_with fail
  refine (new_no W H _ HS.out).mono ?_
  rintro e w1 ⟨rfl, hb⟩
  have BR := hide (Box.below (b := w.heap.size) (cs := #[.int .i64 0, .int .i64 0, .slice none 0 0]) (by (repeat' (first | (refine Box.mk' ?_; simp; done) | (refine Box.old ?_ ?_; rotate_left; (simp <;> omega))))) hb (by simp))
  have hb1 := hide (Below.trans (by (repeat' (first | exact Below.refl _ _ | assumption | refine Below.setCell ?_ (by simp <;> omega) _ | refine Below.alloc ?_ (by simp <;> omega) _))) (hb.mono (by simp)) : Below w.heap.size w w1)
  have hs1 : w.heap.size < w1.heap.size := by have := hb.size; simp at this; omega
  clear hb
  go_upto_region 2 with (fail)
  generalize hw2 : w1.alloc (.cells #[.int .i64 0, .int .i64 0, .slice none 0 0] 24) = w2
  have BR2 := hide (show Box w2 w.heap.size _ by rw [← hw2]; exact BR.out.old hs1)
  have hb2 := hide (show Below w.heap.size w w2 by rw [← hw2]; exact hb1.out.alloc (by omega) _)
  clear hw2 BR hb1
  obtain ⟨⟨l0, l1, l2⟩, lf0, lf1, lf2⟩ := BR2.out.c3
  go_wp2_with fail
  refine bodyPost_ret (v := .tuple #[.agg #[.int .i64 0, .int .i64 0, .slice none 0 0], .int .i64 1]) (by simp [results, Try.results32, go_sem, World.cell?_setCell_same', l0, l1, l2]) rfl ⟨_, rfl, Out.nil _ _ _ _ _, ?_⟩
  have hbw := hb2.out
  (repeat' (first | exact Below.refl _ _ | assumption | refine Below.setCell ?_ (by simp <;> omega) _ | refine Below.alloc ?_ (by simp <;> omega) _))

set_option maxHeartbeats 400000 in
theorem iwhole_no2 {W H : Int} {ao : Option Addr} {m cap : Nat} {T : Nat → Nat → Int} {w : World} (hs : sizedV W H = true) (hm : ¬ (m : Int) = (tilesV W H).1 * (tilesV W H).2) :
    Calls Try.prog 32 #[.int .i64 W, .int .i64 H, .slice ao m cap] w (wholeP W H m T w) := by
  unfold wholeP wholeOk
  rw [hs, decide_eq_false hm]
  simp only [Bool.and_false]
  have h' := hs
  unfold sizedV at h'
  simp at h'
  have ha := area_bd h'
  have hN : (((4 * W * H).toNat : Nat) : Int) = 4 * W * H := by omega
  have HS := hide hs
  obtain ⟨a, b, hab, ha1, hb1⟩ : ∃ a b : Int, tilesV W H = (a, b) ∧ (0 ≤ a ∧ a ≤ 1024) ∧ (0 ≤ b ∧ b ≤ 1024) :=
    ⟨(W - 1) / 4 + 1, (H - 1) / 4 + 1, by unfold tilesV; rw [if_neg (by omega)], by omega, by omega⟩
  have e1 : ((m : Int) == a * b) = false := by rw [hab] at hm; simpa using hm
  have hWb : 1 ≤ W ∧ 1 ≤ H ∧ W ≤ 4096 ∧ H ≤ 4096 := h'
  have hw := mul_bd (x := a) (y := b) (X := 1024) (Y := 1024) (by omega) (by omega) (by omega) (by omega)
  have w1' : wrap64 (a * b) = a * b := wrap_in (by omega)
  have e2 : ((m : Int) != a * b) = true := by simpa using e1
  have HAB := hide hab
  generalize (4 * W * H).toNat = n at *
  have HN := hide hN
  clear hs hm h' ha hab hw hN
  go_enter Try.func32, Try.ntmps32
  go_wp2_with fail
  refine (new_ok W H n _ HS.out HN.out).mono ?_
  rintro e w1 ⟨g, rfl, hg, hcl, hb⟩
  have BR := hide (Box.below (b := w.heap.size) (cs := #[.int .i64 0, .int .i64 0, .slice none 0 0]) (by (repeat' (first | (refine Box.mk' ?_; simp; done) | (refine Box.old ?_ ?_; rotate_left; (simp <;> omega))))) hb (by simp))
  have hbw1 := hide (Below.trans (by (repeat' (first | exact Below.refl _ _ | assumption | refine Below.setCell ?_ (by simp <;> omega) _ | refine Below.alloc ?_ (by simp <;> omega) _))) (hb.mono (by simp)) : Below w.heap.size w w1)
  have hs1 : w.heap.size < w1.heap.size := by have := hb.size; simp at this; omega
  clear hb hcl hg
  go_upto_region 2 with (fail)
  generalize hw2 : w1.alloc (.cells #[.int .i64 W, .int .i64 H, .slice (some ⟨g, 0, none⟩) n n] 24) = w2
  have BR2 := hide (show Box w2 w.heap.size _ by rw [← hw2]; exact BR.out.old hs1)
  have hb2 := hide (show Below w.heap.size w w2 by rw [← hw2]; exact hbw1.out.alloc (by omega) _)
  clear hw2 BR hbw1
  obtain ⟨⟨l0, l1, l2⟩, lf0, lf1, lf2⟩ := BR2.out.c3
  go_wp2_with fail
  refine (tiles_any W H _ (by omega) (by omega) (by omega) (by omega)).mono ?_
  rintro e w' ⟨rfl, rfl⟩
  rw [HAB.out]
  go_wp2_with fail
  refine bodyPost_ret (v := .tuple #[.agg #[.int .i64 0, .int .i64 0, .slice none 0 0], .int .i64 1]) (by simp [results, Try.results32, go_sem, World.cell?_setCell_same', l0, l1, l2]) rfl ⟨_, rfl, Out.nil _ _ _ _ _, ?_⟩
  have hbw := hb2.out
  (repeat' (first | exact Below.refl _ _ | assumption | refine Below.setCell ?_ (by simp <;> omega) _ | refine Below.alloc ?_ (by simp <;> omega) _))
end Go.Proofs.Ytmckfppemhnhmaa
