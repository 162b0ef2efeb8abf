import Derived.Test.YtmckfppemhnhmaaC

namespace Go.Proofs.Ytmckfppemhnhmaa
open Go.RowKit

theorem inV_facts {x y W H : Int} (h : inV x y W H = true) : decide (x < 0) = false ∧ decide (y < 0) = false ∧ decide (W ≤ x) = false ∧ decide (H ≤ y) = false := by
  unfold inV at h; simp at h ⊢; omega
theorem Box.set {w : World} {b k : Nat} {cs : Array Value} (h : Box w b cs) (v : Value) (hk : k < cs.size) : Box (w.setCell ⟨b, k, none⟩ v) b (cs.setIfInBounds k v) := by
  intro j u hj
  rw [World.frozen?_setCell]
  by_cases e : k = j
  · subst e
    have hs := h k cs[k] (by simp [hk])
    rw [World.cell?_setCell_same' _ _ _ (by rw [hs.1]; rfl)]
    simp [hk] at hj
    exact ⟨by rw [hj], hs.2⟩
  · rw [World.cell?_setCell_other _ _ _ _ (by intro h; injection h; exact e (by omega))]
    rw [Array.getElem?_setIfInBounds_ne e] at hj
    exact h j u hj
theorem Box.other {w : World} {b : Nat} {cs : Array Value} (h : Box w b cs) {a : Addr} (ha : a.block ≠ b) {v : Value} : Box (w.setCell a v) b cs := fun j u hj => by
  rw [World.cell?_setCell_other _ _ _ _ (by intro e; subst e; exact ha rfl), World.frozen?_setCell]; exact h j u hj
def texK (f : Nat → Int) (o k : Nat) : Array Value := #[.int .i64 (if 0 < k then f o else 0), .int .i64 (if 1 < k then f (o + 1) else 0), .int .i64 (if 2 < k then f (o + 2) else 0), .int .i64 (if 3 < k then f (o + 3) else 0)]

theorem texK_next (f : Nat → Int) (o k : Nat) (hk : k < 4) : (texK f o k).setIfInBounds k (.int .i64 (f (o + k))) = texK f o (k + 1) := by
  rcases (by omega : k = 0 ∨ k = 1 ∨ k = 2 ∨ k = 3) with rfl | rfl | rfl | rfl <;> simp [texK]
theorem texK_zero (f : Nat → Int) (o : Nat) : texK f o 0 = #[.int .i64 0, .int .i64 0, .int .i64 0, .int .i64 0] := by simp [texK]
theorem texK_four (f : Nat → Int) (o : Nat) : texK f o 4 = texV f o := by simp [texK, texV]
theorem texK_at (f : Nat → Int) (o k : Nat) (hk : k < 4) : (texK f o k)[k]? = some (.int .i64 0) := by
  rcases (by omega : k = 0 ∨ k = 1 ∨ k = 2 ∨ k = 3) with rfl | rfl | rfl | rfl <;> simp [texK]

theorem rat_no1 {W H : Int} (x y : Int) {n : Nat} {ao : Option Addr} {cap : Nat} {w : World} (HR : Hid (rightV W H n = false)) :
    Calls Try.prog 24 #[.agg #[.int .i64 W, .int .i64 H, .slice ao n cap], .int .i64 x, .int .i64 y] w fun e w' => e = .returned (.tuple #[.agg #[.int .i64 0, .int .i64 0, .int .i64 0, .int .i64 0], .int .i64 1]) ∧ Below w.heap.size w w' := by
  go_enter Try.func24, Try.ntmps24
  go_wp2_with fail
  refine (rright_any _ _ _ _ _ _).mono ?_
  rintro e w1 ⟨rfl, hb⟩
  rw [HR.out]
  have BI := Box.below (b := w.heap.size) (cs := #[.int .i64 W, .int .i64 H, .slice (ao) n cap]) (by (repeat' (first | (refine Box.mk' ?_; simp; done) | (refine Box.old ?_ ?_; rotate_left; (simp <;> omega))))) hb (by simp; omega)
  have BR := Box.below (b := w.heap.size + 1) (cs := #[.int .i64 0, .int .i64 0, .int .i64 0, .int .i64 0]) (by (repeat' (first | (refine Box.mk' ?_; simp; done) | (refine Box.old ?_ ?_; rotate_left; (simp <;> omega))))) hb (by simp <;> omega)
  have BT := Box.below (b := w.heap.size + 1 + 1) (cs := #[.int .i64 0, .int .i64 0, .int .i64 0, .int .i64 0]) (by (repeat' (first | (refine Box.mk' ?_; simp; done) | (refine Box.old ?_ ?_; rotate_left; (simp <;> omega))))) hb (by simp)
  have hbb := hide (Below.trans (by (repeat' (first | exact Below.refl _ _ | assumption | refine Below.setCell ?_ (by simp <;> omega) _ | refine Below.alloc ?_ (by simp <;> omega) _))) (hb.mono (by simp; omega)) : Below w.heap.size w w1)
  clear hb
  obtain ⟨⟨k0, k1, k2⟩, _⟩ := BI.c3
  obtain ⟨⟨l0, l1, l2, l3⟩, lf0, lf1, lf2, lf3⟩ := BR.c4
  obtain ⟨⟨t0, t1, t2, t3⟩, _⟩ := BT.c4
  clear BI BR BT
  go_wp2_with fail
  refine bodyPost_ret (v := .tuple #[.agg #[.int .i64 0, .int .i64 0, .int .i64 0, .int .i64 0], .int .i64 1]) (by simp [results, Try.results24, go_sem, World.cell?_setCell_same', l0, l1, l2, l3]) rfl ⟨rfl, ?_⟩
  have hbw := hbb.out
  (repeat' (first | exact Below.refl _ _ | assumption | refine Below.setCell ?_ (by simp <;> omega) _ | refine Below.alloc ?_ (by simp <;> omega) _))

set_option maxHeartbeats 400000 in
theorem rat_no2 {W H : Int} (x y : Int) {n : Nat} {ao : Option Addr} {cap : Nat} {w : World} (HR : Hid (rightV W H n = true)) (b1 b2 b3 b4 : Bool) (h1 : decide (x < 0) = b1) (h2 : decide (y < 0) = b2) (h3 : decide (W ≤ x) = b3) (h4 : decide (H ≤ y) = b4)
    (hor : b1 = true ∨ (b1 = false ∧ b2 = true) ∨ (b1 = false ∧ b2 = false ∧ b3 = true) ∨ (b1 = false ∧ b2 = false ∧ b3 = false ∧ b4 = true)) :
    Calls Try.prog 24 #[.agg #[.int .i64 W, .int .i64 H, .slice ao n cap], .int .i64 x, .int .i64 y] w fun e w' => e = .returned (.tuple #[.agg #[.int .i64 0, .int .i64 0, .int .i64 0, .int .i64 0], .int .i64 1]) ∧ Below w.heap.size w w' := by
  rcases hor with rfl | ⟨rfl, rfl⟩ | ⟨rfl, rfl, rfl⟩ | ⟨rfl, rfl, rfl, rfl⟩
  · go_enter Try.func24, Try.ntmps24
    go_wp2_with fail
    refine (rright_any _ _ _ _ _ _).mono ?_
    rintro e w1 ⟨rfl, hb⟩
    rw [HR.out]
    have BI := Box.below (b := w.heap.size) (cs := #[.int .i64 W, .int .i64 H, .slice (ao) n cap]) (by (repeat' (first | (refine Box.mk' ?_; simp; done) | (refine Box.old ?_ ?_; rotate_left; (simp <;> omega))))) hb (by simp; omega)
    have BR := Box.below (b := w.heap.size + 1) (cs := #[.int .i64 0, .int .i64 0, .int .i64 0, .int .i64 0]) (by (repeat' (first | (refine Box.mk' ?_; simp; done) | (refine Box.old ?_ ?_; rotate_left; (simp <;> omega))))) hb (by simp <;> omega)
    have BT := Box.below (b := w.heap.size + 1 + 1) (cs := #[.int .i64 0, .int .i64 0, .int .i64 0, .int .i64 0]) (by (repeat' (first | (refine Box.mk' ?_; simp; done) | (refine Box.old ?_ ?_; rotate_left; (simp <;> omega))))) hb (by simp)
    have hbb := hide (Below.trans (by (repeat' (first | exact Below.refl _ _ | assumption | refine Below.setCell ?_ (by simp <;> omega) _ | refine Below.alloc ?_ (by simp <;> omega) _))) (hb.mono (by simp; omega)) : Below w.heap.size w w1)
    clear hb
    obtain ⟨⟨k0, k1, k2⟩, _⟩ := BI.c3
    obtain ⟨⟨l0, l1, l2, l3⟩, lf0, lf1, lf2, lf3⟩ := BR.c4
    obtain ⟨⟨t0, t1, t2, t3⟩, _⟩ := BT.c4
    clear BI BR BT
    go_wp2_with fail
    refine bodyPost_ret (v := .tuple #[.agg #[.int .i64 0, .int .i64 0, .int .i64 0, .int .i64 0], .int .i64 1]) (by simp [results, Try.results24, go_sem, World.cell?_setCell_same', l0, l1, l2, l3]) rfl ⟨rfl, ?_⟩
    have hbw := hbb.out
    (repeat' (first | exact Below.refl _ _ | assumption | refine Below.setCell ?_ (by simp <;> omega) _ | refine Below.alloc ?_ (by simp <;> omega) _))
  · go_enter Try.func24, Try.ntmps24
    go_wp2_with fail
    refine (rright_any _ _ _ _ _ _).mono ?_
    rintro e w1 ⟨rfl, hb⟩
    rw [HR.out]
    have BI := Box.below (b := w.heap.size) (cs := #[.int .i64 W, .int .i64 H, .slice (ao) n cap]) (by (repeat' (first | (refine Box.mk' ?_; simp; done) | (refine Box.old ?_ ?_; rotate_left; (simp <;> omega))))) hb (by simp; omega)
    have BR := Box.below (b := w.heap.size + 1) (cs := #[.int .i64 0, .int .i64 0, .int .i64 0, .int .i64 0]) (by (repeat' (first | (refine Box.mk' ?_; simp; done) | (refine Box.old ?_ ?_; rotate_left; (simp <;> omega))))) hb (by simp <;> omega)
    have BT := Box.below (b := w.heap.size + 1 + 1) (cs := #[.int .i64 0, .int .i64 0, .int .i64 0, .int .i64 0]) (by (repeat' (first | (refine Box.mk' ?_; simp; done) | (refine Box.old ?_ ?_; rotate_left; (simp <;> omega))))) hb (by simp)
    have hbb := hide (Below.trans (by (repeat' (first | exact Below.refl _ _ | assumption | refine Below.setCell ?_ (by simp <;> omega) _ | refine Below.alloc ?_ (by simp <;> omega) _))) (hb.mono (by simp; omega)) : Below w.heap.size w w1)
    clear hb
    obtain ⟨⟨k0, k1, k2⟩, _⟩ := BI.c3
    obtain ⟨⟨l0, l1, l2, l3⟩, lf0, lf1, lf2, lf3⟩ := BR.c4
    obtain ⟨⟨t0, t1, t2, t3⟩, _⟩ := BT.c4
    clear BI BR BT
    go_wp2_with fail
    refine bodyPost_ret (v := .tuple #[.agg #[.int .i64 0, .int .i64 0, .int .i64 0, .int .i64 0], .int .i64 1]) (by simp [results, Try.results24, go_sem, World.cell?_setCell_same', l0, l1, l2, l3]) rfl ⟨rfl, ?_⟩
    have hbw := hbb.out
    (repeat' (first | exact Below.refl _ _ | assumption | refine Below.setCell ?_ (by simp <;> omega) _ | refine Below.alloc ?_ (by simp <;> omega) _))
  · go_enter Try.func24, Try.ntmps24
    go_wp2_with fail
    refine (rright_any _ _ _ _ _ _).mono ?_
    rintro e w1 ⟨rfl, hb⟩
    rw [HR.out]
    have BI := Box.below (b := w.heap.size) (cs := #[.int .i64 W, .int .i64 H, .slice (ao) n cap]) (by (repeat' (first | (refine Box.mk' ?_; simp; done) | (refine Box.old ?_ ?_; rotate_left; (simp <;> omega))))) hb (by simp; omega)
    have BR := Box.below (b := w.heap.size + 1) (cs := #[.int .i64 0, .int .i64 0, .int .i64 0, .int .i64 0]) (by (repeat' (first | (refine Box.mk' ?_; simp; done) | (refine Box.old ?_ ?_; rotate_left; (simp <;> omega))))) hb (by simp <;> omega)
    have BT := Box.below (b := w.heap.size + 1 + 1) (cs := #[.int .i64 0, .int .i64 0, .int .i64 0, .int .i64 0]) (by (repeat' (first | (refine Box.mk' ?_; simp; done) | (refine Box.old ?_ ?_; rotate_left; (simp <;> omega))))) hb (by simp)
    have hbb := hide (Below.trans (by (repeat' (first | exact Below.refl _ _ | assumption | refine Below.setCell ?_ (by simp <;> omega) _ | refine Below.alloc ?_ (by simp <;> omega) _))) (hb.mono (by simp; omega)) : Below w.heap.size w w1)
    clear hb
    obtain ⟨⟨k0, k1, k2⟩, _⟩ := BI.c3
    obtain ⟨⟨l0, l1, l2, l3⟩, lf0, lf1, lf2, lf3⟩ := BR.c4
    obtain ⟨⟨t0, t1, t2, t3⟩, _⟩ := BT.c4
    clear BI BR BT
    go_wp2_with fail
    refine bodyPost_ret (v := .tuple #[.agg #[.int .i64 0, .int .i64 0, .int .i64 0, .int .i64 0], .int .i64 1]) (by simp [results, Try.results24, go_sem, World.cell?_setCell_same', l0, l1, l2, l3]) rfl ⟨rfl, ?_⟩
    have hbw := hbb.out
    (repeat' (first | exact Below.refl _ _ | assumption | refine Below.setCell ?_ (by simp <;> omega) _ | refine Below.alloc ?_ (by simp <;> omega) _))
  · go_enter Try.func24, Try.ntmps24
    go_wp2_with fail
    refine (rright_any _ _ _ _ _ _).mono ?_
    rintro e w1 ⟨rfl, hb⟩
    rw [HR.out]
    have BI := Box.below (b := w.heap.size) (cs := #[.int .i64 W, .int .i64 H, .slice (ao) n cap]) (by (repeat' (first | (refine Box.mk' ?_; simp; done) | (refine Box.old ?_ ?_; rotate_left; (simp <;> omega))))) hb (by simp; omega)
    have BR := Box.below (b := w.heap.size + 1) (cs := #[.int .i64 0, .int .i64 0, .int .i64 0, .int .i64 0]) (by (repeat' (first | (refine Box.mk' ?_; simp; done) | (refine Box.old ?_ ?_; rotate_left; (simp <;> omega))))) hb (by simp <;> omega)
    have BT := Box.below (b := w.heap.size + 1 + 1) (cs := #[.int .i64 0, .int .i64 0, .int .i64 0, .int .i64 0]) (by (repeat' (first | (refine Box.mk' ?_; simp; done) | (refine Box.old ?_ ?_; rotate_left; (simp <;> omega))))) hb (by simp)
    have hbb := hide (Below.trans (by (repeat' (first | exact Below.refl _ _ | assumption | refine Below.setCell ?_ (by simp <;> omega) _ | refine Below.alloc ?_ (by simp <;> omega) _))) (hb.mono (by simp; omega)) : Below w.heap.size w w1)
    clear hb
    obtain ⟨⟨k0, k1, k2⟩, _⟩ := BI.c3
    obtain ⟨⟨l0, l1, l2, l3⟩, lf0, lf1, lf2, lf3⟩ := BR.c4
    obtain ⟨⟨t0, t1, t2, t3⟩, _⟩ := BT.c4
    clear BI BR BT
    go_wp2_with fail
    refine bodyPost_ret (v := .tuple #[.agg #[.int .i64 0, .int .i64 0, .int .i64 0, .int .i64 0], .int .i64 1]) (by simp [results, Try.results24, go_sem, World.cell?_setCell_same', l0, l1, l2, l3]) rfl ⟨rfl, ?_⟩
    have hbw := hbb.out
    (repeat' (first | exact Below.refl _ _ | assumption | refine Below.setCell ?_ (by simp <;> omega) _ | refine Below.alloc ?_ (by simp <;> omega) _))

theorem rat_any {W H : Int} (x y : Int) {n : Nat} {f : Nat → Int} {v : Value} {w : World} (hv : Im w v W H n f) (hx : -9223372036854775808 ≤ x ∧ x ≤ 9223372036854775807) (hy : -9223372036854775808 ≤ y ∧ y ≤ 9223372036854775807) :
    Calls Try.prog 24 #[v, .int .i64 x, .int .i64 y] w fun e w' => e = .returned (.tuple #[.agg (atV W H x y n f).1, .int .i64 (atV W H x y n f).2]) ∧ Below w.heap.size w w' := by
  obtain ⟨ao, cap, rfl, hrd, hW, hH⟩ := hv
  obtain ⟨_, _, e, hn, hf, hc⟩ := hrd
  injection e with e1 e2 e3
  subst e1 e3
  by_cases hr : rightV W H n = true
  · have HR := hide hr
    by_cases hi : inV x y W H = true
    · obtain ⟨p1, p2, p3, p4, p5, p6, p7, p8⟩ := place_ok hr hi
      obtain ⟨d1, d2, d3, d4⟩ := inV_facts hi
      obtain ⟨o, ho⟩ : ∃ o : Nat, 4 * (y * W + x) = o := ⟨(4 * (y * W + x)).toNat, by omega⟩
      have e : atV W H x y n f = (texV f o, 0) := by unfold atV; rw [if_pos ⟨hr, hi⟩, ho]; rfl
      rw [e]
      obtain ⟨b, off, rfl, hcc⟩ := hc p7
      have HC := hide hcc
      have HF := hide hf
      have w1' : wrap64 (y * W) = y * W := by exact wrap_in (by omega)
      have w2' : wrap64 (y * W + x) = y * W + x := by exact wrap_in (by omega)
      have w3' : wrap64 (4 * (y * W + x)) = (o : Int) := by rw [← ho]; exact wrap_in (by omega)
      have ho2 : (o : Int) + 4 ≤ n := by omega
      have ho3 : (o : Int) ≤ 268500000 := by omega
      have hbl : b < w.heap.size := World.block_lt_of_cell? w _ (HC.out 0 (by omega))
      clear hr hi hc hf hcc e ho p1 p2 p3 p4 p5 p6
      go_enter Try.func24, Try.ntmps24
      go_wp2_with fail
      refine (rright_any _ _ _ _ _ _).mono ?_
      rintro e w1 ⟨rfl, hb⟩
      rw [HR.out]
      have BI := hide (Box.below (b := w.heap.size) (cs := #[.int .i64 W, .int .i64 H, .slice (some ⟨b, off, none⟩) n cap]) (by (repeat' (first | (refine Box.mk' ?_; simp; done) | (refine Box.old ?_ ?_; rotate_left; (simp <;> omega))))) hb (by simp <;> omega))
      have BR := hide (Box.below (b := w.heap.size + 1) (cs := #[.int .i64 0, .int .i64 0, .int .i64 0, .int .i64 0]) (by (repeat' (first | (refine Box.mk' ?_; simp; done) | (refine Box.old ?_ ?_; rotate_left; (simp <;> omega))))) hb (by simp <;> omega))
      have BT := hide (Box.below (b := w.heap.size + 1 + 1) (cs := #[.int .i64 0, .int .i64 0, .int .i64 0, .int .i64 0]) (by (repeat' (first | (refine Box.mk' ?_; simp; done) | (refine Box.old ?_ ?_; rotate_left; (simp <;> omega))))) hb (by simp))
      have hb1 := hide (Below.trans (by (repeat' (first | exact Below.refl _ _ | assumption | refine Below.setCell ?_ (by simp <;> omega) _ | refine Below.alloc ?_ (by simp <;> omega) _))) (hb.mono (by simp; omega)) : Below w.heap.size w w1)
      have hs1 : w.heap.size + 3 ≤ w1.heap.size := by have := hb.size; simp at this; omega
      clear hb
      obtain ⟨⟨k0, k1, k2⟩, kf0, kf1, kf2⟩ := BI.out.c3
      go_wp2_with fail
      go_loopw [9] (fun i wr => ∃ k : Nat, k ≤ 4 ∧ i = .int .i64 k ∧ Box wr (w.heap.size + 1 + 1) (texK f o k) ∧ Below (w.heap.size + 1 + 1) w1 wr) (fun i _ => 4 - (intOf i).toNat)
      case atStart => exact ⟨0, by omega, rfl, by rw [texK_zero]; exact BT.out, Below.refl _ _⟩
      case round =>
        obtain ⟨k, hk, rfl, hbk, hbw⟩ := hrel
        have HK := hide hbk
        have HW := hide hbw
        clear k0 k1 k2 kf0 kf1 kf2
        by_cases hlt : k < 4
        · obtain ⟨⟨k0, k1, k2⟩, _⟩ := (BI.out.below hbw (by omega)).c3
          have c0 := ((hbw.cell (by show b < _; omega)).trans (hb1.out.cell (by exact hbl))).trans (HC.out (o + k) (by omega))
          have f0 := HF.out (o + k)
          obtain ⟨t0, tf0⟩ := hbk k _ (texK_at f o k hlt)
          clear hbk hbw
          go_wp2_with fail
          go_roundw
          case rel =>
            refine ⟨k + 1, by omega, by go_num, ?_, HW.out.setCell (Nat.le_refl _) _⟩
            rw [← texK_next f o k hlt]
            exact HK.out.set _ (by simp [texK]; omega)
          case measure => simp [intOf]; omega
        · obtain rfl : k = 4 := by omega
          rw [texK_four] at hbk
          unfold texV at hbk
          obtain ⟨⟨t0, t1, t2, t3⟩, tf0, tf1, tf2, tf3⟩ := hbk.c4
          obtain ⟨⟨l0, l1, l2, l3⟩, lf0, lf1, lf2, lf3⟩ := (BR.out.below hbw (by omega)).c4
          clear hbk hbw
          go_wp2_with fail
          refine bodyPost_ret (v := .tuple #[.agg #[.int .i64 (f o), .int .i64 (f (o + 1)), .int .i64 (f (o + 2)), .int .i64 (f (o + 3))], .int .i64 0]) (by simp [results, Try.results24, go_sem, World.cell?_setCell_same', l0, l1, l2, l3]) rfl ⟨rfl, ?_⟩
          have hbw := hb1.out.trans (HW.out.mono (by omega))
          (repeat' (first | exact Below.refl _ _ | assumption | refine Below.setCell ?_ (by simp <;> omega) _ | refine Below.alloc ?_ (by simp <;> omega) _))
    · have e : atV W H x y n f = (z4, 1) := by unfold atV; rw [if_neg (fun h => hi h.2)]; rfl
      rw [e]
      exact rat_no2 x y HR _ _ _ _ rfl rfl rfl rfl (by unfold inV at hi; simp at hi ⊢; omega)
  · have e : atV W H x y n f = (z4, 1) := by unfold atV; rw [if_neg (fun h => hr h.1)]; rfl
    rw [e]
    exact rat_no1 x y (hide (by simpa using hr))
end Go.Proofs.Ytmckfppemhnhmaa
