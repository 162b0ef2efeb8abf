import Derived.Test.YtmckfppemhnhmaaE
import Derived.StillTailTactics
import Derived.Deep.Cut

namespace Go.Proofs.Ytmckfppemhnhmaa
open Go.RowKit

theorem i64w (n : Int) : IntKind.i64.wrap n = wrap64 n := by rw [IntKind.wrap_i64]; unfold wrap64; omega
theorem Im.below {w w' : World} {v : Value} {W H : Int} {n : Nat} {f : Nat → Int} (h : Im w v W H n f) {B : Nat} (hb : Below B w w') (hB : w.heap.size ≤ B) : Im w' v W H n f := by
  obtain ⟨ao, cap, rfl, hr, h1, h2⟩ := h
  exact ⟨ao, cap, rfl, hr.below hb hB, h1, h2⟩
theorem atV_ok {W H x y : Int} {n : Nat} {f : Nat → Int} (hr : rightV W H n = true) (hi : inV x y W H = true) : (atV W H x y n f).2 = 0 := by unfold atV; rw [if_pos ⟨hr, hi⟩]
theorem atV_no {W H x y : Int} {n : Nat} {f : Nat → Int} (h : (rightV W H n && inV x y W H) = false) : atV W H x y n f = (z4, 1) := by
  unfold atV; rw [if_neg (by intro ⟨h1, h2⟩; rw [h1, h2] at h; simp at h)]; rfl
theorem atV_bd {W H x y : Int} {n : Nat} {f : Nat → Int} : ∃ a b c d : Int, (atV W H x y n f).1 = #[.int .i64 a, .int .i64 b, .int .i64 c, .int .i64 d] := by
  unfold atV; split
  · exact ⟨_, _, _, _, rfl⟩
  · exact ⟨_, _, _, _, rfl⟩

theorem rput_ok {W H : Int} (x y : Int) {n : Nat} {f t : Nat → Int} {v : Value} {w : World} (hv : Im w v W H n f) (hx : -9223372036854775808 ≤ x ∧ x ≤ 9223372036854775807) (hy : -9223372036854775808 ≤ y ∧ y ≤ 9223372036854775807) (hr : rightV W H n = true) (hi : inV x y W H = true) :
    Calls Try.prog 26 #[v, .int .i64 x, .int .i64 y, tx t] w (putP W H x y n f t w) := by
  have hv' := hv
  obtain ⟨ao, cap, rfl, hrd, hW, hH⟩ := hv
  obtain ⟨_, _, e, hn, hf, hc⟩ := hrd
  injection e with e1 e2 e3
  subst e1 e3
  unfold putP
  rw [hr, hi]
  obtain ⟨p1, p2, p3, p4, p5, p6, p7, p8⟩ := place_ok hr hi
  obtain ⟨o, ho⟩ : ∃ o : Nat, 4 * (y * W + x) = o := ⟨(4 * (y * W + x)).toNat, by omega⟩
  have w1' : wrap64 (y * W) = y * W := by exact wrap_in (by omega)
  have w2' : wrap64 (y * W + x) = y * W + x := by exact wrap_in (by omega)
  have w3' : wrap64 (4 * (y * W + x)) = (o : Int) := by rw [← ho]; exact wrap_in (by omega)
  have ho3 : (o : Int) ≤ 268500000 := by omega
  have ho2 : (o : Int) + 4 ≤ n := by omega
  rw [ho]
  obtain ⟨b, off, rfl, hcc⟩ := hc p7
  have HC := hide hcc
  have HF := hide hf
  have HV := hide hv'
  have HA := hide (atV_ok (f := f) hr hi)
  obtain ⟨a0, a1, a2, a3, hA1⟩ := atV_bd (W := W) (H := H) (x := x) (y := y) (n := n) (f := f)
  have HA1 := hide hA1
  obtain ⟨i0, hi0, hz0, hz1, hz2⟩ := info_parts Try.info5
  obtain ⟨cs, hcs⟩ : ∃ cs : List Value, cs = (List.range n).map (fun i => Value.int .u8 (f i)) := ⟨_, rfl⟩
  have Hcs := hide hcs
  have hcl : cs.length = n * 1 := by rw [hcs]; simp
  have Hcl := hide hcl
  clear hcl
  have hbl : b < w.heap.size := World.block_lt_of_cell? w _ (HC.out 0 (by omega))
  unfold tx
  clear hr hi hc hf hcc hv' ho hA1 hcs p1 p2 p3 p4 p5 p6
  go_enter Try.func26, Try.ntmps26
  go_wp2_with fail
  refine (rat_any (W := W) (H := H) (n := n) (f := f) x y ⟨_, _, rfl, ⟨_, _, rfl, hn, HF.out, ?cc⟩, hW, hH⟩ hx hy).mono ?_
  case cc =>
    intro _
    refine ⟨b, off, rfl, fun i hi => ?_⟩
    rw [cell_old _ _ (by simp; omega), cell_old _ _ (by simp; omega), cell_old _ _ (by exact hbl)]
    exact HC.out i hi
  rintro e w1 ⟨rfl, hb⟩
  rw [HA.out, HA1.out]
  have BI := hide (Box.below (b := w.heap.size) (cs := #[.int .i64 W, .int .i64 H, .slice (some ⟨b, off, none⟩) n cap]) (by (repeat' (first | (refine Box.mk' ?_; simp; done) | (refine Box.old ?_ ?_; rotate_left; (simp <;> omega))))) hb (by simp; omega))
  have BT := hide (Box.below (b := w.heap.size + 1) (cs := #[.int .i64 (t 0), .int .i64 (t 1), .int .i64 (t 2), .int .i64 (t 3)]) (by (repeat' (first | (refine Box.mk' ?_; simp; done) | (refine Box.old ?_ ?_; rotate_left; (simp <;> omega))))) hb (by simp <;> omega))
  have BR := hide (Box.below (b := w.heap.size + 1 + 1) (cs := #[.int .i64 0, .int .i64 0, .slice none 0 0]) (by (repeat' (first | (refine Box.mk' ?_; simp; done) | (refine Box.old ?_ ?_; rotate_left; (simp <;> omega))))) hb (by simp))
  have hb1 := hide (Below.trans (by (repeat' (first | exact Below.refl _ _ | assumption | refine Below.setCell ?_ (by simp <;> omega) _ | refine Below.alloc ?_ (by simp <;> omega) _))) (hb.mono (by simp; omega)) : Below w.heap.size w w1)
  have hs1 : w.heap.size + 3 ≤ w1.heap.size := by have := hb.size; simp at this; omega
  clear hb
  go_upto_region 4 with (fail)
  obtain ⟨w2, hw2⟩ : ∃ w2 : World, w2 = w1.alloc (.cells #[.int .i64 a0, .int .i64 a1, .int .i64 a2, .int .i64 a3] 38) := ⟨_, rfl⟩
  rw [← hw2]
  have BI2 := hide (show Box w2 _ _ by rw [hw2]; exact BI.out.old (by omega))
  have BT2 := hide (show Box w2 _ _ by rw [hw2]; exact BT.out.old (by omega))
  have BR2 := hide (show Box w2 _ _ by rw [hw2]; exact BR.out.old (by omega))
  have hb2 := hide (show Below w.heap.size w w2 by rw [hw2]; exact hb1.out.alloc (by omega) _)
  have hs2 : w.heap.size + 3 ≤ w2.heap.size := by rw [hw2]; simp; omega
  clear hw2 BI BT BR hb1
  have k2 : ∀ o, (w2.alloc o).cell? ⟨w.heap.size, 2, none⟩ = some (.slice (some ⟨b, off, none⟩) n cap) := fun o => (cell_old _ _ (by simp; omega)).trans BI2.out.c3.1.2.2
  go_wp2_with (at_builtin; refine wpList_append_own _ rfl _ _ 22 rfl w2.heap.size 5 i0 (.int .u8 0) 1 1 Try.underlying22 hi0 hz0 hz1 hz2 rfl (by decide) _ _ _ rfl (World.ownsRow_made w2 #[] 0 (Nat.le_refl _) (by decide) rfl) _ n cap cs rfl Hcl.out ?c1 ?c2 ?c3 ?c4 ?c5 ?_)
  case c1 =>
    intro j v hj
    rw [Hcs.out] at hj
    rw [Addr.add_lit]
    exact cells_bytes (fun i hi => (hb2.out.cell (by exact hbl)).trans (HC.out i hi)) ((Below.refl _ _).alloc (Nat.le_refl _) _) hj
  case c2 => rw [Hcs.out]; intro v hv; obtain ⟨_, _, rfl⟩ := List.mem_map.1 hv; rfl
  case c3 => unfold maxLen; omega
  case c4 => omega
  case c5 => simp
  intro v' w3 hown hgrow hnil
  have hb3 : Below w2.heap.size w2 w3 := (((Below.refl _ _).alloc (Nat.le_refl _) _).grown hgrow (by simp) (fun k e => by simp [Value.ownBlock] at e; omega))
  obtain ⟨g, cap', rfl, hbg, hcl⟩ := own_cl (n := n) (f := f) (by simpa using hown) p7 (fun i hi => by
        rw [Hcs.out, List.getElem?_map, List.getElem?_range hi]; rfl)
  have HCL := hide hcl
  have HB3 := hide hb3
  clear hown hgrow hnil hcl hb3 k2
  go_wp2_with fail
  go_loopw [13] (fun i wr => ∃ k : Nat, k ≤ 4 ∧ i = .int .i64 k ∧ Cl wr g 0 n (updK f o t k) ∧ Below w2.heap.size w3 wr) (fun i _ => 4 - (intOf i).toNat)
  case atStart => exact ⟨0, by omega, rfl, HCL.out.congr fun i hi => by unfold updK; rw [if_neg (by omega)], Below.refl _ _⟩
  case round =>
    obtain ⟨k, hk, rfl, hcl, hbw⟩ := hrel
    have HK := hide hcl
    have HW := hide (HB3.out.trans hbw)
    have HW3 := hide hbw
    by_cases hlt : k < 4
    · have d1 := hcl.at (show o + k < n by omega)
      have d2 := hcl.fr (show o + k < n by omega)
      obtain ⟨⟨k0, k1, k2⟩, _⟩ := (BI2.out.below HW.out (by omega)).c3
      obtain ⟨t0, tf0⟩ := BT2.out.below HW.out (by omega) k (.int .i64 (t k)) (by
        rcases (by omega : k = 0 ∨ k = 1 ∨ k = 2 ∨ k = 3) with rfl | rfl | rfl | rfl <;> rfl)
      clear hcl hbw
      go_wp2_with fail
      refine wp_region_still_tail 16 (by kernel_rfl) (by kernel_rfl) ?_
      simp only [List.take_succ_cons, List.take_zero, List.drop_succ_cons, List.drop_zero]
      have e1 : IntKind.i64.wrap (y * W) = y * W := (i64w _).trans w1'
      have e2 : IntKind.i64.wrap (y * W + x) = y * W + x := (i64w _).trans w2'
      have e3 : IntKind.i64.wrap (4 * (y * W + x)) = (o : Int) := (i64w _).trans w3'
      have e4 : IntKind.i64.wrap ((o : Int) + k) = (o : Int) + k := (i64w _).trans (wrap_in (by omega))
      have e5 : 0 ≤ (o : Int) + k := by omega
      have e6 : ((o : Int) + k).toNat = o + k := by omega
      have e7 : (o : Int) + k < n := by omega
      repeat (first | still_step | still_call ((clamp_ref _ _).mono fun _ _ h => ⟨h.1, h.2.symm⟩))
      refine wpStill_nil ?_
      change wpList _ _ _ _ _ wr.drew
      go_wp2
      clear e1 e2 e3 e4 e5 e6 e7
      refine ⟨⟨k + 1, by omega, by go_num, ?_, ?_⟩, by simp [intOf]; omega⟩
      · have hm : clampV (t k) 255 % 256 = clampV (t k) 255 := by have := clampV_bd (t k); omega
        rw [hm]
        exact HK.out.next rfl
      · exact (HW3.out.setCell (by exact hbg) _).drew
    · obtain rfl : k = 4 := by omega
      obtain ⟨⟨k0, k1, k2⟩, _⟩ := (BI2.out.below HW.out (by omega)).c3
      obtain ⟨⟨l0, l1, l2⟩, lf0, lf1, lf2⟩ := (BR2.out.below HW.out (by omega)).c3
      clear hcl hbw
      go_wp2_with fail
      refine bodyPost_ret (v := .tuple #[.agg #[.int .i64 W, .int .i64 H, .slice (some ⟨g, 0, none⟩) n cap'], .int .i64 0]) (by simp [results, Try.results26, go_sem, World.cell?_setCell_same', l0, l1, l2]) rfl ⟨_, rfl, ?_, ?_⟩
      · refine ⟨_, _, rfl, Rd.of_cl (f := updK f o t 4) (((HK.out.other (by simp; omega)).other (by simp; omega)).other (by simp; omega)) hn (updK_bd HF.out o 4), hW, hH⟩
      · have hbw := hb2.out.trans (HW.out.mono (by omega))
        (repeat' (first | exact Below.refl _ _ | assumption | refine Below.setCell ?_ (by simp <;> omega) _ | refine Below.alloc ?_ (by simp <;> omega) _))

theorem rput_no {W H : Int} (x y : Int) {n : Nat} {f t : Nat → Int} {v : Value} {w : World} (hv : Im w v W H n f) (hx : -9223372036854775808 ≤ x ∧ x ≤ 9223372036854775807) (hy : -9223372036854775808 ≤ y ∧ y ≤ 9223372036854775807) (hr : (rightV W H n && inV x y W H) = false) :
    Calls Try.prog 26 #[v, .int .i64 x, .int .i64 y, tx t] w (putP W H x y n f t w) := by
  have HV := hide hv
  obtain ⟨ao, cap, rfl, hrd, hW, hH⟩ := hv
  unfold putP
  rw [hr]
  have HA := hide (atV_no (f := f) hr)
  unfold tx
  clear hr hrd
  go_enter Try.func26, Try.ntmps26
  go_wp2_with fail
  refine (rat_any (W := W) (H := H) (n := n) (f := f) x y ?cc hx hy).mono ?_
  case cc =>
    refine Im.below HV.out (B := w.heap.size) ?_ (Nat.le_refl _)
    (repeat' (first | exact Below.refl _ _ | assumption | refine Below.setCell ?_ (by simp <;> omega) _ | refine Below.alloc ?_ (by simp <;> omega) _))
  rintro e w1 ⟨rfl, hb⟩
  rw [HA.out]
  unfold z4
  have BI := hide (Box.below (b := w.heap.size) (cs := #[.int .i64 W, .int .i64 H, .slice ao n cap]) (by (repeat' (first | (refine Box.mk' ?_; simp; done) | (refine Box.old ?_ ?_; rotate_left; (simp <;> omega))))) hb (by simp; omega))
  have BR := hide (Box.below (b := w.heap.size + 1 + 1) (cs := #[.int .i64 0, .int .i64 0, .slice none 0 0]) (by (repeat' (first | (refine Box.mk' ?_; simp; done) | (refine Box.old ?_ ?_; rotate_left; (simp <;> omega))))) hb (by simp))
  have hb1 := hide (Below.trans (by (repeat' (first | exact Below.refl _ _ | assumption | refine Below.setCell ?_ (by simp <;> omega) _ | refine Below.alloc ?_ (by simp <;> omega) _))) (hb.mono (by simp; omega)) : Below w.heap.size w w1)
  have hs1 : w.heap.size + 3 ≤ w1.heap.size := by have := hb.size; simp at this; omega
  clear hb
  go_upto_region 3 with (fail)
  obtain ⟨w2, hw2⟩ : ∃ w2 : World, w2 = w1.alloc (.cells #[.int .i64 0, .int .i64 0, .int .i64 0, .int .i64 0] 38) := ⟨_, rfl⟩
  rw [← hw2]
  have BR2 := hide (show Box w2 _ _ by rw [hw2]; exact BR.out.old (by omega))
  have hb2 := hide (show Below w.heap.size w w2 by rw [hw2]; exact hb1.out.alloc (by omega) _)
  clear hw2 BI BR hb1
  obtain ⟨⟨l0, l1, l2⟩, lf0, lf1, lf2⟩ := BR2.out.c3
  go_wp2_with fail
  refine bodyPost_ret (v := .tuple #[.agg #[.int .i64 0, .int .i64 0, .slice none 0 0], .int .i64 1]) (by simp [results, Try.results26, go_sem, World.cell?_setCell_same', l0, l1, l2]) rfl ⟨_, rfl, Out.nil _ _ _ _ _, ?_⟩
  have hbw := hb2.out
  (repeat' (first | exact Below.refl _ _ | assumption | refine Below.setCell ?_ (by simp <;> omega) _ | refine Below.alloc ?_ (by simp <;> omega) _))
theorem rput_any {W H : Int} (x y : Int) {n : Nat} {f t : Nat → Int} {v : Value} {w : World} (hv : Im w v W H n f) (hx : -9223372036854775808 ≤ x ∧ x ≤ 9223372036854775807) (hy : -9223372036854775808 ≤ y ∧ y ≤ 9223372036854775807) :
    Calls Try.prog 26 #[v, .int .i64 x, .int .i64 y, tx t] w (putP W H x y n f t w) := by
  by_cases h : (rightV W H n && inV x y W H) = true
  · simp only [Bool.and_eq_true] at h
    exact rput_ok x y hv hx hy h.1 h.2
  · exact rput_no x y hv hx hy (by simpa using h)
end Go.Proofs.Ytmckfppemhnhmaa
