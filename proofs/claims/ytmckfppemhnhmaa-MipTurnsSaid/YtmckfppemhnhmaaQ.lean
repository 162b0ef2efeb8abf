import Derived.Test.YtmckfppemhnhmaaN
import Derived.Deep.Cut

namespace Go.Proofs.Ytmckfppemhnhmaa
open Go.RowKit

def tA : Nat → Int := fun i => match i with | 0 => 300 | 1 => 2 | 2 => -3 | _ => 4
def tB : Nat → Int := fun i => match i with | 0 => 255 | 1 => 2 | 2 => 0 | _ => 4
def fA : Nat → Int := updK (fun _ => 0) 56 tA 4
def gA : Nat → Int := gatV 5 4 fA 1 0
theorem a_right : rightV 5 4 80 = true := by decide +kernel
theorem a_in : inV 4 2 5 4 = true := by decide +kernel
theorem a_has : hasV 5 4 1 0 80 = true := by decide +kernel
theorem a_tiles : tilesV 5 4 = (2, 1) := by decide +kernel
theorem a_g8 : allEq (fun i => gA (32 + i)) tB 4 = true := by decide +kernel
theorem a_g11 : allEq (fun i => gA (44 + i)) (fun i => gA (32 + i)) 4 = true := by decide +kernel
theorem a_g0 : allEq (fun i => gA (0 + i)) (fun _ => 0) 4 = true := by decide +kernel
theorem a_0 : gA 0 = 0 := by decide +kernel
theorem a_1 : gA 1 = 0 := by decide +kernel
theorem a_2 : gA 2 = 0 := by decide +kernel
theorem a_3 : gA 3 = 0 := by decide +kernel
theorem a_32 : gA 32 = 255 := by decide +kernel
theorem a_33 : gA 33 = 2 := by decide +kernel
theorem a_34 : gA 34 = 0 := by decide +kernel
theorem a_35 : gA 35 = 4 := by decide +kernel
theorem a_44 : gA 44 = 255 := by decide +kernel
theorem a_45 : gA 45 = 2 := by decide +kernel
theorem a_46 : gA 46 = 0 := by decide +kernel
theorem a_47 : gA 47 = 4 := by decide +kernel
theorem a_bb : allEq tB tB 4 = true := by decide +kernel
theorem a_zz : allEq (fun _ => 0) (fun _ => 0) 4 = true := by decide +kernel
theorem a_flat0 : flatV (fun _ => 0) = true := by decide +kernel
theorem a_flat : flatV gA = false := by decide +kernel
theorem a_same : sameV 5 4 80 (fun _ => 0) 5 4 80 fA = false := by decide +kernel
theorem tB_ag : Ag #[.int .i64 255, .int .i64 2, .int .i64 0, .int .i64 4] 4 tB := ⟨rfl, fun i hi => by match i, hi with | 0, _ => rfl | 1, _ => rfl | 2, _ => rfl | 3, _ => rfl⟩
theorem z4_ag : Ag #[.int .i64 0, .int .i64 0, .int .i64 0, .int .i64 0] 4 (fun _ => 0) := ⟨rfl, fun i hi => by match i, hi with | 0, _ => rfl | 1, _ => rfl | 2, _ => rfl | 3, _ => rfl⟩
theorem Box.isBk {w : World} {b n : Nat} {cs : Array Value} {f : Nat → Int} (h : Box w b cs) (ha : Ag cs n f) : Bk w b n f := Bk.of_box h ha
theorem putP_yes {W H x y : Int} {n : Nat} {f t : Nat → Int} {w w' : World} {e : Ending} (hr : rightV W H n = true) (hi : inV x y W H = true) (h : putP W H x y n f t w e w') :
    ∃ v, e = .returned (.tuple #[v, .int .i64 0]) ∧ Im w' v W H n (updK f (4 * (y * W + x)).toNat t 4) ∧ Below w.heap.size w w' := by
  unfold putP at h
  rw [hr, hi] at h
  exact h
theorem gatP_yes {W H x y : Int} {n : Nat} {f : Nat → Int} {w w' : World} {e : Ending} (hh : hasV W H x y n = true) (h : gatP W H x y n f w e w') :
    e = .returned (.tuple #[.agg (agOf 0 64 (gatV W H f x y)), .int .i64 0]) ∧ Below w.heap.size w w' := by
  unfold gatP at h
  rw [hh] at h
  exact h
theorem flat_zero (w : World) : Calls Try.prog 37 #[.agg Z64] w fun e w' => e = .returned (.bool true) ∧ Below w.heap.size w w' := by
  rw [Z64_ag.eq]
  refine (flat_any (fun _ => 0) w).mono ?_
  rintro e w' ⟨rfl, hb⟩
  rw [a_flat0]
  exact ⟨rfl, hb⟩
attribute [local irreducible] agOf

set_option maxRecDepth 100000 in
set_option maxHeartbeats 1600000 in
theorem awake_any (w : World) : Calls Try.prog 23 #[] w fun e w' => e = .returned (.bool true) ∧ Below w.heap.size w w' := by
  have HZ := hide Z64_ag
  have hz := Z64_ag.1
  go_enter Try.func23, Try.ntmps23
  go_wp2_with fail
  refine (new_ok 5 4 80 w (by decide +kernel) (by decide)).mono ?_
  rintro e w1 ⟨g, rfl, hg, hcl, hb⟩
  have HCL := hide hcl
  have hb1 := hide hb
  have hs1 : w.heap.size < w1.heap.size := by have := World.block_lt_of_cell? w1 _ (hcl 0 (by omega)).1; simp at this; omega
  have hgl : g < w1.heap.size := World.block_lt_of_cell? w1 _ (hcl 0 (by omega)).1
  clear hcl hb
  go_upto_region 2 with (fail)
  generalize hw2 : w1.alloc (.cells #[.int .i64 5, .int .i64 4, .slice (some ⟨g, 0, none⟩) 80 80] 24) = w2
  have B1 := hide (show Box w2 w1.heap.size #[.int .i64 5, .int .i64 4, .slice (some ⟨g, 0, none⟩) 80 80] by rw [← hw2]; (repeat' (first | (refine Box.mk' ?_; simp; done) | (refine Box.old ?_ ?_; rotate_left; (simp <;> omega)))))
  have hb2 := hide (show Below w.heap.size w w2 by rw [← hw2]; exact hb1.out.alloc (by omega) _)
  have hs2 : w2.heap.size = w1.heap.size + 1 := by rw [← hw2]; simp
  have C2 := hide (show Cl w2 g 0 80 (fun _ => 0) by rw [← hw2]; exact HCL.out.alloc hgl _)
  clear hw2 HCL hb1
  obtain ⟨p1, hp1⟩ : ∃ p1, p1 = w1.heap.size := ⟨_, rfl⟩
  rw [← hp1] at B1 hs1 hs2 hgl ⊢
  clear hp1
  have IM := hide (show Im w2 (.agg #[.int .i64 5, .int .i64 4, .slice (some ⟨g, 0, none⟩) 80 80]) 5 4 80 (fun _ => 0) from ⟨_, _, rfl, Rd.of_cl C2.out (by decide) (fun _ => ⟨by decide, by decide⟩), by decide, by decide⟩)
  have Hs2 := hide hs2
  clear hs2
  obtain ⟨⟨k0, k1, k2⟩, _⟩ := B1.out.c3
  go_wp2_with fail
  refine (put_any 4 2 (t := tA) IM.out).mono ?_
  intro e w3 hp
  obtain ⟨v, rfl, him, hb⟩ := putP_yes a_right a_in hp
  have him2 : Im w3 v 5 4 80 fA := him
  clear him hp k0 k1 k2
  have IM1 := hide (IM.out.below hb (Nat.le_refl _))
  have B2 := hide (B1.out.below hb (by have := Hs2.out; omega))
  have hb3 := hide (hb2.out.trans (hb.mono (by have := Hs2.out; omega)))
  have hs3 : p1 < w3.heap.size := by have := Hs2.out; have := hb.size; omega
  have IMv := hide him2
  obtain ⟨ao, cap, rfl, _, _, _⟩ := him2
  clear hb Hs2 IM B1 hb2 C2
  go_upto_region 3 with (fail)
  generalize hw4 : w3.alloc (.cells #[.int .i64 5, .int .i64 4, .slice ao 80 cap] 24) = w4
  have B3 := hide (show Box w4 p1 #[.int .i64 5, .int .i64 4, .slice (some ⟨g, 0, none⟩) 80 80] by rw [← hw4]; exact B2.out.old hs3)
  have B4 := hide (show Box w4 w3.heap.size #[.int .i64 5, .int .i64 4, .slice ao 80 cap] by rw [← hw4]; (repeat' (first | (refine Box.mk' ?_; simp; done) | (refine Box.old ?_ ?_; rotate_left; (simp <;> omega)))))
  have hb4 := hide (show Below w.heap.size w w4 by rw [← hw4]; exact hb3.out.alloc (by omega) _)
  have I1 := hide (show Im w4 _ 5 4 80 (fun _ => 0) by rw [← hw4]; exact IM1.out.below ((Below.refl w3.heap.size w3).alloc (Nat.le_refl _) _) (Nat.le_refl _))
  have I2 := hide (show Im w4 _ 5 4 80 fA by rw [← hw4]; exact IMv.out.below ((Below.refl w3.heap.size w3).alloc (Nat.le_refl _) _) (Nat.le_refl _))
  have hs4 : w4.heap.size = w3.heap.size + 1 := by rw [← hw4]; simp
  clear hw4 IM1 IMv B2 hb3
  obtain ⟨p2, hp2⟩ : ∃ p2, p2 = w3.heap.size := ⟨_, rfl⟩
  rw [← hp2] at B4 hs3 hs4 ⊢
  clear hp2
  have Hs4 := hide hs4
  clear hs4
  obtain ⟨⟨k0, k1, k2⟩, _⟩ := B4.out.c3
  go_wp2_with fail
  refine (gather_any 1 0 I2.out).mono ?_
  intro e w5 hp
  obtain ⟨rfl, hb⟩ := gatP_yes a_has hp
  have A0 := hide (agOf_ag0 64 gA)
  have z0 := A0.out.1
  have hga : gatV 5 4 fA 1 0 = gA := rfl
  rw [hga]
  clear hp hga k0 k1 k2
  have J1 := hide (I1.out.below hb (Nat.le_refl _))
  have J2 := hide (I2.out.below hb (Nat.le_refl _))
  have B5 := hide (B3.out.below hb (by have := Hs4.out; omega))
  have B6 := hide (B4.out.below hb (by have := Hs4.out; omega))
  have hb5 := hide (hb4.out.trans (hb.mono (by have := Hs4.out; omega)))
  have hs5 : p2 < w5.heap.size := by have := Hs4.out; have := hb.size; omega
  clear hb Hs4 I1 I2 B3 B4 hb4
  have k1 := hide (Bk.new Z64_ag w5 48)
  go_wp2_with (first | (with_reducible refine wpList_run rfl (exec_alloc T48 rfl) ?_) | (with_reducible refine wpList_store T48 rfl (.tmp 5) (.tmp 22) rfl w5.heap.size 0 rfl (agOf 0 64 gA) rfl z0 (k1.out.isSome (by omega)) (k1.out.free (by omega)) A0.out.one ?_))
  intro w6 hs
  have K6 := hide ((k1.out.set hs A0.out).congr (g := gA) (fun j hj => by rw [if_pos (by omega), Nat.sub_zero]))
  have hb56 := hide (((Below.refl w5.heap.size w5).alloc (Nat.le_refl _) (.cells Z64 48)).trans (hs.below (Nat.le_refl _)))
  have hs6 : w6.heap.size = w5.heap.size + 1 := by rw [hs.size]; simp
  have M1 := hide (J1.out.below hb56.out (Nat.le_refl _))
  have M2 := hide (J2.out.below hb56.out (Nat.le_refl _))
  have B7 := hide (B5.out.below hb56.out (by omega))
  have B8 := hide (B6.out.below hb56.out (by omega))
  have hb6 := hide (hb5.out.trans (hb56.out.mono (by omega)))
  clear hs k1 J1 J2 B5 B6 hb5 hb56
  obtain ⟨p3, hp3⟩ : ∃ p3, p3 = w5.heap.size := ⟨_, rfl⟩
  rw [← hp3] at K6 hs5 hs6 ⊢
  clear hp3
  have Hs6 := hide hs6
  clear hs6
  go_wp2_with fail
  refine (tiles_any 5 4 _ (by decide) (by decide) (by decide) (by decide)).mono ?_
  rintro e w' ⟨rfl, rfl⟩
  rw [a_tiles]
  have E1 : ∀ w, (binOp .eql 38 (.agg #[.int .i64 255, .int .i64 2, .int .i64 0, .int .i64 4]) (.agg #[.int .i64 255, .int .i64 2, .int .i64 0, .int .i64 4])).run Try.prog w = .ok (.bool true) w := fun w => by rw [eq38' tB_ag tB_ag, a_bb]
  have E0 : ∀ w, (binOp .eql 38 (.agg #[.int .i64 0, .int .i64 0, .int .i64 0, .int .i64 0]) (.agg #[.int .i64 0, .int .i64 0, .int .i64 0, .int .i64 0])).run Try.prog w = .ok (.bool true) w := fun w => by rw [eq38' z4_ag z4_ag, a_zz]
  have eg := eg38
  have c0 := (K6.out 0 (by omega)).1
  have c1 := (K6.out 1 (by omega)).1
  have c2 := (K6.out 2 (by omega)).1
  have c3 := (K6.out 3 (by omega)).1
  have c32 := (K6.out 32 (by omega)).1
  have c33 := (K6.out 33 (by omega)).1
  have c34 := (K6.out 34 (by omega)).1
  have c35 := (K6.out 35 (by omega)).1
  have c44 := (K6.out 44 (by omega)).1
  have c45 := (K6.out 45 (by omega)).1
  have c46 := (K6.out 46 (by omega)).1
  have c47 := (K6.out 47 (by omega)).1
  rw [a_0] at c0
  rw [a_1] at c1
  rw [a_2] at c2
  rw [a_3] at c3
  rw [a_32] at c32
  rw [a_33] at c33
  rw [a_34] at c34
  rw [a_35] at c35
  rw [a_44] at c44
  rw [a_45] at c45
  rw [a_46] at c46
  rw [a_47] at c47
  obtain ⟨⟨k0, k1, k2⟩, _⟩ := B7.out.c3
  obtain ⟨⟨l0, l1, l2⟩, _⟩ := B8.out.c3
  go_wp2_with fail
  clear c0 c1 c2 c3 c32 c33 c34 c35 c44 c45 c46 c47 E0 E1 k0 k1 k2 l0 l1 l2
  refine (right_any 5 4 ao 80 cap w6).mono ?_
  rintro e w7 ⟨rfl, hb⟩
  rw [a_right]
  have K7 := hide (K6.out.below hb (by have := Hs6.out; omega))
  have N1 := hide (M1.out.below hb (Nat.le_refl _))
  have N2 := hide (M2.out.below hb (Nat.le_refl _))
  have C1 := hide (B7.out.below hb (by have := Hs6.out; omega))
  have C2 := hide (B8.out.below hb (by have := Hs6.out; omega))
  have hb7 := hide (hb6.out.trans (hb.mono (by have := Hs6.out; omega)))
  have hs7 : p3 < w7.heap.size := by have := Hs6.out; have := hb.size; omega
  clear hb K6 M1 M2 B7 B8 hb6 Hs6
  go_wp2_with (with_reducible refine wpList_run (by kernel_rfl) (exec_build T48 rfl) ?_)
  refine (flat_zero w7).mono ?_
  rintro e w8 ⟨rfl, hb⟩
  have K8 := hide (K7.out.below hb (by omega))
  have O1 := hide (N1.out.below hb (Nat.le_refl _))
  have O2 := hide (N2.out.below hb (Nat.le_refl _))
  have D1 := hide (C1.out.below hb (by omega))
  have D2 := hide (C2.out.below hb (by omega))
  have hb8 := hide (hb7.out.trans (hb.mono (by omega)))
  have hs8 : p3 < w8.heap.size := by have := hb.size; omega
  clear hb K7 N1 N2 C1 C2 hb7 hs7
  go_wp2_with (with_reducible refine wpList_run (by kernel_rfl) (exec_load T48 (.tmp 5) rfl ⟨p3, 0, none⟩ rfl (agOf 0 64 gA) z0 (K8.out.load (by omega))) ?_)
  refine (flat_any gA w8).mono ?_
  rintro e w9 ⟨rfl, hb⟩
  rw [a_flat]
  have P1 := hide (O1.out.below hb (Nat.le_refl _))
  have P2 := hide (O2.out.below hb (Nat.le_refl _))
  have F1 := hide (D1.out.below hb (by omega))
  have F2 := hide (D2.out.below hb (by omega))
  have hb9 := hide (hb8.out.trans (hb.mono (by omega)))
  have hs9 : p3 < w9.heap.size := by have := hb.size; omega
  clear hb K8 O1 O2 D1 D2 hb8 hs8
  obtain ⟨⟨k0, k1, k2⟩, _⟩ := F1.out.c3
  go_wp2_with fail
  refine (isame_any P1.out P1.out).mono ?_
  rintro e w10 ⟨rfl, hb⟩
  rw [sameV_refl]
  have R1 := hide (P1.out.below hb (Nat.le_refl _))
  have R2 := hide (P2.out.below hb (Nat.le_refl _))
  have hb10 := hide (hb9.out.trans (hb.mono (by omega)))
  have G1 := hide (F1.out.below hb (by omega))
  have G2 := hide (F2.out.below hb (by omega))
  have hs10 : p3 < w10.heap.size := by have := hb.size; omega
  clear hb P1 P2 F1 F2 hb9 hs9 k0 k1 k2
  obtain ⟨⟨k0, k1, k2⟩, _⟩ := G1.out.c3
  obtain ⟨⟨l0, l1, l2⟩, _⟩ := G2.out.c3
  go_wp2_with fail
  refine (isame_any R1.out R2.out).mono ?_
  rintro e w11 ⟨rfl, hb⟩
  rw [a_same]
  have hb11 := hide (hb10.out.trans (hb.mono (by omega)))
  clear hb
  go_wp2_with fail
  go_ret
  exact ⟨rfl, hb11.out⟩
end Go.Proofs.Ytmckfppemhnhmaa
