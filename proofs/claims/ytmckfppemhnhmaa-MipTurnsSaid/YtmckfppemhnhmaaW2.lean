import Derived.Test.YtmckfppemhnhmaaW
namespace Go.Proofs.Ytmckfppemhnhmaa
open Go.RowKit

theorem wpStill_run {P : Program} {ops : Array Oper} {w : World} {Q : Act → Prop} {o : Oper} {rest : List Oper} {a : Act} {v : Value} (hw : Region.wanted o (yielded ops a.tmps) = true)
    (hr : (execOp a.eval o).run P w = .ok (.value v) w) (h : wpStill P ops w Q rest (a.put o.dst v)) : wpStill P ops w Q (o :: rest) a := by
  refine wpStill_step (fun K hK => ?_)
  rw [if_pos hw]
  unfold Oper.still
  rw [hr]
  exact ⟨rfl, hK _ h⟩
attribute [local irreducible] agOf
set_option maxRecDepth 100000 in
set_option maxHeartbeats 1000000 in
theorem iwhole_ok {W H : Int} {v : Value} {m : Nat} {T : Nat → Nat → Int} {w : World} (hv : Tl w v m T) (hs : sizedV W H = true) (hm : (m : Int) = (tilesV W H).1 * (tilesV W H).2) :
    Calls Try.prog 32 #[.int .i64 W, .int .i64 H, v] w (wholeP W H m T w) := by
  obtain ⟨ao, cap, rfl, hm63, hc⟩ := hv
  have HC := hide hc
  unfold wholeP wholeOk
  rw [hs, decide_eq_true hm]
  simp only [Bool.and_true]
  have h' := hs
  unfold sizedV at h'
  simp at h'
  have ha := area_bd h'
  have hN : (((4 * W * H).toNat : Nat) : Int) = 4 * W * H := by omega
  have HS := hide hs
  obtain ⟨a, b, hab, ha1, hb1, ha4, hb4⟩ : ∃ a b : Int, tilesV W H = (a, b) ∧ (1 ≤ a ∧ a ≤ 1024) ∧ (1 ≤ b ∧ b ≤ 1024) ∧ a = (W - 1) / 4 + 1 ∧ b = (H - 1) / 4 + 1 :=
    ⟨(W - 1) / 4 + 1, (H - 1) / 4 + 1, by unfold tilesV; rw [if_neg (by omega)], by omega, by omega, rfl, rfl⟩
  rw [hab] at hm
  replace hm : (m : Int) = a * b := hm
  have hWb : 1 ≤ W ∧ 1 ≤ H ∧ W ≤ 4096 ∧ H ≤ 4096 := h'
  have e1 : ((m : Int) == a * b) = true := by simpa using hm
  have hw := mul_bd (x := a) (y := b) (X := 1024) (Y := 1024) (by omega) (by omega) (by omega) (by omega)
  have w1' : wrap64 (a * b) = a * b := wrap_in (by omega)
  have e2 : ((m : Int) != a * b) = false := by simpa using hm
  have HAB := hide hab
  have HM := hide hm
  have HA4 := hide ha4
  have HB4 := hide hb4
  have hn0 : 0 < (4 * W * H).toNat := by
    have := Int.mul_pos (show 0 < 4 * W by omega) (show 0 < H by omega)
    omega
  have hr : rightV W H (4 * W * H).toNat = true := by unfold rightV; simp; exact ⟨by omega, by omega⟩
  generalize (4 * W * H).toNat = n at *
  have hn63 : n ≤ 67108864 := by omega
  have HN := hide hN
  have HR := hide hr
  have hmb : m ≤ 1048576 := by omega
  clear hs hm h' ha hab hw hN hr hc ha4 hb4
  go_enter Try.func32, Try.ntmps32
  go_wp2_with fail
  refine (new_ok W H n _ HS.out HN.out).mono ?_
  rintro e w1 ⟨g, rfl, hg, hcl, hb⟩
  have BR := hide (Box.below (b := w.heap.size) (cs := #[.int .i64 0, .int .i64 0, .slice none 0 0]) (by (repeat' (first | (refine Box.mk' ?_; simp; done) | (refine Box.old ?_ ?_; rotate_left; (simp <;> omega))))) hb (by simp))
  have hbw1 := hide (Below.trans (by (repeat' (first | exact Below.refl _ _ | assumption | refine Below.setCell ?_ (by simp <;> omega) _ | refine Below.alloc ?_ (by simp <;> omega) _))) (hb.mono (by simp)) : Below w.heap.size w w1)
  have hs1 : w.heap.size < w1.heap.size := by have := hb.size; simp at this; omega
  have hg1 : w.heap.size + 1 ≤ g := by simpa using hg
  have hgl : g < w1.heap.size := World.block_lt_of_cell? w1 _ (hcl 0 hn0).1
  have HCL := hide hcl
  clear hb hcl hg
  go_upto_region 2 with (fail)
  generalize hw2 : w1.alloc (.cells #[.int .i64 W, .int .i64 H, .slice (some ⟨g, 0, none⟩) n n] 24) = w2
  have BR2 := hide (show Box w2 w.heap.size _ by rw [← hw2]; exact BR.out.old hs1)
  have BM2 := hide (show Box w2 w1.heap.size #[.int .i64 W, .int .i64 H, .slice (some ⟨g, 0, none⟩) n n] by rw [← hw2]; (repeat' (first | (refine Box.mk' ?_; simp; done) | (refine Box.old ?_ ?_; rotate_left; (simp <;> omega)))))
  have hb2 := hide (show Below w.heap.size w w2 by rw [← hw2]; exact hbw1.out.alloc (by omega) _)
  have HC2 := hide (show Cl w2 g 0 n (fun _ => 0) by rw [← hw2]; exact HCL.out.alloc hgl _)
  have s2 : w2.heap.size = w1.heap.size + 1 := by rw [← hw2]; simp
  clear hw2 BR hbw1 HCL
  obtain ⟨p, hp⟩ : ∃ p, p = w1.heap.size := ⟨_, rfl⟩
  rw [← hp] at BM2 s2 hs1 hgl ⊢
  have S2 := hide s2
  clear hp s2
  go_wp2_with fail
  refine (tiles_any W H _ (by omega) (by omega) (by omega) (by omega)).mono ?_
  rintro e w' ⟨rfl, rfl⟩
  rw [HAB.out]
  go_wp2_with fail
  clear w1' e1 e2
  go_loopw [39] (fun i wr => ∃ k : Nat, k ≤ m ∧ i = .int .i64 k ∧ Cl wr g 0 n (wholeK W H T k) ∧ But g w2 wr) (fun i _ => m - (intOf i).toNat)
  case atStart => exact ⟨0, by omega, rfl, HC2.out, But.refl _ _⟩
  case round =>
    obtain ⟨k, hk, rfl, hcl, hbut⟩ := hrel
    have HK := hide hcl
    have HU := hide hbut
    have BM3 := hide (BM2.out.but hbut (by omega) (by have := S2.out; omega))
    have BR3 := hide (BR2.out.but hbut (by omega) (by have := S2.out; omega))
    have hb3 := hide (hb2.out.trans (hbut.below (B := w.heap.size) (by omega) (by have := S2.out; omega)))
    have sr : p + 1 ≤ wr.heap.size := by have := hbut.size; have := S2.out; omega
    clear hcl hbut
    by_cases hlt : k < m
    · obtain ⟨tb, toff, rfl, hcc⟩ := HC.out (by omega)
      have TK := hide (show Bk wr tb 0 (fun _ => 0) from fun i hi => by omega)
      have hload := hide (show ∀ j v, (agOf 0 64 (T k))[j]? = some v → wr.cell? ((⟨tb, toff + k * 64, none⟩ : Addr).add j) = some v by
        intro j v hv
        by_cases hj : j < 64
        · rw [(agOf_ag0 64 (T k)).2 j hj] at hv
          have h1 := hcc k j hlt hj
          rw [Addr.add_lit, hb3.out.cell (World.block_lt_of_cell? w _ h1), h1]
          exact hv
        · rw [Array.getElem?_eq_none (by rw [(agOf_ag0 64 (T k)).1]; omega)] at hv
          cases hv)
      have A0 := hide (agOf_ag0 64 (T k))
      have z0 := A0.out.1
      clear hcc
      have k1 := hide (Bk.new Z64_ag wr 48)
      go_wp2_with (first | (with_reducible refine wpList_run rfl (exec_load T48 (.tmp 42) rfl ⟨tb, toff + k * 64, none⟩ rfl (agOf 0 64 (T k)) z0 hload.out) ?_) | (with_reducible refine wpList_run rfl (exec_alloc T48 rfl) ?_) | (with_reducible refine wpList_store T48 rfl (.tmp 13) (.tmp 43) rfl wr.heap.size 0 rfl (agOf 0 64 (T k)) rfl z0 (k1.out.isSome (by omega)) (k1.out.free (by omega)) A0.out.one ?_))
      intro w6 hs
      have K6 := hide ((k1.out.set hs A0.out).congr (g := T k) (fun j hj => by rw [if_pos (by omega), Nat.sub_zero]))
      have hal := ((Below.refl wr.heap.size wr).alloc (Nat.le_refl _) (.cells Z64 48)).trans (hs.below (Nat.le_refl _))
      have s6 : w6.heap.size = wr.heap.size + 1 := by rw [hs.size]; simp
      have BM6 := hide (BM3.out.below hal (by omega))
      have HU6 := hide (HU.out.trans (But.of_below hal (Nat.le_refl _)))
      have HK6 := hide (HK.out.below hal (by omega))
      clear hs hal k1 hload
      generalize wr.heap.size = pt at *
      obtain ⟨m0, m1, m2⟩ := BM6.out.c3.1
      go_wp2_with fail
      have ea2 : ¬ a = 0 := by omega
      have q1 : 0 ≤ (k : Int) / a := Int.ediv_nonneg (by omega) (by omega)
      have q2 : (k : Int) / a < b := Int.ediv_lt_of_lt_mul (by omega) (by rw [Int.mul_comm, ← HM.out]; omega)
      have q3 : 0 ≤ (k : Int) % a := Int.emod_nonneg _ ea2
      have q4 : (k : Int) % a < a := Int.emod_lt_of_pos _ (by omega)
      have w5' : wrap64 ((k : Int) / a) = (k : Int) / a := wrap_in (by omega)
      refine wp_region_still_tail 8 (by kernel_rfl) (by kernel_rfl) ?_
      simp only [List.take_succ_cons, List.take_zero, List.drop_succ_cons, List.drop_zero]
      repeat (first | still_step | (refine wpStill_run (by kernel_rfl) (exec_load T48 (.tmp 13) rfl ⟨pt, 0, none⟩ rfl (agOf 0 64 (T k)) z0 (K6.out.load (by omega))) ?_))
      refine wpStill_nil ?_
      change wpList _ _ _ _ _ w6.drew
      go_wp2_with fail
      refine (lay_any (f := wholeK W H T k) (t := T k) HR.out ⟨q3, by omega⟩ ⟨q1, by omega⟩ (show Cl w6.drew g 0 n _ from HK6.out) (show g < w6.heap.size by omega)).mono ?_
      rintro e w7 ⟨rfl, hcl, hbut⟩
      have HK7 := hide (show Cl w7 g 0 n (wholeK W H T (k + 1)) by rw [wholeK, HAB.out]; exact hcl)
      have HU7 := hide (HU6.out.drew.trans hbut)
      clear hcl hbut m0 m1 m2
      go_wp2_with fail
      go_roundw
      case rel => exact ⟨k + 1, by omega, by go_num, HK7.out, HU7.out⟩
      case measure => simp [intOf]; omega
    · obtain rfl : k = m := by omega
      obtain ⟨⟨k0, k1, k2⟩, kf0, kf1, kf2⟩ := BM3.out.c3
      obtain ⟨⟨l0, l1, l2⟩, lf0, lf1, lf2⟩ := BR3.out.c3
      go_wp2_with fail
      refine bodyPost_ret (v := .tuple #[.agg #[.int .i64 W, .int .i64 H, .slice (some ⟨g, 0, none⟩) n n], .int .i64 0]) (by simp [results, Try.results32, go_sem, World.cell?_setCell_same', l0, l1, l2]) rfl ⟨_, rfl, ?_, ?_⟩
      · exact ⟨_, _, rfl, Rd.of_cl (f := wholeK W H T k) (((HK.out.other (by simp; omega)).other (by simp; omega)).other (by simp; omega)) (show n ≤ 9223372036854775807 by omega) (wholeK_bd W H T k), by omega, by omega⟩
      · have hbw := hb3.out
        (repeat' (first | exact Below.refl _ _ | assumption | refine Below.setCell ?_ (by simp <;> omega) _ | refine Below.alloc ?_ (by simp <;> omega) _))
end Go.Proofs.Ytmckfppemhnhmaa
