import Derived.Test.YtmckfppemhnhmaaMF
namespace Go.Proofs.Ytmckfppemhnhmaa
open Go.RowKit

theorem rhalf_no {W H : Int} {n : Nat} {f : Nat → Int} {v : Value} {w : World} (hv : Im w v W H n f) (hr : rightV W H n = false) : Calls Try.prog 13 #[v] w (halfP W H n f w) := by
  obtain ⟨ao, cap, rfl, _, _, _⟩ := hv
  unfold halfP
  rw [hr]
  have HR := hide hr
  clear hr
  go_enter Try.func13, Try.ntmps13
  go_wp2_with fail
  refine (rright_any W H ao n cap _).mono ?_
  rintro e w1 ⟨rfl, hb⟩
  rw [HR.out]
  have BR := hide (Box.below (b := w.heap.size + 1) (cs := #[.int .i64 0, .int .i64 0, .slice none 0 0]) (by (repeat' (first | (refine Box.mk' ?_; simp; done) | (refine Box.old ?_ ?_; rotate_left; (simp <;> omega))))) hb (by simp))
  have hb1 := hide (Below.trans (by (repeat' (first | exact Below.refl _ _ | assumption | refine Below.setCell ?_ (by simp <;> omega) _ | refine Below.alloc ?_ (by simp <;> omega) _))) (hb.mono (by simp; omega)) : Below w.heap.size w w1)
  clear hb
  obtain ⟨⟨l0, l1, l2⟩, lf0, lf1, lf2⟩ := BR.out.c3
  go_wp2_with fail
  refine bodyPost_ret (v := .tuple #[.agg #[.int .i64 0, .int .i64 0, .slice none 0 0], .int .i64 1]) (by simp [results, Try.results13, go_sem, World.cell?_setCell_same', l0, l1, l2]) rfl ⟨_, rfl, Out.nil _ _ _ _ _, ?_⟩
  have hbw := hb1.out
  (repeat' (first | exact Below.refl _ _ | assumption | refine Below.setCell ?_ (by simp <;> omega) _ | refine Below.alloc ?_ (by simp <;> omega) _))

set_option maxRecDepth 100000 in
set_option maxHeartbeats 1600000 in
theorem rhalf_cl {W H : Int} {n : Nat} {f : Nat → Int} {v : Value} {w : World} (hv : Im w v W H n f) (hr : rightV W H n = true) : Calls Try.prog 13 #[v] w (halfC W H f w) := by
  have HV := hide hv
  obtain ⟨ao, cap, rfl, hrd, hW, hH⟩ := hv
  have hf : ∀ i, 0 ≤ f i ∧ f i ≤ 255 := by obtain ⟨_, _, _, _, hf, _⟩ := hrd; exact hf
  have HF := hide hf
  unfold halfC
  have HR := hide hr
  have hws : 1 ≤ W ∧ 1 ≤ H ∧ W ≤ 4096 ∧ H ≤ 4096 := by unfold rightV at hr; simp at hr; omega
  obtain ⟨a, ha⟩ : ∃ a : Nat, halfV W = (a : Int) := ⟨(halfV W).toNat, by have := halfV_pos W; omega⟩
  obtain ⟨b, hb'⟩ : ∃ b : Nat, halfV H = (b : Int) := ⟨(halfV H).toNat, by have := halfV_pos H; omega⟩
  have ha1 : 1 ≤ a ∧ a ≤ 4096 := by have := halfV_pos W; have := halfV_le hws.1; omega
  have hb1' : 1 ≤ b ∧ b ≤ 4096 := by have := halfV_pos H; have := halfV_le hws.2.1; omega
  have hN : (4 * (a : Int) * (b : Int)).toNat = 4 * (b * a) := by
    rw [Int.mul_assoc, Int.mul_comm (a : Int)]
    have : (4 * ((b : Int) * (a : Int))) = ((4 * (b * a) : Nat) : Int) := by push_cast; rfl
    rw [this, Int.toNat_natCast]
  rw [ha, hb', hN]
  have HA := hide ha
  have HB' := hide hb'
  have HSA := hide (show sideV W 1 = (a : Int) by unfold sideV; rw [if_neg (by omega)]; exact ha)
  have HSB := hide (show sideV H 1 = (b : Int) by unfold sideV; rw [if_neg (by omega)]; exact hb')
  have hKb : ∀ y, y ≤ b → y * a ≤ 16777216 := fun y hy => by
    have := Nat.mul_le_mul (show y ≤ 4096 by omega) ha1.2
    omega
  have HKB := hide hKb
  obtain ⟨i0, hi0, hz0, hz1, hz2⟩ := info_parts Try.info5
  have HI := hide (And.intro hi0 (And.intro hz0 (And.intro hz1 hz2)))
  clear hrd hf hr ha hb' hN hKb hi0 hz0 hz1 hz2
  go_enter Try.func13, Try.ntmps13
  go_wp2_with fail
  refine (rright_any W H ao n cap _).mono ?_
  rintro e w1 ⟨rfl, hb⟩
  rw [HR.out]
  have BI := hide (Box.below (b := w.heap.size) (cs := #[.int .i64 W, .int .i64 H, .slice ao n cap]) (by (repeat' (first | (refine Box.mk' ?_; simp; done) | (refine Box.old ?_ ?_; rotate_left; (simp <;> omega))))) hb (by simp; omega))
  have BR := hide (Box.below (b := w.heap.size + 1) (cs := #[.int .i64 0, .int .i64 0, .slice none 0 0]) (by (repeat' (first | (refine Box.mk' ?_; simp; done) | (refine Box.old ?_ ?_; rotate_left; (simp <;> omega))))) hb (by simp))
  have hb1 := hide (Below.trans (by (repeat' (first | exact Below.refl _ _ | assumption | refine Below.setCell ?_ (by simp <;> omega) _ | refine Below.alloc ?_ (by simp <;> omega) _))) (hb.mono (by simp; omega)) : Below w.heap.size w w1)
  have hs1 : w.heap.size + 2 ≤ w1.heap.size := by have := hb.size; simp at this; omega
  clear hb
  obtain ⟨⟨k0, k1, k2⟩, _⟩ := BI.out.c3
  have n0 := World.new_ne w1 _ k0
  have n1 := World.new_ne w1 _ k1
  go_upto_region 3 with (fail)
  go_cut [4] from 16 to 22 (fun s4 wx => s4 = .pointer (some ⟨w1.heap.size, 0, none⟩) ∧ Box wx w1.heap.size #[.int .i64 a, .int .i64 b, .slice none 0 0] ∧ Below w1.heap.size w1 wx)
  case first =>
    go_region_held3 (fun w' => w'.cell? ⟨w.heap.size, 0, none⟩ = some (.int .i64 W) ∧ w'.cell? ⟨w.heap.size, 1, none⟩ = some (.int .i64 H)) (go_keep)
      (first
        | (go_at_call_of 20 (Value.int .i64 W); refine (rside_any W 1 _ hW.2 (by omega)).mono ?_; rintro e w' ⟨rfl, rfl⟩; rw [HSA.out])
        | (go_at_call_of 20 (Value.int .i64 H); refine (rside_any H 1 _ hH.2 (by omega)).mono ?_; rintro e w' ⟨rfl, rfl⟩; rw [HSB.out]))
    all_goals (go_wp2_with fail; go_meet)
    all_goals exact ⟨rfl, Box.mk' rfl, ((Below.refl _ w1).alloc (Nat.le_refl _) _).drew⟩
  case rest =>
    obtain ⟨rfl, hbo, hbc⟩ := hcut
    have BO := hide hbo
    have BR2 := hide (BR.out.below hbc (by omega))
    have BI2 := hide (BI.out.below hbc (by omega))
    have hb2 := hide (hb1.out.trans (hbc.mono (by omega)))
    have hpo : w1.heap.size < wc.heap.size := hbo.lt (by simp)
    clear hbo hbc k0 k1 k2 n0 n1 BI BR hb1
    generalize w1.heap.size = po at *
    obtain ⟨⟨m0, m1, m2⟩, _⟩ := BO.out.c3
    go_wp2_with fail
    clear m0 m1 m2
    go_loopw [5] (fun y' wr => ∃ (y : Nat) (u : Value), y ≤ b ∧ y' = .int .i64 y ∧ OwnB wr (po + 1) u (4 * (y * a)) (halfF W H f) ∧ Box wr po #[.int .i64 a, .int .i64 b, u] ∧ Below po wc wr ∧ po < wr.heap.size) (fun y' _ => b - (intOf y').toNat)
    case atStart => exact ⟨0, _, by omega, rfl, by rw [Nat.zero_mul, Nat.mul_zero]; exact World.ownsRow_nil _ _ _ _, BO.out, Below.refl _ _, hpo⟩
    case round =>
      obtain ⟨y, u, hyb, rfl, hown, hbx, hbw, hpr⟩ := hrel
      have HO := hide hown
      have BX := hide hbx
      have HB := hide hbw
      have hK := HKB.out y hyb
      have hK1 : y < b → y * a + a ≤ 16777216 := fun h => by have := HKB.out (y + 1) h; rw [Nat.add_mul, Nat.one_mul] at this; exact this
      obtain ⟨q, hq⟩ : ∃ q, q = y * a := ⟨_, rfl⟩
      rw [← hq] at HO hK hK1
      have HQ := hide hq
      clear hown hbx hbw hq
      by_cases hlt : y < b
      · have dy : decide (y < b) = true := by simpa using hlt
        have hKa := hK1 hlt
        clear hK1
        obtain ⟨⟨m0, m1, m2⟩, _⟩ := BX.out.c3
        go_wp2_with fail
        clear m0 m1 m2
        go_loopw [6] (fun x' wq => ∃ (x : Nat) (u : Value), x ≤ a ∧ x' = .int .i64 x ∧ OwnB wq (po + 1) u (4 * (q + x)) (halfF W H f) ∧ Box wq po #[.int .i64 a, .int .i64 b, u] ∧ Below po wc wq ∧ po < wq.heap.size) (fun x' _ => a - (intOf x').toNat)
        case atStart => exact ⟨0, u, by omega, rfl, HO.out, BX.out, HB.out, hpr⟩
        case round =>
          obtain ⟨x, u, hxa, rfl, hown, hbx, hbw, hpr⟩ := hrel
          have HO2 := hide hown
          have BX2 := hide hbx
          have HB2 := hide hbw
          clear hown hbx hbw
          by_cases hltx : x < a
          · have dx : decide (x < a) = true := by simpa using hltx
            have hHF := hide (show ∀ c, c < 4 → halfF W H f (4 * (q + x) + c) = meanV W H f x y c from fun c hc => by rw [HQ.out]; exact halfF_at HA.out hltx hc)
            have hMB := hide (show ∀ c, 0 ≤ meanV W H f x y c ∧ meanV W H f x y c ≤ 255 from fun c => meanV_bd HF.out _ _ _)
            have hx4 : x ≤ 4096 := by omega
            have hy4 : y ≤ 4096 := by omega
            obtain ⟨⟨m0, m1, m2⟩, _⟩ := BX2.out.c3
            go_wp2_with fail
            clear m0 m1 m2
            go_loopw [7] (fun c' wz => ∃ (c : Nat) (u : Value), c ≤ 4 ∧ c' = .int .i64 c ∧ OwnB wz (po + 1) u (4 * (q + x) + c) (halfF W H f) ∧ Box wz po #[.int .i64 a, .int .i64 b, u] ∧ Below po wc wz ∧ po < wz.heap.size) (fun c' _ => 4 - (intOf c').toNat)
            case atStart => exact ⟨0, u, by omega, rfl, HO2.out, BX2.out, HB2.out, hpr⟩
            case round =>
              obtain ⟨c, u, hc4, rfl, hown, hbx, hbw, hpr⟩ := hrel
              have HO6 := hide hown
              have BX6 := hide hbx
              have HB6 := hide hbw
              clear hown hbx hbw
              by_cases hltc : c < 4
              · have dc : decide ((c : Int) < 4) = true := by simp; omega
                go_wp2_with fail
                obtain ⟨wo, hwo⟩ : ∃ wo : World, wo = wr := ⟨_, rfl⟩
                subst hwo
                go_loopw [8, 9] (fun s k' wv => ∃ k : Nat, k ≤ 4 ∧ k' = .int .i64 k ∧ s = .int .i64 (sumK W H f x y k c) ∧ Below wo.heap.size wo wv) (fun _ k' _ => 4 - (intOf k').toNat)
                case atStart => exact ⟨0, by omega, rfl, rfl, Below.refl _ _⟩
                case round =>
                  obtain ⟨k, hk, rfl, rfl, hbe⟩ := hrel
                  have HE := hide hbe
                  have BIv := hide ((BI2.out.below HB6.out (by omega)).below hbe (by omega))
                  clear hbe
                  by_cases hltk : k < 4
                  · obtain ⟨⟨k0, k1, k2⟩, _⟩ := BIv.out.c3
                    have dk : decide ((k : Int) < 4) = true := by simp; omega
                    go_upto_region 17 with (fail)
                    clear dk
                    obtain ⟨sv, hsv⟩ : ∃ sv, sv = sumK W H f x y k c := ⟨_, rfl⟩
                    rw [← hsv]
                    have HSV := hide hsv
                    have hsb : 2 ≤ sv ∧ sv ≤ 2000 := by have := sumK_bd HF.out x y c (W := W) (H := H) k; omega
                    clear hsv
                    go_cut [10, 11] from 43 to 65 (fun s10 s11 wx => ∃ pu : Nat, s10 = .pointer (some ⟨pu, 0, none⟩) ∧ s11 = .int .i64 0 ∧ Box wx pu (four (cornV W H f x y k)) ∧ Below wo.heap.size wo wx ∧ pu < wx.heap.size)
                    case first =>
                      go_wp2_with fail
                      all_goals (
                        refine (rat_any _ _ (HV.out.below ((hb2.out.trans (HB6.out.mono (by omega))).trans (HE.out.mono (by have := HB6.out.size; omega))) (Nat.le_refl _)) (by omega) (by omega)).mono ?_
                        rintro e w8 ⟨rfl, hb⟩
                        generalize hA : atV W H _ _ n f = A
                        have hA2 : A = (texV f (nearO W H (2 * x + (k : Int) % 2) (2 * y + (k : Int) / 2)), 0) := by rw [← hA]; exact near_at HR.out (by omega) (by omega) (by omega) (by omega)
                        clear hA
                        subst hA2
                        unfold texV
                        have HB8 := hide (HE.out.trans (hb.mono HE.out.size))
                        clear hb k0 k1 k2
                        go_wp2_with fail
                        go_meet
                        exact ⟨w8.heap.size, rfl, rfl, Box.mk' rfl, HB8.out.alloc HB8.out.size _, by simp⟩)
                    case rest =>
                      obtain ⟨pu, rfl, rfl, hbu, hbc, hpu⟩ := hcut
                      have HBC := hide hbc
                      have u0 := (hbu c _ (four_at _ c hltc)).1
                      have hcI : (c : Int) < 4 := by omega
                      have hsn := hide (show sumK W H f x y (k + 1) c = sv + cornV W H f x y k c by rw [HSV.out]; rfl)
                      have hcb : 0 ≤ cornV W H f x y k c ∧ cornV W H f x y k c ≤ 255 := HF.out _
                      generalize cornV W H f x y k c = cv at *
                      clear hbu hbc k0 k1 k2
                      go_wp2_with fail
                      exact ⟨⟨k + 1, by omega, by go_num, by rw [hsn.out], HBC.out⟩, by simp [intOf]; omega⟩
                  · obtain rfl : k = 4 := by omega
                    have HOv := hide (HO6.out.below HE.out)
                    have BXv := hide (BX6.out.below HE.out hpr)
                    have HBv := hide (HB6.out.trans (HE.out.mono (by omega)))
                    have hpv : po < wr.heap.size := by have := HE.out.size; omega
                    obtain ⟨sv, hsv⟩ : ∃ sv, sv = sumK W H f x y 4 c := ⟨_, rfl⟩
                    have HZ := hide (show sv / 4 = halfF W H f (4 * (q + x) + c) by rw [hHF.out c hltc, hsv]; rfl)
                    have hsb : 2 ≤ sv ∧ sv ≤ 1022 := by have := sumK_bd HF.out x y c (W := W) (H := H) 4; omega
                    rw [← hsv]
                    clear hsv BIv
                    obtain ⟨⟨m0, m1, m2⟩, mf0, mf1, mf2⟩ := BXv.out.c3
                    go_wp2_with (at_builtin; refine wpList_append_lies _ rfl _ _ 22 rfl (po + 1) 5 i0 (.int .u8 0) 1 1 Try.underlying22 HI.out.1 HI.out.2.1 HI.out.2.2.1 HI.out.2.2.2 rfl (by decide) u (4 * (q + x) + c) _ (by rfl) (World.ownsRow.alloc HOv.out _) ⟨wr.heap.size, 0, none⟩ 1 1 [.int .u8 (sv / 4)] (by rfl) rfl ?c1 (by simp [Value.oneCell']) (by omega) (by unfold maxLen; omega) (by omega) (by simp; omega) _ rfl ?_)
                    case c1 => exact World.news_of_block (cs := #[.int .u8 (sv / 4)]) (t := 5) (fr := (0, 0)) (heap_alloc_new wr _)
                    intro g cap' w6 hown hgrow hat hlt6
                    have HO7 := hide (OwnB.snoc HZ.out hown)
                    have hgB : po + 1 ≤ g := (World.ownsRow.lt hown g rfl).1
                    have hal := (((Below.refl (po + 1) wr).alloc (by omega) (.cells #[.int .u8 (sv / 4)] 5)).grown hgrow (by simp; omega) (fun k e => (World.ownsRow.lt HOv.out k e).1))
                    have BX7 := hide (BXv.out.below hal (by omega))
                    have HB7 := hide (HBv.out.trans (hal.mono (by omega)))
                    have hp7 : po < w6.heap.size := by have := hal.size; omega
                    clear hown hgrow hat hlt6 hal m0 m1 m2 mf0 mf1 mf2
                    obtain ⟨⟨m0, m1, m2⟩, mf0, mf1, mf2⟩ := BX7.out.c3
                    go_wp2_with fail
                    refine ⟨⟨c + 1, .slice (some ⟨g, 0, none⟩) (4 * (q + x) + c + 1) cap', by omega, by go_num, ?_, ?_, HB7.out.setCell (Nat.le_refl _) _, by simpa [World.setCell] using hp7⟩, by simp [intOf]; omega⟩
                    · exact ownsRow_setCell_below HO7.out (by simp) _
                    · have := BX7.out.set (k := 2) (.slice (some ⟨g, 0, none⟩) (4 * (q + x) + c + 1) cap') (by simp)
                      simpa using this
              · obtain rfl : c = 4 := by omega
                go_wp2_with fail
                exact ⟨⟨x + 1, u, by omega, by go_num, by rw [show 4 * (q + (x + 1)) = 4 * (q + x) + 4 by omega]; exact HO6.out, BX6.out, HB6.out, hpr⟩, by simp [intOf]; omega⟩
          · obtain rfl : x = a := by omega
            obtain ⟨⟨m0, m1, m2⟩, _⟩ := BX2.out.c3
            go_wp2_with fail
            exact ⟨⟨y + 1, u, by omega, by go_num, by rw [Nat.add_mul, Nat.one_mul, ← HQ.out]; exact HO2.out, BX2.out, HB2.out, hpr⟩, by simp [intOf]; omega⟩
      · obtain rfl : y = b := by omega
        have hq1 : 0 < q := by rw [HQ.out]; exact Nat.mul_pos (by omega) (by omega)
        have hown := HO.out
        rw [show 4 * q = 4 * (y * a) by rw [HQ.out]] at hown
        obtain ⟨g, cap', hu, hg, hcl⟩ := own_cl (f := halfF W H f) hown (by have := HQ.out; omega) (fun i hi => by rw [List.getElem?_map, List.getElem?_range hi]; rfl)
        subst hu
        have HCL := hide hcl
        have BR3 := hide (BR2.out.below HB.out (by omega))
        have hb3 := hide (hb2.out.trans (HB.out.mono (by omega)))
        have hn4 : 4 * (y * a) ≤ 9223372036854775807 := by have := HQ.out; omega
        obtain ⟨⟨m0, m1, m2⟩, _⟩ := BX.out.c3
        obtain ⟨⟨l0, l1, l2⟩, lf0, lf1, lf2⟩ := BR3.out.c3
        clear hcl hown
        go_wp2_with fail
        refine bodyPost_ret (v := .tuple #[.agg #[.int .i64 a, .int .i64 y, .slice (some ⟨g, 0, none⟩) (4 * (y * a)) cap'], .int .i64 0]) (by simp [results, Try.results13, go_sem, World.cell?_setCell_same', l0, l1, l2]) rfl ⟨g, cap', rfl, by omega, ?_, ?_⟩
        · exact ((HCL.out.other (by simp; omega)).other (by simp; omega)).other (by simp; omega)
        · have hbw := hb3.out
          (repeat' (first | exact Below.refl _ _ | assumption | refine Below.setCell ?_ (by simp <;> omega) _ | refine Below.alloc ?_ (by simp <;> omega) _))
theorem rhalf_ok {W H : Int} {n : Nat} {f : Nat → Int} {v : Value} {w : World} (hv : Im w v W H n f) (hr : rightV W H n = true) : Calls Try.prog 13 #[v] w (halfP W H n f w) :=
  (rhalf_cl hv hr).mono fun _ _ h => halfC_P hv hr h
theorem rhalf_any {W H : Int} {n : Nat} {f : Nat → Int} {v : Value} {w : World} (hv : Im w v W H n f) : Calls Try.prog 13 #[v] w (halfP W H n f w) := by
  by_cases hr : rightV W H n = true
  · exact rhalf_ok hv hr
  · exact rhalf_no hv (by simpa using hr)
end Go.Proofs.Ytmckfppemhnhmaa
