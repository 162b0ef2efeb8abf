import Derived.Test.YtmckfppemhnhmaaML
namespace Go.Proofs.Ytmckfppemhnhmaa
open Go.RowKit

def lowK (W H : Int) (f : Nat → Int) (x y : Int) (c : Nat) : Nat → Int
  | 0 => 255
  | k + 1 => min (lowK W H f x y c k) (cornV W H f x y k c)
def highK (W H : Int) (f : Nat → Int) (x y : Int) (c : Nat) : Nat → Int
  | 0 => 0
  | k + 1 => max (highK W H f x y c k) (cornV W H f x y k c)
theorem between {W H : Int} {f : Nat → Int} (x y : Int) (c : Nat) : lowK W H f x y c 4 ≤ meanV W H f x y c ∧ meanV W H f x y c ≤ highK W H f x y c 4 := by
  unfold meanV
  simp only [lowK, highK, sumK]
  generalize cornV W H f x y 0 c = a
  generalize cornV W H f x y 1 c = b
  generalize cornV W H f x y 2 c = d
  generalize cornV W H f x y 3 c = e
  omega

set_option maxRecDepth 100000 in
set_option maxHeartbeats 800000 in
theorem mbet_no {W H : Int} {n : Nat} {ao : Option Addr} {cap : Nat} {w : World} (hno : (lightV W H n && rightV W H n) = false) :
    Calls Try.prog 4 #[.agg #[.int .i64 W, .int .i64 H, .slice ao n cap]] w fun e w' => e = .returned (.bool true) ∧ Below w.heap.size w w' := by
  generalize h1 : lightV W H n = b1 at hno
  generalize h2 : rightV W H n = b2 at hno
  have H1 := hide h1
  have H2 := hide h2
  clear h1 h2
  cases b1
  · clear hno
    go_enter Try.func4, Try.ntmps4
    go_wp2_with fail
    refine (mawake_any _).mono ?_
    rintro e w1 ⟨rfl, hb⟩
    have EV := hide (Env1.start hb)
    clear hb
    obtain ⟨k0, k1, k2⟩ := EV.out.i.c3.1
    go_wp2_with fail
    refine (light_any W H ao n cap _).mono ?_
    rintro e w2 ⟨rfl, hb⟩
    rw [H1.out]
    have EV2 := hide (EV.out.below hb)
    clear hb EV k0 k1 k2
    go_wp2_with fail
    go_ret
    exact ⟨rfl, EV2.out.be⟩
  · cases b2
    · clear hno
      go_enter Try.func4, Try.ntmps4
      go_wp2_with fail
      refine (mawake_any _).mono ?_
      rintro e w1 ⟨rfl, hb⟩
      have EV := hide (Env1.start hb)
      clear hb
      obtain ⟨k0, k1, k2⟩ := EV.out.i.c3.1
      go_wp2_with fail
      refine (light_any W H ao n cap _).mono ?_
      rintro e w2 ⟨rfl, hb⟩
      rw [H1.out]
      have EV2 := hide (EV.out.below hb)
      clear hb EV k0 k1 k2
      obtain ⟨k0, k1, k2⟩ := EV2.out.i.c3.1
      go_wp2_with fail
      refine (right_any W H ao n cap _).mono ?_
      rintro e w3 ⟨rfl, hb⟩
      rw [H2.out]
      have EV3 := hide (EV2.out.below hb)
      clear hb EV2 k0 k1 k2
      go_wp2_with fail
      go_ret
      exact ⟨rfl, EV3.out.be⟩
    · simp at hno

set_option maxRecDepth 100000 in
set_option maxHeartbeats 1600000 in
theorem mbet_yes {W H : Int} {n : Nat} {f : Nat → Int} {v : Value} {w : World} (hv : Im w v W H n f) (h1 : lightV W H n = true) (h2 : rightV W H n = true) :
    Calls Try.prog 4 #[v] w fun e w' => e = .returned (.bool true) ∧ Below w.heap.size w w' := by
  have HV := hide hv
  have hv2 := hide hv
  obtain ⟨ao, cap, rfl, hrd, hW, hH⟩ := hv
  have hf : ∀ i, 0 ≤ f i ∧ f i ≤ 255 := by obtain ⟨_, _, _, _, hf, _⟩ := hrd; exact hf
  have HF := hide hf
  have H1 := hide h1
  have H2 := hide h2
  have hws : 1 ≤ W ∧ 1 ≤ H ∧ W ≤ 4096 ∧ H ≤ 4096 := by unfold rightV at h2; simp at h2; omega
  obtain ⟨a, ha⟩ : ∃ a : Nat, halfV W = (a : Int) := ⟨(halfV W).toNat, by have := halfV_pos W; omega⟩
  obtain ⟨b, hb'⟩ : ∃ b : Nat, halfV H = (b : Int) := ⟨(halfV H).toNat, by have := halfV_pos H; omega⟩
  have ha1 : 1 ≤ a ∧ a ≤ 4096 := by have := halfV_pos W; have := halfV_le hws.1; omega
  have hb1' : 1 ≤ b ∧ b ≤ 4096 := by have := halfV_pos H; have := halfV_le hws.2.1; omega
  obtain ⟨N, hN⟩ : ∃ N, N = (4 * (a : Int) * (b : Int)).toNat := ⟨_, rfl⟩
  have hNb := halfN_bd hws
  rw [ha, hb', ← hN] at hNb
  have hrh := hide (show rightV a b N = true by
    have hab := area_bd (W := (a : Int)) (H := (b : Int)) ⟨by omega, by omega, by omega, by omega⟩
    unfold rightV
    simp
    omega)
  have HA := hide ha
  have HB' := hide hb'
  have HN := hide hN
  have hwa : (W / 2 < 1 ∧ (a : Int) = 1) ∨ (1 ≤ W / 2 ∧ (a : Int) = W / 2) := by rw [← ha]; unfold halfV; split <;> omega
  have hhb : (H / 2 < 1 ∧ (b : Int) = 1) ∨ (1 ≤ H / 2 ∧ (b : Int) = H / 2) := by rw [← hb']; unfold halfV; split <;> omega
  have HWA := hide hwa
  have HHB := hide hhb
  clear h1 h2 hrd hf ha hb' hN hwa hhb
  go_enter Try.func4, Try.ntmps4
  go_wp2_with fail
  refine (mawake_any _).mono ?_
  rintro e w1 ⟨rfl, hb⟩
  have EV := hide (Env1.start hb)
  clear hb
  obtain ⟨k0, k1, k2⟩ := EV.out.i.c3.1
  go_wp2_with fail
  refine (light_any W H ao n cap _).mono ?_
  rintro e w2 ⟨rfl, hb⟩
  rw [H1.out]
  have EV2 := hide (EV.out.below hb)
  clear hb EV k0 k1 k2
  obtain ⟨k0, k1, k2⟩ := EV2.out.i.c3.1
  go_wp2_with fail
  refine (right_any W H ao n cap _).mono ?_
  rintro e w3 ⟨rfl, hb⟩
  rw [H2.out]
  have EV3 := hide (EV2.out.below hb)
  clear hb EV2 k0 k1 k2
  obtain ⟨k0, k1, k2⟩ := EV3.out.i.c3.1
  go_wp2_with fail
  refine (mhalf_cl (HV.out.below EV3.out.be (Nat.le_refl _)) H2.out).mono ?_
  rintro e w4 ⟨g, c4, rfl, hg, hcl, hb⟩
  rw [HA.out, HB'.out, ← HN.out] at hcl ⊢
  have HCL := hide hcl
  have hgl : g < w4.heap.size := World.block_lt_of_cell? w4 _ (hcl 0 hNb.2).1
  have EV4 := hide (EV3.out.below hb)
  clear hb hcl hg EV3 k0 k1 k2
  go_upto_region 6 with (fail)
  generalize hw5 : w4.alloc (.cells #[.int .i64 a, .int .i64 b, .slice (some ⟨g, 0, none⟩) N c4] 24) = w5
  have hal : Below w4.heap.size w4 w5 := by rw [← hw5]; exact (Below.refl _ _).alloc (Nat.le_refl _) _
  have EV5 := hide (EV4.out.below hal)
  have BH5 := hide (show Box w5 w4.heap.size #[.int .i64 a, .int .i64 b, .slice (some ⟨g, 0, none⟩) N c4] by rw [← hw5]; exact Box.mk' rfl)
  have IH5 := hide (show Im w5 (.agg #[.int .i64 a, .int .i64 b, .slice (some ⟨g, 0, none⟩) N c4]) a b N (halfF W H f) from
    ⟨_, _, rfl, Rd.of_cl (HCL.out.below hal hgl) (by omega) (halfF_bd HF.out), by omega, by omega⟩)
  have s5 : w4.heap.size < w5.heap.size := by
    have : w5.heap.size = w4.heap.size + 1 := by rw [← hw5]; simp
    omega
  clear hw5 hal EV4 HCL hgl
  generalize w4.heap.size = ph at *
  obtain ⟨k0, k1, k2⟩ := EV5.out.i.c3.1
  obtain ⟨m0, m1, m2⟩ := BH5.out.c3.1
  go_cut [57] from 33 to 58 (fun s57 wx => s57 = .bool false ∧ Below w5.heap.size w5 wx)
  case first =>
    go_wp2_with fail
    refine (right_any a b _ N c4 _).mono ?_
    rintro e w6 ⟨rfl, hb⟩
    rw [hrh.out]
    have HB6 := hide hb
    have EV6 := hide (EV5.out.below hb)
    have BH6 := hide (BH5.out.below hb s5)
    clear hb EV5 BH5 IH5 s5 k0 k1 k2 m0 m1 m2
    obtain ⟨k0, k1, k2⟩ := EV6.out.i.c3.1
    obtain ⟨m0, m1, m2⟩ := BH6.out.c3.1
    have hq1 : 0 ≤ W / 2 := by omega
    have hq2 : 0 ≤ H / 2 := by omega
    have e1 : ((a : Int) != if W / 2 < 1 then 1 else W / 2) = false := by have := HWA.out; split <;> simp <;> omega
    have e2 : ((b : Int) != if H / 2 < 1 then 1 else H / 2) = false := by have := HHB.out; split <;> simp <;> omega
    go_wp2_with fail
    all_goals (go_meet; exact ⟨rfl, HB6.out⟩)
  case rest =>
    obtain ⟨rfl, hb⟩ := hcut
    have EV6 := hide (EV5.out.below hb)
    have BH6 := hide (BH5.out.below hb s5)
    have IH6 := hide (IH5.out.below hb (Nat.le_refl _))
    have HB5 := hide (Below.refl wc.heap.size wc)
    have s6 : ph < wc.heap.size := by have := hb.size; omega
    clear hb EV5 BH5 IH5 s5 k0 k1 k2 m0 m1 m2
    go_wp2_with fail
    go_loopw [7] (fun y' wr => ∃ y : Nat, y ≤ b ∧ y' = .int .i64 y ∧ Below wc.heap.size wc wr) (fun y' _ => b - (intOf y').toNat)
    case atStart => exact ⟨0, by omega, rfl, Below.refl _ _⟩
    case round =>
      obtain ⟨y, hyb, rfl, hbe⟩ := hrel
      have HE := hide hbe
      clear hbe
      by_cases hlt : y < b
      · have dy : decide (y < b) = true := by simpa using hlt
        have BY := hide (BH6.out.below HE.out s6)
        obtain ⟨m0, m1, m2⟩ := BY.out.c3.1
        go_wp2_with fail
        clear m0 m1 m2 BY
        go_loopw [8] (fun x' wq => ∃ x : Nat, x ≤ a ∧ x' = .int .i64 x ∧ Below wc.heap.size wc wq) (fun x' _ => a - (intOf x').toNat)
        case atStart => exact ⟨0, by omega, rfl, HE.out⟩
        case round =>
          obtain ⟨x, hxa, rfl, hbe⟩ := hrel
          have HX := hide hbe
          clear hbe
          have BX := hide (BH6.out.below HX.out s6)
          by_cases hltx : x < a
          · have dx : decide (x < a) = true := by simpa using hltx
            obtain ⟨m0, m1, m2⟩ := BX.out.c3.1
            go_wp2_with fail
            refine (at_any _ _ (IH6.out.below HX.out (Nat.le_refl _))).mono ?_
            rintro e w8 ⟨rfl, hb⟩
            have hv8 : atV a b x y N (halfF W H f) = (four (meanV W H f x y), 0) := by
              rw [atV_in hrh.out (by unfold inV; simp; omega)]
              have e : (4 * ((y : Int) * a + x)).toNat = 4 * (y * a + x) := by
                have : (4 * ((y : Int) * (a : Int) + x)) = ((4 * (y * a + x) : Nat) : Int) := by push_cast; rfl
                rw [this, Int.toNat_natCast]
              rw [e]
              unfold texV four
              have h0 := halfF_at (H := H) (f := f) (y := y) HA.out hltx (show 0 < 4 by omega)
              have h1 := halfF_at (H := H) (f := f) (y := y) HA.out hltx (show 1 < 4 by omega)
              have h2 := halfF_at (H := H) (f := f) (y := y) HA.out hltx (show 2 < 4 by omega)
              have h3 := halfF_at (H := H) (f := f) (y := y) HA.out hltx (show 3 < 4 by omega)
              rw [Nat.add_zero] at h0
              rw [h0, h1, h2, h3]
            rw [hv8]
            have HB8 := hide (HX.out.trans (hb.mono HX.out.size))
            clear hb hv8 m0 m1 m2
            unfold four
            have hx4 : x ≤ 4096 := by omega
            have hy4 : y ≤ 4096 := by omega
            go_wp2_with fail
            obtain ⟨w9, hw9⟩ : ∃ w9, w9 = w8.alloc (.cells #[.int .i64 (meanV W H f x y 0), .int .i64 (meanV W H f x y 1), .int .i64 (meanV W H f x y 2), .int .i64 (meanV W H f x y 3)] 38) := ⟨_, rfl⟩
            rw [← hw9]
            have BT := hide (show Box w9 w8.heap.size (four (meanV W H f x y)) by rw [hw9]; exact Box.mk' (by simp))
            have HB9 := hide (show Below wc.heap.size wc w9 by rw [hw9]; exact HB8.out.alloc HB8.out.size _)
            have s9 : w8.heap.size < w9.heap.size := by rw [hw9]; simp
            clear hw9 HB8
            generalize w8.heap.size = pt at *
            go_loopw [11] (fun c' wz => ∃ c : Nat, c ≤ 4 ∧ c' = .int .i64 c ∧ Below w9.heap.size w9 wz) (fun c' _ => 4 - (intOf c').toNat)
            case atStart => exact ⟨0, by omega, rfl, Below.refl _ _⟩
            case round =>
              obtain ⟨c, hc4, rfl, hbe⟩ := hrel
              have HC := hide hbe
              clear hbe
              by_cases hltc : c < 4
              · have dc : decide ((c : Int) < 4) = true := by simp; omega
                go_wp2_with fail
                obtain ⟨wo, hwo⟩ : ∃ wo : World, wo = wr := ⟨_, rfl⟩
                subst hwo
                go_loopw [12, 13, 14] (fun lo hi k' wv => ∃ k : Nat, k ≤ 4 ∧ k' = .int .i64 k ∧ lo = .int .i64 (lowK W H f x y c k) ∧ hi = .int .i64 (highK W H f x y c k) ∧ Below wo.heap.size wo wv) (fun _ _ k' _ => 4 - (intOf k').toNat)
                case atStart => exact ⟨0, by omega, rfl, rfl, rfl, Below.refl _ _⟩
                case round =>
                  obtain ⟨k, hk, rfl, rfl, rfl, hbe⟩ := hrel
                  have HK := hide hbe
                  have HAll := hide (HB9.out.trans ((HC.out.trans (hbe.mono HC.out.size)).mono HB9.out.size))
                  have BIv := (EV6.out.below HAll.out).i
                  clear hbe
                  by_cases hltk : k < 4
                  · obtain ⟨k0, k1, k2⟩ := BIv.c3.1
                    have dk : decide ((k : Int) < 4) = true := by simp; omega
                    go_upto_region 23 with (fail)
                    clear dk
                    obtain ⟨lv, hlv⟩ : ∃ lv, lv = lowK W H f x y c k := ⟨_, rfl⟩
                    obtain ⟨hv, hhv⟩ : ∃ hv, hv = highK W H f x y c k := ⟨_, rfl⟩
                    rw [← hlv, ← hhv]
                    have HL := hide (show lowK W H f x y c (k + 1) = min lv (cornV W H f x y k c) by rw [hlv]; rfl)
                    have HH := hide (show highK W H f x y c (k + 1) = max hv (cornV W H f x y k c) by rw [hhv]; rfl)
                    clear hlv hhv
                    go_cut [15, 16] from 85 to 107 (fun s15 s16 wx => ∃ pu : Nat, s15 = .pointer (some ⟨pu, 0, none⟩) ∧ s16 = .int .i64 0 ∧ Box wx pu (four (cornV W H f x y k)) ∧ Below wo.heap.size wo wx ∧ pu < wx.heap.size)
                    case first =>
                      go_wp2_with fail
                      all_goals (
                        refine (at_any _ _ (HV.out.below (EV6.out.below HAll.out).be (Nat.le_refl _))).mono ?_
                        rintro e w8 ⟨rfl, hb⟩
                        generalize hA : atV W H _ _ n f = A
                        have hA2 : A = (texV f (nearO W H (2 * x + (k : Int) % 2) (2 * y + (k : Int) / 2)), 0) := by rw [← hA]; exact near_at H2.out (by omega) (by omega) (by omega) (by omega)
                        clear hA
                        subst hA2
                        unfold texV
                        have HB8 := hide (HK.out.trans (hb.mono HK.out.size))
                        clear hb k0 k1 k2
                        go_wp2_with fail
                        go_meet
                        exact ⟨w8.heap.size, rfl, rfl, Box.mk' rfl, HB8.out.alloc HB8.out.size _, by simp⟩)
                    case rest =>
                      obtain ⟨pu, rfl, rfl, hbu, hbc, hpu⟩ := hcut
                      have HBC := hide hbc
                      have u0 := (hbu c _ (four_at _ c hltc)).1
                      have hcI : (c : Int) < 4 := by omega
                      have hcb : 0 ≤ cornV W H f x y k c ∧ cornV W H f x y k c ≤ 255 := HF.out _
                      generalize cornV W H f x y k c = cv at *
                      clear hbu hbc k0 k1 k2
                      go_wp2_with fail
                      all_goals exact ⟨⟨k + 1, by omega, by go_num, by rw [HL.out]; congr 1; omega, by rw [HH.out]; congr 1; omega, HBC.out⟩, by simp [intOf]; omega⟩
                  · obtain rfl : k = 4 := by omega
                    have BTv := BT.out.below (HC.out.trans (HK.out.mono HC.out.size)) s9
                    have t0 := (BTv c _ (four_at _ c hltc)).1
                    have hcI : (c : Int) < 4 := by omega
                    have hbt := between (W := W) (H := H) (f := f) x y c
                    generalize meanV W H f x y c = mv at *
                    generalize lowK W H f x y c 4 = lv at *
                    generalize highK W H f x y c 4 = hv at *
                    have d1 : decide (mv < lv) = false := by simp; omega
                    have d2 : decide (hv < mv) = false := by simp; omega
                    clear BTv
                    go_wp2_with fail
                    exact ⟨⟨c + 1, by omega, by go_num, HC.out.trans (HK.out.mono HC.out.size)⟩, by simp [intOf]; omega⟩
              · obtain rfl : c = 4 := by omega
                go_wp2_with fail
                exact ⟨⟨x + 1, by omega, by go_num, HB9.out.trans (HC.out.mono HB9.out.size)⟩, by simp [intOf]; omega⟩
          · obtain rfl : x = a := by omega
            obtain ⟨m0, m1, m2⟩ := BX.out.c3.1
            go_wp2_with fail
            exact ⟨⟨y + 1, by omega, by go_num, HX.out⟩, by simp [intOf]; omega⟩
      · obtain rfl : y = b := by omega
        have BY := hide (BH6.out.below HE.out s6)
        obtain ⟨m0, m1, m2⟩ := BY.out.c3.1
        go_wp2_with fail
        go_ret
        exact ⟨rfl, (EV6.out.below HE.out).be⟩
end Go.Proofs.Ytmckfppemhnhmaa
