import Derived.Test.YtmckfppemhnhmaaV
namespace Go.Proofs.Ytmckfppemhnhmaa
open Go.RowKit
attribute [local irreducible] agOf

def mixK (t : Nat → Int) (o k : Nat) : Array Value := #[.int .i64 (if 0 < k then clampV (t o) 255 else t o), .int .i64 (if 1 < k then clampV (t (o + 1)) 255 else t (o + 1)), .int .i64 (if 2 < k then clampV (t (o + 2)) 255 else t (o + 2)), .int .i64 (if 3 < k then clampV (t (o + 3)) 255 else t (o + 3))]
theorem mixK_next (t : Nat → Int) (o k : Nat) (hk : k < 4) : (mixK t o k).setIfInBounds k (.int .i64 (clampV (t (o + k)) 255)) = mixK t o (k + 1) := by
  rcases (by omega : k = 0 ∨ k = 1 ∨ k = 2 ∨ k = 3) with rfl | rfl | rfl | rfl <;> simp [mixK]
theorem mixK_zero (t : Nat → Int) (o : Nat) : mixK t o 0 = #[.int .i64 (t o), .int .i64 (t (o + 1)), .int .i64 (t (o + 2)), .int .i64 (t (o + 3))] := by simp [mixK]
theorem mixK_four (t : Nat → Int) (o : Nat) : mixK t o 4 = #[.int .i64 (clampV (t o) 255), .int .i64 (clampV (t (o + 1)) 255), .int .i64 (clampV (t (o + 2)) 255), .int .i64 (clampV (t (o + 3)) 255)] := by simp [mixK]
theorem mixK_at (t : Nat → Int) (o k : Nat) (hk : k < 4) : (mixK t o k)[k]? = some (.int .i64 (t (o + k))) := by
  rcases (by omega : k = 0 ∨ k = 1 ∨ k = 2 ∨ k = 3) with rfl | rfl | rfl | rfl <;> simp [mixK]
theorem Box.put4 {w : World} {b : Nat} {x y z u x' y' z' u' : Value} (h : Box w b #[x, y, z, u]) : Box ((((w.setCell ⟨b, 0, none⟩ x').setCell ⟨b, 1, none⟩ y').setCell ⟨b, 2, none⟩ z').setCell ⟨b, 3, none⟩ u') b #[x', y', z', u'] := by
  have := (((h.set (k := 0) x' (by simp)).set (k := 1) y' (by simp)).set (k := 2) z' (by simp)).set (k := 3) u' (by simp)
  simpa using this
theorem eqtex' (c0 c1 c2 c3 : Int) (w : World) : (binOp .eql 38 (.agg #[.int .i64 c0, .int .i64 c1, .int .i64 c2, .int .i64 c3]) (.agg #[.int .i64 c0, .int .i64 c1, .int .i64 c2, .int .i64 c3])).run Try.prog w = .ok (.bool true) w := by
  have h : Ag #[.int .i64 c0, .int .i64 c1, .int .i64 c2, .int .i64 c3] 4 (fun i => match i with | 0 => c0 | 1 => c1 | 2 => c2 | _ => c3) := ⟨rfl, fun i hi => by match i, hi with | 0, _ => rfl | 1, _ => rfl | 2, _ => rfl | 3, _ => rfl⟩
  rw [eq38' h h, allEq_true (fun _ _ => rfl)]
theorem lastQ (W H : Int) (G : Nat → Int) (X Y : Int) : texV G (nearO W H (4 * X + 3) (4 * Y + 3)) = #[.int .i64 (gatV W H G X Y 60), .int .i64 (gatV W H G X Y 61), .int .i64 (gatV W H G X Y 62), .int .i64 (gatV W H G X Y 63)] := by
  unfold texV gatV
  rfl

set_option maxRecDepth 100000 in
set_option maxHeartbeats 2000000 in
theorem lays_yes {W H : Int} {n : Nat} {f : Nat → Int} {v : Value} {X Y : Int} {t : Nat → Int} {w : World} (hv : Im w v W H n f) (h1 : lightV W H n = true) (h2 : rightV W H n = true) (h3 : hasV W H X Y n = true) :
    Calls Try.prog 7 #[v, .agg #[.int .i64 X, .int .i64 Y], .agg (agOf 0 64 t)] w fun e w' => e = .returned (.bool true) ∧ Below w.heap.size w w' := by
  have HV := hide hv
  obtain ⟨ao, cap, rfl, _, _, _⟩ := hv
  have hws : 1 ≤ W ∧ 1 ≤ H ∧ W ≤ 4096 ∧ H ≤ 4096 := by unfold rightV at h2; simp at h2; omega
  obtain ⟨_, x1, x2, y1, y2⟩ := has_facts h3
  have H1 := hide h1
  have H2 := hide h2
  have H3 := hide h3
  clear h1 h2 h3
  have z0 := (agOf_ag0 64 t).1
  go_enter Try.func7, Try.ntmps7
  go_wp2_with fail
  refine (awake_any _).mono ?_
  rintro e w1 ⟨rfl, hb⟩
  have EV := hide (EnvL.start hb)
  clear hb
  obtain ⟨k0, k1, k2⟩ := EV.out.i.c3.1
  go_wp2_with fail
  refine (light_any W H ao n cap _).mono ?_
  rintro e w2 ⟨rfl, hb⟩
  rw [H1.out]
  have EV2 := hide (EV.out.below hb)
  clear hb EV k0 k1 k2
  obtain ⟨k0, k1, k2⟩ := EV2.out.i.c3.1
  go_wp2_with fail
  refine (right_any W H ao n cap _).mono ?_
  rintro e w3 ⟨rfl, hb⟩
  rw [H2.out]
  have EV3 := hide (EV2.out.below hb)
  clear hb EV2 k0 k1 k2
  obtain ⟨k0, k1, k2⟩ := EV3.out.i.c3.1
  obtain ⟨a0, a1⟩ := EV3.out.a.c2'
  go_wp2_with (with_reducible refine wpList_run rfl (exec_load T48 (.tmp 5) rfl ⟨w.heap.size + 1 + 1, 0, none⟩ rfl (agOf 0 64 t) z0 (EV3.out.t.load (by omega))) ?_)
  refine (ilay_any X Y (t := t) (HV.out.below EV3.out.be (Nat.le_refl _))).mono ?_
  intro e w4 hp
  unfold layP at hp
  rw [H3.out] at hp
  obtain ⟨v, rfl, him, hb⟩ := hp
  obtain ⟨G, hG⟩ : ∃ G, G = layK W H f t X Y 16 := ⟨_, rfl⟩
  have him2 : Im w4 v W H n G := by rw [hG]; exact him
  have HG := hide hG
  clear hG him
  have IN := hide him2
  obtain ⟨ao3, cap3, rfl, _⟩ := him2
  have EV4 := hide (EV3.out.below hb)
  clear hb EV3 k0 k1 k2 a0 a1
  go_upto_region 6 with (fail)
  generalize hw5 : w4.alloc (.cells #[.int .i64 W, .int .i64 H, .slice ao3 n cap3] 24) = w5
  have hal : Below w4.heap.size w4 w5 := by rw [← hw5]; exact (Below.refl _ _).alloc (Nat.le_refl _) _
  have BN := hide (show Box w5 w4.heap.size #[.int .i64 W, .int .i64 H, .slice ao3 n cap3] by rw [← hw5]; (repeat' (first | (refine Box.mk' ?_; simp; done) | (refine Box.old ?_ ?_; rotate_left; (simp <;> omega)))))
  have s5 : w5.heap.size = w4.heap.size + 1 := by rw [← hw5]; simp
  have EV5 := hide (EV4.out.below hal)
  have IN5 := hide (IN.out.below hal (Nat.le_refl _))
  have hpz : w.heap.size + 3 ≤ w4.heap.size := EV4.out.sz
  clear hw5 hal EV4 IN
  obtain ⟨p, hp⟩ : ∃ p, p = w4.heap.size := ⟨_, rfl⟩
  rw [← hp] at BN s5 hpz ⊢
  have Hs5 := hide s5
  clear hp s5
  go_wp2_with fail
  go_loopw [11] (fun y' wr => ∃ y : Int, 0 ≤ y ∧ y ≤ H ∧ y' = .int .i64 y ∧ Below (p + 1) w5 wr) (fun y' _ => (H - intOf y').toNat)
  case atStart => exact ⟨0, by omega, by omega, rfl, Below.refl _ _⟩
  case round =>
    obtain ⟨y, hy0, hyH, rfl, hbw⟩ := hrel
    have HB := hide hbw
    have EVr := hide (EV5.out.ofB hbw (by have := hpz; omega))
    clear hbw
    by_cases hlt : y < H
    · obtain ⟨k0, k1, k2⟩ := EVr.out.i.c3.1
      go_wp2_with fail
      clear k0 k1 k2
      go_loopw [12] (fun x' wq => ∃ x : Int, 0 ≤ x ∧ x ≤ W ∧ x' = .int .i64 x ∧ Below (p + 1) w5 wq) (fun x' _ => (W - intOf x').toNat)
      case atStart => exact ⟨0, by omega, by omega, rfl, HB.out⟩
      case round =>
        obtain ⟨x, hx0, hxW, rfl, hbw⟩ := hrel
        have HB2 := hide hbw
        have EVq := hide (EV5.out.ofB hbw (by have := hpz; omega))
        have BNq := hide (BN.out.below hbw (by omega))
        have spq : p < wr.heap.size := by have := hbw.size; have := Hs5.out; omega
        clear hbw
        obtain ⟨k0, k1, k2⟩ := EVq.out.i.c3.1
        by_cases hltx : x < W
        · obtain ⟨m0, m1, m2⟩ := BNq.out.c3.1
          have hin : inV x y W H = true := by unfold inV; simp; omega
          obtain ⟨o, ho⟩ : ∃ o, o = (4 * (y * W + x)).toNat := ⟨_, rfl⟩
          have HIN := hide hin
          have HO := hide ho
          have hAn := hide (show atV W H x y n G = (texV G o, 0) by rw [ho]; exact atV_in H2.out hin)
          have hAm := hide (show atV W H x y n f = (texV f o, 0) by rw [ho]; exact atV_in H2.out hin)
          have hGt := hide (show ∀ c, c < 4 → G (o + c) = if x / 4 = X ∧ y / 4 = Y then clampV (t (numV x y * 4 + c)) 255 else f (o + c) by
            intro c hc
            rw [HG.out, ho]
            exact lay_texel hin c hc)
          clear hin ho
          go_wp2_with fail
          refine (at_any x y (IN5.out.below HB2.out (by have := Hs5.out; omega))).mono ?_
          rintro e w6 ⟨rfl, hb⟩
          rw [hAn.out]
          obtain ⟨c0, c1, c2, c3, hc⟩ : ∃ c0 c1 c2 c3 : Int, (c0 = G (o + 0) ∧ c1 = G (o + 1) ∧ c2 = G (o + 2) ∧ c3 = G (o + 3)) ∧ texV G o = #[.int .i64 c0, .int .i64 c1, .int .i64 c2, .int .i64 c3] := ⟨_, _, _, _, ⟨rfl, rfl, rfl, rfl⟩, rfl⟩
          rw [hc.2]
          have HCC := hide hc.1
          have EV6 := hide (EVq.out.below hb)
          have BN6 := hide (BNq.out.below hb spq)
          have HB6 := hide (HB2.out.trans (hb.mono (by omega)))
          have sp6 : p < w6.heap.size := by have := hb.size; omega
          clear hc hb EVq BNq HB2 k0 k1 k2 m0 m1 m2 spq
          go_upto_region 15 with (fail)
          generalize hw7 : w6.alloc (.cells #[.int .i64 c0, .int .i64 c1, .int .i64 c2, .int .i64 c3] 38) = w7
          have hal : Below w6.heap.size w6 w7 := by rw [← hw7]; exact (Below.refl _ _).alloc (Nat.le_refl _) _
          have BU := hide (show Box w7 w6.heap.size #[.int .i64 c0, .int .i64 c1, .int .i64 c2, .int .i64 c3] by rw [← hw7]; (repeat' (first | (refine Box.mk' ?_; simp; done) | (refine Box.old ?_ ?_; rotate_left; (simp <;> omega)))))
          have s7 : w7.heap.size = w6.heap.size + 1 := by rw [← hw7]; simp
          have EV7 := hide (EV6.out.below hal)
          have HB7 := hide (HB6.out.trans (hal.mono (by omega)))
          have su : w6.heap.size < w7.heap.size ∧ p < w7.heap.size ∧ p < w6.heap.size := by omega
          clear hw7 hal EV6 BN6 HB6 sp6 s7
          generalize w6.heap.size = pu at *
          obtain ⟨k0, k1, k2⟩ := EV7.out.i.c3.1
          go_wp2_with fail
          refine (at_any x y (HV.out.below EV7.out.be (Nat.le_refl _))).mono ?_
          rintro e w8 ⟨rfl, hb⟩
          rw [hAm.out]
          obtain ⟨d0, d1, d2, d3, hd⟩ : ∃ d0 d1 d2 d3 : Int, (d0 = f (o + 0) ∧ d1 = f (o + 1) ∧ d2 = f (o + 2) ∧ d3 = f (o + 3)) ∧ texV f o = #[.int .i64 d0, .int .i64 d1, .int .i64 d2, .int .i64 d3] := ⟨_, _, _, _, ⟨rfl, rfl, rfl, rfl⟩, rfl⟩
          rw [hd.2]
          have HDD := hide hd.1
          have EV8 := hide (EV7.out.below hb)
          have BU8 := hide (BU.out.below hb su.1)
          have HB8 := hide (HB7.out.trans (hb.mono (by omega)))
          have s8 : pu < w8.heap.size ∧ p < w8.heap.size := by have := hb.size; omega
          clear hd hb EV7 BU HB7 k0 k1 k2
          go_upto_region 16 with (fail)
          generalize hw9 : w8.alloc (.cells #[.int .i64 d0, .int .i64 d1, .int .i64 d2, .int .i64 d3] 38) = w9
          have hal : Below w8.heap.size w8 w9 := by rw [← hw9]; exact (Below.refl _ _).alloc (Nat.le_refl _) _
          have BV := hide (show Box w9 w8.heap.size #[.int .i64 d0, .int .i64 d1, .int .i64 d2, .int .i64 d3] by rw [← hw9]; (repeat' (first | (refine Box.mk' ?_; simp; done) | (refine Box.old ?_ ?_; rotate_left; (simp <;> omega)))))
          have EV9 := hide (EV8.out.below hal)
          have BU9 := hide (BU8.out.below hal s8.1)
          have HB9 := hide (HB8.out.trans (hal.mono (by omega)))
          have sv : pu < w8.heap.size ∧ p < w8.heap.size := s8
          clear hw9 hal EV8 BU8 HB8 s8
          generalize w8.heap.size = pv at *
          have eg := eg38
          obtain ⟨a0, a1⟩ := EV9.out.a.c2'
          by_cases hX : x / 4 = X
          · by_cases hY : y / 4 = Y
            · have e1 : (x / 4 == X) = true := by simpa using hX
              have e2 : (y / 4 == Y) = true := by simpa using hY
              obtain ⟨N, hN⟩ : ∃ N, N = numV x y := ⟨_, rfl⟩
              have hn : y % 4 * 4 + x % 4 = (N : Int) := by rw [hN]; unfold numV; omega
              have hN16 : N < 16 := by rw [hN]; exact numV_lt x y
              have NE := hide (fun w => neqtex (c0 := c0) (c1 := c1) (c2 := c2) (c3 := c3) (d0 := clampV (t (N * 4)) 255) (d1 := clampV (t (N * 4 + 1)) 255) (d2 := clampV (t (N * 4 + 2)) 255) (d3 := clampV (t (N * 4 + 3)) 255)
                (by rw [HCC.out.1, hGt.out 0 (by omega), if_pos ⟨hX, hY⟩, hN]; rfl) (by rw [HCC.out.2.1, hGt.out 1 (by omega), if_pos ⟨hX, hY⟩, hN])
                (by rw [HCC.out.2.2.1, hGt.out 2 (by omega), if_pos ⟨hX, hY⟩, hN]) (by rw [HCC.out.2.2.2, hGt.out 3 (by omega), if_pos ⟨hX, hY⟩, hN]) w)
              have t0 := (EV9.out.t (N * 4) (by omega)).1
              have t1 := (EV9.out.t (N * 4 + 1) (by omega)).1
              have t2 := (EV9.out.t (N * 4 + 2) (by omega)).1
              have t3 := (EV9.out.t (N * 4 + 3) (by omega)).1
              obtain ⟨⟨v0, v1, v2, v3⟩, vf0, vf1, vf2, vf3⟩ := BV.out.c4
              clear hX hY hN
              go_wp2_with fail
              generalize hw10 : (((w9.setCell ⟨pv, 0, none⟩ (.int .i64 (t (N * 4)))).setCell ⟨pv, 1, none⟩ (.int .i64 (t (N * 4 + 1)))).setCell ⟨pv, 2, none⟩ (.int .i64 (t (N * 4 + 2)))).setCell ⟨pv, 3, none⟩ (.int .i64 (t (N * 4 + 3))) = w10
              have BV10 := hide (show Box w10 pv _ by rw [← hw10]; exact BV.out.put4 (x' := .int .i64 (t (N * 4))) (y' := .int .i64 (t (N * 4 + 1))) (z' := .int .i64 (t (N * 4 + 2))) (u' := .int .i64 (t (N * 4 + 3))))
              have hb10 := hide (show Below pv w9 w10 by rw [← hw10]; exact ((((Below.refl pv w9).setCell (Nat.le_refl _) _).setCell (Nat.le_refl _) _).setCell (Nat.le_refl _) _).setCell (Nat.le_refl _) _)
              clear hw10 v0 v1 v2 v3 vf0 vf1 vf2 vf3 t0 t1 t2 t3 a0 a1 e1 e2 hn
              go_loopw [17] (fun i wq => ∃ k : Nat, k ≤ 4 ∧ i = .int .i64 k ∧ Box wq pv (mixK t (N * 4) k) ∧ Below pv w9 wq) (fun i _ => 4 - (intOf i).toNat)
              case atStart => exact ⟨0, by omega, rfl, by rw [mixK_zero]; exact BV10.out, hb10.out⟩
              case round =>
                obtain ⟨k, hk, rfl, hbk, hbw⟩ := hrel
                have HK := hide hbk
                have HW := hide hbw
                clear hbw
                by_cases hlt4 : k < 4
                · obtain ⟨v0, vf0⟩ := hbk k _ (mixK_at t (N * 4) k hlt4)
                  clear hbk
                  go_wp2_with fail
                  go_roundw
                  case rel =>
                    refine ⟨k + 1, by omega, by go_num, ?_, HW.out.setCell (Nat.le_refl _) _⟩
                    rw [← mixK_next t (N * 4) k hlt4, clamp_if]
                    exact HK.out.set _ (by simp [mixK]; omega)
                  case measure => simp [intOf]; omega
                · obtain rfl : k = 4 := by omega
                  rw [mixK_four] at hbk
                  obtain ⟨v0, v1, v2, v3⟩ := hbk.c4.1
                  obtain ⟨u0, u1, u2, u3⟩ := (BU9.out.below HW.out sv.1).c4.1
                  have ne := NE.out
                  clear hbk
                  go_wp2_with fail
                  exact ⟨⟨x + 1, by omega, by omega, rfl, HB9.out.trans (HW.out.mono (by omega))⟩, by simp [intOf]; omega⟩
            · have e1 : (x / 4 == X) = true := by simpa using hX
              have e2 : (y / 4 == Y) = false := by simpa using hY
              have NE := hide (fun w => neqtex (c0 := c0) (c1 := c1) (c2 := c2) (c3 := c3) (d0 := d0) (d1 := d1) (d2 := d2) (d3 := d3)
                (by rw [HCC.out.1, HDD.out.1, hGt.out 0 (by omega), if_neg (fun h => hY h.2)]) (by rw [HCC.out.2.1, HDD.out.2.1, hGt.out 1 (by omega), if_neg (fun h => hY h.2)])
                (by rw [HCC.out.2.2.1, HDD.out.2.2.1, hGt.out 2 (by omega), if_neg (fun h => hY h.2)]) (by rw [HCC.out.2.2.2, HDD.out.2.2.2, hGt.out 3 (by omega), if_neg (fun h => hY h.2)]) w)
              have ne := NE.out
              obtain ⟨u0, u1, u2, u3⟩ := BU9.out.c4.1
              obtain ⟨v0, v1, v2, v3⟩ := BV.out.c4.1
              clear hX hY
              go_wp2_with fail
              exact ⟨⟨x + 1, by omega, by omega, rfl, HB9.out⟩, by simp [intOf]; omega⟩
          · have e1 : (x / 4 == X) = false := by simpa using hX
            have NE := hide (fun w => neqtex (c0 := c0) (c1 := c1) (c2 := c2) (c3 := c3) (d0 := d0) (d1 := d1) (d2 := d2) (d3 := d3)
              (by rw [HCC.out.1, HDD.out.1, hGt.out 0 (by omega), if_neg (fun h => hX h.1)]) (by rw [HCC.out.2.1, HDD.out.2.1, hGt.out 1 (by omega), if_neg (fun h => hX h.1)])
              (by rw [HCC.out.2.2.1, HDD.out.2.2.1, hGt.out 2 (by omega), if_neg (fun h => hX h.1)]) (by rw [HCC.out.2.2.2, HDD.out.2.2.2, hGt.out 3 (by omega), if_neg (fun h => hX h.1)]) w)
            have ne := NE.out
            obtain ⟨u0, u1, u2, u3⟩ := BU9.out.c4.1
            obtain ⟨v0, v1, v2, v3⟩ := BV.out.c4.1
            clear hX
            go_wp2_with fail
            exact ⟨⟨x + 1, by omega, by omega, rfl, HB9.out⟩, by simp [intOf]; omega⟩
        · obtain rfl : x = W := by omega
          go_wp2_with fail
          exact ⟨⟨y + 1, by omega, by omega, rfl, HB2.out⟩, by simp [intOf]; omega⟩
    · obtain rfl : y = H := by omega
      obtain ⟨k0, k1, k2⟩ := EVr.out.i.c3.1
      obtain ⟨a0, a1⟩ := EVr.out.a.c2'
      have BNr := hide (BN.out.below HB.out (by omega))
      have spr : p < wr.heap.size := by have := HB.out.size; have := Hs5.out; omega
      obtain ⟨m0, m1, m2⟩ := BNr.out.c3.1
      go_wp2_with fail
      refine (gather_any X Y (IN5.out.below HB.out (by have := Hs5.out; omega))).mono ?_
      intro e w6 hp
      obtain ⟨rfl, hb⟩ := gatP_yes H3.out hp
      obtain ⟨Q, hQ⟩ : ∃ Q, Q = gatV W y G X Y := ⟨_, rfl⟩
      rw [← hQ]
      have HQ := hide hQ
      have A0 := hide (agOf_ag0 64 Q)
      have zQ := A0.out.1
      clear hQ hp k0 k1 k2 a0 a1 m0 m1 m2
      have EV6 := hide (EVr.out.below hb)
      have BN6 := hide (BNr.out.below hb spr)
      have sp6 : p < w6.heap.size := by have := hb.size; omega
      have IN6 := hide ((IN5.out.below HB.out (by have := Hs5.out; omega)).below hb (Nat.le_refl _))
      clear hb EVr BNr
      have k1 := hide (Bk.new Z64_ag w6 48)
      go_wp2_with (first | (with_reducible refine wpList_run rfl (exec_alloc T48 rfl) ?_) | (with_reducible refine wpList_store T48 rfl (.tmp 18) (.tmp 117) rfl w6.heap.size 0 rfl (agOf 0 64 Q) rfl zQ (k1.out.isSome (by omega)) (k1.out.free (by omega)) A0.out.one ?_))
      intro w7 hs
      have K7 := hide ((k1.out.set hs A0.out).congr (g := Q) (fun j hj => by rw [if_pos (by omega), Nat.sub_zero]))
      have hal := ((Below.refl w6.heap.size w6).alloc (Nat.le_refl _) (.cells Z64 48)).trans (hs.below (Nat.le_refl _))
      have s7 : w7.heap.size = w6.heap.size + 1 := by rw [hs.size]; simp
      have EV7 := hide (EV6.out.below hal)
      have BN7 := hide (BN6.out.below hal sp6)
      have IN7 := hide (IN6.out.below hal (Nat.le_refl _))
      have sq : w6.heap.size < w7.heap.size ∧ p < w7.heap.size := by omega
      clear hs hal k1 EV6 BN6 IN6 s7 sp6
      generalize w6.heap.size = pt at *
      obtain ⟨k0, k1, k2⟩ := EV7.out.i.c3.1
      obtain ⟨a0, a1⟩ := EV7.out.a.c2'
      obtain ⟨m0, m1, m2⟩ := BN7.out.c3.1
      go_wp2_with fail
      all_goals (
        refine (at_any _ _ IN7.out).mono ?_
        rintro e w8 ⟨rfl, hb⟩
        generalize hA : atV W y _ _ n G = A
        have hA2 : A = (texV G (nearO W y (4 * X + 3) (4 * Y + 3)), 0) := by rw [← hA]; exact near_at H2.out (by omega) (by omega) (by omega) (by omega)
        clear hA
        subst hA2
        have hq := lastQ W y G X Y
        rw [← HQ.out] at hq
        rw [hq]
        clear hq k0 k1 k2 a0 a1 m0 m1 m2
        have EE := eqtex' (Q 60) (Q 61) (Q 62) (Q 63)
        have eg := eg38
        have K8 := hide (K7.out.below hb sq.1)
        have hlt8 : pt < w8.heap.size := by have := hb.size; omega
        have c60 : ∀ o, (w8.alloc o).cell? ⟨pt, 60, none⟩ = some (.int .i64 (Q 60)) := fun o => (cell_old _ _ (by exact hlt8)).trans (K8.out 60 (by omega)).1
        have c61 : ∀ o, (w8.alloc o).cell? ⟨pt, 61, none⟩ = some (.int .i64 (Q 61)) := fun o => (cell_old _ _ (by exact hlt8)).trans (K8.out 61 (by omega)).1
        have c62 : ∀ o, (w8.alloc o).cell? ⟨pt, 62, none⟩ = some (.int .i64 (Q 62)) := fun o => (cell_old _ _ (by exact hlt8)).trans (K8.out 62 (by omega)).1
        have c63 : ∀ o, (w8.alloc o).cell? ⟨pt, 63, none⟩ = some (.int .i64 (Q 63)) := fun o => (cell_old _ _ (by exact hlt8)).trans (K8.out 63 (by omega)).1
        have EV8 := hide (EV7.out.below hb)
        clear hb
        go_wp2_with fail
        go_ret
        exact ⟨rfl, EV8.out.be.alloc (by have := EV8.out.sz; omega) _⟩)
end Go.Proofs.Ytmckfppemhnhmaa
