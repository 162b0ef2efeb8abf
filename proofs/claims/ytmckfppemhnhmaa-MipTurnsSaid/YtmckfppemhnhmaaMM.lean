import Derived.Test.YtmckfppemhnhmaaML
namespace Go.Proofs.Ytmckfppemhnhmaa
open Go.RowKit

set_option maxRecDepth 100000 in
set_option maxHeartbeats 800000 in
theorem mtells_no {W H a b many : Int} {n : Nat} {ao : Option Addr} {cap : Nat} {w : World} (hno : (lightV W H n && decide (a ≤ 1073741824) && decide (b ≤ 1073741824)) = false) :
    Calls Try.prog 3 #[.agg #[.int .i64 W, .int .i64 H, .slice ao n cap], .int .i64 many, .agg #[.int .i64 a, .int .i64 b]] w fun e w' => e = .returned (.bool true) ∧ Below w.heap.size w w' := by
  generalize h1 : lightV W H n = b1 at hno
  have H1 := hide h1
  clear h1
  cases b1
  · clear hno
    go_enter Try.func3, Try.ntmps3
    go_wp2_with fail
    refine (mawake_any _).mono ?_
    rintro e w1 ⟨rfl, hb⟩
    have EV := hide (EnvM.start hb)
    clear hb
    obtain ⟨k0, k1, k2⟩ := EV.out.i.c3.1
    go_wp2_with fail
    refine (light_any W H ao n cap _).mono ?_
    rintro e w2 ⟨rfl, hb⟩
    rw [H1.out]
    have EV2 := hide (EV.out.below hb)
    clear hb EV k0 k1 k2
    go_wp2_with fail
    go_ret
    exact ⟨rfl, EV2.out.be⟩
  · by_cases ha : a ≤ 1073741824
    · have hb' : ¬ b ≤ 1073741824 := by simpa [ha] using hno
      have d1 : decide (1073741824 < a) = false := by simpa using ha
      have d2 : decide (1073741824 < b) = true := by simp; omega
      clear hno ha hb'
      go_enter Try.func3, Try.ntmps3
      go_wp2_with fail
      refine (mawake_any _).mono ?_
      rintro e w1 ⟨rfl, hb⟩
      have EV := hide (EnvM.start hb)
      clear hb
      obtain ⟨k0, k1, k2⟩ := EV.out.i.c3.1
      go_wp2_with fail
      refine (light_any W H ao n cap _).mono ?_
      rintro e w2 ⟨rfl, hb⟩
      rw [H1.out]
      have EV2 := hide (EV.out.below hb)
      clear hb EV k0 k1 k2
      obtain ⟨a0, a1⟩ := EV2.out.a.two
      go_wp2_with fail
      go_ret
      exact ⟨rfl, EV2.out.be⟩
    · have d1 : decide (1073741824 < a) = true := by simp; omega
      clear hno ha
      go_enter Try.func3, Try.ntmps3
      go_wp2_with fail
      refine (mawake_any _).mono ?_
      rintro e w1 ⟨rfl, hb⟩
      have EV := hide (EnvM.start hb)
      clear hb
      obtain ⟨k0, k1, k2⟩ := EV.out.i.c3.1
      go_wp2_with fail
      refine (light_any W H ao n cap _).mono ?_
      rintro e w2 ⟨rfl, hb⟩
      rw [H1.out]
      have EV2 := hide (EV.out.below hb)
      clear hb EV k0 k1 k2
      obtain ⟨a0, a1⟩ := EV2.out.a.two
      go_wp2_with fail
      go_ret
      exact ⟨rfl, EV2.out.be⟩

theorem chain_small {W H many : Int} {n : Nat} (h : chainOk W H n many = true) : many.toNat ≤ 8192 := by
  unfold chainOk at h
  simp only [Bool.and_eq_true, decide_eq_true_eq] at h
  obtain ⟨⟨hr, _⟩, h2⟩ := h
  have hws : 1 ≤ W ∧ 1 ≤ H ∧ W ≤ 4096 ∧ H ≤ 4096 := by unfold rightV at hr; simp at hr; omega
  have := levels_le (W := W) (H := H) hws.1 hws.2.1
  omega
theorem rsame_self {w : World} {v v' : Value} {W H : Int} {n : Nat} {f : Nat → Int} (hv : Im w v W H n f) (hv' : Im w v' W H n f) : Calls Try.prog 14 #[v, v'] w fun e w' => e = .returned (.bool true) ∧ Below w.heap.size w w' := by
  refine (rsame_any hv hv').mono ?_
  rintro e w' ⟨rfl, hb⟩
  rw [sameV_refl]
  exact ⟨rfl, hb⟩
/-- a row of images, or none -/
def RowI (w : World) (v : Value) (m : Nat) (W H : Int) (f : Nat → Int) : Prop :=
  ∃ ao cap, v = .slice ao m cap ∧ (0 < m → ∃ g, ao = some ⟨g, 0, none⟩ ∧ ∀ i, i < m → ∃ ap cp, w.cell? ⟨g, i * 3, none⟩ = some (.int .i64 (hk i W)) ∧ w.cell? ⟨g, i * 3 + 1, none⟩ = some (.int .i64 (hk i H)) ∧ w.cell? ⟨g, i * 3 + 2, none⟩ = some (.slice ap (chN W H i) cp) ∧
    Im w (.agg #[.int .i64 (hk i W), .int .i64 (hk i H), .slice ap (chN W H i) cp]) (hk i W) (hk i H) (chN W H i) (chF W H f i))
theorem RowI.of {w w' : World} {v : Value} {ok : Bool} {m : Nat} {W H : Int} {f : Nat → Int} (h : if ok then Ch w v m W H f else v = .slice none 0 0) (hb : Below w.heap.size w w') : RowI w' v (if ok then m else 0) W H f := by
  cases ok
  · exact ⟨none, 0, h, fun h => by simp at h⟩
  · obtain ⟨g, cap, rfl, h2⟩ := Ch.below (show Ch w v m W H f from h) hb
    exact ⟨_, cap, rfl, fun _ => ⟨g, rfl, h2⟩⟩

set_option maxRecDepth 100000 in
set_option maxHeartbeats 1600000 in
theorem mtells_yes {W H a b many : Int} {n : Nat} {f : Nat → Int} {v : Value} {w : World} (hv : Im w v W H n f) (h1 : lightV W H n = true) (ha0 : -9223372036854775808 ≤ a) (ha : a ≤ 1073741824) (hb0 : -9223372036854775808 ≤ b) (hb : b ≤ 1073741824) (hm : -9223372036854775808 ≤ many ∧ many ≤ 9223372036854775807) :
    Calls Try.prog 3 #[v, .int .i64 many, .agg #[.int .i64 a, .int .i64 b]] w fun e w' => e = .returned (.bool true) ∧ Below w.heap.size w w' := by
  have HV := hide hv
  obtain ⟨ao, cap, rfl, _, hW, hH⟩ := hv
  have H1 := hide h1
  obtain ⟨eh, Wh, Hh, nh, gh, hP⟩ : ∃ eh Wh Hh nh gh, ∀ w0 e w', halfP W H n f w0 e w' → ∃ v, e = .returned (.tuple #[v, .int .i64 eh]) ∧ Im w' v Wh Hh nh gh ∧ Below w0.heap.size w0 w' := ⟨_, _, _, _, _, fun _ _ _ h => h⟩
  have HP := hide hP
  obtain ⟨ec, okc, mm, hmm, hQ⟩ : ∃ (ec : Int) (okc : Bool) (mm : Nat), (okc = true → mm ≤ 8192) ∧ ∀ w0 e w', chainP W H n f many w0 e w' → ∃ v, e = .returned (.tuple #[v, .int .i64 ec]) ∧ (if okc then Ch w' v mm W H f else v = .slice none 0 0) ∧ Below w0.heap.size w0 w' := ⟨_, _, _, chain_small, fun _ _ _ h => h⟩
  have HQ := hide hQ
  have d1 : decide (1073741824 < a) = false := by simp; omega
  have d2 : decide (1073741824 < b) = false := by simp; omega
  clear h1 hP hQ
  go_enter Try.func3, Try.ntmps3
  go_wp2_with fail
  refine (mawake_any _).mono ?_
  rintro e w1 ⟨rfl, hb⟩
  have EV := hide (EnvM.start hb)
  clear hb
  obtain ⟨k0, k1, k2⟩ := EV.out.i.c3.1
  go_wp2_with fail
  refine (light_any W H ao n cap _).mono ?_
  rintro e w2 ⟨rfl, hb⟩
  rw [H1.out]
  have EV2 := hide (EV.out.below hb)
  clear hb EV k0 k1 k2
  obtain ⟨a0, a1⟩ := EV2.out.a.two
  obtain ⟨k0, k1, k2⟩ := EV2.out.i.c3.1
  go_wp2_with fail
  refine (mhalf_any (HV.out.below EV2.out.be (Nat.le_refl _))).mono ?_
  intro e w3 hp
  obtain ⟨v, rfl, him, hb⟩ := HP.out _ _ _ hp
  have IA := hide him
  obtain ⟨ao3, cap3, rfl, _⟩ := him
  have EV3 := hide (EV2.out.below hb)
  clear hp hb EV2 k0 k1 k2 a0 a1 d1 d2
  go_upto_region 6 with (fail)
  generalize hw4 : w3.alloc (.cells #[.int .i64 Wh, .int .i64 Hh, .slice ao3 nh cap3] 24) = w4
  have hal : Below w3.heap.size w3 w4 := by rw [← hw4]; exact (Below.refl _ _).alloc (Nat.le_refl _) _
  have EV4 := hide (EV3.out.below hal)
  have P4 := hide (show Box w4 w3.heap.size #[.int .i64 Wh, .int .i64 Hh, .slice ao3 nh cap3] by rw [← hw4]; exact Box.mk' rfl)
  have IA4 := hide (IA.out.below hal (Nat.le_refl _))
  have s4 : w3.heap.size < w4.heap.size := by
    have : w4.heap.size = w3.heap.size + 1 := by rw [← hw4]; simp
    omega
  clear hw4 hal EV3 IA
  generalize w3.heap.size = pp at *
  obtain ⟨k0, k1, k2⟩ := EV4.out.i.c3.1
  go_wp2_with fail
  refine (rhalf_any (HV.out.below EV4.out.be (Nat.le_refl _))).mono ?_
  intro e w5 hp
  obtain ⟨v, rfl, him, hb⟩ := HP.out _ _ _ hp
  have IB := hide him
  obtain ⟨ao4, cap4, rfl, _⟩ := him
  have EV5 := hide (EV4.out.below hb)
  have P5 := hide (P4.out.below hb s4)
  have IA5 := hide (IA4.out.below hb (Nat.le_refl _))
  have s5 : pp < w5.heap.size := by have := hb.size; omega
  clear hp hb EV4 P4 IA4 s4 k0 k1 k2
  go_upto_region 7 with (fail)
  generalize hw6 : w5.alloc (.cells #[.int .i64 Wh, .int .i64 Hh, .slice ao4 nh cap4] 24) = w6
  have hal : Below w5.heap.size w5 w6 := by rw [← hw6]; exact (Below.refl _ _).alloc (Nat.le_refl _) _
  have EV6 := hide (EV5.out.below hal)
  have P6 := hide (P5.out.below hal s5)
  have Q6 := hide (show Box w6 w5.heap.size #[.int .i64 Wh, .int .i64 Hh, .slice ao4 nh cap4] by rw [← hw6]; exact Box.mk' rfl)
  have IA6 := hide (IA5.out.below hal (Nat.le_refl _))
  have IB6 := hide (IB.out.below hal (Nat.le_refl _))
  clear hw6 hal EV5 P5 IA5 IB s5
  generalize w5.heap.size = pq at *
  obtain ⟨⟨p0, p1, p2⟩, _⟩ := P6.out.c3
  obtain ⟨⟨q0, q1, q2⟩, _⟩ := Q6.out.c3
  go_wp2_with fail
  refine (rsame_any IA6.out IB6.out).mono ?_
  rintro e w7 ⟨rfl, hb⟩
  rw [sameV_refl]
  have EV7 := hide (EV6.out.below hb)
  clear hb EV6 P6 Q6 IA6 IB6 p0 p1 p2 q0 q1 q2
  obtain ⟨k0, k1, k2⟩ := EV7.out.i.c3.1
  go_wp2_with fail
  refine (mchain_any (many := many) (HV.out.below EV7.out.be (Nat.le_refl _))).mono ?_
  intro e w8 hp
  obtain ⟨v, rfl, hcA, hb⟩ := HQ.out _ _ _ hp
  have EV8 := hide (EV7.out.below hb)
  clear hp hb EV7 k0 k1 k2
  obtain ⟨k0, k1, k2⟩ := EV8.out.i.c3.1
  have HCA := hide hcA
  clear hcA
  go_wp2_with fail
  refine (rchain_any (many := many) (HV.out.below EV8.out.be (Nat.le_refl _))).mono ?_
  intro e w9 hp
  obtain ⟨v', rfl, hcB, hb⟩ := HQ.out _ _ _ hp
  have EV9 := hide (EV8.out.below hb)
  obtain ⟨M, hM⟩ : ∃ M, M = (if okc then mm else 0) := ⟨_, rfl⟩
  have hM8 : M ≤ 8192 := by
    rw [hM]
    cases okc
    · simp
    · exact hmm rfl
  obtain ⟨oA, cA, rfl, hA⟩ := hM ▸ RowI.of HCA.out hb
  obtain ⟨oB, cB, rfl, hB⟩ := hM ▸ RowI.of hcB (Below.refl _ _)
  have HA := hide hA
  have HB := hide hB
  clear hp hb hcB hA hB hM HCA EV8 k0 k1 k2
  have hneM : ((M : Int) != M) = false := by simp
  go_wp2_with fail
  go_loopw [18] (fun i' wr => ∃ k : Nat, k ≤ M ∧ i' = .int .i64 k ∧ Below w9.heap.size w9 wr) (fun i' _ => M - (intOf i').toNat)
  case atStart => exact ⟨0, by omega, rfl, Below.refl _ _⟩
  case round =>
    obtain ⟨k, hkM, rfl, hbw⟩ := hrel
    have HBW := hide hbw
    by_cases hlt : k < M
    · obtain ⟨ga, rfl, hA⟩ := HA.out (by omega)
      obtain ⟨gb, rfl, hB⟩ := HB.out (by omega)
      obtain ⟨a1, c1, x0, x1, x2, xi⟩ := hA k hlt
      obtain ⟨b1, e1, y0, y1, y2, yi⟩ := hB k hlt
      obtain ⟨xw, hxw⟩ : ∃ x, x = hk k W := ⟨_, rfl⟩
      obtain ⟨xh, hxh⟩ : ∃ x, x = hk k H := ⟨_, rfl⟩
      obtain ⟨xn, hxn⟩ : ∃ x, x = chN W H k := ⟨_, rfl⟩
      obtain ⟨xf, hxf⟩ : ∃ x, x = chF W H f k := ⟨_, rfl⟩
      rw [← hxw] at x0 y0
      rw [← hxh] at x1 y1
      rw [← hxn] at x2 y2
      rw [← hxw, ← hxh, ← hxn, ← hxf] at xi yi
      have tr : ∀ {p : Addr} {v : Value}, w9.cell? p = some v → ∀ u : Wb wr, u.1.cell? p = some v := fun h u =>
        (u.2.cell (Nat.lt_of_lt_of_le (World.block_lt_of_cell? w9 _ h) hbw.size)).trans ((hbw.cell (World.block_lt_of_cell? w9 _ h)).trans h)
      have X0 := tr x0
      have X1 := tr x1
      have X2 := tr x2
      have Y0 := tr y0
      have Y1 := tr y1
      have Y2 := tr y2
      have XI : Hid (∀ u : Wb wr, Im u.1 _ xw xh xn xf) := fun u => (xi.below hbw (Nat.le_refl _)).below u.2 (Nat.le_refl _)
      have YI : Hid (∀ u : Wb wr, Im u.1 _ xw xh xn xf) := fun u => (yi.below hbw (Nat.le_refl _)).below u.2 (Nat.le_refl _)
      have kI0 : (0 : Int) ≤ (k : Int) := by omega
      have kI1 : (k : Int) < (M : Int) := by omega
      clear hA hB x0 x1 x2 y0 y1 y2 xi yi hxw hxh hxn hxf hbw tr
      go_wp2_with fail
      refine wp_region_below wr (Below.refl _ _) (by kernel_rfl) (by kernel_rfl) ?_
      repeat (go_big_quiet_step ((go_at_call 14; exact Calls.wb (rsame_self (XI.out _) (YI.out _)))))
      refine wpQuiet_nil ?_
      rintro _ ⟨⟨w15, hb15⟩, rfl⟩
      have HB15 := hide (HBW.out.trans (hb15.mono HBW.out.size))
      clear hb15 X0 X1 X2 Y0 Y1 Y2
      go_wp2
      exact ⟨⟨k + 1, by omega, by go_num, HB15.out⟩, by simp [intOf]; omega⟩
    · obtain rfl : k = M := by omega
      have EVr := hide (EV9.out.below hbw)
      clear hbw
      go_upto_region 17 with (fail)
      have EN : Hid (∀ u : Wb wr, EnvM w _ _ u.1) := fun u => EVr.out.below u.2
      have A0 : ∀ u : Wb wr, u.1.cell? ⟨w.heap.size + 1, 0, none⟩ = _ := fun u => (EN.out u).a.two.1
      have A1 : ∀ u : Wb wr, u.1.cell? ⟨w.heap.size + 1, 1, none⟩ = _ := fun u => (EN.out u).a.two.2
      refine wp_region_below wr (Below.refl _ _) (by kernel_rfl) (by kernel_rfl) ?_
      repeat (go_big_quiet_step (first
        | (go_at_call 17; exact Calls.wb (levels_any a b _ ha0 ha hb0 hb))
        | (go_at_call 18; exact Calls.wb_same (rlevels_any a b _ ha hb ha0 hb0))
        | (go_at_call 19; exact Calls.wb (side_any a many _ ha0 (by omega) hm.2))
        | (go_at_call 20; exact Calls.wb_same (rside_any a many _ (by omega) hm.2))))
      refine wpQuiet_nil ?_
      rintro _ ⟨⟨w15, hb15⟩, rfl⟩
      have EV15 := hide (EVr.out.below hb15)
      clear hb15 A0 A1
      go_wp2
      go_ret
      exact ⟨rfl, EV15.out.be⟩
end Go.Proofs.Ytmckfppemhnhmaa
