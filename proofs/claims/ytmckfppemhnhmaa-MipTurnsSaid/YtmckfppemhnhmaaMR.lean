import Derived.Test.YtmckfppemhnhmaaMQ
namespace Go.Proofs.Ytmckfppemhnhmaa
open Go.RowKit

set_option maxRecDepth 100000 in
set_option maxHeartbeats 16000000 in
theorem mturn_yes {a b : Nat} {n : Nat} {f t : Nat → Int} {v : Value} {w : World} (hv : Im w v a b n f) (h1 : lightV a b n = true) (h2 : rightV a b n = true) :
    Calls Try.prog 9 #[v, tx t] w fun e w' => e = .returned (.bool true) ∧ Below w.heap.size w w' := by
  have HV := hide hv
  obtain ⟨ao, cap, rfl, hrd, hW, hH⟩ := hv
  have hf : ∀ i, 0 ≤ f i ∧ f i ≤ 255 := by obtain ⟨_, _, _, _, hf, _⟩ := hrd; exact hf
  have HF := hide hf
  have H1 := hide h1
  have H2 := hide h2
  have hws : 1 ≤ a ∧ 1 ≤ b ∧ a ≤ 4096 ∧ b ≤ 4096 := by unfold rightV at h2; simp at h2; omega
  unfold tx
  clear h1 h2 hrd hf
  go_enter Try.func9, Try.ntmps9
  go_wp2_with fail
  refine (mawake_any _).mono ?_
  rintro e w1 ⟨rfl, hb⟩
  have EV := hide (EnvM.start hb)
  clear hb
  obtain ⟨k0, k1, k2⟩ := EV.out.i.c3.1
  go_wp2_with fail
  refine (light_any a b ao n cap _).mono ?_
  rintro e w2 ⟨rfl, hb⟩
  rw [H1.out]
  have EV2 := hide (EV.out.below hb)
  clear hb EV k0 k1 k2
  obtain ⟨k0, k1, k2⟩ := EV2.out.i.c3.1
  go_wp2_with fail
  refine (right_any a b ao n cap _).mono ?_
  rintro e w3 ⟨rfl, hb⟩
  rw [H2.out]
  have EV3 := hide (EV2.out.below hb)
  clear hb EV2 k0 k1 k2
  obtain ⟨k0, k1, k2⟩ := EV3.out.i.c3.1
  go_wp2_with fail
  refine (mhalf_cl (HV.out.below EV3.out.be (Nat.le_refl _)) H2.out).mono ?_
  rintro e w4 ⟨g, c4, rfl, hg, hcl, hb⟩
  obtain ⟨p, hp⟩ : ∃ p : Nat, halfV a = (p : Int) := ⟨(halfV a).toNat, by have := halfV_pos a; omega⟩
  obtain ⟨q, hq⟩ : ∃ q : Nat, halfV b = (q : Int) := ⟨(halfV b).toNat, by have := halfV_pos b; omega⟩
  have hp1 : 1 ≤ p ∧ p ≤ 4096 := by have := halfV_pos a; have := halfV_le (n := a) (by omega); omega
  have hq1 : 1 ≤ q ∧ q ≤ 4096 := by have := halfV_pos b; have := halfV_le (n := b) (by omega); omega
  obtain ⟨N, hN⟩ : ∃ N, N = (4 * (p : Int) * (q : Int)).toNat := ⟨_, rfl⟩
  have hNb := halfN_bd (W := a) (H := b) (by omega)
  rw [hp, hq, ← hN] at hNb
  rw [hp, hq, ← hN] at hcl ⊢
  have hNI : (N : Int) = 4 * (p : Int) * (q : Int) := by
    have := area_bd (W := (p : Int)) (H := (q : Int)) ⟨by omega, by omega, by omega, by omega⟩
    omega
  have HNI := hide hNI
  have hrh := hide (show rightV p q N = true by unfold rightV; simp; omega)
  have HP := hide hp
  have HQ := hide hq
  clear hp hq hN hNI
  have HCL := hide hcl
  have hgl : g < w4.heap.size := World.block_lt_of_cell? w4 _ (hcl 0 hNb.2).1
  have EV4 := hide (EV3.out.below hb)
  clear hb hcl hg EV3 k0 k1 k2
  go_upto_region 6 with (fail)
  generalize hw5 : w4.alloc (.cells #[.int .i64 p, .int .i64 q, .slice (some ⟨g, 0, none⟩) N c4] 24) = w5
  have hal : Below w4.heap.size w4 w5 := by rw [← hw5]; exact (Below.refl _ _).alloc (Nat.le_refl _) _
  have EV5 := hide (EV4.out.below hal)
  have BH5 := hide (show Box w5 w4.heap.size #[.int .i64 p, .int .i64 q, .slice (some ⟨g, 0, none⟩) N c4] by rw [← hw5]; exact Box.mk' rfl)
  have IH5 := hide (show Im w5 (.agg #[.int .i64 p, .int .i64 q, .slice (some ⟨g, 0, none⟩) N c4]) p q N (halfF a b f) from
    ⟨_, _, rfl, Rd.of_cl (HCL.out.below hal hgl) (by omega) (halfF_bd HF.out), by omega, by omega⟩)
  have s5 : w4.heap.size < w5.heap.size := by
    have : w5.heap.size = w4.heap.size + 1 := by rw [← hw5]; simp
    omega
  clear hw5 hal EV4 HCL hgl
  generalize w4.heap.size = pa at *
  obtain ⟨k0, k1, k2⟩ := EV5.out.i.c3.1
  go_wp2_with fail
  refine (turned_cl (HV.out.below EV5.out.be (Nat.le_refl _)) H2.out).mono ?_
  rintro e w6 ⟨g6, c6, rfl, hg, hcl, hb⟩
  have EV6 := hide (EV5.out.below hb)
  have BH6 := hide (BH5.out.below hb s5)
  have IH6 := hide (IH5.out.below hb (Nat.le_refl _))
  have s6 : pa < w6.heap.size := by have := hb.size; omega
  have hab : a * b ≤ 16777216 := by
    have := Nat.mul_le_mul hws.2.2.1 hws.2.2.2
    omega
  have hab0 : 0 < a * b := Nat.mul_pos hws.1 hws.2.1
  have hnI : (n : Int) = 4 * (a : Int) * (b : Int) := by
    have := H2.out
    unfold rightV at this
    simp at this
    exact this.2
  have hnN : n = 4 * (a * b) := by
    have : (n : Int) = ((4 * (a * b) : Nat) : Int) := by rw [hnI, Int.mul_assoc]; push_cast; rfl
    exact_mod_cast this
  rw [← hnN] at hcl ⊢
  have hnB : n ≤ 67108864 ∧ 0 < n := by omega
  have IT6 := hide (show Im w6 (.agg #[.int .i64 b, .int .i64 a, .slice (some ⟨g6, 0, none⟩) n c6]) b a n (turnN a b f) from
    ⟨_, _, rfl, Rd.of_cl hcl (by omega) (turnN_bd HF.out), by omega, by omega⟩)
  have hrt := hide (show rightV b a n = true by
    unfold rightV
    simp
    refine ⟨by omega, ?_⟩
    rw [hnI, Int.mul_assoc, Int.mul_comm (a : Int), ← Int.mul_assoc])
  have HNN := hide hnN
  clear hb hg hcl EV5 BH5 IH5 s5 k0 k1 k2 hnI hnN
  go_wp2_with fail
  refine (mhalf_cl IT6.out hrt.out).mono ?_
  rintro e w7 ⟨g7, c7, rfl, hg, hcl, hb⟩
  have hM : (4 * (q : Int) * (p : Int)).toNat = N := by
    have := HNI.out
    rw [Int.mul_assoc, Int.mul_comm (q : Int), ← Int.mul_assoc, ← this]
    omega
  rw [HP.out, HQ.out, hM] at hcl ⊢
  have EV7 := hide (EV6.out.below hb)
  have BH7 := hide (BH6.out.below hb s6)
  have IH7 := hide (IH6.out.below hb (Nat.le_refl _))
  have HCL := hide hcl
  have hgl : g7 < w7.heap.size := World.block_lt_of_cell? w7 _ (hcl 0 hNb.2).1
  have s7 : pa < w7.heap.size := by have := hb.size; omega
  clear hb hg hcl hM EV6 BH6 IH6 IT6 s6
  obtain ⟨k0, k1, k2⟩ := EV7.out.i.c3.1
  go_upto_region 7 with (fail)
  generalize hw8 : w7.alloc (.cells #[.int .i64 q, .int .i64 p, .slice (some ⟨g7, 0, none⟩) N c7] 24) = w8
  have hal : Below w7.heap.size w7 w8 := by rw [← hw8]; exact (Below.refl _ _).alloc (Nat.le_refl _) _
  have EV8 := hide (EV7.out.below hal)
  have BA8 := hide (BH7.out.below hal s7)
  have BB8 := hide (show Box w8 w7.heap.size #[.int .i64 q, .int .i64 p, .slice (some ⟨g7, 0, none⟩) N c7] by rw [← hw8]; exact Box.mk' rfl)
  have IA8 := hide (IH7.out.below hal (Nat.le_refl _))
  have IB8 := hide (show Im w8 (.agg #[.int .i64 q, .int .i64 p, .slice (some ⟨g7, 0, none⟩) N c7]) q p N (halfF b a (turnN a b f)) from
    ⟨_, _, rfl, Rd.of_cl (HCL.out.below hal hgl) (by omega) (halfF_bd (turnN_bd HF.out)), by omega, by omega⟩)
  have s8 : w7.heap.size < w8.heap.size := by
    have : w8.heap.size = w7.heap.size + 1 := by rw [← hw8]; simp
    omega
  clear hw8 hal EV7 HCL hgl BH7 IH7 k0 k1 k2
  generalize w7.heap.size = pb at *
  obtain ⟨m0, m1, m2⟩ := BA8.out.c3.1
  obtain ⟨l0, l1, l2⟩ := BB8.out.c3.1
  go_upto_region 9 with (fail)
  have hN4 : N = 4 * (p * q) := by
    have : (N : Int) = ((4 * (p * q) : Nat) : Int) := by rw [HNI.out, Int.mul_assoc]; push_cast; rfl
    exact_mod_cast this
  have HN4 := hide hN4
  clear m0 m1 m2 l0 l1 l2 hN4
  go_cut [11] from 22 to 54 (fun s11 wx => s11 = .bool true ∧ Below w8.heap.size w8 wx)
  case first =>
    refine wp_region_any (by kernel_rfl) ?_
    change wpAny _ _ _ _ _ _ _ (World.drew _)
    obtain ⟨wd, hwd⟩ : ∃ wd, wd = w8.drew := ⟨_, rfl⟩
    have BAd := hide (show Box wd pa #[.int .i64 p, .int .i64 q, .slice (some ⟨g, 0, none⟩) N c4] by rw [hwd]; exact BA8.out)
    have BBd := hide (show Box wd pb #[.int .i64 q, .int .i64 p, .slice (some ⟨g7, 0, none⟩) N c7] by rw [hwd]; exact BB8.out)
    have HBd := hide (show Below w8.heap.size w8 wd by rw [hwd]; exact (Below.refl _ w8).drew)
    have IAd := hide (IA8.out.below HBd.out (Nat.le_refl _))
    have IBd := hide (IB8.out.below HBd.out (Nat.le_refl _))
    have hptb : pb < wd.heap.size := by rw [hwd]; exact s8
    rw [← hwd]
    clear hwd EV8 BA8 BB8 IA8 IB8
    refine any_two (i := 0) (j := 2) (by kernel_rfl) ?_ ?_
    · refine op_val rfl (by kernel_rfl) (exec_load T24 (.tmp 7) (by kernel_rfl) ⟨pa, 0, none⟩ (by kernel_rfl) #[.int .i64 p, .int .i64 q, .slice (some ⟨g, 0, none⟩) N c4] rfl (BAd.out.cells)) ?_
      refine any_two (i := 1) (j := 2) (by kernel_rfl) ?_ ?_
      · refine op_call rfl (by kernel_rfl) (exec_call1 (.tmp 50) #[24] (by kernel_rfl) cf39 (v0 := .agg #[.int .i64 p, .int .i64 q, .slice (some ⟨g, 0, none⟩) N c4]) (by kernel_rfl)) ?_
        refine (turned_cl IAd.out hrh.out).mono ?_
        rintro e w9 ⟨g9, c9, rfl, hg, hcl, hb⟩
        refine ⟨_, rfl, ?_⟩
        rw [← HN4.out] at hcl ⊢
        have IT9 := hide (turn_half hcl HF.out hws.1 hws.2.1 HP.out HQ.out HN4.out (by omega) hp1.2 hq1.2 (cap := c9))
        have IB9 := hide (IBd.out.below hb (Nat.le_refl _))
        have BB9 := hide (BBd.out.below hb hptb)
        have HB9 := hide hb
        clear hcl hg hb
        refine any_one (i := 2) (by kernel_rfl) ?_
        refine op_val rfl (by kernel_rfl) (exec_load T24 (.tmp 9) (by kernel_rfl) ⟨pb, 0, none⟩ (by kernel_rfl) #[.int .i64 q, .int .i64 p, .slice (some ⟨g7, 0, none⟩) N c7] rfl (BB9.out.cells)) ?_
        refine any_one (i := 3) (by kernel_rfl) ?_
        refine op_call rfl (by kernel_rfl) (exec_call2 (.tmp 51) (.tmp 52) #[24, 24] (by kernel_rfl) cf14 (v0 := .agg #[.int .i64 q, .int .i64 p, .slice (some ⟨g9, 0, none⟩) N c9]) (v1 := .agg #[.int .i64 q, .int .i64 p, .slice (some ⟨g7, 0, none⟩) N c7]) (by kernel_rfl) (by kernel_rfl)) ?_
        refine (rsame_self IT9.out IB9.out).mono ?_
        rintro e w10 ⟨rfl, hb⟩
        refine ⟨_, rfl, ?_⟩
        have HB10 := hide (HBd.out.trans ((HB9.out.trans (hb.mono HB9.out.size)).mono HBd.out.size))
        clear hb IT9 IB9
        refine wpAny_take (i := 4) (v := ?v4a) rfl (by kernel_rfl) (by kernel_rfl) (by kernel_rfl) (fun _ _ _ h => h) (Or.inl ⟨by rfl, ?y4a⟩) ?_
        case y4a => intro w'; go_simp; first | done | with_reducible rfl
        refine wpAny_done (by kernel_rfl) ?_ _
        go_wp2_with fail
        go_meet
        exact ⟨rfl, HB10.out⟩
      · refine op_val rfl (by kernel_rfl) (exec_load T24 (.tmp 9) (by kernel_rfl) ⟨pb, 0, none⟩ (by kernel_rfl) #[.int .i64 q, .int .i64 p, .slice (some ⟨g7, 0, none⟩) N c7] rfl (BBd.out.cells)) ?_
        refine any_one (i := 1) (by kernel_rfl) ?_
        refine op_call rfl (by kernel_rfl) (exec_call1 (.tmp 50) #[24] (by kernel_rfl) cf39 (v0 := .agg #[.int .i64 p, .int .i64 q, .slice (some ⟨g, 0, none⟩) N c4]) (by kernel_rfl)) ?_
        refine (turned_cl IAd.out hrh.out).mono ?_
        rintro e w9 ⟨g9, c9, rfl, hg, hcl, hb⟩
        refine ⟨_, rfl, ?_⟩
        rw [← HN4.out] at hcl ⊢
        have IT9 := hide (turn_half hcl HF.out hws.1 hws.2.1 HP.out HQ.out HN4.out (by omega) hp1.2 hq1.2 (cap := c9))
        have IB9 := hide (IBd.out.below hb (Nat.le_refl _))
        have BB9 := hide (BBd.out.below hb hptb)
        have HB9 := hide hb
        clear hcl hg hb
        refine any_one (i := 3) (by kernel_rfl) ?_
        refine op_call rfl (by kernel_rfl) (exec_call2 (.tmp 51) (.tmp 52) #[24, 24] (by kernel_rfl) cf14 (v0 := .agg #[.int .i64 q, .int .i64 p, .slice (some ⟨g9, 0, none⟩) N c9]) (v1 := .agg #[.int .i64 q, .int .i64 p, .slice (some ⟨g7, 0, none⟩) N c7]) (by kernel_rfl) (by kernel_rfl)) ?_
        refine (rsame_self IT9.out IB9.out).mono ?_
        rintro e w10 ⟨rfl, hb⟩
        refine ⟨_, rfl, ?_⟩
        have HB10 := hide (HBd.out.trans ((HB9.out.trans (hb.mono HB9.out.size)).mono HBd.out.size))
        clear hb IT9 IB9
        refine wpAny_take (i := 4) (v := ?v4b) rfl (by kernel_rfl) (by kernel_rfl) (by kernel_rfl) (fun _ _ _ h => h) (Or.inl ⟨by rfl, ?y4b⟩) ?_
        case y4b => intro w'; go_simp; first | done | with_reducible rfl
        refine wpAny_done (by kernel_rfl) ?_ _
        go_wp2_with fail
        go_meet
        exact ⟨rfl, HB10.out⟩
    · refine op_val rfl (by kernel_rfl) (exec_load T24 (.tmp 9) (by kernel_rfl) ⟨pb, 0, none⟩ (by kernel_rfl) #[.int .i64 q, .int .i64 p, .slice (some ⟨g7, 0, none⟩) N c7] rfl (BBd.out.cells)) ?_
      refine any_one (i := 0) (by kernel_rfl) ?_
      refine op_val rfl (by kernel_rfl) (exec_load T24 (.tmp 7) (by kernel_rfl) ⟨pa, 0, none⟩ (by kernel_rfl) #[.int .i64 p, .int .i64 q, .slice (some ⟨g, 0, none⟩) N c4] rfl (BAd.out.cells)) ?_
      refine any_one (i := 1) (by kernel_rfl) ?_
      refine op_call rfl (by kernel_rfl) (exec_call1 (.tmp 50) #[24] (by kernel_rfl) cf39 (v0 := .agg #[.int .i64 p, .int .i64 q, .slice (some ⟨g, 0, none⟩) N c4]) (by kernel_rfl)) ?_
      refine (turned_cl IAd.out hrh.out).mono ?_
      rintro e w9 ⟨g9, c9, rfl, hg, hcl, hb⟩
      refine ⟨_, rfl, ?_⟩
      rw [← HN4.out] at hcl ⊢
      have IT9 := hide (turn_half hcl HF.out hws.1 hws.2.1 HP.out HQ.out HN4.out (by omega) hp1.2 hq1.2 (cap := c9))
      have IB9 := hide (IBd.out.below hb (Nat.le_refl _))
      have BB9 := hide (BBd.out.below hb hptb)
      have HB9 := hide hb
      clear hcl hg hb
      refine any_one (i := 3) (by kernel_rfl) ?_
      refine op_call rfl (by kernel_rfl) (exec_call2 (.tmp 51) (.tmp 52) #[24, 24] (by kernel_rfl) cf14 (v0 := .agg #[.int .i64 q, .int .i64 p, .slice (some ⟨g9, 0, none⟩) N c9]) (v1 := .agg #[.int .i64 q, .int .i64 p, .slice (some ⟨g7, 0, none⟩) N c7]) (by kernel_rfl) (by kernel_rfl)) ?_
      refine (rsame_self IT9.out IB9.out).mono ?_
      rintro e w10 ⟨rfl, hb⟩
      refine ⟨_, rfl, ?_⟩
      have HB10 := hide (HBd.out.trans ((HB9.out.trans (hb.mono HB9.out.size)).mono HBd.out.size))
      clear hb IT9 IB9
      refine wpAny_take (i := 4) (v := ?v4c) rfl (by kernel_rfl) (by kernel_rfl) (by kernel_rfl) (fun _ _ _ h => h) (Or.inl ⟨by rfl, ?y4c⟩) ?_
      case y4c => intro w'; go_simp; first | done | with_reducible rfl
      refine wpAny_done (by kernel_rfl) ?_ _
      go_wp2_with fail
      go_meet
      exact ⟨rfl, HB10.out⟩
  case rest =>
    obtain ⟨rfl, hb⟩ := hcut
    have EV9 := hide (EV8.out.below hb)
    clear hb EV8 BA8 BB8 IA8 IB8 s8
    obtain ⟨k0, k1, k2⟩ := EV9.out.i.c3.1
    have hsz := hide (show sizedV a b = true by unfold sizedV; simp; omega)
    have hnI : (n : Int) = 4 * (a : Int) * (b : Int) := by rw [HNN.out, Int.mul_assoc]; push_cast; rfl
    have HNI2 := hide hnI
    clear hnI
    go_wp2_with fail
    refine (new_ok a b n wc hsz.out HNI2.out).mono ?_
    rintro e w10 ⟨g10, rfl, hg, hcl, hb⟩
    have EV10 := hide (EV9.out.below hb)
    have IF10 := hide (show Im w10 (.agg #[.int .i64 a, .int .i64 b, .slice (some ⟨g10, 0, none⟩) n n]) a b n (paintF t 0) from
      ⟨_, _, rfl, Rd.of_cl (paintF_zero t ▸ hcl) (by omega) (fun i => by unfold paintF; split; exact colF_bd t i; omega), by omega, by omega⟩)
    clear hg hcl hb EV9 k0 k1 k2
    go_upto_region 11 with (fail)
    obtain ⟨w11, hw11⟩ : ∃ w11, w11 = w10.alloc (.cells #[.int .i64 a, .int .i64 b, .slice (some ⟨g10, 0, none⟩) n n] 24) := ⟨_, rfl⟩
    rw [← hw11]
    have hal : Below w10.heap.size w10 w11 := by rw [hw11]; exact (Below.refl _ _).alloc (Nat.le_refl _) _
    have EV11 := hide (EV10.out.below hal)
    have BF11 := hide (show Box w11 w10.heap.size #[.int .i64 a, .int .i64 b, .slice (some ⟨g10, 0, none⟩) n n] by rw [hw11]; exact Box.mk' rfl)
    have IF11 := hide (IF10.out.below hal (Nat.le_refl _))
    have s11 : w10.heap.size < w11.heap.size := by rw [hw11]; simp
    have s12 : w.heap.size + 2 ≤ w10.heap.size := EV10.out.sz
    clear hw11 hal EV10 IF10
    generalize w10.heap.size = pf at *
    go_wp2_with fail
    go_loopw [14] (fun y' wr => ∃ y : Nat, y ≤ b ∧ y' = .int .i64 y ∧ FlatR w11 a b n t pf (y * a) wr) (fun y' _ => b - (intOf y').toNat)
    case atStart => exact ⟨0, by omega, rfl, _, _, by rw [Nat.zero_mul]; exact IF11.out, BF11.out, Below.refl _ _, s11⟩
    case round =>
      obtain ⟨y, hyb, rfl, hfl⟩ := hrel
      have HFl := hide hfl
      have EVr := hide (EV11.out.other (by obtain ⟨_, _, _, _, h, _⟩ := hfl; exact h) s12)
      clear hfl
      obtain ⟨k0, k1, k2⟩ := EVr.out.i.c3.1
      by_cases hlt : y < b
      · have dy : decide (y < b) = true := by simpa using hlt
        go_wp2_with fail
        clear k0 k1 k2 EVr
        go_loopw [15] (fun x' wr => ∃ x : Nat, x ≤ a ∧ x' = .int .i64 x ∧ FlatR w11 a b n t pf (y * a + x) wr) (fun x' _ => a - (intOf x').toNat)
        case atStart => exact ⟨0, by omega, rfl, by rw [Nat.add_zero]; exact HFl.out⟩
        case round =>
          obtain ⟨x, hxa, rfl, hfl⟩ := hrel
          have HFx := hide hfl
          have EVr := hide (EV11.out.other (by obtain ⟨_, _, _, _, h, _⟩ := hfl; exact h) s12)
          clear hfl
          obtain ⟨k0, k1, k2⟩ := EVr.out.i.c3.1
          by_cases hltx : x < a
          · have dx : decide (x < a) = true := by simpa using hltx
            obtain ⟨aof, capf, himf, hbf, hbwf, hpf⟩ := HFx.out
            obtain ⟨t0, t1, t2, t3⟩ := EVr.out.a.c4.1
            obtain ⟨m0, m1, m2⟩ := hbf.c3.1
            have HIM := hide himf
            have HBF := hide hbf
            have HBW := hide hbwf
            clear himf hbf hbwf HFx
            go_wp2_with fail
            refine (put_any (x : Int) (y : Int) (t := t) HIM.out).mono ?_
            intro e w15 hp
            obtain ⟨v', rfl, hout, hb⟩ := hp
            have hin : (rightV a b n && inV x y a b) = true := by rw [H2.out]; unfold inV; simp; omega
            rw [hin] at hout ⊢
            have hpl : (4 * ((y : Int) * a + x)).toNat = 4 * (y * a + x) := by
              have : (4 * ((y : Int) * (a : Int) + x)) = ((4 * (y * a + x) : Nat) : Int) := by push_cast; rfl
              rw [this, Int.toNat_natCast]
            rw [hpl, paintF_next] at hout
            simp only [Out, if_true] at hout
            have HIM2 := hide hout
            obtain ⟨ao2, cap2, rfl, _, _, _⟩ := hout
            have HBF2 := hide (HBF.out.below hb hpf)
            have HBW2 := hide (HBW.out.trans (hb.mono (by omega)))
            have hp2 : pf < w15.heap.size := by have := hb.size; omega
            clear hb hin hpl HIM HBF HBW k0 k1 k2 t0 t1 t2 t3 m0 m1 m2 EVr
            obtain ⟨⟨m0, m1, m2⟩, mf0, mf1, mf2⟩ := HBF2.out.c3
            go_wp2_with fail
            refine ⟨⟨x + 1, by omega, by go_num, ao2, cap2, HIM2.out.put3 HBF2.out, HBF2.out.put3, ((HBW2.out.setCell (Nat.le_refl _) _).setCell (Nat.le_refl _) _).setCell (Nat.le_refl _) _, by simpa [World.setCell] using hp2⟩, by simp [intOf]; omega⟩
          · obtain rfl : x = a := by omega
            go_wp2_with fail
            exact ⟨⟨y + 1, by omega, by go_num, by rw [Nat.add_mul, Nat.one_mul]; exact HFx.out⟩, by simp [intOf]; omega⟩
      · obtain rfl : y = b := by omega
        obtain ⟨aof, capf, himf, hbf, hbwf, hpf⟩ := HFl.out
        have HIF := hide (himf.congr (colF_bd t) (fun i hi => by unfold paintF; rw [if_pos (by have := HNN.out; rw [Nat.mul_comm y a]; omega)]))
        have HBF := hide hbf
        clear himf hbf hbwf HFl EV11 IF11 BF11
        obtain ⟨m0, m1, m2⟩ := HBF.out.c3.1
        go_upto_region 18 with (fail)
        clear k0 k1 k2 m0 m1 m2
        obtain ⟨kk, hlv, hk1, hk2⟩ := last_one (w := (a : Int)) (h := (y : Int)) (by omega) (by omega)
        have HLV := hide hlv
        have HK1 := hide hk1
        have HK2 := hide hk2
        have hkb : (kk : Int) + 1 ≤ 8192 := by have := levels_le (W := (a : Int)) (H := (y : Int)) (by omega) (by omega); omega
        clear hlv hk1 hk2
        go_cut [16, 17] from 82 to 92 (fun s16 s17 wx => s17 = .int .i64 0 ∧ ∃ gc capc, s16 = .slice (some ⟨gc, 0, none⟩) (kk + 1) capc ∧ LastR wx gc kk t ∧ Below wr.heap.size wr wx)
        case first =>
          refine wp_region_any (by kernel_rfl) ?_
          change wpAny _ _ _ _ _ _ _ (World.drew _)
          obtain ⟨wd, hwd⟩ : ∃ wd, wd = wr.drew := ⟨_, rfl⟩
          have HBd := hide (show Below wr.heap.size wr wd by rw [hwd]; exact (Below.refl _ wr).drew)
          have BFd := hide (HBF.out.below HBd.out hpf)
          have EVd := hide (EVr.out.below HBd.out)
          have IFd := hide (HIF.out.below HBd.out (Nat.le_refl _))
          have hpd : pf < wd.heap.size := by rw [hwd]; exact hpf
          rw [← hwd]
          clear hwd EVr HBF HIF
          refine wpAny_take (i := 1) (v := ?vr1) rfl (by kernel_rfl) (by kernel_rfl) (by kernel_rfl) (fun _ _ _ h => h) (Or.inl ⟨by rfl, ?yr1⟩) ?_
          case yr1 => intro w'; go_simp; first | done | with_reducible rfl
          refine wpAny_take (i := 3) (v := ?vr2) rfl (by kernel_rfl) (by kernel_rfl) (by kernel_rfl) (fun _ _ _ h => h) (Or.inl ⟨by rfl, ?yr2⟩) ?_
          case yr2 => intro w'; go_simp; first | done | with_reducible rfl
          refine any_three (i := 0) (j := 2) (k := 4) (by kernel_rfl) ?_ ?_ ?_
          · refine op_val rfl (by kernel_rfl) (exec_load T24 (.tmp 12) (by kernel_rfl) ⟨pf, 0, none⟩ (by kernel_rfl) #[.int .i64 a, .int .i64 y, .slice aof n capf] rfl (BFd.out.cells)) ?_
            refine any_two (i := 2) (j := 4) (by kernel_rfl) ?_ ?_
            · refine op_val rfl (by kernel_rfl) (exec_load3 (.tmp 84) (by kernel_rfl) ⟨w.heap.size, 0, none⟩ (by kernel_rfl) (EVd.out.i.c3.1.1)) ?_
              refine any_one (i := 4) (by kernel_rfl) ?_
              refine op_val rfl (by kernel_rfl) (exec_load3 (.tmp 86) (by kernel_rfl) ⟨w.heap.size, 1, none⟩ (by kernel_rfl) (EVd.out.i.c3.1.2.1)) ?_
              refine any_one (i := 5) (by kernel_rfl) ?_
              refine op_call rfl (by kernel_rfl) (exec_call2 (.tmp 85) (.tmp 87) #[3, 3] (by kernel_rfl) cf17 (v0 := .int .i64 a) (v1 := .int .i64 y) (by kernel_rfl) (by kernel_rfl)) ?_
              refine (levels_any a y _ (by omega) (by omega) (by omega) (by omega)).mono ?_
              rintro e we ⟨rfl, hb⟩
              refine ⟨_, rfl, ?_⟩
              rw [HLV.out]
              have BFe := hide (BFd.out.below hb hpd)
              have EVe := hide (EVd.out.below hb)
              have IFe := hide (IFd.out.below hb (Nat.le_refl _))
              have HBe := hide (HBd.out.trans (hb.mono HBd.out.size))
              clear hb
              refine any_one (i := 6) (by kernel_rfl) ?_
              refine op_call rfl (by kernel_rfl) (exec_call2 (.tmp 83) (.tmp 88) #[24, 3] (by kernel_rfl) cf15 (v0 := .agg #[.int .i64 a, .int .i64 y, .slice aof n capf]) (v1 := .int .i64 ((kk : Int) + 1)) (by kernel_rfl) (by kernel_rfl)) ?_
              refine (mchain_flat IFe.out H2.out HLV.out HK1.out HK2.out).mono ?_
              rintro e wg ⟨gc, capc, rfl, hlast, hb⟩
              refine ⟨_, rfl, ?_⟩
              have HLA := hide hlast
              have HBg := hide (HBe.out.trans (hb.mono HBe.out.size))
              clear hb hlast
              refine wpAny_take (i := 7) (v := ?vr3) rfl (by kernel_rfl) (by kernel_rfl) (by kernel_rfl) (fun _ _ _ h => h) (Or.inl ⟨by rfl, ?yr3⟩) ?_
              case yr3 => intro w'; go_simp; first | done | with_reducible rfl
              refine wpAny_take (i := 8) (v := ?vr4) rfl (by kernel_rfl) (by kernel_rfl) (by kernel_rfl) (fun _ _ _ h => h) (Or.inl ⟨by rfl, ?yr4⟩) ?_
              case yr4 => intro w'; go_simp; first | done | with_reducible rfl
              refine wpAny_take (i := 9) (v := ?vr5) rfl (by kernel_rfl) (by kernel_rfl) (by kernel_rfl) (fun _ _ _ h => h) (Or.inl ⟨by rfl, ?yr5⟩) ?_
              case yr5 => intro w'; go_simp; first | done | with_reducible rfl
              refine wpAny_take (i := 10) (v := ?vr6) rfl (by kernel_rfl) (by kernel_rfl) (by kernel_rfl) (fun _ _ _ h => h) (Or.inl ⟨by rfl, ?yr6⟩) ?_
              case yr6 => intro w'; go_simp; first | done | with_reducible rfl
              refine wpAny_take (i := 11) (v := ?vr7) rfl (by kernel_rfl) (by kernel_rfl) (by kernel_rfl) (fun _ _ _ h => h) (Or.inl ⟨by rfl, ?yr7⟩) ?_
              case yr7 => intro w'; go_simp; first | done | with_reducible rfl
              refine wpAny_done (by kernel_rfl) ?_ _
              simp only [Act.put, List.getElem_toArray, List.getElem_cons_succ, List.getElem_cons_zero, List.setIfInBounds_toArray, List.set_cons_zero, List.set_cons_succ]
              go_wp2_with fail
              go_meet
              exact ⟨rfl, gc, capc, rfl, HLA.out, HBg.out⟩
            · refine op_val rfl (by kernel_rfl) (exec_load3 (.tmp 86) (by kernel_rfl) ⟨w.heap.size, 1, none⟩ (by kernel_rfl) (EVd.out.i.c3.1.2.1)) ?_
              refine any_one (i := 2) (by kernel_rfl) ?_
              refine op_val rfl (by kernel_rfl) (exec_load3 (.tmp 84) (by kernel_rfl) ⟨w.heap.size, 0, none⟩ (by kernel_rfl) (EVd.out.i.c3.1.1)) ?_
              refine any_one (i := 5) (by kernel_rfl) ?_
              refine op_call rfl (by kernel_rfl) (exec_call2 (.tmp 85) (.tmp 87) #[3, 3] (by kernel_rfl) cf17 (v0 := .int .i64 a) (v1 := .int .i64 y) (by kernel_rfl) (by kernel_rfl)) ?_
              refine (levels_any a y _ (by omega) (by omega) (by omega) (by omega)).mono ?_
              rintro e we ⟨rfl, hb⟩
              refine ⟨_, rfl, ?_⟩
              rw [HLV.out]
              have BFe := hide (BFd.out.below hb hpd)
              have EVe := hide (EVd.out.below hb)
              have IFe := hide (IFd.out.below hb (Nat.le_refl _))
              have HBe := hide (HBd.out.trans (hb.mono HBd.out.size))
              clear hb
              refine any_one (i := 6) (by kernel_rfl) ?_
              refine op_call rfl (by kernel_rfl) (exec_call2 (.tmp 83) (.tmp 88) #[24, 3] (by kernel_rfl) cf15 (v0 := .agg #[.int .i64 a, .int .i64 y, .slice aof n capf]) (v1 := .int .i64 ((kk : Int) + 1)) (by kernel_rfl) (by kernel_rfl)) ?_
              refine (mchain_flat IFe.out H2.out HLV.out HK1.out HK2.out).mono ?_
              rintro e wg ⟨gc, capc, rfl, hlast, hb⟩
              refine ⟨_, rfl, ?_⟩
              have HLA := hide hlast
              have HBg := hide (HBe.out.trans (hb.mono HBe.out.size))
              clear hb hlast
              refine wpAny_take (i := 7) (v := ?vr8) rfl (by kernel_rfl) (by kernel_rfl) (by kernel_rfl) (fun _ _ _ h => h) (Or.inl ⟨by rfl, ?yr8⟩) ?_
              case yr8 => intro w'; go_simp; first | done | with_reducible rfl
              refine wpAny_take (i := 8) (v := ?vr9) rfl (by kernel_rfl) (by kernel_rfl) (by kernel_rfl) (fun _ _ _ h => h) (Or.inl ⟨by rfl, ?yr9⟩) ?_
              case yr9 => intro w'; go_simp; first | done | with_reducible rfl
              refine wpAny_take (i := 9) (v := ?vr10) rfl (by kernel_rfl) (by kernel_rfl) (by kernel_rfl) (fun _ _ _ h => h) (Or.inl ⟨by rfl, ?yr10⟩) ?_
              case yr10 => intro w'; go_simp; first | done | with_reducible rfl
              refine wpAny_take (i := 10) (v := ?vr11) rfl (by kernel_rfl) (by kernel_rfl) (by kernel_rfl) (fun _ _ _ h => h) (Or.inl ⟨by rfl, ?yr11⟩) ?_
              case yr11 => intro w'; go_simp; first | done | with_reducible rfl
              refine wpAny_take (i := 11) (v := ?vr12) rfl (by kernel_rfl) (by kernel_rfl) (by kernel_rfl) (fun _ _ _ h => h) (Or.inl ⟨by rfl, ?yr12⟩) ?_
              case yr12 => intro w'; go_simp; first | done | with_reducible rfl
              refine wpAny_done (by kernel_rfl) ?_ _
              simp only [Act.put, List.getElem_toArray, List.getElem_cons_succ, List.getElem_cons_zero, List.setIfInBounds_toArray, List.set_cons_zero, List.set_cons_succ]
              go_wp2_with fail
              go_meet
              exact ⟨rfl, gc, capc, rfl, HLA.out, HBg.out⟩
          · refine op_val rfl (by kernel_rfl) (exec_load3 (.tmp 84) (by kernel_rfl) ⟨w.heap.size, 0, none⟩ (by kernel_rfl) (EVd.out.i.c3.1.1)) ?_
            refine any_two (i := 0) (j := 4) (by kernel_rfl) ?_ ?_
            · refine op_val rfl (by kernel_rfl) (exec_load T24 (.tmp 12) (by kernel_rfl) ⟨pf, 0, none⟩ (by kernel_rfl) #[.int .i64 a, .int .i64 y, .slice aof n capf] rfl (BFd.out.cells)) ?_
              refine any_one (i := 4) (by kernel_rfl) ?_
              refine op_val rfl (by kernel_rfl) (exec_load3 (.tmp 86) (by kernel_rfl) ⟨w.heap.size, 1, none⟩ (by kernel_rfl) (EVd.out.i.c3.1.2.1)) ?_
              refine any_one (i := 5) (by kernel_rfl) ?_
              refine op_call rfl (by kernel_rfl) (exec_call2 (.tmp 85) (.tmp 87) #[3, 3] (by kernel_rfl) cf17 (v0 := .int .i64 a) (v1 := .int .i64 y) (by kernel_rfl) (by kernel_rfl)) ?_
              refine (levels_any a y _ (by omega) (by omega) (by omega) (by omega)).mono ?_
              rintro e we ⟨rfl, hb⟩
              refine ⟨_, rfl, ?_⟩
              rw [HLV.out]
              have BFe := hide (BFd.out.below hb hpd)
              have EVe := hide (EVd.out.below hb)
              have IFe := hide (IFd.out.below hb (Nat.le_refl _))
              have HBe := hide (HBd.out.trans (hb.mono HBd.out.size))
              clear hb
              refine any_one (i := 6) (by kernel_rfl) ?_
              refine op_call rfl (by kernel_rfl) (exec_call2 (.tmp 83) (.tmp 88) #[24, 3] (by kernel_rfl) cf15 (v0 := .agg #[.int .i64 a, .int .i64 y, .slice aof n capf]) (v1 := .int .i64 ((kk : Int) + 1)) (by kernel_rfl) (by kernel_rfl)) ?_
              refine (mchain_flat IFe.out H2.out HLV.out HK1.out HK2.out).mono ?_
              rintro e wg ⟨gc, capc, rfl, hlast, hb⟩
              refine ⟨_, rfl, ?_⟩
              have HLA := hide hlast
              have HBg := hide (HBe.out.trans (hb.mono HBe.out.size))
              clear hb hlast
              refine wpAny_take (i := 7) (v := ?vr13) rfl (by kernel_rfl) (by kernel_rfl) (by kernel_rfl) (fun _ _ _ h => h) (Or.inl ⟨by rfl, ?yr13⟩) ?_
              case yr13 => intro w'; go_simp; first | done | with_reducible rfl
              refine wpAny_take (i := 8) (v := ?vr14) rfl (by kernel_rfl) (by kernel_rfl) (by kernel_rfl) (fun _ _ _ h => h) (Or.inl ⟨by rfl, ?yr14⟩) ?_
              case yr14 => intro w'; go_simp; first | done | with_reducible rfl
              refine wpAny_take (i := 9) (v := ?vr15) rfl (by kernel_rfl) (by kernel_rfl) (by kernel_rfl) (fun _ _ _ h => h) (Or.inl ⟨by rfl, ?yr15⟩) ?_
              case yr15 => intro w'; go_simp; first | done | with_reducible rfl
              refine wpAny_take (i := 10) (v := ?vr16) rfl (by kernel_rfl) (by kernel_rfl) (by kernel_rfl) (fun _ _ _ h => h) (Or.inl ⟨by rfl, ?yr16⟩) ?_
              case yr16 => intro w'; go_simp; first | done | with_reducible rfl
              refine wpAny_take (i := 11) (v := ?vr17) rfl (by kernel_rfl) (by kernel_rfl) (by kernel_rfl) (fun _ _ _ h => h) (Or.inl ⟨by rfl, ?yr17⟩) ?_
              case yr17 => intro w'; go_simp; first | done | with_reducible rfl
              refine wpAny_done (by kernel_rfl) ?_ _
              simp only [Act.put, List.getElem_toArray, List.getElem_cons_succ, List.getElem_cons_zero, List.setIfInBounds_toArray, List.set_cons_zero, List.set_cons_succ]
              go_wp2_with fail
              go_meet
              exact ⟨rfl, gc, capc, rfl, HLA.out, HBg.out⟩
            · refine op_val rfl (by kernel_rfl) (exec_load3 (.tmp 86) (by kernel_rfl) ⟨w.heap.size, 1, none⟩ (by kernel_rfl) (EVd.out.i.c3.1.2.1)) ?_
              refine any_two (i := 0) (j := 5) (by kernel_rfl) ?_ ?_
              · refine op_val rfl (by kernel_rfl) (exec_load T24 (.tmp 12) (by kernel_rfl) ⟨pf, 0, none⟩ (by kernel_rfl) #[.int .i64 a, .int .i64 y, .slice aof n capf] rfl (BFd.out.cells)) ?_
                refine any_one (i := 5) (by kernel_rfl) ?_
                refine op_call rfl (by kernel_rfl) (exec_call2 (.tmp 85) (.tmp 87) #[3, 3] (by kernel_rfl) cf17 (v0 := .int .i64 a) (v1 := .int .i64 y) (by kernel_rfl) (by kernel_rfl)) ?_
                refine (levels_any a y _ (by omega) (by omega) (by omega) (by omega)).mono ?_
                rintro e we ⟨rfl, hb⟩
                refine ⟨_, rfl, ?_⟩
                rw [HLV.out]
                have BFe := hide (BFd.out.below hb hpd)
                have EVe := hide (EVd.out.below hb)
                have IFe := hide (IFd.out.below hb (Nat.le_refl _))
                have HBe := hide (HBd.out.trans (hb.mono HBd.out.size))
                clear hb
                refine any_one (i := 6) (by kernel_rfl) ?_
                refine op_call rfl (by kernel_rfl) (exec_call2 (.tmp 83) (.tmp 88) #[24, 3] (by kernel_rfl) cf15 (v0 := .agg #[.int .i64 a, .int .i64 y, .slice aof n capf]) (v1 := .int .i64 ((kk : Int) + 1)) (by kernel_rfl) (by kernel_rfl)) ?_
                refine (mchain_flat IFe.out H2.out HLV.out HK1.out HK2.out).mono ?_
                rintro e wg ⟨gc, capc, rfl, hlast, hb⟩
                refine ⟨_, rfl, ?_⟩
                have HLA := hide hlast
                have HBg := hide (HBe.out.trans (hb.mono HBe.out.size))
                clear hb hlast
                refine wpAny_take (i := 7) (v := ?vr18) rfl (by kernel_rfl) (by kernel_rfl) (by kernel_rfl) (fun _ _ _ h => h) (Or.inl ⟨by rfl, ?yr18⟩) ?_
                case yr18 => intro w'; go_simp; first | done | with_reducible rfl
                refine wpAny_take (i := 8) (v := ?vr19) rfl (by kernel_rfl) (by kernel_rfl) (by kernel_rfl) (fun _ _ _ h => h) (Or.inl ⟨by rfl, ?yr19⟩) ?_
                case yr19 => intro w'; go_simp; first | done | with_reducible rfl
                refine wpAny_take (i := 9) (v := ?vr20) rfl (by kernel_rfl) (by kernel_rfl) (by kernel_rfl) (fun _ _ _ h => h) (Or.inl ⟨by rfl, ?yr20⟩) ?_
                case yr20 => intro w'; go_simp; first | done | with_reducible rfl
                refine wpAny_take (i := 10) (v := ?vr21) rfl (by kernel_rfl) (by kernel_rfl) (by kernel_rfl) (fun _ _ _ h => h) (Or.inl ⟨by rfl, ?yr21⟩) ?_
                case yr21 => intro w'; go_simp; first | done | with_reducible rfl
                refine wpAny_take (i := 11) (v := ?vr22) rfl (by kernel_rfl) (by kernel_rfl) (by kernel_rfl) (fun _ _ _ h => h) (Or.inl ⟨by rfl, ?yr22⟩) ?_
                case yr22 => intro w'; go_simp; first | done | with_reducible rfl
                refine wpAny_done (by kernel_rfl) ?_ _
                simp only [Act.put, List.getElem_toArray, List.getElem_cons_succ, List.getElem_cons_zero, List.setIfInBounds_toArray, List.set_cons_zero, List.set_cons_succ]
                go_wp2_with fail
                go_meet
                exact ⟨rfl, gc, capc, rfl, HLA.out, HBg.out⟩
              · refine op_call rfl (by kernel_rfl) (exec_call2 (.tmp 85) (.tmp 87) #[3, 3] (by kernel_rfl) cf17 (v0 := .int .i64 a) (v1 := .int .i64 y) (by kernel_rfl) (by kernel_rfl)) ?_
                refine (levels_any a y _ (by omega) (by omega) (by omega) (by omega)).mono ?_
                rintro e we ⟨rfl, hb⟩
                refine ⟨_, rfl, ?_⟩
                rw [HLV.out]
                have BFe := hide (BFd.out.below hb hpd)
                have EVe := hide (EVd.out.below hb)
                have IFe := hide (IFd.out.below hb (Nat.le_refl _))
                have HBe := hide (HBd.out.trans (hb.mono HBd.out.size))
                clear hb
                refine any_one (i := 0) (by kernel_rfl) ?_
                refine op_val rfl (by kernel_rfl) (exec_load T24 (.tmp 12) (by kernel_rfl) ⟨pf, 0, none⟩ (by kernel_rfl) #[.int .i64 a, .int .i64 y, .slice aof n capf] rfl (BFe.out.cells)) ?_
                refine any_one (i := 6) (by kernel_rfl) ?_
                refine op_call rfl (by kernel_rfl) (exec_call2 (.tmp 83) (.tmp 88) #[24, 3] (by kernel_rfl) cf15 (v0 := .agg #[.int .i64 a, .int .i64 y, .slice aof n capf]) (v1 := .int .i64 ((kk : Int) + 1)) (by kernel_rfl) (by kernel_rfl)) ?_
                refine (mchain_flat IFe.out H2.out HLV.out HK1.out HK2.out).mono ?_
                rintro e wg ⟨gc, capc, rfl, hlast, hb⟩
                refine ⟨_, rfl, ?_⟩
                have HLA := hide hlast
                have HBg := hide (HBe.out.trans (hb.mono HBe.out.size))
                clear hb hlast
                refine wpAny_take (i := 7) (v := ?vr23) rfl (by kernel_rfl) (by kernel_rfl) (by kernel_rfl) (fun _ _ _ h => h) (Or.inl ⟨by rfl, ?yr23⟩) ?_
                case yr23 => intro w'; go_simp; first | done | with_reducible rfl
                refine wpAny_take (i := 8) (v := ?vr24) rfl (by kernel_rfl) (by kernel_rfl) (by kernel_rfl) (fun _ _ _ h => h) (Or.inl ⟨by rfl, ?yr24⟩) ?_
                case yr24 => intro w'; go_simp; first | done | with_reducible rfl
                refine wpAny_take (i := 9) (v := ?vr25) rfl (by kernel_rfl) (by kernel_rfl) (by kernel_rfl) (fun _ _ _ h => h) (Or.inl ⟨by rfl, ?yr25⟩) ?_
                case yr25 => intro w'; go_simp; first | done | with_reducible rfl
                refine wpAny_take (i := 10) (v := ?vr26) rfl (by kernel_rfl) (by kernel_rfl) (by kernel_rfl) (fun _ _ _ h => h) (Or.inl ⟨by rfl, ?yr26⟩) ?_
                case yr26 => intro w'; go_simp; first | done | with_reducible rfl
                refine wpAny_take (i := 11) (v := ?vr27) rfl (by kernel_rfl) (by kernel_rfl) (by kernel_rfl) (fun _ _ _ h => h) (Or.inl ⟨by rfl, ?yr27⟩) ?_
                case yr27 => intro w'; go_simp; first | done | with_reducible rfl
                refine wpAny_done (by kernel_rfl) ?_ _
                simp only [Act.put, List.getElem_toArray, List.getElem_cons_succ, List.getElem_cons_zero, List.setIfInBounds_toArray, List.set_cons_zero, List.set_cons_succ]
                go_wp2_with fail
                go_meet
                exact ⟨rfl, gc, capc, rfl, HLA.out, HBg.out⟩
          · refine op_val rfl (by kernel_rfl) (exec_load3 (.tmp 86) (by kernel_rfl) ⟨w.heap.size, 1, none⟩ (by kernel_rfl) (EVd.out.i.c3.1.2.1)) ?_
            refine any_two (i := 0) (j := 2) (by kernel_rfl) ?_ ?_
            · refine op_val rfl (by kernel_rfl) (exec_load T24 (.tmp 12) (by kernel_rfl) ⟨pf, 0, none⟩ (by kernel_rfl) #[.int .i64 a, .int .i64 y, .slice aof n capf] rfl (BFd.out.cells)) ?_
              refine any_one (i := 2) (by kernel_rfl) ?_
              refine op_val rfl (by kernel_rfl) (exec_load3 (.tmp 84) (by kernel_rfl) ⟨w.heap.size, 0, none⟩ (by kernel_rfl) (EVd.out.i.c3.1.1)) ?_
              refine any_one (i := 5) (by kernel_rfl) ?_
              refine op_call rfl (by kernel_rfl) (exec_call2 (.tmp 85) (.tmp 87) #[3, 3] (by kernel_rfl) cf17 (v0 := .int .i64 a) (v1 := .int .i64 y) (by kernel_rfl) (by kernel_rfl)) ?_
              refine (levels_any a y _ (by omega) (by omega) (by omega) (by omega)).mono ?_
              rintro e we ⟨rfl, hb⟩
              refine ⟨_, rfl, ?_⟩
              rw [HLV.out]
              have BFe := hide (BFd.out.below hb hpd)
              have EVe := hide (EVd.out.below hb)
              have IFe := hide (IFd.out.below hb (Nat.le_refl _))
              have HBe := hide (HBd.out.trans (hb.mono HBd.out.size))
              clear hb
              refine any_one (i := 6) (by kernel_rfl) ?_
              refine op_call rfl (by kernel_rfl) (exec_call2 (.tmp 83) (.tmp 88) #[24, 3] (by kernel_rfl) cf15 (v0 := .agg #[.int .i64 a, .int .i64 y, .slice aof n capf]) (v1 := .int .i64 ((kk : Int) + 1)) (by kernel_rfl) (by kernel_rfl)) ?_
              refine (mchain_flat IFe.out H2.out HLV.out HK1.out HK2.out).mono ?_
              rintro e wg ⟨gc, capc, rfl, hlast, hb⟩
              refine ⟨_, rfl, ?_⟩
              have HLA := hide hlast
              have HBg := hide (HBe.out.trans (hb.mono HBe.out.size))
              clear hb hlast
              refine wpAny_take (i := 7) (v := ?vr28) rfl (by kernel_rfl) (by kernel_rfl) (by kernel_rfl) (fun _ _ _ h => h) (Or.inl ⟨by rfl, ?yr28⟩) ?_
              case yr28 => intro w'; go_simp; first | done | with_reducible rfl
              refine wpAny_take (i := 8) (v := ?vr29) rfl (by kernel_rfl) (by kernel_rfl) (by kernel_rfl) (fun _ _ _ h => h) (Or.inl ⟨by rfl, ?yr29⟩) ?_
              case yr29 => intro w'; go_simp; first | done | with_reducible rfl
              refine wpAny_take (i := 9) (v := ?vr30) rfl (by kernel_rfl) (by kernel_rfl) (by kernel_rfl) (fun _ _ _ h => h) (Or.inl ⟨by rfl, ?yr30⟩) ?_
              case yr30 => intro w'; go_simp; first | done | with_reducible rfl
              refine wpAny_take (i := 10) (v := ?vr31) rfl (by kernel_rfl) (by kernel_rfl) (by kernel_rfl) (fun _ _ _ h => h) (Or.inl ⟨by rfl, ?yr31⟩) ?_
              case yr31 => intro w'; go_simp; first | done | with_reducible rfl
              refine wpAny_take (i := 11) (v := ?vr32) rfl (by kernel_rfl) (by kernel_rfl) (by kernel_rfl) (fun _ _ _ h => h) (Or.inl ⟨by rfl, ?yr32⟩) ?_
              case yr32 => intro w'; go_simp; first | done | with_reducible rfl
              refine wpAny_done (by kernel_rfl) ?_ _
              simp only [Act.put, List.getElem_toArray, List.getElem_cons_succ, List.getElem_cons_zero, List.setIfInBounds_toArray, List.set_cons_zero, List.set_cons_succ]
              go_wp2_with fail
              go_meet
              exact ⟨rfl, gc, capc, rfl, HLA.out, HBg.out⟩
            · refine op_val rfl (by kernel_rfl) (exec_load3 (.tmp 84) (by kernel_rfl) ⟨w.heap.size, 0, none⟩ (by kernel_rfl) (EVd.out.i.c3.1.1)) ?_
              refine any_two (i := 0) (j := 5) (by kernel_rfl) ?_ ?_
              · refine op_val rfl (by kernel_rfl) (exec_load T24 (.tmp 12) (by kernel_rfl) ⟨pf, 0, none⟩ (by kernel_rfl) #[.int .i64 a, .int .i64 y, .slice aof n capf] rfl (BFd.out.cells)) ?_
                refine any_one (i := 5) (by kernel_rfl) ?_
                refine op_call rfl (by kernel_rfl) (exec_call2 (.tmp 85) (.tmp 87) #[3, 3] (by kernel_rfl) cf17 (v0 := .int .i64 a) (v1 := .int .i64 y) (by kernel_rfl) (by kernel_rfl)) ?_
                refine (levels_any a y _ (by omega) (by omega) (by omega) (by omega)).mono ?_
                rintro e we ⟨rfl, hb⟩
                refine ⟨_, rfl, ?_⟩
                rw [HLV.out]
                have BFe := hide (BFd.out.below hb hpd)
                have EVe := hide (EVd.out.below hb)
                have IFe := hide (IFd.out.below hb (Nat.le_refl _))
                have HBe := hide (HBd.out.trans (hb.mono HBd.out.size))
                clear hb
                refine any_one (i := 6) (by kernel_rfl) ?_
                refine op_call rfl (by kernel_rfl) (exec_call2 (.tmp 83) (.tmp 88) #[24, 3] (by kernel_rfl) cf15 (v0 := .agg #[.int .i64 a, .int .i64 y, .slice aof n capf]) (v1 := .int .i64 ((kk : Int) + 1)) (by kernel_rfl) (by kernel_rfl)) ?_
                refine (mchain_flat IFe.out H2.out HLV.out HK1.out HK2.out).mono ?_
                rintro e wg ⟨gc, capc, rfl, hlast, hb⟩
                refine ⟨_, rfl, ?_⟩
                have HLA := hide hlast
                have HBg := hide (HBe.out.trans (hb.mono HBe.out.size))
                clear hb hlast
                refine wpAny_take (i := 7) (v := ?vr33) rfl (by kernel_rfl) (by kernel_rfl) (by kernel_rfl) (fun _ _ _ h => h) (Or.inl ⟨by rfl, ?yr33⟩) ?_
                case yr33 => intro w'; go_simp; first | done | with_reducible rfl
                refine wpAny_take (i := 8) (v := ?vr34) rfl (by kernel_rfl) (by kernel_rfl) (by kernel_rfl) (fun _ _ _ h => h) (Or.inl ⟨by rfl, ?yr34⟩) ?_
                case yr34 => intro w'; go_simp; first | done | with_reducible rfl
                refine wpAny_take (i := 9) (v := ?vr35) rfl (by kernel_rfl) (by kernel_rfl) (by kernel_rfl) (fun _ _ _ h => h) (Or.inl ⟨by rfl, ?yr35⟩) ?_
                case yr35 => intro w'; go_simp; first | done | with_reducible rfl
                refine wpAny_take (i := 10) (v := ?vr36) rfl (by kernel_rfl) (by kernel_rfl) (by kernel_rfl) (fun _ _ _ h => h) (Or.inl ⟨by rfl, ?yr36⟩) ?_
                case yr36 => intro w'; go_simp; first | done | with_reducible rfl
                refine wpAny_take (i := 11) (v := ?vr37) rfl (by kernel_rfl) (by kernel_rfl) (by kernel_rfl) (fun _ _ _ h => h) (Or.inl ⟨by rfl, ?yr37⟩) ?_
                case yr37 => intro w'; go_simp; first | done | with_reducible rfl
                refine wpAny_done (by kernel_rfl) ?_ _
                simp only [Act.put, List.getElem_toArray, List.getElem_cons_succ, List.getElem_cons_zero, List.setIfInBounds_toArray, List.set_cons_zero, List.set_cons_succ]
                go_wp2_with fail
                go_meet
                exact ⟨rfl, gc, capc, rfl, HLA.out, HBg.out⟩
              · refine op_call rfl (by kernel_rfl) (exec_call2 (.tmp 85) (.tmp 87) #[3, 3] (by kernel_rfl) cf17 (v0 := .int .i64 a) (v1 := .int .i64 y) (by kernel_rfl) (by kernel_rfl)) ?_
                refine (levels_any a y _ (by omega) (by omega) (by omega) (by omega)).mono ?_
                rintro e we ⟨rfl, hb⟩
                refine ⟨_, rfl, ?_⟩
                rw [HLV.out]
                have BFe := hide (BFd.out.below hb hpd)
                have EVe := hide (EVd.out.below hb)
                have IFe := hide (IFd.out.below hb (Nat.le_refl _))
                have HBe := hide (HBd.out.trans (hb.mono HBd.out.size))
                clear hb
                refine any_one (i := 0) (by kernel_rfl) ?_
                refine op_val rfl (by kernel_rfl) (exec_load T24 (.tmp 12) (by kernel_rfl) ⟨pf, 0, none⟩ (by kernel_rfl) #[.int .i64 a, .int .i64 y, .slice aof n capf] rfl (BFe.out.cells)) ?_
                refine any_one (i := 6) (by kernel_rfl) ?_
                refine op_call rfl (by kernel_rfl) (exec_call2 (.tmp 83) (.tmp 88) #[24, 3] (by kernel_rfl) cf15 (v0 := .agg #[.int .i64 a, .int .i64 y, .slice aof n capf]) (v1 := .int .i64 ((kk : Int) + 1)) (by kernel_rfl) (by kernel_rfl)) ?_
                refine (mchain_flat IFe.out H2.out HLV.out HK1.out HK2.out).mono ?_
                rintro e wg ⟨gc, capc, rfl, hlast, hb⟩
                refine ⟨_, rfl, ?_⟩
                have HLA := hide hlast
                have HBg := hide (HBe.out.trans (hb.mono HBe.out.size))
                clear hb hlast
                refine wpAny_take (i := 7) (v := ?vr38) rfl (by kernel_rfl) (by kernel_rfl) (by kernel_rfl) (fun _ _ _ h => h) (Or.inl ⟨by rfl, ?yr38⟩) ?_
                case yr38 => intro w'; go_simp; first | done | with_reducible rfl
                refine wpAny_take (i := 8) (v := ?vr39) rfl (by kernel_rfl) (by kernel_rfl) (by kernel_rfl) (fun _ _ _ h => h) (Or.inl ⟨by rfl, ?yr39⟩) ?_
                case yr39 => intro w'; go_simp; first | done | with_reducible rfl
                refine wpAny_take (i := 9) (v := ?vr40) rfl (by kernel_rfl) (by kernel_rfl) (by kernel_rfl) (fun _ _ _ h => h) (Or.inl ⟨by rfl, ?yr40⟩) ?_
                case yr40 => intro w'; go_simp; first | done | with_reducible rfl
                refine wpAny_take (i := 10) (v := ?vr41) rfl (by kernel_rfl) (by kernel_rfl) (by kernel_rfl) (fun _ _ _ h => h) (Or.inl ⟨by rfl, ?yr41⟩) ?_
                case yr41 => intro w'; go_simp; first | done | with_reducible rfl
                refine wpAny_take (i := 11) (v := ?vr42) rfl (by kernel_rfl) (by kernel_rfl) (by kernel_rfl) (fun _ _ _ h => h) (Or.inl ⟨by rfl, ?yr42⟩) ?_
                case yr42 => intro w'; go_simp; first | done | with_reducible rfl
                refine wpAny_done (by kernel_rfl) ?_ _
                simp only [Act.put, List.getElem_toArray, List.getElem_cons_succ, List.getElem_cons_zero, List.setIfInBounds_toArray, List.set_cons_zero, List.set_cons_succ]
                go_wp2_with fail
                go_meet
                exact ⟨rfl, gc, capc, rfl, HLA.out, HBg.out⟩
        case rest =>
          obtain ⟨rfl, gc, capc, rfl, hlast, hb⟩ := hcut
          have HLA := hide hlast
          have BF2 := hide (HBF.out.below hb hpf)
          have EV2 := hide (EVr.out.below hb)
          have IF2 := hide (HIF.out.below hb (Nat.le_refl _))
          have hp2 : pf < wc.heap.size := by have := hb.size; omega
          clear hlast hb EVr HBF HIF hpf
          have hne : ((kk : Int) + 1 == 0) = false := by simp; omega
          obtain ⟨m0, m1, m2⟩ := BF2.out.c3.1
          go_wp2_with fail
          refine (at_any 0 0 IF2.out).mono ?_
          rintro e w20 ⟨rfl, hb⟩
          have hc4 : ∀ W : Int, texV (colF t) (4 * ((0 : Int) * W + 0)).toNat = four (colF t) := fun W => by
            rw [show (4 * ((0 : Int) * W + 0)).toNat = 0 by simp, four_tex]
            simp only [Nat.zero_add]
          have hat : atV a y 0 0 n (colF t) = (four (colF t), 0) := by rw [atV_in H2.out (by unfold inV; simp; omega), hc4]
          rw [hat]
          have HLB := hide (HLA.out.below hb)
          have EV3 := hide (EV2.out.below hb)
          have BF3 := hide (BF2.out.below hb hp2)
          clear hb hat m0 m1 m2 EV2 BF2 IF2 HLA hne
          obtain ⟨cv, hcv⟩ : ∃ cv, cv = colF t := ⟨_, rfl⟩
          rw [← hcv] at hc4 ⊢
          have HC4 := hide hc4
          have HCV := hide hcv
          clear hc4 hcv
          unfold four
          go_upto_region 22 with (fail)
          obtain ⟨w21, hw21⟩ : ∃ w21, w21 = w20.alloc (.cells #[.int .i64 (cv 0), .int .i64 (cv 1), .int .i64 (cv 2), .int .i64 (cv 3)] 38) := ⟨_, rfl⟩
          rw [← hw21]
          have hal : Below w20.heap.size w20 w21 := by rw [hw21]; exact (Below.refl _ _).alloc (Nat.le_refl _) _
          have BX := hide (show Box w21 w20.heap.size (four cv) by rw [hw21]; exact Box.mk' (by simp))
          have HLC := hide (HLB.out.below hal)
          have EV4 := hide (EV3.out.below hal)
          have sx : w20.heap.size < w21.heap.size := by rw [hw21]; simp
          clear hw21 hal HLB EV3 BF3
          generalize w20.heap.size = px at *
          obtain ⟨ap, cp, q0, q1, q2, hil⟩ := HLC.out
          have HIL := hide hil
          have kI0 : (0 : Int) ≤ (kk : Int) := by omega
          have kI1 : (kk : Int) < (kk : Int) + 1 := by omega
          clear hil
          go_wp2_with fail
          refine (at_any 0 0 HIL.out).mono ?_
          rintro e w22 ⟨rfl, hb⟩
          have hat : atV 1 1 0 0 4 (colF t) = (four (colF t), 0) := by
            rw [atV_in (by decide) (by decide), ← HCV.out]
            exact congrArg (·, (0 : Int)) (HC4.out 1)
          rw [hat, ← HCV.out]
          have HLD := hide (HLC.out.below hb)
          have EV5 := hide (EV4.out.below hb)
          have BX2 := hide (BX.out.below hb sx)
          have sx2 : px < w22.heap.size := by have := hb.size; omega
          clear hb hat q0 q1 q2 HIL HLC EV4 BX sx
          unfold four
          go_upto_region 23 with (fail)
          obtain ⟨w23, hw23⟩ : ∃ w23, w23 = w22.alloc (.cells #[.int .i64 (cv 0), .int .i64 (cv 1), .int .i64 (cv 2), .int .i64 (cv 3)] 38) := ⟨_, rfl⟩
          rw [← hw23]
          have hal : Below w22.heap.size w22 w23 := by rw [hw23]; exact (Below.refl _ _).alloc (Nat.le_refl _) _
          have BY := hide (show Box w23 w22.heap.size (four cv) by rw [hw23]; exact Box.mk' (by simp))
          have HLE := hide (HLD.out.below hal)
          have EV6 := hide (EV5.out.below hal)
          have BX3 := hide (BX2.out.below hal sx2)
          clear hw23 hal HLD EV5 BX2 sx2
          generalize w22.heap.size = py at *
          obtain ⟨ap2, cp2, q0, q1, q2, _⟩ := HLE.out
          obtain ⟨x0, x1, x2, x3⟩ := BX3.out.c4.1
          obtain ⟨z0, z1, z2, z3⟩ := BY.out.c4.1
          have E38 : ∀ w : World, (binOp .eql 38 (.agg #[.int .i64 (cv 0), .int .i64 (cv 1), .int .i64 (cv 2), .int .i64 (cv 3)]) (.agg #[.int .i64 (cv 0), .int .i64 (cv 1), .int .i64 (cv 2), .int .i64 (cv 3)])).run Try.prog w = .ok (.bool true) w := fun w => by
            have h := eq38' (four_ag cv) (four_ag cv) w
            rw [allEq_true (fun _ _ => rfl)] at h
            exact h
          go_wp2_with fail
          go_ret
          exact ⟨rfl, EV6.out.be⟩
end Go.Proofs.Ytmckfppemhnhmaa
