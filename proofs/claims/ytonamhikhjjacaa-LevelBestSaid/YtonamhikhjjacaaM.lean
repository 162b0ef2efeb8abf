import Derived.Test.YtonamhikhjjacaaL
namespace Go.Proofs.Ytonamhikhjjacaa
open Go.RowKit

theorem small_all {n : Nat} {f : Nat → Int} (h : allSmall n f = true) : (∀ i, i < n → sml (f i)) ∧ n ≤ 100 := by
  unfold allSmall at h
  have := of_decide_eq_true h
  exact ⟨fun i hi => by have h := this.1 i hi; unfold smallV at h; unfold sml; simpa using h, this.2⟩

set_option maxRecDepth 100000 in
set_option maxHeartbeats 3200000 in
theorem none_ok {n m : Nat} {f h : Nat → Int} {b off cap : Nat} {u : Value} {w : World} (hn : n ≤ 100) (hn1 : 1 ≤ n) (hc : ∀ i, i < n → w.cell? ⟨b, off + i, none⟩ = some (.int .i64 (f i))) (hu : RI w u m h) (at' : Int)
    (h1 : allSmall n f = true) (h2 : allSmall m h = true) :
    Calls Try.prog 6 #[.slice (some ⟨b, off, none⟩) n cap, u, .int .i64 at'] w fun e w' => e = .returned (.bool true) ∧ Below w.heap.size w w' := by
  have HV : Hid (RI w (.slice (some ⟨b, off, none⟩) n cap) n f) := ⟨_, _, rfl, by omega, fun _ => ⟨b, off, rfl, hc⟩⟩
  have HU := hide hu
  obtain ⟨s1, _⟩ := small_all h1
  obtain ⟨s2, hm⟩ := small_all h2
  obtain ⟨ao2, cap2, rfl, _, hc2⟩ := hu
  obtain ⟨k, hk⟩ : ∃ k, k = bestV n m f h := ⟨_, rfl⟩
  obtain ⟨b1, b2⟩ := best_facts n m f h hn1
  rw [← hk] at b1 b2
  have HK := hide hk
  have HA := hide h1
  have HB := hide h2
  have S1 := hide s1
  have S2 := hide s2
  have B2 := hide b2
  have HC := hide hc
  have HC2 := hide hc2
  have HC2w0 := hide hc
  clear hk h1 h2 s1 s2 b2 hc hc2
  have hsk := S1.out k b1
  unfold sml at hsk
  have SB := hide (fun i hi j hj => sumK_bd (f i) h m j hj (S1.out i hi).1 (S1.out i hi).2 S2.out)
  have hz0 : ((n : Int) == 0) = false := by simp; omega
  go_enter Try.func6, Try.ntmps6
  go_wp2_with fail
  refine (awake_any _).mono ?_
  rintro e w1 ⟨rfl, hb1⟩
  go_wp2_with fail
  refine (smalls_any n f _ _ (HV.out.below hb1 (Nat.le_refl _))).mono ?_
  rintro e w' ⟨rfl, rfl⟩
  rw [HA.out]
  go_wp2_with fail
  refine (smalls_any m h _ _ (HU.out.below hb1 (Nat.le_refl _))).mono ?_
  rintro e w' ⟨rfl, rfl⟩
  rw [HB.out]
  go_wp2_with fail
  refine (best_any n m f h _ _ _ (by omega) hm (HV.out.below hb1 (Nat.le_refl _)) (HU.out.below hb1 (Nat.le_refl _)) S1.out S2.out).mono ?_
  rintro e w2 ⟨rfl, hb2'⟩
  rw [← HK.out]
  have hb2 := hb1.trans (hb2'.mono hb1.size)
  clear hb2' hb1
  have HC2w : Hid (∀ i, i < n → w2.cell? ⟨b, off + i, none⟩ = some (.int .i64 (f i))) := fun i hi => (hb2.cell (by exact World.block_lt_of_cell? w _ (HC.out i hi))).trans (HC.out i hi)
  have HU2 := hide (HU.out.below hb2 (Nat.le_refl _))
  clear HC HC2 HU
  go_wp2_with fail
  go_loopw [11] (fun i wr => ∃ j : Nat, j ≤ n ∧ i = .int .i64 j ∧ Dr w2 wr) (fun i _ => n - (intOf i).toNat)
  case atStart => exact ⟨0, by omega, rfl, Dr.refl _⟩
  case round =>
    obtain ⟨i, hi, rfl, hdr⟩ := hrel
    by_cases hlt : i < n
    · obtain ⟨w3, rfl⟩ : ∃ w3 : World, w3 = wr := ⟨_, rfl⟩
      have hdi : decide ((i : Int) < (n : Int)) = true := by simp; omega
      have hsi := S1.out i hlt
      unfold sml at hsi
      go_wp2_with fail
      go_loopw [12, 13] (fun d j wr => ∃ q : Nat, q ≤ m ∧ j = .int .i64 q ∧ d = .int .i64 (sumK (f i) h q - sumK (f k) h q) ∧ Dr w2 wr) (fun _ j _ => m - (intOf j).toNat)
      case atStart => exact ⟨0, by omega, rfl, by simp [sumK], hdr⟩
      case round =>
        obtain ⟨q, hq, rfl, rfl, hdr2⟩ := hrel
        have g1 := SB.out i hlt q hq
        have g2 := SB.out k b1 q hq
        by_cases hltq : q < m
        · obtain ⟨_, _, e, _, hcc⟩ := HU2.out
          cases e
          obtain ⟨bb, oo, rfl, hl⟩ := hcc (by omega)
          have c1 := (hdr2.cell _).trans (HC2w.out i hlt)
          have c2 := (hdr2.cell _).trans (HC2w.out k b1)
          have c3 := (hdr2.cell _).trans (hl q hltq)
          clear hcc hl
          have hsq := S2.out q hltq
          unfold sml at hsq
          have x1 := sq_bd (n := f i - h q) (by omega) (by omega)
          have x2 := sq_bd (n := f k - h q) (by omega) (by omega)
          have y1 : IntKind.i64.wrap (f i - h q) = f i - h q := IntWalk.i64_in _ (by omega)
          have y2 : IntKind.i64.wrap (f k - h q) = f k - h q := IntWalk.i64_in _ (by omega)
          have z1 : 0 ≤ (i : Int) ∧ (i : Int) < (n : Int) := by omega
          have z2 : 0 ≤ (k : Int) ∧ (k : Int) < (n : Int) := by omega
          have z3 : 0 ≤ (q : Int) ∧ (q : Int) < (m : Int) := by omega
          go_wp2_with fail
          go_quiet (fail)
          go_wp2
          go_quiet (fail)
          go_wp2
          go_roundw
          case rel => exact ⟨q + 1, by omega, by go_num, by rw [sumK_sub], (hdr2.drewN _)⟩
          case measure => simp [intOf]; omega
        · obtain rfl : q = m := by omega
          have hb := B2.out i hlt
          by_cases hik : i < k
          · have hlt2 := hb.2 hik
            have t1 : decide (sumK (f i) h q - sumK (f k) h q < 0) = false := by simp; omega
            have t2 : (sumK (f i) h q - sumK (f k) h q == 0) = false := by simp; omega
            clear hb
            go_wp2_with fail
            go_roundw
            case rel => exact ⟨i + 1, by omega, by go_num, hdr2⟩
            case measure => simp [intOf]; omega
          · have hle := hb.1
            have t1 : decide (sumK (f i) h q - sumK (f k) h q < 0) = false := by simp; omega
            have t3 : decide ((i : Int) < (k : Int)) = false := by simp; omega
            clear hb
            by_cases hz : sumK (f i) h q - sumK (f k) h q = 0
            · have t2 : (sumK (f i) h q - sumK (f k) h q == 0) = true := by simpa using hz
              clear hz
              go_wp2_with fail
              go_roundw
              case rel => exact ⟨i + 1, by omega, by go_num, hdr2⟩
              case measure => simp [intOf]; omega
            · have t2 : (sumK (f i) h q - sumK (f k) h q == 0) = false := by simpa using hz
              clear hz
              go_wp2_with fail
              go_roundw
              case rel => exact ⟨i + 1, by omega, by go_num, hdr2⟩
              case measure => simp [intOf]; omega
    · obtain rfl : i = n := by omega
      have hb3 := hb2.trans (hdr.below _)
      by_cases hlo : at' < 0
      · go_wp2_with fail
        all_goals first | (exfalso; omega) | skip
        all_goals go_ret
        all_goals exact ⟨rfl, hb3⟩
      · by_cases hhi : (i : Int) ≤ at'
        · have t1 : decide (at' < 0) = false := by simp; omega
          go_wp2_with fail
          all_goals first | (exfalso; omega) | skip
          all_goals go_ret
          all_goals exact ⟨rfl, hb3⟩
        · obtain ⟨a, rfl⟩ := Int.eq_ofNat_of_zero_le (show 0 ≤ at' by omega)
          have hai : a < i := by omega
          have ca := (hdr.cell _).trans (HC2w.out a hai)
          have t1 : (decide ((a : Int) < 0) || decide ((i : Int) ≤ (a : Int))) = false := by simp; omega
          go_wp2_with fail
          have r3 := ri_new wr [.int .i64 (f a), .int .i64 (f a), .int .i64 (f a)] (fun _ => f a) 3 (by omega) (fun i hi => by match i, hi with | 0, _ => rfl | 1, _ => rfl | 2, _ => rfl)
          have hal : Below wr.heap.size wr (wr.alloc (.cells #[.int .i64 (f a), .int .i64 (f a), .int .i64 (f a)] 3)) := (Below.refl _ _).alloc (Nat.le_refl _) _
          have hb4 := hb3.trans (hal.mono hb3.size)
          refine (best_any i 3 f (fun _ => f a) _ _ _ (by omega) (by omega) (HV.out.below hb4 (Nat.le_refl _)) r3 S1.out (fun _ _ => S1.out a hai)).mono ?_
          rintro e w5 ⟨rfl, hb5'⟩
          obtain ⟨q1, _⟩ := best_facts i 3 f (fun _ => f a) (by omega)
          have hq := best_three i a f hai S1.out
          have hb5 := hb4.trans (hb5'.mono hb4.size)
          obtain ⟨q, hqq⟩ : ∃ q, q = bestV i 3 f (fun _ => f a) := ⟨_, rfl⟩
          rw [← hqq] at q1 hq ⊢
          have cq := (hb5.cell (by exact World.block_lt_of_cell? w _ (HC2w0.out q q1))).trans (HC2w0.out q q1)
          rw [hq] at cq
          clear hqq hq r3 hal hb4 hb5' ca hb3 hb2
          go_wp2_with fail
          go_ret
          exact ⟨rfl, hb5⟩

theorem none_any {n m : Nat} {f h : Nat → Int} {v u : Value} {w : World} (hv : RI w v n f) (hu : RI w u m h) (at' : Int) :
    Calls Try.prog 6 #[v, u, .int .i64 at'] w fun e w' => e = .returned (.bool true) ∧ Below w.heap.size w w' := by
  by_cases hno : allSmall n f = false ∨ allSmall m h = false ∨ n = 0
  · exact none_no hv hu at' hno
  · have h1 : allSmall n f = true := by
      cases e : allSmall n f
      · exact absurd (Or.inl e) hno
      · rfl
    have h2 : allSmall m h = true := by
      cases e : allSmall m h
      · exact absurd (Or.inr (Or.inl e)) hno
      · rfl
    obtain ⟨ao, cap, rfl, hn, hc⟩ := hv
    have h0 : 1 ≤ n := by
      by_cases e : n = 0
      · exact absurd (Or.inr (Or.inr e)) hno
      · omega
    obtain ⟨b, off, rfl, hcc⟩ := hc (by omega)
    exact none_ok (small_all h1).2 h0 hcc hu at' h1 h2
end Go.Proofs.Ytonamhikhjjacaa
