import Derived.Test.YtcppnangooldoaaF
namespace Go.Proofs.Ytcppnangooldoaa
open Go.RowKit

theorem pow_split (k : Nat) : (256 : Int) ^ (k + 1) = 256 ^ k * 256 := Int.pow_succ 256 k

theorem refN_put (f : Nat → Int) (a m : Nat) (big : Bool) (x : Int) (h0 : 0 ≤ x) (h1 : x < 256 ^ m) (k : Nat) (hk : k ≤ m) : refN (putK f a m big x m) a m big k = x / 256 ^ (m - k) := by
  induction k with
  | zero => simp only [refN, Nat.sub_zero]; rw [Int.ediv_eq_zero_of_lt h0 h1]
  | succ k ih =>
    simp only [refN]
    rw [ih (by omega)]
    have e : putK f a m big x m (if big then a + k else a + m - 1 - k) = digit x (m - (k + 1)) := by
      unfold putK
      cases big
      · simp only [Bool.false_eq_true, if_false]
        rw [if_pos (by omega), show a + m - 1 - k - a = m - (k + 1) by omega]
      · simp only [if_true]
        rw [if_pos (by omega), show m - 1 - (a + k - a) = m - (k + 1) by omega]
    rw [e, show m - k = m - (k + 1) + 1 by omega, pow_split, ← Int.ediv_ediv_of_nonneg (Int.pow_nonneg (by omega))]
    unfold digit
    omega

theorem get_put (f : Nat → Int) (n : Nat) (at' bytes x : Int) (big : Bool) (h : putE n at' bytes x = 0) : getV (putK f at'.toNat bytes.toNat big x bytes.toNat) n at' bytes big = (x, 0) := by
  unfold putE at h
  by_cases hc : chkV n at' bytes = 0
  · rw [if_pos hc] at h
    obtain ⟨g1, g2, g3, g4⟩ := chk_ok hc
    by_cases hx : x < 0 ∨ 256 ^ bytes.toNat ≤ x
    · rw [if_pos hx] at h; omega
    · unfold getV
      rw [if_pos hc, refN_put f _ _ big x (by omega) (by omega) _ (Nat.le_refl _)]
      simp
  · rw [if_neg hc] at h; exact absurd h hc

theorem put_turned (f : Nat → Int) (n a m : Nat) (big : Bool) (x : Int) (h : a + m ≤ n) (i : Nat) (hi : i < n) :
    putK f a m big x m i = putK (fun j => f (n - 1 - j)) (n - a - m) m (!big) x m (n - 1 - i) := by
  unfold putK
  by_cases h1 : a ≤ i ∧ i < a + m
  · rw [if_pos h1, if_pos (show n - a - m ≤ n - 1 - i ∧ n - 1 - i < n - a - m + m by omega)]
    cases big
    · simp only [Bool.not_false, if_true, Bool.false_eq_true, if_false]
      rw [show m - 1 - (n - 1 - i - (n - a - m)) = i - a by omega]
    · simp only [Bool.not_true, if_true, Bool.false_eq_true, if_false]
      rw [show n - 1 - i - (n - a - m) = m - 1 - (i - a) by omega]
  · rw [if_neg h1, if_neg (show ¬ (n - a - m ≤ n - 1 - i ∧ n - 1 - i < n - a - m + m) by omega)]
    show f i = f (n - 1 - (n - 1 - i))
    rw [show n - 1 - (n - 1 - i) = i by omega]

theorem putE_turned {n : Nat} {at' bytes x : Int} (h : putE n at' bytes x = 0) : putE n (n - at' - bytes) bytes x = 0 := by
  unfold putE at h ⊢
  by_cases hc : chkV n at' bytes = 0
  · rw [if_pos hc] at h
    obtain ⟨g1, g2, g3, g4⟩ := chk_ok hc
    have : chkV n (n - at' - bytes) bytes = 0 := by unfold chkV roomB; rw [if_neg (by omega), if_pos (by simp; omega)]
    rw [if_pos this]; exact h
  · rw [if_neg hc] at h; exact absurd h hc

def At3 (w : World) (A : Nat) (a0 a1 a2 : Int) : Prop := w.cell? ⟨A, 0, none⟩ = some (.int .i64 a0) ∧ w.cell? ⟨A, 1, none⟩ = some (.int .i64 a1) ∧ w.cell? ⟨A, 2, none⟩ = some (.int .i64 a2)
theorem At3.below {w w' : World} {A B : Nat} {a0 a1 a2 : Int} (h : At3 w A a0 a1 a2) (hb : Below B w w') (hB : A < B) : At3 w' A a0 a1 a2 :=
  ⟨(hb.cell (by exact hB)).trans h.1, (hb.cell (by exact hB)).trans h.2.1, (hb.cell (by exact hB)).trans h.2.2⟩
theorem At3.new (w : World) (t : TypeId) (a0 a1 a2 : Int) : At3 (w.alloc (.cells #[.int .i64 a0, .int .i64 a1, .int .i64 a2] t)) w.heap.size a0 a1 a2 := by
  unfold At3
  refine ⟨?_, ?_, ?_⟩ <;> rw [cell_of_row _ _ _ _ _ _ (heap_alloc_new w _)] <;> rfl

theorem putE_ok {n : Nat} {at' bytes x : Int} (h : putE n at' bytes x = 0) : 1 ≤ bytes ∧ bytes ≤ 4 ∧ 0 ≤ at' ∧ at' + bytes ≤ n := by
  unfold putE at h
  by_cases hc : chkV n at' bytes = 0
  · exact chk_ok hc
  · rw [if_neg hc] at h; exact absurd h hc
theorem putK_out {f : Nat → Int} {at' bytes : Nat} {big : Bool} {x : Int} {k i : Nat} (h : ¬ (at' ≤ i ∧ i < at' + k)) : putK f at' bytes big x k i = f i := by
  unfold putK; rw [if_neg h]

set_option maxRecDepth 100000 in
set_option maxHeartbeats 1600000 in
theorem back_ok {n : Nat} {f : Nat → Int} {b off cap : Nat} {w : World} (hn : n ≤ 300) (hf : ∀ i, 0 ≤ f i ∧ f i ≤ 255) (hc : ∀ i, i < n → w.cell? ⟨b, off + i, none⟩ = some (.int .u8 (f i))) (a m : Nat) (a2 : Int) (big : Bool)
    (h5 : -9223372036854775808 ≤ a2) (h6 : a2 ≤ 9223372036854775807)
    (hE : putE n a m a2 = 0) (g1 : 1 ≤ m) (g2 : m ≤ 4) (g4 : a + m ≤ n) :
    Calls Try.prog 4 #[.slice (some ⟨b, off, none⟩) n cap, .agg #[.int .i64 a, .int .i64 m, .int .i64 a2], .bool big] w fun e w' => e = .returned (.bool true) ∧ Below w.heap.size w w' := by
  have HE := hide hE
  have HT := hide (putE_turned hE)
  obtain ⟨i0, hi0, hz0, hz1, hz2⟩ := info_parts Try.info5
  have hg := get_put f n a m a2 big hE
  rw [Int.toNat_natCast, Int.toNat_natCast] at hg
  have HG := hide hg
  clear hE hg
  have HV : Hid (Rd w (.slice (some ⟨b, off, none⟩) n cap) n f) := ⟨_, _, rfl, by omega, hf, fun _ => ⟨b, off, rfl, hc⟩⟩
  have HC := hide hc
  clear hc
  go_enter Try.func4, Try.ntmps4
  go_wp2_with fail
  refine (awake_any _).mono ?_
  rintro e w1 ⟨rfl, hb0⟩
  have hb1 : Below w.heap.size w w1 := ((Below.refl _ _).alloc (Nat.le_refl _) _).trans (hb0.mono (by simp))
  have A1 := (At3.new w 28 a m a2).below hb0 (by simp)
  obtain ⟨c0, c1, c2⟩ := A1
  have hs1 : w.heap.size < w1.heap.size := by have := hb0.size; simp at this; omega
  clear hb0
  go_wp2_with fail
  refine (put_any (HV.out.below hb1 (Nat.le_refl _)) (by omega) a m a2 big (by omega) (by omega) (by omega) (by omega) h5 h6).mono ?_
  rintro e w2 ⟨v, rfl, hb2', hr0, _⟩
  have hr := hr0 HE.out
  clear hr0
  rw [HE.out]
  rw [Int.toNat_natCast, Int.toNat_natCast] at hr
  have hb2 : Below w.heap.size w w2 := hb1.trans (hb2'.mono hb1.size)
  have hs2 : w.heap.size < w2.heap.size := Nat.lt_of_lt_of_le hs1 hb2'.size
  obtain ⟨c0, c1, c2⟩ := At3.below ⟨c0, c1, c2⟩ hb2' hs1
  obtain ⟨ao2, cap2, rfl, hnn, hf2, hc2⟩ := hr
  obtain ⟨b2, off2, rfl, hcc2⟩ := hc2 (by omega)
  have hr : Rd w2 (.slice (some ⟨b2, off2, none⟩) n cap2) n (putK f a m big a2 m) := ⟨_, _, rfl, hnn, hf2, hc2⟩
  clear hb2' hb1 hc2 hf2
  go_wp2_with fail
  refine (get_any hr a m big (by omega) (by omega) (by omega) (by omega)).mono ?_
  rintro e w3 ⟨rfl, hd3⟩
  rw [HG.out]
  have hb3 : Below w.heap.size w w3 := hb2.trans (hd3.below _)
  have hs3 : w.heap.size < w3.heap.size := by rw [hd3.heap]; exact hs2
  obtain ⟨c0, c1, c2⟩ := At3.below ⟨c0, c1, c2⟩ (hd3.below _) hs2
  have HD : Hid (∀ i, i < n → w3.cell? ⟨b2, off2 + i, none⟩ = some (.int .u8 (putK f a m big a2 m i))) := fun i hi => (hd3.cell _).trans (hcc2 i hi)
  clear hr hd3 hb2 hcc2
  go_wp2_with fail
  go_loopw [12] (fun i wr => ∃ k : Nat, k ≤ n ∧ i = .int .i64 k ∧ Dr w3 wr) (fun i _ => n - (intOf i).toNat)
  case atStart => exact ⟨0, by omega, rfl, Dr.refl _⟩
  case round =>
    obtain ⟨k, hk, rfl, hdr⟩ := hrel
    have d0 := (hdr.cell _).trans c0
    have d1 := (hdr.cell _).trans c1
    have d2 := (hdr.cell _).trans c2
    clear c0 c1 c2
    by_cases hlt : k < n
    · have hcb : wr.cell? ⟨b, off + k, none⟩ = some (.int .u8 (f k)) := (hdr.cell _).trans ((hb3.cell (by exact World.block_lt_of_cell? w _ (HC.out k hlt))).trans (HC.out k hlt))
      have hcd := (hdr.cell _).trans (HD.out k hlt)
      have s1 : IntKind.i64.wrap ((a : Int) + (m : Int)) = (a : Int) + (m : Int) := IntWalk.i64_in _ (by omega)
      by_cases hin : a ≤ k ∧ k < a + m
      · have t1 : decide (k < a) = false := by simp; omega
        have t2 : decide ((a : Int) + (m : Int) ≤ (k : Int)) = false := by simp; omega
        go_wp2_with fail
        go_quiet (fail)
        go_wp2
        go_roundw
        case rel => exact ⟨k + 1, by omega, by go_num, hdr.drewN _⟩
        case measure => simp [intOf]; omega
      · rw [putK_out hin] at hcd
        by_cases hin2 : k < a
        · have t1 : decide (k < a) = true := by simp; omega
          go_wp2_with fail
          go_quiet (fail)
          go_wp2
          go_roundw
          case rel => exact ⟨k + 1, by omega, by go_num, hdr.drewN _⟩
          case measure => simp [intOf]; omega
        · have t1 : decide (k < a) = false := by simp; omega
          have t2 : decide ((a : Int) + (m : Int) ≤ (k : Int)) = true := by simp; omega
          go_wp2_with fail
          go_quiet (fail)
          go_wp2
          go_roundw
          case rel => exact ⟨k + 1, by omega, by go_num, hdr.drewN _⟩
          case measure => simp [intOf]; omega
    · obtain rfl : k = n := by omega
      obtain ⟨w4, rfl⟩ : ∃ w4 : World, w4 = wr := ⟨_, rfl⟩
      have hb4 : Below w.heap.size w w4 := hb3.trans (hdr.below _)
      have hs4 : w.heap.size < w4.heap.size := by rw [hdr.heap]; exact hs3
      have HB4 : Hid (∀ i, i < k → w4.cell? ⟨b, off + i, none⟩ = some (.int .u8 (f i))) := fun i hi => (hb4.cell (by exact World.block_lt_of_cell? w _ (HC.out i hi))).trans (HC.out i hi)
      have HD4 : Hid (∀ i, i < k → w4.cell? ⟨b2, off2 + i, none⟩ = some (.int .u8 (putK f a m big a2 m i))) := fun i hi => (hdr.cell _).trans (HD.out i hi)
      clear hdr hb3 hs3 HD
      go_wp2_with fail
      go_loopw [13, 14] (fun v i wr => ∃ j : Nat, j ≤ k ∧ i = .int .i64 ((k : Int) - 1 - (j : Int)) ∧ wr.ownsRow w4.heap.size 5 1 v j ((List.range j).map (fun i => Value.int .u8 (f (k - 1 - i)))) ∧ Below w4.heap.size w4 wr) (fun _ i _ => (intOf i + 1).toNat)
      case atStart => exact ⟨0, by omega, by simp, World.ownsRow_nil _ _ _ _, Below.refl _ _⟩
      case round =>
        obtain ⟨j, hj, rfl, hown, hbe⟩ := hrel
        by_cases hlj : j < k
        · have hcb : wr.cell? ⟨b, off + (k - 1 - j), none⟩ = some (.int .u8 (f (k - 1 - j))) := (hbe.cell (by exact World.block_lt_of_cell? w4 _ (HB4.out (k - 1 - j) (by omega)))).trans (HB4.out (k - 1 - j) (by omega))
          have e1 : ((k : Int) - 1 - (j : Int)).toNat = k - 1 - j := by omega
          go_wp2_with (at_builtin; refine wpList_append_own _ rfl _ _ 27 rfl w4.heap.size 5 i0 (.int .u8 0) 1 1 Try.underlying27 hi0 hz0 hz1 hz2 rfl (by decide) _ _ _ rfl (hown.alloc _) ⟨wr.heap.size, 0, none⟩ 1 1 [.int .u8 (f (k - 1 - j))] rfl rfl ?c1 ?c2 ?c3 ?c4 ?c5 ?_)
          case c1 =>
            intro i u hu
            match i, hu with
            | 0, hu => simp at hu; subst hu; simp [Addr.add]
          case c2 => intro u hu; simp at hu; subst hu; rfl
          case c3 => unfold maxLen; omega
          case c4 => omega
          case c5 => have := hbe.size; simp; omega
          intro v' w5 hown' hgrow _
          have hb5 : Below w4.heap.size w4 w5 := (hbe.alloc hbe.size _).grown hgrow (by have := hbe.size; simp; omega) (fun q e => (hown.lt q e).1)
          have hown5 : w5.ownsRow w4.heap.size 5 1 v' (j + 1) ((List.range (j + 1)).map (fun i => Value.int .u8 (f (k - 1 - i)))) := by
            rw [List.range_succ, List.map_append]; exact hown'
          have HO := hide hown5
          clear hown' hgrow hown hown5
          go_wp2
          go_roundw
          case rel => exact ⟨j + 1, by omega, by congr 1; omega, HO.out, hb5⟩
          case measure => simp [intOf]; omega
        · obtain rfl : j = k := by omega
          obtain ⟨w5, rfl⟩ : ∃ w5 : World, w5 = wr := ⟨_, rfl⟩
          obtain ⟨g, cap5, rfl, hbg, hcl⟩ := own_cl (f := fun i => f (j - 1 - i)) hown (by omega) (fun i hi => by
            rw [List.getElem?_map, List.getElem?_range hi]; rfl)
          have hr5 := Rd.of_cl (cap := cap5) hcl (by omega) (fun i => hf (j - 1 - i))
          obtain ⟨c0, c1, c2⟩ := At3.below ⟨d0, d1, d2⟩ hbe hs4
          have hb5 : Below w.heap.size w w5 := hb4.trans (hbe.mono hb4.size)
          have HD5 : Hid (∀ i, i < j → w5.cell? ⟨b2, off2 + i, none⟩ = some (.int .u8 (putK f a m big a2 m i))) := fun i hi => (hbe.cell (by exact World.block_lt_of_cell? w4 _ (HD4.out i hi))).trans (HD4.out i hi)
          clear hown hcl d0 d1 d2 hb4
          go_wp2_with fail
          have e1 : ((j : Int) - (a : Int) - (m : Int)) = ((j - a - m : Nat) : Int) := by omega
          refine (put_any hr5 (by omega) ((j : Int) - (a : Int) - (m : Int)) m a2 (!big) (by omega) (by omega) (by omega) (by omega) h5 h6).mono ?_
          rintro e w6 ⟨v, rfl, hb6', hr0, _⟩
          have hr := hr0 HT.out
          clear hr0
          rw [HT.out]
          rw [e1, Int.toNat_natCast, Int.toNat_natCast] at hr
          clear e1
          have hb6 : Below w.heap.size w w6 := hb5.trans (hb6'.mono hb5.size)
          obtain ⟨ao6, cap6, rfl, hnn, hf6, hc6⟩ := hr
          obtain ⟨b6, off6, rfl, hcc6⟩ := hc6 (by omega)
          have HD6 : Hid (∀ i, i < j → w6.cell? ⟨b2, off2 + i, none⟩ = some (.int .u8 (putK f a m big a2 m i))) := fun i hi => (hb6'.cell (by exact World.block_lt_of_cell? w5 _ (HD5.out i hi))).trans (HD5.out i hi)
          have HC6 := hide hcc6
          clear hc6 hcc6 hf6 hnn hr5 hb6' hb5
          go_wp2_with fail
          go_loopw [17] (fun i wr => ∃ k : Nat, k ≤ j ∧ i = .int .i64 k ∧ Dr w6 wr) (fun i _ => j - (intOf i).toNat)
          case atStart => exact ⟨0, by omega, rfl, Dr.refl _⟩
          case round =>
            obtain ⟨q, hq, rfl, hdr⟩ := hrel
            by_cases hlq : q < j
            · have hcd := (hdr.cell _).trans (HD6.out q hlq)
              have hce := (hdr.cell _).trans (HC6.out (j - 1 - q) (by omega))
              rw [← put_turned f j a m big a2 (by omega) q hlq] at hce
              have s1 : IntKind.i64.wrap ((j : Int) - 1) = (j : Int) - 1 := IntWalk.i64_in _ (by omega)
              have s2 : IntKind.i64.wrap ((j : Int) - 1 - (q : Int)) = (j : Int) - 1 - (q : Int) := IntWalk.i64_in _ (by omega)
              have s3 : 0 ≤ (j : Int) - 1 - (q : Int) := by omega
              have s4 : (j : Int) - 1 - (q : Int) < (j : Int) := by omega
              have s5 : ((j : Int) - 1 - (q : Int)).toNat = j - 1 - q := by omega
              go_wp2_with fail
              go_quiet (fail)
              go_wp2
              go_roundw
              case rel => exact ⟨q + 1, by omega, by go_num, hdr.drewN _⟩
              case measure => simp [intOf]; omega
            · obtain rfl : q = j := by omega
              go_wp2
              go_ret
              exact ⟨rfl, hb6.trans (hdr.below _)⟩

set_option maxRecDepth 100000 in
set_option maxHeartbeats 800000 in
theorem back_err {n : Nat} {f : Nat → Int} {ao : Option Addr} {cap : Nat} {w : World} (hv : Rd w (.slice ao n cap) n f) (hn : n ≤ 300) (a0 a1 a2 : Int) (big : Bool)
    (h1 : -9223372036854775808 ≤ a0) (h2 : a0 ≤ 9223372036854775807) (h3 : -9223372036854775808 ≤ a1) (h4 : a1 ≤ 9223372036854775807) (h5 : -9223372036854775808 ≤ a2) (h6 : a2 ≤ 9223372036854775807)
    (hE : putE n a0 a1 a2 ≠ 0) :
    Calls Try.prog 4 #[.slice ao n cap, .agg #[.int .i64 a0, .int .i64 a1, .int .i64 a2], .bool big] w fun e w' => e = .returned (.bool true) ∧ Below w.heap.size w w' := by
  have HE := hide hE
  have hz : (putE n a0 a1 a2 != 0) = true := by simpa using hE
  have HV := hide hv
  clear hv hE
  go_enter Try.func4, Try.ntmps4
  go_wp2_with fail
  refine (awake_any _).mono ?_
  rintro e w1 ⟨rfl, hb0⟩
  have hb1 : Below w.heap.size w w1 := ((Below.refl _ _).alloc (Nat.le_refl _) _).trans (hb0.mono (by simp))
  obtain ⟨c0, c1, c2⟩ := (At3.new w 28 a0 a1 a2).below hb0 (by simp)
  clear hb0
  go_wp2_with fail
  refine (put_any (HV.out.below hb1 (Nat.le_refl _)) (by omega) a0 a1 a2 big h1 h2 h3 h4 h5 h6).mono ?_
  rintro e w2 ⟨v, rfl, hb2', _, hr⟩
  obtain rfl := hr HE.out
  have hb2 : Below w.heap.size w w2 := hb1.trans (hb2'.mono hb1.size)
  clear hb2' hr hb1 c0 c1 c2
  go_wp2_with fail
  go_ret
  exact ⟨rfl, hb2⟩

set_option maxRecDepth 100000 in
set_option maxHeartbeats 800000 in
theorem back_long {n : Nat} {ao : Option Addr} {cap : Nat} {w : World} (hn : 300 < n) (hm : n ≤ 9223372036854775807) (a0 a1 a2 : Int) (big : Bool) :
    Calls Try.prog 4 #[.slice ao n cap, .agg #[.int .i64 a0, .int .i64 a1, .int .i64 a2], .bool big] w fun e w' => e = .returned (.bool true) ∧ Below w.heap.size w w' := by
  go_enter Try.func4, Try.ntmps4
  go_wp2_with fail
  refine (awake_any _).mono ?_
  rintro e w1 ⟨rfl, hb0⟩
  have hb1 : Below w.heap.size w w1 := ((Below.refl _ _).alloc (Nat.le_refl _) _).trans (hb0.mono (by simp))
  clear hb0
  go_wp2_with fail
  go_ret
  exact ⟨rfl, hb1⟩

theorem back_any {n : Nat} {f : Nat → Int} {v : Value} {w : World} (hv : Rd w v n f) (a0 a1 a2 : Int) (big : Bool)
    (h1 : -9223372036854775808 ≤ a0) (h2 : a0 ≤ 9223372036854775807) (h3 : -9223372036854775808 ≤ a1) (h4 : a1 ≤ 9223372036854775807) (h5 : -9223372036854775808 ≤ a2) (h6 : a2 ≤ 9223372036854775807) :
    Calls Try.prog 4 #[v, .agg #[.int .i64 a0, .int .i64 a1, .int .i64 a2], .bool big] w fun e w' => e = .returned (.bool true) ∧ Below w.heap.size w w' := by
  have hv' := hv
  obtain ⟨ao, cap, rfl, hm, hf, hc⟩ := hv
  by_cases hn : n ≤ 300
  · by_cases hE : putE n a0 a1 a2 = 0
    · obtain ⟨g1, g2, g3, g4⟩ := putE_ok hE
      obtain ⟨b, off, rfl, hcc⟩ := hc (by omega)
      obtain ⟨a, rfl⟩ := Int.eq_ofNat_of_zero_le g3
      obtain ⟨m, rfl⟩ := Int.eq_ofNat_of_zero_le (show 0 ≤ a1 by omega)
      exact back_ok hn hf hcc a m a2 big h5 h6 hE (by omega) (by omega) (by omega)
    · exact back_err hv' hn a0 a1 a2 big h1 h2 h3 h4 h5 h6 hE
  · exact back_long (by omega) hm a0 a1 a2 big
end Go.Proofs.Ytcppnangooldoaa
