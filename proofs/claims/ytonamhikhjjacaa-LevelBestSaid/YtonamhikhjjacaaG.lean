import Derived.Test.YtonamhikhjjacaaF
namespace Go.Proofs.Ytonamhikhjjacaa
open Go.RowKit

theorem mul_bd {x y X Y : Int} (h1 : -X ≤ x) (h2 : x ≤ X) (h3 : -Y ≤ y) (h4 : y ≤ Y) : -(X * Y) ≤ x * y ∧ x * y ≤ X * Y := by
  have a := Int.mul_nonneg (show 0 ≤ X - x by omega) (show 0 ≤ Y - y by omega)
  have b := Int.mul_nonneg (show 0 ≤ X + x by omega) (show 0 ≤ Y + y by omega)
  have c := Int.mul_nonneg (show 0 ≤ X - x by omega) (show 0 ≤ Y + y by omega)
  have d := Int.mul_nonneg (show 0 ≤ X + x by omega) (show 0 ≤ Y - y by omega)
  rw [Int.sub_mul, Int.mul_sub, Int.mul_sub] at a
  rw [Int.add_mul, Int.mul_add, Int.mul_add] at b
  rw [Int.sub_mul, Int.mul_add, Int.mul_add] at c
  rw [Int.add_mul, Int.mul_sub, Int.mul_sub] at d
  omega

def sml (n : Int) : Prop := -1048576 ≤ n ∧ n ≤ 1048576
def mixV (a b k of' add : Int) : Int := if of' < 1 then 0 else (a * (of' - k) + b * k + add) / of'

theorem tdiv_facts {n m : Int} (hm : 1 ≤ m) (hn : n < 0) : n ≤ n.tdiv m ∧ n.tdiv m ≤ 0 ∧ (n.tmod m < 0 → n.tdiv m - 1 = n / m) ∧ (0 ≤ n.tmod m → n.tdiv m = n / m) := by
  obtain ⟨g1, g2, g3, g4⟩ := tmod_facts hm hn
  have e1 := Int.tmod_add_mul_tdiv n m
  have e2 := Int.emod_add_mul_ediv n m
  have key : ∀ q r : Int, m * q = m * r → q = r := fun q r h => Int.eq_of_mul_eq_mul_left (by omega) h
  have e3 : n.tdiv m = -((-n) / m) := by
    have h := Int.neg_tdiv (-n) m
    rw [Int.neg_neg] at h
    rw [h, Int.tdiv_eq_ediv_of_nonneg (by omega)]
  have b1 : 0 ≤ (-n) / m := Int.ediv_nonneg (by omega) (by omega)
  have b2 : (-n) / m ≤ -n := Int.ediv_le_self _ (by omega)
  refine ⟨by omega, by omega, fun h => ?_, fun h => ?_⟩
  · have := g3 h
    apply key
    rw [Int.mul_sub]; omega
  · have := g4 h
    apply key
    omega

set_option maxHeartbeats 400000 in
theorem mix_any (a b k of' add : Int) (w : World) (ha : sml a) (hb : sml b) (hk : sml k) (ho : sml of') (hadd : sml add) :
    Calls Try.prog 15 #[.int .i64 a, .int .i64 b, .int .i64 k, .int .i64 of', .int .i64 add] w fun e w' => e = .returned (.int .i64 (mixV a b k of' add)) ∧ w = w' := by
  unfold sml at ha hb hk ho hadd
  unfold mixV
  by_cases h1 : of' < 1
  · rw [if_pos h1]
    go_enter Try.func15, Try.ntmps15
    go_wp2
    go_ret
    exact ⟨rfl, rfl⟩
  · rw [if_neg h1]
    have m1 := mul_bd (x := a) (y := of' - k) (X := 1048576) (Y := 2097152) ha.1 ha.2 (by omega) (by omega)
    have m2 := mul_bd (x := b) (y := k) (X := 1048576) (Y := 1048576) hb.1 hb.2 hk.1 hk.2
    obtain ⟨n, hn⟩ : ∃ n, n = a * (of' - k) + b * k + add := ⟨_, rfl⟩
    by_cases h0 : 0 ≤ n
    · rw [hn] at h0
      have d1 : 0 ≤ (a * (of' - k) + b * k + add) / of' := Int.ediv_nonneg h0 (by omega)
      have d2 : (a * (of' - k) + b * k + add) / of' ≤ a * (of' - k) + b * k + add := Int.ediv_le_self _ h0
      have d3 := Int.emod_nonneg (a * (of' - k) + b * k + add) (show of' ≠ 0 by omega)
      clear hn
      go_enter Try.func15, Try.ntmps15
      go_wp2
      go_ret
      exact ⟨rfl, rfl⟩
    · obtain ⟨t1, t2, t3, t4⟩ := tdiv_facts (n := n) (m := of') (by omega) (by omega)
      rw [← hn]
      have H3 := hide t3
      have H4 := hide t4
      have HN := hide hn
      rw [hn] at h0 t1 t2
      clear t3 t4 hn
      go_enter Try.func15, Try.ntmps15
      go_wp2
      all_goals go_ret
      · refine ⟨ret1 ?_, rfl⟩
        have h : (a * (of' - k) + b * k + add).tmod of' < 0 := by assumption
        rw [← HN.out] at h ⊢
        exact H3.out h
      · refine ⟨ret1 ?_, rfl⟩
        have h : 0 ≤ (a * (of' - k) + b * k + add).tmod of' := by assumption
        rw [← HN.out] at h ⊢
        exact H4.out h

set_option maxHeartbeats 400000 in
theorem rmix_any (a b k of' add : Int) (w : World) (ha : sml a) (hb : sml b) (hk : sml k) (ho : sml of') (hadd : sml add) :
    Calls Try.prog 16 #[.int .i64 a, .int .i64 b, .int .i64 k, .int .i64 of', .int .i64 add] w fun e w' => e = .returned (.int .i64 (mixV a b k of' add)) ∧ w = w' := by
  unfold sml at ha hb hk ho hadd
  unfold mixV
  by_cases h1 : of' < 1
  · rw [if_pos h1]
    go_enter Try.func16, Try.ntmps16
    go_wp2_with fail
    go_ret
    exact ⟨rfl, rfl⟩
  · rw [if_neg h1]
    have m1 := mul_bd (x := a) (y := of' - k) (X := 1048576) (Y := 2097152) ha.1 ha.2 (by omega) (by omega)
    have m2 := mul_bd (x := b) (y := k) (X := 1048576) (Y := 1048576) hb.1 hb.2 hk.1 hk.2
    have d3 := Int.emod_nonneg (a * (of' - k) + b * k + add) (show of' ≠ 0 by omega)
    have d4 := Int.emod_lt_of_pos (a * (of' - k) + b * k + add) (show 0 < of' by omega)
    have key : (a * (of' - k) + b * k + add - (a * (of' - k) + b * k + add) % of').tdiv of' = (a * (of' - k) + b * k + add) / of' := by
      have e2 := Int.emod_add_mul_ediv (a * (of' - k) + b * k + add) of'
      have e3 : a * (of' - k) + b * k + add - (a * (of' - k) + b * k + add) % of' = of' * ((a * (of' - k) + b * k + add) / of') := by omega
      rw [e3, Int.mul_tdiv_cancel_left _ (by omega)]
    have HK := hide key
    clear key
    go_enter Try.func16, Try.ntmps16
    go_wp2_with fail
    refine (mod_any _ _ _ (by omega) (by omega) (by omega) (by omega)).mono ?_
    rintro e w' ⟨rfl, rfl⟩
    by_cases h0 : 0 ≤ a * (of' - k) + b * k + add
    · have d5 := Int.mul_ediv_self_le (x := a * (of' - k) + b * k + add) (k := of') (by omega)
      have e2 := Int.emod_add_mul_ediv (a * (of' - k) + b * k + add) of'
      have q0 : 0 ≤ (a * (of' - k) + b * k + add) / of' := Int.ediv_nonneg h0 (by omega)
      have q1 : 0 ≤ of' * ((a * (of' - k) + b * k + add) / of') := Int.mul_nonneg (by omega) q0
      have n0 : 0 ≤ a * (of' - k) + b * k + add - (a * (of' - k) + b * k + add) % of' := by omega
      have HK2 : Hid ((a * (of' - k) + b * k + add - (a * (of' - k) + b * k + add) % of') / of' = (a * (of' - k) + b * k + add) / of') := by
        have h := HK.out
        rw [Int.tdiv_eq_ediv_of_nonneg n0] at h
        exact h
      have g1 : 0 ≤ (a * (of' - k) + b * k + add - (a * (of' - k) + b * k + add) % of') / of' := Int.ediv_nonneg n0 (by omega)
      have g2 : (a * (of' - k) + b * k + add - (a * (of' - k) + b * k + add) % of') / of' ≤ a * (of' - k) + b * k + add - (a * (of' - k) + b * k + add) % of' := Int.ediv_le_self _ n0
      clear e2 d5 q0 q1
      go_wp2_with fail
      go_ret
      exact ⟨ret1 HK2.out, rfl⟩
    · obtain ⟨t1, t2, t3, t4⟩ := tdiv_facts (n := a * (of' - k) + b * k + add - (a * (of' - k) + b * k + add) % of') (m := of') (by omega) (by omega)
      clear t3 t4
      go_wp2_with fail
      go_ret
      exact ⟨ret1 HK.out, rfl⟩

end Go.Proofs.Ytonamhikhjjacaa
