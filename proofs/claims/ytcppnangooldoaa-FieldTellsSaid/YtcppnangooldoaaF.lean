import Derived.Test.YtcppnangooldoaaE
namespace Go.Proofs.Ytcppnangooldoaa
open Go.RowKit

theorem rd_new (w : World) (g : Nat) (cs : List Value) (f : Nat → Int) (n : Nat) (hg : w.heap[g]? = some (.cells cs.toArray 5 (0, 0))) (hn : n ≤ 1000) (hf : ∀ i, 0 ≤ f i ∧ f i ≤ 255) (e : ∀ i, i < n → cs[i]? = some (.int .u8 (f i))) : Rd w (.slice (some ⟨g, 0, none⟩) n n) n f :=
  Rd.of_cl (Cl.row hg e) (by omega) hf

def fa : Nat → Int := fun i => if i = 0 then 1 else 2
def fb : Nat → Int := fun _ => 9
theorem fa_bd (i : Nat) : 0 ≤ fa i ∧ fa i ≤ 255 := by unfold fa; split <;> omega
theorem fb_bd (i : Nat) : 0 ≤ fb i ∧ fb i ≤ 255 := by unfold fb; omega
theorem ga (w : World) : Rd (w.alloc (.cells #[.int .u8 1, .int .u8 2] 5)) (.slice (some ⟨w.heap.size, 0, none⟩) 2 2) 2 fa :=
  rd_new _ _ [.int .u8 1, .int .u8 2] fa 2 (heap_alloc_new w _) (by omega) fa_bd (fun i hi => by match i, hi with | 0, _ => rfl | 1, _ => rfl)
theorem gb (w : World) : Rd (w.alloc (.cells #[.int .u8 9, .int .u8 9, .int .u8 9] 5)) (.slice (some ⟨w.heap.size, 0, none⟩) 3 3) 3 fb :=
  rd_new _ _ [.int .u8 9, .int .u8 9, .int .u8 9] fb 3 (heap_alloc_new w _) (by omega) fb_bd (fun i hi => by match i, hi with | 0, _ => rfl | 1, _ => rfl | 2, _ => rfl)

theorem ga0 : getV fa 2 0 2 false = (513, 0) := by decide +kernel
theorem ga1 : getV fa 2 0 2 true = (258, 0) := by decide +kernel
theorem gbE : putE 3 1 2 258 = 0 := by decide +kernel
theorem gb0 : putK fb 1 2 true 258 2 0 = 9 := by decide +kernel
theorem gb1 : putK fb 1 2 true 258 2 1 = 1 := by decide +kernel
theorem tv34 : timesV 3 4 = (12, 0) := by decide +kernel
theorem sv34 : sumV 3 4 = (7, 0) := by decide +kernel

set_option maxHeartbeats 400000 in
theorem awake_any (w : World) : Calls Try.prog 6 #[] w fun e w' => e = .returned (.bool true) ∧ Below w.heap.size w w' := by
  go_enter Try.func6, Try.ntmps6
  go_wp2_with fail
  refine (get_any (ga w) 0 2 false (by omega) (by omega) (by omega) (by omega)).mono ?_
  rintro e w1 ⟨rfl, hd1⟩
  rw [ga0]
  have hb1 : Below w.heap.size w w1 := ((Below.refl _ _).alloc (Nat.le_refl _) _).trans (hd1.below _)
  clear hd1
  go_wp2_with fail
  refine (get_any (ga w1) 0 2 true (by omega) (by omega) (by omega) (by omega)).mono ?_
  rintro e w2 ⟨rfl, hd2⟩
  rw [ga1]
  have hb2 : Below w.heap.size w w2 := (hb1.alloc hb1.size _).trans (hd2.below _)
  clear hd2 hb1
  go_wp2_with fail
  refine (put_any (gb w2) (by omega) 1 2 258 true (by omega) (by omega) (by omega) (by omega) (by omega) (by omega)).mono ?_
  rintro e w3 ⟨v, rfl, hb3', hr0, _⟩
  have hr := hr0 gbE
  clear hr0
  rw [gbE]
  have hb3 : Below w.heap.size w w3 := (hb2.alloc hb2.size _).trans (hb3'.mono (by have := hb2.size; simp; omega))
  clear hb3' hb2
  obtain ⟨ao, cap, rfl, _, _, hc⟩ := hr
  obtain ⟨b, off, rfl, hcc⟩ := hc (by omega)
  have hc0 := hcc 0 (by omega)
  have hc1 := hcc 1 (by omega)
  clear hcc hc
  rw [show putK fb (Int.toNat 1) (Int.toNat 2) true 258 (Int.toNat 2) 0 = 9 from gb0, Nat.add_zero] at hc0
  rw [show putK fb (Int.toNat 1) (Int.toNat 2) true 258 (Int.toNat 2) 1 = 1 from gb1] at hc1
  go_wp2_with fail
  refine (times_any 3 4 w3 (by omega) (by omega) (by omega) (by omega)).mono ?_
  rintro e w4 ⟨rfl, rfl⟩
  rw [tv34]
  go_wp2_with fail
  refine (sum_any 3 4 w3 (by omega) (by omega) (by omega) (by omega)).mono ?_
  rintro e w4 ⟨rfl, rfl⟩
  rw [sv34]
  go_wp2_with fail
  go_ret
  exact ⟨rfl, hb3⟩

set_option maxHeartbeats 400000 in
theorem reckons_any (a b : Int) (w : World) (h1 : -9223372036854775808 ≤ a) (h2 : a ≤ 9223372036854775807) (h3 : -9223372036854775808 ≤ b) (h4 : b ≤ 9223372036854775807) :
    Calls Try.prog 3 #[.int .i64 a, .int .i64 b] w fun e w' => e = .returned (.bool true) ∧ Below w.heap.size w w' := by
  go_enter Try.func3, Try.ntmps3
  go_wp2_with fail
  refine (awake_any w).mono ?_
  rintro e w1 ⟨rfl, hb⟩
  go_wp2_with fail
  refine (sum_any a b w1 h1 h2 h3 h4).mono ?_
  rintro e w2 ⟨rfl, rfl⟩
  go_wp2_with fail
  refine (sum_ref a b w1 h1 h2 h3 h4).mono ?_
  rintro e w2 ⟨rfl, rfl⟩
  go_wp2_with fail
  refine (times_any a b w1 h1 h2 h3 h4).mono ?_
  rintro e w2 ⟨rfl, rfl⟩
  go_wp2_with fail
  refine (times_ref a b w1 h1 h2 h3 h4).mono ?_
  rintro e w2 ⟨rfl, rfl⟩
  go_wp2_with fail
  go_ret
  exact ⟨rfl, hb⟩
end Go.Proofs.Ytcppnangooldoaa
