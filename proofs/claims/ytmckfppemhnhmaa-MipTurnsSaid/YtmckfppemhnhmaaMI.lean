import Derived.Test.YtmckfppemhnhmaaMH
namespace Go.Proofs.Ytmckfppemhnhmaa
open Go.RowKit

set_option maxHeartbeats 400000 in
theorem rchain_no {W H : Int} {n : Nat} {f : Nat → Int} {v : Value} {many : Int} {w : World} (hv : Im w v W H n f) (hno : chainOk W H n many = false) : Calls Try.prog 16 #[v, .int .i64 many] w (chainP W H n f many w) := by
  obtain ⟨ao, cap, rfl, _, _, _⟩ := hv
  unfold chainP
  rw [hno]
  by_cases hr : rightV W H n = true
  · have HR := hide hr
    have hws : 1 ≤ W ∧ 1 ≤ H ∧ W ≤ 4096 ∧ H ≤ 4096 := by unfold rightV at hr; simp at hr; omega
    by_cases hm : many < 1
    · have d1 : decide (many < 1) = true := by simpa using hm
      clear hr hno hm
      go_enter Try.func16, Try.ntmps16
      go_wp2_with fail
      refine (rright_any W H ao n cap _).mono ?_
      rintro e w1 ⟨rfl, hb⟩
      rw [HR.out]
      have hb1 := hide (Below.trans ((Below.refl _ _).alloc (Nat.le_refl _) _) (hb.mono (by simp)) : Below w.heap.size w w1)
      clear hb
      go_wp2_with fail
      go_ret2
      exact ⟨_, rfl, rfl, hb1.out⟩
    · have d1 : decide (many < 1) = false := by simpa using hm
      have hlt : levelsV W H < many := by
        unfold chainOk at hno
        rw [hr] at hno
        simp at hno
        omega
      obtain ⟨lv, hlv⟩ : ∃ lv, lv = levelsV W H := ⟨_, rfl⟩
      rw [← hlv] at hlt
      have HLV := hide hlv
      have d2 : decide (lv < many) = true := by simpa using hlt
      clear hr hno hm hlv
      go_enter Try.func16, Try.ntmps16
      go_wp2_with fail
      refine (rright_any W H ao n cap _).mono ?_
      rintro e w1 ⟨rfl, hb⟩
      rw [HR.out]
      have BI := hide (Box.below (b := w.heap.size) (cs := #[.int .i64 W, .int .i64 H, .slice ao n cap]) (Box.mk' rfl) hb (by simp))
      have hb1 := hide (Below.trans ((Below.refl _ _).alloc (Nat.le_refl _) _) (hb.mono (by simp)) : Below w.heap.size w w1)
      have hs1 : w.heap.size < w1.heap.size := by have := hb.size; simp at this; omega
      clear hb
      obtain ⟨⟨k0, k1, k2⟩, _⟩ := BI.out.c3
      go_wp2_with fail
      refine (rlevels_any W H _ (by omega) (by omega) (by omega) (by omega)).mono ?_
      rintro e w' ⟨rfl, rfl⟩
      rw [← HLV.out]
      have hb2 := hb1
      clear k0 k1 k2
      go_wp2_with fail
      go_ret2
      exact ⟨_, rfl, rfl, hb2.out⟩
  · have hr' : rightV W H n = false := by simpa using hr
    have HR := hide hr'
    clear hr hno hr'
    go_enter Try.func16, Try.ntmps16
    go_wp2_with fail
    refine (rright_any W H ao n cap _).mono ?_
    rintro e w1 ⟨rfl, hb⟩
    rw [HR.out]
    have hb1 := hide (Below.trans ((Below.refl _ _).alloc (Nat.le_refl _) _) (hb.mono (by simp)) : Below w.heap.size w w1)
    clear hb
    go_wp2_with fail
    go_ret2
    exact ⟨_, rfl, rfl, hb1.out⟩

set_option maxHeartbeats 400000 in
theorem mchain_no {W H : Int} {n : Nat} {f : Nat → Int} {v : Value} {many : Int} {w : World} (hv : Im w v W H n f) (hno : chainOk W H n many = false) : Calls Try.prog 15 #[v, .int .i64 many] w (chainP W H n f many w) := by
  obtain ⟨ao, cap, rfl, _, _, _⟩ := hv
  unfold chainP
  rw [hno]
  by_cases hr : rightV W H n = true
  · have HR := hide hr
    have hws : 1 ≤ W ∧ 1 ≤ H ∧ W ≤ 4096 ∧ H ≤ 4096 := by unfold rightV at hr; simp at hr; omega
    by_cases hm : many < 1
    · have d1 : decide (many < 1) = true := by simpa using hm
      clear hr hno hm
      go_enter Try.func15, Try.ntmps15
      go_wp2_with fail
      refine (right_any W H ao n cap _).mono ?_
      rintro e w1 ⟨rfl, hb⟩
      rw [HR.out]
      have hb1 := hide (Below.trans ((Below.refl _ _).alloc (Nat.le_refl _) _) (hb.mono (by simp)) : Below w.heap.size w w1)
      clear hb
      go_wp2_with fail
      go_ret2
      exact ⟨_, rfl, rfl, hb1.out⟩
    · have d1 : decide (many < 1) = false := by simpa using hm
      have hlt : levelsV W H < many := by
        unfold chainOk at hno
        rw [hr] at hno
        simp at hno
        omega
      obtain ⟨lv, hlv⟩ : ∃ lv, lv = levelsV W H := ⟨_, rfl⟩
      rw [← hlv] at hlt
      have HLV := hide hlv
      have d2 : decide (lv < many) = true := by simpa using hlt
      clear hr hno hm hlv
      go_enter Try.func15, Try.ntmps15
      go_wp2_with fail
      refine (right_any W H ao n cap _).mono ?_
      rintro e w1 ⟨rfl, hb⟩
      rw [HR.out]
      have BI := hide (Box.below (b := w.heap.size) (cs := #[.int .i64 W, .int .i64 H, .slice ao n cap]) (Box.mk' rfl) hb (by simp))
      have hb1 := hide (Below.trans ((Below.refl _ _).alloc (Nat.le_refl _) _) (hb.mono (by simp)) : Below w.heap.size w w1)
      have hs1 : w.heap.size < w1.heap.size := by have := hb.size; simp at this; omega
      clear hb
      obtain ⟨⟨k0, k1, k2⟩, _⟩ := BI.out.c3
      go_wp2_with fail
      refine (levels_any W H _ (by omega) (by omega) (by omega) (by omega)).mono ?_
      rintro e w2 ⟨rfl, hb⟩
      rw [← HLV.out]
      have hb2 := hide (hb1.out.trans (hb.mono (by omega)))
      clear hb k0 k1 k2
      go_wp2_with fail
      go_ret2
      exact ⟨_, rfl, rfl, hb2.out⟩
  · have hr' : rightV W H n = false := by simpa using hr
    have HR := hide hr'
    clear hr hno hr'
    go_enter Try.func15, Try.ntmps15
    go_wp2_with fail
    refine (right_any W H ao n cap _).mono ?_
    rintro e w1 ⟨rfl, hb⟩
    rw [HR.out]
    have hb1 := hide (Below.trans ((Below.refl _ _).alloc (Nat.le_refl _) _) (hb.mono (by simp)) : Below w.heap.size w w1)
    clear hb
    go_wp2_with fail
    go_ret2
    exact ⟨_, rfl, rfl, hb1.out⟩
end Go.Proofs.Ytmckfppemhnhmaa
