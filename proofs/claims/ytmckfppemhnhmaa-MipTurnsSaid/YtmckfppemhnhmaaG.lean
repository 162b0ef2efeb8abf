import Derived.Test.YtmckfppemhnhmaaF

namespace Go.Proofs.Ytmckfppemhnhmaa
open Go.RowKit

def allEq (f g : Nat → Int) (n : Nat) : Bool := (List.range n).all fun i => f i == g i
theorem allEq_true {f g : Nat → Int} {n : Nat} (h : ∀ i, i < n → f i = g i) : allEq f g n = true := by
  unfold allEq; simp [List.all_eq_true]; exact h
theorem allEq_false {f g : Nat → Int} {n i : Nat} (hi : i < n) (h : f i ≠ g i) : allEq f g n = false := by
  unfold allEq; simp; exact ⟨i, hi, h⟩
def sameV (W H : Int) (n : Nat) (f : Nat → Int) (W' H' : Int) (n' : Nat) (f' : Nat → Int) : Bool := (W == W') && (H == H') && (n == n') && allEq f f' n

set_option maxHeartbeats 400000 in
theorem equal_any {n n' : Nat} {f f' : Nat → Int} {v v' : Value} {w : World} (hv : Rd w v n f) (hv' : Rd w v' n' f') :
    Calls Try.prog 51 #[v, v'] w fun e w' => e = .returned (.bool ((n == n') && allEq f f' n)) ∧ Dr w w' := by
  obtain ⟨ao, cap, rfl, hn, hf, hc⟩ := hv
  obtain ⟨ao2, cap2, rfl, hn2, hf2, hc2⟩ := hv'
  have HC := hide hc
  have HC2 := hide hc2
  clear hc hc2
  by_cases hnn : n = n'
  · subst hnn
    rw [show ((n == n) && allEq f f' n) = allEq f f' n by simp]
    obtain ⟨r, hr⟩ : ∃ r, r = allEq f f' n := ⟨_, rfl⟩
    rw [← hr]
    have HR := hide hr
    clear hr
    go_enter Try.func51, Try.ntmps51
    go_wp2_with fail
    go_loopw [13] (fun i wr => ∃ k : Nat, k ≤ n ∧ i = .int .i64 k ∧ (Hid (∀ i, i < k → f i = f' i)) ∧ Dr w wr) (fun i _ => n - (intOf i).toNat)
    case atStart => exact ⟨0, by omega, rfl, hide (fun i h => by omega), Dr.refl _⟩
    case round =>
      obtain ⟨k, hk, rfl, hall, hdr⟩ := hrel
      by_cases hlt : k < n
      · obtain ⟨b, off, rfl, h1⟩ := HC.out (by omega)
        obtain ⟨b2, off2, rfl, h2⟩ := HC2.out (by omega)
        have d1 := (hdr.cell _).trans (h1 k hlt)
        have d2 := (hdr.cell _).trans (h2 k hlt)
        clear h1 h2
        by_cases he : f k = f' k
        · have e1 : (f k == f' k) = true := by simpa using he
          have e2 : (f k != f' k) = false := by simpa using he
          have HE := hide he
          clear he
          go_wp2_with fail
          go_quiet (fail)
          go_wp2
          go_roundw
          case rel =>
            refine ⟨k + 1, by omega, by go_num, hide (fun i hi => ?_), hdr.drewN _⟩
            by_cases h : i = k
            · subst h; exact HE.out
            · exact hall.out i (by omega)
          case measure => simp [intOf]; omega
        · have e1 : (f k == f' k) = false := by simpa using he
          have e2 : (f k != f' k) = true := by simpa using he
          have HE := hide (HR.out.trans (allEq_false hlt he))
          clear he
          go_wp2_with fail
          go_quiet (fail)
          go_wp2
          go_ret
          exact ⟨ret1b HE.out.symm, hdr.drewN _⟩
      · obtain rfl : k = n := by omega
        have HE := hide (HR.out.trans (allEq_true hall.out))
        go_wp2
        go_ret
        exact ⟨ret1b HE.out.symm, hdr⟩
  · rw [show ((n == n') && allEq f f' n) = false by simp [hnn]]
    have e1 : (n == n') = false := by simpa using hnn
    have e2 : (n != n') = true := by simpa using hnn
    have e3 : ((n : Int) == (n' : Int)) = false := by simp; omega
    have e4 : ((n : Int) != (n' : Int)) = true := by simp; omega
    clear hnn
    go_enter Try.func51, Try.ntmps51
    go_wp2_with fail
    go_ret
    exact ⟨rfl, Dr.refl _⟩

theorem isame_any {W H W' H' : Int} {n n' : Nat} {f f' : Nat → Int} {v v' : Value} {w : World} (hv : Im w v W H n f) (hv' : Im w v' W' H' n' f') :
    Calls Try.prog 29 #[v, v'] w fun e w' => e = .returned (.bool (sameV W H n f W' H' n' f')) ∧ Below w.heap.size w w' := by
  obtain ⟨ao, cap, rfl, hr, _, _⟩ := hv
  obtain ⟨ao2, cap2, rfl, hr2, _, _⟩ := hv'
  unfold sameV
  have HR := hide hr
  have HR2 := hide hr2
  clear hr hr2
  generalize hm : ((n == n') && allEq f f' n) = r
  have HM := hide hm
  rw [Bool.and_assoc, hm]
  clear hm
  by_cases h1 : W = W'
  · have e1 : (W == W') = true := by simpa using h1
    by_cases h2 : H = H'
    · have e2 : (H == H') = true := by simpa using h2
      rw [e1, e2]
      clear h1 h2
      go_enter Try.func29, Try.ntmps29
      go_wp2_with fail
      refine (equal_any (HR.out.below (B := w.heap.size) (by (repeat' (first | exact Below.refl _ _ | assumption | refine Below.setCell ?_ (by simp <;> omega) _ | refine Below.alloc ?_ (by simp <;> omega) _))) (Nat.le_refl _)) (HR2.out.below (B := w.heap.size) (by (repeat' (first | exact Below.refl _ _ | assumption | refine Below.setCell ?_ (by simp <;> omega) _ | refine Below.alloc ?_ (by simp <;> omega) _))) (Nat.le_refl _))).mono ?_
      rintro e w1 ⟨rfl, hd⟩
      rw [HM.out]
      go_wp2_with fail
      go_ret
      refine ⟨ret1b (by simp), Below.trans ?_ (hd.below _)⟩
      (repeat' (first | exact Below.refl _ _ | assumption | refine Below.setCell ?_ (by simp <;> omega) _ | refine Below.alloc ?_ (by simp <;> omega) _))
    · have e2 : (H == H') = false := by simpa using h2
      rw [e1, e2]
      clear h1 h2
      go_enter Try.func29, Try.ntmps29
      go_wp2_with fail
      go_ret
      refine ⟨rfl, ?_⟩
      (repeat' (first | exact Below.refl _ _ | assumption | refine Below.setCell ?_ (by simp <;> omega) _ | refine Below.alloc ?_ (by simp <;> omega) _))
  · have e1 : (W == W') = false := by simpa using h1
    rw [e1]
    clear h1
    go_enter Try.func29, Try.ntmps29
    go_wp2_with fail
    go_ret
    refine ⟨ret1b (by simp), ?_⟩
    (repeat' (first | exact Below.refl _ _ | assumption | refine Below.setCell ?_ (by simp <;> omega) _ | refine Below.alloc ?_ (by simp <;> omega) _))

theorem rsame_no {W H W' H' : Int} {n n' : Nat} {ao ao2 : Option Addr} {cap cap2 : Nat} {w : World} (b1 b2 b3 : Bool) (h1 : (W != W') = b1) (h2 : (H != H') = b2) (h3 : ((n : Int) != (n' : Int)) = b3) (hor : b1 = true ∨ (b1 = false ∧ b2 = true) ∨ (b1 = false ∧ b2 = false ∧ b3 = true)) :
    Calls Try.prog 14 #[.agg #[.int .i64 W, .int .i64 H, .slice ao n cap], .agg #[.int .i64 W', .int .i64 H', .slice ao2 n' cap2]] w fun e w' => e = .returned (.bool false) ∧ Below w.heap.size w w' := by
  rcases hor with rfl | ⟨rfl, rfl⟩ | ⟨rfl, rfl, rfl⟩
  · go_enter Try.func14, Try.ntmps14
    go_wp2_with fail
    go_ret
    refine ⟨rfl, ?_⟩
    (repeat' (first | exact Below.refl _ _ | assumption | refine Below.setCell ?_ (by simp <;> omega) _ | refine Below.alloc ?_ (by simp <;> omega) _))
  · go_enter Try.func14, Try.ntmps14
    go_wp2_with fail
    go_ret
    refine ⟨rfl, ?_⟩
    (repeat' (first | exact Below.refl _ _ | assumption | refine Below.setCell ?_ (by simp <;> omega) _ | refine Below.alloc ?_ (by simp <;> omega) _))
  · go_enter Try.func14, Try.ntmps14
    go_wp2_with fail
    go_ret
    refine ⟨rfl, ?_⟩
    (repeat' (first | exact Below.refl _ _ | assumption | refine Below.setCell ?_ (by simp <;> omega) _ | refine Below.alloc ?_ (by simp <;> omega) _))

set_option maxHeartbeats 400000 in
theorem rsame_any {W H W' H' : Int} {n n' : Nat} {f f' : Nat → Int} {v v' : Value} {w : World} (hv : Im w v W H n f) (hv' : Im w v' W' H' n' f') :
    Calls Try.prog 14 #[v, v'] w fun e w' => e = .returned (.bool (sameV W H n f W' H' n' f')) ∧ Below w.heap.size w w' := by
  obtain ⟨ao, cap, rfl, hr, _, _⟩ := hv
  obtain ⟨ao2, cap2, rfl, hr2, _, _⟩ := hv'
  by_cases hh : W = W' ∧ H = H' ∧ n = n'
  · obtain ⟨rfl, rfl, rfl⟩ := hh
    obtain ⟨_, _, e, hn, hf, hc⟩ := hr
    injection e with e1 e2 e3
    subst e1 e3
    obtain ⟨_, _, e, hn2, hf2, hc2⟩ := hr2
    injection e with e1 e2' e3
    subst e1 e3
    rw [show sameV W H n f W H n f' = allEq f f' n by unfold sameV; simp]
    have HC := hide hc
    have HC2 := hide hc2
    obtain ⟨r, hr⟩ : ∃ r, r = allEq f f' n := ⟨_, rfl⟩
    rw [← hr]
    have HR := hide hr
    clear hr hc hc2
    go_enter Try.func14, Try.ntmps14
    go_wp2_with fail
    go_loopw [5] (fun i wr => ∃ k : Nat, k ≤ n ∧ i = .int .i64 k ∧ (Hid (∀ i, i < k → f i = f' i)) ∧ Below (w.heap.size + 2) ((w.alloc (.cells #[.int .i64 W, .int .i64 H, .slice ao n cap] 24)).alloc (.cells #[.int .i64 W, .int .i64 H, .slice ao2 n cap2] 24)) wr) (fun i _ => n - (intOf i).toNat)
    case atStart => exact ⟨0, by omega, rfl, hide (fun i h => by omega), Below.refl _ _⟩
    case round =>
      obtain ⟨k, hk, rfl, hall, hb⟩ := hrel
      have HB := hide hb
      have HBW := hide (Below.trans (by (repeat' (first | exact Below.refl _ _ | assumption | refine Below.setCell ?_ (by simp <;> omega) _ | refine Below.alloc ?_ (by simp <;> omega) _))) (hb.mono (by omega)) : Below w.heap.size w wr)
      obtain ⟨_, _, k2⟩ := (Box.below (b := w.heap.size) (cs := #[.int .i64 W, .int .i64 H, .slice ao n cap]) (by (repeat' (first | (refine Box.mk' ?_; simp; done) | (refine Box.old ?_ ?_; rotate_left; (simp <;> omega))))) hb (by omega)).c3.1
      obtain ⟨_, _, l2⟩ := (Box.below (b := w.heap.size + 1) (cs := #[.int .i64 W, .int .i64 H, .slice ao2 n cap2]) (by (repeat' (first | (refine Box.mk' ?_; simp; done) | (refine Box.old ?_ ?_; rotate_left; (simp <;> omega))))) hb (by omega)).c3.1
      clear hb
      by_cases hlt : k < n
      · obtain ⟨b, off, rfl, h1⟩ := HC.out (by omega)
        obtain ⟨b2, off2, rfl, h2⟩ := HC2.out (by omega)
        have d1 := (HBW.out.cell (World.block_lt_of_cell? w _ (h1 k hlt))).trans (h1 k hlt)
        have d2 := (HBW.out.cell (World.block_lt_of_cell? w _ (h2 k hlt))).trans (h2 k hlt)
        clear h1 h2
        by_cases he : f k = f' k
        · have e1 : (f k == f' k) = true := by simpa using he
          have e2 : (f k != f' k) = false := by simpa using he
          have HE := hide he
          clear he
          go_wp2_with fail
          go_quiet (fail)
          go_wp2
          go_roundw
          case rel =>
            refine ⟨k + 1, by omega, by go_num, hide (fun i hi => ?_), HB.out.trans (Dr.below ⟨_, rfl⟩ _)⟩
            by_cases h : i = k
            · subst h; exact HE.out
            · exact hall.out i (by omega)
          case measure => simp [intOf]; omega
        · have e1 : (f k == f' k) = false := by simpa using he
          have e2 : (f k != f' k) = true := by simpa using he
          have HE := hide (HR.out.trans (allEq_false hlt he))
          clear he
          go_wp2_with fail
          go_quiet (fail)
          go_wp2
          go_ret
          exact ⟨ret1b HE.out.symm, HBW.out.trans (Dr.below ⟨_, rfl⟩ _)⟩
      · obtain rfl : k = n := by omega
        have HE := hide (HR.out.trans (allEq_true hall.out))
        go_wp2
        go_ret
        exact ⟨ret1b HE.out.symm, HBW.out⟩
  · rw [show sameV W H n f W' H' n' f' = false by
      unfold sameV; rw [Bool.eq_false_iff]; intro h; simp at h; exact hh ⟨h.1.1.1, h.1.1.2, h.1.2⟩]
    refine rsame_no _ _ _ rfl rfl rfl ?_
    simp
    omega

theorem lsame_any {W H W' H' : Int} {n n' : Nat} {f f' : Nat → Int} {v v' : Value} {w : World} (hv : Im w v W H n f) (hv' : Im w v' W' H' n' f') :
    Calls Try.prog 27 #[v, v'] w fun e w' => e = .returned (.bool (sameV W H n f W' H' n' f')) ∧ Below w.heap.size w w' := by
  have HV := hide hv
  have HV' := hide hv'
  obtain ⟨ao, cap, rfl, hr, _, _⟩ := hv
  obtain ⟨ao2, cap2, rfl, hr2, _, _⟩ := hv'
  clear hr hr2
  go_enter Try.func27, Try.ntmps27
  go_wp2_with fail
  refine (rsame_any (HV.out.below (B := w.heap.size) (by (repeat' (first | exact Below.refl _ _ | assumption | refine Below.setCell ?_ (by simp <;> omega) _ | refine Below.alloc ?_ (by simp <;> omega) _))) (Nat.le_refl _)) (HV'.out.below (B := w.heap.size) (by (repeat' (first | exact Below.refl _ _ | assumption | refine Below.setCell ?_ (by simp <;> omega) _ | refine Below.alloc ?_ (by simp <;> omega) _))) (Nat.le_refl _))).mono ?_
  rintro e w1 ⟨rfl, hb⟩
  go_wp2_with fail
  go_ret
  refine ⟨rfl, Below.trans ?_ (hb.mono (by simp; omega))⟩
  (repeat' (first | exact Below.refl _ _ | assumption | refine Below.setCell ?_ (by simp <;> omega) _ | refine Below.alloc ?_ (by simp <;> omega) _))
theorem sameV_refl {W H : Int} {n : Nat} {f : Nat → Int} : sameV W H n f W H n f = true := by unfold sameV; simp [allEq_true]

end Go.Proofs.Ytmckfppemhnhmaa
