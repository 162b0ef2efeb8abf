import Derived.Test.YtmckfppemhnhmaaL
import Derived.Laws.StructEq
import Derived.Deep.Cut

namespace Go.Proofs.Ytmckfppemhnhmaa
open Go.RowKit

section
variable {P : Program} (w : World)
theorem eq_arr (d : Nat) (t e : TypeId) (n sz : Nat) (ht : P.underlying t = some (.array n e)) (hsz : ∀ w, (sizeOf e).run P w = .ok sz w)
    (xs ys : Array Value) (X Y : Nat → Value) (b : Nat → Bool) (hx : ∀ i, i < n → (part e xs (i * sz)).run P w = .ok (X i) w) (hy : ∀ i, i < n → (part e ys (i * sz)).run P w = .ok (Y i) w)
    (he : ∀ i, i < n → (Op.equalIn d e (X i) (Y i)).run P w = .ok (b i) w) : (Op.equalIn (d + 1) t (.agg xs) (.agg ys)).run P w = .ok ((List.range n).all b) w := by
  rw [List.range_eq_range', Op.equalIn]
  simp only [Sem.run_bind, run_underlying ht, Result.andThen_ok, hsz, Std.Legacy.Range.forIn_eq_forIn_range', Std.Legacy.Range.size, Nat.sub_zero, Nat.add_sub_cancel, Nat.div_one]
  have hl : ∀ i ∈ List.range' 0 n 1, i < n := fun i hi => by simpa using (List.mem_range'_1.1 hi).2
  generalize List.range' 0 n 1 = l at hl ⊢
  induction l with
  | nil => simp
  | cons i l ih =>
    have hi : i < n := hl i (by simp)
    simp only [List.forIn_cons, Sem.run_bind, hx i hi, hy i hi, he i hi, Result.andThen_ok, List.all_cons]
    cases hb : b i
    · simp
    · simp only [Bool.not_true, Bool.false_eq_true, if_false, Sem.run_pure, Result.andThen_ok, Bool.true_and]
      exact ih fun j hj => hl j (by simp [hj])
end
theorem sz38 (w : World) : (sizeOf 38).run Try.prog w = .ok 4 w := by kernel_rfl
theorem sz3 (w : World) : (sizeOf 3).run Try.prog w = .ok 1 w := by kernel_rfl
theorem part3 (xs : Array Value) (i : Nat) (x : Int) (h : xs[i]? = some (.int .i64 x)) (w : World) : (part 3 xs i).run Try.prog w = .ok (.int .i64 x) w := by
  simp [part, isAgg, run_underlying Try.underlying3, h]
theorem eq3 (d : Nat) (x y : Int) (w : World) : (Op.equalIn (d + 1) 3 (.int .i64 x) (.int .i64 y)).run Try.prog w = .ok (x == y) w := by
  rw [run_equalIn_int w d 3 .i64 .i64 _ _ Try.underlying3]
theorem eq38 (d : Nat) {xs ys : Array Value} {f g : Nat → Int} (hx : Ag xs 4 f) (hy : Ag ys 4 g) (w : World) : (Op.equalIn (d + 2) 38 (.agg xs) (.agg ys)).run Try.prog w = .ok (allEq f g 4) w :=
  eq_arr w (d + 1) 38 3 4 1 Try.underlying38 sz3 xs ys (fun i => .int .i64 (f i)) (fun i => .int .i64 (g i)) _ (fun i hi => part3 _ _ _ (by rw [Nat.mul_one]; exact hx.2 i hi) w) (fun i hi => part3 _ _ _ (by rw [Nat.mul_one]; exact hy.2 i hi) w) (fun i _ => eq3 d _ _ w)
theorem part38 (xs : Array Value) (i : Nat) (w : World) : (part 38 xs i).run Try.prog w = .ok (.agg (xs.extract i (i + 4))) w := by
  simp [part, isAgg, run_underlying Try.underlying38]
theorem ext38 {xs : Array Value} {f : Nat → Int} (hx : Ag xs 64 f) (i : Nat) (hi : i < 16) : Ag (xs.extract (i * 4) (i * 4 + 4)) 4 (fun j => f (i * 4 + j)) := by
  refine ⟨by rw [Array.size_extract, hx.1]; omega, fun j hj => ?_⟩
  rw [Array.getElem?_extract, if_pos (by rw [hx.1]; omega)]
  exact hx.2 _ (by omega)
theorem allEq_blocks (f g : Nat → Int) : ((List.range 16).all fun i => allEq (fun j => f (i * 4 + j)) (fun j => g (i * 4 + j)) 4) = allEq f g 64 := by
  rw [Bool.eq_iff_iff]
  unfold allEq
  simp only [List.all_eq_true, List.mem_range, beq_iff_eq]
  constructor
  · intro h i hi
    have := h (i / 4) (by omega) (i % 4) (by omega)
    rwa [show i / 4 * 4 + i % 4 = i by omega] at this
  · intro h i hi j hj
    exact h _ (by omega)
theorem eq48 {xs ys : Array Value} {f g : Nat → Int} (hx : Ag xs 64 f) (hy : Ag ys 64 g) (w : World) : (binOp .eql 48 (.agg xs) (.agg ys)).run Try.prog w = .ok (.bool (allEq f g 64)) w := by
  rw [run_eql_struct, eq_arr w 9999 48 38 16 4 Try.underlying48 sz38 xs ys (fun i => .agg (xs.extract (i * 4) (i * 4 + 4))) (fun i => .agg (ys.extract (i * 4) (i * 4 + 4))) _ (fun i _ => part38 _ _ w) (fun i _ => part38 _ _ w) (fun i hi => eq38 9997 (ext38 hx i hi) (ext38 hy i hi) w), allEq_blocks]
  rfl
theorem eq38' {xs ys : Array Value} {f g : Nat → Int} (hx : Ag xs 4 f) (hy : Ag ys 4 g) (w : World) : (binOp .eql 38 (.agg xs) (.agg ys)).run Try.prog w = .ok (.bool (allEq f g 4)) w := by
  rw [run_eql_struct, eq38 9998 hx hy w]
  rfl

theorem eg48 : Try.prog.eqGuardType Try.prog.depth 48 = false := by kernel_rfl
theorem eg38 : Try.prog.eqGuardType Try.prog.depth 38 = false := by kernel_rfl
theorem exec_eql {o : Oper} {a : Act} {w : World} (t u : TypeId) (x y : Operand) (cs ds : Array Value) (b : Bool) (hm : Try.prog.eqGuardType Try.prog.depth t = false) (ho : o.op = .binOp .eql t x y u) (hx : a.eval x = .agg cs) (hy : a.eval y = .agg ds)
    (h : (binOp .eql t (.agg cs) (.agg ds)).run Try.prog w = .ok (.bool b) w) : (execOp a.eval o).run Try.prog w = .ok (.value (.bool b)) w := by
  unfold execOp
  simp only [ho, hx, hy]
  simp only [Sem.run_bind, run_eqGuard_agg w .eql t x y cs ds hm, h, Result.andThen_ok, Sem.run_pure]

def flatV (t : Nat → Int) : Bool := allEq t (fun j => t (j % 4)) 64
def flatK (t : Nat → Int) (k : Nat) : Nat → Int := fun j => if j < 4 * k then t (j % 4) else 0
theorem flatK_next (t : Nat → Int) (k j : Nat) : (if k * 4 ≤ j ∧ j < k * 4 + 4 then t (j - k * 4) else flatK t k j) = flatK t (k + 1) j := by
  unfold flatK
  by_cases h : k * 4 ≤ j ∧ j < k * 4 + 4
  · rw [if_pos h, if_pos (by omega), show j % 4 = j - k * 4 by omega]
  · rw [if_neg h]
    by_cases h2 : j < 4 * k
    · rw [if_pos h2, if_pos (by omega)]
    · rw [if_neg h2, if_neg (by omega)]

attribute [local irreducible] agOf
set_option maxHeartbeats 400000 in
theorem flat_any (t : Nat → Int) (w : World) : Calls Try.prog 37 #[.agg (agOf 0 64 t)] w fun e w' => e = .returned (.bool (flatV t)) ∧ Below w.heap.size w w' := by
  have A0 := hide (agOf_ag0 64 t)
  have z0 := A0.out.1
  have A4 := hide (agOf_ag0 4 t)
  have z4 := A4.out.1
  have HZ := hide Z64_ag
  obtain ⟨r, hr⟩ : ∃ r, r = flatV t := ⟨_, rfl⟩
  rw [← hr]
  have HR := hide hr
  clear hr
  go_enter Try.func37, Try.ntmps37
  go_upto_region 2 with (with_reducible refine wpList_run rfl (exec_alloc T48 rfl) ?_)
  generalize hw0 : (w.alloc (.cells (agOf 0 64 t) 48)).alloc (.cells Z64 48) = w0
  have BT := hide (show Bk w0 w.heap.size 64 t from Bk.of_box (cs := agOf 0 64 t) (by rw [← hw0]; (repeat' (first | (refine Box.mk' ?_; simp; done) | (refine Box.old ?_ ?_; rotate_left; (simp <;> omega))))) A0.out)
  have BO := hide (show Bk w0 (w.heap.size + 1) 64 (fun _ => 0) from Bk.of_box (cs := Z64) (by rw [← hw0]; (repeat' (first | (refine Box.mk' ?_; simp; done) | (refine Box.old ?_ ?_; rotate_left; (simp <;> omega))))) HZ.out)
  have hb0 := hide (show Below w.heap.size w w0 by rw [← hw0]; (repeat' (first | exact Below.refl _ _ | assumption | refine Below.setCell ?_ (by simp <;> omega) _ | refine Below.alloc ?_ (by simp <;> omega) _)))
  clear hw0
  go_wp2_with fail
  go_loopw [5] (fun i wr => ∃ k : Nat, k ≤ 16 ∧ i = .int .i64 k ∧ Bk wr (w.heap.size + 1) 64 (flatK t k) ∧ Below (w.heap.size + 1) w0 wr) (fun i _ => 16 - (intOf i).toNat)
  case atStart => exact ⟨0, by omega, rfl, BO.out.congr (fun i _ => by unfold flatK; rw [if_neg (by omega)]), Below.refl _ _⟩
  case round =>
    obtain ⟨k, hk, rfl, hbk, hbw⟩ := hrel
    have HK := hide hbk
    have HW := hide hbw
    have BT1 := hide (BT.out.below hbw (by omega))
    clear hbk hbw
    by_cases hlt : k < 16
    · have hl := BT1.out.load (off := 0) (m := 4) (by omega)
      have HL := hide hl
      clear hl
      go_wp2_with (first | (with_reducible refine wpList_run rfl (exec_load T38 (.tmp 9) rfl ⟨w.heap.size, 0, none⟩ rfl (agOf 0 4 t) z4 HL.out) ?_) | (with_reducible refine wpList_store T38 rfl (.tmp 11) (.tmp 10) rfl (w.heap.size + 1) (k * 4) rfl (agOf 0 4 t) rfl z4 (HK.out.isSome (by omega)) (HK.out.free (by omega)) A4.out.one ?_))
      intro w5 hs
      have HK5 := hide (HK.out.set hs A4.out)
      have HW5 := hide (HW.out.trans (hs.below (Nat.le_refl _)))
      clear hs
      go_wp2_with fail
      go_roundw
      case rel => exact ⟨k + 1, by omega, by go_num, HK5.out.congr fun j hj => flatK_next t k j, HW5.out⟩
      case measure => simp [intOf]; omega
    · obtain rfl : k = 16 := by omega
      obtain ⟨G, hG⟩ : ∃ G, G = flatK t 16 := ⟨_, rfl⟩
      rw [← hG] at HK
      have HE := hide (show (binOp .eql 48 (.agg (agOf 0 64 t)) (.agg (agOf 0 64 G))).run Try.prog wr = .ok (.bool r) wr by
        rw [eq48 A0.out (agOf_ag0 64 G), HR.out, hG]
        congr 2)
      have zG := (agOf_ag0 64 G).1
      clear hG
      go_wp2_with (first | (with_reducible refine wpList_run rfl (exec_load T48 (.tmp 1) rfl ⟨w.heap.size, 0, none⟩ rfl (agOf 0 64 t) z0 (BT1.out.load (by omega))) ?_) | (with_reducible refine wpList_run rfl (exec_load T48 (.tmp 3) rfl ⟨w.heap.size + 1, 0, none⟩ rfl (agOf 0 64 G) zG (HK.out.load (by omega))) ?_) | (with_reducible refine wpList_run rfl (exec_eql 48 48 (.tmp 13) (.tmp 14) (agOf 0 64 t) (agOf 0 64 G) r eg48 rfl rfl rfl HE.out) ?_))
      go_ret
      exact ⟨rfl, hb0.out.trans (HW.out.mono (by omega))⟩
end Go.Proofs.Ytmckfppemhnhmaa
