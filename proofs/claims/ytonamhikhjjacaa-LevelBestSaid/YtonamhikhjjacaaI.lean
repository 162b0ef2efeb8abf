import Derived.Test.YtonamhikhjjacaaH
import Derived.Test.YtonamhikhjjacaaT
namespace Go.Proofs.Ytonamhikhjjacaa
open Go.RowKit

def Z64 : Array Value := Array.replicate 64 (.int .i64 0)
theorem zero33 (w : World) : (zeroValue 33).run Try.prog w = .ok (.agg Z64) w := by kernel_rfl
theorem build33 (w : World) : (Instr.build 33 #[]).run Try.prog w = .ok (.agg Z64) w := by kernel_rfl
theorem size33 : (Try.prog.info? 33).map (·.size) = some 64 := by kernel_rfl
theorem T33 : AggT Try.prog 33 64 Z64 := ⟨⟨_, Try.underlying33, rfl⟩, size33, zero33, by simp [Z64], build33⟩
theorem Z64_at (j : Nat) (hj : j < 64) : Z64[j]? = some (.int .i64 0) := by unfold Z64; simp [hj]

def Z4 : Array Value := Array.replicate 4 (.int .i64 0)
theorem zero31 (w : World) : (zeroValue 31).run Try.prog w = .ok (.agg Z4) w := by kernel_rfl
theorem build31 (w : World) : (Instr.build 31 #[]).run Try.prog w = .ok (.agg Z4) w := by kernel_rfl
theorem size31 : (Try.prog.info? 31).map (·.size) = some 4 := by kernel_rfl
theorem T31 : AggT Try.prog 31 4 Z4 := ⟨⟨_, Try.underlying31, rfl⟩, size31, zero31, by simp [Z4], build31⟩
def tf : Nat → Int := fun i => if 12 ≤ i ∧ i < 16 then (i : Int) - 11 else 0
theorem t4_ag : Ag #[.int .i64 1, .int .i64 2, .int .i64 3, .int .i64 4] 4 (fun i => (i : Int) + 1) := ⟨rfl, fun i hi => by match i, hi with | 0, _ => rfl | 1, _ => rfl | 2, _ => rfl | 3, _ => rfl⟩
def l3 : Nat → Int := fun i => (10 : Int) * i
def l2 : Nat → Int := fun i => if i = 0 then 9 else 12
theorem g_wide : wideV 5 3 = 182 := by decide +kernel
theorem g_near : nearV 180 3 = 5 := by decide +kernel
theorem g_clamp1 : clampV 300 255 = 255 := by decide +kernel
theorem g_clamp2 : clampV (-1) 255 = 0 := by decide +kernel
theorem g_mix : mixV 10 40 1 3 0 = 20 := by decide +kernel
theorem g_best : bestV 3 2 l3 l2 = 1 := by decide +kernel
theorem g_err : errK (fun _ => 0) tf 5 64 = 10 := by decide +kernel
theorem ri_new (w : World) (cs : List Value) (f : Nat → Int) (n : Nat) (hn : n ≤ 1000) (e : ∀ i, i < n → cs[i]? = some (.int .i64 (f i))) : RI (w.alloc (.cells cs.toArray 3)) (.slice (some ⟨w.heap.size, 0, none⟩) n n) n f :=
  ⟨_, _, rfl, by omega, fun _ => ⟨_, 0, rfl, fun i hi => by rw [cell_of_row _ _ _ _ _ _ (heap_alloc_new w _)]; simpa using e i hi⟩⟩

theorem Z64_ag : Ag Z64 64 (fun _ => 0) := ⟨by simp [Z64], fun j hj => Z64_at j hj⟩

set_option maxRecDepth 100000 in
set_option maxHeartbeats 1600000 in
theorem awake_any (w : World) : Calls Try.prog 7 #[] w fun e w' => e = .returned (.bool true) ∧ Below w.heap.size w w' := by
  go_enter Try.func7, Try.ntmps7
  have hz := Z64_ag.1
  have HZ := hide Z64_ag
  have k1 := hide (Bk.new Z64_ag w 33)
  go_wp2_with (first | (with_reducible refine wpList_run rfl (exec_build T33 rfl) ?_) | (with_reducible refine wpList_run rfl (exec_alloc T33 rfl) ?_) | (with_reducible refine wpList_store T33 rfl (.tmp 1) (.tmp 3) rfl w.heap.size 0 rfl Z64 rfl hz (k1.out.isSome (by omega)) (k1.out.free (by omega)) HZ.out.one ?_))
  intro w1 hs1
  have k2 := (k1.out.set hs1 HZ.out).congr (g := fun _ => 0) (fun i hi => by simp)
  have hb1 : Below w.heap.size w w1 := ((Below.refl _ _).alloc (Nat.le_refl _) _).trans (hs1.below (Nat.le_refl _))
  have hz1 : w1.heap.size = w.heap.size + 1 := by rw [hs1.size]; simp
  have HZ1 := hide hz1
  clear hz1 hs1 k1
  have k1 := hide (Bk.new Z64_ag w1 33)
  go_wp2_with (first | (with_reducible refine wpList_run rfl (exec_build T33 rfl) ?_) | (with_reducible refine wpList_run rfl (exec_alloc T33 rfl) ?_) | (with_reducible refine wpList_store T33 rfl (.tmp 2) (.tmp 4) rfl w1.heap.size 0 rfl Z64 rfl hz (k1.out.isSome (by omega)) (k1.out.free (by omega)) HZ.out.one ?_))
  intro w2 hs2
  have k3 := (k1.out.set hs2 HZ.out).congr (g := fun _ => 0) (fun i hi => by simp)
  have hb2 : Below w.heap.size w w2 := (hb1.alloc hb1.size _).trans (hs2.below hb1.size)
  have k2' := (k2.below ((Below.refl _ _).alloc (Nat.le_refl _) (.cells Z64 33)) (by rw [HZ1.out]; omega)).below (hs2.below (Nat.le_refl _)) (by rw [HZ1.out]; omega)
  have HZ2 := hide (show w2.heap.size = w1.heap.size + 1 by rw [hs2.size]; simp)
  clear hs2 k1 k2 hb1
  have K3 := hide k3
  have K2 := hide k2'
  clear k3 k2'
  go_wp2_with (with_reducible refine wpList_store T31 rfl (.tmp 6) (.tmp 5) rfl w1.heap.size 12 rfl #[.int .i64 1, .int .i64 2, .int .i64 3, .int .i64 4] rfl rfl (K3.out.isSome (by omega)) (K3.out.free (by omega)) t4_ag.one ?_)
  intro w3 hs3
  have hb3 : Below w.heap.size w w3 := hb2.trans (hs3.below (by rw [HZ1.out]; omega))
  have k3 := (K3.out.set hs3 t4_ag).congr (g := tf) (fun i hi => by unfold tf; split <;> omega)
  have k2 := K2.out.below (hs3.below (Nat.le_refl _)) (by rw [HZ1.out]; omega)
  have HZ3 := hide (show w3.heap.size = w.heap.size + 2 by rw [hs3.size, HZ2.out, HZ1.out])
  have K3' := hide k3
  have K2' := hide k2
  clear hs3 K3 K2 hb2 k2 k3 HZ2
  go_wp2_with fail
  refine (wide_any 5 3 _ (by omega) (by omega)).mono ?_
  rintro e w' ⟨rfl, rfl⟩
  rw [g_wide]
  go_wp2_with fail
  refine (near_any 180 3 _ (by omega) (by omega)).mono ?_
  rintro e w4 ⟨rfl, hb4'⟩
  rw [g_near]
  have hb4 : Below w.heap.size w w4 := hb3.trans (hb4'.mono hb3.size)
  have K3 := hide (K3'.out.below hb4' (by rw [HZ1.out, HZ3.out]; omega))
  have K2 := hide (K2'.out.below hb4' (by rw [HZ3.out]; omega))
  have HZ4 := hide (show w.heap.size + 2 ≤ w4.heap.size by have := hb4'.size; rw [HZ3.out] at this; exact this)
  clear hb4' K3' K2' HZ3 hb3
  go_wp2_with fail
  refine (clamp_any 300 255 _).mono ?_
  rintro e w' ⟨rfl, rfl⟩
  rw [g_clamp1]
  go_wp2_with fail
  refine (clamp_any (-1) 255 _).mono ?_
  rintro e w' ⟨rfl, rfl⟩
  rw [g_clamp2]
  go_wp2_with fail
  refine (mix_any 10 40 1 3 0 _ ⟨by omega, by omega⟩ ⟨by omega, by omega⟩ ⟨by omega, by omega⟩ ⟨by omega, by omega⟩ ⟨by omega, by omega⟩).mono ?_
  rintro e w' ⟨rfl, rfl⟩
  rw [g_mix]
  go_wp2_with fail
  have r1 := (ri_new w4 [.int .i64 0, .int .i64 10, .int .i64 20] l3 3 (by omega) (fun i hi => by match i, hi with | 0, _ => rfl | 1, _ => rfl | 2, _ => rfl)).below ((Below.refl _ _).alloc (Nat.le_refl _) (.cells #[.int .i64 9, .int .i64 12] 3)) (Nat.le_refl _)
  have r2 := ri_new (w4.alloc (.cells #[.int .i64 0, .int .i64 10, .int .i64 20] 3)) [.int .i64 9, .int .i64 12] l2 2 (by omega) (fun i hi => by match i, hi with | 0, _ => rfl | 1, _ => rfl)
  rw [show (w4.alloc (.cells #[.int .i64 0, .int .i64 10, .int .i64 20] 3)).heap.size = w4.heap.size + 1 by simp] at r2
  refine (best_any 3 2 l3 l2 _ _ _ (by omega) (by omega) r1 r2 (fun j hj => by unfold l3; omega) (fun j hj => by unfold l2; split <;> omega)).mono ?_
  rintro e w5 ⟨rfl, hb5'⟩
  rw [g_best]
  have hb45 : Below w4.heap.size w4 w5 := (((Below.refl _ _).alloc (Nat.le_refl _) _).alloc (by simp) _).trans (hb5'.mono (by simp; omega))
  have hb5 : Below w.heap.size w w5 := hb4.trans (hb45.mono hb4.size)
  have k3 := hide (K3.out.below hb45 (by have := HZ4.out; rw [HZ1.out]; omega))
  have k2 := hide (K2.out.below hb45 (by have := HZ4.out; omega))
  clear r1 r2 hb5' hb45 hb4 K3 K2 HZ4
  have a0 := (agOf_ag 0 64 (fun _ => (0 : Int)))
  have a1 := (agOf_ag 0 64 tf)
  have z0 := a0.1
  have z1 := a1.1
  have A0 := hide a0
  have A1 := hide a1
  clear a0 a1
  go_wp2_with (first | (with_reducible refine wpList_run rfl (exec_load T33 (.tmp 1) rfl ⟨w.heap.size, 0, none⟩ rfl (agOf 0 64 (fun _ => (0 : Int))) z0 (k2.out.load (by omega))) ?_) | (with_reducible refine wpList_run rfl (exec_load T33 (.tmp 2) rfl ⟨w1.heap.size, 0, none⟩ rfl (agOf 0 64 tf) z1 (k3.out.load (by omega))) ?_))
  refine (error_any (fun _ => 0) tf _ _ 5 _ A0.out ⟨A1.out.1, fun i hi => by have h := A1.out.2 i hi; simp only [Nat.zero_add] at h; exact h⟩ (fun j _ => ⟨by decide, by decide⟩) (fun j hj => by unfold tf; split <;> omega)).mono ?_
  rintro e w6 ⟨rfl, hb6⟩
  rw [g_err]
  have hb := hb5.trans (hb6.mono hb5.size)
  clear hb6 hb5 k2 k3 A0 A1 z0 z1 HZ HZ1 hz
  go_wp2_with fail
  go_ret
  exact ⟨rfl, hb⟩
end Go.Proofs.Ytonamhikhjjacaa
