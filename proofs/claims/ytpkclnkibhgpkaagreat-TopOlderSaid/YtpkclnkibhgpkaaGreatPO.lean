/-
Whether a texture's pairs may be; Check. Its conditions: a format that there is.
-/
import Derived.Test.YtpkclnkibhgpkaaGreatPN
import Derived.Test.YtpkclnkibhgpkaaGreatPS
namespace Go.Proofs.YtpkclnkibhgpkaaGreat
open Go.RowKit

def zeroAt (K : ByteArray) : Int := Lib.indexByte K.data.toList (0 : Int).toNat.toUInt8
def oddV (K U : ByteArray) : Bool := K.toList.isEmpty || decide (0 ≤ zeroAt K) || decide (65535 < wrap64 ((K.size : Int) + U.size))
set_option maxRecDepth 100000 in
set_option maxHeartbeats 2000000 in
theorem odd_any (K U : ByteArray) (w : World) :
    Calls Tryz.prog 38 #[.agg #[.string K, .string U]] w fun e w' => e = .returned (.bool (oddV K U)) ∧ Below w.heap.size w w' := by
  have ho : oddV K U = (K.toList.isEmpty || decide (0 ≤ zeroAt K) || decide (65535 < wrap64 ((K.size : Int) + U.size))) := rfl
  have HO := hide ho
  have hz : zeroAt K = Lib.indexByte K.data.toList (0 : Int).toNat.toUInt8 := rfl
  have s39 : ∀ w, Calls Tryz.prog 39 #[.string K, .int .u8 0] w fun e w' => e = .returned (.int .i64 (zeroAt K)) ∧ w' = w := fun w => by
    rw [hz]; exact Tryz.strings_IndexByte K 0 w
  generalize zeroAt K = z at *
  clear ho hz
  go_enter Tryz.func38, Tryz.ntmps38
  go_wp2_with (go_at_call 39; refine (s39 _).mono ?_; rintro e w' ⟨rfl, rfl⟩)
  all_goals go_ret
  all_goals refine ⟨congrArg (fun x => Ending.returned (.bool x)) ?_, (Below.refl _ _).alloc (Nat.le_refl _) _⟩
  all_goals rw [HO.out]
  all_goals simp_all
/-- M pairs of strings -/
def Prs (w : World) (v : Value) (M : Nat) (K U : Nat → ByteArray) : Prop :=
  ∃ ao cap, v = .slice ao M cap ∧ M ≤ 9223372036854775807 ∧ (0 < M → ∃ b off, ao = some ⟨b, off, none⟩ ∧ ∀ i, i < M → w.cell? ⟨b, off + i * 2, none⟩ = some (.string (K i)) ∧ w.cell? ⟨b, off + i * 2 + 1, none⟩ = some (.string (U i)))
theorem Prs.below {w w' : World} {v : Value} {M : Nat} {K U : Nat → ByteArray} {B : Nat} (h : Prs w v M K U) (hb : Below B w w') (hB : w.heap.size ≤ B) : Prs w' v M K U := by
  obtain ⟨ao, cap, rfl, h1, h4⟩ := h
  refine ⟨ao, cap, rfl, h1, fun h0 => ?_⟩
  obtain ⟨b, off, rfl, hc⟩ := h4 h0
  exact ⟨b, off, rfl, fun i hi => ⟨(hb.cell (Nat.lt_of_lt_of_le (World.block_lt_of_cell? w _ (hc i hi).1) hB)).trans (hc i hi).1, (hb.cell (Nat.lt_of_lt_of_le (World.block_lt_of_cell? w _ (hc i hi).2) hB)).trans (hc i hi).2⟩⟩
theorem T62 : AggT Tryz.prog 62 3 #[.int .i64 0, .int .i64 0, .int .i64 0] :=
  ⟨⟨_, Tryz.underlying62, rfl⟩, by kernel_rfl, fun _ => by kernel_rfl, rfl, fun _ => by kernel_rfl⟩
theorem T74 : AggT Tryz.prog 74 2 #[.string { data := #[] }, .string { data := #[] }] :=
  ⟨⟨_, Tryz.underlying74, rfl⟩, by kernel_rfl, fun _ => by kernel_rfl, rfl, fun _ => by kernel_rfl⟩
set_option maxRecDepth 100000 in
set_option maxHeartbeats 2000000 in
theorem oddAt_any (M : Nat) (K U : Nat → ByteArray) (v : Value) (w : World) (h : Prs w v M K U) :
    Calls Tryz.prog 64 #[v, .func (.func 38) #[] #[]] w fun e w' => (∃ r : Int, e = .returned (.int .i64 r) ∧ -1 ≤ r ∧ r ≤ 9223372036854775807 ∧ (0 ≤ r ↔ ∃ i, i < M ∧ oddV (K i) (U i) = true)) ∧ Below w.heap.size w w' := by
  obtain ⟨ao, cap, rfl, hM, hc⟩ := h
  have HC := hide hc
  clear hc
  go_enter Tryz.func64, Tryz.ntmps64
  go_wp2_with fail
  go_loopw [8] (fun i wr => ∃ k : Nat, k ≤ M ∧ i = .int .i64 k ∧ (∀ j, j < k → oddV (K j) (U j) = false) ∧ Below w.heap.size w wr) (fun i _ => M - (intOf i).toNat)
  case atStart => exact ⟨0, by omega, rfl, fun j hj => by omega, Below.refl _ _⟩
  case round =>
    obtain ⟨k, hk, rfl, hall, hbw⟩ := hrel
    have HA := hide hall
    clear hall
    by_cases hlt : k < M
    · obtain ⟨bb, off, rfl, h1⟩ := HC.out (by omega)
      have e1 := (hbw.cell (p := ⟨bb, off + k * 2, none⟩) (World.block_lt_of_cell? w _ (h1 k hlt).1)).trans (h1 k hlt).1
      have e2 := (hbw.cell (p := ⟨bb, off + k * 2 + 1, none⟩) (World.block_lt_of_cell? w _ (h1 k hlt).2)).trans (h1 k hlt).2
      have HB := hide hbw
      clear h1 hbw
      go_wp2_with fail
      refine (odd_any _ _ _).mono ?_
      rintro e w' ⟨rfl, hb2⟩
      have HB2 := hide (HB.out.trans (hb2.mono HB.out.size))
      clear hb2 e1 e2
      by_cases hq : oddV (K k) (U k) = true
      · have HQ := hide hq
        rw [hq]
        clear hq
        go_wp2
        go_ret
        exact ⟨⟨k, rfl, by omega, by omega, ⟨fun _ => ⟨k, hlt, HQ.out⟩, fun _ => by omega⟩⟩, HB2.out⟩
      · have hq' : oddV (K k) (U k) = false := by simpa using hq
        have HQ := hide (show ∀ j, j < k + 1 → oddV (K j) (U j) = false by
          intro j hj
          by_cases e : j = k
          · subst e; exact hq'
          · exact HA.out j (by omega))
        rw [hq']
        clear hq hq'
        go_wp2
        go_roundw
        case rel => exact ⟨k + 1, by omega, by go_num, HQ.out, HB2.out⟩
        case measure => simp [intOf]; omega
    · obtain rfl : k = M := by omega
      have HB := hide hbw
      clear hbw
      go_wp2
      go_ret
      exact ⟨⟨-1, rfl, by omega, by omega, ⟨fun h => by omega, fun ⟨i, hi, ho⟩ => by rw [HA.out i hi] at ho; cases ho⟩⟩, HB.out⟩
def anyOdd (M : Nat) (K U : Nat → ByteArray) : Bool := (List.range M).any fun i => oddV (K i) (U i)
theorem anyOdd_any (M : Nat) (K U : Nat → ByteArray) (v : Value) (w : World) (h : Prs w v M K U) :
    Calls Tryz.prog 41 #[v, .func (.func 38) #[] #[]] w fun e w' => e = .returned (.bool (anyOdd M K U)) ∧ Below w.heap.size w w' := by
  have s64 := oddAt_any M K U v w h
  go_enter Tryz.func41, Tryz.ntmps41
  go_wp2_with fail
  refine s64.mono ?_
  rintro e w1 ⟨⟨r, rfl, hr0, hr1, hr⟩, hb⟩
  have HB := hide hb
  have HX := hide (show anyOdd M K U = decide (0 ≤ r) by
    unfold anyOdd
    rw [Bool.eq_iff_iff]
    simp only [List.any_eq_true, List.mem_range, decide_eq_true_eq]
    exact hr.symm)
  clear hb hr s64
  go_wp2
  go_ret
  exact ⟨congrArg (fun x => Ending.returned (.bool x)) HX.out.symm, HB.out⟩
/-- what Check answers of a texture -/
def chkV (b W H Ly F n SL LL TL : Int) (N : Nat) (L : Nat → Nat) (M : Nat) (K U : Nat → ByteArray) : Int :=
  if hdrV W H Ly F n SL LL TL ≠ 0 then hdrV W H Ly F n SL LL TL else if datV b W H Ly F n N L = false then 1 else if anyOdd M K U then 8 else 0
set_option maxRecDepth 100000 in
set_option maxHeartbeats 2000000 in
theorem check_any (f b m W H Ly F n SL LL TL : Int) (wd : Bool) (dv pv : Value) (N : Nat) (V : Nat → Value) (L : Nat → Nat) (g : Nat → Nat → Int) (M : Nat) (K U : Nat → ByteArray) (w : World) (OF : OfOK f b m wd) (hb0 : 0 ≤ b) (hb1 : b ≤ 1000)
    (hW0 : -9223372036854775808 ≤ W) (hW : W ≤ 9223372036854775807) (hH0 : -9223372036854775808 ≤ H) (hH : H ≤ 9223372036854775807) (hL0 : -9223372036854775808 ≤ Ly) (hL : Ly ≤ 9223372036854775807)
    (hF0 : -9223372036854775808 ≤ F) (hF : F ≤ 9223372036854775807) (hn0 : -9223372036854775808 ≤ n) (hn : n ≤ 9223372036854775807) (hD : Dat w dv N V L g) (hP : Prs w pv M K U) :
    Calls Tryz.prog 19 #[.agg #[.int .i64 f, .int .i64 W, .int .i64 H, .int .i64 Ly, .int .i64 F, .int .i64 n, dv, pv], .agg #[.int .i64 SL, .int .i64 LL, .int .i64 TL]] w fun e w' =>
      e = .returned (.int .i64 (chkV b W H Ly F n SL LL TL N L M K U)) ∧ Below w.heap.size w w' := by
  have s37 := header_any f b m W H Ly F n SL LL TL wd dv pv
  obtain ⟨hv, hhv⟩ : ∃ hv, hv = hdrV W H Ly F n SL LL TL := ⟨_, rfl⟩
  have hx : chkV b W H Ly F n SL LL TL N L M K U = if hv ≠ 0 then hv else if datV b W H Ly F n N L = false then 1 else if anyOdd M K U then 8 else 0 := by rw [hhv]; rfl
  have hn63 : hv = 0 → 1 ≤ n ∧ n ≤ 63 := fun h => by
    have hl := levelsV_bd W H hW hH
    rw [hhv] at h
    unfold hdrV at h
    split at h
    · omega
    · split at h
      · omega
      · omega
  rw [← hhv] at s37
  have HX := hide hx
  have HN := hide hn63
  have DD := hide hD
  have PP := hide hP
  have OO := hide OF
  clear hx hhv hn63 hD hP OF
  go_enter Tryz.func19, Tryz.ntmps19
  go_upto_region 1 with fail
  generalize hw1 : (w.alloc _).alloc _ = w1
  have B0 := hide (show Box w1 w.heap.size #[.int .i64 f, .int .i64 W, .int .i64 H, .int .i64 Ly, .int .i64 F, .int .i64 n, dv, pv] by rw [← hw1]; exact Box.old (Box.mk' rfl) (by simp))
  have B1 := hide (show Box w1 (w.heap.size + 1) #[.int .i64 SL, .int .i64 LL, .int .i64 TL] by rw [← hw1]; exact Box.mk' (by simp))
  have L1 := hide (show Below w.heap.size w w1 by rw [← hw1]; exact ((Below.refl _ _).alloc (Nat.le_refl _) _).alloc (by simp) _)
  have z1 : w.heap.size + 2 ≤ w1.heap.size := by rw [← hw1]; simp
  clear hw1
  go_wp2_with (first
    | (with_reducible refine wpList_run rfl (exec_load T25 (.tmp 2) rfl ⟨w.heap.size, 0, none⟩ rfl #[.int .i64 f, .int .i64 W, .int .i64 H, .int .i64 Ly, .int .i64 F, .int .i64 n, dv, pv] rfl (Box.loads B0.out)) ?_)
    | (with_reducible refine wpList_run rfl (exec_load T62 (.tmp 3) rfl ⟨w.heap.size + 1, 0, none⟩ rfl #[.int .i64 SL, .int .i64 LL, .int .i64 TL] rfl (Box.loads B1.out)) ?_))
  refine (s37 _ OO.out hW0 hW hH0 hH hL0 hL hF0 hF hn0 hn).mono ?_
  rintro e w2 ⟨rfl, hb2⟩
  have B2 := hide (B0.out.below hb2 (by omega))
  have L2 := hide (L1.out.trans (hb2.mono (by omega)))
  have z2 : w.heap.size + 2 ≤ w2.heap.size := by have := hb2.size; omega
  clear hb2 B0 B1 L1 s37
  by_cases h1 : hv ≠ 0
  · have d1 : (hv != 0) = true := by simpa using h1
    have HY := hide (show chkV b W H Ly F n SL LL TL N L M K U = hv by rw [HX.out, if_pos h1])
    clear h1
    go_wp2
    go_ret
    exact ⟨ret1 HY.out.symm, L2.out⟩
  have d1 : (hv != 0) = false := by simpa using h1
  have hn1 : 1 ≤ n ∧ n ≤ 63 := HN.out (by omega)
  have HX2 := hide (show chkV b W H Ly F n SL LL TL N L M K U = if datV b W H Ly F n N L = false then 1 else if anyOdd M K U then 8 else 0 by rw [HX.out, if_neg h1])
  have s40 := fun w0 hD => data_any f b m W H Ly F n wd pv dv N V L g w0 OO.out hb0 hb1 hW0 hW hH0 hH hn1.1 hn1.2 hD
  have D2 := hide (s40 _ (DD.out.below L2.out (Nat.le_refl _)))
  clear h1 HX HN s40
  obtain ⟨dt, hdt⟩ : ∃ dt, dt = datV b W H Ly F n N L := ⟨_, rfl⟩
  rw [← hdt] at D2 HX2
  clear hdt
  go_wp2_with (with_reducible refine wpList_run rfl (exec_load T25 (.tmp 2) rfl ⟨w.heap.size, 0, none⟩ rfl #[.int .i64 f, .int .i64 W, .int .i64 H, .int .i64 Ly, .int .i64 F, .int .i64 n, dv, pv] rfl (Box.loads B2.out)) ?_)
  refine D2.out.mono ?_
  rintro e w3 ⟨rfl, hb3⟩
  have B3 := hide (B2.out.below hb3 (by omega))
  have L3 := hide (L2.out.trans (hb3.mono (by omega)))
  have z3 : w.heap.size + 2 ≤ w3.heap.size := by have := hb3.size; omega
  clear hb3 B2 L2 D2
  cases dt with
  | false =>
    have HY := hide (show chkV b W H Ly F n SL LL TL N L M K U = 1 by rw [HX2.out]; rfl)
    go_wp2
    go_ret
    exact ⟨ret1 HY.out.symm, L3.out⟩
  | true =>
    have HY := hide (show chkV b W H Ly F n SL LL TL N L M K U = if anyOdd M K U then 8 else 0 by rw [HX2.out]; rfl)
    have P3 := hide (anyOdd_any M K U pv w3 (PP.out.below L3.out (Nat.le_refl _)))
    obtain ⟨-, -, -, -, -, -, -, c7⟩ := B3.out.c8
    clear HX2
    obtain ⟨od, hod⟩ : ∃ od, od = anyOdd M K U := ⟨_, rfl⟩
    rw [← hod] at P3 HY
    clear hod
    go_wp2_with fail
    refine P3.out.mono ?_
    rintro e w4 ⟨rfl, hb4⟩
    have L4 := hide (L3.out.trans (hb4.mono (by omega)))
    clear hb4 P3 c7
    cases od with
    | false =>
      go_wp2
      go_ret
      exact ⟨ret1 HY.out.symm, L4.out⟩
    | true =>
      go_wp2
      go_ret
      exact ⟨ret1 HY.out.symm, L4.out⟩
end Go.Proofs.YtpkclnkibhgpkaaGreat
