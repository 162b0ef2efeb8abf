/-
The surfaces of a texture. Its conditions: a format of blocks of eight bytes; data that is not too long.
-/
import Derived.Test.YtpkclnkibhgpkaaGreatPV
import Derived.Great.BuildSlice
import Derived.Deep.AppendLies
namespace Go.Proofs.YtpkclnkibhgpkaaGreat
open Go.RowKit
attribute [local irreducible] agOf
/-- the greater of two, kept whole -/
def mx2 (x y : Int) : Int := if y > x then y else x
theorem exec_max {P : Program} {o : Oper} {a : Act} {w : World} (p q : Operand) (ts : Array TypeId) (ho : o.op = .call { callee := .builtin .max, args := #[p, q], argTypes := ts }) (x y : Int) (hp : a.eval p = .int .i64 x) (hq : a.eval q = .int .i64 y) :
    (execOp a.eval o).run P w = .ok (.value (.int .i64 (mx2 x y))) w := by
  have : (Builtin.max_ ts o.type #[.int .i64 x, .int .i64 y]).run P w = .ok (.int .i64 (mx2 x y)) w := by
    simp [Builtin.max_, Builtin.max2, mx2, List.foldlM]
  unfold execOp
  simp only [ho]
  simp only [resolve, List.map_toArray, List.map_cons, List.map_nil, hp, hq, Sem.run_bind, Sem.run_pure, Result.andThen_ok, invoke, builtin, this]
theorem step_run {P : Program} {ops : Array Oper} {o : Oper} {a : Act} {w w' : World} {K : Act → World → Prop} {Q : Exit → Act → World → Prop} {E : Prop} (hg : o.guard = none) {v : Value}
    (hr : (execOp a.eval o).run P w = .ok (.value v) w') (h : K (a.put o.dst v) w') : if Region.wanted o (yielded ops a.tmps) = true then Oper.wp P o a w K Q else E := by
  have hw : Region.wanted o (yielded ops a.tmps) = true := by simp [Region.wanted, hg]
  rw [if_pos hw]
  unfold Oper.wp; rw [hr]; exact h
theorem info47 : (Tryz.prog.info? 47).map (fun i => (i.zero, i.size, i.bytes)) = some (some (.agg #[.int .i64 0, .int .i64 0, .slice none 0 0]), 3, 40) := by kernel_rfl
theorem fill_one {s : Nat} (hs : 0 < s) (cs base : Array Value) (h1 : cs.size = s) (h2 : base.size = s) :
    Instr.fill (fun i => some (i * s, s)) base [(0, .agg cs)] = some cs := by
  have := Great.fill_whole hs [.agg cs] base (fun v hv => by simp at hv; subst hv; exact h1) (by simp [h2])
  simpa [Value.cells] using this
theorem exec_slice47 {o : Oper} {a : Act} {w : World} (x : Operand) (ho : o.op = .buildSlice 29 1 #[(0, x)]) (cs : Array Value) (hx : a.eval x = .agg cs) (hn : cs.size = 3) :
    (execOp a.eval o).run Tryz.prog w = .ok (.value (.slice (some ⟨w.heap.size, 0, none⟩) 1 1)) (w.alloc (.cells cs 47)) := by
  obtain ⟨i0, hi0, hz0, hz1, hz2⟩ := info_parts info47
  unfold execOp
  have e : (Array.map (fun p : Nat × Operand => (p.1, a.eval p.2)) #[(0, x)]).toList = [(0, .agg cs)] := by simp [hx]
  simp only [ho, Sem.run_bind]
  rw [run_buildSlice (P := Tryz.prog) w 29 47 1 _ cs i0 (.agg #[.int .i64 0, .int .i64 0, .slice none 0 0]) Tryz.underlying29 hi0 hz0 (by rw [hz1]; decide) (by rw [hz1]; decide) (by rw [hz1]; exact (congrArg _ e).trans (fill_one (by omega) cs _ hn (by simp [Value.cells])))]
  rfl
theorem build62 (w : World) : (Instr.build 62 #[(0, .int .i64 2147483647), (1, .int .i64 2147483647), (2, .int .i64 2147483647)]).run Tryz.prog w = .ok (.agg #[.int .i64 2147483647, .int .i64 2147483647, .int .i64 2147483647]) w := by kernel_rfl
/-- what Check's nought says of a texture -/
theorem texOK_of {W H Ly F n : Int} {N : Nat} {L : Nat → Nat} {M : Nat} {K U : Nat → ByteArray} (hW : W ≤ 9223372036854775807) (hH : H ≤ 9223372036854775807)
    (h : chkV 8 W H Ly F n 2147483647 2147483647 2147483647 N L M K U = 0) (h1 : W ≤ 4096) (h2 : H ≤ 4096) : TexOK W H Ly F n N L := by
  unfold chkV at h
  split at h
  · rename_i q; exact absurd h q
  · rename_i hh
    have hh : hdrV W H Ly F n 2147483647 2147483647 2147483647 = 0 := by simpa using hh
    split at h
    · omega
    · rename_i hd
      have hd : datV 8 W H Ly F n N L = true := by simpa using hd
      unfold hdrV at hh
      split at hh
      · omega
      · rename_i a1
        split at hh
        · omega
        · rename_i a2
          split at hh
          · omega
          · rename_i a3
            unfold datV at hd
            simp only [Bool.and_eq_true, decide_eq_true_eq] at hd
            obtain ⟨d1, d2, d3, d4⟩ := hd
            have hl := levelsV_bd W H hW hH
            have hn : 1 ≤ n ∧ n ≤ 63 := by omega
            have hF : F = 1 ∨ F = 6 := by omega
            have hLy : 1 ≤ Ly ∧ Ly ≤ 2147483647 := by omega
            have w1 : wrap64 (Ly * F) = Ly * F := by
              refine IntWalk.wrap64_in _ ?_
              rcases hF with rfl | rfl <;> omega
            rw [w1] at d3
            unfold lensV at d4
            have d4 := of_decide_eq_true d4
            refine ⟨by omega, h1, by omega, h2, hLy.1, hLy.2, hF, hn.1, hn.2, by omega, ?_, d4⟩
            rw [← d3]
            have := Int.ediv_mul_add_emod (N : Int) n
            omega
theorem news3 (w : World) (a b c : Value) : ∀ (j : Nat) (u : Value), [a, b, c][j]? = some u → (w.alloc (.cells #[a, b, c] 47)).cell? ((⟨w.heap.size, 0, none⟩ : Addr).add j) = some u := fun j u hj => by
  rw [Addr.add_lit, Nat.zero_add, cell_new]
  simpa using hj
theorem one3 (k1 k2 : IntKind) (a b : Int) (q : Option Addr) (m c : Nat) : ∀ u ∈ [Value.int k1 a, Value.int k2 b, Value.slice q m c], u.oneCell' = true := fun u hu => by
  simp at hu
  rcases hu with rfl | rfl | rfl <;> rfl
theorem Surs.mono {w : World} {B B' : Nat} {v : Value} {k : Nat} {X Y : Nat → Int} {M : Nat → Nat} {F : Nat → Nat → Int} (h : Surs w B v k X Y M F) (hb : B' ≤ B) : Surs w B' v k X Y M F := by
  obtain ⟨GP, CP, h1, h2⟩ := h
  exact ⟨GP, CP, own_base h1 hb, fun i hi => ⟨Nat.le_trans hb (h2 i hi).1, (h2 i hi).2⟩⟩
/-- what Surfaces hands back -/
def SurfP (cv W H n : Int) (T : (Nat → Int) → Nat → Int) (N : Nat) (g : Nat → Nat → Int) (w : World) (e : Ending) (w' : World) : Prop := Below w.heap.size w w' ∧
  (if cv ≠ 0 then e = .returned (.tuple #[.slice none 0 0, .int .i64 cv])
   else if 4096 < mx2 W H then e = .returned (.tuple #[.slice none 0 0, .int .i64 6])
   else ∃ v, e = .returned (.tuple #[v, .int .i64 0]) ∧ Surs w' w.heap.size v N (sX W n) (sX H n) (sM W H n) (sF T g W H n))
theorem surfP1 {cv W H n : Int} {T : (Nat → Int) → Nat → Int} {N : Nat} {g : Nat → Nat → Int} {w w' : World} (h : Below w.heap.size w w') (h1 : cv ≠ 0) : SurfP cv W H n T N g w (.returned (.tuple #[.slice none 0 0, .int .i64 cv])) w' := ⟨h, by rw [if_pos h1]⟩
theorem surfP2 {cv W H n : Int} {T : (Nat → Int) → Nat → Int} {N : Nat} {g : Nat → Nat → Int} {w w' : World} (h : Below w.heap.size w w') (h1 : ¬ cv ≠ 0) (h2 : 4096 < mx2 W H) : SurfP cv W H n T N g w (.returned (.tuple #[.slice none 0 0, .int .i64 6])) w' := ⟨h, by rw [if_neg h1, if_pos h2]⟩
theorem surfP3 {cv W H n : Int} {T : (Nat → Int) → Nat → Int} {N : Nat} {g : Nat → Nat → Int} {w w' : World} {v : Value} (h : Below w.heap.size w w') (h1 : ¬ cv ≠ 0) (h2 : ¬ 4096 < mx2 W H) (h3 : Surs w' w.heap.size v N (sX W n) (sX H n) (sM W H n) (sF T g W H n)) :
    SurfP cv W H n T N g w (.returned (.tuple #[v, .int .i64 0])) w' := ⟨h, by rw [if_neg h1, if_neg h2]; exact ⟨v, rfl, h3⟩⟩
set_option maxRecDepth 100000 in
set_option maxHeartbeats 4000000 in
theorem surfaces_any (f m W H Ly F n : Int) (wd : Bool) (dv pv : Value) (T : (Nat → Int) → Nat → Int) (N : Nat) (V : Nat → Value) (L : Nat → Nat) (g : Nat → Nat → Int) (M : Nat) (K U : Nat → ByteArray) (w : World) (OF : OfOK f 8 m wd) (HDE : DecOK f T)
    (hW0 : -9223372036854775808 ≤ W) (hW : W ≤ 9223372036854775807) (hH0 : -9223372036854775808 ≤ H) (hH : H ≤ 9223372036854775807) (hL0 : -9223372036854775808 ≤ Ly) (hL : Ly ≤ 9223372036854775807)
    (hF0 : -9223372036854775808 ≤ F) (hF : F ≤ 9223372036854775807) (hn0 : -9223372036854775808 ≤ n) (hn : n ≤ 9223372036854775807) (hD : Dat w dv N V L g) (hP : Prs w pv M K U) (hN : N ≤ 1000) :
    Calls Tryz.prog 7 #[.agg #[.int .i64 f, .int .i64 W, .int .i64 H, .int .i64 Ly, .int .i64 F, .int .i64 n, dv, pv]] w (SurfP (chkV 8 W H Ly F n 2147483647 2147483647 2147483647 N L M K U) W H n T N g w) := by
  have TK := @texOK_of W H Ly F n N L M K U hW hH
  have C19 := fun w hD hP => check_any f 8 m W H Ly F n 2147483647 2147483647 2147483647 wd dv pv N V L g M K U w OF (by omega) (by omega) hW0 hW hH0 hH hL0 hL hF0 hF hn0 hn hD hP
  obtain ⟨cv, hcv⟩ : ∃ cv, cv = chkV 8 W H Ly F n 2147483647 2147483647 2147483647 N L M K U := ⟨_, rfl⟩
  rw [← hcv] at TK C19 ⊢
  have HTK := hide TK
  have DD := hide hD
  have PP := hide hP
  have OO := hide OF
  have DE := hide HDE
  have b62 := build62
  clear TK hcv hD hP OF HDE
  go_enter Tryz.func7, Tryz.ntmps7
  go_upto_region 1 with fail
  generalize hw1 : w.alloc _ = w1
  have B0 := hide (show Box w1 w.heap.size #[.int .i64 f, .int .i64 W, .int .i64 H, .int .i64 Ly, .int .i64 F, .int .i64 n, dv, pv] by rw [← hw1]; exact Box.mk' rfl)
  have L1 := hide (show Below w.heap.size w w1 by rw [← hw1]; exact (Below.refl _ _).alloc (Nat.le_refl _) _)
  have z1 : w.heap.size + 1 ≤ w1.heap.size := by rw [← hw1]; simp
  clear hw1
  have P1 := hide (C19 w1 (DD.out.below L1.out (Nat.le_refl _)) (PP.out.below L1.out (Nat.le_refl _)))
  clear C19
  go_wp2_with (with_reducible refine wpList_run rfl (exec_load T25 (.tmp 1) rfl ⟨w.heap.size, 0, none⟩ rfl #[.int .i64 f, .int .i64 W, .int .i64 H, .int .i64 Ly, .int .i64 F, .int .i64 n, dv, pv] rfl (Box.loads B0.out)) ?_)
  refine P1.out.mono ?_
  rintro e w2 ⟨rfl, hb2⟩
  have B2 := hide (B0.out.below hb2 (by omega))
  have L2 := hide (L1.out.trans (hb2.mono (by omega)))
  have z2 : w.heap.size + 1 ≤ w2.heap.size := by have := hb2.size; omega
  clear hb2 B0 L1 P1 z1
  by_cases h1 : cv ≠ 0
  · have d1 : (cv != 0) = true := by simpa using h1
    go_wp2
    go_ret2
    exact surfP1 L2.out h1
  have d1 : (cv != 0) = false := by simpa using h1
  have h1' : cv = 0 := by omega
  obtain ⟨c0, c1, c2, c3, c4, c5, c6, c7⟩ := B2.out.c8
  by_cases h2 : 4096 < mx2 W H
  · have d2 : decide (4096 < mx2 W H) = true := by simpa using h2
    go_wp2_with (with_reducible refine wpList_run rfl (exec_max (.tmp 15) (.tmp 17) #[3, 3] rfl W H rfl rfl) ?_)
    go_ret2
    exact surfP2 L2.out h1 h2
  have d2 : decide (4096 < mx2 W H) = false := by simpa using h2
  have tex : TexOK W H Ly F n N L := HTK.out h1' (by unfold mx2 at h2; split at h2 <;> omega) (by unfold mx2 at h2; split at h2 <;> omega)
  have TX := hide tex
  obtain ⟨A, hA⟩ : ∃ A : Nat, (A : Int) = Ly * F := ⟨(Ly * F).toNat, by have := tex.f; have := tex.l1; rcases tex.f with h | h <;> rw [h] <;> omega⟩
  obtain ⟨R, hR⟩ : ∃ R : Nat, (R : Int) = n := ⟨n.toNat, by have := tex.n1; omega⟩
  have wA : wrap64 (Ly * F) = (A : Int) := by
    rw [← hA]
    refine IntWalk.wrap64_in _ ?_
    have := tex.l2
    have := tex.l1
    rcases tex.f with h | h <;> rw [h] at hA <;> omega
  have hNA : N = A * R := by
    have := tex.hN
    rw [← hA, ← hR] at this
    exact_mod_cast this
  have HA := hide hA
  have hF1 : 1 ≤ F ∧ F ≤ 6 := by rcases tex.f with h | h <;> omega
  have HNA := hide hNA
  have hAb : (A : Int) ≤ 12884901888 := by
    rw [hA]
    have := tex.l2
    have := tex.l1
    rcases tex.f with h | h <;> rw [h] <;> omega
  clear hA tex hNA
  go_wp2_with (with_reducible refine wpList_run rfl (exec_max (.tmp 15) (.tmp 17) #[3, 3] rfl W H rfl rfl) ?_)
  have HH2 := hide (show ¬ 4096 < mx2 W H by omega)
  have D2 := hide (DD.out.below L2.out (Nat.le_refl _))
  obtain ⟨i0, hi0, hz0, hz1, hz2⟩ := info_parts info47
  have HI := hide (show Tryz.prog.info? 47 = some i0 ∧ i0.zero = some (.agg #[.int .i64 0, .int .i64 0, .slice none 0 0]) ∧ i0.size = 3 ∧ i0.bytes = 40 from ⟨hi0, hz0, hz1, hz2⟩)
  rw [wA]
  clear h2 c0 c1 c2 c3 c4 c5 c6 c7 h1' hi0 hz0 hz1 hz2 b62 wA
  go_loopw [5, 25] (fun u i' wr => ∃ i : Nat, i ≤ A ∧ i' = .int .i64 i ∧ Surs wr w2.heap.size u (i * R) (sX W n) (sX H n) (sM W H n) (sF T g W H n) ∧ Below w2.heap.size w2 wr) (fun _ i' _ => A - (intOf i').toNat)
  case atStart => exact ⟨0, by omega, rfl, by rw [Nat.zero_mul]; exact Surs.nil _ _ _ _ _ _, Below.refl _ _⟩
  case round =>
    obtain ⟨i, hi, rfl, hs, hb⟩ := hrel
    have HS := hide hs
    have HB := hide hb
    have hsz : w2.heap.size ≤ wr.heap.size := hb.size
    have B3 := hide (B2.out.below hb (by omega))
    clear hs hb
    by_cases hlt : i < A
    · have c5 := (B3.out.c8).2.2.2.2.2.1
      go_wp2_with fail
      go_loopw [5, 30] (fun u k' wq => ∃ k : Nat, k ≤ R ∧ k' = .int .i64 k ∧ Surs wq w2.heap.size u (i * R + k) (sX W n) (sX H n) (sM W H n) (sF T g W H n) ∧ Below w2.heap.size w2 wq) (fun _ k' _ => R - (intOf k').toNat)
      case atStart => exact ⟨0, by omega, rfl, HS.out, HB.out⟩
      case round =>
        obtain ⟨k, hk, rfl, hs, hb⟩ := hrel
        have HS2 := hide hs
        have HB2 := hide hb
        have hsz2 := hb.size
        clear hs hb
        by_cases hltk : k < R
        · have HBox := hide (B2.out.below HB2.out (by omega))
          obtain ⟨c0, c1, c2, c3, c4, c5, c6, c7⟩ := HBox.out.c8
          go_upto_region 13 with fail
          have y0 : w.heap.size < wr.heap.size := by omega
          have hi1 : (0 : Int) ≤ (i : Int) := by omega
          have hF2 : ¬ F = 0 := by omega
          have q1 := Int.ediv_nonneg hi1 (show 0 ≤ F by omega)
          have q2 := Int.ediv_le_self F hi1
          have q3 := Int.emod_nonneg (i : Int) hF2
          have q4 := Int.emod_lt_of_pos (i : Int) (show 0 < F by omega)
          have q5 := Int.ediv_mul_add_emod (i : Int) F
          have wq : IntKind.i64.wrap ((i : Int) / F) = (i : Int) / F := wrap_in' (by omega)
          have rq : (i : Int).tmod F = (i : Int) % F := Int.tmod_eq_emod_of_nonneg hi1
          have q6 : (i : Int) / F < Ly := by
            rw [Int.ediv_lt_iff_lt_mul (by omega), ← HA.out]; omega
          have q7 : i * R + k < N := by
            rw [HNA.out]
            have := Nat.mul_le_mul_right R (show i + 1 ≤ A by omega)
            rw [Nat.add_mul, Nat.one_mul] at this
            omega
          have SA := hide (surf_at f m W H Ly F n ((i : Int) / F) ((i : Int) % F) k wd dv pv T N V L g (i * R + k) w2 wr.drew OO.out DE.out TX.out D2.out HB2.out.drew (lenI_le TX.out) ⟨q1, q6⟩ ⟨q3, q4⟩ ⟨by omega, by omega⟩ (by rw [q5, ← hR]; simp) q7)
          obtain ⟨q, hq⟩ : ∃ q, q = i * R + k := ⟨_, rfl⟩
          rw [← hq] at SA q7 HS2
          have HQ := hide hq
          have HX1 := hide (show 1 ≤ sX W n q ∧ 1 ≤ sX H n q ∧ sX W n q ≤ 4096 ∧ sX H n q ≤ 4096 from by
            have t1 := sideV_bd (of := ((q : Int) % n)) TX.out.w1
            have t2 := sideV_bd (of := ((q : Int) % n)) TX.out.h1
            have t3 := TX.out.w2
            have t4 := TX.out.h2
            have t5 := sideV_one TX.out.w1 (Int.emod_nonneg (q : Int) (show n ≠ 0 by have := TX.out.n1; omega))
            have t6 := sideV_one TX.out.h1 (Int.emod_nonneg (q : Int) (show n ≠ 0 by have := TX.out.n1; omega))
            unfold sX
            omega)
          have HM := hide (show 0 < sM W H n q from by
            have hx := HX1.out
            unfold sM
            have := Int.mul_pos (show 0 < sX W n q by omega) (show 0 < sX H n q by omega)
            omega)
          clear hq q1 q2 q3 q4 q5 q6
          obtain ⟨xq, hxq⟩ : ∃ xq, xq = sX W n q := ⟨_, rfl⟩
          obtain ⟨yq, hyq⟩ : ∃ yq, yq = sX H n q := ⟨_, rfl⟩
          obtain ⟨mq, hmq⟩ : ∃ mq, mq = sM W H n q := ⟨_, rfl⟩
          obtain ⟨fq, hfq⟩ : ∃ fq, fq = sF T g W H n q := ⟨_, rfl⟩
          rw [← hxq, ← hyq, ← hmq, ← hfq] at SA
          rw [← hmq] at HM
          have HXQ := hide hxq
          have HYQ := hide hyq
          have HMQ := hide hmq
          have HFQ := hide hfq
          have hqb : q < 1000 := by omega
          clear hxq hyq hmq hfq HX1
          have HSD := hide (show Surs wr.drew w2.heap.size u5 q (sX W n) (sX H n) (sM W H n) (sF T g W H n) from HS2.out)
          have HBD := hide (show Below w2.heap.size w2 wr.drew from HB2.out.drew)
          have hszD : w2.heap.size ≤ wr.drew.heap.size := HBD.out.size
          have HBoxD := hide (show Box wr.drew w.heap.size #[.int .i64 f, .int .i64 W, .int .i64 H, .int .i64 Ly, .int .i64 F, .int .i64 n, dv, pv] from HBox.out.drew)
          have y1 : w.heap.size < wr.drew.heap.size := by omega
          clear HS2 HB2 HBox
          go_region_held3 (fun w' => w'.cell? ⟨w.heap.size, 0, none⟩ = some (.int .i64 f) ∧ w'.cell? ⟨w.heap.size, 1, none⟩ = some (.int .i64 W) ∧ w'.cell? ⟨w.heap.size, 2, none⟩ = some (.int .i64 H) ∧ w'.cell? ⟨w.heap.size, 3, none⟩ = some (.int .i64 Ly) ∧ w'.cell? ⟨w.heap.size, 4, none⟩ = some (.int .i64 F) ∧ w'.cell? ⟨w.heap.size, 5, none⟩ = some (.int .i64 n) ∧ w'.cell? ⟨w.heap.size, 6, none⟩ = some dv ∧ w'.cell? ⟨w.heap.size, 7, none⟩ = some pv)
            (first | go_keep | exact HBX4.out.c8 | exact HBX5.out.c8 | exact HBX6.out.c8)
            (first
              | (go_at_call 20; refine SA.out.mono ?_; rintro e w4 ⟨gp, cap, rfl, hk4, hgp, hb4⟩; have HK4 := hide hk4; have hgl : gp < w4.heap.size := World.block_lt_of_cell? w4 _ (hk4 0 (by have := HM.out; omega)).1; have HBX4 := hide (HBoxD.out.below hb4 y1); have HBX5 := hide (HBX4.out.below ((Below.refl w4.heap.size w4).alloc (Nat.le_refl _) (.cells #[.int .i64 xq, .int .i64 yq, .slice (some ⟨gp, 0, none⟩) mq cap] 47)) (by have := hb4.size; omega)); have HS4 := hide (HSD.out.below hb4); have hB4 := hide (HBD.out.trans (hb4.mono hszD)); have hs4 : w2.heap.size ≤ w4.heap.size := hB4.out.size; clear hk4 hb4; obtain ⟨GP, CP, hown4, hrest4⟩ := HS4.out; have HO4 := hide (World.ownsRow.alloc hown4 (.cells #[.int .i64 xq, .int .i64 yq, .slice (some ⟨gp, 0, none⟩) mq cap] 47)); have HR4 := hide hrest4; clear hown4 hrest4)
              | (refine step_run (by rfl) (exec_slice47 (.tmp 44) (by rfl) _ (by rfl) (by rfl)) ?_)
              | (refine step_append_lies _ (by rfl) (.tmp 33) (.tmp 45) 29 (by rfl) w2.heap.size 47 i0 (.agg #[.int .i64 0, .int .i64 0, .slice none 0 0]) 3 40 Tryz.underlying29 HI.out.1 HI.out.2.1 HI.out.2.2.1 HI.out.2.2.2 rfl (by decide) u5 q _ (by rfl) HO4.out ⟨w4.heap.size, 0, none⟩ 1 1 [.int .i64 xq, .int .i64 yq, .slice (some ⟨gp, 0, none⟩) mq cap] (by rfl) rfl (news3 _ _ _ _) (one3 _ _ _ _ _ _ _) (by decide) (by unfold maxLen; omega) (by omega) (by simp; omega) (w4.heap.size + 1) (by simp) ?_; intro g' cap' w6 hown hgrow hat hlt; have HBX6 := hide (Box.grown HBX5.out hgrow (by simp; omega) (fun k e => by have := (World.ownsRow.lt HO4.out k e).1; omega))))
          have bel := hide (show Below w4.heap.size w4 (w4.alloc (.cells #[.int .i64 xq, .int .i64 yq, .slice (some ⟨gp, 0, none⟩) mq cap] 47)) from (Below.refl _ _).alloc (Nat.le_refl _) _)
          have HS6 := hide (show Surs w6 w2.heap.size (.slice (some ⟨g', 0, none⟩) (q + 1) cap') (q + 1) (sX W n) (sX H n) (sM W H n) (sF T g W H n) from by
            refine Surs.snoc (GP := GP) (CP := CP) (w := w4.alloc (.cells #[.int .i64 xq, .int .i64 yq, .slice (some ⟨gp, 0, none⟩) mq cap] 47)) (gp := gp) (cp := cap) (fun i hi => ?_) ?_ hgrow ?_ ?_ ?_ ?_ ?_
            · obtain ⟨a1, a2, a3, a4⟩ := HR4.out i hi
              exact ⟨a1, a2, a3.below bel.out a4, Nat.lt_of_lt_of_le a4 bel.out.size⟩
            · rw [← HXQ.out, ← HYQ.out, ← HMQ.out]; exact hown
            · exact hat.imp id (fun e => by simp; omega)
            · omega
            · intro e
              obtain ⟨_, _, ho, _⟩ := HSD.out
              have := (World.ownsRow.lt ho gp e).2
              omega
            · rw [← HMQ.out, ← HFQ.out]; exact HK4.out.below bel.out hgl
            · exact Nat.lt_of_lt_of_le hgl bel.out.size)
          have HB6 := hide (show Below w2.heap.size w2 w6 from Below.grown (hB4.out.alloc hs4 _) hgrow (by simp; omega) (fun k e => (World.ownsRow.lt HO4.out k e).1))
          clear hown hgrow hat hlt HBX4 HBX5 HBX6 HS4 HO4 HR4 HK4 hB4 bel
          go_wp2_with fail
          go_roundw
          case rel => exact ⟨k + 1, by omega, by go_num, by rw [← Nat.add_assoc, ← HQ.out]; exact HS6.out, HB6.out⟩
          case measure => simp [intOf]; omega
        · obtain rfl : k = R := by omega
          go_wp2_with fail
          go_roundw
          case rel => exact ⟨i + 1, by omega, by go_num, by rw [Nat.add_mul, Nat.one_mul]; exact HS2.out, HB2.out⟩
          case measure => simp [intOf]; omega
    · obtain rfl : i = A := by omega
      go_wp2_with fail
      go_ret2
      exact surfP3 (L2.out.trans (HB.out.mono (by omega))) h1 (by have := HH2.out; omega) (by rw [HNA.out]; exact HS.out.mono (by omega))
end Go.Proofs.YtpkclnkibhgpkaaGreat
