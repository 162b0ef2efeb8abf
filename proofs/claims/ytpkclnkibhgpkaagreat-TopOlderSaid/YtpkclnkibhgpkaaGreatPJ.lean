/-
Whether a texture's header may be, as the layout layer tells it. Its conditions: sides, layers, faces, levels that are numbers of 64 bits; a format that there is.
-/
import Derived.Test.YtpkclnkibhgpkaaGreatPI
namespace Go.Proofs.YtpkclnkibhgpkaaGreat
open Go.RowKit

/-- what a format is, told -/
def OfOK (f b m : Int) (wd : Bool) : Prop := ∀ w, Calls Tryz.prog 11 #[.int .i64 f] w fun e w' => e = .returned (.tuple #[.agg #[.int .i64 b, .int .i64 m, .bool wd], .int .i64 0]) ∧ Below w.heap.size w w'
def hdrV (W H L F n SL LL TL : Int) : Int :=
  if W < 1 ∨ H < 1 ∨ L < 1 ∨ n < 1 ∨ (F ≠ 1 ∧ F ≠ 6) then 1
  else if (F = 6 ∧ W ≠ H) ∨ levelsV W H < n then 1
  else if SL < W ∨ SL < H ∨ LL < L ∨ (texV W H L F n).2 ≠ 0 ∨ TL < (texV W H L F n).1 then 6 else 0
theorem Box.c8 {w : World} {b : Nat} {v0 v1 v2 v3 v4 v5 v6 v7 : Value} (h : Box w b #[v0, v1, v2, v3, v4, v5, v6, v7]) :
    w.cell? ⟨b, 0, none⟩ = some v0 ∧ w.cell? ⟨b, 1, none⟩ = some v1 ∧ w.cell? ⟨b, 2, none⟩ = some v2 ∧ w.cell? ⟨b, 3, none⟩ = some v3 ∧ w.cell? ⟨b, 4, none⟩ = some v4 ∧ w.cell? ⟨b, 5, none⟩ = some v5 ∧ w.cell? ⟨b, 6, none⟩ = some v6 ∧ w.cell? ⟨b, 7, none⟩ = some v7 :=
  ⟨(h 0 _ rfl).1, (h 1 _ rfl).1, (h 2 _ rfl).1, (h 3 _ rfl).1, (h 4 _ rfl).1, (h 5 _ rfl).1, (h 6 _ rfl).1, (h 7 _ rfl).1⟩
theorem Box.c3 {w : World} {b : Nat} {v0 v1 v2 : Value} (h : Box w b #[v0, v1, v2]) : w.cell? ⟨b, 0, none⟩ = some v0 ∧ w.cell? ⟨b, 1, none⟩ = some v1 ∧ w.cell? ⟨b, 2, none⟩ = some v2 :=
  ⟨(h 0 _ rfl).1, (h 1 _ rfl).1, (h 2 _ rfl).1⟩
theorem T25 : AggT Tryz.prog 25 8 #[.int .i64 0, .int .i64 0, .int .i64 0, .int .i64 0, .int .i64 0, .int .i64 0, .slice none 0 0, .slice none 0 0] :=
  ⟨⟨_, Tryz.underlying25, rfl⟩, by kernel_rfl, fun _ => by kernel_rfl, rfl, fun _ => by kernel_rfl⟩
theorem Box.loads {w : World} {b : Nat} {cs : Array Value} (h : Box w b cs) : ∀ j v, cs[j]? = some v → w.cell? ((⟨b, 0, none⟩ : Addr).add j) = some v := fun j v hj => by
  rw [Addr.add_lit, Nat.zero_add]; exact (h j v hj).1
/-- the least of four -/
def min4 (a b c d : Int) : Int := [b, c, d].foldl (fun x y => if y < x then y else x) a
theorem exec_min4 {P : Program} {o : Oper} {a : Act} {w : World} (p q r s : Operand) (ts : Array TypeId) (ho : o.op = .call { callee := .builtin .min, args := #[p, q, r, s], argTypes := ts }) (x y z u : Int) (hp : a.eval p = .int .i64 x) (hq : a.eval q = .int .i64 y) (hr : a.eval r = .int .i64 z) (hs : a.eval s = .int .i64 u) :
    (execOp a.eval o).run P w = .ok (.value (.int .i64 (min4 x y z u))) w := by
  have : (Builtin.min_ ts o.type #[.int .i64 x, .int .i64 y, .int .i64 z, .int .i64 u]).run P w = .ok (.int .i64 (min4 x y z u)) w := by
    simp [Builtin.min_, Builtin.min2, min4, List.foldlM]
  unfold execOp
  simp only [ho]
  simp only [resolve, List.map_toArray, List.map_cons, List.map_nil, hp, hq, hr, hs, Sem.run_bind, Sem.run_pure, Result.andThen_ok, invoke, builtin, this]
theorem min4_lt (a b c d : Int) : min4 a b c d < 1 ↔ (a < 1 ∨ b < 1 ∨ c < 1 ∨ d < 1) := by
  simp only [min4, List.foldl]
  repeat' split
  all_goals omega
set_option maxRecDepth 100000 in
set_option maxHeartbeats 2000000 in
theorem header_any (f b m W H L F n SL LL TL : Int) (wd : Bool) (d p : Value) (w : World) (OF : OfOK f b m wd) (hW0 : -9223372036854775808 ≤ W) (hW : W ≤ 9223372036854775807) (hH0 : -9223372036854775808 ≤ H) (hH : H ≤ 9223372036854775807) (hL0 : -9223372036854775808 ≤ L) (hL : L ≤ 9223372036854775807)
    (hF0 : -9223372036854775808 ≤ F) (hF : F ≤ 9223372036854775807) (hn0 : -9223372036854775808 ≤ n) (hn : n ≤ 9223372036854775807) :
    Calls Tryz.prog 37 #[.agg #[.int .i64 f, .int .i64 W, .int .i64 H, .int .i64 L, .int .i64 F, .int .i64 n, d, p], .agg #[.int .i64 SL, .int .i64 LL, .int .i64 TL]] w fun e w' =>
      e = .returned (.int .i64 (hdrV W H L F n SL LL TL)) ∧ Below w.heap.size w w' := by
  obtain ⟨t1, t2, ht⟩ : ∃ a b, texV W H L F n = (a, b) := ⟨_, _, rfl⟩
  have s61 : ∀ w, Calls Tryz.prog 61 #[.agg #[.int .i64 f, .int .i64 W, .int .i64 H, .int .i64 L, .int .i64 F, .int .i64 n, d, p]] w fun e w' => e = .returned (.tuple #[.int .i64 t1, .int .i64 t2]) ∧ Below w.heap.size w w' := fun w => by
    have := texels_any f W H L F n d p w hW0 hW hH0 hH hL0 hL hF0 hF hn0 hn
    rw [ht] at this; exact this
  have hv : hdrV W H L F n SL LL TL = if W < 1 ∨ H < 1 ∨ L < 1 ∨ n < 1 ∨ (F ≠ 1 ∧ F ≠ 6) then 1
      else if (F = 6 ∧ W ≠ H) ∨ levelsV W H < n then 1
      else if SL < W ∨ SL < H ∨ LL < L ∨ t2 ≠ 0 ∨ TL < t1 then 6 else 0 := by unfold hdrV; rw [ht]
  have HV := hide hv
  have hO := hide OF
  clear hv ht OF
  go_enter Tryz.func37, Tryz.ntmps37
  go_wp2_with fail
  refine (hO.out _).mono ?_
  rintro e w1 ⟨rfl, hb1⟩
  have B0 := hide (Box.below (b := w.heap.size) (cs := #[.int .i64 f, .int .i64 W, .int .i64 H, .int .i64 L, .int .i64 F, .int .i64 n, d, p]) (by (repeat' (first | (refine Box.mk' ?_; simp; done) | (refine Box.old ?_ ?_; rotate_left; (simp <;> omega))))) hb1 (by simp <;> omega))
  have B1 := hide (Box.below (b := w.heap.size + 1) (cs := #[.int .i64 SL, .int .i64 LL, .int .i64 TL]) (by (repeat' (first | (refine Box.mk' ?_; simp; done) | (refine Box.old ?_ ?_; rotate_left; (simp <;> omega))))) hb1 (by simp <;> omega))
  have L1 := hide ((((Below.refl _ w).alloc (Nat.le_refl _) _).alloc (by simp) _).trans (hb1.mono (by simp <;> omega)) : Below w.heap.size w w1)
  have z1 : w.heap.size + 2 ≤ w1.heap.size := by have := hb1.size; simp at this; omega
  clear hb1
  obtain ⟨c0, c1, c2, c3, c4, c5, c6, c7⟩ := B0.out.c8
  go_wp2_with (with_reducible refine wpList_run rfl (exec_load T25 (.tmp 2) rfl ⟨w.heap.size, 0, none⟩ rfl #[.int .i64 f, .int .i64 W, .int .i64 H, .int .i64 L, .int .i64 F, .int .i64 n, d, p] rfl (Box.loads (Box.old B0.out (by omega)))) ?_)
  refine (s61 _).mono ?_
  rintro e w2 ⟨rfl, hb2⟩
  have B2 := hide (B0.out.below (B := w1.heap.size) ((((Below.refl _ w1).alloc (Nat.le_refl _) _)).trans (hb2.mono (by simp))) (by omega))
  have B3 := hide (B1.out.below (B := w1.heap.size) ((((Below.refl _ w1).alloc (Nat.le_refl _) _)).trans (hb2.mono (by simp))) (by omega))
  have L2 := hide ((L1.out.trans (((Below.refl _ w1).alloc (Nat.le_refl _) _).mono (by omega))).trans (hb2.mono (by simp <;> omega)) : Below w.heap.size w w2)
  have z2 : w.heap.size + 2 ≤ w2.heap.size := by have := hb2.size; simp at this; omega
  clear hb2 c0 c1 c2 c3 c4 c5 c6 c7 B0 B1 L1 s61
  obtain ⟨c0, c1, c2, c3, c4, c5, c6, c7⟩ := B2.out.c8
  obtain ⟨l0, l1, l2⟩ := B3.out.c3
  by_cases h1 : W < 1 ∨ H < 1 ∨ L < 1 ∨ n < 1
  · have d1 : decide (min4 W H L n < 1) = true := by simpa using (min4_lt W H L n).2 h1
    have HX := hide (show hdrV W H L F n SL LL TL = 1 by rw [HV.out, if_pos (by omega)])
    clear h1
    go_wp2_with (with_reducible refine wpList_run rfl (exec_min4 (.tmp 26) (.tmp 28) (.tmp 30) (.tmp 32) #[3, 3, 3, 3] rfl W H L n rfl rfl rfl rfl) ?_)
    go_ret
    exact ⟨ret1 HX.out.symm, L2.out⟩
  have d1 : decide (min4 W H L n < 1) = false := by
    have := mt (min4_lt W H L n).1 h1
    simpa using this
  by_cases h2 : F ≠ 1 ∧ F ≠ 6
  · have d2 : (F != 1) = true := by simpa using h2.1
    have d3 : (F != 6) = true := by simpa using h2.2
    have HX := hide (show hdrV W H L F n SL LL TL = 1 by rw [HV.out, if_pos (by omega)])
    clear h1 h2
    go_wp2_with (with_reducible refine wpList_run rfl (exec_min4 (.tmp 26) (.tmp 28) (.tmp 30) (.tmp 32) #[3, 3, 3, 3] rfl W H L n rfl rfl rfl rfl) ?_)
    go_ret
    exact ⟨ret1 HX.out.symm, L2.out⟩
  have s50 : ∀ w, Calls Tryz.prog 50 #[.int .i64 W, .int .i64 H] w fun e w' => e = .returned (.int .i64 (levelsV W H)) ∧ Below w.heap.size w w' := fun w => levels_any W H w hW0 hW hH0 hH
  have hl := levelsV_bd W H hW hH
  obtain ⟨lv, hlv⟩ : ∃ lv, lv = levelsV W H := ⟨_, rfl⟩
  rw [← hlv] at s50 hl
  have HL := hide hlv
  clear hlv
  have k0 : ∀ m : Wb w2, m.1.cell? ⟨w.heap.size, 1, none⟩ = some (.int .i64 W) := fun m => (m.cell (by simp; omega)).trans c1
  have k1 : ∀ m : Wb w2, m.1.cell? ⟨w.heap.size, 2, none⟩ = some (.int .i64 H) := fun m => (m.cell (by simp; omega)).trans c2
  have k2 : ∀ m : Wb w2, m.1.cell? ⟨w.heap.size, 4, none⟩ = some (.int .i64 F) := fun m => (m.cell (by simp; omega)).trans c4
  have k3 : ∀ m : Wb w2, m.1.cell? ⟨w.heap.size, 5, none⟩ = some (.int .i64 n) := fun m => (m.cell (by simp; omega)).trans c5
  rcases (show (F = 6 ∧ W ≠ H) ∨ (F = 6 ∧ W = H) ∨ F = 1 by omega) with ⟨rfl, h3⟩ | ⟨rfl, h3⟩ | rfl
  · have d5 : (W != H) = true := by simpa using h3
    have HX := hide (show hdrV W H L 6 n SL LL TL = 1 by rw [HV.out, if_neg (by omega), if_pos (by omega)])
    clear h1 h2 h3 hl
    go_wp2_with (with_reducible refine wpList_run rfl (exec_min4 (.tmp 26) (.tmp 28) (.tmp 30) (.tmp 32) #[3, 3, 3, 3] rfl W H L n rfl rfl rfl rfl) ?_)
    refine wp_region_below w2 (Below.refl _ _) (by kernel_rfl) (by kernel_rfl) ?_
    repeat (go_big_quiet_step (fail))
    refine wpQuiet_nil ?_
    rintro _ ⟨⟨w3, hb3⟩, rfl⟩
    go_wp2
    go_ret
    exact ⟨ret1 HX.out.symm, L2.out.trans (hb3.mono (by omega))⟩
  · have d5 : (W != H) = false := by simpa using h3
    have H3 := hide h3
    by_cases h4 : lv < n
    · have d6 : decide (lv < n) = true := by simpa using h4
      have HX := hide (show hdrV W H L 6 n SL LL TL = 1 by rw [HV.out, if_neg (by omega), if_pos (by rw [← HL.out]; omega)])
      clear h1 h2 h4 hl h3
      go_wp2_with (with_reducible refine wpList_run rfl (exec_min4 (.tmp 26) (.tmp 28) (.tmp 30) (.tmp 32) #[3, 3, 3, 3] rfl W H L n rfl rfl rfl rfl) ?_)
      refine wp_region_below w2 (Below.refl _ _) (by kernel_rfl) (by kernel_rfl) ?_
      repeat (go_big_quiet_step ((go_at_call 50; exact Calls.wb (s50 _))))
      refine wpQuiet_nil ?_
      rintro _ ⟨⟨w3, hb3⟩, rfl⟩
      go_wp2
      go_ret
      exact ⟨ret1 HX.out.symm, L2.out.trans (hb3.mono (by omega))⟩
    · have d6 : decide (lv < n) = false := by simpa using h4
      have HX := hide (show hdrV W H L 6 n SL LL TL = if SL < W ∨ SL < H ∨ LL < L ∨ t2 ≠ 0 ∨ TL < t1 then 6 else 0 by rw [HV.out, if_neg (by omega), if_neg (by rw [← HL.out]; omega)])
      clear h1 h2 h4 hl h3
      go_wp2_with (with_reducible refine wpList_run rfl (exec_min4 (.tmp 26) (.tmp 28) (.tmp 30) (.tmp 32) #[3, 3, 3, 3] rfl W H L n rfl rfl rfl rfl) ?_)
      refine wp_region_below w2 (Below.refl _ _) (by kernel_rfl) (by kernel_rfl) ?_
      repeat (go_big_quiet_step ((go_at_call 50; exact Calls.wb (s50 _))))
      refine wpQuiet_nil ?_
      rintro _ ⟨⟨w3, hb3⟩, rfl⟩
      have L3 := hide (L2.out.trans (hb3.mono (by omega)))
      have e1 := (B2.out.below hb3 (by omega)).c8
      have e2 := (B3.out.below hb3 (by omega)).c3
      obtain ⟨-, e11, e12, e13, -, -, -, -⟩ := e1
      obtain ⟨e20, e21, e22⟩ := e2
      clear c0 c1 c2 c3 c4 c5 c6 c7 l0 l1 l2 k0 k1 k2 k3 B2 B3 L2 hb3 s50 HV HL
      by_cases g1 : SL < W
      · have q1 : decide (SL < W) = true := by simpa using g1
        go_wp2
        go_ret
        exact ⟨ret1 (by rw [HX.out, if_pos (by omega)]), L3.out⟩
      have q1 : decide (SL < W) = false := by simpa using g1
      by_cases g2 : SL < H
      · have q2 : decide (SL < H) = true := by simpa using g2
        go_wp2
        go_ret
        exact ⟨ret1 (by rw [HX.out, if_pos (by omega)]), L3.out⟩
      have q2 : decide (SL < H) = false := by simpa using g2
      by_cases g3 : LL < L
      · have q3 : decide (LL < L) = true := by simpa using g3
        go_wp2
        go_ret
        exact ⟨ret1 (by rw [HX.out, if_pos (by omega)]), L3.out⟩
      have q3 : decide (LL < L) = false := by simpa using g3
      by_cases g4 : t2 = 0
      · have q4 : (t2 != 0) = false := by simpa using g4
        by_cases g5 : TL < t1
        · have q5 : decide (TL < t1) = true := by simpa using g5
          clear g1 g2 g3
          have G4 := hide g4
          clear g4
          go_wp2
          go_ret
          exact ⟨ret1 (by rw [HX.out, if_pos (by omega)]), L3.out⟩
        · have q5 : decide (TL < t1) = false := by simpa using g5
          have HY := hide (show hdrV W H L 6 n SL LL TL = 0 by rw [HX.out, if_neg (by omega)])
          clear g1 g2 g3 g4 g5 HX
          go_wp2
          go_ret
          exact ⟨ret1 HY.out.symm, L3.out⟩
      · have q4 : (t2 != 0) = true := by simpa using g4
        have HY := hide (show hdrV W H L 6 n SL LL TL = 6 by rw [HX.out, if_pos (by omega)])
        clear g1 g2 g3 g4 HX
        go_wp2
        go_ret
        exact ⟨ret1 HY.out.symm, L3.out⟩
  · have h3 : True := trivial
    have H3 := hide h3
    by_cases h4 : lv < n
    · have d6 : decide (lv < n) = true := by simpa using h4
      have HX := hide (show hdrV W H L 1 n SL LL TL = 1 by rw [HV.out, if_neg (by omega), if_pos (by rw [← HL.out]; omega)])
      clear h1 h2 h4 hl h3
      go_wp2_with (with_reducible refine wpList_run rfl (exec_min4 (.tmp 26) (.tmp 28) (.tmp 30) (.tmp 32) #[3, 3, 3, 3] rfl W H L n rfl rfl rfl rfl) ?_)
      refine wp_region_below w2 (Below.refl _ _) (by kernel_rfl) (by kernel_rfl) ?_
      repeat (go_big_quiet_step ((go_at_call 50; exact Calls.wb (s50 _))))
      refine wpQuiet_nil ?_
      rintro _ ⟨⟨w3, hb3⟩, rfl⟩
      go_wp2
      go_ret
      exact ⟨ret1 HX.out.symm, L2.out.trans (hb3.mono (by omega))⟩
    · have d6 : decide (lv < n) = false := by simpa using h4
      have HX := hide (show hdrV W H L 1 n SL LL TL = if SL < W ∨ SL < H ∨ LL < L ∨ t2 ≠ 0 ∨ TL < t1 then 6 else 0 by rw [HV.out, if_neg (by omega), if_neg (by rw [← HL.out]; omega)])
      clear h1 h2 h4 hl h3
      go_wp2_with (with_reducible refine wpList_run rfl (exec_min4 (.tmp 26) (.tmp 28) (.tmp 30) (.tmp 32) #[3, 3, 3, 3] rfl W H L n rfl rfl rfl rfl) ?_)
      refine wp_region_below w2 (Below.refl _ _) (by kernel_rfl) (by kernel_rfl) ?_
      repeat (go_big_quiet_step ((go_at_call 50; exact Calls.wb (s50 _))))
      refine wpQuiet_nil ?_
      rintro _ ⟨⟨w3, hb3⟩, rfl⟩
      have L3 := hide (L2.out.trans (hb3.mono (by omega)))
      have e1 := (B2.out.below hb3 (by omega)).c8
      have e2 := (B3.out.below hb3 (by omega)).c3
      obtain ⟨-, e11, e12, e13, -, -, -, -⟩ := e1
      obtain ⟨e20, e21, e22⟩ := e2
      clear c0 c1 c2 c3 c4 c5 c6 c7 l0 l1 l2 k0 k1 k2 k3 B2 B3 L2 hb3 s50 HV HL
      by_cases g1 : SL < W
      · have q1 : decide (SL < W) = true := by simpa using g1
        go_wp2
        go_ret
        exact ⟨ret1 (by rw [HX.out, if_pos (by omega)]), L3.out⟩
      have q1 : decide (SL < W) = false := by simpa using g1
      by_cases g2 : SL < H
      · have q2 : decide (SL < H) = true := by simpa using g2
        go_wp2
        go_ret
        exact ⟨ret1 (by rw [HX.out, if_pos (by omega)]), L3.out⟩
      have q2 : decide (SL < H) = false := by simpa using g2
      by_cases g3 : LL < L
      · have q3 : decide (LL < L) = true := by simpa using g3
        go_wp2
        go_ret
        exact ⟨ret1 (by rw [HX.out, if_pos (by omega)]), L3.out⟩
      have q3 : decide (LL < L) = false := by simpa using g3
      by_cases g4 : t2 = 0
      · have q4 : (t2 != 0) = false := by simpa using g4
        by_cases g5 : TL < t1
        · have q5 : decide (TL < t1) = true := by simpa using g5
          clear g1 g2 g3
          have G4 := hide g4
          clear g4
          go_wp2
          go_ret
          exact ⟨ret1 (by rw [HX.out, if_pos (by omega)]), L3.out⟩
        · have q5 : decide (TL < t1) = false := by simpa using g5
          have HY := hide (show hdrV W H L 1 n SL LL TL = 0 by rw [HX.out, if_neg (by omega)])
          clear g1 g2 g3 g4 g5 HX
          go_wp2
          go_ret
          exact ⟨ret1 HY.out.symm, L3.out⟩
      · have q4 : (t2 != 0) = true := by simpa using g4
        have HY := hide (show hdrV W H L 1 n SL LL TL = 6 by rw [HX.out, if_pos (by omega)])
        clear g1 g2 g3 g4 HX
        go_wp2
        go_ret
        exact ⟨ret1 HY.out.symm, L3.out⟩
end Go.Proofs.YtpkclnkibhgpkaaGreat
