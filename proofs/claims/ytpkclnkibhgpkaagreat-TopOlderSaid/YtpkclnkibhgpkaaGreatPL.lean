/-
The sizes of a texture's levels in bytes, as the layout layer tells them. Its conditions: sides and a number of levels that are numbers of 64 bits; a format that there is.
-/
import Derived.Test.YtpkclnkibhgpkaaGreatPK
import Derived.Maps.OwnIn
import Derived.OwnWalkIn
import Derived.Sort.CutIn
import Derived.Deep.AppendLies
namespace Go.Proofs.YtpkclnkibhgpkaaGreat
open Go.RowKit Go.Shelf
attribute [local go_sem] Oper.semAt_some

/-- what is wrong with the sizes of so many levels; and the sizes -/
def sizE (b W H : Int) : Nat → Int
  | 0 => 0
  | k + 1 => if sizE b W H k ≠ 0 then sizE b W H k else (bytV b (sideV W k) (sideV H k)).2
def sizF (b W H : Int) (k : Nat) : Int := (bytV b (sideV W k) (sideV H k)).1
def sizL (b W H : Int) (k : Nat) : List Value := (List.range k).map fun i => .int .i64 (sizF b W H i)
def sizBad (W H n : Int) : Prop := W < 1 ∨ H < 1 ∨ n < 1 ∨ levelsV W H < n
instance (W H n : Int) : Decidable (sizBad W H n) := by unfold sizBad; infer_instance
def sizV (b W H n : Int) : Int := if sizBad W H n then 1 else sizE b W H n.toNat
theorem sizE_err {b W H : Int} {k : Nat} (h : sizE b W H k ≠ 0) : ∀ j, k ≤ j → sizE b W H j = sizE b W H k := by
  intro j hj
  induction j with
  | zero => obtain rfl : k = 0 := by omega
            rfl
  | succ j ih =>
    by_cases e : k = j + 1
    · rw [e]
    · have := ih (by omega)
      rw [sizE, this, if_pos h]
theorem sizL_succ (b W H : Int) (k : Nat) : sizL b W H (k + 1) = sizL b W H k ++ [.int .i64 (sizF b W H k)] := by
  unfold sizL
  rw [List.range_succ, List.map_append]; rfl
theorem own_of {w w' : World} {base : Nat} {e : TypeId} {size : Nat} {v : Value} {n : Nat} {xs : List Value} (h : w.ownsRow base e size v n xs) (g : ∀ k, base ≤ k → v.ownBlock = some k → w'.heap[k]? = w.heap[k]?) : w'.ownsRow base e size v n xs := by
  refine ⟨h.1, ?_⟩
  rcases h.2 with r | ⟨k, cap, cur, rfl, h1, h2, h3⟩
  · exact .inl r
  · exact .inr ⟨k, cap, cur, rfl, h1, (g k h1 rfl).trans h2, h3⟩
theorem Box.grown {w w' : World} {b : Nat} {cs : Array Value} {row : Option Nat} (h : Box w b cs) (hg : w.grownBy w' row) (hb : b < w.heap.size) (hne : ∀ k, row = some k → k ≠ b) : Box w' b cs := by
  have e : w'.heap[b]? = w.heap[b]? := hg.block b hb (fun q => hne b q.symm rfl)
  intro i u hi
  obtain ⟨h1, h2⟩ := h i u hi
  exact ⟨(cell_alike e ⟨b, i, none⟩ rfl).1.trans h1, (cell_alike e ⟨b, i, none⟩ rfl).2.trans h2⟩
theorem below_grown {B : Nat} {w0 w w' : World} {row : Option Nat} (h : Below B w0 w) (hg : w.grownBy w' row) (hB : B ≤ w.heap.size) (hne : ∀ k, row = some k → B ≤ k) : Below B w0 w' :=
  ⟨hg.os.trans h.os, hg.tape.trans h.tape, hg.output.trans h.output, Nat.le_trans h.size hg.size, fun k hk => (hg.block k (by omega) (fun q => by have := hne k q.symm; omega)).trans (h.block k hk)⟩
theorem own_base {w : World} {base base' : Nat} {e : TypeId} {size : Nat} {v : Value} {n : Nat} {xs : List Value} (h : w.ownsRow base e size v n xs) (g : base' ≤ base) : w.ownsRow base' e size v n xs := by
  refine ⟨h.1, ?_⟩
  rcases h.2 with r | ⟨k, cap, cur, rfl, h1, h2⟩
  · exact .inl r
  · exact .inr ⟨k, cap, cur, rfl, Nat.le_trans g h1, h2⟩
theorem own_put {w : World} {base D : Nat} {e : TypeId} {size : Nat} {v : Value} {n : Nat} {xs : List Value} {ob ob' : Obj} (h : w.ownsRow base e size v n xs) (hD : w.heap[D]? = some ob) (hob : ∀ c e q, ob ≠ .cells c e q) : (w.putObj D ob').ownsRow base e size v n xs := by
  refine ⟨h.1, ?_⟩
  rcases h.2 with r | ⟨k, cap, cur, rfl, h1, h2, h3⟩
  · exact .inl r
  · refine .inr ⟨k, cap, cur, rfl, h1, ?_, h3⟩
    rw [World.putObj_heap_other ?_, h2]
    intro q
    subst q
    rw [hD] at h2
    cases h2
    exact hob _ _ _ rfl
theorem info3 : (Tryz.prog.info? 3).map (fun i => (i.zero, i.size, i.bytes)) = some (some (.int .i64 0), 1, 8) := by kernel_rfl
theorem eqbyt (b W H : Int) : 0 ≤ b → b ≤ 1000 → 0 ≤ (bytV b W H).1 ∧ (bytV b W H).1 ≤ 2147483647 ∧ 0 ≤ (bytV b W H).2 ∧ (bytV b W H).2 ≤ 10 := by
  intro _ _
  unfold bytV
  split
  · exact ⟨Int.le_refl _, by show (0 : Int) ≤ _; omega, by show (0 : Int) ≤ 1; omega, by show (1 : Int) ≤ 10; omega⟩
  · have a := timesV_bd (tilesV W H).1 (tilesV W H).2
    split
    · exact ⟨Int.le_refl _, by show (0 : Int) ≤ _; omega, a.2.2.1, a.2.2.2.1⟩
    · have := timesV_bd (timesV (tilesV W H).1 (tilesV W H).2).1 b
      exact ⟨this.1, this.2.1, this.2.2.1, this.2.2.2.1⟩
/-- what Sizes hands back -/
def SizP (b W H n : Int) (w : World) (e : Ending) (w' : World) : Prop :=
  Below w.heap.size w w' ∧ ∃ v, e = .returned (.tuple #[v, .int .i64 (sizV b W H n)]) ∧ (sizV b W H n ≠ 0 → v = .slice none 0 0) ∧ (sizV b W H n = 0 → w'.ownsRow w.heap.size 3 1 v n.toNat (sizL b W H n.toNat))
set_option maxRecDepth 100000 in
set_option maxHeartbeats 2000000 in
theorem lsizes_any (f b m W H n : Int) (wd : Bool) (w : World) (OF : OfOK f b m wd) (hb0 : 0 ≤ b) (hb1 : b ≤ 1000) (hW0 : -9223372036854775808 ≤ W) (hW : W ≤ 9223372036854775807) (hH0 : -9223372036854775808 ≤ H) (hH : H ≤ 9223372036854775807)
    (hn0 : -9223372036854775808 ≤ n) (hn : n ≤ 9223372036854775807) :
    Calls Tryz.prog 63 #[.int .i64 f, .int .i64 W, .int .i64 H, .int .i64 n] w (SizP b W H n w) := by
  have s50 : ∀ w, Calls Tryz.prog 50 #[.int .i64 W, .int .i64 H] w fun e w' => e = .returned (.int .i64 (levelsV W H)) ∧ Below w.heap.size w w' := fun w => levels_any W H w hW0 hW hH0 hH
  have hl := levelsV_bd W H hW hH
  have hO := hide OF
  clear OF
  obtain ⟨lv, hlv⟩ : ∃ lv, lv = levelsV W H := ⟨_, rfl⟩
  rw [← hlv] at s50 hl
  have HL := hide hlv
  clear hlv
  refine callsIn_wide.1 (callsIn_of_wp_marks (F := Fence.wide) (n := 3) Tryz.func63 rfl trivial ?_ rfl)
  simp only [Tryz.ntmps63, List.size_toArray, List.length_cons, List.length_nil, Nat.reduceAdd, Nat.reduceSub, Array.replicate_succ, Array.replicate_zero, List.push_toArray, List.append_toArray, List.nil_append, List.cons_append]
  gi_wp2_with fail
  refine ⟨trivial, ?_⟩
  refine (callsIn_wide.2 (hO.out _)).mono ?_
  rintro e w1 ⟨rfl, hb1'⟩
  have B0 := hide (Box.below (b := w.heap.size) (cs := #[.int .i64 f]) (by (repeat' (first | (refine Box.mk' ?_; simp; done) | (refine Box.old ?_ ?_; rotate_left; (simp <;> omega))))) hb1' (by simp <;> omega))
  have B1 := hide (Box.below (b := w.heap.size + 1) (cs := #[.slice none 0 0]) (by (repeat' (first | (refine Box.mk' ?_; simp; done) | (refine Box.old ?_ ?_; rotate_left; (simp <;> omega))))) hb1' (by simp <;> omega))
  have B2 := hide (Box.below (b := w.heap.size + 1 + 1) (cs := #[.int .i64 0]) (by (repeat' (first | (refine Box.mk' ?_; simp; done) | (refine Box.old ?_ ?_; rotate_left; (simp <;> omega))))) hb1' (by simp <;> omega))
  have L1 := hide (((((Below.refl _ w).alloc (Nat.le_refl _) _).alloc (by simp) _).alloc (by simp <;> omega) _).trans (hb1'.mono (by simp <;> omega)) : Below w.heap.size w w1)
  have z1 : w.heap.size + 3 ≤ w1.heap.size := by have := hb1'.size; simp at this; omega
  clear hb1'
  gi_upto_region 4 with fail
  obtain ⟨W1, hW1⟩ : ∃ W1, W1 = w1.alloc (.cells #[.int .i64 b, .int .i64 m, .bool wd] 52) := ⟨_, rfl⟩
  have C0 := hide (show Box W1 w.heap.size #[.int .i64 f] by rw [hW1]; exact B0.out.old (by omega))
  have C1 := hide (show Box W1 (w.heap.size + 1) #[.slice none 0 0] by rw [hW1]; exact B1.out.old (by omega))
  have C2 := hide (show Box W1 (w.heap.size + 1 + 1) #[.int .i64 0] by rw [hW1]; exact B2.out.old (by omega))
  have L2 := hide (show Below w.heap.size w W1 by rw [hW1]; exact L1.out.alloc L1.out.size _)
  have z2 : w.heap.size + 3 ≤ W1.heap.size ∧ W1.heap.size = w1.heap.size + 1 := by rw [hW1]; simp; omega
  clear B0 B1 B2 L1 z1
  rw [← hW1]
  clear hW1
  by_cases h1 : W < 1
  · have q1 : decide (W < 1) = true := by simpa using h1
    have HX := hide (show sizV b W H n = 1 by unfold sizV; rw [if_pos (by unfold sizBad; omega)])
    have c1 := (C1.out 0 _ rfl).1
    have f1 := (C1.out 0 _ rfl).2
    have c2 := (C2.out 0 _ rfl).1
    have f2 := (C2.out 0 _ rfl).2
    simp only [List.getElem_toArray, List.getElem_cons_zero] at c1 c2
    clear h1
    gi_wp2_with (refine ⟨trivial, ?_⟩)
    obtain ⟨Wf, hWf⟩ : ∃ Wf, Wf = (W1.setCell ⟨w.heap.size + 1, 0, none⟩ (.slice none 0 0)).setCell ⟨w.heap.size + 1 + 1, 0, none⟩ (.int .i64 1) := ⟨_, rfl⟩
    have lf : Below w.heap.size w Wf := by rw [hWf]; exact (L2.out.setCell (by simp <;> omega) _).setCell (by simp <;> omega) _
    have k1 : Wf.cell? ⟨w.heap.size + 1, 0, none⟩ = some (.slice none 0 0) := by rw [hWf]; exact ((C1.out.setOne).setOther (by omega) 0 _ rfl).1
    have k2 : Wf.cell? ⟨w.heap.size + 1 + 1, 0, none⟩ = some (.int .i64 1) := by rw [hWf]; exact ((C2.out.setOther (by omega)).setOne 0 _ rfl).1
    rw [← hWf]
    clear hWf c1 c2 f1 f2
    refine ⟨.tuple #[.slice none 0 0, .int .i64 1], by simp [results, Tryz.results63, go_sem, k1, k2], lf, .slice none 0 0, by rw [HX.out], fun _ => rfl, fun h => ?_⟩
    rw [HX.out] at h; omega
  have q1 : decide (W < 1) = false := by simpa using h1
  by_cases h2 : H < 1
  · have q2 : decide (H < 1) = true := by simpa using h2
    have HX := hide (show sizV b W H n = 1 by unfold sizV; rw [if_pos (by unfold sizBad; omega)])
    have c1 := (C1.out 0 _ rfl).1
    have f1 := (C1.out 0 _ rfl).2
    have c2 := (C2.out 0 _ rfl).1
    have f2 := (C2.out 0 _ rfl).2
    simp only [List.getElem_toArray, List.getElem_cons_zero] at c1 c2
    clear h2 h1
    gi_wp2_with (refine ⟨trivial, ?_⟩)
    obtain ⟨Wf, hWf⟩ : ∃ Wf, Wf = (W1.setCell ⟨w.heap.size + 1, 0, none⟩ (.slice none 0 0)).setCell ⟨w.heap.size + 1 + 1, 0, none⟩ (.int .i64 1) := ⟨_, rfl⟩
    have lf : Below w.heap.size w Wf := by rw [hWf]; exact (L2.out.setCell (by simp <;> omega) _).setCell (by simp <;> omega) _
    have k1 : Wf.cell? ⟨w.heap.size + 1, 0, none⟩ = some (.slice none 0 0) := by rw [hWf]; exact ((C1.out.setOne).setOther (by omega) 0 _ rfl).1
    have k2 : Wf.cell? ⟨w.heap.size + 1 + 1, 0, none⟩ = some (.int .i64 1) := by rw [hWf]; exact ((C2.out.setOther (by omega)).setOne 0 _ rfl).1
    rw [← hWf]
    clear hWf c1 c2 f1 f2
    refine ⟨.tuple #[.slice none 0 0, .int .i64 1], by simp [results, Tryz.results63, go_sem, k1, k2], lf, .slice none 0 0, by rw [HX.out], fun _ => rfl, fun h => ?_⟩
    rw [HX.out] at h; omega
  have q2 : decide (H < 1) = false := by simpa using h2
  by_cases h3 : n < 1
  · have q3 : decide (n < 1) = true := by simpa using h3
    have HX := hide (show sizV b W H n = 1 by unfold sizV; rw [if_pos (by unfold sizBad; omega)])
    have c1 := (C1.out 0 _ rfl).1
    have f1 := (C1.out 0 _ rfl).2
    have c2 := (C2.out 0 _ rfl).1
    have f2 := (C2.out 0 _ rfl).2
    simp only [List.getElem_toArray, List.getElem_cons_zero] at c1 c2
    clear h3 h1 h2
    gi_wp2_with (refine ⟨trivial, ?_⟩)
    obtain ⟨Wf, hWf⟩ : ∃ Wf, Wf = (W1.setCell ⟨w.heap.size + 1, 0, none⟩ (.slice none 0 0)).setCell ⟨w.heap.size + 1 + 1, 0, none⟩ (.int .i64 1) := ⟨_, rfl⟩
    have lf : Below w.heap.size w Wf := by rw [hWf]; exact (L2.out.setCell (by simp <;> omega) _).setCell (by simp <;> omega) _
    have k1 : Wf.cell? ⟨w.heap.size + 1, 0, none⟩ = some (.slice none 0 0) := by rw [hWf]; exact ((C1.out.setOne).setOther (by omega) 0 _ rfl).1
    have k2 : Wf.cell? ⟨w.heap.size + 1 + 1, 0, none⟩ = some (.int .i64 1) := by rw [hWf]; exact ((C2.out.setOther (by omega)).setOne 0 _ rfl).1
    rw [← hWf]
    clear hWf c1 c2 f1 f2
    refine ⟨.tuple #[.slice none 0 0, .int .i64 1], by simp [results, Tryz.results63, go_sem, k1, k2], lf, .slice none 0 0, by rw [HX.out], fun _ => rfl, fun h => ?_⟩
    rw [HX.out] at h; omega
  have q3 : decide (n < 1) = false := by simpa using h3
  by_cases h4 : lv < n
  · have q4 : decide (lv < n) = true := by simpa using h4
    have HX := hide (show sizV b W H n = 1 by unfold sizV; rw [if_pos (by unfold sizBad; rw [← HL.out]; omega)])
    have c1 := (C1.out 0 _ rfl).1
    have f1 := (C1.out 0 _ rfl).2
    have c2 := (C2.out 0 _ rfl).1
    have f2 := (C2.out 0 _ rfl).2
    simp only [List.getElem_toArray, List.getElem_cons_zero] at c1 c2
    clear h4 h1 h2 h3
    gi_wp2_with fail
    refine ⟨trivial, ?_⟩
    refine (callsIn_wide.2 (s50 _)).mono ?_
    rintro e w2 ⟨rfl, hb2⟩
    have z3 : w.heap.size + 3 ≤ w2.heap.size := by have := hb2.size; omega
    have D1 := hide (C1.out.below hb2 (by omega))
    have D2 := hide (C2.out.below hb2 (by omega))
    have L3 := hide (L2.out.trans (hb2.mono (by omega)))
    clear c1 c2 f1 f2 hb2
    have c1 := (D1.out 0 _ rfl).1
    have f1 := (D1.out 0 _ rfl).2
    have c2 := (D2.out 0 _ rfl).1
    have f2 := (D2.out 0 _ rfl).2
    simp only [List.getElem_toArray, List.getElem_cons_zero] at c1 c2
    gi_wp2_with fail
    obtain ⟨Wf, hWf⟩ : ∃ Wf, Wf = (w2.setCell ⟨w.heap.size + 1, 0, none⟩ (.slice none 0 0)).setCell ⟨w.heap.size + 1 + 1, 0, none⟩ (.int .i64 1) := ⟨_, rfl⟩
    have lf : Below w.heap.size w Wf := by rw [hWf]; exact (L3.out.setCell (by simp <;> omega) _).setCell (by simp <;> omega) _
    have k1 : Wf.cell? ⟨w.heap.size + 1, 0, none⟩ = some (.slice none 0 0) := by rw [hWf]; exact ((D1.out.setOne).setOther (by omega) 0 _ rfl).1
    have k2 : Wf.cell? ⟨w.heap.size + 1 + 1, 0, none⟩ = some (.int .i64 1) := by rw [hWf]; exact ((D2.out.setOther (by omega)).setOne 0 _ rfl).1
    rw [← hWf]
    clear hWf c1 c2 f1 f2
    refine ⟨.tuple #[.slice none 0 0, .int .i64 1], by simp [results, Tryz.results63, go_sem, k1, k2], lf, .slice none 0 0, by rw [HX.out], fun _ => rfl, fun h => ?_⟩
    rw [HX.out] at h; omega
  have q4 : decide (lv < n) = false := by simpa using h4
  have HB := hide (show ¬ sizBad W H n by unfold sizBad; rw [← HL.out]; omega)
  have hnn : 1 ≤ n ∧ n ≤ 63 := by omega
  have hWH : 1 ≤ W ∧ 1 ≤ H := by omega
  clear h1 h2 h3 h4
  gi_wp2_with fail
  refine ⟨trivial, ?_⟩
  refine (callsIn_wide.2 (s50 _)).mono ?_
  rintro e w2 ⟨rfl, hb2⟩
  have z3 : w.heap.size + 3 ≤ w2.heap.size := by have := hb2.size; omega
  have D0 := hide (C0.out.below hb2 (by omega))
  have D1 := hide (C1.out.below hb2 (by omega))
  have D2 := hide (C2.out.below hb2 (by omega))
  have L3 := hide (L2.out.trans (hb2.mono (by omega)))
  clear hb2 C0 C1 C2 L2 s50
  gi_wp2_with (refine ⟨trivial, ?_⟩; gi_at_call 94; refine (callsIn_wide.2 (levels_fn _ _ _ _)).mono ?_; rintro e w' ⟨rfl, rfl⟩)
  obtain ⟨W2, hW2⟩ : ∃ W2, W2 = (((w2.alloc (.cells #[.slice none 0 0] 55)).alloc (.cells #[.int .i64 W] 3)).alloc (.cells #[.int .i64 H] 3)).alloc (.cells #[.int .i64 n] 3) := ⟨_, rfl⟩
  have zz : W2.heap.size ≤ w2.heap.size + 4 ∧ w2.heap.size + 4 ≤ W2.heap.size := by rw [hW2]; simp
  have hb2 : Below w2.heap.size w2 W2 := by rw [hW2]; exact ((((Below.refl _ _).alloc (Nat.le_refl _) _).alloc (by simp) _).alloc (by simp <;> omega) _).alloc (by simp <;> omega) _
  have E0 := hide (D0.out.below hb2 (by omega))
  have E1 := hide (D1.out.below hb2 (by omega))
  have E2 := hide (D2.out.below hb2 (by omega))
  have E3 := hide (show Box W2 w2.heap.size #[.slice none 0 0] by rw [hW2]; exact Box.old (Box.old (Box.old (Box.mk' rfl) (by simp)) (by simp <;> omega)) (by simp <;> omega))
  have u0 : Box W2 (w2.heap.size + 1) #[.int .i64 W] := by rw [hW2]; exact Box.old (Box.old (Box.mk' (by simp)) (by simp)) (by simp <;> omega)
  have u1 : Box W2 (w2.heap.size + 1 + 1) #[.int .i64 H] := by rw [hW2]; exact Box.old (Box.mk' (by simp)) (by simp)
  have u2 : Box W2 (w2.heap.size + 1 + 2) #[.int .i64 n] := by rw [hW2]; exact Box.mk' (by simp)
  have L4 := hide (L3.out.trans (hb2.mono (by omega)))
  rw [← hW2]
  clear hW2 D0 D1 D2 L3 hb2
  obtain ⟨i0, hi, hz0, hz1, hz2⟩ := info_parts info3
  have HI := hide (And.intro hi (And.intro hz0 (And.intro hz1 hz2)))
  clear hi hz0 hz1 hz2
  refine range_levels (w2.heap.size + 1 + 2) (w2.heap.size + 1) (w2.heap.size + 1 + 1) n W H (by omega) hn hW0 hW hH0 hH rfl rfl ⟨(u2 0 _ rfl).1, (u0 0 _ rfl).1, (u1 0 _ rfl).1⟩ (by omega) (by omega) (by omega)
    (fun k W' => ∃ v, (Box W' w.heap.size #[.int .i64 f] ∧ Box W' (w.heap.size + 1) #[.slice none 0 0] ∧ Box W' (w.heap.size + 1 + 1) #[.int .i64 0] ∧ Box W' w2.heap.size #[v]) ∧ W'.ownsRow (W2.heap.size + 2) 3 1 v k (sizL b W H k) ∧ sizE b W H k = 0 ∧ Below w.heap.size w W')
    (fun c k W' => (c = .ret ∧ ∃ e : Int, e ≠ 0 ∧ sizE b W H (k + 1) = e ∧ Box W' (w.heap.size + 1) #[.slice none 0 0] ∧ Box W' (w.heap.size + 1 + 1) #[.int .i64 e]) ∧ Below w.heap.size w W') ?hI ?hIx ⟨_, ⟨E0.out, E1.out, E2.out, E3.out⟩, World.ownsRow_nil _ _ _ _, rfl, L4.out⟩ ?a1 ?assign ?body ?done ?stop
  case a1 => exact fun k => { tmps := #[.int .i64 f, .int .i64 W, .int .i64 H, .int .i64 n, .pointer (some ⟨w.heap.size, 0, none⟩), undef, undef, undef, .pointer (some ⟨w.heap.size + 1, 0, none⟩), .pointer (some ⟨w.heap.size + 1 + 1, 0, none⟩), .pointer (some ⟨w1.heap.size, 0, none⟩), .int .i64 0, .pointer (some ⟨w2.heap.size, 0, none⟩), .int .i64 (sideV W k), .int .i64 (sideV H k), undef, undef,
      .tuple #[.agg #[.int .i64 b, .int .i64 m, .bool wd], .int .i64 0], .int .i64 f, .tuple #[.agg #[.int .i64 b, .int .i64 m, .bool wd], .int .i64 0], .agg #[.int .i64 b, .int .i64 m, .bool wd], .int .i64 0, .int .i64 0, .bool false, undef, .int .i64 W, .bool false, .bool false, .int .i64 H, .bool false, .bool false, .bool false, .int .i64 n, .bool false, .bool false, .bool false, .int .i64 n, .int .i64 W, .int .i64 H, .int .i64 lv, .bool false, .bool false, .int .i64 W, .int .i64 H, .int .i64 n,
      .func (.func 162) #[] #[.pointer (some ⟨w2.heap.size + 1 + 2, 0, none⟩), .pointer (some ⟨w2.heap.size + 1, 0, none⟩), .pointer (some ⟨w2.heap.size + 1 + 1, 0, none⟩)], .int .i64 (sideV W k), .int .i64 (sideV H k), undef, undef, undef, undef, undef, undef, undef, undef, undef, undef, undef, undef, undef, undef, undef], defers := [] }
  case hI =>
    rintro k W' W'' ⟨v, ⟨g0, g1, g2, g3⟩, g4, g5, g6⟩ hs
    exact ⟨v, ⟨g0.below hs.below (by omega), g1.below hs.below (by omega), g2.below hs.below (by omega), g3.below hs.below (by omega)⟩, own_of g4 (fun q h1 h2 => hs.block q (g4.lt q h2).2 (by omega) (by omega)), g5, g6.trans (hs.below.mono (by omega))⟩
  case hIx =>
    rintro c k W' W'' ⟨⟨g0, e, g1, g2, g3, g4⟩, g5⟩ hs
    exact ⟨⟨g0, e, g1, g2, g3.below hs.below (by omega), g4.below hs.below (by omega)⟩, g5.trans (hs.below.mono (by omega))⟩
  case assign =>
    intro l k W K hK
    gi_wp2
    simpa using hK
  case body =>
    rintro l k W' hk ⟨v, ⟨g0, g1, g2, g3⟩, g4, g5, g6⟩ hsz
    have sW := sideV_bd (of := k) hWH.1
    have sH := sideV_bd (of := k) hWH.2
    have hqb := eqbyt b (sideV W k) (sideV H k) hb0 hb1
    obtain ⟨q, e1, hq⟩ : ∃ q e1, bytV b (sideV W k) (sideV H k) = (q, e1) := ⟨_, _, rfl⟩
    rw [hq] at hqb
    simp only at hqb
    have HN := hide (show sizE b W H (k + 1) = e1 by rw [sizE, if_neg (by rw [g5]; simp), hq])
    have HF := hide (show sizL b W H (k + 1) = sizL b W H k ++ [.int .i64 q] by rw [sizL_succ]; unfold sizF; rw [hq])
    have s98 : ∀ w, Calls Tryz.prog 98 #[.int .i64 f, .int .i64 (sideV W k), .int .i64 (sideV H k)] w fun e w' => e = .returned (.tuple #[.int .i64 q, .int .i64 e1]) ∧ Below w.heap.size w w' := fun w => by
      have := bytes_any f b m (sideV W k) (sideV H k) wd w hO.out hb0 hb1 (by omega) (by omega) (by omega) (by omega)
      rw [hq] at this; exact this
    have G0 := hide g0
    have G1 := hide g1
    have G2 := hide g2
    have G3 := hide g3
    have G4 := hide g4
    have G6 := hide g6
    have HK := hide hk
    have c0 := (g0 0 _ rfl).1
    simp only [List.getElem_toArray, List.getElem_cons_zero] at c0
    clear g0 g1 g2 g3 g4 g5 g6 hq u0 u1 u2
    generalize sideV W k = x at *
    generalize sideV H k = y at *
    gi_wp2_with fail
    refine ⟨trivial, ?_⟩
    refine (callsIn_wide.2 (s98 _)).mono ?_
    rintro e w3 ⟨rfl, hb3⟩
    have z4 : W'.heap.size ≤ w3.heap.size := hb3.size
    have H0 := hide (G0.out.below hb3 (by omega))
    have H1 := hide (G1.out.below hb3 (by omega))
    have H2 := hide (G2.out.below hb3 (by omega))
    have H3 := hide (G3.out.below hb3 (by omega))
    have H4 := hide (own_of G4.out (fun r h1 h2 => hb3.block r (G4.out.lt r h2).2) : w3.ownsRow (W2.heap.size + 2) 3 1 v k (sizL b W H k))
    have H6 := hide (G6.out.trans (hb3.mono (by omega)))
    have HB3 := hide hb3
    have c1 := (H1.out 0 _ rfl).1
    have f1 := (H1.out 0 _ rfl).2
    have c2 := (H2.out 0 _ rfl).1
    have f2 := (H2.out 0 _ rfl).2
    have c3 := (H3.out 0 _ rfl).1
    have f3 := (H3.out 0 _ rfl).2
    simp only [List.getElem_toArray, List.getElem_cons_zero] at c1 c2 c3
    have hk63 : k < 63 := by have := HK.out; omega
    clear G0 G1 G2 G3 G4 G6 hb3 c0 hk s98
    by_cases he : e1 = 0
    · have d1 : (e1 != 0) = false := by simpa using he
      have Z1 := hide (show k + 1 ≤ maxLen by unfold maxLen; omega)
      have Z2 := hide (show (k + 1) * 8 ≤ 140737488355328 by omega)
      have own := H4.out.alloc (.cells #[.int .i64 q] 3)
      have HQ := hide (show ∀ j u, ([.int .i64 q] : List Value)[j]? = some u → (w3.alloc (.cells #[.int .i64 q] 3)).cell? ((⟨w3.heap.size, 0, none⟩ : Addr).add j) = some u from fun j u hj => by
        rw [Addr.add_lit, Nat.zero_add, cell_new]; simpa using hj)
      have hsz3 : W2.heap.size + 2 ≤ (w3.alloc (.cells #[.int .i64 q] 3)).heap.size := by simp; omega
      gi_wp2_with (refine wpListIn_append_own_at _ rfl (.tmp 58) (.tmp 60) 55 rfl (W2.heap.size + 2) 3 i0 (.int .i64 0) 1 8 Tryz.underlying55 HI.out.1 HI.out.2.1 HI.out.2.2.1 HI.out.2.2.2 rfl (by decide) v k _ rfl own ⟨w3.heap.size, 0, none⟩ 1 1 [.int .i64 q] rfl rfl HQ.out (by intro u hu; simp at hu; subst hu; rfl) Z1.out Z2.out hsz3 ?_)
      intro v' w4 hown hgrow _ hat
      obtain ⟨g', cap', rfl, -, -⟩ := hown.form (by omega)
      have hrow : ∀ r, v.ownBlock = some r → W2.heap.size + 2 ≤ r := fun r hr => (H4.out.lt r hr).1
      have K0 := hide (((H0.out.old (o := .cells #[.int .i64 q] 3) (by omega)).grown hgrow (by simp; omega) (fun r hr => by have := hrow r hr; omega)))
      have K1 := hide (((H1.out.old (o := .cells #[.int .i64 q] 3) (by omega)).grown hgrow (by simp; omega) (fun r hr => by have := hrow r hr; omega)))
      have K2 := hide (((H2.out.old (o := .cells #[.int .i64 q] 3) (by omega)).grown hgrow (by simp; omega) (fun r hr => by have := hrow r hr; omega)))
      have K3 := hide (((H3.out.old (o := .cells #[.int .i64 q] 3) (by omega)).grown hgrow (by simp; omega) (fun r hr => by have := hrow r hr; omega)))
      have K6 := hide (below_grown (H6.out.alloc (by omega) (.cells #[.int .i64 q] 3)) hgrow (by simp; omega) (fun r hr => by have := hrow r hr; omega))
      have HG := hide hgrow
      have HO2 := hide hown
      have z5 : w3.heap.size + 1 ≤ w4.heap.size := by have := hgrow.size; simpa using this
      have c3 := (K3.out 0 _ rfl).1
      have f3 := (K3.out 0 _ rfl).2
      simp only [List.getElem_toArray, List.getElem_cons_zero] at c3
      clear c1 c2 f1 f2 hgrow hat hown own HQ Z1 Z2 hsz3
      gi_wp2_with fail
      refine ⟨⟨by simp; omega, fun b hb hor => ?_⟩, _, ⟨K0.out.setOther (by omega), K1.out.setOther (by omega), K2.out.setOther (by omega), K3.out.setOne⟩, ?_, by rw [HN.out]; exact he, K6.out.setCell (by simp <;> omega) _⟩
      · rw [Below.heap_setCell _ _ _ _ (by simp <;> omega), HG.out.block b (by simp; omega) (fun e => by have := hrow b e.symm; omega), Below.heap_alloc _ _ _ (by omega)]
        exact HB3.out.block b hb
      · rw [HF.out]
        exact own_of HO2.out fun r h1 _ => Below.heap_setCell _ _ _ _ (by simp <;> omega)
    · have d1 : (e1 != 0) = true := by simpa using he
      gi_wp2_with fail
      refine ⟨⟨by simp; omega, fun b hb hor => by rw [Below.heap_setCell _ _ _ _ (by simp <;> omega), Below.heap_setCell _ _ _ _ (by simp <;> omega)]; exact HB3.out.block b hb⟩, ⟨rfl, e1, he, HN.out, (H1.out.setOne).setOther (by omega), (H2.out.setOther (by omega)).setOne⟩, (H6.out.setCell (by simp <;> omega) _).setCell (by simp <;> omega) _⟩
  case stop =>
    rintro D c k W' hk ⟨⟨rfl, e, g1, g2, g3, g4⟩, g5⟩ hd hD
    have hx : sizV b W H n = e := by
      unfold sizV
      rw [if_neg HB.out, sizE_err (k := k + 1) (by rw [g2]; exact g1) n.toNat (by omega), g2]
    have HX := hide hx
    have G5 := hide g5
    have HE := hide g1
    have k1 : ∀ ob, (W'.putObj D ob).cell? ⟨w.heap.size + 1, 0, none⟩ = some (.slice none 0 0) := fun ob => ((g3.put (o := ob) (c := D) (by omega)) 0 _ rfl).1
    have k2 : ∀ ob, (W'.putObj D ob).cell? ⟨w.heap.size + 1 + 1, 0, none⟩ = some (.int .i64 e) := fun ob => ((g4.put (o := ob) (c := D) (by omega)) 0 _ rfl).1
    have K1 := hide k1
    have K2 := hide k2
    clear g1 g2 g3 g4 g5 hx k1 k2
    gi_wp2
    refine ⟨by simp, .inl ⟨_, _, rfl, run_takeDeferred hd, ?_⟩⟩
    refine ⟨.tuple #[.slice none 0 0, .int .i64 e], by simp [results, Tryz.results63, go_sem, K1.out, K2.out], Below.put G5.out (by omega) _, .slice none 0 0, by rw [HX.out], fun _ => rfl, fun h => ?_⟩
    rw [HX.out] at h; exact absurd h HE.out
  case done =>
    rintro D W' ⟨v, ⟨g0, g1, g2, g3⟩, g4, g5, g6⟩ hd hD
    have HX := hide (show sizV b W H n = 0 by unfold sizV; rw [if_neg HB.out, g5])
    have G1 := hide g1
    have G2 := hide g2
    have G4 := hide g4
    have G6 := hide g6
    have HD := hide hd
    have hdl : D < W'.heap.size := (Array.getElem?_eq_some_iff.1 hd).1
    have c1 := (g1 0 _ rfl).1
    have f1 := (g1 0 _ rfl).2
    have c2 := (g2 0 _ rfl).1
    have f2 := (g2 0 _ rfl).2
    have c3 := (g3 0 _ rfl).1
    simp only [List.getElem_toArray, List.getElem_cons_zero] at c1 c2 c3
    obtain ⟨g', cap', rfl, -, -⟩ := g4.form (by omega)
    clear g0 g1 g2 g3 g4 g5 g6 hd u0 u1 u2
    gi_wp2
    obtain ⟨Wf, hWf⟩ : ∃ Wf, Wf = (W'.setCell ⟨w.heap.size + 1, 0, none⟩ (.slice (some ⟨g', 0, none⟩) n.toNat cap')).setCell ⟨w.heap.size + 1 + 1, 0, none⟩ (.int .i64 0) := ⟨_, rfl⟩
    have lf : Below w.heap.size w Wf := by rw [hWf]; exact (G6.out.setCell (by simp <;> omega) _).setCell (by simp <;> omega) _
    have hdf : Wf.heap[D]? = some (.deferred (some [])) := by rw [hWf]; rw [Below.heap_setCell _ _ _ _ (by simp <;> omega), Below.heap_setCell _ _ _ _ (by simp <;> omega)]; exact HD.out
    have b1 : Box Wf (w.heap.size + 1) #[.slice (some ⟨g', 0, none⟩) n.toNat cap'] := by rw [hWf]; exact (G1.out.setOne).setOther (by omega)
    have b2 : Box Wf (w.heap.size + 1 + 1) #[.int .i64 0] := by rw [hWf]; exact (G2.out.setOther (by omega)).setOne
    have ow : Wf.ownsRow (W2.heap.size + 2) 3 1 (.slice (some ⟨g', 0, none⟩) n.toNat cap') n.toNat (sizL b W H n.toNat) := by
      rw [hWf]
      exact own_of G4.out fun r h1 _ => by rw [Below.heap_setCell _ _ _ _ (by simp <;> omega), Below.heap_setCell _ _ _ _ (by simp <;> omega)]
    have k1 : ∀ ob, (Wf.putObj D ob).cell? ⟨w.heap.size + 1, 0, none⟩ = some (.slice (some ⟨g', 0, none⟩) n.toNat cap') := fun ob => ((b1.put (o := ob) (c := D) (by omega)) 0 _ rfl).1
    have k2 : ∀ ob, (Wf.putObj D ob).cell? ⟨w.heap.size + 1 + 1, 0, none⟩ = some (.int .i64 0) := fun ob => ((b2.put (o := ob) (c := D) (by omega)) 0 _ rfl).1
    rw [← hWf]
    clear hWf b1 b2 c1 c2 c3 f1 f2
    refine ⟨by simp, .inl ⟨_, _, rfl, run_takeDeferred hdf, ?_⟩⟩
    refine ⟨.tuple #[.slice (some ⟨g', 0, none⟩) n.toNat cap', .int .i64 0], by simp [results, Tryz.results63, go_sem, k1, k2], Below.put lf (by omega) _, _, by rw [HX.out], fun h => absurd HX.out h, fun _ => ?_⟩
    exact own_base (own_put ow hdf (fun _ _ _ h => by cases h)) (by omega)
end Go.Proofs.YtpkclnkibhgpkaaGreat
