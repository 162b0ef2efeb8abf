import Derived.Test.YtonamhikhjjacaaI
namespace Go.Proofs.Ytonamhikhjjacaa
open Go.RowKit

def At5 (w : World) (A : Nat) (l : Nat → Int) : Prop := ∀ i, i < 5 → w.cell? ⟨A, i, none⟩ = some (.int .i64 (l i))
theorem At5.below {w w' : World} {A B : Nat} {l : Nat → Int} (h : At5 w A l) (hb : Below B w w') (hB : A < B) : At5 w' A l := fun i hi => (hb.cell (by exact hB)).trans (h i hi)

theorem allSmall_iff {n : Nat} {f : Nat → Int} (h : allSmall n f = true) : (∀ i, i < n → sml (f i)) ∧ n ≤ 100 := by
  unfold allSmall at h
  have := of_decide_eq_true h
  exact ⟨fun i hi => by have h := this.1 i hi; unfold smallV at h; unfold sml; simpa using h, this.2⟩

def sevens (v bits : Int) (l : Nat → Int) : Nat → Int := fun i => if i = 0 then v else if i = 1 then bits else l (i - 2)

set_option maxRecDepth 100000 in
set_option maxHeartbeats 1600000 in
theorem tells_any (v bits : Int) (l : Nat → Int) (cs : Array Value) (w : World) (hcs : cs = #[.int .i64 (l 0), .int .i64 (l 1), .int .i64 (l 2), .int .i64 (l 3), .int .i64 (l 4)]) :
    Calls Try.prog 3 #[.int .i64 v, .int .i64 bits, .agg cs] w fun e w' => e = .returned (.bool true) ∧ Below w.heap.size w w' := by
  subst hcs
  go_enter Try.func3, Try.ntmps3
  have a0 : At5 (w.alloc (.cells #[.int .i64 (l 0), .int .i64 (l 1), .int .i64 (l 2), .int .i64 (l 3), .int .i64 (l 4)] 22)) w.heap.size l := by
    intro i hi
    rw [cell_new]
    match i, hi with | 0, _ => rfl | 1, _ => rfl | 2, _ => rfl | 3, _ => rfl | 4, _ => rfl
  have A0 := hide a0
  clear a0
  go_wp2_with fail
  refine (awake_any _).mono ?_
  rintro e w1 ⟨rfl, hb1'⟩
  have hb1 : Below w.heap.size w w1 := ((Below.refl _ _).alloc (Nat.le_refl _) _).trans (hb1'.mono (by simp))
  have a1 := A0.out.below hb1' (by simp)
  have hs1 : w.heap.size < w1.heap.size := by have := hb1'.size; simp at this; omega
  have A1 := hide a1
  have c0 := a1 0 (by omega)
  have c1 := a1 1 (by omega)
  have c2 := a1 2 (by omega)
  have c3 := a1 3 (by omega)
  have c4 := a1 4 (by omega)
  clear a1 A0 hb1'
  go_wp2_with fail
  have r1 := ri_new w1 [.int .i64 v, .int .i64 bits, .int .i64 (l 0), .int .i64 (l 1), .int .i64 (l 2), .int .i64 (l 3), .int .i64 (l 4)] (sevens v bits l) 7 (by omega) (fun i hi => by
    match i, hi with | 0, _ => rfl | 1, _ => rfl | 2, _ => rfl | 3, _ => rfl | 4, _ => rfl | 5, _ => rfl | 6, _ => rfl)
  refine (smalls_any 7 (sevens v bits l) _ _ r1).mono ?_
  rintro e w' ⟨rfl, rfl⟩
  clear r1
  have hb2 : Below w.heap.size w (w1.alloc (.cells #[.int .i64 v, .int .i64 bits, .int .i64 (l 0), .int .i64 (l 1), .int .i64 (l 2), .int .i64 (l 3), .int .i64 (l 4)] 3)) := hb1.alloc hb1.size _
  by_cases hsm : allSmall 7 (sevens v bits l) = true
  · have hs := (allSmall_iff hsm).1
    have sv : sml v := hs 0 (by omega)
    have sb : sml bits := hs 1 (by omega)
    have s0 : sml (l 0) := hs 2 (by omega)
    have s1 : sml (l 1) := hs 3 (by omega)
    have s2 : sml (l 2) := hs 4 (by omega)
    have s3 : sml (l 3) := hs 5 (by omega)
    have s4 : sml (l 4) := hs 6 (by omega)
    clear hs
    rw [hsm]
    clear hsm
    generalize hw2 : (w1.alloc (.cells #[.int .i64 v, .int .i64 bits, .int .i64 (l 0), .int .i64 (l 1), .int .i64 (l 2), .int .i64 (l 3), .int .i64 (l 4)] 3)) = w2 at hb2 ⊢
    have a2 : At5 w2 w.heap.size l := A1.out.below (hw2 ▸ (Below.refl _ _).alloc (Nat.le_refl _) _) hs1
    have hs2 : w.heap.size < w2.heap.size := by rw [← hw2]; simp; omega
    clear c0 c1 c2 c3 c4 hw2
    have c0 : ∀ n : Wb w2, n.1.cell? ⟨w.heap.size, 0, none⟩ = some (.int .i64 (l 0)) := fun n => (n.cell (by exact hs2)).trans (a2 0 (by omega))
    have c1 : ∀ n : Wb w2, n.1.cell? ⟨w.heap.size, 1, none⟩ = some (.int .i64 (l 1)) := fun n => (n.cell (by exact hs2)).trans (a2 1 (by omega))
    have c2 : ∀ n : Wb w2, n.1.cell? ⟨w.heap.size, 2, none⟩ = some (.int .i64 (l 2)) := fun n => (n.cell (by exact hs2)).trans (a2 2 (by omega))
    have c3 : ∀ n : Wb w2, n.1.cell? ⟨w.heap.size, 3, none⟩ = some (.int .i64 (l 3)) := fun n => (n.cell (by exact hs2)).trans (a2 3 (by omega))
    have c4 : ∀ n : Wb w2, n.1.cell? ⟨w.heap.size, 4, none⟩ = some (.int .i64 (l 4)) := fun n => (n.cell (by exact hs2)).trans (a2 4 (by omega))
    clear a2
    have g := sv
    unfold sml at g
    go_wp2_with fail
    simp only [List.append_eq, List.cons_append, List.nil_append]
    refine wp_region_below w2 (Below.refl _ _) (by kernel_rfl) (by kernel_rfl) ?_
    repeat (go_big_quiet_step (first
      | (go_at_call 9; exact Calls.wb_same (wide_any _ _ _ (by omega) (by omega)))
      | (go_at_call 10; exact Calls.wb_same (rwide_any _ _ _ (by omega) (by omega)))
      | (go_at_call 11; exact Calls.wb (near_any _ _ _ g.1 g.2))
      | (go_at_call 12; exact Calls.wb_same (rnear_any _ _ _ g.1 g.2))
      | (go_at_call 13; exact Calls.wb_same (clamp_any _ _ _))
      | (go_at_call 14; exact Calls.wb_same (clamp_ref _ _ _))
      | (go_at_call 15; exact Calls.wb_same (mix_any _ _ _ _ _ _ s0 s1 s2 s3 s4))
      | (go_at_call 16; exact Calls.wb_same (rmix_any _ _ _ _ _ _ s0 s1 s2 s3 s4))))
    refine wpQuiet_nil ?_
    rintro _ ⟨⟨w3, hb3⟩, rfl⟩
    go_wp2
    go_ret
    exact ⟨rfl, hb2.trans (hb3.mono hb2.size)⟩
  · have hsm' : allSmall 7 (sevens v bits l) = false := by simpa using hsm
    rw [hsm']
    clear hsm hsm'
    go_wp2_with fail
    go_ret
    exact ⟨rfl, hb2⟩
end Go.Proofs.Ytonamhikhjjacaa
