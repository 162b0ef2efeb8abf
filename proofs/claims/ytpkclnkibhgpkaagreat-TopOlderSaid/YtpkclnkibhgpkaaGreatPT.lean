/-
A surface of a texture, as the texture layer decodes it. Its conditions: a place inside the texture; blocks that can be read; what a block decodes to.
-/
import Derived.Test.YtpkclnkibhgpkaaGreatPR
import Derived.Deep.CutRange
namespace Go.Proofs.YtpkclnkibhgpkaaGreat
open Go.RowKit
attribute [local irreducible] agOf
theorem cf43 (args : Array Value) (w : World) : (callFunc 43 args).run Tryz.prog w = .ok (.enter 43 args) w := by kernel_rfl
set_option maxHeartbeats 1000000 in
theorem tiles_each (sw sh : Int) (cols rows : Nat) (p1 p2 p3 p4 p5 : Value) (J : Nat → Nat → World → Prop) (w : World) (hw : 0 ≤ sw ∧ sw ≤ 4096) (hh : 0 ≤ sh ∧ sh ≤ 4096) (ht : tilesV sw sh = ((cols : Int), (rows : Int))) (hc : cols ≤ 4096) (hr : rows ≤ 4096) (h0 : J 0 0 w)
    (H : ∀ y x wr, y < rows → x < cols → J y x wr → Calls Tryz.prog 43 #[.int .i64 (x : Int), .int .i64 (y : Int), p1, p2, p3, p4, p5] wr fun e w' => e = .returned (.tuple #[]) ∧ J y (x + 1) w')
    (HN : ∀ y wr, y < rows → J y cols wr → J (y + 1) 0 wr) :
    Calls Tryz.prog 28 #[.int .i64 sw, .int .i64 sh, .func (.func 43) #[] #[p1, p2, p3, p4, p5]] w fun e w' => e = .returned (.tuple #[]) ∧ J rows 0 w' := by
  have HH := hide H
  have H0 := hide h0
  have HN' := hide HN
  have s52 : ∀ w, Calls Tryz.prog 52 #[.int .i64 sw, .int .i64 sh] w fun e w' => e = .returned (.tuple #[.int .i64 (cols : Int), .int .i64 (rows : Int)]) ∧ w = w' := fun w => by
    have := tiles_any sw sh w (by omega) (by omega) (by omega) (by omega)
    rw [ht] at this; exact this
  have cf := cf43
  clear H h0 HN ht
  go_enter Tryz.func28, Tryz.ntmps28
  go_wp2_with (go_at_call 52; ((with_reducible refine (s52 _).mono ?_); rintro e w' ⟨rfl, rfl⟩))
  go_loopw [17] (fun i wr => ∃ k : Nat, k ≤ rows ∧ i = .int .i64 k ∧ Hid (J k 0 wr)) (fun i _ => rows - (intOf i).toNat)
  case atStart => exact ⟨0, by omega, rfl, H0⟩
  case round =>
    obtain ⟨y, hy, rfl, hj⟩ := hrel
    by_cases hlt : y < rows
    · go_wp2_with fail
      go_loopw [21] (fun i wr => ∃ k : Nat, k ≤ cols ∧ i = .int .i64 k ∧ Hid (J y k wr)) (fun i _ => cols - (intOf i).toNat)
      case atStart => exact ⟨0, by omega, rfl, hj⟩
      case round =>
        obtain ⟨x, hx, rfl, hj2⟩ := hrel
        by_cases hlt2 : x < cols
        · go_wp2_with fail
          refine (HH.out y x _ hlt hlt2 hj2.out).mono ?_
          rintro e w1 ⟨rfl, hj1⟩
          have HJ1 := hide hj1
          clear hj1 hj hj2
          go_wp2_with fail
          go_roundw
          case rel => exact ⟨x + 1, by omega, by go_num, HJ1⟩
          case measure => simp [intOf]; omega
        · obtain rfl : x = cols := by omega
          have HJ2 := hide (HN'.out y _ hlt hj2.out)
          clear hj hj2
          go_wp2_with fail
          go_roundw
          case rel => exact ⟨y + 1, by omega, by go_num, HJ2⟩
          case measure => simp [intOf]; omega
    · obtain rfl : y = rows := by omega
      go_wp2_with fail
      go_end0
      exact ⟨rfl, hj.out⟩
theorem Box.c3f {w : World} {b : Nat} {v0 v1 v2 : Value} (h : Box w b #[v0, v1, v2]) : (w.cell? ⟨b, 0, none⟩ = some v0 ∧ w.cell? ⟨b, 1, none⟩ = some v1 ∧ w.cell? ⟨b, 2, none⟩ = some v2) ∧ w.frozen? ⟨b, 0, none⟩ = false ∧ w.frozen? ⟨b, 1, none⟩ = false ∧ w.frozen? ⟨b, 2, none⟩ = false :=
  ⟨⟨(h 0 _ rfl).1, (h 1 _ rfl).1, (h 2 _ rfl).1⟩, (h 0 _ rfl).2, (h 1 _ rfl).2, (h 2 _ rfl).2⟩
theorem Below.step {w a b : World} (h : Below w.heap.size w a) (k : Below a.heap.size a b) : Below w.heap.size w b := h.trans (k.mono h.size)
theorem Box.of3 {w : World} {b : Nat} {v0 v1 v2 : Value} (h0 : w.cell? ⟨b, 0, none⟩ = some v0) (h1 : w.cell? ⟨b, 1, none⟩ = some v1) (h2 : w.cell? ⟨b, 2, none⟩ = some v2) (f0 : w.frozen? ⟨b, 0, none⟩ = false) (f1 : w.frozen? ⟨b, 1, none⟩ = false) (f2 : w.frozen? ⟨b, 2, none⟩ = false) : Box w b #[v0, v1, v2] := fun j v hj => by
  match j, hj with
  | 0, hj => cases hj; exact ⟨h0, f0⟩
  | 1, hj => cases hj; exact ⟨h1, f1⟩
  | 2, hj => cases hj; exact ⟨h2, f2⟩
theorem Box.put3 {w : World} {b : Nat} {x y z x' y' z' : Value} (h : Box w b #[x, y, z]) : Box (((w.setCell ⟨b, 0, none⟩ x').setCell ⟨b, 1, none⟩ y').setCell ⟨b, 2, none⟩ z') b #[x', y', z'] := by
  obtain ⟨⟨h0, h1, h2⟩, f0, f1, f2⟩ := h.c3f
  refine Box.of3 ?_ ?_ ?_ (by simp only [World.frozen?_setCell]; exact f0) (by simp only [World.frozen?_setCell]; exact f1) (by simp only [World.frozen?_setCell]; exact f2)
  · rw [World.cell?_setCell_other _ _ _ _ (by intro h; injection h; omega), World.cell?_setCell_other _ _ _ _ (by intro h; injection h; omega)]
    exact World.cell?_setCell_same' _ _ _ (by rw [h0]; rfl)
  · rw [World.cell?_setCell_other _ _ _ _ (by intro h; injection h; omega)]
    exact World.cell?_setCell_same' _ _ _ (by rw [World.cell?_setCell_other _ _ _ _ (by intro h; injection h; omega), h1]; rfl)
  · exact World.cell?_setCell_same' _ _ _ (by rw [World.cell?_setCell_other _ _ _ _ (by intro h; injection h; omega), World.cell?_setCell_other _ _ _ _ (by intro h; injection h; omega), h2]; rfl)
/-- the rows of a surface -/
def surR (W H : Int) (tf : Nat → Nat → Nat → Int) (y : Nat) (F : Nat → Int) : Nat → Nat → Int
  | 0 => F
  | x + 1 => layT W H (surR W H tf y F x) (tf y x) x y 16
def surV (W H : Int) (tf : Nat → Nat → Nat → Int) (cols : Nat) : Nat → Nat → Int
  | 0 => fun _ => 0
  | y + 1 => surR W H tf y (surV W H tf cols y) cols
theorem info41 : (Tryz.prog.info? 41).map (fun i => (i.zero, i.size, i.bytes)) = some (some (.agg z4), 4, 32) := by kernel_rfl
set_option maxRecDepth 100000 in
set_option maxHeartbeats 4000000 in
theorem surface_any (f W H Ly F n a c l sw sh : Int) (dv pv : Value) (T : (Nat → Int) → Nat → Int) (bk : Nat → Nat → Nat → Int) (cols rows m : Nat) (w0 w : World)
    (hb : Below w0.heap.size w0 w) (HBL : ∀ y x wr, y < rows → x < cols → Below w0.heap.size w0 wr → Calls Tryz.prog 44 #[.agg #[.int .i64 f, .int .i64 W, .int .i64 H, .int .i64 Ly, .int .i64 F, .int .i64 n, dv, pv], .int .i64 a, .int .i64 c, .int .i64 l, .int .i64 (x : Int), .int .i64 (y : Int)] wr fun e w' =>
      ∃ v, e = .returned (.tuple #[v, .int .i64 0]) ∧ Rb w' v 8 (bk y x) ∧ Below wr.heap.size wr w') (HDE : DecOK f T)
    (hW0 : -9223372036854775808 ≤ W) (hW : W ≤ 9223372036854775807) (hH0 : -9223372036854775808 ≤ H) (hH : H ≤ 9223372036854775807) (hl : l ≤ 9223372036854775807) (e1 : sideV W l = sw) (e2 : sideV H l = sh)
    (ht : tilesV sw sh = ((cols : Int), (rows : Int))) (hc : cols ≤ 4096) (hr : rows ≤ 4096) (hw : 0 ≤ sw ∧ sw ≤ 4096) (hh : 0 ≤ sh ∧ sh ≤ 4096) (hm : sw * sh = (m : Int)) :
    Calls Tryz.prog 20 #[.agg #[.int .i64 f, .int .i64 W, .int .i64 H, .int .i64 Ly, .int .i64 F, .int .i64 n, dv, pv], .int .i64 a, .int .i64 c, .int .i64 l] w
      fun e w' => ∃ gp cap, e = .returned (.agg #[.int .i64 sw, .int .i64 sh, .slice (some ⟨gp, 0, none⟩) m cap]) ∧ Bk w' gp (m * 4) (surV sw sh (fun y x => T (bk y x)) cols rows) ∧ w.heap.size ≤ gp ∧ Below w.heap.size w w' := by
  have sW : ∀ w, Calls Tryz.prog 42 #[.int .i64 W, .int .i64 l] w fun e w' => e = .returned (.int .i64 sw) ∧ Below w.heap.size w w' := fun w => by
    have := side_any W l w hW0 hW hl; rw [e1] at this; exact this
  have sH : ∀ w, Calls Tryz.prog 42 #[.int .i64 H, .int .i64 l] w fun e w' => e = .returned (.int .i64 sh) ∧ Below w.heap.size w w' := fun w => by
    have := side_any H l w hH0 hH hl; rw [e2] at this; exact this
  have HX := hide HBL
  have HD := hide HDE
  have HB := hide hb
  clear HBL HDE hb e1 e2
  go_enter Tryz.func20, Tryz.ntmps20
  go_upto_region 1 with fail
  generalize hw1 : ((((w.alloc _).alloc _).alloc _).alloc _).alloc _ = w1
  have B0 := hide (show Box w1 w.heap.size #[.int .i64 f, .int .i64 W, .int .i64 H, .int .i64 Ly, .int .i64 F, .int .i64 n, dv, pv] by rw [← hw1]; (repeat' (first | (refine Box.mk' ?_; simp; done) | (refine Box.old ?_ ?_; rotate_left; (simp <;> omega)))))
  have B1 := hide (show Box w1 (w.heap.size + 1) #[.int .i64 a] by rw [← hw1]; (repeat' (first | (refine Box.mk' ?_; simp; done) | (refine Box.old ?_ ?_; rotate_left; (simp <;> omega)))))
  have B2 := hide (show Box w1 (w.heap.size + 1 + 1) #[.int .i64 c] by rw [← hw1]; (repeat' (first | (refine Box.mk' ?_; simp; done) | (refine Box.old ?_ ?_; rotate_left; (simp <;> omega)))))
  have B3 := hide (show Box w1 (w.heap.size + 1 + 1 + 1) #[.int .i64 l] by rw [← hw1]; (repeat' (first | (refine Box.mk' ?_; simp; done) | (refine Box.old ?_ ?_; rotate_left; (simp <;> omega)))))
  have B4 := hide (show Box w1 (w.heap.size + 1 + 1 + 1 + 1) #[.int .i64 0, .int .i64 0, .slice none 0 0] by rw [← hw1]; (repeat' (first | (refine Box.mk' ?_; simp; done) | (refine Box.old ?_ ?_; rotate_left; (simp <;> omega)))))
  have L1 := hide (show Below w.heap.size w w1 by rw [← hw1]; (repeat' (first | exact Below.refl _ _ | assumption | refine Below.setCell ?_ (by simp <;> omega) _ | refine Below.alloc ?_ (by simp <;> omega) _)))
  have z1 : w.heap.size + 5 ≤ w1.heap.size := by rw [← hw1]; simp
  clear hw1
  have l1 := (B0.out.c8).2.1
  have l2 := (B0.out.c8).2.2.1
  have l3 := (B3.out 0 _ rfl).1
  simp only [List.getElem_toArray, List.getElem_cons_zero] at l3
  have y1 : w.heap.size < w1.heap.size := by omega
  have y3 : w.heap.size + 1 + 1 + 1 < w1.heap.size := by omega
  have X0 := hide (show Box (w1.alloc (.cells #[.int .i64 0, .int .i64 0, .slice none 0 0] 47)).drew w1.heap.size #[.int .i64 0, .int .i64 0, .slice none 0 0] from Box.drew (Box.mk' rfl))
  go_cut [9] from 10 to 18 (fun s9 wx => ∃ p, s9 = .pointer (some ⟨p, 0, none⟩) ∧ w1.heap.size ≤ p ∧ Box wx p #[.int .i64 sw, .int .i64 sh, .slice none 0 0] ∧ Below w1.heap.size w1 wx)
  case first =>
    go_region_held3 (fun w' => w'.cell? ⟨w.heap.size, 1, none⟩ = some (.int .i64 W) ∧ w'.cell? ⟨w.heap.size, 2, none⟩ = some (.int .i64 H) ∧ w'.cell? ⟨w.heap.size + 1 + 1 + 1, 0, none⟩ = some (.int .i64 l))
      (first
        | exact ⟨(bB.cell y1).trans l1, (bB.cell y1).trans l2, (bB.cell y3).trans l3⟩
        | exact ⟨(bA.cell y1).trans l1, (bA.cell y1).trans l2, (bA.cell y3).trans l3⟩
        | exact ⟨((bB.alloc bB.size _).cell y1).trans l1, ((bB.alloc bB.size _).cell y1).trans l2, ((bB.alloc bB.size _).cell y3).trans l3⟩
        | exact ⟨((((bB.setCell (by simp <;> omega) _).setCell (by simp <;> omega) _).setCell (by simp <;> omega) _).cell y1).trans l1, ((((bB.setCell (by simp <;> omega) _).setCell (by simp <;> omega) _).setCell (by simp <;> omega) _).cell y1).trans l2, ((((bB.setCell (by simp <;> omega) _).setCell (by simp <;> omega) _).setCell (by simp <;> omega) _).cell y3).trans l3⟩
        | go_keep
        | (refine ⟨?_, ?_, ?_⟩ <;> (rw [World.cell?_setCell_other _ _ _ _ (by intro h; injection h; omega), World.cell?_setCell_other _ _ _ _ (by intro h; injection h; omega), World.cell?_setCell_other _ _ _ _ (by intro h; injection h; omega)]; assumption)))
      (first
        | (go_at_call_of 42 (Value.int .i64 W); refine (sW _).mono ?_; rintro e wA ⟨rfl, hbA⟩; have bA : Below w1.heap.size w1 wA := (by first | exact Below.step (Below.drew (Below.refl _ _)) hbA | exact Below.step (Below.drew (Below.alloc (Below.refl _ _) (Nat.le_refl _) _)) hbA); have zA := bA.size; try (have bx := (X0.out.below hbA (by simp)).c3f; obtain ⟨⟨q0, q1, q2⟩, f0, f1, f2⟩ := bx; have zz : w1.heap.size < wA.heap.size := (by have h9 := hbA.size; simp at h9; omega)))
        | (go_at_call_of 42 (Value.int .i64 H); refine (sH _).mono ?_; rintro e wB ⟨rfl, hbB⟩; have bB : Below w1.heap.size w1 wB := (by first | exact Below.step bA hbB | exact Below.step (Below.alloc bA bA.size _) hbB); have zB : wA.heap.size ≤ wB.heap.size := (by have := hbB.size; first | omega | (simp at this; omega)); first
          | (have r0 := (hbB.cell (p := ⟨w1.heap.size, 0, none⟩) zz).trans q0; have r1 := (hbB.cell (p := ⟨w1.heap.size, 1, none⟩) zz).trans q1; have r2 := (hbB.cell (p := ⟨w1.heap.size, 2, none⟩) zz).trans q2; have g0 := (hbB.frozen (p := ⟨w1.heap.size, 0, none⟩) zz).trans f0; have g1 := (hbB.frozen (p := ⟨w1.heap.size, 1, none⟩) zz).trans f1; have g2 := (hbB.frozen (p := ⟨w1.heap.size, 2, none⟩) zz).trans f2)
          | (have bx := (Box.below (Box.mk' (w := wA) (cs := #[.int .i64 0, .int .i64 0, .slice none 0 0]) (t := 47) rfl) hbB (by simp)).c3f; obtain ⟨⟨q0, q1, q2⟩, f0, f1, f2⟩ := bx)
          | skip))
    all_goals (go_wp2_with fail; go_meet)
    · exact ⟨_, rfl, bB.size, Box.mk' rfl, bB.alloc bB.size _⟩
    · exact ⟨_, rfl, bA.size, Box.put3 (Box.of3 q0 q1 q2 f0 f1 f2), ((bB.setCell bA.size _).setCell bA.size _).setCell bA.size _⟩
    · exact ⟨_, rfl, Nat.le_refl _, Box.put3 (Box.of3 r0 r1 r2 g0 g1 g2), ((bB.setCell (Nat.le_refl _) _).setCell (Nat.le_refl _) _).setCell (Nat.le_refl _) _⟩
  case rest =>
    obtain ⟨p, rfl, hp0, hbp, hbc⟩ := hcut
    have BP := hide hbp
    have C0 := hide (B0.out.below hbc y1)
    have C1 := hide (B1.out.below hbc (by omega))
    have C2 := hide (B2.out.below hbc (by omega))
    have C3 := hide (B3.out.below hbc (by omega))
    have C4 := hide (B4.out.below hbc (by omega))
    have L2 := hide (L1.out.trans (hbc.mono (by omega)))
    have zc : w1.heap.size ≤ wc.heap.size := hbc.size
    have hpl : p < wc.heap.size := hbp.lt (by simp)
    obtain ⟨⟨q0, q1, q2⟩, f0, f1, f2⟩ := hbp.c3f
    have mm : (m : Int) ≤ 16777216 := by
      have := mul_bd (x := sw) (y := sh) (X := 4096) (Y := 4096) (by omega) (by omega) (by omega) (by omega)
      omega
    have w1' : wrap64 (sw * sh) = (m : Int) := by rw [hm]; exact IntWalk.wrap64_in _ (by omega)
    clear hbp hbc l1 l2 l3 B0 B1 B2 B3 B4 L1 X0 sW sH
    obtain ⟨i0, hi0, hz0, hz1, hz2⟩ := info_parts info41
    go_wp2_with (at_make; refine wpList_make_full _ rfl _ _ 45 rfl wc.heap.size 41 i0 (.agg z4) 4 Tryz.underlying45 hi0 hz0 hz1 _ _ _ _ m rfl rfl rfl rfl ?c1 ?c2 ?c3 ?_)
    case c1 => rw [hz2]; omega
    case c2 => unfold maxLen; omega
    case c3 => exact Nat.le_refl _
    intro w2 hown hgrow
    have HZ := hide (show Bk w2 wc.heap.size (m * 4) (fun _ => 0) from fun j hj => ⟨by
      rw [hown.cellAt j hj]
      unfold madeCells
      simp only [Array.toList_map, Array.toList_range, List.getElem?_map, List.getElem?_range hj, Option.map_some]
      rcases (by omega : j % 4 = 0 ∨ j % 4 = 1 ∨ j % 4 = 2 ∨ j % 4 = 3) with h | h | h | h <;> (show some (z4[j % 4]!) = _; rw [h]; rfl), hown.frozenAt j⟩)
    have hb2 : Below wc.heap.size wc w2 := (Below.refl _ _).grown hgrow (Nat.le_refl _) (fun _ h => by cases h)
    have D0 := hide (C0.out.below hb2 (by omega))
    have D1 := hide (C1.out.below hb2 (by omega))
    have D2 := hide (C2.out.below hb2 (by omega))
    have D3 := hide (C3.out.below hb2 (by omega))
    have D4 := hide (C4.out.below hb2 (by omega))
    have DP := hide (BP.out.below hb2 hpl)
    have L3 := hide (L2.out.trans (hb2.mono (by omega)))
    have hgl : wc.heap.size < w2.heap.size := by
      rcases hown.2 with ⟨h, _⟩ | ⟨g, _, _, h, _, h5, _⟩
      · cases h
      · cases h; exact (Array.getElem?_eq_some_iff.1 h5).1
    clear hown hgrow hb2 q0 q1 q2 f0 f1 f2 C0 C1 C2 C3 C4 BP L2 hi0 hz0 hz1 hz2
    obtain ⟨⟨q0, q1, q2⟩, f0, f1, f2⟩ := DP.out.c3f
    go_upto_region 3 with fail
    obtain ⟨w3, hw3⟩ : ∃ w3, w3 = w2.setCell ⟨p, 2, none⟩ (.slice (some ⟨wc.heap.size, 0, none⟩) m m) := ⟨_, rfl⟩
    have hb3 : Below w1.heap.size w2 w3 := by rw [hw3]; exact (Below.refl _ _).setCell hp0 _
    have E0 := hide (D0.out.below hb3 y1)
    have E1 := hide (D1.out.below hb3 (by omega))
    have E2 := hide (D2.out.below hb3 (by omega))
    have E3 := hide (D3.out.below hb3 (by omega))
    have E4 := hide (D4.out.below hb3 (by omega))
    have EP := hide (show Box w3 p #[.int .i64 sw, .int .i64 sh, .slice (some ⟨wc.heap.size, 0, none⟩) m m] by
      rw [hw3]
      refine Box.of3 ?_ ?_ ?_ (by simp only [World.frozen?_setCell]; exact f0) (by simp only [World.frozen?_setCell]; exact f1) (by simp only [World.frozen?_setCell]; exact f2)
      · rw [World.cell?_setCell_other _ _ _ _ (by intro h; injection h; omega)]; exact q0
      · rw [World.cell?_setCell_other _ _ _ _ (by intro h; injection h; omega)]; exact q1
      · exact World.cell?_setCell_same' _ _ _ (by rw [q2]; rfl))
    have EZ := hide (show Bk w3 wc.heap.size (m * 4) (fun _ => 0) by rw [hw3]; exact HZ.out.other (by simp; omega))
    have L4 := hide (L3.out.trans (hb3.mono (by omega)))
    have hz3 : w3.heap.size = w2.heap.size := by rw [hw3]; simp [World.setCell]
    have gz : w1.heap.size ≤ wc.heap.size := zc
    rw [← hw3]
    clear hw3 hb3 D0 D1 D2 D3 D4 DP L3 HZ q0 q1 q2 f0 f1 f2
    obtain ⟨⟨q0, q1, q2⟩, f0, f1, f2⟩ := EP.out.c3f
    have HZ3 := hide hz3
    clear hz3
    go_wp2_with fail
    refine (tiles_each sw sh cols rows _ _ _ _ _ (fun y x wr => Bk wr wc.heap.size (m * 4) (surR sw sh (fun y x => T (bk y x)) y (surV sw sh (fun y x => T (bk y x)) cols y) x) ∧ But wc.heap.size w3 wr) w3 hw hh ht hc hr ⟨EZ.out, But.refl _ _⟩ (fun y x wr hy hx hj => ?_) (fun y wr hy hj => hj)).mono ?_
    · have hbw : Below w0.heap.size w0 wr := (HB.out.trans (L4.out.mono HB.out.size)).trans (hj.2.below (B := w0.heap.size) (by have := HB.out.size; omega) (by have := HB.out.size; have := HZ3.out; omega))
      have g3 := HZ3.out
      refine (surf1_any f W H Ly F n a c l (x : Int) (y : Int) sw sh dv pv T (bk y x) w0 wr w.heap.size (w.heap.size + 1) (w.heap.size + 1 + 1) (w.heap.size + 1 + 1 + 1) p wc.heap.size m m _ hbw (fun wq hq => HX.out y x wq hy hx hq) HD.out (by omega) (by omega) hw hh hm
        (E0.out.but hj.2 (by omega) (by omega)) (E1.out.but hj.2 (by omega) (by omega)) (E2.out.but hj.2 (by omega) (by omega)) (E3.out.but hj.2 (by omega) (by omega)) (EP.out.but hj.2 (by omega) (by omega)) hj.1 (by omega) (by have := hj.2.size; omega)).mono ?_
      rintro e w' ⟨rfl, h1, h2⟩
      exact ⟨rfl, h1, hj.2.trans h2⟩
    rintro e w4 ⟨rfl, hk, hbu⟩
    have HK := hide (show Bk w4 wc.heap.size (m * 4) (surV sw sh (fun y x => T (bk y x)) cols rows) from hk)
    have g3 := HZ3.out
    have F4 := hide (E4.out.but hbu (by omega) (by omega))
    have FP := hide (EP.out.but hbu (by omega) (by omega))
    have L5 := hide (L4.out.trans (hbu.below (B := w.heap.size) (by omega) (by omega)))
    clear hk hbu q0 q1 q2 f0 f1 f2 E0 E1 E2 E3 E4 EP EZ L4 g3
    obtain ⟨⟨q0, q1, q2⟩, f0, f1, f2⟩ := FP.out.c3f
    obtain ⟨⟨r0, r1, r2⟩, g0, g1, g2⟩ := F4.out.c3f
    go_wp2_with fail
    obtain ⟨w5, hw5⟩ : ∃ w5, w5 = ((w4.setCell ⟨w.heap.size + 1 + 1 + 1 + 1, 0, none⟩ (.int .i64 sw)).setCell ⟨w.heap.size + 1 + 1 + 1 + 1, 1, none⟩ (.int .i64 sh)).setCell ⟨w.heap.size + 1 + 1 + 1 + 1, 2, none⟩ (.slice (some ⟨wc.heap.size, 0, none⟩) m m) := ⟨_, rfl⟩
    obtain ⟨⟨t0, t1, t2⟩, _⟩ := (show Box w5 (w.heap.size + 1 + 1 + 1 + 1) #[.int .i64 sw, .int .i64 sh, .slice (some ⟨wc.heap.size, 0, none⟩) m m] by rw [hw5]; exact Box.put3 F4.out).c3f
    have X1 := hide (show Bk w5 wc.heap.size (m * 4) (surV sw sh (fun y x => T (bk y x)) cols rows) by rw [hw5]; exact ((HK.out.other (by simp; omega)).other (by simp; omega)).other (by simp; omega))
    have X2 := hide (show Below w.heap.size w w5 by rw [hw5]; exact ((L5.out.setCell (by simp <;> omega) _).setCell (by simp <;> omega) _).setCell (by simp <;> omega) _)
    rw [← hw5]
    clear hw5
    exact bodyPost_ret (v := .agg #[.int .i64 sw, .int .i64 sh, .slice (some ⟨wc.heap.size, 0, none⟩) m m]) (by simp [results, Tryz.results20, go_sem, t0, t1, t2]) rfl ⟨wc.heap.size, m, rfl, X1.out, by omega, X2.out⟩
end Go.Proofs.YtpkclnkibhgpkaaGreat
