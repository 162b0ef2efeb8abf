import Derived.Test.YtmckfppemhnhmaaU
import Derived.Test.YtmckfppemhnhmaaQ
import Derived.Deep.Cut
namespace Go.Proofs.Ytmckfppemhnhmaa
open Go.RowKit

attribute [local irreducible] agOf

structure EnvL (w : World) (I A : Array Value) (t : Nat → Int) (w' : World) : Prop where
  i : Box w' w.heap.size I
  a : Box w' (w.heap.size + 1) A
  t : Bk w' (w.heap.size + 1 + 1) 64 t
  sz : w.heap.size + 3 ≤ w'.heap.size
  be : Below w.heap.size w w'
theorem Box.c2' {w : World} {b : Nat} {x y : Value} (h : Box w b #[x, y]) : w.cell? ⟨b, 0, none⟩ = some x ∧ w.cell? ⟨b, 1, none⟩ = some y := ⟨(h 0 x rfl).1, (h 1 y rfl).1⟩
theorem EnvL.below {w w' w'' : World} {I A : Array Value} {t : Nat → Int} (h : EnvL w I A t w') (hb : Below w'.heap.size w' w'') : EnvL w I A t w'' :=
  have h1 := h.sz
  ⟨h.i.below hb (by omega), h.a.below hb (by omega), h.t.below hb (by omega), Nat.le_trans h.sz hb.size, h.be.trans (hb.mono (by omega))⟩
theorem EnvL.ofB {w w' w'' : World} {I A : Array Value} {t : Nat → Int} (h : EnvL w I A t w') {B : Nat} (hb : Below B w' w'') (hB : w.heap.size + 3 ≤ B) : EnvL w I A t w'' :=
  ⟨h.i.below hb (by omega), h.a.below hb (by omega), h.t.below hb (by omega), Nat.le_trans h.sz hb.size, h.be.trans (hb.mono (by omega))⟩
theorem EnvL.start {w w' : World} {I A : Array Value} {t : Nat → Int} {T1 T2 T3 : TypeId} (hb : Below (((w.alloc (.cells I T1)).alloc (.cells A T2)).alloc (.cells (agOf 0 64 t) T3)).heap.size (((w.alloc (.cells I T1)).alloc (.cells A T2)).alloc (.cells (agOf 0 64 t) T3)) w') : EnvL w I A t w' :=
  ⟨Box.below (by (repeat' (first | (refine Box.mk' ?_; simp; done) | (refine Box.old ?_ ?_; rotate_left; (simp <;> omega))))) hb (by simp; omega), Box.below (by (repeat' (first | (refine Box.mk' ?_; simp; done) | (refine Box.old ?_ ?_; rotate_left; (simp <;> omega))))) hb (by simp <;> omega), Bk.of_box (Box.below (b := w.heap.size + 1 + 1) (cs := agOf 0 64 t) (by (repeat' (first | (refine Box.mk' ?_; simp; done) | (refine Box.old ?_ ?_; rotate_left; (simp <;> omega))))) hb (by simp)) (agOf_ag0 64 t),
    by have := hb.size; simp at this; omega, Below.trans (by (repeat' (first | exact Below.refl _ _ | assumption | refine Below.setCell ?_ (by simp <;> omega) _ | refine Below.alloc ?_ (by simp <;> omega) _))) (hb.mono (by simp; omega))⟩

set_option maxRecDepth 100000 in
set_option maxHeartbeats 800000 in
theorem lays_no {W H : Int} {n : Nat} {ao : Option Addr} {cap : Nat} {X Y : Int} {t : Nat → Int} {w : World} (hno : (lightV W H n && rightV W H n) = false) :
    Calls Try.prog 7 #[.agg #[.int .i64 W, .int .i64 H, .slice ao n cap], .agg #[.int .i64 X, .int .i64 Y], .agg (agOf 0 64 t)] w fun e w' => e = .returned (.bool true) ∧ Below w.heap.size w w' := by
  generalize h1 : lightV W H n = b1 at hno
  generalize h2 : rightV W H n = b2 at hno
  have H1 := hide h1
  have H2 := hide h2
  clear h1 h2
  cases b1
  · clear hno
    go_enter Try.func7, Try.ntmps7
    go_wp2_with fail
    refine (awake_any _).mono ?_
    rintro e w1 ⟨rfl, hb⟩
    have EV := hide (EnvL.start hb)
    clear hb
    obtain ⟨k0, k1, k2⟩ := EV.out.i.c3.1
    go_wp2_with fail
    refine (light_any W H ao n cap _).mono ?_
    rintro e w2 ⟨rfl, hb⟩
    rw [H1.out]
    have EV2 := hide (EV.out.below hb)
    clear hb EV k0 k1 k2
    go_wp2_with fail
    go_ret
    exact ⟨rfl, EV2.out.be⟩
  · cases b2
    · clear hno
      go_enter Try.func7, Try.ntmps7
      go_wp2_with fail
      refine (awake_any _).mono ?_
      rintro e w1 ⟨rfl, hb⟩
      have EV := hide (EnvL.start hb)
      clear hb
      obtain ⟨k0, k1, k2⟩ := EV.out.i.c3.1
      go_wp2_with fail
      refine (light_any W H ao n cap _).mono ?_
      rintro e w2 ⟨rfl, hb⟩
      rw [H1.out]
      have EV2 := hide (EV.out.below hb)
      clear hb EV k0 k1 k2
      obtain ⟨k0, k1, k2⟩ := EV2.out.i.c3.1
      go_wp2_with fail
      refine (right_any W H ao n cap _).mono ?_
      rintro e w3 ⟨rfl, hb⟩
      rw [H2.out]
      have EV3 := hide (EV2.out.below hb)
      clear hb EV2 k0 k1 k2
      go_wp2_with fail
      go_ret
      exact ⟨rfl, EV3.out.be⟩
    · simp at hno

set_option maxRecDepth 100000 in
set_option maxHeartbeats 800000 in
theorem lays_nohas {W H : Int} {n : Nat} {f : Nat → Int} {v : Value} {X Y : Int} {t : Nat → Int} {w : World} (hv : Im w v W H n f) (h1 : lightV W H n = true) (h2 : rightV W H n = true) (h3 : hasV W H X Y n = false) :
    Calls Try.prog 7 #[v, .agg #[.int .i64 X, .int .i64 Y], .agg (agOf 0 64 t)] w fun e w' => e = .returned (.bool true) ∧ Below w.heap.size w w' := by
  have HV := hide hv
  obtain ⟨ao, cap, rfl, _, _, _⟩ := hv
  have H1 := hide h1
  have H2 := hide h2
  have H3 := hide h3
  clear h1 h2 h3
  have z0 := (agOf_ag0 64 t).1
  go_enter Try.func7, Try.ntmps7
  go_wp2_with fail
  refine (awake_any _).mono ?_
  rintro e w1 ⟨rfl, hb⟩
  have EV := hide (EnvL.start hb)
  clear hb
  obtain ⟨k0, k1, k2⟩ := EV.out.i.c3.1
  go_wp2_with fail
  refine (light_any W H ao n cap _).mono ?_
  rintro e w2 ⟨rfl, hb⟩
  rw [H1.out]
  have EV2 := hide (EV.out.below hb)
  clear hb EV k0 k1 k2
  obtain ⟨k0, k1, k2⟩ := EV2.out.i.c3.1
  go_wp2_with fail
  refine (right_any W H ao n cap _).mono ?_
  rintro e w3 ⟨rfl, hb⟩
  rw [H2.out]
  have EV3 := hide (EV2.out.below hb)
  clear hb EV2 k0 k1 k2
  obtain ⟨k0, k1, k2⟩ := EV3.out.i.c3.1
  obtain ⟨a0, a1⟩ := EV3.out.a.c2'
  go_wp2_with (with_reducible refine wpList_run rfl (exec_load T48 (.tmp 5) rfl ⟨w.heap.size + 1 + 1, 0, none⟩ rfl (agOf 0 64 t) z0 (EV3.out.t.load (by omega))) ?_)
  refine (ilay_any X Y (t := t) (HV.out.below EV3.out.be (Nat.le_refl _))).mono ?_
  intro e w4 hp
  unfold layP at hp
  rw [H3.out] at hp
  obtain ⟨v, rfl, him, hb⟩ := hp
  obtain ⟨ao3, cap3, rfl, _⟩ := him
  have EV4 := hide (EV3.out.below hb)
  clear hb EV3 k0 k1 k2 a0 a1
  go_wp2_with fail
  go_ret
  exact ⟨rfl, EV4.out.be.alloc (by have := EV4.out.sz; omega) _⟩

/-- a round's end: what is compared -/
theorem neqtex {c0 c1 c2 c3 d0 d1 d2 d3 : Int} (h0 : c0 = d0) (h1 : c1 = d1) (h2 : c2 = d2) (h3 : c3 = d3) (w : World) : (binOp .neq 38 (.agg #[.int .i64 c0, .int .i64 c1, .int .i64 c2, .int .i64 c3]) (.agg #[.int .i64 d0, .int .i64 d1, .int .i64 d2, .int .i64 d3])).run Try.prog w = .ok (.bool false) w := by
  subst h0 h1 h2 h3
  have h : Ag #[.int .i64 c0, .int .i64 c1, .int .i64 c2, .int .i64 c3] 4 (fun i => match i with | 0 => c0 | 1 => c1 | 2 => c2 | _ => c3) := ⟨rfl, fun i hi => by match i, hi with | 0, _ => rfl | 1, _ => rfl | 2, _ => rfl | 3, _ => rfl⟩
  rw [run_neq_struct, eq38 9998 h h, allEq_true (fun _ _ => rfl)]
  rfl

end Go.Proofs.Ytmckfppemhnhmaa
