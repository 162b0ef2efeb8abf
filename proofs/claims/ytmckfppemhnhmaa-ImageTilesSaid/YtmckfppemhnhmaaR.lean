import Derived.Test.YtmckfppemhnhmaaQ
import Derived.Deep.Cut
namespace Go.Proofs.Ytmckfppemhnhmaa
open Go.RowKit

theorem Box.c2 {w : World} {b : Nat} {x y : Value} (h : Box w b #[x, y]) : w.cell? ⟨b, 0, none⟩ = some x ∧ w.cell? ⟨b, 1, none⟩ = some y := ⟨(h 0 x rfl).1, (h 1 y rfl).1⟩
theorem Box.c6 {w : World} {b : Nat} {x y z x' y' z' : Value} (h : Box w b #[x, y, z, x', y', z']) :
    w.cell? ⟨b, 0, none⟩ = some x ∧ w.cell? ⟨b, 1, none⟩ = some y ∧ w.cell? ⟨b, 2, none⟩ = some z ∧ w.cell? ⟨b, 3, none⟩ = some x' ∧ w.cell? ⟨b, 4, none⟩ = some y' ∧ w.cell? ⟨b, 5, none⟩ = some z' :=
  ⟨(h 0 x rfl).1, (h 1 y rfl).1, (h 2 z rfl).1, (h 3 x' rfl).1, (h 4 y' rfl).1, (h 5 z' rfl).1⟩

theorem eqtex (c0 c1 c2 c3 : Int) (w : World) : (binOp .eql 38 (.agg #[.int .i64 c0, .int .i64 c1, .int .i64 c2, .int .i64 c3]) (.agg #[.int .i64 c0, .int .i64 c1, .int .i64 c2, .int .i64 c3])).run Try.prog w = .ok (.bool true) w := by
  have h : Ag #[.int .i64 c0, .int .i64 c1, .int .i64 c2, .int .i64 c3] 4 (fun i => match i with | 0 => c0 | 1 => c1 | 2 => c2 | _ => c3) := ⟨rfl, fun i hi => by match i, hi with | 0, _ => rfl | 1, _ => rfl | 2, _ => rfl | 3, _ => rfl⟩
  rw [eq38' h h, allEq_true (fun _ _ => rfl)]
structure Env (w : World) (p : Nat) (I A T M : Array Value) (w' : World) : Prop where
  i : Box w' w.heap.size I
  a : Box w' (w.heap.size + 1) A
  t : Box w' (w.heap.size + 1 + 1) T
  m : Box w' p M
  lt : p < w'.heap.size
  sz : w.heap.size + 3 ≤ w'.heap.size
  be : Below w.heap.size w w'
theorem Env.below {w w' w'' : World} {p : Nat} {I A T M : Array Value} (h : Env w p I A T M w') (hb : Below w'.heap.size w' w'') : Env w p I A T M w'' :=
  have h1 := h.sz
  ⟨h.i.below hb (by omega), h.a.below hb (by omega), h.t.below hb (by omega), h.m.below hb h.lt, Nat.lt_of_lt_of_le h.lt hb.size, Nat.le_trans h.sz hb.size, h.be.trans (hb.mono (by omega))⟩
theorem Env.alloc {w w' : World} {p : Nat} {I A T M : Array Value} (h : Env w p I A T M w') (o : Obj) : Env w p I A T M (w'.alloc o) := h.below ((Below.refl _ _).alloc (Nat.le_refl _) _)

set_option maxRecDepth 100000 in
set_option maxHeartbeats 800000 in
theorem tells_no {W H W' H' : Int} {n n' : Nat} {ao ao' : Option Addr} {cap cap' : Nat} {x y : Int} {t : Nat → Int} {w : World} (hno : (lightV W H n && lightV W' H' n') = false) :
    Calls Try.prog 5 #[.agg #[.int .i64 W, .int .i64 H, .slice ao n cap, .int .i64 W', .int .i64 H', .slice ao' n' cap'], .agg #[.int .i64 x, .int .i64 y], tx t] w fun e w' => e = .returned (.bool true) ∧ Below w.heap.size w w' := by
  generalize h1 : lightV W H n = b1 at hno
  generalize h2 : lightV W' H' n' = b2 at hno
  have H1 := hide h1
  have H2 := hide h2
  clear h1 h2
  unfold tx
  cases b1 <;> cases b2
  case true.true => simp at hno
  all_goals
    clear hno
    go_enter Try.func5, Try.ntmps5
    go_wp2_with fail
    refine (awake_any _).mono ?_
    rintro e w1 ⟨rfl, hb⟩
    have BI := hide (Box.below (b := w.heap.size) (cs := #[.int .i64 W, .int .i64 H, .slice ao n cap, .int .i64 W', .int .i64 H', .slice ao' n' cap']) (by (repeat' (first | (refine Box.mk' ?_; simp; done) | (refine Box.old ?_ ?_; rotate_left; (simp <;> omega))))) hb (by simp; omega))
    have hb1 := hide (Below.trans (by (repeat' (first | exact Below.refl _ _ | assumption | refine Below.setCell ?_ (by simp <;> omega) _ | refine Below.alloc ?_ (by simp <;> omega) _))) (hb.mono (by simp; omega)) : Below w.heap.size w w1)
    have hs1 : w.heap.size + 3 ≤ w1.heap.size := by have := hb.size; simp at this; omega
    clear hb
    obtain ⟨k0, k1, k2, k3, k4, k5⟩ := BI.out.c6
    go_wp2_with fail
    refine (light_any W H ao n cap _).mono ?_
    rintro e w2 ⟨rfl, hb⟩
    rw [H1.out]
    have BI2 := hide (BI.out.below hb (by omega))
    have hb2 := hide (hb1.out.trans (hb.mono (by omega)))
    have hs2 : w.heap.size + 3 ≤ w2.heap.size := by have := hb.size; omega
    clear hb BI hb1 k0 k1 k2 k3 k4 k5
    obtain ⟨k0, k1, k2, k3, k4, k5⟩ := BI2.out.c6
    go_wp2_with fail
    refine (light_any W' H' ao' n' cap' _).mono ?_
    rintro e w3 ⟨rfl, hb⟩
    rw [H2.out]
    have hb3 := hide (hb2.out.trans (hb.mono (by omega)))
    clear hb BI2 hb2 k0 k1 k2 k3 k4 k5
    go_wp2_with fail
    go_ret
    exact ⟨rfl, hb3.out⟩

set_option maxRecDepth 100000 in
set_option maxHeartbeats 1600000 in
theorem tells_yes {W H W' H' : Int} {n n' : Nat} {f f' : Nat → Int} {ao ao' : Option Addr} {cap cap' : Nat} {x y : Int} {t : Nat → Int} {w : World} (hv : Im w (.agg #[.int .i64 W, .int .i64 H, .slice ao n cap]) W H n f) (hv' : Im w (.agg #[.int .i64 W', .int .i64 H', .slice ao' n' cap']) W' H' n' f')
    (hx : -9223372036854775808 ≤ x ∧ x ≤ 9223372036854775807) (hy : -9223372036854775808 ≤ y ∧ y ≤ 9223372036854775807) (h1 : lightV W H n = true) (h2 : lightV W' H' n' = true) :
    Calls Try.prog 5 #[.agg #[.int .i64 W, .int .i64 H, .slice ao n cap, .int .i64 W', .int .i64 H', .slice ao' n' cap'], .agg #[.int .i64 x, .int .i64 y], tx t] w fun e w' => e = .returned (.bool true) ∧ Below w.heap.size w w' := by
  have H1 := hide h1
  have H2 := hide h2
  have HV := hide hv
  have HV' := hide hv'
  clear h1 h2 hv hv'
  unfold tx
  go_enter Try.func5, Try.ntmps5
  go_wp2_with fail
  refine (awake_any _).mono ?_
  rintro e w1 ⟨rfl, hb⟩
  have BI := hide (Box.below (b := w.heap.size) (cs := #[.int .i64 W, .int .i64 H, .slice ao n cap, .int .i64 W', .int .i64 H', .slice ao' n' cap']) (by (repeat' (first | (refine Box.mk' ?_; simp; done) | (refine Box.old ?_ ?_; rotate_left; (simp <;> omega))))) hb (by simp; omega))
  have BA := hide (Box.below (b := w.heap.size + 1) (cs := #[.int .i64 x, .int .i64 y]) (by (repeat' (first | (refine Box.mk' ?_; simp; done) | (refine Box.old ?_ ?_; rotate_left; (simp <;> omega))))) hb (by simp <;> omega))
  have BT := hide (Box.below (b := w.heap.size + 1 + 1) (cs := #[.int .i64 (t 0), .int .i64 (t 1), .int .i64 (t 2), .int .i64 (t 3)]) (by (repeat' (first | (refine Box.mk' ?_; simp; done) | (refine Box.old ?_ ?_; rotate_left; (simp <;> omega))))) hb (by simp))
  have hb1 := hide (Below.trans (by (repeat' (first | exact Below.refl _ _ | assumption | refine Below.setCell ?_ (by simp <;> omega) _ | refine Below.alloc ?_ (by simp <;> omega) _))) (hb.mono (by simp; omega)) : Below w.heap.size w w1)
  have hs1 : w.heap.size + 3 ≤ w1.heap.size := by have := hb.size; simp at this; omega
  clear hb
  obtain ⟨k0, k1, k2, k3, k4, k5⟩ := BI.out.c6
  go_wp2_with fail
  refine (light_any W H ao n cap _).mono ?_
  rintro e w2 ⟨rfl, hb⟩
  rw [H1.out]
  have BI2 := hide (BI.out.below hb (by omega))
  have BA2 := hide (BA.out.below hb (by omega))
  have BT2 := hide (BT.out.below hb (by omega))
  have hb2 := hide (hb1.out.trans (hb.mono (by omega)))
  have hs2 : w.heap.size + 3 ≤ w2.heap.size := by have := hb.size; omega
  clear hb BI BA BT hb1 k0 k1 k2 k3 k4 k5 hs1
  obtain ⟨k0, k1, k2, k3, k4, k5⟩ := BI2.out.c6
  go_wp2_with fail
  refine (light_any W' H' ao' n' cap' _).mono ?_
  rintro e w3 ⟨rfl, hb⟩
  rw [H2.out]
  have BI3 := hide (BI2.out.below hb (by omega))
  have BA3 := hide (BA2.out.below hb (by omega))
  have BT3 := hide (BT2.out.below hb (by omega))
  have hb3 := hide (hb2.out.trans (hb.mono (by omega)))
  have hs3 : w.heap.size + 3 ≤ w3.heap.size := by have := hb.size; omega
  clear hb BI2 BA2 BT2 hb2 k0 k1 k2 k3 k4 k5 hs2
  obtain ⟨k0, k1, k2, k3, k4, k5⟩ := BI3.out.c6
  go_upto_region 7 with (fail)
  generalize hw4 : w3.alloc (.cells #[.int .i64 W, .int .i64 H, .slice ao n cap] 24) = w4
  have hal : Below w3.heap.size w3 w4 := by rw [← hw4]; exact (Below.refl _ _).alloc (Nat.le_refl _) _
  have BM := hide (show Box w4 w3.heap.size #[.int .i64 W, .int .i64 H, .slice ao n cap] by rw [← hw4]; (repeat' (first | (refine Box.mk' ?_; simp; done) | (refine Box.old ?_ ?_; rotate_left; (simp <;> omega)))))
  have hs4 : w4.heap.size = w3.heap.size + 1 := by rw [← hw4]; simp
  have BI4 := hide (BI3.out.below hal (by omega))
  have BA4 := hide (BA3.out.below hal (by omega))
  have BT4 := hide (BT3.out.below hal (by omega))
  have hb4 := hide (hb3.out.trans (hal.mono (by omega)))
  clear hw4 hal BI3 BA3 BT3 hb3 k0 k1 k2 k3 k4 k5
  obtain ⟨p, hp⟩ : ∃ p, p = w3.heap.size := ⟨_, rfl⟩
  rw [← hp] at BM hs3 hs4 ⊢
  clear hp
  have EV := hide (⟨BI4.out, BA4.out, BT4.out, BM.out, by omega, by omega, hb4.out⟩ : Env w p _ _ _ _ w4)
  clear hs4 BI4 BA4 BT4 BM hb4 hs3
  obtain ⟨⟨m0, m1, m2⟩, _⟩ := EV.out.m.c3
  obtain ⟨a0, a1⟩ := EV.out.a.c2
  obtain ⟨c0, c1, c2, c3, hA1⟩ := atV_bd (W := W) (H := H) (x := x) (y := y) (n := n) (f := f)
  obtain ⟨ec, hec⟩ : ∃ ec, ec = (atV W H x y n f).2 := ⟨_, rfl⟩
  have HA1 := hide hA1
  have HEC := hide hec
  clear hA1 hec
  go_wp2_with fail
  refine (at_any x y (HV.out.below EV.out.be (Nat.le_refl _))).mono ?_
  rintro e w5 ⟨rfl, hb⟩
  rw [HA1.out, ← HEC.out]
  have EV5 := hide (EV.out.below hb)
  clear hb EV m0 m1 m2 a0 a1
  go_upto_region 8 with (fail)
  generalize hw6 : w5.alloc (.cells #[.int .i64 c0, .int .i64 c1, .int .i64 c2, .int .i64 c3] 38) = w6
  have EV6 := hide (show Env w p _ _ _ _ w6 by rw [← hw6]; exact EV5.out.alloc _)
  have X6 := hide (show Box w6 w5.heap.size #[.int .i64 c0, .int .i64 c1, .int .i64 c2, .int .i64 c3] by rw [← hw6]; (repeat' (first | (refine Box.mk' ?_; simp; done) | (refine Box.old ?_ ?_; rotate_left; (simp <;> omega)))))
  have s6 : w5.heap.size < w6.heap.size := by rw [← hw6]; simp
  clear hw6 EV5
  generalize w5.heap.size = px at *
  obtain ⟨⟨m0, m1, m2⟩, _⟩ := EV6.out.m.c3
  obtain ⟨a0, a1⟩ := EV6.out.a.c2
  go_wp2_with fail
  refine (rat_any x y (HV.out.below EV6.out.be (Nat.le_refl _)) hx hy).mono ?_
  rintro e w7 ⟨rfl, hb⟩
  rw [HA1.out, ← HEC.out]
  have EV7 := hide (EV6.out.below hb)
  have X7 := hide (X6.out.below hb s6)
  have s7 : px < w7.heap.size := Nat.lt_of_lt_of_le s6 hb.size
  clear hb EV6 X6 s6 m0 m1 m2 a0 a1
  go_upto_region 9 with (fail)
  generalize hw8 : w7.alloc (.cells #[.int .i64 c0, .int .i64 c1, .int .i64 c2, .int .i64 c3] 38) = w8
  have EV8 := hide (show Env w p _ _ _ _ w8 by rw [← hw8]; exact EV7.out.alloc _)
  have X8 := hide (show Box w8 px _ by rw [← hw8]; exact X7.out.old s7)
  have Y8 := hide (show Box w8 w7.heap.size #[.int .i64 c0, .int .i64 c1, .int .i64 c2, .int .i64 c3] by rw [← hw8]; (repeat' (first | (refine Box.mk' ?_; simp; done) | (refine Box.old ?_ ?_; rotate_left; (simp <;> omega)))))
  have s8 : w7.heap.size < w8.heap.size := by rw [← hw8]; simp
  clear hw8 EV7 X7
  generalize w7.heap.size = py at *
  obtain ⟨⟨m0, m1, m2⟩, _⟩ := EV8.out.m.c3
  obtain ⟨a0, a1⟩ := EV8.out.a.c2
  obtain ⟨⟨t0, t1, t2, t3⟩, _⟩ := EV8.out.t.c4
  obtain ⟨ep, W2, H2, n2, g2, hP⟩ : ∃ ep W2 H2 n2 g2, ∀ w0 e w', putP W H x y n f t w0 e w' → ∃ v, e = .returned (.tuple #[v, .int .i64 ep]) ∧ Im w' v W2 H2 n2 g2 ∧ Below w0.heap.size w0 w' := ⟨_, _, _, _, _, fun _ _ _ h => h⟩
  have HP := hide hP
  clear hP
  go_wp2_with fail
  refine (put_any x y (t := t) (HV.out.below EV8.out.be (Nat.le_refl _))).mono ?_
  intro e w9 hp
  obtain ⟨v, rfl, him, hb⟩ := HP.out _ _ _ hp
  clear hp
  have IP := hide him
  obtain ⟨ao3, cap3, rfl, _⟩ := him
  have EV9 := hide (EV8.out.below hb)
  have X9 := hide (X8.out.below hb (by have := hb.size; omega))
  have Y9 := hide (Y8.out.below hb s8)
  have s9 : px < w9.heap.size ∧ py < w9.heap.size := by have := hb.size; omega
  clear hb EV8 X8 Y8 m0 m1 m2 a0 a1 t0 t1 t2 t3
  go_upto_region 10 with (fail)
  generalize hw10 : w9.alloc (.cells #[.int .i64 W2, .int .i64 H2, .slice ao3 n2 cap3] 24) = w10
  have hal : Below w9.heap.size w9 w10 := by rw [← hw10]; exact (Below.refl _ _).alloc (Nat.le_refl _) _
  have EV10 := hide (EV9.out.below hal)
  have X10 := hide (X9.out.below hal s9.1)
  have Y10 := hide (Y9.out.below hal s9.2)
  have P10 := hide (show Box w10 w9.heap.size #[.int .i64 W2, .int .i64 H2, .slice ao3 n2 cap3] by rw [← hw10]; (repeat' (first | (refine Box.mk' ?_; simp; done) | (refine Box.old ?_ ?_; rotate_left; (simp <;> omega)))))
  have IP10 := hide (IP.out.below hal (Nat.le_refl _))
  have z10 : w10.heap.size = w9.heap.size + 1 := by rw [← hw10]; simp
  have s10 : px < w10.heap.size ∧ py < w10.heap.size ∧ w9.heap.size < w10.heap.size := by omega
  clear z10 hw10 hal EV9 X9 Y9 IP s9
  generalize w9.heap.size = pp at *
  obtain ⟨⟨m0, m1, m2⟩, _⟩ := EV10.out.m.c3
  obtain ⟨a0, a1⟩ := EV10.out.a.c2
  obtain ⟨⟨t0, t1, t2, t3⟩, _⟩ := EV10.out.t.c4
  go_wp2_with fail
  refine (rput_any x y (t := t) (HV.out.below EV10.out.be (Nat.le_refl _)) hx hy).mono ?_
  intro e w11 hp
  obtain ⟨v, rfl, him, hb⟩ := HP.out _ _ _ hp
  clear hp
  have IQ := hide him
  obtain ⟨ao4, cap4, rfl, _⟩ := him
  have EV11 := hide (EV10.out.below hb)
  have X11 := hide (X10.out.below hb s10.1)
  have Y11 := hide (Y10.out.below hb s10.2.1)
  have P11 := hide (P10.out.below hb s10.2.2)
  have IP11 := hide (IP10.out.below hb (Nat.le_refl _))
  have s11 : px < w11.heap.size ∧ py < w11.heap.size ∧ pp < w11.heap.size := by have := hb.size; omega
  clear hb EV10 X10 Y10 P10 IP10 s10 m0 m1 m2 a0 a1 t0 t1 t2 t3
  go_upto_region 11 with (fail)
  generalize hw12 : w11.alloc (.cells #[.int .i64 W2, .int .i64 H2, .slice ao4 n2 cap4] 24) = w12
  have hal : Below w11.heap.size w11 w12 := by rw [← hw12]; exact (Below.refl _ _).alloc (Nat.le_refl _) _
  have EV12 := hide (EV11.out.below hal)
  have X12 := hide (X11.out.below hal s11.1)
  have Y12 := hide (Y11.out.below hal s11.2.1)
  have P12 := hide (P11.out.below hal s11.2.2)
  have Q12 := hide (show Box w12 w11.heap.size #[.int .i64 W2, .int .i64 H2, .slice ao4 n2 cap4] by rw [← hw12]; (repeat' (first | (refine Box.mk' ?_; simp; done) | (refine Box.old ?_ ?_; rotate_left; (simp <;> omega)))))
  have IP12 := hide (IP11.out.below hal (Nat.le_refl _))
  have IQ12 := hide (IQ.out.below hal (Nat.le_refl _))
  have s12 : px < w12.heap.size ∧ py < w12.heap.size := by have h1 := hal.size; omega
  clear hw12 hal EV11 X11 Y11 P11 IP11 IQ s11
  generalize w11.heap.size = pq at *
  obtain ⟨⟨p0, p1, p2⟩, _⟩ := P12.out.c3
  obtain ⟨⟨q0, q1, q2⟩, _⟩ := Q12.out.c3
  go_wp2_with fail
  refine (lsame_any IP12.out IQ12.out).mono ?_
  rintro e w13 ⟨rfl, hb⟩
  rw [sameV_refl]
  have EV13 := hide (EV12.out.below hb)
  have X13 := hide (X12.out.below hb s12.1)
  have Y13 := hide (Y12.out.below hb s12.2)
  have s13 : px < w13.heap.size ∧ py < w13.heap.size := by have := hb.size; omega
  clear hb EV12 X12 Y12 P12 Q12 IP12 IQ12 s12 p0 p1 p2 q0 q1 q2
  obtain ⟨⟨m0, m1, m2⟩, _⟩ := EV13.out.m.c3
  obtain ⟨i0, i1, i2, i3, i4, i5⟩ := EV13.out.i.c6
  go_wp2_with fail
  refine (rsame_any (HV.out.below EV13.out.be (Nat.le_refl _)) (HV'.out.below EV13.out.be (Nat.le_refl _))).mono ?_
  rintro e w14 ⟨rfl, hb⟩
  have EV14 := hide (EV13.out.below hb)
  have X14 := hide (X13.out.below hb s13.1)
  have Y14 := hide (Y13.out.below hb s13.2)
  have s14 : px < w14.heap.size ∧ py < w14.heap.size := by have := hb.size; omega
  clear hb EV13 X13 Y13 s13 m0 m1 m2 i0 i1 i2 i3 i4 i5
  go_upto_region 13 with (fail)
  have EN : Hid (∀ u : Wb w14, Env w p _ _ _ _ u.1) := fun u => EV14.out.below u.2
  have XN : Hid (∀ u : Wb w14, Box u.1 px _) := fun u => X14.out.below u.2 s14.1
  have YN : Hid (∀ u : Wb w14, Box u.1 py _) := fun u => Y14.out.below u.2 s14.2
  have m0 : ∀ u : Wb w14, u.1.cell? ⟨p, 0, none⟩ = _ := fun u => (EN.out u).m.c3.1.1
  have m1 : ∀ u : Wb w14, u.1.cell? ⟨p, 1, none⟩ = _ := fun u => (EN.out u).m.c3.1.2.1
  have m2 : ∀ u : Wb w14, u.1.cell? ⟨p, 2, none⟩ = _ := fun u => (EN.out u).m.c3.1.2.2
  have i3 : ∀ u : Wb w14, u.1.cell? ⟨w.heap.size, 3, none⟩ = _ := fun u => (EN.out u).i.c6.2.2.2.1
  have i4 : ∀ u : Wb w14, u.1.cell? ⟨w.heap.size, 4, none⟩ = _ := fun u => (EN.out u).i.c6.2.2.2.2.1
  have i5 : ∀ u : Wb w14, u.1.cell? ⟨w.heap.size, 5, none⟩ = _ := fun u => (EN.out u).i.c6.2.2.2.2.2
  have x0 : ∀ u : Wb w14, u.1.cell? ⟨px, 0, none⟩ = _ := fun u => (XN.out u).c4.1.1
  have x1 : ∀ u : Wb w14, u.1.cell? ⟨px, 1, none⟩ = _ := fun u => (XN.out u).c4.1.2.1
  have x2 : ∀ u : Wb w14, u.1.cell? ⟨px, 2, none⟩ = _ := fun u => (XN.out u).c4.1.2.2.1
  have x3 : ∀ u : Wb w14, u.1.cell? ⟨px, 3, none⟩ = _ := fun u => (XN.out u).c4.1.2.2.2
  have y0 : ∀ u : Wb w14, u.1.cell? ⟨py, 0, none⟩ = _ := fun u => (YN.out u).c4.1.1
  have y1 : ∀ u : Wb w14, u.1.cell? ⟨py, 1, none⟩ = _ := fun u => (YN.out u).c4.1.2.1
  have y2 : ∀ u : Wb w14, u.1.cell? ⟨py, 2, none⟩ = _ := fun u => (YN.out u).c4.1.2.2.1
  have y3 : ∀ u : Wb w14, u.1.cell? ⟨py, 3, none⟩ = _ := fun u => (YN.out u).c4.1.2.2.2
  have EE := eqtex c0 c1 c2 c3
  have eg := eg38
  have HVN : Hid (∀ u : Wb w14, Im u.1 _ W H n f) := fun u => HV.out.below (EN.out u).be (Nat.le_refl _)
  have HVN' : Hid (∀ u : Wb w14, Im u.1 _ W' H' n' f') := fun u => HV'.out.below (EN.out u).be (Nat.le_refl _)
  have HBE := hide EV14.out.be
  have HS14 := hide EV14.out.sz
  clear EV14 X14 Y14
  refine wp_region_below w14 (Below.refl _ _) (by kernel_rfl) (by kernel_rfl) ?_
  repeat (go_big_quiet_step (first
    | (go_at_call 21; exact Calls.wb (right_any W H ao n cap _))
    | (go_at_call 28; exact Calls.wb (rright_any W H ao n cap _))
    | (go_at_call 29; exact Calls.wb (isame_any (HVN.out _) (HVN'.out _)))))
  refine wpQuiet_nil ?_
  rintro _ ⟨⟨w15, hb15⟩, rfl⟩
  go_wp2
  go_ret
  exact ⟨rfl, HBE.out.trans (hb15.mono (by have := HS14.out; omega))⟩
end Go.Proofs.Ytmckfppemhnhmaa
