import Derived.Test.YtmckfppemhnhmaaZB
import Derived.Test.YtmckfppemhnhmaaR
namespace Go.Proofs.Ytmckfppemhnhmaa
open Go.RowKit
attribute [local irreducible] agOf

structure Env2 (w : World) (I A : Array Value) (w' : World) : Prop where
  i : Box w' w.heap.size I
  a : Box w' (w.heap.size + 1) A
  sz : w.heap.size + 2 ≤ w'.heap.size
  be : Below w.heap.size w w'
theorem Env2.below {w w' w'' : World} {I A : Array Value} (h : Env2 w I A w') (hb : Below w'.heap.size w' w'') : Env2 w I A w'' :=
  have h1 := h.sz
  ⟨h.i.below hb (by omega), h.a.below hb (by omega), Nat.le_trans h.sz hb.size, h.be.trans (hb.mono (by omega))⟩
theorem Env2.ofB {w w' w'' : World} {I A : Array Value} (h : Env2 w I A w') {B : Nat} (hb : Below B w' w'') (hB : w.heap.size + 2 ≤ B) : Env2 w I A w'' :=
  ⟨h.i.below hb (by omega), h.a.below hb (by omega), Nat.le_trans h.sz hb.size, h.be.trans (hb.mono (by omega))⟩
theorem Env2.start {w w' : World} {I A : Array Value} {T1 T2 : TypeId} (hb : Below ((w.alloc (.cells I T1)).alloc (.cells A T2)).heap.size ((w.alloc (.cells I T1)).alloc (.cells A T2)) w') : Env2 w I A w' :=
  ⟨Box.below (Box.old (Box.mk' rfl) (by simp)) hb (by simp; omega), Box.below (Box.mk' (by simp)) hb (by simp), by have := hb.size; simp at this; omega,
    Below.trans (((Below.refl _ _).alloc (Nat.le_refl _) _).alloc (by simp) _) (hb.mono (by simp; omega))⟩

set_option maxRecDepth 100000 in
set_option maxHeartbeats 800000 in
theorem tilel_no {W H x y : Int} {n m : Nat} {ao al : Option Addr} {cap cl : Nat} {w : World} (hno : (lightV W H n && decide (m ≤ 80)) = false) (hm63 : m ≤ 9223372036854775807) :
    Calls Try.prog 8 #[.agg #[.int .i64 W, .int .i64 H, .slice ao n cap], .agg #[.int .i64 x, .int .i64 y], .slice al m cl] w fun e w' => e = .returned (.bool true) ∧ Below w.heap.size w w' := by
  generalize h1 : lightV W H n = b1 at hno
  have H1 := hide h1
  clear h1
  cases b1
  · clear hno
    go_enter Try.func8, Try.ntmps8
    go_wp2_with fail
    refine (awake_any _).mono ?_
    rintro e w1 ⟨rfl, hb⟩
    have EV := hide (Env2.start hb)
    clear hb
    obtain ⟨k0, k1, k2⟩ := EV.out.i.c3.1
    go_wp2_with fail
    refine (light_any W H ao n cap _).mono ?_
    rintro e w2 ⟨rfl, hb⟩
    rw [H1.out]
    have EV2 := hide (EV.out.below hb)
    clear hb EV k0 k1 k2
    go_wp2_with fail
    go_ret
    exact ⟨rfl, EV2.out.be⟩
  · have hm : 80 < m := by simp at hno; omega
    have d1 : decide ((80 : Int) < m) = true := by simp; omega
    have D1 := hide d1
    clear hno d1
    go_enter Try.func8, Try.ntmps8
    go_wp2_with fail
    refine (awake_any _).mono ?_
    rintro e w1 ⟨rfl, hb⟩
    have EV := hide (Env2.start hb)
    clear hb
    obtain ⟨k0, k1, k2⟩ := EV.out.i.c3.1
    go_wp2_with fail
    refine (light_any W H ao n cap _).mono ?_
    rintro e w2 ⟨rfl, hb⟩
    rw [H1.out]
    have EV2 := hide (EV.out.below hb)
    clear hb EV k0 k1 k2
    have d1 := D1.out
    go_wp2_with fail
    go_ret
    exact ⟨rfl, EV2.out.be⟩

/-- the tile that is laid: the first one, or none -/
def tileT (m : Nat) (T : Nat → Nat → Int) : Nat → Int := if m = 0 then fun _ => 0 else T 0
def flK (t : Nat → Int) (k : Nat) : Bool := allEq t (fun j => t (j % 4)) (4 * k)
theorem flK_next (t : Nat → Int) (k : Nat) : flK t (k + 1) = (flK t k && allEq (fun j => t (k * 4 + j)) (fun j => t (0 + j)) 4) := by
  rw [Bool.eq_iff_iff]
  unfold flK allEq
  simp only [List.all_eq_true, List.mem_range, beq_iff_eq, Bool.and_eq_true]
  constructor
  · intro h
    refine ⟨fun i hi => h i (by omega), fun i hi => ?_⟩
    have := h (k * 4 + i) (by omega)
    rw [this, Nat.zero_add]
    congr 1
    omega
  · rintro ⟨h1, h2⟩ i hi
    by_cases h : i < 4 * k
    · exact h1 i h
    · have := h2 (i - k * 4) (by omega)
      rw [show k * 4 + (i - k * 4) = i by omega, Nat.zero_add] at this
      rw [this]
      congr 1
      omega
theorem flK_one (t : Nat → Int) : flK t 1 = true := allEq_true fun i hi => by congr 1; omega
theorem flK_all (t : Nat → Int) : flK t 16 = flatV t := rfl

theorem run_neq48 {xs ys : Array Value} {f g : Nat → Int} (hx : Ag xs 64 f) (hy : Ag ys 64 g) (w : World) : (binOp .neq 48 (.agg xs) (.agg ys)).run Try.prog w = .ok (.bool (!allEq f g 64)) w := by
  rw [run_neq_struct, eq_arr w 9999 48 38 16 4 Try.underlying48 sz38 xs ys (fun i => .agg (xs.extract (i * 4) (i * 4 + 4))) (fun i => .agg (ys.extract (i * 4) (i * 4 + 4))) _ (fun i _ => part38 _ _ w) (fun i _ => part38 _ _ w) (fun i hi => eq38 9997 (ext38 hx i hi) (ext38 hy i hi) w), allEq_blocks]
  rfl
theorem exec_neq {o : Oper} {a : Act} {w : World} (t u : TypeId) (x y : Operand) (cs ds : Array Value) (b : Bool) (hm : Try.prog.eqGuardType Try.prog.depth t = false) (ho : o.op = .binOp .neq t x y u) (hx : a.eval x = .agg cs) (hy : a.eval y = .agg ds)
    (h : (binOp .neq t (.agg cs) (.agg ds)).run Try.prog w = .ok (.bool b) w) : (execOp a.eval o).run Try.prog w = .ok (.value (.bool b)) w := by
  unfold execOp
  simp only [ho, hx, hy]
  simp only [Sem.run_bind, run_eqGuard_agg w .neq t x y cs ds hm, h, Result.andThen_ok, Sem.run_pure]

set_option maxRecDepth 100000 in
set_option maxHeartbeats 3200000 in
theorem tilel_yes {W H x y : Int} {n m : Nat} {f : Nat → Int} {v l : Value} {T : Nat → Nat → Int} {w : World} (hv : Im w v W H n f) (hl : Tl w l m T)
    (h1 : lightV W H n = true) (h2 : m ≤ 80) :
    Calls Try.prog 8 #[v, .agg #[.int .i64 x, .int .i64 y], l] w fun e w' => e = .returned (.bool true) ∧ Below w.heap.size w w' := by
  have HV := hide hv
  have HL := hide hl
  obtain ⟨ao, cap, rfl, _, hW, hH⟩ := hv
  obtain ⟨al, cl, rfl, hm63, hc⟩ := hl
  have HC := hide hc
  have H1 := hide h1
  have HZ := hide Z64_ag
  have hz := Z64_ag.1
  obtain ⟨t, ht⟩ : ∃ t, t = tileT m T := ⟨_, rfl⟩
  have HT := hide ht
  clear h1 hc ht
  go_enter Try.func8, Try.ntmps8
  go_wp2_with fail
  refine (awake_any _).mono ?_
  rintro e w1 ⟨rfl, hb⟩
  have EV := hide (Env2.start hb)
  clear hb
  obtain ⟨k0, k1, k2⟩ := EV.out.i.c3.1
  go_wp2_with fail
  refine (light_any W H ao n cap _).mono ?_
  rintro e w2 ⟨rfl, hb⟩
  rw [H1.out]
  have EV2 := hide (EV.out.below hb)
  clear hb EV k0 k1 k2
  have d1 : decide ((80 : Int) < m) = false := by simp; omega
  have s2 := EV2.out.sz
  have q1 := hide (Bk.new Z64_ag w2 48)
  go_wp2_with (first | (with_reducible refine wpList_run rfl (exec_build T48 rfl) ?_) | (with_reducible refine wpList_run rfl (exec_alloc T48 rfl) ?_) | (with_reducible refine wpList_store T48 rfl (.tmp 9) (.tmp 41) rfl w2.heap.size 0 rfl Z64 rfl hz (q1.out.isSome (by omega)) (q1.out.free (by omega)) HZ.out.one ?_))
  intro w3 hs
  have K3 := hide ((q1.out.set hs HZ.out).congr (g := fun _ => 0) (fun j hj => by simp))
  have hal := ((Below.refl w2.heap.size w2).alloc (Nat.le_refl _) (.cells Z64 48)).trans (hs.below (Nat.le_refl _))
  have EV3 := hide (EV2.out.below hal)
  have s3 : w3.heap.size = w2.heap.size + 1 := by rw [hs.size]; simp
  clear hs hal q1 EV2
  generalize w2.heap.size = pt at *
  have S3 := hide s3
  clear s3 d1
  go_upto_if 44 with (fail)
  go_cut [] from 44 to 47 (fun wx => Bk wx pt 64 t ∧ Below pt w3 wx)
  case first =>
    by_cases hm0 : m = 0
    · have d0 : m ≤ 0 := by omega
      have HM0 := hide hm0
      clear hm0
      go_wp2_with fail
      go_meet
      exact ⟨K3.out.congr fun j _ => by rw [HT.out]; unfold tileT; rw [if_pos HM0.out], Below.refl _ _⟩
    · have dm : 0 < m := by omega
      obtain ⟨tb, toff, rfl, hcc⟩ := HC.out (by omega)
      have HTT := hide (show t = T 0 by rw [HT.out]; unfold tileT; rw [if_neg hm0])
      have hload := hide (show ∀ j v, (agOf 0 64 t)[j]? = some v → w3.cell? ((⟨tb, toff, none⟩ : Addr).add j) = some v by
        intro j v hv
        by_cases hj : j < 64
        · rw [(agOf_ag0 64 t).2 j hj, HTT.out] at hv
          have h1 := hcc 0 j (by omega) hj
          rw [Nat.zero_mul, Nat.add_zero] at h1
          rw [Addr.add_lit, EV3.out.be.cell (World.block_lt_of_cell? w _ h1), h1]
          exact hv
        · rw [Array.getElem?_eq_none (by rw [(agOf_ag0 64 t).1]; omega)] at hv
          cases hv)
      have A0 := hide (agOf_ag0 64 t)
      have z0 := A0.out.1
      clear hcc hm0
      go_wp2_with (first | (with_reducible refine wpList_run rfl (exec_load T48 (.tmp 46) rfl ⟨tb, toff, none⟩ rfl (agOf 0 64 t) z0 hload.out) ?_) | (with_reducible refine wpList_store T48 rfl (.tmp 9) (.tmp 47) rfl pt 0 rfl (agOf 0 64 t) rfl z0 (K3.out.isSome (by omega)) (K3.out.free (by omega)) A0.out.one ?_))
      intro w4 hs
      have K4 := hide ((K3.out.set hs A0.out).congr (g := t) (fun j hj => by rw [if_pos (by omega), Nat.sub_zero]))
      have hb4 := hide (hs.below (Nat.le_refl pt))
      clear hs
      go_wp2_with fail
      go_meet
      exact ⟨K4.out, hb4.out⟩
  case rest =>
    obtain ⟨hkt, hbc⟩ := hcut
    have KT := hide hkt
    have EV4 := hide (EV3.out.ofB hbc (by omega))
    have st : pt < wc.heap.size := by have := hbc.size; have := S3.out; omega
    clear hkt hbc EV3 K3 S3 HC
    obtain ⟨G, cg, hG⟩ : ∃ (G : Nat → Int) (cg : Int), ∀ w0 e w', gatP W H x y n f w0 e w' → e = .returned (.tuple #[.agg (agOf 0 64 G), .int .i64 cg]) ∧ Below w0.heap.size w0 w' := ⟨_, _, fun _ _ _ h => h⟩
    have HG := hide hG
    obtain ⟨ep, W2, H2, n2, g2, hP⟩ : ∃ ep W2 H2 n2 g2, ∀ w0 e w', layP W H x y n f t w0 e w' → ∃ v, e = .returned (.tuple #[v, .int .i64 ep]) ∧ Im w' v W2 H2 n2 g2 ∧ Below w0.heap.size w0 w' := ⟨_, _, _, _, _, fun _ _ _ h => h⟩
    have HP := hide hP
    have AG := hide (agOf_ag0 64 G)
    have zG := AG.out.1
    have AT := hide (agOf_ag0 64 t)
    have zT := AT.out.1
    clear hG hP
    obtain ⟨k0, k1, k2⟩ := EV4.out.i.c3.1
    obtain ⟨a0, a1⟩ := EV4.out.a.c2
    go_wp2_with fail
    refine (gather_any x y (HV.out.below EV4.out.be (Nat.le_refl _))).mono ?_
    intro e w5 hp
    obtain ⟨rfl, hb⟩ := HG.out _ _ _ hp
    have EV5 := hide (EV4.out.below hb)
    have KT5 := hide (KT.out.below hb st)
    have st5 : pt < w5.heap.size := by have := hb.size; omega
    clear hp hb EV4 KT k0 k1 k2 a0 a1
    have q1 := hide (Bk.new Z64_ag w5 48)
    go_wp2_with (first | (with_reducible refine wpList_run rfl (exec_alloc T48 rfl) ?_) | (with_reducible refine wpList_store T48 rfl (.tmp 10) (.tmp 55) rfl w5.heap.size 0 rfl (agOf 0 64 G) rfl zG (q1.out.isSome (by omega)) (q1.out.free (by omega)) AG.out.one ?_))
    intro w6 hs
    have KX6 := hide ((q1.out.set hs AG.out).congr (g := G) (fun j hj => by rw [if_pos (by omega), Nat.sub_zero]))
    have hal := ((Below.refl w5.heap.size w5).alloc (Nat.le_refl _) (.cells Z64 48)).trans (hs.below (Nat.le_refl _))
    have EV6 := hide (EV5.out.below hal)
    have KT6 := hide (KT5.out.below hal st5)
    have s6 : pt < w6.heap.size ∧ w5.heap.size < w6.heap.size := by have := hs.size; simp at this; omega
    clear hs hal q1 EV5 KT5 st5
    generalize w5.heap.size = px at *
    obtain ⟨k0, k1, k2⟩ := EV6.out.i.c3.1
    obtain ⟨a0, a1⟩ := EV6.out.a.c2
    go_wp2_with fail
    refine (rgather_any x y (HV.out.below EV6.out.be (Nat.le_refl _))).mono ?_
    intro e w7 hp
    obtain ⟨rfl, hb⟩ := HG.out _ _ _ hp
    have EV7 := hide (EV6.out.below hb)
    have KT7 := hide (KT6.out.below hb s6.1)
    have KX7 := hide (KX6.out.below hb s6.2)
    have s7 : pt < w7.heap.size ∧ px < w7.heap.size := by have := hb.size; omega
    clear hp hb EV6 KT6 KX6 s6 k0 k1 k2 a0 a1
    have q1 := hide (Bk.new Z64_ag w7 48)
    go_wp2_with (first | (with_reducible refine wpList_run rfl (exec_alloc T48 rfl) ?_) | (with_reducible refine wpList_store T48 rfl (.tmp 12) (.tmp 64) rfl w7.heap.size 0 rfl (agOf 0 64 G) rfl zG (q1.out.isSome (by omega)) (q1.out.free (by omega)) AG.out.one ?_))
    intro w8 hs
    have KY8 := hide ((q1.out.set hs AG.out).congr (g := G) (fun j hj => by rw [if_pos (by omega), Nat.sub_zero]))
    have hal := ((Below.refl w7.heap.size w7).alloc (Nat.le_refl _) (.cells Z64 48)).trans (hs.below (Nat.le_refl _))
    have EV8 := hide (EV7.out.below hal)
    have KT8 := hide (KT7.out.below hal s7.1)
    have KX8 := hide (KX7.out.below hal s7.2)
    have s8 : pt < w8.heap.size ∧ px < w8.heap.size ∧ w7.heap.size < w8.heap.size := by have := hs.size; simp at this; omega
    clear hs hal q1 EV7 KT7 KX7 s7
    generalize w7.heap.size = py at *
    obtain ⟨k0, k1, k2⟩ := EV8.out.i.c3.1
    obtain ⟨a0, a1⟩ := EV8.out.a.c2
    go_wp2_with (with_reducible refine wpList_run rfl (exec_load T48 (.tmp 9) rfl ⟨pt, 0, none⟩ rfl (agOf 0 64 t) zT (KT8.out.load (by omega))) ?_)
    refine (ilay_any x y (t := t) (HV.out.below EV8.out.be (Nat.le_refl _))).mono ?_
    intro e w9 hp
    obtain ⟨v, rfl, him, hb⟩ := HP.out _ _ _ hp
    have IP := hide him
    obtain ⟨ao3, cap3, rfl, _⟩ := him
    have EV9 := hide (EV8.out.below hb)
    have KT9 := hide (KT8.out.below hb s8.1)
    have KX9 := hide (KX8.out.below hb s8.2.1)
    have KY9 := hide (KY8.out.below hb s8.2.2)
    have s9 : pt < w9.heap.size ∧ px < w9.heap.size ∧ py < w9.heap.size := by have := hb.size; omega
    clear hp hb EV8 KT8 KX8 KY8 s8 k0 k1 k2 a0 a1
    go_upto_region 11 with (fail)
    generalize hw10 : w9.alloc (.cells #[.int .i64 W2, .int .i64 H2, .slice ao3 n2 cap3] 24) = w10
    have hal : Below w9.heap.size w9 w10 := by rw [← hw10]; exact (Below.refl _ _).alloc (Nat.le_refl _) _
    have EV10 := hide (EV9.out.below hal)
    have KT10 := hide (KT9.out.below hal s9.1)
    have KX10 := hide (KX9.out.below hal s9.2.1)
    have KY10 := hide (KY9.out.below hal s9.2.2)
    have P10 := hide (show Box w10 w9.heap.size #[.int .i64 W2, .int .i64 H2, .slice ao3 n2 cap3] by rw [← hw10]; exact Box.mk' rfl)
    have IP10 := hide (IP.out.below hal (Nat.le_refl _))
    have s10 : pt < w10.heap.size ∧ px < w10.heap.size ∧ py < w10.heap.size ∧ w9.heap.size < w10.heap.size := by
      have : w10.heap.size = w9.heap.size + 1 := by rw [← hw10]; simp
      omega
    clear hw10 hal EV9 KT9 KX9 KY9 IP s9
    generalize w9.heap.size = pp at *
    obtain ⟨k0, k1, k2⟩ := EV10.out.i.c3.1
    obtain ⟨a0, a1⟩ := EV10.out.a.c2
    go_wp2_with (with_reducible refine wpList_run rfl (exec_load T48 (.tmp 9) rfl ⟨pt, 0, none⟩ rfl (agOf 0 64 t) zT (KT10.out.load (by omega))) ?_)
    refine (rlay_any x y (t := t) (HV.out.below EV10.out.be (Nat.le_refl _))).mono ?_
    intro e w11 hp
    obtain ⟨v, rfl, him, hb⟩ := HP.out _ _ _ hp
    have IQ := hide him
    obtain ⟨ao4, cap4, rfl, _⟩ := him
    have EV11 := hide (EV10.out.below hb)
    have KT11 := hide (KT10.out.below hb s10.1)
    have KX11 := hide (KX10.out.below hb s10.2.1)
    have KY11 := hide (KY10.out.below hb s10.2.2.1)
    have P11 := hide (P10.out.below hb s10.2.2.2)
    have IP11 := hide (IP10.out.below hb (Nat.le_refl _))
    have s11 : pt < w11.heap.size ∧ px < w11.heap.size ∧ py < w11.heap.size ∧ pp < w11.heap.size := by have := hb.size; omega
    clear hp hb EV10 KT10 KX10 KY10 P10 IP10 s10 k0 k1 k2 a0 a1
    go_upto_region 12 with (fail)
    generalize hw12 : w11.alloc (.cells #[.int .i64 W2, .int .i64 H2, .slice ao4 n2 cap4] 24) = w12
    have hal : Below w11.heap.size w11 w12 := by rw [← hw12]; exact (Below.refl _ _).alloc (Nat.le_refl _) _
    have EV12 := hide (EV11.out.below hal)
    have KT12 := hide (KT11.out.below hal s11.1)
    have KX12 := hide (KX11.out.below hal s11.2.1)
    have KY12 := hide (KY11.out.below hal s11.2.2.1)
    have P12 := hide (P11.out.below hal s11.2.2.2)
    have Q12 := hide (show Box w12 w11.heap.size #[.int .i64 W2, .int .i64 H2, .slice ao4 n2 cap4] by rw [← hw12]; exact Box.mk' rfl)
    have IP12 := hide (IP11.out.below hal (Nat.le_refl _))
    have IQ12 := hide (IQ.out.below hal (Nat.le_refl _))
    have s12 : pt < w12.heap.size ∧ px < w12.heap.size ∧ py < w12.heap.size := by
      have : w12.heap.size = w11.heap.size + 1 := by rw [← hw12]; simp
      omega
    clear hw12 hal EV11 KT11 KX11 KY11 P11 IP11 IQ s11
    generalize w11.heap.size = pq at *
    obtain ⟨⟨p0, p1, p2⟩, _⟩ := P12.out.c3
    obtain ⟨⟨q0, q1, q2⟩, _⟩ := Q12.out.c3
    go_wp2_with fail
    refine (lsame_any IP12.out IQ12.out).mono ?_
    rintro e w13 ⟨rfl, hb⟩
    rw [sameV_refl]
    have EV13 := hide (EV12.out.below hb)
    have KT13 := hide (KT12.out.below hb s12.1)
    have KX13 := hide (KX12.out.below hb s12.2.1)
    have KY13 := hide (KY12.out.below hb s12.2.2)
    have s13 : pt < w13.heap.size ∧ px < w13.heap.size ∧ py < w13.heap.size := by have := hb.size; omega
    clear hb EV12 KT12 KX12 KY12 P12 Q12 IP12 IQ12 s12 p0 p1 p2 q0 q1 q2
    obtain ⟨ta, tb, htab⟩ : ∃ ta tb : Int, tilesV W H = (ta, tb) := ⟨_, _, rfl⟩
    have HTAB := hide htab
    clear htab
    obtain ⟨k0, k1, k2⟩ := EV13.out.i.c3.1
    go_wp2_with fail
    refine (tiles_any W H _ hW.1 hW.2 hH.1 hH.2).mono ?_
    rintro e w' ⟨rfl, rfl⟩
    rw [HTAB.out]
    go_wp2_with fail
    refine (rtiles_any W H _ hW.1 hW.2 hH.1 hH.2).mono ?_
    rintro e w' ⟨rfl, rfl⟩
    rw [HTAB.out]
    clear k0 k1 k2
    go_wp2_with fail
    go_loopw [23, 24] (fun fl i wr => ∃ k : Nat, 1 ≤ k ∧ k ≤ 16 ∧ i = .int .i64 k ∧ fl = .bool (flK t k) ∧ Dr w13 wr) (fun _ i _ => 16 - (intOf i).toNat)
    case atStart => exact ⟨1, by omega, by omega, rfl, by rw [flK_one], Dr.refl _⟩
    case round =>
      obtain ⟨k, hk1, hk, rfl, hfl, hdr⟩ := hrel
      obtain ⟨fb, hfb⟩ : ∃ fb, fb = flK t k := ⟨_, rfl⟩
      rw [← hfb] at hfl
      subst hfl
      have HFB := hide hfb
      have HD := hide hdr
      have KTr := hide (KT13.out.below (hdr.below w13.heap.size) s13.1)
      clear hfb hdr
      by_cases hlt : k < 16
      · have hnx := hide (flK_next t k)
        have hkI : (k : Int) < 16 := by omega
        cases fb
        · go_wp2_with fail
          go_quiet (fail)
          go_wp2
          exact ⟨⟨k + 1, by omega, by omega, by go_num, by rw [hnx.out, ← HFB.out]; rfl, HD.out.drewN _⟩, by simp [intOf]; omega⟩
        · obtain ⟨u0, hu0⟩ : ∃ u, u = t (k * 4) := ⟨_, rfl⟩
          obtain ⟨u1, hu1⟩ : ∃ u, u = t (k * 4 + 1) := ⟨_, rfl⟩
          obtain ⟨u2, hu2⟩ : ∃ u, u = t (k * 4 + 2) := ⟨_, rfl⟩
          obtain ⟨u3, hu3⟩ : ∃ u, u = t (k * 4 + 3) := ⟨_, rfl⟩
          obtain ⟨v0, hv0⟩ : ∃ u, u = t 0 := ⟨_, rfl⟩
          obtain ⟨v1, hv1⟩ : ∃ u, u = t 1 := ⟨_, rfl⟩
          obtain ⟨v2, hv2⟩ : ∃ u, u = t 2 := ⟨_, rfl⟩
          obtain ⟨v3, hv3⟩ : ∃ u, u = t 3 := ⟨_, rfl⟩
          obtain ⟨r, hr⟩ : ∃ r, r = allEq (fun j => t (k * 4 + j)) (fun j => t (0 + j)) 4 := ⟨_, rfl⟩
          have AU : Ag #[.int .i64 u0, .int .i64 u1, .int .i64 u2, .int .i64 u3] 4 (fun j => t (k * 4 + j)) := ⟨rfl, fun i hi => by match i, hi with | 0, _ => rw [hu0]; rfl | 1, _ => rw [hu1]; rfl | 2, _ => rw [hu2]; rfl | 3, _ => rw [hu3]; rfl⟩
          have AV : Ag #[.int .i64 v0, .int .i64 v1, .int .i64 v2, .int .i64 v3] 4 (fun j => t (0 + j)) := ⟨rfl, fun i hi => by match i, hi with | 0, _ => rw [hv0]; rfl | 1, _ => rw [hv1]; rfl | 2, _ => rw [hv2]; rfl | 3, _ => rw [hv3]; rfl⟩
          have EE := fun w => eq38' AU AV w
          rw [← hr] at EE
          have HR := hide hr
          have eg := eg38
          have c0 := (KTr.out (k * 4) (by omega)).1
          have c1 := (KTr.out (k * 4 + 1) (by omega)).1
          have c2 := (KTr.out (k * 4 + 2) (by omega)).1
          have c3 := (KTr.out (k * 4 + 3) (by omega)).1
          have c4 := (KTr.out 0 (by omega)).1
          have c5 := (KTr.out 1 (by omega)).1
          have c6 := (KTr.out 2 (by omega)).1
          have c7 := (KTr.out 3 (by omega)).1
          rw [← hu0] at c0
          rw [← hu1] at c1
          rw [← hu2] at c2
          rw [← hu3] at c3
          rw [← hv0] at c4
          rw [← hv1] at c5
          rw [← hv2] at c6
          rw [← hv3] at c7
          clear hu0 hu1 hu2 hu3 hv0 hv1 hv2 hv3 hr AU AV
          go_wp2_with fail
          go_quiet (fail)
          clear c0 c1 c2 c3 c4 c5 c6 c7 EE eg
          go_wp2
          exact ⟨⟨k + 1, by omega, by omega, by go_num, by rw [hnx.out, ← HFB.out, ← HR.out]; rfl, HD.out.drewN _⟩, by simp [intOf]; omega⟩
      · obtain rfl : k = 16 := by omega
        have EVr := hide (EV13.out.below (HD.out.below _))
        have KXr := hide (KX13.out.below (HD.out.below w13.heap.size) s13.2.1)
        have KYr := hide (KY13.out.below (HD.out.below w13.heap.size) s13.2.2)
        obtain ⟨ew, W3, H3, n3, g3, hWP⟩ : ∃ ew W3 H3 n3 g3, ∀ w0 e w', wholeP W H m T w0 e w' → ∃ v, e = .returned (.tuple #[v, .int .i64 ew]) ∧ Im w' v W3 H3 n3 g3 ∧ Below w0.heap.size w0 w' := ⟨_, _, _, _, _, fun _ _ _ h => h⟩
        have HWP := hide hWP
        have HNE := hide (show (binOp .neq 48 (.agg (agOf 0 64 G)) (.agg (agOf 0 64 G))).run Try.prog wr = .ok (.bool false) wr by
          rw [run_neq48 AG.out AG.out, allEq_true (fun _ _ => rfl)]; rfl)
        have HFL := hide (show flatV t = fb by rw [HFB.out, flK_all])
        clear HFB hWP KT13 KX13 KY13
        go_wp2_with (first
          | (with_reducible refine wpList_run (by kernel_rfl) (exec_load T48 (.tmp 10) rfl ⟨px, 0, none⟩ rfl (agOf 0 64 G) zG (KXr.out.load (by omega))) ?_)
          | (with_reducible refine wpList_run (by kernel_rfl) (exec_load T48 (.tmp 12) rfl ⟨py, 0, none⟩ rfl (agOf 0 64 G) zG (KYr.out.load (by omega))) ?_)
          | (with_reducible refine wpList_run (by kernel_rfl) (exec_neq 48 48 (.tmp 118) (.tmp 119) (agOf 0 64 G) (agOf 0 64 G) false eg48 rfl rfl rfl HNE.out) ?_)
          | (with_reducible refine wpList_run (by kernel_rfl) (exec_load T48 (.tmp 9) rfl ⟨pt, 0, none⟩ rfl (agOf 0 64 t) zT (KTr.out.load (by omega))) ?_))
        refine (flat_any t _).mono ?_
        rintro e w14 ⟨rfl, hb⟩
        rw [HFL.out]
        have EV14 := hide (EVr.out.below hb)
        clear hb EVr KXr KYr KTr
        obtain ⟨k0, k1, k2⟩ := EV14.out.i.c3.1
        by_cases hbig : 60 < W ∨ 60 < H
        · by_cases hW60 : 60 < W
          · have dW : decide (60 < W) = true := by simpa using hW60
            clear hbig
            go_wp2_with fail
            go_ret
            exact ⟨rfl, EV14.out.be⟩
          · have dW : decide (60 < W) = false := by simpa using hW60
            have dH : decide (60 < H) = true := by simp; omega
            clear hbig
            go_wp2_with fail
            go_ret
            exact ⟨rfl, EV14.out.be⟩
        · have dW : decide (60 < W) = false := by simp; omega
          have dH : decide (60 < H) = false := by simp; omega
          clear hbig
          go_wp2_with fail
          refine (iwhole_any (HL.out.below EV14.out.be (Nat.le_refl _))).mono ?_
          intro e w15 hp
          obtain ⟨v, rfl, him, hb⟩ := HWP.out _ _ _ hp
          have IP := hide him
          obtain ⟨ao5, cap5, rfl, _⟩ := him
          have EV15 := hide (EV14.out.below hb)
          clear hp hb EV14 k0 k1 k2 dW dH
          go_upto_region 25 with (fail)
          generalize hw16 : w15.alloc (.cells #[.int .i64 W3, .int .i64 H3, .slice ao5 n3 cap5] 24) = w16
          have hal : Below w15.heap.size w15 w16 := by rw [← hw16]; exact (Below.refl _ _).alloc (Nat.le_refl _) _
          have EV16 := hide (EV15.out.below hal)
          have P16 := hide (show Box w16 w15.heap.size #[.int .i64 W3, .int .i64 H3, .slice ao5 n3 cap5] by rw [← hw16]; exact Box.mk' rfl)
          have IP16 := hide (IP.out.below hal (Nat.le_refl _))
          have s16 : w15.heap.size < w16.heap.size := by
            have : w16.heap.size = w15.heap.size + 1 := by rw [← hw16]; simp
            omega
          clear hw16 hal EV15 IP
          generalize w15.heap.size = pv at *
          obtain ⟨k0, k1, k2⟩ := EV16.out.i.c3.1
          go_wp2_with fail
          refine (rwhole_any (HL.out.below EV16.out.be (Nat.le_refl _))).mono ?_
          intro e w17 hp
          obtain ⟨v, rfl, him, hb⟩ := HWP.out _ _ _ hp
          have IQ := hide him
          obtain ⟨ao6, cap6, rfl, _⟩ := him
          have EV17 := hide (EV16.out.below hb)
          have P17 := hide (P16.out.below hb s16)
          have IP17 := hide (IP16.out.below hb (Nat.le_refl _))
          have s17 : pv < w17.heap.size := by have := hb.size; omega
          clear hp hb EV16 P16 IP16 s16 k0 k1 k2
          go_upto_region 26 with (fail)
          generalize hw18 : w17.alloc (.cells #[.int .i64 W3, .int .i64 H3, .slice ao6 n3 cap6] 24) = w18
          have hal : Below w17.heap.size w17 w18 := by rw [← hw18]; exact (Below.refl _ _).alloc (Nat.le_refl _) _
          have EV18 := hide (EV17.out.below hal)
          have P18 := hide (P17.out.below hal s17)
          have Q18 := hide (show Box w18 w17.heap.size #[.int .i64 W3, .int .i64 H3, .slice ao6 n3 cap6] by rw [← hw18]; exact Box.mk' rfl)
          have IP18 := hide (IP17.out.below hal (Nat.le_refl _))
          have IQ18 := hide (IQ.out.below hal (Nat.le_refl _))
          clear hw18 hal EV17 P17 IP17 IQ s17
          generalize w17.heap.size = pw at *
          obtain ⟨⟨p0, p1, p2⟩, _⟩ := P18.out.c3
          obtain ⟨⟨q0, q1, q2⟩, _⟩ := Q18.out.c3
          go_wp2_with fail
          refine (lsame_any IP18.out IQ18.out).mono ?_
          rintro e w19 ⟨rfl, hb⟩
          rw [sameV_refl]
          have EV19 := hide (EV18.out.below hb)
          clear hb p0 p1 p2 q0 q1 q2
          go_wp2_with fail
          go_ret
          exact ⟨rfl, EV19.out.be⟩
end Go.Proofs.Ytmckfppemhnhmaa
