import Derived.Test.YtmckfppemhnhmaaZ
namespace Go.Proofs.Ytmckfppemhnhmaa
open Go.RowKit
attribute [local irreducible] agOf

section
variable {P : Program} {ops : Array Oper} {Q : Exit → Act → World → Prop} {md : Region.Mode}
theorem any_one {i : Nat} {fuel : Nat} {listed : Array Bool} {a : Act} {w : World} (hr : Region.ready md ops listed = [i]) (hi : wpOp P ops Q i (wpAny P md ops Q fuel (listed.setIfInBounds i true)) a w) : wpAny P md ops Q (fuel + 1) listed a w :=
  wpAny_ready hr (by simp) (fun k hk => by simp at hk; subst hk; exact hi)
theorem any_two {i j : Nat} {fuel : Nat} {listed : Array Bool} {a : Act} {w : World} (hr : Region.ready md ops listed = [i, j]) (hi : wpOp P ops Q i (wpAny P md ops Q fuel (listed.setIfInBounds i true)) a w)
    (hj : wpOp P ops Q j (wpAny P md ops Q fuel (listed.setIfInBounds j true)) a w) : wpAny P md ops Q (fuel + 1) listed a w :=
  wpAny_ready hr (by simp) (fun k hk => by simp at hk; rcases hk with rfl | rfl; exact hi; exact hj)
theorem op_val {i : Nat} {o : Oper} {v : Value} {K : Act → World → Prop} {a : Act} {w w' : World} (ho : ops[i]? = some o) (hw : Region.wanted o (yielded ops a.tmps) = true) (hr : (execOp a.eval o).run P w = .ok (.value v) w')
    (h : K (a.put o.dst v) w') : wpOp P ops Q i K a w := by
  unfold wpOp
  simp only [ho, hw, if_true, Oper.wp, hr, Oper.upon]
  exact .inl h
theorem op_skip {i : Nat} {o : Oper} {K : Act → World → Prop} {a : Act} {w w' : World} (ho : ops[i]? = some o) (hw : Region.wanted o (yielded ops a.tmps) = true) (hr : (execOp a.eval o).run P w = .ok .skip w')
    (h : K (a.put o.dst undef) w') : wpOp P ops Q i K a w := by
  unfold wpOp
  simp only [ho, hw, if_true, Oper.wp, hr, Oper.upon]
  exact .inl h
theorem op_call {i : Nat} {o : Oper} {K : Act → World → Prop} {a : Act} {w : World} {f : FuncId} {args : Array Value} (ho : ops[i]? = some o) (hw : Region.wanted o (yielded ops a.tmps) = true) (hr : (execOp a.eval o).run P w = .ok (.enter f args) w)
    (h : Calls P f args w fun e w' => ∃ v, e = .returned v ∧ K (a.put o.dst v) w') : wpOp P ops Q i K a w := by
  unfold wpOp
  simp only [ho, hw, if_true, Oper.wp, hr, Oper.upon]
  refine .inl (h.mono ?_)
  rintro e w' ⟨v, rfl, hk⟩
  exact hk
end
def Z3 : Array Value := #[.int .i64 0, .int .i64 0, .slice none 0 0]
theorem zero24 (w : World) : (zeroValue 24).run Try.prog w = .ok (.agg Z3) w := by kernel_rfl
theorem build24 (w : World) : (Instr.build 24 #[]).run Try.prog w = .ok (.agg Z3) w := by kernel_rfl
theorem size24 : (Try.prog.info? 24).map (·.size) = some 3 := by kernel_rfl
theorem T24 : AggT Try.prog 24 3 Z3 := ⟨⟨_, Try.underlying24, rfl⟩, size24, zero24, rfl, build24⟩
theorem exec_call4 {P : Program} {o : Oper} {a : Act} {w : World} {f : FuncId} (x0 x1 x2 x3 : Operand) (ts : Array TypeId) (ho : o.op = .call { callee := .value (.func f), args := #[x0, x1, x2, x3], argTypes := ts })
    (hf : ∀ args w, (callFunc f args).run P w = .ok (.enter f args) w) {v0 v1 v2 v3 : Value} (h0 : a.eval x0 = v0) (h1 : a.eval x1 = v1) (h2 : a.eval x2 = v2) (h3 : a.eval x3 = v3) : (execOp a.eval o).run P w = .ok (.enter f #[v0, v1, v2, v3]) w := by
  subst h0 h1 h2 h3
  unfold execOp
  simp only [ho]
  simp [resolve, go_sem, hf, Act.eval]
theorem op_store {P : Program} {ops : Array Oper} {Q : Exit → Act → World → Prop} {ty : TypeId} {n : Nat} {z : Array Value} (T : AggT P ty n z) {i : Nat} {o : Oper} {K : Act → World → Prop} {a : Act} {w : World} (ho : ops[i]? = some o) (hw : Region.wanted o (yielded ops a.tmps) = true)
    (x y : Operand) (hop : o.op = .store ty x y) (b off : Nat) (hx : a.eval x = .pointer (some ⟨b, off, none⟩))
    (cs : Array Value) (hy : a.eval y = .agg cs) (hn : cs.size = n) (hc : ∀ j, j < n → (w.cell? ⟨b, off + j, none⟩).isSome = true) (hf : ∀ j, j < n → w.frozen? ⟨b, off + j, none⟩ = false) (h1 : ∀ v ∈ cs.toList, v.oneCell' = true)
    (h : ∀ w', SetAt w b off cs w' → K (a.put o.dst undef) w') : wpOp P ops Q i K a w := by
  obtain ⟨w', h1, h2⟩ := exec_store T x y hop b off hx cs hy hn hc hf h1
  exact op_skip ho hw h2 (h w' h1)
theorem Box.some3 {w : World} {p : Nat} {x y z : Value} (h : Box w p #[x, y, z]) : (∀ j, j < 3 → (w.cell? ⟨p, 0 + j, none⟩).isSome = true) ∧ ∀ j, j < 3 → w.frozen? ⟨p, 0 + j, none⟩ = false := by
  obtain ⟨⟨h0, h1, h2⟩, f0, f1, f2⟩ := h.c3
  constructor <;> intro j hj <;> rcases (by omega : j = 0 ∨ j = 1 ∨ j = 2) with rfl | rfl | rfl <;> simp [*]
theorem Box.setAt {w w' : World} {p : Nat} {x y z : Value} {cs : Array Value} (h : Box w p #[x, y, z]) (hs : SetAt w p 0 cs w') (hn : cs.size = 3) : Box w' p cs := fun j v hv => by
  have hj : j < cs.size := by
    rcases Nat.lt_or_ge j cs.size with h | h
    · exact h
    · rw [Array.getElem?_eq_none h] at hv; cases hv
  have h1 := hs.inn j hj
  rw [Nat.zero_add] at h1
  refine ⟨h1.trans hv, (hs.frozen _).trans ?_⟩
  have := h.some3.2 j (by omega)
  rwa [Nat.zero_add] at this
theorem Cl.setAt {w w' : World} {g n p : Nat} {f : Nat → Int} {cs : Array Value} (h : Cl w g 0 n f) (hs : SetAt w p 0 cs w') (hp : g ≠ p) : Cl w' g 0 n f := fun i hi =>
  ⟨(hs.out ⟨g, 0 + i, none⟩ (fun e _ => absurd e hp)).trans (h i hi).1, (hs.frozen _).trans (h i hi).2⟩
theorem cf35 (args : Array Value) (w : World) : (callFunc 35 args).run Try.prog w = .ok (.enter 35 args) w := by kernel_rfl
theorem Box.load3 {w : World} {p : Nat} {x y z : Value} (h : Box w p #[x, y, z]) : ∀ j v, (#[x, y, z] : Array Value)[j]? = some v → w.cell? ((⟨p, 0, none⟩ : Addr).add j) = some v := by
  intro j v hv
  rw [Addr.add_lit, Nat.zero_add]
  exact (h j v hv).1

set_option maxRecDepth 100000 in
set_option maxHeartbeats 1000000 in
theorem rwhole_ok {W H : Int} {v : Value} {m : Nat} {T : Nat → Nat → Int} {w : World} (hv : Tl w v m T) (hs : sizedV W H = true) (hm : (m : Int) = (tilesV W H).1 * (tilesV W H).2) :
    Calls Try.prog 38 #[.int .i64 W, .int .i64 H, v] w (wholeP W H m T w) := by
  obtain ⟨ao, cap, rfl, hm63, hc⟩ := hv
  have HC := hide hc
  unfold wholeP wholeOk
  rw [hs, decide_eq_true hm]
  simp only [Bool.and_true]
  have h' := hs
  unfold sizedV at h'
  simp at h'
  have ha := area_bd h'
  have hN : (((4 * W * H).toNat : Nat) : Int) = 4 * W * H := by omega
  have HS := hide hs
  obtain ⟨a, b, hab, ha1, hb1, ha4, hb4⟩ : ∃ a b : Int, tilesV W H = (a, b) ∧ (1 ≤ a ∧ a ≤ 1024) ∧ (1 ≤ b ∧ b ≤ 1024) ∧ a = (W - 1) / 4 + 1 ∧ b = (H - 1) / 4 + 1 :=
    ⟨(W - 1) / 4 + 1, (H - 1) / 4 + 1, by unfold tilesV; rw [if_neg (by omega)], by omega, by omega, rfl, rfl⟩
  rw [hab] at hm
  replace hm : (m : Int) = a * b := hm
  have hWb : 1 ≤ W ∧ 1 ≤ H ∧ W ≤ 4096 ∧ H ≤ 4096 := h'
  have e1 : ((m : Int) == a * b) = true := by simpa using hm
  have hw := mul_bd (x := a) (y := b) (X := 1024) (Y := 1024) (by omega) (by omega) (by omega) (by omega)
  have w1' : wrap64 (a * b) = a * b := wrap_in (by omega)
  have e2 : ((m : Int) != a * b) = false := by simpa using hm
  have HAB := hide hab
  have HM := hide hm
  have HA4 := hide ha4
  have HB4 := hide hb4
  have hn0 : 0 < (4 * W * H).toNat := by
    have := Int.mul_pos (show 0 < 4 * W by omega) (show 0 < H by omega)
    omega
  have hr : rightV W H (4 * W * H).toNat = true := by unfold rightV; simp; exact ⟨by omega, by omega⟩
  generalize (4 * W * H).toNat = n at *
  have hn63 : n ≤ 67108864 := by omega
  have HN := hide hN
  have HR := hide hr
  have hmb : m ≤ 1048576 := by omega
  clear hs hm h' ha hab hw hN hr hc ha4 hb4
  go_enter Try.func38, Try.ntmps38
  go_wp2_with fail
  refine (rnew_ok W H n _ HS.out HN.out).mono ?_
  rintro e w1 ⟨g, rfl, hg, hcl, hb⟩
  have BR := hide (Box.below (b := w.heap.size) (cs := #[.int .i64 0, .int .i64 0, .slice none 0 0]) (by (repeat' (first | (refine Box.mk' ?_; simp; done) | (refine Box.old ?_ ?_; rotate_left; (simp <;> omega))))) hb (by simp))
  have hbw1 := hide (Below.trans (by (repeat' (first | exact Below.refl _ _ | assumption | refine Below.setCell ?_ (by simp <;> omega) _ | refine Below.alloc ?_ (by simp <;> omega) _))) (hb.mono (by simp)) : Below w.heap.size w w1)
  have hs1 : w.heap.size < w1.heap.size := by have := hb.size; simp at this; omega
  have hg1 : w.heap.size + 1 ≤ g := by simpa using hg
  have hgl : g < w1.heap.size := World.block_lt_of_cell? w1 _ (hcl 0 hn0).1
  have HCL := hide hcl
  clear hb hcl hg
  go_upto_region 2 with (fail)
  generalize hw2 : w1.alloc (.cells #[.int .i64 W, .int .i64 H, .slice (some ⟨g, 0, none⟩) n n] 24) = w2
  have BR2 := hide (show Box w2 w.heap.size _ by rw [← hw2]; exact BR.out.old hs1)
  have BM2 := hide (show Box w2 w1.heap.size #[.int .i64 W, .int .i64 H, .slice (some ⟨g, 0, none⟩) n n] by rw [← hw2]; exact Box.mk' rfl)
  have hb2 := hide (show Below w.heap.size w w2 by rw [← hw2]; exact hbw1.out.alloc (by omega) _)
  have HC2 := hide (show Cl w2 g 0 n (fun _ => 0) by rw [← hw2]; exact HCL.out.alloc hgl _)
  have s2 : w2.heap.size = w1.heap.size + 1 := by rw [← hw2]; simp
  clear hw2 BR hbw1 HCL
  obtain ⟨p, hp⟩ : ∃ p, p = w1.heap.size := ⟨_, rfl⟩
  rw [← hp] at BM2 s2 hs1 hgl ⊢
  have S2 := hide s2
  clear hp s2
  go_wp2_with fail
  refine (rtiles_any W H _ (by omega) (by omega) (by omega) (by omega)).mono ?_
  rintro e w' ⟨rfl, rfl⟩
  rw [HAB.out]
  go_wp2_with fail
  clear w1' e1 e2
  go_loopw [12] (fun i wr => ∃ k gk ck : Nat, k ≤ m ∧ i = .int .i64 k ∧ Cl wr gk 0 n (wholeK W H T k) ∧ gk ≠ p ∧ Box wr p #[.int .i64 W, .int .i64 H, .slice (some ⟨gk, 0, none⟩) n ck] ∧ Below p w2 wr ∧ p < wr.heap.size) (fun i _ => m - (intOf i).toNat)
  case atStart => exact ⟨0, g, n, by omega, rfl, HC2.out, by omega, BM2.out, Below.refl _ _, by have := S2.out; omega⟩
  case round =>
    obtain ⟨k, gk, ck, hk, rfl, hcl, hgp, hbx, hbw, hpw⟩ := hrel
    have HK := hide hcl
    have BM3 := hide hbx
    have HB := hide hbw
    have BR3 := hide (BR2.out.below hbw hs1)
    have hb3 := hide (hb2.out.trans (hbw.mono (by omega)))
    clear hcl hbx hbw
    by_cases hlt : k < m
    · obtain ⟨tb, toff, rfl, hcc⟩ := HC.out (by omega)
      have hload := hide (show ∀ j v, (agOf 0 64 (T k))[j]? = some v → wr.cell? ((⟨tb, toff + k * 64, none⟩ : Addr).add j) = some v by
        intro j v hv
        by_cases hj : j < 64
        · rw [(agOf_ag0 64 (T k)).2 j hj] at hv
          have h1 := hcc k j hlt hj
          rw [Addr.add_lit, hb3.out.cell (World.block_lt_of_cell? w _ h1), h1]
          exact hv
        · rw [Array.getElem?_eq_none (by rw [(agOf_ag0 64 (T k)).1]; omega)] at hv
          cases hv)
      have A0 := hide (agOf_ag0 64 (T k))
      have z0 := A0.out.1
      have ea2 : ¬ a = 0 := by omega
      have q1 : 0 ≤ (k : Int) / a := Int.ediv_nonneg (by omega) (by omega)
      have q2 : (k : Int) / a < b := Int.ediv_lt_of_lt_mul (by omega) (by rw [Int.mul_comm, ← HM.out]; omega)
      have q3 : 0 ≤ (k : Int) % a := Int.emod_nonneg _ ea2
      have q4 : (k : Int) % a < a := Int.emod_lt_of_pos _ (by omega)
      have w5' : wrap64 ((k : Int) / a) = (k : Int) / a := wrap_in (by omega)
      have hHas : hasV W H ((k : Int) % a) ((k : Int) / a) n = true := by
        unfold hasV inV
        rw [HR.out, HAB.out]
        simp
        omega
      have HH := hide hHas
      have kI : (0 : Int) ≤ (k : Int) := by omega
      have kI2 : (k : Int) < (m : Int) := by omega
      clear hcc hHas
      go_wp2_with fail
      refine wp_region_any (by kernel_rfl) ?_
      change wpAny _ _ _ _ _ _ _ (World.drew _)
      obtain ⟨wd, hwd⟩ : ∃ wd, wd = wr.drew := ⟨_, rfl⟩
      have HLd := hide (show ∀ j v, (agOf 0 64 (T k))[j]? = some v → wd.cell? ((⟨tb, toff + k * 64, none⟩ : Addr).add j) = some v by rw [hwd]; exact hload.out)
      have BMd := hide (show Box wd p #[.int .i64 W, .int .i64 H, .slice (some ⟨gk, 0, none⟩) n ck] by rw [hwd]; exact BM3.out)
      have HKd := hide (show Cl wd gk 0 n (wholeK W H T k) by rw [hwd]; exact HK.out)
      have HBd := hide (show Below p w2 wd by rw [hwd]; exact HB.out.drew)
      have hpd : p < wd.heap.size := by rw [hwd]; exact hpw
      rw [← hwd]
      clear hwd
      refine wpAny_take (i := 1) (v := ?v1) rfl (by kernel_rfl) (by kernel_rfl) (by kernel_rfl) (fun _ _ _ h => h) (Or.inl ⟨by rfl, ?y1⟩) ?_
      case y1 => intro w'; go_simp; first | done | with_reducible rfl
      refine wpAny_take (i := 2) (v := ?v2) rfl (by kernel_rfl) (by kernel_rfl) (by kernel_rfl) (fun _ _ _ h => h) (Or.inl ⟨by rfl, ?y2⟩) ?_
      case y2 => intro w'; go_simp; first | done | with_reducible rfl
      refine wpAny_take (i := 4) (v := ?v4) rfl (by kernel_rfl) (by kernel_rfl) (by kernel_rfl) (fun _ _ _ h => h) (Or.inl ⟨by rfl, ?y4⟩) ?_
      case y4 => intro w'; go_simp; first | done | with_reducible rfl
      refine wpAny_take (i := 5) (v := ?v5) rfl (by kernel_rfl) (by kernel_rfl) (by kernel_rfl) (fun _ _ _ h => h) (Or.inl ⟨by rfl, ?y5⟩) ?_
      case y5 => intro w'; go_simp; first | done | with_reducible rfl
      refine wpAny_take (i := 7) (v := ?v7) rfl (by kernel_rfl) (by kernel_rfl) (by kernel_rfl) (fun _ _ _ h => h) (Or.inl ⟨by rfl, ?y7⟩) ?_
      case y7 => intro w'; go_simp; first | done | with_reducible rfl
      refine wpAny_take (i := 8) (v := ?v8) rfl (by kernel_rfl) (by kernel_rfl) (by kernel_rfl) (fun _ _ _ h => h) (Or.inl ⟨by rfl, ?y8⟩) ?_
      case y8 => intro w'; go_simp; first | done | with_reducible rfl
      refine wpAny_take (i := 3) (v := ?v3) rfl (by kernel_rfl) (by kernel_rfl) (by kernel_rfl) (fun _ _ _ h => h) (Or.inl ⟨by rfl, ?y3⟩) ?_
      case y3 => intro w'; go_simp; first | done | with_reducible rfl
      refine wpAny_take (i := 6) (v := ?v6) rfl (by kernel_rfl) (by kernel_rfl) (by kernel_rfl) (fun _ _ _ h => h) (Or.inl ⟨by rfl, ?y6⟩) ?_
      case y6 => intro w'; go_simp; first | done | with_reducible rfl
      refine wpAny_take (i := 9) (v := ?v9) rfl (by kernel_rfl) (by kernel_rfl) (by kernel_rfl) (fun _ _ _ h => h) (Or.inl ⟨by rfl, ?y9⟩) ?_
      case y9 => intro w'; go_simp; first | done | with_reducible rfl
      have hm1 : (k : Int).tmod a = (k : Int) % a := Int.tmod_eq_emod_of_nonneg kI
      have hm2 : IntKind.i64.wrap ((k : Int) / a) = (k : Int) / a := (i64w _).trans w5'
      refine any_two (i := 0) (j := 10) (by kernel_rfl) ?_ ?_
      · refine op_val rfl (by kernel_rfl) (exec_load T24 (.tmp 8) (by kernel_rfl) ⟨p, 0, none⟩ (by kernel_rfl) #[.int .i64 W, .int .i64 H, .slice (some ⟨gk, 0, none⟩) n ck] rfl BMd.out.load3) ?_
        refine any_one (i := 10) (by kernel_rfl) ?_
        refine op_val rfl (by kernel_rfl) (exec_load T48 (.tmp 52) (by kernel_rfl) ⟨tb, toff + k * 64, none⟩ (by kernel_rfl) (agOf 0 64 (T k)) z0 HLd.out) ?_
        refine any_one (i := 11) (by kernel_rfl) ?_
        refine op_call rfl (by kernel_rfl) (exec_call4 (.tmp 43) (.tmp 46) (.tmp 49) (.tmp 53) #[24, 3, 3, 48] (by kernel_rfl) cf35 (v0 := .agg #[.int .i64 W, .int .i64 H, .slice (some ⟨gk, 0, none⟩) n ck]) (v1 := .int .i64 ((k : Int) % a)) (v2 := .int .i64 ((k : Int) / a)) (v3 := .agg (agOf 0 64 (T k))) (by kernel_rfl) (Eq.trans (b := .int .i64 ((k : Int).tmod a)) (by kernel_rfl) (congrArg (Value.int .i64) hm1)) (Eq.trans (b := .int .i64 (IntKind.i64.wrap ((k : Int) / a))) (by kernel_rfl) (congrArg (Value.int .i64) hm2)) (by kernel_rfl)) ?_
        refine (rlay_cl (f := wholeK W H T k) (t := T k) ((k : Int) % a) ((k : Int) / a) ⟨_, _, rfl, Rd.of_cl HKd.out (by omega) (wholeK_bd W H T k), by omega, by omega⟩ HH.out).mono ?_
        rintro e w5 ⟨g2, c2, rfl, hg2, hcl, hb⟩
        refine ⟨_, rfl, ?_⟩
        have HC5 := hide (show Cl w5 g2 0 n (wholeK W H T (k + 1)) by rw [wholeK, HAB.out]; exact hcl)
        have BM5 := hide (BMd.out.below hb hpd)
        have HB5 := hide (HBd.out.trans (hb.mono (by omega)))
        have h25 : g2 ≠ p := by omega
        have hp5 : p < w5.heap.size := by have := hb.size; omega
        clear hcl hb
        refine wpAny_take (i := 12) (v := ?v12) rfl (by kernel_rfl) (by kernel_rfl) (by kernel_rfl) (fun _ _ _ h => h) (Or.inl ⟨by rfl, ?y12⟩) ?_
        case y12 => intro w'; go_simp; first | done | with_reducible rfl
        refine wpAny_take (i := 13) (v := ?v13) rfl (by kernel_rfl) (by kernel_rfl) (by kernel_rfl) (fun _ _ _ h => h) (Or.inl ⟨by rfl, ?y13⟩) ?_
        case y13 => intro w'; go_simp; first | done | with_reducible rfl
        refine wpAny_take (i := 14) (v := ?v14) rfl (by kernel_rfl) (by kernel_rfl) (by kernel_rfl) (fun _ _ _ h => h) (Or.inl ⟨by rfl, ?y14⟩) ?_
        case y14 => intro w'; go_simp; first | done | with_reducible rfl
        refine any_one (i := 15) (by kernel_rfl) ?_
        refine op_store T24 rfl (by kernel_rfl) (.tmp 8) (.tmp 55) (by kernel_rfl) p 0 (by kernel_rfl) #[.int .i64 W, .int .i64 H, .slice (some ⟨g2, 0, none⟩) n c2] (by kernel_rfl) rfl BM5.out.some3.1 BM5.out.some3.2 (by simp [Value.oneCell']) ?_
        intro w6 hset
        have HC6 := hide (HC5.out.setAt hset h25)
        have BM6 := hide (BM5.out.setAt hset rfl)
        have HB6 := hide (HB5.out.trans (hset.below (Nat.le_refl p)))
        have hp6 : p < w6.heap.size := by rw [hset.size]; exact hp5
        clear hset
        refine wpAny_done (by kernel_rfl) ?_ _
        go_wp2_with fail
        exact ⟨⟨k + 1, g2, c2, by omega, by go_num, HC6.out, h25, BM6.out, HB6.out, hp6⟩, by simp [intOf]; omega⟩
      · refine op_val rfl (by kernel_rfl) (exec_load T48 (.tmp 52) (by kernel_rfl) ⟨tb, toff + k * 64, none⟩ (by kernel_rfl) (agOf 0 64 (T k)) z0 HLd.out) ?_
        refine any_one (i := 0) (by kernel_rfl) ?_
        refine op_val rfl (by kernel_rfl) (exec_load T24 (.tmp 8) (by kernel_rfl) ⟨p, 0, none⟩ (by kernel_rfl) #[.int .i64 W, .int .i64 H, .slice (some ⟨gk, 0, none⟩) n ck] rfl BMd.out.load3) ?_
        refine any_one (i := 11) (by kernel_rfl) ?_
        refine op_call rfl (by kernel_rfl) (exec_call4 (.tmp 43) (.tmp 46) (.tmp 49) (.tmp 53) #[24, 3, 3, 48] (by kernel_rfl) cf35 (v0 := .agg #[.int .i64 W, .int .i64 H, .slice (some ⟨gk, 0, none⟩) n ck]) (v1 := .int .i64 ((k : Int) % a)) (v2 := .int .i64 ((k : Int) / a)) (v3 := .agg (agOf 0 64 (T k))) (by kernel_rfl) (Eq.trans (b := .int .i64 ((k : Int).tmod a)) (by kernel_rfl) (congrArg (Value.int .i64) hm1)) (Eq.trans (b := .int .i64 (IntKind.i64.wrap ((k : Int) / a))) (by kernel_rfl) (congrArg (Value.int .i64) hm2)) (by kernel_rfl)) ?_
        refine (rlay_cl (f := wholeK W H T k) (t := T k) ((k : Int) % a) ((k : Int) / a) ⟨_, _, rfl, Rd.of_cl HKd.out (by omega) (wholeK_bd W H T k), by omega, by omega⟩ HH.out).mono ?_
        rintro e w5 ⟨g2, c2, rfl, hg2, hcl, hb⟩
        refine ⟨_, rfl, ?_⟩
        have HC5 := hide (show Cl w5 g2 0 n (wholeK W H T (k + 1)) by rw [wholeK, HAB.out]; exact hcl)
        have BM5 := hide (BMd.out.below hb hpd)
        have HB5 := hide (HBd.out.trans (hb.mono (by omega)))
        have h25 : g2 ≠ p := by omega
        have hp5 : p < w5.heap.size := by have := hb.size; omega
        clear hcl hb
        refine wpAny_take (i := 12) (v := ?vb12) rfl (by kernel_rfl) (by kernel_rfl) (by kernel_rfl) (fun _ _ _ h => h) (Or.inl ⟨by rfl, ?yb12⟩) ?_
        case yb12 => intro w'; go_simp; first | done | with_reducible rfl
        refine wpAny_take (i := 13) (v := ?vb13) rfl (by kernel_rfl) (by kernel_rfl) (by kernel_rfl) (fun _ _ _ h => h) (Or.inl ⟨by rfl, ?yb13⟩) ?_
        case yb13 => intro w'; go_simp; first | done | with_reducible rfl
        refine wpAny_take (i := 14) (v := ?vb14) rfl (by kernel_rfl) (by kernel_rfl) (by kernel_rfl) (fun _ _ _ h => h) (Or.inl ⟨by rfl, ?yb14⟩) ?_
        case yb14 => intro w'; go_simp; first | done | with_reducible rfl
        refine any_one (i := 15) (by kernel_rfl) ?_
        refine op_store T24 rfl (by kernel_rfl) (.tmp 8) (.tmp 55) (by kernel_rfl) p 0 (by kernel_rfl) #[.int .i64 W, .int .i64 H, .slice (some ⟨g2, 0, none⟩) n c2] (by kernel_rfl) rfl BM5.out.some3.1 BM5.out.some3.2 (by simp [Value.oneCell']) ?_
        intro w6 hset
        have HC6 := hide (HC5.out.setAt hset h25)
        have BM6 := hide (BM5.out.setAt hset rfl)
        have HB6 := hide (HB5.out.trans (hset.below (Nat.le_refl p)))
        have hp6 : p < w6.heap.size := by rw [hset.size]; exact hp5
        clear hset
        refine wpAny_done (by kernel_rfl) ?_ _
        go_wp2_with fail
        exact ⟨⟨k + 1, g2, c2, by omega, by go_num, HC6.out, h25, BM6.out, HB6.out, hp6⟩, by simp [intOf]; omega⟩
    · obtain rfl : k = m := by omega
      obtain ⟨⟨k0, k1, k2⟩, kf0, kf1, kf2⟩ := BM3.out.c3
      obtain ⟨⟨l0, l1, l2⟩, lf0, lf1, lf2⟩ := BR3.out.c3
      have hgw : gk ≠ w.heap.size := fun e => by
        have h1 := HK.out.at hn0
        rw [e, l0] at h1
        cases h1
      go_wp2_with fail
      refine bodyPost_ret (v := .tuple #[.agg #[.int .i64 W, .int .i64 H, .slice (some ⟨gk, 0, none⟩) n ck], .int .i64 0]) (by simp [results, Try.results38, go_sem, World.cell?_setCell_same', l0, l1, l2]) rfl ⟨_, rfl, ?_, ?_⟩
      · exact ⟨_, _, rfl, Rd.of_cl (f := wholeK W H T k) (((HK.out.other (by simp; omega)).other (by simp; omega)).other (by simp; omega)) (show n ≤ 9223372036854775807 by omega) (wholeK_bd W H T k), by omega, by omega⟩
      · have hbw := hb3.out
        (repeat' (first | exact Below.refl _ _ | assumption | refine Below.setCell ?_ (by simp <;> omega) _ | refine Below.alloc ?_ (by simp <;> omega) _))
end Go.Proofs.Ytmckfppemhnhmaa
