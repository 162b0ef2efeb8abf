import Derived.Test.YtmckfppemhnhmaaMM
import Derived.Test.YtmckfppemhnhmaaMP
namespace Go.Proofs.Ytmckfppemhnhmaa
open Go.RowKit

theorem exec_call1 {P : Program} {o : Oper} {a : Act} {w : World} {f : FuncId} (x0 : Operand) (ts : Array TypeId) (ho : o.op = .call { callee := .value (.func f), args := #[x0], argTypes := ts })
    (hf : ∀ args w, (callFunc f args).run P w = .ok (.enter f args) w) {v0 : Value} (h0 : a.eval x0 = v0) : (execOp a.eval o).run P w = .ok (.enter f #[v0]) w := by
  subst h0
  unfold execOp
  simp only [ho]
  simp [resolve, go_sem, hf, Act.eval]
theorem cf39 (args : Array Value) (w : World) : (callFunc 39 args).run Try.prog w = .ok (.enter 39 args) w := by kernel_rfl
theorem cf14 (args : Array Value) (w : World) : (callFunc 14 args).run Try.prog w = .ok (.enter 14 args) w := by kernel_rfl
theorem Box.cells {w : World} {b : Nat} {cs : Array Value} (h : Box w b cs) : ∀ j v, cs[j]? = some v → w.cell? ((⟨b, 0, none⟩ : Addr).add j) = some v := fun j v hj => by
  have := (h j v hj).1
  simp only [Addr.add]
  split
  · subst_vars; exact this
  · simpa using this
theorem Im.setCell {w : World} {v : Value} {W H : Int} {n : Nat} {f : Nat → Int} (h : Im w v W H n f) {ad : Addr} {u0 : Value} (u : Value) (hc : w.cell? ad = some u0) (hu : ∀ z, u0 ≠ .int .u8 z) : Im (w.setCell ad u) v W H n f := by
  obtain ⟨ao, cap, rfl, ⟨ao', cap', e, hn, hf, hcc⟩, hW, hH⟩ := h
  refine ⟨ao, cap, rfl, ⟨ao', cap', e, hn, hf, fun h0 => ?_⟩, hW, hH⟩
  obtain ⟨b, off, e2, h2⟩ := hcc h0
  refine ⟨b, off, e2, fun i hi => ?_⟩
  rw [World.cell?_setCell_other, h2 i hi]
  intro e3
  rw [e3, h2 i hi] at hc
  injection hc with hc
  exact hu _ hc.symm
theorem Im.put3 {w : World} {v : Value} {W H : Int} {n : Nat} {f : Nat → Int} (h : Im w v W H n f) {b : Nat} {x y x' y' : Int} {ao : Option Addr} {m c : Nat} {z' : Value} (hb : Box w b #[.int .i64 x, .int .i64 y, .slice ao m c]) :
    Im (((w.setCell ⟨b, 0, none⟩ (.int .i64 x')).setCell ⟨b, 1, none⟩ (.int .i64 y')).setCell ⟨b, 2, none⟩ z') v W H n f := by
  have h1 := hb.set (k := 0) (.int .i64 x') (by simp)
  have h2 := h1.set (k := 1) (.int .i64 y') (by simp)
  refine ((h.setCell (u0 := .int .i64 x) _ (hb 0 _ rfl).1 (fun z e => by injection e with e1 _; exact absurd e1 (by decide))).setCell (u0 := .int .i64 y) _ (h1 1 _ rfl).1 (fun z e => by injection e with e1 _; exact absurd e1 (by decide))).setCell (u0 := .slice ao m c) _ (h2 2 _ rfl).1 (fun z e => by injection e)
theorem EnvM.other {w w1 w2 : World} {I A : Array Value} {pf : Nat} (h : EnvM w I A w1) (hb : Below pf w1 w2) (hp : w.heap.size + 2 ≤ pf) : EnvM w I A w2 :=
  ⟨h.i.below hb (by omega), h.a.below hb (by omega), Nat.le_trans h.sz hb.size, h.be.trans (hb.mono (by omega))⟩
theorem paint_bd (t : Nat → Int) (m i : Nat) : 0 ≤ paintF t m i ∧ paintF t m i ≤ 255 := by unfold paintF; split; exact colF_bd t i; omega
/-- the flat image, so far -/
def FlatR (w1 : World) (a b n : Nat) (t : Nat → Int) (pf m : Nat) (w : World) : Prop :=
  ∃ ao cap, Im w (.agg #[.int .i64 a, .int .i64 b, .slice ao n cap]) a b n (paintF t m) ∧ Box w pf #[.int .i64 a, .int .i64 b, .slice ao n cap] ∧ Below pf w1 w ∧ pf < w.heap.size
theorem turn_half {w : World} {g a b p q N cap : Nat} {f : Nat → Int} (h : Cl w g 0 N (turnN p q (halfF a b f))) (hf : ∀ i, 0 ≤ f i ∧ f i ≤ 255) (ha : 1 ≤ a) (hb : 1 ≤ b) (hp : halfV a = (p : Int)) (hq : halfV b = (q : Int)) (hN : N = 4 * (p * q))
    (hN2 : N ≤ 67108864) (hp2 : p ≤ 4096) (hq2 : q ≤ 4096) : Im w (.agg #[.int .i64 q, .int .i64 p, .slice (some ⟨g, 0, none⟩) N cap]) q p N (halfF b a (turnN a b f)) :=
  (show Im w (.agg #[.int .i64 q, .int .i64 p, .slice (some ⟨g, 0, none⟩) N cap]) q p N (turnN p q (halfF a b f)) from ⟨_, _, rfl, Rd.of_cl h (by omega) (turnN_bd (halfF_bd hf)), by omega, by omega⟩).congr
    (halfF_bd (turnN_bd hf)) (fun i hi => half_turn ha hb hp hq i (by omega))

theorem any_three {P : Program} {md : Region.Mode} {ops : Array Oper} {Q : Exit → Act → World → Prop} {i j k : Nat} {fuel : Nat} {listed : Array Bool} {a : Act} {w : World} (hr : Region.ready md ops listed = [i, j, k]) (hi : wpOp P ops Q i (wpAny P md ops Q fuel (listed.setIfInBounds i true)) a w)
    (hj : wpOp P ops Q j (wpAny P md ops Q fuel (listed.setIfInBounds j true)) a w) (hk : wpOp P ops Q k (wpAny P md ops Q fuel (listed.setIfInBounds k true)) a w) : wpAny P md ops Q (fuel + 1) listed a w :=
  wpAny_ready hr (by simp) (fun m hm => by simp at hm; rcases hm with rfl | rfl | rfl; exact hi; exact hj; exact hk)
theorem cf17 (args : Array Value) (w : World) : (callFunc 17 args).run Try.prog w = .ok (.enter 17 args) w := by kernel_rfl
theorem cf15 (args : Array Value) (w : World) : (callFunc 15 args).run Try.prog w = .ok (.enter 15 args) w := by kernel_rfl
/-- the last of the flat image's sizes -/
def LastR (w : World) (gc kk : Nat) (t : Nat → Int) : Prop :=
  ∃ ap cp, w.cell? ⟨gc, kk * 3, none⟩ = some (.int .i64 1) ∧ w.cell? ⟨gc, kk * 3 + 1, none⟩ = some (.int .i64 1) ∧ w.cell? ⟨gc, kk * 3 + 2, none⟩ = some (.slice ap 4 cp) ∧ Im w (.agg #[.int .i64 1, .int .i64 1, .slice ap 4 cp]) 1 1 4 (colF t)
theorem LastR.below {w w' : World} {gc kk : Nat} {t : Nat → Int} (h : LastR w gc kk t) (hb : Below w.heap.size w w') : LastR w' gc kk t := by
  obtain ⟨ap, cp, h1, h2, h3, h4⟩ := h
  exact ⟨ap, cp, (hb.cell (World.block_lt_of_cell? w _ h1)).trans h1, (hb.cell (World.block_lt_of_cell? w _ h2)).trans h2, (hb.cell (World.block_lt_of_cell? w _ h3)).trans h3, h4.below hb (Nat.le_refl _)⟩
theorem mchain_flat {a b n : Nat} {t : Nat → Int} {v : Value} {w : World} {kk : Nat} (hv : Im w v a b n (colF t)) (hr : rightV a b n = true) (hl : levelsV a b = (kk : Int) + 1) (h1 : hk kk a = 1) (h2 : hk kk b = 1) :
    Calls Try.prog 15 #[v, .int .i64 ((kk : Int) + 1)] w fun e w' => ∃ gc capc, e = .returned (.tuple #[.slice (some ⟨gc, 0, none⟩) (kk + 1) capc, .int .i64 0]) ∧ LastR w' gc kk t ∧ Below w.heap.size w w' := by
  refine (mchain_any (many := (kk : Int) + 1) hv).mono ?_
  rintro e w' ⟨v', rfl, hc, hb⟩
  have hok : chainOk a b n ((kk : Int) + 1) = true := by
    unfold chainOk
    rw [hr, hl]
    simp
    omega
  rw [hok] at hc ⊢
  simp only [if_true] at hc ⊢
  rw [show ((kk : Int) + 1).toNat = kk + 1 by omega] at hc
  obtain ⟨g, cap, rfl, h⟩ := hc
  obtain ⟨ao, cp, c0, c1, c2, hi⟩ := h kk (by omega)
  have hn : chN a b kk = 4 := by unfold chN; rw [h1, h2]; rfl
  rw [h1] at c0
  rw [h2] at c1
  rw [hn] at c2
  rw [h1, h2, hn, chF_col] at hi
  exact ⟨g, cap, rfl, ⟨ao, cp, c0, c1, c2, hi⟩, hb⟩
end Go.Proofs.Ytmckfppemhnhmaa
