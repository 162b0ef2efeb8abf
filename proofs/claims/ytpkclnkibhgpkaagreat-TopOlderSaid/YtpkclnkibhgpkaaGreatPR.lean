/-
A surface of a texture, as the texture layer decodes it: one block. Its conditions: a place inside the surface; a block that can be read; what a block decodes to.
-/
import Derived.Test.YtpkclnkibhgpkaaGreatPQ
namespace Go.Proofs.YtpkclnkibhgpkaaGreat
open Go.RowKit
def quad (t : Nat → Int) (k : Nat) : Array Value := #[.int .i64 (t (k * 4)), .int .i64 (t (k * 4 + 1)), .int .i64 (t (k * 4 + 2)), .int .i64 (t (k * 4 + 3))]
set_option maxRecDepth 10000 in
theorem index_tile (t : Nat → Int) (k : Nat) (hk : k < 16) (w : World) : (Instr.index 68 (.agg (agOf 0 64 t)) (.int .i64 k)).run Tryz.prog w = .ok (.agg (quad t k)) w := by
  rcases (by omega : k = 0 ∨ k = 1 ∨ k = 2 ∨ k = 3 ∨ k = 4 ∨ k = 5 ∨ k = 6 ∨ k = 7 ∨ k = 8 ∨ k = 9 ∨ k = 10 ∨ k = 11 ∨ k = 12 ∨ k = 13 ∨ k = 14 ∨ k = 15) with rfl | rfl | rfl | rfl | rfl | rfl | rfl | rfl | rfl | rfl | rfl | rfl | rfl | rfl | rfl | rfl <;> kernel_rfl
def Z64 : Array Value := Array.replicate 64 (.int .i64 0)
theorem zero68 (w : World) : (zeroValue 68).run Tryz.prog w = .ok (.agg Z64) w := by kernel_rfl
theorem build68 (w : World) : (Instr.build 68 #[]).run Tryz.prog w = .ok (.agg Z64) w := by kernel_rfl
theorem size68 : (Tryz.prog.info? 68).map (·.size) = some 64 := by kernel_rfl
theorem T68 : AggT Tryz.prog 68 64 Z64 := ⟨⟨_, Tryz.underlying68, rfl⟩, size68, zero68, by simp [Z64], build68⟩
def z4 : Array Value := #[.int .i64 0, .int .i64 0, .int .i64 0, .int .i64 0]
theorem T41 : AggT Tryz.prog 41 4 z4 :=
  ⟨⟨_, Tryz.underlying41, rfl⟩, by kernel_rfl, fun _ => by kernel_rfl, rfl, fun _ => by kernel_rfl⟩
theorem T47 : AggT Tryz.prog 47 3 #[.int .i64 0, .int .i64 0, .slice none 0 0] :=
  ⟨⟨_, Tryz.underlying47, rfl⟩, by kernel_rfl, fun _ => by kernel_rfl, rfl, fun _ => by kernel_rfl⟩
theorem agOf_ag0 (n : Nat) (f : Nat → Int) : Ag (agOf 0 n f) n f := ⟨(agOf_ag 0 n f).1, fun i hi => by have h := (agOf_ag 0 n f).2 i hi; simp only [Nat.zero_add] at h; exact h⟩
theorem Z64_at (j : Nat) (hj : j < 64) : Z64[j]? = some (.int .i64 0) := by unfold Z64; simp [hj]
theorem Z64_ag : Ag Z64 64 (fun _ => 0) := ⟨by simp [Z64], fun j hj => Z64_at j hj⟩
theorem z4_ag : Ag z4 4 (fun _ => 0) := ⟨rfl, fun i hi => by match i, hi with | 0, _ => rfl | 1, _ => rfl | 2, _ => rfl | 3, _ => rfl⟩
theorem quad_ag (t : Nat → Int) (k : Nat) : Ag (quad t k) 4 (fun j => t (k * 4 + j)) := ⟨rfl, fun i hi => by match i, hi with | 0, _ => rfl | 1, _ => rfl | 2, _ => rfl | 3, _ => rfl⟩
attribute [local irreducible] agOf
/-- but for block g, all old blocks are as they were -/
structure But (g : Nat) (w w' : World) : Prop where
  os : w'.os = w.os
  tape : w'.tape = w.tape
  output : w'.output = w.output
  size : w.heap.size ≤ w'.heap.size
  block : ∀ k, k < w.heap.size → k ≠ g → w'.heap[k]? = w.heap[k]?
theorem But.refl (g : Nat) (w : World) : But g w w := ⟨rfl, rfl, rfl, Nat.le_refl _, fun _ _ _ => rfl⟩
theorem But.trans {g : Nat} {a b c : World} (h : But g a b) (k : But g b c) : But g a c :=
  ⟨k.os.trans h.os, k.tape.trans h.tape, k.output.trans h.output, Nat.le_trans h.size k.size, fun i hi hg => (k.block i (Nat.lt_of_lt_of_le hi h.size) hg).trans (h.block i hi hg)⟩
theorem But.of_below {g B : Nat} {w w' : World} (h : Below B w w') (hB : w.heap.size ≤ B) : But g w w' := ⟨h.os, h.tape, h.output, h.size, fun k hk _ => h.block k (by omega)⟩
theorem But.below {g B : Nat} {w w' : World} (h : But g w w') (hg : B ≤ g) (hB : B ≤ w.heap.size) : Below B w w' := ⟨h.os, h.tape, h.output, h.size, fun k hk => h.block k (by omega) (by omega)⟩
theorem But.alloc {g : Nat} {a w : World} (h : But g a w) (o : Obj) : But g a (w.alloc o) := h.trans (But.of_below ((Below.refl _ _).alloc (Nat.le_refl _) o) (Nat.le_refl _))
theorem But.setCell {g : Nat} {a w : World} (h : But g a w) {p : Addr} (hp : p.block = g ∨ a.heap.size ≤ p.block) (v : Value) : But g a (w.setCell p v) :=
  ⟨h.os, h.tape, h.output, by have := h.size; simp [World.setCell]; exact this, fun k hk hg => by rw [Below.heap_setCell _ _ _ _ (by omega)]; exact h.block k hk hg⟩
theorem But.drew {g : Nat} {a w : World} (h : But g a w) : But g a w.drew := ⟨h.os, h.tape, h.output, h.size, h.block⟩
theorem Box.but {w w' : World} {g b : Nat} {cs : Array Value} (h : Box w b cs) (hb : But g w w') (h1 : b ≠ g) (h2 : b < w.heap.size) : Box w' b cs := fun j v hv =>
  let e := cell_alike (hb.block b h2 h1) ⟨b, j, none⟩ rfl
  ⟨e.1.trans (h j v hv).1, e.2.trans (h j v hv).2⟩
theorem Bk.but {w w' : World} {g b n : Nat} {f : Nat → Int} (h : Bk w b n f) (hb : But g w w') (h1 : b ≠ g) (h2 : b < w.heap.size) : Bk w' b n f := fun j hj =>
  let e := cell_alike (hb.block b h2 h1) ⟨b, j, none⟩ rfl
  ⟨e.1.trans (h j hj).1, e.2.trans (h j hj).2⟩
theorem Bk.other {w : World} {b n : Nat} {f : Nat → Int} (h : Bk w b n f) {a : Addr} (ha : a.block ≠ b) {v : Value} : Bk (w.setCell a v) b n f := fun j hj => by
  rw [World.cell?_setCell_other _ _ _ _ (by intro e; subst e; exact ha rfl), World.frozen?_setCell]; exact h j hj
theorem Box.lt {w : World} {b : Nat} {cs : Array Value} (h : Box w b cs) (h0 : 0 < cs.size) : b < w.heap.size := World.block_lt_of_cell? w _ (h 0 cs[0] (by simp [h0])).1
theorem Bk.lt {w : World} {b n : Nat} {f : Nat → Int} (h : Bk w b n f) (h0 : 0 < n) : b < w.heap.size := World.block_lt_of_cell? w _ (h 0 h0).1

theorem Bk.of_box {w : World} {b n : Nat} {cs : Array Value} {f : Nat → Int} (h : Box w b cs) (ha : Ag cs n f) : Bk w b n f := fun i hi => h i _ (ha.2 i hi)
/-- what the blocks of a format decode to -/
def DecOK (f : Int) (T : (Nat → Int) → Nat → Int) : Prop := ∀ (v : Value) (g : Nat → Int) (w : World), Rb w v 8 g → Calls Tryz.prog 45 #[.int .i64 f, v] w fun e w' => e = .returned (.tuple #[.agg (agOf 0 64 (T g)), .int .i64 0]) ∧ Below w.heap.size w w'
/-- one texel laid -/
def lay1 (W H : Int) (F t : Nat → Int) (X Y : Int) (i : Nat) : Nat → Int :=
  if X < W ∧ Y < H then fun j => if (Y * W + X).toNat * 4 ≤ j ∧ j < (Y * W + X).toNat * 4 + 4 then t (i * 4 + (j - (Y * W + X).toNat * 4)) else F j else F
def layT (W H : Int) (F t : Nat → Int) (x y : Int) : Nat → Nat → Int
  | 0 => F
  | k + 1 => lay1 W H (layT W H F t x y k) t (4 * x + (k : Int) % 4) (4 * y + (k : Int) / 4) k
set_option maxRecDepth 100000 in
set_option maxHeartbeats 2000000 in
theorem surf1_any (f W H Ly F n a c l x y sw sh : Int) (dv pv : Value) (T : (Nat → Int) → Nat → Int) (bk : Nat → Int) (w0 w : World) (bt ba bc bl bs gp m cap : Nat) (P : Nat → Int)
    (hb : Below w0.heap.size w0 w) (HBL : ∀ wr, Below w0.heap.size w0 wr → Calls Tryz.prog 44 #[.agg #[.int .i64 f, .int .i64 W, .int .i64 H, .int .i64 Ly, .int .i64 F, .int .i64 n, dv, pv], .int .i64 a, .int .i64 c, .int .i64 l, .int .i64 x, .int .i64 y] wr fun e w' =>
      ∃ v, e = .returned (.tuple #[v, .int .i64 0]) ∧ Rb w' v 8 bk ∧ Below wr.heap.size wr w') (HDE : DecOK f T)
    (hx : 0 ≤ x ∧ x ≤ 4096) (hy : 0 ≤ y ∧ y ≤ 4096) (hw : 0 ≤ sw ∧ sw ≤ 4096) (hh : 0 ≤ sh ∧ sh ≤ 4096) (hm : sw * sh = (m : Int))
    (ht : Box w bt #[.int .i64 f, .int .i64 W, .int .i64 H, .int .i64 Ly, .int .i64 F, .int .i64 n, dv, pv]) (h1 : Box w ba #[.int .i64 a]) (h2 : Box w bc #[.int .i64 c]) (h3 : Box w bl #[.int .i64 l])
    (h4 : Box w bs #[.int .i64 sw, .int .i64 sh, .slice (some ⟨gp, 0, none⟩) m cap]) (hp : Bk w gp (m * 4) P) (n5 : bs ≠ gp) (hg : gp < w.heap.size) :
    Calls Tryz.prog 43 #[.int .i64 x, .int .i64 y, .pointer (some ⟨bt, 0, none⟩), .pointer (some ⟨ba, 0, none⟩), .pointer (some ⟨bc, 0, none⟩), .pointer (some ⟨bl, 0, none⟩), .pointer (some ⟨bs, 0, none⟩)] w
      fun e w' => e = .returned (.tuple #[]) ∧ Bk w' gp (m * 4) (layT sw sh P (T bk) x y 16) ∧ But gp w w' := by
  have HP := hide hp
  have HT := hide ht
  have H4 := hide h4
  have l1 := (h1 0 _ rfl).1
  have l2 := (h2 0 _ rfl).1
  have l3 := (h3 0 _ rfl).1
  simp only [List.getElem_toArray, List.getElem_cons_zero] at l1 l2 l3
  have HB := hide hb
  have HX := hide (HBL w hb)
  have HD := hide HDE
  have hz := ht.lt (by simp)
  have hz4 := h4.lt (by simp)
  clear hp ht h1 h2 h3 h4 hb HBL HDE
  go_enter Tryz.func43, Tryz.ntmps43
  go_wp2_with (with_reducible refine wpList_run rfl (exec_load T25 (.tmp 2) rfl ⟨bt, 0, none⟩ rfl #[.int .i64 f, .int .i64 W, .int .i64 H, .int .i64 Ly, .int .i64 F, .int .i64 n, dv, pv] rfl (Box.loads HT.out)) ?_)
  refine HX.out.mono ?_
  rintro e w1 ⟨v, rfl, hv, hb1⟩
  have HT1 := hide (HT.out.below hb1 hz)
  have H41 := hide (H4.out.below hb1 hz4)
  have HP1 := hide (HP.out.below hb1 hg)
  have HBU := hide (But.of_below (g := gp) hb1 (Nat.le_refl _))
  have hz1 : w.heap.size ≤ w1.heap.size := hb1.size
  have DE := hide (HD.out v bk w1 hv)
  have l0 := (HT1.out.c8).1
  clear hb1 hv HX HT HP H4 l1 l2 l3
  go_wp2_with fail
  refine DE.out.mono ?_
  rintro e w2 ⟨rfl, hb2⟩
  have HT2 := hide (HT1.out.below hb2 (by omega))
  have H42 := hide (H41.out.below hb2 (by omega))
  have HP2 := hide (HP1.out.below hb2 (by omega))
  have HBU2 := hide (HBU.out.trans (But.of_below (g := gp) hb2 (Nat.le_refl _)))
  have hz2 : w.heap.size ≤ w2.heap.size := by have := hb2.size; omega
  clear hb2 DE l0 HT1 H41 HP1 HBU
  have A0 := hide (agOf_ag0 64 (T bk))
  have z0 := A0.out.1
  have k1 := hide (Bk.new Z64_ag w2 68)
  go_wp2_with (first
    | (with_reducible refine wpList_run rfl (exec_alloc T68 rfl) ?_)
    | (with_reducible refine wpList_store T68 rfl (.tmp 11) (.tmp 32) rfl w2.heap.size 0 rfl (agOf 0 64 (T bk)) rfl z0 (k1.out.isSome (by omega)) (k1.out.free (by omega)) A0.out.one ?_))
  intro w3 hs
  have K3 := hide ((k1.out.set hs A0.out).congr (g := T bk) fun j hj => by simp only [Nat.zero_add]; rw [if_pos (by omega), Nat.sub_zero])
  have hbs : Below w2.heap.size w2 w3 := ((Below.refl _ _).alloc (Nat.le_refl _) _).trans (hs.below (Nat.le_refl _))
  have H43 := hide (H42.out.below hbs (by omega))
  have HP3 := hide (HP2.out.below hbs (by omega))
  have HBU3 := hide (HBU2.out.trans (But.of_below (g := gp) hbs (Nat.le_refl _)))
  have hz3 : w.heap.size ≤ w3.heap.size := by have := hbs.size; omega
  clear hbs hs k1 H42 HP2 HBU2 HT2
  go_wp2_with (with_reducible refine wpList_run rfl (exec_load T68 (.tmp 11) rfl ⟨w2.heap.size, 0, none⟩ rfl (agOf 0 64 (T bk)) z0 (K3.out.load (by omega))) ?_)
  go_loopw [35] (fun i wr => ∃ k : Nat, k ≤ 16 ∧ i = .int .i64 k ∧ Bk wr gp (m * 4) (layT sw sh P (T bk) x y k) ∧ But gp w3 wr) (fun i _ => 16 - (intOf i).toNat)
  case atStart => exact ⟨0, by omega, rfl, HP3.out, But.refl _ _⟩
  case round =>
    obtain ⟨k, hk, rfl, hbk, hbu⟩ := hrel
    have HK := hide hbk
    have HU := hide hbu
    have hzr : w3.heap.size ≤ wr.heap.size := hbu.size
    clear hbk hbu
    by_cases hlt : k < 16
    · have ix := index_tile (T bk) k hlt
      have Q1 := hide (Bk.new z4_ag wr 41)
      have Q2 := hide (quad_ag (T bk) k)
      have q0 : (quad (T bk) k).size = 4 := rfl
      obtain ⟨qd, hqd⟩ : ∃ qd, qd = quad (T bk) k := ⟨_, rfl⟩
      rw [← hqd] at ix Q2 q0
      clear hqd
      go_wp2_with (first
        | (with_reducible refine wpList_run rfl (exec_alloc T41 rfl) ?_)
        | (with_reducible refine wpList_store T41 rfl (.tmp 14) (.tmp 38) rfl wr.heap.size 0 rfl qd rfl q0 (Q1.out.isSome (by omega)) (Q1.out.free (by omega)) Q2.out.one ?_))
      intro w4 hs
      have hbs : Below wr.heap.size wr w4 := ((Below.refl _ _).alloc (Nat.le_refl _) _).trans (hs.below (Nat.le_refl _))
      have K4 := hide ((Q1.out.set hs Q2.out).congr (g := fun j => T bk (k * 4 + j)) fun j hj => by rw [if_pos (by omega), Nat.sub_zero])
      have HK4 := hide (HK.out.below hbs (by omega))
      have H44 := hide ((H43.out.but HU.out n5 (by omega)).below hbs (by omega))
      have HU4 := hide (HU.out.trans (But.of_below (g := gp) hbs (Nat.le_refl _)))
      have hz5 : wr.heap.size ≤ w4.heap.size := hbs.size
      clear hbs hs Q1 ix HK HU
      obtain ⟨l0, l1, l2⟩ := H44.out.c3
      by_cases hin : 4 * x + (k : Int) % 4 < sw ∧ 4 * y + (k : Int) / 4 < sh
      · obtain ⟨o, ho⟩ : ∃ o : Nat, (4 * y + (k : Int) / 4) * sw + (4 * x + (k : Int) % 4) = (o : Int) := ⟨((4 * y + (k : Int) / 4) * sw + (4 * x + (k : Int) % 4)).toNat, by
          have := Int.mul_nonneg (show 0 ≤ 4 * y + (k : Int) / 4 by omega) hw.1
          omega⟩
        have ms := Int.mul_le_mul_of_nonneg_right (show 4 * y + (k : Int) / 4 ≤ sh - 1 by omega) hw.1
        rw [Int.sub_mul, Int.mul_comm sh sw, hm] at ms
        have mn := Int.mul_nonneg (show 0 ≤ 4 * y + (k : Int) / 4 by omega) hw.1
        have mm : (m : Int) ≤ 16777216 := by
          have := mul_bd (x := sw) (y := sh) (X := 4096) (Y := 4096) (by omega) (by omega) (by omega) (by omega)
          omega
        have e1 : wrap64 ((4 * y + (k : Int) / 4) * sw) = (4 * y + (k : Int) / 4) * sw := IntWalk.wrap64_in _ (by omega)
        have e2 : wrap64 ((4 * y + (k : Int) / 4) * sw + (4 * x + (k : Int) % 4)) = (o : Int) := by rw [ho]; exact IntWalk.wrap64_in _ (by omega)
        have e3 : (o : Int) < (m : Int) := by omega
        have HY := hide (show layT sw sh P (T bk) x y (k + 1) = fun j => if o * 4 ≤ j ∧ j < o * 4 + 4 then (fun j => T bk (k * 4 + j)) (j - o * 4) else layT sw sh P (T bk) x y k j by
          show lay1 _ _ _ _ _ _ _ = _
          unfold lay1
          rw [if_pos hin, show ((4 * y + (k : Int) / 4) * sw + (4 * x + (k : Int) % 4)).toNat = o by omega])
        have g0 := (agOf_ag0 4 (fun j => T bk (k * 4 + j))).1
        have G0 := hide (agOf_ag0 4 (fun j => T bk (k * 4 + j)))
        obtain ⟨i1, i2⟩ := hin
        clear ms mn ho mm
        go_wp2_with (first
          | (with_reducible refine wpList_run rfl (exec_load T41 (.tmp 14) rfl ⟨wr.heap.size, 0, none⟩ rfl (agOf 0 4 (fun j => T bk (k * 4 + j))) g0 (K4.out.load (by omega))) ?_)
          | (with_reducible refine wpList_store T41 rfl (.tmp 68) (.tmp 67) rfl gp (o * 4) rfl (agOf 0 4 (fun j => T bk (k * 4 + j))) rfl g0 (HK4.out.isSome (by omega)) (HK4.out.free (by omega)) G0.out.one ?_))
        intro w5 hs
        have HK5 := hide (HK4.out.set hs G0.out)
        rw [← HY.out] at HK5
        have HU5 := hide (HU4.out.trans (⟨hs.os, hs.tape, hs.output, by rw [hs.size]; exact Nat.le_refl _, fun q _ h => hs.block q h⟩ : But gp w4 w5))
        clear hs
        go_wp2
        go_roundw
        case rel => exact ⟨k + 1, by omega, by go_num, HK5.out, HU5.out⟩
        case measure => simp [intOf]; omega
      · have HY := hide (show layT sw sh P (T bk) x y (k + 1) = layT sw sh P (T bk) x y k by
          show lay1 _ _ _ _ _ _ _ = _
          unfold lay1; rw [if_neg hin])
        have d1 : (decide (4 * x + (k : Int) % 4 < sw) && decide (4 * y + (k : Int) / 4 < sh)) = false := by
          rw [Bool.and_eq_false_iff, decide_eq_false_iff_not, decide_eq_false_iff_not]; omega
        have HI := hide hin
        have HK5 := HK4.out
        rw [← HY.out] at HK5
        have HK6 := hide HK5
        clear hin HK5
        go_wp2
        all_goals first | (exfalso; have := HI.out; omega) | skip
        all_goals (go_roundw <;> first | exact ⟨k + 1, by omega, by go_num, HK6.out, HU4.out⟩ | (simp [intOf]; omega))
    · obtain rfl : k = 16 := by omega
      go_wp2
      go_end0
      exact ⟨rfl, HK.out, HBU3.out.trans HU.out⟩
end Go.Proofs.YtpkclnkibhgpkaaGreat
