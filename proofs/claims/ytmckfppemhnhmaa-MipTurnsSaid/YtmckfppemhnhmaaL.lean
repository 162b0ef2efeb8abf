import Derived.Test.YtmckfppemhnhmaaK
import Derived.StillTailTactics
import Derived.Deep.Cut

namespace Go.Proofs.Ytmckfppemhnhmaa
open Go.RowKit

theorem agOf_ag0 (n : Nat) (f : Nat → Int) : Ag (agOf 0 n f) n f := ⟨(agOf_ag 0 n f).1, fun i hi => by have h := (agOf_ag 0 n f).2 i hi; simp only [Nat.zero_add] at h; exact h⟩
attribute [local irreducible] agOf
/-- but for block g, all old blocks are as they were -/
structure But (g : Nat) (w w' : World) : Prop where
  os : w'.os = w.os
  tape : w'.tape = w.tape
  output : w'.output = w.output
  size : w.heap.size ≤ w'.heap.size
  block : ∀ k, k < w.heap.size → k ≠ g → w'.heap[k]? = w.heap[k]?
theorem But.refl (g : Nat) (w : World) : But g w w := ⟨rfl, rfl, rfl, Nat.le_refl _, fun _ _ _ => rfl⟩
theorem But.trans {g : Nat} {a b c : World} (h : But g a b) (k : But g b c) : But g a c :=
  ⟨k.os.trans h.os, k.tape.trans h.tape, k.output.trans h.output, Nat.le_trans h.size k.size, fun i hi hg => (k.block i (Nat.lt_of_lt_of_le hi h.size) hg).trans (h.block i hi hg)⟩
theorem But.of_below {g B : Nat} {w w' : World} (h : Below B w w') (hB : w.heap.size ≤ B) : But g w w' := ⟨h.os, h.tape, h.output, h.size, fun k hk _ => h.block k (by omega)⟩
theorem But.below {g B : Nat} {w w' : World} (h : But g w w') (hg : B ≤ g) (hB : B ≤ w.heap.size) : Below B w w' := ⟨h.os, h.tape, h.output, h.size, fun k hk => h.block k (by omega) (by omega)⟩
theorem But.alloc {g : Nat} {a w : World} (h : But g a w) (o : Obj) : But g a (w.alloc o) := h.trans (But.of_below ((Below.refl _ _).alloc (Nat.le_refl _) o) (Nat.le_refl _))
theorem But.setCell {g : Nat} {a w : World} (h : But g a w) {p : Addr} (hp : p.block = g ∨ a.heap.size ≤ p.block) (v : Value) : But g a (w.setCell p v) :=
  ⟨h.os, h.tape, h.output, by have := h.size; simp [World.setCell]; exact this, fun k hk hg => by rw [Below.heap_setCell _ _ _ _ (by omega)]; exact h.block k hk hg⟩
theorem But.drew {g : Nat} {a w : World} (h : But g a w) : But g a w.drew := ⟨h.os, h.tape, h.output, h.size, h.block⟩
/-- one block alike: its cells read alike -/
theorem cell_alike {w w' : World} {b : Nat} (h : w'.heap[b]? = w.heap[b]?) (x : Addr) (hx : x.block = b) : w'.cell? x = w.cell? x ∧ w'.frozen? x = w.frozen? x := by
  subst hx
  refine ⟨?_, ?_⟩
  · unfold World.cell?; rw [h]
  · unfold World.frozen?; rw [h]
theorem Box.but {w w' : World} {g b : Nat} {cs : Array Value} (h : Box w b cs) (hb : But g w w') (h1 : b ≠ g) (h2 : b < w.heap.size) : Box w' b cs := fun j v hv =>
  let e := cell_alike (hb.block b h2 h1) ⟨b, j, none⟩ rfl
  ⟨e.1.trans (h j v hv).1, e.2.trans (h j v hv).2⟩
theorem Bk.but {w w' : World} {g b n : Nat} {f : Nat → Int} (h : Bk w b n f) (hb : But g w w') (h1 : b ≠ g) (h2 : b < w.heap.size) : Bk w' b n f := fun j hj =>
  let e := cell_alike (hb.block b h2 h1) ⟨b, j, none⟩ rfl
  ⟨e.1.trans (h j hj).1, e.2.trans (h j hj).2⟩
theorem Bk.other {w : World} {b n : Nat} {f : Nat → Int} (h : Bk w b n f) {a : Addr} (ha : a.block ≠ b) {v : Value} : Bk (w.setCell a v) b n f := fun j hj => by
  rw [World.cell?_setCell_other _ _ _ _ (by intro e; subst e; exact ha rfl), World.frozen?_setCell]; exact h j hj
theorem Box.lt {w : World} {b : Nat} {cs : Array Value} (h : Box w b cs) (h0 : 0 < cs.size) : b < w.heap.size := World.block_lt_of_cell? w _ (h 0 cs[0] (by simp [h0])).1
theorem Bk.lt {w : World} {b n : Nat} {f : Nat → Int} (h : Bk w b n f) (h0 : 0 < n) : b < w.heap.size := World.block_lt_of_cell? w _ (h 0 h0).1

theorem write_but (W H x y : Int) (b o n cap : Nat) (f t : Nat → Int) (w : World) (hx : 0 ≤ x) (hx2 : x ≤ 4096) (hw : 0 ≤ y * W) (hw2 : y * W ≤ 67108864) (ho : 4 * (y * W + x) = o) (hon : o + 4 ≤ n) (hn : n ≤ 9223372036854775807)
    (hc : Cl w b 0 n f) :
    Calls Try.prog 49 #[.agg #[.int .i64 W, .int .i64 H, .slice (some ⟨b, 0, none⟩) n cap], .int .i64 x, .int .i64 y, tx t] w fun e w' => e = .returned (.tuple #[]) ∧ But b w w' ∧ Cl w' b 0 n (updK f o t 4) := by
  have w1 : wrap64 (y * W) = y * W := by exact wrap_in (by omega)
  have w2 : wrap64 (y * W + x) = y * W + x := by exact wrap_in (by omega)
  have w3 : wrap64 (4 * (y * W + x)) = (o : Int) := by rw [← ho]; exact wrap_in (by omega)
  have hbl : b < w.heap.size := World.block_lt_of_cell? w _ (hc o (by omega)).1
  have HC := hide hc
  have ho2 : (o : Int) ≤ 268500000 := by omega
  clear hc ho hw hw2 hx hx2
  unfold tx
  go_enter Try.func49, Try.ntmps49
  go_wp2_with fail
  go_loopw [11] (fun i wr => ∃ k : Nat, k ≤ 4 ∧ i = .int .i64 k ∧ Cl wr b 0 n (updK f o t k) ∧ wr.cell? ⟨w.heap.size, 0, none⟩ = some (.int .i64 W) ∧ wr.cell? ⟨w.heap.size, 2, none⟩ = some (.slice (some ⟨b, 0, none⟩) n cap) ∧ But b w wr) (fun i _ => 4 - (intOf i).toNat)
  case atStart =>
    have hb0 : Below w.heap.size w ((w.alloc (.cells #[.int .i64 W, .int .i64 H, .slice (some ⟨b, 0, none⟩) n cap] 24)).alloc (.cells #[.int .i64 (t 0), .int .i64 (t 1), .int .i64 (t 2), .int .i64 (t 3)] 38)) := by (repeat' (first | exact Below.refl _ _ | assumption | refine Below.setCell ?_ (by simp <;> omega) _ | refine Below.alloc ?_ (by simp <;> omega) _))
    refine ⟨0, by omega, rfl, (HC.out.below hb0 hbl).congr fun i hi => ?_, ?_, ?_, But.of_below hb0 (Nat.le_refl _)⟩
    · unfold updK; rw [if_neg (by omega)]
    · rw [cell_old _ _ (by simp), cell_new]; rfl
    · rw [cell_old _ _ (by simp), cell_new]; rfl
  case round =>
    obtain ⟨k, hk, rfl, hcl, hc0, hc2, hbw⟩ := hrel
    have HCL := hide hcl
    by_cases hlt : k < 4
    · have d1 := hcl.at (show o + k < n by omega)
      have d2 := hcl.fr (show o + k < n by omega)
      have ix := index_tx t k hlt
      clear hcl
      go_wp2_with fail
      go_roundw
      case rel =>
        refine ⟨k + 1, by omega, by go_num, HCL.out.next (clamp_if _), ?_, ?_, hbw.setCell (Or.inl rfl) _⟩
        · rw [World.cell?_setCell_other _ _ _ _ (by intro h; injection h; omega), hc0]
        · rw [World.cell?_setCell_other _ _ _ _ (by intro h; injection h; omega), hc2]
      case measure => simp [intOf]; omega
    · obtain rfl : k = 4 := by omega
      clear hcl
      go_wp2_with fail
      go_end0
      exact ⟨rfl, hbw, HCL.out⟩

/-- one texel of a tile laid -/
def layS (W H : Int) (f : Nat → Int) (t : Nat → Int) (i : Nat) (X Y : Int) : Nat → Int := if inV X Y W H then updK f (4 * (Y * W + X)).toNat (fun c => t (i * 4 + c)) 4 else f

theorem lay1_any {W H : Int} {n cap g bI bT i : Nat} {f t : Nat → Int} (X Y : Int) (w : World) (hr : rightV W H n = true) (hi : i < 16)
    (hI : Box w bI #[.int .i64 W, .int .i64 H, .slice (some ⟨g, 0, none⟩) n cap]) (hc : Cl w g 0 n f) (hT : Bk w bT 64 t) :
    Calls Try.prog 60 #[.int .i64 i, .int .i64 X, .int .i64 Y, .pointer (some ⟨bI, 0, none⟩), .pointer (some ⟨bT, 0, none⟩)] w
      fun e w' => e = .returned (.tuple #[]) ∧ Cl w' g 0 n (layS W H f t i X Y) ∧ But g w w' := by
  obtain ⟨⟨k0, k1, k2⟩, _⟩ := hI.c3
  unfold layS
  by_cases hin : inV X Y W H = true
  · rw [if_pos hin]
    obtain ⟨p1, p2, p3, p4, p5, p6, p7, p8⟩ := place_ok hr hin
    obtain ⟨o, ho⟩ : ∃ o : Nat, 4 * (Y * W + X) = o := ⟨(4 * (Y * W + X)).toNat, by omega⟩
    have HO := hide ho
    have ht0 := (hT (i * 4) (by omega)).1
    have ht1 := (hT (i * 4 + 1) (by omega)).1
    have ht2 := (hT (i * 4 + 2) (by omega)).1
    have ht3 := (hT (i * 4 + 3) (by omega)).1
    have hi16 : (i : Int) < 16 := by omega
    have HI := hide hin
    have HC := hide hc
    rw [ho, Int.toNat_natCast]
    clear hI hT hc hr hin ho
    go_enter Try.func60, Try.ntmps60
    go_wp2_with (go_at_call 46; refine (in_any _ _ _ _ _).mono ?_; rintro e w' ⟨rfl, rfl⟩; rw [HI.out])
    refine wp_region_still_tail 6 (by kernel_rfl) (by kernel_rfl) ?_
    simp only [List.take_succ_cons, List.take_zero, List.drop_succ_cons, List.drop_zero]
    repeat still_step
    refine wpStill_nil ?_
    change wpList _ _ _ _ _ w.drew
    have hcd : Cl w.drew g 0 n f := HC.out
    go_wp2_with fail
    refine (write_but W H X Y g o n cap f (fun c => t (i * 4 + c)) w.drew p1 p2 p3 p4 HO.out (by have := HO.out; omega) (by omega) hcd).mono ?_
    rintro e w2 ⟨rfl, hbut, hcl⟩
    have HB := hide hbut
    have HCL := hide hcl
    clear hbut hcl hcd k0 k1 k2 ht0 ht1 ht2 ht3
    go_wp2_with fail
    go_end0
    exact ⟨rfl, HCL.out, (But.refl g w).drew.trans HB.out⟩
  · rw [if_neg hin]
    have hin' : inV X Y W H = false := by simpa using hin
    have HI := hide hin'
    have HC := hide hc
    clear hI hT hc hr hin hin'
    go_enter Try.func60, Try.ntmps60
    go_wp2_with (go_at_call 46; refine (in_any _ _ _ _ _).mono ?_; rintro e w' ⟨rfl, rfl⟩; rw [HI.out])
    go_end0
    exact ⟨rfl, HC.out, But.refl _ _⟩

def layK (W H : Int) (f t : Nat → Int) (x y : Int) : Nat → Nat → Int
  | 0 => f
  | k + 1 => layS W H (layK W H f t x y k) t k (4 * x + (k : Int) % 4) (4 * y + (k : Int) / 4)
theorem layS_bd {W H : Int} {f t : Nat → Int} {i : Nat} {X Y : Int} (hf : ∀ i, 0 ≤ f i ∧ f i ≤ 255) : ∀ j, 0 ≤ layS W H f t i X Y j ∧ layS W H f t i X Y j ≤ 255 := by
  intro j; unfold layS; split
  · exact updK_bd hf _ _ j
  · exact hf j
theorem layK_bd {W H : Int} {f t : Nat → Int} {x y : Int} (hf : ∀ i, 0 ≤ f i ∧ f i ≤ 255) : ∀ k j, 0 ≤ layK W H f t x y k j ∧ layK W H f t x y k j ≤ 255
  | 0 => hf
  | k + 1 => layS_bd (layK_bd hf k)

theorem lay_any {W H : Int} {n cap g : Nat} {f t : Nat → Int} {x y : Int} {w : World} (hr : rightV W H n = true) (hx : 0 ≤ x ∧ x ≤ 4096) (hy : 0 ≤ y ∧ y ≤ 4096) (hc : Cl w g 0 n f) (hg : g < w.heap.size) :
    Calls Try.prog 55 #[.agg #[.int .i64 W, .int .i64 H, .slice (some ⟨g, 0, none⟩) n cap], .int .i64 x, .int .i64 y, .agg (agOf 0 64 t)] w
      fun e w' => e = .returned (.tuple #[]) ∧ Cl w' g 0 n (layK W H f t x y 16) ∧ But g w w' := by
  have HC := hide hc
  have HR := hide hr
  have A0 := hide (agOf_ag0 64 t)
  have hm := hmf
  clear hc hr
  go_enter Try.func55, Try.ntmps55
  go_wp2_with fail
  generalize hw0 : (w.alloc (.cells #[.int .i64 W, .int .i64 H, .slice (some ⟨g, 0, none⟩) n cap] 24)).alloc (.cells (agOf 0 64 t) 48) = w0
  have BI := hide (show Box w0 w.heap.size #[.int .i64 W, .int .i64 H, .slice (some ⟨g, 0, none⟩) n cap] by rw [← hw0]; (repeat' (first | (refine Box.mk' ?_; simp; done) | (refine Box.old ?_ ?_; rotate_left; (simp <;> omega)))))
  have BT := hide (show Bk w0 (w.heap.size + 1) 64 t from Bk.of_box (cs := agOf 0 64 t) (by rw [← hw0]; (repeat' (first | (refine Box.mk' ?_; simp; done) | (refine Box.old ?_ ?_; rotate_left; (simp <;> omega))))) A0.out)
  have HB := hide (show But g w w0 by rw [← hw0]; exact ((But.refl g w).alloc _).alloc _)
  have hs0 : w0.heap.size = w.heap.size + 2 := by rw [← hw0]; simp
  have hc0 := hide (show Cl w0 g 0 n f by rw [← hw0]; exact (HC.out.alloc hg _).alloc (by simp; omega) _)
  clear hw0
  refine (each_any 60 _ _ x y (fun k wr => Cl wr g 0 n (layK W H f t x y k) ∧ But g w0 wr) w0 hx hy cf60 ⟨hc0.out, But.refl _ _⟩ (fun i wr hi hj => ?_)).mono ?_
  · refine (lay1_any (n := n) (cap := cap) (f := layK W H f t x y i) (t := t) _ _ wr HR.out hi (BI.out.but hj.2 (by omega) (by omega)) hj.1 (BT.out.but hj.2 (by omega) (by omega))).mono ?_
    rintro e w' ⟨rfl, h1, h2⟩
    exact ⟨rfl, h1, hj.2.trans h2⟩
  rintro e w2 ⟨rfl, hk, hb2⟩
  have HK := hide hk
  have HB2 := hide (HB.out.trans hb2)
  clear hk hb2 hm
  go_wp2_with fail
  go_end0
  exact ⟨rfl, HK.out, HB2.out⟩

def layP (W H x y : Int) (n : Nat) (f t : Nat → Int) (w : World) (e : Ending) (w' : World) : Prop :=
  ∃ v, e = .returned (.tuple #[v, .int .i64 (if hasV W H x y n then 0 else 1)]) ∧ Out w' v (hasV W H x y n) W H n (layK W H f t x y 16) ∧ Below w.heap.size w w'

set_option maxHeartbeats 400000 in
theorem ilay_ok {W H : Int} (x y : Int) {n : Nat} {f t : Nat → Int} {v : Value} {w : World} (hv : Im w v W H n f) (hh : hasV W H x y n = true) :
    Calls Try.prog 33 #[v, .int .i64 x, .int .i64 y, .agg (agOf 0 64 t)] w (layP W H x y n f t w) := by
  obtain ⟨ao, cap, rfl, hrd, hW, hH⟩ := hv
  obtain ⟨_, _, e, hn, hf, hc⟩ := hrd
  injection e with e1 e2 e3
  subst e1 e3
  obtain ⟨hr, x1, x2, y1, y2⟩ := has_facts hh
  unfold layP
  rw [hh]
  have hpo := place_ok hr (near_ok hr (Int.le_refl 0) (Int.le_refl 0))
  have n0 : 0 < n := hpo.2.2.2.2.2.2.1
  have n1 : n ≤ 67108864 := hpo.2.2.2.2.2.2.2
  obtain ⟨b, off, rfl, hcc⟩ := hc n0
  have HC := hide hcc
  have HF := hide hf
  have HH := hide hh
  have HR := hide hr
  have hbl : b < w.heap.size := World.block_lt_of_cell? w _ (HC.out 0 (by omega))
  have A0 := hide (agOf_ag0 64 t)
  have z0 := A0.out.1
  clear hr hc hf hcc hh hpo
  go_enter Try.func33, Try.ntmps33
  go_wp2_with fail
  refine (has_any W H x y _ n cap _ hW.1 hW.2 hH.1 hH.2).mono ?_
  rintro e w1 ⟨rfl, hb⟩
  rw [HH.out]
  have BI := hide (Box.below (b := w.heap.size) (cs := #[.int .i64 W, .int .i64 H, .slice (some ⟨b, off, none⟩) n cap]) (by (repeat' (first | (refine Box.mk' ?_; simp; done) | (refine Box.old ?_ ?_; rotate_left; (simp <;> omega))))) hb (by simp; omega))
  have BT := hide (Bk.of_box (Box.below (b := w.heap.size + 1) (cs := agOf 0 64 t) (by (repeat' (first | (refine Box.mk' ?_; simp; done) | (refine Box.old ?_ ?_; rotate_left; (simp <;> omega))))) hb (by simp <;> omega)) A0.out)
  have BR := hide (Box.below (b := w.heap.size + 1 + 1) (cs := #[.int .i64 0, .int .i64 0, .slice none 0 0]) (by (repeat' (first | (refine Box.mk' ?_; simp; done) | (refine Box.old ?_ ?_; rotate_left; (simp <;> omega))))) hb (by simp))
  have hb1 := hide (Below.trans (by (repeat' (first | exact Below.refl _ _ | assumption | refine Below.setCell ?_ (by simp <;> omega) _ | refine Below.alloc ?_ (by simp <;> omega) _))) (hb.mono (by simp; omega)) : Below w.heap.size w w1)
  have hs1 : w.heap.size + 3 ≤ w1.heap.size := by have := hb.size; simp at this; omega
  clear hb
  obtain ⟨⟨k0, k1, k2⟩, kf0, kf1, kf2⟩ := BI.out.c3
  go_wp2_with fail
  refine (copied_any (f := f) W H n0 n1 ⟨b, off, rfl, fun i hi => (hb1.out.cell (by exact hbl)).trans (HC.out i hi)⟩).mono ?_
  rintro e w2 ⟨g, cap', rfl, hg, hcl, hb2⟩
  have BI2 := hide (BI.out.below hb2 (by omega))
  have BT2 := hide (BT.out.below hb2 (by omega))
  have BR2 := hide (BR.out.below hb2 (by omega))
  have hb3 := hide (hb1.out.trans (hb2.mono (by omega)))
  have hs2 := hb2.size
  have hgl : g < w2.heap.size := World.block_lt_of_cell? w2 _ (hcl 0 n0).1
  have HCL := hide hcl
  clear hb2 hcl k0 k1 k2 kf0 kf1 kf2
  obtain ⟨⟨k0, k1, k2⟩, kf0, kf1, kf2⟩ := BI2.out.c3
  go_upto_region 4 with (fail)
  generalize hw3 : ((w2.setCell ⟨w.heap.size, 0, none⟩ (.int .i64 W)).setCell ⟨w.heap.size, 1, none⟩ (.int .i64 H)).setCell ⟨w.heap.size, 2, none⟩ (.slice (some ⟨g, 0, none⟩) n cap') = w3
  have BI3 := hide (show Box w3 w.heap.size #[.int .i64 W, .int .i64 H, .slice (some ⟨g, 0, none⟩) n cap'] by rw [← hw3]; exact BI2.out.put3)
  have BT3 := hide (show Bk w3 (w.heap.size + 1) 64 t by
    rw [← hw3]
    exact ((BT2.out.other (by simp)).other (by simp)).other (by simp))
  have BR3 := hide (show Box w3 (w.heap.size + 1 + 1) #[.int .i64 0, .int .i64 0, .slice none 0 0] by
    rw [← hw3]
    exact ((BR2.out.other (by simp <;> omega)).other (by simp <;> omega)).other (by simp <;> omega))
  have HC3 := hide (show Cl w3 g 0 n f by
    rw [← hw3]
    exact ((HCL.out.other (by simp; omega)).other (by simp; omega)).other (by simp; omega))
  have hb4 := hide (show Below w.heap.size w w3 by
    rw [← hw3]
    have hbw := hb3.out
    (repeat' (first | exact Below.refl _ _ | assumption | refine Below.setCell ?_ (by simp <;> omega) _ | refine Below.alloc ?_ (by simp <;> omega) _)))
  have hs3 : w3.heap.size = w2.heap.size := by rw [← hw3]; simp [World.setCell]
  clear hw3 k0 k1 k2 kf0 kf1 kf2
  obtain ⟨⟨k0, k1, k2⟩, kf0, kf1, kf2⟩ := BI3.out.c3
  have Hs3 := hide hs3
  clear hs3
  go_wp2_with (with_reducible refine wpList_run rfl (exec_load T48 (.tmp 7) rfl ⟨w.heap.size + 1, 0, none⟩ rfl (agOf 0 64 t) z0 (BT3.out.load (by omega))) ?_)
  refine (lay_any (f := f) (t := t) HR.out ⟨x1, by omega⟩ ⟨y1, by omega⟩ HC3.out (by have := Hs3.out; omega)).mono ?_
  rintro e w4 ⟨rfl, hcl, hbut⟩
  clear k0 k1 k2 kf0 kf1 kf2
  have h1 := Hs3.out
  obtain ⟨⟨k0, k1, k2⟩, kf0, kf1, kf2⟩ := (BI3.out.but hbut (by omega) (by omega)).c3
  obtain ⟨⟨l0, l1, l2⟩, lf0, lf1, lf2⟩ := (BR3.out.but hbut (by omega) (by omega)).c3
  have HC4 := hide hcl
  have hb5 := hide (hb4.out.trans (hbut.below (B := w.heap.size) (by omega) (by omega)))
  clear hcl hbut h1
  go_wp2_with fail
  refine bodyPost_ret (v := .tuple #[.agg #[.int .i64 W, .int .i64 H, .slice (some ⟨g, 0, none⟩) n cap'], .int .i64 0]) (by simp [results, Try.results33, go_sem, World.cell?_setCell_same', l0, l1, l2]) rfl ⟨_, rfl, ?_, ?_⟩
  · refine ⟨_, _, rfl, Rd.of_cl (f := layK W H f t x y 16) (((HC4.out.other (by simp; omega)).other (by simp; omega)).other (by simp; omega)) hn (layK_bd HF.out 16), hW, hH⟩
  · have hbw := hb5.out
    (repeat' (first | exact Below.refl _ _ | assumption | refine Below.setCell ?_ (by simp <;> omega) _ | refine Below.alloc ?_ (by simp <;> omega) _))

theorem ilay_no {W H : Int} (x y : Int) {n : Nat} {f t : Nat → Int} {v : Value} {w : World} (hv : Im w v W H n f) (hh : hasV W H x y n = false) :
    Calls Try.prog 33 #[v, .int .i64 x, .int .i64 y, .agg (agOf 0 64 t)] w (layP W H x y n f t w) := by
  obtain ⟨ao, cap, rfl, hrd, hW, hH⟩ := hv
  unfold layP
  rw [hh]
  have HH := hide hh
  clear hh hrd
  go_enter Try.func33, Try.ntmps33
  go_wp2_with fail
  refine (has_any W H x y _ n cap _ hW.1 hW.2 hH.1 hH.2).mono ?_
  rintro e w1 ⟨rfl, hb⟩
  rw [HH.out]
  have BR := hide (Box.below (b := w.heap.size + 1 + 1) (cs := #[.int .i64 0, .int .i64 0, .slice none 0 0]) (by (repeat' (first | (refine Box.mk' ?_; simp; done) | (refine Box.old ?_ ?_; rotate_left; (simp <;> omega))))) hb (by simp))
  have hb1 := hide (Below.trans (by (repeat' (first | exact Below.refl _ _ | assumption | refine Below.setCell ?_ (by simp <;> omega) _ | refine Below.alloc ?_ (by simp <;> omega) _))) (hb.mono (by simp; omega)) : Below w.heap.size w w1)
  clear hb
  obtain ⟨⟨l0, l1, l2⟩, lf0, lf1, lf2⟩ := BR.out.c3
  go_wp2_with fail
  refine bodyPost_ret (v := .tuple #[.agg #[.int .i64 0, .int .i64 0, .slice none 0 0], .int .i64 1]) (by simp [results, Try.results33, go_sem, World.cell?_setCell_same', l0, l1, l2]) rfl ⟨_, rfl, Out.nil _ _ _ _ _, ?_⟩
  have hbw := hb1.out
  (repeat' (first | exact Below.refl _ _ | assumption | refine Below.setCell ?_ (by simp <;> omega) _ | refine Below.alloc ?_ (by simp <;> omega) _))
theorem ilay_any {W H : Int} (x y : Int) {n : Nat} {f t : Nat → Int} {v : Value} {w : World} (hv : Im w v W H n f) :
    Calls Try.prog 33 #[v, .int .i64 x, .int .i64 y, .agg (agOf 0 64 t)] w (layP W H x y n f t w) := by
  by_cases h : hasV W H x y n = true
  · exact ilay_ok x y hv h
  · exact ilay_no x y hv (by simpa using h)
end Go.Proofs.Ytmckfppemhnhmaa
