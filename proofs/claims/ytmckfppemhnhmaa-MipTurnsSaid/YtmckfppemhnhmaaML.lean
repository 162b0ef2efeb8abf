import Derived.Test.YtmckfppemhnhmaaMK
namespace Go.Proofs.Ytmckfppemhnhmaa
open Go.RowKit

def fM : Nat → Int := fun i => match i with | 0 => 10 | 4 => 21 | 7 => 4 | 8 => 99 | _ => 0
def fN : Nat → Int := fun i => match i with | 0 => 1 | 1 => 2 | 2 => 3 | 3 => 4 | _ => 0
theorem fM_bd : ∀ i, 0 ≤ fM i ∧ fM i ≤ 255 := by intro i; unfold fM; split <;> omega
theorem fN_bd : ∀ i, 0 ≤ fN i ∧ fN i ≤ 255 := by intro i; unfold fN; split <;> omega
theorem b_right : rightV 3 1 12 = true := by decide +kernel
theorem b_w : halfV 3 = 1 := by decide +kernel
theorem b_h : halfV 1 = 1 := by decide +kernel
theorem b_n : (4 * (1 : Int) * 1).toNat = 4 := by decide +kernel
theorem b_0 : halfF 3 1 fM 0 = 16 := by decide +kernel
theorem b_3 : halfF 3 1 fM 3 = 2 := by decide +kernel
theorem b_ok : chainOk 1 1 4 1 = true := by decide +kernel
theorem b_lev : levelsV 5 2 = 3 := by decide +kernel
theorem b_side : sideV 5 1 = 2 := by decide +kernel
theorem cl_lit {w : World} {cs : Array Value} {n : Nat} {f : Nat → Int} (h : ∀ i, i < n → cs[i]? = some (.int .u8 (f i))) : Cl (w.alloc (.cells cs 5)) w.heap.size 0 n f := fun i hi => by
  rw [Nat.zero_add, cell_new, frozen_new]; exact ⟨h i hi, rfl⟩

set_option maxRecDepth 100000 in
set_option maxHeartbeats 1600000 in
theorem mawake_any (w : World) : Calls Try.prog 10 #[] w fun e w' => e = .returned (.bool true) ∧ Below w.heap.size w w' := by
  go_enter Try.func10, Try.ntmps10
  go_wp2_with fail
  refine (mhalf_cl (W := 3) (H := 1) (n := 12) (f := fM) ⟨_, 12, rfl, Rd.of_cl (cl_lit (n := 12) (f := fM) (fun i hi => ?ci)) (by decide) fM_bd, by decide, by decide⟩ b_right).mono ?_
  case ci =>
    rcases (by omega : i = 0 ∨ i = 1 ∨ i = 2 ∨ i = 3 ∨ i = 4 ∨ i = 5 ∨ i = 6 ∨ i = 7 ∨ i = 8 ∨ i = 9 ∨ i = 10 ∨ i = 11) with rfl | rfl | rfl | rfl | rfl | rfl | rfl | rfl | rfl | rfl | rfl | rfl <;> rfl
  rintro e w1 ⟨g, cp, rfl, hg, hcl, hb⟩
  rw [b_w, b_h, b_n] at hcl ⊢
  have hg1 : w.heap.size < g := by simp at hg; omega
  have HCL := hide hcl
  have hgl : g < w1.heap.size := World.block_lt_of_cell? w1 _ (hcl 0 (by omega)).1
  have hb1 := hide (Below.trans ((Below.refl _ _).alloc (Nat.le_refl _) _) (hb.mono (by simp)) : Below w.heap.size w w1)
  clear hb hcl hg
  go_upto_region 2 with (fail)
  generalize hw2 : w1.alloc (.cells #[.int .i64 1, .int .i64 1, .slice (some ⟨g, 0, none⟩) 4 cp] 24) = w2
  have B2 := hide (show Box w2 w1.heap.size #[.int .i64 1, .int .i64 1, .slice (some ⟨g, 0, none⟩) 4 cp] by rw [← hw2]; exact Box.mk' rfl)
  have C2 := hide (show Cl w2 g 0 4 (halfF 3 1 fM) by rw [← hw2]; exact HCL.out.alloc hgl _)
  have hb2 := hide (show Below w.heap.size w w2 by rw [← hw2]; exact hb1.out.alloc hb1.out.size _)
  have hs2 : w1.heap.size < w2.heap.size ∧ g < w2.heap.size := by rw [← hw2]; simp; omega
  clear hw2 HCL hb1
  generalize w1.heap.size = p at *
  go_wp2_with fail
  refine (mchain_any (W := 1) (H := 1) (n := 4) (f := fN) (many := 1) ⟨_, 4, rfl, Rd.of_cl (cl_lit (n := 4) (f := fN) (fun i hi => ?ci)) (by decide) fN_bd, by decide, by decide⟩).mono ?_
  case ci => rcases (by omega : i = 0 ∨ i = 1 ∨ i = 2 ∨ i = 3) with rfl | rfl | rfl | rfl <;> rfl
  intro e w3 hp
  unfold chainP at hp
  rw [b_ok] at hp
  obtain ⟨v, rfl, hch, hb⟩ := hp
  obtain ⟨g3, c3, rfl, _⟩ := (show Ch w3 v 1 1 1 fN from hch)
  have hal := (((Below.refl w2.heap.size w2).alloc (Nat.le_refl _) (.cells #[.int .u8 1, .int .u8 2, .int .u8 3, .int .u8 4] 5)).trans (hb.mono (by simp)))
  have B3 := hide (B2.out.below hal hs2.1)
  have C3 := hide (C2.out.below hal hs2.2)
  have hb3 := hide (hb2.out.trans (hal.mono hb2.out.size))
  clear hch hb hal B2 C2 hb2
  have c0 := C3.out.at (show 0 < 4 by omega)
  have c4 := C3.out.at (show 3 < 4 by omega)
  rw [b_0] at c0
  rw [b_3] at c4
  obtain ⟨⟨m0, m1, m2⟩, _⟩ := B3.out.c3
  go_wp2_with fail
  refine (levels_any 5 2 _ (by decide) (by decide) (by decide) (by decide)).mono ?_
  rintro e w4 ⟨rfl, hb⟩
  rw [b_lev]
  have hb4 := hide (hb3.out.trans (hb.mono hb3.out.size))
  clear hb hb3 c0 c4 m0 m1 m2 B3 C3
  go_wp2_with fail
  refine (side_any 5 1 _ (by decide) (by decide) (by decide)).mono ?_
  rintro e w5 ⟨rfl, hb⟩
  rw [b_side]
  have hb5 := hide (hb4.out.trans (hb.mono hb4.out.size))
  clear hb
  go_wp2_with fail
  go_ret
  exact ⟨rfl, hb5.out⟩

/-- the boxes of two parameters -/
structure EnvM (w : World) (I A : Array Value) (w' : World) : Prop where
  i : Box w' w.heap.size I
  a : Box w' (w.heap.size + 1) A
  sz : w.heap.size + 2 ≤ w'.heap.size
  be : Below w.heap.size w w'
theorem EnvM.below {w w' w'' : World} {I A : Array Value} (h : EnvM w I A w') (hb : Below w'.heap.size w' w'') : EnvM w I A w'' :=
  have h1 := h.sz
  ⟨h.i.below hb (by omega), h.a.below hb (by omega), Nat.le_trans h.sz hb.size, h.be.trans (hb.mono (by omega))⟩
theorem EnvM.start {w w' : World} {I A : Array Value} {T1 T2 : TypeId} (hb : Below ((w.alloc (.cells I T1)).alloc (.cells A T2)).heap.size ((w.alloc (.cells I T1)).alloc (.cells A T2)) w') : EnvM w I A w' :=
  ⟨Box.below (Box.old (Box.mk' rfl) (by simp)) hb (by simp; omega), Box.below (Box.mk' (by simp)) hb (by simp), by have := hb.size; simp at this; omega,
    Below.trans (((Below.refl _ _).alloc (Nat.le_refl _) _).alloc (by simp) _) (hb.mono (by simp; omega))⟩
theorem Box.two {w : World} {b : Nat} {x y : Value} (h : Box w b #[x, y]) : w.cell? ⟨b, 0, none⟩ = some x ∧ w.cell? ⟨b, 1, none⟩ = some y := ⟨(h 0 x rfl).1, (h 1 y rfl).1⟩
end Go.Proofs.Ytmckfppemhnhmaa
