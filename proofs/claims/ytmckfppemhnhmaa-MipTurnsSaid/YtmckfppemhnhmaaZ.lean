import Derived.Test.YtmckfppemhnhmaaY
import Derived.Deep.RegionHeld3
import Derived.Deep.AppendLies
import Derived.Deep.DeepCutAuto
namespace Go.Proofs.Ytmckfppemhnhmaa
open Go.RowKit
attribute [local irreducible] agOf

/-- a copy of an image: its own box, its own bytes -/
def CopyR (W H : Int) (n : Nat) (f : Nat → Int) (w0 : World) (s : Value) (w' : World) : Prop :=
  ∃ p g cap, s = .pointer (some ⟨p, 0, none⟩) ∧ Box w' p #[.int .i64 W, .int .i64 H, .slice (some ⟨g, 0, none⟩) n cap] ∧ Cl w' g 0 n f ∧ p ≠ g ∧ w0.heap.size ≤ p ∧ w0.heap.size ≤ g ∧ Below w0.heap.size w0 w'

/-- what a laid image is: bytes of its own -/
def layC (W H x y : Int) (n : Nat) (f t : Nat → Int) (w : World) (e : Ending) (w' : World) : Prop :=
  ∃ g cap, e = .returned (.tuple #[.agg #[.int .i64 W, .int .i64 H, .slice (some ⟨g, 0, none⟩) n cap], .int .i64 0]) ∧ w.heap.size ≤ g ∧ Cl w' g 0 n (layK W H f t x y 16) ∧ Below w.heap.size w w'

section
variable {w1 : World} {o : Obj}
theorem ownA : ((w1.alloc (.cells #[] 5)).drew).ownsRow w1.heap.size 5 1 (.slice (some ⟨w1.heap.size, 0, none⟩) 0 0) 0 [] := (World.ownsRow_made w1 #[] 0 (Nat.le_refl _) (by decide) rfl).drew
theorem ownB : (((w1.alloc (.cells #[] 5)).alloc o).drew).ownsRow w1.heap.size 5 1 (.slice (some ⟨w1.heap.size, 0, none⟩) 0 0) 0 [] := ((World.ownsRow_made w1 #[] 0 (Nat.le_refl _) (by decide) rfl).alloc o).drew
theorem ownC : (((w1.alloc o).alloc (.cells #[] 5)).drew).ownsRow w1.heap.size 5 1 (.slice (some ⟨w1.heap.size + 1, 0, none⟩) 0 0) 0 [] := by
  have h := (World.ownsRow_made (base := w1.heap.size) (e := 5) (size := 1) (w1.alloc o) #[] 0 (by simp) (by decide) rfl).drew
  rw [World.size_alloc] at h
  exact h
theorem belA : Below w1.heap.size w1 (w1.alloc o).drew := ((Below.refl _ w1).alloc (Nat.le_refl _) _).drew
theorem belB {o' : Obj} : Below w1.heap.size w1 ((w1.alloc o).alloc o').drew := (((Below.refl _ w1).alloc (Nat.le_refl _) _).alloc (by simp) _).drew
theorem szA : w1.heap.size ≤ ((w1.alloc o).drew).heap.size := by simp
theorem szB {o' : Obj} : w1.heap.size ≤ (((w1.alloc o).alloc o').drew).heap.size := by simp; omega
end
theorem Box.grown {w w' : World} {p : Nat} {cs : Array Value} {row : Option Nat} (h : Box w p cs) (hg : w.grownBy w' row) (hp : p < w.heap.size) (hne : some p ≠ row) : Box w' p cs := fun j v hv =>
  let e := cell_alike (hg.block p hp hne) ⟨p, j, none⟩ rfl
  ⟨e.1.trans (h j v hv).1, e.2.trans (h j v hv).2⟩
theorem own_cl' {w : World} {B g n cap : Nat} {cs : List Value} {f : Nat → Int} (h : w.ownsRow B 5 1 (.slice (some ⟨g, 0, none⟩) (0 + n) cap) (0 + n) ([] ++ cs)) (h0 : 0 < n) (hx : ∀ i, i < n → cs[i]? = some (.int .u8 (f i))) : B ≤ g ∧ Cl w g 0 n f := by
  rw [Nat.zero_add, List.nil_append] at h
  obtain ⟨g', cap', e, hB, hc⟩ := own_cl h h0 hx
  injection e with e1 _ _
  injection e1 with e1
  injection e1 with e1 _ _
  subst e1
  exact ⟨hB, hc⟩

set_option maxRecDepth 100000 in
set_option maxHeartbeats 1600000 in
theorem rlay_cl {W H : Int} (x y : Int) {n : Nat} {f t : Nat → Int} {v : Value} {w : World} (hv : Im w v W H n f) (hh : hasV W H x y n = true) :
    Calls Try.prog 35 #[v, .int .i64 x, .int .i64 y, .agg (agOf 0 64 t)] w (layC W H x y n f t w) := by
  obtain ⟨ao, cap, rfl, hrd, hW, hH⟩ := hv
  obtain ⟨_, _, e, hn, hf, hc⟩ := hrd
  injection e with e1 e2 e3
  subst e1 e3
  obtain ⟨hr, x1, x2, y1, y2⟩ := has_facts hh
  unfold layC
  have hpo := place_ok hr (near_ok hr (Int.le_refl 0) (Int.le_refl 0))
  have n0 : 0 < n := hpo.2.2.2.2.2.2.1
  have n1 : n ≤ 67108864 := hpo.2.2.2.2.2.2.2
  have hws : 1 ≤ W ∧ 1 ≤ H ∧ W ≤ 4096 ∧ H ≤ 4096 := by unfold rightV at hr; simp at hr; omega
  obtain ⟨b, off, rfl, hcc⟩ := hc n0
  have HC := hide hcc
  have HF := hide hf
  have HH := hide hh
  have HR := hide hr
  have hbl : b < w.heap.size := World.block_lt_of_cell? w _ (HC.out 0 (by omega))
  have A0 := hide (agOf_ag0 64 t)
  have z0 := A0.out.1
  obtain ⟨i0, hi0, hz0, hz1, hz2⟩ := info_parts Try.info5
  have HI := hide (And.intro hi0 (And.intro hz0 (And.intro hz1 hz2)))
  obtain ⟨cs, hcs⟩ : ∃ cs : List Value, cs = (List.range n).map (fun i => Value.int .u8 (f i)) := ⟨_, rfl⟩
  have Hcs := hide hcs
  have hcl : cs.length = n * 1 := by rw [hcs]; simp
  have Hcl := hide hcl
  clear hr hc hf hcc hh hpo hcl hcs hi0 hz0 hz1 hz2
  go_enter Try.func35, Try.ntmps35
  go_wp2_with fail
  refine (rhas_any W H x y _ n cap _ hW.1 hW.2 hH.1 hH.2).mono ?_
  rintro e w1 ⟨rfl, hb⟩
  rw [HH.out]
  have BI := hide (Box.below (b := w.heap.size) (cs := #[.int .i64 W, .int .i64 H, .slice (some ⟨b, off, none⟩) n cap]) (by (repeat' (first | (refine Box.mk' ?_; simp; done) | (refine Box.old ?_ ?_; rotate_left; (simp <;> omega))))) hb (by simp; omega))
  have BT := hide (Bk.of_box (Box.below (b := w.heap.size + 1) (cs := agOf 0 64 t) (by (repeat' (first | (refine Box.mk' ?_; simp; done) | (refine Box.old ?_ ?_; rotate_left; (simp <;> omega))))) hb (by simp <;> omega)) A0.out)
  have BR := hide (Box.below (b := w.heap.size + 1 + 1) (cs := #[.int .i64 0, .int .i64 0, .slice none 0 0]) (by (repeat' (first | (refine Box.mk' ?_; simp; done) | (refine Box.old ?_ ?_; rotate_left; (simp <;> omega))))) hb (by simp))
  have hb1 := hide (Below.trans (by (repeat' (first | exact Below.refl _ _ | assumption | refine Below.setCell ?_ (by simp <;> omega) _ | refine Below.alloc ?_ (by simp <;> omega) _))) (hb.mono (by simp; omega)) : Below w.heap.size w w1)
  have hs1 : w.heap.size + 3 ≤ w1.heap.size := by have := hb.size; simp at this; omega
  clear hb
  obtain ⟨⟨k0, k1, k2⟩, _⟩ := BI.out.c3
  go_upto_region 3 with (fail)
  have n0' := World.new_ne w1 _ k0
  have n1' := World.new_ne w1 _ k1
  have n2' := World.new_ne w1 _ k2
  have hs1' : w.heap.size < w1.heap.size := by omega
  have HNW := hide (show ∀ W' : World, Below w1.heap.size w1 W' → ∀ j u, cs[j]? = some u → W'.cell? ((⟨b, off, none⟩ : Addr).add j) = some u from fun W' hb j u hj => by
    rw [Hcs.out] at hj
    rw [Addr.add_lit]
    exact cells_bytes (fun i hi => (hb1.out.cell (by exact hbl)).trans (HC.out i hi)) hb hj)
  have HON := hide (show ∀ u ∈ cs, u.oneCell' = true from fun u hu => by rw [Hcs.out] at hu; obtain ⟨_, _, rfl⟩ := List.mem_map.1 hu; rfl)
  have HML := hide (show 0 + n ≤ maxLen by unfold maxLen; omega)
  have HBY := hide (show (0 + n) * 1 ≤ 140737488355328 by omega)
  have Hat := hide (show ∀ i, i < n → cs[i]? = some (.int .u8 (f i)) from fun i hi => by rw [Hcs.out, List.getElem?_map, List.getElem?_range hi]; rfl)
  have BXB := hide (show Box ((w1.alloc (.cells #[] 5)).alloc (.cells #[.int .i64 0, .int .i64 0, .slice none 0 0] 24)).drew (w1.heap.size + 1) #[.int .i64 0, .int .i64 0, .slice none 0 0] from Box.mk' (w := w1.alloc (.cells #[] 5)) (by simp))
  have BXC := hide (show Box ((w1.alloc (.cells #[.int .i64 0, .int .i64 0, .slice none 0 0] 24)).alloc (.cells #[] 5)).drew w1.heap.size #[.int .i64 0, .int .i64 0, .slice none 0 0] from Box.old (w := w1.alloc (.cells #[.int .i64 0, .int .i64 0, .slice none 0 0] 24)) (Box.mk' rfl) (by simp))
  go_cut [10] from 21 to 29 (fun s10 wx => CopyR W H n f w1 s10 wx)
  case first =>
    go_region_held3 (fun w' => w'.cell? ⟨w.heap.size, 0, none⟩ = some (.int .i64 W) ∧ w'.cell? ⟨w.heap.size, 1, none⟩ = some (.int .i64 H) ∧ w'.cell? ⟨w.heap.size, 2, none⟩ = some (.slice (some ⟨b, off, none⟩) n cap)) (first | go_keep | (refine ⟨?_, ?_, ?_⟩ <;> (rw [World.cell?_setCell_other _ _ _ _ (by intro h; injection h; omega), World.cell?_setCell_other _ _ _ _ (by intro h; injection h; omega), World.cell?_setCell_other _ _ _ _ (by intro h; injection h; omega)]; assumption)))
      (first
        | ((refine step_append_lies _ (by rfl) _ _ _ (by rfl) w1.heap.size 5 i0 (.int .u8 0) 1 1 Try.underlying22 HI.out.1 HI.out.2.1 HI.out.2.2.1 HI.out.2.2.2 rfl (by decide) _ 0 [] (by rfl) ownA ⟨b, off, none⟩ n cap cs (by rfl) Hcl.out (HNW.out _ belA) HON.out n0 HML.out HBY.out szA (w1.heap.size + 1) (by simp) ?_; intro g cap' w3 hown hgrow hat hlt; have hbX := hide (Below.grown belA hgrow szA (fun k e => by simp [Value.ownBlock] at e; omega) : Below w1.heap.size w1 w3); have hcl := hide (own_cl' (f := f) hown n0 Hat.out); have c0 := (hbX.out.cell (p := ⟨w.heap.size, 0, none⟩) hs1').trans k0; have c1 := (hbX.out.cell (p := ⟨w.heap.size, 1, none⟩) hs1').trans k1; have c2 := (hbX.out.cell (p := ⟨w.heap.size, 2, none⟩) hs1').trans k2; have m0 := World.new_ne w3 _ c0; have m1 := World.new_ne w3 _ c1; have m2 := World.new_ne w3 _ c2; have hl := hide hlt; clear hat; clear hown hgrow hlt))
        | ((refine step_append_lies _ (by rfl) _ _ _ (by rfl) w1.heap.size 5 i0 (.int .u8 0) 1 1 Try.underlying22 HI.out.1 HI.out.2.1 HI.out.2.2.1 HI.out.2.2.2 rfl (by decide) _ 0 [] (by rfl) ownB ⟨b, off, none⟩ n cap cs (by rfl) Hcl.out (HNW.out _ belB) HON.out n0 HML.out HBY.out szB (w1.heap.size + 1 + 1) (by simp) ?_; intro g cap' w3 hown hgrow hat hlt; have hbX := hide (Below.grown belB hgrow szB (fun k e => by simp [Value.ownBlock] at e; omega) : Below w1.heap.size w1 w3); have hcl := hide (own_cl' (f := f) hown n0 Hat.out); have c0 := (hbX.out.cell (p := ⟨w.heap.size, 0, none⟩) hs1').trans k0; have c1 := (hbX.out.cell (p := ⟨w.heap.size, 1, none⟩) hs1').trans k1; have c2 := (hbX.out.cell (p := ⟨w.heap.size, 2, none⟩) hs1').trans k2; have m0 := World.new_ne w3 _ c0; have m1 := World.new_ne w3 _ c1; have m2 := World.new_ne w3 _ c2; have hl := hide hlt; have hat2 := hide (show g ≠ w1.heap.size + 1 by simp [Value.ownBlock] at hat; omega); have BP := hide (Box.grown (p := w1.heap.size + 1) (cs := #[.int .i64 0, .int .i64 0, .slice none 0 0]) BXB.out hgrow (by simp <;> omega) (by simp [Value.ownBlock])); obtain ⟨⟨q0, q1, q2⟩, qf0, qf1, qf2⟩ := BP.out.c3; clear hat; clear hown hgrow hlt))
        | ((refine step_append_lies _ (by rfl) _ _ _ (by rfl) w1.heap.size 5 i0 (.int .u8 0) 1 1 Try.underlying22 HI.out.1 HI.out.2.1 HI.out.2.2.1 HI.out.2.2.2 rfl (by decide) _ 0 [] (by rfl) ownC ⟨b, off, none⟩ n cap cs (by rfl) Hcl.out (HNW.out _ belB) HON.out n0 HML.out HBY.out szB (w1.heap.size + 1 + 1) (by simp) ?_; intro g cap' w3 hown hgrow hat hlt; have hbX := hide (Below.grown belB hgrow szB (fun k e => by simp [Value.ownBlock] at e; omega) : Below w1.heap.size w1 w3); have hcl := hide (own_cl' (f := f) hown n0 Hat.out); have c0 := (hbX.out.cell (p := ⟨w.heap.size, 0, none⟩) hs1').trans k0; have c1 := (hbX.out.cell (p := ⟨w.heap.size, 1, none⟩) hs1').trans k1; have c2 := (hbX.out.cell (p := ⟨w.heap.size, 2, none⟩) hs1').trans k2; have m0 := World.new_ne w3 _ c0; have m1 := World.new_ne w3 _ c1; have m2 := World.new_ne w3 _ c2; have hl := hide hlt; have hat2 := hide (show g ≠ w1.heap.size by simp [Value.ownBlock] at hat; omega); have BP := hide (Box.grown (p := w1.heap.size) (cs := #[.int .i64 0, .int .i64 0, .slice none 0 0]) BXC.out hgrow (by simp <;> omega) (by simp [Value.ownBlock])); obtain ⟨⟨q0, q1, q2⟩, qf0, qf1, qf2⟩ := BP.out.c3; clear hat; clear hown hgrow hlt)))
    all_goals (go_wp2_with fail; go_meet)
    · exact ⟨w3.heap.size, g, cap', rfl, Box.mk' rfl, hcl.out.2.alloc hl.out _, by have := hl.out; omega, hbX.out.size, hcl.out.1, hbX.out.alloc hbX.out.size _⟩
    · exact ⟨w1.heap.size + 1, g, cap', rfl, BP.out.put3, ((hcl.out.2.other (by simp; exact Ne.symm hat2.out)).other (by simp; exact Ne.symm hat2.out)).other (by simp; exact Ne.symm hat2.out), Ne.symm hat2.out, by omega, hcl.out.1, ((hbX.out.setCell (by simp) _).setCell (by simp) _).setCell (by simp) _⟩
    · exact ⟨w1.heap.size, g, cap', rfl, BP.out.put3, ((hcl.out.2.other (by simp; exact Ne.symm hat2.out)).other (by simp; exact Ne.symm hat2.out)).other (by simp; exact Ne.symm hat2.out), Ne.symm hat2.out, by omega, hcl.out.1, ((hbX.out.setCell (by simp) _).setCell (by simp) _).setCell (by simp) _⟩
  case rest =>
    obtain ⟨po, g, cap', rfl, hbo, hcl, hpg, hpo, hgo, hbc⟩ := hcut
    have BO := hide hbo
    have HCL := hide hcl
    have HBC := hide hbc
    have BI2 := hide (BI.out.below hbc (by omega))
    have BT2 := hide (BT.out.below hbc (by omega))
    have BR2 := hide (BR.out.below hbc (by omega))
    have hsc : w1.heap.size ≤ wc.heap.size := hbc.size
    have hgl : g < wc.heap.size := World.block_lt_of_cell? wc _ (hcl 0 n0).1
    have hpl : po < wc.heap.size := hbo.lt (by simp)
    clear hbo hcl hbc k0 k1 k2 n0' n1' n2' HNW BXB BXC
    go_wp2_with fail
    go_loopw [11] (fun i wr => ∃ k : Nat, k ≤ 16 ∧ i = .int .i64 k ∧ Cl wr g 0 n (layK W H f t x y k) ∧ But g wc wr) (fun i _ => 16 - (intOf i).toNat)
    case atStart => exact ⟨0, by omega, rfl, HCL.out, But.refl _ _⟩
    case round =>
      obtain ⟨k, hk, rfl, hcl, hbut⟩ := hrel
      have HK := hide hcl
      have HU := hide hbut
      have BI3 := hide (BI2.out.but hbut (by omega) (by omega))
      have BT3 := hide (BT2.out.but hbut (by omega) (by omega))
      have BO3 := hide (BO.out.but hbut hpg hpl)
      have BR3 := hide (BR2.out.but hbut (by omega) (by omega))
      have hsr : wc.heap.size ≤ wr.heap.size := hbut.size
      clear hcl hbut
      by_cases hlt : k < 16
      · obtain ⟨⟨k0, k1, k2⟩, _⟩ := BI3.out.c3
        have dk : decide ((k : Int) < 16) = true := by simp; omega
        go_upto_region 9 with (fail)
        clear dk
        obtain ⟨p, hp⟩ : ∃ p, p = 4 * x + (k : Int) % 4 := ⟨_, rfl⟩
        obtain ⟨q, hq⟩ : ∃ q, q = 4 * y + (k : Int) / 4 := ⟨_, rfl⟩
        rw [← hp, ← hq]
        have HPQ := hide (And.intro hp hq)
        have hp0 : 0 ≤ p ∧ p ≤ 100000 := by omega
        have hq0 : 0 ≤ q ∧ q ≤ 100000 := by omega
        clear hp hq
        by_cases hin : inV p q W H = true
        · obtain ⟨p1, p2, p3, p4, p5, p6, p7, p8⟩ := place_ok HR.out hin
          obtain ⟨o, ho⟩ : ∃ o : Nat, 4 * (q * W + p) = o := ⟨(4 * (q * W + p)).toNat, by omega⟩
          have hpw : p < W ∧ q < H := by unfold inV at hin; simp at hin; omega
          have w1' : wrap64 (q * W) = q * W := by exact wrap_in (by omega)
          have w2' : wrap64 (q * W + p) = q * W + p := by exact wrap_in (by omega)
          have w3' : wrap64 (4 * (q * W + p)) = (o : Int) := by rw [← ho]; exact wrap_in (by omega)
          have ho3 : (o : Int) ≤ 268500000 := by omega
          have ho2 : (o : Int) + 4 ≤ n := by omega
          have HS := hide (show layK W H f t x y (k + 1) = updK (layK W H f t x y k) o (fun c => t (k * 4 + c)) 4 by
            rw [layK]
            unfold layS
            rw [← HPQ.out.1, ← HPQ.out.2, if_pos hin, ho, Int.toNat_natCast])
          have d1 : decide (p < W) = true := by simpa using hpw.1
          have d2 : decide (q < H) = true := by simpa using hpw.2
          have W1 := hide w1'
          have W2 := hide w2'
          have W3 := hide w3'
          clear hin ho p1 p2 p3 p4 p5 p6 p7 p8 w1' w2' w3'
          go_wp2_with fail
          clear k0 k1 k2 d1 d2
          go_loopw [14] (fun c wq => ∃ j : Nat, j ≤ 4 ∧ c = .int .i64 j ∧ Cl wq g 0 n (updK (layK W H f t x y k) o (fun c => t (k * 4 + c)) j) ∧ But g wc wq) (fun c _ => 4 - (intOf c).toNat)
          case atStart => exact ⟨0, by omega, rfl, HK.out.congr fun i hi => by unfold updK; rw [if_neg (by omega)], HU.out⟩
          case round =>
            obtain ⟨j, hj, rfl, hcl, hbut⟩ := hrel
            have HJ := hide hcl
            have HV := hide hbut
            have BI4 := hide (BI2.out.but hbut (by omega) (by omega))
            have BT4 := hide (BT2.out.but hbut (by omega) (by omega))
            have BO4 := hide (BO.out.but hbut hpg hpl)
            by_cases hltj : j < 4
            · have c1 := hcl.at (show o + j < n by omega)
              have c2 := hcl.fr (show o + j < n by omega)
              obtain ⟨⟨k0, k1, k2⟩, _⟩ := BI4.out.c3
              obtain ⟨⟨m0, m1, m2⟩, _⟩ := BO4.out.c3
              have t0 := (BT4.out (k * 4 + j) (by omega)).1
              clear hcl hbut
              go_wp2_with fail
              refine wp_region_still_tail 19 (by kernel_rfl) (by kernel_rfl) ?_
              simp only [List.take_succ_cons, List.take_zero, List.drop_succ_cons, List.drop_zero]
              have e1 : IntKind.i64.wrap (q * W) = q * W := (i64w _).trans W1.out
              have e2 : IntKind.i64.wrap (q * W + p) = q * W + p := (i64w _).trans W2.out
              have e3 : IntKind.i64.wrap (4 * (q * W + p)) = (o : Int) := (i64w _).trans W3.out
              have e4 : IntKind.i64.wrap ((o : Int) + j) = (o : Int) + j := (i64w _).trans (wrap_in (by omega))
              have e5 : 0 ≤ (o : Int) + j := by omega
              have e6 : ((o : Int) + j).toNat = o + j := by omega
              have e7 : (o : Int) + j < n := by omega
              have e8 : (k : Int) < 16 := by omega
              have e9 : (j : Int) < 4 := by omega
              repeat (first | still_step | still_call ((clamp_ref _ _).mono fun _ _ h => ⟨h.1, h.2.symm⟩))
              refine wpStill_nil ?_
              change wpList _ _ _ _ _ wr.drew
              clear m0 m1 m2 k0 k1 k2 t0
              go_wp2
              clear e1 e2 e3 e4 e5 e6 e7 e8 e9
              refine ⟨⟨j + 1, by omega, by go_num, ?_, ?_⟩, by simp [intOf]; omega⟩
              · have hm : clampV (t (k * 4 + j)) 255 % 256 = clampV (t (k * 4 + j)) 255 := by have := clampV_bd (t (k * 4 + j)); omega
                rw [hm]
                exact HJ.out.next rfl
              · exact (HV.out.setCell (Or.inl rfl) _).drew
            · obtain rfl : j = 4 := by omega
              clear hcl hbut
              have HE := hide (show Cl wr g 0 n (layK W H f t x y (k + 1)) by rw [HS.out]; exact HJ.out)
              go_wp2_with fail
              exact ⟨⟨k + 1, by omega, by go_num, HE.out, HV.out⟩, by simp [intOf]; omega⟩
        · have HS := hide (show layK W H f t x y (k + 1) = layK W H f t x y k by
            rw [layK]
            unfold layS
            rw [← HPQ.out.1, ← HPQ.out.2, if_neg hin])
          have HE := hide (show Cl wr g 0 n (layK W H f t x y (k + 1)) by rw [HS.out]; exact HK.out)
          by_cases hpw : p < W
          · have d1 : decide (p < W) = true := by simpa using hpw
            have d2 : decide (q < H) = false := by unfold inV at hin; simp at hin ⊢; omega
            clear hin
            go_wp2_with fail
            exact ⟨⟨k + 1, by omega, by go_num, HE.out, HU.out⟩, by simp [intOf]; omega⟩
          · have d1 : decide (p < W) = false := by simpa using hpw
            clear hin
            go_wp2_with fail
            exact ⟨⟨k + 1, by omega, by go_num, HE.out, HU.out⟩, by simp [intOf]; omega⟩
      · obtain rfl : k = 16 := by omega
        obtain ⟨⟨m0, m1, m2⟩, _⟩ := BO3.out.c3
        obtain ⟨⟨l0, l1, l2⟩, lf0, lf1, lf2⟩ := BR3.out.c3
        have hbx := hide ((hb1.out.trans (HBC.out.mono (by omega))).trans (HU.out.below (B := w.heap.size) (by omega) (by omega)))
        go_wp2_with fail
        refine bodyPost_ret (v := .tuple #[.agg #[.int .i64 W, .int .i64 H, .slice (some ⟨g, 0, none⟩) n cap'], .int .i64 0]) (by simp [results, Try.results35, go_sem, World.cell?_setCell_same', l0, l1, l2]) rfl ⟨g, cap', rfl, by omega, ?_, ?_⟩
        · exact ((HK.out.other (by simp; omega)).other (by simp; omega)).other (by simp; omega)
        · have hbw := hbx.out
          (repeat' (first | exact Below.refl _ _ | assumption | refine Below.setCell ?_ (by simp <;> omega) _ | refine Below.alloc ?_ (by simp <;> omega) _))
theorem rlay_ok {W H : Int} (x y : Int) {n : Nat} {f t : Nat → Int} {v : Value} {w : World} (hv : Im w v W H n f) (hh : hasV W H x y n = true) :
    Calls Try.prog 35 #[v, .int .i64 x, .int .i64 y, .agg (agOf 0 64 t)] w (layP W H x y n f t w) := by
  refine (rlay_cl x y hv hh).mono ?_
  obtain ⟨ao, cap, rfl, hrd, hW, hH⟩ := hv
  obtain ⟨_, _, e, hn, hf, hc⟩ := hrd
  rintro e w' ⟨g, cap', rfl, hg, hcl, hb⟩
  unfold layP
  rw [hh]
  exact ⟨_, rfl, ⟨_, _, rfl, Rd.of_cl (f := layK W H f t x y 16) hcl hn (layK_bd hf 16), hW, hH⟩, hb⟩

theorem rlay_no {W H : Int} (x y : Int) {n : Nat} {f t : Nat → Int} {v : Value} {w : World} (hv : Im w v W H n f) (hh : hasV W H x y n = false) :
    Calls Try.prog 35 #[v, .int .i64 x, .int .i64 y, .agg (agOf 0 64 t)] w (layP W H x y n f t w) := by
  obtain ⟨ao, cap, rfl, hrd, hW, hH⟩ := hv
  unfold layP
  rw [hh]
  have HH := hide hh
  clear hh hrd
  go_enter Try.func35, Try.ntmps35
  go_wp2_with fail
  refine (rhas_any W H x y _ n cap _ hW.1 hW.2 hH.1 hH.2).mono ?_
  rintro e w1 ⟨rfl, hb⟩
  rw [HH.out]
  have BR := hide (Box.below (b := w.heap.size + 1 + 1) (cs := #[.int .i64 0, .int .i64 0, .slice none 0 0]) (by (repeat' (first | (refine Box.mk' ?_; simp; done) | (refine Box.old ?_ ?_; rotate_left; (simp <;> omega))))) hb (by simp))
  have hb1 := hide (Below.trans (by (repeat' (first | exact Below.refl _ _ | assumption | refine Below.setCell ?_ (by simp <;> omega) _ | refine Below.alloc ?_ (by simp <;> omega) _))) (hb.mono (by simp; omega)) : Below w.heap.size w w1)
  clear hb
  obtain ⟨⟨l0, l1, l2⟩, lf0, lf1, lf2⟩ := BR.out.c3
  go_wp2_with fail
  refine bodyPost_ret (v := .tuple #[.agg #[.int .i64 0, .int .i64 0, .slice none 0 0], .int .i64 1]) (by simp [results, Try.results35, go_sem, World.cell?_setCell_same', l0, l1, l2]) rfl ⟨_, rfl, Out.nil _ _ _ _ _, ?_⟩
  have hbw := hb1.out
  (repeat' (first | exact Below.refl _ _ | assumption | refine Below.setCell ?_ (by simp <;> omega) _ | refine Below.alloc ?_ (by simp <;> omega) _))
theorem rlay_any {W H : Int} (x y : Int) {n : Nat} {f t : Nat → Int} {v : Value} {w : World} (hv : Im w v W H n f) :
    Calls Try.prog 35 #[v, .int .i64 x, .int .i64 y, .agg (agOf 0 64 t)] w (layP W H x y n f t w) := by
  by_cases h : hasV W H x y n = true
  · exact rlay_ok x y hv h
  · exact rlay_no x y hv (by simpa using h)
end Go.Proofs.Ytmckfppemhnhmaa
