import Derived.Test.YtmckfppemhnhmaaMJ
namespace Go.Proofs.Ytmckfppemhnhmaa
open Go.RowKit

set_option maxRecDepth 100000 in
set_option maxHeartbeats 1600000 in
theorem mchain_yes {W H : Int} {n : Nat} {f : Nat → Int} {v : Value} {many : Int} {w : World} (hv : Im w v W H n f) (hok : chainOk W H n many = true) : Calls Try.prog 15 #[v, .int .i64 many] w (chainP W H n f many w) := by
  have HV := hide hv
  obtain ⟨ao, cap, rfl, hrd, _, _⟩ := hv
  obtain ⟨_, _, e, hn63, hf, hc⟩ := hrd
  injection e with e1 e2 e3
  subst e1 e3
  unfold chainP
  rw [hok]
  unfold chainOk at hok
  simp only [Bool.and_eq_true, decide_eq_true_eq] at hok
  obtain ⟨⟨hr, hm1⟩, hm2⟩ := hok
  have hws : 1 ≤ W ∧ 1 ≤ H ∧ W ≤ 4096 ∧ H ≤ 4096 := by unfold rightV at hr; simp at hr; omega
  have hlle := levels_le (W := W) (H := H) hws.1 hws.2.1
  obtain ⟨m, rfl⟩ : ∃ m : Nat, many = (m : Int) := ⟨many.toNat, by omega⟩
  have hm9 : m ≤ 8192 := by omega
  have hm0 : 1 ≤ m := by omega
  have hn0 := chN_zero hr
  have hnp := (chN_ok ⟨hws.1, hws.2.2.1⟩ ⟨hws.2.1, hws.2.2.2⟩ 0).2.1
  obtain ⟨b, off, rfl, hcc⟩ := hc (by omega)
  have HC := hide hcc
  have HF := hide hf
  have HN0 := hide hn0
  have hbl : b < w.heap.size := World.block_lt_of_cell? w _ (HC.out 0 (by omega))
  obtain ⟨lv, hlv⟩ : ∃ lv, lv = levelsV W H := ⟨_, rfl⟩
  rw [← hlv] at hm2
  have HLV := hide hlv
  have HR := hide hr
  obtain ⟨i0, hi0, hz0, hz1, hz2⟩ := info_parts Try.info24
  have HI := hide (And.intro hi0 (And.intro hz0 (And.intro hz1 hz2)))
  obtain ⟨i5, hj0, hy0, hy1, hy2⟩ := info_parts Try.info5
  have HI5 := hide (And.intro hj0 (And.intro hy0 (And.intro hy1 hy2)))
  obtain ⟨cs, hcs⟩ : ∃ cs : List Value, cs = (List.range n).map (fun i => Value.int .u8 (f i)) := ⟨_, rfl⟩
  have Hcs := hide hcs
  have hcl : cs.length = n * 1 := by rw [hcs]; simp
  have Hcl := hide hcl
  have n0 : 0 < n := by rw [← hn0]; exact hnp
  have n1 : n ≤ 67108864 := by rw [← hn0]; exact (chN_ok ⟨hws.1, hws.2.2.1⟩ ⟨hws.2.1, hws.2.2.2⟩ 0).2.2
  have d1 : decide ((m : Int) < 1) = false := by simp; omega
  have d2 : decide (lv < (m : Int)) = false := by simp; omega
  clear hr hc hf hcc hlle hlv hi0 hz0 hz1 hz2 hn0 hnp hj0 hy0 hy1 hy2 hcs hcl
  go_enter Try.func15, Try.ntmps15
  go_wp2_with fail
  refine (right_any W H _ n cap _).mono ?_
  rintro e w1 ⟨rfl, hb⟩
  rw [HR.out]
  have BI := hide (Box.below (b := w.heap.size) (cs := #[.int .i64 W, .int .i64 H, .slice (some ⟨b, off, none⟩) n cap]) (Box.mk' rfl) hb (by simp))
  have hb1 := hide (Below.trans ((Below.refl _ _).alloc (Nat.le_refl _) _) (hb.mono (by simp)) : Below w.heap.size w w1)
  have hs1 : w.heap.size < w1.heap.size := by have := hb.size; simp at this; omega
  clear hb
  obtain ⟨⟨k0, k1, k2⟩, _⟩ := BI.out.c3
  go_wp2_with fail
  refine (levels_any W H _ (by omega) (by omega) (by omega) (by omega)).mono ?_
  rintro e w3 ⟨rfl, hb⟩
  rw [← HLV.out]
  have BI3 := hide (BI.out.below hb hs1)
  have hb3 := hide (hb1.out.trans (hb.mono (by omega)))
  have hs3 : w.heap.size < w3.heap.size := by have := hb.size; omega
  clear hb k0 k1 k2 BI hb1
  obtain ⟨⟨k0, k1, k2⟩, _⟩ := BI3.out.c3
  go_upto_region 3 with (fail)
  have e0' := World.new_ne w3 _ k0
  have e1' := World.new_ne w3 _ k1
  have e2' := World.new_ne w3 _ k2
  have HNW := hide (show ∀ W' : World, Below w3.heap.size w3 W' → ∀ j u, cs[j]? = some u → W'.cell? ((⟨b, off, none⟩ : Addr).add j) = some u from fun W' hb j u hj => by
    rw [Hcs.out] at hj
    rw [Addr.add_lit]
    exact cells_bytes (fun i hi => (hb3.out.cell (by exact hbl)).trans (HC.out i hi)) hb hj)
  have HON := hide (show ∀ u ∈ cs, u.oneCell' = true from fun u hu => by rw [Hcs.out] at hu; obtain ⟨_, _, rfl⟩ := List.mem_map.1 hu; rfl)
  have HML := hide (show 0 + n ≤ maxLen by unfold maxLen; omega)
  have HBY := hide (show (0 + n) * 1 ≤ 140737488355328 by omega)
  have Hat := hide (show ∀ i, i < n → cs[i]? = some (.int .u8 (f i)) from fun i hi => by rw [Hcs.out, List.getElem?_map, List.getElem?_range hi]; rfl)
  have BXB := hide (show Box ((w3.alloc (.cells #[] 5)).alloc (.cells #[.int .i64 0, .int .i64 0, .slice none 0 0] 24)).drew (w3.heap.size + 1) #[.int .i64 0, .int .i64 0, .slice none 0 0] from Box.mk' (w := w3.alloc (.cells #[] 5)) (by simp))
  have BXC := hide (show Box ((w3.alloc (.cells #[.int .i64 0, .int .i64 0, .slice none 0 0] 24)).alloc (.cells #[] 5)).drew w3.heap.size #[.int .i64 0, .int .i64 0, .slice none 0 0] from Box.old (w := w3.alloc (.cells #[.int .i64 0, .int .i64 0, .slice none 0 0] 24)) (Box.mk' rfl) (by simp))
  go_cut [6] from 26 to 34 (fun s6 wx => CopyR W H n f w3 s6 wx)
  case first =>
    go_region_held3 (fun w' => w'.cell? ⟨w.heap.size, 0, none⟩ = some (.int .i64 W) ∧ w'.cell? ⟨w.heap.size, 1, none⟩ = some (.int .i64 H) ∧ w'.cell? ⟨w.heap.size, 2, none⟩ = some (.slice (some ⟨b, off, none⟩) n cap)) (first | go_keep | (refine ⟨?_, ?_, ?_⟩ <;> (rw [World.cell?_setCell_other _ _ _ _ (by intro h; injection h; omega), World.cell?_setCell_other _ _ _ _ (by intro h; injection h; omega), World.cell?_setCell_other _ _ _ _ (by intro h; injection h; omega)]; assumption)))
      (first
        | ((refine step_append_lies _ (by rfl) _ _ _ (by rfl) w3.heap.size 5 i5 (.int .u8 0) 1 1 Try.underlying22 HI5.out.1 HI5.out.2.1 HI5.out.2.2.1 HI5.out.2.2.2 rfl (by decide) _ 0 [] (by rfl) ownA ⟨b, off, none⟩ n cap cs (by rfl) Hcl.out (HNW.out _ belA) HON.out n0 HML.out HBY.out szA (w3.heap.size + 1) (by simp) ?_; intro g cap' w4 hown hgrow hat hlt; have hbX := hide (Below.grown belA hgrow szA (fun k e => by simp [Value.ownBlock] at e; omega) : Below w3.heap.size w3 w4); have hcl := hide (own_cl' (f := f) hown n0 Hat.out); have c0 := (hbX.out.cell (p := ⟨w.heap.size, 0, none⟩) hs3).trans k0; have c1 := (hbX.out.cell (p := ⟨w.heap.size, 1, none⟩) hs3).trans k1; have c2 := (hbX.out.cell (p := ⟨w.heap.size, 2, none⟩) hs3).trans k2; have m0 := World.new_ne w4 _ c0; have m1 := World.new_ne w4 _ c1; have m2 := World.new_ne w4 _ c2; have hl := hide hlt; clear hat; clear hown hgrow hlt))
        | ((refine step_append_lies _ (by rfl) _ _ _ (by rfl) w3.heap.size 5 i5 (.int .u8 0) 1 1 Try.underlying22 HI5.out.1 HI5.out.2.1 HI5.out.2.2.1 HI5.out.2.2.2 rfl (by decide) _ 0 [] (by rfl) ownB ⟨b, off, none⟩ n cap cs (by rfl) Hcl.out (HNW.out _ belB) HON.out n0 HML.out HBY.out szB (w3.heap.size + 1 + 1) (by simp) ?_; intro g cap' w4 hown hgrow hat hlt; have hbX := hide (Below.grown belB hgrow szB (fun k e => by simp [Value.ownBlock] at e; omega) : Below w3.heap.size w3 w4); have hcl := hide (own_cl' (f := f) hown n0 Hat.out); have c0 := (hbX.out.cell (p := ⟨w.heap.size, 0, none⟩) hs3).trans k0; have c1 := (hbX.out.cell (p := ⟨w.heap.size, 1, none⟩) hs3).trans k1; have c2 := (hbX.out.cell (p := ⟨w.heap.size, 2, none⟩) hs3).trans k2; have m0 := World.new_ne w4 _ c0; have m1 := World.new_ne w4 _ c1; have m2 := World.new_ne w4 _ c2; have hl := hide hlt; have hat2 := hide (show g ≠ w3.heap.size + 1 by simp [Value.ownBlock] at hat; omega); have BP := hide (Box.grown (p := w3.heap.size + 1) (cs := #[.int .i64 0, .int .i64 0, .slice none 0 0]) BXB.out hgrow (by simp <;> omega) (by simp [Value.ownBlock])); obtain ⟨⟨q0, q1, q2⟩, qf0, qf1, qf2⟩ := BP.out.c3; clear hat; clear hown hgrow hlt))
        | ((refine step_append_lies _ (by rfl) _ _ _ (by rfl) w3.heap.size 5 i5 (.int .u8 0) 1 1 Try.underlying22 HI5.out.1 HI5.out.2.1 HI5.out.2.2.1 HI5.out.2.2.2 rfl (by decide) _ 0 [] (by rfl) ownC ⟨b, off, none⟩ n cap cs (by rfl) Hcl.out (HNW.out _ belB) HON.out n0 HML.out HBY.out szB (w3.heap.size + 1 + 1) (by simp) ?_; intro g cap' w4 hown hgrow hat hlt; have hbX := hide (Below.grown belB hgrow szB (fun k e => by simp [Value.ownBlock] at e; omega) : Below w3.heap.size w3 w4); have hcl := hide (own_cl' (f := f) hown n0 Hat.out); have c0 := (hbX.out.cell (p := ⟨w.heap.size, 0, none⟩) hs3).trans k0; have c1 := (hbX.out.cell (p := ⟨w.heap.size, 1, none⟩) hs3).trans k1; have c2 := (hbX.out.cell (p := ⟨w.heap.size, 2, none⟩) hs3).trans k2; have m0 := World.new_ne w4 _ c0; have m1 := World.new_ne w4 _ c1; have m2 := World.new_ne w4 _ c2; have hl := hide hlt; have hat2 := hide (show g ≠ w3.heap.size by simp [Value.ownBlock] at hat; omega); have BP := hide (Box.grown (p := w3.heap.size) (cs := #[.int .i64 0, .int .i64 0, .slice none 0 0]) BXC.out hgrow (by simp <;> omega) (by simp [Value.ownBlock])); obtain ⟨⟨q0, q1, q2⟩, qf0, qf1, qf2⟩ := BP.out.c3; clear hat; clear hown hgrow hlt)))
    all_goals (go_wp2_with fail; go_meet)
    · exact ⟨w4.heap.size, g, cap', rfl, Box.mk' rfl, hcl.out.2.alloc hl.out _, by have := hl.out; omega, hbX.out.size, hcl.out.1, hbX.out.alloc hbX.out.size _⟩
    · exact ⟨w3.heap.size + 1, g, cap', rfl, BP.out.put3, ((hcl.out.2.other (by simp; exact Ne.symm hat2.out)).other (by simp; exact Ne.symm hat2.out)).other (by simp; exact Ne.symm hat2.out), Ne.symm hat2.out, by omega, hcl.out.1, ((hbX.out.setCell (by simp) _).setCell (by simp) _).setCell (by simp) _⟩
    · exact ⟨w3.heap.size, g, cap', rfl, BP.out.put3, ((hcl.out.2.other (by simp; exact Ne.symm hat2.out)).other (by simp; exact Ne.symm hat2.out)).other (by simp; exact Ne.symm hat2.out), Ne.symm hat2.out, by omega, hcl.out.1, ((hbX.out.setCell (by simp) _).setCell (by simp) _).setCell (by simp) _⟩
  case rest =>
  obtain ⟨po, g0, c0, rfl, hbo, hcl, hpg, hpo, hgo, hbc⟩ := hcut
  have BO := hide hbo
  have HCL := hide hcl
  have hgl : g0 < wc.heap.size := World.block_lt_of_cell? wc _ (hcl 0 n0).1
  have hbcw := hide (hb3.out.trans (hbc.mono (by omega)))
  have hsc : w.heap.size < wc.heap.size := by have := hbc.size; omega
  clear hbo hcl hbc k0 k1 k2 e0' e1' e2' HNW BXB BXC
  obtain ⟨⟨m0, m1, m2⟩, _⟩ := BO.out.c3
  go_wp2_with fail
  clear m0 m1 m2
  obtain ⟨w2, hw2⟩ : ∃ w2, w2 = wc.alloc (.cells #[.int .i64 W, .int .i64 H, .slice (some ⟨g0, 0, none⟩) n c0] 24) := ⟨_, rfl⟩
  rw [← hw2]
  have HO := hide (show w2.ownsRow wc.heap.size 24 3 (.slice (some ⟨wc.heap.size, 0, none⟩) 1 1) 1 [.int .i64 W, .int .i64 H, .slice (some ⟨g0, 0, none⟩) n c0] by
    rw [hw2]; exact World.ownsRow_lit wc #[.int .i64 W, .int .i64 H, .slice (some ⟨g0, 0, none⟩) n c0] 1 (Nat.le_refl _) (by decide) rfl)
  have hb2 := hide (show Below w.heap.size w w2 by rw [hw2]; exact hbcw.out.alloc (by omega) _)
  have hs2 : wc.heap.size < w2.heap.size := by rw [hw2]; simp
  have HE := hide (show ∀ i, i < 1 → ElB W H f w2 wc.heap.size [.int .i64 W, .int .i64 H, .slice (some ⟨g0, 0, none⟩) n c0] i from fun i hi => by
    obtain rfl : i = 0 := by omega
    refine ⟨g0, 0, c0, rfl, rfl, by rw [HN0.out]; rfl, by omega, fun j hj => ?_⟩
    rw [HN0.out] at hj
    rw [hw2]
    exact ((HCL.out.alloc hgl _) j hj).1)
  clear hw2
  generalize wc.heap.size = B at *
  go_loopw [7] (fun v' wr => ∃ (j g cp : Nat) (L : List Value), j + 1 ≤ m ∧ v' = .slice (some ⟨g, 0, none⟩) (j + 1) cp ∧ wr.ownsRow B 24 3 (.slice (some ⟨g, 0, none⟩) (j + 1) cp) (j + 1) L ∧ Hid (∀ i, i < j + 1 → ElB W H f wr g L i) ∧ Below B w2 wr ∧ B < wr.heap.size) (fun v' _ => m - (match v' with | .slice _ k _ => k | _ => 0))
  case atStart => exact ⟨0, B, 1, _, by omega, rfl, HO.out, HE, Below.refl _ _, hs2⟩
  case round =>
    obtain ⟨j, g, cp, L, hjm, rfl, hown, hel, hbw, hBr⟩ := hrel
    have HO2 := hide hown
    have HB := hide hbw
    have hg : B ≤ g ∧ g < wr.heap.size := World.ownsRow.lt hown g rfl
    have hLl : L.length = (j + 1) * 3 := hown.1
    have HLl := hide hLl
    clear hown hbw hLl
    by_cases hlt : j + 1 < m
    · obtain ⟨a2, cp2, h1, h2, h3, him⟩ := (hel.out j (by omega)).im ⟨hws.1, hws.2.2.1⟩ ⟨hws.2.1, hws.2.2.2⟩ HF.out
      have HIM := hide him
      have hrj := hide (chN_ok ⟨hws.1, hws.2.2.1⟩ ⟨hws.2.1, hws.2.2.2⟩ j).1
      have hW2 := hk_4096 ⟨hws.1, hws.2.2.1⟩ j
      have hH2 := hk_4096 ⟨hws.2.1, hws.2.2.2⟩ j
      have hload := hide (show ∀ jj v, (#[.int .i64 (hk j W), .int .i64 (hk j H), .slice a2 (chN W H j) cp2] : Array Value)[jj]? = some v → wr.cell? ((⟨g, j * 3, none⟩ : Addr).add jj) = some v by
        intro jj v hv
        rw [Addr.add_lit]
        have hj3 : jj < 3 := by
          rcases Nat.lt_or_ge jj 3 with h | h
          · exact h
          · rw [Array.getElem?_eq_none (by simpa using h)] at hv; cases hv
        rw [World.ownsRow.cellAt HO2.out _ (by omega)]
        rcases (by omega : jj = 0 ∨ jj = 1 ∨ jj = 2) with rfl | rfl | rfl
        · exact h1.trans hv
        · exact h2.trans hv
        · exact h3.trans hv)
      have dlt : decide ((j : Int) + 1 < m) = true := by simp; omega
      clear him h1 h2 h3
      go_wp2_with (with_reducible refine wpList_run rfl (exec_load T24 (.tmp 46) rfl ⟨g, j * 3, none⟩ rfl #[.int .i64 (hk j W), .int .i64 (hk j H), .slice a2 (chN W H j) cp2] rfl hload.out) ?_)
      refine (mhalf_cl HIM.out hrj.out).mono ?_
      rintro e w5 ⟨g2, c2, rfl, hg2, hcl, hb⟩
      obtain ⟨x1, hx1⟩ : ∃ x, x = halfV (hk j W) := ⟨_, rfl⟩
      obtain ⟨y1, hy1⟩ : ∃ x, x = halfV (hk j H) := ⟨_, rfl⟩
      obtain ⟨n1, hn1⟩ : ∃ x, x = (4 * halfV (hk j W) * halfV (hk j H)).toNat := ⟨_, rfl⟩
      rw [← hn1, ← hx1, ← hy1]
      rw [← hn1] at hcl
      have HX1 := hide (show x1 = hk (j + 1) W by rw [hx1]; rfl)
      have HY1 := hide (show y1 = hk (j + 1) H by rw [hy1]; rfl)
      have HN1 := hide (show n1 = chN W H (j + 1) by rw [hn1]; rfl)
      have HCL := hide hcl
      have HE5 := hide (show ∀ i, i < j + 1 → ElB W H f w5 g L i from fun i hi => (hel.out i hi).below hb)
      have HO5 := hide (own_below HO2.out hb)
      have HB5 := hide (HB.out.trans (hb.mono (by omega)))
      have hg2l : g2 < w5.heap.size := World.block_lt_of_cell? w5 _ (hcl 0 (by rw [HN1.out]; exact (chN_ok ⟨hws.1, hws.2.2.1⟩ ⟨hws.2.1, hws.2.2.2⟩ (j + 1)).2.1)).1
      have hs5 : B < w5.heap.size := by have := hb.size; omega
      have hgg : g2 ≠ g := by omega
      clear hb hcl hx1 hy1 hn1 dlt hload
      go_upto_region 7 with (fail)
      generalize hw6 : w5.alloc (.cells #[.int .i64 x1, .int .i64 y1, .slice (some ⟨g2, 0, none⟩) n1 c2] 24) = w6
      have hal : Below w5.heap.size w5 w6 := by rw [← hw6]; exact (Below.refl _ _).alloc (Nat.le_refl _) _
      have BN := hide (show Box w6 w5.heap.size #[.int .i64 x1, .int .i64 y1, .slice (some ⟨g2, 0, none⟩) n1 c2] by rw [← hw6]; exact Box.mk' rfl)
      have HE6 := hide (show ∀ i, i < j + 1 → ElB W H f w6 g L i from fun i hi => (HE5.out i hi).below hal)
      have HO6 := hide (own_below HO5.out hal)
      have HB6 := hide (HB5.out.trans (hal.mono (by omega)))
      have HC6 := hide (HCL.out.below hal hg2l)
      have hs6 : B < w6.heap.size := by have := hal.size; omega
      clear hw6 hal HE5 HO5 HB5 HCL
      generalize w5.heap.size = pn at *
      obtain ⟨⟨m0, m1, m2⟩, _⟩ := BN.out.c3
      go_wp2_with (at_builtin; refine wpList_append_lies _ rfl _ _ 32 rfl B 24 i0 (.agg Z3) 3 40 Try.underlying32 HI.out.1 HI.out.2.1 HI.out.2.2.1 HI.out.2.2.2 rfl (by decide) (.slice (some ⟨g, 0, none⟩) (j + 1) cp) (j + 1) L (by rfl) (World.ownsRow.alloc HO6.out _) ⟨w6.heap.size, 0, none⟩ 1 1 [.int .i64 x1, .int .i64 y1, .slice (some ⟨g2, 0, none⟩) n1 c2] (by rfl) rfl ?c1 (by simp [Value.oneCell']) (by omega) (by unfold maxLen; omega) (by omega) (by simp; omega) (w6.heap.size + 1) (by simp) ?_)
      case c1 => exact World.news_of_block (cs := #[.int .i64 x1, .int .i64 y1, .slice (some ⟨g2, 0, none⟩) n1 c2]) (t := 24) (fr := (0, 0)) (heap_alloc_new w6 _)
      intro g' cap' w7 hown hgrow hat _
      have hb67 : Below w6.heap.size w6 (w6.alloc (.cells #[.int .i64 x1, .int .i64 y1, .slice (some ⟨g2, 0, none⟩) n1 c2] 24)) := (Below.refl _ _).alloc (Nat.le_refl _) _
      have hg'g : g' = g ∨ (w6.alloc (.cells #[.int .i64 x1, .int .i64 y1, .slice (some ⟨g2, 0, none⟩) n1 c2] 24)).heap.size ≤ g' := by
        rcases hat with h | h
        · left; simpa [Value.ownBlock] using h.symm
        · right; simp; omega
      have hg2n : g2 ≠ g' := by
        have : g2 < w6.heap.size := World.block_lt_of_cell? w6 _ (HC6.out 0 (by rw [HN1.out]; exact (chN_ok ⟨hws.1, hws.2.2.1⟩ ⟨hws.2.1, hws.2.2.2⟩ (j + 1)).2.1)).1
        rcases hat with h | h
        · have : g = g' := by simpa [Value.ownBlock] using h
          omega
        · omega
      have HE7 := hide (show ∀ i, i < j + 1 + 1 → ElB W H f w7 g' (L ++ [.int .i64 x1, .int .i64 y1, .slice (some ⟨g2, 0, none⟩) n1 c2]) i from fun i hi => by
        by_cases hij : i = j + 1
        · subst hij
          rw [HX1.out, HY1.out, HN1.out]
          refine ElB.new HLl.out hg2n ?_
          rw [← HN1.out]
          intro jj hjj
          obtain ⟨q1, q2⟩ := HC6.out.below hb67 (World.block_lt_of_cell? w6 _ (HC6.out 0 (by omega)).1) jj hjj
          have hne : some g2 ≠ (some g : Option Nat) := by simp; omega
          have hbk := hgrow.block g2 (World.block_lt_of_cell? _ _ q1) (by simpa [Value.ownBlock] using hne)
          have hc2 := cell_alike hbk ⟨g2, 0 + jj, none⟩ rfl
          exact ⟨hc2.1.trans q1, hc2.2.trans q2⟩
        · exact ((HE6.out i (by omega)).below hb67).grown hgrow (by rw [HLl.out]; omega) (chN_ok ⟨hws.1, hws.2.2.1⟩ ⟨hws.2.1, hws.2.2.2⟩ i).2.1 hg'g)
      have HB7 := hide (HB6.out.trans (((hb67.mono (show B ≤ w6.heap.size by omega)).grown hgrow (by simp; omega) (fun k e => by simp [Value.ownBlock] at e; omega))))
      have hs7 : B < w7.heap.size := by have := hgrow.size; simp at this; omega
      have HO7 := hide hown
      clear hown hgrow hat hb67 hg'g hg2n m0 m1 m2
      go_wp2_with fail
      exact ⟨⟨j + 1, g', cap', _, by omega, rfl, HO7.out, HE7, HB7.out, hs7⟩, by simp; omega⟩
    · obtain rfl : j + 1 = m := by omega
      have dlt : decide ((j : Int) + 1 < ((j + 1 : Nat) : Int)) = false := by simp
      have hCh := hide (Ch.of_own HO2.out hel.out ⟨hws.1, hws.2.2.1⟩ ⟨hws.2.1, hws.2.2.2⟩ HF.out)
      have HBe := hide (hb2.out.trans (HB.out.mono (by omega)))
      go_wp2_with fail
      go_ret2
      exact ⟨_, rfl, hCh.out, HBe.out⟩
theorem mchain_any {W H : Int} {n : Nat} {f : Nat → Int} {v : Value} {many : Int} {w : World} (hv : Im w v W H n f) : Calls Try.prog 15 #[v, .int .i64 many] w (chainP W H n f many w) := by
  by_cases h : chainOk W H n many = true
  · exact mchain_yes hv h
  · exact mchain_no hv (by simpa using h)
end Go.Proofs.Ytmckfppemhnhmaa
