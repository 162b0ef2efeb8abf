import Derived.Test.YtmckfppemhnhmaaMI
namespace Go.Proofs.Ytmckfppemhnhmaa
open Go.RowKit

theorem own_below {w w' : World} {B : Nat} {e : TypeId} {s : Nat} {v : Value} {n : Nat} {xs : List Value} (h : w.ownsRow B e s v n xs) (hb : Below w.heap.size w w') : w'.ownsRow B e s v n xs := by
  have hg : w.grownBy w' none := Below.asGrown hb
  exact World.ownsRow.kept h hg (by cases hv : v.ownBlock <;> simp)
theorem chN_zero {W H : Int} {n : Nat} (hr : rightV W H n = true) : chN W H 0 = n := by
  unfold rightV at hr
  simp at hr
  unfold chN
  simp only [hk]
  omega

set_option maxRecDepth 100000 in
set_option maxHeartbeats 1600000 in
theorem rchain_yes {W H : Int} {n : Nat} {f : Nat → Int} {v : Value} {many : Int} {w : World} (hv : Im w v W H n f) (hok : chainOk W H n many = true) : Calls Try.prog 16 #[v, .int .i64 many] w (chainP W H n f many w) := by
  have HV := hide hv
  obtain ⟨ao, cap, rfl, hrd, _, _⟩ := hv
  obtain ⟨_, _, e, hn63, hf, hc⟩ := hrd
  injection e with e1 e2 e3
  subst e1 e3
  unfold chainP
  rw [hok]
  unfold chainOk at hok
  simp only [Bool.and_eq_true, decide_eq_true_eq] at hok
  obtain ⟨⟨hr, hm1⟩, hm2⟩ := hok
  have hws : 1 ≤ W ∧ 1 ≤ H ∧ W ≤ 4096 ∧ H ≤ 4096 := by unfold rightV at hr; simp at hr; omega
  have hlle := levels_le (W := W) (H := H) hws.1 hws.2.1
  obtain ⟨m, rfl⟩ : ∃ m : Nat, many = (m : Int) := ⟨many.toNat, by omega⟩
  have hm9 : m ≤ 8192 := by omega
  have hm0 : 1 ≤ m := by omega
  have hn0 := chN_zero hr
  have hnp := (chN_ok ⟨hws.1, hws.2.2.1⟩ ⟨hws.2.1, hws.2.2.2⟩ 0).2.1
  obtain ⟨b, off, rfl, hcc⟩ := hc (by omega)
  have HC := hide hcc
  have HF := hide hf
  have HN0 := hide hn0
  have hbl : b < w.heap.size := World.block_lt_of_cell? w _ (HC.out 0 (by omega))
  obtain ⟨lv, hlv⟩ : ∃ lv, lv = levelsV W H := ⟨_, rfl⟩
  rw [← hlv] at hm2
  have HLV := hide hlv
  have HR := hide hr
  obtain ⟨i0, hi0, hz0, hz1, hz2⟩ := info_parts Try.info24
  have HI := hide (And.intro hi0 (And.intro hz0 (And.intro hz1 hz2)))
  have d1 : decide ((m : Int) < 1) = false := by simp; omega
  have d2 : decide (lv < (m : Int)) = false := by simp; omega
  clear hr hc hf hcc hlle hlv hi0 hz0 hz1 hz2 hn0 hnp
  go_enter Try.func16, Try.ntmps16
  go_wp2_with fail
  refine (rright_any W H _ n cap _).mono ?_
  rintro e w1 ⟨rfl, hb⟩
  rw [HR.out]
  have BI := hide (Box.below (b := w.heap.size) (cs := #[.int .i64 W, .int .i64 H, .slice (some ⟨b, off, none⟩) n cap]) (Box.mk' rfl) hb (by simp))
  have hb1 := hide (Below.trans ((Below.refl _ _).alloc (Nat.le_refl _) _) (hb.mono (by simp)) : Below w.heap.size w w1)
  have hs1 : w.heap.size < w1.heap.size := by have := hb.size; simp at this; omega
  clear hb
  obtain ⟨⟨k0, k1, k2⟩, _⟩ := BI.out.c3
  go_wp2_with fail
  refine (rlevels_any W H _ (by omega) (by omega) (by omega) (by omega)).mono ?_
  rintro e w' ⟨rfl, rfl⟩
  rw [← HLV.out]
  go_upto_region 4 with (fail)
  obtain ⟨w2, hw2⟩ : ∃ w2, w2 = w1.alloc (.cells #[.int .i64 W, .int .i64 H, .slice (some ⟨b, off, none⟩) n cap] 24) := ⟨_, rfl⟩
  rw [← hw2]
  have HO := hide (show w2.ownsRow w1.heap.size 24 3 (.slice (some ⟨w1.heap.size, 0, none⟩) 1 1) 1 [.int .i64 W, .int .i64 H, .slice (some ⟨b, off, none⟩) n cap] by
    rw [hw2]; exact World.ownsRow_lit w1 #[.int .i64 W, .int .i64 H, .slice (some ⟨b, off, none⟩) n cap] 1 (Nat.le_refl _) (by decide) rfl)
  have hb2 := hide (show Below w.heap.size w w2 by rw [hw2]; exact hb1.out.alloc (by omega) _)
  have hs2 : w1.heap.size < w2.heap.size := by rw [hw2]; simp
  have HE := hide (show ∀ i, i < 1 → ElB W H f w2 w1.heap.size [.int .i64 W, .int .i64 H, .slice (some ⟨b, off, none⟩) n cap] i from fun i hi => by
    obtain rfl : i = 0 := by omega
    exact ⟨b, off, cap, rfl, rfl, by rw [HN0.out]; rfl, by omega, fun j hj => (hb2.out.cell (by exact hbl)).trans (HC.out j (by rw [HN0.out] at hj; exact hj))⟩)
  clear hw2 k0 k1 k2 BI
  generalize w1.heap.size = B at *
  go_wp2_with fail
  go_loopw [6, 7] (fun v' i' wr => ∃ (j g cp : Nat) (L : List Value), j + 1 ≤ m ∧ i' = .int .i64 ((j : Int) + 1) ∧ v' = .slice (some ⟨g, 0, none⟩) (j + 1) cp ∧ wr.ownsRow B 24 3 (.slice (some ⟨g, 0, none⟩) (j + 1) cp) (j + 1) L ∧ Hid (∀ i, i < j + 1 → ElB W H f wr g L i) ∧ Below B w2 wr ∧ B < wr.heap.size) (fun _ i' _ => m - (intOf i').toNat)
  case atStart => exact ⟨0, B, 1, _, by omega, rfl, rfl, HO.out, HE, Below.refl _ _, hs2⟩
  case round =>
    obtain ⟨j, g, cp, L, hjm, rfl, rfl, hown, hel, hbw, hBr⟩ := hrel
    have HO2 := hide hown
    have HB := hide hbw
    have hg : B ≤ g ∧ g < wr.heap.size := World.ownsRow.lt hown g rfl
    have hLl : L.length = (j + 1) * 3 := hown.1
    have HLl := hide hLl
    clear hown hbw hLl
    by_cases hlt : j + 1 < m
    · obtain ⟨a2, cp2, h1, h2, h3, him⟩ := (hel.out j (by omega)).im ⟨hws.1, hws.2.2.1⟩ ⟨hws.2.1, hws.2.2.2⟩ HF.out
      have HIM := hide him
      have hrj := hide (chN_ok ⟨hws.1, hws.2.2.1⟩ ⟨hws.2.1, hws.2.2.2⟩ j).1
      have hW2 := hk_4096 ⟨hws.1, hws.2.2.1⟩ j
      have hH2 := hk_4096 ⟨hws.2.1, hws.2.2.2⟩ j
      have hload := hide (show ∀ jj v, (#[.int .i64 (hk j W), .int .i64 (hk j H), .slice a2 (chN W H j) cp2] : Array Value)[jj]? = some v → wr.cell? ((⟨g, j * 3, none⟩ : Addr).add jj) = some v by
        intro jj v hv
        rw [Addr.add_lit]
        have hj3 : jj < 3 := by
          rcases Nat.lt_or_ge jj 3 with h | h
          · exact h
          · rw [Array.getElem?_eq_none (by simpa using h)] at hv; cases hv
        rw [World.ownsRow.cellAt HO2.out _ (by omega)]
        rcases (by omega : jj = 0 ∨ jj = 1 ∨ jj = 2) with rfl | rfl | rfl
        · exact h1.trans hv
        · exact h2.trans hv
        · exact h3.trans hv)
      have dlt : decide ((j : Int) + 1 < m) = true := by simp; omega
      clear him h1 h2 h3
      go_wp2_with (with_reducible refine wpList_run rfl (exec_load T24 (.tmp 37) rfl ⟨g, j * 3, none⟩ rfl #[.int .i64 (hk j W), .int .i64 (hk j H), .slice a2 (chN W H j) cp2] rfl hload.out) ?_)
      refine (rhalf_cl HIM.out hrj.out).mono ?_
      rintro e w5 ⟨g2, c2, rfl, hg2, hcl, hb⟩
      obtain ⟨x1, hx1⟩ : ∃ x, x = halfV (hk j W) := ⟨_, rfl⟩
      obtain ⟨y1, hy1⟩ : ∃ x, x = halfV (hk j H) := ⟨_, rfl⟩
      obtain ⟨n1, hn1⟩ : ∃ x, x = (4 * halfV (hk j W) * halfV (hk j H)).toNat := ⟨_, rfl⟩
      rw [← hn1, ← hx1, ← hy1]
      rw [← hn1] at hcl
      have HX1 := hide (show x1 = hk (j + 1) W by rw [hx1]; rfl)
      have HY1 := hide (show y1 = hk (j + 1) H by rw [hy1]; rfl)
      have HN1 := hide (show n1 = chN W H (j + 1) by rw [hn1]; rfl)
      have HCL := hide hcl
      have HE5 := hide (show ∀ i, i < j + 1 → ElB W H f w5 g L i from fun i hi => (hel.out i hi).below hb)
      have HO5 := hide (own_below HO2.out hb)
      have HB5 := hide (HB.out.trans (hb.mono (by omega)))
      have hg2l : g2 < w5.heap.size := World.block_lt_of_cell? w5 _ (hcl 0 (by rw [HN1.out]; exact (chN_ok ⟨hws.1, hws.2.2.1⟩ ⟨hws.2.1, hws.2.2.2⟩ (j + 1)).2.1)).1
      have hs5 : B < w5.heap.size := by have := hb.size; omega
      have hgg : g2 ≠ g := by omega
      clear hb hcl hx1 hy1 hn1 dlt hload
      go_upto_region 8 with (fail)
      generalize hw6 : w5.alloc (.cells #[.int .i64 x1, .int .i64 y1, .slice (some ⟨g2, 0, none⟩) n1 c2] 24) = w6
      have hal : Below w5.heap.size w5 w6 := by rw [← hw6]; exact (Below.refl _ _).alloc (Nat.le_refl _) _
      have BN := hide (show Box w6 w5.heap.size #[.int .i64 x1, .int .i64 y1, .slice (some ⟨g2, 0, none⟩) n1 c2] by rw [← hw6]; exact Box.mk' rfl)
      have HE6 := hide (show ∀ i, i < j + 1 → ElB W H f w6 g L i from fun i hi => (HE5.out i hi).below hal)
      have HO6 := hide (own_below HO5.out hal)
      have HB6 := hide (HB5.out.trans (hal.mono (by omega)))
      have HC6 := hide (HCL.out.below hal hg2l)
      have hs6 : B < w6.heap.size := by have := hal.size; omega
      clear hw6 hal HE5 HO5 HB5 HCL
      generalize w5.heap.size = pn at *
      obtain ⟨⟨m0, m1, m2⟩, _⟩ := BN.out.c3
      go_wp2_with (at_builtin; refine wpList_append_lies _ rfl _ _ 32 rfl B 24 i0 (.agg Z3) 3 40 Try.underlying32 HI.out.1 HI.out.2.1 HI.out.2.2.1 HI.out.2.2.2 rfl (by decide) (.slice (some ⟨g, 0, none⟩) (j + 1) cp) (j + 1) L (by rfl) (World.ownsRow.alloc HO6.out _) ⟨w6.heap.size, 0, none⟩ 1 1 [.int .i64 x1, .int .i64 y1, .slice (some ⟨g2, 0, none⟩) n1 c2] (by rfl) rfl ?c1 (by simp [Value.oneCell']) (by omega) (by unfold maxLen; omega) (by omega) (by simp; omega) (w6.heap.size + 1) (by simp) ?_)
      case c1 => exact World.news_of_block (cs := #[.int .i64 x1, .int .i64 y1, .slice (some ⟨g2, 0, none⟩) n1 c2]) (t := 24) (fr := (0, 0)) (heap_alloc_new w6 _)
      intro g' cap' w7 hown hgrow hat _
      have hb67 : Below w6.heap.size w6 (w6.alloc (.cells #[.int .i64 x1, .int .i64 y1, .slice (some ⟨g2, 0, none⟩) n1 c2] 24)) := (Below.refl _ _).alloc (Nat.le_refl _) _
      have hg'g : g' = g ∨ (w6.alloc (.cells #[.int .i64 x1, .int .i64 y1, .slice (some ⟨g2, 0, none⟩) n1 c2] 24)).heap.size ≤ g' := by
        rcases hat with h | h
        · left; simpa [Value.ownBlock] using h.symm
        · right; simp; omega
      have hg2n : g2 ≠ g' := by
        have : g2 < w6.heap.size := World.block_lt_of_cell? w6 _ (HC6.out 0 (by rw [HN1.out]; exact (chN_ok ⟨hws.1, hws.2.2.1⟩ ⟨hws.2.1, hws.2.2.2⟩ (j + 1)).2.1)).1
        rcases hat with h | h
        · have : g = g' := by simpa [Value.ownBlock] using h
          omega
        · omega
      have HE7 := hide (show ∀ i, i < j + 1 + 1 → ElB W H f w7 g' (L ++ [.int .i64 x1, .int .i64 y1, .slice (some ⟨g2, 0, none⟩) n1 c2]) i from fun i hi => by
        by_cases hij : i = j + 1
        · subst hij
          rw [HX1.out, HY1.out, HN1.out]
          refine ElB.new HLl.out hg2n ?_
          rw [← HN1.out]
          intro jj hjj
          obtain ⟨q1, q2⟩ := HC6.out.below hb67 (World.block_lt_of_cell? w6 _ (HC6.out 0 (by omega)).1) jj hjj
          have hne : some g2 ≠ (some g : Option Nat) := by simp; omega
          have hbk := hgrow.block g2 (World.block_lt_of_cell? _ _ q1) (by simpa [Value.ownBlock] using hne)
          have hc2 := cell_alike hbk ⟨g2, 0 + jj, none⟩ rfl
          exact ⟨hc2.1.trans q1, hc2.2.trans q2⟩
        · exact ((HE6.out i (by omega)).below hb67).grown hgrow (by rw [HLl.out]; omega) (chN_ok ⟨hws.1, hws.2.2.1⟩ ⟨hws.2.1, hws.2.2.2⟩ i).2.1 hg'g)
      have HB7 := hide (HB6.out.trans (((hb67.mono (show B ≤ w6.heap.size by omega)).grown hgrow (by simp; omega) (fun k e => by simp [Value.ownBlock] at e; omega))))
      have hs7 : B < w7.heap.size := by have := hgrow.size; simp at this; omega
      have HO7 := hide hown
      clear hown hgrow hat hb67 hg'g hg2n m0 m1 m2
      go_wp2_with fail
      exact ⟨⟨j + 1, g', cap', _, by omega, by go_num, rfl, HO7.out, HE7, HB7.out, hs7⟩, by simp [intOf]; omega⟩
    · obtain rfl : j + 1 = m := by omega
      have dlt : decide ((j : Int) + 1 < ((j + 1 : Nat) : Int)) = false := by simp
      have hCh := hide (Ch.of_own HO2.out hel.out ⟨hws.1, hws.2.2.1⟩ ⟨hws.2.1, hws.2.2.2⟩ HF.out)
      have HBe := hide (hb2.out.trans (HB.out.mono (by omega)))
      go_wp2_with fail
      go_ret2
      exact ⟨_, rfl, hCh.out, HBe.out⟩
theorem rchain_any {W H : Int} {n : Nat} {f : Nat → Int} {v : Value} {many : Int} {w : World} (hv : Im w v W H n f) : Calls Try.prog 16 #[v, .int .i64 many] w (chainP W H n f many w) := by
  by_cases h : chainOk W H n many = true
  · exact rchain_yes hv h
  · exact rchain_no hv (by simpa using h)
end Go.Proofs.Ytmckfppemhnhmaa
