import Derived.Test.YtmckfppemhnhmaaH

namespace Go.Proofs.Ytmckfppemhnhmaa
open Go.RowKit

set_option maxHeartbeats 400000 in
theorem each_any (K : FuncId) (p1 p2 : Value) (x y : Int) (J : Nat → World → Prop) (w : World) (hx : 0 ≤ x ∧ x ≤ 4096) (hy : 0 ≤ y ∧ y ≤ 4096)
    (hcf : ∀ (args : Array Value) (w : World), (callFunc K args).run Try.prog w = .ok (.enter K args) w) (h0 : J 0 w)
    (H : ∀ (i : Nat) (wr : World), i < 16 → J i wr → Calls Try.prog K #[.int .i64 i, .int .i64 (4 * x + (i : Int) % 4), .int .i64 (4 * y + (i : Int) / 4), p1, p2] wr fun e w' => e = .returned (.tuple #[]) ∧ J (i + 1) w') :
    Calls Try.prog 53 #[.int .i64 x, .int .i64 y, .func (.func K) #[] #[p1, p2]] w fun e w' => e = .returned (.tuple #[]) ∧ J 16 w' := by
  have HH := hide H
  have H0 := hide h0
  clear H h0
  go_enter Try.func53, Try.ntmps53
  go_wp2_with fail
  go_loopw [7] (fun i wr => ∃ k : Nat, k ≤ 16 ∧ i = .int .i64 k ∧ Hid (J k wr)) (fun i _ => 16 - (intOf i).toNat)
  case atStart => exact ⟨0, by omega, rfl, H0⟩
  case round =>
    obtain ⟨k, hk, rfl, hj⟩ := hrel
    by_cases hlt : k < 16
    · go_wp2_with fail
      refine (HH.out k wr hlt hj.out).mono ?_
      rintro e w1 ⟨rfl, hj1⟩
      have HJ1 := hide hj1
      clear hj1 hj
      go_wp2_with fail
      go_roundw
      case rel => exact ⟨k + 1, by omega, by go_num, HJ1⟩
      case measure => simp [intOf]; omega
    · obtain rfl : k = 16 := by omega
      go_wp2_with fail
      go_end0
      exact ⟨rfl, hj.out⟩
theorem cf54 (args : Array Value) (w : World) : (callFunc 54 args).run Try.prog w = .ok (.enter 54 args) w := by kernel_rfl
theorem cf60 (args : Array Value) (w : World) : (callFunc 60 args).run Try.prog w = .ok (.enter 60 args) w := by kernel_rfl

def Z64 : Array Value := Array.replicate 64 (.int .i64 0)
theorem zero48 (w : World) : (zeroValue 48).run Try.prog w = .ok (.agg Z64) w := by kernel_rfl
theorem build48 (w : World) : (Instr.build 48 #[]).run Try.prog w = .ok (.agg Z64) w := by kernel_rfl
theorem size48 : (Try.prog.info? 48).map (·.size) = some 64 := by kernel_rfl
theorem T48 : AggT Try.prog 48 64 Z64 := ⟨⟨_, Try.underlying48, rfl⟩, size48, zero48, by simp [Z64], build48⟩
theorem Z64_at (j : Nat) (hj : j < 64) : Z64[j]? = some (.int .i64 0) := by unfold Z64; simp [hj]
theorem Z64_ag : Ag Z64 64 (fun _ => 0) := ⟨by simp [Z64], fun j hj => Z64_at j hj⟩
theorem Ag.eq {cs : Array Value} {n : Nat} {f : Nat → Int} (h : Ag cs n f) : cs = agOf 0 n f := by
  have g := agOf_ag 0 n f
  apply Array.ext
  · rw [h.1, g.1]
  · intro i h1 h2
    have a := h.2 i (by rw [← h.1]; exact h1)
    have b := g.2 i (by rw [← g.1]; exact h2)
    simp only [Nat.zero_add] at b
    rw [Array.getElem?_eq_getElem h1] at a
    rw [Array.getElem?_eq_getElem h2] at b
    exact Option.some.inj (a.trans b.symm)
theorem zero38 (w : World) : (zeroValue 38).run Try.prog w = .ok (.agg z4) w := by kernel_rfl
theorem build38 (w : World) : (Instr.build 38 #[]).run Try.prog w = .ok (.agg z4) w := by kernel_rfl
theorem size38 : (Try.prog.info? 38).map (·.size) = some 4 := by kernel_rfl
theorem T38 : AggT Try.prog 38 4 z4 := ⟨⟨_, Try.underlying38, rfl⟩, size38, zero38, by simp [z4], build38⟩

/-- the texel at a place within the sides -/
def nearO (W H x y : Int) : Nat := (4 * (min y (H - 1) * W + min x (W - 1))).toNat
def gatV (W H : Int) (f : Nat → Int) (x y : Int) : Nat → Int := fun j => f (nearO W H (4 * x + ((j / 4 : Nat) : Int) % 4) (4 * y + ((j / 4 : Nat) : Int) / 4) + j % 4)
def gatK (W H : Int) (f : Nat → Int) (x y : Int) (k : Nat) : Nat → Int := fun j => if j < 4 * k then gatV W H f x y j else 0
theorem texV_ag (f : Nat → Int) (o : Nat) : Ag (texV f o) 4 (fun j => f (o + j)) := ⟨rfl, fun i hi => by match i, hi with | 0, _ => rfl | 1, _ => rfl | 2, _ => rfl | 3, _ => rfl⟩
theorem near_ok {W H x y : Int} {n : Nat} (hr : rightV W H n = true) (hx : 0 ≤ x) (hy : 0 ≤ y) : inV (min x (W - 1)) (min y (H - 1)) W H = true := by
  unfold rightV at hr
  unfold inV
  simp at hr ⊢
  omega

theorem g1_any {W H : Int} {n cap b off bI bT B i : Nat} {f h : Nat → Int} (x y : Int) (w : World) (hr : rightV W H n = true) (hi : i < 16) (hx : 0 ≤ x ∧ x ≤ 100000) (hy : 0 ≤ y ∧ y ≤ 100000)
    (hI : Box w bI #[.int .i64 W, .int .i64 H, .slice (some ⟨b, off, none⟩) n cap]) (hf : ∀ i, 0 ≤ f i ∧ f i ≤ 255) (hc : ∀ i, i < n → w.cell? ⟨b, off + i, none⟩ = some (.int .u8 (f i))) (hT : Bk w bT 64 h) (hB : B ≤ bT) (hT2 : bT < w.heap.size) :
    Calls Try.prog 54 #[.int .i64 i, .int .i64 x, .int .i64 y, .pointer (some ⟨bI, 0, none⟩), .pointer (some ⟨bT, 0, none⟩)] w
      fun e w' => e = .returned (.tuple #[]) ∧ Bk w' bT 64 (fun j => if 4 * i ≤ j ∧ j < 4 * i + 4 then f (nearO W H x y + (j - 4 * i)) else h j) ∧ Below B w w' := by
  obtain ⟨p1, p2, p3, p4, p5, p6, p7, p8⟩ := place_ok hr (near_ok hr hx.1 hy.1)
  have hw : 1 ≤ W ∧ 1 ≤ H ∧ W ≤ 4096 ∧ H ≤ 4096 := by unfold rightV at hr; simp at hr; omega
  obtain ⟨o, ho⟩ : ∃ o : Nat, 4 * (min y (H - 1) * W + min x (W - 1)) = o := ⟨(4 * (min y (H - 1) * W + min x (W - 1))).toNat, by omega⟩
  have hno : nearO W H x y = o := by unfold nearO; omega
  rw [hno]
  have HO := hide ho
  have HC := hide hc
  have HF := hide hf
  have HT := hide hT
  have HR := hide hr
  obtain ⟨⟨k0, k1, k2⟩, kf0, kf1, kf2⟩ := hI.c3
  clear hc hf hT ho hno hr hI
  have hmx : (if W - 1 < x then W - 1 else x) = min x (W - 1) := by omega
  have hmy : (if H - 1 < y then H - 1 else y) = min y (H - 1) := by omega
  generalize min x (W - 1) = mx at *
  generalize min y (H - 1) = my at *
  have HX := hide hmx
  have HY := hide hmy
  clear hmx hmy
  go_enter Try.func54, Try.ntmps54
  go_wp2_with fail
  all_goals (
    have hX := HX.out
    have hY := HY.out
    first | rw [if_pos (by omega)] at hX | rw [if_neg (by omega)] at hX
    first | rw [if_pos (by omega)] at hY | rw [if_neg (by omega)] at hY
    subst hX hY
    refine (read_any W H _ _ b off o n cap f w p1 p2 p3 p4 HO.out (by have := HO.out; omega) (by omega) HF.out HC.out).mono ?_
    rintro e w1 ⟨rfl, hb1⟩
    have HT1 := hide (HT.out.below hb1 (hT2))
    have HB1 := hide hb1
    clear hb1 HX HY
    have hsz : (texV f o).size = 4 := rfl
    go_wp2_with (with_reducible refine wpList_store T38 rfl (.tmp 21) (.tmp 20) rfl bT (i * 4) rfl (texV f o) rfl hsz (HT1.out.isSome (by omega)) (HT1.out.free (by omega)) (texV_ag f o).one ?_)
    intro w2 hs
    have HT2 := hide (HT1.out.set hs (texV_ag f o))
    have HB2 := hide ((HB1.out.mono (by omega)).trans (hs.below hB) : Below B w w2)
    clear hs
    go_wp2_with fail
    go_end0
    refine ⟨rfl, HT2.out.congr fun j hj => ?_, HB2.out⟩
    rw [Nat.mul_comm i 4])

theorem Bk.of_box {w : World} {b n : Nat} {cs : Array Value} {f : Nat → Int} (h : Box w b cs) (ha : Ag cs n f) : Bk w b n f := fun i hi => h i _ (ha.2 i hi)
theorem gatK_next (W H : Int) (f : Nat → Int) (x y : Int) (k j : Nat) :
    (if 4 * k ≤ j ∧ j < 4 * k + 4 then f (nearO W H (4 * x + (k : Int) % 4) (4 * y + (k : Int) / 4) + (j - 4 * k)) else gatK W H f x y k j) = gatK W H f x y (k + 1) j := by
  unfold gatK
  by_cases h : 4 * k ≤ j ∧ j < 4 * k + 4
  · rw [if_pos h, if_pos (by omega)]
    unfold gatV
    rw [show j / 4 = k by omega, show j % 4 = j - 4 * k by omega]
  · rw [if_neg h]
    by_cases h2 : j < 4 * k
    · rw [if_pos h2, if_pos (by omega)]
    · rw [if_neg h2, if_neg (by omega)]
theorem has_facts {W H x y : Int} {n : Nat} (h : hasV W H x y n = true) : rightV W H n = true ∧ 0 ≤ x ∧ x ≤ 1023 ∧ 0 ≤ y ∧ y ≤ 1023 := by
  unfold hasV at h
  rw [Bool.and_eq_true] at h
  obtain ⟨hr, hi⟩ := h
  refine ⟨hr, ?_⟩
  unfold rightV at hr
  unfold inV tilesV at hi
  simp at hr hi
  have h0 : ¬ (W < 1 ∨ H < 1) := by omega
  simp only [if_neg h0] at hi
  omega
def gatP (W H x y : Int) (n : Nat) (f : Nat → Int) (w : World) (e : Ending) (w' : World) : Prop :=
  e = .returned (.tuple #[.agg (agOf 0 64 (if hasV W H x y n then gatV W H f x y else fun _ => 0)), .int .i64 (if hasV W H x y n then 0 else 1)]) ∧ Below w.heap.size w w'

set_option maxHeartbeats 400000 in
theorem gather_ok {W H : Int} (x y : Int) {n : Nat} {f : Nat → Int} {v : Value} {w : World} (hv : Im w v W H n f) (hh : hasV W H x y n = true) :
    Calls Try.prog 31 #[v, .int .i64 x, .int .i64 y] w (gatP W H x y n f w) := by
  obtain ⟨ao, cap, rfl, hrd, hW, hH⟩ := hv
  obtain ⟨_, _, e, hn, hf, hc⟩ := hrd
  injection e with e1 e2 e3
  subst e1 e3
  obtain ⟨hr, x1, x2, y1, y2⟩ := has_facts hh
  unfold gatP
  rw [hh, if_pos rfl, if_pos rfl]
  obtain ⟨G, hG⟩ : ∃ G, G = gatV W H f x y := ⟨_, rfl⟩
  rw [← hG]
  have HG := hide hG
  clear hG
  have n0 : 0 < n := (place_ok hr (near_ok hr (Int.le_refl 0) (Int.le_refl 0))).2.2.2.2.2.2.1
  obtain ⟨b, off, rfl, hcc⟩ := hc n0
  have HC := hide hcc
  have HF := hide hf
  have HH := hide hh
  have HR := hide hr
  have hbl : b < w.heap.size := World.block_lt_of_cell? w _ (HC.out 0 (by omega))
  have HZ := hide Z64_ag
  have hm := hmf
  clear hr hc hf hcc hh
  go_enter Try.func31, Try.ntmps31
  go_wp2_with (with_reducible refine wpList_run rfl (exec_alloc T48 rfl) ?_)
  refine (has_any W H x y _ n cap _ hW.1 hW.2 hH.1 hH.2).mono ?_
  rintro e w1 ⟨rfl, hb⟩
  rw [HH.out]
  have BI := hide (Box.below (b := w.heap.size) (cs := #[.int .i64 W, .int .i64 H, .slice (some ⟨b, off, none⟩) n cap]) (by (repeat' (first | (refine Box.mk' ?_; simp; done) | (refine Box.old ?_ ?_; rotate_left; (simp <;> omega))))) hb (by simp; omega))
  have BR := hide (Box.below (b := w.heap.size + 1) (cs := Z64) (by (repeat' (first | (refine Box.mk' ?_; simp; done) | (refine Box.old ?_ ?_; rotate_left; (simp <;> omega))))) hb (by simp <;> omega))
  have BT := hide (Box.below (b := w.heap.size + 1 + 1) (cs := Z64) (by (repeat' (first | (refine Box.mk' ?_; simp; done) | (refine Box.old ?_ ?_; rotate_left; (simp <;> omega))))) hb (by simp))
  have hb1 := hide (Below.trans (by (repeat' (first | exact Below.refl _ _ | assumption | refine Below.setCell ?_ (by simp <;> omega) _ | refine Below.alloc ?_ (by simp <;> omega) _))) (hb.mono (by simp; omega)) : Below w.heap.size w w1)
  have hs1 : w.heap.size + 3 ≤ w1.heap.size := by have := hb.size; simp at this; omega
  clear hb
  obtain ⟨⟨k0, k1, k2⟩, kf0, kf1, kf2⟩ := BI.out.c3
  go_wp2_with fail
  refine (each_any 54 _ _ x y (fun k wr => Bk wr (w.heap.size + 1 + 1) 64 (gatK W H f x y k) ∧ Below (w.heap.size + 1 + 1) w1 wr) w1 ⟨x1, by omega⟩ ⟨y1, by omega⟩ cf54
    ⟨Bk.of_box BT.out HZ.out, Below.refl _ _⟩ (fun i wr hi hj => ?_)).mono ?_
  · refine (g1_any (B := w.heap.size + 1 + 1) (b := b) (off := off) (n := n) (cap := cap) (f := f) _ _ wr HR.out hi (by omega) (by omega) (BI.out.below hj.2 (by omega)) HF.out
      (fun i hi => (hj.2.cell (by show b < _; omega)).trans ((hb1.out.cell (by exact hbl)).trans (HC.out i hi))) hj.1 (Nat.le_refl _) (by have := hj.2.size; omega)).mono ?_
    rintro e w' ⟨rfl, h1, h2⟩
    exact ⟨rfl, h1.congr fun j _ => gatK_next W H f x y i j, hj.2.trans h2⟩
  rintro e w2 ⟨rfl, hk, hb2⟩
  have HK := hide (hk.congr (g := G) (fun j hj => by rw [HG.out]; unfold gatK; rw [if_pos (by omega)]))
  have HB2 := hide (hb1.out.trans (hb2.mono (by omega)))
  have BR2 := hide (Bk.of_box (BR.out.below hb2 (by omega)) HZ.out)
  clear hk hb2 k0 k1 k2 kf0 kf1 kf2 hm
  have A0 := hide (agOf_ag 0 64 G)
  have z0 := A0.out.1
  go_wp2_with (first | (with_reducible refine wpList_run rfl (exec_load T48 (.tmp 8) rfl ⟨w.heap.size + 1 + 1, 0, none⟩ rfl (agOf 0 64 G) z0 (HK.out.load (by omega))) ?_) | (with_reducible refine wpList_store T48 rfl (.tmp 6) (.tmp 19) rfl (w.heap.size + 1) 0 rfl (agOf 0 64 G) rfl z0 (BR2.out.isSome (by omega)) (BR2.out.free (by omega)) A0.out.one ?_))
  intro w3 hs
  have HR3 := hide ((BR2.out.set hs A0.out).congr (g := G) (fun j hj => by simp; intro h; omega))
  have HB3 := hide (HB2.out.trans (hs.below (by omega)))
  clear hs
  go_wp2_with fail
  have hl := run_loadVar_cells T48 w3 ⟨w.heap.size + 1, 0, none⟩ (agOf 0 64 G) z0 (HR3.out.load (by omega))
  refine bodyPost_ret (v := .tuple #[.agg (agOf 0 64 G), .int .i64 0]) (by simp [results, Try.results31, asAddr, hl]) rfl ⟨rfl, HB3.out⟩

set_option maxHeartbeats 400000 in
theorem gather_no {W H : Int} (x y : Int) {n : Nat} {f : Nat → Int} {v : Value} {w : World} (hv : Im w v W H n f) (hh : hasV W H x y n = false) :
    Calls Try.prog 31 #[v, .int .i64 x, .int .i64 y] w (gatP W H x y n f w) := by
  obtain ⟨ao, cap, rfl, hrd, hW, hH⟩ := hv
  unfold gatP
  rw [hh]
  have HH := hide hh
  have HZ := hide Z64_ag
  clear hh hrd
  go_enter Try.func31, Try.ntmps31
  go_wp2_with (with_reducible refine wpList_run rfl (exec_alloc T48 rfl) ?_)
  refine (has_any W H x y _ n cap _ hW.1 hW.2 hH.1 hH.2).mono ?_
  rintro e w1 ⟨rfl, hb⟩
  rw [HH.out]
  have BR := hide (Bk.of_box (Box.below (b := w.heap.size + 1) (cs := Z64) (by (repeat' (first | (refine Box.mk' ?_; simp; done) | (refine Box.old ?_ ?_; rotate_left; (simp <;> omega))))) hb (by simp <;> omega)) HZ.out)
  have BT := hide (Bk.of_box (Box.below (b := w.heap.size + 1 + 1) (cs := Z64) (by (repeat' (first | (refine Box.mk' ?_; simp; done) | (refine Box.old ?_ ?_; rotate_left; (simp <;> omega))))) hb (by simp)) HZ.out)
  have hb1 := hide (Below.trans (by (repeat' (first | exact Below.refl _ _ | assumption | refine Below.setCell ?_ (by simp <;> omega) _ | refine Below.alloc ?_ (by simp <;> omega) _))) (hb.mono (by simp; omega)) : Below w.heap.size w w1)
  clear hb
  have A0 := hide (agOf_ag 0 64 (fun _ => (0 : Int)))
  have z0 := A0.out.1
  go_wp2_with (first | (with_reducible refine wpList_run rfl (exec_load T48 (.tmp 8) rfl ⟨w.heap.size + 1 + 1, 0, none⟩ rfl (agOf 0 64 (fun _ => (0 : Int))) z0 (BT.out.load (by omega))) ?_) | (with_reducible refine wpList_store T48 rfl (.tmp 6) (.tmp 14) rfl (w.heap.size + 1) 0 rfl (agOf 0 64 (fun _ => (0 : Int))) rfl z0 (BR.out.isSome (by omega)) (BR.out.free (by omega)) A0.out.one ?_))
  intro w3 hs
  have HR3 := hide ((BR.out.set hs A0.out).congr (g := fun _ => 0) (fun j hj => by simp))
  have HB3 := hide (hb1.out.trans (hs.below (by omega)))
  clear hs
  go_wp2_with fail
  have hl := run_loadVar_cells T48 w3 ⟨w.heap.size + 1, 0, none⟩ (agOf 0 64 (fun _ => (0 : Int))) z0 (HR3.out.load (by omega))
  refine bodyPost_ret (v := .tuple #[.agg (agOf 0 64 (fun _ => (0 : Int))), .int .i64 1]) (by simp [results, Try.results31, asAddr, hl]) rfl ⟨rfl, HB3.out⟩
theorem gather_any {W H : Int} (x y : Int) {n : Nat} {f : Nat → Int} {v : Value} {w : World} (hv : Im w v W H n f) :
    Calls Try.prog 31 #[v, .int .i64 x, .int .i64 y] w (gatP W H x y n f w) := by
  by_cases h : hasV W H x y n = true
  · exact gather_ok x y hv h
  · exact gather_no x y hv (by simpa using h)
end Go.Proofs.Ytmckfppemhnhmaa
