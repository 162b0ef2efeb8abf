/-
Whether a texture's data is of the sizes that its header tells. Its conditions: a header that passed; a format that there is.
-/
import Derived.Test.YtpkclnkibhgpkaaGreatPL
import Derived.BigQuiet
namespace Go.Proofs.YtpkclnkibhgpkaaGreat
open Go.RowKit

/-- n bytes that a value shows -/
def Rb (w : World) (v : Value) (n : Nat) (f : Nat → Int) : Prop :=
  ∃ ao cap, v = .slice ao n cap ∧ n ≤ cap ∧ cap ≤ 9223372036854775807 ∧ (∀ i, 0 ≤ f i ∧ f i ≤ 255) ∧
    (0 < n → ∃ b off, ao = some ⟨b, off, none⟩ ∧ ∀ i, i < n → w.cell? ⟨b, off + i, none⟩ = some (.int .u8 (f i)))
/-- a slice of such -/
def Dat (w : World) (v : Value) (N : Nat) (V : Nat → Value) (L : Nat → Nat) (f : Nat → Nat → Int) : Prop :=
  ∃ ao cap, v = .slice ao N cap ∧ N ≤ 9223372036854775807 ∧ (0 < N → ∃ b off, ao = some ⟨b, off, none⟩ ∧ ∀ i, i < N → w.cell? ⟨b, off + i, none⟩ = some (V i)) ∧ ∀ i, i < N → Rb w (V i) (L i) (f i)
theorem Rb.below {w w' : World} {v : Value} {n : Nat} {f : Nat → Int} {B : Nat} (h : Rb w v n f) (hb : Below B w w') (hB : w.heap.size ≤ B) : Rb w' v n f := by
  obtain ⟨ao, cap, rfl, h1, h2, h3, h4⟩ := h
  refine ⟨ao, cap, rfl, h1, h2, h3, fun h0 => ?_⟩
  obtain ⟨b, off, rfl, hc⟩ := h4 h0
  exact ⟨b, off, rfl, fun i hi => (hb.cell (Nat.lt_of_lt_of_le (World.block_lt_of_cell? w _ (hc i hi)) hB)).trans (hc i hi)⟩
theorem Dat.below {w w' : World} {v : Value} {N : Nat} {V : Nat → Value} {L : Nat → Nat} {f : Nat → Nat → Int} {B : Nat} (h : Dat w v N V L f) (hb : Below B w w') (hB : w.heap.size ≤ B) : Dat w' v N V L f := by
  obtain ⟨ao, cap, rfl, h1, h4, h5⟩ := h
  refine ⟨ao, cap, rfl, h1, fun h0 => ?_, fun i hi => (h5 i hi).below hb hB⟩
  obtain ⟨b, off, rfl, hc⟩ := h4 h0
  exact ⟨b, off, rfl, fun i hi => (hb.cell (Nat.lt_of_lt_of_le (World.block_lt_of_cell? w _ (hc i hi)) hB)).trans (hc i hi)⟩
theorem Below.drewN {B : Nat} {a w : World} (h : Below B a w) (q : Nat) : Below B a (w.drewN q) := ⟨h.os, h.tape, h.output, h.size, h.block⟩
theorem Box.drewN {w : World} {b : Nat} {cs : Array Value} (h : Box w b cs) (q : Nat) : Box (w.drewN q) b cs := fun j v hj => h j v hj
/-- the lengths of the first k -/
def lensV (b W H n : Int) (L : Nat → Nat) (k : Nat) : Bool := decide (∀ i, i < k → (L i : Int) = sizF b W H ((i : Int) % n).toNat)
def datV (b W H Ly F n : Int) (N : Nat) (L : Nat → Nat) : Bool :=
  decide (sizV b W H n = 0) && (decide ((N : Int) % n = 0) && (decide ((N : Int) / n = wrap64 (Ly * F)) && lensV b W H n L N))
set_option maxRecDepth 100000 in
set_option maxHeartbeats 2000000 in
theorem data_any (f b m W H Ly F n : Int) (wd : Bool) (p dv : Value) (N : Nat) (V : Nat → Value) (L : Nat → Nat) (g : Nat → Nat → Int) (w : World) (OF : OfOK f b m wd) (hb0 : 0 ≤ b) (hb1 : b ≤ 1000) (hW0 : -9223372036854775808 ≤ W) (hW : W ≤ 9223372036854775807) (hH0 : -9223372036854775808 ≤ H) (hH : H ≤ 9223372036854775807)
    (hn0 : 1 ≤ n) (hn : n ≤ 63) (hD : Dat w dv N V L g) :
    Calls Tryz.prog 40 #[.agg #[.int .i64 f, .int .i64 W, .int .i64 H, .int .i64 Ly, .int .i64 F, .int .i64 n, dv, p]] w fun e w' =>
      e = .returned (.bool (datV b W H Ly F n N L)) ∧ Below w.heap.size w w' := by
  have s63 := fun w => lsizes_any f b m W H n wd w OF hb0 hb1 hW0 hW hH0 hH (by omega) (by omega)
  have hd : datV b W H Ly F n N L = (decide (sizV b W H n = 0) && (decide ((N : Int) % n = 0) && (decide ((N : Int) / n = wrap64 (Ly * F)) && lensV b W H n L N))) := rfl
  have HD := hide hd
  have DD := hide hD
  obtain ⟨ao, cap, rfl, hN, hc, hr⟩ := hD
  have HC := hide hc
  have HR := hide hr
  clear OF hd hc hr
  go_enter Tryz.func40, Tryz.ntmps40
  go_upto_region 1 with fail
  generalize hw1 : w.alloc _ = w1
  have B0 := hide (show Box w1 w.heap.size #[.int .i64 f, .int .i64 W, .int .i64 H, .int .i64 Ly, .int .i64 F, .int .i64 n, .slice ao N cap, p] by rw [← hw1]; exact Box.mk' rfl)
  have L1 := hide (show Below w.heap.size w w1 by rw [← hw1]; exact (Below.refl _ _).alloc (Nat.le_refl _) _)
  have z1 : w.heap.size + 1 ≤ w1.heap.size := by rw [← hw1]; simp
  clear hw1
  obtain ⟨c0, c1, c2, c3, c4, c5, c6, c7⟩ := B0.out.c8
  go_wp2_with fail
  refine (s63 _).mono ?_
  rintro e w2 ⟨hb2, v, rfl, hv0, hv1⟩
  obtain ⟨sz, hsz⟩ : ∃ sz, sz = sizV b W H n := ⟨_, rfl⟩
  rw [← hsz] at hv0 hv1
  have B1 := hide (B0.out.below hb2 (by omega))
  have L2 := hide (L1.out.trans (hb2.mono (by omega)))
  have z2 : w.heap.size + 1 ≤ w2.heap.size := by have := hb2.size; omega
  have HV0 := hide hv0
  have HV1 := hide hv1
  have HS := hide hsz
  rw [← hsz]
  clear hb2 c0 c1 c2 c3 c4 c5 c6 c7 B0 L1 s63 hv0 hv1 hsz
  obtain ⟨c0, c1, c2, c3, c4, c5, c6, c7⟩ := B1.out.c8
  go_upto_region 2 with fail
  by_cases h1 : sz ≠ 0
  · have d1 : (sz != 0) = true := by simpa using h1
    have HX := hide (show datV b W H Ly F n N L = false by rw [HD.out, ← HS.out]; simp [h1])
    clear h1
    go_quiet (fail)
    go_wp2
    go_ret
    exact ⟨congrArg (fun x => Ending.returned (.bool x)) HX.out.symm, (Below.drewN L2.out _)⟩
  have d1 : (sz != 0) = false := by simpa using h1
  by_cases h2 : (N : Int) % n ≠ 0
  · have d2 : ((N : Int) % n != 0) = true := by simpa using h2
    have HX := hide (show datV b W H Ly F n N L = false by rw [HD.out]; simp [h2])
    clear h1 h2
    go_quiet (fail)
    go_wp2
    go_ret
    exact ⟨congrArg (fun x => Ending.returned (.bool x)) HX.out.symm, (Below.drewN L2.out _)⟩
  have d2 : ((N : Int) % n != 0) = false := by simpa using h2
  have W3 : wrap64 ((N : Int) / n) = (N : Int) / n := IntWalk.wrap64_in _ ⟨by have := Int.ediv_nonneg (show 0 ≤ (N : Int) by omega) (show 0 ≤ n by omega); omega, by have := Int.ediv_le_self n (show 0 ≤ (N : Int) by omega); omega⟩
  by_cases h3 : (N : Int) / n ≠ wrap64 (Ly * F)
  · have d3 : (wrap64 ((N : Int) / n) != wrap64 (Ly * F)) = true := by rw [W3]; simpa using h3
    have HX := hide (show datV b W H Ly F n N L = false by rw [HD.out]; simp [h3])
    clear h1 h2 h3 W3
    go_quiet (fail)
    go_wp2
    go_ret
    exact ⟨congrArg (fun x => Ending.returned (.bool x)) HX.out.symm, (Below.drewN L2.out _)⟩
  have d3 : (wrap64 ((N : Int) / n) != wrap64 (Ly * F)) = false := by rw [W3]; simpa using h3
  have HX := hide (show datV b W H Ly F n N L = lensV b W H n L N by rw [HD.out, ← HS.out]; simp only [ne_eq, Decidable.not_not] at h1 h2 h3; simp [h1, h2, h3])
  simp only [ne_eq, Decidable.not_not] at h1
  subst h1
  have own := HV1.out rfl
  obtain ⟨g', cap', rfl, hg', -⟩ := own.form (by omega)
  have hs : ∀ i : Nat, i < n.toNat → w2.cell? ⟨g', i, none⟩ = some (.int .i64 (sizF b W H i)) := fun i hi => by
    rw [own.cellAt i (by omega)]; unfold sizL; rw [List.getElem?_map, List.getElem?_range hi]; rfl
  have hlen : n.toNat ≤ cap' := by
    rcases own.2 with ⟨h, _⟩ | ⟨_, _, _, h, _, _, h5, _⟩
    · cases h
    · cases h; exact h5
  have HSZ := hide hs
  have HL := hide hlen
  have B2 := hide (fun q => Box.drewN B1.out q)
  have L3 := hide (fun q => Below.drewN L2.out q)
  clear h2 h3 W3 own hs HV0 HV1 HS HD hlen hg'
  go_quiet (fail)
  obtain ⟨W3, hW3⟩ : ∃ W3, W3 = w2.drewN nq := ⟨_, rfl⟩
  have B3 := hide (show Box W3 w.heap.size #[.int .i64 f, .int .i64 W, .int .i64 H, .int .i64 Ly, .int .i64 F, .int .i64 n, .slice ao N cap, p] by rw [hW3]; exact B2.out nq)
  have hD3 : Below w.heap.size w W3 := by rw [hW3]; exact L3.out nq
  have HS3 := hide (show ∀ (i : Nat), i < n.toNat → W3.cell? ⟨g', i, none⟩ = some (.int .i64 (sizF b W H i)) by rw [hW3]; exact HSZ.out)
  have HD3 := hide hD3
  rw [← hW3]
  clear hW3 hD3 HSZ B1 B2 L3 L2 c5 c6 c7
  obtain ⟨-, -, -, -, -, c5, c6, -⟩ := B3.out.c8
  go_wp2_with fail
  clear c5 c6
  go_loop [47] (fun i => ∃ k : Nat, k ≤ N ∧ i = .int .i64 k ∧ ∀ j, j < k → (L j : Int) = sizF b W H ((j : Int) % n).toNat) (fun i => N - (intOf i).toNat)
  case atStart => exact ⟨0, by omega, rfl, fun j hj => by omega⟩
  case round =>
    obtain ⟨k, hk, rfl, hall⟩ := hrel
    have HA := hide hall
    clear hall
    by_cases hlt : k < N
    · obtain ⟨bb, off, rfl, h1⟩ := HC.out (by omega)
      have e1 := (HD3.out.cell (p := ⟨bb, off + k, none⟩) (World.block_lt_of_cell? w _ (h1 k hlt))).trans (h1 k hlt)
      obtain ⟨a1, cp1, hV, -, -, -, -⟩ := HR.out k hlt
      rw [hV] at e1
      have hm0 := Int.emod_nonneg (k : Int) (show n ≠ 0 by omega)
      have hm1 := Int.emod_lt_of_pos (k : Int) (show 0 < n by omega)
      obtain ⟨r, hr⟩ : ∃ r : Nat, (k : Int) % n = r := ⟨((k : Int) % n).toNat, by omega⟩
      have e2 := HS3.out r (by omega)
      have e3 : (n.toNat : Int) = n := by omega
      obtain ⟨-, -, -, -, -, c5, c6, -⟩ := B3.out.c8
      clear h1 hV hm0
      by_cases hq : (L k : Int) = sizF b W H r
      · have d9 : ((L k : Int) != sizF b W H r) = false := by simpa using hq
        have HQ := hide (show ∀ j, j < k + 1 → (L j : Int) = sizF b W H ((j : Int) % n).toNat by
          intro j hj
          by_cases e : j = k
          · subst e; rw [hr, hq]; rfl
          · exact HA.out j (by omega))
        clear hq
        go_wp2
        go_round
        case rel => exact ⟨k + 1, by omega, by go_num, HQ.out⟩
        case measure => simp [intOf]; omega
      · have d9 : ((L k : Int) != sizF b W H r) = true := by simpa using hq
        have HY := hide (show datV b W H Ly F n N L = false by
          rw [HX.out]
          refine decide_eq_false fun h => hq ?_
          have := h k hlt
          rw [hr] at this
          simpa using this)
        clear hq
        go_wp2
        go_ret
        exact ⟨congrArg (fun x => Ending.returned (.bool x)) HY.out.symm, HD3.out⟩
    · obtain rfl : k = N := by omega
      have HY := hide (show datV b W H Ly F n k L = true by rw [HX.out]; unfold lensV; exact decide_eq_true HA.out)
      go_wp2
      go_ret
      exact ⟨congrArg (fun x => Ending.returned (.bool x)) HY.out.symm, HD3.out⟩
end Go.Proofs.YtpkclnkibhgpkaaGreat
