/-
A block of a texture, as the layout layer finds it. Its conditions: a place inside the texture; data of the sizes that the header tells.
-/
import Derived.Test.YtpkclnkibhgpkaaGreatPO
import Derived.Deep.RegionHeld3
namespace Go.Proofs.YtpkclnkibhgpkaaGreat
open Go.RowKit

theorem in_any (a b : Int) (w : World) : Calls Tryz.prog 66 #[.int .i64 a, .int .i64 b] w fun e w' => e = .returned (.bool (decide (0 ≤ a) && decide (a < b))) ∧ w = w' := by
  go_enter Tryz.func66, Tryz.ntmps66
  go_wp2
  all_goals go_ret
  all_goals refine ⟨ret1b ?_, rfl⟩
  all_goals simp
  all_goals omega
set_option maxHeartbeats 400000 in
theorem index_any (f W H Ly F n a c l q1 q2 q3 i : Int) (dv pv : Value) (w : World) (e1 : wrap64 (a * F) = q1) (e2 : wrap64 (q1 + c) = q2) (e3 : wrap64 (q2 * n) = q3) (e4 : wrap64 (q3 + l) = i) :
    Calls Tryz.prog 67 #[.agg #[.int .i64 f, .int .i64 W, .int .i64 H, .int .i64 Ly, .int .i64 F, .int .i64 n, dv, pv], .int .i64 a, .int .i64 c, .int .i64 l] w fun e w' => e = .returned (.int .i64 i) ∧ Below w.heap.size w w' := by
  go_enter Tryz.func67, Tryz.ntmps67
  go_wp2
  go_ret
  exact ⟨ret1 e4, (Below.refl _ _).alloc (Nat.le_refl _) _⟩
def roomB (n at' bytes : Int) : Bool := decide (at' ≤ n ∧ bytes ≤ n - at')
theorem room_any (ao : Option Addr) (n cap : Nat) (at' bytes : Int) (w : World) (hn : n ≤ 9223372036854775807) (h1 : 0 ≤ at') (h2 : at' ≤ 9223372036854775807) :
    Calls Tryz.prog 100 #[.slice ao n cap, .int .i64 at', .int .i64 bytes] w fun e w' => e = .returned (.bool (roomB n at' bytes)) ∧ w = w' := by
  go_enter Tryz.func100, Tryz.ntmps100
  go_wp2
  all_goals go_ret
  all_goals refine ⟨ret1b ?_, rfl⟩
  all_goals unfold roomB
  all_goals simp
  all_goals omega
theorem info5 : (Tryz.prog.info? 5).map (fun i => (i.zero, i.size, i.bytes)) = some (some (.int .u8 0), 1, 1) := by kernel_rfl
theorem eqnil27 : ∀ (w : World) (a : Option Addr) (n c n' c' : Nat), (binOp .eql 27 (.slice a n c) (.slice none n' c')).run Tryz.prog w = .ok (.bool a.isNone) w := fun w a n c n' c' => Lib.run_eql_slice_nil w _ _ a n c n' c' Tryz.underlying27
theorem Rb.capOf {w : World} {base : Nat} {e : TypeId} {s : Nat} {ao : Option Addr} {n n' cap : Nat} {xs : List Value} (h : w.ownsRow base e s (.slice ao n' cap) n xs) : n ≤ cap ∧ cap ≤ 9223372036854775807 := by
  rcases h.2 with ⟨h, rfl⟩ | ⟨_, _, _, h, _, _, h5, h6, _⟩
  · rename_i hh; injection hh with _ _ h3; exact ⟨by omega, by omega⟩
  · cases h
    unfold maxLen at h6
    exact ⟨h5, by omega⟩
theorem Rb.of_own {w : World} {base : Nat} {e : TypeId} {s : Nat} {g n cap : Nat} {xs : List Value} {f : Nat → Int} (h : w.ownsRow base e s (.slice (some ⟨g, 0, none⟩) n cap) n xs) (hc : Cl w g 0 n f) (hf : ∀ i, 0 ≤ f i ∧ f i ≤ 255) : Rb w (.slice (some ⟨g, 0, none⟩) n cap) n f :=
  ⟨_, _, rfl, (Rb.capOf h).1, (Rb.capOf h).2, hf, fun _ => ⟨g, 0, rfl, fun i hi => (hc i hi).1⟩⟩

set_option maxHeartbeats 400000 in
/-- n bytes at an address -/
theorem clone_some {n : Nat} {f : Nat → Int} {a : Addr} {cap : Nat} {w : World} (hn : n ≤ 10000000) (hf : ∀ i, 0 ≤ f i ∧ f i ≤ 255) (hc : 0 < n → ∃ b off, a = ⟨b, off, none⟩ ∧ ∀ i, i < n → w.cell? ⟨b, off + i, none⟩ = some (.int .u8 (f i))) :
    Calls Tryz.prog 101 #[.slice (some a) n cap] w fun e w' => ∃ v, e = .returned v ∧ Rb w' v n f ∧ Below w.heap.size w w' := by
  obtain ⟨i0, hi, hz0, hz1, hz2⟩ := info_parts info5
  have q27 := eqnil27
  have HC := hide hc
  clear hc
  obtain ⟨cs, hcs⟩ : ∃ cs : List Value, cs = (List.range n).map (fun i => Value.int .u8 (f i)) := ⟨_, rfl⟩
  have Hcs := hide hcs
  have hcl : cs.length = n * 1 := by rw [hcs]; simp
  clear hcs
  have Hcl := hide hcl
  clear hcl
  go_enter Tryz.func101, Tryz.ntmps101
  go_wp2_with (at_builtin; refine wpList_append_own _ rfl _ _ 27 rfl w.heap.size 5 i0 (.int .u8 0) 1 1 Tryz.underlying27 hi hz0 hz1 hz2 rfl (by decide) _ _ _ rfl (World.ownsRow_made w #[] 0 (Nat.le_refl _) (by decide) rfl) a n cap cs rfl Hcl.out ?c1 ?c2 ?c3 ?c4 ?c5 ?_)
  case c1 =>
    intro j v hj
    rw [Hcs.out] at hj
    by_cases hjn : j < n
    · obtain ⟨b, off, rfl, hcc⟩ := HC.out (by omega)
      rw [Addr.add_lit]
      exact cells_bytes hcc ((Below.refl _ _).alloc (Nat.le_refl _) _) hj
    · rw [List.getElem?_eq_none (by simp; omega)] at hj; simp at hj
  case c2 => rw [Hcs.out]; intro v hv; obtain ⟨_, _, rfl⟩ := List.mem_map.1 hv; rfl
  case c3 => unfold maxLen; omega
  case c4 => omega
  case c5 => simp
  intro v' w1 hown hgrow hnil
  have hb1 : Below w.heap.size w w1 := (((Below.refl _ _).alloc (Nat.le_refl _) _).grown hgrow (by simp) (fun k e => by simp [Value.ownBlock] at e; omega))
  have hr : Rb w1 v' n f := by
    by_cases h0 : 0 < n
    · obtain ⟨g, cap', rfl, hbg, hcl⟩ := own_cl (n := n) (f := f) (by simpa using hown) h0 (fun i hi => by
        rw [Hcs.out, List.getElem?_map, List.getElem?_range hi]; rfl)
      exact Rb.of_own (by simpa using hown) hcl hf
    · obtain rfl : n = 0 := by omega
      rcases hown.2 with ⟨rfl, _⟩ | ⟨g, cap', cur, rfl, _⟩
      · exact ⟨_, _, rfl, by omega, by omega, hf, fun h => by omega⟩
      · exact ⟨some ⟨g, 0, none⟩, cap', rfl, by omega, by have := (Rb.capOf hown); omega, hf, fun h => by omega⟩
  have HR := hide hr
  clear hown hgrow hnil hr
  go_wp2
  go_ret
  exact ⟨_, rfl, HR.out, hb1⟩

theorem part_some {n : Nat} {f : Nat → Int} {ad : Addr} {cap : Nat} {w : World} (hn : n ≤ 10000000) (hf : ∀ i, 0 ≤ f i ∧ f i ≤ 255) (hc : 0 < n → ∃ b off, ad = ⟨b, off, none⟩ ∧ ∀ i, i < n → w.cell? ⟨b, off + i, none⟩ = some (.int .u8 (f i)))
    (a m : Nat) (h : a + m ≤ n) (hcap : n ≤ cap) (hcm : cap ≤ 9223372036854775807) :
    Calls Tryz.prog 68 #[.slice (some ad) n cap, .int .i64 a, .int .i64 m] w fun e w' => ∃ v, e = .returned (.tuple #[v, .int .i64 0]) ∧ Rb w' v m (fun i => f (a + i)) ∧ Below w.heap.size w w' := by
  have hroom : roomB n a m = true := by unfold roomB; simp; omega
  have HC := hide hc
  clear hc
  by_cases hm : m = 0
  · subst hm
    have hroom0 : roomB n a 0 = true := hroom
    clear hroom
    go_enter Tryz.func68, Tryz.ntmps68
    go_wp2_with (go_at_call 100; refine (room_any _ _ _ _ _ _ (by omega) (by omega) (by omega)).mono ?_; rintro e w' ⟨rfl, rfl⟩; rw [hroom0])
    refine (clone_some (n := 0) (f := fun i => f (a + i)) (by omega) (fun i => hf _) (fun h => by omega)).mono ?_
    rintro e w' ⟨v, rfl, hr, hb⟩
    have HR := hide hr
    clear hr
    go_wp2
    go_ret2
    exact ⟨_, rfl, HR.out, hb⟩
  · obtain ⟨b, off, rfl, hcc⟩ := HC.out (by omega)
    have HD : Hid (∀ i, i < m → w.cell? ⟨b, off + a + i, none⟩ = some (.int .u8 (f (a + i)))) := fun i hi => by rw [Nat.add_assoc]; exact hcc (a + i) (by omega)
    clear hcc
    go_enter Tryz.func68, Tryz.ntmps68
    go_wp2_with (go_at_call 100; refine (room_any _ _ _ _ _ _ (by omega) (by omega) (by omega)).mono ?_; rintro e w' ⟨rfl, rfl⟩; rw [hroom])
    refine (clone_some (f := fun i => f (a + i)) (by omega) (fun i => hf _) (fun _ => ⟨b, off + a, rfl, HD.out⟩)).mono ?_
    rintro e w' ⟨v, rfl, hr, hb⟩
    have HR := hide hr
    clear hr
    go_wp2
    go_ret2
    exact ⟨_, rfl, HR.out, hb⟩

theorem sideV_le {n of : Int} (h0 : -9223372036854775808 ≤ n) (h : n ≤ 9223372036854775807) : -9223372036854775808 ≤ sideV n of ∧ sideV n of ≤ 9223372036854775807 := by
  by_cases h1 : 1 ≤ n
  · have := sideV_bd (of := of) h1; omega
  · unfold sideV; rw [if_pos (by omega)]; omega
theorem T52 : AggT Tryz.prog 52 3 #[.int .i64 0, .int .i64 0, .bool false] :=
  ⟨⟨_, Tryz.underlying52, rfl⟩, by kernel_rfl, fun _ => by kernel_rfl, rfl, fun _ => by kernel_rfl⟩
set_option maxRecDepth 100000 in
set_option maxHeartbeats 2000000 in
theorem block_any (f m W H Ly F n a c l x y cols rows : Int) (wd : Bool) (dv pv : Value) (N : Nat) (V : Nat → Value) (L : Nat → Nat) (g : Nat → Nat → Int) (i k : Nat) (w : World) (OF : OfOK f 8 m wd)
    (hW0 : -9223372036854775808 ≤ W) (hW : W ≤ 9223372036854775807) (hH0 : -9223372036854775808 ≤ H) (hH : H ≤ 9223372036854775807) (hL : Ly ≤ 2147483647) (hF : F ≤ 6) (hn : n ≤ 63) (ha : 0 ≤ a ∧ a < Ly) (hc : 0 ≤ c ∧ c < F) (hl : 0 ≤ l ∧ l < n)
    (hD : Dat w dv N V L g) (hi : (a * F + c) * n + l = (i : Int)) (hiN : i < N) (ht : tilesV (sideV W l) (sideV H l) = (cols, rows)) (hx : 0 ≤ x ∧ x < cols) (hy : 0 ≤ y ∧ y < rows) (hk : (y * cols + x) * 8 = (k : Int)) (hkL : k + 8 ≤ L i) (hLi : L i ≤ 10000000) :
    Calls Tryz.prog 44 #[.agg #[.int .i64 f, .int .i64 W, .int .i64 H, .int .i64 Ly, .int .i64 F, .int .i64 n, dv, pv], .int .i64 a, .int .i64 c, .int .i64 l, .int .i64 x, .int .i64 y] w fun e w' =>
      ∃ v, e = .returned (.tuple #[v, .int .i64 0]) ∧ Rb w' v 8 (fun j => g i (k + j)) ∧ Below w.heap.size w w' := by
  have DD := hide hD
  obtain ⟨ao, cap, rfl, hN, hcc, hr⟩ := hD
  obtain ⟨db, doff, rfl, hcell⟩ := hcc (by omega)
  have hVi := hcell i hiN
  have hRi := hr i hiN
  obtain ⟨va, vcap, hV, hv1, hv2, hv3, hv4⟩ := hRi
  obtain ⟨vb, voff, rfl, hv5⟩ := hv4 (by omega)
  rw [hV] at hVi
  have HVI := hide hVi
  have HV5 := hide hv5
  have HG := hide hv3
  have HO := hide OF
  have sW : ∀ w, Calls Tryz.prog 42 #[.int .i64 W, .int .i64 l] w fun e w' => e = .returned (.int .i64 (sideV W l)) ∧ Below w.heap.size w w' := fun w => side_any W l w hW0 hW (by omega)
  have sH : ∀ w, Calls Tryz.prog 42 #[.int .i64 H, .int .i64 l] w fun e w' => e = .returned (.int .i64 (sideV H l)) ∧ Below w.heap.size w w' := fun w => side_any H l w hH0 hH (by omega)
  have bW := sideV_le (of := l) hW0 hW
  have bH := sideV_le (of := l) hH0 hH
  have sT : ∀ w, Calls Tryz.prog 52 #[.int .i64 (sideV W l), .int .i64 (sideV H l)] w fun e w' => e = .returned (.tuple #[.int .i64 cols, .int .i64 rows]) ∧ w = w' := fun w => by
    have := tiles_any (sideV W l) (sideV H l) w bW.1 bW.2 bH.1 bH.2
    rw [ht] at this; exact this
  have tb := tilesV_bd bW.2 bH.2
  rw [ht] at tb
  simp only at tb
  have sA : ∀ {p q : Int}, 0 ≤ p → p < q → ∀ w, Calls Tryz.prog 66 #[.int .i64 p, .int .i64 q] w fun e w' => e = .returned (.bool true) ∧ w = w' := fun {p q} h1 h2 w => by
    have := in_any p q w
    rw [decide_eq_true h1, decide_eq_true h2] at this
    exact this
  have a1 := sA ha.1 ha.2
  have a2 := sA hc.1 hc.2
  have a3 := sA hl.1 hl.2
  have a4 := sA hx.1 hx.2
  have a5 := sA hy.1 hy.2
  have m1 := mul_bd (x := a) (y := F) (X := 2147483647) (Y := 6) (by omega) (by omega) (by omega) (by omega)
  have m2 := mul_bd (x := a * F + c) (y := n) (X := 12884901888) (Y := 63) (by omega) (by omega) (by omega) (by omega)
  have hyc := Int.mul_nonneg hy.1 (show 0 ≤ cols by omega)
  have s67 := fun w => index_any f W H Ly F n a c l (a * F) (a * F + c) ((a * F + c) * n) i (.slice (some ⟨db, doff, none⟩) N cap) pv w (IntWalk.wrap64_in _ (by omega)) (IntWalk.wrap64_in _ (by omega)) (IntWalk.wrap64_in _ (by omega)) (by rw [hi]; exact IntWalk.wrap64_in _ (by omega))
  have e1 : IntKind.i64.wrap (y * cols) = y * cols := wrap_in' (by omega)
  have e2 : IntKind.i64.wrap (y * cols + x) = y * cols + x := wrap_in' (by omega)
  have e3 : IntKind.i64.wrap ((y * cols + x) * 8) = (k : Int) := by rw [hk]; exact wrap_in' (by omega)
  have e4 : decide ((i : Int) ≥ (N : Int)) = false := decide_eq_false (by omega)
  have E1 := hide e1
  have E2 := hide e2
  have E3 := hide e3
  clear hr hcc hcell hv5 hv4 hv3 OF hV sA m1 m2 hyc ht tb hi bW bH e1 e2 e3 hk hl
  generalize sideV W l = sw at *
  generalize sideV H l = sh at *
  go_enter Tryz.func44, Tryz.ntmps44
  go_upto_region 1 with fail
  generalize hw1 : w.alloc _ = w1
  have B0 := hide (show Box w1 w.heap.size #[.int .i64 f, .int .i64 W, .int .i64 H, .int .i64 Ly, .int .i64 F, .int .i64 n, .slice (some ⟨db, doff, none⟩) N cap, pv] by rw [← hw1]; exact Box.mk' rfl)
  have L1 := hide (show Below w.heap.size w w1 by rw [← hw1]; exact (Below.refl _ _).alloc (Nat.le_refl _) _)
  have z1 : w.heap.size + 1 ≤ w1.heap.size := by rw [← hw1]; simp
  clear hw1
  obtain ⟨c0, c1, c2, c3, c4, c5, c6, c7⟩ := B0.out.c8
  go_upto_region 3 with (go_at_call 66; first
    | ((with_reducible refine (a1 _).mono ?_); rintro e w' ⟨rfl, rfl⟩)
    | ((with_reducible refine (a2 _).mono ?_); rintro e w' ⟨rfl, rfl⟩)
    | ((with_reducible refine (a3 _).mono ?_); rintro e w' ⟨rfl, rfl⟩))
  have k1 : ∀ q : Wb w1, q.1.cell? ⟨w.heap.size, 1, none⟩ = some (.int .i64 W) := fun q => (q.cell (by simp; omega)).trans c1
  have k2 : ∀ q : Wb w1, q.1.cell? ⟨w.heap.size, 2, none⟩ = some (.int .i64 H) := fun q => (q.cell (by simp; omega)).trans c2
  clear c0 c1 c2 c3 c4 c5 c6 c7
  refine wp_region_below w1 (Below.refl _ _) (by kernel_rfl) (by kernel_rfl) ?_
  repeat (go_big_quiet_step (first | (go_at_call 42; with_reducible exact Calls.wb (sW _)) | (go_at_call 42; with_reducible exact Calls.wb (sH _)) | (go_at_call 52; with_reducible exact Calls.wb_same (sT _))))
  refine wpQuiet_nil ?_
  rintro w2 ⟨q2, hq2⟩
  have hb2 : Below w1.heap.size w1 w2 := hq2 ▸ q2.2
  clear hq2 q2
  have B2 := hide (B0.out.below hb2 (by omega))
  have L2 := hide (L1.out.trans (hb2.mono (by omega)))
  have z2 : w.heap.size + 1 ≤ w2.heap.size := by have := hb2.size; omega
  clear k1 k2 hb2 B0 L1
  obtain ⟨c0, c1, c2, c3, c4, c5, c6, c7⟩ := B2.out.c8
  go_wp2_with (with_reducible refine wpList_run rfl (exec_load T25 (.tmp 6) rfl ⟨w.heap.size, 0, none⟩ rfl #[.int .i64 f, .int .i64 W, .int .i64 H, .int .i64 Ly, .int .i64 F, .int .i64 n, .slice (some ⟨db, doff, none⟩) N cap, pv] rfl (Box.loads B2.out)) ?_)
  refine (s67 _).mono ?_
  rintro e w3 ⟨rfl, hb3⟩
  have B3 := hide (B2.out.below hb3 (by omega))
  have L3 := hide (L2.out.trans (hb3.mono (by omega)))
  have z3 : w.heap.size + 1 ≤ w3.heap.size := by have := hb3.size; omega
  clear hb3 B2 L2 c0 c1 c2 c3 c4 c5 c6 c7 s67 a1 a2 a3 sW sH sT
  obtain ⟨c0, c1, c2, c3, c4, c5, c6, c7⟩ := B3.out.c8
  go_wp2_with (go_at_call 66; first
    | ((with_reducible refine (a4 _).mono ?_); rintro e w' ⟨rfl, rfl⟩)
    | ((with_reducible refine (a5 _).mono ?_); rintro e w' ⟨rfl, rfl⟩))
  refine (HO.out _).mono ?_
  rintro e w4 ⟨rfl, hb4⟩
  have B4 := hide (B3.out.below hb4 (by omega))
  have L4 := hide (L3.out.trans (hb4.mono (by omega)))
  have z4 : w.heap.size + 1 ≤ w4.heap.size := by have := hb4.size; omega
  clear hb4 B3 L3 c0 c1 c2 c3 c4 c5 c6 c7 a4 a5
  go_upto_region 8 with fail
  obtain ⟨w5, hw5⟩ : ∃ w5, w5 = w4.alloc (.cells #[.int .i64 8, .int .i64 m, .bool wd] 52) := ⟨_, rfl⟩
  have B5 := hide (show Box w5 w4.heap.size #[.int .i64 8, .int .i64 m, .bool wd] by rw [hw5]; exact Box.mk' rfl)
  have B6 := hide (show Box w5 w.heap.size #[.int .i64 f, .int .i64 W, .int .i64 H, .int .i64 Ly, .int .i64 F, .int .i64 n, .slice (some ⟨db, doff, none⟩) N cap, pv] by rw [hw5]; exact Box.old B4.out (by omega))
  have L5 := hide (show Below w.heap.size w w5 by rw [hw5]; exact L4.out.alloc (by omega) _)
  have hz5 : w.heap.size < w5.heap.size ∧ w4.heap.size < w5.heap.size := by rw [hw5]; simp; omega
  rw [← hw5]
  clear hw5 B4 L4
  have c6 := (B6.out.c8).2.2.2.2.2.2.1
  have q0 := (B5.out.c3).1
  have e5 : w5.cell? ⟨db, doff + i, none⟩ = some (.slice (some ⟨vb, voff, none⟩) (L i) vcap) := (L5.out.cell (World.block_lt_of_cell? w _ hVi)).trans hVi
  have P5 := hide (part_some (n := L i) (f := g i) (ad := ⟨vb, voff, none⟩) (cap := vcap) (w := w5.drew) hLi HG.out (fun _ => ⟨vb, voff, rfl, fun j hj => (L5.out.cell (World.block_lt_of_cell? w _ (HV5.out j hj))).trans (HV5.out j hj)⟩) k 8 hkL hv1 hv2)
  have e1 := E1.out
  have e2 := E2.out
  have e3 := E3.out
  clear hVi B5 B6 hc ha hx hy
  have y1 : w.heap.size < w5.drew.heap.size := hz5.1
  have y2 : w4.heap.size < w5.drew.heap.size := hz5.2
  have y3 : db < w5.drew.heap.size := World.block_lt_of_cell? w5 _ e5
  go_region_held3 (fun w' => w'.cell? ⟨w.heap.size, 6, none⟩ = some (.slice (some ⟨db, doff, none⟩) N cap) ∧ w'.cell? ⟨db, doff + i, none⟩ = some (.slice (some ⟨vb, voff, none⟩) (L i) vcap) ∧ w'.cell? ⟨w4.heap.size, 0, none⟩ = some (.int .i64 8))
    (first | go_keep | (refine ⟨?_, ?_, ?_⟩ <;> (first | exact (hb6.cell (by assumption)).trans (by assumption))))
    (first
      | (go_at_call 68; refine P5.out.mono ?_; rintro e w6 ⟨v6, rfl, hr6, hb6⟩))
  have L6 := hide (L5.out.trans ((Below.mono (show Below w5.heap.size w5 w6 from ⟨hb6.os, hb6.tape, hb6.output, hb6.size, hb6.block⟩)) (by omega)))
  have R6 := hide hr6
  clear hr6 hb6 c6 q0 e5 e1 e2 e3 y1 y2 y3 P5
  go_wp2
  go_ret2
  exact ⟨_, rfl, R6.out, L6.out⟩
end Go.Proofs.YtpkclnkibhgpkaaGreat
