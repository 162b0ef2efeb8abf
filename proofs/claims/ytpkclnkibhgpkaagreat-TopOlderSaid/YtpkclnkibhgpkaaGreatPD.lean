import Derived.Test.YtpkclnkibhgpkaaGreatPC
namespace Go.Proofs.YtpkclnkibhgpkaaGreat
open Go.RowKit Go.Shelf
attribute [local go_sem] Oper.semAt_some

theorem SameX.below {N bw bh B : Nat} {w W W' : World} (h : SameX N bw bh W W') (hb : Below B w W) (hN : B ≤ N) (h1 : B ≤ bw) (h2 : B ≤ bh) : Below B w W' :=
  ⟨h.os.trans hb.os, h.tape.trans hb.tape, h.output.trans hb.output, Nat.le_trans hb.size h.size, fun k hk => (h.block k (by omega) (by omega) (by omega)).trans (hb.block k hk)⟩

theorem Below.put {B D : Nat} {w W : World} (h : Below B w W) (hD : B ≤ D) (o : Obj) : Below B w (W.putObj D o) :=
  ⟨h.os, h.tape, h.output, by simpa using h.size, fun k hk => (World.putObj_heap_other (by omega)).trans (h.block k hk)⟩

set_option maxRecDepth 100000 in
set_option maxHeartbeats 1000000 in
theorem levels_any (a b : Int) (w : World) (ha0 : -9223372036854775808 ≤ a) (ha : a ≤ 9223372036854775807) (hb0 : -9223372036854775808 ≤ b) (hb : b ≤ 9223372036854775807) :
    Calls Tryz.prog 50 #[.int .i64 a, .int .i64 b] w fun e w' => e = .returned (.int .i64 (levelsV a b)) ∧ Below w.heap.size w w' := by
  refine callsIn_wide.1 (callsIn_of_wp_marks (F := Fence.wide) (n := 3) Tryz.func50 rfl trivial ?_ rfl)
  simp only [Tryz.ntmps50, List.size_toArray, List.length_cons, List.length_nil, Nat.reduceAdd, Nat.reduceSub, Array.replicate_succ, Array.replicate_zero, List.push_toArray, List.append_toArray, List.nil_append, List.cons_append]
  gi_wp2_with (refine ⟨trivial, ?_⟩; gi_at_call 65; refine (callsIn_wide.2 (sizes_any _ _ _)).mono ?_; rintro e w' ⟨rfl, rfl⟩)
  obtain ⟨w1, hw1⟩ : ∃ w1, w1 = ((w.alloc (.cells #[.int .i64 0] 3)).alloc (.cells #[.int .i64 a] 3)).alloc (.cells #[.int .i64 b] 3) := ⟨_, rfl⟩
  have hz : w1.heap.size = w.heap.size + 3 := by rw [hw1]; simp
  have B0 : Box w1 w.heap.size #[.int .i64 0] := by rw [hw1]; exact Box.old (Box.old (Box.mk' rfl) (by simp)) (by simp; omega)
  have B1 : Box w1 (w.heap.size + 1) #[.int .i64 a] := by rw [hw1]; exact Box.old (Box.mk' (by simp)) (by simp)
  have B2 : Box w1 (w.heap.size + 1 + 1) #[.int .i64 b] := by rw [hw1]; exact Box.mk' (by simp)
  have hbl : Below w.heap.size w w1 := by rw [hw1]; exact (((Below.refl _ w).alloc (Nat.le_refl _) _).alloc (by simp) _).alloc (by simp; omega) _
  have e2 : ((w.alloc (.cells #[.int .i64 0] 3)).alloc (.cells #[.int .i64 a] 3)).heap.size = w.heap.size + 1 + 1 := by simp
  rw [← hw1]
  have hz' : w.heap.size + 3 ≤ w1.heap.size := by omega
  clear e2 hw1
  have c0 := B0 0 _ rfl
  have c1 := B1 0 _ rfl
  have c2 := B2 0 _ rfl
  refine range_sizes (w.heap.size + 1) (w.heap.size + 1 + 1) a b (by omega) ha0 (by omega) hb0 (by omega) rfl rfl ⟨c1, c2⟩ (by omega) (by omega)
    (fun k W => (W.cell? ⟨w.heap.size, 0, none⟩ = some (.int .i64 (k : Int)) ∧ W.frozen? ⟨w.heap.size, 0, none⟩ = false) ∧ Below w.heap.size w W) (fun _ _ _ => False) ?hI (fun _ _ _ _ h _ => h.elim) ⟨c0, hbl⟩
    (fun k => { tmps := #[.int .i64 a, .int .i64 b, undef, undef, .int .i64 0, .pointer (some ⟨w.heap.size, 0, none⟩), .int .i64 a, .int .i64 b, .func (.func 99) #[] #[.pointer (some ⟨w.heap.size + 1, 0, none⟩), .pointer (some ⟨w.heap.size + 1 + 1, 0, none⟩)], .int .i64 (hk k a), .int .i64 (hk k b), undef, undef, undef], defers := [] }) ?assign ?body ?done (fun _ _ _ _ _ h => h.elim)
  case hI =>
    rintro k W W' ⟨⟨g1, g2⟩, g3⟩ hs
    have hc := cell_alike (hs.block w.heap.size (by omega) (by omega) (by omega)) ⟨w.heap.size, 0, none⟩ rfl
    exact ⟨⟨hc.1.trans g1, hc.2.trans g2⟩, hs.below g3 (by omega) (by omega) (by omega)⟩
  case assign =>
    intro l k W K hK
    gi_wp2
    simpa using hK
  case body =>
    rintro l k W ⟨⟨g1, g2⟩, g3⟩ ⟨a1, b1, hall⟩
    have hsm := hk_steps a1 b1 ha hb hall
    have p1 := hk_pos a1 k
    have p2 := hk_pos b1 k
    have hkb : (k : Int) ≤ 2147483648 := by omega
    have G3 := hide g3
    clear hsm hall g3 p1 p2 hz B0 B1 B2 hbl c0 c1 c2
    generalize hk k a = x at *
    generalize hk k b = y at *
    gi_wp2
    refine ⟨fun b hb => Below.heap_setCell _ _ _ _ (by simp; omega), ⟨?_, ?_⟩, G3.out.setCell (Nat.le_refl _) _⟩
    · rw [World.cell?_setCell_same' _ _ _ (by rw [g1]; rfl)]
      go_num
    · rw [World.frozen?_setCell]; exact g2
  case done =>
    rintro D k W h hd hD
    have hv : ∃ m : Nat, ((m : Int) = levelsV a b) ∧ (W.cell? ⟨w.heap.size, 0, none⟩ = some (.int .i64 (m : Int)) ∧ W.frozen? ⟨w.heap.size, 0, none⟩ = false) ∧ Below w.heap.size w W := by
      rcases h with ⟨⟨a1, b1, h1, h2, hall⟩, g⟩ | ⟨hlt, g⟩
      · exact ⟨k + 1, by rw [levels_of a1 b1 h1 h2 hall]; simp, g⟩
      · exact ⟨0, by unfold levelsV; rw [if_pos hlt]; rfl, g⟩
    obtain ⟨m, hm, ⟨g1, g2⟩, g3⟩ := hv
    have HM := hide hm
    have G3 := hide g3
    clear hm g3 h hz B0 B1 B2 hbl c0 c1 c2
    gi_wp2
    refine ⟨by simp, .inl ⟨_, _, rfl, run_takeDeferred hd, ?_⟩⟩
    refine ⟨_, results_tmp (t := 4) rfl _ _ _, ret1 HM.out, Below.put G3.out (by omega) _⟩

theorem TwoC.setB {W : World} {p q : Nat} {x y : Int} (h : TwoC W p q x y) (hpq : p ≠ q) (v : Int) : TwoC (W.setCell ⟨q, 0, none⟩ (.int .i64 v)) p q x v := by
  refine ⟨⟨?_, ?_⟩, ?_, ?_⟩
  · rw [World.cell?_setCell_other _ _ _ _ (by intro e; injection e with e; exact hpq e.symm)]; exact h.1.1
  · rw [World.frozen?_setCell]; exact h.1.2
  · exact World.cell?_setCell_same' _ _ _ (by rw [h.2.1]; rfl)
  · rw [World.frozen?_setCell]; exact h.2.2
theorem TwoC.setA {W : World} {p q : Nat} {x y : Int} (h : TwoC W p q x y) (hpq : p ≠ q) (v : Int) : TwoC (W.setCell ⟨p, 0, none⟩ (.int .i64 v)) p q v y := by
  refine ⟨⟨?_, ?_⟩, ?_, ?_⟩
  · exact World.cell?_setCell_same' _ _ _ (by rw [h.1.1]; rfl)
  · rw [World.frozen?_setCell]; exact h.1.2
  · rw [World.cell?_setCell_other _ _ _ _ (by intro e; injection e with e; exact hpq e)]; exact h.2.1
  · rw [World.frozen?_setCell]; exact h.2.2
theorem side_no (a b : Int) (w : World) (h : b < 0) : Calls Tryz.prog 42 #[.int .i64 a, .int .i64 b] w fun e w' => e = .returned (.int .i64 0) ∧ Below w.heap.size w w' := by
  have d : decide (b < 0) = true := by simpa using h
  go_enter Tryz.func42, Tryz.ntmps42
  go_wp2
  go_ret
  exact ⟨rfl, (Below.refl _ _).alloc (Nat.le_refl _) _⟩

set_option maxRecDepth 100000 in
set_option maxHeartbeats 1000000 in
theorem side_yes (a b : Int) (w : World) (ha0 : -9223372036854775808 ≤ a) (ha : a ≤ 9223372036854775807) (hb0 : 0 ≤ b) (hb : b ≤ 9223372036854775807) :
    Calls Tryz.prog 42 #[.int .i64 a, .int .i64 b] w fun e w' => e = .returned (.int .i64 (sideV a b)) ∧ Below w.heap.size w w' := by
  have d : decide (b < 0) = false := by simp; omega
  refine callsIn_wide.1 (callsIn_of_wp_marks (F := Fence.wide) (n := 3) Tryz.func42 rfl trivial ?_ rfl)
  simp only [Tryz.ntmps42, List.size_toArray, List.length_cons, List.length_nil, Nat.reduceAdd, Nat.reduceSub, Array.replicate_succ, Array.replicate_zero, List.push_toArray, List.append_toArray, List.nil_append, List.cons_append]
  gi_wp2_with (refine ⟨trivial, ?_⟩; gi_at_call 65; refine (callsIn_wide.2 (sizes_any _ _ _)).mono ?_; rintro e w' ⟨rfl, rfl⟩)
  obtain ⟨w1, hw1⟩ : ∃ w1, w1 = (((w.alloc (.cells #[.int .i64 b] 3)).alloc (.cells #[.int .i64 0] 3)).alloc (.cells #[.int .i64 a] 3)).alloc (.cells #[.int .i64 1] 3) := ⟨_, rfl⟩
  have hz : w1.heap.size = w.heap.size + 4 := by rw [hw1]; simp
  have B0 : Box w1 w.heap.size #[.int .i64 b] := by rw [hw1]; exact Box.old (Box.old (Box.old (Box.mk' rfl) (by simp)) (by simp <;> omega)) (by simp <;> omega)
  have B1 : Box w1 (w.heap.size + 1) #[.int .i64 0] := by rw [hw1]; exact Box.old (Box.old (Box.mk' (by simp)) (by simp)) (by simp <;> omega)
  have B2 : Box w1 (w.heap.size + 1 + 1) #[.int .i64 a] := by rw [hw1]; exact Box.old (Box.mk' (by simp)) (by simp)
  have B3 : Box w1 (w.heap.size + 1 + 1 + 1) #[.int .i64 1] := by rw [hw1]; exact Box.mk' (by simp)
  have hbl : Below w.heap.size w w1 := by rw [hw1]; exact ((((Below.refl _ w).alloc (Nat.le_refl _) _).alloc (by simp) _).alloc (by simp <;> omega) _).alloc (by simp <;> omega) _
  rw [← hw1]
  have hz' : w.heap.size + 4 ≤ w1.heap.size := by omega
  clear hw1 hz d
  have c0 := B0 0 _ rfl
  have c1 := B1 0 _ rfl
  have c2 := B2 0 _ rfl
  have c3 := B3 0 _ rfl
  clear B0 B1 B2 B3
  refine range_sizes (w.heap.size + 1 + 1) (w.heap.size + 1 + 1 + 1) a 1 (by omega) ha0 (by omega) (by omega) (by omega) rfl rfl ⟨c2, c3⟩ (by omega) (by omega)
    (fun k W => ((k : Int) ≤ b ∧ TwoC W w.heap.size (w.heap.size + 1) (b - k) (if k = 0 then 0 else hk (k - 1) a)) ∧ Below w.heap.size w W)
    (fun c k W => (c = .exit 0 ∧ (k : Int) = b ∧ TwoC W w.heap.size (w.heap.size + 1) (b - k) (hk k a)) ∧ Below w.heap.size w W) ?hI ?hIx ⟨⟨by omega, by show TwoC w1 _ _ (b - 0) 0; rw [Int.sub_zero]; exact And.intro c0 c1⟩, hbl⟩
    (fun k => { tmps := #[.int .i64 a, .int .i64 b, undef, .pointer (some ⟨w.heap.size, 0, none⟩), .int .i64 0, .pointer (some ⟨w.heap.size + 1, 0, none⟩), .int .i64 (hk k a), .int .i64 b, .bool false, .int .i64 a, .func (.func 99) #[] #[.pointer (some ⟨w.heap.size + 1 + 1, 0, none⟩), .pointer (some ⟨w.heap.size + 1 + 1 + 1, 0, none⟩)], .int .i64 (hk k a), .int .i64 (hk k 1), undef, undef, undef, undef, undef, undef], defers := [] }) ?assign ?body ?done ?stop
  case hI =>
    rintro k W W' ⟨⟨g1, g2⟩, g3⟩ hs
    exact ⟨⟨g1, g2.same (hs.block _ (by omega) (by omega) (by omega)) (hs.block _ (by omega) (by omega) (by omega))⟩, hs.below g3 (by omega) (by omega) (by omega)⟩
  case hIx =>
    rintro c k W W' ⟨⟨g0, g1, g2⟩, g3⟩ hs
    exact ⟨⟨g0, g1, g2.same (hs.block _ (by omega) (by omega) (by omega)) (hs.block _ (by omega) (by omega) (by omega))⟩, hs.below g3 (by omega) (by omega) (by omega)⟩
  case assign =>
    intro l k W K hK
    gi_wp2
    simpa using hK
  case body =>
    rintro l k W ⟨⟨g1, ⟨g2, f2⟩, g4, f4⟩, g3⟩ ⟨a1, b1, hall⟩
    have G3 := hide g3
    have hout : ∃ o : Int, o = if k = 0 then 0 else hk (k - 1) a := ⟨_, rfl⟩
    obtain ⟨o, ho⟩ := hout
    rw [← ho] at g4
    obtain ⟨r, hr⟩ : ∃ r, r = b - (k : Int) := ⟨_, rfl⟩
    rw [← hr] at g2
    have hr1 : -1 ≤ r := by omega
    have hr2 : r ≤ 9223372036854775807 := by omega
    have HR := hide hr
    obtain ⟨x, hx⟩ : ∃ x, x = hk k a := ⟨_, rfl⟩
    have HX := hide hx
    rw [← hx]
    have HT := hide (show TwoC W w.heap.size (w.heap.size + 1) r o from ⟨⟨g2, f2⟩, g4, f4⟩)
    clear hall g3 ho hr hx c0 c1 c2 c3 hbl a1 b1
    generalize hk k 1 = y at *
    by_cases hz0 : r = 0
    · have d0 : (r == 0) = true := by simpa using hz0
      have HZ := hide hz0
      clear hz0
      gi_wp2
      refine ⟨fun b hb => Below.heap_setCell _ _ _ _ (by simp; omega), ⟨rfl, by have := HR.out; have := HZ.out; omega, ?_⟩, G3.out.setCell (by simp) _⟩
      rw [← HR.out, ← HX.out]
      exact HT.out.setB (by omega) x
    · have d0 : (r == 0) = false := by simpa using hz0
      have HZ := hide hz0
      clear hz0
      gi_wp2
      have h1 := HR.out
      have h2 := HZ.out
      refine ⟨fun b hb => by rw [Below.heap_setCell _ _ _ _ (by simp; omega), Below.heap_setCell _ _ _ _ (by simp; omega)], ⟨by omega, ?_⟩, (G3.out.setCell (by simp) _).setCell (Nat.le_refl _) _⟩
      rw [if_neg (by omega), Nat.add_sub_cancel, ← HX.out, show b - ((k + 1 : Nat) : Int) = r - 1 by omega]
      exact (HT.out.setB (by omega) x).setA (by omega) (r - 1)
  case done =>
    rintro D k W h hd hD
    have hv : ∃ o r : Int, o = sideV a b ∧ TwoC W w.heap.size (w.heap.size + 1) r o ∧ Below w.heap.size w W := by
      rcases h with ⟨⟨a1, b1, h1, h2, hall⟩, ⟨g0, g⟩, gb⟩ | ⟨hlt, ⟨g0, g⟩, gb⟩
      · refine ⟨_, _, ?_, g, gb⟩
        rw [if_neg (by omega), Nat.add_sub_cancel]
        unfold sideV
        rw [if_neg (by omega), hk_stay a1 h1 b.toNat (by omega)]
        have := hk_pos a1 k
        omega
      · refine ⟨_, _, ?_, g, gb⟩
        rw [if_pos rfl]
        unfold sideV
        rw [if_pos (Or.inl (by omega))]
    obtain ⟨o, r, ho, ⟨⟨g1, f1⟩, g2, f2⟩, gb⟩ := hv
    have HO := hide ho
    have GB := hide gb
    clear ho gb h hbl c0 c1 c2 c3
    gi_wp2
    refine ⟨by simp, .inl ⟨_, _, rfl, run_takeDeferred hd, ?_⟩⟩
    refine ⟨_, results_tmp (t := 4) rfl _ _ _, ret1 HO.out, Below.put GB.out (by omega) _⟩
  case stop =>
    rintro D c k W hkk ⟨⟨rfl, hkb, ⟨⟨g1, f1⟩, g2, f2⟩⟩, gb⟩ hd hD
    have HO := hide (show hk k a = sideV a b by
      unfold sideV
      rw [if_neg (by omega), ← hkb, Int.toNat_natCast])
    have GB := hide gb
    obtain ⟨o, ho⟩ : ∃ o, o = hk k a := ⟨_, rfl⟩
    rw [← ho] at g2 HO
    obtain ⟨r, hr⟩ : ∃ r, r = b - (k : Int) := ⟨_, rfl⟩
    rw [← hr] at g1
    clear gb hkk ho hr hbl c0 c1 c2 c3 hkb
    gi_wp2
    refine ⟨by simp, .inl ⟨_, _, rfl, run_takeDeferred hd, ?_⟩⟩
    refine ⟨_, results_tmp (t := 4) rfl _ _ _, ret1 HO.out, Below.put GB.out (by omega) _⟩
theorem side_any (a b : Int) (w : World) (ha0 : -9223372036854775808 ≤ a) (ha : a ≤ 9223372036854775807) (hb : b ≤ 9223372036854775807) :
    Calls Tryz.prog 42 #[.int .i64 a, .int .i64 b] w fun e w' => e = .returned (.int .i64 (sideV a b)) ∧ Below w.heap.size w w' := by
  by_cases h : b < 0
  · have e : sideV a b = 0 := by unfold sideV; rw [if_pos (Or.inr h)]
    rw [e]
    exact side_no a b w h
  · exact side_yes a b w ha0 ha (by omega) hb
end Go.Proofs.YtpkclnkibhgpkaaGreat
