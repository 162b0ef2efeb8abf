/-
How many texels a texture has in all, as the layout layer reckons it. Its conditions: sides, layers, faces, levels that are numbers of 64 bits.
-/
import Derived.Test.YtpkclnkibhgpkaaGreatPH
import Derived.Deep.RegionHeld3
namespace Go.Proofs.YtpkclnkibhgpkaaGreat
open Go.RowKit Go.Shelf
attribute [local go_sem] Oper.semAt_some
theorem least_of {Q : Nat → Prop} (h : ∃ k, Q k) : ∃ k, Q k ∧ ∀ j, j < k → ¬ Q j := by
  obtain ⟨k, hk⟩ := h
  induction k using Nat.strongRecOn with
  | ind k ih =>
    by_cases e : ∃ j, j < k ∧ Q j
    · obtain ⟨j, h1, h2⟩ := e
      exact ih j h1 h2
    · exact ⟨k, hk, fun j hj q => e ⟨j, hj, q⟩⟩
theorem levelsV_bd (w h : Int) (hw : w ≤ 9223372036854775807) (hh : h ≤ 9223372036854775807) : 0 ≤ levelsV w h ∧ levelsV w h ≤ 63 := by
  by_cases e : w < 1 ∨ h < 1
  · unfold levelsV; rw [if_pos e]; omega
  · have a : ∃ k, hk k w ≤ 1 ∧ hk k h ≤ 1 := by
      by_cases q : ∃ k, hk k w ≤ 1 ∧ hk k h ≤ 1
      · exact q
      · have := hk_steps (x := w) (y := h) (by omega) (by omega) hw hh (k := 100) fun j _ => by
          have : ¬ (hk j w ≤ 1 ∧ hk j h ≤ 1) := fun r => q ⟨j, r⟩
          omega
        omega
    obtain ⟨k, ⟨h1, h2⟩, h3⟩ := least_of a
    have hall : ∀ j, j < k → 1 < hk j w ∨ 1 < hk j h := fun j hj => by have := h3 j hj; omega
    have := hk_steps (x := w) (y := h) (by omega) (by omega) hw hh hall
    rw [levels_of (by omega) (by omega) h1 h2 hall]
    omega
theorem Box.setOne {w : World} {b : Nat} {x v : Value} (h : Box w b #[x]) : Box (w.setCell ⟨b, 0, none⟩ v) b #[v] := by
  intro j u hj
  have hj0 : j = 0 := by have := (Array.getElem?_eq_some_iff.1 hj).1; simpa using this
  subst hj0
  simp only [List.getElem?_toArray, List.getElem?_cons_zero, Option.some.injEq] at hj
  subst hj
  obtain ⟨h1, h2⟩ := h 0 x rfl
  exact ⟨World.cell?_setCell_same' _ _ _ (by rw [h1]; rfl), by rw [World.frozen?_setCell]; exact h2⟩
theorem Box.setOther {w : World} {b c j : Nat} {cs : Array Value} {v : Value} (h : Box w b cs) (hne : b ≠ c) : Box (w.setCell ⟨c, j, none⟩ v) b cs := by
  intro i u hi
  obtain ⟨h1, h2⟩ := h i u hi
  exact ⟨by rw [World.cell?_setCell_other _ _ _ _ (by intro e; injection e with e; exact hne e.symm)]; exact h1, by rw [World.frozen?_setCell]; exact h2⟩
theorem Box.drew {w : World} {b : Nat} {cs : Array Value} (h : Box w b cs) : Box w.drew b cs := fun j v hj => h j v hj
theorem Box.put {w : World} {b c : Nat} {cs : Array Value} {o : Obj} (h : Box w b cs) (hne : b ≠ c) : Box (w.putObj c o) b cs := by
  have e : (w.putObj c o).heap[b]? = w.heap[b]? := World.putObj_heap_other (fun q => hne q)
  intro i u hi
  obtain ⟨h1, h2⟩ := h i u hi
  exact ⟨(cell_alike e ⟨b, i, none⟩ rfl).1.trans h1, (cell_alike e ⟨b, i, none⟩ rfl).2.trans h2⟩
/-- the texture's box, the results, the sum so far -/
structure TxI (o : Nat) (B : Array Value) (r1 r2 m e : Int) (W : World) : Prop where
  b0 : Box W o B
  b1 : Box W (o + 1) #[.int .i64 r1]
  b2 : Box W (o + 1 + 1) #[.int .i64 r2]
  b3 : Box W (o + 1 + 1 + 1) #[.int .i64 m]
  b4 : Box W (o + 1 + 1 + 1 + 1) #[.int .i64 e]
theorem TxI.below {o B' : Nat} {B : Array Value} {r1 r2 m e : Int} {W W' : World} (h : TxI o B r1 r2 m e W) (hb : Below B' W W') (hB : o + 5 ≤ B') : TxI o B r1 r2 m e W' :=
  ⟨h.b0.below hb (by omega), h.b1.below hb (by omega), h.b2.below hb (by omega), h.b3.below hb (by omega), h.b4.below hb (by omega)⟩
theorem texK_err {W H : Int} {k : Nat} (h : (texK W H k).2 ≠ 0) : ∀ j, k ≤ j → texK W H j = texK W H k := by
  intro j hj
  induction j with
  | zero => obtain rfl : k = 0 := by omega
            rfl
  | succ j ih =>
    by_cases e : k = j + 1
    · rw [e]
    · have := ih (by omega)
      rw [texK, this, if_pos h]
theorem timesV_bd (a b : Int) : 0 ≤ (timesV a b).1 ∧ (timesV a b).1 ≤ 2147483647 ∧ 0 ≤ (timesV a b).2 ∧ (timesV a b).2 ≤ 10 ∧ ((timesV a b).2 ≠ 0 → (timesV a b).1 = 0) := by
  unfold timesV
  split
  · exact ⟨Int.le_refl _, by decide, by decide, by decide, fun _ => rfl⟩
  · split
    · exact ⟨Int.le_refl _, by decide, by decide, by decide, fun _ => rfl⟩
    · rename_i h1 h2
      exact ⟨Int.mul_nonneg (by omega) (by omega), by show a * b ≤ _; omega, Int.le_refl _, by show (0 : Int) ≤ 10; omega, fun h => absurd rfl h⟩
theorem sumV_bd (a b : Int) : 0 ≤ (sumV a b).1 ∧ (sumV a b).1 ≤ 2147483647 ∧ 0 ≤ (sumV a b).2 ∧ (sumV a b).2 ≤ 10 ∧ ((sumV a b).2 ≠ 0 → (sumV a b).1 = 0) := by
  unfold sumV
  split
  · exact ⟨Int.le_refl _, by decide, by decide, by decide, fun _ => rfl⟩
  · split
    · exact ⟨Int.le_refl _, by decide, by decide, by decide, fun _ => rfl⟩
    · rename_i h1 h2
      exact ⟨by show 0 ≤ a + b; omega, by show a + b ≤ _; omega, Int.le_refl _, by show (0 : Int) ≤ 10; omega, fun h => absurd rfl h⟩
theorem texK_bd (W H : Int) : ∀ k, 0 ≤ (texK W H k).1 ∧ (texK W H k).1 ≤ 2147483647 ∧ 0 ≤ (texK W H k).2 ∧ (texK W H k).2 ≤ 10 ∧ ((texK W H k).2 ≠ 0 → (texK W H k).1 = 0)
  | 0 => ⟨Int.le_refl _, by show (0 : Int) ≤ _; omega, Int.le_refl _, by show (0 : Int) ≤ _; omega, fun h => absurd rfl h⟩
  | k + 1 => by
    have ih := texK_bd W H k
    rw [texK]
    split
    · exact ih
    · split
      · have := timesV_bd (sideV W k) (sideV H k)
        exact ⟨Int.le_refl _, by show (0 : Int) ≤ _; omega, this.2.2.1, this.2.2.2.1, fun _ => rfl⟩
      · exact sumV_bd _ _
theorem sideV_bd {n of : Int} (h : 1 ≤ n) : 0 ≤ sideV n of ∧ sideV n of ≤ n := by
  unfold sideV
  split
  · omega
  · have := hk_pos h of.toNat
    have := hk_le h of.toNat
    omega
/-- the least of two, kept whole -/
def mn (x y : Int) : Int := if y < x then y else x
theorem mn_eq (x y : Int) : mn x y = min x y := by unfold mn; split <;> omega
theorem exec_min {P : Program} {o : Oper} {a : Act} {w : World} (p q : Operand) (ts : Array TypeId) (ho : o.op = .call { callee := .builtin .min, args := #[p, q], argTypes := ts }) (x y : Int) (hp : a.eval p = .int .i64 x) (hq : a.eval q = .int .i64 y) :
    (execOp a.eval o).run P w = .ok (.value (.int .i64 (mn x y))) w := by
  have : (Builtin.min_ ts o.type #[.int .i64 x, .int .i64 y]).run P w = .ok (.int .i64 (mn x y)) w := by
    simp [Builtin.min_, Builtin.min2, mn, List.foldlM]
  unfold execOp
  simp only [ho]
  simp only [resolve, List.map_toArray, List.map_cons, List.map_nil, hp, hq, Sem.run_bind, Sem.run_pure, Result.andThen_ok, invoke, builtin, this]
set_option maxRecDepth 100000 in
set_option maxHeartbeats 4000000 in
theorem texels_any (f W H L F n : Int) (d p : Value) (w : World) (hW0 : -9223372036854775808 ≤ W) (hW : W ≤ 9223372036854775807) (hH0 : -9223372036854775808 ≤ H) (hH : H ≤ 9223372036854775807) (hL0 : -9223372036854775808 ≤ L) (hL : L ≤ 9223372036854775807)
    (hF0 : -9223372036854775808 ≤ F) (hF : F ≤ 9223372036854775807) (hn0 : -9223372036854775808 ≤ n) (hn : n ≤ 9223372036854775807) :
    Calls Tryz.prog 61 #[.agg #[.int .i64 f, .int .i64 W, .int .i64 H, .int .i64 L, .int .i64 F, .int .i64 n, d, p]] w fun e w' =>
      e = .returned (.tuple #[.int .i64 (texV W H L F n).1, .int .i64 (texV W H L F n).2]) ∧ Below w.heap.size w w' := by
  refine callsIn_wide.1 (callsIn_of_wp_marks (F := Fence.wide) (n := 3) Tryz.func61 rfl trivial ?_ rfl)
  simp only [Tryz.ntmps61, List.size_toArray, List.length_cons, List.length_nil, Nat.reduceAdd, Nat.reduceSub, Array.replicate_succ, Array.replicate_zero, List.push_toArray, List.append_toArray, List.nil_append, List.cons_append]
  gi_wp2_with fail
  rw [run_min5]
  by_cases h1 : min5 W H L F n < 1
  · have d1 : decide (min5 W H L F n < 1) = true := by simpa using h1
    have hx : texV W H L F n = (0, 1) := by
      unfold texV; rw [if_pos ((min5_lt W H L F n).1 h1)]
    have HX := hide hx
    clear hx
    gi_wp2_with fail
    refine ⟨.tuple #[.int .i64 0, .int .i64 1], by simp [results, Tryz.results61, go_sem], ?_⟩
    rw [HX.out]
    exact ⟨rfl, (((Below.refl _ _).alloc (Nat.le_refl _) _).alloc (by simp) _).alloc (by simp; omega) _⟩
  have d1 : decide (min5 W H L F n < 1) = false := by simpa using h1
  have hm : 1 ≤ W ∧ 1 ≤ H ∧ 1 ≤ L ∧ 1 ≤ F ∧ 1 ≤ n := by
    have h2 := mt (min5_lt W H L F n).2 h1; omega
  clear h1
  gi_wp2_with fail
  have s : ∀ w, Calls Tryz.prog 50 #[.int .i64 W, .int .i64 H] w fun e w' => e = .returned (.int .i64 (levelsV W H)) ∧ Below w.heap.size w w' := fun w => levels_any W H w hW0 hW hH0 hH
  obtain ⟨W1, hW1⟩ : ∃ W1, W1 = ((((w.alloc (.cells #[.int .i64 f, .int .i64 W, .int .i64 H, .int .i64 L, .int .i64 F, .int .i64 n, d, p] 25)).alloc (.cells #[.int .i64 0] 3)).alloc (.cells #[.int .i64 0] 30)).alloc (.cells #[.int .i64 0] 3)).alloc (.cells #[.int .i64 0] 30) := ⟨_, rfl⟩
  have hz : W1.heap.size = w.heap.size + 5 := by rw [hW1]; simp
  have B0 : Box W1 w.heap.size #[.int .i64 f, .int .i64 W, .int .i64 H, .int .i64 L, .int .i64 F, .int .i64 n, d, p] := by rw [hW1]; exact Box.old (Box.old (Box.old (Box.old (Box.mk' rfl) (by simp)) (by simp <;> omega)) (by simp <;> omega)) (by simp <;> omega)
  have B1 : Box W1 (w.heap.size + 1) #[.int .i64 0] := by rw [hW1]; exact Box.old (Box.old (Box.old (Box.mk' (by simp)) (by simp)) (by simp <;> omega)) (by simp <;> omega)
  have B2 : Box W1 (w.heap.size + 1 + 1) #[.int .i64 0] := by rw [hW1]; exact Box.old (Box.old (Box.mk' (by simp)) (by simp)) (by simp <;> omega)
  have B3 : Box W1 (w.heap.size + 1 + 1 + 1) #[.int .i64 0] := by rw [hW1]; exact Box.old (Box.mk' (by simp)) (by simp)
  have B4 : Box W1 (w.heap.size + 1 + 1 + 1 + 1) #[.int .i64 0] := by rw [hW1]; exact Box.mk' (by simp)
  have hbl : Below w.heap.size w W1 := by rw [hW1]; exact (((((Below.refl _ w).alloc (Nat.le_refl _) _).alloc (by simp) _).alloc (by simp <;> omega) _).alloc (by simp <;> omega) _).alloc (by simp <;> omega) _
  rw [← hW1]
  have BB := hide B0
  have hz5 : w.heap.size + 5 ≤ W1.heap.size := by omega
  clear hW1 hz
  have c1 := (B0 1 _ rfl).1
  have c2 := (B0 2 _ rfl).1
  have c5 := (B0 5 _ rfl).1
  clear B0
  refine wpIn_wide.2 ?_
  go_region_held3 (fun w' => w'.cell? ⟨w.heap.size, 1, none⟩ = some (.int .i64 W) ∧ w'.cell? ⟨w.heap.size, 2, none⟩ = some (.int .i64 H) ∧ w'.cell? ⟨w.heap.size, 5, none⟩ = some (.int .i64 n))
    (first | go_keep | (refine ⟨?_, ?_, ?_⟩ <;> (first | exact (hb1.cell (by simp; omega)).trans (by assumption))))
    (first
      | (go_at_call 50; refine (s _).mono ?_; rintro e w1 ⟨rfl, hb1⟩)
      | (with_reducible refine wpList_run rfl (exec_min (.tmp 24) (.tmp 29) #[3, 3] rfl n (levelsV W H) rfl rfl) ?_))
  obtain ⟨r, hr⟩ : ∃ r, r = if levelsV W H < n then levelsV W H else n := ⟨_, rfl⟩
  have HR := hide hr
  rw [← hr]
  clear hr
  replace hb1 : Below W1.heap.size W1 w1 := ⟨hb1.os, hb1.tape, hb1.output, hb1.size, hb1.block⟩
  have hz6 : w.heap.size + 5 ≤ w1.heap.size := by have := hb1.size; omega
  have D0 := hide (BB.out.below hb1 (by omega))
  have D1 := hide (B1.below hb1 (by omega))
  have D2 := hide (B2.below hb1 (by omega))
  have D3 := hide (B3.below hb1 (by omega))
  have D4 := hide (B4.below hb1 (by omega))
  have HB1 := hide (hbl.trans (hb1.mono (by omega)) : Below w.heap.size w w1)
  have hl := levelsV_bd W H hW hH
  have hr1 : 0 ≤ r ∧ r ≤ 9223372036854775807 := by rw [HR.out]; split <;> omega
  clear hb1 B1 B2 B3 B4 BB c1 c2 c5 hbl hz5 hl
  have cW := (D0.out 1 _ rfl).1
  have cH := (D0.out 2 _ rfl).1
  gi_wp2_with (refine ⟨trivial, ?_⟩; gi_at_call 94; refine (callsIn_wide.2 (levels_fn _ _ _ _)).mono ?_; rintro e w' ⟨rfl, rfl⟩)
  obtain ⟨B, hB⟩ : ∃ B : Array Value, B = #[.int .i64 f, .int .i64 W, .int .i64 H, .int .i64 L, .int .i64 F, .int .i64 n, d, p] := ⟨_, rfl⟩
  obtain ⟨W2, hW2⟩ : ∃ W2, W2 = ((w1.alloc (.cells #[.int .i64 W] 3)).alloc (.cells #[.int .i64 H] 3)).alloc (.cells #[.int .i64 r] 3) := ⟨_, rfl⟩
  have hz2 : W2.heap.size = w1.heap.size + 3 := by rw [hW2]; simp
  have hb2 : Below w1.heap.size w1 W2 := by rw [hW2]; exact (((Below.refl _ _).alloc (Nat.le_refl _) _).alloc (by simp) _).alloc (by simp <;> omega) _
  have t0 : TxI w.heap.size B 0 0 0 0 W2 := by
    rw [hB]
    exact (TxI.mk D0.out D1.out D2.out D3.out D4.out).below hb2 (by omega)
  have u0 : Box W2 w1.heap.size #[.int .i64 W] := by rw [hW2]; exact Box.old (Box.old (Box.mk' rfl) (by simp)) (by simp <;> omega)
  have u1 : Box W2 (w1.heap.size + 1) #[.int .i64 H] := by rw [hW2]; exact Box.old (Box.mk' (by simp)) (by simp)
  have u2 : Box W2 (w1.heap.size + 2) #[.int .i64 r] := by rw [hW2]; exact Box.mk' (by simp)
  have hbl : Below w.heap.size w W2 := HB1.out.trans (hb2.mono (by omega))
  rw [← hW2]
  have HW2 := hide hW2
  have HBB := hide hB
  clear hW2 hB D0 D1 D2 D3 D4 HB1 hb2 cW cH
  refine range_levels (w1.heap.size + 2) w1.heap.size (w1.heap.size + 1) r W H (by omega) hr1.2 hW0 hW hH0 hH rfl rfl ⟨(u2 0 _ rfl).1, (u0 0 _ rfl).1, (u1 0 _ rfl).1⟩ (by omega) (by omega) (by omega)
    (fun k W' => (TxI w.heap.size B 0 0 (texK W H k).1 0 W' ∧ (texK W H k).2 = 0) ∧ Below w.heap.size w W')
    (fun c k W' => (c = .ret ∧ ∃ e : Int, e ≠ 0 ∧ texK W H (k + 1) = (0, e) ∧ Box W' (w.heap.size + 1) #[.int .i64 0] ∧ Box W' (w.heap.size + 1 + 1) #[.int .i64 e]) ∧ Below w.heap.size w W') ?hI ?hIx ⟨⟨t0, rfl⟩, hbl⟩ ?a1 ?assign ?body ?done ?stop
  case a1 => exact fun k => { tmps := #[.agg #[.int .i64 f, .int .i64 W, .int .i64 H, .int .i64 L, .int .i64 F, .int .i64 n, d, p], .pointer (some ⟨w.heap.size, 0, none⟩), .pointer (some ⟨w.heap.size + 1, 0, none⟩), .pointer (some ⟨w.heap.size + 1 + 1, 0, none⟩), .pointer (some ⟨w.heap.size + 1 + 1 + 1, 0, none⟩), .pointer (some ⟨w.heap.size + 1 + 1 + 1 + 1, 0, none⟩),
      .int .i64 r, .int .i64 (sideV W k), .int .i64 (sideV H k), undef, undef, .pointer (some ⟨w.heap.size, 1, none⟩), .int .i64 W, .pointer (some ⟨w.heap.size, 2, none⟩), .int .i64 H, .pointer (some ⟨w.heap.size, 3, none⟩), .int .i64 L, .pointer (some ⟨w.heap.size, 4, none⟩), .int .i64 F, .pointer (some ⟨w.heap.size, 5, none⟩), .int .i64 n, .int .i64 (min5 W H L F n), .bool false,
      .pointer (some ⟨w.heap.size, 5, none⟩), .int .i64 n, .pointer (some ⟨w.heap.size, 1, none⟩), .int .i64 W, .pointer (some ⟨w.heap.size, 2, none⟩), .int .i64 H, .int .i64 (levelsV W H), .int .i64 r, .pointer (some ⟨w.heap.size, 1, none⟩), .int .i64 W, .pointer (some ⟨w.heap.size, 2, none⟩), .int .i64 H, .int .i64 r,
      .func (.func 162) #[] #[.pointer (some ⟨w1.heap.size + 2, 0, none⟩), .pointer (some ⟨w1.heap.size, 0, none⟩), .pointer (some ⟨w1.heap.size + 1, 0, none⟩)], .int .i64 (sideV W k), .int .i64 (sideV H k),
      undef, undef, undef, undef, undef, undef, undef, undef, undef, undef, undef, undef, undef, undef, undef, undef, undef, undef, undef, undef, undef, undef, undef, undef, undef, undef, undef, undef, undef, undef, undef, undef, undef, undef, undef, undef, undef, undef, undef, undef, undef, undef, undef, undef, undef, undef, undef], defers := [] }
  case hI =>
    rintro k W' W'' ⟨⟨g1, g2⟩, g3⟩ hs
    exact ⟨⟨g1.below hs.below (by omega), g2⟩, g3.trans (hs.below.mono (by omega))⟩
  case hIx =>
    rintro c k W' W'' ⟨⟨g0, e, g1, g2, g3, g4⟩, g5⟩ hs
    exact ⟨⟨g0, e, g1, g2, g3.below hs.below (by omega), g4.below hs.below (by omega)⟩, g5.trans (hs.below.mono (by omega))⟩
  case assign =>
    intro l k W' K hK
    gi_wp2
    simpa using hK
  case body =>
    rintro l k W' hk ⟨⟨g1, g2⟩, g3⟩ hsz
    have sW := sideV_bd (of := k) hm.1
    have sH := sideV_bd (of := k) hm.2.1
    have htb := timesV_bd (sideV W k) (sideV H k)
    have hkb := texK_bd W H k
    obtain ⟨q, e1, hq⟩ : ∃ q e1, timesV (sideV W k) (sideV H k) = (q, e1) := ⟨_, _, rfl⟩
    obtain ⟨m, hm'⟩ : ∃ m, m = (texK W H k).1 := ⟨_, rfl⟩
    have hsb := sumV_bd m q
    obtain ⟨u, e2, hu⟩ : ∃ u e2, sumV m q = (u, e2) := ⟨_, _, rfl⟩
    have hnext : texK W H (k + 1) = if e1 ≠ 0 then (0, e1) else (u, e2) := by
      rw [texK, if_neg (by omega), hq, ← hm', hu]
    rw [← hm'] at g1 hkb
    rw [hq] at htb
    rw [hu] at hsb
    simp only at htb hsb
    have s95 : ∀ w, Calls Tryz.prog 95 #[.int .i64 (sideV W k), .int .i64 (sideV H k)] w fun e w' => e = .returned (.tuple #[.int .i64 q, .int .i64 e1]) ∧ w = w' := fun w => by
      have := times_any (sideV W k) (sideV H k) w (by omega) (by omega) (by omega) (by omega)
      rw [hq] at this; exact this
    have s96 : ∀ w, Calls Tryz.prog 96 #[.int .i64 m, .int .i64 q] w fun e w' => e = .returned (.tuple #[.int .i64 u, .int .i64 e2]) ∧ w = w' := fun w => by
      have := sum_any m q w (by omega) (by omega) (by omega) (by omega)
      rw [hu] at this; exact this
    have HN := hide hnext
    have G1 := hide g1
    have G3 := hide g3
    have c3 := (g1.b3 0 _ rfl).1
    have c3f := (g1.b3 0 _ rfl).2
    have c4 := (g1.b4 0 _ rfl).1
    have c4f := (g1.b4 0 _ rfl).2
    have c1 := (g1.b1 0 _ rfl).1
    have c1f := (g1.b1 0 _ rfl).2
    have c2 := (g1.b2 0 _ rfl).1
    have c2f := (g1.b2 0 _ rfl).2
    clear g1 g2 g3 hq hm' hu hnext u0 u1 u2 t0
    simp only [List.getElem_toArray, List.getElem_cons_zero] at c1 c2 c3 c4
    generalize sideV W k = x at *
    generalize sideV H k = y at *
    by_cases he1 : e1 = 0
    · have d2 : (e1 != 0) = false := by simpa using he1
      have HN2 := hide (show texK W H (k + 1) = (u, e2) by rw [HN.out, if_neg (by omega)])
      clear HN
      by_cases he2 : e2 = 0
      · have d3 : (e2 != 0) = false := by simpa using he2
        gi_wp2_with (first
          | (refine ⟨trivial, ?_⟩; gi_at_call 95; refine (callsIn_wide.2 (s95 _)).mono ?_; rintro e w' ⟨rfl, rfl⟩)
          | (refine ⟨trivial, ?_⟩; gi_at_call 96; refine (callsIn_wide.2 (s96 _)).mono ?_; rintro e w' ⟨rfl, rfl⟩))
        refine ⟨⟨by simp, fun b hb hor => by rw [Below.heap_setCell _ _ _ _ (by simp <;> omega), Below.heap_setCell _ _ _ _ (by simp <;> omega)]⟩, ⟨⟨?_, ?_, ?_, ?_, ?_⟩, by rw [HN2.out]; exact he2⟩, (G3.out.setCell (by simp <;> omega) _).setCell (by simp <;> omega) _⟩
        · exact (G1.out.b0.setOther (by omega)).setOther (by omega)
        · exact (G1.out.b1.setOther (by omega)).setOther (by omega)
        · exact (G1.out.b2.setOther (by omega)).setOther (by omega)
        · rw [HN2.out]; exact (G1.out.b3.setOne).setOther (by omega)
        · exact (G1.out.b4.setOther (by omega)).setOne
      · have d3 : (e2 != 0) = true := by simpa using he2
        gi_wp2_with (first
          | (refine ⟨trivial, ?_⟩; gi_at_call 95; refine (callsIn_wide.2 (s95 _)).mono ?_; rintro e w' ⟨rfl, rfl⟩)
          | (refine ⟨trivial, ?_⟩; gi_at_call 96; refine (callsIn_wide.2 (s96 _)).mono ?_; rintro e w' ⟨rfl, rfl⟩))
        have hu0 := hsb.2.2.2.2 he2
        have HN3 := hide (show texK W H (k + 1) = (0, e2) by rw [HN2.out, hu0])
        clear hu0
        gi_region
        all_goals gi_wp2_with fail
        all_goals exact ⟨⟨by simp, fun b hb hor => by
              change (World.setCell _ _ _).heap[b]? = _
              rw [Below.heap_setCell _ _ _ _ (by simp <;> omega), Below.heap_setCell _ _ _ _ (by simp <;> omega), Below.heap_setCell _ _ _ _ (by simp <;> omega), Below.heap_setCell _ _ _ _ (by simp <;> omega)]⟩,
            ⟨rfl, e2, he2, HN3.out, ((((G1.out.b1.setOther (by omega)).setOther (by omega)).setOne).setOther (by omega)).drew, ((((G1.out.b2.setOther (by omega)).setOther (by omega)).setOther (by omega)).setOne).drew⟩,
            ((((G3.out.setCell (by simp <;> omega) _).setCell (by simp <;> omega) _).setCell (by simp <;> omega) _).setCell (by simp <;> omega) _).drew⟩
    · have d2 : (e1 != 0) = true := by simpa using he1
      gi_wp2_with (refine ⟨trivial, ?_⟩; gi_at_call 95; refine (callsIn_wide.2 (s95 _)).mono ?_; rintro e w' ⟨rfl, rfl⟩)
      refine ⟨⟨by simp, fun b hb hor => by rw [Below.heap_setCell _ _ _ _ (by simp <;> omega), Below.heap_setCell _ _ _ _ (by simp <;> omega)]⟩, ⟨rfl, e1, he1, by rw [HN.out, if_pos he1], (G1.out.b1.setOne).setOther (by omega), (G1.out.b2.setOther (by omega)).setOne⟩, (G3.out.setCell (by simp <;> omega) _).setCell (by simp <;> omega) _⟩
  case stop =>
    rintro D c k W' hk ⟨⟨rfl, e, g1, g2, g3, g4⟩, g5⟩ hd hD
    have hx : texV W H L F n = (0, e) := by
      have hrr : min n (levelsV W H) = r := by rw [HR.out]; split <;> omega
      unfold texV
      rw [if_neg (by omega)]
      simp only [hrr]
      rw [texK_err (k := k + 1) (by rw [g2]; exact g1) r.toNat (by omega), g2, if_pos g1]
    have HX := hide hx
    have G5 := hide g5
    have k1 : ∀ ob, (W'.putObj D ob).cell? ⟨w.heap.size + 1, 0, none⟩ = some (.int .i64 0) := fun ob => ((g3.put (o := ob) (c := D) (by omega)) 0 _ rfl).1
    have k2 : ∀ ob, (W'.putObj D ob).cell? ⟨w.heap.size + 1 + 1, 0, none⟩ = some (.int .i64 e) := fun ob => ((g4.put (o := ob) (c := D) (by omega)) 0 _ rfl).1
    have K1 := hide k1
    have K2 := hide k2
    clear g2 g3 g4 g5 hx hbl k1 k2
    gi_wp2
    refine ⟨by simp, .inl ⟨_, _, rfl, run_takeDeferred hd, ?_⟩⟩
    refine ⟨.tuple #[.int .i64 0, .int .i64 e], by simp [results, Tryz.results61, go_sem, K1.out, K2.out], ?_, Below.put G5.out (by omega) _⟩
    rw [HX.out]
  case done =>
    rintro D W' ⟨⟨g1, g2⟩, g3⟩ hd hD
    have hrr : min n (levelsV W H) = r := by rw [HR.out]; split <;> omega
    have hkb := texK_bd W H r.toNat
    obtain ⟨m, hm'⟩ : ∃ m, m = (texK W H r.toNat).1 := ⟨_, rfl⟩
    obtain ⟨z, hz0⟩ : ∃ z, z = min (n - r) 2147483647 := ⟨_, rfl⟩
    have hrn : 0 ≤ n - r := by omega
    have hzb : 0 ≤ z ∧ z ≤ 2147483647 := by omega
    rw [← hm'] at hkb g1
    have hsb := sumV_bd m z
    obtain ⟨a1, e1, ha⟩ : ∃ a e, sumV m z = (a, e) := ⟨_, _, rfl⟩
    rw [ha] at hsb
    have htb := timesV_bd a1 F
    obtain ⟨a2, e2, hb⟩ : ∃ a e, timesV a1 F = (a, e) := ⟨_, _, rfl⟩
    rw [hb] at htb
    obtain ⟨a3, e3, hc⟩ : ∃ a e, timesV a2 L = (a, e) := ⟨_, _, rfl⟩
    simp only at hsb htb
    have hx : texV W H L F n = if e1 ≠ 0 then (0, e1) else if e2 ≠ 0 then (0, e2) else (a3, e3) := by
      unfold texV
      rw [if_neg (by omega)]
      simp only [hrr]
      rw [if_neg (by rw [g2]; simp), ← hm', ← hz0, ha]
      simp only [hb, hc]
    have s96 : ∀ w, Calls Tryz.prog 96 #[.int .i64 m, .int .i64 z] w fun e w' => e = .returned (.tuple #[.int .i64 a1, .int .i64 e1]) ∧ w = w' := fun w => by
      have := sum_any m z w (by omega) (by omega) (by omega) (by omega)
      rw [ha] at this; exact this
    have s95 : ∀ w, Calls Tryz.prog 95 #[.int .i64 a1, .int .i64 F] w fun e w' => e = .returned (.tuple #[.int .i64 a2, .int .i64 e2]) ∧ w = w' := fun w => by
      have := times_any a1 F w (by omega) (by omega) (by omega) (by omega)
      rw [hb] at this; exact this
    have s95' : ∀ w, Calls Tryz.prog 95 #[.int .i64 a2, .int .i64 L] w fun e w' => e = .returned (.tuple #[.int .i64 a3, .int .i64 e3]) ∧ w = w' := fun w => by
      have := times_any a2 L w (by omega) (by omega) (by omega) (by omega)
      rw [hc] at this; exact this
    have hzc : (z = 2147483647 ∧ 2147483647 < n - r) ∨ (z = n - r ∧ n - r ≤ 2147483647) := by omega
    have HX := hide hx
    have G1 := hide g1
    have G3 := hide g3
    have HS := hide hsb
    have HT := hide htb
    have q5 := (g1.b0 5 (.int .i64 n) (by rw [HBB.out]; rfl)).1
    have q4 := (g1.b0 4 (.int .i64 F) (by rw [HBB.out]; rfl)).1
    have q3 := (g1.b0 3 (.int .i64 L) (by rw [HBB.out]; rfl)).1
    have c3 := (g1.b3 0 _ rfl).1
    have c3f := (g1.b3 0 _ rfl).2
    have c4 := (g1.b4 0 _ rfl).1
    have c4f := (g1.b4 0 _ rfl).2
    have c1 := (g1.b1 0 _ rfl).1
    have c1f := (g1.b1 0 _ rfl).2
    have c2 := (g1.b2 0 _ rfl).1
    have c2f := (g1.b2 0 _ rfl).2
    have hdl : D < W'.heap.size := (Array.getElem?_eq_some_iff.1 hd).1
    have HD := hide hd
    clear g1 g2 g3 hm' hz0 hx ha hb hc hsb htb hrr hkb hbl hzb hd
    have hrn2 : n - r ≤ 9223372036854775807 := by omega
    simp only [List.getElem_toArray, List.getElem_cons_zero] at c1 c2 c3 c4
    rcases hzc with ⟨rfl, hlt⟩ | ⟨rfl, hle⟩
    · have dl : decide (2147483647 < n - r) = true := by simpa using hlt
      by_cases he1 : e1 = 0
      · subst he1
        gi_wp2_with (refine ⟨trivial, ?_⟩; gi_at_call 96; ((with_reducible refine (callsIn_wide.2 (s96 _)).mono ?_); rintro e w' ⟨rfl, rfl⟩))
        obtain ⟨W3, hW3⟩ : ∃ W3, W3 = (W'.setCell ⟨w.heap.size + 1 + 1 + 1, 0, none⟩ (.int .i64 a1)).setCell ⟨w.heap.size + 1 + 1 + 1 + 1, 0, none⟩ (.int .i64 0) := ⟨_, rfl⟩
        have t3 : TxI w.heap.size B 0 0 a1 0 W3 := by
          rw [hW3]
          exact ⟨(G1.out.b0.setOther (by omega)).setOther (by omega), (G1.out.b1.setOther (by omega)).setOther (by omega), (G1.out.b2.setOther (by omega)).setOther (by omega), (G1.out.b3.setOne).setOther (by omega), (G1.out.b4.setOther (by omega)).setOne⟩
        have l3 : Below w.heap.size w W3 := by rw [hW3]; exact (G3.out.setCell (by simp <;> omega) _).setCell (by simp <;> omega) _
        have dd3 : W3.heap[D]? = some (.deferred (some [])) := by
          rw [hW3, Below.heap_setCell _ _ _ _ (by simp <;> omega), Below.heap_setCell _ _ _ _ (by simp <;> omega)]; exact HD.out
        rw [← hW3]
        clear hW3 q5 q4 q3 c1 c1f c2 c2f c3 c3f c4 c4f G1 G3 HD hdl
        have G1 := hide t3
        have G3 := hide l3
        have HD := hide dd3
        have hdl : D < W3.heap.size := (Array.getElem?_eq_some_iff.1 dd3).1
        have q3 := (t3.b0 3 (.int .i64 L) (by rw [HBB.out]; rfl)).1
        have c3 := (t3.b3 0 _ rfl).1
        have c3f := (t3.b3 0 _ rfl).2
        have c4 := (t3.b4 0 _ rfl).1
        have c4f := (t3.b4 0 _ rfl).2
        have c1 := (t3.b1 0 _ rfl).1
        have c1f := (t3.b1 0 _ rfl).2
        have c2 := (t3.b2 0 _ rfl).1
        have c2f := (t3.b2 0 _ rfl).2
        clear t3 l3 dd3
        simp only [List.getElem_toArray, List.getElem_cons_zero] at c1 c2 c3 c4
        refine ⟨trivial, ?_⟩
        refine (callsIn_wide.2 (s95 _)).mono ?_
        rintro e w' ⟨rfl, rfl⟩
        by_cases he2 : e2 = 0
        · subst he2
          gi_wp2_with (refine ⟨trivial, ?_⟩; gi_at_call 95; ((with_reducible refine (callsIn_wide.2 (s95' _)).mono ?_); rintro e w' ⟨rfl, rfl⟩))
          obtain ⟨Wf, hWf⟩ : ∃ Wf, Wf = (((W3.setCell ⟨w.heap.size + 1 + 1 + 1, 0, none⟩ (.int .i64 a2)).setCell ⟨w.heap.size + 1 + 1 + 1 + 1, 0, none⟩ (.int .i64 0)).setCell ⟨w.heap.size + 1, 0, none⟩ (.int .i64 a3)).setCell ⟨w.heap.size + 1 + 1, 0, none⟩ (.int .i64 e3) := ⟨_, rfl⟩
          have lf : Below w.heap.size w Wf := by rw [hWf]; exact ((((G3.out).setCell (by simp <;> omega) _).setCell (by simp <;> omega) _).setCell (by simp <;> omega) _).setCell (by simp <;> omega) _
          have hdf : Wf.heap[D]? = some (.deferred (some [])) := by rw [hWf]; rw [Below.heap_setCell _ _ _ _ (by simp <;> omega), Below.heap_setCell _ _ _ _ (by simp <;> omega), Below.heap_setCell _ _ _ _ (by simp <;> omega), Below.heap_setCell _ _ _ _ (by simp <;> omega)]; exact HD.out
          have b1 : Box Wf (w.heap.size + 1) #[.int .i64 a3] := by rw [hWf]; exact ((((G1.out.b1).setOther (by omega)).setOther (by omega)).setOne).setOther (by omega)
          have b2 : Box Wf (w.heap.size + 1 + 1) #[.int .i64 e3] := by rw [hWf]; exact ((((G1.out.b2).setOther (by omega)).setOther (by omega)).setOther (by omega)).setOne
          have k1 : ∀ ob, (Wf.putObj D ob).cell? ⟨w.heap.size + 1, 0, none⟩ = some (.int .i64 a3) := fun ob => ((b1.put (o := ob) (c := D) (by omega)) 0 _ rfl).1
          have k2 : ∀ ob, (Wf.putObj D ob).cell? ⟨w.heap.size + 1 + 1, 0, none⟩ = some (.int .i64 e3) := fun ob => ((b2.put (o := ob) (c := D) (by omega)) 0 _ rfl).1
          rw [← hWf]
          clear hWf b1 b2 c1 c2 c3 c4 c1f c2f c3f c4f
          refine ⟨by simp, .inl ⟨_, _, rfl, run_takeDeferred hdf, ?_⟩⟩
          refine ⟨.tuple #[.int .i64 a3, .int .i64 e3], by simp [results, Tryz.results61, go_sem, k1, k2], ?_, Below.put lf (by omega) _⟩
          rw [HX.out]
          rw [if_neg (by simp), if_neg (by simp)]
        · have d3 : (e2 != 0) = true := by simpa using he2
          gi_wp2_with fail
          gi_region
          all_goals gi_wp2_with fail
          all_goals
            obtain ⟨Wf, hWf⟩ : ∃ Wf, Wf = ((((W3.setCell ⟨w.heap.size + 1 + 1 + 1, 0, none⟩ (.int .i64 a2)).setCell ⟨w.heap.size + 1 + 1 + 1 + 1, 0, none⟩ (.int .i64 e2)).setCell ⟨w.heap.size + 1, 0, none⟩ (.int .i64 0)).setCell ⟨w.heap.size + 1 + 1, 0, none⟩ (.int .i64 e2)).drew := ⟨_, rfl⟩
            have lf : Below w.heap.size w Wf := by rw [hWf]; exact (((((G3.out).setCell (by simp <;> omega) _).setCell (by simp <;> omega) _).setCell (by simp <;> omega) _).setCell (by simp <;> omega) _).drew
            have hdf : Wf.heap[D]? = some (.deferred (some [])) := by rw [hWf]; change (World.setCell _ _ _).heap[D]? = _; rw [Below.heap_setCell _ _ _ _ (by simp <;> omega), Below.heap_setCell _ _ _ _ (by simp <;> omega), Below.heap_setCell _ _ _ _ (by simp <;> omega), Below.heap_setCell _ _ _ _ (by simp <;> omega)]; exact HD.out
            have b1 : Box Wf (w.heap.size + 1) #[.int .i64 0] := by rw [hWf]; exact (((((G1.out.b1).setOther (by omega)).setOther (by omega)).setOne).setOther (by omega)).drew
            have b2 : Box Wf (w.heap.size + 1 + 1) #[.int .i64 e2] := by rw [hWf]; exact (((((G1.out.b2).setOther (by omega)).setOther (by omega)).setOther (by omega)).setOne).drew
            have k1 : ∀ ob, (Wf.putObj D ob).cell? ⟨w.heap.size + 1, 0, none⟩ = some (.int .i64 0) := fun ob => ((b1.put (o := ob) (c := D) (by omega)) 0 _ rfl).1
            have k2 : ∀ ob, (Wf.putObj D ob).cell? ⟨w.heap.size + 1 + 1, 0, none⟩ = some (.int .i64 e2) := fun ob => ((b2.put (o := ob) (c := D) (by omega)) 0 _ rfl).1
            rw [← hWf]
            clear hWf b1 b2 c1 c2 c3 c4 c1f c2f c3f c4f
            refine ⟨by simp, .inl ⟨_, _, rfl, run_takeDeferred hdf, ?_⟩⟩
            refine ⟨.tuple #[.int .i64 0, .int .i64 e2], by simp [results, Tryz.results61, go_sem, k1, k2], ?_, Below.put lf (by omega) _⟩
            rw [HX.out]
            rw [if_neg (by simp), if_pos he2]
      · have d2 : (e1 != 0) = true := by simpa using he1
        gi_wp2_with (refine ⟨trivial, ?_⟩; gi_at_call 96; ((with_reducible refine (callsIn_wide.2 (s96 _)).mono ?_); rintro e w' ⟨rfl, rfl⟩))
        gi_region
        all_goals gi_wp2_with fail
        all_goals
          obtain ⟨Wf, hWf⟩ : ∃ Wf, Wf = ((((W'.setCell ⟨w.heap.size + 1 + 1 + 1, 0, none⟩ (.int .i64 a1)).setCell ⟨w.heap.size + 1 + 1 + 1 + 1, 0, none⟩ (.int .i64 e1)).setCell ⟨w.heap.size + 1, 0, none⟩ (.int .i64 0)).setCell ⟨w.heap.size + 1 + 1, 0, none⟩ (.int .i64 e1)).drew := ⟨_, rfl⟩
          have lf : Below w.heap.size w Wf := by rw [hWf]; exact (((((G3.out).setCell (by simp <;> omega) _).setCell (by simp <;> omega) _).setCell (by simp <;> omega) _).setCell (by simp <;> omega) _).drew
          have hdf : Wf.heap[D]? = some (.deferred (some [])) := by rw [hWf]; change (World.setCell _ _ _).heap[D]? = _; rw [Below.heap_setCell _ _ _ _ (by simp <;> omega), Below.heap_setCell _ _ _ _ (by simp <;> omega), Below.heap_setCell _ _ _ _ (by simp <;> omega), Below.heap_setCell _ _ _ _ (by simp <;> omega)]; exact HD.out
          have b1 : Box Wf (w.heap.size + 1) #[.int .i64 0] := by rw [hWf]; exact (((((G1.out.b1).setOther (by omega)).setOther (by omega)).setOne).setOther (by omega)).drew
          have b2 : Box Wf (w.heap.size + 1 + 1) #[.int .i64 e1] := by rw [hWf]; exact (((((G1.out.b2).setOther (by omega)).setOther (by omega)).setOther (by omega)).setOne).drew
          have k1 : ∀ ob, (Wf.putObj D ob).cell? ⟨w.heap.size + 1, 0, none⟩ = some (.int .i64 0) := fun ob => ((b1.put (o := ob) (c := D) (by omega)) 0 _ rfl).1
          have k2 : ∀ ob, (Wf.putObj D ob).cell? ⟨w.heap.size + 1 + 1, 0, none⟩ = some (.int .i64 e1) := fun ob => ((b2.put (o := ob) (c := D) (by omega)) 0 _ rfl).1
          rw [← hWf]
          clear hWf b1 b2 c1 c2 c3 c4 c1f c2f c3f c4f
          refine ⟨by simp, .inl ⟨_, _, rfl, run_takeDeferred hdf, ?_⟩⟩
          refine ⟨.tuple #[.int .i64 0, .int .i64 e1], by simp [results, Tryz.results61, go_sem, k1, k2], ?_, Below.put lf (by omega) _⟩
          rw [HX.out]
          rw [if_pos he1]
    · have dl : decide (2147483647 < n - r) = false := by simpa using hle
      by_cases he1 : e1 = 0
      · subst he1
        gi_wp2_with (refine ⟨trivial, ?_⟩; gi_at_call 96; ((with_reducible refine (callsIn_wide.2 (s96 _)).mono ?_); rintro e w' ⟨rfl, rfl⟩))
        obtain ⟨W3, hW3⟩ : ∃ W3, W3 = (W'.setCell ⟨w.heap.size + 1 + 1 + 1, 0, none⟩ (.int .i64 a1)).setCell ⟨w.heap.size + 1 + 1 + 1 + 1, 0, none⟩ (.int .i64 0) := ⟨_, rfl⟩
        have t3 : TxI w.heap.size B 0 0 a1 0 W3 := by
          rw [hW3]
          exact ⟨(G1.out.b0.setOther (by omega)).setOther (by omega), (G1.out.b1.setOther (by omega)).setOther (by omega), (G1.out.b2.setOther (by omega)).setOther (by omega), (G1.out.b3.setOne).setOther (by omega), (G1.out.b4.setOther (by omega)).setOne⟩
        have l3 : Below w.heap.size w W3 := by rw [hW3]; exact (G3.out.setCell (by simp <;> omega) _).setCell (by simp <;> omega) _
        have dd3 : W3.heap[D]? = some (.deferred (some [])) := by
          rw [hW3, Below.heap_setCell _ _ _ _ (by simp <;> omega), Below.heap_setCell _ _ _ _ (by simp <;> omega)]; exact HD.out
        rw [← hW3]
        clear hW3 q5 q4 q3 c1 c1f c2 c2f c3 c3f c4 c4f G1 G3 HD hdl
        have G1 := hide t3
        have G3 := hide l3
        have HD := hide dd3
        have hdl : D < W3.heap.size := (Array.getElem?_eq_some_iff.1 dd3).1
        have q3 := (t3.b0 3 (.int .i64 L) (by rw [HBB.out]; rfl)).1
        have c3 := (t3.b3 0 _ rfl).1
        have c3f := (t3.b3 0 _ rfl).2
        have c4 := (t3.b4 0 _ rfl).1
        have c4f := (t3.b4 0 _ rfl).2
        have c1 := (t3.b1 0 _ rfl).1
        have c1f := (t3.b1 0 _ rfl).2
        have c2 := (t3.b2 0 _ rfl).1
        have c2f := (t3.b2 0 _ rfl).2
        clear t3 l3 dd3
        simp only [List.getElem_toArray, List.getElem_cons_zero] at c1 c2 c3 c4
        refine ⟨trivial, ?_⟩
        refine (callsIn_wide.2 (s95 _)).mono ?_
        rintro e w' ⟨rfl, rfl⟩
        by_cases he2 : e2 = 0
        · subst he2
          gi_wp2_with (refine ⟨trivial, ?_⟩; gi_at_call 95; ((with_reducible refine (callsIn_wide.2 (s95' _)).mono ?_); rintro e w' ⟨rfl, rfl⟩))
          obtain ⟨Wf, hWf⟩ : ∃ Wf, Wf = (((W3.setCell ⟨w.heap.size + 1 + 1 + 1, 0, none⟩ (.int .i64 a2)).setCell ⟨w.heap.size + 1 + 1 + 1 + 1, 0, none⟩ (.int .i64 0)).setCell ⟨w.heap.size + 1, 0, none⟩ (.int .i64 a3)).setCell ⟨w.heap.size + 1 + 1, 0, none⟩ (.int .i64 e3) := ⟨_, rfl⟩
          have lf : Below w.heap.size w Wf := by rw [hWf]; exact ((((G3.out).setCell (by simp <;> omega) _).setCell (by simp <;> omega) _).setCell (by simp <;> omega) _).setCell (by simp <;> omega) _
          have hdf : Wf.heap[D]? = some (.deferred (some [])) := by rw [hWf]; rw [Below.heap_setCell _ _ _ _ (by simp <;> omega), Below.heap_setCell _ _ _ _ (by simp <;> omega), Below.heap_setCell _ _ _ _ (by simp <;> omega), Below.heap_setCell _ _ _ _ (by simp <;> omega)]; exact HD.out
          have b1 : Box Wf (w.heap.size + 1) #[.int .i64 a3] := by rw [hWf]; exact ((((G1.out.b1).setOther (by omega)).setOther (by omega)).setOne).setOther (by omega)
          have b2 : Box Wf (w.heap.size + 1 + 1) #[.int .i64 e3] := by rw [hWf]; exact ((((G1.out.b2).setOther (by omega)).setOther (by omega)).setOther (by omega)).setOne
          have k1 : ∀ ob, (Wf.putObj D ob).cell? ⟨w.heap.size + 1, 0, none⟩ = some (.int .i64 a3) := fun ob => ((b1.put (o := ob) (c := D) (by omega)) 0 _ rfl).1
          have k2 : ∀ ob, (Wf.putObj D ob).cell? ⟨w.heap.size + 1 + 1, 0, none⟩ = some (.int .i64 e3) := fun ob => ((b2.put (o := ob) (c := D) (by omega)) 0 _ rfl).1
          rw [← hWf]
          clear hWf b1 b2 c1 c2 c3 c4 c1f c2f c3f c4f
          refine ⟨by simp, .inl ⟨_, _, rfl, run_takeDeferred hdf, ?_⟩⟩
          refine ⟨.tuple #[.int .i64 a3, .int .i64 e3], by simp [results, Tryz.results61, go_sem, k1, k2], ?_, Below.put lf (by omega) _⟩
          rw [HX.out]
          rw [if_neg (by simp), if_neg (by simp)]
        · have d3 : (e2 != 0) = true := by simpa using he2
          gi_wp2_with fail
          gi_region
          all_goals gi_wp2_with fail
          all_goals
            obtain ⟨Wf, hWf⟩ : ∃ Wf, Wf = ((((W3.setCell ⟨w.heap.size + 1 + 1 + 1, 0, none⟩ (.int .i64 a2)).setCell ⟨w.heap.size + 1 + 1 + 1 + 1, 0, none⟩ (.int .i64 e2)).setCell ⟨w.heap.size + 1, 0, none⟩ (.int .i64 0)).setCell ⟨w.heap.size + 1 + 1, 0, none⟩ (.int .i64 e2)).drew := ⟨_, rfl⟩
            have lf : Below w.heap.size w Wf := by rw [hWf]; exact (((((G3.out).setCell (by simp <;> omega) _).setCell (by simp <;> omega) _).setCell (by simp <;> omega) _).setCell (by simp <;> omega) _).drew
            have hdf : Wf.heap[D]? = some (.deferred (some [])) := by rw [hWf]; change (World.setCell _ _ _).heap[D]? = _; rw [Below.heap_setCell _ _ _ _ (by simp <;> omega), Below.heap_setCell _ _ _ _ (by simp <;> omega), Below.heap_setCell _ _ _ _ (by simp <;> omega), Below.heap_setCell _ _ _ _ (by simp <;> omega)]; exact HD.out
            have b1 : Box Wf (w.heap.size + 1) #[.int .i64 0] := by rw [hWf]; exact (((((G1.out.b1).setOther (by omega)).setOther (by omega)).setOne).setOther (by omega)).drew
            have b2 : Box Wf (w.heap.size + 1 + 1) #[.int .i64 e2] := by rw [hWf]; exact (((((G1.out.b2).setOther (by omega)).setOther (by omega)).setOther (by omega)).setOne).drew
            have k1 : ∀ ob, (Wf.putObj D ob).cell? ⟨w.heap.size + 1, 0, none⟩ = some (.int .i64 0) := fun ob => ((b1.put (o := ob) (c := D) (by omega)) 0 _ rfl).1
            have k2 : ∀ ob, (Wf.putObj D ob).cell? ⟨w.heap.size + 1 + 1, 0, none⟩ = some (.int .i64 e2) := fun ob => ((b2.put (o := ob) (c := D) (by omega)) 0 _ rfl).1
            rw [← hWf]
            clear hWf b1 b2 c1 c2 c3 c4 c1f c2f c3f c4f
            refine ⟨by simp, .inl ⟨_, _, rfl, run_takeDeferred hdf, ?_⟩⟩
            refine ⟨.tuple #[.int .i64 0, .int .i64 e2], by simp [results, Tryz.results61, go_sem, k1, k2], ?_, Below.put lf (by omega) _⟩
            rw [HX.out]
            rw [if_neg (by simp), if_pos he2]
      · have d2 : (e1 != 0) = true := by simpa using he1
        gi_wp2_with (refine ⟨trivial, ?_⟩; gi_at_call 96; ((with_reducible refine (callsIn_wide.2 (s96 _)).mono ?_); rintro e w' ⟨rfl, rfl⟩))
        gi_region
        all_goals gi_wp2_with fail
        all_goals
          obtain ⟨Wf, hWf⟩ : ∃ Wf, Wf = ((((W'.setCell ⟨w.heap.size + 1 + 1 + 1, 0, none⟩ (.int .i64 a1)).setCell ⟨w.heap.size + 1 + 1 + 1 + 1, 0, none⟩ (.int .i64 e1)).setCell ⟨w.heap.size + 1, 0, none⟩ (.int .i64 0)).setCell ⟨w.heap.size + 1 + 1, 0, none⟩ (.int .i64 e1)).drew := ⟨_, rfl⟩
          have lf : Below w.heap.size w Wf := by rw [hWf]; exact (((((G3.out).setCell (by simp <;> omega) _).setCell (by simp <;> omega) _).setCell (by simp <;> omega) _).setCell (by simp <;> omega) _).drew
          have hdf : Wf.heap[D]? = some (.deferred (some [])) := by rw [hWf]; change (World.setCell _ _ _).heap[D]? = _; rw [Below.heap_setCell _ _ _ _ (by simp <;> omega), Below.heap_setCell _ _ _ _ (by simp <;> omega), Below.heap_setCell _ _ _ _ (by simp <;> omega), Below.heap_setCell _ _ _ _ (by simp <;> omega)]; exact HD.out
          have b1 : Box Wf (w.heap.size + 1) #[.int .i64 0] := by rw [hWf]; exact (((((G1.out.b1).setOther (by omega)).setOther (by omega)).setOne).setOther (by omega)).drew
          have b2 : Box Wf (w.heap.size + 1 + 1) #[.int .i64 e1] := by rw [hWf]; exact (((((G1.out.b2).setOther (by omega)).setOther (by omega)).setOther (by omega)).setOne).drew
          have k1 : ∀ ob, (Wf.putObj D ob).cell? ⟨w.heap.size + 1, 0, none⟩ = some (.int .i64 0) := fun ob => ((b1.put (o := ob) (c := D) (by omega)) 0 _ rfl).1
          have k2 : ∀ ob, (Wf.putObj D ob).cell? ⟨w.heap.size + 1 + 1, 0, none⟩ = some (.int .i64 e1) := fun ob => ((b2.put (o := ob) (c := D) (by omega)) 0 _ rfl).1
          rw [← hWf]
          clear hWf b1 b2 c1 c2 c3 c4 c1f c2f c3f c4f
          refine ⟨by simp, .inl ⟨_, _, rfl, run_takeDeferred hdf, ?_⟩⟩
          refine ⟨.tuple #[.int .i64 0, .int .i64 e1], by simp [results, Tryz.results61, go_sem, k1, k2], ?_, Below.put lf (by omega) _⟩
          rw [HX.out]
          rw [if_pos he1]
end Go.Proofs.YtpkclnkibhgpkaaGreat
