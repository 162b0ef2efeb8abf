import Derived.Test.YtmckfppemhnhmaaB

namespace Go.Proofs.Ytmckfppemhnhmaa
open Go.RowKit

theorem wrap_in {n : Int} (h : -9223372036854775808 ≤ n ∧ n ≤ 9223372036854775807) : wrap64 n = n := by unfold wrap64; omega
theorem cell_old3 {w : World} {a : Addr} {v : Value} (h : w.cell? a = some v) (o1 o2 o3 : Obj) : (((w.alloc o1).alloc o2).alloc o3).cell? a = some v := by
  have hb := World.block_lt_of_cell? w _ h
  rw [cell_old _ _ (by simp; omega), cell_old _ _ (by simp; omega), cell_old _ _ hb, h]


def texV (f : Nat → Int) (o : Nat) : Array Value := #[.int .i64 (f o), .int .i64 (f (o + 1)), .int .i64 (f (o + 2)), .int .i64 (f (o + 3))]

theorem read_any (W H x y : Int) (b off o n cap : Nat) (f : Nat → Int) (w : World) (hx : 0 ≤ x) (hx2 : x ≤ 4096) (hw : 0 ≤ y * W) (hw2 : y * W ≤ 67108864) (ho : 4 * (y * W + x) = o) (hon : o + 4 ≤ n) (hn : n ≤ 9223372036854775807)
    (hf : ∀ i, 0 ≤ f i ∧ f i ≤ 255) (hc : ∀ i, i < n → w.cell? ⟨b, off + i, none⟩ = some (.int .u8 (f i))) :
    Calls Try.prog 47 #[.agg #[.int .i64 W, .int .i64 H, .slice (some ⟨b, off, none⟩) n cap], .int .i64 x, .int .i64 y] w fun e w' => e = .returned (.agg (texV f o)) ∧ Below w.heap.size w w' := by
  have w1 : wrap64 (y * W) = y * W := by exact wrap_in (by omega)
  have w2 : wrap64 (y * W + x) = y * W + x := by exact wrap_in (by omega)
  have w3 : wrap64 (4 * (y * W + x)) = (o : Int) := by rw [← ho]; exact wrap_in (by omega)
  have c0 := cell_old3 (hc o (by omega))
  have c1 := cell_old3 (hc (o + 1) (by omega))
  have c2 := cell_old3 (hc (o + 2) (by omega))
  have c3 := cell_old3 (hc (o + 3) (by omega))
  have f0 := hf o
  have f1 := hf (o + 1)
  have f2 := hf (o + 2)
  have f3 := hf (o + 3)
  unfold texV
  generalize f o = v0 at *
  generalize f (o + 1) = v1 at *
  generalize f (o + 2) = v2 at *
  generalize f (o + 3) = v3 at *
  have ho2 : (o : Int) ≤ 268500000 := by omega
  clear hc hf ho hw hw2 hx hx2
  go_enter Try.func47, Try.ntmps47
  go_wp2_with fail
  refine wp_loop_rounds 5 ?_
  rw [rounds_succ]
  go_wp2_with fail
  rw [rounds_succ]
  go_wp2_with fail
  rw [rounds_succ]
  go_wp2_with fail
  rw [rounds_succ]
  go_wp2_with fail
  rw [rounds_succ]
  go_wp2_with fail
  exact bodyPost_ret (v := .agg #[.int .i64 v0, .int .i64 v1, .int .i64 v2, .int .i64 v3]) (by simp [results, Try.results47, go_sem]) rfl ⟨rfl, by (repeat' (first | exact Below.refl _ _ | assumption | refine Below.setCell ?_ (by simp <;> omega) _ | refine Below.alloc ?_ (by simp <;> omega) _))⟩

def updK (f : Nat → Int) (o : Nat) (t : Nat → Int) (k : Nat) : Nat → Int := fun i => if o ≤ i ∧ i < o + k then clampV (t (i - o)) 255 else f i
def tx (t : Nat → Int) : Value := .agg #[.int .i64 (t 0), .int .i64 (t 1), .int .i64 (t 2), .int .i64 (t 3)]
theorem index_tx (t : Nat → Int) (k : Nat) (hk : k < 4) (w : World) : (Instr.index 38 (.agg #[.int .i64 (t 0), .int .i64 (t 1), .int .i64 (t 2), .int .i64 (t 3)]) (.int .i64 k)).run Try.prog w = .ok (.int .i64 (t k)) w := by
  rcases (by omega : k = 0 ∨ k = 1 ∨ k = 2 ∨ k = 3) with rfl | rfl | rfl | rfl <;> kernel_rfl
theorem updK_next (f : Nat → Int) (o : Nat) (t : Nat → Int) (k i : Nat) : updK f o t (k + 1) i = if i = o + k then clampV (t k) 255 else updK f o t k i := by
  unfold updK
  by_cases h : i = o + k
  · subst h; rw [if_pos ⟨by omega, by omega⟩, if_pos rfl]; congr 2; omega
  · rw [if_neg h]; by_cases h2 : o ≤ i ∧ i < o + k
    · rw [if_pos h2, if_pos (by omega)]
    · rw [if_neg h2, if_neg (by omega)]
theorem Cl.next {w : World} {g n : Nat} {f : Nat → Int} {o : Nat} {t : Nat → Int} {k : Nat} (h : Cl w g 0 n (updK f o t k)) {v : Int} (hv : v = clampV (t k) 255) : Cl (w.setCell ⟨g, o + k, none⟩ (.int .u8 v)) g 0 n (updK f o t (k + 1)) := by
  have := h.set (o + k) v
  rw [Nat.zero_add] at this
  exact this.congr fun i hi => by rw [updK_next, hv]
theorem Cl.at {w : World} {g n : Nat} {f : Nat → Int} (h : Cl w g 0 n f) {i : Nat} (hi : i < n) : w.cell? ⟨g, i, none⟩ = some (.int .u8 (f i)) := by simpa using (h i hi).1
theorem Cl.fr {w : World} {g n : Nat} {f : Nat → Int} (h : Cl w g 0 n f) {i : Nat} (hi : i < n) : w.frozen? ⟨g, i, none⟩ = false := by simpa using (h i hi).2
theorem Cl.below {w w' : World} {g n B : Nat} {f : Nat → Int} (h : Cl w g 0 n f) (hb : Below B w w') (hB : g < B) : Cl w' g 0 n f := fun i hi => ⟨(hb.cell (by exact hB)).trans (h i hi).1, (hb.frozen (by exact hB)).trans (h i hi).2⟩

theorem clamp_if (n : Int) : (if 0 < if 255 < n then 255 else n then if 255 < n then 255 else n else 0) = clampV n 255 := by unfold clampV; (repeat' split) <;> omega

theorem Cl.other {w : World} {g n : Nat} {f : Nat → Int} (h : Cl w g 0 n f) {a : Addr} (ha : a.block ≠ g) {v : Value} : Cl (w.setCell a v) g 0 n f := fun i hi => by
  rw [World.cell?_setCell_other _ _ _ _ (by intro e; subst e; exact ha rfl), World.frozen?_setCell]; exact h i hi
theorem Cl.alloc {w : World} {g n : Nat} {f : Nat → Int} (h : Cl w g 0 n f) (hg : g < w.heap.size) (o : Obj) : Cl (w.alloc o) g 0 n f := fun i hi => by
  rw [cell_old _ _ (by exact hg), World.frozen?_alloc_old _ _ _ (by simp; omega)]; exact h i hi

theorem write_any (W H x y : Int) (b o n cap B : Nat) (f t : Nat → Int) (w : World) (hx : 0 ≤ x) (hx2 : x ≤ 4096) (hw : 0 ≤ y * W) (hw2 : y * W ≤ 67108864) (ho : 4 * (y * W + x) = o) (hon : o + 4 ≤ n) (hn : n ≤ 9223372036854775807)
    (hc : Cl w b 0 n f) (hB : B ≤ b) :
    Calls Try.prog 49 #[.agg #[.int .i64 W, .int .i64 H, .slice (some ⟨b, 0, none⟩) n cap], .int .i64 x, .int .i64 y, tx t] w fun e w' => e = .returned (.tuple #[]) ∧ Below B w w' ∧ Cl w' b 0 n (updK f o t 4) := by
  have w1 : wrap64 (y * W) = y * W := by exact wrap_in (by omega)
  have w2 : wrap64 (y * W + x) = y * W + x := by exact wrap_in (by omega)
  have w3 : wrap64 (4 * (y * W + x)) = (o : Int) := by rw [← ho]; exact wrap_in (by omega)
  have hbl : b < w.heap.size := World.block_lt_of_cell? w _ (hc o (by omega)).1
  have HC := hide hc
  have ho2 : (o : Int) ≤ 268500000 := by omega
  clear hc ho hw hw2 hx hx2
  unfold tx
  go_enter Try.func49, Try.ntmps49
  go_wp2_with fail
  go_loopw [11] (fun i wr => ∃ k : Nat, k ≤ 4 ∧ i = .int .i64 k ∧ Cl wr b 0 n (updK f o t k) ∧ wr.cell? ⟨w.heap.size, 0, none⟩ = some (.int .i64 W) ∧ wr.cell? ⟨w.heap.size, 2, none⟩ = some (.slice (some ⟨b, 0, none⟩) n cap) ∧ Below B w wr) (fun i _ => 4 - (intOf i).toNat)
  case atStart =>
    have hb0 : Below w.heap.size w ((w.alloc (.cells #[.int .i64 W, .int .i64 H, .slice (some ⟨b, 0, none⟩) n cap] 24)).alloc (.cells #[.int .i64 (t 0), .int .i64 (t 1), .int .i64 (t 2), .int .i64 (t 3)] 38)) := by (repeat' (first | exact Below.refl _ _ | assumption | refine Below.setCell ?_ (by simp <;> omega) _ | refine Below.alloc ?_ (by simp <;> omega) _))
    refine ⟨0, by omega, rfl, (HC.out.below hb0 hbl).congr fun i hi => ?_, ?_, ?_, hb0.mono (by omega)⟩
    · unfold updK; rw [if_neg (by omega)]
    · rw [cell_old _ _ (by simp), cell_new]; rfl
    · rw [cell_old _ _ (by simp), cell_new]; rfl
  case round =>
    obtain ⟨k, hk, rfl, hcl, hc0, hc2, hbw⟩ := hrel
    have HCL := hide hcl
    by_cases hlt : k < 4
    · have d1 := hcl.at (show o + k < n by omega)
      have d2 := hcl.fr (show o + k < n by omega)
      have ix := index_tx t k hlt
      clear hcl
      go_wp2_with fail
      go_roundw
      case rel =>
        refine ⟨k + 1, by omega, by go_num, HCL.out.next (clamp_if _), ?_, ?_, hbw.setCell (by exact hB) _⟩
        · rw [World.cell?_setCell_other _ _ _ _ (by intro h; injection h; omega), hc0]
        · rw [World.cell?_setCell_other _ _ _ _ (by intro h; injection h; omega), hc2]
      case measure => simp [intOf]; omega
    · obtain rfl : k = 4 := by omega
      clear hcl
      go_wp2_with fail
      go_end0
      exact ⟨rfl, hbw, HCL.out⟩

theorem Try.info5 : (Try.prog.info? 5).map (fun i => (i.zero, i.size, i.bytes)) = some (some (.int .u8 0), 1, 1) := by kernel_rfl
section
variable {w w1 : World} {cs cs' : Array Value} {t t' : TypeId}
theorem frozen_new (w : World) (cs : Array Value) (t : TypeId) (j : Nat) : (w.alloc (.cells cs t)).frozen? ⟨w.heap.size, j, none⟩ = false := by
  rw [frozen_of_row _ _ j _ _ (heap_alloc_new w _)]
theorem two_a (hb : Below ((w.alloc (.cells cs t)).alloc (.cells cs' t')).heap.size ((w.alloc (.cells cs t)).alloc (.cells cs' t')) w1) (j : Nat) : w1.cell? ⟨w.heap.size, j, none⟩ = cs[j]? := by
  rw [hb.cell (by simp; omega), cell_old _ _ (by simp), cell_new]
theorem two_b (hb : Below ((w.alloc (.cells cs t)).alloc (.cells cs' t')).heap.size ((w.alloc (.cells cs t)).alloc (.cells cs' t')) w1) (j : Nat) : w1.cell? ⟨w.heap.size + 1, j, none⟩ = cs'[j]? := by
  rw [hb.cell (by simp)]
  have := cell_new (w.alloc (.cells cs t)) cs' t' j
  rw [World.size_alloc] at this
  exact this
theorem two_af (hb : Below ((w.alloc (.cells cs t)).alloc (.cells cs' t')).heap.size ((w.alloc (.cells cs t)).alloc (.cells cs' t')) w1) (j : Nat) : w1.frozen? ⟨w.heap.size, j, none⟩ = false := by
  rw [hb.frozen (by simp; omega), World.frozen?_alloc_old _ _ _ (by simp), frozen_new]
theorem two_bf (hb : Below ((w.alloc (.cells cs t)).alloc (.cells cs' t')).heap.size ((w.alloc (.cells cs t)).alloc (.cells cs' t')) w1) (j : Nat) : w1.frozen? ⟨w.heap.size + 1, j, none⟩ = false := by
  rw [hb.frozen (by simp)]
  have := frozen_new (w.alloc (.cells cs t)) cs' t' j
  rw [World.size_alloc] at this
  exact this
end

theorem eqnil22 : ∀ (w : World) (a : Option Addr) (n c n' c' : Nat), (binOp .eql 22 (.slice a n c) (.slice none n' c')).run Try.prog w = .ok (.bool a.isNone) w := fun w a n c n' c' => Lib.run_eql_slice_nil w _ _ a n c n' c' Try.underlying22
theorem clone_some {n : Nat} {f : Nat → Int} {a : Addr} {cap : Nat} {w : World} (h0 : 0 < n) (hn : n ≤ 67108864) (hc : ∃ b off, a = ⟨b, off, none⟩ ∧ ∀ i, i < n → w.cell? ⟨b, off + i, none⟩ = some (.int .u8 (f i))) :
    Calls Try.prog 59 #[.slice (some a) n cap] w fun e w' => ∃ g cap', e = .returned (.slice (some ⟨g, 0, none⟩) n cap') ∧ w.heap.size ≤ g ∧ Cl w' g 0 n f ∧ Below w.heap.size w w' := by
  obtain ⟨i0, hi0, hz0, hz1, hz2⟩ := info_parts Try.info5
  have q22 := eqnil22
  have HC := hide hc
  clear hc
  obtain ⟨cs, hcs⟩ : ∃ cs : List Value, cs = (List.range n).map (fun i => Value.int .u8 (f i)) := ⟨_, rfl⟩
  have Hcs := hide hcs
  have hcl : cs.length = n * 1 := by rw [hcs]; simp
  clear hcs
  have Hcl := hide hcl
  clear hcl
  go_enter Try.func59, Try.ntmps59
  go_wp2_with (at_builtin; refine wpList_append_own _ rfl _ _ 22 rfl w.heap.size 5 i0 (.int .u8 0) 1 1 Try.underlying22 hi0 hz0 hz1 hz2 rfl (by decide) _ _ _ rfl (World.ownsRow_made w #[] 0 (Nat.le_refl _) (by decide) rfl) a n cap cs rfl Hcl.out ?c1 ?c2 ?c3 ?c4 ?c5 ?_)
  case c1 =>
    intro j v hj
    rw [Hcs.out] at hj
    obtain ⟨b, off, rfl, hcc⟩ := HC.out
    rw [Addr.add_lit]
    exact cells_bytes hcc ((Below.refl _ _).alloc (Nat.le_refl _) _) hj
  case c2 => rw [Hcs.out]; intro v hv; obtain ⟨_, _, rfl⟩ := List.mem_map.1 hv; rfl
  case c3 => unfold maxLen; omega
  case c4 => omega
  case c5 => simp
  intro v' w1 hown hgrow hnil
  have hb1 : Below w.heap.size w w1 := (((Below.refl _ _).alloc (Nat.le_refl _) _).grown hgrow (by simp) (fun k e => by simp [Value.ownBlock] at e; omega))
  obtain ⟨g, cap', rfl, hbg, hcl⟩ := own_cl (n := n) (f := f) (by simpa using hown) h0 (fun i hi => by
        rw [Hcs.out, List.getElem?_map, List.getElem?_range hi]; rfl)
  have HR := hide hcl
  clear hown hgrow hnil hcl
  go_wp2
  go_ret
  exact ⟨_, _, rfl, hbg, HR.out, hb1⟩

theorem copied_any (W H : Int) {n : Nat} {f : Nat → Int} {a : Addr} {cap : Nat} {w : World} (h0 : 0 < n) (hn : n ≤ 67108864) (hc : ∃ b off, a = ⟨b, off, none⟩ ∧ ∀ i, i < n → w.cell? ⟨b, off + i, none⟩ = some (.int .u8 (f i))) :
    Calls Try.prog 48 #[.agg #[.int .i64 W, .int .i64 H, .slice (some a) n cap]] w fun e w' => ∃ g cap', e = .returned (.agg #[.int .i64 W, .int .i64 H, .slice (some ⟨g, 0, none⟩) n cap']) ∧ w.heap.size ≤ g ∧ Cl w' g 0 n f ∧ Below w.heap.size w w' := by
  have HC := hide hc
  clear hc
  go_enter Try.func48, Try.ntmps48
  go_wp2_with fail
  refine (clone_some (f := f) h0 hn ?c).mono ?_
  case c =>
    obtain ⟨b, off, rfl, hcc⟩ := HC.out
    refine ⟨b, off, rfl, fun i hi => ?_⟩
    have hbl := World.block_lt_of_cell? w _ (hcc i hi)
    rw [cell_old _ _ (by simp at hbl ⊢; omega), cell_old _ _ hbl]
    exact hcc i hi
  rintro e w1 ⟨g, cap', rfl, hg, hcl, hb⟩
  have HR := hide hcl
  have k0 := two_a hb 0
  have k1 := two_a hb 1
  have k2 := two_a hb 2
  have kf := two_af hb 2
  have l0 := two_b hb 0
  have l1 := two_b hb 1
  have l2 := two_b hb 2
  have lf0 := two_bf hb 0
  have lf1 := two_bf hb 1
  have lf2 := two_bf hb 2
  simp at k0 k1 k2 l0 l1 l2 hg
  have HB := hide hb
  clear hcl hb
  go_wp2_with fail
  refine bodyPost_ret (v := .agg #[.int .i64 W, .int .i64 H, .slice (some ⟨g, 0, none⟩) n cap']) (by simp [results, Try.results48, go_sem, World.cell?_setCell_same', l0, l1, l2]) rfl ⟨g, cap', rfl, by omega, ?_, ?_⟩
  · exact (((HR.out.other (by simp; omega)).other (by simp; omega)).other (by simp; omega)).other (by simp; omega)
  · have hbw : Below w.heap.size w w1 := Below.trans (by (repeat' (first | exact Below.refl _ _ | assumption | refine Below.setCell ?_ (by simp <;> omega) _ | refine Below.alloc ?_ (by simp <;> omega) _))) (HB.out.mono (by simp; omega))
    (repeat' (first | exact Below.refl _ _ | assumption | refine Below.setCell ?_ (by simp <;> omega) _ | refine Below.alloc ?_ (by simp <;> omega) _))

/-- a block of cells, not frozen -/
def Box (w : World) (b : Nat) (cs : Array Value) : Prop := ∀ j v, cs[j]? = some v → w.cell? ⟨b, j, none⟩ = some v ∧ w.frozen? ⟨b, j, none⟩ = false
theorem Box.mk' {w : World} {b : Nat} {cs : Array Value} {t : TypeId} (hb : b = w.heap.size) : Box (w.alloc (.cells cs t)) b cs := by
  subst hb; intro j v h; exact ⟨(cell_new w cs t j).trans h, frozen_new w cs t j⟩
theorem Box.old {w : World} {b : Nat} {cs : Array Value} {o : Obj} (h : Box w b cs) (hb : b < w.heap.size) : Box (w.alloc o) b cs := fun j v hv =>
  ⟨(cell_old _ _ (by exact hb)).trans (h j v hv).1, (World.frozen?_alloc_old _ _ _ (by simp; omega)).trans (h j v hv).2⟩
theorem Box.below {w w' : World} {b B : Nat} {cs : Array Value} (h : Box w b cs) (hb : Below B w w') (hB : b < B) : Box w' b cs := fun j v hv =>
  ⟨(hb.cell (by exact hB)).trans (h j v hv).1, (hb.frozen (by exact hB)).trans (h j v hv).2⟩
theorem Box.c3 {w : World} {b : Nat} {x y z : Value} (h : Box w b #[x, y, z]) :
    (w.cell? ⟨b, 0, none⟩ = some x ∧ w.cell? ⟨b, 1, none⟩ = some y ∧ w.cell? ⟨b, 2, none⟩ = some z) ∧ w.frozen? ⟨b, 0, none⟩ = false ∧ w.frozen? ⟨b, 1, none⟩ = false ∧ w.frozen? ⟨b, 2, none⟩ = false :=
  ⟨⟨(h 0 x rfl).1, (h 1 y rfl).1, (h 2 z rfl).1⟩, (h 0 x rfl).2, (h 1 y rfl).2, (h 2 z rfl).2⟩
theorem Box.c4 {w : World} {b : Nat} {x y z u : Value} (h : Box w b #[x, y, z, u]) :
    (w.cell? ⟨b, 0, none⟩ = some x ∧ w.cell? ⟨b, 1, none⟩ = some y ∧ w.cell? ⟨b, 2, none⟩ = some z ∧ w.cell? ⟨b, 3, none⟩ = some u) ∧ w.frozen? ⟨b, 0, none⟩ = false ∧ w.frozen? ⟨b, 1, none⟩ = false ∧ w.frozen? ⟨b, 2, none⟩ = false ∧ w.frozen? ⟨b, 3, none⟩ = false :=
  ⟨⟨(h 0 x rfl).1, (h 1 y rfl).1, (h 2 z rfl).1, (h 3 u rfl).1⟩, (h 0 x rfl).2, (h 1 y rfl).2, (h 2 z rfl).2, (h 3 u rfl).2⟩
def z4 : Array Value := #[.int .i64 0, .int .i64 0, .int .i64 0, .int .i64 0]

/-- an image -/
def Im (w : World) (v : Value) (W H : Int) (n : Nat) (f : Nat → Int) : Prop :=
  ∃ ao cap, v = .agg #[.int .i64 W, .int .i64 H, .slice ao n cap] ∧ Rd w (.slice ao n cap) n f ∧ (-9223372036854775808 ≤ W ∧ W ≤ 9223372036854775807) ∧ (-9223372036854775808 ≤ H ∧ H ≤ 9223372036854775807)

theorem place_ok {W H x y : Int} {n : Nat} (hr : rightV W H n = true) (hi : inV x y W H = true) :
    0 ≤ x ∧ x ≤ 4096 ∧ 0 ≤ y * W ∧ y * W ≤ 67108864 ∧ 0 ≤ 4 * (y * W + x) ∧ 4 * (y * W + x) + 4 ≤ n ∧ 0 < n ∧ n ≤ 67108864 := by
  unfold rightV at hr
  unfold inV at hi
  simp at hr hi
  obtain ⟨h, hn⟩ := hr
  have ha := area_bd h
  obtain ⟨g1, g2, g3, g4⟩ := h
  obtain ⟨i1, i2, i3, i4⟩ := hi
  have a1 : 0 ≤ y * W := Int.mul_nonneg (by omega) (by omega)
  have a2 : (y + 1) * W ≤ H * W := Int.mul_le_mul_of_nonneg_right (by omega) (by omega)
  have a3 : 4 * W * H = 4 * (H * W) := by rw [Int.mul_assoc, Int.mul_comm W H]
  rw [Int.add_mul, Int.one_mul] at a2
  omega

def atV (W H x y : Int) (n : Nat) (f : Nat → Int) : Array Value × Int :=
  if rightV W H n = true ∧ inV x y W H = true then (texV f (4 * (y * W + x)).toNat, 0) else (#[.int .i64 0, .int .i64 0, .int .i64 0, .int .i64 0], 1)

theorem at_any {W H : Int} (x y : Int) {n : Nat} {f : Nat → Int} {v : Value} {w : World} (hv : Im w v W H n f) :
    Calls Try.prog 22 #[v, .int .i64 x, .int .i64 y] w fun e w' => e = .returned (.tuple #[.agg (atV W H x y n f).1, .int .i64 (atV W H x y n f).2]) ∧ Below w.heap.size w w' := by
  obtain ⟨ao, cap, rfl, hrd, hW, hH⟩ := hv
  obtain ⟨_, _, e, hn, hf, hc⟩ := hrd
  injection e with e1 e2 e3
  subst e1 e3
  by_cases hr : rightV W H n = true
  · have HR := hide hr
    by_cases hi : inV x y W H = true
    · obtain ⟨p1, p2, p3, p4, p5, p6, p7, p8⟩ := place_ok hr hi
      obtain ⟨o, ho⟩ : ∃ o : Nat, 4 * (y * W + x) = o := ⟨(4 * (y * W + x)).toNat, by omega⟩
      have e : atV W H x y n f = (texV f o, 0) := by unfold atV; rw [if_pos ⟨hr, hi⟩, ho]; rfl
      rw [e]
      obtain ⟨b, off, rfl, hcc⟩ := hc p7
      have HI := hide hi
      have HC := hide hcc
      have HF := hide hf
      clear hr hi hc hf hcc e
      go_enter Try.func22, Try.ntmps22
      go_wp2_with fail
      refine (right_any _ _ _ _ _ _).mono ?_
      rintro e w1 ⟨rfl, hb⟩
      rw [HR.out]
      obtain ⟨⟨k0, k1, k2⟩, kf0, kf1, kf2⟩ := (Box.below (b := w.heap.size) (cs := #[.int .i64 W, .int .i64 H, .slice (some ⟨b, off, none⟩) n cap]) (by (repeat' (first | exact Box.mk' (by simp) | refine Box.old ?_ (by simp <;> omega)))) hb (by simp; omega)).c3
      have BR := hide (Box.below (b := w.heap.size + 1) (cs := #[.int .i64 0, .int .i64 0, .int .i64 0, .int .i64 0]) (by (repeat' (first | exact Box.mk' (by simp) | refine Box.old ?_ (by simp <;> omega)))) hb (by simp))
      obtain ⟨⟨l0, l1, l2, l3⟩, lf0, lf1, lf2, lf3⟩ := BR.out.c4
      have hb1 : Below w.heap.size w w1 := Below.trans (by (repeat' (first | exact Below.refl _ _ | assumption | refine Below.setCell ?_ (by simp <;> omega) _ | refine Below.alloc ?_ (by simp <;> omega) _))) (hb.mono (by simp; omega))
      have hs1 : w.heap.size + 2 ≤ w1.heap.size := by have := hb.size; simp at this; omega
      have HB1 := hide hb1
      clear hb hb1
      go_wp2_with (go_at_call 46; refine (in_any _ _ _ _ _).mono ?_; rintro e w' ⟨rfl, rfl⟩; rw [HI.out])
      refine (read_any W H x y b off o n cap f w1 p1 p2 p3 p4 ho (by omega) hn HF.out (fun i hi => (HB1.out.cell (World.block_lt_of_cell? w _ (HC.out i hi))).trans (HC.out i hi))).mono ?_
      rintro e w2 ⟨rfl, hb2⟩
      clear l0 l1 l2 l3 lf0 lf1 lf2 lf3 k0 k1 k2 kf0 kf1 kf2
      obtain ⟨⟨l0, l1, l2, l3⟩, lf0, lf1, lf2, lf3⟩ := (BR.out.below hb2 (by omega)).c4
      have HB2 := hide (HB1.out.trans (hb2.mono (by omega)))
      clear hb2
      unfold texV
      go_wp2_with fail
      refine bodyPost_ret (v := .tuple #[.agg #[.int .i64 (f o), .int .i64 (f (o + 1)), .int .i64 (f (o + 2)), .int .i64 (f (o + 3))], .int .i64 0]) (by simp [results, Try.results22, go_sem, World.cell?_setCell_same', l0, l1, l2, l3]) rfl ⟨rfl, ?_⟩
      have hbw := HB2.out
      (repeat' (first | exact Below.refl _ _ | assumption | refine Below.setCell ?_ (by simp <;> omega) _ | refine Below.alloc ?_ (by simp <;> omega) _))
    · have e : atV W H x y n f = (z4, 1) := by unfold atV; rw [if_neg (fun h => hi h.2)]; rfl
      have hi' : inV x y W H = false := by simpa using hi
      rw [e]
      unfold z4
      have HI := hide hi'
      clear hr hi hi' hc hf e
      go_enter Try.func22, Try.ntmps22
      go_wp2_with fail
      refine (right_any _ _ _ _ _ _).mono ?_
      rintro e w1 ⟨rfl, hb⟩
      rw [HR.out]
      obtain ⟨⟨k0, k1, k2⟩, kf0, kf1, kf2⟩ := (Box.below (b := w.heap.size) (cs := #[.int .i64 W, .int .i64 H, .slice (ao) n cap]) (by (repeat' (first | exact Box.mk' (by simp) | refine Box.old ?_ (by simp <;> omega)))) hb (by simp; omega)).c3
      have BR := hide (Box.below (b := w.heap.size + 1) (cs := #[.int .i64 0, .int .i64 0, .int .i64 0, .int .i64 0]) (by (repeat' (first | exact Box.mk' (by simp) | refine Box.old ?_ (by simp <;> omega)))) hb (by simp))
      obtain ⟨⟨l0, l1, l2, l3⟩, lf0, lf1, lf2, lf3⟩ := BR.out.c4
      have hb1 : Below w.heap.size w w1 := Below.trans (by (repeat' (first | exact Below.refl _ _ | assumption | refine Below.setCell ?_ (by simp <;> omega) _ | refine Below.alloc ?_ (by simp <;> omega) _))) (hb.mono (by simp; omega))
      have hs1 : w.heap.size + 2 ≤ w1.heap.size := by have := hb.size; simp at this; omega
      have HB1 := hide hb1
      clear hb hb1
      go_wp2_with (go_at_call 46; refine (in_any _ _ _ _ _).mono ?_; rintro e w' ⟨rfl, rfl⟩; rw [HI.out])
      refine bodyPost_ret (v := .tuple #[.agg #[.int .i64 0, .int .i64 0, .int .i64 0, .int .i64 0], .int .i64 1]) (by simp [results, Try.results22, go_sem, World.cell?_setCell_same', l0, l1, l2, l3]) rfl ⟨rfl, ?_⟩
      have hbw := HB1.out
      (repeat' (first | exact Below.refl _ _ | assumption | refine Below.setCell ?_ (by simp <;> omega) _ | refine Below.alloc ?_ (by simp <;> omega) _))
  · have e : atV W H x y n f = (z4, 1) := by unfold atV; rw [if_neg (fun h => hr h.1)]; rfl
    have hr' : rightV W H n = false := by simpa using hr
    rw [e]
    unfold z4
    have HR := hide hr'
    clear hr hr' hc hf e
    go_enter Try.func22, Try.ntmps22
    go_wp2_with fail
    refine (right_any _ _ _ _ _ _).mono ?_
    rintro e w1 ⟨rfl, hb⟩
    rw [HR.out]
    obtain ⟨⟨k0, k1, k2⟩, kf0, kf1, kf2⟩ := (Box.below (b := w.heap.size) (cs := #[.int .i64 W, .int .i64 H, .slice (ao) n cap]) (by (repeat' (first | exact Box.mk' (by simp) | refine Box.old ?_ (by simp <;> omega)))) hb (by simp; omega)).c3
    have BR := hide (Box.below (b := w.heap.size + 1) (cs := #[.int .i64 0, .int .i64 0, .int .i64 0, .int .i64 0]) (by (repeat' (first | exact Box.mk' (by simp) | refine Box.old ?_ (by simp <;> omega)))) hb (by simp))
    obtain ⟨⟨l0, l1, l2, l3⟩, lf0, lf1, lf2, lf3⟩ := BR.out.c4
    have hb1 : Below w.heap.size w w1 := Below.trans (by (repeat' (first | exact Below.refl _ _ | assumption | refine Below.setCell ?_ (by simp <;> omega) _ | refine Below.alloc ?_ (by simp <;> omega) _))) (hb.mono (by simp; omega))
    have hs1 : w.heap.size + 2 ≤ w1.heap.size := by have := hb.size; simp at this; omega
    have HB1 := hide hb1
    clear hb hb1

    go_wp2_with fail
    refine bodyPost_ret (v := .tuple #[.agg #[.int .i64 0, .int .i64 0, .int .i64 0, .int .i64 0], .int .i64 1]) (by simp [results, Try.results22, go_sem, World.cell?_setCell_same', l0, l1, l2, l3]) rfl ⟨rfl, ?_⟩
    have hbw := HB1.out
    (repeat' (first | exact Below.refl _ _ | assumption | refine Below.setCell ?_ (by simp <;> omega) _ | refine Below.alloc ?_ (by simp <;> omega) _))
end Go.Proofs.Ytmckfppemhnhmaa
