import Derived.Test.YtpkclnkibhgpkaaGreatRows
import Derived.WalkKit
import Derived.ProofKit
import Derived.OpenShut
import Derived.Deep.QuietTactic
import Derived.BigQuiet
import Derived.WalkSpells
import Derived.Laws.BitsAllLaws
import Derived.Laws.BitsLemmas
import Derived.Laws.IdiomCopy
import Derived.Laws.CopyOwn
import Derived.Laws.AppendOwnNone
import Derived.Maps.RangeWalk
namespace Go.Proofs.YtpkclnkibhgpkaaGreat
open Go.RowKit

theorem hide {p : Prop} (h : p) : Hid p := h
theorem ret2 {k l : IntKind} {a b c d : Int} (h : (a, b) = (c, d)) : Ending.returned (.tuple #[.int k a, .int l b]) = Ending.returned (.tuple #[.int k c, .int l d]) := by
  cases h; rfl
theorem ret1b {a b : Bool} (h : a = b) : Ending.returned (.bool a) = Ending.returned (.bool b) := by rw [h]
theorem ret1 {k : IntKind} {a b : Int} (h : a = b) : Ending.returned (.int k a) = Ending.returned (.int k b) := by rw [h]

def Dr (w w' : World) : Prop := ∃ q, w' = w.drewN q
theorem Dr.refl (w : World) : Dr w w := ⟨0, rfl⟩
theorem Dr.drewN {w w' : World} (h : Dr w w') (n : Nat) : Dr w (w'.drewN n) := by obtain ⟨q, rfl⟩ := h; exact ⟨q + n, by simp⟩
theorem Dr.drew {w w' : World} (h : Dr w w') : Dr w w'.drew := h.drewN 1
theorem Dr.trans {a b c : World} (h : Dr a b) (k : Dr b c) : Dr a c := by obtain ⟨q, rfl⟩ := k; exact h.drewN q
theorem Dr.cell {w w' : World} (h : Dr w w') (a : Addr) : w'.cell? a = w.cell? a := by obtain ⟨q, rfl⟩ := h; rfl
theorem Dr.below {w w' : World} (h : Dr w w') (B : Nat) : Below B w w' := by obtain ⟨q, rfl⟩ := h; exact ⟨rfl, rfl, rfl, Nat.le_refl _, fun _ _ => rfl⟩
theorem Dr.heap {w w' : World} (h : Dr w w') : w'.heap = w.heap := by obtain ⟨q, rfl⟩ := h; rfl

theorem mul_bd {x y X Y : Int} (h1 : -X ≤ x) (h2 : x ≤ X) (h3 : -Y ≤ y) (h4 : y ≤ Y) : -(X * Y) ≤ x * y ∧ x * y ≤ X * Y := by
  have a := Int.mul_nonneg (show 0 ≤ X - x by omega) (show 0 ≤ Y - y by omega)
  have b := Int.mul_nonneg (show 0 ≤ X + x by omega) (show 0 ≤ Y + y by omega)
  have c := Int.mul_nonneg (show 0 ≤ X - x by omega) (show 0 ≤ Y + y by omega)
  have d := Int.mul_nonneg (show 0 ≤ X + x by omega) (show 0 ≤ Y - y by omega)
  rw [Int.sub_mul, Int.mul_sub, Int.mul_sub] at a
  rw [Int.add_mul, Int.mul_add, Int.mul_add] at b
  rw [Int.sub_mul, Int.mul_add, Int.mul_add] at c
  rw [Int.add_mul, Int.mul_sub, Int.mul_sub] at d
  omega

theorem cell_new (w : World) (cs : Array Value) (t : TypeId) (j : Nat) : (w.alloc (.cells cs t)).cell? ⟨w.heap.size, j, none⟩ = cs[j]? := by
  rw [cell_of_row _ _ j _ _ _ (heap_alloc_new w _)]
theorem cell_old (w : World) (o : Obj) {a : Addr} (h : a.block < w.heap.size) : (w.alloc o).cell? a = w.cell? a :=
  ((Below.refl w.heap.size w).alloc (Nat.le_refl _) o).cell h

theorem hmf (fn : Fn) (first cap : Array Value) (w : World) : (Instr.makeFunc fn first cap).run Tryz.prog w = .ok (.func fn first cap) w := rfl

/-- an operation whose run is known -/
theorem wpList_run {P : Program} {ops : Array Oper} {rest : List Oper} {o : Oper} {a : Act} {w w' : World} {Q : Exit → Act → World → Prop} (hw : Region.wanted o (yielded ops a.tmps) = true) {v : Value}
    (hr : (execOp a.eval o).run P w = .ok (.value v) w') (h : wpList P ops Q rest (a.put o.dst v) w') : wpList P ops Q (o :: rest) a w :=
  BigFrame.wpList_want hw fun K hK => by unfold Oper.wp; rw [hr]; exact hK _ _ h
theorem wpList_runSkip {P : Program} {ops : Array Oper} {rest : List Oper} {o : Oper} {a : Act} {w w' : World} {Q : Exit → Act → World → Prop} (hw : Region.wanted o (yielded ops a.tmps) = true)
    (hr : (execOp a.eval o).run P w = .ok .skip w') (h : wpList P ops Q rest (a.put o.dst undef) w') : wpList P ops Q (o :: rest) a w :=
  BigFrame.wpList_want hw fun K hK => by unfold Oper.wp; rw [hr]; exact hK _ _ h
theorem quiet_run {P : Program} {o : Oper} {a : Act} {C : World → Prop} {K : Act → Prop} {v : Value} (hr : ∀ w, C w → (execOp a.eval o).run P w = .ok (.value v) w) (h : K (a.put o.dst v)) : o.quiet P a C K :=
  ⟨v, fun w hw => by unfold Oper.quietAt; rw [hr w hw]; exact ⟨rfl, rfl⟩, h⟩

/-- a type of several cells -/
structure AggT (P : Program) (ty : TypeId) (n : Nat) (z : Array Value) : Prop where
  agg : ∃ d, P.underlying ty = some d ∧ (match d with | .struct _ | .array _ _ => true | _ => false) = true
  size : (P.info? ty).map (·.size) = some n
  zero : ∀ w, (zeroValue ty).run P w = .ok (.agg z) w
  zsize : z.size = n
  build : ∀ w, (Instr.build ty #[]).run P w = .ok (.agg z) w

theorem run_loadVar_cells {P : Program} {ty : TypeId} {n : Nat} {z : Array Value} (T : AggT P ty n z) (w : World) (ad : Addr) (cs : Array Value) (hn : cs.size = n) (hc : ∀ j v, cs[j]? = some v → w.cell? (ad.add j) = some v) :
    (loadVar ty ad).run P w = .ok (.agg cs) w := by
  have hl : (loadCells ad cs.toList.length).run P w = .ok cs.toList.toArray w :=
    run_loadCells_list (P := P) w ad cs.toList (fun j v hv => hc j v (by simpa using hv))
  obtain ⟨d, hu, hd⟩ := T.agg
  have hi := T.size
  cases hq : P.info? ty with
  | none => simp [hq] at hi
  | some i =>
    have hs : i.size = cs.size := by rw [hn]; simpa [hq] using hi
    have hagg : (isAgg ty).run P w = .ok true w := by
      unfold isAgg
      rw [Sem.run_bind, run_underlying hu w]
      cases d <;> simp_all
    simp only [Array.length_toList, Array.toArray_toList] at hl
    simp [loadVar, Sem.run_bind, hagg, sizeOf, typeInfo, hq, hs, hl]

theorem exec_load {P : Program} {ty : TypeId} {n : Nat} {z : Array Value} (T : AggT P ty n z) {o : Oper} {a : Act} {w : World} (x : Operand) (ho : o.op = .load ty x) (ad : Addr) (hx : a.eval x = .pointer (some ad))
    (cs : Array Value) (hn : cs.size = n) (hc : ∀ j v, cs[j]? = some v → w.cell? (ad.add j) = some v) : (execOp a.eval o).run P w = .ok (.value (.agg cs)) w := by
  unfold execOp
  simp only [ho, hx, Instr.loadAt, Instr.sureAddr, Sem.run_bind, Sem.run_pure, Result.andThen_ok, run_loadVar_cells T w ad cs hn hc]

theorem exec_alloc {P : Program} {ty : TypeId} {n : Nat} {z : Array Value} (T : AggT P ty n z) {o : Oper} {a : Act} {w : World} (ho : o.op = .alloc ty) :
    (execOp a.eval o).run P w = .ok (.value (.pointer (some ⟨w.heap.size, 0, none⟩))) (w.alloc (.cells z ty)) := by
  unfold execOp
  simp only [ho]
  unfold Instr.alloc
  simp only [Sem.run_bind, T.zero, Result.andThen_ok]
  rfl

theorem exec_build {P : Program} {ty : TypeId} {n : Nat} {z : Array Value} (T : AggT P ty n z) {o : Oper} {a : Act} {w : World} (ho : o.op = .build ty #[]) :
    (execOp a.eval o).run P w = .ok (.value (.agg z)) w := by
  unfold execOp
  simp only [ho, Sem.run_bind]
  have e : (Array.map (fun x : Nat × Operand => (x.fst, a.eval x.snd)) #[]) = #[] := by simp
  rw [e, T.build]
  rfl

/-- cells cs laid at ⟨b, off⟩, all else as it was -/
structure SetAt (w : World) (b off : Nat) (cs : Array Value) (w' : World) : Prop where
  os : w'.os = w.os
  tape : w'.tape = w.tape
  output : w'.output = w.output
  size : w'.heap.size = w.heap.size
  block : ∀ k, k ≠ b → w'.heap[k]? = w.heap[k]?
  frozen : ∀ x, w'.frozen? x = w.frozen? x
  inn : ∀ j, j < cs.size → w'.cell? ⟨b, off + j, none⟩ = cs[j]?
  out : ∀ x : Addr, (x.block = b → x.spot = none → x.off < off ∨ off + cs.size ≤ x.off) → w'.cell? x = w.cell? x
theorem SetAt.below {w w' : World} {b off B : Nat} {cs : Array Value} (h : SetAt w b off cs w') (hB : B ≤ b) : Below B w w' :=
  ⟨h.os, h.tape, h.output, by rw [h.size]; exact Nat.le_refl _, fun k hk => h.block k (by omega)⟩

theorem setCells_facts (b : Nat) : ∀ (vs : List Value) (o : Nat) (w : World), (w.setCells b o vs).os = w.os ∧ (w.setCells b o vs).tape = w.tape ∧ (w.setCells b o vs).output = w.output ∧ (w.setCells b o vs).heap.size = w.heap.size ∧
    ∀ k, k ≠ b → (w.setCells b o vs).heap[k]? = w.heap[k]?
  | [], _, _ => ⟨rfl, rfl, rfl, rfl, fun _ _ => rfl⟩
  | v :: r, o, w => by
    obtain ⟨h1, h2, h3, h4, h5⟩ := setCells_facts b r (o + 1) (w.setCell ⟨b, o, none⟩ v)
    rw [World.setCells]
    refine ⟨h1, h2, h3, by rw [h4]; simp [World.setCell], fun k hk => ?_⟩
    rw [h5 k hk, Below.heap_setCell _ _ _ _ (by simpa using hk)]

theorem setAt_mk {w : World} {b off : Nat} {cs : Array Value} (hc : ∀ j, j < cs.size → (w.cell? ⟨b, off + j, none⟩).isSome = true) : SetAt w b off cs (w.setCells b off cs.toList) := by
  obtain ⟨h1, h2, h3, h4, h5⟩ := setCells_facts b cs.toList off w
  refine ⟨h1, h2, h3, h4, h5, World.frozen?_setCells b _ _ _, fun j hj => ?_, fun x hx => World.cell?_setCells_out b _ _ _ _ (by simpa using hx)⟩
  rw [World.cell?_setCells_in b cs.toList off w (by simpa using hc) j (by simpa using hj)]
  simp [hj]

theorem exec_store {P : Program} {ty : TypeId} {n : Nat} {z : Array Value} (T : AggT P ty n z) {o : Oper} {a : Act} {w : World} (x y : Operand) (ho : o.op = .store ty x y) (b off : Nat) (hx : a.eval x = .pointer (some ⟨b, off, none⟩))
    (cs : Array Value) (hy : a.eval y = .agg cs) (hn : cs.size = n) (hc : ∀ j, j < n → (w.cell? ⟨b, off + j, none⟩).isSome = true) (hf : ∀ j, j < n → w.frozen? ⟨b, off + j, none⟩ = false) (h1 : ∀ v ∈ cs.toList, v.oneCell' = true) :
    ∃ w', SetAt w b off cs w' ∧ (execOp a.eval o).run P w = .ok .skip w' := by
  subst hn
  refine ⟨_, setAt_mk hc, ?_⟩
  have hst := run_storeCells_cells (P := P) b off cs.toList 0 w (by simpa using hc) (by simpa using hf) h1
  have hi := T.size
  cases hq : P.info? ty with
  | none => simp [hq] at hi
  | some i =>
    have hs : i.size = cs.size := by simpa [hq] using hi
    unfold execOp
    simp only [Nat.add_zero] at hst
    simp [ho, hx, hy, Instr.storeAt, Instr.sureAddr, Sem.run_bind, storeVar, sizeOf, typeInfo, hq, hs, Value.cells, hst]

theorem wpList_store {P : Program} {ty : TypeId} {n : Nat} {z : Array Value} (T : AggT P ty n z) {ops : Array Oper} {rest : List Oper} {o : Oper} {a : Act} {w : World} {Q : Exit → Act → World → Prop} (hw : Region.wanted o (yielded ops a.tmps) = true)
    (x y : Operand) (ho : o.op = .store ty x y) (b off : Nat) (hx : a.eval x = .pointer (some ⟨b, off, none⟩))
    (cs : Array Value) (hy : a.eval y = .agg cs) (hn : cs.size = n) (hc : ∀ j, j < n → (w.cell? ⟨b, off + j, none⟩).isSome = true) (hf : ∀ j, j < n → w.frozen? ⟨b, off + j, none⟩ = false) (h1 : ∀ v ∈ cs.toList, v.oneCell' = true)
    (h : ∀ w', SetAt w b off cs w' → wpList P ops Q rest (a.put o.dst undef) w') : wpList P ops Q (o :: rest) a w := by
  obtain ⟨w', h1, h2⟩ := exec_store T x y ho b off hx cs hy hn hc hf h1
  exact wpList_runSkip hw h2 (h w' h1)

/-- n ints in block b, not frozen -/
def Bk (w : World) (b n : Nat) (f : Nat → Int) : Prop := ∀ i, i < n → w.cell? ⟨b, i, none⟩ = some (.int .i64 (f i)) ∧ w.frozen? ⟨b, i, none⟩ = false
theorem Bk.below {w w' : World} {b n B : Nat} {f : Nat → Int} (h : Bk w b n f) (hb : Below B w w') (hB : b < B) : Bk w' b n f := fun i hi => ⟨(hb.cell (by exact hB)).trans (h i hi).1, (hb.frozen (by exact hB)).trans (h i hi).2⟩
/-- a value of cells of ints -/
def Ag (cs : Array Value) (n : Nat) (f : Nat → Int) : Prop := cs.size = n ∧ ∀ i, i < n → cs[i]? = some (.int .i64 (f i))
theorem Ag.one {cs : Array Value} {n : Nat} {f : Nat → Int} (h : Ag cs n f) : ∀ v ∈ cs.toList, v.oneCell' = true := by
  intro v hv
  obtain ⟨i, hi, rfl⟩ := List.mem_iff_getElem.1 hv
  have := h.2 i (by rw [← h.1]; simpa using hi)
  simp at hi
  simp [hi] at this
  simp [this, Value.oneCell']
theorem Bk.new {cs : Array Value} {n : Nat} {f : Nat → Int} (h : Ag cs n f) (w : World) (t : TypeId) : Bk (w.alloc (.cells cs t)) w.heap.size n f := by
  intro i hi
  rw [cell_of_row _ _ i _ _ _ (heap_alloc_new w _), frozen_of_row _ _ i _ _ (heap_alloc_new w _)]
  exact ⟨h.2 i hi, rfl⟩
theorem Bk.set {w w' : World} {b n off m : Nat} {f g : Nat → Int} {cs : Array Value} (h : Bk w b n f) (hs : SetAt w b off cs w') (hg : Ag cs m g) : Bk w' b n (fun i => if off ≤ i ∧ i < off + m then g (i - off) else f i) := by
  intro i hi
  refine ⟨?_, (hs.frozen _).trans (h i hi).2⟩
  by_cases hin : off ≤ i ∧ i < off + m
  · have := hs.inn (i - off) (by rw [hg.1]; omega)
    rw [show off + (i - off) = i by omega] at this
    simp only [if_pos hin]
    rw [this]
    exact hg.2 _ (by omega)
  · simp only [if_neg hin]
    rw [hs.out ⟨b, i, none⟩ (fun _ _ => by rw [hg.1]; simp only []; omega)]
    exact (h i hi).1
theorem Bk.congr {w : World} {b n : Nat} {f g : Nat → Int} (h : Bk w b n f) (e : ∀ i, i < n → f i = g i) : Bk w b n g := fun i hi => by rw [← e i hi]; exact h i hi
theorem Bk.isSome {w : World} {b n off m : Nat} {f : Nat → Int} (h : Bk w b n f) (hm : off + m ≤ n) : ∀ j, j < m → (w.cell? ⟨b, off + j, none⟩).isSome = true := fun j hj => by rw [(h (off + j) (by omega)).1]; rfl
theorem Bk.free {w : World} {b n off m : Nat} {f : Nat → Int} (h : Bk w b n f) (hm : off + m ≤ n) : ∀ j, j < m → w.frozen? ⟨b, off + j, none⟩ = false := fun j hj => (h (off + j) (by omega)).2
/-- what a load of m cells hands back -/
def agOf (off m : Nat) (f : Nat → Int) : Array Value := Array.ofFn (n := m) fun i => Value.int .i64 (f (off + i.val))
theorem agOf_ag (off m : Nat) (f : Nat → Int) : Ag (agOf off m f) m (fun i => f (off + i)) := by
  refine ⟨by simp [agOf], fun i hi => by simp [agOf, hi]⟩
theorem Bk.load {w : World} {b n off m : Nat} {f : Nat → Int} (h : Bk w b n f) (hm : off + m ≤ n) : ∀ j v, (agOf off m f)[j]? = some v → w.cell? ((⟨b, off, none⟩ : Addr).add j) = some v := by
  intro j v hv
  by_cases hj : j < m
  · rw [(agOf_ag off m f).2 j hj] at hv
    rw [Addr.add_lit, (h (off + j) (by omega)).1]
    exact hv
  · rw [Array.getElem?_eq_none (by rw [(agOf_ag off m f).1]; omega)] at hv
    cases hv

/-- the worlds that are w0 below its size -/
def Wb (w0 : World) : Type := { w' : World // Below w0.heap.size w0 w' }
instance wbNonempty (w0 : World) : Nonempty (Wb w0) := ⟨⟨w0, Below.refl _ _⟩⟩
theorem Wb.cell {w0 : World} (n : Wb w0) {x : Addr} (h : x.block < w0.heap.size) : n.1.cell? x = w0.cell? x := n.2.cell h
theorem wp_region_below {P : Program} {id : Nat} {Q : Exit → Act → World → Prop} {a : Act} {w : World} {l : List Oper} (w0 : World) (hb : Below w0.heap.size w0 w) (hm : P.follows .mixedOrders = true) (hB : Region.lexB .any l.toArray = true)
    (h : wpQuiet P l.toArray (fun w' => ∃ n : Wb w0, w' = n.1) (fun a' => ∀ w', (∃ n : Wb w0, w' = n.1) → Q .normal a' w') l a) : (Code.region id l.toArray true).wp P Q a w :=
  wp_region_quiet (C := fun w' => ∃ n : Wb w0, w' = n.1) hm hB ⟨⟨{ w with drawn := w.drawn + 1 }, hb.drew⟩, rfl⟩ (by simpa using h)
theorem wpQuiet_load {P : Program} {ty : TypeId} {n : Nat} {z : Array Value} (T : AggT P ty n z) {ops : Array Oper} {rest : List Oper} {o : Oper} {a : Act} {w0 : World} {Q : Act → Prop} (hw : Region.wanted o (yielded ops a.tmps) = true)
    (x : Operand) (ho : o.op = .load ty x) (ad : Addr) (hx : a.eval x = .pointer (some ad)) (cs : Array Value) (hn : cs.size = n) (hc : ∀ n : Wb w0, ∀ j v, cs[j]? = some v → n.1.cell? (ad.add j) = some v)
    (h : wpQuiet P ops (fun w' => ∃ n : Wb w0, w' = n.1) Q rest (a.put o.dst (.agg cs))) : wpQuiet P ops (fun w' => ∃ n : Wb w0, w' = n.1) Q (o :: rest) a :=
  BigFrame.wpQuiet_want hw fun K hK => quiet_run (fun W hW => by obtain ⟨m, rfl⟩ := hW; exact exec_load T x ho ad hx cs hn (hc m)) (hK _ h)
theorem Calls.wb {P : Program} {f : FuncId} {args : Array Value} {w0 : World} {n : Wb w0} {v : Value} (h : Calls P f args n.1 fun e w' => e = .returned v ∧ Below n.1.heap.size n.1 w') :
    Calls P f args n.1 fun e w'' => e = .returned v ∧ ∃ m : Wb w0, w'' = m.1 :=
  h.mono fun _ w' ⟨he, hb⟩ => ⟨he, ⟨w', n.2.trans (hb.mono n.2.size)⟩, rfl⟩
theorem Calls.wb_same {P : Program} {f : FuncId} {args : Array Value} {w0 : World} {n : Wb w0} {v : Value} (h : Calls P f args n.1 fun e w' => e = .returned v ∧ n.1 = w') :
    Calls P f args n.1 fun e w'' => e = .returned v ∧ ∃ m : Wb w0, w'' = m.1 :=
  h.mono fun _ _ ⟨he, hb⟩ => ⟨he, n, hb.symm⟩
theorem Calls.wb_dr {P : Program} {f : FuncId} {args : Array Value} {w0 : World} {n : Wb w0} {v : Value} (h : Calls P f args n.1 fun e w' => e = .returned v ∧ Dr n.1 w') :
    Calls P f args n.1 fun e w'' => e = .returned v ∧ ∃ m : Wb w0, w'' = m.1 :=
  Calls.wb (h.mono fun _ _ ⟨he, hb⟩ => ⟨he, hb.below _⟩)
/-- n bytes f from place off of block g on, not frozen -/
def Cl (w : World) (g off n : Nat) (f : Nat → Int) : Prop := ∀ i, i < n → w.cell? ⟨g, off + i, none⟩ = some (.int .u8 (f i)) ∧ w.frozen? ⟨g, off + i, none⟩ = false

theorem Cl.set {w : World} {g off n : Nat} {f : Nat → Int} (h : Cl w g off n f) (j : Nat) (x : Int) : Cl (w.setCell ⟨g, off + j, none⟩ (.int .u8 x)) g off n (fun i => if i = j then x else f i) := by
  intro i hi
  obtain ⟨h1, h2⟩ := h i hi
  refine ⟨?_, by rw [World.frozen?_setCell]; exact h2⟩
  by_cases e : i = j
  · subst e
    simp only [if_true]
    exact World.cell?_setCell_same' _ _ _ (by rw [h1]; rfl)
  · simp only [if_neg e]
    rw [World.cell?_setCell_other, h1]
    simp
theorem Cl.congr {w : World} {g off n : Nat} {f f' : Nat → Int} (h : Cl w g off n f) (e : ∀ i, i < n → f i = f' i) : Cl w g off n f' := fun i hi => by rw [← e i hi]; exact h i hi
theorem Cl.row {w : World} {g n : Nat} {cs : List Value} {f : Nat → Int} (h : w.heap[g]? = some (.cells cs.toArray 5 (0, 0))) (e : ∀ i, i < n → cs[i]? = some (.int .u8 (f i))) : Cl w g 0 n f := by
  intro i hi
  rw [Nat.zero_add, cell_of_row w g i _ _ _ h, frozen_of_row w g i _ _ h]
  exact ⟨by simpa using e i hi, rfl⟩

theorem cells_bytes {w w1 : World} {b off n : Nat} {f : Nat → Int} (hc : ∀ i, i < n → w.cell? ⟨b, off + i, none⟩ = some (.int .u8 (f i))) (hb : Below w.heap.size w w1) {j : Nat} {v : Value}
    (hj : ((List.range n).map (fun i => Value.int .u8 (f i)))[j]? = some v) : w1.cell? ⟨b, off + j, none⟩ = some v := by
  by_cases hjn : j < n
  · rw [List.getElem?_map, List.getElem?_range hjn] at hj
    simp at hj
    subst hj
    have h := hc j hjn
    exact (hb.cell (World.block_lt_of_cell? w _ h)).trans h
  · rw [List.getElem?_eq_none (by simp; omega)] at hj; simp at hj

def Rd (w : World) (v : Value) (n : Nat) (f : Nat → Int) : Prop :=
  ∃ ao cap, v = .slice ao n cap ∧ n ≤ 9223372036854775807 ∧ (∀ i, 0 ≤ f i ∧ f i ≤ 255) ∧
    (0 < n → ∃ b off, ao = some ⟨b, off, none⟩ ∧ ∀ i, i < n → w.cell? ⟨b, off + i, none⟩ = some (.int .u8 (f i)))

theorem Rd.of_cl {w : World} {g off n cap : Nat} {f : Nat → Int} (h : Cl w g off n f) (hn : n ≤ 9223372036854775807) (hf : ∀ i, 0 ≤ f i ∧ f i ≤ 255) : Rd w (.slice (some ⟨g, off, none⟩) n cap) n f :=
  ⟨_, _, rfl, hn, hf, fun _ => ⟨g, off, rfl, fun i hi => (h i hi).1⟩⟩
theorem Rd.nil (w : World) : Rd w (.slice none 0 0) 0 (fun _ => 0) := ⟨_, _, rfl, by omega, fun _ => ⟨Int.le_refl _, (by decide : (0 : Int) ≤ 255)⟩, fun h => by omega⟩
theorem Rd.below {w w' : World} {v : Value} {n : Nat} {f : Nat → Int} (h : Rd w v n f) {B : Nat} (hb : Below B w w') (hB : w.heap.size ≤ B) : Rd w' v n f := by
  obtain ⟨ao, cap, rfl, hn, hf, hc⟩ := h
  refine ⟨ao, cap, rfl, hn, hf, fun h0 => ?_⟩
  obtain ⟨b, off, rfl, hcc⟩ := hc h0
  exact ⟨b, off, rfl, fun i hi => (hb.cell (Nat.lt_of_lt_of_le (World.block_lt_of_cell? w _ (hcc i hi)) hB)).trans (hcc i hi)⟩

theorem own_cl {w : World} {B n : Nat} {v : Value} {xs : List Value} {f : Nat → Int} (h : w.ownsRow B 5 1 v n xs) (h0 : 0 < n) (hx : ∀ i, i < n → xs[i]? = some (.int .u8 (f i))) :
    ∃ g cap, v = .slice (some ⟨g, 0, none⟩) n cap ∧ B ≤ g ∧ Cl w g 0 n f := by
  have hh := h
  rcases h.2 with ⟨rfl, h2⟩ | ⟨g, cap, cur, rfl, hb, _⟩
  · omega
  · refine ⟨g, cap, rfl, hb, fun i hi => ?_⟩
    rw [Nat.zero_add]
    exact ⟨(hh.cellAt i (by omega)).trans (hx i hi), hh.frozenAt i⟩

end Go.Proofs.YtpkclnkibhgpkaaGreat
