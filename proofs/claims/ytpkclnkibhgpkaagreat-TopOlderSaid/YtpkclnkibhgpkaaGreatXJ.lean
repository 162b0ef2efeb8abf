/-
What a told state stands for: the slots, the blocks, and how the world has turned since a first one. Its conditions: none.
-/
import Derived.Test.YtpkclnkibhgpkaaGreatXI
import Derived.Laws.NewBlocks
import Derived.Below
namespace Go.Proofs.YtpkclnkibhgpkaaGreat.Sx
open Go Go.RowKit
variable {P : Program}

theorem bitOn_eq (m i : Nat) : bitOn m i = m.testBit i := by
  have h : Nat.land (Nat.shiftRight m i) 1 = (m >>> i) % 2 := Nat.and_one_is_mod _
  have h2 : m.testBit i = decide ((m >>> i) % 2 = 1) := by
    rw [Nat.testBit, Nat.and_comm, Nat.and_one_is_mod]
    rcases Nat.mod_two_eq_zero_or_one (m >>> i) with g | g <;> rw [g] <;> rfl
  rw [h2]
  unfold bitOn
  rw [h, Bool.eq_iff_iff, beq_iff, decide_eq_true_iff]
theorem bitOn_lor (a b i : Nat) : bitOn (Nat.lor a b) i = (bitOn a i || bitOn b i) := by
  rw [bitOn_eq, bitOn_eq, bitOn_eq]; exact Nat.testBit_or a b i
theorem bitOn_bit1 (i j : Nat) : bitOn (bit1 i) j = decide (i = j) := by
  rw [bitOn_eq]
  show (1 <<< i).testBit j = _
  rw [Nat.shiftLeft_eq, Nat.one_mul, Nat.testBit_two_pow]
theorem bitOn_zero (i : Nat) : bitOn 0 i = false := by rw [bitOn_eq]; exact Nat.zero_testBit i

/-- a block, told -/
def BkOK [Sh] (b : Nat → Option Nat) (w : World) (id n : Nat) (k : Blk) : Prop :=
  ∃ vs : List Value, FA2 (RepC b) k.cells vs ∧ (∀ (j : Nat) (v : Value), vs[j]? = some v → w.cell? ⟨n, Sh.sh id + k.off + j, none⟩ = some v) ∧ (k.wr = true → ∀ j, j < vs.length → w.frozen? ⟨n, Sh.sh id + k.off + j, none⟩ = false) ∧
    (k.ap ≠ 0 → Sh.sh id + k.off = 0 ∧ ∃ c, b (id + 1) = some c ∧ ∀ j, j < c * k.ap → (w.cell? ⟨n, j, none⟩).isSome = true ∧ w.frozen? ⟨n, j, none⟩ = false)
def HpOK [Sh] (b : Nat → Option Nat) (hp : List (Nat × Blk)) (w : World) : Prop := ∀ id k, getB hp id = some k → ∃ n, b id = some n ∧ BkOK b w id n k
/-- how the world has turned, but for what was written -/
structure Fr (b : Nat → Option Nat) (m : Nat) (w0 w : World) : Prop where
  os : w.os = w0.os
  tape : w.tape = w0.tape
  output : w.output = w0.output
  size : w0.heap.size ≤ w.heap.size
  block : ∀ n, n < w0.heap.size → (∀ i, bitOn m i = true → b i ≠ some n) → w.heap[n]? = w0.heap[n]?
theorem Fr.refl (b : Nat → Option Nat) (m : Nat) (w : World) : Fr b m w w := ⟨rfl, rfl, rfl, Nat.le_refl _, fun _ _ _ => rfl⟩
/-- is a block known -/
def Live (hp : List (Nat × Blk)) (i : Nat) : Prop := ∃ k, getB hp i = some k
/-- where a part of a run began: the numbers up to there, and which blocks were known -/
structure Base where
  n : Nat
  live : Nat → Prop
def St.base (s : St) : Base := ⟨s.nx, Live s.hp⟩
structure Conc [Sh] (w0 : World) (n0 : Base) (b : Nat → Option Nat) (s : St) (a : Act) (w : World) : Prop where
  tm : TmOK b s.tm a.tmps
  hp : HpOK b s.hp w
  inj : ∀ i j n, Live s.hp i → Live s.hp j → b i = some n → b j = some n → i = j
  lt : ∀ i n, b i = some n → i < s.nx
  sz : ∀ i n, Live s.hp i → b i = some n → n < w.heap.size
  nw : ∀ i n, n0.n ≤ i → (Live s.hp i ∨ bitOn s.wr i = true) → b i = some n → w0.heap.size ≤ n ∨ ∃ j, j < n0.n ∧ bitOn s.wr j = true ∧ b j = some n
  m1 : ∀ j, j < n0.n → bitOn s.wr j = true → n0.live j
  m3 : ∀ j, j < n0.n → Live s.hp j → n0.live j
  wl : ∀ j, bitOn s.wr j = true → ∃ n, b j = some n
  fr : Fr b s.wr w0 w
  nx : n0.n ≤ s.nx
  z : ∀ i, s.nx ≤ i → Sh.sh i = 0
/-- a numbering that is as the other one below a bound -/
def ExtN (k : Nat) (b c : Nat → Option Nat) : Prop := ∀ i, i < k → c i = b i
theorem ExtN.refl (k : Nat) (b : Nat → Option Nat) : ExtN k b b := fun _ _ => rfl
theorem ExtN.trans {k l : Nat} {a b c : Nat → Option Nat} (h : ExtN k a b) (hkl : k ≤ l) (g : ExtN l b c) : ExtN k a c := fun i hi => (g i (by omega)).trans (h i hi)
theorem Conc.ext [Sh] {w0 : World} {n0 : Base} {b c : Nat → Option Nat} {s : St} {a : Act} {w : World} (h : Conc w0 n0 b s a w) (g : ExtN s.nx b c) : Ext b c := fun i n e => by rw [g i (h.lt i n e)]; exact e
theorem Conc.known [Sh] {w0 : World} {n0 : Base} {b : Nat → Option Nat} {s : St} {a : Act} {w : World} (h : Conc w0 n0 b s a w) {i : Nat} (g : Live s.hp i) : ∃ n, b i = some n ∧ i < s.nx ∧ n < w.heap.size := by
  obtain ⟨k, hk⟩ := g
  obtain ⟨n, hn, _⟩ := h.hp i k hk
  exact ⟨n, hn, h.lt i n hn, h.sz i n ⟨k, hk⟩ hn⟩

theorem cell_new' (w : World) (cs : Array Value) (t : TypeId) (j : Nat) : (w.alloc (.cells cs t)).cell? ⟨w.heap.size, j, none⟩ = cs[j]? := by
  rw [cell_of_row _ _ j _ _ _ (heap_alloc_new w _)]
theorem cell_old' (w : World) (o : Obj) {a : Addr} (h : a.block < w.heap.size) : (w.alloc o).cell? a = w.cell? a :=
  ((Below.refl w.heap.size w).alloc (Nat.le_refl _) o).cell h
theorem frozen_new' (w : World) (cs : Array Value) (t : TypeId) (j : Nat) : (w.alloc (.cells cs t)).frozen? ⟨w.heap.size, j, none⟩ = false := by
  rw [frozen_of_row _ _ j _ _ (heap_alloc_new w _)]
/-- a block stays as it was told, where the memory's own block stays -/
theorem BkOK.same [Sh] {b c : Nat → Option Nat} {w w' : World} {id n : Nat} {k : Blk} (h : BkOK b w id n k) (e : Ext b c) (g : w'.heap[n]? = w.heap[n]?) : BkOK c w' id n k := by
  obtain ⟨vs, h1, h2, h3, h4⟩ := h
  refine ⟨vs, fa2_mono (fun _ _ => RepC.mono e) h1, fun j v hv => ?_, fun hw j hj => ?_, fun ha => ?_⟩
  · rw [← h2 j v hv]; simp only [World.cell?, g]
  · rw [← h3 hw j hj]; simp only [World.frozen?, g]
  · obtain ⟨q, d, hd, r⟩ := h4 ha
    refine ⟨q, d, e _ _ hd, fun j hj => ?_⟩
    obtain ⟨r1, r2⟩ := r j hj
    exact ⟨by rw [← r1]; simp only [World.cell?, g], by rw [← r2]; simp only [World.frozen?, g]⟩
/-- the numbering with one more -/
def upd (b : Nat → Option Nat) (i n : Nat) : Nat → Option Nat := fun j => if j = i then some n else b j
theorem upd_ext (b : Nat → Option Nat) (i n : Nat) : ExtN i b (upd b i n) := fun j hj => by simp [upd]; omega
theorem upd_at (b : Nat → Option Nat) (i n : Nat) : upd b i n i = some n := by simp [upd]
theorem upd_ne (b : Nat → Option Nat) {i j : Nat} (n : Nat) (h : j ≠ i) : upd b i n j = b j := by simp [upd, h]
theorem Fr.mono {b c : Nat → Option Nat} {m m' : Nat} {w0 w : World} (h : Fr b m w0 w) (g : ∀ n, n < w0.heap.size → (∀ i, bitOn m' i = true → c i ≠ some n) → (∀ i, bitOn m i = true → b i ≠ some n)) : Fr c m' w0 w :=
  ⟨h.os, h.tape, h.output, h.size, fun n hn hh => h.block n hn (g n hn hh)⟩
theorem live_cons {i : Nat} {k : Blk} {r : List (Nat × Blk)} {j : Nat} : Live ((i, k) :: r) j ↔ i = j ∨ (i ≠ j ∧ Live r j) := by
  unfold Live
  simp only [getB]
  cases q : Nat.beq i j
  · have : i ≠ j := fun e => by rw [beq_iff.2 e] at q; cases q
    simp [this]
  · rw [beq_iff] at q; simp [q]
/-- a new block, and so many numbers more -/
theorem Conc.allocN [Sh] {w0 : World} {n0 : Base} {b : Nat → Option Nat} {s : St} {a : Act} {w : World} (h : Conc w0 n0 b s a w) {c : Nat → Option Nat} (hx : ExtN s.nx b c) (hc : c s.nx = some w.heap.size) {nx' : Nat} (hn : s.nx < nx') (hl : ∀ i n, c i = some n → i < nx') {k : Blk} {ob : Obj}
    (hb : BkOK c (w.alloc ob) s.nx w.heap.size k) : Conc w0 n0 c ⟨s.tm, (s.nx, k) :: s.hp, nx', s.wr⟩ a (w.alloc ob) := by
  have hE : Ext b c := h.ext hx
  have hold : ∀ n, n < w.heap.size → (w.alloc ob).heap[n]? = w.heap[n]? := fun n hn => ((Below.refl w.heap.size w).alloc (Nat.le_refl _) _).block n hn
  have lives : ∀ i, Live ((s.nx, k) :: s.hp) i → i = s.nx ∨ (i < s.nx ∧ Live s.hp i ∧ c i = b i) := by
    intro i hi
    rcases live_cons.1 hi with g | ⟨_, g⟩
    · exact .inl g.symm
    · obtain ⟨_, _, g2, _⟩ := h.known g
      exact .inr ⟨g2, g, hx i g2⟩
  have hb0 := h.nx
  refine ⟨fun t' x q => ⟨(h.tm t' x q).1, (h.tm t' x q).2.mono hE⟩, fun id k' hk => ?_, fun i j n hi hj hbi hbj => ?_, hl, fun i n hi hbi => ?_, fun i n hi0 hi hbi => ?_, h.m1, fun j hj hi => ?_, fun j hj => ?_, ?_, by simp only; omega, fun i hi => h.z i (by simp only at hi; omega)⟩
  · simp only [getB] at hk
    cases g : Nat.beq s.nx id
    · rw [g] at hk
      obtain ⟨n, hn, hb'⟩ := h.hp id k' hk
      exact ⟨n, hE _ _ hn, hb'.same hE (hold n (h.sz id n ⟨k', hk⟩ hn))⟩
    · rw [g] at hk
      rw [beq_iff] at g
      subst g
      cases hk
      exact ⟨_, hc, hb⟩
  · rcases lives i hi with rfl | ⟨_, g1, g2⟩ <;> rcases lives j hj with rfl | ⟨_, r1, r2⟩
    · rfl
    · rw [hc] at hbi; cases hbi
      rw [r2] at hbj
      have := h.sz j _ r1 hbj; omega
    · rw [hc] at hbj; cases hbj
      rw [g2] at hbi
      have := h.sz i _ g1 hbi; omega
    · rw [g2] at hbi; rw [r2] at hbj
      exact h.inj i j n g1 r1 hbi hbj
  · simp only [World.size_alloc]
    rcases lives i hi with rfl | ⟨_, g1, g2⟩
    · rw [hc] at hbi; cases hbi; omega
    · rw [g2] at hbi; have := h.sz i n g1 hbi; omega
  · have key : (Live s.hp i ∨ bitOn s.wr i = true) → b i = some n → w0.heap.size ≤ n ∨ ∃ j, j < n0.n ∧ bitOn s.wr j = true ∧ c j = some n := by
      intro g1 g2
      rcases h.nw i n hi0 g1 g2 with r | ⟨j, r1, r2, r3⟩
      · exact .inl r
      · exact .inr ⟨j, r1, r2, hE _ _ r3⟩
    rcases hi with hi | hi
    · rcases lives i hi with rfl | ⟨_, g1, g2⟩
      · rw [hc] at hbi; cases hbi; exact .inl h.fr.size
      · rw [g2] at hbi; exact key (.inl g1) hbi
    · obtain ⟨m, hm⟩ := h.wl i hi
      have := hE _ _ hm
      rw [hbi] at this; cases this
      exact key (.inr hi) hm
  · rcases lives j hi with rfl | ⟨_, g1, g2⟩
    · omega
    · exact h.m3 j hj g1
  · obtain ⟨m, hm⟩ := h.wl j hj
    exact ⟨m, hE _ _ hm⟩
  · have hf := h.fr
    refine ⟨hf.os, hf.tape, hf.output, by have := hf.size; simp; omega, fun n hn hh => ?_⟩
    rw [hold n (by have := hf.size; omega)]
    exact hf.block n hn fun i hi => fun e => hh i hi (hE _ _ e)
theorem Conc.alloc [Sh] {w0 : World} {n0 : Base} {b : Nat → Option Nat} {s : St} {a : Act} {w : World} (h : Conc w0 n0 b s a w) {cells : List SC} {us : List Value} (hv : FA2 (RepC b) cells us) {vs : Array Value} (hvs : ∀ (j : Nat) (v : Value), us[j]? = some v → vs[j]? = some v) (t : TypeId) :
    ∃ c, ExtN s.nx b c ∧ c s.nx = some w.heap.size ∧ Conc w0 n0 c (allocS s cells) a (w.alloc (.cells vs t)) := by
  obtain ⟨tm, hp, nx, wr⟩ := s
  have hx := upd_ext b nx w.heap.size
  have hE : Ext b (upd b nx w.heap.size) := h.ext hx
  refine ⟨upd b nx w.heap.size, hx, upd_at _ _ _, h.allocN hx (upd_at _ _ _) (Nat.lt_succ_self _) (fun i n hi => ?_) ⟨us, fa2_mono (fun _ _ => RepC.mono hE) hv, fun j v hj => ?_, fun _ j hj => ?_, fun q => absurd rfl q⟩⟩
  · by_cases e : i = nx
    · subst e; exact Nat.lt_succ_self _
    · rw [upd_ne _ _ e] at hi; exact Nat.lt_succ_of_lt (h.lt i n hi)
  · have hz : Sh.sh nx = 0 := h.z nx (Nat.le_refl _)
    simp only [hz, Nat.zero_add]; rw [cell_new']; exact hvs j v hj
  · have hz : Sh.sh nx = 0 := h.z nx (Nat.le_refl _)
    simp only [hz, Nat.zero_add]; exact frozen_new' _ _ _ _
/-- a new row, and how much room it has -/
theorem Conc.allocO [Sh] {w0 : World} {n0 : Base} {b : Nat → Option Nat} {s : St} {a : Act} {w : World} (h : Conc w0 n0 b s a w) {cells : List SC} {us : List Value} (hv : FA2 (RepC b) cells us) {ob : Obj} {m cap es : Nat} (hul : us.length ≤ m)
    (hvs : ∀ (j : Nat) (v : Value), us[j]? = some v → (w.alloc ob).cell? ⟨w.heap.size, j, none⟩ = some v) (hm : ∀ j, j < m → ((w.alloc ob).cell? ⟨w.heap.size, j, none⟩).isSome = true ∧ (w.alloc ob).frozen? ⟨w.heap.size, j, none⟩ = false) (hcap : cap * es ≤ m) :
    ∃ c, ExtN s.nx b c ∧ c s.nx = some w.heap.size ∧ c (s.nx + 1) = some cap ∧ Conc w0 n0 c ⟨s.tm, (s.nx, ⟨0, cells, true, es⟩) :: s.hp, Nat.succ (Nat.succ s.nx), s.wr⟩ a (w.alloc ob) := by
  have hx : ExtN s.nx b (upd (upd b s.nx w.heap.size) (s.nx + 1) cap) := fun i hi => by rw [upd_ne _ _ (by omega), upd_ne _ _ (by omega)]
  have hE := h.ext hx
  have e1 : upd (upd b s.nx w.heap.size) (s.nx + 1) cap s.nx = some w.heap.size := by rw [upd_ne _ _ (by omega), upd_at]
  have e2 : upd (upd b s.nx w.heap.size) (s.nx + 1) cap (s.nx + 1) = some cap := upd_at _ _ _
  refine ⟨_, hx, e1, e2, h.allocN hx e1 (by omega) (fun i n hi => ?_) ⟨us, fa2_mono (fun _ _ => RepC.mono hE) hv, fun j v hj => ?_, fun _ j hj => ?_, fun _ => ⟨by simp [h.z s.nx (Nat.le_refl _)], cap, e2, fun j hj => hm j (Nat.lt_of_lt_of_le hj hcap)⟩⟩⟩
  · by_cases g : i < s.nx
    · omega
    · by_cases g2 : i = s.nx ∨ i = s.nx + 1
      · omega
      · rw [upd_ne _ _ (by omega), upd_ne _ _ (by omega)] at hi
        have := h.lt i n hi; omega
  · simp only [h.z s.nx (Nat.le_refl _), Nat.zero_add]; exact hvs j v hj
  · simp only [h.z s.nx (Nat.le_refl _), Nat.zero_add]; exact (hm j (by omega)).2
theorem Conc.allocA [Sh] {w0 : World} {n0 : Base} {b : Nat → Option Nat} {s : St} {a : Act} {w : World} (h : Conc w0 n0 b s a w) {cells : List SC} {us : List Value} (hv : FA2 (RepC b) cells us) {vs : Array Value} (hvs : ∀ (j : Nat) (v : Value), us[j]? = some v → vs[j]? = some v) (t : TypeId) {cap es : Nat} (hul : us.length ≤ vs.size) (hcap : cap * es ≤ vs.size) :
    ∃ c, ExtN s.nx b c ∧ c s.nx = some w.heap.size ∧ c (s.nx + 1) = some cap ∧ Conc w0 n0 c ⟨s.tm, (s.nx, ⟨0, cells, true, es⟩) :: s.hp, Nat.succ (Nat.succ s.nx), s.wr⟩ a (w.alloc (.cells vs t)) :=
  h.allocO hv hul (fun j v hj => by rw [cell_new']; exact hvs j v hj) (fun j hj => ⟨by rw [cell_new', Array.getElem?_eq_getElem hj]; rfl, frozen_new' _ _ _ _⟩) hcap
/-- a world of the same memory -/
theorem Conc.memory [Sh] {w0 : World} {n0 : Base} {b : Nat → Option Nat} {s : St} {a : Act} {w w' : World} (h : Conc w0 n0 b s a w) (h1 : w'.heap = w.heap) (h2 : w'.os = w.os) (h3 : w'.tape = w.tape) (h4 : w'.output = w.output) : Conc w0 n0 b s a w' := by
  refine ⟨h.tm, fun id k hk => ?_, h.inj, h.lt, fun i n hi hb => by rw [h1]; exact h.sz i n hi hb, h.nw, h.m1, h.m3, h.wl, ?_, h.nx, h.z⟩
  · obtain ⟨n, hn, hb⟩ := h.hp id k hk
    exact ⟨n, hn, hb.same (fun _ _ q => q) (by rw [h1])⟩
  · have hf := h.fr
    exact ⟨h2.trans hf.os, h3.trans hf.tape, h4.trans hf.output, by rw [h1]; exact hf.size, fun n hn hh => by rw [h1]; exact hf.block n hn hh⟩
end Go.Proofs.YtpkclnkibhgpkaaGreat.Sx
