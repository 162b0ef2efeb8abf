/-
A region whose order is drawn: whatever the order, what has been run so far leaves what the run in the written order says of it. Its conditions: that the tables tell the program, and what is told of the functions that have a contract.
-/
import Derived.Test.YtpkclnkibhgpkaaGreatXW
namespace Go.Proofs.YtpkclnkibhgpkaaGreat.Sx
open Go Go.RowKit
variable {P : Program}

def cut (n : Nat) (b : Nat → Option Nat) : Nat → Option Nat := fun i => if i < n then b i else none
theorem cut_some {n : Nat} {b : Nat → Option Nat} {i m : Nat} (h : cut n b i = some m) : i < n ∧ b i = some m := by
  unfold cut at h
  by_cases q : i < n
  · rw [if_pos q] at h; exact ⟨q, h⟩
  · rw [if_neg q] at h; cases h
theorem cut_ext {n n' : Nat} {b c : Nat → Option Nat} (hn : n ≤ n') (h : ∀ i m, i < n → b i = some m → c i = some m) : Ext (cut n b) (cut n' c) := by
  intro i m q
  obtain ⟨h1, h2⟩ := cut_some q
  unfold cut
  rw [if_pos (by omega)]
  exact h i m h1 h2
theorem cut_sub (n : Nat) (b : Nat → Option Nat) : Ext (cut n b) b := fun _ _ q => (cut_some q).2
/-- a block that is known after some of the operations: what is told of it there stands -/
def LiveS (all : List Oper) (f : Nat → St) (d : Nat → DRec) (S : Nat → Prop) (id : Nat) : Prop :=
  ∃ i, i ≤ all.length ∧ (∀ j, j < all.length → bitOn (d j).touch id = true → (S j ↔ j < i)) ∧ Live (f i).hp id
/-- a block that some of the operations wrote -/
def Wrote (all : List Oper) (u : Nat → Nat) (S : Nat → Prop) (id : Nat) : Prop := ∃ k, S k ∧ k < all.length ∧ bitOn (u k) id = true
/-- some of the operations have been run -/
structure Inv [Sh] (all : List Oper) (f : Nat → St) (d : Nat → DRec) (u : Nat → Nat) (w1 : World) (b0 : Nat → Option Nat) (a0 : Act) (S : Nat → Prop) (b : Nat → Option Nat) (a : Act) (w : World) : Prop where
  ext : ExtN (f 0).nx b0 b
  inj : ∀ i j n, LiveS all f d S i → LiveS all f d S j → b i = some n → b j = some n → i = j
  sz : ∀ i n, LiveS all f d S i → b i = some n → n < w.heap.size
  own : ∀ i n, b i = some n → i < (f 0).nx ∨ ∃ k, S k ∧ k < all.length ∧ (f k).nx ≤ i ∧ i < (f (k + 1)).nx
  nw : ∀ i n, (f 0).nx ≤ i → (LiveS all f d S i ∨ Wrote all u S i) → b i = some n → w1.heap.size ≤ n ∨ ∃ j, j < (f 0).nx ∧ Wrote all u S j ∧ b j = some n
  m1 : ∀ j, j < (f 0).nx → Wrote all u S j → Live (f 0).hp j
  m3 : ∀ j, j < (f 0).nx → LiveS all f d S j → Live (f 0).hp j
  mw : ∀ j, Wrote all u S j → ∃ n, b j = some n
  tm : ∀ i, i ≤ all.length → ∀ t x, (∀ (j : Nat) (o : Oper), all[j]? = some o → o.dst = some t → (S j ↔ j < i)) → (f i).tm.get t = some x → t < a.tmps.size ∧ RepT (cut (f i).nx b) x (a.tmps.getD t undef)
  hp : ∀ i, i ≤ all.length → ∀ id k, (∀ j, j < all.length → bitOn (d j).touch id = true → (S j ↔ j < i)) → getB (f i).hp id = some k → ∃ n, b id = some n ∧ BkOK (cut (f i).nx b) w id n k
  os : w.os = w1.os
  tape : w.tape = w1.tape
  output : w.output = w1.output
  size : w1.heap.size ≤ w.heap.size
  block : ∀ n, n < w1.heap.size → (∀ i, Wrote all u S i → b i ≠ some n) → w.heap[n]? = w1.heap[n]?
  out : SameOut (dsts all) a0 a
  z : ∀ i, (f 0).nx ≤ i → Sh.sh i = 0
section
variable {e : Env} {ih : Task → Option Tree} {all : List Oper} {bs : List Nat} {f : Nat → St} {v : Nat → ST} {d : Nat → DRec} {u : Nat → Nat}
theorem guardB_run [Sh] {tm : Tr ST} {o : Oper} {t : Bool} (h : guardB tm all o.guard = some t) {b : Nat → Option Nat} {a : Act} (ht : TmOK b tm a.tmps) : Region.wanted o (yielded all.toArray a.tmps) = t := by
  unfold guardB at h
  split at h
  · rename_i hg
    cases h
    unfold Region.wanted; rw [hg]
  · rename_i j want hg
    split at h
    · cases h
    · rename_i x hx
      split at h
      · rename_i y hy
        cases h
        exact wanted_of hg (nthOp_yields hx a.tmps (ht x _ hy).1 (ht x _ hy).2)
      · rename_i hy
        cases h
        exact unwanted_of hg (nthOp_none hx a.tmps (ht x _ hy).1 (tup_nil (ht x _ hy).2))
      · cases h
theorem apart_dst {o o' : Oper} (h : apart all o o' = true) : (∀ t, o.dst = some t → t ∉ looks all o') ∧ (∀ t, o'.dst = some t → t ∉ looks all o) ∧ (∀ t, o.dst = some t → o'.dst ≠ some t) := by
  unfold apart at h
  simp only [Bool.and_eq_true] at h
  obtain ⟨⟨h1, h2⟩, h3⟩ := h
  refine ⟨fun t ht hm => ?_, fun t ht hm => ?_, fun t ht hm => ?_⟩
  · rw [ht] at h1
    simp only [outOf] at h1
    rw [memN_iff.2 hm] at h1; cases h1
  · rw [ht] at h2
    simp only [outOf] at h2
    rw [memN_iff.2 hm] at h2; cases h2
  · rw [ht, hm] at h3
    simp only [dstNe] at h3
    rw [beq_iff.2 rfl] at h3; cases h3
/-- what surely comes before -/
def Down (all : List Oper) (bs : List Nat) (S : Nat → Prop) : Prop := ∀ j m, j < all.length → S j → bs[j]? = some m → ∀ i, bitOn m i = true → S i
variable {w1 : World} {b0 : Nat → Option Nat} {a0 : Act} {S : Nat → Prop} {b : Nat → Option Nat} {a : Act} {w : World}
theorem Inv.live [Sh] (h : Inv all f d u w1 b0 a0 S b a w) {i : Nat} (g : LiveS all f d S i) : ∃ n, b i = some n ∧ n < w.heap.size := by
  obtain ⟨j, h1, h2, k, hk⟩ := id g
  obtain ⟨n, hn, _⟩ := h.hp j h1 i k h2 hk
  exact ⟨n, hn, h.sz i n g hn⟩
/-- what one operation may look at is known -/
theorem live_at (ht : Trace e ih all bs f v d u) (hS : Down all bs S) {k : Nat} {o : Oper} {m : Nat} (ho : all[k]? = some o) (hm : bs[k]? = some m) (hf : DFact e ih all f v d k o m (u k)) (hk : ¬ S k) (hd : ∀ i, bitOn m i = true → S i) {id : Nat} (hview : bitOn (d k).view id = true) :
    ∀ j, j < all.length → bitOn (d j).touch id = true → (S j ↔ j < k) := by
  have hkl : k < all.length := (List.getElem?_eq_some_iff.1 ho).1
  intro j hjl htc
  constructor
  · intro hs
    rcases Nat.lt_trichotomy j k with g | g | g
    · exact g
    · subst g; exact absurd hs hk
    · obtain ⟨o2, m', ho2, hm', hf'⟩ := ht.fact j hjl
      cases q2 : bitOn m' k
      · rw [(hf'.un k g q2 id).2 hview] at htc; cases htc
      · exact absurd (hS j m' hjl hs hm' k q2) hk
  · intro g
    cases q2 : bitOn m j
    · rw [((hf.un j g q2 id).1 htc).2] at hview; cases hview
    · exact hd j q2
/-- the state that one operation finds -/
theorem Inv.at [Sh] (h : Inv all f d u w1 b0 a0 S b a w) (ht : Trace e ih all bs f v d u) (hS : Down all bs S) {k : Nat} {o : Oper} {m : Nat} (ho : all[k]? = some o) (hm : bs[k]? = some m) (hf : DFact e ih all f v d k o m (u k)) (hk : ¬ S k) (hd : ∀ i, bitOn m i = true → S i)
    {hp : List (Nat × Blk)} (hh : ∀ id b, getB hp id = some b → getB (f k).hp id = some b ∧ (id < (f k).nx → bitOn (d k).view id = true)) :
    Conc w ⟨(f k).nx, Live hp⟩ (cut (f k).nx b) ⟨restr (f k).tm (looks all o) .nil, hp, (f k).nx, 0⟩ a w ∧ ∀ id, Live hp id → LiveS all f d S id := by
  have hkl : k < all.length := (List.getElem?_eq_some_iff.1 ho).1
  have hlv : ∀ id, Live hp id → LiveS all f d S id := by
    rintro id ⟨blk, hb⟩
    obtain ⟨g1, g2⟩ := hh id blk hb
    exact ⟨k, by omega, live_at ht hS ho hm hf hk hd (g2 (ht.ids (by omega) id blk g1)), blk, g1⟩
  refine ⟨⟨fun t x hx => ?_, fun id blk hb => ?_, ?_, fun i n hb => (cut_some hb).1, fun i n hl hb => h.sz i n (hlv i hl) (cut_some hb).2, fun i n hi _ hb => ?_, fun j _ hb => ?_, fun j _ hl => hl, fun j hb => ?_, Fr.refl _ _ _, Nat.le_refl _, fun i hi => h.z i (Nat.le_trans (ht.nx (i := 0) (j := k) (by omega) (by omega)) hi)⟩, hlv⟩
  · rw [restr_get] at hx
    by_cases q : t ∈ looks all o
    · rw [if_pos q] at hx
      refine h.tm k (by omega) t x ?_ hx
      intro j o' ho' hdst
      have hjl : j < all.length := (List.getElem?_eq_some_iff.1 ho').1
      constructor
      · intro hs
        rcases Nat.lt_trichotomy j k with g | g | g
        · exact g
        · subst g; exact absurd hs hk
        · obtain ⟨o2, m', ho2, hm', _⟩ := ht.fact j hjl
          rw [ho'] at ho2; cases ho2
          cases q2 : bitOn m' k
          · exact absurd q ((apart_dst (ht.plan.apart j o' m' ho' hm' k o g ho q2)).1 t hdst)
          · exact absurd (hS j m' hjl hs hm' k q2) hk
      · intro g
        cases q2 : bitOn m j
        · exact absurd q ((apart_dst (ht.plan.apart k o m ho hm j o' g ho' q2)).2.1 t hdst)
        · exact hd j q2
    · rw [if_neg q] at hx; simp [Tr.get] at hx
  · obtain ⟨g1, g2⟩ := hh id blk hb
    have hlt := ht.ids (by omega) id blk g1
    obtain ⟨n, hn, hbk⟩ := h.hp k (by omega) id blk (live_at ht hS ho hm hf hk hd (g2 hlt)) g1
    exact ⟨n, by unfold cut; rw [if_pos hlt]; exact hn, hbk⟩
  · intro i j n hi hj hbi hbj
    exact h.inj i j n (hlv i hi) (hlv j hj) (cut_some hbi).2 (cut_some hbj).2
  · have := (cut_some hb).1; simp only at hi; omega
  · rw [bitOn_zero] at hb; cases hb
  · rw [bitOn_zero] at hb; cases hb
/-- and with one more -/
theorem Inv.step [Sh] (h : Inv all f d u w1 b0 a0 S b a w) (ht : Trace e ih all bs f v d u) (hS : Down all bs S) {k : Nat} {o : Oper} {m : Nat} (ho : all[k]? = some o) (hm : bs[k]? = some m) (hf : DFact e ih all f v d k o m (u k)) (hk : ¬ S k) (hw : ∀ x ∈ dsts all, x < a.tmps.size)
    {lv : Nat → Prop} (hlv : ∀ id, lv id → LiveS all f d S id) {c : Nat → Option Nat} {w' : World} {z : Value} {tm' : Tr ST} {h' : List (Nat × Blk)} (hx : ExtN (f k).nx (cut (f k).nx b) c) (hc : Conc w ⟨(f k).nx, lv⟩ c ⟨tm', h', (f (k + 1)).nx, u k⟩ a w') (hr : RepT c (v k) z)
    (hhp : ∀ id, bitOn (d k).touch id = true → getB (f (k + 1)).hp id = getB h' id) :
    ∃ b', Inv all f d u w1 b0 a0 (fun j => S j ∨ j = k) b' (a.put o.dst z) w' := by
  have hkl : k < all.length := (List.getElem?_eq_some_iff.1 ho).1
  have hnx := hf.nx
  have h0 : (f 0).nx ≤ (f k).nx := ht.nx (by omega) (by omega)
  have cold : ∀ i, i < (f k).nx → c i = b i := fun i hi => by rw [hx i hi]; unfold cut; rw [if_pos hi]
  have bnone : ∀ i, (f k).nx ≤ i → i < (f (k + 1)).nx → b i = none := by
    intro i h1 h2
    cases q : b i with
    | none => rfl
    | some n =>
      rcases h.own i n q with g | ⟨j, hj, hjl, g1, g2⟩
      · omega
      · rcases Nat.lt_trichotomy j k with r | r | r
        · have := ht.nx (i := j + 1) (j := k) (by omega) (by omega); omega
        · subst r; exact absurd hj hk
        · have := ht.nx (i := k + 1) (j := j) (by omega) (by omega); omega
  let b' : Nat → Option Nat := fun i => if i < (f k).nx then b i else if i < (f (k + 1)).nx then c i else b i
  have b1 : ∀ i, i < (f k).nx → b' i = b i := fun i hi => if_pos hi
  have b2 : ∀ i, i < (f (k + 1)).nx → b' i = c i := fun i hi => by
    by_cases q : i < (f k).nx
    · rw [b1 i q, cold i q]
    · show (if i < (f k).nx then b i else if i < (f (k + 1)).nx then c i else b i) = c i
      rw [if_neg q, if_pos hi]
  have b3 : ∀ i, (f (k + 1)).nx ≤ i → b' i = b i := fun i hi => by
    show (if i < (f k).nx then b i else if i < (f (k + 1)).nx then c i else b i) = b i
    rw [if_neg (by omega), if_neg (by omega)]
  have eb : Ext b b' := by
    intro i n q
    by_cases g : i < (f k).nx
    · rw [b1 i g]; exact q
    · by_cases g2 : i < (f (k + 1)).nx
      · rw [bnone i (by omega) g2] at q; cases q
      · rw [b3 i (by omega)]; exact q
  have ec : Ext c b' := by
    intro i n q
    rw [b2 i (hc.lt i n q)]; exact q
  have bcases : ∀ i n, b' i = some n → b i = some n ∨ (c i = some n ∧ (f k).nx ≤ i ∧ i < (f (k + 1)).nx) := by
    intro i n q
    by_cases g : i < (f k).nx
    · rw [b1 i g] at q; exact .inl q
    · by_cases g2 : i < (f (k + 1)).nx
      · rw [b2 i g2] at q; exact .inr ⟨q, by omega, g2⟩
      · rw [b3 i (by omega)] at q; exact .inl q
  have hput : ∀ x, o.dst = some x → x ∈ dsts all := fun x hx => mem_dsts hx (List.mem_of_getElem? ho)
  have S' : ∀ j, j ≠ k → ((S j ∨ j = k) ↔ S j) := fun j hj => ⟨fun g => g.resolve_right hj, .inl⟩
  -- where a block comes from that is known, or was written, behind the operation
  have root : ∀ i n, (Live h' i ∨ bitOn (u k) i = true) → c i = some n → n < w.heap.size → ∃ j, LiveS all f d S j ∧ b j = some n ∧ j < (f k).nx ∧ (j = i ∨ bitOn (u k) j = true) := by
    intro i n hl hcn hn
    by_cases g : i < (f k).nx
    · refine ⟨i, ?_, by rw [← cold i g]; exact hcn, g, .inl rfl⟩
      rcases hl with hl | hl
      · exact hlv i (hc.m3 i g hl)
      · exact hlv i (hc.m1 i g hl)
    · rcases hc.nw i n (by simp only; omega) hl hcn with r | ⟨j, r1, r2, r3⟩
      · omega
      · exact ⟨j, hlv j (hc.m1 j r1 r2), by rw [← cold j r1]; exact r3, r1, .inr r2⟩
  -- of the known blocks behind it
  have lives : ∀ i, LiveS all f d (fun j => S j ∨ j = k) i → (bitOn (d k).touch i = true ∧ Live h' i ∧ ∃ n, c i = some n ∧ b' i = some n) ∨ (bitOn (d k).touch i = false ∧ LiveS all f d S i ∧ ∃ n, b i = some n ∧ b' i = some n) := by
    rintro i ⟨x, x1, x2, x3⟩
    cases q : bitOn (d k).touch i
    · right
      have hl : LiveS all f d S i := ⟨x, x1, fun j hj hb => (S' j (by intro e; rw [e] at hb; rw [hb] at q; cases q)).symm.trans (x2 j hj hb), x3⟩
      obtain ⟨n, hn, _⟩ := h.live hl
      exact ⟨rfl, hl, n, hn, eb i n hn⟩
    · left
      have hki : k < x := (x2 k hkl q).1 (.inr rfl)
      have hval : getB (f x).hp i = getB h' i := by
        rw [ht.hpStay (i := k + 1) (j := x) (by omega) x1 ?_, hhp i q]
        intro j h1 h2
        cases q3 : bitOn (d j).touch i
        · rfl
        · have hSj : S j := ((x2 j (by omega) q3).2 h2).resolve_right (by omega)
          obtain ⟨o2, m', ho2, hm', hf'⟩ := ht.fact j (by omega)
          cases q2 : bitOn m' k
          · rw [((hf'.un k (by omega) q2 i).1 q).1] at q3; cases q3
          · exact absurd (hS j m' (by omega) hSj hm' k q2) hk
      obtain ⟨blk, hblk⟩ := x3
      rw [hval] at hblk
      obtain ⟨n, hn, _, _⟩ := hc.known ⟨blk, hblk⟩
      exact ⟨rfl, ⟨blk, hblk⟩, n, hn, ec i n hn⟩
  have wrote : ∀ i, Wrote all u (fun j => S j ∨ j = k) i → (Wrote all u S i ∧ ∃ n, b i = some n ∧ b' i = some n) ∨ (bitOn (u k) i = true ∧ ∃ n, c i = some n ∧ b' i = some n) := by
    rintro i ⟨j, hj, hjl, hb⟩
    rcases hj with hj | rfl
    · obtain ⟨n, hn⟩ := h.mw i ⟨j, hj, hjl, hb⟩
      exact .inl ⟨⟨j, hj, hjl, hb⟩, n, hn, eb i n hn⟩
    · obtain ⟨n, hn⟩ := hc.wl i hb
      exact .inr ⟨hb, n, hn, ec i n hn⟩
  have wrote' : ∀ i, Wrote all u S i → Wrote all u (fun j => S j ∨ j = k) i := fun i ⟨j, h1, h2⟩ => ⟨j, .inl h1, h2⟩
  have wrotek : ∀ i, bitOn (u k) i = true → Wrote all u (fun j => S j ∨ j = k) i := fun i hi => ⟨k, .inr rfl, hkl, hi⟩
  have heap : ∀ id n, LiveS all f d S id → bitOn (d k).touch id = false → b id = some n → w'.heap[n]? = w.heap[n]? := by
    intro id n hl q hn
    refine hc.fr.block n (h.sz id n hl hn) fun i hb hcn => ?_
    obtain ⟨j, j1, j2, _, j3⟩ := root i n (.inr hb) hcn (h.sz id n hl hn)
    have := h.inj j id n j1 hl j2 hn
    subst this
    rcases j3 with rfl | j3
    · rw [hf.tu j hb] at q; cases q
    · rw [hf.tu j j3] at q; cases q
  have keyl : ∀ j n, (f 0).nx ≤ j → (LiveS all f d S j ∨ Wrote all u S j) → b j = some n → w1.heap.size ≤ n ∨ ∃ j, j < (f 0).nx ∧ Wrote all u (fun j => S j ∨ j = k) j ∧ b' j = some n := by
    intro j n h1 h2 h3
    rcases h.nw j n h1 h2 h3 with r | ⟨x, r1, r2, r3⟩
    · exact .inl r
    · exact .inr ⟨x, r1, wrote' x r2, eb x n r3⟩
  have keyc : ∀ i n, (f 0).nx ≤ i → (Live h' i ∨ bitOn (u k) i = true) → c i = some n → w1.heap.size ≤ n ∨ ∃ j, j < (f 0).nx ∧ Wrote all u (fun j => S j ∨ j = k) j ∧ b' j = some n := by
    intro i n h1 h2 h3
    by_cases g : n < w.heap.size
    · obtain ⟨j, j1, j2, _, j3⟩ := root i n h2 h3 g
      by_cases hj0 : j < (f 0).nx
      · rcases j3 with rfl | j3
        · omega
        · exact .inr ⟨j, hj0, wrotek j j3, eb j n j2⟩
      · exact keyl j n (by omega) (.inl j1) j2
    · exact .inl (Nat.le_trans h.size (by omega))
  refine ⟨b', ?_, ?_, ?_, ?_, ?_, ?_, ?_, ?_, ?_, ?_, hc.fr.os.trans h.os, hc.fr.tape.trans h.tape, hc.fr.output.trans h.output, Nat.le_trans h.size hc.fr.size, ?_, h.out.trans (SameOut.put a hput z), h.z⟩
  · intro i hi
    rw [b1 i (by omega)]; exact h.ext i hi
  · intro i j n hi hj hbi hbj
    rcases lives i hi with ⟨g1, g2, n1, g3, g4⟩ | ⟨g1, g2, n1, g3, g4⟩ <;> rcases lives j hj with ⟨r1, r2, n2, r3, r4⟩ | ⟨r1, r2, n2, r3, r4⟩
    · rw [g4] at hbi; cases hbi
      rw [r4] at hbj; cases hbj
      exact hc.inj i j n g2 r2 g3 r3
    · rw [g4] at hbi; cases hbi
      rw [r4] at hbj; cases hbj
      obtain ⟨x, x1, x2, _, x3⟩ := root i n (.inl g2) g3 (h.sz j n r2 r3)
      have := h.inj x j n x1 r2 x2 r3
      subst this
      rcases x3 with rfl | x3
      · rfl
      · rw [hf.tu x x3] at r1; cases r1
    · rw [g4] at hbi; cases hbi
      rw [r4] at hbj; cases hbj
      obtain ⟨x, x1, x2, _, x3⟩ := root j n (.inl r2) r3 (h.sz i n g2 g3)
      have := h.inj x i n x1 g2 x2 g3
      subst this
      rcases x3 with rfl | x3
      · rfl
      · rw [hf.tu x x3] at g1; cases g1
    · rw [g4] at hbi; cases hbi
      rw [r4] at hbj; cases hbj
      exact h.inj i j n g2 r2 g3 r3
  · intro i n hi hbi
    rcases lives i hi with ⟨g1, g2, n1, g3, g4⟩ | ⟨g1, g2, n1, g3, g4⟩
    · rw [g4] at hbi; cases hbi
      exact hc.sz i n g2 g3
    · rw [g4] at hbi; cases hbi
      exact Nat.lt_of_lt_of_le (h.sz i n g2 g3) hc.fr.size
  · intro i n hi
    rcases bcases i n hi with g1 | ⟨g1, g2, g3⟩
    · rcases h.own i n g1 with q | ⟨j, q1, q2⟩
      · exact .inl q
      · exact .inr ⟨j, .inl q1, q2⟩
    · exact .inr ⟨k, .inr rfl, hkl, g2, g3⟩
  · intro i n hi0 hi hbi
    rcases hi with hi | hi
    · rcases lives i hi with ⟨g1, g2, n1, g3, g4⟩ | ⟨g1, g2, n1, g3, g4⟩
      · rw [g4] at hbi; cases hbi
        exact keyc i n hi0 (.inl g2) g3
      · rw [g4] at hbi; cases hbi
        exact keyl i n hi0 (.inl g2) g3
    · rcases wrote i hi with ⟨g1, n1, g3, g4⟩ | ⟨g1, n1, g3, g4⟩
      · rw [g4] at hbi; cases hbi
        exact keyl i n hi0 (.inr g1) g3
      · rw [g4] at hbi; cases hbi
        exact keyc i n hi0 (.inr g1) g3
  · intro j hj hb
    rcases wrote j hb with ⟨g1, _⟩ | ⟨g1, _⟩
    · exact h.m1 j hj g1
    · exact h.m3 j hj (hlv j (hc.m1 j (by simp only; omega) g1))
  · intro j hj hl
    rcases lives j hl with ⟨_, g2, _⟩ | ⟨_, g2, _⟩
    · exact h.m3 j hj (hlv j (hc.m3 j (by simp only; omega) g2))
    · exact h.m3 j hj g2
  · intro j hb
    rcases wrote j hb with ⟨_, n, _, g⟩ | ⟨_, n, _, g⟩
    · exact ⟨n, g⟩
    · exact ⟨n, g⟩
  · intro i hi t x hp hx'
    rw [put_size]
    by_cases q : o.dst = some t
    · have hki : k < i := ((hp k o ho q).1 (.inr rfl))
      have hval : (f i).tm.get t = some (v k) := by
        rw [ht.tmStay (i := k + 1) (j := i) (by omega) hi ?_, hf.tm t, if_pos q]
        intro j o' h1 h2 ho' hdst
        have hjl : j < all.length := (List.getElem?_eq_some_iff.1 ho').1
        have hSj : S j := ((hp j o' ho' hdst).2 h2).resolve_right (by omega)
        obtain ⟨o2, m', ho2, hm', _⟩ := ht.fact j hjl
        rw [ho'] at ho2; cases ho2
        cases q2 : bitOn m' k
        · exact (apart_dst (ht.plan.apart j o' m' ho' hm' k o (by omega) ho q2)).2.2 t hdst q
        · exact hk (hS j m' hjl hSj hm' k q2)
      rw [hval] at hx'; cases hx'
      have hsz := hw t (hput t q)
      rw [q, put_get _ _ _ _ hsz, if_pos rfl]
      refine ⟨hsz, hr.mono ?_⟩
      intro y n hy
      have hlt := hc.lt y n hy
      have := ht.nx (i := k + 1) (j := i) (by omega) hi
      unfold cut
      simp only at hlt
      rw [if_pos (by omega)]
      exact ec y n hy
    · have hp2 : ∀ (j : Nat) (o' : Oper), all[j]? = some o' → o'.dst = some t → (S j ↔ j < i) := by
        intro j o' ho' hdst
        have hne : j ≠ k := by
          intro g; subst g; rw [ho] at ho'; cases ho'; exact q hdst
        exact (S' j hne).symm.trans (hp j o' ho' hdst)
      obtain ⟨g1, g2⟩ := h.tm i hi t x hp2 hx'
      refine ⟨g1, ?_⟩
      have hsame : (a.put o.dst z).tmps.getD t undef = a.tmps.getD t undef := by
        cases hdst : o.dst with
        | none => rfl
        | some x => rw [put_get _ _ _ _ (hw x (hput x hdst)), if_neg (by intro g; subst g; exact q hdst)]
      rw [hsame]
      exact g2.mono (cut_ext (Nat.le_refl _) fun y n _ hy => eb y n hy)
  · intro i hi id blk hp hb
    rcases lives id ⟨i, hi, hp, blk, hb⟩ with ⟨q, g2, n, g3, g4⟩ | ⟨q, g2, n, g3, g4⟩
    · have hki : k < i := ((hp k hkl q).1 (.inr rfl))
      have hval : getB (f i).hp id = getB h' id := by
        rw [ht.hpStay (i := k + 1) (j := i) (by omega) hi ?_, hhp id q]
        intro j h1 h2
        cases q3 : bitOn (d j).touch id
        · rfl
        · have hSj : S j := ((hp j (by omega) q3).2 h2).resolve_right (by omega)
          obtain ⟨o2, m', ho2, hm', hf'⟩ := ht.fact j (by omega)
          cases q2 : bitOn m' k
          · rw [((hf'.un k (by omega) q2 id).1 q).1] at q3; cases q3
          · exact absurd (hS j m' (by omega) hSj hm' k q2) hk
      rw [hval] at hb
      obtain ⟨n', hn', hbk⟩ := hc.hp id blk hb
      refine ⟨n', ec id n' hn', hbk.same ?_ rfl⟩
      intro y n hy
      have hlt := hc.lt y n hy
      have := ht.nx (i := k + 1) (j := i) (by omega) hi
      unfold cut
      simp only at hlt
      rw [if_pos (by omega)]
      exact ec y n hy
    · have hp2 : ∀ j, j < all.length → bitOn (d j).touch id = true → (S j ↔ j < i) := by
        intro j hjl htc
        have hne : j ≠ k := by
          intro g; subst g; rw [q] at htc; cases htc
        exact (S' j hne).symm.trans (hp j hjl htc)
      obtain ⟨n', hn', hbk⟩ := h.hp i hi id blk hp2 hb
      exact ⟨n', eb id n' hn', hbk.same (cut_ext (Nat.le_refl _) fun y n _ hy => eb y n hy) (heap id n' g2 q hn')⟩
  · intro n hn hh
    rw [hc.fr.block n (Nat.lt_of_lt_of_le hn h.size) fun i hi hcn => ?_]
    · refine h.block n hn fun i hi hbn => ?_
      exact hh i (wrote' i hi) (eb i n hbn)
    · exact hh i (wrotek i hi) (ec i n hcn)
end
end Go.Proofs.YtpkclnkibhgpkaaGreat.Sx
