/-
The operations that load, store and make memory do what the run tells of them. Its conditions: that the tables of types tell the program's types.
-/
import Derived.Test.YtpkclnkibhgpkaaGreatXJ
import Derived.Laws.IdiomCopy
import Derived.Great.BuildSlice
namespace Go.Proofs.YtpkclnkibhgpkaaGreat.Sx
open Go Go.RowKit
variable {P : Program}

/-- cells laid, all else as it was -/
structure SetL (w : World) (b off : Nat) (us : List Value) (w' : World) : Prop where
  os : w'.os = w.os
  tape : w'.tape = w.tape
  output : w'.output = w.output
  size : w'.heap.size = w.heap.size
  block : ∀ k, k ≠ b → w'.heap[k]? = w.heap[k]?
  frozen : ∀ x, w'.frozen? x = w.frozen? x
  inn : ∀ j, j < us.length → w'.cell? ⟨b, off + j, none⟩ = us[j]?
  out : ∀ j, (j < off ∨ off + us.length ≤ j) → w'.cell? ⟨b, j, none⟩ = w.cell? ⟨b, j, none⟩
theorem setCells_facts' (b : Nat) : ∀ (vs : List Value) (o : Nat) (w : World), (w.setCells b o vs).os = w.os ∧ (w.setCells b o vs).tape = w.tape ∧ (w.setCells b o vs).output = w.output ∧ (w.setCells b o vs).heap.size = w.heap.size ∧
    ∀ k, k ≠ b → (w.setCells b o vs).heap[k]? = w.heap[k]?
  | [], _, _ => ⟨rfl, rfl, rfl, rfl, fun _ _ => rfl⟩
  | v :: r, o, w => by
    obtain ⟨h1, h2, h3, h4, h5⟩ := setCells_facts' b r (o + 1) (w.setCell ⟨b, o, none⟩ v)
    rw [World.setCells]
    refine ⟨h1, h2, h3, by rw [h4]; simp [World.setCell], fun k hk => ?_⟩
    rw [h5 k hk, Below.heap_setCell _ _ _ _ (by simpa using hk)]
theorem setL_mk {w : World} {b off : Nat} {us : List Value} (hc : ∀ j, j < us.length → (w.cell? ⟨b, off + j, none⟩).isSome = true) : SetL w b off us (w.setCells b off us) := by
  obtain ⟨h1, h2, h3, h4, h5⟩ := setCells_facts' b us off w
  refine ⟨h1, h2, h3, h4, h5, World.frozen?_setCells b _ _ _, fun j hj => ?_, fun j hj => World.cell?_setCells_out b _ _ _ _ (by simp; omega)⟩
  rw [World.cell?_setCells_in b us off w hc j hj, List.getElem?_eq_getElem hj]
theorem storeVar_run [Sh] {t : Nat} {d : TyD} (hd : TyOK P t d) {w : World} {b off : Nat} {v : Value} (hn : v.cells.size = d.size) (hc : ∀ j, j < v.cells.size → (w.cell? ⟨b, off + j, none⟩).isSome = true) (hf : ∀ j, j < v.cells.size → w.frozen? ⟨b, off + j, none⟩ = false) (h1 : ∀ u ∈ v.cells.toList, u.oneCell' = true) :
    ∃ w', SetL w b off v.cells.toList w' ∧ (storeVar t ⟨b, off, none⟩ v).run P w = .ok () w' := by
  refine ⟨_, setL_mk (by simpa using hc), ?_⟩
  have hst := run_storeCells_cells (P := P) b off v.cells.toList 0 w (by simpa using hc) (by simpa using hf) h1
  unfold storeVar
  rw [bind_run (hd.size_run w)]
  simp only [Nat.add_zero] at hst
  rw [if_neg (by rw [hn]; simp)]
  exact hst
theorem getB_setB {hp : List (Nat × Blk)} {id : Nat} {x : Blk} : ∀ {j : Nat}, getB (setB hp id x) j = if j = id ∧ (getB hp id).isSome = true then some x else getB hp j := by
  induction hp with
  | nil => intro j; simp [setB, getB]
  | cons p r ih =>
    obtain ⟨i, b⟩ := p
    intro j
    simp only [setB]
    cases g : Nat.beq i id
    · have e : i ≠ id := fun q => by rw [beq_iff.2 q] at g; cases g
      simp only [cond_false, getB]
      cases q : Nat.beq i j
      · simp only [cond_false, g, ih]
      · rw [beq_iff] at q; subst q
        simp [e]
    · rw [beq_iff] at g; subst g
      have e : Nat.beq i i = true := beq_iff.2 rfl
      simp only [cond_true, getB, e]
      cases q : Nat.beq i j
      · have e2 : ¬ (j = i) := fun h => by rw [beq_iff.2 h.symm] at q; cases q
        simp [e2]
      · rw [beq_iff] at q; subst q; simp
theorem FA2.all {α β : Type} {R : α → β → Prop} {l : List α} {m : List β} (h : FA2 R l m) {p : β → Prop} (hp : ∀ a b, R a b → p b) : ∀ b ∈ m, p b := by
  induction h with
  | nil => intro b hb; cases hb
  | cons a _ ih => intro b hb; rcases List.mem_cons.1 hb with rfl | hb; exact hp _ _ a; exact ih b hb
theorem World.cell_lt {w : World} {n o : Nat} {v : Value} (h : w.cell? ⟨n, o, none⟩ = some v) : n < w.heap.size := World.block_lt_of_cell? w _ h
theorem live_setB {l : List (Nat × Blk)} {id : Nat} {k : Blk} {j : Nat} : Live (setB l id k) j ↔ Live l j := by
  unfold Live
  simp only [getB_setB]
  by_cases e : j = id ∧ (getB l id).isSome = true
  · rw [if_pos e]
    obtain ⟨rfl, e2⟩ := e
    exact ⟨fun _ => Option.isSome_iff_exists.1 e2, fun _ => ⟨_, rfl⟩⟩
  · rw [if_neg e]
/-- a store into a told block -/
theorem Conc.set [Sh] {w0 : World} {n0 : Base} {b : Nat → Option Nat} {s : St} {a : Act} {w : World} (h : Conc w0 n0 b s a w) {id n o : Nat} {bk : Blk} {new l : List SC} {us : List Value} {w' : World} (hg : getB s.hp id = some bk) (hn : b id = some n)
    (hl : layL o bk.cells new = some l) (hu : FA2 (RepC b) new us) (hw : SetL w n ((Sh.sh id + bk.off) + o) us w') : Conc w0 n0 b ⟨s.tm, setB s.hp id ⟨bk.off, l, bk.wr, bk.ap⟩, s.nx, Nat.lor s.wr (bit1 id)⟩ a w' := by
  obtain ⟨l1, l2, l3⟩ := layL_some _ _ _ _ hl
  have hul := fa2_len hu
  have hlive : Live s.hp id := ⟨bk, hg⟩
  have hthere : ∀ x, (w'.cell? ⟨n, x, none⟩).isSome = (w.cell? ⟨n, x, none⟩).isSome := by
    intro x
    by_cases c : (Sh.sh id + bk.off) + o ≤ x ∧ x < (Sh.sh id + bk.off) + o + us.length
    · have hlt : x - ((Sh.sh id + bk.off) + o) < us.length := by omega
      have e1 := hw.inn (x - ((Sh.sh id + bk.off) + o)) hlt
      rw [show (Sh.sh id + bk.off) + o + (x - ((Sh.sh id + bk.off) + o)) = x by omega, List.getElem?_eq_getElem hlt] at e1
      rw [e1]
      obtain ⟨n', hn', vs, h1, h2, h3⟩ := h.hp id bk hg
      rw [hn] at hn'; cases hn'
      have hvl := fa2_len h1
      have hx : x - (Sh.sh id + bk.off) < vs.length := by
        rcases l2 with l2 | l2
        · rw [l2] at hul; simp at hul; omega
        · omega
      have := h2 (x - (Sh.sh id + bk.off)) _ (List.getElem?_eq_getElem hx)
      rw [show (Sh.sh id + bk.off) + (x - (Sh.sh id + bk.off)) = x by omega] at this
      rw [this]; rfl
    · rw [hw.out x (by omega)]
  refine ⟨h.tm, fun j k hk => ?_, fun i j m hi hj => h.inj i j m (live_setB.1 hi) (live_setB.1 hj), h.lt, fun i m hi hbi => by rw [hw.size]; exact h.sz i m (live_setB.1 hi) hbi, fun i m hi0 hi hbi => ?_, fun j hj hb => ?_, fun j hj hl => h.m3 j hj (live_setB.1 hl), fun j hb => ?_, ?_, h.nx, h.z⟩
  · simp only [getB_setB] at hk
    by_cases e : j = id
    · subst e
      rw [if_pos ⟨rfl, by rw [hg]; rfl⟩] at hk
      cases hk
      obtain ⟨n', hn', vs, h1, h2, h3, h4⟩ := h.hp j bk hg
      rw [hn] at hn'; cases hn'
      have hvl := fa2_len h1
      have hnew : ∀ i : Nat, i < l.length → ∃ v, w'.cell? ⟨n, (Sh.sh j + bk.off) + i, none⟩ = some v ∧ ∀ c, l[i]? = some c → RepC b c v := by
        intro i hi
        by_cases c : o ≤ i ∧ i < o + new.length
        · have hlt : i - o < us.length := by omega
          have e1 := hw.inn (i - o) hlt
          rw [show (Sh.sh j + bk.off) + o + (i - o) = (Sh.sh j + bk.off) + i by omega, List.getElem?_eq_getElem hlt] at e1
          refine ⟨_, e1, fun c' hc' => ?_⟩
          rw [l3 i, if_pos c] at hc'
          obtain ⟨v, hv, hr⟩ := fa2_get hu _ _ hc'
          rw [List.getElem?_eq_getElem hlt] at hv
          cases hv; exact hr
        · have hlt : i < vs.length := by omega
          have e1 := h2 i _ (List.getElem?_eq_getElem hlt)
          refine ⟨vs[i], ?_, fun c' hc' => ?_⟩
          · rw [hw.out ((Sh.sh j + bk.off) + i) (by omega), e1]
          · rw [l3 i, if_neg c] at hc'
            obtain ⟨v, hv, hr⟩ := fa2_get h1 _ _ hc'
            rw [List.getElem?_eq_getElem hlt] at hv
            cases hv; exact hr
      refine ⟨n, hn, (List.range l.length).map (fun i => ((w'.cell? ⟨n, (Sh.sh j + bk.off) + i, none⟩).getD undef)), fa2_mk (by simp) fun i c v hc hv => ?_, fun i v hv => ?_, fun hwr i hi => ?_, fun ha => ?_⟩
      · have hi : i < l.length := (List.getElem?_eq_some_iff.1 hc).1
        obtain ⟨u, hu1, hu2⟩ := hnew i hi
        rw [List.getElem?_map, List.getElem?_range hi] at hv
        simp only [Option.map_some, hu1, Option.getD_some, Option.some.injEq] at hv
        subst hv; exact hu2 c hc
      · have hi : i < l.length := by have := (List.getElem?_eq_some_iff.1 hv).1; simpa using this
        obtain ⟨u, hu1, hu2⟩ := hnew i hi
        rw [List.getElem?_map, List.getElem?_range hi] at hv
        simp only [Option.map_some, hu1, Option.getD_some, Option.some.injEq] at hv
        subst hv; exact hu1
      · rw [hw.frozen]
        exact h3 hwr i (by simp at hi; omega)
      · obtain ⟨r1, c, r2, r3⟩ := h4 ha
        refine ⟨r1, c, r2, fun x hx => ?_⟩
        obtain ⟨r4, r5⟩ := r3 x hx
        exact ⟨by rw [hthere]; exact r4, by rw [hw.frozen]; exact r5⟩
    · rw [if_neg (by intro q; exact e q.1)] at hk
      obtain ⟨n', hn', hb⟩ := h.hp j k hk
      refine ⟨n', hn', hb.same (fun _ _ q => q) (hw.block n' ?_)⟩
      intro q; subst q
      exact e (h.inj j id n' ⟨k, hk⟩ hlive hn' hn)
  · have key : (Live s.hp i ∨ bitOn s.wr i = true) → w0.heap.size ≤ m ∨ ∃ j, j < n0.n ∧ bitOn (Nat.lor s.wr (bit1 id)) j = true ∧ b j = some m := by
      intro g
      rcases h.nw i m hi0 g hbi with r | ⟨j, r1, r2, r3⟩
      · exact .inl r
      · exact .inr ⟨j, r1, by rw [bitOn_lor, r2]; rfl, r3⟩
    rcases hi with hi | hi
    · exact key (.inl (live_setB.1 hi))
    · simp only [bitOn_lor, bitOn_bit1, Bool.or_eq_true, decide_eq_true_eq] at hi
      rcases hi with hi | rfl
      · exact key (.inr hi)
      · exact key (.inl hlive)
  · simp only [bitOn_lor, bitOn_bit1, Bool.or_eq_true, decide_eq_true_eq] at hb
    rcases hb with hb | rfl
    · exact h.m1 j hj hb
    · exact h.m3 _ hj hlive
  · simp only [bitOn_lor, bitOn_bit1, Bool.or_eq_true, decide_eq_true_eq] at hb
    rcases hb with hb | rfl
    · exact h.wl j hb
    · exact ⟨n, hn⟩
  · have hf := h.fr
    refine ⟨hw.os.trans hf.os, hw.tape.trans hf.tape, hw.output.trans hf.output, by rw [hw.size]; exact hf.size, fun m hm hh => ?_⟩
    rw [hw.block m ?_]
    · exact hf.block m hm fun i hi => hh i (by rw [bitOn_lor, hi]; rfl)
    · intro q; subst q
      exact hh id (by rw [bitOn_lor, bitOn_bit1]; simp) hn
/-- a block that is marked: its cells stay; it is written no more -/
structure Marked (w : World) (n : Nat) (w' : World) : Prop where
  os : w'.os = w.os
  tape : w'.tape = w.tape
  output : w'.output = w.output
  size : w'.heap.size = w.heap.size
  block : ∀ m, m ≠ n → w'.heap[m]? = w.heap[m]?
  cell : ∀ x, w'.cell? ⟨n, x, none⟩ = w.cell? ⟨n, x, none⟩
theorem Conc.mark [Sh] {w0 : World} {n0 : Base} {b : Nat → Option Nat} {s : St} {a : Act} {w : World} (h : Conc w0 n0 b s a w) {id n : Nat} {bk : Blk} {w' : World} (hg : getB s.hp id = some bk) (hn : b id = some n) (hw : Marked w n w') :
    Conc w0 n0 b ⟨s.tm, setB s.hp id ⟨bk.off, bk.cells, false, 0⟩, s.nx, Nat.lor s.wr (bit1 id)⟩ a w' := by
  have hlive : Live s.hp id := ⟨bk, hg⟩
  refine ⟨h.tm, fun j k hk => ?_, fun i j m hi hj => h.inj i j m (live_setB.1 hi) (live_setB.1 hj), h.lt, fun i m hi hbi => by rw [hw.size]; exact h.sz i m (live_setB.1 hi) hbi, fun i m hi0 hi hbi => ?_, fun j hj hb => ?_, fun j hj hl => h.m3 j hj (live_setB.1 hl), fun j hb => ?_, ?_, h.nx, h.z⟩
  · simp only [getB_setB] at hk
    by_cases e : j = id
    · subst e
      rw [if_pos ⟨rfl, by rw [hg]; rfl⟩] at hk
      cases hk
      obtain ⟨n', hn', vs, h1, h2, h3, h4⟩ := h.hp j bk hg
      rw [hn] at hn'; cases hn'
      exact ⟨n, hn, vs, h1, fun i v hv => (hw.cell _).trans (h2 i v hv), fun q => (by cases q), fun q => absurd rfl q⟩
    · rw [if_neg (by intro q; exact e q.1)] at hk
      obtain ⟨n', hn', hb⟩ := h.hp j k hk
      refine ⟨n', hn', hb.same (fun _ _ q => q) (hw.block n' ?_)⟩
      intro q; subst q
      exact e (h.inj j id n' ⟨k, hk⟩ hlive hn' hn)
  · have key : (Live s.hp i ∨ bitOn s.wr i = true) → w0.heap.size ≤ m ∨ ∃ j, j < n0.n ∧ bitOn (Nat.lor s.wr (bit1 id)) j = true ∧ b j = some m := by
      intro g
      rcases h.nw i m hi0 g hbi with r | ⟨j, r1, r2, r3⟩
      · exact .inl r
      · exact .inr ⟨j, r1, by rw [bitOn_lor, r2]; rfl, r3⟩
    rcases hi with hi | hi
    · exact key (.inl (live_setB.1 hi))
    · simp only [bitOn_lor, bitOn_bit1, Bool.or_eq_true, decide_eq_true_eq] at hi
      rcases hi with hi | rfl
      · exact key (.inr hi)
      · exact key (.inl hlive)
  · simp only [bitOn_lor, bitOn_bit1, Bool.or_eq_true, decide_eq_true_eq] at hb
    rcases hb with hb | rfl
    · exact h.m1 j hj hb
    · exact h.m3 _ hj hlive
  · simp only [bitOn_lor, bitOn_bit1, Bool.or_eq_true, decide_eq_true_eq] at hb
    rcases hb with hb | rfl
    · exact h.wl j hb
    · exact ⟨n, hn⟩
  · have hf := h.fr
    refine ⟨hw.os.trans hf.os, hw.tape.trans hf.tape, hw.output.trans hf.output, by rw [hw.size]; exact hf.size, fun m hm hh => ?_⟩
    rw [hw.block m ?_]
    · exact hf.block m hm fun i hi => hh i (by rw [bitOn_lor, hi]; rfl)
    · intro q; subst q
      exact hh id (by rw [bitOn_lor, bitOn_bit1]; simp) hn
theorem marked_freeze (w : World) (n o k : Nat) : Marked w n (w.freeze ⟨n, o, none⟩ k) := by
  unfold World.freeze
  split
  · exact ⟨rfl, rfl, rfl, rfl, fun _ _ => rfl, fun _ => rfl⟩
  · refine ⟨rfl, rfl, rfl, by simp, fun m hm => ?_, fun x => ?_⟩
    · simp only [Array.getElem?_modify]
      rw [if_neg (by intro e; exact hm e.symm)]
    · simp only [World.cell?, Array.getElem?_modify, if_true]
      cases w.heap[n]? with
      | none => rfl
      | some o =>
        cases o <;> rfl
theorem run_convert_same {P : Program} (w : World) (t el : Nat) (n o m c : Nat) (ht : P.underlying t = some (.slice el)) (hel : P.underlying el = some (.int .u8)) :
    ∃ w', (convert t t (.slice (some ⟨n, o, none⟩) m c)).run P w = .ok (.slice (some ⟨n, o, none⟩) m c) w' ∧ Marked w n w' := by
  unfold convert
  rw [bind_run (run_underlying ht w), bind_run (run_underlying ht w)]
  simp only [beq_self_eq_true]
  rw [bind_run (run_underlying hel w)]
  simp only [markStringish, shape, Sem.run_bind]
  cases q : w.shape? n with
  | none =>
    refine ⟨w, ?_, rfl, rfl, rfl, rfl, fun _ _ => rfl, fun _ => rfl⟩
    simp [Sem.run, q]
  | some p =>
    obtain ⟨ty, sz⟩ := p
    refine ⟨w.freeze ⟨n, sz, none⟩ 1, ?_, marked_freeze w n sz 1⟩
    simp [Sem.run, q, freeze]
theorem getB_remB {id j : Nat} : ∀ l : List (Nat × Blk), getB (remB l id) j = if j = id then none else getB l j
  | [] => by simp [remB, getB]
  | (i, k) :: r => by
    have ih := getB_remB (id := id) (j := j) r
    simp only [remB]
    cases q : Nat.beq i id
    · have hne : i ≠ id := fun e => by rw [beq_iff.2 e] at q; cases q
      rw [cond_false]
      simp only [getB]
      cases q2 : Nat.beq i j
      · rw [cond_false, cond_false, ih]
      · rw [beq_iff] at q2; subst q2
        rw [if_neg hne]; rfl
    · rw [beq_iff] at q; subst q
      rw [cond_true, ih]
      by_cases e : j = i
      · rw [if_pos e, if_pos e]
      · rw [if_neg e, if_neg e]
        simp only [getB]
        cases q2 : Nat.beq i j
        · rfl
        · rw [beq_iff] at q2; exact absurd q2.symm e
theorem live_remB {l : List (Nat × Blk)} {id j : Nat} : Live (remB l id) j ↔ j ≠ id ∧ Live l j := by
  unfold Live
  simp only [getB_remB]
  by_cases e : j = id
  · simp [e]
  · simp [e]
/-- what is known of a block is dropped, and counts as written -/
theorem Conc.drop [Sh] {w0 : World} {n0 : Base} {b : Nat → Option Nat} {s : St} {a : Act} {w : World} (h : Conc w0 n0 b s a w) {id : Nat} (hlive : Live s.hp id) : Conc w0 n0 b ⟨s.tm, remB s.hp id, s.nx, Nat.lor s.wr (bit1 id)⟩ a w := by
  obtain ⟨n, hn, _, _⟩ := h.known hlive
  refine ⟨h.tm, fun j k hk => ?_, fun i j m hi hj => h.inj i j m (live_remB.1 hi).2 (live_remB.1 hj).2, h.lt, fun i m hi hbi => h.sz i m (live_remB.1 hi).2 hbi, fun i m hi0 hi hbi => ?_, fun j hj hb => ?_, fun j hj hl => h.m3 j hj (live_remB.1 hl).2, fun j hb => ?_, ?_, h.nx, h.z⟩
  · simp only [getB_remB] at hk
    by_cases e : j = id
    · rw [if_pos e] at hk; cases hk
    · rw [if_neg e] at hk; exact h.hp j k hk
  · have key : (Live s.hp i ∨ bitOn s.wr i = true) → w0.heap.size ≤ m ∨ ∃ j, j < n0.n ∧ bitOn (Nat.lor s.wr (bit1 id)) j = true ∧ b j = some m := by
      intro g
      rcases h.nw i m hi0 g hbi with r | ⟨j, r1, r2, r3⟩
      · exact .inl r
      · exact .inr ⟨j, r1, by rw [bitOn_lor, r2]; rfl, r3⟩
    rcases hi with hi | hi
    · exact key (.inl (live_remB.1 hi).2)
    · simp only [bitOn_lor, bitOn_bit1, Bool.or_eq_true, decide_eq_true_eq] at hi
      rcases hi with hi | rfl
      · exact key (.inr hi)
      · exact key (.inl hlive)
  · simp only [bitOn_lor, bitOn_bit1, Bool.or_eq_true, decide_eq_true_eq] at hb
    rcases hb with hb | rfl
    · exact h.m1 j hj hb
    · exact h.m3 _ hj hlive
  · simp only [bitOn_lor, bitOn_bit1, Bool.or_eq_true, decide_eq_true_eq] at hb
    rcases hb with hb | rfl
    · exact h.wl j hb
    · exact ⟨n, hn⟩
  · have hf := h.fr
    exact ⟨hf.os, hf.tape, hf.output, hf.size, fun m hm hh => hf.block m hm fun i hi => hh i (by rw [bitOn_lor, hi]; rfl)⟩
/-- a row that goes on in its place, under a new number -/
theorem Conc.goOn [Sh] {w0 : World} {n0 : Base} {b : Nat → Option Nat} {s : St} {a : Act} {w : World} (h : Conc w0 n0 b s a w) {id n cap o : Nat} {bk k : Blk} {us : List Value} {w' : World} (hg : getB s.hp id = some bk) (hn : b id = some n)
    (hw : SetL w n o us w') (hk : BkOK (upd (upd b s.nx n) (s.nx + 1) cap) w' s.nx n k) :
    ∃ c, ExtN s.nx b c ∧ c s.nx = some n ∧ c (s.nx + 1) = some cap ∧ Conc w0 n0 c ⟨s.tm, (s.nx, k) :: remB s.hp id, Nat.succ (Nat.succ s.nx), Nat.lor s.wr (bit1 id)⟩ a w' := by
  have hlive : Live s.hp id := ⟨bk, hg⟩
  have hid := h.lt id n hn
  have hx : ExtN s.nx b (upd (upd b s.nx n) (s.nx + 1) cap) := fun i hi => by rw [upd_ne _ _ (by omega), upd_ne _ _ (by omega)]
  have hE := h.ext hx
  have e1 : upd (upd b s.nx n) (s.nx + 1) cap s.nx = some n := by rw [upd_ne _ _ (by omega), upd_at]
  have e2 : upd (upd b s.nx n) (s.nx + 1) cap (s.nx + 1) = some cap := upd_at _ _ _
  refine ⟨_, hx, e1, e2, ?_⟩
  generalize hc : upd (upd b s.nx n) (s.nx + 1) cap = c at *
  have lives : ∀ i, Live ((s.nx, k) :: remB s.hp id) i → i = s.nx ∨ (i < s.nx ∧ i ≠ id ∧ Live s.hp i ∧ c i = b i) := by
    intro i hi
    rcases live_cons.1 hi with g | ⟨_, g⟩
    · exact .inl g.symm
    · obtain ⟨g1, g2⟩ := live_remB.1 g
      obtain ⟨_, _, g3, _⟩ := h.known g2
      exact .inr ⟨g3, g1, g2, hx i g3⟩
  have hb0 := h.nx
  have hne : ∀ i m, i ≠ id → Live s.hp i → b i = some m → m ≠ n := fun i m hi hl hb e => hi (h.inj i id n hl hlive (e ▸ hb) hn)
  have key : ∀ i m, n0.n ≤ i → (Live s.hp i ∨ bitOn s.wr i = true) → b i = some m → w0.heap.size ≤ m ∨ ∃ j, j < n0.n ∧ bitOn (Nat.lor s.wr (bit1 id)) j = true ∧ c j = some m := by
    intro i m hi0 g hbi
    rcases h.nw i m hi0 g hbi with r | ⟨j, r1, r2, r3⟩
    · exact .inl r
    · exact .inr ⟨j, r1, by rw [bitOn_lor, r2]; rfl, hE _ _ r3⟩
  have keyid : w0.heap.size ≤ n ∨ ∃ j, j < n0.n ∧ bitOn (Nat.lor s.wr (bit1 id)) j = true ∧ c j = some n := by
    by_cases q : id < n0.n
    · exact .inr ⟨id, q, by rw [bitOn_lor, bitOn_bit1]; simp, hE _ _ hn⟩
    · exact key id n (by omega) (.inl hlive) hn
  refine ⟨fun t' x q => ⟨(h.tm t' x q).1, (h.tm t' x q).2.mono hE⟩, fun j k' hk' => ?_, fun i j m hi hj hbi hbj => ?_, fun i m hi => ?_, fun i m hi hbi => ?_, fun i m hi0 hi hbi => ?_, fun j hj hb => ?_, fun j hj hi => ?_, fun j hb => ?_, ?_, by simp only; omega, fun i hi => h.z i (by simp only at hi; omega)⟩
  · simp only [getB, getB_remB] at hk'
    cases g : Nat.beq s.nx j
    · rw [g] at hk'
      simp only [cond_false] at hk'
      by_cases e : j = id
      · rw [if_pos e] at hk'; cases hk'
      · rw [if_neg e] at hk'
        obtain ⟨m, hm, hb'⟩ := h.hp j k' hk'
        exact ⟨m, hE _ _ hm, hb'.same hE (hw.block m (hne j m e ⟨k', hk'⟩ hm))⟩
    · rw [g] at hk'
      rw [beq_iff] at g
      subst g
      cases hk'
      exact ⟨_, e1, hk⟩
  · rcases lives i hi with rfl | ⟨_, g0, g1, g2⟩ <;> rcases lives j hj with rfl | ⟨_, r0, r1, r2⟩
    · rfl
    · rw [e1] at hbi; cases hbi
      rw [r2] at hbj
      exact absurd rfl (hne j n r0 r1 hbj)
    · rw [e1] at hbj; cases hbj
      rw [g2] at hbi
      exact absurd rfl (hne i n g0 g1 hbi)
    · rw [g2] at hbi; rw [r2] at hbj
      exact h.inj i j m g1 r1 hbi hbj
  · by_cases q : i = s.nx ∨ i = s.nx + 1
    · simp only [Nat.succ_eq_add_one]; omega
    · rw [← hc, upd_ne _ _ (by omega), upd_ne _ _ (by omega)] at hi
      have := h.lt i m hi
      simp only [Nat.succ_eq_add_one]; omega
  · rw [hw.size]
    rcases lives i hi with rfl | ⟨_, g0, g1, g2⟩
    · rw [e1] at hbi; cases hbi; exact h.sz id n hlive hn
    · rw [g2] at hbi; exact h.sz i m g1 hbi
  · rcases hi with hi | hi
    · rcases lives i hi with rfl | ⟨_, g0, g1, g2⟩
      · rw [e1] at hbi; cases hbi; exact keyid
      · rw [g2] at hbi; exact key i m hi0 (.inl g1) hbi
    · simp only [bitOn_lor, bitOn_bit1, Bool.or_eq_true, decide_eq_true_eq] at hi
      rcases hi with hi | rfl
      · obtain ⟨m', hm'⟩ := h.wl i hi
        have := hE _ _ hm'
        rw [hbi] at this; cases this
        exact key i m hi0 (.inr hi) hm'
      · have := hE _ _ hn
        rw [hbi] at this; cases this
        exact keyid
  · simp only [bitOn_lor, bitOn_bit1, Bool.or_eq_true, decide_eq_true_eq] at hb
    rcases hb with hb | rfl
    · exact h.m1 j hj hb
    · exact h.m3 _ hj hlive
  · rcases lives j hi with rfl | ⟨_, g0, g1, g2⟩
    · omega
    · exact h.m3 j hj g1
  · simp only [bitOn_lor, bitOn_bit1, Bool.or_eq_true, decide_eq_true_eq] at hb
    rcases hb with hb | rfl
    · obtain ⟨m, hm⟩ := h.wl j hb
      exact ⟨m, hE _ _ hm⟩
    · exact ⟨n, hE _ _ hn⟩
  · have hf := h.fr
    refine ⟨hw.os.trans hf.os, hw.tape.trans hf.tape, hw.output.trans hf.output, by rw [hw.size]; exact hf.size, fun m hm hh => ?_⟩
    rw [hw.block m ?_]
    · exact hf.block m hm fun i hi hb => hh i (by rw [bitOn_lor, hi]; rfl) (hE _ _ hb)
    · intro q; subst q
      exact hh id (by rw [bitOn_lor, bitOn_bit1]; simp) (hE _ _ hn)
theorem BkOK.part [Sh] {b : Nat → Option Nat} {w : World} {id n : Nat} {k : Blk} (h : BkOK b w id n k) {t : Nat} {d : TyD} (hd : TyOK P t d) {o : Nat} {r : SV} (g : partS d k.cells o = some r) :
    ∃ v, (loadVar t ⟨n, Sh.sh id + k.off + o, none⟩).run P w = .ok v w ∧ RepV b r v := by
  obtain ⟨vs, h1, h2, h3⟩ := h
  unfold partS at g
  unfold loadVar
  rw [bind_run (hd.agg_run w)]
  cases ha : isAggD d.td
  · rw [ha] at g
    simp only [cond_false, nthL_eq] at g
    cases hc : k.cells[o]? with
    | none => rw [hc] at g; cases g
    | some c =>
      rw [hc] at g; cases g
      obtain ⟨v, hv, hr⟩ := fa2_get h1 o c hc
      refine ⟨v, ?_, hr⟩
      simp [load, Sem.run, h2 o v hv]
  · rw [ha] at g
    simp only [cond_true] at g
    cases hc : cutL o d.size k.cells with
    | none => rw [hc] at g; cases g
    | some m =>
      rw [hc] at g; cases g
      obtain ⟨rfl, hm⟩ := cutL_some hc
      have hf := fa2_take d.size (fa2_drop o h1)
      have hlen := fa2_len hf
      rw [hm] at hlen
      have hl : (loadCells ⟨n, Sh.sh id + k.off + o, none⟩ ((vs.drop o).take d.size).length).run P w = .ok ((vs.drop o).take d.size).toArray w := by
        refine run_loadCells_list (P := P) w _ _ fun j v hv => ?_
        have hj : j < d.size := by have := (List.getElem?_eq_some_iff.1 hv).1; omega
        rw [List.getElem?_take_of_lt hj, List.getElem?_drop] at hv
        rw [add_none, ← h2 _ _ hv, Nat.add_assoc]
      rw [← hlen] at hl
      simp only [if_true]
      rw [bind_run (hd.size_run w), bind_run hl]
      exact ⟨_, rfl, _, rfl, hf⟩
end Go.Proofs.YtpkclnkibhgpkaaGreat.Sx
