/-
A region whose order is drawn: the states of the run in the written order, and how far each operation reaches. Its conditions: none.
-/
import Derived.Test.YtpkclnkibhgpkaaGreatXV
namespace Go.Proofs.YtpkclnkibhgpkaaGreat.Sx
open Go Go.RowKit
variable {P : Program}

/-- one operation of such a run -/
def DStep (e : Env) (ih : Task → Option Tree) (all : List Oper) (bs : List Nat) (f : Nat → St) (v : Nat → ST) (d : Nat → DRec) (k : Nat) : Prop :=
  ∃ (o : Oper) (m un uv : Nat) (t : St), all[k]? = some o ∧ bs[k]? = some m ∧ (∀ x, bitOn un x = true ↔ ∃ j, j < k ∧ bitOn m j = false ∧ bitOn (d j).touch x = true) ∧ (∀ x, bitOn uv x = true ↔ ∃ j, j < k ∧ bitOn m j = false ∧ bitOn (d j).view x = true) ∧
    drawOne e ih all o un (f k) = some (v k, t, d k) ∧ (Nat.land (d k).touch uv = 0 ∧ Nat.land (d k).view un = 0 ∧ Nat.land (d k).touch un = 0) ∧ (Nat.shiftRight (d k).touch t.nx = 0 ∧ (f k).nx ≤ t.nx) ∧ f (k + 1) = putS o.dst (v k) ⟨t.tm, t.hp, t.nx, Nat.lor (f k).wr t.wr⟩
theorem drawAll_trace {e : Env} {ih : Task → Option Tree} {all : List Oper} {bs : List Nat} : ∀ {r : List Oper} {ds : List DRec} {i : Nat} {s s' : St}, drawAll e ih all bs r ds i s = some s' → all.drop i = r → ds.length = i →
    ∃ (f : Nat → St) (v : Nat → ST) (d : Nat → DRec), f i = s ∧ (∀ j, j < i → ds[j]? = some (d j)) ∧ f (i + r.length) = s' ∧ ∀ k, i ≤ k → k < i + r.length → DStep e ih all bs f v d k
  | [], ds, i, s, s', h, _, hl => by
    cases h
    refine ⟨fun _ => s, fun _ => undefT, fun j => (ds[j]?).getD ⟨0, 0⟩, rfl, fun j hj => ?_, rfl, fun k h1 h2 => ?_⟩
    · show ds[j]? = some ((ds[j]?).getD ⟨0, 0⟩)
      rw [List.getElem?_eq_getElem (by omega)]; rfl
    · simp at h2; omega
  | o :: r, ds, i, s, s', h, hd, hl => by
    obtain ⟨ho, hd'⟩ := drop_cons hd
    simp only [drawAll] at h
    split at h
    · cases h
    · rename_i m hm
      rw [nthL_eq] at hm
      split at h
      · cases h
      · rename_i vv tm hp nx wr dd hdr
        have hun := unOf_ok (m := m) (l := ds) (j := 0)
        obtain ⟨tm0, hp0, nx0, wr0⟩ := s
        cases q : (((Nat.beq (Nat.land dd.touch (unOf m ds 0).2) 0 && Nat.beq (Nat.land dd.view (unOf m ds 0).1) 0) && Nat.beq (Nat.land dd.touch (unOf m ds 0).1) 0) && (Nat.beq (Nat.shiftRight dd.touch nx) 0 && Nat.ble (getN ⟨tm0, hp0, nx0, wr0⟩) nx))
        · rw [q] at h; cases h
        · rw [q, cond_true] at h
          simp only [Bool.and_eq_true, beq_iff, ble_iff] at q
          obtain ⟨f, v, d, h1, h2, h3, h4⟩ := drawAll_trace h hd' (by simp [hl])
          have hdi : d i = dd := by
            have := h2 i (Nat.lt_succ_self i)
            rw [List.getElem?_append_right (by omega), hl, Nat.sub_self] at this
            simpa using this.symm
          have hdj : ∀ j, j < i → ds[j]? = some (d j) := by
            intro j hj
            have := h2 j (by omega)
            rw [List.getElem?_append_left (by omega)] at this
            exact this
          have key : ∀ (F : DRec → Prop), (∃ k d', ds[k]? = some d' ∧ bitOn m (0 + k) = false ∧ F d') ↔ ∃ j, j < i ∧ bitOn m j = false ∧ F (d j) := by
            intro F
            constructor
            · rintro ⟨k, d', g1, g2, g3⟩
              have hk : k < i := by rw [← hl]; exact (List.getElem?_eq_some_iff.1 g1).1
              rw [hdj k hk] at g1
              cases g1
              exact ⟨k, hk, by simpa using g2, g3⟩
            · rintro ⟨j, hj, g2, g3⟩
              exact ⟨j, d j, hdj j hj, by simpa using g2, g3⟩
          refine ⟨fun j => if j = i then ⟨tm0, hp0, nx0, wr0⟩ else f j, fun j => if j = i then vv else v j, d, by simp, hdj, ?_, ?_⟩
          · show (if i + (o :: r).length = i then _ else f (i + (o :: r).length)) = s'
            rw [if_neg (by simp), List.length_cons, ← h3]
            congr 1
            omega
          · intro k hk1 hk2
            by_cases e1 : k = i
            · subst e1
              refine ⟨o, m, (unOf m ds 0).1, (unOf m ds 0).2, ⟨tm, hp, nx, wr⟩, ho, hm, fun x => ?_, fun x => ?_, ?_, ?_, ?_, ?_⟩
              · rw [hun.1 x]; exact key _
              · rw [hun.2 x]; exact key _
              · simp only [if_pos]; rw [hdi]; exact hdr
              · rw [hdi]; exact ⟨q.1.1.1, q.1.1.2, q.1.2⟩
              · simp only [if_pos]; rw [hdi]; exact ⟨q.2.1, q.2.2⟩
              · simp only [if_pos]; rw [if_neg (by omega)]; exact h1
            · have := h4 k (by omega) (by simp at hk2 ⊢; omega)
              obtain ⟨o', m', un, uv, t, g1, g2, g3, g4, g5, g6, g7, g8⟩ := this
              refine ⟨o', m', un, uv, t, g1, g2, g3, g4, ?_, g6, ?_, ?_⟩
              · simp only [if_neg e1]; exact g5
              · simp only [if_neg e1]; exact g7
              · simp only [if_neg e1]; rw [if_neg (by omega)]; exact g8

theorem drawOne_ok {e : Env} {ih : Task → Option Tree} {all : List Oper} {o : Oper} {un : Nat} {s t : St} {v : ST} {d : DRec} (h : drawOne e ih all o un s = some (v, t, d)) :
    t.tm = s.tm ∧ ((guardB (restr s.tm (looks all o) .nil) all o.guard = some false ∧ v = undefT ∧ t = s ∧ d = ⟨0, 0⟩) ∨ (guardB (restr s.tm (looks all o) .nil) all o.guard = some true ∧ ∃ (hk : List (Nat × Blk)) (tm' : Tr ST) (h' : List (Nat × Blk)),
      viewOf (restr s.tm (looks all o) .nil) s.hp s.nx un (cls o.op) = (hk, d.view) ∧ oneOp e ih ⟨restr s.tm (looks all o) .nil, hk, s.nx, 0⟩ (cls o.op) = some (.leaf v ⟨tm', h', t.nx, t.wr⟩) ∧ (∀ x, bitOn t.wr x = true → bitOn d.touch x = true) ∧
        t.hp = bif Nat.beq d.touch 0 then s.hp else keepM d.touch h' ++ dropM d.touch s.hp)) := by
  obtain ⟨tm, hp, nx, wr⟩ := s
  unfold drawOne at h
  simp only at h
  split at h
  · cases h
  · rename_i hg
    cases h
    exact ⟨rfl, .inl ⟨hg, rfl, rfl, rfl⟩⟩
  · rename_i hg
    split at h
    · rename_i v' tm' h' nx' wr' ho
      cases h
      refine ⟨rfl, .inr ⟨hg, _, tm', h', rfl, ho, fun x hx => ?_, rfl⟩⟩
      simp only at hx ⊢
      rw [bitOn_lor, hx]; rfl
    · cases h
/-- what is known of one operation of such a run -/
structure DFact (e : Env) (ih : Task → Option Tree) (all : List Oper) (f : Nat → St) (v : Nat → ST) (d : Nat → DRec) (k : Nat) (o : Oper) (m u : Nat) : Prop where
  tm : ∀ t, (f (k + 1)).tm.get t = if o.dst = some t then some (v k) else (f k).tm.get t
  nx : (f k).nx ≤ (f (k + 1)).nx
  hp : ∀ id, bitOn (d k).touch id = false → getB (f (k + 1)).hp id = getB (f k).hp id
  tl : ∀ id, bitOn (d k).touch id = true → id < (f (k + 1)).nx
  wr : ∀ x, bitOn (f (k + 1)).wr x = true ↔ bitOn (f k).wr x = true ∨ bitOn u x = true
  tu : ∀ x, bitOn u x = true → bitOn (d k).touch x = true
  un : ∀ j, j < k → bitOn m j = false → ∀ x, (bitOn (d j).touch x = true → bitOn (d k).touch x = false ∧ bitOn (d k).view x = false) ∧ (bitOn (d j).view x = true → bitOn (d k).touch x = false)
  run : (guardB (restr (f k).tm (looks all o) .nil) all o.guard = some false ∧ v k = undefT ∧ (f (k + 1)).nx = (f k).nx ∧ (∀ id, bitOn (d k).touch id = false) ∧ u = 0) ∨
    (guardB (restr (f k).tm (looks all o) .nil) all o.guard = some true ∧ ∃ (hk h' : List (Nat × Blk)) (tm' : Tr ST), (∀ id b, getB hk id = some b → getB (f k).hp id = some b ∧ (id < (f k).nx → bitOn (d k).view id = true)) ∧
      oneOp e ih ⟨restr (f k).tm (looks all o) .nil, hk, (f k).nx, 0⟩ (cls o.op) = some (.leaf (v k) ⟨tm', h', (f (k + 1)).nx, u⟩) ∧
      ∀ id, bitOn (d k).touch id = true → getB (f (k + 1)).hp id = getB h' id)
theorem viewOf_ok {tm : Tr ST} {hp : List (Nat × Blk)} {nx un : Nat} {c : Cls} {hk : List (Nat × Blk)} {view : Nat} (h : viewOf tm hp nx un c = (hk, view)) : ∀ id b, getB hk id = some b → getB hp id = some b ∧ (id < nx → bitOn view id = true) := by
  have full : (bif Nat.beq un 0 then hp else dropM un hp, Nat.xor (Nat.sub (bit1 nx) 1) un) = (hk, view) → ∀ id b, getB hk id = some b → getB hp id = some b ∧ (id < nx → bitOn view id = true) := by
    intro q id b hb
    cases q
    cases q2 : Nat.beq un 0
    · rw [q2, cond_false, getB_dropM] at hb
      cases q3 : bitOn un id
      · rw [q3] at hb; exact ⟨hb, fun hi => bitOn_rest hi q3⟩
      · rw [q3] at hb; cases hb
    · rw [q2, cond_true] at hb
      rw [beq_iff] at q2; subst q2
      exact ⟨hb, fun hi => bitOn_rest hi (bitOn_zero _)⟩
  have one : ∀ p, oneB hp p = (hk, view) → ∀ id b, getB hk id = some b → getB hp id = some b ∧ (id < nx → bitOn view id = true) := by
    intro p q id b hb
    unfold oneB at q
    split at q
    · rename_i i
      split at q
      · rename_i b' hb'
        cases q
        rw [getB_cons] at hb
        cases q2 : Nat.beq i id
        · rw [q2] at hb; cases hb
        · rw [q2] at hb; cases hb
          rw [beq_iff] at q2; subst q2
          exact ⟨hb', fun _ => by rw [bitOn_bit1]; simp⟩
      · cases q; cases hb
    · cases q; cases hb
  unfold viewOf at h
  split at h
  · exact one _ h
  · exact one _ h
  · exact one _ h
  · exact full h
  · exact full h
  · cases h; intro id b hb; cases hb
theorem dstep_fact {e : Env} {ih : Task → Option Tree} {all : List Oper} {bs : List Nat} {f : Nat → St} {v : Nat → ST} {d : Nat → DRec} {k : Nat} (h : DStep e ih all bs f v d k) : ∃ o m u, all[k]? = some o ∧ bs[k]? = some m ∧ DFact e ih all f v d k o m u := by
  obtain ⟨o, m, un, uv, t, ho, hm, hun, huv, hdr, ⟨c1, c2, c3⟩, ⟨c4, c5⟩, hf⟩ := h
  obtain ⟨tm, hp, nx, wr⟩ := t
  have hnx : (f (k + 1)).nx = nx := by rw [hf, putS_nx]
  have hwr : (f (k + 1)).wr = Nat.lor (f k).wr wr := by rw [hf]; cases o.dst <;> rfl
  have hhp : (f (k + 1)).hp = hp := by rw [hf]; cases o.dst <;> rfl
  have un' : ∀ j, j < k → bitOn m j = false → ∀ x, (bitOn (d j).touch x = true → bitOn (d k).touch x = false ∧ bitOn (d k).view x = false) ∧ (bitOn (d j).view x = true → bitOn (d k).touch x = false) := by
    intro j hj hb x
    refine ⟨fun g => ?_, fun g => ?_⟩
    · have hu := (hun x).2 ⟨j, hj, hb, g⟩
      constructor
      · cases q : bitOn (d k).touch x
        · rfl
        · have := bitOn_land c3 q; rw [hu] at this; cases this
      · cases q : bitOn (d k).view x
        · rfl
        · have := bitOn_land c2 q; rw [hu] at this; cases this
    · have hu := (huv x).2 ⟨j, hj, hb, g⟩
      cases q : bitOn (d k).touch x
      · rfl
      · have := bitOn_land c1 q; rw [hu] at this; cases this
  have tl' : ∀ id, bitOn (d k).touch id = true → id < (f (k + 1)).nx := fun id hi => by rw [hnx]; exact bitOn_shr c4 hi
  have nx' : (f k).nx ≤ (f (k + 1)).nx := by rw [hnx]; exact c5
  have tmf : tm = (f k).tm → ∀ t, (f (k + 1)).tm.get t = if o.dst = some t then some (v k) else (f k).tm.get t := by
    intro e1 t
    rw [hf]
    cases o.dst with
    | none => simp [putS, e1]
    | some dd =>
      simp only [putS]
      rw [get_set, e1]
      by_cases q : t = dd
      · subst q; simp
      · rw [if_neg q, if_neg (by simpa using fun q2 => q q2.symm)]
  obtain ⟨q1, q2⟩ := drawOne_ok hdr
  have hp' : ∀ id, bitOn (d k).touch id = false → getB (f (k + 1)).hp id = getB (f k).hp id := by
    intro id hi
    rw [hhp]
    rcases q2 with ⟨_, _, q, _⟩ | ⟨_, hk, tm', h', _, _, _, q⟩
    · rw [← q]
    · simp only at q
      rw [q]
      cases q3 : Nat.beq (d k).touch 0
      · rw [cond_false, getB_app, getB_keepM, getB_dropM, hi]; rfl
      · rfl
  rcases q2 with ⟨g1, g2, q, q4⟩ | ⟨g1, hk, tm', h', g2, g3, g4, q⟩
  · refine ⟨o, m, 0, ho, hm, tmf q1, nx', hp', tl', fun x => ?_, fun x hx => ?_, un', .inl ⟨g1, g2, ?_, fun id => ?_, rfl⟩⟩
    · have : wr = (f k).wr := by rw [← q]
      rw [hwr, bitOn_lor, this, bitOn_zero, Bool.or_self]; simp
    · rw [bitOn_zero] at hx; cases hx
    · rw [hnx, ← q]
    · rw [q4]; exact bitOn_zero _
  · refine ⟨o, m, wr, ho, hm, tmf q1, nx', hp', tl', fun x => ?_, g4, un', .inr ⟨g1, hk, h', tm', viewOf_ok g2, ?_, fun id hi => ?_⟩⟩
    · rw [hwr, bitOn_lor, Bool.or_eq_true]
    · rw [hnx]; exact g3
    · rw [hhp]
      simp only at q
      rw [q]
      cases q3 : Nat.beq (d k).touch 0
      · rw [cond_false, getB_app, getB_keepM, getB_dropM, hi, if_pos rfl, if_pos rfl]
        cases getB h' id <;> rfl
      · rw [beq_iff] at q3; rw [q3, bitOn_zero] at hi; cases hi
/-- the states of such a run, taken together -/
structure Trace (e : Env) (ih : Task → Option Tree) (all : List Oper) (bs : List Nat) (f : Nat → St) (v : Nat → ST) (d : Nat → DRec) (u : Nat → Nat) : Prop where
  plan : PlanOK all bs
  fact : ∀ k, k < all.length → ∃ o m, all[k]? = some o ∧ bs[k]? = some m ∧ DFact e ih all f v d k o m (u k)
  start : ∀ id b, getB (f 0).hp id = some b → id < (f 0).nx
section
variable {e : Env} {ih : Task → Option Tree} {all : List Oper} {bs : List Nat} {f : Nat → St} {v : Nat → ST} {d : Nat → DRec} {u : Nat → Nat}
theorem Trace.nx (h : Trace e ih all bs f v d u) {i : Nat} : ∀ {j : Nat}, i ≤ j → j ≤ all.length → (f i).nx ≤ (f j).nx
  | 0, hi, hj => by obtain rfl : i = 0 := by omega
                    exact Nat.le_refl _
  | j + 1, hi, hj => by
    by_cases q : i = j + 1
    · subst q; exact Nat.le_refl _
    · obtain ⟨o, m, _, _, g⟩ := h.fact j (by omega)
      exact Nat.le_trans (h.nx (by omega) (by omega)) g.nx
theorem Trace.wr (h : Trace e ih all bs f v d u) {x : Nat} : ∀ {j : Nat}, j ≤ all.length → (bitOn (f j).wr x = true ↔ bitOn (f 0).wr x = true ∨ ∃ k, k < j ∧ bitOn (u k) x = true)
  | 0, hj => by simp
  | j + 1, hj => by
    obtain ⟨o, m, _, _, g⟩ := h.fact j (by omega)
    rw [g.wr x, h.wr (by omega)]
    constructor
    · rintro ((h1 | ⟨k, h1, h2⟩) | h1)
      · exact .inl h1
      · exact .inr ⟨k, by omega, h2⟩
      · exact .inr ⟨j, by omega, h1⟩
    · rintro (h1 | ⟨k, h1, h2⟩)
      · exact .inl (.inl h1)
      · by_cases e : k = j
        · subst e; exact .inr h2
        · exact .inl (.inr ⟨k, by omega, h2⟩)
theorem Trace.ids (h : Trace e ih all bs f v d u) : ∀ {i : Nat}, i ≤ all.length → ∀ id b, getB (f i).hp id = some b → id < (f i).nx
  | 0, _ => h.start
  | i + 1, hi => by
    intro id b hb
    obtain ⟨o, m, _, _, g⟩ := h.fact i (by omega)
    cases q : bitOn (d i).touch id
    · rw [g.hp id q] at hb
      exact Nat.lt_of_lt_of_le (h.ids (by omega) id b hb) g.nx
    · exact g.tl id q
theorem Trace.tmStay (h : Trace e ih all bs f v d u) {i t : Nat} : ∀ {j : Nat}, i ≤ j → j ≤ all.length → (∀ k o, i ≤ k → k < j → all[k]? = some o → o.dst ≠ some t) → (f j).tm.get t = (f i).tm.get t
  | 0, hi, hj, _ => by obtain rfl : i = 0 := by omega
                       rfl
  | j + 1, hi, hj, hn => by
    by_cases q : i = j + 1
    · subst q; rfl
    · obtain ⟨o, m, ho, _, g⟩ := h.fact j (by omega)
      rw [g.tm t, if_neg (hn j o (by omega) (by omega) ho)]
      exact h.tmStay (by omega) (by omega) fun k o h1 h2 => hn k o h1 (by omega)
theorem Trace.hpStay (h : Trace e ih all bs f v d u) {i id : Nat} : ∀ {j : Nat}, i ≤ j → j ≤ all.length → (∀ k, i ≤ k → k < j → bitOn (d k).touch id = false) → getB (f j).hp id = getB (f i).hp id
  | 0, hi, hj, _ => by obtain rfl : i = 0 := by omega
                       rfl
  | j + 1, hi, hj, hn => by
    by_cases q : i = j + 1
    · subst q; rfl
    · obtain ⟨o, m, ho, _, g⟩ := h.fact j (by omega)
      rw [g.hp id (hn j (by omega) (by omega))]
      exact h.hpStay (by omega) (by omega) fun k h1 h2 => hn k h1 (by omega)
end
end Go.Proofs.YtpkclnkibhgpkaaGreat.Sx
