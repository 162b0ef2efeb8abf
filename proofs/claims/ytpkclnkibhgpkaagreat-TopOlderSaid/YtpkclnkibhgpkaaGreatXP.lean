/-
How told states are joined: what a part of a run leaves stands for the whole. Its conditions: none.
-/
import Derived.Test.YtpkclnkibhgpkaaGreatXO
namespace Go.Proofs.YtpkclnkibhgpkaaGreat.Sx
open Go Go.RowKit
variable {P : Program}

/-- but for some slots, a frame as it was -/
def SameOut (ws : List Nat) (a a' : Act) : Prop := a'.tmps.size = a.tmps.size ∧ (∀ t, t ∉ ws → a'.tmps.getD t undef = a.tmps.getD t undef) ∧ a'.defers = a.defers
theorem SameOut.refl (ws : List Nat) (a : Act) : SameOut ws a a := ⟨rfl, fun _ _ => rfl, rfl⟩
theorem SameOut.trans {ws : List Nat} {a b c : Act} (h : SameOut ws a b) (g : SameOut ws b c) : SameOut ws a c := ⟨g.1.trans h.1, fun t ht => (g.2.1 t ht).trans (h.2.1 t ht), g.2.2.trans h.2.2⟩
theorem SameOut.mono {ws vs : List Nat} {a b : Act} (h : SameOut ws a b) (g : ∀ t, t ∈ ws → t ∈ vs) : SameOut vs a b := ⟨h.1, fun t ht => h.2.1 t fun q => ht (g t q), h.2.2⟩
theorem Conc.start [Sh] {w0 : World} {n0 : Base} {b : Nat → Option Nat} {s : St} {a : Act} {w : World} (h : Conc w0 n0 b s a w) : Conc w s.base b ⟨s.tm, s.hp, s.nx, 0⟩ a w :=
  ⟨h.tm, h.hp, h.inj, h.lt, h.sz, fun i n hi hl hb => by have := h.lt i n hb; simp only [St.base] at hi; omega, fun j _ hb => (by rw [bitOn_zero] at hb; cases hb), fun j _ hl => hl, fun j hb => (by rw [bitOn_zero] at hb; cases hb), Fr.refl _ _ _, Nat.le_refl _, h.z⟩
theorem Conc.back [Sh] {w0 w w' : World} {n0 : Base} {b c : Nat → Option Nat} {s s' : St} {a a' : Act} (h : Conc w0 n0 b s a w) (g : Conc w s.base c s' a' w') (hx : ExtN s.nx b c) : Conc w0 n0 c ⟨s'.tm, s'.hp, s'.nx, Nat.lor s.wr s'.wr⟩ a' w' := by
  have hn := h.nx
  have gn : s.nx ≤ s'.nx := g.nx
  have hE := h.ext hx
  have key : ∀ i n, n0.n ≤ i → i < s.nx → (Live s.hp i ∨ bitOn s.wr i = true) → c i = some n → w0.heap.size ≤ n ∨ ∃ j, j < n0.n ∧ bitOn (Nat.lor s.wr s'.wr) j = true ∧ c j = some n := by
    intro i n hi his hl hc
    rw [hx i his] at hc
    rcases h.nw i n hi hl hc with r | ⟨j, r1, r2, r3⟩
    · exact .inl r
    · exact .inr ⟨j, r1, by rw [bitOn_lor, r2]; rfl, hE _ _ r3⟩
  refine ⟨g.tm, g.hp, g.inj, g.lt, g.sz, fun i n hi hl hc => ?_, fun j hj hb => ?_, fun j hj hl => h.m3 j hj (g.m3 j (by simp only [St.base]; omega) hl), fun j hb => ?_, ?_, Nat.le_trans hn gn, g.z⟩
  · by_cases his : i < s.nx
    · rcases hl with hl | hb
      · exact key i n hi his (.inl (g.m3 i his hl)) hc
      · simp only [bitOn_lor, Bool.or_eq_true] at hb
        rcases hb with hb | hb
        · exact key i n hi his (.inr hb) hc
        · exact key i n hi his (.inl (g.m1 i his hb)) hc
    · have hl' : Live s'.hp i ∨ bitOn s'.wr i = true := by
        rcases hl with hl | hb
        · exact .inl hl
        · simp only [bitOn_lor, Bool.or_eq_true] at hb
          rcases hb with hb | hb
          · obtain ⟨m, hm⟩ := h.wl i hb
            exact absurd (h.lt i m hm) his
          · exact .inr hb
      rcases g.nw i n (by simp only [St.base]; omega) hl' hc with r | ⟨j, r1, r2, r3⟩
      · exact .inl (Nat.le_trans h.fr.size r)
      · by_cases hj : j < n0.n
        · exact .inr ⟨j, hj, by rw [bitOn_lor, r2, Bool.or_true], r3⟩
        · exact key j n (by omega) r1 (.inl (g.m1 j r1 r2)) r3
  · simp only [bitOn_lor, Bool.or_eq_true] at hb
    rcases hb with hb | hb
    · exact h.m1 j hj hb
    · exact h.m3 j hj (g.m1 j (by simp only [St.base]; omega) hb)
  · simp only [bitOn_lor, Bool.or_eq_true] at hb
    rcases hb with hb | hb
    · obtain ⟨m, hm⟩ := h.wl j hb
      exact ⟨m, hE _ _ hm⟩
    · exact g.wl j hb
  · have hf := h.fr
    have gf := g.fr
    refine ⟨gf.os.trans hf.os, gf.tape.trans hf.tape, gf.output.trans hf.output, Nat.le_trans hf.size gf.size, fun n hn hh => ?_⟩
    rw [gf.block n (Nat.lt_of_lt_of_le hn hf.size) fun i hi => hh i (by rw [bitOn_lor, hi, Bool.or_true])]
    exact hf.block n hn fun i hi hb => hh i (by rw [bitOn_lor, hi, Bool.true_or]) (hE _ _ hb)
/-- knowledge may be dropped -/
theorem Conc.less [Sh] {w0 : World} {n0 : Base} {b : Nat → Option Nat} {s : St} {a : Act} {w : World} (h : Conc w0 n0 b s a w) {hp : List (Nat × Blk)} (g : ∀ id k, getB hp id = some k → getB s.hp id = some k) : Conc w0 n0 b ⟨s.tm, hp, s.nx, s.wr⟩ a w := by
  have gl : ∀ i, Live hp i → Live s.hp i := fun i ⟨k, hk⟩ => ⟨k, g i k hk⟩
  exact ⟨h.tm, fun id k hk => h.hp id k (g id k hk), fun i j n hi hj => h.inj i j n (gl i hi) (gl j hj), h.lt, fun i n hi => h.sz i n (gl i hi), fun i n hi hl => h.nw i n hi (hl.imp (gl i) id), h.m1, fun j hj hl => h.m3 j hj (gl j hl), h.wl, h.fr, h.nx, h.z⟩
theorem getB_cons (i : Nat) (b : Blk) (r : List (Nat × Blk)) (id : Nat) : getB ((i, b) :: r) id = bif Nat.beq i id then some b else getB r id := rfl
theorem keepOld_none {n i : Nat} (g : Nat.blt i n = false) : ∀ r : List (Nat × Blk), getB (keepOld n r) i = none
  | [] => rfl
  | (j, b) :: r => by
    have ih := keepOld_none g r
    have e : keepOld n ((j, b) :: r) = bif Nat.blt j n then (j, b) :: keepOld n r else keepOld n r := rfl
    rw [e]
    cases g2 : Nat.blt j n
    · exact ih
    · rw [cond_true, getB_cons]
      cases q : Nat.beq j i
      · rw [cond_false]; exact ih
      · rw [beq_iff] at q; subst q; rw [g] at g2; cases g2
theorem getB_keepOld {n : Nat} : ∀ {hp : List (Nat × Blk)} {id : Nat} {k : Blk}, getB (keepOld n hp) id = some k → getB hp id = some k
  | [], id, k, h => by simp [keepOld, getB] at h
  | (i, b) :: r, id, k, h => by
    have e : keepOld n ((i, b) :: r) = bif Nat.blt i n then (i, b) :: keepOld n r else keepOld n r := rfl
    rw [e] at h
    rw [getB_cons]
    cases g : Nat.blt i n
    · rw [g, cond_false] at h
      cases q : Nat.beq i id
      · rw [cond_false]; exact getB_keepOld h
      · rw [beq_iff] at q
        subst q
        rw [keepOld_none g] at h; cases h
    · rw [g, cond_true, getB_cons] at h
      cases q : Nat.beq i id
      · rw [q, cond_false] at h; rw [cond_false]; exact getB_keepOld h
      · rw [q] at h; exact h

theorem mgSlots_get {p : Bool} {t1 t2 : Tr ST} : ∀ (ws : List Nat) (t : Tr ST) (k : Nat), (mgSlots p t1 t2 ws t).get k = if k ∈ ws then (match t1.get k, t2.get k with | some a, some b => mgT p a b | _, _ => none) else t.get k
  | [], t, k => by simp [mgSlots]
  | w :: r, t, k => by
    simp only [mgSlots]
    rw [mgSlots_get r]
    by_cases h : k ∈ r
    · rw [if_pos h, if_pos (List.mem_cons_of_mem _ h)]
    · rw [if_neg h, get_set]
      by_cases e : k = w
      · subst e; rw [if_pos rfl, if_pos List.mem_cons_self]; rfl
      · rw [if_neg e, if_neg (by simp [e, h])]
theorem getB_mgH {p : Bool} {m : Nat} {h1 h2 : List (Nat × Blk)} : ∀ {hp : List (Nat × Blk)} {id : Nat} {k : Blk}, getB (mgH p m h1 h2 hp) id = some k →
    (bitOn m id = false ∧ getB hp id = some k) ∨ (∃ x y l, getB h1 id = some x ∧ getB h2 id = some y ∧ x.off = y.off ∧ x.wr = true ∧ y.wr = true ∧ mgCs p x.cells y.cells = some l ∧ x.ap = y.ap ∧ k = ⟨x.off, l, true, x.ap⟩)
  | [], id, k, h => by simp [mgH, getB] at h
  | (i, b) :: r, id, k, h => by
    have rest : getB (mgH p m h1 h2 r) id = some k → (bitOn m id = false → Nat.beq i id = false) → (bitOn m id = false ∧ getB ((i, b) :: r) id = some k) ∨ (∃ x y l, getB h1 id = some x ∧ getB h2 id = some y ∧ x.off = y.off ∧ x.wr = true ∧ y.wr = true ∧ mgCs p x.cells y.cells = some l ∧ x.ap = y.ap ∧ k = ⟨x.off, l, true, x.ap⟩) := by
      intro hr hi
      rcases getB_mgH hr with ⟨g1, g2⟩ | g
      · exact .inl ⟨g1, by simp only [getB, hi g1]; exact g2⟩
      · exact .inr g
    simp only [mgH] at h
    cases q : bitOn m i
    · rw [q] at h
      simp only [cond_false, getB] at h
      cases q2 : Nat.beq i id
      · rw [q2] at h
        exact rest h fun _ => q2
      · rw [q2] at h
        rw [beq_iff] at q2; subst q2
        exact .inl ⟨q, by simp only [getB]; rw [beq_iff.2 rfl]; exact h⟩
    · rw [q] at h
      simp only [cond_true] at h
      have hne : bitOn m id = false → Nat.beq i id = false := by
        intro e
        cases q2 : Nat.beq i id
        · rfl
        · rw [beq_iff] at q2; subst q2; rw [q] at e; cases e
      split at h
      · rename_i x y e1 e2
        cases q3 : (Nat.beq x.off y.off && ((x.wr && y.wr) && Nat.beq x.ap y.ap))
        · rw [q3] at h; exact rest h hne
        · rw [q3] at h
          simp only [Bool.and_eq_true, beq_iff] at q3
          simp only [cond_true] at h
          cases q4 : mgCs p x.cells y.cells with
          | none => rw [q4] at h; exact rest h hne
          | some l =>
            rw [q4] at h
            simp only [getB] at h
            cases q5 : Nat.beq i id
            · rw [q5] at h; exact rest h hne
            · rw [q5] at h
              rw [beq_iff] at q5; subst q5
              cases h
              exact .inr ⟨x, y, l, e1, e2, q3.1, q3.2.1.1, q3.2.1.2, q4, q3.2.2, rfl⟩
      · exact rest h hne
theorem live_mgH {p : Bool} {m : Nat} {h1 h2 : List (Nat × Blk)} : ∀ {hp : List (Nat × Blk)} {id : Nat}, Live (mgH p m h1 h2 hp) id → Live hp id
  | [], id, ⟨k, h⟩ => by simp [mgH, getB] at h
  | (i, b) :: r, id, h => by
    have rest : Live (mgH p m h1 h2 r) id → Live ((i, b) :: r) id := by
      intro g
      by_cases e : i = id
      · exact live_cons.2 (.inl e)
      · exact live_cons.2 (.inr ⟨e, live_mgH g⟩)
    simp only [mgH] at h
    cases q : bitOn m i
    · rw [q, cond_false] at h
      rcases live_cons.1 h with g | ⟨_, g⟩
      · exact live_cons.2 (.inl g)
      · exact rest g
    · rw [q, cond_true] at h
      split at h
      · rename_i x y _ _
        cases q2 : (Nat.beq x.off y.off && ((x.wr && y.wr) && Nat.beq x.ap y.ap))
        · rw [q2, cond_false] at h; exact rest h
        · rw [q2, cond_true] at h
          split at h
          · rcases live_cons.1 h with g | ⟨_, g⟩
            · exact live_cons.2 (.inl g)
            · exact rest g
          · exact rest h
      · exact rest h
theorem mskH_iff {m x : Nat} : ∀ hp : List (Nat × Blk), bitOn (mskH m hp) x = true ↔ bitOn m x = true ∧ Live hp x
  | [] => by simp [mskH, bitOn_zero, Live, getB]
  | (i, b) :: r => by
    have ih := mskH_iff (m := m) (x := x) r
    simp only [mskH]
    rw [live_cons]
    cases q : bitOn m i
    · rw [cond_false, ih]
      constructor
      · rintro ⟨h1, h2⟩
        refine ⟨h1, .inr ⟨fun e => ?_, h2⟩⟩
        rw [e, h1] at q; cases q
      · rintro ⟨h1, h2 | ⟨_, h2⟩⟩
        · rw [h2, h1] at q; cases q
        · exact ⟨h1, h2⟩
    · rw [cond_true, bitOn_lor, bitOn_bit1, Bool.or_eq_true, decide_eq_true_eq, ih]
      constructor
      · rintro (rfl | ⟨h1, h2⟩)
        · exact ⟨q, .inl rfl⟩
        · by_cases e : i = x
          · exact ⟨h1, .inl e⟩
          · exact ⟨h1, .inr ⟨e, h2⟩⟩
      · rintro ⟨h1, h2 | ⟨_, h2⟩⟩
        · exact .inl h2
        · exact .inr ⟨h1, h2⟩
theorem mgH_zero {p : Bool} {h1 h2 : List (Nat × Blk)} : ∀ hp : List (Nat × Blk), mgH p 0 h1 h2 hp = hp
  | [] => rfl
  | (i, b) :: r => by simp only [mgH, bitOn_zero, cond_false, mgH_zero r]
theorem mskH_zero : ∀ hp : List (Nat × Blk), mskH 0 hp = 0
  | [] => rfl
  | (i, b) :: r => by simp only [mskH, bitOn_zero, cond_false, mskH_zero r]
theorem mgS_eq (p : Bool) (ws : List Nat) (s s1 s2 : St) : mgS p ws s s1 s2 = ⟨mgSlots p s1.tm s2.tm ws s.tm, mgH p (Nat.lor s1.wr s2.wr) s1.hp s2.hp s.hp, Nat.max s1.nx s2.nx, mskH (Nat.lor s1.wr s2.wr) s.hp⟩ := by
  unfold mgS
  simp only
  cases q : Nat.beq (Nat.lor s1.wr s2.wr) 0
  · rfl
  · rw [beq_iff] at q
    rw [q, cond_true, mgH_zero, mskH_zero]
/-- one of two states, joined with the other one -/
theorem Conc.mg [Sh] {w1 w w' : World} {n1 : Base} {b c : Nat → Option Nat} {s s1 s2 si : St} {a a' : Act} {p : Bool} {ws : List Nat} (h : Conc w1 n1 b s a w) (g : Conc w s.base c si a' w') (hx : ExtN s.nx b c) (hs : SameOut ws a a')
    (hi : (p = true ∧ si = s1) ∨ (p = false ∧ si = s2)) : Conc w s.base c (mgS p ws s s1 s2) a' w' := by
  have hE : Ext b c := h.ext hx
  have hwr : ∀ i, bitOn si.wr i = true → bitOn (Nat.lor s1.wr s2.wr) i = true := by
    intro i hb
    rw [bitOn_lor]
    rcases hi with ⟨_, rfl⟩ | ⟨_, rfl⟩ <;> rw [hb] <;> simp
  have hnx : si.nx ≤ Nat.max s1.nx s2.nx := by
    rcases hi with ⟨_, rfl⟩ | ⟨_, rfl⟩
    · exact Nat.le_max_left _ _
    · exact Nat.le_max_right _ _
  -- a block that was written: one that was known
  have root : ∀ i n, n < w.heap.size → bitOn si.wr i = true → c i = some n → ∃ j, Live s.hp j ∧ bitOn (Nat.lor s1.wr s2.wr) j = true ∧ b j = some n ∧ c j = some n := by
    intro i n hn hb hc
    by_cases his : i < s.nx
    · exact ⟨i, g.m1 i his hb, hwr i hb, by rw [← hx i his]; exact hc, hc⟩
    · rcases g.nw i n (by simp only [St.base]; omega) (.inr hb) hc with r | ⟨j, r1, r2, r3⟩
      · omega
      · exact ⟨j, g.m1 j r1 r2, hwr j r2, by rw [← hx j r1]; exact r3, r3⟩
  have hlv : ∀ i, Live s.hp i → ∃ n, b i = some n ∧ c i = some n ∧ i < s.nx ∧ n < w.heap.size := by
    intro i hl
    obtain ⟨n, k1, k2, k3⟩ := h.known hl
    exact ⟨n, k1, hE _ _ k1, k2, k3⟩
  rw [mgS_eq]
  refine ⟨fun t x hx' => ?_, fun id k hk => ?_, fun i j n hi' hj' hbi hbj => ?_, fun i n hb => ?_, fun i n hl hb => ?_, fun i n hi0 hl hb => ?_, fun j hj hb => ((mskH_iff _).1 hb).2, fun j hj hl => live_mgH hl, fun j hb => ?_, ?_, ?_, ?_⟩
  · rw [mgSlots_get] at hx'
    by_cases e : t ∈ ws
    · rw [if_pos e] at hx'
      split at hx'
      · rename_i x1 x2 e1 e2
        have := mgT_l (β := c) hx'
        rcases hi with ⟨hp, rfl⟩ | ⟨hp, rfl⟩
        · exact ⟨(g.tm t x1 e1).1, this.1 hp _ (g.tm t x1 e1).2⟩
        · exact ⟨(g.tm t x2 e2).1, this.2 hp _ (g.tm t x2 e2).2⟩
      · cases hx'
    · rw [if_neg e] at hx'
      have := h.tm t x hx'
      exact ⟨by rw [hs.1]; exact this.1, by rw [hs.2.1 t e]; exact this.2.mono hE⟩
  · rcases getB_mgH hk with ⟨g1, g2⟩ | ⟨x, y, l, e1, e2, e3, e4, e5, e6, e7, rfl⟩
    · obtain ⟨n, hn, hb⟩ := h.hp id k g2
      refine ⟨n, hE _ _ hn, hb.same hE (g.fr.block n (h.sz _ _ ⟨k, g2⟩ hn) fun i hi2 hc => ?_)⟩
      obtain ⟨j, j1, j2, j3, _⟩ := root i n (h.sz _ _ ⟨k, g2⟩ hn) hi2 hc
      have := h.inj j id n j1 ⟨k, g2⟩ j3 hn
      subst this
      rw [j2] at g1; cases g1
    · have := mgCs_l (β := c) e6
      rcases hi with ⟨hp, rfl⟩ | ⟨hp, rfl⟩
      · obtain ⟨n, hn, vs, h1, h2, h3, h4⟩ := g.hp id x e1
        exact ⟨n, hn, vs, this.1 hp _ h1, h2, fun _ => h3 e4, h4⟩
      · obtain ⟨n, hn, vs, h1, h2, h3, h4⟩ := g.hp id y e2
        refine ⟨n, hn, vs, this.2 hp _ h1, by rw [e3]; exact h2, fun _ => by rw [e3]; exact h3 e5, ?_⟩
        simp only
        rw [e7, e3]; exact h4
  · have hi' := live_mgH hi'
    have hj' := live_mgH hj'
    obtain ⟨n1, k1, k2, _⟩ := hlv i hi'
    obtain ⟨n2, r1, r2, _⟩ := hlv j hj'
    rw [k2] at hbi; cases hbi
    rw [r2] at hbj; cases hbj
    exact h.inj i j n hi' hj' k1 r1
  · exact Nat.lt_of_lt_of_le (g.lt i n hb) hnx
  · obtain ⟨n1, k1, k2, _, k4⟩ := hlv i (live_mgH hl)
    rw [k2] at hb; cases hb
    exact Nat.lt_of_lt_of_le k4 g.fr.size
  · have : Live s.hp i := by
      rcases hl with hl | hl
      · exact live_mgH hl
      · exact ((mskH_iff _).1 hl).2
    obtain ⟨n1, _, _, k3, _⟩ := hlv i this
    simp only [St.base] at hi0; omega
  · obtain ⟨n1, _, k2, _⟩ := hlv j ((mskH_iff _).1 hb).2
    exact ⟨n1, k2⟩
  · have gf := g.fr
    refine ⟨gf.os, gf.tape, gf.output, gf.size, fun n hn hh => gf.block n hn fun i hi2 hc => ?_⟩
    obtain ⟨j, j1, j2, _, j4⟩ := root i n hn hi2 hc
    exact hh j ((mskH_iff _).2 ⟨j2, j1⟩) j4
  · have : s.nx ≤ si.nx := g.nx
    simp only [St.base]; omega
  · exact fun i hi => g.z i (Nat.le_trans hnx hi)

/-- what holds at each end of a tree, under the ways to it -/
def TreeP (F : Ex → St → Prop) : Tree → Prop
  | .leaf e s => F e s
  | .ite p a b => (p = true → TreeP F a) ∧ (p = false → TreeP F b)
def RTreeP (F : ST → St → Prop) : RTree → Prop
  | .leaf v s => F v s
  | .ite p a b => (p = true → RTreeP F a) ∧ (p = false → RTreeP F b)
theorem TreeP.mono {F G : Ex → St → Prop} (h : ∀ e s, F e s → G e s) : ∀ {t : Tree}, TreeP F t → TreeP G t
  | .leaf _ _, g => h _ _ g
  | .ite _ _ _, g => ⟨fun e => TreeP.mono h (g.1 e), fun e => TreeP.mono h (g.2 e)⟩
theorem RTreeP.mono {F G : ST → St → Prop} (h : ∀ e s, F e s → G e s) : ∀ {t : RTree}, RTreeP F t → RTreeP G t
  | .leaf _ _, g => h _ _ g
  | .ite _ _ _, g => ⟨fun e => RTreeP.mono h (g.1 e), fun e => RTreeP.mono h (g.2 e)⟩
theorem bindT_P {f : St → Option Tree} {F : Ex → St → Prop} : ∀ {t t' : Tree}, bindT f t = some t' → TreeP F t' → TreeP (fun e s => match e with | .normal => ∃ u, f s = some u ∧ TreeP F u | e => F e s) t
  | .leaf e s, t', h, g => by
    cases e with
    | normal => exact ⟨t', h, g⟩
    | exit i => simp only [bindT, Option.some.injEq] at h; subst h; exact g
    | ret => simp only [bindT, Option.some.injEq] at h; subst h; exact g
  | .ite p a b, t', h, g => by
    simp only [bindT] at h
    split at h
    · rename_i x y h1 h2
      cases h
      exact ⟨fun e => bindT_P h1 (g.1 e), fun e => bindT_P h2 (g.2 e)⟩
    · cases h
theorem bindR_P {f : ST → St → Option Tree} {F : Ex → St → Prop} : ∀ {t : RTree} {t' : Tree}, bindR f t = some t' → TreeP F t' → RTreeP (fun v s => ∃ u, f v s = some u ∧ TreeP F u) t
  | .leaf v s, t', h, g => ⟨t', h, g⟩
  | .ite p a b, t', h, g => by
    simp only [bindR] at h
    split at h
    · rename_i x y h1 h2
      cases h
      exact ⟨fun e => bindR_P h1 (g.1 e), fun e => bindR_P h2 (g.2 e)⟩
    · cases h
theorem joinT_P [Sh] {w1 w : World} {n1 : Base} {b : Nat → Option Nat} {s : St} {a : Act} {ws : List Nat} (h : Conc w1 n1 b s a w) : ∀ {t : Tree} {m : St}, joinT ws s t = some m →
    TreeP (fun e s' => e = .normal ∧ ∀ c a' w', ExtN s.nx b c → Conc w s.base c s' a' w' → SameOut ws a a' → Conc w s.base c m a' w') t
  | .leaf e s', m, hm => by
    cases e with
    | normal => simp only [joinT, Option.some.injEq] at hm; subst hm; exact ⟨rfl, fun c a' w' _ g _ => g⟩
    | exit i => cases hm
    | ret => cases hm
  | .ite p x y, m, hm => by
    simp only [joinT] at hm
    split at hm
    · rename_i s1 s2 h1 h2
      cases hm
      refine ⟨fun e => TreeP.mono ?_ (joinT_P h h1), fun e => TreeP.mono ?_ (joinT_P h h2)⟩
      · rintro e' s' ⟨rfl, g⟩
        exact ⟨rfl, fun c a' w' hx hc hs => h.mg (g c a' w' hx hc hs) hx hs (.inl ⟨e, rfl⟩)⟩
      · rintro e' s' ⟨rfl, g⟩
        exact ⟨rfl, fun c a' w' hx hc hs => h.mg (g c a' w' hx hc hs) hx hs (.inr ⟨e, rfl⟩)⟩
    · cases hm
/-- a tree that was joined, and what was written before it: each end of the tree comes to an end of the joined one -/
theorem addW_P {m : Nat} {F : Ex → St → Prop} : ∀ {t : Tree}, TreeP F (addW m t) → TreeP (fun e s => F e ⟨s.tm, s.hp, s.nx, Nat.lor m s.wr⟩) t
  | .leaf _ _, g => g
  | .ite _ _ _, g => ⟨fun e => addW_P (g.1 e), fun e => addW_P (g.2 e)⟩
theorem TreeP.and {F G : Ex → St → Prop} : ∀ {t : Tree}, TreeP F t → TreeP G t → TreeP (fun e s => F e s ∧ G e s) t
  | .leaf _ _, f, g => ⟨f, g⟩
  | .ite _ _ _, f, g => ⟨fun e => TreeP.and (f.1 e) (g.1 e), fun e => TreeP.and (f.2 e) (g.2 e)⟩
theorem TreeP.all {F : Ex → St → Prop} (h : ∀ e s, F e s) : ∀ {t : Tree}, TreeP F t
  | .leaf _ _ => h _ _
  | .ite _ _ _ => ⟨fun _ => TreeP.all h, fun _ => TreeP.all h⟩
theorem joined_P [Sh] {w0 w : World} {n0 : Base} {b : Nat → Option Nat} {s : St} {a : Act} {ws : List Nat} (h : Conc w0 n0 b s a w) {Q : Ex → Nat → (Nat → Option Nat) → St → Act → World → Prop} {t : Tree}
    (g : TreeP (fun e s' => ∀ c a' w', ExtN s.nx b c → s.nx ≤ s'.nx → Conc w0 n0 c s' a' w' → SameOut ws a a' → Q e s.nx c s' a' w') (joined ws (getW s) (zeroW s) t)) :
    TreeP (fun e s' => ∀ c a' w', ExtN s.nx b c → Conc w s.base c s' a' w' → SameOut ws a a' → ∃ s'', Conc w0 n0 c s'' a' w' ∧ Q e s.nx c s'' a' w') t := by
  obtain ⟨tm, hp, nx, wr⟩ := s
  have h2 := h.start
  cases t with
  | leaf e s' =>
    intro c a' w' hx hc hs
    have hb := h.back hc hx
    exact ⟨_, hb, g c a' w' hx hc.nx hb hs⟩
  | ite p x y =>
    simp only [joined] at g
    cases q : joinT ws (zeroW ⟨tm, hp, nx, wr⟩) (.ite p x y) with
    | none =>
      rw [q] at g
      refine TreeP.mono ?_ (addW_P g)
      intro e s' g' c a' w' hx hc hs
      have hb := h.back hc hx
      exact ⟨_, hb, g' c a' w' hx hc.nx hb hs⟩
    | some m =>
      rw [q] at g
      simp only [TreeP] at g
      refine TreeP.mono ?_ (joinT_P h2 q)
      rintro e s' ⟨rfl, k⟩ c a' w' hx hc hs
      have hb := h.back (k c a' w' hx hc hs) hx
      exact ⟨_, hb, g c a' w' hx (k c a' w' hx hc hs).nx hb hs⟩
theorem block_P {id : Nat} {F : Ex → St → Prop} : ∀ {t : Tree}, TreeP F (Tree.block id t) → TreeP (fun e s => match e with | .exit i => (if i = id then F .normal s else F (.exit i) s) | e => F e s) t
  | .leaf e s, g => by
    cases e with
    | normal => exact g
    | ret => exact g
    | exit i =>
      simp only [Tree.block] at g
      simp only [TreeP]
      cases q : Nat.beq i id
      · rw [q] at g
        rw [if_neg (fun e => by rw [beq_iff.2 e] at q; cases q)]
        exact g
      · rw [q] at g
        rw [if_pos (beq_iff.1 q)]
        exact g
  | .ite _ _ _, g => ⟨fun e => block_P (g.1 e), fun e => block_P (g.2 e)⟩
end Go.Proofs.YtpkclnkibhgpkaaGreat.Sx
