import Derived.Test.YtpkclnkibhgpkaaGreatPB
namespace Go.Proofs.YtpkclnkibhgpkaaGreat
open Go.RowKit Go.Shelf
attribute [local go_sem] Oper.semAt_some

/-- below N, but for two blocks, all is as it was -/
structure SameX (N bw bh : Nat) (W W' : World) : Prop where
  os : W'.os = W.os
  tape : W'.tape = W.tape
  output : W'.output = W.output
  size : W.heap.size ≤ W'.heap.size
  block : ∀ b, b < N → b ≠ bw → b ≠ bh → W'.heap[b]? = W.heap[b]?
theorem SameX.alloc {N bw bh : Nat} (W : World) (o : Obj) (h : N ≤ W.heap.size) : SameX N bw bh W (W.alloc o) :=
  let hb := (Below.refl N W).alloc h o
  ⟨hb.os, hb.tape, hb.output, hb.size, fun b hbN _ _ => hb.block b hbN⟩
theorem SameX.put {N bw bh l : Nat} (W : World) (o : Obj) (h : N ≤ l) : SameX N bw bh W (W.putObj l o) :=
  ⟨rfl, rfl, rfl, by simp, fun b hbN _ _ => World.putObj_heap_other (by omega)⟩
theorem SameX.two {N bw bh : Nat} (W : World) (u v : Value) : SameX N bw bh W (((W.drew).setCell ⟨bw, 0, none⟩ u).setCell ⟨bh, 0, none⟩ v) :=
  ⟨rfl, rfl, rfl, by simp [World.setCell], fun b _ h1 h2 => by rw [Below.heap_setCell _ _ _ _ (by simpa using h2), Below.heap_setCell _ _ _ _ (by simpa using h1)]; rfl⟩
theorem TwoC.same {W W' : World} {bw bh : Nat} {x y : Int} (h : TwoC W bw bh x y) (h1 : W'.heap[bw]? = W.heap[bw]?) (h2 : W'.heap[bh]? = W.heap[bh]?) : TwoC W' bw bh x y :=
  let a1 := cell_alike h1 ⟨bw, 0, none⟩ rfl
  let a2 := cell_alike h2 ⟨bh, 0, none⟩ rfl
  ⟨⟨a1.1.trans h.1.1, a1.2.trans h.1.2⟩, a2.1.trans h.2.1, a2.2.trans h.2.2⟩
theorem TwoC.set {W : World} {bw bh : Nat} {x y x' y' : Int} (h : TwoC W bw bh x y) (hab : bw ≠ bh) : TwoC (((W.drew).setCell ⟨bw, 0, none⟩ (.int .i64 x')).setCell ⟨bh, 0, none⟩ (.int .i64 y')) bw bh x' y' := by
  refine ⟨⟨?_, ?_⟩, ?_, ?_⟩
  · rw [World.cell?_setCell_other _ _ _ _ (by intro e; injection e with e; exact hab e.symm)]
    exact World.cell?_setCell_same' _ _ _ (by show (W.cell? _).isSome = true; rw [h.1.1]; rfl)
  · rw [World.frozen?_setCell, World.frozen?_setCell]; exact h.1.2
  · refine World.cell?_setCell_same' _ _ _ ?_
    rw [World.cell?_setCell_other _ _ _ _ (by intro e; injection e with e; exact hab e)]
    show (W.cell? _).isSome = true
    rw [h.2.1]; rfl
  · rw [World.frozen?_setCell, World.frozen?_setCell]; exact h.2.2

/-- how a round may end: what the iterator and the loop's own records need lies as it lay -/
def roundP (N bw bh : Nat) (I : Nat → World → Prop) (Ix : Code → Nat → World → Prop) (k : Nat) (W : World) : Exit → Act → World → Prop
  | .normal, _, W' => (∀ b, N ≤ b ∨ b = bw ∨ b = bh → W'.heap[b]? = W.heap[b]?) ∧ I (k + 1) W'
  | .exit id, _, W' => (∀ b, N ≤ b ∨ b = bw ∨ b = bh → W'.heap[b]? = W.heap[b]?) ∧ Ix (.exit id) k W'
  | _, _, _ => False

def doneK (x y : Int) (k : Nat) : Prop := 1 ≤ x ∧ 1 ≤ y ∧ hk k x ≤ 1 ∧ hk k y ≤ 1 ∧ ∀ j, j < k → 1 < hk j x ∨ 1 < hk j y

theorem range_sizes {n : Nat} {g : Operand} {ps : Array Tmp} {assign body : Code} {Q : Exit → Act → World → Prop} {a : Act} {w : World} (bw bh : Nat) (x y : Int)
    (hab : bw ≠ bh) (hx0 : -9223372036854775808 ≤ x) (hx : x ≤ 9223372036854775807) (hy0 : -9223372036854775808 ≤ y) (hy : y ≤ 9223372036854775807)
    (hg : a.eval g = .func (.func 99) #[] #[.pointer (some ⟨bw, 0, none⟩), .pointer (some ⟨bh, 0, none⟩)]) (hps : ps.size = 2) (htwo : TwoC w bw bh x y) (hbw : bw < w.heap.size) (hbh : bh < w.heap.size)
    (I : Nat → World → Prop) (Ix : Code → Nat → World → Prop) (hI : ∀ k W W', I k W → SameX w.heap.size bw bh W W' → I k W') (hIx : ∀ c k W W', Ix c k W → SameX w.heap.size bw bh W W' → Ix c k W') (h0 : I 0 w) (a₁ : Nat → Act)
    (hassign : ∀ (l k : Nat) (W : World) (K : Act → World → Prop), K (a₁ k) W →
      assign.wpIn (Fence.wide.inRound l) (n - 1 - 1) Tryz.prog (Exit.then K (fun _ _ _ => False)) { tmps := (ps.zip #[.int .i64 (hk k x), .int .i64 (hk k y)]).foldl (fun t (p, v) => t.setIfInBounds p v) a.tmps, defers := [] } W)
    (hbody : ∀ (l k : Nat) (W : World), I k W → (1 ≤ x ∧ 1 ≤ y ∧ ∀ j, j < k → 1 < hk j x ∨ 1 < hk j y) → body.wpIn (Fence.wide.inRound l) (n - 1 - 1) Tryz.prog (roundP w.heap.size bw bh I Ix k W) (a₁ k) W)
    (hdone : ∀ (D k : Nat) (W : World), (doneK x y k ∧ I (k + 1) W) ∨ ((x < 1 ∨ y < 1) ∧ I 0 W) → W.heap[D]? = some (.deferred (some [])) → w.heap.size ≤ D → Q .normal { a with defers := { target := .collected D, args := #[] } :: a.defers } W)
    (hstop : ∀ (D : Nat) (c : Code) (k : Nat) (W : World), (1 ≤ x ∧ 1 ≤ y ∧ ∀ j, j < k → 1 < hk j x ∨ 1 < hk j y) → Ix c k W → W.heap[D]? = some (.deferred (some [])) → w.heap.size ≤ D → c.wpIn Fence.wide n Tryz.prog Q { a with defers := { target := .collected D, args := #[] } :: a.defers } W) :
    (Code.rangeFunc g ps assign body).wpIn Fence.wide n Tryz.prog Q a w := by
  refine wpIn_rangeFunc fun fn hfn => ?_
  obtain ⟨R, hR⟩ : ∃ R : LoopState → Option Code → Loop, R = fun st pe => { state := st, pending := pe, fn, tmps := a.tmps, params := ps, assign, body, defers := w.heap.size } := ⟨_, rfl⟩
  obtain ⟨W1, hW1⟩ : ∃ W1, (w.alloc (.deferred (some []))).alloc (.loop (R .ready none)) = W1 := ⟨_, rfl⟩
  have hL1 : W1.heap[w.heap.size + 1]? = some (.loop (R .ready none)) := by
    have := World.alloc_heap_new (w.alloc (.deferred (some []))) (.loop (R .ready none))
    rw [World.size_alloc, hW1] at this
    exact this
  have hs1 : SameX w.heap.size bw bh w W1 := by
    rw [← hW1]
    have s1 := SameX.alloc (N := w.heap.size) (bw := bw) (bh := bh) w (.deferred (some [])) (Nat.le_refl _)
    have s2 := SameX.alloc (N := w.heap.size) (bw := bw) (bh := bh) (w.alloc (.deferred (some []))) (.loop (R .ready none)) (by simp)
    exact ⟨s2.os.trans s1.os, s2.tape.trans s1.tape, s2.output.trans s1.output, Nat.le_trans s1.size s2.size, fun b h1 h2 h3 => (s2.block b h1 h2 h3).trans (s1.block b h1 h2 h3)⟩
  have hold : ∀ b, b < w.heap.size → W1.heap[b]? = w.heap[b]? := fun b hb => by
    rw [← hW1, Below.heap_alloc _ _ _ (by simp; omega), Below.heap_alloc _ _ _ hb]
  have hD1 : W1.heap[w.heap.size]? = some (.deferred (some [])) := by
    rw [← hW1, Below.heap_alloc _ _ _ (by simp)]
    exact World.alloc_heap_new w _
  refine ⟨w.heap.size + 1, [{ target := .collected w.heap.size, args := #[] }], W1, { target := .fn (.func 99) #[.pointer (some ⟨bw, 0, none⟩), .pointer (some ⟨bh, 0, none⟩)], args := #[.func (.yield (w.heap.size + 1)) #[] #[]] }, W1, 99,
    #[.func (.yield (w.heap.size + 1)) #[] #[], .pointer (some ⟨bw, 0, none⟩), .pointer (some ⟨bh, 0, none⟩)], W1, ?_, ?_, fun _ _ => trivial, ?_, fun h => (by simp [Fence.wide] at h), ?_⟩
  · rw [← hW1, hR]
    exact run_enterLoop_outer _ _ _ _ _
  · simp only [resolve, hg]
    simp [go_sem]
  · have cf : ∀ args w, (callFunc 99 args).run Tryz.prog w = .ok (.enter 99 args) w := fun _ _ => by kernel_rfl
    simp [invoke, go_sem, cf]
  · have tw1 : TwoC W1 bw bh x y := htwo.same (hold _ hbw) (hold _ hbh)
    have hl1 : w.heap.size + 1 < W1.heap.size := (Array.getElem?_eq_some_iff.1 hL1).1
    refine (sizes1_in (n - 1) (w.heap.size + 1) bw bh x y hab hx0 hx hy0 hy
      (fun k W => I k W ∧ TwoC W bw bh (hk k x) (hk k y) ∧ W.heap[w.heap.size + 1]? = some (.loop (R .ready none)) ∧ W.heap[w.heap.size]? = some (.deferred (some [])))
      (fun k W => I (k + 1) W ∧ TwoC W bw bh (hk k x) (hk k y) ∧ W.heap[w.heap.size + 1]? = some (.loop (R .ready none)) ∧ W.heap[w.heap.size]? = some (.deferred (some [])))
      (fun k W => ∃ c, Ix c k W ∧ W.heap[w.heap.size + 1]? = some (.loop (R .done (some c))) ∧ W.heap[w.heap.size]? = some (.deferred (some [])))
      W1 (fun _ _ h => h.2.1) (fun _ _ h => h.2.1) ?step ?yield ⟨hI _ _ _ h0 hs1, tw1, hL1, hD1⟩).mono ?after
    case step =>
      rintro k W ⟨h1, h2, h3, h4⟩
      have sx := SameX.two (N := w.heap.size) (bw := bw) (bh := bh) W (.int .i64 (hk (k + 1) x)) (.int .i64 (hk (k + 1) y))
      have ho : ∀ b, b ≠ bw → b ≠ bh → (((W.drew).setCell ⟨bw, 0, none⟩ (.int .i64 (hk (k + 1) x))).setCell ⟨bh, 0, none⟩ (.int .i64 (hk (k + 1) y))).heap[b]? = W.heap[b]? := fun b g1 g2 => by
        rw [Below.heap_setCell _ _ _ _ (by simpa using g2), Below.heap_setCell _ _ _ _ (by simpa using g1)]; rfl
      exact ⟨hI _ _ _ h1 sx, h2.set hab, (ho _ (by omega) (by omega)).trans h3, (ho _ (by omega) (by omega)).trans h4⟩
    case yield =>
      rintro a1 b1 k W ⟨h1, h2, h3, h4⟩ hall
      have hlt : w.heap.size + 1 < W.heap.size := (Array.getElem?_eq_some_iff.1 h3).1
      have hyl := run_yield (P := Tryz.prog) (args := #[.int .i64 (hk k x), .int .i64 (hk k y)]) h3 (by rw [hR]; simp [hps])
      rw [hR] at hyl
      obtain ⟨W2, hW2⟩ : ∃ W2, W2 = W.putObj (w.heap.size + 1) (.loop { R .ready none with state := .busy }) := ⟨_, rfl⟩
      have hb2 : ∀ b, b ≠ w.heap.size + 1 → W2.heap[b]? = W.heap[b]? := fun b hb => by rw [hW2]; exact World.putObj_heap_other hb
      have hl2 : W2.heap[w.heap.size + 1]? = some (.loop { R .ready none with state := .busy }) := by rw [hW2]; exact World.putObj_heap_same hlt
      have hsx : SameX w.heap.size bw bh W W2 := by rw [hW2]; exact SameX.put _ _ (by omega)
      refine ⟨fn, _, assign, body, hyl, roundIn_of_wpIn hfn (hassign (w.heap.size + 1) k W _ ⟨W2, by rw [hW2]; exact run_beginRound h3 (by rw [hR]), ?_⟩)⟩
      refine wpIn_mono (hbody (w.heap.size + 1) k W2 (hI _ _ _ h1 hsx) ⟨a1, b1, hall⟩) ?_
      have fin : ∀ (jump : Option Code) (W3 : World), (∀ b, w.heap.size ≤ b ∨ b = bw ∨ b = bh → W3.heap[b]? = W2.heap[b]?) →
          (Instr.endRound (w.heap.size + 1) jump).run Tryz.prog W3 = .ok (.bool jump.isNone) (W3.putObj (w.heap.size + 1) (.loop (R (if jump.isNone then .ready else .done) jump))) ∧
          (W3.putObj (w.heap.size + 1) (.loop (R (if jump.isNone then .ready else .done) jump))).heap[w.heap.size + 1]? = some (.loop (R (if jump.isNone then .ready else .done) jump)) ∧
          (W3.putObj (w.heap.size + 1) (.loop (R (if jump.isNone then .ready else .done) jump))).heap[w.heap.size]? = some (.deferred (some [])) ∧
          TwoC (W3.putObj (w.heap.size + 1) (.loop (R (if jump.isNone then .ready else .done) jump))) bw bh (hk k x) (hk k y) := fun jump W3 hb => by
        have hl3 := (hb (w.heap.size + 1) (.inl (by omega))).trans hl2
        have he := run_endRound (P := Tryz.prog) jump hl3
        have hl3' := hl3
        rw [hR] at he hl3' ⊢
        refine ⟨he, World.putObj_heap_same (Array.getElem?_eq_some_iff.1 hl3').1, ?_, ?_⟩
        · rw [World.putObj_heap_other (by omega), hb _ (.inl (Nat.le_refl _)), hb2 _ (by omega), h4]
        · refine h2.same ?_ ?_
          · rw [World.putObj_heap_other (by omega), hb _ (.inr (.inl rfl)), hb2 _ (by omega)]
          · rw [World.putObj_heap_other (by omega), hb _ (.inr (.inr rfl)), hb2 _ (by omega)]
      rintro e a3 W3 hp
      cases e with
      | normal =>
        obtain ⟨hb, hi⟩ := hp
        obtain ⟨hr, g1, g2, g3⟩ := fin none W3 hb
        exact ⟨_, _, hr, .inl ⟨rfl, hI _ _ _ hi (SameX.put _ _ (by omega)), g3, g1, g2⟩⟩
      | exit id =>
        obtain ⟨hb, hi⟩ := hp
        obtain ⟨hr, g1, g2, g3⟩ := fin (some (.exit id)) W3 hb
        exact ⟨_, _, hr, .inr ⟨rfl, .exit id, hIx _ _ _ _ hi (SameX.put _ _ (by omega)), g1, g2⟩⟩
      | ret => exact hp.elim
      | goto t => exact hp.elim
      | panic ch => exact hp.elim
      | outgrown => exact hp.elim
    case after =>
      rintro e W2 ⟨⟨v, rfl⟩, h⟩
      have endR : ∀ (st : LoopState) (pe : Option Code) (W2 : World), st ≠ .busy → W2.heap[w.heap.size + 1]? = some (.loop (R st pe)) → W2.heap[w.heap.size]? = some (.deferred (some [])) →
          ∃ W4, (Instr.endLoop (w.heap.size + 1)).run Tryz.prog W2 = .ok pe W4 ∧ SameX w.heap.size bw bh W2 W4 ∧ W4.heap[w.heap.size]? = some (.deferred (some [])) := fun st pe W2 hst hl hd => by
        have := run_endLoop (P := Tryz.prog) hl (by rw [hR]; exact hst)
        rw [hR] at this
        exact ⟨_, this, SameX.put _ _ (by omega), (World.putObj_heap_other (by omega)).trans hd⟩
      rcases h with ⟨k, hdn, h1, _, h3, h4⟩ | ⟨k, hkk, c, h1, h3, h4⟩ | ⟨hlt, h1, _, h3, h4⟩
      · obtain ⟨W4, he, hs, hd⟩ := endR _ _ W2 (by simp) h3 h4
        exact ⟨none, W4, he, hdone _ k _ (.inl ⟨hdn, hI _ _ _ h1 hs⟩) hd (Nat.le_refl _)⟩
      · obtain ⟨W4, he, hs, hd⟩ := endR _ _ W2 (by simp) h3 h4
        exact ⟨some c, W4, he, hstop _ c k _ hkk (hIx _ _ _ _ h1 hs) hd (Nat.le_refl _)⟩
      · obtain ⟨W4, he, hs, hd⟩ := endR _ _ W2 (by simp) h3 h4
        exact ⟨none, W4, he, hdone _ 0 _ (.inr ⟨hlt, hI _ _ _ h1 hs⟩) hd (Nat.le_refl _)⟩
end Go.Proofs.YtpkclnkibhgpkaaGreat
