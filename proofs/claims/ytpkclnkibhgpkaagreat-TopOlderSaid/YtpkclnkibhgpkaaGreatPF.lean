import Derived.Test.YtpkclnkibhgpkaaGreatPE
namespace Go.Proofs.YtpkclnkibhgpkaaGreat
open Go.RowKit Go.Shelf
attribute [local go_sem] Oper.semAt_some

theorem ThreeC.same {W W' : World} {bm bw bh : Nat} {m a b : Int} (h : ThreeC W bm bw bh m a b) (h1 : W'.heap[bm]? = W.heap[bm]?) (h2 : W'.heap[bw]? = W.heap[bw]?) (h3 : W'.heap[bh]? = W.heap[bh]?) : ThreeC W' bm bw bh m a b :=
  ⟨(cell_alike h1 ⟨bm, 0, none⟩ rfl).1.trans h.1, (cell_alike h2 ⟨bw, 0, none⟩ rfl).1.trans h.2.1, (cell_alike h3 ⟨bh, 0, none⟩ rfl).1.trans h.2.2⟩
/-- how a round may end: what the iterator and the loop's own records need lies as it lay -/
def roundL (N bm bw bh : Nat) (I : Nat → World → Prop) (Ix : Code → Nat → World → Prop) (k : Nat) (W : World) : Exit → Act → World → Prop
  | .normal, _, W' => (W.heap.size ≤ W'.heap.size ∧ ∀ b, b < W.heap.size → (b = N ∨ b = N + 1 ∨ b = bm ∨ b = bw ∨ b = bh) → W'.heap[b]? = W.heap[b]?) ∧ I (k + 1) W'
  | .exit id, _, W' => (W.heap.size ≤ W'.heap.size ∧ ∀ b, b < W.heap.size → (b = N ∨ b = N + 1 ∨ b = bm ∨ b = bw ∨ b = bh) → W'.heap[b]? = W.heap[b]?) ∧ Ix (.exit id) k W'
  | .ret, _, W' => (W.heap.size ≤ W'.heap.size ∧ ∀ b, b < W.heap.size → (b = N ∨ b = N + 1 ∨ b = bm ∨ b = bw ∨ b = bh) → W'.heap[b]? = W.heap[b]?) ∧ Ix .ret k W'
  | _, _, _ => False
/-- all stays but the loop's own records, and what is new -/
structure Keep (N : Nat) (W W' : World) : Prop where
  os : W'.os = W.os
  tape : W'.tape = W.tape
  output : W'.output = W.output
  size : W.heap.size ≤ W'.heap.size
  le : N ≤ W.heap.size
  block : ∀ b, b < W.heap.size → b ≠ N → b ≠ N + 1 → W'.heap[b]? = W.heap[b]?
theorem Keep.below {N : Nat} {W W' : World} (h : Keep N W W') : Below N W W' := ⟨h.os, h.tape, h.output, h.size, fun b hb => h.block b (Nat.lt_of_lt_of_le hb h.le) (by omega) (by omega)⟩
theorem Keep.of {N : Nat} {W W' : World} (h : Below W.heap.size W W') (hN : N ≤ W.heap.size) : Keep N W W' := ⟨h.os, h.tape, h.output, h.size, hN, fun b hb _ _ => h.block b hb⟩
theorem keep_put (N l : Nat) (W : World) (o : Obj) (h : l = N + 1) (hN : N ≤ W.heap.size) : Keep N W (W.putObj l o) :=
  ⟨rfl, rfl, rfl, by simp, hN, fun b _ _ hb => World.putObj_heap_other (by omega)⟩
theorem below_put (N l : Nat) (W : World) (o : Obj) (h : N ≤ l) : Below N W (W.putObj l o) :=
  ⟨rfl, rfl, rfl, by simp, fun b hb => World.putObj_heap_other (by omega)⟩

theorem range_levels {n : Nat} {g : Operand} {ps : Array Tmp} {assign body : Code} {Q : Exit → Act → World → Prop} {a : Act} {w : World} (bm bw bh : Nat) (m x y : Int)
    (hm0 : -9223372036854775808 ≤ m) (hm : m ≤ 9223372036854775807) (hx0 : -9223372036854775808 ≤ x) (hx : x ≤ 9223372036854775807) (hy0 : -9223372036854775808 ≤ y) (hy : y ≤ 9223372036854775807)
    (hg : a.eval g = .func (.func 162) #[] #[.pointer (some ⟨bm, 0, none⟩), .pointer (some ⟨bw, 0, none⟩), .pointer (some ⟨bh, 0, none⟩)]) (hps : ps.size = 2) (hthree : ThreeC w bm bw bh m x y) (hbm : bm < w.heap.size) (hbw : bw < w.heap.size) (hbh : bh < w.heap.size)
    (I : Nat → World → Prop) (Ix : Code → Nat → World → Prop) (hI : ∀ k W W', I k W → Keep w.heap.size W W' → I k W') (hIx : ∀ c k W W', Ix c k W → Keep w.heap.size W W' → Ix c k W') (h0 : I 0 w) (a₁ : Nat → Act)
    (hassign : ∀ (l k : Nat) (W : World) (K : Act → World → Prop), K (a₁ k) W →
      assign.wpIn (Fence.wide.inRound l) (n - 1 - 1) Tryz.prog (Exit.then K (fun _ _ _ => False)) { tmps := (ps.zip #[.int .i64 (sideV x k), .int .i64 (sideV y k)]).foldl (fun t (p, v) => t.setIfInBounds p v) a.tmps, defers := [] } W)
    (hbody : ∀ (l k : Nat) (W : World), (k : Int) < m → I k W → w.heap.size + 2 ≤ W.heap.size → body.wpIn (Fence.wide.inRound l) (n - 1 - 1) Tryz.prog (roundL w.heap.size bm bw bh I Ix k W) (a₁ k) W)
    (hdone : ∀ (D : Nat) (W : World), I m.toNat W → W.heap[D]? = some (.deferred (some [])) → w.heap.size ≤ D → Q .normal { a with defers := { target := .collected D, args := #[] } :: a.defers } W)
    (hstop : ∀ (D : Nat) (c : Code) (k : Nat) (W : World), (k : Int) < m → Ix c k W → W.heap[D]? = some (.deferred (some [])) → w.heap.size ≤ D → c.wpIn Fence.wide n Tryz.prog Q { a with defers := { target := .collected D, args := #[] } :: a.defers } W) :
    (Code.rangeFunc g ps assign body).wpIn Fence.wide n Tryz.prog Q a w := by
  refine wpIn_rangeFunc fun fn hfn => ?_
  obtain ⟨R, hR⟩ : ∃ R : LoopState → Option Code → Loop, R = fun st pe => { state := st, pending := pe, fn, tmps := a.tmps, params := ps, assign, body, defers := w.heap.size } := ⟨_, rfl⟩
  obtain ⟨W1, hW1⟩ : ∃ W1, (w.alloc (.deferred (some []))).alloc (.loop (R .ready none)) = W1 := ⟨_, rfl⟩
  have hL1 : W1.heap[w.heap.size + 1]? = some (.loop (R .ready none)) := by
    have := World.alloc_heap_new (w.alloc (.deferred (some []))) (.loop (R .ready none))
    rw [World.size_alloc, hW1] at this
    exact this
  have hs1 : Below w.heap.size w W1 := by
    rw [← hW1]
    exact ((Below.refl _ w).alloc (Nat.le_refl _) _).alloc (by simp) _
  have hold : ∀ b, b < w.heap.size → W1.heap[b]? = w.heap[b]? := fun b hb => hs1.block b hb
  have hD1 : W1.heap[w.heap.size]? = some (.deferred (some [])) := by
    rw [← hW1, Below.heap_alloc _ _ _ (by simp)]
    exact World.alloc_heap_new w _
  refine ⟨w.heap.size + 1, [{ target := .collected w.heap.size, args := #[] }], W1, { target := .fn (.func 162) #[.pointer (some ⟨bm, 0, none⟩), .pointer (some ⟨bw, 0, none⟩), .pointer (some ⟨bh, 0, none⟩)], args := #[.func (.yield (w.heap.size + 1)) #[] #[]] }, W1, 162,
    #[.func (.yield (w.heap.size + 1)) #[] #[], .pointer (some ⟨bm, 0, none⟩), .pointer (some ⟨bw, 0, none⟩), .pointer (some ⟨bh, 0, none⟩)], W1, ?_, ?_, fun _ _ => trivial, ?_, fun h => (by simp [Fence.wide] at h), ?_⟩
  · rw [← hW1, hR]
    exact run_enterLoop_outer _ _ _ _ _
  · simp only [resolve, hg]
    simp [go_sem]
  · have cf : ∀ args w, (callFunc 162 args).run Tryz.prog w = .ok (.enter 162 args) w := Tryz.call162
    simp [invoke, go_sem, cf]
  · have tw1 : ThreeC W1 bm bw bh m x y := hthree.same (hold _ hbm) (hold _ hbw) (hold _ hbh)
    have hl1 : w.heap.size + 1 < W1.heap.size := (Array.getElem?_eq_some_iff.1 hL1).1
    refine (levels1_in (n - 1) (w.heap.size + 1) bm bw bh m x y hm0 hm hx0 hx hy0 hy
      (fun k W => I k W ∧ ThreeC W bm bw bh m x y ∧ W.heap[w.heap.size + 1]? = some (.loop (R .ready none)) ∧ W.heap[w.heap.size]? = some (.deferred (some [])))
      (fun k W => ∃ c, Ix c k W ∧ W.heap[w.heap.size + 1]? = some (.loop (R .done (some c))) ∧ W.heap[w.heap.size]? = some (.deferred (some [])))
      W1 (fun _ _ h => h.2.1) ?step ?yield ⟨hI _ _ _ h0 (Keep.of hs1 (Nat.le_refl _)), tw1, hL1, hD1⟩).mono ?after
    case step =>
      rintro k W W' ⟨h1, h2, h3, h4⟩ hb
      have hlt : w.heap.size + 1 < W.heap.size := (Array.getElem?_eq_some_iff.1 h3).1
      exact ⟨hI _ _ _ h1 (Keep.of hb (by omega)), h2.same (hb.block _ (by omega)) (hb.block _ (by omega)) (hb.block _ (by omega)), (hb.block _ (by omega)).trans h3, (hb.block _ (by omega)).trans h4⟩
    case yield =>
      rintro k W hkm ⟨h1, h2, h3, h4⟩
      have hlt : w.heap.size + 1 < W.heap.size := (Array.getElem?_eq_some_iff.1 h3).1
      have hyl := run_yield (P := Tryz.prog) (args := #[.int .i64 (sideV x k), .int .i64 (sideV y k)]) h3 (by rw [hR]; simp [hps])
      rw [hR] at hyl
      obtain ⟨W2, hW2⟩ : ∃ W2, W2 = W.putObj (w.heap.size + 1) (.loop { R .ready none with state := .busy }) := ⟨_, rfl⟩
      have hb2 : ∀ b, b ≠ w.heap.size + 1 → W2.heap[b]? = W.heap[b]? := fun b hb => by rw [hW2]; exact World.putObj_heap_other hb
      have hsz2 : W2.heap.size = W.heap.size := by rw [hW2]; simp
      have hl2 : W2.heap[w.heap.size + 1]? = some (.loop { R .ready none with state := .busy }) := by rw [hW2]; exact World.putObj_heap_same hlt
      have hsx : Keep w.heap.size W W2 := by rw [hW2]; exact keep_put _ _ _ _ rfl (by omega)
      refine ⟨fn, _, assign, body, hyl, roundIn_of_wpIn hfn (hassign (w.heap.size + 1) k W _ ⟨W2, by rw [hW2]; exact run_beginRound h3 (by rw [hR]), ?_⟩)⟩
      refine wpIn_mono (hbody (w.heap.size + 1) k W2 hkm (hI _ _ _ h1 hsx) (by omega)) ?_
      have fin : ∀ (jump : Option Code) (W3 : World), (W2.heap.size ≤ W3.heap.size ∧ ∀ b, b < W2.heap.size → (b = w.heap.size ∨ b = w.heap.size + 1 ∨ b = bm ∨ b = bw ∨ b = bh) → W3.heap[b]? = W2.heap[b]?) →
          (Instr.endRound (w.heap.size + 1) jump).run Tryz.prog W3 = .ok (.bool jump.isNone) (W3.putObj (w.heap.size + 1) (.loop (R (if jump.isNone then .ready else .done) jump))) ∧
          (W3.putObj (w.heap.size + 1) (.loop (R (if jump.isNone then .ready else .done) jump))).heap[w.heap.size + 1]? = some (.loop (R (if jump.isNone then .ready else .done) jump)) ∧
          (W3.putObj (w.heap.size + 1) (.loop (R (if jump.isNone then .ready else .done) jump))).heap[w.heap.size]? = some (.deferred (some [])) ∧
          ThreeC (W3.putObj (w.heap.size + 1) (.loop (R (if jump.isNone then .ready else .done) jump))) bm bw bh m x y := fun jump W3 hb => by
        have hl3 := (hb.2 (w.heap.size + 1) (by omega) (.inr (.inl rfl))).trans hl2
        have he := run_endRound (P := Tryz.prog) jump hl3
        have hl3' := hl3
        rw [hR] at he hl3' ⊢
        refine ⟨he, World.putObj_heap_same (Array.getElem?_eq_some_iff.1 hl3').1, ?_, ?_⟩
        · rw [World.putObj_heap_other (by omega), hb.2 _ (by omega) (.inl rfl), hb2 _ (by omega), h4]
        · refine h2.same ?_ ?_ ?_
          · rw [World.putObj_heap_other (by omega), hb.2 _ (by omega) (.inr (.inr (.inl rfl))), hb2 _ (by omega)]
          · rw [World.putObj_heap_other (by omega), hb.2 _ (by omega) (.inr (.inr (.inr (.inl rfl)))), hb2 _ (by omega)]
          · rw [World.putObj_heap_other (by omega), hb.2 _ (by omega) (.inr (.inr (.inr (.inr rfl)))), hb2 _ (by omega)]
      rintro e a3 W3 hp
      cases e with
      | normal =>
        obtain ⟨hb, hi⟩ := hp
        obtain ⟨hr, g1, g2, g3⟩ := fin none W3 hb
        exact ⟨_, _, hr, true, rfl, .inl ⟨rfl, hI _ _ _ hi (keep_put _ _ _ _ rfl (by have := hb.1; omega)), g3, g1, g2⟩⟩
      | exit id =>
        obtain ⟨hb, hi⟩ := hp
        obtain ⟨hr, g1, g2, g3⟩ := fin (some (.exit id)) W3 hb
        exact ⟨_, _, hr, false, rfl, .inr ⟨rfl, .exit id, hIx _ _ _ _ hi (keep_put _ _ _ _ rfl (by have := hb.1; omega)), g1, g2⟩⟩
      | ret =>
        obtain ⟨hb, hi⟩ := hp
        obtain ⟨hr, g1, g2, g3⟩ := fin (some .ret) W3 hb
        exact ⟨_, _, hr, false, rfl, .inr ⟨rfl, .ret, hIx _ _ _ _ hi (keep_put _ _ _ _ rfl (by have := hb.1; omega)), g1, g2⟩⟩
      | goto t => exact hp.elim
      | panic ch => exact hp.elim
      | outgrown => exact hp.elim
    case after =>
      rintro e W2 ⟨⟨v, rfl⟩, h⟩
      have endR : ∀ (st : LoopState) (pe : Option Code) (W2 : World), st ≠ .busy → W2.heap[w.heap.size + 1]? = some (.loop (R st pe)) → W2.heap[w.heap.size]? = some (.deferred (some [])) →
          ∃ W4, (Instr.endLoop (w.heap.size + 1)).run Tryz.prog W2 = .ok pe W4 ∧ Keep w.heap.size W2 W4 ∧ W4.heap[w.heap.size]? = some (.deferred (some [])) := fun st pe W2 hst hl hd => by
        have := run_endLoop (P := Tryz.prog) hl (by rw [hR]; exact hst)
        rw [hR] at this
        exact ⟨_, this, keep_put _ _ _ _ rfl (by have := (Array.getElem?_eq_some_iff.1 hl).1; omega), (World.putObj_heap_other (by omega)).trans hd⟩
      rcases h with ⟨h1, _, h3, h4⟩ | ⟨k, hkm, c, h1, h3, h4⟩
      · obtain ⟨W4, he, hs, hd⟩ := endR _ _ W2 (by simp) h3 h4
        exact ⟨none, W4, he, hdone _ _ (hI _ _ _ h1 hs) hd (Nat.le_refl _)⟩
      · obtain ⟨W4, he, hs, hd⟩ := endR _ _ W2 (by simp) h3 h4
        exact ⟨some c, W4, he, hstop _ c k _ hkm (hIx _ _ _ _ h1 hs) hd (Nat.le_refl _)⟩
end Go.Proofs.YtpkclnkibhgpkaaGreat
