/-
The parts, the colours and the texels of a block of ETC1, as what a run may lean on. Its conditions: none.
-/
import Derived.Test.YtpkclnkibhgpkaaGreatYC
namespace Go.Proofs.YtpkclnkibhgpkaaGreat.Sx
open Go Go.RowKit

theorem kdCs_plain : ∀ {ks : List Kd} {l : List SC}, kdCs ks l = true → allL plainC l = true
  | [], [], _ => rfl
  | [], _ :: _, h => by cases h
  | _ :: _, [], h => by cases h
  | k :: r, c :: s, h => by
    unfold kdCs at h
    cases q : kdC k c
    · rw [q] at h; cases h
    · rw [q] at h
      have ih := kdCs_plain h
      have hc : plainC c = true := by
        cases k with
        | i k lo hi => obtain ⟨x, rfl, _⟩ := kdC_i q; rfl
        | b => obtain ⟨x, rfl⟩ := kdC_b q; rfl
      unfold allL
      rw [hc, ih]; rfl
/-- cells of kinds tell one value -/
theorem kd_value [Sh] {b : Nat → Option Nat} {ks : List Kd} {l : List SC} (h : kdCs ks l = true) {u : Value} (hr : RepT b (.v (.agg l)) u) : u = .agg (kdVal (nthI l) (nthB l) ks 0).toArray := by
  rw [rep_val hr (kdCs_plain h)]
  exact kd_agg h
theorem nthI_bd {ks : List Kd} {l : List SC} (h : kdCs ks l = true) : kdBd (nthI l) ks 0 :=
  kdBd_of 0 fun i k lo hi hk => by rw [Nat.zero_add]; exact kdCs_bd h i k lo hi hk
theorem blk_bd {l : List SC} (h : kdCs kdBlock l = true) : kdBd (nthI l) kdBlockT 1 := nthI_bd h
theorem basV_bd (d : Bool) (x : Nat → Int) (t : Nat → Bool) (h : kdBd x kdBlockT 1) : kdBd (basV d x t h) kdBases 0 := by
  obtain ⟨h0, _⟩ := @calls_free ⟨fun _ => 0⟩ _ _ _ _ (fun _ => rfl) (bases_run d x t h) (@argB_rep ⟨fun _ => 0⟩ _ d x t h) default
  obtain ⟨l, y, h2, h3, _⟩ := chkB_form h0
  have hx : basV d x t h = nthI l := by unfold basV; rw [h2]; rfl
  rw [hx]; exact nthI_bd h3
theorem paiV_bd (d : Bool) (x : Nat → Int) (t : Nat → Bool) (h : kdBd x kdBlockT 1) : kdBd (paiV d x t h) (kdTile 64) 0 := by
  obtain ⟨h0, _⟩ := @calls_free ⟨fun _ => 0⟩ _ _ _ _ (fun _ => rfl) (paint_run d x t h) (@argB_rep ⟨fun _ => 0⟩ _ d x t h) default
  obtain ⟨l, h2, h3⟩ := chkT_form h0
  have hx : paiV d x t h = nthI l := by unfold paiV; rw [h2]; rfl
  rw [hx]; exact nthI_bd h3
def kd8 : List Kd := [.i .u8 0 255, .i .u8 0 255, .i .u8 0 255, .i .u8 0 255, .i .u8 0 255, .i .u8 0 255, .i .u8 0 255, .i .u8 0 255]
theorem by8_bd {l : List SC} (h : kdCs kd8 l = true) : ∀ i, 0 ≤ nthI l i ∧ nthI l i ≤ 255 := by
  intro i
  by_cases hi : i < 8
  · refine kdCs_bd h i .u8 0 255 ?_
    match i, hi with
    | 0, _ => rfl
    | 1, _ => rfl
    | 2, _ => rfl
    | 3, _ => rfl
    | 4, _ => rfl
    | 5, _ => rfl
    | 6, _ => rfl
    | 7, _ => rfl
  · have hl : l.length = 8 := by
      have := kdCs_val 0 h
      have := congrArg List.length this
      simpa [kd8, kdVal] using this
    have : nthI l i = 0 := by
      unfold nthI
      rw [nthL_eq, List.getElem?_eq_none (by omega)]
    rw [this]; decide
noncomputable def sm9 (nx : Nat) : List ST → Option (ST × List (Nat × Blk) × Nat)
  | [.v (.agg l)] => if h : kdCs kdBlock l = true then
      some (.tup [.agg (kdCells (basV (nthB l 0) (nthI l) (nthB l) (blk_bd h)) (fun _ => false) kdBases 0 (basV_bd _ _ _ _)), .c (.lf (.int .i64 (.sym (farV (nthB l 0) (nthI l) (nthB l) (blk_bd h)) 0 3 (farV_bd _ _ _ _))))], [], nx) else none
  | _ => none
noncomputable def sm171 (nx : Nat) : List ST → Option (ST × List (Nat × Blk) × Nat)
  | [.v (.agg l)] => if h : kdCs kdBlock l = true then
      some (.v (.agg (kdCells (paiV (nthB l 0) (nthI l) (nthB l) (blk_bd h)) (fun _ => false) (kdTile 64) 0 (paiV_bd _ _ _ _))), [], nx) else none
  | _ => none
/-- so many cells behind a slice -/
def behind (hp : List (Nat × Blk)) (id off n : Nat) : Option (List SC) := match getB hp id with
  | some bk => bif Nat.ble bk.off off then cutL (off - bk.off) n bk.cells else none
  | none => none
noncomputable def sm8 (hp : List (Nat × Blk)) (nx : Nat) : List ST → Option (ST × List (Nat × Blk) × Nat)
  | [.v (.c (.lf (.sl id off 8 _)))] => match behind hp id off 8 with
    | some cs => if h : kdCs kd8 cs = true then
        some (.tup [.agg (kdCells (pX (nthI cs) (by8_bd h)) (pT (nthI cs) (by8_bd h)) kdBlock 0 (pX_bd _ _)), .c (.lf (.int .i64 (.lit 0)))], [], nx) else none
    | none => none
  | _ => none
/-- bytes that are told lie there -/
theorem behind_cells [Sh] {b : Nat → Option Nat} {hp : List (Nat × Blk)} {w : World} (hh : HpOK b hp w) {id off n : Nat} {cs : List SC} (h : behind hp id off n = some cs) {q : Nat} (hq : b id = some q) :
    ∃ vs : List Value, FA2 (RepC b) cs vs ∧ ∀ (j : Nat) (v : Value), vs[j]? = some v → w.cell? ⟨q, Sh.sh id + off + j, none⟩ = some v := by
  unfold behind at h
  split at h
  · rename_i bk hb
    cases g : Nat.ble bk.off off
    · rw [g] at h; cases h
    · rw [g] at h
      rw [ble_iff] at g
      obtain ⟨n', hn', vs, h1, h2, _⟩ := hh id bk hb
      rw [hq] at hn'; cases hn'
      obtain ⟨rfl, hl⟩ := cutL_some h
      refine ⟨(vs.drop (off - bk.off)).take n, fa2_take n (fa2_drop (off - bk.off) h1), fun j v hv => ?_⟩
      have hj : j < n := by
        have := (List.getElem?_eq_some_iff.1 hv).1
        simp at this; omega
      rw [List.getElem?_take_of_lt hj, List.getElem?_drop] at hv
      rw [← h2 _ _ hv, show Sh.sh id + off + j = Sh.sh id + bk.off + (off - bk.off + j) by omega]
  · cases h
theorem fa2_map_val [Sh] {b : Nat → Option Nat} {ks : List Kd} {l : List SC} {vs : List Value} (h : kdCs ks l = true) (g : FA2 (RepC b) l vs) : vs = kdVal (nthI l) (nthB l) ks 0 := by
  have := fa2_val (p := plainC) (fun x y (q : RepC b x y) => repC_val q) g (kdCs_plain h)
  rw [this]
  exact kdCs_val 0 h
noncomputable def smE (n : Nat) (args : List ST) (hp : List (Nat × Blk)) (nx : Nat) : Option (ST × List (Nat × Blk) × Nat) :=
  bif Nat.beq n 9 then sm9 nx args else bif Nat.beq n 171 then sm171 nx args else bif Nat.beq n 8 then sm8 hp nx args else none
theorem sumE [Sh] : SumOK Tryz.prog smE := by
  intro n args hp nx v new nx' h w b vals hv hh hj hl hs hz
  unfold smE at h
  cases q1 : Nat.beq n 9
  · rw [q1] at h
    cases q2 : Nat.beq n 171
    · rw [q2] at h
      cases q3 : Nat.beq n 8
      · rw [q3] at h; cases h
      · rw [q3] at h
        rw [beq_iff] at q3
        subst q3
        simp only [cond_true, cond_false] at h
        unfold sm8 at h
        split at h
        · rename_i id off cap
          split at h
          · rename_i cs hcs
            split at h
            · rename_i hk
              cases h
              obtain ⟨vs, rfl⟩ : ∃ vs, vals = ⟨vs⟩ := ⟨vals.toList, rfl⟩
              cases hv with
              | cons h1 h2 =>
                cases h2
                obtain ⟨q, c, hq, rfl, hle, _⟩ := RepL.slv h1
                obtain ⟨vs, k1, k2⟩ := behind_cells hh hcs hq
                have hvs := fa2_map_val hk k1
                refine sum_plain (Tryz.call8 _ _) (parts_any (nthI cs) (by8_bd hk) q (Sh.sh id + off) c w hle fun i hi => ?_) ⟨_, rfl, .cons ⟨_, rfl, kdCells_rep b _⟩ (.cons rfl .nil)⟩ hl
                refine k2 i _ ?_
                rw [hvs]
                match i, hi with
                | 0, _ => rfl
                | 1, _ => rfl
                | 2, _ => rfl
                | 3, _ => rfl
                | 4, _ => rfl
                | 5, _ => rfl
                | 6, _ => rfl
                | 7, _ => rfl
            · cases h
          · cases h
        · cases h
    · rw [q2] at h
      rw [beq_iff] at q2
      subst q2
      simp only [cond_true, cond_false] at h
      unfold sm171 at h
      split at h
      · rename_i l
        split at h
        · rename_i hk
          cases h
          obtain ⟨vs, rfl⟩ : ∃ vs, vals = ⟨vs⟩ := ⟨vals.toList, rfl⟩
          cases hv with
          | cons h1 h2 =>
            cases h2
            obtain rfl := kd_value hk h1
            exact sum_plain (Tryz.call171 _ _) (paint_any (nthB l 0) (nthI l) (nthB l) (blk_bd hk) w) ⟨_, rfl, kdCells_rep b _⟩ hl
        · cases h
      · cases h
  · rw [q1] at h
    rw [beq_iff] at q1
    subst q1
    simp only [cond_true] at h
    unfold sm9 at h
    split at h
    · rename_i l
      split at h
      · rename_i hk
        cases h
        obtain ⟨vs, rfl⟩ : ∃ vs, vals = ⟨vs⟩ := ⟨vals.toList, rfl⟩
        cases hv with
        | cons h1 h2 =>
          cases h2
          obtain rfl := kd_value hk h1
          exact sum_plain (Tryz.call9 _ _) (bases_any (nthB l 0) (nthI l) (nthB l) (blk_bd hk) w) ⟨_, rfl, .cons ⟨_, rfl, kdCells_rep b _⟩ (.cons rfl .nil)⟩ hl
      · cases h
    · cases h
noncomputable def envE : Env := ⟨tys, fns, smE⟩
theorem envE_ok [Sh] : EnvOK Tryz.prog envE := env_ok sumE
end Go.Proofs.YtpkclnkibhgpkaaGreat.Sx
/-
Which kind a block of ETC2 is. Its conditions: parts within their bounds.
-/
namespace Go.Proofs.YtpkclnkibhgpkaaGreat.Sx
open Go Go.RowKit

/-- a run's cells, one after the other -/
theorem nthI_cells {x : Nat → Int} {t : Nat → Bool} : ∀ {ks : List Kd} {n : Nat} {h : kdBd x ks n} (i : Nat) {k : IntKind} {lo hi : Int}, ks[i]? = some (.i k lo hi) → nthI (kdCells x t ks n h) i = x (n + i)
  | [], _, _, i, _, _, _, hk => by simp at hk
  | .i k lo hi :: r, n, h, 0, _, _, _, hk => rfl
  | .b :: r, n, h, 0, _, _, _, hk => by simp at hk
  | .i k lo hi :: r, n, h, i + 1, _, _, _, hk => by
    have := nthI_cells (ks := r) (n := n + 1) (h := h.2) (t := t) i (by simpa using hk)
    rw [show n + (i + 1) = n + 1 + i by omega, ← this]; rfl
  | .b :: r, n, h, i + 1, _, _, _, hk => by
    have := nthI_cells (ks := r) (n := n + 1) (h := h) (t := t) i (by simpa using hk)
    rw [show n + (i + 1) = n + 1 + i by omega, ← this]; rfl
theorem nthB_cells {x : Nat → Int} {t : Nat → Bool} : ∀ {ks : List Kd} {n : Nat} {h : kdBd x ks n} (i : Nat), ks[i]? = some .b → nthB (kdCells x t ks n h) i = t (n + i)
  | [], _, _, i, hk => by simp at hk
  | .b :: r, n, h, 0, hk => rfl
  | .i _ _ _ :: r, n, h, 0, hk => by simp at hk
  | .i k lo hi :: r, n, h, i + 1, hk => by
    have := nthB_cells (ks := r) (n := n + 1) (h := h.2) (t := t) i (by simpa using hk)
    rw [show n + (i + 1) = n + 1 + i by omega, ← this]; rfl
  | .b :: r, n, h, i + 1, hk => by
    have := nthB_cells (ks := r) (n := n + 1) (h := h) (t := t) i (by simpa using hk)
    rw [show n + (i + 1) = n + 1 + i by omega, ← this]; rfl
theorem sym_congr {k : IntKind} {a b lo hi : Int} (e : a = b) (h : lo ≤ a ∧ a ≤ hi) (g : lo ≤ b ∧ b ≤ hi) : SC.lf (.int k (.sym a lo hi h)) = SC.lf (.int k (.sym b lo hi g)) := by subst e; rfl
theorem kdCells_congr {x y : Nat → Int} {t u : Nat → Bool} : ∀ {ks : List Kd} {n : Nat} (h : kdBd x ks n) (g : kdBd y ks n), (∀ i k lo hi, ks[i]? = some (.i k lo hi) → x (n + i) = y (n + i)) → (∀ i, ks[i]? = some .b → t (n + i) = u (n + i)) → kdCells x t ks n h = kdCells y u ks n g
  | [], _, _, _, _, _ => rfl
  | .i k lo hi :: r, n, h, g, e1, e2 => by
    have h0 : x n = y n := e1 0 k lo hi rfl
    have ih := kdCells_congr (t := t) (u := u) (ks := r) (n := n + 1) h.2 g.2 (fun i k lo hi hk => by have := e1 (i + 1) k lo hi (by simpa using hk); rw [show n + 1 + i = n + (i + 1) by omega]; exact this) (fun i hk => by have := e2 (i + 1) (by simpa using hk); rw [show n + 1 + i = n + (i + 1) by omega]; exact this)
    show SC.lf _ :: _ = SC.lf _ :: _
    rw [ih, sym_congr h0 h.1 g.1]
  | .b :: r, n, h, g, e1, e2 => by
    have h0 : t n = u n := e2 0 rfl
    have ih := kdCells_congr (t := t) (u := u) (ks := r) (n := n + 1) h g (fun i k lo hi hk => by have := e1 (i + 1) k lo hi (by simpa using hk); rw [show n + 1 + i = n + (i + 1) by omega]; exact this) (fun i hk => by have := e2 (i + 1) (by simpa using hk); rw [show n + 1 + i = n + (i + 1) by omega]; exact this)
    simp only [kdCells]
    rw [ih, h0]
/-- what a block's cells come to depends on its cells alone -/
theorem argB_cells {l : List SC} (hk : kdCs kdBlock l = true) {d : Bool} {x : Nat → Int} {t : Nat → Bool} (h : kdBd x kdBlockT 1) (hd : nthB l 0 = d) (hx : ∀ i, 2 ≤ i → i < 26 → nthI l i = x i) (ht : nthB l 1 = t 1) :
    argB (nthB l 0) (nthI l) (nthB l) (blk_bd hk) = argB d x t h := by
  unfold argB
  rw [hd]
  rw [kdCells_congr (blk_bd hk) h (fun i k lo hi hi' => ?_) (fun i hi' => ?_)]
  · have hi2 : i < 25 := by
      have := (List.getElem?_eq_some_iff.1 hi').1
      simpa [kdBlockT, kdBlock] using this
    have : i ≠ 0 := by
      intro e; subst e; simp [kdBlockT, kdBlock] at hi'
    exact hx _ (by omega) (by omega)
  · have : i = 0 := by
      have hi2 : i < 25 := by
        have := (List.getElem?_eq_some_iff.1 hi').1
        simpa [kdBlockT, kdBlock] using this
      rcases Nat.eq_zero_or_pos i with e | e
      · exact e
      · exfalso
        have : ∀ j : Fin 25, 0 < j.val → kdBlockT[j.val]? ≠ some .b := by
          intro j hj
          match j, hj with
          | ⟨j + 1, hj2⟩, _ => 
            intro hc
            simp only [kdBlockT, kdBlock, List.getElem?_cons_succ] at hc
            have h3 := List.mem_of_getElem? hc
            simp at h3
        exact this ⟨i, hi2⟩ e hi'
    subst this
    exact ht
def kd27 : List Kd := kdBlock ++ [.b]
noncomputable def argK (s0 : Value) (x : Nat → Int) (t : Nat → Bool) (h : kdBd x kd27 0) : List ST := [.v (.agg (.lf (.val s0) :: kdCells x t kd27 0 h))]
theorem kd27_bd {x : Nat → Int} (h : kdBd x kd27 0) : kdBd x kdBlock 0 := by
  simp only [kd27, kdBlock, List.cons_append, List.nil_append, kdBd, and_true] at h ⊢
  exact h
theorem kdCells_ok {x : Nat → Int} {t : Nat → Bool} : ∀ {ks : List Kd} {n : Nat} (h : kdBd x ks n), kdCs ks (kdCells x t ks n h) = true
  | [], _, _ => rfl
  | .i k lo hi :: r, n, h => by
    have ih := kdCells_ok (t := t) (ks := r) (n := n + 1) h.2
    simp only [kdCells, kdCs, kdC, SI.lo, SI.hi]
    have e1 : kindEq k k = true := by cases k <;> rfl
    rw [e1, ile_iff.2 (Int.le_refl lo), ile_iff.2 (Int.le_refl hi), ih]; rfl
  | .b :: r, n, h => by
    have ih := kdCells_ok (t := t) (ks := r) (n := n + 1) h
    simp only [kdCells, kdCs, kdC]
    rw [ih]; rfl
noncomputable def far27 (x : Nat → Int) (t : Nat → Bool) (h : kdBd x kd27 0) : Int := farV (nthB (kdCells x t kdBlock 0 (kd27_bd h)) 0) (nthI (kdCells x t kdBlock 0 (kd27_bd h))) (nthB (kdCells x t kdBlock 0 (kd27_bd h))) (blk_bd (kdCells_ok (kd27_bd h)))
theorem far27_bd (x : Nat → Int) (t : Nat → Bool) (h : kdBd x kd27 0) : 0 ≤ far27 x t h ∧ far27 x t h ≤ 3 := farV_bd _ _ _ _
theorem kind_run (s0 : Value) (x : Nat → Int) (t : Nat → Bool) (h : kdBd x kd27 0) : leafOK 0 (fun _ => true) (callS envE 100000 173 (argK s0 x t h) [] 0) = true := by kernel_rfl
theorem kind_out (s0 : Value) (x : Nat → Int) (t : Nat → Bool) (h : kdBd x kd27 0) : outV (callS envE 100000 173 (argK s0 x t h) [] 0) = .v (.c (.lf (.int .i64 (iteS (decide (far27 x t h = 3)) (.lit 0) (addS .i64 (.lit 1) (.sym (far27 x t h) 0 3 (far27_bd x t h))))))) := by kernel_rfl
noncomputable def kinV (x : Nat → Int) (t : Nat → Bool) (h : kdBd x kd27 0) : Int := if far27 x t h = 3 then 0 else 1 + far27 x t h
theorem kinV_bd (x : Nat → Int) (t : Nat → Bool) (h : kdBd x kd27 0) : 0 ≤ kinV x t h ∧ kinV x t h ≤ 3 := by
  have := far27_bd x t h
  unfold kinV
  split <;> omega
theorem kind_any (s0 : Value) (hs0 : s0.oneCell' = true) (x : Nat → Int) (t : Nat → Bool) (h : kdBd x kd27 0) (w : World) :
    Calls Tryz.prog 173 #[.agg (s0 :: kdVal x t kd27 0).toArray] w fun e w' => e = .returned (.int .i64 (kinV x t h)) ∧ Below w.heap.size w w' := by
  obtain ⟨_, h1⟩ := @calls_plain Tryz.prog (shAt 0) envE (@envE_ok (shAt 0)) _ _ _ _ _ _ (kind_run s0 x t h)
  have := h1 (w := w) (b := fun _ => none) (vals := #[.agg (s0 :: kdVal x t kd27 0).toArray]) (.cons ⟨_, rfl, .cons ⟨rfl, hs0⟩ (@kdCells_rep (shAt 0) _ x t _ _ h)⟩ .nil) (fun id k hk => by cases hk) (fun i j n hi => by obtain ⟨k, hk⟩ := hi; cases hk) (fun i n hi => by cases hi) (fun i n hi => by obtain ⟨k, hk⟩ := hi; cases hk)
    (fun i _ => by show (if i = 0 then 0 else 0) = 0; split <;> rfl)
  rw [kind_out] at this
  have e : valT (.v (.c (.lf (.int .i64 (iteS (decide (far27 x t h = 3)) (.lit 0) (addS .i64 (.lit 1) (.sym (far27 x t h) 0 3 (far27_bd x t h)))))))) = .int .i64 (kinV x t h) := by
    show Value.int .i64 (SI.val _) = _
    rw [iteS_val, addS_val]
    have := far27_bd x t h
    unfold kinV
    by_cases q : far27 x t h = 3
    · rw [if_pos q]; simp [q, SI.val]
    · rw [if_neg q]
      simp only [q, decide_false, cond_false, SI.val]
      rw [wrap_in .i64 _ (by simp only [kmin]; omega) (by simp only [kmax]; omega)]
  rw [e] at this
  exact this
noncomputable def sm173 (nx : Nat) : List ST → Option (ST × List (Nat × Blk) × Nat)
  | [.v (.agg (.lf (.sl _ _ _ _) :: l))] => if h : kdCs kd27 l = true then
      some (.v (.c (.lf (.int .i64 (.sym (kinV (nthI l) (nthB l) (nthI_bd h)) 0 3 (kinV_bd _ _ _))))), [], nx) else none
  | _ => none
noncomputable def smF (n : Nat) (args : List ST) (hp : List (Nat × Blk)) (nx : Nat) : Option (ST × List (Nat × Blk) × Nat) :=
  bif Nat.beq n 173 then sm173 nx args else smE n args hp nx
theorem sumF [Sh] : SumOK Tryz.prog smF := by
  intro n args hp nx v new nx' h w b vals hv hh hj hl hs hz
  unfold smF at h
  cases q1 : Nat.beq n 173
  · rw [q1] at h
    exact sumE n args hp nx v new nx' h w b vals hv hh hj hl hs hz
  · rw [q1] at h
    rw [beq_iff] at q1
    subst q1
    simp only [cond_true] at h
    unfold sm173 at h
    split at h
    · rename_i id off len cap l
      split at h
      · rename_i hk
        cases h
        obtain ⟨vs, rfl⟩ : ∃ vs, vals = ⟨vs⟩ := ⟨vals.toList, rfl⟩
        cases hv with
        | cons h1 h2 =>
          cases h2
          obtain ⟨cs, rfl, h3⟩ := h1
          obtain ⟨cl, rfl⟩ : ∃ cl, cs = ⟨cl⟩ := ⟨cs.toList, rfl⟩
          cases h3 with
          | cons h4 h5 =>
            obtain ⟨q, c, hq, rfl, hle, _⟩ := RepL.slv h4
            have := fa2_map_val hk h5
            subst this
            exact sum_plain (Tryz.call173 _ _) (kind_any _ rfl (nthI l) (nthB l) (nthI_bd hk) w) rfl hl
      · cases h
    · cases h
noncomputable def envF : Env := ⟨tys, fns, smF⟩
theorem envF_ok [Sh] : EnvOK Tryz.prog envF := env_ok sumF
end Go.Proofs.YtpkclnkibhgpkaaGreat.Sx
/-
A block of ETC1, and one of ETC2 whose differences go not too far: their texels are the same. Its conditions: eight bytes that can be read.
-/
namespace Go.Proofs.YtpkclnkibhgpkaaGreat.Sx
open Go Go.RowKit
variable {P : Program}

noncomputable section
/-- a function on arguments, its ways apart -/
def callT (e : Env) (fuel n : Nat) (args : List ST) (hp : List (Nat × Blk)) (nx : Nat) : Option RTree :=
  match e.fn.get n with
  | none => none
  | some fn => match fn.body with
    | none => none
    | some body => bif sizesOK fn body && Nat.ble (lenL args) fn.ntmps then
        (match exec e fuel (.code body ⟨argSlots args 0 .nil, hp, nx, 0⟩) with
         | none => none
         | some t => RTree.of e fn.results.toList ⟨.nil, hp, nx, 0⟩ t) else none
end
theorem callT_ok [Sh] {e : Env} (he : EnvOK P e) {fuel n : Nat} {args : List ST} {hp : List (Nat × Blk)} {nx : Nat} {rt : RTree} (h : callT e fuel n args hp nx = some rt) {w : World} {b : Nat → Option Nat} {vals : Array Value}
    (hv : FA2 (RepT b) args vals.toList) (hh : HpOK b hp w) (hj : ∀ i j n, Live hp i → Live hp j → b i = some n → b j = some n → i = j) (hl : ∀ i n, b i = some n → i < nx) (hs : ∀ i n, Live hp i → b i = some n → n < w.heap.size) (hz : ∀ i, nx ≤ i → Sh.sh i = 0) {R : Ending → World → Prop}
    (g : RTreeP (fun v s' => ∀ c w' u, ExtN nx b c → Conc w ⟨nx, Live hp⟩ c s' ⟨#[], []⟩ w' → RepT c v u → R (.returned u) w') rt) : Calls P n vals w R := by
  have hc : Conc w ⟨nx, Live hp⟩ b ⟨.nil, hp, nx, 0⟩ ⟨#[], []⟩ w := ⟨fun t x q => by simp [Tr.get] at q, hh, hj, hl, hs, fun i m hi _ hb => by have := hl i m hb; simp only at hi; omega, fun j _ hb => (by rw [bitOn_zero] at hb; cases hb), fun j _ q => q, fun j hb => (by rw [bitOn_zero] at hb; cases hb), Fr.refl _ _ _, Nat.le_refl _, hz⟩
  unfold callT at h
  split at h
  · cases h
  · rename_i fn hfn
    obtain ⟨hf1, hf2⟩ := he.fn n fn hfn
    split at h
    · cases h
    · rename_i body hbody
      cases q : (sizesOK fn body && Nat.ble (lenL args) fn.ntmps)
      · rw [q] at h; cases h
      · rw [q] at h
        simp only [Bool.and_eq_true, ble_iff, lenL_eq] at q
        simp only [cond_true] at h
        split at h
        · cases h
        · rename_i t ht
          refine calls_of_wp hf1 hbody ?_
          have hle := fa2_len hv
          simp only [Array.length_toList] at hle
          have hst := hc.start
          have hsz : (vals ++ Array.replicate (fn.ntmps - vals.size) undef).size = fn.ntmps := by simp; omega
          have hc2 : Conc w ⟨nx, Live hp⟩ b ⟨argSlots args 0 .nil, hp, nx, 0⟩ { tmps := vals ++ Array.replicate (fn.ntmps - vals.size) undef, defers := [] } w :=
            ⟨args_tm hv _, hst.hp, hst.inj, hst.lt, hst.sz, hst.nw, hst.m1, hst.m3, hst.wl, hst.fr, hst.nx, hst.z⟩
          refine (exec_ok he (fun _ hI => draw_ok he hI) fuel).1 _ _ _ ht _ _ _ _ _ _ hc2 (fun d hd => ?_) ?_
          · simp only [hsz]
            have := allL_iff q.1 d hd
            simpa using this
          · refine TreeP.mono ?_ (rtree_of_P h g)
            rintro ex s' ⟨hex, v, hp', hres, hhp, hF⟩ b' a' w' hx _ hcc hso
            obtain ⟨u, hu, hr⟩ := resultsS_run he.ty hres hcc
            have hcal := hc.start.caller hcc hx
            have hcal2 : Conc w ⟨nx, Live hp⟩ b' ⟨.nil, hp', s'.nx, s'.wr⟩ ⟨#[], []⟩ w' := by
              rcases hhp with rfl | rfl
              · exact hcal.less fun id k hk => getB_keepOld hk
              · exact hcal
            have hend := hF b' w' u hx hcal2 hr
            rcases hex with rfl | rfl
            · exact ⟨hso.2.2, u, hu, hend⟩
            · exact ⟨hso.2.2, u, hu, hend⟩

theorem byHp_congr {f g : Nat → Int} (hf : ∀ i, 0 ≤ f i ∧ f i ≤ 255) (hg : ∀ i, 0 ≤ g i ∧ g i ≤ 255) (h : ∀ i, i < 8 → f i = g i) : byHp f hf 8 = byHp g hg 8 := by
  have key : ∀ (n i : Nat), i + n ≤ 8 → byC f hf n i = byC g hg n i := by
    intro n
    induction n with
    | zero => intro i _; rfl
    | succ n ih =>
      intro i hi
      simp only [byC]
      rw [ih (i + 1) (by omega), sym_congr (h i (by omega)) (hf i) (hg i)]
  unfold byHp
  rw [key 8 0 (by omega)]
theorem pX_congr {f g : Nat → Int} (hf : ∀ i, 0 ≤ f i ∧ f i ≤ 255) (hg : ∀ i, 0 ≤ g i ∧ g i ≤ 255) (h : ∀ i, i < 8 → f i = g i) : pX f hf = pX g hg ∧ pT f hf = pT g hg := by
  unfold pX pT partsR
  rw [byHp_congr hf hg h]
  exact ⟨rfl, rfl⟩
theorem byC_nth (f : Nat → Int) (hf : ∀ i, 0 ≤ f i ∧ f i ≤ 255) : ∀ (n i j : Nat), j < n → nthI (byC f hf n i) j = f (i + j)
  | 0, _, _, h => by omega
  | n + 1, i, 0, _ => rfl
  | n + 1, i, j + 1, h => by
    have := byC_nth f hf n (i + 1) j (by omega)
    rw [show i + (j + 1) = i + 1 + j by omega, ← this]; rfl
theorem by_ok (f : Nat → Int) (hf : ∀ i, 0 ≤ f i ∧ f i ≤ 255) : kdCs kd8 (byC f hf 8 0) = true := rfl
/-- the cells of a block's parts, as the run tells them -/
noncomputable def cellsP (f : Nat → Int) (hf : ∀ i, 0 ≤ f i ∧ f i ≤ 255) : List SC := kdCells (pX (nthI (byC f hf 8 0)) (by8_bd (by_ok f hf))) (pT (nthI (byC f hf 8 0)) (by8_bd (by_ok f hf))) kdBlock 0 (pX_bd _ _)
theorem cellsP_ok (f : Nat → Int) (hf : ∀ i, 0 ≤ f i ∧ f i ≤ 255) : kdCs kdBlock (cellsP f hf) = true := kdCells_ok _
noncomputable def T7 (f : Nat → Int) (hf : ∀ i, 0 ≤ f i ∧ f i ≤ 255) : Nat → Int := paiV (pT f hf 0) (pX f hf) (pT f hf) (pX_bd f hf)
noncomputable def F7 (f : Nat → Int) (hf : ∀ i, 0 ≤ f i ∧ f i ≤ 255) : Int := farV (pT f hf 0) (pX f hf) (pT f hf) (pX_bd f hf)
theorem blk_int : ∀ (i : Nat), 2 ≤ i → i < 26 → ∃ k lo hi, kdBlock[i]? = some (.i k lo hi)
  | 2, _, _ => ⟨_, _, _, rfl⟩
  | 3, _, _ => ⟨_, _, _, rfl⟩
  | 4, _, _ => ⟨_, _, _, rfl⟩
  | 5, _, _ => ⟨_, _, _, rfl⟩
  | 6, _, _ => ⟨_, _, _, rfl⟩
  | 7, _, _ => ⟨_, _, _, rfl⟩
  | 8, _, _ => ⟨_, _, _, rfl⟩
  | 9, _, _ => ⟨_, _, _, rfl⟩
  | 10, _, _ => ⟨_, _, _, rfl⟩
  | 11, _, _ => ⟨_, _, _, rfl⟩
  | 12, _, _ => ⟨_, _, _, rfl⟩
  | 13, _, _ => ⟨_, _, _, rfl⟩
  | 14, _, _ => ⟨_, _, _, rfl⟩
  | 15, _, _ => ⟨_, _, _, rfl⟩
  | 16, _, _ => ⟨_, _, _, rfl⟩
  | 17, _, _ => ⟨_, _, _, rfl⟩
  | 18, _, _ => ⟨_, _, _, rfl⟩
  | 19, _, _ => ⟨_, _, _, rfl⟩
  | 20, _, _ => ⟨_, _, _, rfl⟩
  | 21, _, _ => ⟨_, _, _, rfl⟩
  | 22, _, _ => ⟨_, _, _, rfl⟩
  | 23, _, _ => ⟨_, _, _, rfl⟩
  | 24, _, _ => ⟨_, _, _, rfl⟩
  | 25, _, _ => ⟨_, _, _, rfl⟩
  | 0, h, _ => by omega
  | 1, h, _ => by omega
  | n + 26, _, h => by omega
theorem cellsP_I (f : Nat → Int) (hf : ∀ i, 0 ≤ f i ∧ f i ≤ 255) {i : Nat} (h1 : 2 ≤ i) (h2 : i < 26) : nthI (cellsP f hf) i = pX f hf i := by
  obtain ⟨k, lo, hi, hk⟩ := blk_int i h1 h2
  unfold cellsP
  rw [nthI_cells i hk, Nat.zero_add]
  exact congrFun (pX_congr _ hf fun j hj => by rw [byC_nth f hf 8 0 j hj, Nat.zero_add]).1 i
theorem cellsP_B (f : Nat → Int) (hf : ∀ i, 0 ≤ f i ∧ f i ≤ 255) {i : Nat} (h2 : i < 2) : nthB (cellsP f hf) i = pT f hf i := by
  have hk : kdBlock[i]? = some .b := by
    match i, h2 with
    | 0, _ => rfl
    | 1, _ => rfl
  unfold cellsP
  rw [nthB_cells i hk, Nat.zero_add]
  exact congrFun (pX_congr _ hf fun j hj => by rw [byC_nth f hf 8 0 j hj, Nat.zero_add]).2 i
theorem argB_P (f : Nat → Int) (hf : ∀ i, 0 ≤ f i ∧ f i ≤ 255) {l : List SC} (hk : kdCs kdBlock l = true) (e1 : ∀ i, 2 ≤ i → i < 26 → nthI l i = nthI (cellsP f hf) i) (e2 : ∀ i, i < 2 → nthB l i = nthB (cellsP f hf) i) :
    argB (nthB l 0) (nthI l) (nthB l) (blk_bd hk) = argB (pT f hf 0) (pX f hf) (pT f hf) (pX_bd f hf) :=
  argB_cells hk (pX_bd f hf) (by rw [e2 0 (by omega), cellsP_B f hf (by omega)]) (fun i h1 h2 => by rw [e1 i h1 h2, cellsP_I f hf h1 h2]) (by rw [e2 1 (by omega), cellsP_B f hf (by omega)])
theorem paiV_P (f : Nat → Int) (hf : ∀ i, 0 ≤ f i ∧ f i ≤ 255) : paiV (nthB (cellsP f hf) 0) (nthI (cellsP f hf)) (nthB (cellsP f hf)) (blk_bd (cellsP_ok f hf)) = T7 f hf := by
  unfold T7 paiV
  rw [argB_P f hf (cellsP_ok f hf) (fun _ _ _ => rfl) (fun _ _ => rfl)]
/-- what the run of a block of ETC1 hands back -/
noncomputable def tileP (f : Nat → Int) (hf : ∀ i, 0 ≤ f i ∧ f i ≤ 255) : ST := .tup [.agg (kdCells (paiV (nthB (cellsP f hf) 0) (nthI (cellsP f hf)) (nthB (cellsP f hf)) (blk_bd (cellsP_ok f hf))) (fun _ => false) (kdTile 64) 0 (paiV_bd _ _ _ _)), .c (.lf (.int .i64 (.lit 0)))]
theorem kdCells_val {x : Nat → Int} {t : Nat → Bool} : ∀ {ks : List Kd} {n : Nat} (h : kdBd x ks n), (kdCells x t ks n h).map valC = kdVal x t ks n
  | [], _, _ => rfl
  | .i k lo hi :: r, n, h => by simp only [kdCells, kdVal, List.map_cons]; rw [kdCells_val (ks := r) (n := n + 1) h.2]; rfl
  | .b :: r, n, h => by simp only [kdCells, kdVal, List.map_cons]; rw [kdCells_val (ks := r) (n := n + 1) h]; rfl
theorem tileP_val (f : Nat → Int) (hf : ∀ i, 0 ≤ f i ∧ f i ≤ 255) : valT (tileP f hf) = .tuple #[tileV (T7 f hf), .int .i64 0] := by
  show Value.tuple #[.agg (List.map valC _).toArray, _] = _
  rw [kdCells_val, paiV_P]
  rfl
theorem run112 (f : Nat → Int) (hf : ∀ i, 0 ≤ f i ∧ f i ≤ 255) : leafOK 1 (fun _ => true) (callS envE 100000 112 argP (byHp f hf 8) 1) = true := by kernel_rfl
theorem out112 (f : Nat → Int) (hf : ∀ i, 0 ≤ f i ∧ f i ≤ 255) : outV (callS envE 100000 112 argP (byHp f hf 8) 1) = tileP f hf := by kernel_rfl
/-- the facts that a run over eight bytes asks -/
theorem dec112 (f : Nat → Int) (hf : ∀ i, 0 ≤ f i ∧ f i ≤ 255) (b off cap : Nat) (w : World) (hcap : 8 ≤ cap) (hc : ∀ i, i < 8 → w.cell? ⟨b, off + i, none⟩ = some (.int .u8 (f i))) :
    Calls Tryz.prog 112 #[.slice (some ⟨b, off, none⟩) 8 cap] w fun e w' => e = .returned (.tuple #[tileV (T7 f hf), .int .i64 0]) ∧ Below w.heap.size w w' := by
  obtain ⟨_, h1⟩ := @calls_plain Tryz.prog (shAt off) envE (@envE_ok (shAt off)) _ _ _ _ _ _ (run112 f hf)
  have := h1 (w := w) (b := one0 b) (vals := #[.slice (some ⟨b, off, none⟩) 8 cap]) (.cons ⟨b, cap, rfl, rfl, hcap⟩ .nil) (byHp_ok hc) (fun i j n hi hj _ _ => by rw [byHp_live hi, byHp_live hj])
    (fun i n h => by unfold one0 at h; split at h <;> first | omega | cases h) (fun i n hi h => by
      rw [byHp_live hi] at h
      cases h
      exact World.block_lt_of_cell? w _ (hc 0 (by omega))) (fun i hi => by show (if i = 0 then off else 0) = 0; rw [if_neg (by omega)])
  rw [out112, tileP_val] at this
  exact this
noncomputable def arg113 : List ST := [.v (.c (.lf (.sl 0 0 8 none))), .v (.c (.lf (.bool (.lit false))))]
def hd1 : Option RTree → Option (Bool × ST × Bool)
  | some (.ite p (.leaf v s) _) => some (p, v, clean 1 s.wr)
  | _ => none
noncomputable def cells27 (f : Nat → Int) (hf : ∀ i, 0 ≤ f i ∧ f i ≤ 255) : List SC := cellsP f hf ++ [.lf (.bool (.lit true))]
theorem cells27_ok (f : Nat → Int) (hf : ∀ i, 0 ≤ f i ∧ f i ≤ 255) : kdCs kd27 (cells27 f hf) = true := by
  have key : ∀ {ks : List Kd} {l : List SC}, kdCs ks l = true → kdCs (ks ++ [.b]) (l ++ [.lf (.bool (.lit true))]) = true := by
    intro ks
    induction ks with
    | nil =>
      intro l h
      cases l with
      | nil => rfl
      | cons _ _ => cases h
    | cons k r ih =>
      intro l h
      cases l with
      | nil => cases h
      | cons c s =>
        unfold kdCs at h
        cases q : kdC k c
        · rw [q] at h; cases h
        · rw [q] at h
          show (bif kdC k c then kdCs (r ++ [.b]) (s ++ _) else false) = true
          rw [q, ih h]; rfl
  exact key (cellsP_ok f hf)
theorem head113 (f : Nat → Int) (hf : ∀ i, 0 ≤ f i ∧ f i ≤ 255) : hd1 (callT envF 100000 113 arg113 (byHp f hf 8) 1) = some (kinV (nthI (cells27 f hf)) (nthB (cells27 f hf)) (nthI_bd (cells27_ok f hf)) == ((0 : Nat) : Int), tileP f hf, true) := by kernel_rfl
end Go.Proofs.YtpkclnkibhgpkaaGreat.Sx
/-
A block of ETC2, whatever it is: its texels; and where no difference goes too far, those of ETC1. Its conditions: eight bytes that can be read.
-/
namespace Go.Proofs.YtpkclnkibhgpkaaGreat.Sx
open Go Go.RowKit
variable {P : Program}

/-- a call comes to one end -/
theorem calls_det {n : Nat} {vals : Array Value} {w : World} {v1 v2 : Value} (hi : P.inits.idxOf? n = none) (h1 : Calls P n vals w fun e _ => e = .returned v1) (h2 : Calls P n vals w fun e _ => e = .returned v2) : v1 = v2 := by
  obtain ⟨e1, w1, fr1, rfl, ⟨a, ha⟩, hf1, hl1⟩ := h1 []
  obtain ⟨e2, w2, fr2, rfl, ⟨b, hb⟩, hf2, hl2⟩ := h2 []
  have s1 := step_leave_done hl1 (by rw [hf1]; exact hi)
  have s2 := step_leave_done hl2 (by rw [hf2]; exact hi)
  have key : ∀ {a b : Nat} {m m1 m2 : Machine} {o : Outcome} {w : World}, a ≤ b → runN P a m = .next m1 → runN P b m = .next m2 → step P m1 = .ended o w → m1 = m2 := by
    intro a b m m1 m2 o w hab h1 h2 hs
    obtain ⟨k, rfl⟩ : ∃ k, b = a + k := ⟨b - a, by omega⟩
    rw [runN_add, h1] at h2
    cases k with
    | zero => simp [runN] at h2; exact h2
    | succ k => simp [runN, hs] at h2
  have : lone fr1 [] w1 = lone fr2 [] w2 := by
    rcases Nat.le_total a b with h | h
    · exact key h ha hb s1
    · exact (key h hb ha s2).symm
  rw [this, s2] at s1
  cases s1; rfl
theorem init113 : Tryz.prog.inits.idxOf? 113 = none := by kernel_rfl
theorem run113 (f : Nat → Int) (hf : ∀ i, 0 ≤ f i ∧ f i ≤ 255) : leafOK 1 (fun v => match v with
    | .tup [.agg l, .c (.lf (.int .i64 (.lit 0)))] => kdCs (kdTile 64) l
    | _ => false) (callS envF 100000 113 arg113 (byHp f hf 8) 1) = true := by kernel_rfl
noncomputable def T8 (f : Nat → Int) (hf : ∀ i, 0 ≤ f i ∧ f i ≤ 255) : Nat → Int := nthI (tup0 (outV (callS envF 100000 113 arg113 (byHp f hf 8) 1)))
theorem arg113_rep [Sh] {b : Nat → Option Nat} {q cap : Nat} (hb : b 0 = some q) (hcap : 8 ≤ cap) : FA2 (RepT b) arg113 (#[.slice (some ⟨q, Sh.sh 0 + 0, none⟩) 8 cap, .bool false] : Array Value).toList :=
  .cons ⟨q, cap, hb, rfl, hcap⟩ (.cons rfl .nil)
theorem tile_form {v : ST} (h : (match v with
    | .tup [.agg l, .c (.lf (.int .i64 (.lit 0)))] => kdCs (kdTile 64) l
    | _ => false) = true) : ∃ l, v = .tup [.agg l, .c (.lf (.int .i64 (.lit 0)))] ∧ kdCs (kdTile 64) l = true := by
  split at h
  · exact ⟨_, rfl, h⟩
  · cases h
theorem dec113 (f : Nat → Int) (hf : ∀ i, 0 ≤ f i ∧ f i ≤ 255) (b off cap : Nat) (w : World) (hcap : 8 ≤ cap) (hc : ∀ i, i < 8 → w.cell? ⟨b, off + i, none⟩ = some (.int .u8 (f i))) :
    Calls Tryz.prog 113 #[.slice (some ⟨b, off, none⟩) 8 cap, .bool false] w fun e w' => e = .returned (.tuple #[tileV (T8 f hf), .int .i64 0]) ∧ Below w.heap.size w w' := by
  obtain ⟨h0, h1⟩ := @calls_plain Tryz.prog (shAt off) envF (@envF_ok (shAt off)) _ _ _ _ _ _ (run113 f hf)
  obtain ⟨l, h2, h3⟩ := tile_form h0
  have := h1 (w := w) (b := one0 b) (vals := #[.slice (some ⟨b, off, none⟩) 8 cap, .bool false]) (@arg113_rep (shAt off) _ b cap rfl hcap) (byHp_ok hc) (fun i j n hi hj _ _ => by rw [byHp_live hi, byHp_live hj])
    (fun i n h => by unfold one0 at h; split at h <;> first | omega | cases h) (fun i n hi h => by
      rw [byHp_live hi] at h
      cases h
      exact World.block_lt_of_cell? w _ (hc 0 (by omega))) (fun i hi => by show (if i = 0 then off else 0) = 0; rw [if_neg (by omega)])
  have e : valT (outV (callS envF 100000 113 arg113 (byHp f hf 8) 1)) = .tuple #[tileV (T8 f hf), .int .i64 0] := by
    have hx : T8 f hf = nthI l := by unfold T8; rw [h2]; rfl
    rw [h2, hx]
    show Value.tuple #[.agg (l.map valC).toArray, _] = _
    rw [kd_agg h3]; rfl
  rw [e] at this
  exact this
theorem cells27_I (f : Nat → Int) (hf : ∀ i, 0 ≤ f i ∧ f i ≤ 255) : ∀ i, i < 26 → nthL (cells27 f hf) i = nthL (cellsP f hf) i := by
  intro i hi
  unfold cells27
  rw [nthL_eq, nthL_eq, List.getElem?_append_left]
  have := kdCs_val 0 (cellsP_ok f hf)
  have := congrArg List.length this
  simp [kdBlock, kdVal] at this
  omega
theorem far_P (f : Nat → Int) (hf : ∀ i, 0 ≤ f i ∧ f i ≤ 255) : far27 (nthI (cells27 f hf)) (nthB (cells27 f hf)) (nthI_bd (cells27_ok f hf)) = F7 f hf := by
  unfold far27 F7 farV
  rw [argB_P f hf (kdCells_ok _) (fun i h1 h2 => ?_) (fun i h2 => ?_)]
  · obtain ⟨k, lo, hi, hk⟩ := blk_int i h1 h2
    rw [nthI_cells i hk, Nat.zero_add]
    unfold nthI
    rw [cells27_I f hf i h2]
  · have hk : kdBlock[i]? = some .b := by
      match i, h2 with
      | 0, _ => rfl
      | 1, _ => rfl
    rw [nthB_cells i hk, Nat.zero_add]
    unfold nthB
    rw [cells27_I f hf i (by omega)]
/-- where no difference goes too far -/
theorem dec113_near (f : Nat → Int) (hf : ∀ i, 0 ≤ f i ∧ f i ≤ 255) (h : F7 f hf = 3) (b off cap : Nat) (w : World) (hcap : 8 ≤ cap) (hc : ∀ i, i < 8 → w.cell? ⟨b, off + i, none⟩ = some (.int .u8 (f i))) :
    Calls Tryz.prog 113 #[.slice (some ⟨b, off, none⟩) 8 cap, .bool false] w fun e _ => e = .returned (.tuple #[tileV (T7 f hf), .int .i64 0]) := by
  have hh := head113 f hf
  cases q : callT envF 100000 113 arg113 (byHp f hf 8) 1 with
  | none => rw [q] at hh; cases hh
  | some rt =>
    rw [q] at hh
    cases rt with
    | leaf v s => cases hh
    | ite p x y =>
      cases x with
      | ite _ _ _ => cases hh
      | leaf v s =>
        simp only [hd1, Option.some.injEq, Prod.mk.injEq] at hh
        obtain ⟨hp, rfl, hcl⟩ := hh
        have hk : p = true := by
          rw [hp]
          unfold kinV
          rw [far_P, h]; rfl
        refine @callT_ok Tryz.prog (shAt off) envF (@envF_ok (shAt off)) _ _ _ _ _ _ q w (one0 b) _ (@arg113_rep (shAt off) _ b cap rfl hcap) (byHp_ok hc) (fun i j n hi hj _ _ => by rw [byHp_live hi, byHp_live hj])
          (fun i n h => by unfold one0 at h; split at h <;> first | omega | cases h) (fun i n hi h => by
            rw [byHp_live hi] at h
            cases h
            exact World.block_lt_of_cell? w _ (hc 0 (by omega))) (fun i hi => by show (if i = 0 then off else 0) = 0; rw [if_neg (by omega)]) _ ⟨fun _ => ?_, fun g => by rw [hk] at g; cases g⟩
        intro c w' u _ _ hr
        have := @rep_val (shAt off) _ _ _ hr (by rfl)
        rw [this, tileP_val]
theorem kdVal_inj {x y : Nat → Int} {t u : Nat → Bool} : ∀ {ks : List Kd} {n : Nat}, kdVal x t ks n = kdVal y u ks n → ∀ i k lo hi, ks[i]? = some (.i k lo hi) → x (n + i) = y (n + i)
  | [], _, _, i, _, _, _, hk => by simp at hk
  | .i k lo hi :: r, n, h, 0, _, _, _, _ => by simp only [kdVal, List.cons.injEq, Value.int.injEq, true_and] at h; exact h.1
  | .b :: r, n, h, 0, _, _, _, hk => by simp at hk
  | .i k lo hi :: r, n, h, i + 1, _, _, _, hk => by
    simp only [kdVal, List.cons.injEq] at h
    have := kdVal_inj h.2 i _ _ _ (by simpa using hk)
    rw [show n + (i + 1) = n + 1 + i by omega]; exact this
  | .b :: r, n, h, i + 1, _, _, _, hk => by
    simp only [kdVal, List.cons.injEq] at h
    have := kdVal_inj h.2 i _ _ _ (by simpa using hk)
    rw [show n + (i + 1) = n + 1 + i by omega]; exact this
theorem kdTile_at : ∀ (n i : Nat), i < n → (kdTile n)[i]? = some (.i .i64 0 255)
  | 0, _, h => by omega
  | n + 1, 0, _ => rfl
  | n + 1, i + 1, h => by
    have := kdTile_at n i (by omega)
    simpa [kdTile] using this
/-- the texels are the same -/
theorem T8_eq (f : Nat → Int) (hf : ∀ i, 0 ≤ f i ∧ f i ≤ 255) (h : F7 f hf = 3) : ∀ i, i < 64 → T8 f hf i = T7 f hf i := by
  obtain ⟨w, hw⟩ : ∃ w : World, ∀ i, i < 8 → w.cell? ⟨(default : World).heap.size, 0 + i, none⟩ = some (.int .u8 (f i)) := by
    refine ⟨(default : World).alloc (.cells #[.int .u8 (f 0), .int .u8 (f 1), .int .u8 (f 2), .int .u8 (f 3), .int .u8 (f 4), .int .u8 (f 5), .int .u8 (f 6), .int .u8 (f 7)] 5), fun i hi => ?_⟩
    rw [Nat.zero_add, cell_new']
    match i, hi with
    | 0, _ => rfl
    | 1, _ => rfl
    | 2, _ => rfl
    | 3, _ => rfl
    | 4, _ => rfl
    | 5, _ => rfl
    | 6, _ => rfl
    | 7, _ => rfl
  have h1 := (dec113 f hf _ 0 8 w (Nat.le_refl _) hw).mono (R' := fun e _ => e = .returned (.tuple #[tileV (T8 f hf), .int .i64 0])) fun _ _ h => h.1
  have h2 := dec113_near f hf h _ 0 8 w (Nat.le_refl _) hw
  have e := calls_det init113 h1 h2
  simp only [Value.tuple.injEq, tileV] at e
  have e2 : kdVal (T8 f hf) (fun _ => false) (kdTile 64) 0 = kdVal (T7 f hf) (fun _ => false) (kdTile 64) 0 := by
    have := congrArg (fun a : Array Value => a[0]?) e
    simp only [List.getElem?_toArray, List.getElem?_cons_zero, Option.some.injEq, Value.agg.injEq] at this
    exact congrArg Array.toList this
  intro i hi
  have := kdVal_inj e2 i _ _ _ (kdTile_at 64 i hi)
  rwa [Nat.zero_add] at this
end Go.Proofs.YtpkclnkibhgpkaaGreat.Sx
/-
The texels of a block of ETC1 and of ETC2, as the format layer tells them. Its conditions: eight bytes that can be read, or none.
-/
namespace Go.Proofs.YtpkclnkibhgpkaaGreat.Sx
open Go Go.RowKit

theorem tile_bd {v : ST} {l : List SC} (h : v = .tup [.agg l, .c (.lf (.int .i64 (.lit 0)))]) (h3 : kdCs (kdTile 64) l = true) : kdBd (nthI (tup0 v)) (kdTile 64) 0 := by
  subst h; exact nthI_bd h3
theorem T7_bd (f : Nat → Int) (hf : ∀ i, 0 ≤ f i ∧ f i ≤ 255) : kdBd (T7 f hf) (kdTile 64) 0 := paiV_bd _ _ _ _
theorem T8_bd (f : Nat → Int) (hf : ∀ i, 0 ≤ f i ∧ f i ≤ 255) : kdBd (T8 f hf) (kdTile 64) 0 := by
  obtain ⟨h0, _⟩ := @calls_plain Tryz.prog (shAt 0) envF (@envF_ok (shAt 0)) _ _ _ _ _ _ (run113 f hf)
  obtain ⟨l, h2, h3⟩ := tile_form h0
  exact tile_bd h2 h3
theorem T7_congr {f g : Nat → Int} (hf : ∀ i, 0 ≤ f i ∧ f i ≤ 255) (hg : ∀ i, 0 ≤ g i ∧ g i ≤ 255) (h : ∀ i, i < 8 → f i = g i) : T7 f hf = T7 g hg := by
  have e := pX_congr hf hg h
  have key : ∀ (x y : Nat → Int) (t u : Nat → Bool) (a : kdBd x kdBlockT 1) (b : kdBd y kdBlockT 1), x = y → t = u → paiV (t 0) x t a = paiV (u 0) y u b := by
    intro x y t u a b h1 h2
    subst h1 h2; rfl
  exact key _ _ _ _ _ _ e.1 e.2
theorem T8_congr {f g : Nat → Int} (hf : ∀ i, 0 ≤ f i ∧ f i ≤ 255) (hg : ∀ i, 0 ≤ g i ∧ g i ≤ 255) (h : ∀ i, i < 8 → f i = g i) : T8 f hf = T8 g hg := by
  unfold T8
  rw [byHp_congr hf hg h]
noncomputable def smT (T : (f : Nat → Int) → (∀ i, 0 ≤ f i ∧ f i ≤ 255) → Nat → Int) (hT : ∀ f hf, kdBd (T f hf) (kdTile 64) 0) (hp : List (Nat × Blk)) (nx id off : Nat) : Option (ST × List (Nat × Blk) × Nat) :=
  match behind hp id off 8 with
  | some cs => if h : kdCs kd8 cs = true then
      some (.tup [.agg (kdCells (T (nthI cs) (by8_bd h)) (fun _ => false) (kdTile 64) 0 (hT _ _)), .c (.lf (.int .i64 (.lit 0)))], [], nx) else none
  | none => none
noncomputable def sm112 (hp : List (Nat × Blk)) (nx : Nat) : List ST → Option (ST × List (Nat × Blk) × Nat)
  | [.v (.c (.lf (.sl id off 8 _)))] => smT T7 T7_bd hp nx id off
  | _ => none
noncomputable def sm113 (hp : List (Nat × Blk)) (nx : Nat) : List ST → Option (ST × List (Nat × Blk) × Nat)
  | [.v (.c (.lf (.sl id off 8 _))), .v (.c (.lf (.bool (.lit false))))] => smT T8 T8_bd hp nx id off
  | _ => none
noncomputable def smH (n : Nat) (args : List ST) (hp : List (Nat × Blk)) (nx : Nat) : Option (ST × List (Nat × Blk) × Nat) :=
  bif Nat.beq n 112 then sm112 hp nx args else bif Nat.beq n 113 then sm113 hp nx args else none
theorem vs8 {cs : List SC} {vs : List Value} (e : vs = kdVal (nthI cs) (nthB cs) kd8 0) : ∀ i, i < 8 → vs[i]? = some (.int .u8 (nthI cs i)) := by
  intro i hi
  rw [e]
  match i, hi with
  | 0, _ => rfl
  | 1, _ => rfl
  | 2, _ => rfl
  | 3, _ => rfl
  | 4, _ => rfl
  | 5, _ => rfl
  | 6, _ => rfl
  | 7, _ => rfl
theorem sumH [Sh] : SumOK Tryz.prog smH := by
  intro n args hp nx v new nx' h w b vals hv hh hj hl hs hz
  unfold smH at h
  cases q1 : Nat.beq n 112
  · rw [q1] at h
    cases q2 : Nat.beq n 113
    · rw [q2] at h; cases h
    · rw [q2] at h
      rw [beq_iff] at q2
      subst q2
      simp only [cond_true, cond_false] at h
      unfold sm113 at h
      split at h
      · rename_i id off cap
        unfold smT at h
        split at h
        · rename_i cs hcs
          split at h
          · rename_i hk
            cases h
            obtain ⟨vs, rfl⟩ : ∃ vs, vals = ⟨vs⟩ := ⟨vals.toList, rfl⟩
            cases hv with
            | cons h1 h2 =>
              cases h2 with
              | cons h3 h4 =>
                cases h4
                obtain rfl : _ = Value.bool false := h3
                obtain ⟨q, c, hq, rfl, hle, _⟩ := RepL.slv h1
                obtain ⟨vs, k1, k2⟩ := behind_cells hh hcs hq
                exact sum_plain (Tryz.call113 _ _) (dec113 (nthI cs) (by8_bd hk) q (Sh.sh id + off) c w hle fun i hi => k2 i _ (vs8 (fa2_map_val hk k1) i hi)) ⟨_, rfl, .cons ⟨_, rfl, kdCells_rep b _⟩ (.cons rfl .nil)⟩ hl
          · cases h
        · cases h
      · cases h
  · rw [q1] at h
    rw [beq_iff] at q1
    subst q1
    simp only [cond_true] at h
    unfold sm112 at h
    split at h
    · rename_i id off cap
      unfold smT at h
      split at h
      · rename_i cs hcs
        split at h
        · rename_i hk
          cases h
          obtain ⟨vs, rfl⟩ : ∃ vs, vals = ⟨vs⟩ := ⟨vals.toList, rfl⟩
          cases hv with
          | cons h1 h2 =>
            cases h2
            obtain ⟨q, c, hq, rfl, hle, _⟩ := RepL.slv h1
            obtain ⟨vs, k1, k2⟩ := behind_cells hh hcs hq
            exact sum_plain (Tryz.call112 _ _) (dec112 (nthI cs) (by8_bd hk) q (Sh.sh id + off) c w hle fun i hi => k2 i _ (vs8 (fa2_map_val hk k1) i hi)) ⟨_, rfl, .cons ⟨_, rfl, kdCells_rep b _⟩ (.cons rfl .nil)⟩ hl
        · cases h
      · cases h
    · cases h
noncomputable def envH : Env := ⟨tys, fns, smH⟩
theorem envH_ok [Sh] : EnvOK Tryz.prog envH := env_ok sumH
noncomputable def arg45 (k : Int) : List ST := [.v (.c (.lf (.int .i64 (.lit k)))), .v (.c (.lf (.sl 0 0 8 none)))]
theorem run45_7 (f : Nat → Int) (hf : ∀ i, 0 ≤ f i ∧ f i ≤ 255) : leafOK 1 (fun _ => true) (callS envH 100000 45 (arg45 7) (byHp f hf 8) 1) = true := by kernel_rfl
theorem run45_8 (f : Nat → Int) (hf : ∀ i, 0 ≤ f i ∧ f i ≤ 255) : leafOK 1 (fun _ => true) (callS envH 100000 45 (arg45 8) (byHp f hf 8) 1) = true := by kernel_rfl
noncomputable def tileT (T : (f : Nat → Int) → (∀ i, 0 ≤ f i ∧ f i ≤ 255) → Nat → Int) (hT : ∀ f hf, kdBd (T f hf) (kdTile 64) 0) (f : Nat → Int) (hf : ∀ i, 0 ≤ f i ∧ f i ≤ 255) : ST :=
  .tup [.agg (kdCells (T (nthI (byC f hf 8 0)) (by8_bd (by_ok f hf))) (fun _ => false) (kdTile 64) 0 (hT _ _)), .c (.lf (.int .i64 (.lit 0)))]
theorem out45_7 (f : Nat → Int) (hf : ∀ i, 0 ≤ f i ∧ f i ≤ 255) : outV (callS envH 100000 45 (arg45 7) (byHp f hf 8) 1) = tileT T7 T7_bd f hf := by kernel_rfl
theorem out45_8 (f : Nat → Int) (hf : ∀ i, 0 ≤ f i ∧ f i ≤ 255) : outV (callS envH 100000 45 (arg45 8) (byHp f hf 8) 1) = tileT T8 T8_bd f hf := by kernel_rfl
theorem tileT_val {T : (f : Nat → Int) → (∀ i, 0 ≤ f i ∧ f i ≤ 255) → Nat → Int} {hT : ∀ f hf, kdBd (T f hf) (kdTile 64) 0} (hC : ∀ {f g : Nat → Int} (hf : ∀ i, 0 ≤ f i ∧ f i ≤ 255) (hg : ∀ i, 0 ≤ g i ∧ g i ≤ 255), (∀ i, i < 8 → f i = g i) → T f hf = T g hg)
    (f : Nat → Int) (hf : ∀ i, 0 ≤ f i ∧ f i ≤ 255) : valT (tileT T hT f hf) = .tuple #[tileV (T f hf), .int .i64 0] := by
  show Value.tuple #[.agg (List.map valC _).toArray, _] = _
  rw [kdCells_val, hC _ hf fun j hj => by rw [byC_nth f hf 8 0 j hj, Nat.zero_add]]
  rfl
theorem dec45_7 (f : Nat → Int) (hf : ∀ i, 0 ≤ f i ∧ f i ≤ 255) (b off cap : Nat) (w : World) (hcap : 8 ≤ cap) (hc : ∀ i, i < 8 → w.cell? ⟨b, off + i, none⟩ = some (.int .u8 (f i))) :
    Calls Tryz.prog 45 #[.int .i64 7, .slice (some ⟨b, off, none⟩) 8 cap] w fun e w' => e = .returned (.tuple #[tileV (T7 f hf), .int .i64 0]) ∧ Below w.heap.size w w' := by
  obtain ⟨_, h1⟩ := @calls_plain Tryz.prog (shAt off) envH (@envH_ok (shAt off)) _ _ _ _ _ _ (run45_7 f hf)
  have := h1 (w := w) (b := one0 b) (vals := #[.int .i64 7, .slice (some ⟨b, off, none⟩) 8 cap]) (.cons rfl (.cons ⟨b, cap, rfl, rfl, hcap⟩ .nil)) (byHp_ok hc) (fun i j n hi hj _ _ => by rw [byHp_live hi, byHp_live hj])
    (fun i n h => by unfold one0 at h; split at h <;> first | omega | cases h) (fun i n hi h => by
      rw [byHp_live hi] at h
      cases h
      exact World.block_lt_of_cell? w _ (hc 0 (by omega))) (fun i hi => by show (if i = 0 then off else 0) = 0; rw [if_neg (by omega)])
  rw [out45_7, tileT_val T7_congr] at this
  exact this
theorem dec45_8 (f : Nat → Int) (hf : ∀ i, 0 ≤ f i ∧ f i ≤ 255) (b off cap : Nat) (w : World) (hcap : 8 ≤ cap) (hc : ∀ i, i < 8 → w.cell? ⟨b, off + i, none⟩ = some (.int .u8 (f i))) :
    Calls Tryz.prog 45 #[.int .i64 8, .slice (some ⟨b, off, none⟩) 8 cap] w fun e w' => e = .returned (.tuple #[tileV (T8 f hf), .int .i64 0]) ∧ Below w.heap.size w w' := by
  obtain ⟨_, h1⟩ := @calls_plain Tryz.prog (shAt off) envH (@envH_ok (shAt off)) _ _ _ _ _ _ (run45_8 f hf)
  have := h1 (w := w) (b := one0 b) (vals := #[.int .i64 8, .slice (some ⟨b, off, none⟩) 8 cap]) (.cons rfl (.cons ⟨b, cap, rfl, rfl, hcap⟩ .nil)) (byHp_ok hc) (fun i j n hi hj _ _ => by rw [byHp_live hi, byHp_live hj])
    (fun i n h => by unfold one0 at h; split at h <;> first | omega | cases h) (fun i n hi h => by
      rw [byHp_live hi] at h
      cases h
      exact World.block_lt_of_cell? w _ (hc 0 (by omega))) (fun i hi => by show (if i = 0 then off else 0) = 0; rw [if_neg (by omega)])
  rw [out45_8, tileT_val T8_congr] at this
  exact this
/-- of no bytes -/
noncomputable def argN (k : Int) : List ST := [.v (.c (.lf (.int .i64 (.lit k)))), .v (.c (.lf .nils))]
theorem runN_7 : leafOK 0 (fun _ => true) (callS envH 100000 45 (argN 7) [] 0) = true := by kernel_rfl
theorem runN_8 : leafOK 0 (fun _ => true) (callS envH 100000 45 (argN 8) [] 0) = true := by kernel_rfl
theorem zero_bd : kdBd (fun _ => 0) (kdTile 64) 0 := kdBd_of 0 fun i k lo hi hk => by
  by_cases h : i < 64
  · rw [kdTile_at 64 i h] at hk; cases hk; exact ⟨Int.le_refl _, by decide⟩
  · rw [List.getElem?_eq_none (by show (kdTile 64).length ≤ i; have : (kdTile 64).length = 64 := rfl; omega)] at hk; cases hk
theorem outN_7 : valT (outV (callS envH 100000 45 (argN 7) [] 0)) = .tuple #[tileV (fun _ => 0), .int .i64 1] := by kernel_rfl
theorem outN_8 : valT (outV (callS envH 100000 45 (argN 8) [] 0)) = .tuple #[tileV (fun _ => 0), .int .i64 1] := by kernel_rfl
theorem decN (k : Int) (hk : k = 7 ∨ k = 8) (w : World) : Calls Tryz.prog 45 #[.int .i64 k, .slice none 0 0] w fun e w' => e = .returned (.tuple #[tileV (fun _ => 0), .int .i64 1]) ∧ Below w.heap.size w w' := by
  have go : ∀ k, leafOK 0 (fun _ => true) (callS envH 100000 45 (argN k) [] 0) = true → valT (outV (callS envH 100000 45 (argN k) [] 0)) = .tuple #[tileV (fun _ => 0), .int .i64 1] → Calls Tryz.prog 45 #[.int .i64 k, .slice none 0 0] w fun e w' => e = .returned (.tuple #[tileV (fun _ => 0), .int .i64 1]) ∧ Below w.heap.size w w' := by
    intro k h0 h2
    obtain ⟨_, h1⟩ := @calls_plain Tryz.prog (shAt 0) envH (@envH_ok (shAt 0)) _ _ _ _ _ _ h0
    have := h1 (w := w) (b := fun _ => none) (vals := #[.int .i64 k, .slice none 0 0]) (.cons rfl (.cons rfl .nil)) (fun id k hk => by cases hk) (fun i j n hi => by obtain ⟨k, hk⟩ := hi; cases hk) (fun i n hi => by cases hi) (fun i n hi => by obtain ⟨k, hk⟩ := hi; cases hk)
      (fun i _ => by show (if i = 0 then 0 else 0) = 0; split <;> rfl)
    rw [h2] at this
    exact this
  rcases hk with rfl | rfl
  · exact go 7 runN_7 outN_7
  · exact go 8 runN_8 outN_8
end Go.Proofs.YtpkclnkibhgpkaaGreat.Sx
