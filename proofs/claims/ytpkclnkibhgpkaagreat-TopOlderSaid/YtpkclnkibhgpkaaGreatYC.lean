/-
What a run hands back where it is plain; and contracts as what a run may lean on. Its conditions: none.
-/
import Derived.Test.YtpkclnkibhgpkaaGreatXZ
namespace Go.Proofs.YtpkclnkibhgpkaaGreat.Sx
open Go Go.RowKit
variable {P : Program}

def valL : LC → Value
  | .int k x => .int k x.val
  | .bool x => .bool x.val
  | .nilp => .pointer none
  | .nils => .slice none 0 0
  | .val v => v
  | _ => undef
def valC : SC → Value
  | .lf x => valL x
  | _ => undef
def valV : SV → Value
  | .c x => valC x
  | .agg l => .agg (l.map valC).toArray
def valT : ST → Value
  | .v x => valV x
  | .tup l => .tuple (l.map valV).toArray
theorem repL_val [Sh] {b : Nat → Option Nat} {x : LC} {v : Value} (h : RepL b x v) (g : plainL x = true) : v = valL x := by
  cases x with
  | val y => exact h.1
  | ptr _ _ => cases g
  | sptr _ _ _ _ _ => cases g
  | sl _ _ _ _ => cases g
  | own _ _ => cases g
  | _ => exact h
theorem repC_val [Sh] {b : Nat → Option Nat} {x : SC} {v : Value} (h : RepC b x v) (g : plainC x = true) : v = valC x := by
  cases x with
  | lf x => exact repL_val h g
  | fn _ _ _ => cases g
theorem fa2_val {α β : Type} {R : α → β → Prop} {f : α → β} {p : α → Bool} (k : ∀ a b, R a b → p a = true → b = f a) : ∀ {l : List α} {m : List β}, FA2 R l m → allL p l = true → m = l.map f
  | _, _, .nil, _ => rfl
  | a' :: _, _, .cons a r, g => by
    unfold allL at g
    cases h : p a'
    · rw [h] at g; cases g
    · rw [h] at g
      rw [List.map_cons, ← k _ _ a h, ← fa2_val k r g]
theorem repV_val [Sh] {b : Nat → Option Nat} {x : SV} {v : Value} (h : RepV b x v) (g : plainV x = true) : v = valV x := by
  cases x with
  | c x => exact repC_val h g
  | agg l =>
    obtain ⟨cs, rfl, h⟩ := h
    have := fa2_val (p := plainC) (fun x y (q : RepC b x y) => repC_val q) h g
    show _ = Value.agg (l.map valC).toArray
    rw [← this]
theorem rep_val [Sh] {b : Nat → Option Nat} {x : ST} {v : Value} (h : RepT b x v) (g : plainT x = true) : v = valT x := by
  cases x with
  | v x => exact repV_val h g
  | tup l =>
    obtain ⟨cs, rfl, h⟩ := h
    have := fa2_val (p := plainV) (fun x y (q : RepV b x y) => repV_val q) h g
    show _ = Value.tuple (l.map valV).toArray
    rw [← this]

def clean (nx m : Nat) : Bool := Nat.beq (Nat.land m (Nat.sub (bit1 nx) 1)) 0
theorem clean_off {nx m i : Nat} (h : clean nx m = true) (hi : i < nx) : bitOn m i = false := by
  unfold clean at h
  rw [beq_iff] at h
  have h2 : (m &&& (1 <<< nx - 1)).testBit i = false := by
    have : m &&& (1 <<< nx - 1) = 0 := h
    rw [this]; exact Nat.zero_testBit i
  rw [Nat.testBit_and, Nat.shiftLeft_eq, Nat.one_mul, Nat.testBit_two_pow_sub_one] at h2
  rw [bitOn_eq]
  simpa [hi] using h2
def outV : Option RTree → ST
  | some (.leaf v _) => v
  | _ => .tup []
def leafOK (nx : Nat) (f : ST → Bool) : Option RTree → Bool
  | some (.leaf v s) => bif plainT v then (bif clean nx s.wr then f v else false) else false
  | _ => false
/-- a call that hands back what is plain, and leaves all old memory -/
theorem calls_plain [Sh] {e : Env} (he : EnvOK P e) {fuel n : Nat} {args : List ST} {hp : List (Nat × Blk)} {nx : Nat} {f : ST → Bool} (h : leafOK nx f (callS e fuel n args hp nx) = true) :
    f (outV (callS e fuel n args hp nx)) = true ∧ ∀ {w : World} {b : Nat → Option Nat} {vals : Array Value}, FA2 (RepT b) args vals.toList → HpOK b hp w → (∀ i j n, Live hp i → Live hp j → b i = some n → b j = some n → i = j) →
      (∀ i n, b i = some n → i < nx) → (∀ i n, Live hp i → b i = some n → n < w.heap.size) → (∀ i, nx ≤ i → Sh.sh i = 0) →
      Calls P n vals w fun ex w' => ex = .returned (valT (outV (callS e fuel n args hp nx))) ∧ Below w.heap.size w w' := by
  cases q : callS e fuel n args hp nx with
  | none => rw [q] at h; cases h
  | some rt =>
    cases rt with
    | ite p a b => rw [q] at h; cases h
    | leaf v s =>
      rw [q] at h
      simp only [leafOK] at h
      cases q1 : plainT v
      · rw [q1] at h; cases h
      · rw [q1] at h
        cases q2 : clean nx s.wr
        · rw [q2] at h; cases h
        · rw [q2] at h
          refine ⟨h, fun {w b vals} hv hh hj hl hs hz => callS_ok he q hv hh hj hl hs hz ?_⟩
          intro c w' u hx hc hr
          refine ⟨by rw [rep_val hr q1]; rfl, hc.fr.os, hc.fr.tape, hc.fr.output, hc.fr.size, fun m hm => hc.fr.block m hm fun i hi hb => ?_⟩
          by_cases g : i < nx
          · rw [clean_off q2 g] at hi; cases hi
          · rcases hc.nw i m (by simp only; omega) (.inr hi) hb with r | ⟨j, r1, r2, _⟩
            · omega
            · rw [clean_off q2 r1] at r2; cases r2

/-- what cells are to be: numbers of a kind between two, or truths -/
inductive Kd where
  | i (k : IntKind) (lo hi : Int)
  | b
def kdC : Kd → SC → Bool
  | .i k lo hi, .lf (.int k' x) => bif kindEq k k' then (bif ile lo x.lo then ile x.hi hi else false) else false
  | .b, .lf (.bool _) => true
  | _, _ => false
def kdCs : List Kd → List SC → Bool
  | [], [] => true
  | k :: r, c :: s => bif kdC k c then kdCs r s else false
  | _, _ => false
def cI : SC → Int
  | .lf (.int _ x) => x.val
  | _ => 0
def cB : SC → Bool
  | .lf (.bool x) => x.val
  | _ => false
def nthI (l : List SC) (i : Nat) : Int := match nthL l i with
  | some c => cI c
  | none => 0
def nthB (l : List SC) (i : Nat) : Bool := match nthL l i with
  | some c => cB c
  | none => false
/-- values of kinds, by numbers and truths -/
def kdVal (x : Nat → Int) (t : Nat → Bool) : List Kd → Nat → List Value
  | [], _ => []
  | .i k _ _ :: r, i => .int k (x i) :: kdVal x t r (i + 1)
  | .b :: r, i => .bool (t i) :: kdVal x t r (i + 1)
theorem kdVal_congr {x y : Nat → Int} {t u : Nat → Bool} : ∀ (ks : List Kd) (i : Nat), (∀ j, i ≤ j → x j = y j) → (∀ j, i ≤ j → t j = u j) → kdVal x t ks i = kdVal y u ks i
  | [], _, _, _ => rfl
  | .i k _ _ :: r, i, h, g => by simp only [kdVal]; rw [h i (Nat.le_refl _), kdVal_congr r (i + 1) (fun j hj => h j (by omega)) (fun j hj => g j (by omega))]
  | .b :: r, i, h, g => by simp only [kdVal]; rw [g i (Nat.le_refl _), kdVal_congr r (i + 1) (fun j hj => h j (by omega)) (fun j hj => g j (by omega))]
theorem kdC_i {k : IntKind} {lo hi : Int} {c : SC} (h : kdC (.i k lo hi) c = true) : ∃ x : SI, c = .lf (.int k x) ∧ lo ≤ x.lo ∧ x.hi ≤ hi := by
  cases c with
  | fn _ _ _ => cases h
  | lf c =>
    cases c with
    | int k' x =>
      simp only [kdC] at h
      cases g : kindEq k k'
      · rw [g] at h; cases h
      · have : k = k' := by cases k <;> cases k' <;> first | rfl | cases g
        subst this
        rw [g] at h
        cases g2 : ile lo x.lo
        · rw [g2] at h; cases h
        · rw [g2] at h
          simp only [cond_true] at h
          rw [ile_iff] at g2 h
          exact ⟨x, rfl, g2, h⟩
    | _ => cases h
theorem kdC_b {c : SC} (h : kdC .b c = true) : ∃ x : SB, c = .lf (.bool x) := by
  cases c with
  | fn _ _ _ => cases h
  | lf c =>
    cases c with
    | bool x => exact ⟨x, rfl⟩
    | _ => cases h
theorem kdCs_val : ∀ {ks : List Kd} {l : List SC} (n : Nat), kdCs ks l = true → l.map valC = kdVal (fun i => nthI l (i - n)) (fun i => nthB l (i - n)) ks n
  | [], [], _, _ => rfl
  | [], _ :: _, _, h => by cases h
  | _ :: _, [], _, h => by cases h
  | k :: r, c :: s, n, h => by
    unfold kdCs at h
    cases q : kdC k c
    · rw [q] at h; cases h
    · rw [q] at h
      have ih := kdCs_val (n + 1) h
      have e1 : ∀ j, n + 1 ≤ j → nthI s (j - (n + 1)) = nthI (c :: s) (j - n) := fun j hj => by
        rw [show j - n = j - (n + 1) + 1 by omega]; rfl
      have e2 : ∀ j, n + 1 ≤ j → nthB s (j - (n + 1)) = nthB (c :: s) (j - n) := fun j hj => by
        rw [show j - n = j - (n + 1) + 1 by omega]; rfl
      rw [kdVal_congr r (n + 1) e1 e2] at ih
      rw [List.map_cons, ih]
      cases k with
      | i k lo hi =>
        obtain ⟨x, rfl, _⟩ := kdC_i q
        simp only [kdVal, Nat.sub_self]; rfl
      | b =>
        obtain ⟨x, rfl⟩ := kdC_b q
        simp only [kdVal, Nat.sub_self]; rfl
theorem kdCs_bd : ∀ {ks : List Kd} {l : List SC}, kdCs ks l = true → ∀ i k lo hi, ks[i]? = some (.i k lo hi) → lo ≤ nthI l i ∧ nthI l i ≤ hi
  | [], [], _, i, k, lo, hi, h => by simp at h
  | [], _ :: _, h, _, _, _, _, _ => by cases h
  | _ :: _, [], h, _, _, _, _, _ => by cases h
  | k :: r, c :: s, h, i, k', lo, hi, hk => by
    unfold kdCs at h
    cases q : kdC k c
    · rw [q] at h; cases h
    · rw [q] at h
      cases i with
      | succ i => exact kdCs_bd h i k' lo hi (by simpa using hk)
      | zero =>
        simp only [List.getElem?_cons_zero, Option.some.injEq] at hk
        subst hk
        obtain ⟨x, rfl, h1, h2⟩ := kdC_i q
        have := x.bd
        exact ⟨Int.le_trans h1 this.1, Int.le_trans this.2 h2⟩
/-- cells of kinds, by numbers and truths that are in their bounds -/
def kdBd (x : Nat → Int) : List Kd → Nat → Prop
  | [], _ => True
  | .i _ lo hi :: r, i => (lo ≤ x i ∧ x i ≤ hi) ∧ kdBd x r (i + 1)
  | .b :: r, i => kdBd x r (i + 1)
def kdCells (x : Nat → Int) (t : Nat → Bool) : (ks : List Kd) → (i : Nat) → kdBd x ks i → List SC
  | [], _, _ => []
  | .i k lo hi :: r, i, h => .lf (.int k (.sym (x i) lo hi h.1)) :: kdCells x t r (i + 1) h.2
  | .b :: r, i, h => .lf (.bool (.sym (t i))) :: kdCells x t r (i + 1) h
theorem kdCells_rep [Sh] (b : Nat → Option Nat) {x : Nat → Int} {t : Nat → Bool} : ∀ {ks : List Kd} {i : Nat} (h : kdBd x ks i), FA2 (RepC b) (kdCells x t ks i h) (kdVal x t ks i)
  | [], _, _ => .nil
  | .i _ _ _ :: _, _, h => .cons rfl (kdCells_rep b h.2)
  | .b :: r, _, h => .cons rfl (kdCells_rep (ks := r) b h)
theorem kdBd_of {x : Nat → Int} : ∀ {ks : List Kd} (n : Nat), (∀ i k lo hi, ks[i]? = some (.i k lo hi) → lo ≤ x (n + i) ∧ x (n + i) ≤ hi) → kdBd x ks n
  | [], _, _ => trivial
  | .i k lo hi :: r, n, h => ⟨h 0 k lo hi rfl, kdBd_of (ks := r) (n + 1) fun i k lo hi hk => by
      have := h (i + 1) k lo hi (by simpa using hk)
      rw [show n + (i + 1) = n + 1 + i by omega] at this; exact this⟩
  | .b :: r, n, h => kdBd_of (ks := r) (n + 1) fun i k lo hi hk => by
      have := h (i + 1) k lo hi (by simpa using hk)
      rw [show n + (i + 1) = n + 1 + i by omega] at this; exact this
/-- a contract that hands back what is plain, as what a run may lean on -/
theorem sum_plain [Sh] {n : Nat} {vals : Array Value} {w : World} {b : Nat → Option Nat} {nx : Nat} {v : ST} {u : Value} (hf : (callFunc n vals).run P w = .ok (.enter n vals) w) (hC : Calls P n vals w fun ex w' => ex = .returned u ∧ Below w.heap.size w w') (hr : RepT b v u) (hl : ∀ i n, b i = some n → i < nx) :
    (callFunc n vals).run P w = .ok (.enter n vals) w ∧ Calls P n vals w fun ex w' => ∃ c u, ex = .returned u ∧ RepT c v u ∧ ExtN nx b c ∧ HpOK c [] w' ∧ (∀ i, Live [] i → nx ≤ i) ∧ (∀ i j n, Live [] i → Live [] j → c i = some n → c j = some n → i = j) ∧
      (∀ i n, c i = some n → i < nx) ∧ (∀ i n, Live [] i → c i = some n → w.heap.size ≤ n ∧ n < w'.heap.size) ∧ nx ≤ nx ∧ Below w.heap.size w w' := by
  refine ⟨hf, hC.mono fun ex w' ⟨h1, h2⟩ => ⟨b, u, h1, hr, ExtN.refl _ _, ?_, ?_, ?_, hl, ?_, Nat.le_refl _, h2⟩⟩
  · intro id k h; cases h
  · rintro i ⟨k, h⟩; cases h
  · rintro i j n ⟨k, h⟩; cases h
  · rintro i n ⟨k, h⟩; cases h
end Go.Proofs.YtpkclnkibhgpkaaGreat.Sx
/-
What a block of ETC1 is told by: its parts. Its conditions: eight bytes that can be read.
-/
namespace Go.Proofs.YtpkclnkibhgpkaaGreat.Sx
open Go Go.RowKit

theorem sum_none [Sh] : SumOK Tryz.prog (fun _ _ _ _ => none) := fun _ _ _ _ _ _ _ h => by cases h
theorem env0 [Sh] : EnvOK Tryz.prog env := env_ok sum_none
/-- eight bytes, or so many, told by a function -/
noncomputable def byC (f : Nat → Int) (hf : ∀ i, 0 ≤ f i ∧ f i ≤ 255) : Nat → Nat → List SC
  | 0, _ => []
  | n + 1, i => .lf (.int .u8 (.sym (f i) 0 255 (hf i))) :: byC f hf n (i + 1)
theorem byC_rep [Sh] {b : Nat → Option Nat} {f : Nat → Int} {hf : ∀ i, 0 ≤ f i ∧ f i ≤ 255} : ∀ (n i : Nat), FA2 (RepC b) (byC f hf n i) ((List.range' i n).map fun j => Value.int .u8 (f j))
  | 0, _ => .nil
  | n + 1, i => by
    rw [List.range'_succ, List.map_cons]
    exact .cons rfl (byC_rep n (i + 1))
@[reducible] def shAt (off : Nat) : Sh := ⟨fun i => if i = 0 then off else 0⟩
noncomputable def byHp (f : Nat → Int) (hf : ∀ i, 0 ≤ f i ∧ f i ≤ 255) (n : Nat) : List (Nat × Blk) := [(0, ⟨0, byC f hf n 0, false, 0⟩)]
def one0 (b : Nat) : Nat → Option Nat := fun i => if i = 0 then some b else none
theorem byHp_ok {f : Nat → Int} {hf : ∀ i, 0 ≤ f i ∧ f i ≤ 255} {n b off : Nat} {w : World} (h : ∀ i, i < n → w.cell? ⟨b, off + i, none⟩ = some (.int .u8 (f i))) : @HpOK (shAt off) (one0 b) (byHp f hf n) w := by
  intro id k hk
  simp only [byHp, getB] at hk
  cases q : Nat.beq 0 id
  · rw [q] at hk; cases hk
  · rw [beq_iff] at q
    subst q
    cases hk
    refine ⟨b, rfl, _, @byC_rep (shAt off) _ _ _ n 0, fun j v hv => ?_, fun g => (by cases g), fun g => absurd rfl g⟩
    have hj : j < n := by have := (List.getElem?_eq_some_iff.1 hv).1; simpa using this
    simp only [List.getElem?_map, List.getElem?_range' hj, Option.map_some, Option.some.injEq] at hv
    subst hv
    have := h j hj
    show w.cell? ⟨b, off + 0 + j, none⟩ = _
    rw [Nat.add_zero, this, Nat.one_mul, Nat.zero_add]
theorem byHp_live {f : Nat → Int} {hf : ∀ i, 0 ≤ f i ∧ f i ≤ 255} {n i : Nat} (h : Live (byHp f hf n) i) : i = 0 := by
  obtain ⟨k, hk⟩ := h
  simp only [byHp, getB] at hk
  cases q : Nat.beq 0 i
  · rw [q] at hk; cases hk
  · rw [beq_iff] at q; exact q.symm

/-- a block's kinds: two truths; A, B, tables, which -/
def kdBlock : List Kd := [.b, .b, .i .i64 0 31, .i .i64 0 31, .i .i64 0 31, .i .i64 (-8) 15, .i .i64 (-8) 15, .i .i64 (-8) 15, .i .i64 0 7, .i .i64 0 7,
  .i .i64 0 3, .i .i64 0 3, .i .i64 0 3, .i .i64 0 3, .i .i64 0 3, .i .i64 0 3, .i .i64 0 3, .i .i64 0 3, .i .i64 0 3, .i .i64 0 3, .i .i64 0 3, .i .i64 0 3, .i .i64 0 3, .i .i64 0 3, .i .i64 0 3, .i .i64 0 3]
def chkP : ST → Bool
  | .tup [.agg l, .c (.lf (.int .i64 (.lit 0)))] => kdCs kdBlock l
  | _ => false
noncomputable def argP : List ST := [.v (.c (.lf (.sl 0 0 8 none)))]
noncomputable def partsR (f : Nat → Int) (hf : ∀ i, 0 ≤ f i ∧ f i ≤ 255) : ST := outV (callS env 100000 8 argP (byHp f hf 8) 1)
theorem parts_run (f : Nat → Int) (hf : ∀ i, 0 ≤ f i ∧ f i ≤ 255) : leafOK 1 chkP (callS env 100000 8 argP (byHp f hf 8) 1) = true := by kernel_rfl
def tup0 : ST → List SC
  | .tup (.agg l :: _) => l
  | .v (.agg l) => l
  | _ => []
noncomputable def pX (f : Nat → Int) (hf : ∀ i, 0 ≤ f i ∧ f i ≤ 255) : Nat → Int := nthI (tup0 (partsR f hf))
noncomputable def pT (f : Nat → Int) (hf : ∀ i, 0 ≤ f i ∧ f i ≤ 255) : Nat → Bool := nthB (tup0 (partsR f hf))
theorem chkP_form {v : ST} (h : chkP v = true) : ∃ l, v = .tup [.agg l, .c (.lf (.int .i64 (.lit 0)))] ∧ kdCs kdBlock l = true := by
  unfold chkP at h
  split at h
  · exact ⟨_, rfl, h⟩
  · cases h
theorem kd_agg {ks : List Kd} {l : List SC} (h : kdCs ks l = true) : Value.agg (l.map valC).toArray = .agg (kdVal (nthI l) (nthB l) ks 0).toArray := by
  rw [kdCs_val 0 h]
  rfl
theorem pX_bd (f : Nat → Int) (hf : ∀ i, 0 ≤ f i ∧ f i ≤ 255) : kdBd (pX f hf) kdBlock 0 := by
  obtain ⟨l, h1, h2⟩ := chkP_form (@calls_plain Tryz.prog (shAt 0) env (@env0 (shAt 0)) _ _ _ _ _ _ (parts_run f hf)).1
  refine kdBd_of 0 fun i k lo hi hk => ?_
  rw [Nat.zero_add]
  have := kdCs_bd h2 i k lo hi hk
  unfold pX partsR
  rw [h1]; exact this
/-- a block's parts, whatever its bytes -/
theorem parts_any (f : Nat → Int) (hf : ∀ i, 0 ≤ f i ∧ f i ≤ 255) (b off cap : Nat) (w : World) (hcap : 8 ≤ cap) (hc : ∀ i, i < 8 → w.cell? ⟨b, off + i, none⟩ = some (.int .u8 (f i))) :
    Calls Tryz.prog 8 #[.slice (some ⟨b, off, none⟩) 8 cap] w fun e w' => e = .returned (.tuple #[.agg (kdVal (pX f hf) (pT f hf) kdBlock 0).toArray, .int .i64 0]) ∧ Below w.heap.size w w' := by
  obtain ⟨h0, h1⟩ := @calls_plain Tryz.prog (shAt off) env (@env0 (shAt off)) _ _ _ _ _ _ (parts_run f hf)
  obtain ⟨l, h2, h3⟩ := chkP_form h0
  have hv : valT (outV (callS env 100000 8 argP (byHp f hf 8) 1)) = .tuple #[.agg (kdVal (pX f hf) (pT f hf) kdBlock 0).toArray, .int .i64 0] := by
    have hx : pX f hf = nthI l := by unfold pX partsR; rw [h2]; rfl
    have ht : pT f hf = nthB l := by unfold pT partsR; rw [h2]; rfl
    rw [h2, hx, ht, ← kd_agg h3]; rfl
  have := h1 (w := w) (b := one0 b) (vals := #[.slice (some ⟨b, off, none⟩) 8 cap]) (.cons ⟨b, cap, rfl, rfl, hcap⟩ .nil) (byHp_ok hc) (fun i j n hi hj _ _ => by rw [byHp_live hi, byHp_live hj])
    (fun i n h => by unfold one0 at h; split at h <;> first | omega | cases h) (fun i n hi h => by
      rw [byHp_live hi] at h
      cases h
      exact World.block_lt_of_cell? w _ (hc 0 (by omega))) (fun i hi => by show (if i = 0 then off else 0) = 0; rw [if_neg (by omega)])
  rw [hv] at this
  exact this
end Go.Proofs.YtpkclnkibhgpkaaGreat.Sx
/-
What the parts of a block of ETC1 come to: its two colours, how far its differences go, its texels. Its conditions: parts within their bounds.
-/
namespace Go.Proofs.YtpkclnkibhgpkaaGreat.Sx
open Go Go.RowKit

def kdFull : Kd := .i .i64 (-9223372036854775808) 9223372036854775807
def kdBases : List Kd := [kdFull, kdFull, kdFull, kdFull, kdFull, kdFull, kdFull, kdFull]
def kdTile : Nat → List Kd
  | 0 => []
  | n + 1 => .i .i64 0 255 :: kdTile n
def kdBlockT : List Kd := match kdBlock with
  | _ :: r => r
  | [] => []
noncomputable def argB (d : Bool) (x : Nat → Int) (t : Nat → Bool) (h : kdBd x kdBlockT 1) : List ST := [.v (.agg (.lf (.bool (.lit d)) :: kdCells x t kdBlockT 1 h))]
def chkB : ST → Bool
  | .tup [.agg l, .c (.lf (.int .i64 x))] => bif kdCs kdBases l then (bif ile 0 x.lo then ile x.hi 3 else false) else false
  | _ => false
theorem bases_run (d : Bool) (x : Nat → Int) (t : Nat → Bool) (h : kdBd x kdBlockT 1) : leafOK 0 chkB (callS env 100000 9 (argB d x t h) [] 0) = true := by
  cases d with
  | true => kernel_rfl
  | false => kernel_rfl
def tup1 : ST → Int
  | .tup [_, .c c] => cI c
  | _ => 0
noncomputable def farV (d : Bool) (x : Nat → Int) (t : Nat → Bool) (h : kdBd x kdBlockT 1) : Int := tup1 (outV (callS env 100000 9 (argB d x t h) [] 0))
noncomputable def basV (d : Bool) (x : Nat → Int) (t : Nat → Bool) (h : kdBd x kdBlockT 1) : Nat → Int := nthI (tup0 (outV (callS env 100000 9 (argB d x t h) [] 0)))
def blkV (d : Bool) (x : Nat → Int) (t : Nat → Bool) : Value := .agg (.bool d :: kdVal x t kdBlockT 1).toArray
theorem argB_rep [Sh] {b : Nat → Option Nat} (d : Bool) (x : Nat → Int) (t : Nat → Bool) (h : kdBd x kdBlockT 1) : FA2 (RepT b) (argB d x t h) (#[blkV d x t] : Array Value).toList :=
  .cons ⟨_, rfl, .cons rfl (kdCells_rep b h)⟩ .nil
theorem chkB_form {v : ST} (h : chkB v = true) : ∃ l x, v = .tup [.agg l, .c (.lf (.int .i64 x))] ∧ kdCs kdBases l = true ∧ 0 ≤ x.val ∧ x.val ≤ 3 := by
  unfold chkB at h
  split at h
  · rename_i l x
    cases g : kdCs kdBases l
    · rw [g] at h; cases h
    · rw [g] at h
      cases g2 : ile 0 x.lo
      · rw [g2] at h; cases h
      · rw [g2] at h
        simp only [cond_true] at h
        rw [ile_iff] at g2 h
        have := x.bd
        exact ⟨l, x, rfl, g, by omega, by omega⟩
  · cases h
/-- a run that looks at no block of before -/
theorem calls_free [Sh] {n : Nat} {args : List ST} {vals : Array Value} {f : ST → Bool} (hz : ∀ i, Sh.sh i = 0) (h : leafOK 0 f (callS env 100000 n args [] 0) = true) (hv : FA2 (RepT (fun _ => none)) args vals.toList) (w : World) :
    f (outV (callS env 100000 n args [] 0)) = true ∧ Calls Tryz.prog n vals w fun ex w' => ex = .returned (valT (outV (callS env 100000 n args [] 0))) ∧ Below w.heap.size w w' := by
  obtain ⟨h0, h1⟩ := calls_plain env0 h
  exact ⟨h0, h1 hv (fun id k hk => by cases hk) (fun i j n hi => by obtain ⟨k, hk⟩ := hi; cases hk) (fun i n hi => by cases hi) (fun i n hi => by obtain ⟨k, hk⟩ := hi; cases hk) (fun i _ => hz i)⟩
theorem bases_any (d : Bool) (x : Nat → Int) (t : Nat → Bool) (h : kdBd x kdBlockT 1) (w : World) :
    Calls Tryz.prog 9 #[blkV d x t] w fun e w' => e = .returned (.tuple #[.agg (kdVal (basV d x t h) (fun _ => false) kdBases 0).toArray, .int .i64 (farV d x t h)]) ∧ Below w.heap.size w w' := by
  obtain ⟨h0, h1⟩ := @calls_free ⟨fun _ => 0⟩ _ _ _ _ (fun _ => rfl) (bases_run d x t h) (@argB_rep ⟨fun _ => 0⟩ _ d x t h) w
  obtain ⟨l, y, h2, h3, _⟩ := chkB_form h0
  have hx : basV d x t h = nthI l := by unfold basV; rw [h2]; rfl
  have hf : farV d x t h = y.val := by unfold farV; rw [h2]; rfl
  rw [h2] at h1
  have e : valT (.tup [.agg l, .c (.lf (.int .i64 y))]) = .tuple #[.agg (kdVal (basV d x t h) (fun _ => false) kdBases 0).toArray, .int .i64 (farV d x t h)] := by
    rw [hx, hf]
    have := kd_agg h3
    show Value.tuple #[.agg (l.map valC).toArray, _] = _
    rw [this]; rfl
  rw [e] at h1
  exact h1
theorem farV_bd (d : Bool) (x : Nat → Int) (t : Nat → Bool) (h : kdBd x kdBlockT 1) : 0 ≤ farV d x t h ∧ farV d x t h ≤ 3 := by
  obtain ⟨h0, _⟩ := @calls_free ⟨fun _ => 0⟩ _ _ _ _ (fun _ => rfl) (bases_run d x t h) (@argB_rep ⟨fun _ => 0⟩ _ d x t h) default
  obtain ⟨l, y, h2, _, h3⟩ := chkB_form h0
  have hf : farV d x t h = y.val := by unfold farV; rw [h2]; rfl
  rw [hf]; exact h3
def chkT : ST → Bool
  | .v (.agg l) => kdCs (kdTile 64) l
  | _ => false
theorem paint_run (d : Bool) (x : Nat → Int) (t : Nat → Bool) (h : kdBd x kdBlockT 1) : leafOK 0 chkT (callS env 100000 171 (argB d x t h) [] 0) = true := by
  cases d with
  | true => kernel_rfl
  | false => kernel_rfl
noncomputable def paiV (d : Bool) (x : Nat → Int) (t : Nat → Bool) (h : kdBd x kdBlockT 1) : Nat → Int := nthI (tup0 (outV (callS env 100000 171 (argB d x t h) [] 0)))
def tileV (g : Nat → Int) : Value := .agg (kdVal g (fun _ => false) (kdTile 64) 0).toArray
theorem chkT_form {v : ST} (h : chkT v = true) : ∃ l, v = .v (.agg l) ∧ kdCs (kdTile 64) l = true := by
  unfold chkT at h
  split at h
  · exact ⟨_, rfl, h⟩
  · cases h
theorem paint_any (d : Bool) (x : Nat → Int) (t : Nat → Bool) (h : kdBd x kdBlockT 1) (w : World) :
    Calls Tryz.prog 171 #[blkV d x t] w fun e w' => e = .returned (tileV (paiV d x t h)) ∧ Below w.heap.size w w' := by
  obtain ⟨h0, h1⟩ := @calls_free ⟨fun _ => 0⟩ _ _ _ _ (fun _ => rfl) (paint_run d x t h) (@argB_rep ⟨fun _ => 0⟩ _ d x t h) w
  obtain ⟨l, h2, h3⟩ := chkT_form h0
  have hx : paiV d x t h = nthI l := by unfold paiV; rw [h2]; rfl
  rw [h2] at h1
  have e : valT (.v (.agg l)) = tileV (paiV d x t h) := by
    rw [hx]
    exact kd_agg h3
  rw [e] at h1
  exact h1
end Go.Proofs.YtpkclnkibhgpkaaGreat.Sx
