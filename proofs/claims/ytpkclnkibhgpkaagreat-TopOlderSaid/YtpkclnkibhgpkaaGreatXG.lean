/-
What the run tells of literals, of slices' parts, and of each operation that looks at no memory. Its conditions: that the tables of types tell the program's types.
-/
import Derived.Test.YtpkclnkibhgpkaaGreatXF
import Derived.Laws.Tables
import Derived.DataShut
namespace Go.Proofs.YtpkclnkibhgpkaaGreat.Sx
open Go
variable {P : Program}

theorem setFold_aux (off : Nat) : ∀ (vs : List Value) (k : Nat) (cells : Array Value), ((vs.zipIdx k).foldl (fun cs (p : Value × Nat) => cs.setIfInBounds (off + p.2) p.1) cells).size = cells.size ∧
    ∀ j : Nat, off + k + vs.length ≤ cells.size → ((vs.zipIdx k).foldl (fun cs (p : Value × Nat) => cs.setIfInBounds (off + p.2) p.1) cells)[j]? = if off + k ≤ j ∧ j < off + k + vs.length then vs[j - (off + k)]? else cells[j]?
  | [], k, cells => ⟨rfl, fun j _ => by rw [if_neg (by simp <;> omega)]; rfl⟩
  | v :: r, k, cells => by
    obtain ⟨h1, h2⟩ := setFold_aux off r (k + 1) (cells.setIfInBounds (off + k) v)
    simp only [List.zipIdx_cons, List.foldl_cons]
    refine ⟨by rw [h1]; simp, fun j hj => ?_⟩
    simp only [List.length_cons] at hj
    rw [h2 j (by simp; omega)]
    simp only [List.length_cons]
    by_cases e : j = off + k
    · subst e
      rw [if_neg (by omega), if_pos (by omega), Array.getElem?_setIfInBounds, if_pos rfl, if_pos (by omega)]
      simp
    · by_cases g : off + (k + 1) ≤ j ∧ j < off + (k + 1) + r.length
      · rw [if_pos g, if_pos (by omega), show j - (off + k) = j - (off + (k + 1)) + 1 by omega]; simp
      · rw [if_neg g, if_neg (by omega), Array.getElem?_setIfInBounds, if_neg (by omega)]
theorem setFold_lay [Sh] {off : Nat} {vs cells : Array Value} {β : Nat → Option Nat} {l m r : List SC} (h : layL off l m = some r) (hl : FA2 (RepC β) l cells.toList) (hm : FA2 (RepC β) m vs.toList) :
    FA2 (RepC β) r (vs.zipIdx.foldl (fun cs (p : Value × Nat) => cs.setIfInBounds (off + p.2) p.1) cells).toList ∧ ¬ off + vs.size > cells.size ∨ m = [] ∧ r = l := by
  obtain ⟨h1, h2, h3⟩ := layL_some _ _ _ _ h
  rcases h2 with rfl | h2
  · refine .inr ⟨rfl, ?_⟩
    apply List.ext_getElem?
    intro j
    rw [h3 j, if_neg (by simp <;> omega)]
  · refine .inl ?_
    have e1 := fa2_len hl
    have e2 := fa2_len hm
    simp only [Array.length_toList] at e1 e2
    obtain ⟨g1, g2⟩ := setFold_aux off vs.toList 0 cells
    have ef : vs.zipIdx.foldl (fun cs (p : Value × Nat) => cs.setIfInBounds (off + p.2) p.1) cells = (vs.toList.zipIdx 0).foldl (fun cs (p : Value × Nat) => cs.setIfInBounds (off + p.2) p.1) cells := by
      rw [← Array.foldl_toList, Array.toList_zipIdx]
    rw [ef]
    refine ⟨fa2_mk (by simp [g1, h1, e1]) fun n a b ha hb => ?_, by omega⟩
    have g3 := g2 n (by simp; omega)
    simp only [Nat.add_zero, Array.length_toList] at g3
    rw [Array.getElem?_toList, g3] at hb
    rw [h3 n, e2] at ha
    by_cases c : off ≤ n ∧ n < off + vs.size
    · rw [if_pos c] at ha hb
      obtain ⟨b', hb', hr⟩ := fa2_get hm _ _ ha
      rw [hb'] at hb; cases hb; exact hr
    · rw [if_neg c] at ha hb
      obtain ⟨b', hb', hr⟩ := fa2_get hl _ _ ha
      rw [Array.getElem?_toList] at hb'
      rw [hb'] at hb; cases hb; exact hr
theorem setFold_nil (off : Nat) (cells vs : Array Value) (h : vs.size = 0) : vs.zipIdx.foldl (fun cs (p : Value × Nat) => cs.setIfInBounds (off + p.2) p.1) cells = cells := by
  have : vs = #[] := Array.eq_empty_of_size_eq_zero h
  subst this; rfl
def RepP [Sh] (β : Nat → Option Nat) (x : Nat × ST) (y : Nat × Value) : Prop := x.1 = y.1 ∧ RepT β x.2 y.2
theorem buildOne_run [Sh] {e : Env} {place place' : Nat → Option (Nat × Nat)} (hp : ∀ i x, place i = some x → place' i = some x) {β : Nat → Option Nat} : ∀ {ps : List (Nat × ST)} {base r : List SC}, buildOne e base place ps = some r →
    ∀ {vs : List (Nat × Value)} {cells : Array Value}, FA2 (RepP β) ps vs → FA2 (RepC β) base cells.toList → ∃ out, Instr.fill place' cells vs = some out ∧ FA2 (RepC β) r out.toList ∧ r.length = base.length
  | [], base, r, h, vs, cells, hv, hb => by simp [buildOne] at h; subst h; cases hv; exact ⟨cells, rfl, hb, rfl⟩
  | (i, x) :: ps, base, r, h, vs, cells, hv, hb => by
    cases hv with
    | @cons _ y _ m h1 h2 =>
      obtain ⟨i', u⟩ := y
      obtain ⟨rfl, hx⟩ := h1
      cases x with
      | tup l => simp [buildOne] at h
      | v x =>
        simp only [buildOne] at h
        cases q : place i with
        | none => rw [q] at h; cases h
        | some os =>
          obtain ⟨off, size⟩ := os
          rw [q] at h
          simp only at h
          cases q2 : (Nat.beq (lenL (svCells x)) size && Nat.blt 0 size)
          · rw [q2] at h; cases h
          · rw [q2] at h
            simp only [Bool.and_eq_true, beq_iff, lenL_eq, Nat.blt_eq] at q2
            simp only [cond_true] at h
            cases q3 : layL off base (svCells x) with
            | none => rw [q3] at h; cases h
            | some b =>
              rw [q3] at h
              simp only at h
              have hc := RepV.cells hx
              have hcl := fa2_len hc
              simp only [Array.length_toList] at hcl
              have hbl := fa2_len hb
              simp only [Array.length_toList] at hbl
              have hl2 := (layL_some _ _ _ _ q3).1
              rcases setFold_lay q3 hb hc with ⟨g1, g2⟩ | ⟨g1, g2⟩
              · obtain ⟨out, ho, hr, hlen⟩ := buildOne_run hp h h2 g1
                refine ⟨out, ?_, hr, by omega⟩
                unfold Instr.fill
                simp only [hp _ _ q]
                have e1 : u.cells.size = size := by omega
                have e2 : ¬ off + size > cells.size := by rw [← e1]; exact g2
                rw [if_neg (by rw [e1]; simp; omega)]
                exact ho
              · rw [g1] at q2; simp only [List.length_nil] at q2; omega
theorem buildS_run [Sh] {e : Env} (he : TysOK P e.ty) {t : Nat} {ps : List (Nat × ST)} {r : ST} (h : buildS e t ps = some r) {β : Nat → Option Nat} {vs : Array (Nat × Value)} (hv : FA2 (RepP β) ps vs.toList) (w : World) : ∃ z, (Instr.build t vs).run P w = .ok z w ∧ RepT β r z := by
  unfold buildS at h
  split at h
  · rename_i l s b z g
    obtain ⟨it, zv, hi, _, _, hz, hr, _, _⟩ := (he t _ g).info
    obtain ⟨desc, hu, h2⟩ := (he t _ g).und
    cases desc <;> simp [tdOK] at h2
    rename_i fs
    cases q : mapO (placeF e) l with
    | none => rw [q] at h; cases h
    | some pl =>
      rw [q] at h
      simp only at h
      cases q2 : buildOne e z (nthL pl) ps with
      | none => rw [q2] at h; cases h
      | some cs =>
        rw [q2] at h; cases h
        have hm := mapO_some q
        have hpl : fs.toList.mapM (fun f => (P.info? f.type).map fun i => (f.offset, i.size)) = some pl := by
          refine mapM_some_of_get _ _ (by have := fa2_len hm; rw [h2] at this; simpa using this.symm) fun i f hf => ?_
          have h3 : l[i]? = some (f.offset, f.type) := by rw [h2, List.getElem?_map, hf]; rfl
          obtain ⟨x, hx, hpx⟩ := fa2_get hm _ _ h3
          rw [hx]
          unfold placeF at hpx
          simp only at hpx
          cases q4 : e.ty.get f.type with
          | none => rw [q4] at hpx; cases hpx
          | some d =>
            rw [q4] at hpx; cases hpx
            obtain ⟨i2, _, hi2, hs2, _⟩ := (he _ _ q4).info
            rw [hi2, Option.map_some, hs2]
        obtain ⟨out, ho, hro, _⟩ := buildOne_run (place' := fun i => pl.toArray[i]?) (fun i x hx => by rw [nthL_eq] at hx; simpa using hx) q2 hv (hr β)
        refine ⟨.agg out, run_build w t vs out ?_, out, rfl, hro⟩
        unfold Program.built
        simp only [hi, hu, hz, hpl]
        exact ho
  · rename_i n el s b z g
    obtain ⟨it, zv, hi, _, _, hz, hr, _, _⟩ := (he t _ g).info
    have hu := he.arr g
    cases q : e.ty.get el with
    | none => rw [q] at h; cases h
    | some d =>
      rw [q] at h
      simp only at h
      cases q2 : buildOne e z (fun i => some (i * d.size, d.size)) ps with
      | none => rw [q2] at h; cases h
      | some cs =>
        rw [q2] at h; cases h
        obtain ⟨i2, _, hi2, hs2, _⟩ := (he _ _ q).info
        obtain ⟨out, ho, hro, _⟩ := buildOne_run (place' := fun i => some (i * d.size, d.size)) (fun i x hx => hx) q2 hv (hr β)
        refine ⟨.agg out, run_build w t vs out ?_, out, rfl, hro⟩
        unfold Program.built
        simp only [hi, hu, hz, hi2, hs2]
        exact ho
  · cases h
theorem evL_rep [Sh] {β : Nat → Option Nat} {tm : Tr ST} {a : Act} (h : TmOK β tm a.tmps) : ∀ {l : List Operand} {r : List ST}, evL tm l = some r → FA2 (RepT β) r (l.map a.eval)
  | [], r, g => by simp [evL] at g; subst g; exact .nil
  | x :: l, r, g => by
    simp only [evL] at g
    cases q : evO tm x with
    | none => rw [q] at g; cases g
    | some v =>
      rw [q] at g
      simp only at g
      cases q2 : evL tm l with
      | none => rw [q2] at g; cases g
      | some m => rw [q2] at g; cases g; exact .cons (evO_rep h q) (evL_rep h q2)
theorem evParts_rep [Sh] {β : Nat → Option Nat} {tm : Tr ST} {a : Act} (h : TmOK β tm a.tmps) : ∀ {l : List (Nat × Operand)} {r : List (Nat × ST)}, evParts tm l = some r → FA2 (RepP β) r (l.map fun p => (p.1, a.eval p.2))
  | [], r, g => by simp [evParts] at g; subst g; exact .nil
  | (i, x) :: l, r, g => by
    simp only [evParts] at g
    cases q : evO tm x with
    | none => rw [q] at g; cases g
    | some v =>
      rw [q] at g
      simp only at g
      cases q2 : evParts tm l with
      | none => rw [q2] at g; cases g
      | some m => rw [q2] at g; cases g; exact .cons ⟨rfl, evO_rep h q⟩ (evParts_rep h q2)
theorem leaves_rep [Sh] {β : Nat → Option Nat} : ∀ {l : List ST} {r : List LC}, leaves l = some r → ∀ {vs : List Value}, FA2 (RepT β) l vs → FA2 (RepL β) r vs
  | [], r, g, vs, hv => by simp [leaves] at g; subst g; cases hv; exact .nil
  | x :: l, r, g, vs, hv => by
    unfold leaves at g
    split at g
    · rename_i heq; cases heq
    · rename_i y l' heq
      cases heq
      cases q : leaves l with
      | none => rw [q] at g; cases g
      | some m => rw [q] at g; cases g; cases hv with | cons h1 h2 => exact .cons h1 (leaves_rep q h2)
    · cases g
theorem cleaf_rep [Sh] {β : Nat → Option Nat} : ∀ {l : List SC} {r : List LC}, cleaf l = some r → ∀ {vs : List Value}, FA2 (RepC β) l vs → FA2 (RepL β) r vs
  | [], r, g, vs, hv => by simp [cleaf] at g; subst g; cases hv; exact .nil
  | x :: l, r, g, vs, hv => by
    unfold cleaf at g
    split at g
    · rename_i heq; cases heq
    · rename_i y l' heq
      cases heq
      cases q : cleaf l with
      | none => rw [q] at g; cases g
      | some m => rw [q] at g; cases g; cases hv with | cons h1 h2 => exact .cons h1 (cleaf_rep q h2)
    · cases g
theorem firsts_rep [Sh] {β : Nat → Option Nat} : ∀ {l : List ST} {r : List (Bool × List LC)}, firsts l = some r → ∀ {vs : List Value}, FA2 (RepT β) l vs → FA2 (RepF β) r vs
  | [], r, g, vs, hv => by simp [firsts] at g; subst g; cases hv; exact .nil
  | x :: l, r, g, vs, hv => by
    unfold firsts at g
    split at g
    · rename_i heq; cases heq
    · rename_i y l' heq
      cases heq
      cases q : firsts l with
      | none => rw [q] at g; cases g
      | some m => rw [q] at g; cases g; cases hv with | cons h1 h2 => exact .cons ⟨y, rfl, h1⟩ (firsts_rep q h2)
    · rename_i cs l' heq
      cases heq
      split at g
      · rename_i m n q1 q2
        cases g
        cases hv with | cons h1 h2 => obtain ⟨vs, rfl, hc⟩ := h1; exact .cons ⟨vs, rfl, cleaf_rep q1 hc⟩ (firsts_rep q2 h2)
      · cases g
    · cases g
theorem makeFuncS_rep [Sh] {f : Fn} {fs cs : List ST} {r : ST} (h : makeFuncS f fs cs = some r) {β : Nat → Option Nat} {us vs : Array Value} (hu : FA2 (RepT β) fs us.toList) (hv : FA2 (RepT β) cs vs.toList) : RepT β r (.func f us vs) := by
  unfold makeFuncS at h
  split at h
  · rename_i n a b q1 q2
    cases h
    exact ⟨us, vs, rfl, firsts_rep q1 hu, leaves_rep q2 hv⟩
  · cases h
theorem nat?_some {o : Option ST} {n : Nat} (h : nat? o = some n) : ∃ k m, o = some (.v (.c (.lf (.int k (.lit m))))) ∧ 0 ≤ m ∧ m.toNat = n := by
  unfold nat? at h
  split at h
  · rename_i k m
    cases q : ile 0 m
    · rw [q] at h; cases h
    · rw [q] at h; cases h; exact ⟨k, m, rfl, ile_iff.1 q, rfl⟩
  · cases h
end Go.Proofs.YtpkclnkibhgpkaaGreat.Sx
