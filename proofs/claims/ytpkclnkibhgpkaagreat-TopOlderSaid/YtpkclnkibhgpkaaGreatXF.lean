/-
The operations that look at no memory do what the run tells of them, the last of them. Its conditions: that the tables of types tell the program's types.
-/
import Derived.Test.YtpkclnkibhgpkaaGreatXE
namespace Go.Proofs.YtpkclnkibhgpkaaGreat.Sx
open Go
variable {P : Program}

theorem colSI_some : ∀ {n : Nat} {cs : List SC} {off m : Nat} {k : IntKind} {l : List SI}, colSI n cs off m k = some l → l.length = n ∧ ∀ j, j < n → ∃ a, cs[off + j * m]? = some (.lf (.int k a)) ∧ l[j]? = some a
  | 0, cs, off, m, k, l, h => by simp [colSI] at h; subst h; exact ⟨rfl, fun j hj => by omega⟩
  | n + 1, cs, off, m, k, l, h => by
    simp only [colSI, nthL_eq] at h
    split at h
    · rename_i k' a g
      cases q : kindEq k k'
      · rw [q] at h; cases h
      · rw [q] at h
        obtain rfl := kindEq_iff q
        simp only [cond_true] at h
        cases c : colSI n cs (off + m) m k with
        | none => rw [c] at h; cases h
        | some r =>
          rw [c] at h; cases h
          obtain ⟨h1, h2⟩ := colSI_some c
          refine ⟨by simp [h1], fun j hj => ?_⟩
          cases j with
          | zero => exact ⟨a, by simpa using g, rfl⟩
          | succ j =>
            obtain ⟨x, hx, hy⟩ := h2 j (by omega)
            exact ⟨x, by rw [← hx]; congr 1; rw [Nat.succ_mul]; omega, by simpa using hy⟩
    · cases h
theorem selCell_rep [Sh] {cs : List SC} {off m n : Nat} {i : SI} {c : SC} (h : selCell cs off m n i = some c) (hi : inB i n = true) {β : Nat → Option Nat} {vs : List Value} (hv : FA2 (RepC β) cs vs) :
    ∃ v, vs[off + i.val.toNat * m]? = some v ∧ RepC β c v := by
  have hb := inB_out hi
  unfold selCell at h
  rw [nthL_eq] at h
  split at h
  · rename_i k a g
    cases q : colSI (n - 1) cs (off + m) m k with
    | none => rw [q] at h; cases h
    | some l =>
      rw [q] at h; cases h
      obtain ⟨h1, h2⟩ := colSI_some q
      have key : ∃ y, cs[off + i.val.toNat * m]? = some (.lf (.int k y)) ∧ (a :: l)[i.val.toNat]? = some y := by
        cases e : i.val.toNat with
        | zero => exact ⟨a, by simpa using g, rfl⟩
        | succ j =>
          obtain ⟨x, hx, hy⟩ := h2 j (by omega)
          exact ⟨x, by rw [← hx]; congr 1; rw [Nat.succ_mul]; omega, by simpa using hy⟩
      obtain ⟨y, hy, hl⟩ := key
      obtain ⟨v, hvv, hr⟩ := fa2_get hv _ _ hy
      refine ⟨v, hvv, ?_⟩
      have e := selS_val a l i hl
      show v = _
      rw [e]; exact hr
  · cases h
theorem selCells_rep [Sh] : ∀ {z : Nat} {cs : List SC} {off m n : Nat} {i : SI} {l : List SC}, selCells z cs off m n i = some l → inB i n = true → ∀ {β : Nat → Option Nat} {vs : List Value}, FA2 (RepC β) cs vs →
    l.length = z ∧ FA2 (RepC β) l ((vs.drop (off + i.val.toNat * m)).take z)
  | 0, cs, off, m, n, i, l, h, hi, β, vs, hv => by simp [selCells] at h; subst h; exact ⟨rfl, by rw [List.take_zero]; exact .nil⟩
  | z + 1, cs, off, m, n, i, l, h, hi, β, vs, hv => by
    simp only [selCells] at h
    cases q : selCell cs off m n i with
    | none => rw [q] at h; cases h
    | some c =>
      rw [q] at h
      simp only at h
      cases k : selCells z cs (off + 1) m n i with
      | none => rw [k] at h; cases h
      | some r =>
        rw [k] at h; cases h
        obtain ⟨v, h1, h2⟩ := selCell_rep q hi hv
        obtain ⟨h3, h4⟩ := selCells_rep k hi hv
        refine ⟨by simp [h3], ?_⟩
        obtain ⟨hlt, he⟩ := List.getElem?_eq_some_iff.1 h1
        rw [List.drop_eq_getElem_cons hlt, List.take_succ_cons, he]
        refine .cons h2 ?_
        rw [show off + 1 + i.val.toNat * m = off + i.val.toNat * m + 1 by omega] at h4
        exact h4
/-- what is chosen is a part -/
theorem sel_part [Sh] {d : TyD} {el : Nat} (hd : TyOK P el d) {β : Nat → Option Nat} {cs : Array Value} {o : Nat} {l : List SC} {r : SV} (hl : FA2 (RepC β) l ((cs.toList.drop o).take d.size)) (hlen : l.length = d.size)
    (h : oneSV d l = some r) (w : World) : ∃ v, (part el cs o).run P w = .ok v w ∧ RepV β r v := by
  unfold part
  rw [bind_run (hd.agg_run w)]
  unfold oneSV at h
  cases ha : isAggD d.td
  · rw [ha] at h
    simp only [cond_false] at h
    split at h
    · rename_i c
      cases h
      have hlen' : 1 = d.size := hlen
      rw [← hlen'] at hl
      cases hq : cs.toList.drop o with
      | nil => rw [hq] at hl; cases hl
      | cons v r =>
        rw [hq] at hl
        cases hl with
        | cons a _ =>
          refine ⟨v, ?_, a⟩
          have hv : cs[o]? = some v := by
            have := congrArg (fun x => x[0]?) hq
            simpa using this
          simp [hv]
    · cases h
  · rw [ha] at h
    simp only [cond_true, Option.some.injEq] at h
    subst h
    simp only [if_true]
    rw [bind_run (hd.size_run w)]
    exact ⟨_, rfl, _, rfl, by rw [arr_extract, Nat.add_sub_cancel_left]; exact hl⟩
theorem indexS_run [Sh] {e : Env} (he : TysOK P e.ty) {t : Nat} {x i r : ST} (h : indexS e t x i = some r) {β : Nat → Option Nat} {u v : Value} (hx : RepT β x u) (hi : RepT β i v) (w : World) : ∃ z, (Instr.index t u v).run P w = .ok z w ∧ RepT β r z := by
  unfold indexS at h
  split at h
  · rename_i n el s b z cs k ix g
    obtain rfl := hi.intv
    obtain ⟨vs, rfl, hv⟩ := hx
    cases g2 : inB ix n
    · rw [g2] at h; cases h
    · rw [g2] at h
      simp only [cond_true] at h
      have hb := inB_out g2
      have hu := he.arr g
      cases k2 : e.ty.get el with
      | none => rw [k2] at h; cases h
      | some d =>
        have hd := he _ _ k2
        rw [k2] at h
        simp only at h
        have base : ∀ {q : SV}, (∃ y, (part el vs (ix.val.toNat * d.size)).run P w = .ok y w ∧ RepV β q y) → ∃ z, (Instr.index t (.agg vs) (.int k ix.val)).run P w = .ok z w ∧ RepT β (.v q) z := by
          rintro q ⟨y, h1, h2⟩
          refine ⟨y, ?_, h2⟩
          unfold Instr.index
          simp only [asIntOf]
          rw [bind_run (Sem.run_pure _ _ _), bind_run (run_underlying hu w)]
          simp only
          rw [if_pos ⟨hb.1, hb.2.1⟩, bind_run (hd.size_run w)]
          exact h1
        split at h
        · rename_i j
          cases q : partS d cs (j.toNat * d.size) with
          | none => rw [q] at h; cases h
          | some p =>
            rw [q] at h; cases h
            exact base (part_run hd hv q w)
        · cases q : Nat.beq (lenL cs) (n * d.size)
          · rw [q] at h; cases h
          · rw [q] at h
            simp only [cond_true] at h
            cases q2 : selCells d.size cs 0 d.size n ix with
            | none => rw [q2] at h; cases h
            | some l =>
              rw [q2] at h
              obtain ⟨h1, h2⟩ := selCells_rep q2 g2 hv
              rw [Nat.zero_add] at h2
              simp only at h
              cases hsv : oneSV d l with
              | none => rw [hsv] at h; cases h
              | some sv =>
                rw [hsv] at h; cases h
                exact base (sel_part hd h2 h1 hsv w)
  · cases h
theorem extractS_run [Sh] {x r : ST} {i : Nat} (h : extractS x i = some r) {β : Nat → Option Nat} {u : Value} (hx : RepT β x u) (w : World) : ∃ z, (Instr.extract u i).run P w = .ok z w ∧ RepT β r z := by
  unfold extractS at h
  split at h
  · rename_i l
    obtain ⟨vs, rfl, hv⟩ := hx
    rw [nthL_eq] at h
    cases q : l[i]? with
    | none => rw [q] at h; cases h
    | some v =>
      rw [q] at h; cases h
      obtain ⟨y, h1, h2⟩ := fa2_get hv _ _ q
      rw [Array.getElem?_toList] at h1
      exact ⟨y, by simp [Instr.extract, h1], h2⟩
  · cases h
theorem lenS_run [Sh] {e : Env} (he : TysOK P e.ty) {t ty : Nat} {x r : ST} (h : lenS e t x = some r) {β : Nat → Option Nat} {u : Value} (hx : RepT β x u) (ts : List Nat) (w : World) : ∃ z, (Builtin.len_ (t :: ts).toArray ty #[u]).run P w = .ok z w ∧ RepT β r z := by
  unfold lenS at h
  split at h
  · rename_i n el s b z g
    cases h
    refine ⟨.int .i64 n, ?_, rfl⟩
    simp [Builtin.len_, Sem.run_bind, run_underlying (he.arr g), goInt]
  · rename_i sz b z str g
    cases h
    obtain ⟨rfl, _⟩ : u = .string str ∧ _ := hx
    refine ⟨.int .i64 str.size, ?_, ?_⟩
    · simp [Builtin.len_, Sem.run_bind, run_underlying (he.str g), goInt]
    · show _ = _
      rw [lenL_eq]; rfl
  · rename_i el s b z id off n cap g
    cases h
    obtain ⟨q, c, hq, rfl, hl, _⟩ := RepL.slv hx
    refine ⟨.int .i64 n, ?_, rfl⟩
    simp [Builtin.len_, Sem.run_bind, run_underlying (he.slice g), goInt]
  · rename_i el s b z g
    cases h
    obtain rfl := RepL.nilsv (β := β) hx
    refine ⟨.int .i64 0, ?_, rfl⟩
    simp [Builtin.len_, Sem.run_bind, run_underlying (he.slice g), goInt]
  · cases h
def mm2 (mx : Bool) : Value → Value → Sem Value := bif mx then Builtin.max2 else Builtin.min2
theorem foldMM_run [Sh] {mx : Bool} {k : IntKind} {β : Nat → Option Nat} : ∀ {l : List ST} {a x : SI}, foldMM mx a l k = some x → ∀ {vs : List Value}, FA2 (RepT β) l vs → ∀ w, (vs.foldlM (mm2 mx) (.int k a.val)).run P w = .ok (.int k x.val) w
  | [], a, x, h, vs, hv, w => by simp [foldMM] at h; subst h; cases hv; rfl
  | y :: r, a, x, h, vs, hv, w => by
    cases hv with
    | cons h1 h2 =>
      simp only [foldMM] at h
      split at h
      · rename_i k' b
        cases q : kindEq k' k
        · rw [q] at h; cases h
        · rw [q] at h
          obtain rfl := kindEq_iff q
          obtain rfl := h1.intv
          simp only [cond_true] at h
          rw [List.foldlM_cons]
          have hh : (mm2 mx (.int k' a.val) (.int k' b.val)).run P w = .ok (.int k' (bif mx then maxS a b else minS a b).val) w := by
            cases mx
            · simp [mm2, Builtin.min2, minS_val]
            · simp [mm2, Builtin.max2, maxS_val]
          rw [bind_run hh]
          exact foldMM_run h h2 w
      · cases h
theorem mmS_run [Sh] {mx : Bool} {l : List ST} {r : ST} (h : mmS mx l = some r) {β : Nat → Option Nat} {vs : List Value} (hv : FA2 (RepT β) l vs) (ts : Array Nat) (ty : Nat) (w : World) :
    ∃ z, ((bif mx then Builtin.max_ else Builtin.min_) ts ty vs.toArray).run P w = .ok z w ∧ RepT β r z := by
  unfold mmS at h
  split at h
  · rename_i k a r'
    cases q : foldMM mx a r' k with
    | none => rw [q] at h; cases h
    | some x =>
      rw [q] at h; cases h
      cases hv with
      | cons h1 h2 =>
        obtain rfl := h1.intv
        have := foldMM_run (P := P) q h2 w
        refine ⟨_, ?_, rfl⟩
        cases mx
        · exact this
        · exact this
  · cases h
end Go.Proofs.YtpkclnkibhgpkaaGreat.Sx
