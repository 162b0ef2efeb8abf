/-
The operations that look at no memory do what the run tells of them. Its conditions: that the tables of types tell the program's types.
-/
import Derived.Test.YtpkclnkibhgpkaaGreatXC
import Derived.WalkSpells
import Derived.Lib.SliceRun
namespace Go.Proofs.YtpkclnkibhgpkaaGreat.Sx
open Go
variable {P : Program}

def tdOK : TD → TypeDesc → Prop
  | .int k, .int k' => k = k'
  | .bool, .bool => True
  | .str, .string => True
  | .ptr e, .pointer e' => e = e'
  | .slice e, .slice e' => e = e'
  | .arr n e, .array n' e' => n = n' ∧ e = e'
  | .st l, .struct fs => l = fs.toList.map fun f => (f.offset, f.type)
  | .func, .func _ _ _ => True
  | .map k e, .map k' e' => k = k' ∧ e = e'
  | _, _ => False
structure TyOK [Sh] (P : Program) (t : Nat) (d : TyD) : Prop where
  info : ∃ i z, P.info? t = some i ∧ i.size = d.size ∧ i.bytes = d.bytes ∧ i.zero = some z ∧ (∀ b, FA2 (RepC b) d.zero z.cells.toList) ∧ (isAggD d.td = true → ∃ cs, z = .agg cs) ∧ d.zero.length = d.size
  und : ∃ desc, P.underlying t = some desc ∧ tdOK d.td desc
def TysOK [Sh] (P : Program) (ty : Tr TyD) : Prop := ∀ t d, ty.get t = some d → TyOK P t d

theorem TyOK.size_run [Sh] {t : Nat} {d : TyD} (h : TyOK P t d) (w : World) : (sizeOf t).run P w = .ok d.size w := by
  obtain ⟨i, z, hi, hs, _⟩ := h.info
  simp [sizeOf, typeInfo, Sem.run_bind, program, Sem.run, hi, hs]
theorem TyOK.info_run [Sh] {t : Nat} {d : TyD} (h : TyOK P t d) (w : World) : ∃ i, (typeInfo t).run P w = .ok i w ∧ i.bytes = d.bytes ∧ i.size = d.size := by
  obtain ⟨i, z, hi, hs, hb, _⟩ := h.info
  exact ⟨i, by simp [Go.typeInfo, Sem.run_bind, program, Sem.run, hi], hb, hs⟩
theorem TyOK.zero_run [Sh] {t : Nat} {d : TyD} (h : TyOK P t d) (w : World) : ∃ z, (zeroValue t).run P w = .ok z w ∧ (∀ b, FA2 (RepC b) d.zero z.cells.toList) ∧ (isAggD d.td = true → ∃ cs, z = .agg cs) ∧ d.zero.length = d.size := by
  obtain ⟨i, z, hi, hs, hb, hz, hr, ha, hl⟩ := h.info
  exact ⟨z, by simp [Go.zeroValue, Go.typeInfo, Sem.run_bind, program, Sem.run, hi, hz], hr, ha, hl⟩
theorem TyOK.under [Sh] {t : Nat} {d : TyD} (h : TyOK P t d) (w : World) : ∃ desc, (underlying t).run P w = .ok desc w ∧ tdOK d.td desc := by
  obtain ⟨desc, h1, h2⟩ := h.und
  exact ⟨desc, run_underlying h1 w, h2⟩
theorem tdOK.agg {d : TD} {desc : TypeDesc} (h : tdOK d desc) : isAggD d = (match desc with | .struct _ | .array _ _ => true | _ => false) := by
  cases d <;> cases desc <;> simp [tdOK, isAggD] at h ⊢
theorem TyOK.agg_run [Sh] {t : Nat} {d : TyD} (h : TyOK P t d) (w : World) : (isAgg t).run P w = .ok (isAggD d.td) w := by
  obtain ⟨desc, h1, h2⟩ := h.under w
  unfold Go.isAgg
  rw [Sem.run_bind, h1, h2.agg]
  cases desc <;> simp

theorem arr_extract {α : Type} (cs : Array α) (i j : Nat) : (cs.extract i j).toList = (cs.toList.drop i).take (j - i) := by
  rw [Array.toList_extract]
theorem part_run [Sh] {t : Nat} {d : TyD} (h : TyOK P t d) {b : Nat → Option Nat} {l : List SC} {cs : Array Value} (hl : FA2 (RepC b) l cs.toList) {off : Nat} {r : SV} (g : partS d l off = some r) (w : World) :
    ∃ v, (part t cs off).run P w = .ok v w ∧ RepV b r v := by
  unfold partS at g
  unfold part
  simp only [Sem.run_bind, h.agg_run w, Result.andThen_ok]
  cases ha : isAggD d.td
  · rw [ha] at g
    simp only [cond_false, nthL_eq] at g
    cases hc : l[off]? with
    | none => rw [hc] at g; cases g
    | some c =>
      rw [hc] at g; cases g
      obtain ⟨v, hv, hr⟩ := fa2_get hl off c hc
      rw [Array.getElem?_toList] at hv
      exact ⟨v, by simp [hv], hr⟩
  · rw [ha] at g
    simp only [cond_true] at g
    cases hc : cutL off d.size l with
    | none => rw [hc] at g; cases g
    | some m =>
      rw [hc] at g; cases g
      obtain ⟨rfl, h2⟩ := cutL_some hc
      refine ⟨.agg (cs.extract off (off + d.size)), by simp [h.size_run w], _, rfl, ?_⟩
      rw [arr_extract, Nat.add_sub_cancel_left]
      exact fa2_take _ (fa2_drop _ hl)


theorem kindEq_iff {k l : IntKind} (h : kindEq k l = true) : k = l := by cases k <;> cases l <;> first | rfl | (simp [kindEq] at h)
theorem lt_not (a b : SI) : (notB (leB b a)).val = decide (a.val < b.val) := by rw [notB_val, leB_val, ← decide_not]; congr 1; simp
theorem intBin_run [Sh] {op : BinOp} {k : IntKind} {a b : SI} {r : LC} (h : intBin op k a b = some r) (t : Nat) (w : World) (β : Nat → Option Nat) :
    ∃ v, (binOp op t (.int k a.val) (.int k b.val)).run P w = .ok v w ∧ RepL β r v := by
  unfold intBin at h
  split at h
  · cases h; exact ⟨.int k (k.wrap (a.val + b.val)), by simp [binOp, Op.intArith], by simp only [RepL, addS_val]⟩
  · cases h; exact ⟨.int k (k.wrap (a.val - b.val)), by simp [binOp, Op.intArith], by simp only [RepL, subS_val]⟩
  · cases h; exact ⟨.int k (k.wrap (a.val * b.val)), by simp [binOp, Op.intArith], by simp only [RepL, mulS_val]⟩
  · cases g : quoS k a b with
    | none => rw [g] at h; cases h
    | some r' =>
      rw [g] at h; cases h
      obtain ⟨h1, h2⟩ := quoS_val g
      exact ⟨.int k (k.wrap (a.val.tdiv b.val)), by simp [binOp, Op.intDiv, h1], by simp [RepL, h2]⟩
  · cases g : remS a b with
    | none => rw [g] at h; cases h
    | some r' =>
      rw [g] at h; cases h
      obtain ⟨h1, h2⟩ := remS_val g
      exact ⟨.int k (a.val.tmod b.val), by simp [binOp, Op.intDiv, h1], by simp [RepL, h2]⟩
  · cases h; exact ⟨.int k (bitF .and k a.val b.val), by simp [binOp, Op.intBits, bitF], by simp only [RepL, andS_val]⟩
  · cases h; exact ⟨.int k (bitF .or k a.val b.val), by simp [binOp, Op.intBits, bitF], by simp only [RepL, orS_val]⟩
  · cases h; exact ⟨.int k (bitF .xor k a.val b.val), by simp [binOp, Op.intBits, bitF], by simp only [RepL, orS_val]⟩
  · cases h; exact ⟨.int k (bitF .andNot k a.val b.val), by simp [binOp, Op.intBits, bitF], by simp only [RepL, andNotS_val]⟩
  · cases h; exact ⟨.bool (a.val == b.val), by simp [binOp, Op.intCmp], by simp only [RepL, eqB_val]; congr 1⟩
  · cases h; exact ⟨.bool (a.val != b.val), by simp [binOp, Op.intCmp], by simp only [RepL, notB_val, eqB_val]; congr 1⟩
  · cases h; exact ⟨.bool (a.val ≤ b.val), by simp [binOp, Op.intCmp], by simp only [RepL, leB_val]⟩
  · cases h; exact ⟨.bool (a.val ≥ b.val), by simp [binOp, Op.intCmp], by simp only [RepL, leB_val]⟩
  · cases h; exact ⟨.bool (a.val < b.val), by simp [binOp, Op.intCmp], by simp only [RepL, lt_not]⟩
  · cases h; exact ⟨.bool (a.val > b.val), by simp [binOp, Op.intCmp], by simp only [RepL, lt_not]⟩
  · cases h

/-- one of two -/
theorem mgL_l [Sh] {p : Bool} {a b c : LC} {β : Nat → Option Nat} (h : mgL p a b = some c) : (p = true → ∀ v, RepL β a v → RepL β c v) ∧ (p = false → ∀ v, RepL β b v → RepL β c v) := by
  unfold mgL at h
  split at h
  · rename_i k x k' y
    cases g : kindEq k k'
    · rw [g] at h; cases h
    · rw [g] at h; cases h
      obtain rfl := kindEq_iff g
      refine ⟨fun e v hv => ?_, fun e v hv => ?_⟩ <;> subst e <;> simp only [RepL, iteS_val, cond_true, cond_false] at hv ⊢ <;> exact hv
  · cases h
    refine ⟨fun e v hv => ?_, fun e v hv => ?_⟩ <;> subst e <;> simp only [RepL, iteB_val, cond_true, cond_false] at hv ⊢ <;> exact hv
  · cases h; exact ⟨fun _ _ hv => hv, fun _ _ hv => hv⟩
  · cases h; exact ⟨fun _ _ hv => hv, fun _ _ hv => hv⟩
  · rename_i i o j q
    cases g : (Nat.beq i j && Nat.beq o q)
    · rw [g] at h; cases h
    · rw [g] at h; cases h
      simp only [Bool.and_eq_true, beq_iff] at g
      obtain ⟨rfl, rfl⟩ := g
      exact ⟨fun _ _ hv => hv, fun _ _ hv => hv⟩
  · rename_i i o n c' j q m d
    cases g : ((Nat.beq i j && Nat.beq o q) && (Nat.beq n m && optEq c' d))
    · rw [g] at h; cases h
    · rw [g] at h; cases h
      simp only [Bool.and_eq_true, beq_iff] at g
      obtain ⟨⟨rfl, rfl⟩, rfl, g⟩ := g
      have e : c' = d := by
        cases c' <;> cases d <;> simp [optEq] at g ⊢ <;> exact g
      subst e
      exact ⟨fun _ _ hv => hv, fun _ _ hv => hv⟩
  · rename_i i n j m
    cases g : (Nat.beq i j && Nat.beq n m)
    · rw [g] at h; cases h
    · rw [g] at h; cases h
      simp only [Bool.and_eq_true, beq_iff] at g
      obtain ⟨rfl, rfl⟩ := g
      exact ⟨fun _ _ hv => hv, fun _ _ hv => hv⟩
  · cases h
theorem mgC_l [Sh] {p : Bool} {a b c : SC} {β : Nat → Option Nat} (h : mgC p a b = some c) : (p = true → ∀ v, RepC β a v → RepC β c v) ∧ (p = false → ∀ v, RepC β b v → RepC β c v) := by
  unfold mgC at h
  split at h
  · rename_i x y
    cases g : mgL p x y with
    | none => rw [g] at h; cases h
    | some z => rw [g] at h; cases h; exact mgL_l g
  · cases h
theorem mgCs_l [Sh] {p : Bool} {β : Nat → Option Nat} : ∀ {a b c : List SC}, mgCs p a b = some c → (p = true → ∀ v, FA2 (RepC β) a v → FA2 (RepC β) c v) ∧ (p = false → ∀ v, FA2 (RepC β) b v → FA2 (RepC β) c v)
  | [], [], c, h => by simp [mgCs] at h; subst h; exact ⟨fun _ _ hv => hv, fun _ _ hv => hv⟩
  | a :: r, b :: s, c, h => by
    simp only [mgCs] at h
    cases g : mgC p a b with
    | none => rw [g] at h; cases h
    | some x =>
      rw [g] at h
      cases k : mgCs p r s with
      | none => rw [k] at h; cases h
      | some l =>
        rw [k] at h; cases h
        have h1 := mgC_l (β := β) g
        have h2 := mgCs_l (β := β) k
        refine ⟨fun e v hv => ?_, fun e v hv => ?_⟩
        · cases hv with | cons x y => exact .cons (h1.1 e _ x) (h2.1 e _ y)
        · cases hv with | cons x y => exact .cons (h1.2 e _ x) (h2.2 e _ y)
  | [], _ :: _, c, h => by simp [mgCs] at h
  | _ :: _, [], c, h => by simp [mgCs] at h
theorem mgV_l [Sh] {p : Bool} {a b c : SV} {β : Nat → Option Nat} (h : mgV p a b = some c) : (p = true → ∀ v, RepV β a v → RepV β c v) ∧ (p = false → ∀ v, RepV β b v → RepV β c v) := by
  unfold mgV at h
  split at h
  · rename_i x y
    cases g : mgC p x y with
    | none => rw [g] at h; cases h
    | some z => rw [g] at h; cases h; exact mgC_l g
  · rename_i x y
    cases g : mgCs p x y with
    | none => rw [g] at h; cases h
    | some z =>
      rw [g] at h; cases h
      have h1 := mgCs_l (β := β) g
      exact ⟨fun e v ⟨cs, hc, hv⟩ => ⟨cs, hc, h1.1 e _ hv⟩, fun e v ⟨cs, hc, hv⟩ => ⟨cs, hc, h1.2 e _ hv⟩⟩
  · cases h
theorem mgVs_l [Sh] {p : Bool} {β : Nat → Option Nat} : ∀ {a b c : List SV}, mgVs p a b = some c → (p = true → ∀ v, FA2 (RepV β) a v → FA2 (RepV β) c v) ∧ (p = false → ∀ v, FA2 (RepV β) b v → FA2 (RepV β) c v)
  | [], [], c, h => by simp [mgVs] at h; subst h; exact ⟨fun _ _ hv => hv, fun _ _ hv => hv⟩
  | a :: r, b :: s, c, h => by
    simp only [mgVs] at h
    cases g : mgV p a b with
    | none => rw [g] at h; cases h
    | some x =>
      rw [g] at h
      cases k : mgVs p r s with
      | none => rw [k] at h; cases h
      | some l =>
        rw [k] at h; cases h
        have h1 := mgV_l (β := β) g
        have h2 := mgVs_l (β := β) k
        refine ⟨fun e v hv => ?_, fun e v hv => ?_⟩
        · cases hv with | cons x y => exact .cons (h1.1 e _ x) (h2.1 e _ y)
        · cases hv with | cons x y => exact .cons (h1.2 e _ x) (h2.2 e _ y)
  | [], _ :: _, c, h => by simp [mgVs] at h
  | _ :: _, [], c, h => by simp [mgVs] at h
theorem mgT_l [Sh] {p : Bool} {a b c : ST} {β : Nat → Option Nat} (h : mgT p a b = some c) : (p = true → ∀ v, RepT β a v → RepT β c v) ∧ (p = false → ∀ v, RepT β b v → RepT β c v) := by
  unfold mgT at h
  split at h
  · rename_i x y
    cases g : mgV p x y with
    | none => rw [g] at h; cases h
    | some z => rw [g] at h; cases h; exact mgV_l g
  · rename_i x y
    cases g : mgVs p x y with
    | none => rw [g] at h; cases h
    | some z =>
      rw [g] at h; cases h
      have h1 := mgVs_l (β := β) g
      exact ⟨fun e v ⟨cs, hc, hv⟩ => ⟨cs, hc, h1.1 e _ hv⟩, fun e v ⟨cs, hc, hv⟩ => ⟨cs, hc, h1.2 e _ hv⟩⟩
  · cases h
theorem RepT.boolv [Sh] {β : Nat → Option Nat} {x : SB} {v : Value} (h : RepT β (.v (.c (.lf (.bool x)))) v) : v = .bool x.val := h
theorem RepT.intv [Sh] {β : Nat → Option Nat} {k : IntKind} {x : SI} {v : Value} (h : RepT β (.v (.c (.lf (.int k x)))) v) : v = .int k x.val := h
theorem pickS_rep [Sh] {c a b r : ST} {β : Nat → Option Nat} (h : pickS c a b = some r) {vc va vb : Value} (hc : RepT β c vc) (ha : RepT β a va) (hb : RepT β b vb) : ∃ t, vc = .bool t ∧ RepT β r (if t then va else vb) := by
  unfold pickS at h
  split at h
  · cases h; exact ⟨true, hc, ha⟩
  · cases h; exact ⟨false, hc, hb⟩
  · rename_i p
    refine ⟨p, hc, ?_⟩
    cases p
    · exact (mgT_l h).2 rfl _ hb
    · exact (mgT_l h).1 rfl _ ha
  · cases h

theorem RepL.nilsv [Sh] {β : Nat → Option Nat} {v : Value} (h : RepL β .nils v) : v = .slice none 0 0 := h
theorem RepL.slv [Sh] {β : Nat → Option Nat} {id off len : Nat} {cap : Option Nat} {v : Value} (h : RepL β (.sl id off len cap) v) : ∃ n c, β id = some n ∧ v = .slice (some ⟨n, Sh.sh id + off, none⟩) len c ∧ len ≤ c ∧ (∀ k, cap = some k → c = k) := by
  cases cap with
  | none => obtain ⟨n, c, e, r, l⟩ := h; exact ⟨n, c, e, r, l, fun _ g => by cases g⟩
  | some k => obtain ⟨n, e, r, l⟩ := h; exact ⟨n, k, e, r, l, fun _ g => by cases g; rfl⟩
theorem TysOK.slice [Sh] {ty : Tr TyD} (h : TysOK P ty) {t el s b : Nat} {z : List SC} (g : ty.get t = some ⟨.slice el, s, b, z⟩) : P.underlying t = some (.slice el) := by
  obtain ⟨desc, h1, h2⟩ := (h t _ g).und
  cases desc <;> simp [tdOK] at h2
  subst h2; exact h1
theorem TysOK.str [Sh] {ty : Tr TyD} (h : TysOK P ty) {t s b : Nat} {z : List SC} (g : ty.get t = some ⟨.str, s, b, z⟩) : P.underlying t = some .string := by
  obtain ⟨desc, h1, h2⟩ := (h t _ g).und
  cases desc <;> simp [tdOK] at h2
  exact h1
theorem nilBin_run [Sh] {e : Env} (he : TysOK P e.ty) {op : BinOp} {t : Nat} {a b r : LC} (h : nilBin e op t a b = some r) {β : Nat → Option Nat} {u v : Value} (ha : RepL β a u) (hb : RepL β b v) (w : World) :
    (∃ x n c y, u = .slice x n c ∧ v = .slice none 0 0 ∧ y = x) ∧ ∃ z, (binOp op t u v).run P w = .ok z w ∧ RepL β r z := by
  unfold nilBin at h
  split at h
  · rename_i g
    cases h
    obtain rfl := ha.nilsv; obtain rfl := hb.nilsv
    exact ⟨⟨_, _, _, _, rfl, rfl, rfl⟩, _, Lib.run_eql_slice_nil w _ _ _ _ _ _ _ (he.slice g), rfl⟩
  · rename_i g
    cases h
    obtain ⟨n, c, _, rfl, _⟩ := ha.slv; obtain rfl := hb.nilsv
    exact ⟨⟨_, _, _, _, rfl, rfl, rfl⟩, _, Lib.run_eql_slice_nil w _ _ _ _ _ _ _ (he.slice g), rfl⟩
  · rename_i g
    cases h
    obtain rfl := ha.nilsv; obtain rfl := hb.nilsv
    exact ⟨⟨_, _, _, _, rfl, rfl, rfl⟩, _, run_neq_slice_nil_any w _ _ _ _ _ _ _ (he.slice g), rfl⟩
  · rename_i g
    cases h
    obtain ⟨n, c, _, rfl, _⟩ := ha.slv; obtain rfl := hb.nilsv
    exact ⟨⟨_, _, _, _, rfl, rfl, rfl⟩, _, run_neq_slice_nil_any w _ _ _ _ _ _ _ (he.slice g), rfl⟩
  · cases h
end Go.Proofs.YtpkclnkibhgpkaaGreat.Sx
