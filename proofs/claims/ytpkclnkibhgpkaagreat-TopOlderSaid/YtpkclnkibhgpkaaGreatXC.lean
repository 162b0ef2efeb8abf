/-
What a told value stands for, and that the laws of maps and lists hold for those of the run. Its conditions: none.
-/
import Derived.Test.YtpkclnkibhgpkaaGreatXB
namespace Go.Proofs.YtpkclnkibhgpkaaGreat.Sx
open Go

theorem get_zero {α : Type} (v : Option α) (l r : Tr α) : (Tr.node v l r).get 0 = v := rfl
theorem get_succ {α : Type} (v : Option α) (l r : Tr α) (k : Nat) : (Tr.node v l r).get (k + 1) = bif Nat.beq (k % 2) 0 then l.get (k / 2) else r.get (k / 2) := rfl
theorem get_nil {α : Type} (k : Nat) : (Tr.nil : Tr α).get k = none := rfl
theorem get_parts {α : Type} (t : Tr α) (k : Nat) : t.get k = (Tr.node t.root t.lft t.rgt).get k := by
  cases t with
  | nil =>
    cases k with
    | zero => rfl
    | succ k => rw [get_nil, get_succ]; cases Nat.beq (k % 2) 0 <;> rfl
  | node v l r => rfl
theorem setF_zero {α : Type} (f : Nat) (t : Tr α) (a : Option α) : Tr.setF (f + 1) t 0 a = .node a t.lft t.rgt := rfl
theorem setF_succ {α : Type} (f : Nat) (t : Tr α) (k : Nat) (a : Option α) : Tr.setF (f + 1) t (k + 1) a =
    bif Nat.beq (k % 2) 0 then .node t.root (Tr.setF f t.lft (k / 2) a) t.rgt else .node t.root t.lft (Tr.setF f t.rgt (k / 2) a) := rfl
theorem beq_iff {a b : Nat} : Nat.beq a b = true ↔ a = b := by rw [Nat.beq_eq]
theorem get_setF {α : Type} : ∀ (f k : Nat), k < f → ∀ (t : Tr α) (a : Option α) (j : Nat), (Tr.setF f t k a).get j = if j = k then a else t.get j
  | 0, k, h => by omega
  | f + 1, 0, _ => by
    intro t a j
    rw [setF_zero, get_parts t j]
    cases j with
    | zero => simp [get_zero]
    | succ j => simp [get_succ]
  | f + 1, k + 1, h => by
    intro t a j
    have ih := get_setF (α := α) f (k / 2) (by omega)
    rw [setF_succ, get_parts t j]
    cases j with
    | zero =>
      cases Nat.beq (k % 2) 0 <;> simp [get_zero]
    | succ j =>
      cases hk : Nat.beq (k % 2) 0 <;> cases hj : Nat.beq (j % 2) 0
      · have e1 : k % 2 ≠ 0 := fun g => by rw [beq_iff.2 g] at hk; cases hk
        have e2 : j % 2 ≠ 0 := fun g => by rw [beq_iff.2 g] at hj; cases hj
        simp only [cond_false, get_succ, hj, ih]
        by_cases e : j = k
        · subst e; simp
        · rw [if_neg (by omega), if_neg (by omega)]
      · have e1 : k % 2 ≠ 0 := fun g => by rw [beq_iff.2 g] at hk; cases hk
        rw [beq_iff] at hj
        simp only [cond_false, get_succ, hj]
        rw [if_neg (by omega)]; rfl
      · have e2 : j % 2 ≠ 0 := fun g => by rw [beq_iff.2 g] at hj; cases hj
        rw [beq_iff] at hk
        simp only [cond_true, get_succ, hj]
        rw [if_neg (by omega)]; rfl
      · rw [beq_iff] at hk hj
        have hz : Nat.beq 0 0 = true := rfl
        simp only [cond_true, get_succ, hj, hz, ih]
        by_cases e : j = k
        · subst e; simp
        · rw [if_neg (by omega), if_neg (by omega)]
theorem get_set {α : Type} (t : Tr α) (k : Nat) (a : Option α) (j : Nat) : (t.set k a).get j = if j = k then a else t.get j := get_setF _ _ (by simp) _ _ _

/-- two lists, place by place -/
inductive FA2 {α β : Type} (R : α → β → Prop) : List α → List β → Prop
  | nil : FA2 R [] []
  | cons {a : α} {b : β} {l : List α} {m : List β} : R a b → FA2 R l m → FA2 R (a :: l) (b :: m)
/-- how a numbering of blocks grows -/
def Ext (b c : Nat → Option Nat) : Prop := ∀ i n, b i = some n → c i = some n
theorem Ext.refl (b : Nat → Option Nat) : Ext b b := fun _ _ h => h
theorem Ext.trans {a b c : Nat → Option Nat} (h : Ext a b) (g : Ext b c) : Ext a c := fun i n e => g i n (h i n e)

/-- where the places of a block are told from -/
class Sh where
  sh : Nat → Nat
def RepL [Sh] (b : Nat → Option Nat) : LC → Value → Prop
  | .int k x, v => v = .int k x.val
  | .bool x, v => v = .bool x.val
  | .ptr id off, v => ∃ n, b id = some n ∧ v = .pointer (some ⟨n, Sh.sh id + off, none⟩)
  | .sptr id off m n i, v => inB i n = true ∧ ∃ q, b id = some q ∧ v = .pointer (some ⟨q, Sh.sh id + (off + i.val.toNat * m), none⟩)
  | .nilp, v => v = .pointer none
  | .sl id off len (some c), v => ∃ n, b id = some n ∧ v = .slice (some ⟨n, Sh.sh id + off, none⟩) len c ∧ len ≤ c
  | .sl id off len none, v => ∃ n c, b id = some n ∧ v = .slice (some ⟨n, Sh.sh id + off, none⟩) len c ∧ len ≤ c
  | .own id len, v => ∃ n c, b id = some n ∧ b (id + 1) = some c ∧ v = .slice (some ⟨n, Sh.sh id + 0, none⟩) len c ∧ len ≤ c
  | .nils, v => v = .slice none 0 0
  | .val x, v => v = x ∧ v.oneCell' = true
theorem asL_rep [Sh] {b : Nat → Option Nat} {x : LC} {v : Value} (h : RepL b x v) : RepL b (asL x) v := by
  cases x with
  | own id len => obtain ⟨n, c, e, _, r⟩ := h; exact ⟨n, c, e, r⟩
  | _ => exact h
/-- values of many cells, of a list -/
def RepLs [Sh] (b : Nat → Option Nat) (l : List LC) (vs : List Value) : Prop := FA2 (RepL b) l vs
def RepF [Sh] (b : Nat → Option Nat) : Bool × List LC → Value → Prop
  | (true, l), v => ∃ cs : Array Value, v = .agg cs ∧ RepLs b l cs.toList
  | (false, l), v => ∃ x, l = [x] ∧ RepL b x v
def RepC [Sh] (b : Nat → Option Nat) : SC → Value → Prop
  | .lf x, v => RepL b x v
  | .fn f fs cs, v => ∃ ws us : Array Value, v = .func (.func f) ws us ∧ FA2 (RepF b) fs ws.toList ∧ RepLs b cs us.toList
def RepV [Sh] (b : Nat → Option Nat) : SV → Value → Prop
  | .c x, v => RepC b x v
  | .agg l, v => ∃ cs : Array Value, v = .agg cs ∧ FA2 (RepC b) l cs.toList
def RepT [Sh] (b : Nat → Option Nat) : ST → Value → Prop
  | .v x, v => RepV b x v
  | .tup l, v => ∃ vs : Array Value, v = .tuple vs ∧ FA2 (RepV b) l vs.toList

theorem asS_rep [Sh] {b : Nat → Option Nat} {x : ST} {v : Value} (h : RepT b x v) : RepT b (asS x) v := by
  cases x with
  | tup l => exact h
  | v x =>
    cases x with
    | agg l => exact h
    | c x =>
      cases x with
      | lf x => exact asL_rep h
      | fn f a c => exact h
theorem fa2_mono {α β : Type} {R S : α → β → Prop} (h : ∀ a b, R a b → S a b) : ∀ {l : List α} {m : List β}, FA2 R l m → FA2 S l m
  | _, _, .nil => .nil
  | _, _, .cons a r => .cons (h _ _ a) (fa2_mono h r)
theorem RepL.mono [Sh] {b c : Nat → Option Nat} (h : Ext b c) {x : LC} {v : Value} (g : RepL b x v) : RepL c x v := by
  cases x with
  | ptr id off => obtain ⟨n, e, r⟩ := g; exact ⟨n, h _ _ e, r⟩
  | sptr id off m n i => obtain ⟨g, q, e, r⟩ := g; exact ⟨g, q, h _ _ e, r⟩
  | sl id off len cap =>
    cases cap with
    | none => obtain ⟨n, k, e, r⟩ := g; exact ⟨n, k, h _ _ e, r⟩
    | some k => obtain ⟨n, e, r⟩ := g; exact ⟨n, h _ _ e, r⟩
  | own id len => obtain ⟨n, k, e, e2, r⟩ := g; exact ⟨n, k, h _ _ e, h _ _ e2, r⟩
  | _ => exact g
theorem RepF.mono [Sh] {b c : Nat → Option Nat} (h : Ext b c) {x : Bool × List LC} {v : Value} (g : RepF b x v) : RepF c x v := by
  obtain ⟨t, l⟩ := x
  cases t with
  | true => obtain ⟨cs, e, r⟩ := g; exact ⟨cs, e, fa2_mono (fun _ _ => RepL.mono h) r⟩
  | false => obtain ⟨y, e, r⟩ := g; exact ⟨y, e, r.mono h⟩
theorem RepC.mono [Sh] {b c : Nat → Option Nat} (h : Ext b c) {x : SC} {v : Value} (g : RepC b x v) : RepC c x v := by
  cases x with
  | lf x => exact RepL.mono h g
  | fn f fs cs => obtain ⟨ws, us, e, r, s⟩ := g; exact ⟨ws, us, e, fa2_mono (fun _ _ => RepF.mono h) r, fa2_mono (fun _ _ => RepL.mono h) s⟩
theorem RepV.mono [Sh] {b c : Nat → Option Nat} (h : Ext b c) {x : SV} {v : Value} (g : RepV b x v) : RepV c x v := by
  cases x with
  | c x => exact RepC.mono h g
  | agg l => obtain ⟨cs, e, r⟩ := g; exact ⟨cs, e, fa2_mono (fun _ _ => RepC.mono h) r⟩
theorem RepT.mono [Sh] {b c : Nat → Option Nat} (h : Ext b c) {x : ST} {v : Value} (g : RepT b x v) : RepT c x v := by
  cases x with
  | v x => exact RepV.mono h g
  | tup l => obtain ⟨cs, e, r⟩ := g; exact ⟨cs, e, fa2_mono (fun _ _ => RepV.mono h) r⟩

theorem RepL.one [Sh] {b : Nat → Option Nat} {x : LC} {v : Value} (g : RepL b x v) : v.oneCell' = true := by
  cases x with
  | ptr id off => obtain ⟨n, e, rfl⟩ := g; rfl
  | sptr id off m n i => obtain ⟨g, q, e, rfl⟩ := g; rfl
  | sl id off len cap =>
    cases cap with
    | none => obtain ⟨n, k, e, rfl, _⟩ := g; rfl
    | some k => obtain ⟨n, e, rfl, _⟩ := g; rfl
  | own id len => obtain ⟨n, k, e, e2, rfl, _⟩ := g; rfl
  | val x => exact g.2
  | _ => simp only [RepL] at g; subst g; rfl
theorem RepC.one [Sh] {b : Nat → Option Nat} {x : SC} {v : Value} (g : RepC b x v) : v.oneCell' = true := by
  cases x with
  | lf x => exact RepL.one g
  | fn f fs cs => obtain ⟨ws, us, rfl, r, s⟩ := g; rfl
theorem RepC.cells [Sh] {b : Nat → Option Nat} {x : SC} {v : Value} (g : RepC b x v) : v.cells = #[v] := by
  have := g.one
  cases v <;> first | rfl | (simp [Value.oneCell'] at this)
theorem RepV.cells [Sh] {b : Nat → Option Nat} {x : SV} {v : Value} (g : RepV b x v) : FA2 (RepC b) (svCells x) v.cells.toList := by
  cases x with
  | c x => rw [RepC.cells g]; exact .cons g .nil
  | agg l => obtain ⟨cs, rfl, r⟩ := g; exact r

/-- lists -/
theorem lenL_eq {α : Type} (l : List α) : lenL l = l.length := by induction l with | nil => rfl | cons a r ih => simp [lenL, ih]
theorem nthL_eq {α : Type} (l : List α) : ∀ n, nthL l n = l[n]? := by
  induction l with
  | nil => intro n; simp [nthL]
  | cons a r ih => intro n; cases n with | zero => rfl | succ n => simp [nthL, ih]
theorem takeL_eq {α : Type} : ∀ (n : Nat) (l : List α), takeL n l = l.take n
  | 0, l => by simp [takeL]
  | n + 1, [] => by simp [takeL]
  | n + 1, a :: r => by simp [takeL, takeL_eq n r]
theorem dropL_eq {α : Type} : ∀ (n : Nat) (l : List α), dropL n l = l.drop n
  | 0, l => by cases l <;> rfl
  | n + 1, [] => by simp [dropL]
  | n + 1, a :: r => by simp [dropL, dropL_eq n r]
theorem cutL_some {α : Type} {off n : Nat} {l m : List α} (h : cutL off n l = some m) : m = (l.drop off).take n ∧ m.length = n := by
  unfold cutL at h
  simp only [takeL_eq, dropL_eq, lenL_eq] at h
  cases g : Nat.beq ((l.drop off).take n).length n
  · rw [g] at h; cases h
  · rw [g] at h; cases h; exact ⟨rfl, beq_iff.1 g⟩
theorem layL_some {α : Type} : ∀ (off : Nat) (l m r : List α), layL off l m = some r → r.length = l.length ∧ (m = [] ∨ off + m.length ≤ l.length) ∧ ∀ j : Nat, r[j]? = if off ≤ j ∧ j < off + m.length then m[j - off]? else l[j]?
  | off, l, [], r, h => by
    have : l = r := by cases off <;> cases l <;> simp [layL] at h <;> first | exact h | exact h.symm
    subst this
    refine ⟨rfl, .inl rfl, fun j => ?_⟩
    rw [if_neg (by simp <;> omega)]
  | 0, a :: l, b :: m, r, h => by
    simp only [layL] at h
    cases g : layL 0 l m with
    | none => rw [g] at h; cases h
    | some x =>
      rw [g] at h; cases h
      obtain ⟨h1, h2, h3⟩ := layL_some 0 l m x g
      refine ⟨by simp [h1], .inr (by rcases h2 with h2 | h2 <;> simp_all), fun j => ?_⟩
      cases j with
      | zero => simp
      | succ j =>
        have := h3 j
        simp only [Nat.zero_le, Nat.zero_add, true_and, Nat.sub_zero, List.length_cons, List.getElem?_cons_succ] at this ⊢
        rw [this]
        by_cases hj : j < m.length
        · rw [if_pos hj, if_pos (by omega)]
        · rw [if_neg hj, if_neg (by omega)]
  | n + 1, a :: l, b :: m, r, h => by
    simp only [layL] at h
    cases g : layL n l (b :: m) with
    | none => rw [g] at h; cases h
    | some x =>
      rw [g] at h; cases h
      obtain ⟨h1, h2, h3⟩ := layL_some n l (b :: m) x g
      refine ⟨by simp [h1], .inr (by rcases h2 with h2 | h2 <;> simp_all <;> omega), fun j => ?_⟩
      cases j with
      | zero => simp
      | succ j =>
        have := h3 j
        simp only [List.getElem?_cons_succ]
        rw [this]
        by_cases hj : n ≤ j ∧ j < n + (b :: m).length
        · rw [if_pos hj, if_pos (by omega)]; congr 1; omega
        · rw [if_neg hj, if_neg (by omega)]
  | 0, [], b :: m, r, h => by simp [layL] at h
  | n + 1, [], b :: m, r, h => by simp [layL] at h
theorem fa2_get {α β : Type} {R : α → β → Prop} : ∀ {l : List α} {m : List β}, FA2 R l m → ∀ (n : Nat) (a : α), l[n]? = some a → ∃ b, m[n]? = some b ∧ R a b
  | _, _, .nil, n, a, h => by simp at h
  | _, _, .cons x r, 0, a, h => by simp at h; subst h; exact ⟨_, rfl, x⟩
  | _, _, .cons x r, n + 1, a, h => by simp at h; exact fa2_get r n a h
theorem fa2_len {α β : Type} {R : α → β → Prop} : ∀ {l : List α} {m : List β}, FA2 R l m → l.length = m.length
  | _, _, .nil => rfl
  | _, _, .cons x r => by simp [fa2_len r]
theorem fa2_mk {α β : Type} {R : α → β → Prop} : ∀ {l : List α} {m : List β}, l.length = m.length → (∀ (n : Nat) (a : α) (b : β), l[n]? = some a → m[n]? = some b → R a b) → FA2 R l m
  | [], [], _, _ => .nil
  | [], _ :: _, h, _ => by simp at h
  | _ :: _, [], h, _ => by simp at h
  | a :: l, b :: m, h, g => .cons (g 0 a b rfl rfl) (fa2_mk (by simpa using h) fun n x y h1 h2 => g (n + 1) x y (by simpa using h1) (by simpa using h2))
theorem fa2_take {α β : Type} {R : α → β → Prop} : ∀ (n : Nat) {l : List α} {m : List β}, FA2 R l m → FA2 R (l.take n) (m.take n)
  | 0, _, _, _ => .nil
  | _ + 1, _, _, .nil => .nil
  | n + 1, _, _, .cons x r => .cons x (fa2_take n r)
theorem fa2_drop {α β : Type} {R : α → β → Prop} : ∀ (n : Nat) {l : List α} {m : List β}, FA2 R l m → FA2 R (l.drop n) (m.drop n)
  | 0, _, _, h => h
  | _ + 1, _, _, .nil => .nil
  | n + 1, _, _, .cons _ r => fa2_drop n r
theorem fa2_append {α β : Type} {R : α → β → Prop} : ∀ {l : List α} {m : List β} {l' : List α} {m' : List β}, FA2 R l m → FA2 R l' m' → FA2 R (l ++ l') (m ++ m')
  | _, _, _, _, .nil, h => h
  | _, _, _, _, .cons x r, h => .cons x (fa2_append r h)
theorem mapO_some {α β : Type} {f : α → Option β} : ∀ {l : List α} {m : List β}, mapO f l = some m → FA2 (fun a b => f a = some b) l m
  | [], m, h => by simp [mapO] at h; subst h; exact .nil
  | a :: r, m, h => by
    simp only [mapO] at h
    cases g : f a with
    | none => rw [g] at h; cases h
    | some b =>
      rw [g] at h
      cases k : mapO f r with
      | none => rw [k] at h; cases h
      | some l => rw [k] at h; cases h; exact .cons g (mapO_some k)
theorem fa2_flip {α β : Type} {R : α → β → Prop} : ∀ {l : List α} {m : List β}, FA2 R l m → FA2 (fun b a => R a b) m l
  | _, _, .nil => .nil
  | _, _, .cons x r => .cons x (fa2_flip r)
theorem ofCell_rep [Sh] {v : Value} {c : SC} (h : ofCell v = some c) (b : Nat → Option Nat) : RepC b c v := by
  unfold ofCell at h
  split at h <;> cases h <;> first | rfl | exact ⟨rfl, rfl⟩
theorem ofVal_rep [Sh] {v : Value} {x : ST} (h : ofVal v = some x) (b : Nat → Option Nat) : RepT b x v := by
  unfold ofVal at h
  split at h
  · rename_i cs
    cases g : mapO ofCell cs.toList with
    | none => rw [g] at h; cases h
    | some l => rw [g] at h; cases h; exact ⟨cs, rfl, fa2_flip (fa2_mono (fun _ _ e => ofCell_rep e b) (mapO_some g))⟩
  · cases g : ofCell v with
    | none => rw [g] at h; cases h
    | some c => rw [g] at h; cases h; exact ofCell_rep g b
/-- the slots of a frame -/
def TmOK [Sh] (b : Nat → Option Nat) (tm : Tr ST) (tmps : Array Value) : Prop := ∀ t x, tm.get t = some x → t < tmps.size ∧ RepT b x (tmps.getD t undef)
theorem evO_rep [Sh] {b : Nat → Option Nat} {tm : Tr ST} {a : Act} (h : TmOK b tm a.tmps) {x : Operand} {v : ST} (g : evO tm x = some v) : RepT b v (a.eval x) := by
  cases x with
  | tmp t => exact (h t v g).2
  | const c => exact ofVal_rep g b
  | func f => simp only [evO, Option.some.injEq] at g; subst g; exact ⟨#[], #[], rfl, .nil, .nil⟩
  | global n => cases g
end Go.Proofs.YtpkclnkibhgpkaaGreat.Sx
