/-
A call does what the run tells of it, if the run of its body does. Its conditions: that the tables tell the program, and what is told of the functions that have a contract.
-/
import Derived.Test.YtpkclnkibhgpkaaGreatXP
namespace Go.Proofs.YtpkclnkibhgpkaaGreat.Sx
open Go Go.RowKit
variable {P : Program}

def SumOK [Sh] (P : Program) (sm : Nat → List ST → List (Nat × Blk) → Nat → Option (ST × List (Nat × Blk) × Nat)) : Prop :=
  ∀ n args hp nx v new nx', sm n args hp nx = some (v, new, nx') → ∀ (w : World) (b : Nat → Option Nat) (vals : Array Value), FA2 (RepT b) args vals.toList → HpOK b hp w → (∀ i j n, Live hp i → Live hp j → b i = some n → b j = some n → i = j) →
    (∀ i n, b i = some n → i < nx) → (∀ i n, Live hp i → b i = some n → n < w.heap.size) → (∀ i, nx ≤ i → Sh.sh i = 0) →
    (callFunc n vals).run P w = .ok (.enter n vals) w ∧ Calls P n vals w fun ex w' => ∃ c u, ex = .returned u ∧ RepT c v u ∧ ExtN nx b c ∧ HpOK c new w' ∧ (∀ i, Live new i → nx ≤ i) ∧ (∀ i j n, Live new i → Live new j → c i = some n → c j = some n → i = j) ∧
      (∀ i n, c i = some n → i < nx') ∧ (∀ i n, Live new i → c i = some n → w.heap.size ≤ n ∧ n < w'.heap.size) ∧ nx ≤ nx' ∧ Below w.heap.size w w'
structure EnvOK [Sh] (P : Program) (e : Env) : Prop where
  ty : TysOK P e.ty
  fn : ∀ n f, e.fn.get n = some f → P.funcs[n]? = some f ∧ ∀ args w, (callFunc n args).run P w = .ok (.enter n args) w
  sm : SumOK P e.sm
  mixed : P.follows .mixedOrders = true

theorem argSlots_get : ∀ (l : List ST) (i : Nat) (t : Tr ST) (k : Nat), (argSlots l i t).get k = if i ≤ k ∧ k < i + l.length then l[k - i]? else t.get k
  | [], i, t, k => by simp only [argSlots]; rw [if_neg (by simp <;> omega)]
  | x :: r, i, t, k => by
    simp only [argSlots]
    rw [argSlots_get r, get_set]
    simp only [List.length_cons, Nat.succ_eq_add_one]
    by_cases h1 : k = i
    · subst h1
      rw [if_neg (by omega), if_pos rfl, if_pos (by omega), Nat.sub_self]; rfl
    · by_cases h2 : i + 1 ≤ k ∧ k < i + 1 + r.length
      · rw [if_pos h2, if_pos (by omega), show k - i = k - (i + 1) + 1 by omega]; rfl
      · rw [if_neg h2, if_neg h1, if_neg (by omega)]
theorem args_tm [Sh] {b : Nat → Option Nat} {args : List ST} {vals : Array Value} (h : FA2 (RepT b) args vals.toList) (n : Nat) : TmOK b (argSlots args 0 .nil) (vals ++ Array.replicate (n - vals.size) undef) := by
  intro t x hx
  rw [argSlots_get] at hx
  have hl := fa2_len h
  simp only [Array.length_toList] at hl
  by_cases g : 0 ≤ t ∧ t < 0 + args.length
  · rw [if_pos g, Nat.sub_zero] at hx
    obtain ⟨v, hv, hr⟩ := fa2_get h t x hx
    have hlt : t < vals.size := by omega
    refine ⟨by simp; omega, ?_⟩
    rw [Array.getElem?_toList] at hv
    rw [Array.getD_eq_getD_getElem?, Array.getElem?_append_left hlt, hv]
    exact hr
  · rw [if_neg g] at hx; cases hx
theorem ofFirst_rep [Sh] {b : Nat → Option Nat} {x : Bool × List LC} {v : Value} (h : RepF b x v) : RepT b (ofFirst x) v := by
  obtain ⟨t, l⟩ := x
  cases t with
  | true =>
    obtain ⟨cs, rfl, h⟩ := h
    refine ⟨cs, rfl, ?_⟩
    have key : ∀ {l : List LC} {m : List Value}, FA2 (RepL b) l m → FA2 (RepC b) (l.map .lf) m := by
      intro l m h
      induction h with
      | nil => exact .nil
      | cons a _ ih => exact .cons a ih
    exact key h
  | false =>
    obtain ⟨y, rfl, h⟩ := h
    exact h
theorem fa2_map {α β γ : Type} {R : α → β → Prop} {S : γ → β → Prop} {f : α → γ} (h : ∀ a b, R a b → S (f a) b) : ∀ {l : List α} {m : List β}, FA2 R l m → FA2 S (l.map f) m
  | _, _, .nil => .nil
  | _, _, .cons a r => .cons (h _ _ a) (fa2_map h r)
theorem calleeS_run [Sh] {tm : Tr ST} {c : Call} {n : Nat} {args : List ST} (h : calleeS tm c = some (n, args)) {b : Nat → Option Nat} {a : Act} (ht : TmOK b tm a.tmps) (ty : Nat) (w : World) :
    ∃ vals : Array Value, FA2 (RepT b) args vals.toList ∧ (do let d ← resolve a.eval c ty; invoke d.target d.args : Sem Next).run P w = (callFunc n vals).run P w := by
  obtain ⟨callee, xs, ats⟩ := c
  unfold calleeS at h
  cases callee with
  | builtin b => cases h
  | invoke r m => cases h
  | value f =>
    simp only at h
    split at h
    · rename_i n' fs cs l q1 q2
      cases h
      obtain ⟨ws, us, hf, h1, h2⟩ := evO_rep ht q1
      have h3 := evL_rep ht q2
      refine ⟨ws ++ xs.map a.eval ++ us, ?_, ?_⟩
      · simp only [Array.toList_append, Array.toList_map]
        exact fa2_append (fa2_append (fa2_map (f := ofFirst) (fun _ _ => ofFirst_rep) h1) h3) (fa2_map (f := lfc) (fun _ _ q => q) h2)
      · simp only [resolve, hf, Deferred.ofValue]
        rw [bind_run (Sem.run_pure _ _ _)]
        rfl
    · cases h

theorem mapM_run {α β : Type} {f : α → Sem β} {w : World} : ∀ {l : List α} {r : List β}, FA2 (fun a b => (f a).run P w = .ok b w) l r → (l.mapM f).run P w = .ok r w
  | _, _, .nil => by simp
  | _, _, .cons h g => by
    rw [List.mapM_cons, bind_run h, bind_run (mapM_run g)]
    rfl
def resOf (tmps : Array Value) (r : ResultVar) : Sem Value :=
  match r with
  | .tmp t => pure (tmps.getD t undef)
  | .cell a t => do loadVar t (← asAddr (tmps.getD a undef))
theorem resultS_run [Sh] {e : Env} (he : TysOK P e.ty) {s : St} {r : ResultVar} {v : SV} (h : resultS e s r = some v) {w0 : World} {n0 : Base} {b : Nat → Option Nat} {a : Act} {w : World} (hc : Conc w0 n0 b s a w) :
    ∃ u, (resOf a.tmps r).run P w = .ok u w ∧ RepV b v u := by
  cases r with
  | tmp t =>
    simp only [resultS] at h
    split at h
    · rename_i x q
      cases h
      exact ⟨_, rfl, (hc.tm t _ q).2⟩
    · cases h
  | cell x t =>
    simp only [resultS] at h
    split at h
    · rename_i p q
      have hp := (hc.tm x _ q).2
      obtain ⟨u, hu, hr⟩ := loadS_run he h hc.hp hp
      refine ⟨u, ?_, hr⟩
      simp only [Instr.loadAt] at hu
      have hadr : ∃ ad, a.tmps.getD x undef = .pointer (some ad) := by
        unfold loadS at h
        split at h
        · obtain ⟨n, _, e⟩ := hp; exact ⟨_, e⟩
        · obtain ⟨_, n, _, e⟩ := hp; exact ⟨_, e⟩
        · cases h
      obtain ⟨ad, hadr⟩ := hadr
      rw [hadr] at hu
      simp only [resOf]
      rw [hadr]
      simp only [Instr.sureAddr] at hu
      rw [bind_run (Sem.run_pure _ _ _)] at hu
      simp only [asAddr]
      rw [bind_run (Sem.run_pure _ _ _)]
      exact hu
    · cases h
theorem resultsS_run [Sh] {e : Env} (he : TysOK P e.ty) {s : St} {fn : Func} {v : ST} (h : resultsS e s fn.results.toList = some v) {w0 : World} {n0 : Base} {b : Nat → Option Nat} {a : Act} {w : World} (hc : Conc w0 n0 b s a w) :
    ∃ u, (results fn a.tmps).run P w = .ok u w ∧ RepT b v u := by
  have key : ∀ {l : List ResultVar} {vs : List SV}, FA2 (fun r v => resultS e s r = some v) l vs → ∃ us : List Value, FA2 (RepV b) vs us ∧ FA2 (fun r u => (resOf a.tmps r).run P w = .ok u w) l us := by
    intro l vs hf
    induction hf with
    | nil => exact ⟨[], .nil, .nil⟩
    | cons x _ ih =>
      obtain ⟨us, h1, h2⟩ := ih
      obtain ⟨u, hu, hr⟩ := resultS_run he x hc
      exact ⟨u :: us, .cons hr h1, .cons hu h2⟩
  have run : ∀ {us : List Value}, FA2 (fun r u => (resOf a.tmps r).run P w = .ok u w) fn.results.toList us →
      (results fn a.tmps).run P w = .ok (if h : us.toArray.size = 1 then us.toArray[0] else .tuple us.toArray) w := by
    intro us hf
    show (fn.results.mapM (resOf a.tmps) >>= fun vs => (pure (if h : vs.size = 1 then vs[0] else .tuple vs) : Sem Value)).run P w = _
    have hm : (fn.results.mapM (resOf a.tmps)).run P w = .ok us.toArray w := by
      rw [Array.mapM_eq_mapM_toList, map_eq_pure_bind]
      rw [bind_run (mapM_run hf)]
      rfl
    rw [bind_run hm]
    rfl
  unfold resultsS at h
  split at h
  · rename_i r hl
    cases q : resultS e s r with
    | none => rw [q] at h; cases h
    | some x =>
      rw [q] at h; cases h
      obtain ⟨us, h1, h2⟩ := key (l := [r]) (vs := [x]) (.cons q .nil)
      cases h1 with
      | cons hx hn =>
        cases hn
        rw [← hl] at h2
        exact ⟨_, run h2, hx⟩
  · rename_i hne
    cases q : mapO (resultS e s) fn.results.toList with
    | none => rw [q] at h; cases h
    | some vs =>
      rw [q] at h; cases h
      obtain ⟨us, h1, h2⟩ := key (mapO_some q)
      have hsz : us.toArray.size ≠ 1 := by
        have := fa2_len h2
        intro e1
        simp only [List.size_toArray] at e1
        rw [e1] at this
        match hq : fn.results.toList, this with
        | [r], _ => exact hne r hq
      refine ⟨.tuple us.toArray, ?_, us.toArray, rfl, h1⟩
      rw [run h2, dif_neg hsz]
end Go.Proofs.YtpkclnkibhgpkaaGreat.Sx
