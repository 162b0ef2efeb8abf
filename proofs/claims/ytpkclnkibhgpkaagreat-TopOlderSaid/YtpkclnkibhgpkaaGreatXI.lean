/-
Each operation that looks at no memory does what the run tells of it: all of them together. Its conditions: that the tables of types tell the program's types.
-/
import Derived.Test.YtpkclnkibhgpkaaGreatXH
namespace Go.Proofs.YtpkclnkibhgpkaaGreat.Sx
open Go
variable {P : Program}

theorem exec_v {s : Sem Value} {u : Value} {w w' : World} (h : s.run P w = .ok u w') : (do pure (Next.value (← s)) : Sem Next).run P w = .ok (.value u) w' := by
  rw [bind_run h]; rfl
theorem builtin_v [Sh] {e : Env} (he : TysOK P e.ty) {b : Builtin} {ts : List Nat} {l : List ST} {r : ST} (h : builtinPure e b ts l = some r) {β : Nat → Option Nat} {vs : List Value} (hv : FA2 (RepT β) l vs) (ty : Nat) (cs : Array Bool) (w : World) :
    ∃ u, (builtin b ts.toArray ty cs vs.toArray).run P w = .ok (.value u) w ∧ RepT β r u := by
  unfold builtinPure at h
  split at h
  · rename_i t ts' x
    cases hv with
    | cons h1 h2 =>
      cases h2
      obtain ⟨z, hz, hr⟩ := lenS_run (ty := ty) he h (asS_rep h1) ts' w
      exact ⟨z, exec_v hz, hr⟩
  · obtain ⟨z, hz, hr⟩ := mmS_run (P := P) h hv ts.toArray ty w
    exact ⟨z, exec_v hz, hr⟩
  · obtain ⟨z, hz, hr⟩ := mmS_run (P := P) h hv ts.toArray ty w
    exact ⟨z, exec_v hz, hr⟩
  · cases h
theorem repO_map [Sh] {β : Nat → Option Nat} {tm : Tr ST} {a : Act} (h : TmOK β tm a.tmps) (x : Option Operand) : RepO β (x.map (evO tm)) (x.map a.eval) := by
  cases x with
  | none => trivial
  | some x =>
    simp only [Option.map_some]
    cases q : evO tm x with
    | none => trivial
    | some v => exact evO_rep h q
theorem pureS_run [Sh] {e : Env} (he : TysOK P e.ty) {o : Oper} {tm : Tr ST} {v : ST} (h : pureS e tm o.op = some v) {β : Nat → Option Nat} {a : Act} (ht : TmOK β tm a.tmps) (w : World) :
    ∃ u, (execOp a.eval o).run P w = .ok (.value u) w ∧ RepT β v u := by
  unfold execOp
  unfold pureS at h
  cases ho : o.op <;> simp only [ho] at h ⊢
  case move x => exact ⟨_, rfl, evO_rep ht h⟩
  case assign x => exact ⟨_, rfl, evO_rep ht h⟩
  case pick c x y =>
    split at h
    · rename_i s q1 q2
      cases h
      have hc := evO_rep ht q1
      rw [show a.eval c = .bool true from hc]
      exact ⟨_, rfl, evO_rep ht q2⟩
    · rename_i s _ q1 q2
      cases h
      have hc := evO_rep ht q1
      rw [show a.eval c = .bool false from hc]
      exact ⟨_, rfl, evO_rep ht q2⟩
    · rename_i sc sx sy _ _ q1 q2 q3
      obtain ⟨t, h1, h2⟩ := pickS_rep h (evO_rep ht q1) (evO_rep ht q2) (evO_rep ht q3)
      rw [h1]
      exact ⟨_, rfl, h2⟩
    · cases h
  case binOp op t x y yt =>
    split at h
    · rename_i p q q1 q2
      obtain ⟨z, hz, hr⟩ := binS_run he h (evO_rep ht q1) (evO_rep ht q2) x y w
      exact ⟨z, exec_v hz, hr⟩
    · cases h
  case unOp op t x =>
    split at h
    · rename_i p q1
      obtain ⟨z, hz, hr⟩ := unS_run (P := P) h (evO_rep ht q1) w
      exact ⟨z, exec_v hz, hr⟩
    · cases h
  case convert s d x =>
    split at h
    · rename_i dd p g q1
      obtain ⟨desc, hu, _⟩ := (he _ _ g).und
      obtain ⟨z, hz, hr⟩ := convS_run he h (evO_rep ht q1) w ⟨desc, hu⟩
      exact ⟨z, exec_v hz, hr⟩
    · cases h
  case nilCheck x =>
    split at h
    · rename_i p q1
      obtain ⟨rfl, h2⟩ := nilCheckS_rep h
      have hx := evO_rep ht q1
      refine ⟨a.eval x, ?_, hx⟩
      rcases h2 hx with ⟨ad, e⟩ | ⟨f, s, t, e⟩ <;> rw [e] <;> rfl
    · cases h
  case fieldAddr t x f =>
    split at h
    · rename_i p q1
      obtain ⟨z, hz, hr⟩ := fieldAddrS_run he h (evO_rep ht q1) w
      exact ⟨z, exec_v hz, hr⟩
    · cases h
  case field t x f =>
    split at h
    · rename_i p q1
      obtain ⟨z, hz, hr⟩ := fieldS_run he h (evO_rep ht q1) w
      exact ⟨z, exec_v hz, hr⟩
    · cases h
  case indexAddr t x i =>
    split at h
    · rename_i p q q1 q2
      obtain ⟨z, hz, hr⟩ := indexAddrS_run he h (asS_rep (evO_rep ht q1)) (evO_rep ht q2) w
      exact ⟨z, exec_v hz, hr⟩
    · cases h
  case index t x i =>
    split at h
    · rename_i p q q1 q2
      obtain ⟨z, hz, hr⟩ := indexS_run he h (evO_rep ht q1) (evO_rep ht q2) w
      exact ⟨z, exec_v hz, hr⟩
    · cases h
  case extract x i =>
    split at h
    · rename_i p q1
      obtain ⟨z, hz, hr⟩ := extractS_run (P := P) h (evO_rep ht q1) w
      exact ⟨z, exec_v hz, hr⟩
    · cases h
  case build t ps =>
    split at h
    · rename_i l q1
      have hp := evParts_rep ht q1
      obtain ⟨z, hz, hr⟩ := buildS_run he h (vs := ps.map fun p => (p.1, a.eval p.2)) (by rw [Array.toList_map]; exact hp) w
      exact ⟨z, exec_v hz, hr⟩
    · cases h
  case makeFunc f x y =>
    split at h
    · rename_i p q q1 q2
      refine ⟨.func f (x.map a.eval) (y.map a.eval), rfl, makeFuncS_rep h ?_ ?_⟩
      · rw [Array.toList_map]; exact evL_rep ht q1
      · rw [Array.toList_map]; exact evL_rep ht q2
    · cases h
  case slice t x lo hi mx =>
    split at h
    · rename_i p q1
      obtain ⟨z, hz, hr⟩ := sliceS_run he h (asS_rep (evO_rep ht q1)) (repO_map ht lo) (repO_map ht hi) (repO_map ht mx) w
      exact ⟨z, exec_v hz, hr⟩
    · cases h
  case call c =>
    obtain ⟨callee, args, ats⟩ := c
    cases callee with
    | builtin b =>
      simp only at h
      split at h
      · rename_i l q1
        obtain ⟨z, hz, hr⟩ := builtin_v he h (evL_rep ht q1) o.type (args.map fun | .const _ => true | _ => false) w
        refine ⟨z, ?_, hr⟩
        have e1 : (args.map a.eval) = (List.map a.eval args.toList).toArray := by rw [← Array.toList_map]
        have e2 : ats = ats.toList.toArray := by simp
        rw [← e1, ← e2] at hz
        exact hz
      · cases h
    | value f => cases h
    | invoke r m => cases h
  all_goals cases h
end Go.Proofs.YtpkclnkibhgpkaaGreat.Sx
