/-
The run stands for the code: one operation, a row of operations, a code, by what is told of the smaller runs. Its conditions: that the tables tell the program, and what is told of the functions that have a contract.
-/
import Derived.Test.YtpkclnkibhgpkaaGreatXR
import Derived.LoopN
namespace Go.Proofs.YtpkclnkibhgpkaaGreat.Sx
open Go Go.RowKit
variable {P : Program}

/-- what is asked of what comes behind an operation -/
def AftP [Sh] (w0 : World) (n0 : Base) (b : Nat → Option Nat) (nx : Nat) (a : Act) (dst : Option Tmp) (K : Act → World → Prop) (v : ST) (s' : St) : Prop :=
  ∀ c w' u, ExtN nx b c → nx ≤ s'.nx → Conc w0 n0 c s' a w' → RepT c v u → K (a.put dst u) w'
theorem pure_wp [Sh] {e : Env} (he : EnvOK P e) {o : Oper} {s : St} {v : ST} (h : pureS e s.tm o.op = some v) {w0 : World} {n0 : Base} {b : Nat → Option Nat} {a : Act} {w : World} (hc : Conc w0 n0 b s a w) {K : Act → World → Prop} {Q : Exit → Act → World → Prop}
    (g : AftP w0 n0 b s.nx a o.dst K v s) : o.wp P a w K Q := by
  obtain ⟨u, hu, hr⟩ := pureS_run he.ty h hc.tm w
  unfold Oper.wp
  rw [hu]
  exact g b w u (ExtN.refl _ _) (Nat.le_refl _) hc hr
theorem mem_wp [Sh] {e : Env} (he : EnvOK P e) {o : Oper} {s s' : St} {v : Option ST} (h : memS e s o.op = some (v, s')) {w0 : World} {n0 : Base} {b : Nat → Option Nat} {a : Act} {w : World} (hc : Conc w0 n0 b s a w) {K : Act → World → Prop} {Q : Exit → Act → World → Prop}
    (g : AftP w0 n0 b s.nx a o.dst K (match v with | some x => x | none => undefT) s') : o.wp P a w K Q := by
  obtain ⟨w', c, hx, hn, _, hc', k⟩ := memS_run he.ty h hc
  unfold Oper.wp
  rcases k with ⟨x, u, rfl, hu, hr⟩ | ⟨rfl, hu⟩
  · rw [hu]; exact g c w' u hx hn hc' hr
  · rw [hu]; exact g c w' undef hx hn hc' ⟨#[], rfl, .nil⟩
theorem call_wp [Sh] {e : Env} (he : EnvOK P e) {ih : Task → Option Tree} (hI : CodeOK P ih) {o : Oper} {c : Call} (ho : o.op = .call c) {s : St} {rt : RTree} (h : goCall e ih s.tm s.hp s.nx s.wr (calleeS s.tm c) = some rt) {w0 : World} {n0 : Base} {b : Nat → Option Nat} {a : Act} {w : World} (hc : Conc w0 n0 b s a w) {K : Act → World → Prop} {Q : Exit → Act → World → Prop}
    (g : RTreeP (AftP w0 n0 b s.nx a o.dst K) rt) : o.wp P a w K Q := by
  cases q : calleeS s.tm c with
  | none => rw [q] at h; cases h
  | some p =>
    obtain ⟨n, args⟩ := p
    rw [q] at h
    obtain ⟨vals, hv, hrun⟩ := calleeS_run (P := P) q hc.tm o.type w
    obtain ⟨h1, h2⟩ := goCall_run he hI h hc hv (R := fun
      | .returned v, w'' => K (a.put o.dst v) w''
      | .panicked chain, w'' => Q (.panic chain) a w''
      | .outgrown, _ => LetsOut Q) g
    unfold Oper.wp execOp
    rw [ho]
    simp only
    rw [hrun, h1]
    exact h2
theorem mem_wp' [Sh] {e : Env} (he : EnvOK P e) {ih : Task → Option Tree} {o : Oper} {s : St} {rt : RTree} (h : oneOp e ih s (.mem o.op) = some rt) {w0 : World} {n0 : Base} {b : Nat → Option Nat} {a : Act} {w : World} (hc : Conc w0 n0 b s a w) {K : Act → World → Prop} {Q : Exit → Act → World → Prop}
    (g : RTreeP (AftP w0 n0 b s.nx a o.dst K) rt) : o.wp P a w K Q := by
  obtain ⟨tm, hp, nx, wr⟩ := s
  simp only [oneOp] at h
  cases q : memS e ⟨tm, hp, nx, wr⟩ o.op with
  | none => rw [q] at h; cases h
  | some r =>
    obtain ⟨v, s'⟩ := r
    rw [q] at h
    cases v <;> (cases h; exact mem_wp he q hc g)
theorem pure_wp' [Sh] {e : Env} (he : EnvOK P e) {o : Oper} {s : St} {rt : RTree} {x : Option ST} (hx : pureS e s.tm o.op = x) (h : leafV s x = some rt) {w0 : World} {n0 : Base} {b : Nat → Option Nat} {a : Act} {w : World} (hc : Conc w0 n0 b s a w) {K : Act → World → Prop} {Q : Exit → Act → World → Prop}
    (g : RTreeP (AftP w0 n0 b s.nx a o.dst K) rt) : o.wp P a w K Q := by
  cases x with
  | none => cases h
  | some v => cases h; exact pure_wp he hx hc g
theorem splitI_run [Sh] {e : Env} (he : EnvOK P e) {o : Oper} {t : Nat} {x i : Operand} (ho : o.op = .index t x i) {s : St} {p : ST} {k : IntKind} {ix : SI} {w0 : World} {n0 : Base} {b : Nat → Option Nat} {a : Act} {w : World} (hc : Conc w0 n0 b s a w)
    (hx : RepT b p (a.eval x)) (hi : a.eval i = .int k ix.val) {K : Act → World → Prop} {Q : Exit → Act → World → Prop} : ∀ (m j : Nat) {rt : RTree}, splitI e s t p k ix m j = some rt → (j : Int) ≤ ix.val → ix.val < (j : Int) + m + 1 →
      RTreeP (AftP w0 n0 b s.nx a o.dst K) rt → o.wp P a w K Q := by
  have one : ∀ (j : Nat) {rt : RTree}, leafV s (indexS e t p (kc k (.lit (j : Int)))) = some rt → ix.val = (j : Int) → RTreeP (AftP w0 n0 b s.nx a o.dst K) rt → o.wp P a w K Q := by
    intro j rt h hj g
    cases q : indexS e t p (kc k (.lit (j : Int))) with
    | none => rw [q] at h; cases h
    | some v =>
      rw [q] at h
      cases h
      obtain ⟨z, hz, hr⟩ := indexS_run he.ty q hx (v := a.eval i) (by rw [hi, hj]; rfl) w
      unfold Oper.wp execOp
      rw [ho]
      simp only
      rw [exec_v hz]
      exact g b w z (ExtN.refl _ _) (Nat.le_refl _) hc hr
  intro m
  induction m with
  | zero => intro j rt h h1 h2 g; exact one j h (by omega) g
  | succ m ih =>
    intro j rt h h1 h2 g
    simp only [splitI] at h
    split at h
    · rename_i u v q1 q2
      cases h
      by_cases e : ix.val = (j : Int)
      · exact one j q1 e (g.1 (by simpa using e))
      · exact ih (Nat.succ j) q2 (by rw [Nat.succ_eq_add_one]; omega) (by rw [Nat.succ_eq_add_one]; omega) (g.2 (by simpa using e))
    · cases h
/-- one operation -/
theorem oneOp_run [Sh] {e : Env} (he : EnvOK P e) {ih : Task → Option Tree} (hI : CodeOK P ih) {o : Oper} {s : St} {rt : RTree} (h : oneOp e ih s (cls o.op) = some rt) {w0 : World} {n0 : Base} {b : Nat → Option Nat} {a : Act} {w : World} (hc : Conc w0 n0 b s a w) {K : Act → World → Prop} {Q : Exit → Act → World → Prop}
    (g : RTreeP (AftP w0 n0 b s.nx a o.dst K) rt) : o.wp P a w K Q := by
  have oth : cls o.op = .oth o.op → o.wp P a w K Q := by
    intro hq
    rw [hq] at h
    exact pure_wp' he rfl (s := s) (by obtain ⟨tm, hp, nx, wr⟩ := s; exact h) hc g
  have mem : cls o.op = .mem o.op → o.wp P a w K Q := by
    intro hq
    rw [hq] at h
    exact mem_wp' he h hc g
  have call : ∀ c, o.op = .call c → cls o.op = .call c → o.wp P a w K Q := by
    intro c ho hq
    rw [hq] at h
    refine call_wp he hI ho (s := s) ?_ hc g
    obtain ⟨tm, hp, nx, wr⟩ := s
    exact h
  obtain ⟨dst, op, ty, pos, after, guard⟩ := o
  cases op
  case move x => obtain ⟨tm, hp, nx, wr⟩ := s; exact pure_wp' he (s := ⟨tm, hp, nx, wr⟩) (x := evO tm x) rfl h hc g
  case assign x => obtain ⟨tm, hp, nx, wr⟩ := s; exact pure_wp' he (s := ⟨tm, hp, nx, wr⟩) (x := evO tm x) rfl h hc g
  case binOp op t x y yt =>
    obtain ⟨tm, hp, nx, wr⟩ := s
    refine pure_wp' he (s := ⟨tm, hp, nx, wr⟩) (x := goBin e op t (evO tm y) (evO tm x)) ?_ h hc g
    simp only [pureS, goBin]
    cases evO tm x <;> cases evO tm y <;> rfl
  case extract x i =>
    obtain ⟨tm, hp, nx, wr⟩ := s
    refine pure_wp' he (s := ⟨tm, hp, nx, wr⟩) (x := goExt i (evO tm x)) ?_ h hc g
    simp only [pureS, goExt]
    cases evO tm x <;> rfl
  case load t x =>
    obtain ⟨tm, hp, nx, wr⟩ := s
    simp only [cls, oneOp] at h
    cases q1 : evO tm x with
    | none => rw [q1] at h; cases h
    | some p =>
      rw [q1] at h
      simp only [goLd] at h
      cases q2 : loadS e hp t p with
      | none => rw [q2] at h; cases h
      | some v =>
        rw [q2] at h; cases h
        refine mem_wp he (s := ⟨tm, hp, nx, wr⟩) (v := some (.v v)) ?_ hc g
        simp only [memS, q1, q2]
  case index t x i =>
    obtain ⟨tm, hp, nx, wr⟩ := s
    simp only [cls, oneOp] at h
    cases q1 : evO tm x with
    | none => rw [q1] at h; cases h
    | some p =>
      rw [q1] at h
      simp only [goIdx] at h
      cases q2 : evO tm i with
      | none => rw [q2] at h; cases h
      | some z =>
        rw [q2] at h
        simp only at h
        cases q3 : indexS e t p z with
        | some v =>
          rw [q3] at h
          cases h
          refine pure_wp he (s := ⟨tm, hp, nx, wr⟩) (v := v) ?_ hc g
          simp only [pureS, q1, q2, q3]
        | none =>
          rw [q3] at h
          simp only at h
          split at h
          · rename_i k ix
            cases q4 : ((inB ix (arrLen e t) && Nat.ble (arrLen e t) 8) && Nat.ble 1 (arrLen e t))
            · rw [q4] at h; cases h
            · rw [q4] at h
              simp only [Bool.and_eq_true, ble_iff] at q4
              have hb := inB_out q4.1.1
              have hi : a.eval i = .int k ix.val := evO_rep hc.tm q2
              exact splitI_run he rfl hc (evO_rep hc.tm q1) hi _ 0 h (by have := hb.1; simpa using this) (by have := hb.2.1; simp; omega) g
          · cases h
  case call c =>
    obtain ⟨callee, args, ats⟩ := c
    cases callee with
    | builtin bt =>
      cases bt
      case append => exact mem rfl
      case copy => exact mem rfl
      all_goals exact oth rfl
    | value f => exact call _ rfl rfl
    | invoke r m => exact call _ rfl rfl
  case store x y z => exact mem rfl
  case convert x y z => exact mem rfl
  case alloc t => exact mem rfl
  case box t x => exact mem rfl
  case buildSlice t n l => exact mem rfl
  case makeSlice t x y => exact mem rfl
  all_goals exact oth rfl
theorem put_size (a : Act) (d : Option Tmp) (v : Value) : (a.put d v).tmps.size = a.tmps.size := by
  cases d with
  | none => rfl
  | some d => simp [Act.put]
theorem put_get (a : Act) (d : Tmp) (v : Value) (t : Nat) (h : d < a.tmps.size) : (a.put (some d) v).tmps.getD t undef = if t = d then v else a.tmps.getD t undef := by
  simp only [Act.put, Array.getD_eq_getD_getElem?, Array.getElem?_setIfInBounds]
  by_cases e : d = t
  · subst e; rw [if_pos rfl, if_pos rfl, if_pos h]; rfl
  · rw [if_neg e, if_neg (fun q => e q.symm)]
theorem putS_nx (d : Option Nat) (v : ST) (s : St) : (putS d v s).nx = s.nx := by
  obtain ⟨tm, hp, nx, wr⟩ := s
  cases d <;> rfl
theorem Conc.put [Sh] {w0 : World} {n0 : Base} {b : Nat → Option Nat} {s : St} {a : Act} {w : World} (h : Conc w0 n0 b s a w) {d : Option Tmp} (hd : ∀ x, d = some x → x < a.tmps.size) {v : ST} {u : Value} (hr : RepT b v u) : Conc w0 n0 b (putS d v s) (a.put d u) w := by
  obtain ⟨tm, hp, nx, wr⟩ := s
  cases d with
  | none => exact h
  | some d =>
    refine ⟨fun t x hx => ?_, h.hp, h.inj, h.lt, h.sz, h.nw, h.m1, h.m3, h.wl, h.fr, h.nx, h.z⟩
    simp only [putS] at hx
    rw [get_set] at hx
    rw [put_size, put_get _ _ _ _ (hd d rfl)]
    by_cases e : t = d
    · rw [if_pos e] at hx; cases hx
      rw [if_pos e]
      exact ⟨e ▸ hd d rfl, hr⟩
    · rw [if_neg e] at hx
      rw [if_neg e]
      exact h.tm t x hx
theorem SameOut.put {ws : List Nat} (a : Act) {d : Option Tmp} (hd : ∀ x, d = some x → x ∈ ws) (v : Value) : SameOut ws a (a.put d v) := by
  refine ⟨put_size _ _ _, fun t ht => ?_, by cases d <;> rfl⟩
  cases d with
  | none => rfl
  | some d =>
    have hne : d ≠ t := fun e => ht (e ▸ hd d rfl)
    simp [Act.put, Array.getElem?_setIfInBounds_ne hne]
theorem mem_dsts {o : Oper} {d : Nat} (hd : o.dst = some d) : ∀ {l : List Oper}, o ∈ l → d ∈ dsts l
  | p :: r, h => by
    rcases List.mem_cons.1 h with rfl | h
    · simp [dsts, hd]
    · have := mem_dsts hd h
      simp only [dsts]
      split
      · exact List.mem_cons_of_mem _ this
      · exact this
/-- the run of a row of operations stands for it -/
def OpsOK [Sh] (P : Program) (ih : Task → Option Tree) : Prop :=
  ∀ all r s T, ih (.ops all r s) = some T → ∀ i, all.drop i = r → ∀ w0 n0 b a w (Q : Exit → Act → World → Prop), Conc w0 n0 b s a w → (∀ d ∈ dsts all, d < a.tmps.size) →
    TreeP (fun e s' => ∀ b' a' w', ExtN s.nx b b' → s.nx ≤ s'.nx → Conc w0 n0 b' s' a' w' → SameOut (dsts all) a a' → Q (exOf e) a' w') T → wpOps P all.toArray Q (List.range' i r.length) a w
theorem drop_cons {α : Type} {l : List α} {i : Nat} {o : α} {r : List α} (h : l.drop i = o :: r) : l[i]? = some o ∧ l.drop (i + 1) = r := by
  constructor
  · have : (l.drop i)[0]? = some o := by rw [h]; rfl
    rw [List.getElem?_drop] at this
    simpa using this
  · rw [← List.drop_drop, h]; rfl
theorem nthOp_yields {all : List Oper} {j d : Nat} (h : nthOp all j = some d) (tmps : Array Value) {t : Bool} (hd : d < tmps.size) (hv : tmps.getD d undef = .bool t) : yielded all.toArray tmps j = some t := by
  unfold nthOp at h
  rw [nthL_eq] at h
  unfold yielded
  split at h
  · rename_i o ho
    rw [Array.getD_eq_getD_getElem?, Array.getElem?_eq_getElem hd] at hv
    simp only [List.getElem?_toArray, ho, Option.bind_some, h, Array.getElem?_eq_getElem hd]
    simp only [Option.getD_some] at hv
    rw [hv]
  · cases h
theorem wanted_of {o : Oper} {all : List Oper} {tmps : Array Value} {j : Nat} {want t : Bool} (hg : o.guard = some (j, want)) (hy : yielded all.toArray tmps j = some t) : Region.wanted o (yielded all.toArray tmps) = (bif t then want else !want) := by
  unfold Region.wanted
  rw [hg]
  simp only [hy]
  cases t <;> cases want <;> rfl
theorem nthOp_none {all : List Oper} {j d : Nat} (h : nthOp all j = some d) (tmps : Array Value) (hd : d < tmps.size) (hv : tmps.getD d undef = .tuple #[]) : yielded all.toArray tmps j = none := by
  unfold nthOp at h
  rw [nthL_eq] at h
  unfold yielded
  split at h
  · rename_i o ho
    rw [Array.getD_eq_getD_getElem?, Array.getElem?_eq_getElem hd] at hv
    simp only [List.getElem?_toArray, ho, Option.bind_some, h, Array.getElem?_eq_getElem hd]
    simp only [Option.getD_some] at hv
    rw [hv]
  · cases h
theorem tup_nil [Sh] {b : Nat → Option Nat} {v : Value} (h : RepT b (.tup []) v) : v = .tuple #[] := by
  obtain ⟨vs, rfl, h⟩ := h
  have := fa2_len h
  have : vs = #[] := by
    apply Array.eq_empty_of_size_eq_zero
    simpa using this.symm
  rw [this]
theorem unwanted_of {o : Oper} {all : List Oper} {tmps : Array Value} {j : Nat} {want : Bool} (hg : o.guard = some (j, want)) (hy : yielded all.toArray tmps j = none) : Region.wanted o (yielded all.toArray tmps) = false := by
  unfold Region.wanted
  rw [hg]
  simp only [hy]
  cases want <;> rfl
theorem AftP.mono [Sh] {w0 : World} {n0 : Base} {b : Nat → Option Nat} {nx : Nat} {a : Act} {dst : Option Tmp} {K K' : Act → World → Prop} (h : ∀ a w, K a w → K' a w) {v : ST} {s' : St} (g : AftP w0 n0 b nx a dst K v s') : AftP w0 n0 b nx a dst K' v s' :=
  fun c w' u h1 h2 h3 h4 => h _ _ (g c w' u h1 h2 h3 h4)
/-- what a row asks of its end, from a state further on -/
def EndP [Sh] (w0 : World) (n0 : Base) (ws : List Nat) (b : Nat → Option Nat) (nx : Nat) (a : Act) (Q : Exit → Act → World → Prop) (e : Ex) (s' : St) : Prop :=
  ∀ b' a' w', ExtN nx b b' → nx ≤ s'.nx → Conc w0 n0 b' s' a' w' → SameOut ws a a' → Q (exOf e) a' w'
theorem EndP.step [Sh] {w0 : World} {n0 : Base} {ws : List Nat} {b c : Nat → Option Nat} {nx nx' : Nat} {a a' : Act} {Q : Exit → Act → World → Prop} {e : Ex} {s' : St} (h : EndP w0 n0 ws b nx a Q e s') (hx : ExtN nx b c) (hn : nx ≤ nx') (hs : SameOut ws a a') : EndP w0 n0 ws c nx' a' Q e s' :=
  fun b' a'' w' h1 h2 h3 h4 => h b' a'' w' (hx.trans hn h1) (Nat.le_trans hn h2) h3 (hs.trans h4)
section
variable {e : Env} {ih : Task → Option Tree} {all r : List Oper} {i : Nat} {w0 : World} {n0 : Base} {Q : Exit → Act → World → Prop}
/-- behind an operation: the rest of the row -/
theorem cont_wp [Sh] (hO : OpsOK P ih) {o : Oper} (hl : all.drop i = o :: r) {v : ST} {s s' : St} {T : Tree} (h : contS ih all r o.dst v s' = some T) {b c : Nat → Option Nat} {a : Act} {w' : World} {u : Value}
    (hx : ExtN s.nx b c) (hn : s.nx ≤ s'.nx) (hc : Conc w0 n0 c s' a w') (hr : RepT c v u) (hd : ∀ d ∈ dsts all, d < a.tmps.size) (g : TreeP (EndP w0 n0 (dsts all) b s.nx a Q) T) :
    wpOps P all.toArray Q (List.range' (i + 1) r.length) (a.put o.dst u) w' := by
  obtain ⟨h1, h2⟩ := drop_cons hl
  have hmem : ∀ x, o.dst = some x → x ∈ dsts all := fun x hx => mem_dsts hx (List.mem_of_getElem? h1)
  refine hO _ _ _ _ h _ h2 w0 n0 c _ _ Q (hc.put (fun x hx => hd x (hmem x hx)) hr) (fun d hd' => by rw [put_size]; exact hd d hd') ?_
  refine TreeP.mono ?_ g
  intro ex s2 k
  rw [putS_nx]
  exact k.step hx hn (SameOut.put a hmem u)
theorem runOp_wp [Sh] (he : EnvOK P e) (hI : CodeOK P ih) (hO : OpsOK P ih) {o : Oper} (hl : all.drop i = o :: r) {s : St} {T : Tree} (h : runOp e ih all r o.dst s (cls o.op) = some T) {b : Nat → Option Nat} {a : Act} {w : World}
    (hc : Conc w0 n0 b s a w) (hd : ∀ d ∈ dsts all, d < a.tmps.size) (g : TreeP (EndP w0 n0 (dsts all) b s.nx a Q) T) : o.wp P a w (wpOps P all.toArray Q (List.range' (i + 1) r.length)) Q := by
  unfold runOp at h
  split at h
  · cases h
  · rename_i rt hrt
    refine oneOp_run he hI hrt hc (RTreeP.mono ?_ (bindR_P h g))
    rintro v s' ⟨T', hT, hg⟩ c w' u hx hn hc' hr
    exact cont_wp hO hl hT hx hn hc' hr hd hg
theorem setTm_conc [Sh] {b : Nat → Option Nat} {s : St} {a : Act} {w : World} (hc : Conc w0 n0 b s a w) {d : Nat} {p : Bool} (hg : s.tm.get d = some (.v (.c (.lf (.bool (.sym p)))))) {t : Bool} (ht : p = t) : Conc w s.base b (setTm d t s) a w := by
  have h := hc.start
  obtain ⟨tm, hp, nx, wr⟩ := s
  refine ⟨fun t' x hx => ?_, h.hp, h.inj, h.lt, h.sz, h.nw, h.m1, h.m3, h.wl, h.fr, h.nx, h.z⟩
  simp only [setTm] at hx
  rw [get_set] at hx
  by_cases q : t' = d
  · rw [if_pos q] at hx; cases hx
    subst q ht
    exact ⟨(hc.tm t' _ hg).1, (hc.tm t' _ hg).2⟩
  · rw [if_neg q] at hx
    exact hc.tm t' x hx
theorem setTm_nx (d : Nat) (t : Bool) (s : St) : (setTm d t s).nx = s.nx := rfl
/-- one step of a row -/
theorem stepOps_wp [Sh] (he : EnvOK P e) (hI : CodeOK P ih) (hO : OpsOK P ih) : OpsOK P (fun t => match t with | .ops all l s => stepOps e ih all l s | .code c s => stepCode e ih c s) := by
  intro all l s T h i hl w0 n0 b a w Q hc hd g
  change TreeP (EndP w0 n0 (dsts all) b s.nx a Q) T at g
  change stepOps e ih all l s = some T at h
  cases l with
  | nil =>
    cases h
    exact g b a w (ExtN.refl _ _) (Nat.le_refl _) hc (SameOut.refl _ _)
  | cons o r =>
    obtain ⟨h1, h2⟩ := drop_cons hl
    have hmem : ∀ x, o.dst = some x → x ∈ dsts all := fun x hx => mem_dsts hx (List.mem_of_getElem? h1)
    simp only [stepOps] at h
    rw [List.length_cons, List.range'_succ]
    simp only [wpOps, List.getElem?_toArray, h1]
    have hskip : ∀ {s2 : St} {b2 : Nat → Option Nat} {w1 : World} {n1 : Base} {T' : Tree} {Q' : Exit → Act → World → Prop}, contS ih all r o.dst undefT s2 = some T' → Conc w1 n1 b2 s2 a w → TreeP (EndP w1 n1 (dsts all) b2 s2.nx a Q') T' → wpOps P all.toArray Q' (List.range' (i + 1) r.length) (a.put o.dst undef) w :=
      fun {s2 b2 w1 n1 T' Q'} hT hc2 hg => cont_wp hO hl (s := s2) hT (ExtN.refl _ _) (Nat.le_refl _) hc2 ⟨#[], rfl, .nil⟩ hd hg
    have hrun : ∀ {s2 : St} {b2 : Nat → Option Nat} {w1 : World} {n1 : Base} {T' : Tree} {Q' : Exit → Act → World → Prop}, runOp e ih all r o.dst s2 (cls o.op) = some T' → Conc w1 n1 b2 s2 a w → TreeP (EndP w1 n1 (dsts all) b2 s2.nx a Q') T' → o.wp P a w (wpOps P all.toArray Q' (List.range' (i + 1) r.length)) Q' :=
      fun {s2 b2 w1 n1 T' Q'} hT hc2 hg => runOp_wp he hI hO hl hT hc2 hd hg
    obtain ⟨dst, op, ty, pos, after, guard⟩ := o
    unfold stepOper at h
    simp only at h
    cases guard with
    | none =>
      simp only at h
      rw [if_pos (by simp [Region.wanted])]
      exact .inl (hrun h hc g)
    | some jw =>
      obtain ⟨j, want⟩ := jw
      simp only at h
      split at h
      · cases h
      · rename_i d hj
        unfold guardS at h
        split at h
        · rename_i t q
          have hy : yielded all.toArray a.tmps j = some t := nthOp_yields hj a.tmps (hc.tm d _ q).1 (hc.tm d _ q).2
          rw [wanted_of rfl hy]
          cases q2 : (bif t then want else !want)
          · rw [q2] at h
            rw [if_neg (by simp)]
            exact hskip h hc g
          · rw [q2] at h
            rw [if_pos rfl]
            exact .inl (hrun h hc g)
        · rename_i p q
          have hy : yielded all.toArray a.tmps j = some p := nthOp_yields hj a.tmps (hc.tm d _ q).1 (hc.tm d _ q).2
          split at h
          · rename_i A B hA hB
            cases h
            have gj := joined_P hc (Q := fun e _ _ _ a' w' => Q (exOf e) a' w') g
            rw [wanted_of rfl hy]
            have fin : ∀ {T' : Tree}, TreeP (fun e s' => ∀ c a' w', ExtN s.nx b c → Conc w s.base c s' a' w' → SameOut (dsts all) a a' → ∃ s'', Conc w0 n0 c s'' a' w' ∧ Q (exOf e) a' w') T' → TreeP (EndP w s.base (dsts all) b s.nx a Q) T' :=
              fun hT => TreeP.mono (fun ex s' k c a' w' hx _ hc' hs => by obtain ⟨_, _, k⟩ := k c a' w' hx hc' hs; exact k) hT
            cases p
            · cases want
              · rw [cond_false] at gj
                rw [if_pos (by simp)]
                exact .inl (hrun hA (setTm_conc hc q rfl) (fin (gj.2 rfl)))
              · rw [cond_true] at gj
                rw [if_neg (by simp)]
                exact hskip hB (setTm_conc hc q rfl) (fin (gj.2 rfl))
            · cases want
              · rw [cond_false] at gj
                rw [if_neg (by simp)]
                exact hskip hB (setTm_conc hc q rfl) (fin (gj.1 rfl))
              · rw [cond_true] at gj
                rw [if_pos (by simp)]
                exact .inl (hrun hA (setTm_conc hc q rfl) (fin (gj.1 rfl)))
          · cases h
        · rename_i q
          have hy : yielded all.toArray a.tmps j = none := nthOp_none hj a.tmps (hc.tm d _ q).1 (tup_nil (hc.tm d _ q).2)
          rw [unwanted_of rfl hy]
          rw [if_neg (by simp)]
          exact hskip h hc g
        · cases h
end
end Go.Proofs.YtpkclnkibhgpkaaGreat.Sx
