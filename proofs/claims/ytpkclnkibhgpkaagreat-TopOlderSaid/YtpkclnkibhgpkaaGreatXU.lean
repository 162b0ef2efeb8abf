/-
The run stands for the code: a code, by what is told of the smaller runs. Its conditions: that the tables tell the program, and what is told of the functions that have a contract and of the regions whose order is drawn.
-/
import Derived.Test.YtpkclnkibhgpkaaGreatXS
import Derived.Scope
namespace Go.Proofs.YtpkclnkibhgpkaaGreat.Sx
open Go Go.RowKit
variable {P : Program}

/-- a region whose order is drawn -/
def DrawOK [Sh] (P : Program) (e : Env) (ih : Task → Option Tree) : Prop :=
  ∀ id ops s T, drawS e ih ops.toList s = some T → ∀ w0 n0 b a w (Q : Exit → Act → World → Prop), Conc w0 n0 b s a w → (∀ d ∈ dsts ops.toList, d < a.tmps.size) →
    TreeP (EndP w0 n0 (dsts ops.toList) b s.nx a Q) T → (Code.region id ops true).wp P Q a w
def LoopOK [Sh] (P : Program) (n : Nat) (ih : Task → Option Tree) : Prop :=
  ∀ c s T, ih (.code (.loop c) s) = some T → ∀ w0 n0 b a w (Q : Exit → Act → World → Prop), Conc w0 n0 b s a w → (∀ d ∈ wslots c, d < a.tmps.size) →
    TreeP (EndP w0 n0 (wslots c) b s.nx a Q) T → Code.rounds P c Q n a w
section
variable {e : Env} {ih : Task → Option Tree}
theorem EndP.more [Sh] {w0 : World} {n0 : Base} {ws vs : List Nat} {b : Nat → Option Nat} {nx : Nat} {a : Act} {Q : Exit → Act → World → Prop} {e : Ex} {s' : St} (h : EndP w0 n0 vs b nx a Q e s') (hs : ∀ t, t ∈ ws → t ∈ vs) : EndP w0 n0 ws b nx a Q e s' :=
  fun b' a' w' h1 h2 h3 h4 => h b' a' w' h1 h2 h3 (h4.mono hs)
/-- a code, and then what the run does with its normal end -/
theorem seq_ends [Sh] {f : St → Option Tree} {w0 : World} {n0 : Base} {ws vs : List Nat} {b : Nat → Option Nat} {nx : Nat} {a : Act} {Q : Exit → Act → World → Prop} {N : Act → World → Prop} {t T : Tree} (h : bindT f t = some T) (g : TreeP (EndP w0 n0 vs b nx a Q) T) (hs : ∀ x, x ∈ ws → x ∈ vs)
    (k : ∀ s' u, f s' = some u → ∀ b' a' w', ExtN nx b b' → nx ≤ s'.nx → Conc w0 n0 b' s' a' w' → SameOut ws a a' → TreeP (EndP w0 n0 vs b' s'.nx a' Q) u → N a' w') : TreeP (EndP w0 n0 ws b nx a (Exit.then N Q)) t := by
  refine TreeP.mono ?_ (bindT_P h g)
  intro ex s' q b' a' w' h1 h2 h3 h4
  cases ex with
  | normal =>
    obtain ⟨u, hu, hg⟩ := q
    exact k s' u hu b' a' w' h1 h2 h3 h4 (TreeP.mono (fun _ _ r => r.step h1 h2 (h4.mono hs)) hg)
  | exit i => exact q b' a' w' h1 h2 h3 (h4.mono hs)
  | ret => exact q b' a' w' h1 h2 h3 (h4.mono hs)
theorem fin_end [Sh] {w0 w : World} {n0 n1 : Base} {ws vs : List Nat} {b : Nat → Option Nat} {nx : Nat} {a : Act} {Q : Exit → Act → World → Prop} {T : Tree} (hs : ∀ x, x ∈ ws → x ∈ vs)
    (h : TreeP (fun e s' => ∀ c a' w', ExtN nx b c → Conc w n1 c s' a' w' → SameOut vs a a' → ∃ s'', Conc w0 n0 c s'' a' w' ∧ Q (exOf e) a' w') T) : TreeP (EndP w n1 ws b nx a Q) T :=
  TreeP.mono (fun _ _ k c a' w' hx _ hc h4 => by obtain ⟨_, _, k⟩ := k c a' w' hx hc (h4.mono hs); exact k) h
theorem stepCode_wp [Sh] (hI : CodeOK P ih) (hO : OpsOK P ih) (hD : DrawOK P e ih) {n : Nat} (hL : LoopOK P n ih) {c : Code} {s : St} {T : Tree} (h : stepCode e ih c s = some T) {w0 : World} {n0 : Base} {b : Nat → Option Nat} {a : Act} {w : World} {Q : Exit → Act → World → Prop}
    (hc : Conc w0 n0 b s a w) (hd : ∀ d ∈ wslots c, d < a.tmps.size) (g : TreeP (EndP w0 n0 (wslots c) b s.nx a Q) T) : c.wp P Q a w := by
  cases c with
  | skip =>
    cases h
    exact wp_skip (g b a w (ExtN.refl _ _) (Nat.le_refl _) hc (SameOut.refl _ _))
  | exit i =>
    cases h
    exact wp_exit (g b a w (ExtN.refl _ _) (Nat.le_refl _) hc (SameOut.refl _ _))
  | ret =>
    cases h
    exact wp_ret (g b a w (ExtN.refl _ _) (Nat.le_refl _) hc (SameOut.refl _ _))
  | region id ops draw =>
    simp only [stepCode] at h
    cases draw with
    | true =>
      rw [cond_true] at h
      exact hD id ops s T h w0 n0 b a w Q hc hd g
    | false =>
      rw [cond_false] at h
      have k := hO _ _ _ _ h 0 rfl w0 n0 b a w Q hc hd g
      refine wp_region ?_
      rw [List.range_eq_range']
      simpa using k
  | seq x y =>
    simp only [stepCode] at h
    cases q : ih (.code x s) with
    | none => rw [q] at h; cases h
    | some t =>
      rw [q] at h
      simp only [codeSeq] at h
      refine wp_seq (hI _ _ _ q w0 n0 b a w _ hc (fun d hx => hd d (List.mem_append_left _ hx)) ?_)
      refine seq_ends h g (fun d hx => List.mem_append_left _ hx) ?_
      intro s' u hu b' a' w' h1 h2 h3 h4 h5
      exact hI _ _ _ hu w0 n0 b' a' w' Q h3 (fun d hx => by rw [h4.1]; exact hd d (List.mem_append_right _ hx)) (TreeP.mono (fun _ _ r => r.more fun d hx => List.mem_append_right _ hx) h5)
  | loop x =>
    simp only [stepCode] at h
    cases q : ih (.code x s) with
    | none => rw [q] at h; cases h
    | some t =>
      rw [q] at h
      simp only [codeSeq] at h
      refine wp_loop_rounds (n + 1) ?_
      rw [rounds_succ]
      refine hI _ _ _ q w0 n0 b a w _ hc hd ?_
      refine seq_ends h g (fun d hx => hx) ?_
      intro s' u hu b' a' w' h1 h2 h3 h4 h5
      exact hL _ _ _ hu w0 n0 b' a' w' Q h3 (fun d hx => by rw [h4.1]; exact hd d hx) h5
  | cond c x y =>
    simp only [stepCode] at h
    unfold codeCond at h
    split at h
    · rename_i t q
      have hr := evO_rep hc.tm q
      refine wp_cond (t := t) hr ?_
      cases t
      · exact hI _ _ _ h w0 n0 b a w Q hc (fun d hx => hd d (List.mem_append_right _ hx)) (TreeP.mono (fun _ _ r => r.more fun d hx => List.mem_append_right _ hx) g)
      · exact hI _ _ _ h w0 n0 b a w Q hc (fun d hx => hd d (List.mem_append_left _ hx)) (TreeP.mono (fun _ _ r => r.more fun d hx => List.mem_append_left _ hx) g)
    · rename_i p q
      have hr := evO_rep hc.tm q
      split at h
      · rename_i A B hA hB
        cases h
        have gj := joined_P hc (Q := fun e _ _ _ a' w' => Q (exOf e) a' w') g
        refine wp_cond (t := p) hr ?_
        cases p
        · exact hI _ _ _ hB w s.base b a w Q hc.start (fun d hx => hd d (List.mem_append_right _ hx)) (fin_end (fun d hx => List.mem_append_right _ hx) (gj.2 rfl))
        · exact hI _ _ _ hA w s.base b a w Q hc.start (fun d hx => hd d (List.mem_append_left _ hx)) (fin_end (fun d hx => List.mem_append_left _ hx) (gj.1 rfl))
      · cases h
    · cases h
  | block id x =>
    simp only [stepCode] at h
    cases q : ih (.code x (zeroW s)) with
    | none => rw [q] at h; cases h
    | some t =>
      rw [q] at h
      simp only [codeBlock] at h
      cases h
      have gj := joined_P hc (Q := fun e _ _ _ a' w' => Q (exOf e) a' w') g
      refine wp_block (hI _ _ _ q w s.base b a w _ hc.start hd ?_)
      refine TreeP.mono ?_ (block_P gj)
      intro ex s' k c a' w' hx _ hc' hs
      cases ex with
      | normal => obtain ⟨_, _, k⟩ := k c a' w' hx hc' hs; exact k
      | ret => obtain ⟨_, _, k⟩ := k c a' w' hx hc' hs; exact k
      | exit i =>
        simp only at k
        by_cases e : i = id
        · rw [if_pos e] at k
          obtain ⟨_, _, k⟩ := k c a' w' hx hc' hs
          simp only [exOf, Exit.inBlock]
          rw [if_pos e]; exact k
        · rw [if_neg e] at k
          obtain ⟨_, _, k⟩ := k c a' w' hx hc' hs
          simp only [exOf, Exit.inBlock]
          rw [if_neg e]; exact k
  | scope x =>
    simp only [stepCode] at h
    refine wp_scope_straight (hI _ _ _ h w0 n0 b a w _ hc hd ?_)
    refine TreeP.mono ?_ g
    intro ex s' k b' a' w' h1 h2 h3 h4
    have := k b' a' w' h1 h2 h3 h4
    cases ex <;> exact this
  | label l =>
    cases h
    exact wp_label (g b a w (ExtN.refl _ _) (Nat.le_refl _) hc (SameOut.refl _ _))
  | _ => cases h
theorem stepCode_rounds [Sh] (hI : CodeOK P ih) {n : Nat} (hL : LoopOK P n ih) {c : Code} {s : St} {T : Tree} (h : stepCode e ih (.loop c) s = some T) {w0 : World} {n0 : Base} {b : Nat → Option Nat} {a : Act} {w : World} {Q : Exit → Act → World → Prop}
    (hc : Conc w0 n0 b s a w) (hd : ∀ d ∈ wslots c, d < a.tmps.size) (g : TreeP (EndP w0 n0 (wslots c) b s.nx a Q) T) : Code.rounds P c Q (n + 1) a w := by
  simp only [stepCode] at h
  cases q : ih (.code c s) with
  | none => rw [q] at h; cases h
  | some t =>
    rw [q] at h
    simp only [codeSeq] at h
    rw [rounds_succ]
    refine hI _ _ _ q w0 n0 b a w _ hc hd ?_
    refine seq_ends h g (fun d hx => hx) ?_
    intro s' u hu b' a' w' h1 h2 h3 h4 h5
    exact hL _ _ _ hu w0 n0 b' a' w' Q h3 (fun d hx => by rw [h4.1]; exact hd d hx) h5
end
theorem exec_succ (e : Env) (n : Nat) : exec e (n + 1) = stepT e (exec e n) := rfl
/-- the run stands for the code -/
theorem exec_ok [Sh] {e : Env} (he : EnvOK P e) (hD : ∀ ih, CodeOK P ih → DrawOK P e ih) : ∀ n, CodeOK P (exec e n) ∧ OpsOK P (exec e n) ∧ LoopOK P n (exec e n)
  | 0 => by
    refine ⟨?_, ?_, ?_⟩
    · intro c s T h; cases h
    · intro all r s T h; cases h
    · intro c s T h; cases h
  | n + 1 => by
    obtain ⟨h1, h2, h3⟩ := exec_ok he hD n
    rw [exec_succ]
    refine ⟨?_, ?_, ?_⟩
    · intro c s T h w0 n0 b a w Q hc hd g
      exact stepCode_wp h1 h2 (hD _ h1) h3 h hc hd g
    · exact stepOps_wp he h1 h2
    · intro c s T h w0 n0 b a w Q hc hd g
      exact stepCode_rounds (e := e) h1 h3 h hc hd g
/-- a function on arguments: every way through it comes to what the run hands back -/
theorem callS_run [Sh] {e : Env} (he : EnvOK P e) (hD : ∀ ih, CodeOK P ih → DrawOK P e ih) {fuel n : Nat} {args : List ST} {hp : List (Nat × Blk)} {nx : Nat} {rt : RTree} (h : callS e fuel n args hp nx = some rt) {w : World} {b : Nat → Option Nat} {vals : Array Value}
    (hv : FA2 (RepT b) args vals.toList) (hh : HpOK b hp w) (hj : ∀ i j n, Live hp i → Live hp j → b i = some n → b j = some n → i = j) (hl : ∀ i n, b i = some n → i < nx) (hs : ∀ i n, Live hp i → b i = some n → n < w.heap.size) (hz : ∀ i, nx ≤ i → Sh.sh i = 0) {R : Ending → World → Prop}
    (g : RTreeP (fun v s' => ∀ c w' u, ExtN nx b c → Conc w ⟨nx, Live hp⟩ c s' ⟨#[], []⟩ w' → RepT c v u → R (.returned u) w') rt) : Calls P n vals w R := by
  have hc : Conc w ⟨nx, Live hp⟩ b ⟨.nil, hp, nx, 0⟩ ⟨#[], []⟩ w := ⟨fun t x q => by simp [Tr.get] at q, hh, hj, hl, hs, fun i m hi _ hb => by have := hl i m hb; simp only at hi; omega, fun j _ hb => (by rw [bitOn_zero] at hb; cases hb), fun j _ q => q, fun j hb => (by rw [bitOn_zero] at hb; cases hb), Fr.refl _ _ _, Nat.le_refl _, hz⟩
  refine (goCall_run he (exec_ok he hD fuel).1 (s := ⟨.nil, hp, nx, 0⟩) h hc hv (R := R) ?_).2
  refine RTreeP.mono ?_ g
  intro v s' k c w' u hx _ hc' hr
  exact k c w' u hx hc' hr
end Go.Proofs.YtpkclnkibhgpkaaGreat.Sx
