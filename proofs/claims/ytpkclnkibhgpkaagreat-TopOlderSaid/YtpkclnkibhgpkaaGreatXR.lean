/-
An operation does what the run tells of it, if the run of the bodies of what it calls does. Its conditions: that the tables tell the program, and what is told of the functions that have a contract.
-/
import Derived.Test.YtpkclnkibhgpkaaGreatXQ
namespace Go.Proofs.YtpkclnkibhgpkaaGreat.Sx
open Go Go.RowKit
variable {P : Program}

def exOf : Ex → Exit
  | .normal => .normal
  | .exit i => .exit i
  | .ret => .ret
/-- the run of a code stands for the code -/
def CodeOK [Sh] (P : Program) (ih : Task → Option Tree) : Prop :=
  ∀ c s T, ih (.code c s) = some T → ∀ w0 n0 b a w (Q : Exit → Act → World → Prop), Conc w0 n0 b s a w → (∀ d ∈ wslots c, d < a.tmps.size) →
    TreeP (fun e s' => ∀ b' a' w', ExtN s.nx b b' → s.nx ≤ s'.nx → Conc w0 n0 b' s' a' w' → SameOut (wslots c) a a' → Q (exOf e) a' w') T → c.wp P Q a w
theorem allL_iff {α : Type} {f : α → Bool} : ∀ {l : List α}, allL f l = true → ∀ x ∈ l, f x = true
  | [], _, x, h => by cases h
  | a :: r, g, x, h => by
    simp only [allL] at g
    cases q : f a
    · rw [q] at g; cases g
    · rw [q] at g
      rcases List.mem_cons.1 h with rfl | h
      · exact q
      · exact allL_iff g x h
/-- of what a call leaves, the caller's -/
theorem Conc.caller [Sh] {w0 w w' : World} {n0 : Base} {b c : Nat → Option Nat} {s s' : St} {a a' : Act} (h : Conc w0 n0 b s a w) (g : Conc w s.base c s' a' w') (hx : ExtN s.nx b c) : Conc w s.base c ⟨s.tm, s'.hp, s'.nx, s'.wr⟩ a w' :=
  ⟨fun t x q => ⟨(h.tm t x q).1, (h.tm t x q).2.mono (h.ext hx)⟩, g.hp, g.inj, g.lt, g.sz, g.nw, g.m1, g.m3, g.wl, g.fr, g.nx, g.z⟩
theorem rtree_of_P {e : Env} {rs : List ResultVar} {s0 : St} {G : ST → St → Prop} : ∀ {t : Tree} {rt : RTree}, RTree.of e rs s0 t = some rt → RTreeP G rt →
    TreeP (fun ex s' => (ex = .ret ∨ ex = .normal) ∧ ∃ v hp, resultsS e s' rs = some v ∧ (hp = keepOld s0.nx s'.hp ∨ hp = s'.hp) ∧ G v ⟨s0.tm, hp, s'.nx, s'.wr⟩) t
  | .leaf ex s', rt, h, g => by
    have key : retS e rs s0 s' = some rt → ∃ v hp, resultsS e s' rs = some v ∧ (hp = keepOld s0.nx s'.hp ∨ hp = s'.hp) ∧ G v ⟨s0.tm, hp, s'.nx, s'.wr⟩ := by
      intro q
      unfold retS at q
      split at q
      · rename_i v hv
        cases q
        refine ⟨v, _, hv, ?_, g⟩
        cases (plainT v && (Nat.beq (Nat.land s'.wr (Nat.sub (bit1 s0.nx) 1)) 0 || tidy s0.nx s'.wr s'.hp))
        · exact .inr rfl
        · exact .inl rfl
      · cases q
    cases ex with
    | ret => exact ⟨.inl rfl, key h⟩
    | normal => exact ⟨.inr rfl, key h⟩
    | exit i => cases h
  | .ite p x y, rt, h, g => by
    simp only [RTree.of] at h
    split at h
    · rename_i r1 r2 h1 h2
      cases h
      exact ⟨fun q => rtree_of_P h1 (g.1 q), fun q => rtree_of_P h2 (g.2 q)⟩
    · cases h
theorem rtree_one_P [Sh] {w0 w : World} {n0 : Base} {b : Nat → Option Nat} {s : St} {a : Act} (h : Conc w0 n0 b s a w) : ∀ {rt : RTree} {v : ST} {m : St}, RTree.one s rt = some (v, m) →
    RTreeP (fun u s1 => ∀ c w' x, ExtN s.nx b c → Conc w s.base c s1 a w' → RepT c u x → Conc w s.base c m a w' ∧ RepT c v x) rt
  | .leaf u s1, v, m, hm => by
    simp only [RTree.one] at hm
    cases q : plainT u
    · rw [q] at hm; cases hm
    · rw [q] at hm; cases hm
      exact fun c w' x _ g r => ⟨g, r⟩
  | .ite p r1 r2, v, m, hm => by
    simp only [RTree.one] at hm
    split at hm
    · rename_i v1 s1 v2 s2 h1 h2
      cases q : mgT p v1 v2 with
      | none => rw [q] at hm; cases hm
      | some z =>
        rw [q] at hm; cases hm
        refine ⟨fun e => RTreeP.mono ?_ (rtree_one_P h h1), fun e => RTreeP.mono ?_ (rtree_one_P h h2)⟩
        · intro u s' g c w' x hx hc hr
          obtain ⟨g1, g2⟩ := g c w' x hx hc hr
          exact ⟨h.mg g1 hx (SameOut.refl _ _) (.inl ⟨e, rfl⟩), (mgT_l q).1 e _ g2⟩
        · intro u s' g c w' x hx hc hr
          obtain ⟨g1, g2⟩ := g c w' x hx hc hr
          exact ⟨h.mg g1 hx (SameOut.refl _ _) (.inr ⟨e, rfl⟩), (mgT_l q).2 e _ g2⟩
    · cases hm
theorem addWR_P {m : Nat} {F : ST → St → Prop} : ∀ {t : RTree}, RTreeP F (addWR m t) → RTreeP (fun e s => F e ⟨s.tm, s.hp, s.nx, Nat.lor m s.wr⟩) t
  | .leaf _ _, g => g
  | .ite _ _ _, g => ⟨fun e => addWR_P (g.1 e), fun e => addWR_P (g.2 e)⟩
theorem rtree_join_P [Sh] {w0 w : World} {n0 : Base} {b : Nat → Option Nat} {s : St} {a : Act} (h : Conc w0 n0 b s a w) {m : Nat} {F : ST → St → Prop} {rt : RTree} (g : RTreeP F (RTree.join m s rt)) :
    RTreeP (fun u s1 => ∃ v s2, F v ⟨s2.tm, s2.hp, s2.nx, Nat.lor m s2.wr⟩ ∧ ∀ c w' x, ExtN s.nx b c → Conc w s.base c s1 a w' → RepT c u x → Conc w s.base c s2 a w' ∧ RepT c v x) rt := by
  cases rt with
  | leaf v s1 => exact ⟨v, s1, g, fun c w' x _ q r => ⟨q, r⟩⟩
  | ite p x y =>
    simp only [RTree.join] at g
    cases q : RTree.one s (.ite p x y) with
    | none =>
      rw [q] at g
      exact RTreeP.mono (fun u s1 k => ⟨u, s1, k, fun c w' x _ q r => ⟨q, r⟩⟩) (addWR_P g)
    | some r =>
      obtain ⟨v, s2⟩ := r
      rw [q] at g
      exact RTreeP.mono (fun u s1 k => ⟨v, s2, g, k⟩) (rtree_one_P h q)
theorem getB_append {l m : List (Nat × Blk)} {id : Nat} : getB (l ++ m) id = match getB l id with | some k => some k | none => getB m id := by
  induction l with
  | nil => rfl
  | cons p r ih =>
    obtain ⟨i, b⟩ := p
    rw [List.cons_append, getB_cons, getB_cons]
    cases Nat.beq i id
    · exact ih
    · rfl
/-- a call -/
theorem goCall_run [Sh] {e : Env} (he : EnvOK P e) {ih : Task → Option Tree} (hI : CodeOK P ih) {s : St} {n : Nat} {args : List ST} {rt : RTree} (h : goCall e ih s.tm s.hp s.nx s.wr (some (n, args)) = some rt)
    {w0 : World} {n0 : Base} {b : Nat → Option Nat} {a : Act} {w : World} (hc : Conc w0 n0 b s a w) {vals : Array Value} (hv : FA2 (RepT b) args vals.toList) {R : Ending → World → Prop}
    (g : RTreeP (fun v s' => ∀ c w' u, ExtN s.nx b c → s.nx ≤ s'.nx → Conc w0 n0 c s' a w' → RepT c v u → R (.returned u) w') rt) : (callFunc n vals).run P w = .ok (.enter n vals) w ∧ Calls P n vals w R := by
  unfold goCall at h
  split at h
  · rename_i hs; cases hs
  · rename_i n' args' hs
    cases hs
    split at h
    · rename_i v new nx' q
      cases h
      obtain ⟨h1, h2⟩ := he.sm _ _ _ _ _ _ _ q w b vals hv hc.hp hc.inj hc.lt hc.sz hc.z
      refine ⟨h1, h2.mono ?_⟩
      rintro ex w' ⟨c, u, rfl, hr, hx, hh, hfresh, hj, hl, hs, hle, hb⟩
      refine g c w' u hx hle ?_ hr
      have hE := hc.ext hx
      have lives : ∀ i, Live (new ++ s.hp) i → (Live new i ∧ s.nx ≤ i) ∨ (i < s.nx ∧ Live s.hp i ∧ c i = b i) := by
        rintro i ⟨k, hk⟩
        rw [getB_append] at hk
        split at hk
        · rename_i k' hk'
          exact .inl ⟨⟨k', hk'⟩, hfresh i ⟨k', hk'⟩⟩
        · obtain ⟨_, _, g2, _⟩ := hc.known ⟨k, hk⟩
          exact .inr ⟨g2, ⟨k, hk⟩, hx i g2⟩
      have hn0 := hc.nx
      have key : ∀ i n, n0.n ≤ i → (Live s.hp i ∨ bitOn s.wr i = true) → b i = some n → w0.heap.size ≤ n ∨ ∃ j, j < n0.n ∧ bitOn s.wr j = true ∧ c j = some n := by
        intro i n hi hl hb
        rcases hc.nw i n hi hl hb with r | ⟨j, r1, r2, r3⟩
        · exact .inl r
        · exact .inr ⟨j, r1, r2, hE _ _ r3⟩
      refine ⟨fun t x q => ⟨(hc.tm t x q).1, (hc.tm t x q).2.mono hE⟩, fun id k hk => ?_, fun i j n hi hj' hbi hbj => ?_, hl, fun i n hi hbi => ?_, fun i n hi0 hi hbi => ?_, hc.m1, fun j hj' hi => ?_, fun j hj' => ?_, ?_, Nat.le_trans hc.nx hle, fun i hi => hc.z i (Nat.le_trans hle hi)⟩
      · simp only at hk
        rw [getB_append] at hk
        split at hk
        · rename_i k' hk'
          cases hk; exact hh id k hk'
        · obtain ⟨m, hm, hbk⟩ := hc.hp id k hk
          exact ⟨m, hE _ _ hm, hbk.same hE (hb.block m (hc.sz _ _ ⟨k, hk⟩ hm))⟩
      · rcases lives i hi with ⟨g1, g2⟩ | ⟨g1, g2, g3⟩ <;> rcases lives j hj' with ⟨r1, r2⟩ | ⟨r1, r2, r3⟩
        · exact hj i j n g1 r1 hbi hbj
        · rw [r3] at hbj
          have := (hs i n g1 hbi).1
          have := hc.sz j n r2 hbj
          omega
        · rw [g3] at hbi
          have := (hs j n r1 hbj).1
          have := hc.sz i n g2 hbi
          omega
        · rw [g3] at hbi; rw [r3] at hbj
          exact hc.inj i j n g2 r2 hbi hbj
      · rcases lives i hi with ⟨g1, g2⟩ | ⟨g1, g2, g3⟩
        · exact (hs i n g1 hbi).2
        · rw [g3] at hbi
          exact Nat.lt_of_lt_of_le (hc.sz i n g2 hbi) hb.size
      · rcases hi with hi | hi
        · rcases lives i hi with ⟨g1, g2⟩ | ⟨g1, g2, g3⟩
          · exact .inl (Nat.le_trans hc.fr.size (hs i n g1 hbi).1)
          · rw [g3] at hbi; exact key i n hi0 (.inl g2) hbi
        · obtain ⟨m, hm⟩ := hc.wl i hi
          have := hE _ _ hm
          rw [hbi] at this; cases this
          exact key i n hi0 (.inr hi) hm
      · rcases lives j hi with ⟨g1, g2⟩ | ⟨g1, g2, g3⟩
        · omega
        · exact hc.m3 j hj' g2
      · obtain ⟨m, hm⟩ := hc.wl j hj'
        exact ⟨m, hE _ _ hm⟩
      · have hf := hc.fr
        refine ⟨hb.os.trans hf.os, hb.tape.trans hf.tape, hb.output.trans hf.output, Nat.le_trans hf.size hb.size, fun m hm hh2 => ?_⟩
        rw [hb.block m (Nat.lt_of_lt_of_le hm hf.size)]
        exact hf.block m hm fun i hi hbi => hh2 i hi (hE _ _ hbi)
    · split at h
      · cases h
      · rename_i fn hfn
        obtain ⟨hf1, hf2⟩ := he.fn n fn hfn
        split at h
        · cases h
        · rename_i body hbody
          cases q : (sizesOK fn body && Nat.ble (lenL args) fn.ntmps)
          · rw [q] at h; cases h
          · rw [q] at h
            simp only [Bool.and_eq_true, ble_iff, lenL_eq] at q
            simp only [cond_true] at h
            split at h
            · cases h
            · rename_i t ht
              split at h
              · cases h
              · rename_i rt0 hrt
                cases h
                refine ⟨hf2 _ _, calls_of_wp hf1 hbody ?_⟩
                have hl := fa2_len hv
                simp only [Array.length_toList] at hl
                have hst := hc.start
                have hsz : (vals ++ Array.replicate (fn.ntmps - vals.size) undef).size = fn.ntmps := by simp; omega
                have hc2 : Conc w s.base b ⟨argSlots args 0 .nil, s.hp, s.nx, 0⟩ { tmps := vals ++ Array.replicate (fn.ntmps - vals.size) undef, defers := [] } w :=
                  ⟨args_tm hv _, hst.hp, hst.inj, hst.lt, hst.sz, hst.nw, hst.m1, hst.m3, hst.wl, hst.fr, hst.nx, hst.z⟩
                refine hI _ _ _ ht _ _ _ _ _ _ hc2 (fun d hd => ?_) ?_
                · simp only [hsz]
                  have := allL_iff q.1 d hd
                  simpa using this
                · have hcs : Conc w0 n0 b ⟨s.tm, s.hp, s.nx, s.wr⟩ a w := hc
                  have g2 := rtree_join_P hc.start g
                  refine TreeP.mono ?_ (rtree_of_P hrt g2)
                  rintro ex s' ⟨hex, v, hp, hres, hhp, v2, s2, hF, hj⟩ b' a' w' hx _ hcc hso
                  obtain ⟨u, hu, hr⟩ := resultsS_run he.ty hres hcc
                  have hcal := hc.start.caller hcc hx
                  have hcal2 : Conc w s.base b' ⟨s.tm, hp, s'.nx, s'.wr⟩ a w' := by
                    rcases hhp with rfl | rfl
                    · exact hcal.less fun id k hk => getB_keepOld hk
                    · exact hcal
                  obtain ⟨k1, k2⟩ := hj b' w' u hx hcal2 hr
                  have hback := hc.back k1 hx
                  have hend := hF b' w' u hx k1.nx hback k2
                  rcases hex with rfl | rfl
                  · exact ⟨hso.2.2, u, hu, hend⟩
                  · exact ⟨hso.2.2, u, hu, hend⟩
end Go.Proofs.YtpkclnkibhgpkaaGreat.Sx
