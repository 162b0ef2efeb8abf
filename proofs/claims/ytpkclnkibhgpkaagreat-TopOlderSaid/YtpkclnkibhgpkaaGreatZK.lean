/-
What is deferred by the reader finds nothing, where nothing has given up. Its conditions: none.
-/
import Derived.Test.YtpkclnkibhgpkaaGreatPD
import Derived.Defers
import Derived.Recover
import Derived.Test.YtpkclnkibhgpkaaGreatZF
import Derived.Test.YtpkclnkibhgpkaaGreatPR
import Derived.Test.YtpkclnkibhgpkaaGreatPO
namespace Go.Proofs.YtpkclnkibhgpkaaGreat
open Go.RowKit
theorem assert216 (w : World) : (Instr.typeAssert .nilIface 20 216 true).run Tryz.prog w = .ok (.tuple #[.agg #[.int .i64 0], .bool false]) w := by kernel_rfl
theorem alloc216 (w : World) : (Instr.alloc 216 true undef).run Tryz.prog w = .ok (.pointer (some ⟨w.heap.size, 0, none⟩)) (w.alloc (.cells #[.int .i64 0] 216)) := by kernel_rfl
theorem catch_idle (p q : Addr) (w : World) :
    CallsD Tryz.prog 156 #[.pointer (some p), .pointer (some q)] .returning w fun e u' w' => e = .returned (.tuple #[]) ∧ u' = .returning ∧ Below w.heap.size w w' := by
  refine callsD_of_wpS Tryz.func156 rfl fun c₀ cs hu => ?_
  apply wpS_seq
  apply wpS_region
  simp [wpOpsS, go_sem, recoverD, hu, Tryz.ntmps156, Exit.thenS, assert216]
  apply wpS_seq
  apply wpS_region
  simp [wpOpsS, go_sem, Exit.thenS]
  refine wpS_cond (t := false) (by simp [Act.eval, Array.replicate]) ?_
  simp only [Bool.false_eq_true, if_false]
  refine wpS_of_wp (wp_skip ?_)
  have hb : Below w.heap.size w (w.alloc (.cells #[.int .i64 0] 216)) := (Below.refl _ _).alloc (Nat.le_refl _) _
  cases c₀
  simp_all [bodyPostS, results, Tryz.results156]
end Go.Proofs.YtpkclnkibhgpkaaGreat
/-
The reader of a file of two levels of one block each. Its conditions: the file's bytes.
-/
namespace Go.Proofs.YtpkclnkibhgpkaaGreat.Sx
open Go Go.RowKit
def fileB : List Nat := [171, 75, 84, 88, 32, 49, 49, 187, 13, 10, 26, 10, 1, 2, 3, 4, 0, 0, 0, 0, 1, 0, 0, 0, 0, 0, 0, 0, 240, 131, 0, 0, 7, 25, 0, 0, 2, 0, 0, 0, 2, 0, 0, 0, 0, 0, 0, 0, 0, 0, 0, 0, 1, 0, 0, 0, 2, 0, 0, 0, 0, 0, 0, 0, 8, 0, 0, 0, 0, 0, 0, 0, 0, 0, 0, 0, 8, 0, 0, 0, 0, 0, 0, 0, 0, 0, 0, 0]
def bytesV (l : List Nat) : List Value := l.map fun n : Nat => .int .u8 n
noncomputable def rest93 : Code := match Tryz.f93.body with
  | some (.seq _ (.seq _ c)) => c
  | _ => .skip
def ci (n : Int) : SC := .lf (.int .i64 (.lit n))
noncomputable def r0_93 : Code := match Tryz.f93.body with
  | some (.seq a _) => a
  | _ => .skip
noncomputable def r1_93 : Code := match Tryz.f93.body with
  | some (.seq _ (.seq b _)) => b
  | _ => .skip
theorem body93 : Tryz.f93.body = some (.seq r0_93 (.seq r1_93 rest93)) := rfl
noncomputable def hp0R : List (Nat × Blk) := [(1, ⟨0, [.lf (.sl 0 0 88 none), .lf (.bool (.lit false)), ci 0, .lf .nils], true, 0⟩), (0, ⟨0, strCells fileB, false, 0⟩)]
noncomputable def argR : List ST := [lfc (.ptr 1 0), .v (.agg [ci 4096, ci 100, ci 1000000])]
noncomputable def st0R : St := ⟨argSlots argR 0 .nil, hp0R, 2, 0⟩
noncomputable def outS : Option Tree → St
  | some (.leaf _ s) => s
  | _ => ⟨.nil, [], 0, 0⟩
noncomputable def st1R : St := outS (exec envB 100000 (.code r0_93 st0R))
/-- what the reader's run comes to -/
def texB (v : ST) (s : St) : Bool := match v with
  | .tup [.agg [.lf (.int .i64 (.lit a)), .lf (.int .i64 (.lit b)), .lf (.int .i64 (.lit c)), .lf (.int .i64 (.lit d)), .lf (.int .i64 (.lit e)), .lf (.int .i64 (.lit f)), .lf (.own D 2), .lf .nils], .c (.lf (.int .i64 (.lit z)))] =>
    (((ieq a 1 && ieq b 2) && (ieq c 2 && ieq d 1)) && ((ieq e 1 && ieq f 2) && ieq z 0)) && (Nat.ble 2 D && (match getB s.hp D with
      | some ⟨0, [.lf (.own p 8), .lf (.own q 8)], _, _⟩ => ((Nat.ble 2 p && Nat.ble 2 q) && (!Nat.beq p q && (!Nat.beq p D && !Nat.beq q D))) && (bytesIs s p [0, 0, 0, 0, 0, 0, 0, 0] && bytesIs s q [0, 0, 0, 0, 0, 0, 0, 0])
      | _ => false))
  | _ => false
noncomputable def endR : Option Tree → Bool
  | some (.leaf .ret s) => bif bitOn s.wr 0 || isNone (getB s.hp 1) then false else (match resultsS envB s Tryz.f93.results.toList with
    | some v => texB v s
    | none => false)
  | _ => false
theorem run93 : endR (exec envB 100000 (.code rest93 st1R)) = true := by kernel_rfl
theorem slots93 : allL (fun d => Nat.blt d 108) (wslots rest93) = true := by kernel_rfl
def TexB (s : St) (v : ST) : Prop := ∃ D p q wr ap, v = .tup [.agg [ci 1, ci 2, ci 2, ci 1, ci 1, ci 2, .lf (.own D 2), .lf .nils], .c (.lf (.int .i64 (.lit 0)))] ∧ 2 ≤ D ∧ 2 ≤ p ∧ 2 ≤ q ∧ p ≠ q ∧ p ≠ D ∧ q ≠ D ∧ getB s.hp D = some ⟨0, [.lf (.own p 8), .lf (.own q 8)], wr, ap⟩ ∧
  bytesIs s p [0, 0, 0, 0, 0, 0, 0, 0] = true ∧ bytesIs s q [0, 0, 0, 0, 0, 0, 0, 0] = true
theorem texB_out {v : ST} {s : St} (h : texB v s = true) : TexB s v := by
  unfold texB at h
  split at h
  · simp only [Bool.and_eq_true, ieq_iff, ble_iff] at h
    obtain ⟨⟨⟨⟨rfl, rfl⟩, rfl, rfl⟩, ⟨rfl, rfl⟩, rfl⟩, h1, h2⟩ := h
    split at h2
    · rename_i p q wr ap hD
      simp only [Bool.and_eq_true, ble_iff, Bool.not_eq_true'] at h2
      obtain ⟨⟨⟨h3, h4⟩, h5, h6, h7⟩, h8, h9⟩ := h2
      have ne : ∀ {a b : Nat}, Nat.beq a b = false → a ≠ b := fun {a b} g e => by rw [beq_iff.2 e] at g; cases g
      exact ⟨_, p, q, wr, ap, rfl, h1, h3, h4, ne h5, ne h6, ne h7, hD, h8, h9⟩
    · cases h2
  · cases h
theorem endR_out {t : Option Tree} (h : endR t = true) : ∃ s v, t = some (.leaf .ret s) ∧ bitOn s.wr 0 = false ∧ Live s.hp 1 ∧ resultsS envB s Tryz.f93.results.toList = some v ∧ TexB s v := by
  unfold endR at h
  split at h
  · rename_i s
    cases q : (bitOn s.wr 0 || isNone (getB s.hp 1))
    · rw [q] at h
      simp only [Bool.or_eq_false_iff] at q
      simp only [cond_false] at h
      split at h
      · rename_i v hv
        refine ⟨s, v, rfl, q.1, ?_, hv, texB_out h⟩
        cases g : getB s.hp 1 with
        | none => have := q.2; rw [g] at this; cases this
        | some k => exact ⟨k, g⟩
      · cases h
    · rw [q] at h; cases h
  · cases h
/-- the first region: three new variables -/
noncomputable def begR : Option Tree → Bool
  | some (.leaf .normal s) => match s.tm.get 4, s.tm.get 5, s.tm.get 17 with
    | some (.v (.c (.lf (.ptr _ 0)))), some (.v (.c (.lf (.ptr _ 0)))), none => true
    | _, _, _ => false
  | _ => false
theorem runR0 : begR (exec envB 100000 (.code r0_93 st0R)) = true := by kernel_rfl
theorem slotsR0 : allL (fun d => Nat.blt d 108) (wslots r0_93) = true := by kernel_rfl
theorem begR_out {t : Option Tree} (h : begR t = true) : ∃ i j, t = some (.leaf .normal (outS t)) ∧ (outS t).tm.get 4 = some (lfc (.ptr i 0)) ∧ (outS t).tm.get 5 = some (lfc (.ptr j 0)) ∧ (outS t).tm.get 17 = none := by
  unfold begR at h
  split at h
  · rename_i s
    split at h
    · rename_i i j h4 h5 h17
      exact ⟨i, j, rfl, h4, h5, h17⟩
    · cases h
  · cases h
/-- what is known stays, where new memory is made -/
theorem Conc.grow [Sh] {w0 w w' : World} {n0 : Base} {b : Nat → Option Nat} {s : St} {a : Act} (h : Conc w0 n0 b s a w) (hb : Below w.heap.size w w') : Conc w0 n0 b s a w' := by
  refine ⟨h.tm, fun id k hk => ?_, h.inj, h.lt, fun i n hi hn => Nat.lt_of_lt_of_le (h.sz i n hi hn) hb.size, h.nw, h.m1, h.m3, h.wl, ?_, h.nx, h.z⟩
  · obtain ⟨n, hn, hbk⟩ := h.hp id k hk
    exact ⟨n, hn, hbk.same (fun _ _ q => q) (hb.block n (h.sz id n ⟨k, hk⟩ hn))⟩
  · have hf := h.fr
    exact ⟨hb.os.trans hf.os, hb.tape.trans hf.tape, hb.output.trans hf.output, Nat.le_trans hf.size hb.size, fun n hn hh => (hb.block n (Nat.lt_of_lt_of_le hn hf.size)).trans (hf.block n hn hh)⟩
theorem bk_box [Sh] {b : Nat → Option Nat} {w : World} {id n : Nat} {cells : List SC} {cs : Array Value} {wr : Bool} (h : Box w n cs) (hr : FA2 (RepC b) cells cs.toList) (hz : Sh.sh id = 0) : BkOK b w id n ⟨0, cells, wr, 0⟩ :=
  ⟨cs.toList, hr, fun j v hj => by
    rw [hz]
    have := (h j v (by rw [← Array.getElem?_toList]; exact hj)).1
    simpa using this, fun _ j hj => by
    rw [hz]
    have hj' : j < cs.size := by simpa using hj
    have := (h j cs[j] (by simp [hj'])).2
    simpa using this, fun q => absurd rfl q⟩
theorem strCells_bytes [Sh] (b : Nat → Option Nat) : ∀ l : List Nat, FA2 (RepC b) (strCells l) (bytesV l)
  | [] => .nil
  | _ :: r => .cons rfl (strCells_bytes b r)
def bR (fb rb : Nat) : Nat → Option Nat
  | 0 => some fb
  | 1 => some rb
  | _ => none
theorem mf (fn : Fn) (first cap : Array Value) (w : World) : (Instr.makeFunc fn first cap).run Tryz.prog w = .ok (.func fn first cap) w := rfl
def d93 (p q : Value) : Deferred := { target := .fn (.func 156) #[p, q], args := #[] }
theorem r1_wp {Q : Exit → Act → World → Prop} {a : Act} {w : World} {p q : Value} (hs : 17 < a.tmps.size) (h4 : a.eval (.tmp 4) = p) (h5 : a.eval (.tmp 5) = q) (h : Q .normal { tmps := a.tmps.setIfInBounds 17 (.func (.func 156) #[] #[p, q]), defers := d93 p q :: a.defers } w) : r1_93.wp Tryz.prog Q a w := by
  refine wp_region (id := 1) ?_
  have e : ∀ x, (a.put (some 17) x).eval (.tmp 17) = x := fun x => by simp [Act.eval, Act.put, hs]
  show wpOps Tryz.prog _ Q [0, 1] a w
  have f1 : Array.map a.eval #[Operand.tmp 4, Operand.tmp 5] = #[p, q] := by simp [h4, h5]
  simp [wpOps, go_sem, f1]
  refine .inl (.inl ?_)
  rw [if_pos hs]
  exact h
theorem hp0R_live {i : Nat} (h : Live hp0R i) : i = 0 ∨ i = 1 := by
  obtain ⟨k, hk⟩ := h
  unfold hp0R at hk
  rw [getB_cons] at hk
  cases q : Nat.beq 1 i
  · rw [q] at hk
    rw [getB_cons] at hk
    cases q2 : Nat.beq 0 i
    · rw [q2] at hk; cases hk
    · exact .inl (beq_iff.1 q2).symm
  · exact .inr (beq_iff.1 q).symm
/-- what the reader hands back -/
def RdP (w : World) (rb : Nat) (e : Ending) (w' : World) : Prop := But rb w w' ∧ ∃ D p q cD cp cq, e = .returned (.tuple #[.agg #[.int .i64 1, .int .i64 2, .int .i64 2, .int .i64 1, .int .i64 1, .int .i64 2, .slice (some ⟨D, 0, none⟩) 2 cD, .slice none 0 0], .int .i64 0]) ∧
  (2 ≤ cD ∧ 8 ≤ cp ∧ 8 ≤ cq) ∧ (w.heap.size ≤ D ∧ w.heap.size ≤ p ∧ w.heap.size ≤ q) ∧ (D < w'.heap.size ∧ p < w'.heap.size ∧ q < w'.heap.size) ∧ (p ≠ q ∧ p ≠ D ∧ q ≠ D) ∧ w'.cell? ⟨D, 0, none⟩ = some (.slice (some ⟨p, 0, none⟩) 8 cp) ∧ w'.cell? ⟨D, 1, none⟩ = some (.slice (some ⟨q, 0, none⟩) 8 cq) ∧
  (∀ (j : Nat) (x : Value), z8[j]? = some x → w'.cell? ⟨p, j, none⟩ = some x) ∧ (∀ (j : Nat) (x : Value), z8[j]? = some x → w'.cell? ⟨q, j, none⟩ = some x)
set_option maxRecDepth 100000 in
theorem read93 (w : World) (rb fb cap : Nat) (hrf : rb ≠ fb) (hr : Box w rb #[.slice (some ⟨fb, 0, none⟩) 88 cap, .bool false, .int .i64 0, .slice none 0 0]) (hcap : 88 ≤ cap) (hf : ∀ (j : Nat) (x : Value), (bytesV fileB)[j]? = some x → w.cell? ⟨fb, j, none⟩ = some x) :
    Calls Tryz.prog 93 #[.pointer (some ⟨rb, 0, none⟩), .agg #[.int .i64 4096, .int .i64 100, .int .i64 1000000]] w (RdP w rb) := by
  letI : Sh := ⟨fun _ => 0⟩
  have hfb : fb < w.heap.size := World.block_lt_of_cell? w _ (hf 0 _ rfl)
  have hrb : rb < w.heap.size := hr.lt (by simp)
  obtain ⟨i4, i5, hT0, g4, g5, g17⟩ := begR_out runR0
  obtain ⟨sE, v, hT, hw0, hl1, hres, hv⟩ := endR_out run93
  have hargs : FA2 (RepT (bR fb rb)) argR (#[.pointer (some ⟨rb, 0, none⟩), .agg #[.int .i64 4096, .int .i64 100, .int .i64 1000000]] : Array Value).toList :=
    .cons ⟨rb, rfl, rfl⟩ (.cons ⟨_, rfl, .cons rfl (.cons rfl (.cons rfl .nil))⟩ .nil)
  refine calls_of_wp_defers Tryz.func93 body93 ?_
  apply wp_seq
  have hsz : ((#[.pointer (some ⟨rb, 0, none⟩), .agg #[.int .i64 4096, .int .i64 100, .int .i64 1000000]] : Array Value) ++ Array.replicate (Tryz.f93.ntmps - 2) undef).size = 108 := by
    rw [Array.size_append, Array.size_replicate]; rfl
  have hc0 : Conc w ⟨2, Live hp0R⟩ (bR fb rb) st0R { tmps := #[.pointer (some ⟨rb, 0, none⟩), .agg #[.int .i64 4096, .int .i64 100, .int .i64 1000000]] ++ Array.replicate (Tryz.f93.ntmps - 2) undef, defers := [] } w := by
    refine ⟨args_tm hargs _, fun id k hk => ?_, fun i j n hi hj h1 h2 => ?_, fun i n h => ?_, fun i n hi h => ?_, fun i n h0 hi h => ?_, fun j _ h => ?_, fun j _ h => h, fun j h => ?_, Fr.refl _ _ _, Nat.le_refl _, fun _ _ => rfl⟩
    · unfold st0R hp0R at hk
      simp only at hk
      rw [getB_cons] at hk
      cases q : Nat.beq 1 id
      · rw [q] at hk
        rw [getB_cons] at hk
        cases q2 : Nat.beq 0 id
        · rw [q2] at hk; cases hk
        · rw [q2] at hk
          rw [beq_iff] at q2
          subst q2
          cases hk
          exact ⟨fb, rfl, bytesV fileB, strCells_bytes _ _, fun j x hx => by
            have := hf j x hx
            show w.cell? ⟨fb, 0 + 0 + j, none⟩ = _
            simpa using this, fun q => (by cases q), fun q => absurd rfl q⟩
      · rw [q] at hk
        rw [beq_iff] at q
        subst q
        cases hk
        exact ⟨rb, rfl, bk_box hr (.cons ⟨fb, cap, rfl, rfl, hcap⟩ (.cons rfl (.cons rfl (.cons rfl .nil)))) rfl⟩
    · rcases hp0R_live hi with rfl | rfl <;> rcases hp0R_live hj with rfl | rfl
      · rfl
      · cases h1; cases h2; exact absurd rfl hrf
      · cases h1; cases h2; exact absurd rfl hrf
      · rfl
    · match i, h with
      | 0, _ => show 0 < 2; omega
      | 1, _ => show 1 < 2; omega
    · rcases hp0R_live hi with rfl | rfl
      · cases h; exact hfb
      · cases h; exact hrb
    · match i, h0, h with
      | 0, h0, _ => simp only at h0; omega
      | 1, h0, _ => simp only at h0; omega
    · simp only [st0R, bitOn_zero] at h; cases h
    · simp only [st0R, bitOn_zero] at h; cases h
  have hEX := exec_ok envB_ok (fun _ hI => draw_ok envB_ok hI) 100000
  refine hEX.1 _ _ _ hT0 _ _ _ _ _ _ hc0 (fun d hd => ?_) ?_
  · have h108 : d < 108 := by
      have := allL_iff slotsR0 d hd
      simpa using this
    exact Nat.lt_of_lt_of_eq h108 hsz.symm
  intro b1 a1 w1 hx1 hn1 hc1 hs1
  show Code.wp Tryz.prog (.seq r1_93 rest93) _ a1 w1
  apply wp_seq
  have hsz1 : a1.tmps.size = 108 := hs1.1.trans hsz
  obtain ⟨n4, hb4, hv4⟩ := (hc1.tm 4 _ g4).2
  obtain ⟨n5, hb5, hv5⟩ := (hc1.tm 5 _ g5).2
  refine r1_wp (p := .pointer (some ⟨n4, 0, none⟩)) (q := .pointer (some ⟨n5, 0, none⟩)) (by omega) hv4 hv5 ?_
  have hc2 : Conc w ⟨2, Live hp0R⟩ b1 st1R { tmps := a1.tmps.setIfInBounds 17 (.func (.func 156) #[] #[.pointer (some ⟨n4, 0, none⟩), .pointer (some ⟨n5, 0, none⟩)]), defers := d93 (.pointer (some ⟨n4, 0, none⟩)) (.pointer (some ⟨n5, 0, none⟩)) :: a1.defers } w1 := by
    refine ⟨fun t x hx => ?_, hc1.hp, hc1.inj, hc1.lt, hc1.sz, hc1.nw, hc1.m1, hc1.m3, hc1.wl, hc1.fr, hc1.nx, hc1.z⟩
    have h := hc1.tm t x hx
    have hne : 17 ≠ t := fun e => by
      subst e
      rw [show st1R.tm.get 17 = none from g17] at hx
      cases hx
    refine ⟨by simpa using h.1, ?_⟩
    have : (a1.tmps.setIfInBounds 17 (.func (.func 156) #[] #[.pointer (some ⟨n4, 0, none⟩), .pointer (some ⟨n5, 0, none⟩)])).getD t undef = a1.tmps.getD t undef := by
      simp only [Array.getD_eq_getD_getElem?]
      rw [Array.getElem?_setIfInBounds_ne hne]
    rw [this]; exact h.2
  refine hEX.1 _ _ _ hT _ _ _ _ _ _ hc2 (fun d hd => ?_) ?_
  · have := allL_iff slots93 d hd
    simp only [Array.size_setIfInBounds]
    rw [hsz1]
    simpa using this
  intro b' a' w' hx hn hc hs
  show Leaves Tryz.prog Tryz.f93 a'.tmps _ a'.defers .returning w'
  rw [hs.2.2, hs1.2.2]
  show Leaves Tryz.prog Tryz.f93 a'.tmps _ [d93 _ _] .returning w'
  refine leaves_cons (f := 156) (args := #[.pointer (some ⟨n4, 0, none⟩), .pointer (some ⟨n5, 0, none⟩)]) (by simp) (by simp [go_sem]) ?_
  refine (catch_idle ⟨n4, 0, none⟩ ⟨n5, 0, none⟩ w').mono ?_
  rintro e u' w'' ⟨rfl, rfl, hbl⟩
  have hcE := hc.grow hbl
  obtain ⟨u, hu, hru⟩ := resultsS_run envB_ok.ty hres hcE
  refine ⟨u, hu, ?_⟩
  obtain ⟨D, p, q, wr, ap, rfl, hD2, hp2, hq2, hpq, hpD, hqD, hgD, hbp, hbq⟩ := hv
  obtain ⟨us, rfl, hru⟩ := hru
  obtain ⟨u0, u1, e, r0, r1⟩ := fa2_two hru
  obtain ⟨cs, rfl, r0⟩ := r0
  obtain ⟨a0, m0, e0, t0, r0⟩ := fa2_uncons r0
  obtain ⟨a1', m1, e1, t1, r0⟩ := fa2_uncons r0
  obtain ⟨a2, m2, e2, t2, r0⟩ := fa2_uncons r0
  obtain ⟨a3, m3, e3, t3, r0⟩ := fa2_uncons r0
  obtain ⟨a4, m4, e4, t4, r0⟩ := fa2_uncons r0
  obtain ⟨a5, m5, e5, t5, r0⟩ := fa2_uncons r0
  obtain ⟨a6, a7, e6, t6, t7⟩ := fa2_two r0
  subst e6 e5 e4 e3 e2 e1
  have h0 : a0 = .int .i64 1 := t0
  have h1 : a1' = .int .i64 2 := t1
  have h2 : a2 = .int .i64 2 := t2
  have h3 : a3 = .int .i64 1 := t3
  have h4 : a4 = .int .i64 1 := t4
  have h5 : a5 = .int .i64 2 := t5
  have h7 : a7 = .slice none 0 0 := t7
  have h8 : u1 = .int .i64 0 := r1
  subst h0 h1 h2 h3 h4 h5 h7 h8
  obtain ⟨nD, cD, bD, _, rfl, hcD⟩ := t6
  obtain ⟨nD', bD', vs, x1, x2, _⟩ := hcE.hp D _ hgD
  rw [bD] at bD'; cases bD'
  obtain ⟨v0, v1, ev, y0, y1⟩ := fa2_two x1
  subst ev
  obtain ⟨np, cp, bp, _, rfl, hcp⟩ := y0
  obtain ⟨nq, cq, bq, _, rfl, hcq⟩ := y1
  obtain ⟨np', bp', lp, livep, cellp⟩ := bytesIs_out hbp hcE rfl
  obtain ⟨nq', bq', lq, liveq, cellq⟩ := bytesIs_out hbq hcE rfl
  rw [bp] at bp'; cases bp'
  rw [bq] at bq'; cases bq'
  have liveD : Live sE.hp D := ⟨_, hgD⟩
  have fresh : ∀ id n, 2 ≤ id → Live sE.hp id → b' id = some n → w.heap.size ≤ n := by
    intro id n hid hl hb
    rcases hcE.nw id n hid (.inl hl) hb with h | ⟨j, j1, j2, j3⟩
    · exact h
    · exfalso
      match j, j1 with
      | 0, _ => rw [hw0] at j2; cases j2
      | 1, _ =>
        have := hcE.inj id 1 n hl hl1 hb j3
        omega
  rw [toArray_of e, toArray_of e0]
  refine ⟨⟨hcE.fr.os, hcE.fr.tape, hcE.fr.output, hcE.fr.size, fun k hk hne => hcE.fr.block k hk fun i hi hbi => ?_⟩, nD, np, nq, cD, cp, cq, rfl, ⟨hcD, hcp, hcq⟩, ⟨fresh D nD hD2 liveD bD, fresh p np hp2 livep bp, fresh q nq hq2 liveq bq⟩, ⟨hcE.sz D nD liveD bD, lp, lq⟩, ⟨fun g => ?_, fun g => ?_, fun g => ?_⟩, x2 0 _ rfl, x2 1 _ rfl, cellp, cellq⟩
  · have rb1 : b' 1 = some rb := (hx 1 (by have : 2 ≤ st1R.nx := hc1.nx; omega)).trans ((hx1 1 (by show 1 < 2; omega)).trans rfl)
    match i, hi with
    | 0, hi => rw [hw0] at hi; cases hi
    | 1, hi => rw [rb1] at hbi; cases hbi; exact hne rfl
    | i + 2, hi =>
      rcases hcE.nw (i + 2) k (by simp only; omega) (.inr hi) hbi with h | ⟨j, j1, j2, j3⟩
      · omega
      · match j, j1 with
        | 0, _ => rw [hw0] at j2; cases j2
        | 1, _ => rw [rb1] at j3; cases j3; exact hne rfl
  · subst g; exact hpq (hcE.inj p q np livep liveq bp bq)
  · subst g; exact hpD (hcE.inj p D np livep liveD bp bD)
  · subst g; exact hqD (hcE.inj q D nq liveq liveD bq bD)
end Go.Proofs.YtpkclnkibhgpkaaGreat.Sx
/-
Read, of a file of two levels of one block each. Its conditions: the file's bytes.
-/
namespace Go.Proofs.YtpkclnkibhgpkaaGreat
open Go.RowKit Sx
theorem build163 (fb n cap : Nat) (w : World) : (Instr.build 163 #[(0, .slice (some ⟨fb, 0, none⟩) n cap)]).run Tryz.prog w = .ok (.agg #[.slice (some ⟨fb, 0, none⟩) n cap, .bool false, .int .i64 0, .slice none 0 0]) w := by kernel_rfl
theorem Box.isS {w : World} {b : Nat} {cs : Array Value} (h : Box w b cs) {j : Nat} (hj : j < cs.size) : (w.cell? ⟨b, 0 + j, none⟩).isSome = true ∧ w.frozen? ⟨b, 0 + j, none⟩ = false := by
  have := h j cs[j] (by simp [hj])
  rw [Nat.zero_add, this.1]
  exact ⟨rfl, this.2⟩
/-- what Read hands back -/
def ReadP (w : World) (e : Ending) (w' : World) : Prop := Below w.heap.size w w' ∧ ∃ D p q cD cp cq, e = .returned (.tuple #[.agg #[.int .i64 1, .int .i64 2, .int .i64 2, .int .i64 1, .int .i64 1, .int .i64 2, .slice (some ⟨D, 0, none⟩) 2 cD, .slice none 0 0], .int .i64 0]) ∧
  (2 ≤ cD ∧ 8 ≤ cp ∧ 8 ≤ cq) ∧ (w.heap.size ≤ D ∧ w.heap.size ≤ p ∧ w.heap.size ≤ q) ∧ (D < w'.heap.size ∧ p < w'.heap.size ∧ q < w'.heap.size) ∧ (p ≠ q ∧ p ≠ D ∧ q ≠ D) ∧ w'.cell? ⟨D, 0, none⟩ = some (.slice (some ⟨p, 0, none⟩) 8 cp) ∧ w'.cell? ⟨D, 1, none⟩ = some (.slice (some ⟨q, 0, none⟩) 8 cq) ∧
  (∀ (j : Nat) (x : Value), z8[j]? = some x → w'.cell? ⟨p, j, none⟩ = some x) ∧ (∀ (j : Nat) (x : Value), z8[j]? = some x → w'.cell? ⟨q, j, none⟩ = some x)
set_option maxRecDepth 100000 in
set_option maxHeartbeats 1000000 in
theorem read60 (w : World) (fb cap : Nat) (hcap : 88 ≤ cap) (hf : ∀ (j : Nat) (x : Value), (bytesV fileB)[j]? = some x → w.cell? ⟨fb, j, none⟩ = some x) :
    Calls Tryz.prog 60 #[.slice (some ⟨fb, 0, none⟩) 88 cap, .agg #[.int .i64 4096, .int .i64 100, .int .i64 1000000]] w (ReadP w) := by
  have hfb : fb < w.heap.size := World.block_lt_of_cell? w _ (hf 0 _ rfl)
  have HF := hide hf
  clear hf
  have b163 := build163 fb 88 cap
  go_enter Tryz.func60, Tryz.ntmps60
  go_upto_region 2 with fail
  generalize hw1 : ((w.alloc _).alloc _).alloc _ = w1
  have B0 := hide (show Box w1 w.heap.size #[.int .i64 4096, .int .i64 100, .int .i64 1000000] by rw [← hw1]; (repeat' (first | (refine Box.mk' ?_; simp; done) | (refine Box.old ?_ ?_; rotate_left; (simp <;> omega)))))
  have B1 := hide (show Box w1 (w.heap.size + 1) #[.int .i64 0, .int .i64 0, .int .i64 0, .int .i64 0, .int .i64 0, .int .i64 0, .slice none 0 0, .slice none 0 0] by rw [← hw1]; (repeat' (first | (refine Box.mk' ?_; simp; done) | (refine Box.old ?_ ?_; rotate_left; (simp <;> omega)))))
  have B2 := hide (show Box w1 (w.heap.size + 1 + 1) #[.slice (some ⟨fb, 0, none⟩) 88 cap, .bool false, .int .i64 0, .slice none 0 0] by rw [← hw1]; (repeat' (first | (refine Box.mk' ?_; simp; done) | (refine Box.old ?_ ?_; rotate_left; (simp <;> omega)))))
  have L1 := hide (show Below w.heap.size w w1 by rw [← hw1]; (repeat' (first | exact Below.refl _ _ | assumption | refine Below.alloc ?_ (by simp <;> omega) _)))
  have z1 : w1.heap.size = w.heap.size + 3 := by rw [← hw1]; simp
  clear hw1
  go_wp2_with (first
    | (with_reducible refine wpList_run rfl (exec_load T62 (.tmp 3) rfl ⟨w.heap.size, 0, none⟩ rfl #[.int .i64 4096, .int .i64 100, .int .i64 1000000] rfl (Box.loads B0.out)) ?_))
  refine (read93 w1 (w.heap.size + 1 + 1) fb cap (by omega) B2.out hcap (fun j x hx => (L1.out.cell (by exact hfb)).trans (HF.out j x hx))).mono ?_
  rintro e w2 ⟨hbut, D, p, q, cD, cp, cq, rfl, hcs, hfr, hlt, hne, hc0, hc1, hcp, hcq⟩
  have C1 := hide (B1.out.but hbut (by omega) (by omega))
  have L2 := hide (L1.out.trans (hbut.below (B := w.heap.size) (by omega) (by omega)))
  have hz2 := hbut.size
  have HR := hide (show w1.heap.size ≤ D ∧ w1.heap.size ≤ p ∧ w1.heap.size ≤ q from hfr)
  have HC := hide (show (w2.cell? ⟨D, 0, none⟩ = some (.slice (some ⟨p, 0, none⟩) 8 cp) ∧ w2.cell? ⟨D, 1, none⟩ = some (.slice (some ⟨q, 0, none⟩) 8 cq)) ∧ (∀ (j : Nat) (x : Value), z8[j]? = some x → w2.cell? ⟨p, j, none⟩ = some x) ∧ (∀ (j : Nat) (x : Value), z8[j]? = some x → w2.cell? ⟨q, j, none⟩ = some x) from ⟨⟨hc0, hc1⟩, hcp, hcq⟩)
  have HL := hide hlt
  have HN := hide hne
  have HS := hide hcs
  clear hbut hfr hc0 hc1 hcp hcq hlt hne hcs B0 B1 B2 L1
  go_wp2_with (with_reducible refine wpList_store T25 rfl (.tmp 4) (.tmp 13) rfl (w.heap.size + 1) 0 rfl #[.int .i64 1, .int .i64 2, .int .i64 2, .int .i64 1, .int .i64 1, .int .i64 2, .slice (some ⟨D, 0, none⟩) 2 cD, .slice none 0 0] rfl rfl ?c1 ?c2 ?c3 ?_)
  case c1 => exact fun j hj => (C1.out.isS hj).1
  case c2 => exact fun j hj => (C1.out.isS hj).2
  case c3 => exact ⟨rfl, rfl, rfl, rfl, rfl, rfl⟩
  intro w3 hst
  have d0 := hst.inn 0 (by simp)
  have d1 := hst.inn 1 (by simp)
  have d2 := hst.inn 2 (by simp)
  have d3 := hst.inn 3 (by simp)
  have d4 := hst.inn 4 (by simp)
  have d5 := hst.inn 5 (by simp)
  have d6 := hst.inn 6 (by simp)
  have d7 := hst.inn 7 (by simp)
  simp only [Nat.zero_add, List.getElem?_toArray, List.getElem?_cons_zero, List.getElem?_cons_succ] at d0 d1 d2 d3 d4 d5 d6 d7
  have L3 := hide (L2.out.trans ((hst.below (B := w.heap.size) (by omega)).mono (Nat.le_refl _)))
  have hsz3 := hst.size
  have old : ∀ k j, w1.heap.size ≤ k → w3.cell? ⟨k, j, none⟩ = w2.cell? ⟨k, j, none⟩ := fun k j hk => hst.out _ (fun e _ => by simp only at e; omega)
  have OLD := hide old
  clear hst old
  go_wp2_with fail
  refine bodyPost_ret (v := .tuple #[.agg #[.int .i64 1, .int .i64 2, .int .i64 2, .int .i64 1, .int .i64 1, .int .i64 2, .slice (some ⟨D, 0, none⟩) 2 cD, .slice none 0 0], .int .i64 0]) (by simp [results, Tryz.results60, go_sem, d0, d1, d2, d3, d4, d5, d6, d7]) rfl ?_
  have hr := HR.out
  have hl := HL.out
  have hc := HC.out
  refine ⟨L3.out, D, p, q, cD, cp, cq, rfl, HS.out, ⟨by omega, by omega, by omega⟩, ⟨by omega, by omega, by omega⟩, HN.out, (OLD.out D 0 hr.1).trans hc.1.1, (OLD.out D 1 hr.1).trans hc.1.2, fun j x hx => (OLD.out p j hr.2.1).trans (hc.2.1 j x hx), fun j x hx => (OLD.out q j hr.2.2).trans (hc.2.2 j x hx)⟩
end Go.Proofs.YtpkclnkibhgpkaaGreat
/-
What the run of awake leans on holds. Its conditions: none.
-/
namespace Go.Proofs.YtpkclnkibhgpkaaGreat.Sx
open Go Go.RowKit
/-- the block that is fitted to a tile of noughts -/
def sm56 (nx : Nat) : List ST → Option (ST × List (Nat × Blk) × Nat)
  | [x, .v (.agg l), z] => match litI x, litI z with
    | some f, some e => bif (Nat.beq (lenL l) 64 && allL zeroC l) && (ieq f 1 && ieq e 0) then
        some (.tup [.c (.lf (.sl nx 0 8 none)), .c (.lf (.int .i64 (.lit 0))), .c (.lf (.int .i64 (.lit 0)))], [(nx, ⟨0, strCells [0, 0, 0, 0, 0, 0, 0, 0], false, 0⟩)], Nat.succ nx) else none
    | _, _ => none
  | _ => none
def isFile (hp : List (Nat × Blk)) (id : Nat) : Bool := match getB hp id with
  | some blk => Nat.beq blk.off 0 && (match litBytes blk.cells with | some m => natsEq m fileB | none => false)
  | none => false
/-- the file that is read -/
def sm60 (hp : List (Nat × Blk)) (nx : Nat) : List ST → Option (ST × List (Nat × Blk) × Nat)
  | [x, .v (.agg [a, b, c])] => match asS x, litC a, litC b, litC c with
    | .v (.c (.lf (.sl id 0 88 _))), some a, some b, some c => bif (ieq a 4096 && (ieq b 100 && ieq c 1000000)) && isFile hp id then
        some (.tup [.agg [ci 1, ci 2, ci 2, ci 1, ci 1, ci 2, .lf (.sl nx 0 2 none), .lf .nils], .c (.lf (.int .i64 (.lit 0)))],
          [(nx, ⟨0, [.lf (.sl (nx + 1) 0 8 none), .lf (.sl (nx + 2) 0 8 none)], false, 0⟩), (nx + 1, ⟨0, strCells [0, 0, 0, 0, 0, 0, 0, 0], false, 0⟩), (nx + 2, ⟨0, strCells [0, 0, 0, 0, 0, 0, 0, 0], false, 0⟩)], nx + 3) else none
    | _, _, _, _ => none
  | _ => none
def smA (n : Nat) (args : List ST) (hp : List (Nat × Blk)) (nx : Nat) : Option (ST × List (Nat × Blk) × Nat) :=
  bif Nat.beq n 56 then sm56 nx args else bif Nat.beq n 60 then sm60 hp nx args else smB n args hp nx
theorem beq_ne {a b : Nat} (h : a ≠ b) : Nat.beq a b = false := by
  cases g : Nat.beq a b
  · rfl
  · exact absurd (beq_iff.1 g) h
section
variable [Sh] {nx nx' : Nat} {args : List ST} {v : ST} {new : List (Nat × Blk)} {b : Nat → Option Nat} {vals : Array Value} {w : World}
theorem sum56 (h : sm56 nx args = some (v, new, nx')) (hv : FA2 (RepT b) args vals.toList) (hl : ∀ i n, b i = some n → i < nx) (hz : ∀ i, nx ≤ i → Sh.sh i = 0) : SumAt 56 b nx vals w v new nx' := by
  unfold sm56 at h
  split at h
  · rename_i x l z
    split at h
    · rename_i f e hf he
      cases q : ((Nat.beq (lenL l) 64 && allL zeroC l) && (ieq f 1 && ieq e 0))
      · rw [q] at h; cases h
      · rw [q] at h; cases h
        simp only [Bool.and_eq_true, ieq_iff, beq_iff, lenL_eq] at q
        obtain ⟨⟨q1, q2⟩, rfl, rfl⟩ := q
        obtain ⟨u0, m, e0, r0, r⟩ := fa2_uncons hv
        obtain ⟨u1, u2, e2, r1, r2⟩ := fa2_two r
        subst e2
        obtain ⟨cs, rfl, r1⟩ := r1
        have hcs := toArray_of (zero_cells r1 q2)
        rw [q1] at hcs
        rw [toArray_of e0, litI_val hf r0, litI_val he r2, hcs]
        exact sum_row (cells := strCells [0, 0, 0, 0, 0, 0, 0, 0]) (Tryz.call56 _ _) (fit_zero w) (fun c => strCells_bytes c _) (fun c => .cons rfl (.cons rfl .nil)) hl hz
    · cases h
  · cases h
theorem isFile_out {hp : List (Nat × Blk)} {id : Nat} (h : isFile hp id = true) (hh : HpOK b hp w) (hz : Sh.sh id = 0) : ∃ g, b id = some g ∧ ∀ (j : Nat) (x : Value), (bytesV fileB)[j]? = some x → w.cell? ⟨g, j, none⟩ = some x := by
  unfold isFile at h
  split at h
  · rename_i blk hb
    simp only [Bool.and_eq_true, beq_iff] at h
    obtain ⟨h0, h1⟩ := h
    split at h1
    · rename_i m hm
      have := natsEq_iff.1 h1
      subst this
      obtain ⟨g, hg, vs, x1, x2, _⟩ := hh id blk hb
      obtain ⟨k1, _⟩ := litBytes_rep hm x1
      refine ⟨g, hg, fun j x hx => ?_⟩
      have hx2 : vs[j]? = some x := by rw [k1]; exact hx
      have := x2 j x hx2
      rw [hz, h0] at this
      simpa using this
    · cases h1
  · cases h
theorem sum60 {hp : List (Nat × Blk)} (h : sm60 hp nx args = some (v, new, nx')) (hv : FA2 (RepT b) args vals.toList) (hh : HpOK b hp w) (hl : ∀ i n, b i = some n → i < nx) (hz : ∀ i, Sh.sh i = 0) : SumAt 60 b nx vals w v new nx' := by
  unfold sm60 at h
  split at h
  · rename_i x a c d
    split at h
    · rename_i id cap va vc vd hx ha hc hd
      cases q : ((ieq va 4096 && (ieq vc 100 && ieq vd 1000000)) && isFile hp id)
      · rw [q] at h; cases h
      · rw [q] at h; cases h
        simp only [Bool.and_eq_true, ieq_iff] at q
        obtain ⟨⟨rfl, rfl, rfl⟩, q2⟩ := q
        obtain ⟨u0, u1, e, r0, r1⟩ := fa2_two hv
        obtain ⟨cs, rfl, r1⟩ := r1
        obtain ⟨a0, m0, e0, t0, r1⟩ := fa2_uncons r1
        obtain ⟨a1, a2, e1, t1, t2⟩ := fa2_two r1
        subst e1
        rw [toArray_of e, toArray_of e0, litC_val ha t0, litC_val hc t1, litC_val hd t2]
        have r0' := asS_rep r0
        rw [hx] at r0'
        obtain ⟨g, cp, hg, rfl, hle, _⟩ := RepL.slv r0'
        obtain ⟨g', hg', hcell⟩ := isFile_out q2 hh (hz id)
        rw [hg] at hg'; cases hg'
        rw [hz id]
        refine ⟨Tryz.call60 _ _, (read60 w g cp hle hcell).mono ?_⟩
        rintro ex w' ⟨hbl, D, p, q, cD, cp', cq, rfl, ⟨h1, h2, h3⟩, ⟨f1, f2, f3⟩, ⟨l1, l2, l3⟩, ⟨n1, n2, n3⟩, c0, c1, cb, cc⟩
        obtain ⟨B, hB⟩ : ∃ B, B = putB (nx + 2) q (putB (nx + 1) p (putB nx D b)) := ⟨_, rfl⟩
        have bD : B nx = some D := by rw [hB, putB_ne (by omega), putB_ne (by omega), putB_self]
        have bp : B (nx + 1) = some p := by rw [hB, putB_ne (by omega), putB_self]
        have bq : B (nx + 2) = some q := by rw [hB, putB_self]
        have bo : ∀ i, i ≠ nx → i ≠ nx + 1 → i ≠ nx + 2 → B i = b i := fun i i0 i1 i2 => by rw [hB, putB_ne i2, putB_ne i1, putB_ne i0]
        have live : ∀ {i : Nat}, Live [(nx, (⟨0, [.lf (.sl (nx + 1) 0 8 none), .lf (.sl (nx + 2) 0 8 none)], false, 0⟩ : Blk)), (nx + 1, ⟨0, strCells [0, 0, 0, 0, 0, 0, 0, 0], false, 0⟩), (nx + 2, ⟨0, strCells [0, 0, 0, 0, 0, 0, 0, 0], false, 0⟩)] i → i = nx ∨ i = nx + 1 ∨ i = nx + 2 := by
          rintro i ⟨k, hk⟩
          rw [getB_cons] at hk
          cases q1 : Nat.beq nx i
          · rw [q1] at hk
            rw [getB_cons] at hk
            cases q2 : Nat.beq (nx + 1) i
            · rw [q2] at hk
              rw [getB_cons] at hk
              cases q3 : Nat.beq (nx + 2) i
              · rw [q3] at hk; cases hk
              · rw [beq_iff] at q3; omega
            · rw [beq_iff] at q2; omega
          · rw [beq_iff] at q1; omega
        have sl8 : ∀ {i n c : Nat}, B i = some n → 8 ≤ c → RepL B (.sl i 0 8 none) (.slice (some ⟨n, 0, none⟩) 8 c) := fun {i n c} h h' => ⟨n, c, h, by rw [hz i], h'⟩
        have zb : ∀ {i n : Nat}, B i = some n → (∀ (j : Nat) (x : Value), z8[j]? = some x → w'.cell? ⟨n, j, none⟩ = some x) → BkOK B w' i n ⟨0, strCells [0, 0, 0, 0, 0, 0, 0, 0], false, 0⟩ := fun {i n} _ h' =>
          ⟨_, strCells_bytes _ _, fun j x hx => by rw [hz i]; simpa using h' j x hx, fun q => (by cases q), fun q => absurd rfl q⟩
        refine ⟨B, _, rfl, ⟨_, rfl, .cons ⟨_, rfl, .cons rfl (.cons rfl (.cons rfl (.cons rfl (.cons rfl (.cons rfl (.cons ⟨D, cD, bD, by rw [hz nx], h1⟩ (.cons rfl .nil)))))))⟩ (.cons rfl .nil)⟩, fun i hi => bo i (by omega) (by omega) (by omega), fun id k hk => ?_, fun i hi => ?_, fun i j n hi hj e1 e2 => ?_, fun i n hi => ?_, fun i n hi hn => ?_, by omega, hbl⟩
        · rcases live ⟨k, hk⟩ with rfl | rfl | rfl
          · rw [getB_cons, beq_iff.2 rfl] at hk
            cases hk
            exact ⟨D, bD, _, .cons (sl8 bp h2) (.cons (sl8 bq h3) .nil), fun j x hx => by
              rw [hz _]
              match j, hx with
              | 0, hx => cases hx; exact c0
              | 1, hx => cases hx; exact c1, fun q => (by cases q), fun q => absurd rfl q⟩
          · have ne : Nat.beq nx (nx + 1) = false := beq_ne (by omega)
            rw [getB_cons, ne] at hk
            simp only [cond_false] at hk
            rw [getB_cons, beq_iff.2 rfl] at hk
            cases hk
            exact ⟨p, bp, zb bp cb⟩
          · have ne : Nat.beq nx (nx + 2) = false := beq_ne (by omega)
            have ne2 : Nat.beq (nx + 1) (nx + 2) = false := beq_ne (by omega)
            rw [getB_cons, ne] at hk
            simp only [cond_false] at hk
            rw [getB_cons, ne2] at hk
            simp only [cond_false] at hk
            rw [getB_cons, beq_iff.2 rfl] at hk
            cases hk
            exact ⟨q, bq, zb bq cc⟩
        · rcases live hi with rfl | rfl | rfl <;> omega
        · rcases live hi with rfl | rfl | rfl <;> rcases live hj with rfl | rfl | rfl <;> first | rfl | (exfalso; simp only [bD, bp, bq, Option.some.injEq] at e1 e2; omega)
        · by_cases g0 : i = nx
          · omega
          · by_cases g1 : i = nx + 1
            · omega
            · by_cases g2 : i = nx + 2
              · omega
              · rw [bo i g0 g1 g2] at hi
                have := hl i n hi
                omega
        · rcases live hi with rfl | rfl | rfl
          · rw [bD] at hn; cases hn; exact ⟨f1, l1⟩
          · rw [bp] at hn; cases hn; exact ⟨f2, l2⟩
          · rw [bq] at hn; cases hn; exact ⟨f3, l3⟩
    · cases h
  · cases h
end
def isTrue : ST → Bool
  | .v (.c (.lf (.bool (.lit t)))) => t
  | _ => false
theorem isTrue_val {x : ST} (h : isTrue x = true) : valT x = .bool true := by
  unfold isTrue at h
  split at h
  · subst h; rfl
  · cases h
theorem sumA : @SumOK ⟨fun _ => 0⟩ Tryz.prog smA := by
  letI : Sh := ⟨fun _ => 0⟩
  intro n args hp nx v new nx' h w b vals hv hh hj hl hs hz
  unfold smA at h
  cases q : Nat.beq n 56
  · rw [q] at h
    cases q : Nat.beq n 60
    · rw [q] at h; exact sumB n args hp nx v new nx' h w b vals hv hh hj hl hs hz
    · rw [q] at h; rw [beq_iff] at q; subst q; exact sum60 h hv hh hl (fun _ => rfl)
  · rw [q] at h; rw [beq_iff] at q; subst q; exact sum56 h hv hl hz
noncomputable def envA : Env := ⟨tys, fns, smA⟩
theorem envA_ok : @EnvOK ⟨fun _ => 0⟩ Tryz.prog envA := @env_ok ⟨fun _ => 0⟩ _ sumA
end Go.Proofs.YtpkclnkibhgpkaaGreat.Sx
/-
awake is true. Its conditions: none.
-/
namespace Go.Proofs.YtpkclnkibhgpkaaGreat.Sx
open Go Go.RowKit
theorem awake_run : leafOK 0 isTrue (callS envA 100000 5 [] [] 0) = true := by kernel_rfl
end Go.Proofs.YtpkclnkibhgpkaaGreat.Sx
namespace Go.Proofs.YtpkclnkibhgpkaaGreat
open Go.RowKit Sx
theorem awake_any (w : World) : Calls Tryz.prog 5 #[] w fun e w' => e = .returned (.bool true) ∧ Below w.heap.size w w' := by
  letI : Sh := ⟨fun _ => 0⟩
  obtain ⟨h0, h1⟩ := calls_plain envA_ok awake_run
  have := h1 (w := w) (b := fun _ => none) (vals := #[]) .nil (fun id k hk => by cases hk) (fun i j n hi => by obtain ⟨k, hk⟩ := hi; cases hk) (fun i n hi => by cases hi) (fun i n hi => by obtain ⟨k, hk⟩ := hi; cases hk) (fun _ _ => rfl)
  rw [isTrue_val h0] at this
  exact this
end Go.Proofs.YtpkclnkibhgpkaaGreat
