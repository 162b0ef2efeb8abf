/-
The map of the formats' numbers, however its entries are laid. Its conditions: none.
-/
import Derived.Test.YtpkclnkibhgpkaaGreatPA
import Derived.Deep.Cut
namespace Go.Proofs.YtpkclnkibhgpkaaGreat
open Go.RowKit
theorem stood143 : Tryz.prog.stoodInHeld 143 = false := by kernel_rfl
theorem eq3 (d : Nat) (a b : Int) (w : World) : (Op.equalIn (d + 1) 3 (.int .i64 a) (.int .i64 b)).run Tryz.prog w = .ok (a == b) w := by
  simp [Op.equalIn, run_underlying Tryz.underlying3]
theorem part3a (a b : Int) (w : World) : (part 3 #[.int .i64 a, .int .i64 b] 0).run Tryz.prog w = .ok (.int .i64 a) w := by kernel_rfl
theorem part3b (a b : Int) (w : World) : (part 3 #[.int .i64 a, .int .i64 b] 1).run Tryz.prog w = .ok (.int .i64 b) w := by kernel_rfl
theorem run_program (w : World) : Sem.run Tryz.prog (Sem.program Sem.pure) w = .ok Tryz.prog w := rfl
theorem eq143 (a b c d : Int) (w : World) : (Op.equal 143 (.agg #[.int .i64 a, .int .i64 b]) (.agg #[.int .i64 c, .int .i64 d])).run Tryz.prog w = .ok (a == c && b == d) w := by
  unfold Op.equal Op.maxDepth
  rw [show 10000 = 9998 + 1 + 1 from rfl]
  unfold Op.equalIn
  simp only [Sem.run_bind, run_underlying Tryz.underlying143, Result.andThen_ok]
  simp [program, run_program, part3a, part3b, eq3]
  by_cases h1 : a = c <;> by_cases h2 : b = d <;> simp [h1, h2]
theorem check143 (a b : Int) (w : World) : (Instr.checkKey false 10000 143 (.agg #[.int .i64 a, .int .i64 b])).run Tryz.prog w = .ok () w := by kernel_rfl
def keyOf143 (x : Int × Int × Int) : Value := .agg #[.int .i64 x.1, .int .i64 x.2.1]
def keyV (a b : Int) : Value := .agg #[.int .i64 a, .int .i64 b]
/-- an entry, of a format, a file and a number -/
def entV (x : Int × Int × Int) (k : Nat) : MapEntry := ⟨keyV x.1 x.2.1, .int .i64 x.2.2, k⟩
def hasK (a b : Int) (x : Int × Int × Int) : Bool := a == x.1 && b == x.2.1
def entsF : List (Int × Int × Int) → Nat → List MapEntry
  | [], _ => []
  | x :: r, k => entV x k :: entsF r (k + 1)
/-- the first one that has a key -/
def findF (a b : Int) : List (Int × Int × Int) → Nat → Option (Nat × Value)
  | [], _ => none
  | x :: r, i => if hasK a b x then some (i, .int .i64 x.2.2) else findF a b r (i + 1)
theorem findAsking143 (a b : Int) (w : World) : ∀ (l : List (Int × Int × Int)) (k i : Nat), (Instr.findAsking 143 (keyV a b) (entsF l k) i).run Tryz.prog w = .ok (findF a b l i) w
  | [], _, _ => rfl
  | x :: r, k, i => by
    unfold entsF Instr.findAsking findF
    simp only [entV, keyV, Sem.run_bind, eq143, Result.andThen_ok]
    unfold hasK
    cases h : (a == x.1 && b == x.2.1)
    · simp only [Bool.false_eq_true, if_false]
      exact findAsking143 a b w r (k + 1) (i + 1)
    · simp
theorem findKey143 (a b : Int) (w : World) (l : List (Int × Int × Int)) : (Instr.findKey 143 (keyV a b) (entsF l 0)).run Tryz.prog w = .ok (findF a b l 0) w := by
  unfold Instr.findKey
  simp only [Sem.run_bind, run_underlying Tryz.underlying143, Result.andThen_ok]
  cases l with
  | nil => rfl
  | cons x r =>
    show Sem.run Tryz.prog (Instr.findAsking 143 (keyV a b) (entsF (x :: r) 0)) w = _
    exact findAsking143 a b w _ _ _
theorem findF_none {a b : Int} : ∀ {l : List (Int × Int × Int)} {i : Nat}, (∀ x ∈ l, hasK a b x = false) → findF a b l i = none
  | [], _, _ => rfl
  | x :: r, i, h => by
    unfold findF
    rw [h x List.mem_cons_self]
    exact findF_none fun y hy => h y (List.mem_cons_of_mem _ hy)
theorem findF_some {x : Int × Int × Int} : ∀ {l : List (Int × Int × Int)} {i : Nat}, x ∈ l → (∀ y ∈ l, hasK x.1 x.2.1 y = true → y = x) → ∃ j, findF x.1 x.2.1 l i = some (j, .int .i64 x.2.2)
  | y :: r, i, h, g => by
    unfold findF
    cases q : hasK x.1 x.2.1 y
    · simp only [Bool.false_eq_true, if_false]
      rcases List.mem_cons.1 h with e | h
      · subst e; unfold hasK at q; simp at q
      · exact findF_some h fun z hz => g z (List.mem_cons_of_mem _ hz)
    · simp only [if_true]
      have := g y List.mem_cons_self q
      subst this
      exact ⟨i, rfl⟩
theorem entsF_append (l : List (Int × Int × Int)) (x : Int × Int × Int) : ∀ k, entsF (l ++ [x]) k = entsF l k ++ [entV x (k + l.length)] := by
  induction l with
  | nil => intro k; rfl
  | cons y r ih =>
    intro k
    rw [List.cons_append, entsF, entsF, ih, List.cons_append, List.length_cons]
    simp only [Nat.add_assoc, Nat.add_comm 1]
theorem entsF_len : ∀ (l : List (Int × Int × Int)) (k : Nat), (entsF l k).length = l.length
  | [], _ => rfl
  | _ :: r, k => by rw [entsF, List.length_cons, List.length_cons, entsF_len r]
def World.setB (w : World) (r : Nat) (o : Obj) : World := { w with heap := w.heap.setIfInBounds r o }
/-- a map block of entries -/
def MapAt (w : World) (r : Nat) (l : List (Int × Int × Int)) : Prop := w.heap[r]? = some (.map (entsF l 0).toArray l.length)
theorem run_insert143 (w : World) (r : Nat) (l : List (Int × Int × Int)) (x : Int × Int × Int) (hm : MapAt w r l) (hn : ∀ y ∈ l, hasK x.1 x.2.1 y = false) :
    (Instr.mapUpdate 140 (.map (some r)) (keyV x.1 x.2.1) (.int .i64 x.2.2)).run Tryz.prog w = .ok () (World.setB w r (.map (entsF (l ++ [x]) 0).toArray (l ++ [x]).length)) := by
  have h1 := findKey143 x.1 x.2.1 w l
  rw [findF_none hn] at h1
  have h2 : (Instr.checkKey false 10000 143 (keyV x.1 x.2.1)).run Tryz.prog w = .ok () w := check143 _ _ w
  unfold MapAt at hm
  simp [Instr.mapUpdate, run_underlying Tryz.underlying140, MapKept.run_getObj_map hm, h1, h2, MapKept.run_setObj_map _ hm, World.setB, entsF_append, entV]
theorem run_lookup143 (w : World) (r : Nat) (l : List (Int × Int × Int)) (x : Int × Int × Int) (hm : MapAt w r l) (hx : x ∈ l) (hu : ∀ y ∈ l, hasK x.1 x.2.1 y = true → y = x) :
    (Instr.lookup 140 (.map (some r)) (keyV x.1 x.2.1) true).run Tryz.prog w = .ok (.tuple #[.int .i64 x.2.2, .bool true]) w := by
  obtain ⟨j, hj⟩ := findF_some (i := 0) hx hu
  have h1 := findKey143 x.1 x.2.1 w l
  rw [hj] at h1
  have h2 : (Instr.checkKey (entsF l 0).isEmpty 10000 143 (keyV x.1 x.2.1)).run Tryz.prog w = .ok () w := by
    cases (entsF l 0).isEmpty
    · exact check143 _ _ w
    · unfold keyV; kernel_rfl
  unfold MapAt at hm
  simp [Instr.lookup, run_underlying Tryz.underlying140, MapKept.run_getObj_map hm, h1, h2]
theorem build143 (a b : Int) (w : World) : (Instr.build 143 #[(0, .int .i64 a), (1, .int .i64 b)]).run Tryz.prog w = .ok (keyV a b) w := by kernel_rfl

/-- of a region whose order is drawn: what holds of whichever operations have been -/
def isLd (listed : Array Bool) (j : Nat) : Prop := listed.getD j false = true
theorem not_isLd (n : Nat) (j : Nat) : ¬ isLd (Array.replicate n false) j := by
  unfold isLd
  rw [Array.getD_eq_getD_getElem?, Array.getElem?_replicate]
  by_cases q : j < n
  · rw [if_pos q]; simp
  · rw [if_neg q]; simp
theorem isLd_set {listed : Array Bool} {k j : Nat} (hk : k < listed.size) : isLd (listed.setIfInBounds k true) j ↔ isLd listed j ∨ j = k := by
  unfold isLd
  simp only [Array.getD_eq_getD_getElem?, Array.getElem?_setIfInBounds]
  by_cases q : k = j
  · subst q; simp [hk]
  · rw [if_neg q]
    exact ⟨.inl, fun g => g.resolve_right fun g => q g.symm⟩
theorem count_setL {l : List Bool} {k : Nat} (hk : l[k]? = some false) : (l.set k true).count false + 1 = l.count false := by
  induction l generalizing k with
  | nil => simp at hk
  | cons x r ih =>
    cases k with
    | zero =>
      simp at hk
      subst hk
      simp
    | succ k =>
      simp only [List.getElem?_cons_succ] at hk
      have := ih hk
      cases x <;> simp [List.set_cons_succ] <;> omega
theorem ready_noneL {ops : Array Oper} {listed : Array Bool} (hback : ∀ (j : Nat) (o : Oper), ops[j]? = some o → ∀ e ∈ o.after, Region.binds .any e = true → e.on < j) (hs : listed.size = ops.size) (h : Region.ready .any ops listed = []) : ∀ j, j < ops.size → isLd listed j := by
  intro j
  induction j using Nat.strongRecOn with
  | ind j hi =>
    intro hj
    by_cases q : isLd listed j
    · exact q
    · have : j ∈ Region.ready .any ops listed := by
        rw [mem_ready]
        refine ⟨?_, ops[j], by simp [hj], fun e he hb => hi _ (hback j _ (by simp [hj]) e he hb) (by have := hback j _ (by simp [hj]) e he hb; omega)⟩
        unfold isLd at q
        rw [Array.getD_eq_getD_getElem?, Array.getElem?_eq_getElem (by omega)] at q ⊢
        simpa using q
      rw [h] at this; cases this
theorem wpAny_inv {P : Program} {ops : Array Oper} {Q : Exit → Act → World → Prop} (I : (Nat → Prop) → Act → World → Prop) (hback : ∀ (j : Nat) (o : Oper), ops[j]? = some o → ∀ e ∈ o.after, Region.binds .any e = true → e.on < j)
    (hguard : ∀ (j : Nat) (o : Oper), ops[j]? = some o → o.guard = none) (hfin : ∀ S a w, (∀ j, j < ops.size → S j) → I S a w → Q .normal a w)
    (hstep : ∀ S a w k o, ops[k]? = some o → ¬ S k → (∀ e ∈ o.after, Region.binds .any e = true → S e.on) → I S a w → o.wp P a w (fun a' w' => I (fun j => S j ∨ j = k) a' w') Q) :
    ∀ (fuel : Nat) (listed : Array Bool) (a : Act) (w : World), listed.size = ops.size → listed.toList.count false ≤ fuel → I (isLd listed) a w → wpAny P .any ops Q fuel listed a w
  | 0, listed, a, w, hs, hc, hi => by
    have key : ∀ j, j < ops.size → isLd listed j := by
      intro j hj
      unfold isLd
      rw [Array.getD_eq_getD_getElem?, Array.getElem?_eq_getElem (by omega)]
      have hz : listed.toList.count false = 0 := by omega
      rw [List.count_eq_zero] at hz
      have hm : listed[j]'(by omega) ∈ listed.toList := by simp
      simp only [Option.getD_some]
      cases q : listed[j]'(by omega)
      · rw [q] at hm; exact absurd hm hz
      · rfl
    refine ⟨?_, hfin _ a w key hi⟩
    cases q : Region.ready .any ops listed with
    | nil => rfl
    | cons x r =>
      have hx : x ∈ Region.ready .any ops listed := by rw [q]; exact List.mem_cons_self
      rw [mem_ready] at hx
      obtain ⟨h1, o, ho, _⟩ := hx
      have hxl : x < ops.size := (Array.getElem?_eq_some_iff.1 ho).1
      have := key x hxl
      unfold isLd at this
      rw [Array.getD_eq_getD_getElem?, Array.getElem?_eq_getElem (by omega)] at this h1
      simp only [Option.getD_some] at this h1
      rw [h1] at this; cases this
  | fuel + 1, listed, a, w, hs, hc, hi => by
    refine ⟨fun h => hfin _ a w (ready_noneL hback hs h) hi, fun k hk => ?_⟩
    rw [mem_ready] at hk
    obtain ⟨h1, o, ho, hdep⟩ := hk
    have hkl : k < ops.size := (Array.getElem?_eq_some_iff.1 ho).1
    have hunl : ¬ isLd listed k := by
      unfold isLd
      rw [Array.getD_eq_getD_getElem?, Array.getElem?_eq_getElem (by omega)] at h1 ⊢
      simp only [Option.getD_some] at h1 ⊢
      rw [h1]; simp
    unfold wpOp
    rw [ho]
    simp only
    have hw : Region.wanted o (yielded ops a.tmps) = true := by simp [Region.wanted, hguard k o ho]
    rw [if_pos hw]
    refine .inl (Oper.wp_mono (fun a' w' hi' => ?_) (hstep _ a w k o ho hunl hdep hi))
    have heq : (fun j => isLd listed j ∨ j = k) = isLd (listed.setIfInBounds k true) := by
      funext j
      exact propext (isLd_set (by omega)).symm
    rw [heq] at hi'
    refine wpAny_inv I hback hguard hfin hstep fuel _ a' w' (by simpa using hs) ?_ hi'
    rw [Array.toList_setIfInBounds]
    have hk2 : listed.toList[k]? = some false := by
      rw [Array.getElem?_toList]
      rw [Array.getD_eq_getD_getElem?, Array.getElem?_eq_getElem (by omega)] at h1
      rw [Array.getElem?_eq_getElem (by omega)]
      simpa using h1
    have := count_setL hk2
    omega
def tabF : List (Int × Int × Int) := [(1, 1, 71), (2, 1, 74), (3, 1, 77), (4, 1, 80), (5, 1, 83), (6, 1, 98), (1, 2, 33776), (2, 2, 33778), (3, 2, 33779), (4, 2, 36283), (5, 2, 36285), (6, 2, 36492), (7, 2, 36196), (8, 2, 37492), (9, 2, 37494), (10, 2, 37496), (11, 2, 37488), (12, 2, 37490)]
theorem tab_key : ∀ x ∈ tabF, ∀ y ∈ tabF, hasK x.1 x.2.1 y = true → y = x := by decide
noncomputable def ops72 : Array Oper := match Tryz.f72.body with
  | some (.seq _ (.seq (.region _ l _) _)) => l
  | _ => #[]
def backB (k : Nat) (o : Oper) : Bool := o.after.toList.all fun e => !Region.binds .any e || Nat.blt e.on k
def onB (i : Nat) (o : Oper) : Bool := o.after.toList.any fun e => Region.binds .any e && Nat.beq e.on i
theorem backB_out {k : Nat} {o : Oper} (h : backB k o = true) : ∀ e ∈ o.after, Region.binds .any e = true → e.on < k := by
  intro e he hb
  unfold backB at h
  rw [List.all_eq_true] at h
  have := h e (by simpa using he)
  rw [hb] at this
  simpa using this
theorem onB_out {i : Nat} {o : Oper} (h : onB i o = true) {S : Nat → Prop} (g : ∀ e ∈ o.after, Region.binds .any e = true → S e.on) : S i := by
  unfold onB at h
  rw [List.any_eq_true] at h
  obtain ⟨e, he, h2⟩ := h
  simp only [Bool.and_eq_true] at h2
  have := g e (by simpa using he) h2.1
  rw [Nat.eq_of_beq_eq_true h2.2] at this; exact this
def Kind72 (k : Nat) (o : Oper) : Prop := o.guard = none ∧ backB k o = true ∧
  ((k = 0 ∧ o.dst = some 1 ∧ o.op = .makeMap 140 none) ∨
   (∃ j x, tabF[j]? = some x ∧ k = 2 * j + 1 ∧ o.dst = some (2 + j) ∧ o.op = .build 143 #[(0, .const (.int .i64 x.1)), (1, .const (.int .i64 x.2.1))]) ∨
   (∃ j x, tabF[j]? = some x ∧ k = 2 * j + 2 ∧ o.dst = none ∧ o.op = .insert 140 (.tmp 1) (.tmp (2 + j)) (.const (.int .i64 x.2.2)) ∧ onB 0 o = true ∧ onB (2 * j + 1) o = true) ∨
   (k = 37 ∧ o.dst = some 20 ∧ o.op = .move (.tmp 1) ∧ onB 0 o = true) ∨
   (k = 38 ∧ o.dst = some 0 ∧ o.op = .assign (.tmp 20) ∧ onB 37 o = true))
theorem kind72 : ∀ (k : Nat) (o : Oper), ops72[k]? = some o → Kind72 k o
  | 0, o, h => by have h' := Option.some.inj (h.symm.trans (rfl : ops72[0]? = some _)); subst h'; exact ⟨rfl, rfl, .inl ⟨rfl, rfl, rfl⟩⟩
  | 1, o, h => by have h' := Option.some.inj (h.symm.trans (rfl : ops72[1]? = some _)); subst h'; exact ⟨rfl, rfl, .inr (.inl ⟨0, _, rfl, rfl, rfl, rfl⟩)⟩
  | 2, o, h => by have h' := Option.some.inj (h.symm.trans (rfl : ops72[2]? = some _)); subst h'; exact ⟨rfl, rfl, .inr (.inr (.inl ⟨0, _, rfl, rfl, rfl, rfl, rfl, rfl⟩))⟩
  | 3, o, h => by have h' := Option.some.inj (h.symm.trans (rfl : ops72[3]? = some _)); subst h'; exact ⟨rfl, rfl, .inr (.inl ⟨1, _, rfl, rfl, rfl, rfl⟩)⟩
  | 4, o, h => by have h' := Option.some.inj (h.symm.trans (rfl : ops72[4]? = some _)); subst h'; exact ⟨rfl, rfl, .inr (.inr (.inl ⟨1, _, rfl, rfl, rfl, rfl, rfl, rfl⟩))⟩
  | 5, o, h => by have h' := Option.some.inj (h.symm.trans (rfl : ops72[5]? = some _)); subst h'; exact ⟨rfl, rfl, .inr (.inl ⟨2, _, rfl, rfl, rfl, rfl⟩)⟩
  | 6, o, h => by have h' := Option.some.inj (h.symm.trans (rfl : ops72[6]? = some _)); subst h'; exact ⟨rfl, rfl, .inr (.inr (.inl ⟨2, _, rfl, rfl, rfl, rfl, rfl, rfl⟩))⟩
  | 7, o, h => by have h' := Option.some.inj (h.symm.trans (rfl : ops72[7]? = some _)); subst h'; exact ⟨rfl, rfl, .inr (.inl ⟨3, _, rfl, rfl, rfl, rfl⟩)⟩
  | 8, o, h => by have h' := Option.some.inj (h.symm.trans (rfl : ops72[8]? = some _)); subst h'; exact ⟨rfl, rfl, .inr (.inr (.inl ⟨3, _, rfl, rfl, rfl, rfl, rfl, rfl⟩))⟩
  | 9, o, h => by have h' := Option.some.inj (h.symm.trans (rfl : ops72[9]? = some _)); subst h'; exact ⟨rfl, rfl, .inr (.inl ⟨4, _, rfl, rfl, rfl, rfl⟩)⟩
  | 10, o, h => by have h' := Option.some.inj (h.symm.trans (rfl : ops72[10]? = some _)); subst h'; exact ⟨rfl, rfl, .inr (.inr (.inl ⟨4, _, rfl, rfl, rfl, rfl, rfl, rfl⟩))⟩
  | 11, o, h => by have h' := Option.some.inj (h.symm.trans (rfl : ops72[11]? = some _)); subst h'; exact ⟨rfl, rfl, .inr (.inl ⟨5, _, rfl, rfl, rfl, rfl⟩)⟩
  | 12, o, h => by have h' := Option.some.inj (h.symm.trans (rfl : ops72[12]? = some _)); subst h'; exact ⟨rfl, rfl, .inr (.inr (.inl ⟨5, _, rfl, rfl, rfl, rfl, rfl, rfl⟩))⟩
  | 13, o, h => by have h' := Option.some.inj (h.symm.trans (rfl : ops72[13]? = some _)); subst h'; exact ⟨rfl, rfl, .inr (.inl ⟨6, _, rfl, rfl, rfl, rfl⟩)⟩
  | 14, o, h => by have h' := Option.some.inj (h.symm.trans (rfl : ops72[14]? = some _)); subst h'; exact ⟨rfl, rfl, .inr (.inr (.inl ⟨6, _, rfl, rfl, rfl, rfl, rfl, rfl⟩))⟩
  | 15, o, h => by have h' := Option.some.inj (h.symm.trans (rfl : ops72[15]? = some _)); subst h'; exact ⟨rfl, rfl, .inr (.inl ⟨7, _, rfl, rfl, rfl, rfl⟩)⟩
  | 16, o, h => by have h' := Option.some.inj (h.symm.trans (rfl : ops72[16]? = some _)); subst h'; exact ⟨rfl, rfl, .inr (.inr (.inl ⟨7, _, rfl, rfl, rfl, rfl, rfl, rfl⟩))⟩
  | 17, o, h => by have h' := Option.some.inj (h.symm.trans (rfl : ops72[17]? = some _)); subst h'; exact ⟨rfl, rfl, .inr (.inl ⟨8, _, rfl, rfl, rfl, rfl⟩)⟩
  | 18, o, h => by have h' := Option.some.inj (h.symm.trans (rfl : ops72[18]? = some _)); subst h'; exact ⟨rfl, rfl, .inr (.inr (.inl ⟨8, _, rfl, rfl, rfl, rfl, rfl, rfl⟩))⟩
  | 19, o, h => by have h' := Option.some.inj (h.symm.trans (rfl : ops72[19]? = some _)); subst h'; exact ⟨rfl, rfl, .inr (.inl ⟨9, _, rfl, rfl, rfl, rfl⟩)⟩
  | 20, o, h => by have h' := Option.some.inj (h.symm.trans (rfl : ops72[20]? = some _)); subst h'; exact ⟨rfl, rfl, .inr (.inr (.inl ⟨9, _, rfl, rfl, rfl, rfl, rfl, rfl⟩))⟩
  | 21, o, h => by have h' := Option.some.inj (h.symm.trans (rfl : ops72[21]? = some _)); subst h'; exact ⟨rfl, rfl, .inr (.inl ⟨10, _, rfl, rfl, rfl, rfl⟩)⟩
  | 22, o, h => by have h' := Option.some.inj (h.symm.trans (rfl : ops72[22]? = some _)); subst h'; exact ⟨rfl, rfl, .inr (.inr (.inl ⟨10, _, rfl, rfl, rfl, rfl, rfl, rfl⟩))⟩
  | 23, o, h => by have h' := Option.some.inj (h.symm.trans (rfl : ops72[23]? = some _)); subst h'; exact ⟨rfl, rfl, .inr (.inl ⟨11, _, rfl, rfl, rfl, rfl⟩)⟩
  | 24, o, h => by have h' := Option.some.inj (h.symm.trans (rfl : ops72[24]? = some _)); subst h'; exact ⟨rfl, rfl, .inr (.inr (.inl ⟨11, _, rfl, rfl, rfl, rfl, rfl, rfl⟩))⟩
  | 25, o, h => by have h' := Option.some.inj (h.symm.trans (rfl : ops72[25]? = some _)); subst h'; exact ⟨rfl, rfl, .inr (.inl ⟨12, _, rfl, rfl, rfl, rfl⟩)⟩
  | 26, o, h => by have h' := Option.some.inj (h.symm.trans (rfl : ops72[26]? = some _)); subst h'; exact ⟨rfl, rfl, .inr (.inr (.inl ⟨12, _, rfl, rfl, rfl, rfl, rfl, rfl⟩))⟩
  | 27, o, h => by have h' := Option.some.inj (h.symm.trans (rfl : ops72[27]? = some _)); subst h'; exact ⟨rfl, rfl, .inr (.inl ⟨13, _, rfl, rfl, rfl, rfl⟩)⟩
  | 28, o, h => by have h' := Option.some.inj (h.symm.trans (rfl : ops72[28]? = some _)); subst h'; exact ⟨rfl, rfl, .inr (.inr (.inl ⟨13, _, rfl, rfl, rfl, rfl, rfl, rfl⟩))⟩
  | 29, o, h => by have h' := Option.some.inj (h.symm.trans (rfl : ops72[29]? = some _)); subst h'; exact ⟨rfl, rfl, .inr (.inl ⟨14, _, rfl, rfl, rfl, rfl⟩)⟩
  | 30, o, h => by have h' := Option.some.inj (h.symm.trans (rfl : ops72[30]? = some _)); subst h'; exact ⟨rfl, rfl, .inr (.inr (.inl ⟨14, _, rfl, rfl, rfl, rfl, rfl, rfl⟩))⟩
  | 31, o, h => by have h' := Option.some.inj (h.symm.trans (rfl : ops72[31]? = some _)); subst h'; exact ⟨rfl, rfl, .inr (.inl ⟨15, _, rfl, rfl, rfl, rfl⟩)⟩
  | 32, o, h => by have h' := Option.some.inj (h.symm.trans (rfl : ops72[32]? = some _)); subst h'; exact ⟨rfl, rfl, .inr (.inr (.inl ⟨15, _, rfl, rfl, rfl, rfl, rfl, rfl⟩))⟩
  | 33, o, h => by have h' := Option.some.inj (h.symm.trans (rfl : ops72[33]? = some _)); subst h'; exact ⟨rfl, rfl, .inr (.inl ⟨16, _, rfl, rfl, rfl, rfl⟩)⟩
  | 34, o, h => by have h' := Option.some.inj (h.symm.trans (rfl : ops72[34]? = some _)); subst h'; exact ⟨rfl, rfl, .inr (.inr (.inl ⟨16, _, rfl, rfl, rfl, rfl, rfl, rfl⟩))⟩
  | 35, o, h => by have h' := Option.some.inj (h.symm.trans (rfl : ops72[35]? = some _)); subst h'; exact ⟨rfl, rfl, .inr (.inl ⟨17, _, rfl, rfl, rfl, rfl⟩)⟩
  | 36, o, h => by have h' := Option.some.inj (h.symm.trans (rfl : ops72[36]? = some _)); subst h'; exact ⟨rfl, rfl, .inr (.inr (.inl ⟨17, _, rfl, rfl, rfl, rfl, rfl, rfl⟩))⟩
  | 37, o, h => by have h' := Option.some.inj (h.symm.trans (rfl : ops72[37]? = some _)); subst h'; exact ⟨rfl, rfl, .inr (.inr (.inr (.inl ⟨rfl, rfl, rfl, rfl⟩)))⟩
  | 38, o, h => by have h' := Option.some.inj (h.symm.trans (rfl : ops72[38]? = some _)); subst h'; exact ⟨rfl, rfl, .inr (.inr (.inr (.inr ⟨rfl, rfl, rfl, rfl⟩)))⟩
  | k + 39, o, h => by
    have : ops72.size = 39 := rfl
    have := (Array.getElem?_eq_some_iff.1 h).1
    omega

structure CodI (w0 : World) (S : Nat → Prop) (a : Act) (w : World) : Prop where
  sz : a.tmps.size = 21
  df : a.defers = []
  bl : Below w0.heap.size w0 w
  b : ∀ j x, S (2 * j + 1) → tabF[j]? = some x → a.tmps[2 + j]? = some (keyV x.1 x.2.1)
  l : ∃ l, (∀ x, x ∈ l ↔ ∃ j, S (2 * j + 2) ∧ tabF[j]? = some x) ∧ (S 0 → a.tmps[1]? = some (.map (some w0.heap.size)) ∧ MapAt w w0.heap.size l ∧ w.heap.size = w0.heap.size + 1) ∧ (¬ S 0 → l = [] ∧ w.heap.size = w0.heap.size)
  m : S 37 → a.tmps[20]? = some (.map (some w0.heap.size))
  z : S 38 → a.tmps[0]? = some (.map (some w0.heap.size))
theorem tab_inj {i j : Nat} {x y : Int × Int × Int} (hi : tabF[i]? = some x) (hj : tabF[j]? = some y) (h : hasK x.1 x.2.1 y = true) : y = x :=
  tab_key x (List.mem_of_getElem? hi) y (List.mem_of_getElem? hj) h
theorem tab_uniq : ∀ i, i < 18 → ∀ j, j < 18 → tabF[i]? = tabF[j]? → i = j := by decide
theorem tab_idx {i j : Nat} {x : Int × Int × Int} (hi : tabF[i]? = some x) (hj : tabF[j]? = some x) : i = j := by
  have h1 := (List.getElem?_eq_some_iff.1 hi).1
  have h2 := (List.getElem?_eq_some_iff.1 hj).1
  exact tab_uniq i h1 j h2 (hi.trans hj.symm)
theorem ev_tmp {a : Act} {t : Nat} {v : Value} (h : a.tmps[t]? = some v) : a.eval (.tmp t) = v := by
  simp [Act.eval, h]
theorem put_get {a : Act} {d t : Nat} {v : Value} (h : d ≠ t) : (a.put (some d) v).tmps[t]? = a.tmps[t]? := by
  simp [Act.put, Array.getElem?_setIfInBounds_ne h]
theorem put_get_self {a : Act} {d : Nat} {v : Value} (h : d < a.tmps.size) : (a.put (some d) v).tmps[d]? = some v := by
  simp [Act.put, h]
theorem cod_step (w0 : World) (Q : Exit → Act → World → Prop) (S : Nat → Prop) (a : Act) (w : World) (k : Nat) (o : Oper) (ho : ops72[k]? = some o) (hk : ¬ S k) (hd : ∀ e ∈ o.after, Region.binds .any e = true → S e.on) (h : CodI w0 S a w) :
    o.wp Tryz.prog a w (fun a' w' => CodI w0 (fun j => S j ∨ j = k) a' w') Q := by
  obtain ⟨hg, _, kd⟩ := kind72 k o ho
  rcases kd with ⟨rfl, k1, k2⟩ | ⟨j, x, hx, rfl, k1, k2⟩ | ⟨j, x, hx, rfl, k1, k2, k3, k4⟩ | ⟨rfl, k1, k2, k3⟩ | ⟨rfl, k1, k2, k3⟩
  · -- the map is made
    obtain ⟨l, l1, l2, l3⟩ := h.l
    obtain ⟨rfl, hz⟩ := l3 hk
    have hr : (execOp a.eval o).run Tryz.prog w = .ok (.value (.map (some w.heap.size))) (w.alloc (.map #[] 0)) := by
      unfold execOp
      simp only [k2]
      rfl
    unfold Oper.wp
    rw [hr]
    show CodI w0 _ (a.put o.dst _) _
    rw [k1, hz]
    refine ⟨by simp [Act.put, h.sz], h.df, (h.bl.alloc (by omega) _), fun i y hs hy => ?_, ⟨[], fun y => ⟨fun q => (by cases q), fun ⟨i, q, hy⟩ => ?_⟩, fun _ => ⟨put_get_self (by rw [h.sz]; omega), ?_, by simp [hz]⟩, fun q => absurd (.inr rfl) q⟩, fun q => ?_, fun q => ?_⟩
    · rcases hs with hs | hs
      · rw [put_get (by omega)]; exact h.b i y hs hy
      · omega
    · rcases q with q | q
      · exact (l1 y).2 ⟨i, q, hy⟩
      · omega
    · unfold MapAt
      rw [← hz]
      show (w.heap.push (.map #[] 0))[w.heap.size]? = some (.map #[] 0)
      exact Array.getElem?_push_size
    · rcases q with q | q
      · rw [put_get (by omega)]; exact h.m q
      · omega
    · rcases q with q | q
      · rw [put_get (by omega)]; exact h.z q
      · omega
  · have hjl : j < 18 := (List.getElem?_eq_some_iff.1 hx).1
    have hr : (execOp a.eval o).run Tryz.prog w = .ok (.value (keyV x.1 x.2.1)) w := by
      unfold execOp
      simp only [k2]
      have e : (Array.map (fun p : Nat × Operand => (p.1, a.eval p.2)) #[(0, .const (.int .i64 x.1)), (1, .const (.int .i64 x.2.1))]) = #[(0, .int .i64 x.1), (1, .int .i64 x.2.1)] := by simp [Act.eval]
      simp only [Sem.run_bind]
      rw [e, build143]
      rfl
    unfold Oper.wp
    rw [hr]
    show CodI w0 _ (a.put o.dst _) _
    rw [k1]
    obtain ⟨l, l1, l2, l3⟩ := h.l
    refine ⟨by simp [Act.put, h.sz], h.df, h.bl, fun i y hs hy => ?_, ⟨l, fun y => (l1 y).trans ⟨fun ⟨i, q, hy⟩ => ⟨i, .inl q, hy⟩, fun ⟨i, q, hy⟩ => ⟨i, q.resolve_right (by omega), hy⟩⟩, fun q => ?_, fun q => l3 fun g => q (.inl g)⟩, fun q => ?_, fun q => ?_⟩
    · by_cases e : i = j
      · subst e
        rw [hx] at hy; cases hy
        exact put_get_self (by rw [h.sz]; omega)
      · rw [put_get (by omega)]
        exact h.b i y (hs.resolve_right (by omega)) hy
    · rw [put_get (by omega)]
      exact l2 (q.resolve_right (by omega))
    · rw [put_get (by omega)]
      exact h.m (q.resolve_right (by omega))
    · rw [put_get (by omega)]
      exact h.z (q.resolve_right (by omega))
  · have hjl : j < 18 := (List.getElem?_eq_some_iff.1 hx).1
    have s0 : S 0 := onB_out k3 hd
    have sj : S (2 * j + 1) := onB_out k4 hd
    obtain ⟨l, l1, l2, l3⟩ := h.l
    obtain ⟨m1, m2, m3⟩ := l2 s0
    have hins := run_insert143 w w0.heap.size l x m2 (fun y hy => by
      obtain ⟨i, hs, hi⟩ := (l1 y).1 hy
      cases q : hasK x.1 x.2.1 y with
      | false => rfl
      | true =>
        have := tab_inj hx hi q
        subst this
        have := tab_idx hi hx
        subst this
        exact absurd hs hk)
    have hr : (execOp a.eval o).run Tryz.prog w = .ok .skip (World.setB w w0.heap.size (.map (entsF (l ++ [x]) 0).toArray (l ++ [x]).length)) := by
      unfold execOp
      simp only [k2, ev_tmp m1, ev_tmp (h.b j x sj hx)]
      simp only [Act.eval, Sem.run_bind, hins, Result.andThen_ok]
      rfl
    unfold Oper.wp
    rw [hr]
    show CodI w0 _ (a.put o.dst _) _
    rw [k1]
    have hlt : w0.heap.size < w.heap.size := by omega
    refine ⟨h.sz, h.df, ⟨h.bl.os, h.bl.tape, h.bl.output, by simp only [World.setB, Array.size_setIfInBounds]; exact h.bl.size, fun q hq => ?_⟩, fun i y hs hy => h.b i y (hs.resolve_right (by omega)) hy, ⟨l ++ [x], fun y => ?_, fun _ => ⟨m1, ?_, by simp only [World.setB, Array.size_setIfInBounds]; exact m3⟩, fun q => absurd (.inl s0) q⟩, fun q => h.m (q.resolve_right (by omega)), fun q => h.z (q.resolve_right (by omega))⟩
    · simp only [World.setB]
      rw [Array.getElem?_setIfInBounds_ne (by omega)]
      exact h.bl.block q hq
    · rw [List.mem_append, List.mem_singleton, l1 y]
      constructor
      · rintro (⟨i, q, hy⟩ | rfl)
        · exact ⟨i, .inl q, hy⟩
        · exact ⟨j, .inr rfl, hx⟩
      · rintro ⟨i, q | q, hy⟩
        · exact .inl ⟨i, q, hy⟩
        · have : i = j := by omega
          subst this
          rw [hx] at hy; cases hy
          exact .inr rfl
    · unfold MapAt World.setB
      simp [hlt]
  · have s0 : S 0 := onB_out k3 hd
    obtain ⟨l, l1, l2, l3⟩ := h.l
    have hr : (execOp a.eval o).run Tryz.prog w = .ok (.value (.map (some w0.heap.size))) w := by
      unfold execOp
      simp only [k2, ev_tmp (l2 s0).1]
      rfl
    unfold Oper.wp
    rw [hr]
    show CodI w0 _ (a.put o.dst _) _
    rw [k1]
    refine ⟨by simp [Act.put, h.sz], h.df, h.bl, fun i y hs hy => ?_, ⟨l, fun y => (l1 y).trans ⟨fun ⟨i, q, hy⟩ => ⟨i, .inl q, hy⟩, fun ⟨i, q, hy⟩ => ⟨i, q.resolve_right (by have := (List.getElem?_eq_some_iff.1 hy).1; have e : tabF.length = 18 := rfl; omega), hy⟩⟩, fun q => ?_, fun q => absurd (.inl s0) q⟩, fun q => put_get_self (by rw [h.sz]; omega), fun q => ?_⟩
    · have hi := (List.getElem?_eq_some_iff.1 hy).1
      have e : tabF.length = 18 := rfl
      rw [put_get (by omega)]
      exact h.b i y (hs.resolve_right (by omega)) hy
    · rw [put_get (by omega)]
      exact l2 s0
    · rw [put_get (by omega)]
      exact h.z (q.resolve_right (by omega))
  · have s0 : S 37 := onB_out k3 hd
    obtain ⟨l, l1, l2, l3⟩ := h.l
    have hr : (execOp a.eval o).run Tryz.prog w = .ok (.value (.map (some w0.heap.size))) w := by
      unfold execOp
      simp only [k2, ev_tmp (h.m s0)]
      rfl
    unfold Oper.wp
    rw [hr]
    show CodI w0 _ (a.put o.dst _) _
    rw [k1]
    refine ⟨by simp [Act.put, h.sz], h.df, h.bl, fun i y hs hy => ?_, ⟨l, fun y => (l1 y).trans ⟨fun ⟨i, q, hy⟩ => ⟨i, .inl q, hy⟩, fun ⟨i, q, hy⟩ => ⟨i, q.resolve_right (by have := (List.getElem?_eq_some_iff.1 hy).1; have e : tabF.length = 18 := rfl; omega), hy⟩⟩, fun q => ?_, fun q => l3 fun g => q (.inl g)⟩, fun q => ?_, fun q => put_get_self (by rw [h.sz]; omega)⟩
    · have hi := (List.getElem?_eq_some_iff.1 hy).1
      have e : tabF.length = 18 := rfl
      rw [put_get (by omega)]
      exact h.b i y (hs.resolve_right (by omega)) hy
    · rw [put_get (by omega)]
      exact l2 (q.resolve_right (by omega))
    · rw [put_get (by omega)]
      exact h.m (q.resolve_right (by omega))
/-- what codes hands back -/
theorem codes_any (w : World) : Calls Tryz.prog 72 #[] w fun e w' => ∃ r l, e = .returned (.map (some r)) ∧ w.heap.size ≤ r ∧ MapAt w' r l ∧ (∀ x, x ∈ l ↔ x ∈ tabF) ∧ Below w.heap.size w w' := by
  go_enter Tryz.func72, Tryz.ntmps72
  go_upto_region 1 with fail
  refine wp_region_any (by kernel_rfl) ?_
  generalize hW : { w with drawn := w.drawn + 1 } = W
  have bW : Below w.heap.size w W := by rw [← hW]; exact ⟨rfl, rfl, rfl, Nat.le_refl _, fun _ _ => rfl⟩
  have sW : W.heap.size = w.heap.size := by rw [← hW]
  show wpAny Tryz.prog .any ops72 _ _ _ _ _
  refine wpAny_inv (CodI W) (fun j o ho => backB_out (kind72 j o ho).2.1) (fun j o ho => (kind72 j o ho).1) ?_ (fun S a w k o ho hk hd h => cod_step W _ S a w k o ho hk hd h) _ _ _ _ rfl ?_ ?_
  · intro S a w' hS hi
    refine (‹∀ (a : Act) (w : World), Code.wp Tryz.prog Code.ret _ a w → _› a w' ?_)
    refine wp_ret ?_
    obtain ⟨l, l1, l2, l3⟩ := hi.l
    have h0 := hi.z (hS 38 (by decide))
    obtain ⟨m1, m2, m3⟩ := l2 (hS 0 (by decide))
    refine bodyPost_ret (v := .map (some W.heap.size)) (by simp [results, Tryz.results72, go_sem, h0]) hi.df ⟨W.heap.size, l, rfl, by omega, m2, fun x => (l1 x).trans ⟨fun ⟨j, _, h⟩ => List.mem_of_getElem? h, fun h => ?_⟩, bW.trans (hi.bl.mono (by omega))⟩
    obtain ⟨j, hj⟩ := List.mem_iff_getElem?.1 h
    refine ⟨j, hS _ ?_, hj⟩
    have h1 := (List.getElem?_eq_some_iff.1 hj).1
    have e : tabF.length = 18 := rfl
    have e2 : ops72.size = 39 := rfl
    omega
  · decide
  · refine ⟨rfl, rfl, Below.refl _ _, fun j x q => ?_, ⟨[], fun x => ⟨fun q => (by cases q), fun ⟨j, q, _⟩ => ?_⟩, fun q => ?_, fun _ => ⟨rfl, rfl⟩⟩, fun q => ?_, fun q => ?_⟩
    · exact absurd q (not_isLd _ _)
    · exact absurd q (not_isLd _ _)
    · exact absurd q (not_isLd _ _)
    · exact absurd q (not_isLd _ _)
    · exact absurd q (not_isLd _ _)
end Go.Proofs.YtpkclnkibhgpkaaGreat
