/-
A region whose order is drawn: what the run in the written order says of each of its operations. Its conditions: none.
-/
import Derived.Test.YtpkclnkibhgpkaaGreatXU
import Derived.Orders
namespace Go.Proofs.YtpkclnkibhgpkaaGreat.Sx
open Go Go.RowKit
variable {P : Program}

theorem bitOn_land {a b i : Nat} (h : Nat.land a b = 0) (ha : bitOn a i = true) : bitOn b i = false := by
  rw [bitOn_eq] at ha ⊢
  have : (Nat.land a b).testBit i = (a.testBit i && b.testBit i) := Nat.testBit_and a b i
  rw [h, Nat.zero_testBit, ha, Bool.true_and] at this
  exact this.symm
theorem bitOn_shr {a n i : Nat} (h : Nat.shiftRight a n = 0) (hi : bitOn a i = true) : i < n := by
  rcases Nat.lt_or_ge i n with q | q
  · exact q
  · have : (a >>> n).testBit (i - n) = a.testBit (n + (i - n)) := Nat.testBit_shiftRight a
    have h' : a >>> n = 0 := h
    rw [h', Nat.zero_testBit, show n + (i - n) = i by omega, ← bitOn_eq, hi] at this
    cases this
theorem bitOn_rest {n un i : Nat} (hi : i < n) (hu : bitOn un i = false) : bitOn (Nat.xor (Nat.sub (bit1 n) 1) un) i = true := by
  rw [bitOn_eq] at hu ⊢
  have e : Nat.sub (bit1 n) 1 = 2 ^ n - 1 := by
    show (1 <<< n) - 1 = _
    rw [Nat.shiftLeft_eq, Nat.one_mul]
  rw [e]
  have : ((2 ^ n - 1) ^^^ un).testBit i = ((2 ^ n - 1).testBit i ^^ un.testBit i) := Nat.testBit_xor _ _ _
  show ((2 ^ n - 1) ^^^ un).testBit i = true
  rw [this, Nat.testBit_two_pow_sub_one, hu, decide_eq_true hi]; rfl
theorem getB_app {l m : List (Nat × Blk)} {id : Nat} : getB (l ++ m) id = match getB l id with | some b => some b | none => getB m id := getB_append
theorem getB_dropM {m id : Nat} : ∀ hp : List (Nat × Blk), getB (dropM m hp) id = if bitOn m id then none else getB hp id
  | [] => by simp [dropM, getB]
  | (i, b) :: r => by
    have ih := getB_dropM (m := m) (id := id) r
    simp only [dropM]
    cases q : bitOn m i
    · rw [cond_false, getB_cons, getB_cons, ih]
      cases q2 : Nat.beq i id
      · rfl
      · rw [beq_iff] at q2; subst q2; rw [q]; rfl
    · rw [cond_true, ih, getB_cons]
      cases q2 : Nat.beq i id
      · rfl
      · rw [beq_iff] at q2; subst q2; rw [q]; rfl
theorem getB_keepM {m id : Nat} : ∀ hp : List (Nat × Blk), getB (keepM m hp) id = if bitOn m id then getB hp id else none
  | [] => by simp [keepM, getB]
  | (i, b) :: r => by
    have ih := getB_keepM (m := m) (id := id) r
    simp only [keepM]
    cases q : bitOn m i
    · rw [cond_false, ih, getB_cons]
      cases q2 : Nat.beq i id
      · rfl
      · rw [beq_iff] at q2; subst q2; rw [q]; rfl
    · rw [cond_true, getB_cons, getB_cons, ih]
      cases q2 : Nat.beq i id
      · rfl
      · rw [beq_iff] at q2; subst q2; rw [q]; rfl
theorem restr_get {tm : Tr ST} : ∀ (l : List Nat) (t : Tr ST) (k : Nat), (restr tm l t).get k = if k ∈ l then tm.get k else t.get k
  | [], t, k => by simp [restr]
  | x :: r, t, k => by
    simp only [restr]
    rw [restr_get r]
    by_cases h : k ∈ r
    · rw [if_pos h, if_pos (List.mem_cons_of_mem _ h)]
    · rw [if_neg h, get_set]
      by_cases e : k = x
      · subst e; rw [if_pos rfl, if_pos List.mem_cons_self]
      · rw [if_neg e, if_neg (by simp [e, h])]
theorem memN_iff {n : Nat} : ∀ {l : List Nat}, memN n l = true ↔ n ∈ l
  | [] => by simp [memN]
  | a :: r => by
    simp only [memN, List.mem_cons]
    cases q : Nat.beq a n
    · rw [cond_false, memN_iff]
      constructor
      · exact .inr
      · rintro (rfl | h)
        · rw [beq_iff.2 rfl] at q; cases q
        · exact h
    · rw [beq_iff] at q; subst q; simp

/-- what orders say: which operations surely come before which -/
structure PlanOK (l : List Oper) (bs : List Nat) : Prop where
  len : bs.length = l.length
  back : ∀ (k : Nat) (o : Oper), l[k]? = some o → ∀ e ∈ o.after, Region.binds .any e = true → e.on < k
  bits : ∀ (k : Nat) (o : Oper) (m : Nat), l[k]? = some o → bs[k]? = some m → ∀ i, bitOn m i = true → ∃ e ∈ o.after, Region.binds .any e = true ∧ (i = e.on ∨ ∃ m', bs[e.on]? = some m' ∧ bitOn m' i = true)
  apart : ∀ (k : Nat) (o : Oper) (m : Nat), l[k]? = some o → bs[k]? = some m → ∀ (j : Nat) (o' : Oper), j < k → l[j]? = some o' → bitOn m j = false → apart l o o' = true
theorem befOne_ok {bs : List Nat} {i : Nat} : ∀ {l : List Edge} {m r : Nat}, befOne bs i l m = some r →
    (∀ e ∈ l, Region.binds .any e = true → e.on < i) ∧ ∀ x, bitOn r x = true → bitOn m x = true ∨ ∃ e ∈ l, Region.binds .any e = true ∧ (x = e.on ∨ ∃ m', bs[e.on]? = some m' ∧ bitOn m' x = true)
  | [], m, r, h => by
    cases h
    exact ⟨fun e he => (by cases he), fun x hx => .inl hx⟩
  | e :: l, m, r, h => by
    simp only [befOne] at h
    cases q : Region.binds .any e
    · rw [q, cond_false] at h
      obtain ⟨h1, h2⟩ := befOne_ok h
      refine ⟨fun e' he hb => ?_, fun x hx => ?_⟩
      · rcases List.mem_cons.1 he with rfl | he
        · rw [q] at hb; cases hb
        · exact h1 e' he hb
      · rcases h2 x hx with g | ⟨e', he, hb, g⟩
        · exact .inl g
        · exact .inr ⟨e', List.mem_cons_of_mem _ he, hb, g⟩
    · rw [q, cond_true] at h
      cases q2 : Nat.blt e.on i
      · rw [q2] at h; cases h
      · rw [q2, cond_true] at h
        split at h
        · rename_i b hb
          rw [nthL_eq] at hb
          obtain ⟨h1, h2⟩ := befOne_ok h
          refine ⟨fun e' he hb' => ?_, fun x hx => ?_⟩
          · rcases List.mem_cons.1 he with rfl | he
            · simpa using q2
            · exact h1 e' he hb'
          · rcases h2 x hx with g | ⟨e', he, hb', g⟩
            · rw [bitOn_lor, bitOn_lor, Bool.or_eq_true, Bool.or_eq_true, bitOn_bit1] at g
              rcases g with g | g | g
              · exact .inl g
              · exact .inr ⟨e, List.mem_cons_self, q, .inl (by simpa using (of_decide_eq_true g).symm)⟩
              · exact .inr ⟨e, List.mem_cons_self, q, .inr ⟨b, hb, g⟩⟩
            · exact .inr ⟨e', List.mem_cons_of_mem _ he, hb', g⟩
        · cases h
theorem befAll_ok : ∀ {r : List Oper} {bs : List Nat} {i : Nat} {r' : List Nat}, befAll r bs i = some r' → bs.length = i →
    (∃ z, r' = bs ++ z ∧ z.length = r.length) ∧ ∀ k o, r[k]? = some o → (∀ e ∈ o.after, Region.binds .any e = true → e.on < i + k) ∧
      ∀ m, r'[i + k]? = some m → ∀ x, bitOn m x = true → ∃ e ∈ o.after, Region.binds .any e = true ∧ (x = e.on ∨ ∃ m', r'[e.on]? = some m' ∧ bitOn m' x = true)
  | [], bs, i, r', h, hl => by
    cases h
    exact ⟨⟨[], by simp, rfl⟩, fun k o q => by simp at q⟩
  | o :: r, bs, i, r', h, hl => by
    simp only [befAll] at h
    split at h
    · rename_i m hm
      obtain ⟨g1, g2⟩ := befOne_ok hm
      obtain ⟨⟨z, hz, hzl⟩, ih⟩ := befAll_ok h (by simp [hl])
      refine ⟨⟨m :: z, by rw [hz]; simp, by simp [hzl]⟩, fun k o' ho => ?_⟩
      cases k with
      | zero =>
        simp only [List.getElem?_cons_zero, Option.some.injEq] at ho
        subst ho
        refine ⟨fun e he hb => g1 e (by simpa using he) hb, fun m' hm' x hx => ?_⟩
        rw [hz, Nat.add_zero, List.append_assoc, List.getElem?_append_right (by omega), hl, Nat.sub_self] at hm'
        simp at hm'
        subst hm'
        rcases g2 x hx with g | ⟨e, he, hb, g⟩
        · rw [bitOn_zero] at g; cases g
        · refine ⟨e, by simpa using he, hb, ?_⟩
          rcases g with g | ⟨m', k1, k2⟩
          · exact .inl g
          · refine .inr ⟨m', ?_, k2⟩
            have hlt : e.on < bs.length := (List.getElem?_eq_some_iff.1 k1).1
            rw [hz, List.append_assoc, List.getElem?_append_left hlt]
            exact k1
      | succ k =>
        have := ih k o' (by simpa using ho)
        rw [show Nat.succ i + k = i + (k + 1) by omega] at this
        exact this
    · cases h
theorem apartRow_ok {all : List Oper} {o : Oper} {m : Nat} : ∀ {r : List Oper} {j : Nat}, apartRow all o m r j = true → ∀ k o', r[k]? = some o' → bitOn m (j + k) = false → apart all o o' = true
  | [], _, _, k, o', h, _ => by simp at h
  | o1 :: r, j, h, k, o', ho, hb => by
    simp only [apartRow] at h
    have rest : apartRow all o m r (Nat.succ j) = true := by
      cases q : bitOn m j
      · rw [q, cond_false] at h
        cases q2 : apart all o o1
        · rw [q2] at h; cases h
        · rw [q2] at h; exact h
      · rw [q] at h; exact h
    cases k with
    | zero =>
      simp only [List.getElem?_cons_zero, Option.some.injEq] at ho
      subst ho
      rw [Nat.add_zero] at hb
      rw [hb, cond_false] at h
      cases q2 : apart all o o1
      · rw [q2] at h; cases h
      · rfl
    | succ k => exact apartRow_ok rest k o' (by simpa using ho) (by rw [show Nat.succ j + k = j + (k + 1) by omega]; exact hb)
theorem apartAll_ok {all : List Oper} {bs : List Nat} : ∀ {r : List Oper} {i : Nat}, apartAll all bs r i = true → ∀ k o m, r[k]? = some o → bs[i + k]? = some m → ∀ j o', j < i + k → all[j]? = some o' → bitOn m j = false → apart all o o' = true
  | [], _, _, k, o, m, h, _ => by simp at h
  | o1 :: r, i, h, k, o, m, ho, hm => by
    simp only [apartAll] at h
    split at h
    · rename_i m1 hm1
      rw [nthL_eq] at hm1
      cases q : apartRow all o1 m1 (takeL i all) 0
      · rw [q] at h; cases h
      · rw [q, cond_true] at h
        cases k with
        | zero =>
          simp only [List.getElem?_cons_zero, Option.some.injEq] at ho
          subst ho
          rw [Nat.add_zero, hm1] at hm
          cases hm
          intro j o' hj ho' hb
          refine apartRow_ok q j o' ?_ (by rw [Nat.zero_add]; exact hb)
          rw [takeL_eq, List.getElem?_take, if_pos (by omega)]
          exact ho'
        | succ k =>
          have := apartAll_ok h k o m (by simpa using ho) (by rw [show Nat.succ i + k = i + (k + 1) by omega]; exact hm)
          rw [show Nat.succ i + k = i + (k + 1) by omega] at this
          exact this
    · cases h
theorem plan_ok {l : List Oper} {bs : List Nat} (h : plan l = some bs) : PlanOK l bs := by
  unfold plan at h
  split at h
  · rename_i bs' hb
    cases q : apartAll l bs' l 0
    · rw [q] at h; cases h
    · rw [q] at h; cases h
      obtain ⟨⟨z, hz, hzl⟩, g⟩ := befAll_ok hb rfl
      refine ⟨by rw [hz]; simpa using hzl, fun k o ho e he hb' => ?_, fun k o m ho hm i hi => ?_, fun k o m ho hm j o' hj ho' hb' => ?_⟩
      · have := (g k o ho).1 e he hb'
        omega
      · exact (g k o ho).2 m (by rw [Nat.zero_add]; exact hm) i hi
      · exact apartAll_ok q k o m ho (by rw [Nat.zero_add]; exact hm) j o' (by omega) ho' hb'
  · cases h

theorem unOf_ok {m : Nat} : ∀ {l : List DRec} {j : Nat}, (∀ x, bitOn (unOf m l j).1 x = true ↔ ∃ k d, l[k]? = some d ∧ bitOn m (j + k) = false ∧ bitOn d.touch x = true) ∧ (∀ x, bitOn (unOf m l j).2 x = true ↔ ∃ k d, l[k]? = some d ∧ bitOn m (j + k) = false ∧ bitOn d.view x = true)
  | [], j => by simp [unOf, bitOn_zero]
  | d :: r, j => by
    have ih := unOf_ok (m := m) (l := r) (j := Nat.succ j)
    have shift : ∀ F : DRec → Prop, (∃ k d', (d :: r)[k]? = some d' ∧ bitOn m (j + k) = false ∧ F d') ↔ (bitOn m j = false ∧ F d) ∨ ∃ k d', r[k]? = some d' ∧ bitOn m (Nat.succ j + k) = false ∧ F d' := by
      intro F
      constructor
      · rintro ⟨k, d', h1, h2, h3⟩
        cases k with
        | zero => simp at h1; subst h1; exact .inl ⟨h2, h3⟩
        | succ k => exact .inr ⟨k, d', by simpa using h1, by rw [show Nat.succ j + k = j + (k + 1) by omega]; exact h2, h3⟩
      · rintro (⟨h1, h2⟩ | ⟨k, d', h1, h2, h3⟩)
        · exact ⟨0, d, rfl, h1, h2⟩
        · exact ⟨k + 1, d', by simpa using h1, by rw [show j + (k + 1) = Nat.succ j + k by omega]; exact h2, h3⟩
    simp only [unOf]
    cases q : unOf m r (Nat.succ j) with
    | mk t v =>
      rw [q] at ih
      refine ⟨fun x => ?_, fun x => ?_⟩
      · rw [shift (fun d => bitOn d.touch x = true)]
        cases q2 : bitOn m j
        · simp only [cond_false, bitOn_lor, Bool.or_eq_true, true_and]
          rw [ih.1 x]
          exact Or.comm
        · simp only [cond_true]
          rw [ih.1 x]
          simp
      · rw [shift (fun d => bitOn d.view x = true)]
        cases q2 : bitOn m j
        · simp only [cond_false, bitOn_lor, Bool.or_eq_true, true_and]
          rw [ih.2 x]
          exact Or.comm
        · simp only [cond_true]
          rw [ih.2 x]
          simp
end Go.Proofs.YtpkclnkibhgpkaaGreat.Sx
