/-
The operations that look at no memory do what the run tells of them, continued. Its conditions: that the tables of types tell the program's types.
-/
import Derived.Test.YtpkclnkibhgpkaaGreatXD
namespace Go.Proofs.YtpkclnkibhgpkaaGreat.Sx
open Go
variable {P : Program}

theorem eqGuard_plain (op : BinOp) (t : Nat) (ox oy : Operand) (u v : Value) (h1 : u ≠ .nilIface) (h2 : ∀ cs, u ≠ .agg cs) (w : World) : (eqGuard op t ox oy u v).run P w = .ok () w := by
  unfold eqGuard
  cases op <;> simp only [Bool.not_true, Bool.not_false, Bool.false_eq_true, if_true, if_false] <;> first | rfl | (cases u <;> first | rfl | (exact absurd rfl h1) | (exact absurd rfl (h2 _)))
theorem bind_run {α β : Type} {x : Sem α} {f : α → Sem β} {w w' : World} {a : α} (h : x.run P w = .ok a w') : (x >>= f).run P w = (f a).run P w' := by rw [Sem.run_bind, h]; rfl
theorem TysOK.int [Sh] {ty : Tr TyD} (h : TysOK P ty) {t s b : Nat} {k : IntKind} {z : List SC} (g : ty.get t = some ⟨.int k, s, b, z⟩) : P.underlying t = some (.int k) := by
  obtain ⟨desc, h1, h2⟩ := (h t _ g).und
  cases desc <;> simp [tdOK] at h2
  subst h2; exact h1
theorem TysOK.bool [Sh] {ty : Tr TyD} (h : TysOK P ty) {t s b : Nat} {z : List SC} (g : ty.get t = some ⟨.bool, s, b, z⟩) : P.underlying t = some .bool := by
  obtain ⟨desc, h1, h2⟩ := (h t _ g).und
  cases desc <;> simp [tdOK] at h2
  exact h1
theorem eqBB_val (a b : SB) : (eqBB a b).val = (a.val == b.val) := by unfold eqBB; split <;> rfl
theorem run_equalIn_bool {t : Nat} (h : P.underlying t = some .bool) (d : Nat) (a b : Bool) (w : World) : (Op.equalIn (d + 1) t (.bool a) (.bool b)).run P w = .ok (a == b) w := by
  unfold Op.equalIn
  rw [bind_run (run_underlying h w)]
  rfl
theorem run_eql_bool {t : Nat} (h : P.underlying t = some .bool) (a b : Bool) (w : World) : (binOp .eql t (.bool a) (.bool b)).run P w = .ok (.bool (a == b)) w := by
  show (Op.equal t (.bool a) (.bool b) >>= fun x => (pure (Value.bool x) : Sem Value)).run P w = _
  have hh : (Op.equal t (.bool a) (.bool b)).run P w = .ok (a == b) w := run_equalIn_bool h 9999 a b w
  rw [bind_run hh]; rfl
theorem run_neq_bool {t : Nat} (h : P.underlying t = some .bool) (a b : Bool) (w : World) : (binOp .neq t (.bool a) (.bool b)).run P w = .ok (.bool (!(a == b))) w := by
  show (Op.equal t (.bool a) (.bool b) >>= fun x => (pure (Value.bool (!x)) : Sem Value)).run P w = _
  have hh : (Op.equal t (.bool a) (.bool b)).run P w = .ok (a == b) w := run_equalIn_bool h 9999 a b w
  rw [bind_run hh]; rfl
theorem bytesL_eq : ∀ l : List UInt8, bytesL l = l.map UInt8.toNat
  | [] => rfl
  | a :: r => by simp only [bytesL, List.map_cons, bytesL_eq r]
theorem natsEq_iff : ∀ {l m : List Nat}, natsEq l m = true ↔ l = m
  | [], [] => by simp [natsEq]
  | [], _ :: _ => by simp [natsEq]
  | _ :: _, [] => by simp [natsEq]
  | a :: r, b :: s => by
    simp only [natsEq]
    cases q : Nat.beq a b
    · rw [cond_false]
      constructor
      · intro h; cases h
      · intro h; cases h; rw [beq_iff.2 rfl] at q; cases q
    · rw [beq_iff] at q; subst q
      rw [cond_true, natsEq_iff]; simp
theorem bytesL_same (a b : List UInt8) : natsEq (bytesL a) (bytesL b) = (a == b) := by
  rw [Bool.eq_iff_iff, natsEq_iff, bytesL_eq, bytesL_eq, beq_iff_eq]
  constructor
  · exact fun h => List.map_inj_right (fun x y q => UInt8.toNat_inj.1 q) |>.1 h
  · intro h; rw [h]
theorem strBin_run [Sh] {op : BinOp} {a b : ByteArray} {r : LC} (h : strBin op a b = some r) (w : World) (β : Nat → Option Nat) : ∃ z, (Op.stringOp op a b).run P w = .ok z w ∧ RepL β r z := by
  unfold strBin at h
  split at h
  · cases h
    refine ⟨_, rfl, ?_⟩
    simp only [RepL, SB.val, bytesL_same, ByteArray.toList_eq]
  · cases h
    refine ⟨_, rfl, ?_⟩
    simp only [RepL, SB.val, bytesL_same, ByteArray.toList_eq]
  · cases h
theorem binS_run [Sh] {e : Env} (he : TysOK P e.ty) {op : BinOp} {t : Nat} {x y r : ST} (h : binS e op t x y = some r) {β : Nat → Option Nat} {u v : Value} (hx : RepT β x u) (hy : RepT β y v) (ox oy : Operand) (w : World) :
    ∃ z, (do eqGuard op t ox oy u v; binOp op t u v : Sem Value).run P w = .ok z w ∧ RepT β r z := by
  unfold binS at h
  split at h
  · rename_i k a k' b
    obtain rfl := hx.intv
    obtain rfl := hy.intv
    rw [bind_run (eqGuard_plain op t ox oy _ _ (by simp) (by simp) w)]
    split at h
    · cases g : shlS k a b with
      | none => rw [g] at h; cases h
      | some q =>
        rw [g] at h; cases h
        obtain ⟨h1, h2⟩ := shlS_val g
        refine ⟨.int k (shlF k a.val b.val), ?_, ?_⟩
        · simp only [binOp, Op.shift, if_neg (show ¬ b.val < 0 by omega)]; rfl
        · show _ = _; rw [h2]
    · cases g : shrS k a b with
      | none => rw [g] at h; cases h
      | some q =>
        rw [g] at h; cases h
        obtain ⟨h1, h2⟩ := shrS_val g
        refine ⟨.int k (shrF k a.val b.val), ?_, ?_⟩
        · simp only [binOp, Op.shift, if_neg (show ¬ b.val < 0 by omega)]; rfl
        · show _ = _; rw [h2]
    · cases g : kindEq k k'
      · rw [g] at h; cases h
      · obtain rfl := kindEq_iff g
        rw [g] at h
        simp only [cond_true] at h
        cases q : intBin op k a b with
        | none => rw [q] at h; cases h
        | some z =>
          rw [q] at h; cases h
          obtain ⟨v, hv, hr⟩ := intBin_run (P := P) q t w β
          exact ⟨v, hv, hr⟩
  · rename_i a b
    obtain rfl := hx.boolv
    obtain rfl := hy.boolv
    rw [bind_run (eqGuard_plain op t ox oy _ _ (by simp) (by simp) w)]
    cases q : boolBin e op t a b with
    | none => rw [q] at h; cases h
    | some z =>
      rw [q] at h; cases h
      unfold boolBin at q
      split at q
      · rename_i g; cases q
        exact ⟨_, run_eql_bool (he.bool g) _ _ w, by show _ = _; rw [eqBB_val]⟩
      · rename_i g; cases q
        exact ⟨_, run_neq_bool (he.bool g) _ _ w, by show _ = _; rw [notB_val, eqBB_val]⟩
      · cases q
  · rename_i a b
    obtain ⟨rfl, _⟩ : u = .string a ∧ _ := hx
    obtain ⟨rfl, _⟩ : v = .string b ∧ _ := hy
    rw [bind_run (eqGuard_plain op t ox oy _ _ (by simp) (by simp) w)]
    cases q : strBin op a b with
    | none => rw [q] at h; cases h
    | some z =>
      rw [q] at h; cases h
      obtain ⟨z', hz, hr⟩ := strBin_run (P := P) q w β
      refine ⟨z', ?_, hr⟩
      cases op <;> exact hz
  · rename_i a b _ _ _
    cases q : nilBin e op t (asL a) (asL b) with
    | none => rw [q] at h; cases h
    | some z =>
      rw [q] at h; cases h
      obtain ⟨⟨x, n, c, _, rfl, rfl, _⟩, z', hz, hr⟩ := nilBin_run he q (asL_rep hx) (asL_rep hy) w
      rw [bind_run (eqGuard_plain op t ox oy _ _ (by simp) (by simp) w)]
      exact ⟨z', hz, hr⟩
  · cases h
theorem unS_run [Sh] {op : UnOp} {x r : ST} (h : unS op x = some r) {β : Nat → Option Nat} {u : Value} (hx : RepT β x u) (w : World) : ∃ z, (Op.unary op u).run P w = .ok z w ∧ RepT β r z := by
  unfold unS at h
  split at h
  · rename_i b
    obtain rfl := hx.boolv
    cases h
    exact ⟨.bool (!b.val), rfl, by show _ = _; rw [notB_val]⟩
  · rename_i k a
    obtain rfl := hx.intv
    cases h
    exact ⟨.int k (k.wrap (0 - a.val)), rfl, by show _ = _; rw [subS_val]; rfl⟩
  · cases h
theorem convS_run [Sh] {e : Env} (he : TysOK P e.ty) {src dst : Nat} {x r : ST} (h : convS' e dst x = some r) {β : Nat → Option Nat} {u : Value} (hx : RepT β x u) (w : World) (hs : ∃ d, P.underlying src = some d) :
    ∃ z, (convert src dst u).run P w = .ok z w ∧ RepT β r z := by
  unfold convS' at h
  split at h
  · rename_i k s b z k' a g
    obtain rfl := hx.intv
    cases h
    obtain ⟨desc, h1, h2⟩ := (he dst _ g).und
    cases desc <;> simp [tdOK] at h2
    subst h2
    obtain ⟨ds, hs⟩ := hs
    refine ⟨.int k (k.wrap a.val), ?_, ?_⟩
    · unfold convert
      rw [bind_run (run_underlying hs w), bind_run (run_underlying h1 w)]
      cases ds <;> rfl
    · show _ = _; rw [convS_val]
  · cases h
theorem nilCheckS_rep [Sh] {x r : ST} (h : nilCheckS x = some r) : r = x ∧ ∀ {β : Nat → Option Nat} {u : Value}, RepT β x u → (∃ a, u = .pointer (some a)) ∨ ∃ f a b, u = .func (.func f) a b := by
  unfold nilCheckS at h
  split at h
  · cases h; exact ⟨rfl, fun ⟨n, _, e⟩ => .inl ⟨_, e⟩⟩
  · cases h; exact ⟨rfl, fun ⟨_, n, _, e⟩ => .inl ⟨_, e⟩⟩
  · cases h; exact ⟨rfl, fun ⟨ws, us, e, _⟩ => .inr ⟨_, _, _, e⟩⟩
  · cases h

theorem fieldOf_some [Sh] {e : Env} (he : TysOK P e.ty) {t f off : Nat} {d : TyD} (h : fieldOf e t f = some (off, d)) : ∃ (fs : Array Field) (fd : Field), P.underlying t = some (.struct fs) ∧ fs[f]? = some fd ∧ fd.offset = off ∧ TyOK P fd.type d := by
  unfold fieldOf at h
  split at h
  · rename_i l s b z g
    obtain ⟨desc, h1, h2⟩ := (he t _ g).und
    cases desc <;> simp [tdOK] at h2
    rename_i fs
    rw [nthL_eq] at h
    cases q : l[f]? with
    | none => rw [q] at h; cases h
    | some p =>
      rw [q] at h
      obtain ⟨o, ft⟩ := p
      simp only at h
      cases k : e.ty.get ft with
      | none => rw [k] at h; cases h
      | some d' =>
        rw [k] at h; cases h
        rw [h2, List.getElem?_map, Array.getElem?_toList] at q
        cases qq : fs[f]? with
        | none => rw [qq] at q; cases q
        | some fd =>
          rw [qq] at q; cases q
          exact ⟨fs, fd, h1, qq, rfl, he _ _ k⟩
  · cases h
theorem fieldS_run [Sh] {e : Env} (he : TysOK P e.ty) {t f : Nat} {x r : ST} (h : fieldS e t x f = some r) {β : Nat → Option Nat} {u : Value} (hx : RepT β x u) (w : World) : ∃ z, (Instr.field t u f).run P w = .ok z w ∧ RepT β r z := by
  unfold fieldS at h
  split at h
  · rename_i off d cs g
    cases q : partS d cs off with
    | none => rw [q] at h; cases h
    | some p =>
      rw [q] at h; cases h
      obtain ⟨fs, fd, h1, h2, h3, h4⟩ := fieldOf_some he g
      obtain ⟨vs, rfl, hv⟩ := hx
      obtain ⟨v, hr, hp⟩ := part_run h4 hv q w
      refine ⟨v, ?_, hp⟩
      unfold Instr.field
      rw [bind_run (run_underlying h1 w)]
      simp only [h2, asAgg]
      rw [bind_run (Sem.run_pure _ _ _), h3]
      exact hr
  · cases h
theorem add_none (n o m : Nat) : (⟨n, o, none⟩ : Addr).add m = ⟨n, o + m, none⟩ := Addr.add_lit ..
theorem fieldAddrS_run [Sh] {e : Env} (he : TysOK P e.ty) {t f : Nat} {x r : ST} (h : fieldAddrS e t x f = some r) {β : Nat → Option Nat} {u : Value} (hx : RepT β x u) (w : World) : ∃ z, (Instr.fieldAt t u f).run P w = .ok z w ∧ RepT β r z := by
  have key : ∀ {off : Nat} {d : TyD} (g : fieldOf e t f = some (off, d)) (h0 : d.size ≠ 0) (n o : Nat), (Instr.fieldAt t (.pointer (some ⟨n, o, none⟩)) f).run P w = .ok (.pointer (some ⟨n, o + off, none⟩)) w := by
    intro off d g h0 n o
    obtain ⟨fs, fd, h1, h2, h3, h4⟩ := fieldOf_some he g
    unfold Instr.fieldAt
    rw [bind_run (run_underlying h1 w)]
    simp only [h2, Instr.sureAddr, fieldPlace]
    rw [bind_run (Sem.run_pure _ _ _)]
    rw [Sem.run_bind, bind_run (h4.size_run w), if_neg h0, h3, add_none]
    rfl
  unfold fieldAddrS at h
  split at h
  · rename_i off d id o g
    cases q : Nat.beq d.size 0
    · rw [q] at h; cases h
      have h0 : d.size ≠ 0 := fun e => by rw [beq_iff.2 e] at q; cases q
      obtain ⟨n, hb, rfl⟩ := hx
      exact ⟨_, key g h0 n _, n, hb, by rw [Nat.add_assoc]⟩
    · rw [q] at h; cases h
  · rename_i off d id o m n i g
    cases q : Nat.beq d.size 0
    · rw [q] at h; cases h
      have h0 : d.size ≠ 0 := fun e => by rw [beq_iff.2 e] at q; cases q
      obtain ⟨hi, n, hb, rfl⟩ := hx
      exact ⟨_, key g h0 n _, hi, n, hb, by rw [Nat.add_assoc, Nat.add_right_comm]⟩
    · rw [q] at h; cases h
  · cases h
theorem inB_out {i : SI} {n : Nat} (h : inB i n = true) : 0 ≤ i.val ∧ i.val < n ∧ i.val.toNat < n := by
  simp only [inB, Bool.and_eq_true, ile_iff] at h
  have := i.bd
  omega
theorem TysOK.arr [Sh] {ty : Tr TyD} (h : TysOK P ty) {t n el s b : Nat} {z : List SC} (g : ty.get t = some ⟨.arr n el, s, b, z⟩) : P.underlying t = some (.array n el) := by
  obtain ⟨desc, h1, h2⟩ := (h t _ g).und
  cases desc <;> simp [tdOK] at h2
  obtain ⟨rfl, rfl⟩ := h2; exact h1
theorem indexAddrS_run [Sh] {e : Env} (he : TysOK P e.ty) {t : Nat} {x i r : ST} (h : indexAddrS e t x i = some r) {β : Nat → Option Nat} {u v : Value} (hx : RepT β x u) (hi : RepT β i v) (w : World) : ∃ z, (Instr.indexAt t u v).run P w = .ok z w ∧ RepT β r z := by
  unfold indexAddrS at h
  split at h
  · rename_i k ix
    obtain rfl := hi.intv
    have key : ∀ (id off n el q : Nat), β id = some q →
        (bif inB ix n then match e.ty.get el with
          | some d => bif Nat.beq d.size 0 then none else (match ix with | .lit j => some (lfc (.ptr id (off + j.toNat * d.size))) | ix => some (lfc (.sptr id off d.size n ix)))
          | none => none else none) = some r →
        (0 ≤ ix.val ∧ ix.val < n) ∧ ∃ d, TyOK P el d ∧ RepT β r (.pointer (some ⟨q, Sh.sh id + (off + ix.val.toNat * d.size), none⟩)) := by
      intro id off n el q hq h
      cases g : inB ix n
      · rw [g] at h; cases h
      · rw [g] at h
        simp only [cond_true] at h
        have g2 := inB_out g
        refine ⟨⟨g2.1, g2.2.1⟩, ?_⟩
        cases k2 : e.ty.get el with
        | none => rw [k2] at h; cases h
        | some d =>
          rw [k2] at h
          simp only at h
          cases q2 : Nat.beq d.size 0
          · rw [q2] at h
            refine ⟨d, he _ _ k2, ?_⟩
            simp only [cond_false] at h
            split at h
            · cases h; exact ⟨q, hq, rfl⟩
            · cases h; exact ⟨g, q, hq, rfl⟩
          · rw [q2] at h; cases h
    simp only at h
    split at h
    · rename_i n el s b z id off g
      obtain ⟨q, hq, rfl⟩ := hx
      obtain ⟨hb, d, hd, hr⟩ := key id off n el q hq h
      refine ⟨_, ?_, hr⟩
      unfold Instr.indexAt
      simp only [asIntOf]
      rw [bind_run (Sem.run_pure _ _ _)]
      have hu := he.arr g
      simp [Sem.run_bind, run_underlying hu, Instr.sureAddr, hb, hd.size_run, add_none]
    · rename_i el s b z id off len cap g
      obtain ⟨q, c, hq, rfl, hl, _⟩ := RepL.slv hx
      obtain ⟨hb, d, hd, hr⟩ := key id off len el q hq h
      refine ⟨_, ?_, hr⟩
      unfold Instr.indexAt
      simp only [asIntOf]
      rw [bind_run (Sem.run_pure _ _ _)]
      have hu := he.slice g
      simp [Sem.run_bind, run_underlying hu, hb, hd.size_run, add_none]
    · cases h
  · cases h
end Go.Proofs.YtpkclnkibhgpkaaGreat.Sx
