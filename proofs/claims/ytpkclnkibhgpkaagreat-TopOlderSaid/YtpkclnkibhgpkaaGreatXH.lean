/-
Each operation that looks at no memory does what the run tells of it. Its conditions: that the tables of types tell the program's types.
-/
import Derived.Test.YtpkclnkibhgpkaaGreatXG
namespace Go.Proofs.YtpkclnkibhgpkaaGreat.Sx
open Go
variable {P : Program}

/-- an operand that may be missing -/
def RepO [Sh] (β : Nat → Option Nat) : Option (Option ST) → Option Value → Prop
  | none, none => True
  | some (some x), some v => RepT β x v
  | some none, some _ => True
  | _, _ => False
theorem RepO.nat [Sh] {β : Nat → Option Nat} {x : Option ST} {v : Option Value} (h : RepO β (some x) v) {n : Nat} (hn : nat? x = some n) : ∃ k m, v = some (.int k m) ∧ 0 ≤ m ∧ m.toNat = n := by
  obtain ⟨k, m, rfl, h1, h2⟩ := nat?_some hn
  cases v with
  | none => exact h.elim
  | some v => exact ⟨k, m, by rw [show v = _ from h]; rfl, h1, h2⟩
theorem sliceBound_run {k : IntKind} {m : Int} {y : Nat} {c : BoundsCode} (h1 : 0 ≤ m) (h2 : m.toNat ≤ y) (w : World) : (Instr.sliceBound (.int k m) y c).run P w = .ok m.toNat w := by
  unfold Instr.sliceBound
  simp only [asIntOf]
  rw [bind_run (Sem.run_pure _ _ _)]
  simp only
  rw [if_pos (by omega)]
  rfl
theorem ble_iff {a b : Nat} : Nat.ble a b = true ↔ a ≤ b := by rw [Nat.ble_eq]
theorem bM_run [Sh] {len : Nat} {cap : Option Nat} {mx : Option (Option ST)} {m : Option Nat} (hb : bM len cap mx = some m) {β : Nat → Option Nat} {vm : Option Value} (hm : RepO β mx vm) {c : Nat} (hc : len ≤ c) (hk : ∀ k, cap = some k → c = k) (b : Bool) (w : World) :
    ∃ m', (match (generalizing := false) vm with | some v => Instr.sliceBound v c (if b then .slice3Acap else .slice3Alen) | none => pure c : Sem Nat).run P w = .ok m' w ∧ (∀ k, m = some k → m' = k) ∧ (m = none → m' = c) ∧ m' ≤ c ∧ (isNone mx = true → vm = none ∧ m' = c) ∧ (isNone mx = false → vm.isSome = true) := by
  cases mx with
  | none =>
    cases vm with
    | some v => exact hm.elim
    | none =>
      simp only [bM, Option.some.injEq] at hb
      subst hb
      exact ⟨c, rfl, hk, fun _ => rfl, Nat.le_refl _, fun _ => ⟨rfl, rfl⟩, (fun e => by cases e)⟩
  | some x =>
    simp only [bM] at hb
    cases q : nat? x with
    | none => simp only [q] at hb; cases hb
    | some n =>
      obtain ⟨k, z, rfl, h1, h2⟩ := hm.nat q
      simp only [q] at hb
      have hle : n ≤ c ∧ m = some n := by
        cases cap with
        | none =>
          simp only at hb
          cases g : Nat.ble n len
          · rw [g] at hb; cases hb
          · rw [g] at hb; cases hb; rw [ble_iff] at g; exact ⟨by omega, rfl⟩
        | some k2 =>
          simp only at hb
          cases g : Nat.ble n k2
          · rw [g] at hb; cases hb
          · rw [g] at hb; cases hb; rw [ble_iff] at g; have := hk _ rfl; exact ⟨by omega, rfl⟩
      obtain ⟨hle, rfl⟩ := hle
      refine ⟨n, ?_, (fun k e => by cases e; rfl), (fun e => by cases e), hle, (fun e => by cases e), fun _ => rfl⟩
      simp only
      rw [sliceBound_run h1 (by omega), h2]
theorem bH_run [Sh] {len : Nat} {nm : Bool} {hi : Option (Option ST)} {m : Option Nat} {h : Nat} (hb : bH len nm m hi = some h) {β : Nat → Option Nat} {vh vm : Option Value} (hh : RepO β hi vh) {c m' : Nat} (hc : len ≤ c) (h1 : ∀ k, m = some k → m' = k) (h2 : m = none → m' = c)
    (h3 : nm = true → vm = none ∧ m' = c) (b : Bool) (w : World) :
    (match (generalizing := false) vh, vm with
        | some v, some _ => Instr.sliceBound v m' .slice3B
        | some v, none => Instr.sliceBound v m' (if b then .sliceAcap else .sliceAlen)
        | none, none => pure len
        | none, some _ => stuck "Slice: max without high" : Sem Nat).run P w = .ok h w ∧ h ≤ m' ∧ (m = none → h ≤ len) := by
  cases hi with
  | none =>
    cases vh with
    | some v => exact hh.elim
    | none =>
      simp only [bH] at hb
      cases nm
      · cases hb
      · cases hb
        obtain ⟨rfl, rfl⟩ := h3 rfl
        exact ⟨rfl, hc, fun _ => Nat.le_refl _⟩
  | some x =>
    simp only [bH] at hb
    cases q : nat? x with
    | none => simp only [q] at hb; cases hb
    | some n =>
      obtain ⟨k, z, rfl, g1, g2⟩ := hh.nat q
      simp only [q] at hb
      have hle : n ≤ m' ∧ n = h ∧ (m = none → n ≤ len) := by
        cases m with
        | none =>
          simp only at hb
          cases g : Nat.ble n len
          · rw [g] at hb; cases hb
          · rw [g] at hb; cases hb; rw [ble_iff] at g; have := h2 rfl; exact ⟨by omega, rfl, fun _ => g⟩
        | some k2 =>
          simp only at hb
          cases g : Nat.ble n k2
          · rw [g] at hb; cases hb
          · rw [g] at hb; cases hb; rw [ble_iff] at g; have := h1 _ rfl; exact ⟨by omega, rfl, fun e => by cases e⟩
      obtain ⟨hle, rfl, hlen⟩ := hle
      refine ⟨?_, hle, hlen⟩
      cases vm <;> simp only <;> rw [sliceBound_run g1 (by omega), g2]
theorem bL_run [Sh] {lo : Option (Option ST)} {h l : Nat} (hb : bL h lo = some l) {β : Nat → Option Nat} {vl vm : Option Value} (hl : RepO β lo vl) (w : World) :
    (match (generalizing := false) vl with
        | some v => Instr.sliceBound v h (if vm.isSome then .slice3C else .sliceB)
        | none => pure 0 : Sem Nat).run P w = .ok l w ∧ l ≤ h := by
  cases lo with
  | none =>
    cases vl with
    | some v => exact hl.elim
    | none => simp only [bL] at hb; cases hb; exact ⟨rfl, Nat.zero_le _⟩
  | some x =>
    simp only [bL] at hb
    cases q : nat? x with
    | none => simp only [q] at hb; cases hb
    | some n =>
      simp only [q] at hb
      obtain ⟨k, z, rfl, g1, g2⟩ := hl.nat q
      cases g : Nat.ble n h
      · rw [g] at hb; cases hb
      · rw [g] at hb; cases hb
        rw [ble_iff] at g
        refine ⟨?_, g⟩
        simp only
        rw [sliceBound_run g1 (by omega), g2]
theorem bnds_run [Sh] {len : Nat} {cap : Option Nat} {lo hi mx : Option (Option ST)} {l h : Nat} {m : Option Nat} (hb : bnds len cap lo hi mx = some (l, h, m)) {β : Nat → Option Nat} {vl vh vm : Option Value}
    (hl : RepO β lo vl) (hh : RepO β hi vh) (hm : RepO β mx vm) {c : Nat} (hc : len ≤ c) (hk : ∀ k, cap = some k → c = k) (b : Bool) (w : World) :
    ∃ m', (Instr.sliceBounds b len c vl vh vm).run P w = .ok (l, h, m') w ∧ (∀ k, m = some k → m' = k) ∧ (m = none → m' = c ∧ h ≤ len) ∧ l ≤ h ∧ h ≤ m' := by
  unfold bnds at hb
  cases q1 : bM len cap mx with
  | none => simp only [q1] at hb; cases hb
  | some m1 =>
    simp only [q1] at hb
    cases q2 : bH len (isNone mx) m1 hi with
    | none => simp only [q2] at hb; cases hb
    | some h1 =>
      simp only [q2] at hb
      cases q3 : bL h1 lo with
      | none => simp only [q3] at hb; cases hb
      | some l1 =>
        simp only [q3] at hb
        cases hb
        obtain ⟨m', a1, a2, a3, a4, a5, a6⟩ := bM_run (P := P) q1 hm hc hk b w
        obtain ⟨b1, b2, b3⟩ := bH_run (P := P) (vm := vm) q2 hh hc a2 a3 a5 b w
        obtain ⟨c1, c2⟩ := bL_run (P := P) (vm := vm) q3 hl w
        refine ⟨m', ?_, a2, fun e => ⟨a3 e, b3 e⟩, c2, b2⟩
        clear a5 a6 hm hh hl
        unfold Instr.sliceBounds
        cases vm <;> cases vh <;> cases vl <;> simp only at a1 b1 c1 ⊢ <;> first | (rw [bind_run a1, bind_run b1, bind_run c1]; rfl) | (exfalso; simp [stuck, Sem.run] at b1)
theorem sliceS_run [Sh] {e : Env} (he : TysOK P e.ty) {t : Nat} {x r : ST} {lo hi mx : Option (Option ST)} (h : sliceS e t x lo hi mx = some r) {β : Nat → Option Nat} {u : Value} {vl vh vm : Option Value} (hx : RepT β x u)
    (hl : RepO β lo vl) (hh : RepO β hi vh) (hm : RepO β mx vm) (w : World) : ∃ z, (Instr.sliceAt t u vl vh vm).run P w = .ok z w ∧ RepT β r z := by
  unfold sliceS at h
  have key : ∀ (id off len : Nat) (cap : Option Nat) (el n c : Nat), β id = some n → len ≤ c → (∀ k, cap = some k → c = k) →
      (match bnds len cap lo hi mx, e.ty.get el with
        | some (l, h, some m), some d => some (lfc (.sl id (bif Nat.beq m l then off else off + l * d.size) (h - l) (some (m - l))))
        | some (l, h, none), some d => bif Nat.ble (l + 1) h || Nat.beq l 0 then some (lfc (.sl id (off + l * d.size) (h - l) none)) else none
        | _, _ => none) = some r →
      ∃ l h m' d, TyOK P el d ∧ (∀ b, (Instr.sliceBounds b len c vl vh vm).run P w = .ok (l, h, m') w) ∧ RepT β r (.slice (some (if m' = l then ⟨n, Sh.sh id + off, none⟩ else (⟨n, Sh.sh id + off, none⟩ : Addr).add (l * d.size))) (h - l) (m' - l)) := by
    intro id off len cap el n c hn hc hk h
    split at h
    · rename_i l hh' m d q1 q2
      cases h
      obtain ⟨m', h1, h2, h3, h4, h5⟩ := bnds_run (P := P) q1 hl hh hm hc hk true w
      obtain ⟨m'', h1', h2', _⟩ := bnds_run (P := P) q1 hl hh hm hc hk false w
      obtain rfl := h2 _ rfl
      obtain rfl := h2' _ rfl
      refine ⟨l, hh', m'', d, he _ _ q2, fun b => by cases b <;> assumption, n, hn, ?_, by omega⟩
      cases g : Nat.beq m'' l
      · have : ¬ m'' = l := fun e => by rw [beq_iff.2 e] at g; cases g
        rw [if_neg this, add_none, Nat.add_assoc]; rfl
      · rw [beq_iff] at g
        rw [if_pos g]; rfl
    · rename_i l hh' d q1 q2
      cases g : (Nat.ble (l + 1) hh' || Nat.beq l 0)
      · rw [g] at h; cases h
      · rw [g] at h; cases h
        obtain ⟨m', h1, h2, h3, h4, h5⟩ := bnds_run (P := P) q1 hl hh hm hc hk true w
        obtain ⟨m'', h1', h2', h3', _⟩ := bnds_run (P := P) q1 hl hh hm hc hk false w
        obtain ⟨rfl, h6⟩ := h3 rfl
        obtain ⟨rfl, _⟩ := h3' rfl
        refine ⟨l, hh', m'', d, he _ _ q2, fun b => by cases b <;> assumption, n, m'' - l, hn, ?_, by omega⟩
        rw [Bool.or_eq_true, beq_iff] at g
        rcases g with g | g
        · have := Nat.le_of_ble_eq_true g
          rw [if_neg (by omega), add_none, Nat.add_assoc]
        · subst g
          simp [add_none]
    · cases h
  simp only at h
  split at h
  · rename_i el s b z id off len cap g
    obtain ⟨n, c, hn, rfl, hc, hk⟩ := RepL.slv hx
    obtain ⟨l, h', m', d, hd, h1, h2⟩ := key id off len cap el n c hn hc hk h
    refine ⟨_, ?_, h2⟩
    have hu := he.slice g
    unfold Instr.sliceAt
    rw [bind_run (run_underlying hu w)]
    simp only
    unfold Instr.slice
    rw [bind_run (run_underlying hu w)]
    simp only
    rw [bind_run (h1 true), bind_run (hd.size_run w)]
    by_cases e : m' = l
    · rw [if_pos e, if_pos e]; rfl
    · rw [if_neg e, if_neg e]; rfl
  · rename_i nn el s b z id off g
    obtain ⟨n, hn, rfl⟩ := hx
    obtain ⟨l, h', m', d, hd, h1, h2⟩ := key id off nn (some nn) el n nn hn (Nat.le_refl _) (fun k e => by cases e; rfl) h
    refine ⟨_, ?_, h2⟩
    have hu := he.arr g
    unfold Instr.sliceAt
    rw [bind_run (run_underlying hu w)]
    simp only [Instr.sureAddr]
    rw [bind_run (Sem.run_pure _ _ _), bind_run (h1 false), bind_run (hd.size_run w)]
    rfl
  · cases h
end Go.Proofs.YtpkclnkibhgpkaaGreat.Sx
