/-
The operations that load, store and make memory do what the run tells of them, continued. Its conditions: that the tables of types tell the program's types.
-/
import Derived.Test.YtpkclnkibhgpkaaGreatXK
namespace Go.Proofs.YtpkclnkibhgpkaaGreat.Sx
open Go Go.RowKit
variable {P : Program}

theorem load_sel [Sh] {t : Nat} {d : TyD} (hd : TyOK P t d) {b : Nat → Option Nat} {w : World} {n k o : Nat} {vs : List Value} {l : List SC} {r : SV} (hv : ∀ (j : Nat) (v : Value), vs[j]? = some v → w.cell? ⟨n, k + j, none⟩ = some v)
    (hl : FA2 (RepC b) l ((vs.drop o).take d.size)) (hlen : l.length = d.size) (h : oneSV d l = some r) : ∃ v, (loadVar t ⟨n, k + o, none⟩).run P w = .ok v w ∧ RepV b r v := by
  have hlen2 := fa2_len hl
  have hc : ∀ (j : Nat) (v : Value), ((vs.drop o).take d.size)[j]? = some v → w.cell? ((⟨n, k + o, none⟩ : Addr).add j) = some v := by
    intro j v hj
    have hjl : j < d.size := by have := (List.getElem?_eq_some_iff.1 hj).1; omega
    rw [List.getElem?_take_of_lt hjl, List.getElem?_drop] at hj
    rw [add_none, Nat.add_assoc]; exact hv _ _ hj
  unfold loadVar
  rw [bind_run (hd.agg_run w)]
  unfold oneSV at h
  cases ha : isAggD d.td
  · rw [ha] at h
    simp only [cond_false] at h
    split at h
    · rename_i c
      cases h
      have e1 : 1 = d.size := hlen
      rw [← e1] at hl
      cases hq : vs.drop o with
      | nil => rw [hq] at hl; cases hl
      | cons v q =>
        rw [hq] at hl
        cases hl with
        | cons x _ =>
          have := hc 0 v (by rw [hq, ← e1]; rfl)
          rw [add_none] at this
          exact ⟨v, by simp only [Nat.add_zero] at this; simp [load, Sem.run, this], x⟩
    · cases h
  · rw [ha] at h
    cases h
    have hr := run_loadCells_list (P := P) w _ _ hc
    rw [← hlen2, hlen] at hr
    simp only [if_true]
    rw [bind_run (hd.size_run w), bind_run hr]
    exact ⟨_, rfl, _, rfl, hl⟩
theorem loadS_run [Sh] {e : Env} (he : TysOK P e.ty) {hp : List (Nat × Blk)} {t : Nat} {x : ST} {r : SV} (h : loadS e hp t x = some r) {b : Nat → Option Nat} {w : World} (hh : HpOK b hp w) {u : Value} (hx : RepT b x u) :
    ∃ v, (Instr.loadAt t u).run P w = .ok v w ∧ RepV b r v := by
  unfold loadS at h
  split at h
  · rename_i d id off g
    obtain ⟨n, hn, rfl⟩ := hx
    split at h
    · rename_i bk hb
      obtain ⟨n', hn', hk⟩ := hh id bk hb
      rw [hn] at hn'; cases hn'
      cases q : Nat.ble bk.off off
      · rw [q] at h; cases h
      · rw [q] at h
        rw [ble_iff] at q
        obtain ⟨v, hv, hr⟩ := hk.part (he _ _ g) h
        rw [show Sh.sh id + bk.off + (off - bk.off) = Sh.sh id + off by omega] at hv
        exact ⟨v, by simp only [Instr.loadAt, Instr.sureAddr]; rw [bind_run (Sem.run_pure _ _ _)]; exact hv, hr⟩
    · cases h
  · rename_i d id off m nn i g
    obtain ⟨hi, n, hn, rfl⟩ := hx
    split at h
    · rename_i bk hb
      obtain ⟨n', hn', vs, h1, h2, h3⟩ := hh id bk hb
      rw [hn] at hn'; cases hn'
      cases q : ((Nat.ble bk.off off && inB i nn) && Nat.ble (off - bk.off + (nn - 1) * m + d.size) (lenL bk.cells))
      · rw [q] at h; cases h
      · rw [q] at h
        simp only [Bool.and_eq_true, ble_iff] at q
        simp only [cond_true] at h
        cases q2 : selCells d.size bk.cells (off - bk.off) m nn i with
        | none => rw [q2] at h; cases h
        | some l =>
          rw [q2] at h
          simp only at h
          obtain ⟨s1, s2⟩ := selCells_rep q2 hi h1
          obtain ⟨v, hv, hr⟩ := load_sel (he _ _ g) h2 s2 s1 h
          rw [show Sh.sh id + bk.off + (off - bk.off + i.val.toNat * m) = Sh.sh id + (off + i.val.toNat * m) by omega] at hv
          exact ⟨v, by simp only [Instr.loadAt, Instr.sureAddr]; rw [bind_run (Sem.run_pure _ _ _)]; exact hv, hr⟩
    · cases h
  · cases h
/-- what an operation that looks at memory does -/
def MemP [Sh] (P : Program) (w0 : World) (n0 : Base) (b : Nat → Option Nat) (s : St) (a : Act) (w : World) (sem : Sem Next) (v : Option ST) (s' : St) : Prop :=
  ∃ w' c, ExtN s.nx b c ∧ s.nx ≤ s'.nx ∧ s'.tm = s.tm ∧ Conc w0 n0 c s' a w' ∧ ((∃ x u, v = some x ∧ sem.run P w = .ok (.value u) w' ∧ RepT c x u) ∨ (v = none ∧ sem.run P w = .ok .skip w'))
theorem storeS_run [Sh] {e : Env} (he : TysOK P e.ty) {s s' : St} {t : Nat} {x y : ST} (h : storeS e s t x y = some s') {w0 : World} {n0 : Base} {b : Nat → Option Nat} {a : Act} {w : World} (hc : Conc w0 n0 b s a w) {u v : Value} (hx : RepT b x u) (hy : RepT b y v) :
    ∃ w', s'.nx = s.nx ∧ s'.tm = s.tm ∧ Conc w0 n0 b s' a w' ∧ (Instr.storeAt t u v).run P w = .ok () w' := by
  unfold storeS at h
  split at h
  · rename_i d id off q g
    obtain ⟨n, hn, rfl⟩ := hx
    split at h
    · rename_i bk hb
      cases q1 : ((bk.wr && Nat.ble bk.off off) && Nat.beq (lenL (svCells q)) d.size)
      · rw [q1] at h; cases h
      · rw [q1] at h
        simp only [Bool.and_eq_true, ble_iff, beq_iff, lenL_eq] at q1
        simp only [cond_true] at h
        cases q2 : layL (off - bk.off) bk.cells (svCells q) with
        | none => rw [q2] at h; cases h
        | some l =>
          rw [q2] at h; cases h
          have hcells := RepV.cells hy
          have hlen := fa2_len hcells
          obtain ⟨n', hn', vs, h1, h2, h3⟩ := hc.hp id bk hb
          rw [hn] at hn'; cases hn'
          obtain ⟨l1, l2, l3⟩ := layL_some _ _ _ _ q2
          have hvl := fa2_len h1
          simp only [Array.length_toList] at hlen
          have hin : ∀ j, j < v.cells.size → off - bk.off + j < vs.length := by
            intro j hj
            rcases l2 with l2 | l2
            · rw [l2] at hlen; simp at hlen; omega
            · omega
          have hd := he _ _ g
          obtain ⟨w', hs, hr⟩ := storeVar_run hd (w := w) (b := n) (off := Sh.sh id + off) (v := v) (by omega)
            (fun j hj => by
              have := hin j hj
              rw [show Sh.sh id + off + j = Sh.sh id + bk.off + (off - bk.off + j) by omega, h2 _ _ (List.getElem?_eq_getElem this)]; rfl)
            (fun j hj => by
              have := hin j hj
              rw [show Sh.sh id + off + j = Sh.sh id + bk.off + (off - bk.off + j) by omega]; exact h3.1 q1.1.1 _ this)
            (hcells.all fun c u hu => RepC.one hu)
          refine ⟨w', rfl, rfl, hc.set hb hn q2 hcells (by rw [show Sh.sh id + bk.off + (off - bk.off) = Sh.sh id + off by omega]; exact hs), ?_⟩
          simp only [Instr.storeAt, Instr.sureAddr]
          rw [bind_run (Sem.run_pure _ _ _)]
          exact hr
    · cases h
  · cases h
theorem alloc_world (w : World) (o : Obj) : ({ w with heap := w.heap.push o } : World) = w.alloc o := rfl
theorem newVar_run (t : Nat) (v : Value) (w : World) : (newVar t v).run P w = .ok ⟨w.heap.size, 0, none⟩ (w.alloc (.cells v.cells t)) := rfl
theorem repL_get {α : Type} (l : List α) : ∀ (n j : Nat), j < n * l.length → (repL l n)[j]? = l[j % l.length]?
  | 0, j, h => by simp at h
  | n + 1, j, h => by
    simp only [repL]
    by_cases hj : j < l.length
    · rw [List.getElem?_append_left hj, Nat.mod_eq_of_lt hj]
    · rw [List.getElem?_append_right (by omega), repL_get l n (j - l.length) (by rw [Nat.succ_mul] at h; omega)]
      congr 1
      conv => rhs; rw [show j = j - l.length + l.length by omega, Nat.add_mod_right]
theorem repL_len {α : Type} (l : List α) : ∀ n, (repL l n).length = n * l.length
  | 0 => by simp [repL]
  | n + 1 => by simp [repL, repL_len l n, Nat.succ_mul, Nat.add_comm]
theorem zeros_rep [Sh] {b : Nat → Option Nat} {zl : List SC} {z : Array Value} (h : FA2 (RepC b) zl z.toList) (n : Nat) : FA2 (RepC b) (repL zl n) ((Array.range (n * zl.length)).map (z[· % z.size]!)).toList := by
  have hl := fa2_len h
  simp only [Array.length_toList] at hl
  refine fa2_mk (by rw [repL_len]; simp) fun i c v hc hv => ?_
  have hi : i < n * zl.length := by have := (List.getElem?_eq_some_iff.1 hc).1; rw [repL_len] at this; exact this
  rw [repL_get _ _ _ hi] at hc
  obtain ⟨u, hu, hr⟩ := fa2_get h _ _ hc
  have hpos : 0 < z.size := by
    rcases Nat.eq_zero_or_pos zl.length with g | g
    · rw [g, Nat.mul_zero] at hi; omega
    · omega
  have hm : i % z.size < z.size := Nat.mod_lt _ hpos
  rw [Array.getElem?_toList] at hu hv
  rw [Array.getElem?_map, Array.getElem?_range, if_pos hi] at hv
  simp only [Option.map_some, Option.some.injEq] at hv
  rw [hl] at hu
  rw [getElem!_pos z _ hm] at hv
  rw [Array.getElem?_eq_getElem hm] at hu
  cases hu; subst hv; exact hr
end Go.Proofs.YtpkclnkibhgpkaaGreat.Sx
