/-
Each operation that looks at memory, and calls nothing, does what the run tells of it. Its conditions: that the tables of types tell the program's types.
-/
import Derived.Test.YtpkclnkibhgpkaaGreatXM
namespace Go.Proofs.YtpkclnkibhgpkaaGreat.Sx
open Go Go.RowKit
variable {P : Program}

theorem rowS_run [Sh] (P : Program) {e : Env} {hp : List (Nat × Blk)} {el n : Nat} {x : ST} {l : List SC} (h : rowS e hp el n x = some l) {b : Nat → Option Nat} {w : World} (hh : HpOK b hp w) {u : Value} (hx : RepT b x u) :
    ∃ d, e.ty.get el = some d ∧ ∃ vs : List Value, FA2 (RepC b) l vs ∧ (vs.length = n * d.size) ∧ (∀ W : World, W.heap = w.heap → (Builtin.firstCells d.size n u).run P W = .ok vs.toArray W) ∧ ∀ v ∈ vs, v.oneCell' = true := by
  unfold rowS at h
  split at h
  · rename_i d g
    cases q : Nat.beq n 0
    · rw [q] at h; cases h
    · rw [q] at h; cases h
      rw [beq_iff] at q; subst q
      obtain rfl := RepL.nilsv (β := b) hx
      exact ⟨d, g, [], .nil, by simp, fun W _ => rfl, fun v hv => by cases hv⟩
  · rename_i d id off len cap g
    obtain ⟨m, c, hm, rfl, _, _⟩ := RepL.slv hx
    split at h
    · rename_i bk hb
      obtain ⟨n', hn', vs, h1, h2, h3⟩ := hh id bk hb
      rw [hm] at hn'; cases hn'
      cases q : Nat.ble bk.off off
      · rw [q] at h; cases h
      · rw [q] at h
        rw [ble_iff] at q
        simp only [cond_true] at h
        obtain ⟨rfl, hl⟩ := cutL_some h
        have hf := fa2_take (n * d.size) (fa2_drop (off - bk.off) h1)
        have hlen := fa2_len hf
        refine ⟨d, g, _, hf, by omega, fun W hW => ?_, hf.all fun _ _ => RepC.one⟩
        have hr := run_loadCells_list (P := P) W ⟨m, Sh.sh id + off, none⟩ ((vs.drop (off - bk.off)).take (n * d.size)) fun j v hv => by
          have hj : j < n * d.size := by have := (List.getElem?_eq_some_iff.1 hv).1; omega
          rw [List.getElem?_take_of_lt hj, List.getElem?_drop] at hv
          rw [add_none, ← h2 _ _ hv, show Sh.sh id + off + j = Sh.sh id + bk.off + (off - bk.off + j) by omega]
          simp only [World.cell?, hW]
        rw [← hlen, hl] at hr
        exact hr
    · cases h
  · cases h
theorem slLen_rep [Sh] {x : ST} {n : Nat} (h : slLen x = some n) {b : Nat → Option Nat} {u : Value} (hx : RepT b x u) : (x = .v (.c (.lf .nils)) ∧ n = 0 ∧ u = .slice none 0 0) ∨ ∃ id off cap m c, x = .v (.c (.lf (.sl id off n cap))) ∧ b id = some m ∧ u = .slice (some ⟨m, Sh.sh id + off, none⟩) n c ∧ n ≤ c ∧ ∀ k, cap = some k → c = k := by
  unfold slLen at h
  split at h
  · cases h
    obtain ⟨m, c, h1, h2, h3, h4⟩ := RepL.slv hx
    exact .inr ⟨_, _, _, m, c, rfl, h1, h2, h3, h4⟩
  · cases h
    exact .inl ⟨rfl, rfl, RepL.nilsv (β := b) hx⟩
  · cases h
theorem exec_value {s : Sem Value} {P : Program} {u : Value} {w w' : World} (h : s.run P w = .ok u w') : (do pure (Next.value (← s)) : Sem Next).run P w = .ok (.value u) w' := exec_v h
/-- cells that are told are cells that are there -/
theorem BkOK.there [Sh] {b : Nat → Option Nat} {w : World} {id n : Nat} {k : Blk} (h : BkOK b w id n k) {j : Nat} (hj : j < k.cells.length) : (w.cell? ⟨n, Sh.sh id + k.off + j, none⟩).isSome = true ∧ (k.wr = true → w.frozen? ⟨n, Sh.sh id + k.off + j, none⟩ = false) := by
  obtain ⟨vs, h1, h2, h3⟩ := h
  have hl := fa2_len h1
  have hj' : j < vs.length := by omega
  exact ⟨by rw [h2 j _ (List.getElem?_eq_getElem hj')]; rfl, fun hw => h3.1 hw j hj'⟩
theorem lay_store [Sh] {b : Nat → Option Nat} {w : World} {id n o : Nat} {k : Blk} (h : BkOK b w id n k) (hw : k.wr = true) {new l : List SC} (hl : layL o k.cells new = some l) {us : List Value} (hu : FA2 (RepC b) new us) :
    ∃ w', SetL w n (Sh.sh id + k.off + o) us w' ∧ (storeCells ⟨n, Sh.sh id + k.off + o, none⟩ us).run P w = .ok () w' := by
  obtain ⟨l1, l2, l3⟩ := layL_some _ _ _ _ hl
  have hul := fa2_len hu
  have hc : ∀ j, j < us.length → (w.cell? ⟨n, Sh.sh id + k.off + o + j, none⟩).isSome = true ∧ w.frozen? ⟨n, Sh.sh id + k.off + o + j, none⟩ = false := by
    intro j hj
    have : o + j < k.cells.length := by
      rcases l2 with l2 | l2
      · rw [l2] at hul; simp at hul; omega
      · omega
    have := h.there this
    rw [Nat.add_assoc]
    exact ⟨this.1, this.2 hw⟩
  refine ⟨_, setL_mk fun j hj => (hc j hj).1, ?_⟩
  have hst := run_storeCells_cells (P := P) n (Sh.sh id + k.off + o) us 0 w (by simpa using fun j hj => (hc j hj).1) (by simpa using fun j hj => (hc j hj).2) (hu.all fun _ _ => RepC.one)
  simpa using hst
theorem rowS_own {e : Env} {hp : List (Nat × Blk)} {el n nn id : Nat} {cx : List SC} {bk : Blk} {d : TyD} (h : rowS e hp el n (.v (.c (.lf (.sl id 0 nn none)))) = some cx) (hb : getB hp id = some bk) (hd : e.ty.get el = some d) (h0 : bk.off = 0) : cx = bk.cells.take (n * d.size) ∧ cx.length = n * d.size := by
  unfold rowS at h
  simp only [hd, hb, h0] at h
  obtain ⟨h1, h2⟩ := cutL_some h
  exact ⟨by simpa using h1, h2⟩
theorem appendS_run [Sh] {e : Env} (he : TysOK P e.ty) {s s' : St} {t t2 : Nat} {x y v : ST} (h : appendS e s t t2 x y = some (v, s')) {w0 : World} {n0 : Base} {b : Nat → Option Nat} {a : Act} {w : World} (hc : Conc w0 n0 b s a w) {u1 u2 : Value} (hx : RepT b x u1) (hy : RepT b y u2) (ty : Nat) :
    ∃ w' c u, ExtN s.nx b c ∧ s.nx ≤ s'.nx ∧ s'.tm = s.tm ∧ Conc w0 n0 c s' a w' ∧ (Builtin.append_ #[t, t2] ty #[u1, u2]).run P w = .ok u w' ∧ RepT c v u := by
  unfold appendS at h
  split at h
  · rename_i el _ _ _ el2 _ _ _ g1 g2
    split at h
    · rename_i d g3
      split at h
      · rename_i n m l1 l2
        split at h
        · rename_i cx cy r1 r2
          have hu1 := he.slice g1
          have hu2 := he.slice g2
          have hd := he _ _ g3
          have hxs := asS_rep hx
          have hys' := asS_rep hy
          obtain ⟨d1, hd1, xs, x1, x2, x3, x4⟩ := rowS_run P r1 hc.hp hxs
          obtain ⟨d2, hd2, ys, y1, y2, y3, y4⟩ := rowS_run P r2 hc.hp hys'
          rw [g3] at hd1 hd2; cases hd1; cases hd2
          have hyl := slLen_rep l2 hys'
          obtain ⟨a2, c2, rfl⟩ : ∃ a2 c2, u2 = .slice a2 m c2 := by
            rcases hyl with ⟨_, rfl, rfl⟩ | ⟨_, _, _, _, c, _, _, rfl, _⟩
            · exact ⟨_, _, rfl⟩
            · exact ⟨_, _, rfl⟩
          cases q : Nat.beq m 0
          · rw [q] at h
            simp only [cond_false] at h
            have hm : m ≠ 0 := fun e => by rw [beq_iff.2 e] at q; cases q
            cases q2 : ((Nat.ble (Nat.mul (n + m) d.bytes) 1000000000 && Nat.ble d.bytes 1000000) && (Nat.blt 0 d.size && Nat.ble (n + m) 1000000))
            · rw [q2] at h; cases h
            · rw [q2] at h
              simp only [Bool.and_eq_true, ble_iff, Nat.blt_eq] at q2
              simp only [cond_true] at h
              obtain ⟨⟨b1, b2⟩, b3, b4⟩ := q2
              -- a new row
              have fresh : ∀ {s1 : St} {a1 : Option Addr} {c1 : Nat} {row : List SC} {len : Nat}, Conc w0 n0 b s1 a w → u1 = .slice a1 n c1 → ¬ n + m ≤ c1 → row = cx ++ cy → len = n + m →
                  ∃ w' c u, ExtN s1.nx b c ∧ Conc w0 n0 c ⟨s1.tm, (s1.nx, ⟨0, row, true, d.size⟩) :: s1.hp, Nat.succ (Nat.succ s1.nx), s1.wr⟩ a w' ∧ (Builtin.append_ #[t, t2] ty #[u1, .slice a2 m c2]).run P w = .ok u w' ∧ RepT c (lfc (.own s1.nx len)) u := by
                rintro s1 a1 c1 row len hs1 rfl hn rfl rfl
                obtain ⟨k, rest, hk, hcap, hr⟩ := append_new (P := P) (ty := ty) hu1 hu2 hd hn x3 y3 b1 b2 b4
                have hc2 := hs1.memory (w' := { w with drawn := w.drawn + 1 }) rfl rfl rfl rfl
                obtain ⟨c, k1, k2, k3, k4⟩ := hc2.allocA (fa2_append x1 y1) (vs := xs.toArray ++ ys.toArray ++ rest) (fun j u hj => by
                  have hlt := (List.getElem?_eq_some_iff.1 hj).1
                  rw [Array.getElem?_append_left (by simpa using hlt)]
                  simpa using hj) el (cap := k) (es := d.size) (by simp) (by
                    simp only [Array.size_append, List.size_toArray, x2, y2, hcap]
                    rw [← Nat.add_mul, ← Nat.add_mul]
                    exact Nat.mul_le_mul_right _ (by omega))
                exact ⟨_, c, _, k1, k4, hr, _, _, k2, k3, by rw [hs1.z _ (Nat.le_refl _)], hk⟩
              unfold appendD at h
              split at h
              · obtain rfl : u1 = .slice none 0 0 := RepL.nilsv (β := b) hx
                simp only [asS, asL, slLen, Option.some.injEq] at l1
                subst l1
                have : cx = [] := by
                  have := fa2_len x1
                  rw [x2] at this; simp at this; exact this
                obtain ⟨w', c, u, k1, k2, k3, k4⟩ := fresh (row := cy) (len := m) hc rfl (by omega) (by rw [this]; rfl) (by omega)
                cases h
                exact ⟨w', c, u, k1, by simp only; omega, rfl, k2, k3, k4⟩
              · rename_i id nn
                split at h
                · rename_i bk hb
                  cases q7 : (bk.wr && Nat.beq bk.ap d.size)
                  · rw [q7] at h; cases h
                  · rw [q7] at h
                    simp only [Bool.and_eq_true, beq_iff] at q7
                    cases h
                    simp only [asS, asL, slLen, Option.some.injEq] at l1
                    subst l1
                    obtain ⟨q5, cc, h1, h2, rfl, h4⟩ := hx
                    by_cases hle : nn + m ≤ cc
                    · obtain ⟨n', hn', vs, v1, v2, v3, v4⟩ := hc.hp id bk hb
                      rw [h1] at hn'; cases hn'
                      obtain ⟨o1, c', o2, o3⟩ := v4 (by rw [q7.2]; omega)
                      rw [h2] at o2; cases o2
                      rw [q7.2] at o3
                      obtain ⟨hcx, hcl⟩ := rowS_own (cx := cx) r1 hb g3 (by omega)
                      have hz1 : Sh.sh id = 0 := by omega
                      have hz2 : Sh.sh s.nx = 0 := hc.z s.nx (Nat.le_refl _)
                      have hvl := fa2_len v1
                      have hfit : nn * d.size + ys.length ≤ cc * d.size := by rw [y2, ← Nat.add_mul]; exact Nat.mul_le_mul_right _ hle
                      have hcell : ∀ j, j < ys.length → (w.cell? ⟨q5, nn * d.size + j, none⟩).isSome = true ∧ w.frozen? ⟨q5, nn * d.size + j, none⟩ = false := fun j hj => o3 _ (by omega)
                      have hs := setL_mk (w := w) (b := q5) (off := nn * d.size) (us := ys) fun j hj => (hcell j hj).1
                      have hst := run_storeCells_cells (P := P) q5 (nn * d.size) ys 0 w (by simpa using fun j hj => (hcell j hj).1) (by simpa using fun j hj => (hcell j hj).2) y4
                      rw [Nat.add_zero] at hst
                      have hlx : (vs.take (nn * d.size)).length = nn * d.size := by
                        rw [hcx] at hcl
                        simp only [List.length_take] at hcl ⊢
                        omega
                      have hbk : BkOK (upd (upd b s.nx q5) (s.nx + 1) cc) (w.setCells q5 (nn * d.size) ys) s.nx q5 ⟨0, cx ++ cy, true, d.size⟩ := by
                        have hE : Ext b (upd (upd b s.nx q5) (s.nx + 1) cc) := hc.ext fun i hi => by rw [upd_ne _ _ (by omega), upd_ne _ _ (by omega)]
                        refine ⟨vs.take (nn * d.size) ++ ys, fa2_append ?_ (fa2_mono (fun _ _ => RepC.mono hE) y1), fun j v hj => ?_, fun _ j hj => ?_, fun _ => ⟨by simp [hz2], cc, upd_at _ _ _, fun j hj => ?_⟩⟩
                        · rw [hcx]
                          exact fa2_mono (fun _ _ => RepC.mono hE) (fa2_take (nn * d.size) v1)
                        · simp only [hz2, Nat.zero_add]
                          by_cases hjx : j < nn * d.size
                          · rw [List.getElem?_append_left (by omega), List.getElem?_take_of_lt hjx] at hj
                            rw [hs.out j (by omega), ← v2 j v hj, o1, Nat.zero_add]
                          · rw [List.getElem?_append_right (by omega), hlx] at hj
                            have hlt := (List.getElem?_eq_some_iff.1 hj).1
                            have := hs.inn (j - nn * d.size) hlt
                            rw [show nn * d.size + (j - nn * d.size) = j by omega] at this
                            rw [this]; exact hj
                        · simp only [hz2, Nat.zero_add]
                          rw [hs.frozen]
                          exact (o3 j (by simp only [List.length_append, hlx] at hj; omega)).2
                        · rw [hs.frozen]
                          refine ⟨?_, (o3 j hj).2⟩
                          by_cases hin : nn * d.size ≤ j ∧ j < nn * d.size + ys.length
                          · have := hs.inn (j - nn * d.size) (by omega)
                            rw [show nn * d.size + (j - nn * d.size) = j by omega] at this
                            rw [this, List.getElem?_eq_getElem (by omega)]; rfl
                          · rw [hs.out j (by omega)]; exact (o3 j hj).1
                      obtain ⟨c, k1, k2, k3, k4⟩ := hc.goOn (cap := cc) hb h1 hs hbk
                      refine ⟨_, c, _, k1, by simp only; omega, rfl, k4, append_fit (P := P) hu1 hu2 hd hle (y3 w rfl) ?_, _, _, k2, k3, by rw [hz1, hz2], hle⟩
                      rw [add_none, hz1, Nat.zero_add]; exact hst
                    · obtain ⟨w', c, u, k1, k2, k3, k4⟩ := fresh (row := cx ++ cy) (len := nn + m) (hc.drop ⟨bk, hb⟩) rfl hle rfl rfl
                      exact ⟨w', c, u, k1, by simp only; omega, rfl, k2, k3, k4⟩
                · cases h
              · rename_i id off nn cc
                obtain ⟨q5, c1, h1, rfl, h3, h4⟩ := RepL.slv (β := b) (id := id) (off := off) (len := nn) (cap := some cc) hx
                simp only [asS, asL, slLen, Option.some.injEq] at l1
                subst l1
                obtain rfl := h4 _ rfl
                cases q6 : Nat.ble (nn + m) c1
                · rw [q6] at h
                  obtain ⟨w', c, u, k1, k2, k3, k4⟩ := fresh (row := cx ++ cy) (len := nn + m) hc rfl (fun e => by rw [ble_iff.2 e] at q6; cases q6) rfl rfl
                  cases h
                  exact ⟨w', c, u, k1, by simp only; omega, rfl, k2, k3, k4⟩
                · rw [q6] at h
                  rw [ble_iff] at q6
                  simp only [cond_true] at h
                  split at h
                  · rename_i bk hb
                    cases q7 : (bk.wr && Nat.ble bk.off off)
                    · rw [q7] at h; cases h
                    · rw [q7] at h
                      simp only [Bool.and_eq_true, ble_iff] at q7
                      simp only [cond_true] at h
                      cases q8 : layL (off - bk.off + nn * d.size) bk.cells cy with
                      | none => rw [q8] at h; cases h
                      | some l =>
                        rw [q8] at h; cases h
                        obtain ⟨n', hn', hbk⟩ := hc.hp id bk hb
                        rw [h1] at hn'; cases hn'
                        obtain ⟨w', hs, hst⟩ := lay_store (P := P) hbk q7.1 q8 y1
                        refine ⟨w', b, _, ExtN.refl _ _, Nat.le_refl _, rfl, hc.set hb h1 q8 y1 hs, append_fit (P := P) hu1 hu2 hd q6 (y3 w rfl) ?_, q5, h1, rfl, q6⟩
                        rw [add_none, show Sh.sh id + off + nn * d.size = Sh.sh id + bk.off + (off - bk.off + nn * d.size) by omega]
                        exact hst
                  · cases h
              · cases h
          · rw [q] at h; cases h
            rw [beq_iff] at q; subst q
            have hys : ys = [] := List.eq_nil_of_length_eq_zero (by rw [y2]; simp)
            refine ⟨w, b, u1, ExtN.refl _ _, Nat.le_refl _, rfl, hc, ?_, hx⟩
            rcases slLen_rep l1 hxs with ⟨_, rfl, rfl⟩ | ⟨id, off, cap, m', c, _, _, rfl, hle, _⟩
            · have h0 : ((#[t, t2] : Array TypeId)[0]?, (#[Value.slice none 0 0, .slice a2 0 c2] : Array Value)[0]?, (#[Value.slice none 0 0, .slice a2 0 c2] : Array Value)[1]?) = (some t, some (.slice none 0 0), some (.slice a2 0 c2)) := rfl
              have h1 : (#[t, t2] : Array TypeId)[1]? = some t2 := rfl
              unfold Builtin.append_
              simp only [h0, h1]
              rw [bind_run (run_underlying hu1 w)]
              simp only
              rw [bind_run (hd.size_run w), bind_run (run_underlying hu2 w), bind_run (Sem.run_pure _ _ _)]
              simp only [Bool.false_eq_true, if_false, Bool.not_false, if_true]
              rw [bind_run (lenOf_sl _ _ _ _), if_pos (Nat.le_refl _), bind_run (y3 w rfl)]
              rfl
            · have := append_fit (P := P) (ty := ty) hu1 hu2 hd (a := ⟨m', Sh.sh id + off, none⟩) (n := n) (c := c) (w' := w) (show n + 0 ≤ c by omega) (y3 w rfl) (by rw [hys]; rfl)
              exact this
        · cases h
      · cases h
    · cases h
  · cases h
end Go.Proofs.YtpkclnkibhgpkaaGreat.Sx
