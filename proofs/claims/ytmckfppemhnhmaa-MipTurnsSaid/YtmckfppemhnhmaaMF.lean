import Derived.Test.YtmckfppemhnhmaaZA
import Derived.Test.YtmckfppemhnhmaaME
namespace Go.Proofs.Ytmckfppemhnhmaa
open Go.RowKit

theorem op_wp {P : Program} {ops : Array Oper} {Q : Exit → Act → World → Prop} {i : Nat} {o : Oper} {K : Act → World → Prop} {a : Act} {w : World} (ho : ops[i]? = some o) (hw : Region.wanted o (yielded ops a.tmps) = true)
    (h : o.wp P a w K Q) : wpOp P ops Q i K a w := by
  unfold wpOp
  simp only [ho, hw, if_true]
  exact .inl h
theorem exec_call2 {P : Program} {o : Oper} {a : Act} {w : World} {f : FuncId} (x0 x1 : Operand) (ts : Array TypeId) (ho : o.op = .call { callee := .value (.func f), args := #[x0, x1], argTypes := ts })
    (hf : ∀ args w, (callFunc f args).run P w = .ok (.enter f args) w) {v0 v1 : Value} (h0 : a.eval x0 = v0) (h1 : a.eval x1 = v1) : (execOp a.eval o).run P w = .ok (.enter f #[v0, v1]) w := by
  subst h0 h1
  unfold execOp
  simp only [ho]
  simp [resolve, go_sem, hf, Act.eval]
theorem cf43 (args : Array Value) (w : World) : (callFunc 43 args).run Try.prog w = .ok (.enter 43 args) w := by kernel_rfl
theorem exec_slice5 {o : Oper} {a : Act} {w : World} (x : Operand) (ho : o.op = .buildSlice 22 1 #[(0, x)]) (k : IntKind) (n : Int) (hx : a.eval x = .int k n) :
    (execOp a.eval o).run Try.prog w = .ok (.value (.slice (some ⟨w.heap.size, 0, none⟩) 1 1)) (w.alloc (.cells #[.int k n] 5)) := by
  obtain ⟨i0, hi0, hz0, hz1, hz2⟩ := info_parts Try.info5
  unfold execOp
  simp only [ho]
  have e : (Array.map (fun p : Nat × Operand => (p.1, a.eval p.2)) #[(0, x)]) = #[(0, .int k n)] := by simp [hx]
  have hr := run_buildSlice (P := Try.prog) w 22 5 1 #[(0, .int k n)] #[.int k n] i0 (.int .u8 0) Try.underlying22 hi0 hz0 (by rw [hz1]; decide) (by rw [hz1]; decide) (by
    rw [hz1]
    exact Great.fill_flat [.int k n] _ (fun v hv => by simp at hv; subst hv; rfl) (by simp))
  simp only [Sem.run_bind, e, hr, Result.andThen_ok]
  rfl

theorem Try.size22 : (Try.prog.info? 22).map (·.size) = some 1 := by kernel_rfl
theorem exec_load22 {o : Oper} {a : Act} {w : World} {v : Value} (x : Operand) (ho : o.op = .load 22 x) (ad : Addr) (hx : a.eval x = .pointer (some ad)) (hc : w.cell? ad = some v) :
    (execOp a.eval o).run Try.prog w = .ok (.value v) w := by
  unfold execOp
  simp only [ho, hx]
  simp [Instr.loadAt, Instr.sureAddr, loadVar, isAgg, run_underlying Try.underlying22, Sem.run_bind, hc, go_sem]
theorem exec_store22 {o : Oper} {a : Act} {w : World} {ao : Option Addr} {n c : Nat} (x y : Operand) (ho : o.op = .store 22 x y) (b off : Nat) (hx : a.eval x = .pointer (some ⟨b, off, none⟩)) (hy : a.eval y = .slice ao n c)
    (hc : (w.cell? ⟨b, off, none⟩).isSome = true) (hf : w.frozen? ⟨b, off, none⟩ = false) :
    (execOp a.eval o).run Try.prog w = .ok .skip (w.setCell ⟨b, off, none⟩ (.slice ao n c)) := by
  have hst := run_storeCells_cells (P := Try.prog) b off [.slice ao n c] 0 w (by simpa using hc) (by simpa using hf) (by simp [Value.oneCell'])
  have hi := Try.size22
  cases hq : Try.prog.info? 22 with
  | none => simp [hq] at hi
  | some i =>
    have hs : i.size = 1 := by simpa [hq] using hi
    unfold execOp
    simp only [Nat.add_zero] at hst
    simp [ho, hx, hy, Instr.storeAt, Instr.sureAddr, Sem.run_bind, storeVar, sizeOf, typeInfo, hq, hs, Value.cells, hst, World.setCells]

/-- bytes of the call's own -/
def OwnB (w : World) (B : Nat) (v : Value) (k : Nat) (g : Nat → Int) : Prop := w.ownsRow B 5 1 v k ((List.range k).map fun i => Value.int .u8 (g i))
theorem OwnB.below {w w' : World} {B : Nat} {v : Value} {k : Nat} {g : Nat → Int} (h : OwnB w B v k g) (hb : Below w.heap.size w w') : OwnB w' B v k g := by
  have hg : w.grownBy w' none := Below.asGrown hb
  exact World.ownsRow.kept h hg (by cases hv : v.ownBlock <;> simp)
theorem OwnB.snoc {w : World} {B : Nat} {v : Value} {k : Nat} {g : Nat → Int} {x : Int} (hx : x = g k) (h : w.ownsRow B 5 1 v (k + 1) ((List.range k).map (fun i => Value.int .u8 (g i)) ++ [.int .u8 x])) : OwnB w B v (k + 1) g := by
  unfold OwnB
  rw [List.range_succ, List.map_append, List.map_singleton, ← hx]
  exact h
theorem OwnB.rd {w : World} {B : Nat} {v : Value} {k : Nat} {g : Nat → Int} (h : OwnB w B v k g) (hk : k ≤ 9223372036854775807) (hg : ∀ i, 0 ≤ g i ∧ g i ≤ 255) : Rd w v k g := by
  have hh := h
  rcases h.2 with ⟨rfl, rfl⟩ | ⟨b, cap, cur, rfl, _⟩
  · exact ⟨_, _, rfl, hk, hg, fun h => by omega⟩
  · refine ⟨_, _, rfl, hk, hg, fun _ => ⟨b, 0, rfl, fun i hi => ?_⟩⟩
    have := World.ownsRow.cellAt hh i (by omega)
    rw [Nat.zero_add, this, List.getElem?_map, List.getElem?_range hi]
    rfl

/-- half an image -/
def halfF (W H : Int) (f : Nat → Int) (i : Nat) : Int := meanV W H f (((i / 4 : Nat) : Int) % halfV W) (((i / 4 : Nat) : Int) / halfV W) (i % 4)
theorem halfF_bd {W H : Int} {f : Nat → Int} (hf : ∀ i, 0 ≤ f i ∧ f i ≤ 255) (i : Nat) : 0 ≤ halfF W H f i ∧ halfF W H f i ≤ 255 := meanV_bd hf _ _ _
theorem halfF_at {W H : Int} {f : Nat → Int} {w' x y c : Nat} (hw : halfV W = (w' : Int)) (hx : x < w') (hc : c < 4) : halfF W H f (4 * (y * w' + x) + c) = meanV W H f (x : Int) (y : Int) c := by
  unfold halfF
  rw [show (4 * (y * w' + x) + c) / 4 = y * w' + x by omega, show (4 * (y * w' + x) + c) % 4 = c by omega, hw]
  have h1 : (((y * w' + x : Nat) : Int)) % (w' : Int) = x := by
    have : (y * w' + x) % w' = x := by rw [Nat.add_comm, Nat.add_mul_mod_self_right, Nat.mod_eq_of_lt hx]
    omega
  have h2 : (((y * w' + x : Nat) : Int)) / (w' : Int) = y := by
    have : (y * w' + x) / w' = y := by rw [Nat.add_comm, Nat.add_mul_div_right _ _ (by omega), Nat.div_eq_of_lt hx, Nat.zero_add]
    omega
  rw [h1, h2]

def halfP (W H : Int) (n : Nat) (f : Nat → Int) (w : World) (e : Ending) (w' : World) : Prop :=
  ∃ v, e = .returned (.tuple #[v, .int .i64 (if rightV W H n then 0 else 1)]) ∧ Out w' v (rightV W H n) (halfV W) (halfV H) (4 * halfV W * halfV H).toNat (halfF W H f) ∧ Below w.heap.size w w'

/-- half an image: bytes of its own -/
def halfC (W H : Int) (f : Nat → Int) (w : World) (e : Ending) (w' : World) : Prop :=
  ∃ g cap, e = .returned (.tuple #[.agg #[.int .i64 (halfV W), .int .i64 (halfV H), .slice (some ⟨g, 0, none⟩) (4 * halfV W * halfV H).toNat cap], .int .i64 0]) ∧ w.heap.size ≤ g ∧ Cl w' g 0 (4 * halfV W * halfV H).toNat (halfF W H f) ∧ Below w.heap.size w w'
theorem halfN_bd {W H : Int} (h : 1 ≤ W ∧ 1 ≤ H ∧ W ≤ 4096 ∧ H ≤ 4096) : (4 * halfV W * halfV H).toNat ≤ 67108864 ∧ 0 < (4 * halfV W * halfV H).toNat := by
  have a1 := halfV_pos W
  have a2 := halfV_pos H
  have b1 := halfV_le h.1
  have b2 := halfV_le h.2.1
  have hb := area_bd (W := halfV W) (H := halfV H) ⟨a1, a2, by omega, by omega⟩
  have := Int.mul_pos (show 0 < 4 * halfV W by omega) (show 0 < halfV H by omega)
  omega
theorem halfC_P {W H : Int} {n : Nat} {f : Nat → Int} {v : Value} {w w' : World} {e : Ending} (hv : Im w v W H n f) (hr : rightV W H n = true) (h : halfC W H f w e w') : halfP W H n f w e w' := by
  obtain ⟨ao, cap, rfl, hrd, hW, hH⟩ := hv
  obtain ⟨_, _, _, _, hf, _⟩ := hrd
  obtain ⟨g, cap', rfl, _, hcl, hb⟩ := h
  have hws : 1 ≤ W ∧ 1 ≤ H ∧ W ≤ 4096 ∧ H ≤ 4096 := by unfold rightV at hr; simp at hr; omega
  have a1 := halfV_pos W
  have a2 := halfV_pos H
  have b1 := halfV_le hws.1
  have b2 := halfV_le hws.2.1
  have hn := halfN_bd hws
  unfold halfP
  rw [hr]
  exact ⟨_, rfl, ⟨_, _, rfl, Rd.of_cl hcl (by simp only [if_true]; omega) (halfF_bd hf), by simp only [if_true]; omega, by simp only [if_true]; omega⟩, hb⟩
theorem mhalf_no {W H : Int} {n : Nat} {f : Nat → Int} {v : Value} {w : World} (hv : Im w v W H n f) (hr : rightV W H n = false) : Calls Try.prog 12 #[v] w (halfP W H n f w) := by
  obtain ⟨ao, cap, rfl, _, _, _⟩ := hv
  unfold halfP
  rw [hr]
  have HR := hide hr
  clear hr
  go_enter Try.func12, Try.ntmps12
  go_wp2_with fail
  refine (right_any W H ao n cap _).mono ?_
  rintro e w1 ⟨rfl, hb⟩
  rw [HR.out]
  have BR := hide (Box.below (b := w.heap.size + 1) (cs := #[.int .i64 0, .int .i64 0, .slice none 0 0]) (by (repeat' (first | (refine Box.mk' ?_; simp; done) | (refine Box.old ?_ ?_; rotate_left; (simp <;> omega))))) hb (by simp))
  have hb1 := hide (Below.trans (by (repeat' (first | exact Below.refl _ _ | assumption | refine Below.setCell ?_ (by simp <;> omega) _ | refine Below.alloc ?_ (by simp <;> omega) _))) (hb.mono (by simp; omega)) : Below w.heap.size w w1)
  clear hb
  obtain ⟨⟨l0, l1, l2⟩, lf0, lf1, lf2⟩ := BR.out.c3
  go_wp2_with fail
  refine bodyPost_ret (v := .tuple #[.agg #[.int .i64 0, .int .i64 0, .slice none 0 0], .int .i64 1]) (by simp [results, Try.results12, go_sem, World.cell?_setCell_same', l0, l1, l2]) rfl ⟨_, rfl, Out.nil _ _ _ _ _, ?_⟩
  have hbw := hb1.out
  (repeat' (first | exact Below.refl _ _ | assumption | refine Below.setCell ?_ (by simp <;> omega) _ | refine Below.alloc ?_ (by simp <;> omega) _))

set_option maxRecDepth 100000 in
set_option maxHeartbeats 1600000 in
theorem mhalf_cl {W H : Int} {n : Nat} {f : Nat → Int} {v : Value} {w : World} (hv : Im w v W H n f) (hr : rightV W H n = true) : Calls Try.prog 12 #[v] w (halfC W H f w) := by
  have HV := hide hv
  obtain ⟨ao, cap, rfl, hrd, hW, hH⟩ := hv
  have hf : ∀ i, 0 ≤ f i ∧ f i ≤ 255 := by obtain ⟨_, _, _, _, hf, _⟩ := hrd; exact hf
  have HF := hide hf
  unfold halfC
  have HR := hide hr
  have hws : 1 ≤ W ∧ 1 ≤ H ∧ W ≤ 4096 ∧ H ≤ 4096 := by unfold rightV at hr; simp at hr; omega
  obtain ⟨a, ha⟩ : ∃ a : Nat, halfV W = (a : Int) := ⟨(halfV W).toNat, by have := halfV_pos W; omega⟩
  obtain ⟨b, hb'⟩ : ∃ b : Nat, halfV H = (b : Int) := ⟨(halfV H).toNat, by have := halfV_pos H; omega⟩
  have ha1 : 1 ≤ a ∧ a ≤ 4096 := by have := halfV_pos W; have := halfV_le hws.1; omega
  have hb1' : 1 ≤ b ∧ b ≤ 4096 := by have := halfV_pos H; have := halfV_le hws.2.1; omega
  have hN : (4 * (a : Int) * (b : Int)).toNat = 4 * (b * a) := by
    rw [Int.mul_assoc, Int.mul_comm (a : Int)]
    have : (4 * ((b : Int) * (a : Int))) = ((4 * (b * a) : Nat) : Int) := by push_cast; rfl
    rw [this, Int.toNat_natCast]
  rw [ha, hb', hN]
  have HA := hide ha
  have HB' := hide hb'
  have hKb : ∀ y, y ≤ b → y * a ≤ 16777216 := fun y hy => by
    have := Nat.mul_le_mul (show y ≤ 4096 by omega) ha1.2
    omega
  have HKB := hide hKb
  obtain ⟨i0, hi0, hz0, hz1, hz2⟩ := info_parts Try.info5
  have HI := hide (And.intro hi0 (And.intro hz0 (And.intro hz1 hz2)))
  clear hrd hf hr ha hb' hN hKb hi0 hz0 hz1 hz2
  go_enter Try.func12, Try.ntmps12
  go_wp2_with fail
  refine (right_any W H ao n cap _).mono ?_
  rintro e w1 ⟨rfl, hb⟩
  rw [HR.out]
  have BI := hide (Box.below (b := w.heap.size) (cs := #[.int .i64 W, .int .i64 H, .slice ao n cap]) (by (repeat' (first | (refine Box.mk' ?_; simp; done) | (refine Box.old ?_ ?_; rotate_left; (simp <;> omega))))) hb (by simp; omega))
  have BR := hide (Box.below (b := w.heap.size + 1) (cs := #[.int .i64 0, .int .i64 0, .slice none 0 0]) (by (repeat' (first | (refine Box.mk' ?_; simp; done) | (refine Box.old ?_ ?_; rotate_left; (simp <;> omega))))) hb (by simp))
  have hb1 := hide (Below.trans (by (repeat' (first | exact Below.refl _ _ | assumption | refine Below.setCell ?_ (by simp <;> omega) _ | refine Below.alloc ?_ (by simp <;> omega) _))) (hb.mono (by simp; omega)) : Below w.heap.size w w1)
  have hs1 : w.heap.size + 2 ≤ w1.heap.size := by have := hb.size; simp at this; omega
  clear hb
  obtain ⟨⟨k0, k1, k2⟩, _⟩ := BI.out.c3
  have n0 := World.new_ne w1 _ k0
  have n1 := World.new_ne w1 _ k1
  go_upto_region 3 with (fail)
  go_cut [4] from 13 to 19 (fun s4 wx => s4 = .pointer (some ⟨w1.heap.size, 0, none⟩) ∧ Box wx w1.heap.size #[.int .i64 a, .int .i64 b, .slice none 0 0] ∧ Below w1.heap.size w1 wx)
  case first =>
    go_region_held3 (fun w' => w'.cell? ⟨w.heap.size, 0, none⟩ = some (.int .i64 W) ∧ w'.cell? ⟨w.heap.size, 1, none⟩ = some (.int .i64 H)) (go_keep)
      (first
        | (go_at_call_of 41 (Value.int .i64 W); refine (half_any W _ hW.1 hW.2).mono ?_; rintro e w' ⟨rfl, rfl⟩; rw [HA.out])
        | (go_at_call_of 41 (Value.int .i64 H); refine (half_any H _ hH.1 hH.2).mono ?_; rintro e w' ⟨rfl, rfl⟩; rw [HB'.out]))
    all_goals (go_wp2_with fail; go_meet)
    all_goals exact ⟨rfl, Box.mk' rfl, ((Below.refl _ w1).alloc (Nat.le_refl _) _).drew⟩
  case rest =>
    obtain ⟨rfl, hbo, hbc⟩ := hcut
    have BO := hide hbo
    have BR2 := hide (BR.out.below hbc (by omega))
    have BI2 := hide (BI.out.below hbc (by omega))
    have hb2 := hide (hb1.out.trans (hbc.mono (by omega)))
    have hpo : w1.heap.size < wc.heap.size := hbo.lt (by simp)
    clear hbo hbc k0 k1 k2 n0 n1 BI BR hb1
    generalize w1.heap.size = po at *
    obtain ⟨⟨m0, m1, m2⟩, _⟩ := BO.out.c3
    go_wp2_with fail
    clear m0 m1 m2
    go_loopw [22] (fun y' wr => ∃ (y : Nat) (u : Value), y ≤ b ∧ y' = .int .i64 y ∧ OwnB wr (po + 1) u (4 * (y * a)) (halfF W H f) ∧ Box wr po #[.int .i64 a, .int .i64 b, u] ∧ Below po wc wr ∧ po < wr.heap.size) (fun y' _ => b - (intOf y').toNat)
    case atStart => exact ⟨0, _, by omega, rfl, by rw [Nat.zero_mul, Nat.mul_zero]; exact World.ownsRow_nil _ _ _ _, BO.out, Below.refl _ _, hpo⟩
    case round =>
      obtain ⟨y, u, hyb, rfl, hown, hbx, hbw, hpr⟩ := hrel
      have HO := hide hown
      have BX := hide hbx
      have HB := hide hbw
      have hK := HKB.out y hyb
      have hK1 : y < b → y * a + a ≤ 16777216 := fun h => by have := HKB.out (y + 1) h; rw [Nat.add_mul, Nat.one_mul] at this; exact this
      obtain ⟨q, hq⟩ : ∃ q, q = y * a := ⟨_, rfl⟩
      rw [← hq] at HO hK hK1
      have HQ := hide hq
      clear hown hbx hbw hq
      by_cases hlt : y < b
      · have hKa := hK1 hlt
        clear hK1
        obtain ⟨⟨m0, m1, m2⟩, _⟩ := BX.out.c3
        go_wp2_with fail
        clear m0 m1 m2
        go_loopw [27] (fun x' wq => ∃ (x : Nat) (u : Value), x ≤ a ∧ x' = .int .i64 x ∧ OwnB wq (po + 1) u (4 * (q + x)) (halfF W H f) ∧ Box wq po #[.int .i64 a, .int .i64 b, u] ∧ Below po wc wq ∧ po < wq.heap.size) (fun x' _ => a - (intOf x').toNat)
        case atStart => exact ⟨0, u, by omega, rfl, HO.out, BX.out, HB.out, hpr⟩
        case round =>
          obtain ⟨x, u, hxa, rfl, hown, hbx, hbw, hpr⟩ := hrel
          have HO2 := hide hown
          have BX2 := hide hbx
          have HB2 := hide hbw
          clear hown hbx hbw
          by_cases hltx : x < a
          · have BIq := hide (BI2.out.below HB2.out (by omega))
            obtain ⟨⟨k0, k1, k2⟩, _⟩ := BIq.out.c3
            have hHF := hide (show ∀ c, c < 4 → halfF W H f (4 * (q + x) + c) = meanV W H f x y c from fun c hc => by rw [HQ.out]; exact halfF_at HA.out hltx hc)
            have hMB := hide (show ∀ c, 0 ≤ meanV W H f x y c ∧ meanV W H f x y c ≤ 255 from fun c => meanV_bd HF.out _ _ _)
            obtain ⟨mv, hmv⟩ : ∃ mv, mv = meanV W H f x y := ⟨_, rfl⟩
            rw [← hmv] at hHF hMB
            have HMV := hide hmv
            clear hmv
            go_wp2_with fail
            refine (mean_any (x : Int) (y : Int) (HV.out.below (hb2.out.trans (HB2.out.mono (by omega))) (Nat.le_refl _)) HR.out (by omega) (by omega)).mono ?_
            rintro e w5 ⟨rfl, hb⟩
            rw [← HMV.out]
            unfold four
            have HO5 := hide (HO2.out.below hb)
            have BX5 := hide (BX2.out.below hb hpr)
            have HB5 := hide (HB2.out.trans (hb.mono (by omega)))
            have hp5 : po < w5.heap.size := by have := hb.size; omega
            clear hb k0 k1 k2 BIq HO2 BX2 HB2
            go_wp2_with fail
            go_loopw [34] (fun c' wz => ∃ (c : Nat) (u : Value), c ≤ 4 ∧ c' = .int .i64 c ∧ OwnB wz (po + 1) u (4 * (q + x) + c) (halfF W H f) ∧ Box wz po #[.int .i64 a, .int .i64 b, u] ∧ Below po wc wz ∧ po < wz.heap.size) (fun c' _ => 4 - (intOf c').toNat)
            case atStart => exact ⟨0, u, by omega, rfl, HO5.out, BX5.out, HB5.out, hp5⟩
            case round =>
              obtain ⟨c, u, hc4, rfl, hown, hbx, hbw, hpr⟩ := hrel
              have HO6 := hide hown
              have BX6 := hide hbx
              have HB6 := hide hbw
              clear hown hbx hbw
              by_cases hltc : c < 4
              · have ix := index_tx mv c hltc
                have hcI : (c : Int) < 4 := by omega
                have hm0 := hMB.out c
                obtain ⟨z, hz⟩ : ∃ z, z = mv c := ⟨_, rfl⟩
                rw [← hz] at ix hm0
                have HZ := hide (show z = halfF W H f (4 * (q + x) + c) by rw [hz, hHF.out c hltc])
                clear hz
                go_wp2_with fail
                clear ix
                obtain ⟨⟨m0, m1, m2⟩, mf0, mf1, mf2⟩ := BX6.out.c3
                refine wp_region_any (by kernel_rfl) ?_
                change wpAny _ _ _ _ _ _ _ (World.drew _)
                obtain ⟨wd, hwd⟩ : ∃ wd, wd = wr.drew := ⟨_, rfl⟩
                have HOd := hide (show OwnB wd (po + 1) u (4 * (q + x) + c) (halfF W H f) by rw [hwd]; exact World.ownsRow.drew HO6.out)
                have BXd := hide (show Box wd po #[.int .i64 a, .int .i64 b, u] by rw [hwd]; exact BX6.out)
                have HBd := hide (show Below po wc wd by rw [hwd]; exact HB6.out.drew)
                have hpd : po < wd.heap.size := by rw [hwd]; exact hpr
                rw [← hwd]
                clear hwd m0 m1 m2 mf0 mf1 mf2 HO6 BX6 HB6
                have hcl : clampV z 255 = z := clampV_id hm0
                have HCL := hide hcl
                have hu8 : IntKind.u8.wrap z = z := by rw [IntKind.wrap_u8]; omega
                clear hcl
                refine wpAny_take (i := 0) (v := ?v0) rfl (by kernel_rfl) (by kernel_rfl) (by kernel_rfl) (fun _ _ _ h => h) (Or.inl ⟨by rfl, ?y0⟩) ?_
                case y0 => intro w'; go_simp; first | done | with_reducible rfl
                refine wpAny_take (i := 2) (v := ?v2) rfl (by kernel_rfl) (by kernel_rfl) (by kernel_rfl) (fun _ _ _ h => h) (Or.inl ⟨by rfl, ?y2⟩) ?_
                case y2 => intro w'; go_simp; first | done | with_reducible rfl
                refine any_two (i := 1) (j := 3) (by kernel_rfl) ?_ ?_
                · refine op_val rfl (by kernel_rfl) (exec_load22 (.tmp 37) (by kernel_rfl) ⟨po, 2, none⟩ (by kernel_rfl) (BXd.out 2 u rfl).1) ?_
                  refine any_one (i := 3) (by kernel_rfl) ?_
                  refine op_call rfl (by kernel_rfl) (exec_call2 (.tmp 39) (.const (.int .i64 255)) #[3, 3] (by kernel_rfl) cf43 (v0 := .int .i64 z) (v1 := .int .i64 255) (by kernel_rfl) (by kernel_rfl)) ?_
                  refine (clamp_any z 255 wd).mono ?_
                  rintro e w' ⟨rfl, rfl⟩
                  refine ⟨_, rfl, ?_⟩
                  rw [HCL.out]
                  refine wpAny_take (i := 4) (v := ?v4a) rfl (by kernel_rfl) (by kernel_rfl) (by kernel_rfl) (fun _ _ _ h => h) (Or.inl ⟨by rfl, ?y4a⟩) ?_
                  case y4a => intro w'; go_simp; first | done | with_reducible rfl
                  refine any_one (i := 5) (by kernel_rfl) ?_
                  refine op_val rfl (by kernel_rfl) (exec_slice5 (.tmp 41) (by kernel_rfl) .u8 z (by kernel_rfl)) ?_
                  refine any_one (i := 6) (by kernel_rfl) ?_
                  refine op_wp rfl (by kernel_rfl) ?_
                  refine wp_append_lies _ (.tmp 38) (.tmp 42) 22 (by kernel_rfl) (po + 1) 5 i0 (.int .u8 0) 1 1 Try.underlying22 HI.out.1 HI.out.2.1 HI.out.2.2.1 HI.out.2.2.2 rfl (by decide) u (4 * (q + x) + c) _ (by kernel_rfl) (World.ownsRow.alloc HOd.out _) ⟨wd.heap.size, 0, none⟩ 1 1 [.int .u8 z] (by kernel_rfl) rfl (World.news_of_block (cs := #[.int .u8 z]) (t := 5) (fr := (0, 0)) (heap_alloc_new wd _)) (by simp [Value.oneCell']) (by omega) (by unfold maxLen; omega) (by omega) (by simp; omega) _ rfl ?_
                  intro g cap' w6 hown hgrow hat hlt6
                  have HO7 := hide (OwnB.snoc HZ.out hown)
                  have hgB : po + 1 ≤ g := (World.ownsRow.lt hown g rfl).1
                  have hal := (((Below.refl (po + 1) wd).alloc (by omega) (.cells #[.int .u8 z] 5)).grown hgrow (by simp; omega) (fun k e => (World.ownsRow.lt HOd.out k e).1))
                  have BX7 := hide (BXd.out.below hal (by omega))
                  have HB7 := hide (HBd.out.trans (hal.mono (by omega)))
                  have hp7 : po < w6.heap.size := by have := hal.size; omega
                  clear hown hgrow hat hlt6 hal
                  refine wpAny_take (i := 7) (v := ?v7a) rfl (by kernel_rfl) (by kernel_rfl) (by kernel_rfl) (fun _ _ _ h => h) (Or.inl ⟨by rfl, ?y7a⟩) ?_
                  case y7a => intro w'; go_simp; first | done | with_reducible rfl
                  refine any_one (i := 8) (by kernel_rfl) ?_
                  refine op_skip (w' := w6.setCell ⟨po, 2, none⟩ (.slice (some ⟨g, 0, none⟩) (4 * (q + x) + c + 1) cap')) rfl (by kernel_rfl) (exec_store22 (.tmp 44) (.tmp 43) (by kernel_rfl) po 2 (by kernel_rfl) (by kernel_rfl) (by rw [(BX7.out 2 u rfl).1]; rfl) (BX7.out 2 u rfl).2) ?_
                  refine wpAny_done (by kernel_rfl) ?_ _
                  go_wp2_with fail
                  refine ⟨⟨c + 1, .slice (some ⟨g, 0, none⟩) (4 * (q + x) + c + 1) cap', by omega, by go_num, ?_, ?_, HB7.out.setCell (Nat.le_refl _) _, by simpa [World.setCell] using hp7⟩, by simp [intOf]; omega⟩
                  · exact ownsRow_setCell_below HO7.out (by simp) _
                  · have := BX7.out.set (k := 2) (.slice (some ⟨g, 0, none⟩) (4 * (q + x) + c + 1) cap') (by simp)
                    simpa using this
                · refine op_call rfl (by kernel_rfl) (exec_call2 (.tmp 39) (.const (.int .i64 255)) #[3, 3] (by kernel_rfl) cf43 (v0 := .int .i64 z) (v1 := .int .i64 255) (by kernel_rfl) (by kernel_rfl)) ?_
                  refine (clamp_any z 255 wd).mono ?_
                  rintro e w' ⟨rfl, rfl⟩
                  refine ⟨_, rfl, ?_⟩
                  rw [HCL.out]
                  refine wpAny_take (i := 4) (v := ?v4b) rfl (by kernel_rfl) (by kernel_rfl) (by kernel_rfl) (fun _ _ _ h => h) (Or.inl ⟨by rfl, ?y4b⟩) ?_
                  case y4b => intro w'; go_simp; first | done | with_reducible rfl
                  refine any_two (i := 1) (j := 5) (by kernel_rfl) ?_ ?_
                  · refine op_val rfl (by kernel_rfl) (exec_load22 (.tmp 37) (by kernel_rfl) ⟨po, 2, none⟩ (by kernel_rfl) (BXd.out 2 u rfl).1) ?_
                    refine any_one (i := 5) (by kernel_rfl) ?_
                    refine op_val rfl (by kernel_rfl) (exec_slice5 (.tmp 41) (by kernel_rfl) .u8 z (by kernel_rfl)) ?_
                    refine any_one (i := 6) (by kernel_rfl) ?_
                    refine op_wp rfl (by kernel_rfl) ?_
                    refine wp_append_lies _ (.tmp 38) (.tmp 42) 22 (by kernel_rfl) (po + 1) 5 i0 (.int .u8 0) 1 1 Try.underlying22 HI.out.1 HI.out.2.1 HI.out.2.2.1 HI.out.2.2.2 rfl (by decide) u (4 * (q + x) + c) _ (by kernel_rfl) (World.ownsRow.alloc HOd.out _) ⟨wd.heap.size, 0, none⟩ 1 1 [.int .u8 z] (by kernel_rfl) rfl (World.news_of_block (cs := #[.int .u8 z]) (t := 5) (fr := (0, 0)) (heap_alloc_new wd _)) (by simp [Value.oneCell']) (by omega) (by unfold maxLen; omega) (by omega) (by simp; omega) _ rfl ?_
                    intro g cap' w6 hown hgrow hat hlt6
                    have HO7 := hide (OwnB.snoc HZ.out hown)
                    have hgB : po + 1 ≤ g := (World.ownsRow.lt hown g rfl).1
                    have hal := (((Below.refl (po + 1) wd).alloc (by omega) (.cells #[.int .u8 z] 5)).grown hgrow (by simp; omega) (fun k e => (World.ownsRow.lt HOd.out k e).1))
                    have BX7 := hide (BXd.out.below hal (by omega))
                    have HB7 := hide (HBd.out.trans (hal.mono (by omega)))
                    have hp7 : po < w6.heap.size := by have := hal.size; omega
                    clear hown hgrow hat hlt6 hal
                    refine wpAny_take (i := 7) (v := ?v7b) rfl (by kernel_rfl) (by kernel_rfl) (by kernel_rfl) (fun _ _ _ h => h) (Or.inl ⟨by rfl, ?y7b⟩) ?_
                    case y7b => intro w'; go_simp; first | done | with_reducible rfl
                    refine any_one (i := 8) (by kernel_rfl) ?_
                    refine op_skip (w' := w6.setCell ⟨po, 2, none⟩ (.slice (some ⟨g, 0, none⟩) (4 * (q + x) + c + 1) cap')) rfl (by kernel_rfl) (exec_store22 (.tmp 44) (.tmp 43) (by kernel_rfl) po 2 (by kernel_rfl) (by kernel_rfl) (by rw [(BX7.out 2 u rfl).1]; rfl) (BX7.out 2 u rfl).2) ?_
                    refine wpAny_done (by kernel_rfl) ?_ _
                    go_wp2_with fail
                    refine ⟨⟨c + 1, .slice (some ⟨g, 0, none⟩) (4 * (q + x) + c + 1) cap', by omega, by go_num, ?_, ?_, HB7.out.setCell (Nat.le_refl _) _, by simpa [World.setCell] using hp7⟩, by simp [intOf]; omega⟩
                    · exact ownsRow_setCell_below HO7.out (by simp) _
                    · have := BX7.out.set (k := 2) (.slice (some ⟨g, 0, none⟩) (4 * (q + x) + c + 1) cap') (by simp)
                      simpa using this
                  · refine op_val rfl (by kernel_rfl) (exec_slice5 (.tmp 41) (by kernel_rfl) .u8 z (by kernel_rfl)) ?_
                    have BXe := hide (BXd.out.old (o := .cells #[.int .u8 z] 5) hpd)
                    refine any_one (i := 1) (by kernel_rfl) ?_
                    refine op_val rfl (by kernel_rfl) (exec_load22 (.tmp 37) (by kernel_rfl) ⟨po, 2, none⟩ (by kernel_rfl) (BXe.out 2 u rfl).1) ?_
                    refine any_one (i := 6) (by kernel_rfl) ?_
                    refine op_wp rfl (by kernel_rfl) ?_
                    refine wp_append_lies _ (.tmp 38) (.tmp 42) 22 (by kernel_rfl) (po + 1) 5 i0 (.int .u8 0) 1 1 Try.underlying22 HI.out.1 HI.out.2.1 HI.out.2.2.1 HI.out.2.2.2 rfl (by decide) u (4 * (q + x) + c) _ (by kernel_rfl) (World.ownsRow.alloc HOd.out _) ⟨wd.heap.size, 0, none⟩ 1 1 [.int .u8 z] (by kernel_rfl) rfl (World.news_of_block (cs := #[.int .u8 z]) (t := 5) (fr := (0, 0)) (heap_alloc_new wd _)) (by simp [Value.oneCell']) (by omega) (by unfold maxLen; omega) (by omega) (by simp; omega) _ rfl ?_
                    intro g cap' w6 hown hgrow hat hlt6
                    have HO7 := hide (OwnB.snoc HZ.out hown)
                    have hgB : po + 1 ≤ g := (World.ownsRow.lt hown g rfl).1
                    have hal := (((Below.refl (po + 1) wd).alloc (by omega) (.cells #[.int .u8 z] 5)).grown hgrow (by simp; omega) (fun k e => (World.ownsRow.lt HOd.out k e).1))
                    have BX7 := hide (BXd.out.below hal (by omega))
                    have HB7 := hide (HBd.out.trans (hal.mono (by omega)))
                    have hp7 : po < w6.heap.size := by have := hal.size; omega
                    clear hown hgrow hat hlt6 hal
                    refine wpAny_take (i := 7) (v := ?v7c) rfl (by kernel_rfl) (by kernel_rfl) (by kernel_rfl) (fun _ _ _ h => h) (Or.inl ⟨by rfl, ?y7c⟩) ?_
                    case y7c => intro w'; go_simp; first | done | with_reducible rfl
                    refine any_one (i := 8) (by kernel_rfl) ?_
                    refine op_skip (w' := w6.setCell ⟨po, 2, none⟩ (.slice (some ⟨g, 0, none⟩) (4 * (q + x) + c + 1) cap')) rfl (by kernel_rfl) (exec_store22 (.tmp 44) (.tmp 43) (by kernel_rfl) po 2 (by kernel_rfl) (by kernel_rfl) (by rw [(BX7.out 2 u rfl).1]; rfl) (BX7.out 2 u rfl).2) ?_
                    refine wpAny_done (by kernel_rfl) ?_ _
                    go_wp2_with fail
                    refine ⟨⟨c + 1, .slice (some ⟨g, 0, none⟩) (4 * (q + x) + c + 1) cap', by omega, by go_num, ?_, ?_, HB7.out.setCell (Nat.le_refl _) _, by simpa [World.setCell] using hp7⟩, by simp [intOf]; omega⟩
                    · exact ownsRow_setCell_below HO7.out (by simp) _
                    · have := BX7.out.set (k := 2) (.slice (some ⟨g, 0, none⟩) (4 * (q + x) + c + 1) cap') (by simp)
                      simpa using this
              · obtain rfl : c = 4 := by omega
                go_wp2_with fail
                exact ⟨⟨x + 1, u, by omega, by go_num, by rw [show 4 * (q + (x + 1)) = 4 * (q + x) + 4 by omega]; exact HO6.out, BX6.out, HB6.out, hpr⟩, by simp [intOf]; omega⟩
          · obtain rfl : x = a := by omega
            go_wp2_with fail
            exact ⟨⟨y + 1, u, by omega, by go_num, by rw [Nat.add_mul, Nat.one_mul, ← HQ.out]; exact HO2.out, BX2.out, HB2.out, hpr⟩, by simp [intOf]; omega⟩
      · obtain rfl : y = b := by omega
        have hq1 : 0 < q := by rw [HQ.out]; exact Nat.mul_pos (by omega) (by omega)
        have hown := HO.out
        rw [show 4 * q = 4 * (y * a) by rw [HQ.out]] at hown
        obtain ⟨g, cap', hu, hg, hcl⟩ := own_cl (f := halfF W H f) hown (by have := HQ.out; omega) (fun i hi => by rw [List.getElem?_map, List.getElem?_range hi]; rfl)
        subst hu
        have HCL := hide hcl
        have BR3 := hide (BR2.out.below HB.out (by omega))
        have hb3 := hide (hb2.out.trans (HB.out.mono (by omega)))
        have hn4 : 4 * (y * a) ≤ 9223372036854775807 := by have := HQ.out; omega
        obtain ⟨⟨m0, m1, m2⟩, _⟩ := BX.out.c3
        obtain ⟨⟨l0, l1, l2⟩, lf0, lf1, lf2⟩ := BR3.out.c3
        clear hcl hown
        go_wp2_with fail
        refine bodyPost_ret (v := .tuple #[.agg #[.int .i64 a, .int .i64 y, .slice (some ⟨g, 0, none⟩) (4 * (y * a)) cap'], .int .i64 0]) (by simp [results, Try.results12, go_sem, World.cell?_setCell_same', l0, l1, l2]) rfl ⟨g, cap', rfl, by omega, ?_, ?_⟩
        · exact ((HCL.out.other (by simp; omega)).other (by simp; omega)).other (by simp; omega)
        · have hbw := hb3.out
          (repeat' (first | exact Below.refl _ _ | assumption | refine Below.setCell ?_ (by simp <;> omega) _ | refine Below.alloc ?_ (by simp <;> omega) _))
theorem mhalf_ok {W H : Int} {n : Nat} {f : Nat → Int} {v : Value} {w : World} (hv : Im w v W H n f) (hr : rightV W H n = true) : Calls Try.prog 12 #[v] w (halfP W H n f w) :=
  (mhalf_cl hv hr).mono fun _ _ h => halfC_P hv hr h
theorem mhalf_any {W H : Int} {n : Nat} {f : Nat → Int} {v : Value} {w : World} (hv : Im w v W H n f) : Calls Try.prog 12 #[v] w (halfP W H n f w) := by
  by_cases hr : rightV W H n = true
  · exact mhalf_ok hv hr
  · exact mhalf_no hv (by simpa using hr)
end Go.Proofs.Ytmckfppemhnhmaa
