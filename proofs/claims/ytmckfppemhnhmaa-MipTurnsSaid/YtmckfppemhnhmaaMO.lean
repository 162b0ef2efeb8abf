import Derived.Test.YtmckfppemhnhmaaMG
import Derived.Test.YtmckfppemhnhmaaML
namespace Go.Proofs.Ytmckfppemhnhmaa
open Go.RowKit

theorem exec_load3 {o : Oper} {a : Act} {w : World} {v : Value} (x : Operand) (ho : o.op = .load 3 x) (ad : Addr) (hx : a.eval x = .pointer (some ad)) (hc : w.cell? ad = some v) :
    (execOp a.eval o).run Try.prog w = .ok (.value v) w := by
  unfold execOp
  simp only [ho, hx]
  simp [Instr.loadAt, Instr.sureAddr, loadVar, isAgg, run_underlying Try.underlying3, Sem.run_bind, hc, go_sem]
/-- an image's bytes, columns as rows: a is its width, b its height -/
def turnN (a b : Nat) (f : Nat → Int) (i : Nat) : Int := f (4 * ((i / 4 % b) * a + i / 4 / b) + i % 4)
theorem turnN_at {a b x y c : Nat} {f : Nat → Int} (hx : x < b) (hc : c < 4) : turnN a b f (4 * (y * b + x) + c) = f (4 * (x * a + y) + c) := by
  unfold turnN
  rw [show (4 * (y * b + x) + c) / 4 = y * b + x by omega, show (4 * (y * b + x) + c) % 4 = c by omega]
  have h1 : (y * b + x) % b = x := by rw [Nat.add_comm, Nat.add_mul_mod_self_right, Nat.mod_eq_of_lt hx]
  have h2 : (y * b + x) / b = y := by
    rw [Nat.add_comm, Nat.add_mul_div_right _ _ (by omega), Nat.div_eq_of_lt hx, Nat.zero_add]
  rw [h1, h2]
theorem own_ne {w : World} {B g k cap pt : Nat} {h : Nat → Int} {mv : Nat → Int} (ho : OwnB w B (.slice (some ⟨g, 0, none⟩) (k + 1) cap) (k + 1) h) (hb : Box w pt (four mv)) : g ≠ pt := by
  obtain ⟨g', cap', e, _, hc⟩ := own_cl (f := h) ho (by omega) (fun i hi => by rw [List.getElem?_map, List.getElem?_range hi]; rfl)
  injection e with e1 _ _
  injection e1 with e1
  injection e1 with e1 _ _
  subst e1
  intro hg
  subst hg
  have h1 := (hc 0 (by omega)).1
  have h2 := (hb 0 _ (four_at mv 0 (by omega))).1
  rw [Nat.zero_add] at h1
  rw [h1] at h2
  simp at h2
def turnC (a b : Nat) (f : Nat → Int) (w : World) (e : Ending) (w' : World) : Prop :=
  ∃ g cap, e = .returned (.agg #[.int .i64 b, .int .i64 a, .slice (some ⟨g, 0, none⟩) (4 * (a * b)) cap]) ∧ w.heap.size ≤ g ∧ Cl w' g 0 (4 * (a * b)) (turnN a b f) ∧ Below w.heap.size w w'

set_option maxRecDepth 100000 in
set_option maxHeartbeats 1600000 in
theorem turned_cl {a b : Nat} {n : Nat} {f : Nat → Int} {v : Value} {w : World} (hv : Im w v a b n f) (hr : rightV a b n = true) : Calls Try.prog 39 #[v] w (turnC a b f w) := by
  have HV := hide hv
  obtain ⟨ao, cap, rfl, hrd, hW, hH⟩ := hv
  have hf : ∀ i, 0 ≤ f i ∧ f i ≤ 255 := by obtain ⟨_, _, _, _, hf, _⟩ := hrd; exact hf
  have HF := hide hf
  unfold turnC
  have HR := hide hr
  have hws : 1 ≤ a ∧ 1 ≤ b ∧ a ≤ 4096 ∧ b ≤ 4096 := by unfold rightV at hr; simp at hr; omega
  have hKb : ∀ y, y ≤ a → y * b ≤ 16777216 := fun y hy => by
    have := Nat.mul_le_mul (show y ≤ 4096 by omega) hws.2.2.2
    omega
  have HKB := hide hKb
  obtain ⟨i0, hi0, hz0, hz1, hz2⟩ := info_parts Try.info5
  have HI := hide (And.intro hi0 (And.intro hz0 (And.intro hz1 hz2)))
  clear hrd hf hr hKb hi0 hz0 hz1 hz2
  go_enter Try.func39, Try.ntmps39
  go_upto_region 2 with (fail)
  obtain ⟨w1, hw1⟩ : ∃ w1, w1 = ((w.alloc (.cells #[.int .i64 a, .int .i64 b, .slice ao n cap] 24)).alloc (.cells #[.int .i64 0, .int .i64 0, .slice none 0 0] 24)).alloc (.cells #[.int .i64 b, .int .i64 a, .slice none 0 0] 24) := ⟨_, rfl⟩
  rw [← hw1]
  have BI := hide (show Box w1 w.heap.size #[.int .i64 a, .int .i64 b, .slice ao n cap] by rw [hw1]; (repeat' (first | (refine Box.mk' ?_; simp; done) | (refine Box.old ?_ ?_; rotate_left; (simp <;> omega)))))
  have BR := hide (show Box w1 (w.heap.size + 1) #[.int .i64 0, .int .i64 0, .slice none 0 0] by rw [hw1]; (repeat' (first | (refine Box.mk' ?_; simp; done) | (refine Box.old ?_ ?_; rotate_left; (simp <;> omega)))))
  have BO := hide (show Box w1 (w.heap.size + 1 + 1) #[.int .i64 b, .int .i64 a, .slice none 0 0] by rw [hw1]; exact Box.mk' (by simp))
  have hb1 := hide (show Below w.heap.size w w1 by rw [hw1]; (repeat' (first | exact Below.refl _ _ | assumption | refine Below.setCell ?_ (by simp <;> omega) _ | refine Below.alloc ?_ (by simp <;> omega) _)))
  have hs1 : w.heap.size + 3 ≤ w1.heap.size := by rw [hw1]; simp
  clear hw1
  obtain ⟨po, hpo⟩ : ∃ po, po = w.heap.size + 1 + 1 := ⟨_, rfl⟩
  rw [← hpo] at BO
  rw [← hpo]
  have hpo1 : w.heap.size + 1 < po ∧ po < w1.heap.size := by omega
  clear hpo
  obtain ⟨⟨m0, m1, m2⟩, _⟩ := BO.out.c3
  go_wp2_with fail
  clear m0 m1 m2
  go_loopw [4] (fun y' wr => ∃ (y : Nat) (u : Value), y ≤ a ∧ y' = .int .i64 y ∧ OwnB wr (po + 1) u (4 * (y * b)) (turnN a b f) ∧ Box wr po #[.int .i64 b, .int .i64 a, u] ∧ Below po w1 wr ∧ po < wr.heap.size) (fun y' _ => a - (intOf y').toNat)
  case atStart => exact ⟨0, _, by omega, rfl, by rw [Nat.zero_mul, Nat.mul_zero]; exact World.ownsRow_nil _ _ _ _, BO.out, Below.refl _ _, by omega⟩
  case round =>
    obtain ⟨y, u, hyb, rfl, hown, hbx, hbw, hpr⟩ := hrel
    have HO := hide hown
    have BX := hide hbx
    have HB := hide hbw
    have hK := HKB.out y hyb
    have hK1 : y < a → y * b + b ≤ 16777216 := fun h => by have := HKB.out (y + 1) h; rw [Nat.add_mul, Nat.one_mul] at this; exact this
    obtain ⟨q, hq⟩ : ∃ q, q = y * b := ⟨_, rfl⟩
    rw [← hq] at HO hK hK1
    have HQ := hide hq
    clear hown hbx hbw hq
    by_cases hlt : y < a
    · have dy : decide (y < a) = true := by simpa using hlt
      have hKa := hK1 hlt
      clear hK1
      obtain ⟨⟨m0, m1, m2⟩, _⟩ := BX.out.c3
      go_wp2_with fail
      clear m0 m1 m2
      go_loopw [5] (fun x' wq => ∃ (x : Nat) (u : Value), x ≤ b ∧ x' = .int .i64 x ∧ OwnB wq (po + 1) u (4 * (q + x)) (turnN a b f) ∧ Box wq po #[.int .i64 b, .int .i64 a, u] ∧ Below po w1 wq ∧ po < wq.heap.size) (fun x' _ => b - (intOf x').toNat)
      case atStart => exact ⟨0, u, by omega, rfl, HO.out, BX.out, HB.out, hpr⟩
      case round =>
        obtain ⟨x, u, hxa, rfl, hown, hbx, hbw, hpr⟩ := hrel
        have HO2 := hide hown
        have BX2 := hide hbx
        have HB2 := hide hbw
        clear hown hbx hbw
        obtain ⟨⟨m0, m1, m2⟩, _⟩ := BX2.out.c3
        by_cases hltx : x < b
        · have dx : decide (x < b) = true := by simpa using hltx
          have BIq := hide (BI.out.below HB2.out (by omega))
          obtain ⟨⟨k0, k1, k2⟩, _⟩ := BIq.out.c3
          have hHF := hide (show ∀ c, c < 4 → turnN a b f (4 * (q + x) + c) = f (4 * (x * a + y) + c) from fun c hc => by rw [HQ.out]; exact turnN_at hltx hc)
          go_wp2_with fail
          refine (at_any (y : Int) (x : Int) (HV.out.below (hb1.out.trans (HB2.out.mono (by omega))) (Nat.le_refl _))).mono ?_
          rintro e w5 ⟨rfl, hb⟩
          have hat : atV a b y x n f = (texV f (4 * (x * a + y)), 0) := by
            rw [atV_in HR.out (by unfold inV; simp; omega)]
            have : (4 * ((x : Int) * (a : Int) + y)) = ((4 * (x * a + y) : Nat) : Int) := by push_cast; rfl
            rw [this, Int.toNat_natCast]
          rw [hat]
          clear hat
          obtain ⟨mv, hmv⟩ : ∃ mv : Nat → Int, mv = fun c => f (4 * (x * a + y) + c) := ⟨_, rfl⟩
          have htx : texV f (4 * (x * a + y)) = four mv := by rw [hmv]; rfl
          rw [htx]
          have hHF2 := hide (show ∀ c, c < 4 → mv c = turnN a b f (4 * (q + x) + c) from fun c hc => by rw [hHF.out c hc, hmv])
          have hMB := hide (show ∀ c, 0 ≤ mv c ∧ mv c ≤ 255 from fun c => by rw [hmv]; exact HF.out _)
          clear hmv htx hHF
          unfold four
          have HO5 := hide (HO2.out.below hb)
          have BX5 := hide (BX2.out.below hb hpr)
          have HB5 := hide (HB2.out.trans (hb.mono (by omega)))
          have hp5 : po < w5.heap.size := by have := hb.size; omega
          clear hb k0 k1 k2 BIq HO2 BX2 HB2 m0 m1 m2
          go_wp2_with fail
          obtain ⟨w6, hw6⟩ : ∃ w6, w6 = w5.alloc (.cells #[.int .i64 (mv 0), .int .i64 (mv 1), .int .i64 (mv 2), .int .i64 (mv 3)] 38) := ⟨_, rfl⟩
          rw [← hw6]
          have BT := hide (show Box w6 w5.heap.size (four mv) by rw [hw6]; exact Box.mk' (by simp))
          have hal : Below w5.heap.size w5 w6 := by rw [hw6]; exact (Below.refl _ _).alloc (Nat.le_refl _) _
          have HO6 := hide (HO5.out.below hal)
          have BX6 := hide (BX5.out.below hal hp5)
          have HB6 := hide (HB5.out.trans (hal.mono (by omega)))
          have hp6 : w5.heap.size < w6.heap.size := by rw [hw6]; simp
          have hne0 : ∀ k, u.ownBlock = some k → k < w5.heap.size := fun k e => (World.ownsRow.lt HO5.out k e).2
          clear hw6 hal HO5 BX5 HB5
          generalize w5.heap.size = pt at *
          go_loopw [8] (fun c' wz => ∃ (c : Nat) (u : Value), c ≤ 4 ∧ c' = .int .i64 c ∧ OwnB wz (po + 1) u (4 * (q + x) + c) (turnN a b f) ∧ Box wz po #[.int .i64 b, .int .i64 a, u] ∧ Below po w1 wz ∧ po < wz.heap.size ∧ Box wz pt (four mv) ∧ pt < wz.heap.size ∧ ∀ k, u.ownBlock = some k → k ≠ pt) (fun c' _ => 4 - (intOf c').toNat)
          case atStart => exact ⟨0, u, by omega, rfl, HO6.out, BX6.out, HB6.out, by omega, BT.out, hp6, fun k e => by have := hne0 k e; omega⟩
          case round =>
            obtain ⟨c, u, hc4, rfl, hown, hbx, hbw, hpr, hbt, hpt, hne⟩ := hrel
            have HO7 := hide hown
            have BX7 := hide hbx
            have HB7 := hide hbw
            have BT7 := hide hbt
            clear hown hbx hbw hbt
            by_cases hltc : c < 4
            · have dc : decide ((c : Int) < 4) = true := by simp; omega
              have hcI : (c : Int) < 4 := by omega
              have hm0 := hMB.out c
              have t0 := (BT7.out c _ (four_at _ c hltc)).1
              obtain ⟨z, hz⟩ : ∃ z, z = mv c := ⟨_, rfl⟩
              rw [← hz] at t0 hm0
              have HZ := hide (show z = turnN a b f (4 * (q + x) + c) by rw [hz, hHF2.out c hltc])
              have hu8 : IntKind.u8.wrap z = z := by rw [IntKind.wrap_u8]; omega
              have HM := hide hz
              clear hz
              obtain ⟨⟨m0, m1, m2⟩, mf0, mf1, mf2⟩ := BX7.out.c3
              go_upto_region 12 with (fail)
              clear m0 m1 m2 mf0 mf1 mf2 t0
              refine wp_region_any (by kernel_rfl) ?_
              change wpAny _ _ _ _ _ _ _ (World.drew _)
              obtain ⟨wd, hwd⟩ : ∃ wd, wd = wr.drew := ⟨_, rfl⟩
              have HOd := hide (show OwnB wd (po + 1) u (4 * (q + x) + c) (turnN a b f) by rw [hwd]; exact World.ownsRow.drew HO7.out)
              have BXd := hide (show Box wd po #[.int .i64 b, .int .i64 a, u] by rw [hwd]; exact BX7.out)
              have BTd := hide (show Box wd pt (four mv) by rw [hwd]; exact BT7.out)
              have HBd := hide (show Below po w1 wd by rw [hwd]; exact HB7.out.drew)
              have hpd : po < wd.heap.size := by rw [hwd]; exact hpr
              have hptd : pt < wd.heap.size := by rw [hwd]; exact hpt
              have td : wd.cell? ⟨pt, c, none⟩ = some (.int .i64 z) := by rw [HM.out]; exact (BTd.out c _ (four_at _ c hltc)).1
              rw [← hwd]
              clear hwd HO7 BX7 HB7 BT7
              refine wpAny_take (i := 0) (v := ?v0) rfl (by kernel_rfl) (by kernel_rfl) (by kernel_rfl) (fun _ _ _ h => h) (Or.inl ⟨by rfl, ?y0⟩) ?_
              case y0 => intro w'; go_simp; first | done | with_reducible rfl
              refine wpAny_take (i := 2) (v := ?v2) rfl (by kernel_rfl) (by kernel_rfl) (by kernel_rfl) (fun _ _ _ h => h) (Or.inl ⟨by rfl, ?y2⟩) ?_
              case y2 => intro w'; go_simp; first | done | with_reducible rfl
              refine wpAny_take (i := 3) (v := ?v3) rfl (by kernel_rfl) (by kernel_rfl) (by kernel_rfl) (fun _ _ _ h => h) (Or.inl ⟨by rfl, ?y3⟩) ?_
              case y3 => intro w'; go_simp; first | done | with_reducible rfl
              refine any_two (i := 1) (j := 4) (by kernel_rfl) ?_ ?_
              · refine op_val rfl (by kernel_rfl) (exec_load22 (.tmp 37) (by kernel_rfl) ⟨po, 2, none⟩ (by kernel_rfl) (BXd.out 2 u rfl).1) ?_
                refine any_one (i := 4) (by kernel_rfl) ?_
                refine op_val rfl (by kernel_rfl) (exec_load3 (.tmp 40) (by kernel_rfl) ⟨pt, c, none⟩ (by kernel_rfl) td) ?_
                refine wpAny_take (i := 5) (v := ?v5a) rfl (by kernel_rfl) (by kernel_rfl) (by kernel_rfl) (fun _ _ _ h => h) (Or.inl ⟨by rfl, ?y5a⟩) ?_
                case y5a => intro w'; go_simp; first | done | with_reducible rfl
                refine any_one (i := 6) (by kernel_rfl) ?_
                refine op_val rfl (by kernel_rfl) (exec_slice5 (.tmp 42) (by kernel_rfl) .u8 z (by kernel_rfl)) ?_
                refine any_one (i := 7) (by kernel_rfl) ?_
                refine op_wp rfl (by kernel_rfl) ?_
                refine wp_append_lies _ (.tmp 38) (.tmp 43) 22 (by kernel_rfl) (po + 1) 5 i0 (.int .u8 0) 1 1 Try.underlying22 HI.out.1 HI.out.2.1 HI.out.2.2.1 HI.out.2.2.2 rfl (by decide) u (4 * (q + x) + c) _ (by kernel_rfl) (World.ownsRow.alloc HOd.out _) ⟨wd.heap.size, 0, none⟩ 1 1 [.int .u8 z] (by kernel_rfl) rfl (World.news_of_block (cs := #[.int .u8 z]) (t := 5) (fr := (0, 0)) (heap_alloc_new wd _)) (by simp [Value.oneCell']) (by omega) (by unfold maxLen; omega) (by omega) (by simp; omega) _ rfl ?_
                intro g cap' w6 hown hgrow hat hlt6
                have HO8 := hide (OwnB.snoc HZ.out hown)
                have hgB : po + 1 ≤ g := (World.ownsRow.lt hown g rfl).1
                have hal := (((Below.refl (po + 1) wd).alloc (by omega) (.cells #[.int .u8 z] 5)).grown hgrow (by simp; omega) (fun k e => (World.ownsRow.lt HOd.out k e).1))
                have BX8 := hide (BXd.out.below hal (by omega))
                have HB8 := hide (HBd.out.trans (hal.mono (by omega)))
                have BT8 := hide (show Box w6 pt (four mv) from (BTd.out.old (o := .cells #[.int .u8 z] 5) hptd).grown hgrow (by simp; omega) (fun e => hne pt e.symm rfl))
                have hgp : g ≠ pt := own_ne HO8.out BT8.out
                have hp8 : pt < w6.heap.size := by have := hal.size; omega
                clear hown hgrow hat hlt6 hal
                refine wpAny_take (i := 8) (v := ?v8a) rfl (by kernel_rfl) (by kernel_rfl) (by kernel_rfl) (fun _ _ _ h => h) (Or.inl ⟨by rfl, ?y8a⟩) ?_
                case y8a => intro w'; go_simp; first | done | with_reducible rfl
                refine any_one (i := 9) (by kernel_rfl) ?_
                refine op_skip (w' := w6.setCell ⟨po, 2, none⟩ (.slice (some ⟨g, 0, none⟩) (4 * (q + x) + c + 1) cap')) rfl (by kernel_rfl) (exec_store22 (.tmp 45) (.tmp 44) (by kernel_rfl) po 2 (by kernel_rfl) (by kernel_rfl) (by rw [(BX8.out 2 u rfl).1]; rfl) (BX8.out 2 u rfl).2) ?_
                refine wpAny_done (by kernel_rfl) ?_ _
                go_wp2_with fail
                refine ⟨⟨c + 1, .slice (some ⟨g, 0, none⟩) (4 * (q + x) + c + 1) cap', by omega, by go_num, ?_, ?_, HB8.out.setCell (Nat.le_refl _) _, by simp [World.setCell]; omega, ?_, by simpa [World.setCell] using hp8, ?_⟩, by simp [intOf]; omega⟩
                · exact ownsRow_setCell_below HO8.out (by simp) _
                · have := BX8.out.set (k := 2) (.slice (some ⟨g, 0, none⟩) (4 * (q + x) + c + 1) cap') (by simp)
                  simpa using this
                · exact BT8.out.other (by simp; omega)
                · exact fun k e => by simp [Value.ownBlock] at e; omega
              · refine op_val rfl (by kernel_rfl) (exec_load3 (.tmp 40) (by kernel_rfl) ⟨pt, c, none⟩ (by kernel_rfl) td) ?_
                refine wpAny_take (i := 5) (v := ?v5b) rfl (by kernel_rfl) (by kernel_rfl) (by kernel_rfl) (fun _ _ _ h => h) (Or.inl ⟨by rfl, ?y5b⟩) ?_
                case y5b => intro w'; go_simp; first | done | with_reducible rfl
                refine any_two (i := 1) (j := 6) (by kernel_rfl) ?_ ?_
                · refine op_val rfl (by kernel_rfl) (exec_load22 (.tmp 37) (by kernel_rfl) ⟨po, 2, none⟩ (by kernel_rfl) (BXd.out 2 u rfl).1) ?_
                  refine any_one (i := 6) (by kernel_rfl) ?_
                  refine op_val rfl (by kernel_rfl) (exec_slice5 (.tmp 42) (by kernel_rfl) .u8 z (by kernel_rfl)) ?_
                  refine any_one (i := 7) (by kernel_rfl) ?_
                  refine op_wp rfl (by kernel_rfl) ?_
                  refine wp_append_lies _ (.tmp 38) (.tmp 43) 22 (by kernel_rfl) (po + 1) 5 i0 (.int .u8 0) 1 1 Try.underlying22 HI.out.1 HI.out.2.1 HI.out.2.2.1 HI.out.2.2.2 rfl (by decide) u (4 * (q + x) + c) _ (by kernel_rfl) (World.ownsRow.alloc HOd.out _) ⟨wd.heap.size, 0, none⟩ 1 1 [.int .u8 z] (by kernel_rfl) rfl (World.news_of_block (cs := #[.int .u8 z]) (t := 5) (fr := (0, 0)) (heap_alloc_new wd _)) (by simp [Value.oneCell']) (by omega) (by unfold maxLen; omega) (by omega) (by simp; omega) _ rfl ?_
                  intro g cap' w6 hown hgrow hat hlt6
                  have HO8 := hide (OwnB.snoc HZ.out hown)
                  have hgB : po + 1 ≤ g := (World.ownsRow.lt hown g rfl).1
                  have hal := (((Below.refl (po + 1) wd).alloc (by omega) (.cells #[.int .u8 z] 5)).grown hgrow (by simp; omega) (fun k e => (World.ownsRow.lt HOd.out k e).1))
                  have BX8 := hide (BXd.out.below hal (by omega))
                  have HB8 := hide (HBd.out.trans (hal.mono (by omega)))
                  have BT8 := hide (show Box w6 pt (four mv) from (BTd.out.old (o := .cells #[.int .u8 z] 5) hptd).grown hgrow (by simp; omega) (fun e => hne pt e.symm rfl))
                  have hgp : g ≠ pt := own_ne HO8.out BT8.out
                  have hp8 : pt < w6.heap.size := by have := hal.size; omega
                  clear hown hgrow hat hlt6 hal
                  refine wpAny_take (i := 8) (v := ?v8b) rfl (by kernel_rfl) (by kernel_rfl) (by kernel_rfl) (fun _ _ _ h => h) (Or.inl ⟨by rfl, ?y8b⟩) ?_
                  case y8b => intro w'; go_simp; first | done | with_reducible rfl
                  refine any_one (i := 9) (by kernel_rfl) ?_
                  refine op_skip (w' := w6.setCell ⟨po, 2, none⟩ (.slice (some ⟨g, 0, none⟩) (4 * (q + x) + c + 1) cap')) rfl (by kernel_rfl) (exec_store22 (.tmp 45) (.tmp 44) (by kernel_rfl) po 2 (by kernel_rfl) (by kernel_rfl) (by rw [(BX8.out 2 u rfl).1]; rfl) (BX8.out 2 u rfl).2) ?_
                  refine wpAny_done (by kernel_rfl) ?_ _
                  go_wp2_with fail
                  refine ⟨⟨c + 1, .slice (some ⟨g, 0, none⟩) (4 * (q + x) + c + 1) cap', by omega, by go_num, ?_, ?_, HB8.out.setCell (Nat.le_refl _) _, by simp [World.setCell]; omega, ?_, by simpa [World.setCell] using hp8, ?_⟩, by simp [intOf]; omega⟩
                  · exact ownsRow_setCell_below HO8.out (by simp) _
                  · have := BX8.out.set (k := 2) (.slice (some ⟨g, 0, none⟩) (4 * (q + x) + c + 1) cap') (by simp)
                    simpa using this
                  · exact BT8.out.other (by simp; omega)
                  · exact fun k e => by simp [Value.ownBlock] at e; omega
                · refine op_val rfl (by kernel_rfl) (exec_slice5 (.tmp 42) (by kernel_rfl) .u8 z (by kernel_rfl)) ?_
                  have BXe := hide (BXd.out.old (o := .cells #[.int .u8 z] 5) hpd)
                  refine any_one (i := 1) (by kernel_rfl) ?_
                  refine op_val rfl (by kernel_rfl) (exec_load22 (.tmp 37) (by kernel_rfl) ⟨po, 2, none⟩ (by kernel_rfl) (BXe.out 2 u rfl).1) ?_
                  refine any_one (i := 7) (by kernel_rfl) ?_
                  refine op_wp rfl (by kernel_rfl) ?_
                  refine wp_append_lies _ (.tmp 38) (.tmp 43) 22 (by kernel_rfl) (po + 1) 5 i0 (.int .u8 0) 1 1 Try.underlying22 HI.out.1 HI.out.2.1 HI.out.2.2.1 HI.out.2.2.2 rfl (by decide) u (4 * (q + x) + c) _ (by kernel_rfl) (World.ownsRow.alloc HOd.out _) ⟨wd.heap.size, 0, none⟩ 1 1 [.int .u8 z] (by kernel_rfl) rfl (World.news_of_block (cs := #[.int .u8 z]) (t := 5) (fr := (0, 0)) (heap_alloc_new wd _)) (by simp [Value.oneCell']) (by omega) (by unfold maxLen; omega) (by omega) (by simp; omega) _ rfl ?_
                  intro g cap' w6 hown hgrow hat hlt6
                  have HO8 := hide (OwnB.snoc HZ.out hown)
                  have hgB : po + 1 ≤ g := (World.ownsRow.lt hown g rfl).1
                  have hal := (((Below.refl (po + 1) wd).alloc (by omega) (.cells #[.int .u8 z] 5)).grown hgrow (by simp; omega) (fun k e => (World.ownsRow.lt HOd.out k e).1))
                  have BX8 := hide (BXd.out.below hal (by omega))
                  have HB8 := hide (HBd.out.trans (hal.mono (by omega)))
                  have BT8 := hide (show Box w6 pt (four mv) from (BTd.out.old (o := .cells #[.int .u8 z] 5) hptd).grown hgrow (by simp; omega) (fun e => hne pt e.symm rfl))
                  have hgp : g ≠ pt := own_ne HO8.out BT8.out
                  have hp8 : pt < w6.heap.size := by have := hal.size; omega
                  clear hown hgrow hat hlt6 hal
                  refine wpAny_take (i := 8) (v := ?v8c) rfl (by kernel_rfl) (by kernel_rfl) (by kernel_rfl) (fun _ _ _ h => h) (Or.inl ⟨by rfl, ?y8c⟩) ?_
                  case y8c => intro w'; go_simp; first | done | with_reducible rfl
                  refine any_one (i := 9) (by kernel_rfl) ?_
                  refine op_skip (w' := w6.setCell ⟨po, 2, none⟩ (.slice (some ⟨g, 0, none⟩) (4 * (q + x) + c + 1) cap')) rfl (by kernel_rfl) (exec_store22 (.tmp 45) (.tmp 44) (by kernel_rfl) po 2 (by kernel_rfl) (by kernel_rfl) (by rw [(BX8.out 2 u rfl).1]; rfl) (BX8.out 2 u rfl).2) ?_
                  refine wpAny_done (by kernel_rfl) ?_ _
                  go_wp2_with fail
                  refine ⟨⟨c + 1, .slice (some ⟨g, 0, none⟩) (4 * (q + x) + c + 1) cap', by omega, by go_num, ?_, ?_, HB8.out.setCell (Nat.le_refl _) _, by simp [World.setCell]; omega, ?_, by simpa [World.setCell] using hp8, ?_⟩, by simp [intOf]; omega⟩
                  · exact ownsRow_setCell_below HO8.out (by simp) _
                  · have := BX8.out.set (k := 2) (.slice (some ⟨g, 0, none⟩) (4 * (q + x) + c + 1) cap') (by simp)
                    simpa using this
                  · exact BT8.out.other (by simp; omega)
                  · exact fun k e => by simp [Value.ownBlock] at e; omega
            · obtain rfl : c = 4 := by omega
              go_wp2_with fail
              exact ⟨⟨x + 1, u, by omega, by go_num, by rw [show 4 * (q + (x + 1)) = 4 * (q + x) + 4 by omega]; exact HO7.out, BX7.out, HB7.out, hpr⟩, by simp [intOf]; omega⟩
        · obtain rfl : x = b := by omega
          go_wp2_with fail
          exact ⟨⟨y + 1, u, by omega, by go_num, by rw [Nat.add_mul, Nat.one_mul, ← HQ.out]; exact HO2.out, BX2.out, HB2.out, hpr⟩, by simp [intOf]; omega⟩
    · obtain rfl : y = a := by omega
      have hq1 : 0 < q := by rw [HQ.out]; exact Nat.mul_pos (by omega) (by omega)
      have hown := HO.out
      rw [show 4 * q = 4 * (y * b) by rw [HQ.out]] at hown
      obtain ⟨g, cap', hu, hg, hcl⟩ := own_cl (f := turnN y b f) hown (by have := HQ.out; omega) (fun i hi => by rw [List.getElem?_map, List.getElem?_range hi]; rfl)
      subst hu
      have HCL := hide hcl
      have BR3 := hide (BR.out.below HB.out (by omega))
      have hb3 := hide (hb1.out.trans (HB.out.mono (by omega)))
      have hn4 : 4 * (y * b) ≤ 9223372036854775807 := by have := HQ.out; omega
      obtain ⟨⟨m0, m1, m2⟩, _⟩ := BX.out.c3
      obtain ⟨⟨l0, l1, l2⟩, lf0, lf1, lf2⟩ := BR3.out.c3
      clear hcl hown
      go_wp2_with fail
      refine bodyPost_ret (v := .agg #[.int .i64 b, .int .i64 y, .slice (some ⟨g, 0, none⟩) (4 * (y * b)) cap']) (by simp [results, Try.results39, go_sem, World.cell?_setCell_same', l0, l1, l2]) rfl ⟨g, cap', rfl, by omega, ?_, ?_⟩
      · exact ((HCL.out.other (by simp; omega)).other (by simp; omega)).other (by simp; omega)
      · have hbw := hb3.out
        (repeat' (first | exact Below.refl _ _ | assumption | refine Below.setCell ?_ (by simp <;> omega) _ | refine Below.alloc ?_ (by simp <;> omega) _))
end Go.Proofs.Ytmckfppemhnhmaa
