/-
A format's number in a kind of file, and the format of a number. Its conditions: none.
-/
import Derived.Test.YtpkclnkibhgpkaaGreatZA
import Derived.Test.YtpkclnkibhgpkaaGreatPK
import Derived.Maps.RangeWalk
import Derived.Test.YtpkclnkibhgpkaaGreatYC
import Derived.Test.YtpkclnkibhgpkaaGreatPN
namespace Go.Proofs.YtpkclnkibhgpkaaGreat
open Go.RowKit
def infB : List (Int × Int × Bool) := [(8, 7, false), (16, 15, false), (16, 15, false), (8, 1, false), (16, 3, false), (16, 15, false), (8, 7, false), (8, 7, false), (8, 15, false), (16, 15, false), (8, 1, true), (16, 3, true)]
theorem ofF1 : OfOK 1 8 7 false := fun w => by
  go_enter Tryz.func11, Tryz.ntmps11
  go_wp2
  refine bodyPost_ret (v := .tuple #[.agg #[.int .i64 8, .int .i64 7, .bool false], .int .i64 0]) (by simp [results, Tryz.results11, go_sem]) rfl ⟨rfl, ?_⟩
  repeat' (first | exact Below.refl _ _ | refine Below.setCell ?_ (by simp) _ | refine Below.alloc ?_ (by simp) _)
theorem ofF2 : OfOK 2 16 15 false := fun w => by
  go_enter Tryz.func11, Tryz.ntmps11
  go_wp2
  refine bodyPost_ret (v := .tuple #[.agg #[.int .i64 16, .int .i64 15, .bool false], .int .i64 0]) (by simp [results, Tryz.results11, go_sem]) rfl ⟨rfl, ?_⟩
  repeat' (first | exact Below.refl _ _ | refine Below.setCell ?_ (by simp) _ | refine Below.alloc ?_ (by simp) _)
theorem ofF3 : OfOK 3 16 15 false := fun w => by
  go_enter Tryz.func11, Tryz.ntmps11
  go_wp2
  refine bodyPost_ret (v := .tuple #[.agg #[.int .i64 16, .int .i64 15, .bool false], .int .i64 0]) (by simp [results, Tryz.results11, go_sem]) rfl ⟨rfl, ?_⟩
  repeat' (first | exact Below.refl _ _ | refine Below.setCell ?_ (by simp) _ | refine Below.alloc ?_ (by simp) _)
theorem ofF4 : OfOK 4 8 1 false := fun w => by
  go_enter Tryz.func11, Tryz.ntmps11
  go_wp2
  refine bodyPost_ret (v := .tuple #[.agg #[.int .i64 8, .int .i64 1, .bool false], .int .i64 0]) (by simp [results, Tryz.results11, go_sem]) rfl ⟨rfl, ?_⟩
  repeat' (first | exact Below.refl _ _ | refine Below.setCell ?_ (by simp) _ | refine Below.alloc ?_ (by simp) _)
theorem ofF5 : OfOK 5 16 3 false := fun w => by
  go_enter Tryz.func11, Tryz.ntmps11
  go_wp2
  refine bodyPost_ret (v := .tuple #[.agg #[.int .i64 16, .int .i64 3, .bool false], .int .i64 0]) (by simp [results, Tryz.results11, go_sem]) rfl ⟨rfl, ?_⟩
  repeat' (first | exact Below.refl _ _ | refine Below.setCell ?_ (by simp) _ | refine Below.alloc ?_ (by simp) _)
theorem ofF6 : OfOK 6 16 15 false := fun w => by
  go_enter Tryz.func11, Tryz.ntmps11
  go_wp2
  refine bodyPost_ret (v := .tuple #[.agg #[.int .i64 16, .int .i64 15, .bool false], .int .i64 0]) (by simp [results, Tryz.results11, go_sem]) rfl ⟨rfl, ?_⟩
  repeat' (first | exact Below.refl _ _ | refine Below.setCell ?_ (by simp) _ | refine Below.alloc ?_ (by simp) _)
theorem ofF7 : OfOK 7 8 7 false := fun w => by
  go_enter Tryz.func11, Tryz.ntmps11
  go_wp2
  refine bodyPost_ret (v := .tuple #[.agg #[.int .i64 8, .int .i64 7, .bool false], .int .i64 0]) (by simp [results, Tryz.results11, go_sem]) rfl ⟨rfl, ?_⟩
  repeat' (first | exact Below.refl _ _ | refine Below.setCell ?_ (by simp) _ | refine Below.alloc ?_ (by simp) _)
theorem ofF8 : OfOK 8 8 7 false := fun w => by
  go_enter Tryz.func11, Tryz.ntmps11
  go_wp2
  refine bodyPost_ret (v := .tuple #[.agg #[.int .i64 8, .int .i64 7, .bool false], .int .i64 0]) (by simp [results, Tryz.results11, go_sem]) rfl ⟨rfl, ?_⟩
  repeat' (first | exact Below.refl _ _ | refine Below.setCell ?_ (by simp) _ | refine Below.alloc ?_ (by simp) _)
theorem ofF9 : OfOK 9 8 15 false := fun w => by
  go_enter Tryz.func11, Tryz.ntmps11
  go_wp2
  refine bodyPost_ret (v := .tuple #[.agg #[.int .i64 8, .int .i64 15, .bool false], .int .i64 0]) (by simp [results, Tryz.results11, go_sem]) rfl ⟨rfl, ?_⟩
  repeat' (first | exact Below.refl _ _ | refine Below.setCell ?_ (by simp) _ | refine Below.alloc ?_ (by simp) _)
theorem ofF10 : OfOK 10 16 15 false := fun w => by
  go_enter Tryz.func11, Tryz.ntmps11
  go_wp2
  refine bodyPost_ret (v := .tuple #[.agg #[.int .i64 16, .int .i64 15, .bool false], .int .i64 0]) (by simp [results, Tryz.results11, go_sem]) rfl ⟨rfl, ?_⟩
  repeat' (first | exact Below.refl _ _ | refine Below.setCell ?_ (by simp) _ | refine Below.alloc ?_ (by simp) _)
theorem ofF11 : OfOK 11 8 1 true := fun w => by
  go_enter Tryz.func11, Tryz.ntmps11
  go_wp2
  refine bodyPost_ret (v := .tuple #[.agg #[.int .i64 8, .int .i64 1, .bool true], .int .i64 0]) (by simp [results, Tryz.results11, go_sem]) rfl ⟨rfl, ?_⟩
  repeat' (first | exact Below.refl _ _ | refine Below.setCell ?_ (by simp) _ | refine Below.alloc ?_ (by simp) _)
theorem ofF12 : OfOK 12 16 3 true := fun w => by
  go_enter Tryz.func11, Tryz.ntmps11
  go_wp2
  refine bodyPost_ret (v := .tuple #[.agg #[.int .i64 16, .int .i64 3, .bool true], .int .i64 0]) (by simp [results, Tryz.results11, go_sem]) rfl ⟨rfl, ?_⟩
  repeat' (first | exact Below.refl _ _ | refine Below.setCell ?_ (by simp) _ | refine Below.alloc ?_ (by simp) _)
theorem of_tab : ∀ (i : Nat) (x : Int × Int × Int), tabF[i]? = some x → ∃ b m wd, OfOK x.1 b m wd
  | 0, x, h => by cases h; exact ⟨_, _, _, ofF1⟩
  | 1, x, h => by cases h; exact ⟨_, _, _, ofF2⟩
  | 2, x, h => by cases h; exact ⟨_, _, _, ofF3⟩
  | 3, x, h => by cases h; exact ⟨_, _, _, ofF4⟩
  | 4, x, h => by cases h; exact ⟨_, _, _, ofF5⟩
  | 5, x, h => by cases h; exact ⟨_, _, _, ofF6⟩
  | 6, x, h => by cases h; exact ⟨_, _, _, ofF1⟩
  | 7, x, h => by cases h; exact ⟨_, _, _, ofF2⟩
  | 8, x, h => by cases h; exact ⟨_, _, _, ofF3⟩
  | 9, x, h => by cases h; exact ⟨_, _, _, ofF4⟩
  | 10, x, h => by cases h; exact ⟨_, _, _, ofF5⟩
  | 11, x, h => by cases h; exact ⟨_, _, _, ofF6⟩
  | 12, x, h => by cases h; exact ⟨_, _, _, ofF7⟩
  | 13, x, h => by cases h; exact ⟨_, _, _, ofF8⟩
  | 14, x, h => by cases h; exact ⟨_, _, _, ofF9⟩
  | 15, x, h => by cases h; exact ⟨_, _, _, ofF10⟩
  | 16, x, h => by cases h; exact ⟨_, _, _, ofF11⟩
  | 17, x, h => by cases h; exact ⟨_, _, _, ofF12⟩
  | i + 18, x, h => by
    have h1 := (List.getElem?_eq_some_iff.1 h).1
    have e : tabF.length = 18 := rfl
    omega
theorem tab_bd : ∀ x ∈ tabF, (x.2.1 = 1 ∨ x.2.1 = 2) ∧ 1 ≤ x.1 ∧ x.1 ≤ 12 ∧ 71 ≤ x.2.2 ∧ x.2.2 ≤ 37496 ∧ x.2.2 ≠ 33777 := by decide
set_option maxRecDepth 100000 in
set_option maxHeartbeats 1000000 in
theorem code_any (x : Int × Int × Int) (hx : x ∈ tabF) (w : World) : Calls Tryz.prog 49 #[.int .i64 x.1, .int .i64 x.2.1] w fun e w' => e = .returned (.tuple #[.int .i64 x.2.2, .int .i64 0]) ∧ Below w.heap.size w w' := by
  obtain ⟨i, hi⟩ := List.mem_iff_getElem?.1 hx
  obtain ⟨b, m, wd, OF⟩ := of_tab i x hi
  have hbd := tab_bd x hx
  obtain ⟨f, fl, c⟩ := x
  simp only at OF hbd ⊢
  have OO := hide OF
  have HX := hide hx
  have CA := codes_any
  have bld : ∀ w, (Instr.build 143 #[(0, .int .i64 f), (1, .int .i64 fl)]).run Tryz.prog w = .ok (.agg #[.int .i64 f, .int .i64 fl]) w := build143 f fl
  clear OF hi hx
  obtain ⟨hfl, -⟩ := hbd
  rcases hfl with rfl | rfl
  all_goals
    go_enter Tryz.func49, Tryz.ntmps49
    go_wp2_with fail
    refine (OO.out _).mono ?_
    rintro e w1 ⟨rfl, hb1⟩
    have H1 := hide hb1
    clear hb1
    go_wp2_with fail
    refine (CA _).mono ?_
    rintro e w2 ⟨r, l, rfl, hr, hm, hl, hb2⟩
    have H2 := hide (H1.out.trans (((Below.refl _ _).alloc (Nat.le_refl _) _ |>.trans (hb2.mono (by simp))).mono H1.out.size))
    have lk := run_lookup143 w2 r l _ hm ((hl _).2 HX.out) (fun y hy hk => tab_key _ HX.out y ((hl y).1 hy) hk)
    unfold keyV at lk
    clear hb2 hr hm hl
    go_wp2
    go_ret2
    exact ⟨rfl, H2.out⟩
end Go.Proofs.YtpkclnkibhgpkaaGreat
/-
The format of a number in a kind of file. Its conditions: a number of the table.
-/
namespace Go.Proofs.YtpkclnkibhgpkaaGreat
open Go.RowKit
open Go.ChangeMaps (setBlock)
theorem wpList_next_at {P : Program} {w : World} {ops : Array Oper} {rest : List Oper} {o : Oper} {a : Act} {Q : Exit → Act → World → Prop} (hg : o.guard = none) (it : Operand) (hop : o.op = Op.next it false) (ri m n : Nat) (seen : Array Nat) (es : Array MapEntry)
    (hit : a.eval it = .pointer (some ⟨ri, 0, none⟩)) (hr : w.heap[ri]? = some (.mapIter (some m) n seen n)) (hb : w.heap[m]? = some (.map es n)) (hold : ∀ x ∈ es.toList, x.born < n)
    (hDone : Hid ((leftOf es seen).size = 0) → wpList P ops Q rest (a.put o.dst (.tuple #[.bool false])) w)
    (hMore : ∀ e w', Hid (e ∈ (leftOf es seen).toList) → Hid (∃ w1, (w1 = w ∨ w1 = w.drew) ∧ w' = setBlock w1 ri (.mapIter (some m) n (seen.push e.born) n)) → wpList P ops Q rest (a.put o.dst (.tuple #[.bool true, e.key, e.val])) w') : wpList P ops Q (o :: rest) a w := by
  refine wpList_plain hg fun K hK => ?_
  unfold Oper.wp
  rcases run_next_at (P := P) w o.type ri m n n seen es n hr hb hold (Nat.le_refl _) with ⟨h0, h1⟩ | ⟨e, he, w1, hw, h1⟩
  · simp [execOp, hop, hit, h1, Result.andThen]
    exact hK _ _ (hDone (hide h0))
  · simp [execOp, hop, hit, h1, Result.andThen]
    exact hK _ _ (hMore e _ (hide he) (hide ⟨w1, hw, rfl⟩))
theorem ents_mem {e : MapEntry} : ∀ {l : List (Int × Int × Int)} {k : Nat}, e ∈ entsF l k → ∃ x ∈ l, e.key = keyV x.1 x.2.1 ∧ e.val = .int .i64 x.2.2 ∧ k ≤ e.born ∧ e.born < k + l.length
  | [], _, h => by cases h
  | y :: r, k, h => by
    rw [entsF] at h
    rcases List.mem_cons.1 h with rfl | h
    · exact ⟨y, List.mem_cons_self, rfl, rfl, Nat.le_refl _, by simp [entV]⟩
    · obtain ⟨x, h1, h2, h3, h4, h5⟩ := ents_mem h
      exact ⟨x, List.mem_cons_of_mem _ h1, h2, h3, by omega, by simp only [List.length_cons]; omega⟩
theorem ents_has {x : Int × Int × Int} : ∀ {l : List (Int × Int × Int)} {k : Nat}, x ∈ l → ∃ e ∈ entsF l k, e.key = keyV x.1 x.2.1 ∧ e.val = .int .i64 x.2.2
  | y :: r, k, h => by
    rcases List.mem_cons.1 h with rfl | h
    · exact ⟨_, List.mem_cons_self, rfl, rfl⟩
    · obtain ⟨e, h1, h2, h3⟩ := ents_has (k := k + 1) h
      exact ⟨e, List.mem_cons_of_mem _ h1, h2, h3⟩
theorem ents_nodup : ∀ (l : List (Int × Int × Int)) (k : Nat), ((entsF l k).map (·.born)).Nodup
  | [], _ => List.nodup_nil
  | y :: r, k => by
    rw [entsF, List.map_cons, List.nodup_cons]
    refine ⟨fun h => ?_, ents_nodup r (k + 1)⟩
    obtain ⟨e, h1, h2⟩ := List.mem_map.1 h
    obtain ⟨_, _, _, _, h3, _⟩ := ents_mem h1
    simp [entV] at h2
    omega
theorem tab_code : ∀ x ∈ tabF, ∀ y ∈ tabF, y.2.1 = x.2.1 → y.2.2 = x.2.2 → y = x := by decide
theorem T143 : AggT Tryz.prog 143 2 #[.int .i64 0, .int .i64 0] :=
  ⟨⟨_, Tryz.underlying143, rfl⟩, by kernel_rfl, fun _ => by kernel_rfl, rfl, fun _ => by kernel_rfl⟩
set_option maxRecDepth 100000 in
set_option maxHeartbeats 2000000 in
theorem fmt_1 (f c : Int) (hx : (f, 1, c) ∈ tabF) (w : World) : Calls Tryz.prog 226 #[.int .i64 c, .int .i64 1] w fun e w' => e = .returned (.tuple #[.int .i64 f, .int .i64 0]) ∧ Below w.heap.size w w' := by
  have hbd := tab_bd _ hx
  have tc := tab_code _ hx
  simp only at hbd tc
  have HX := hide hx
  obtain ⟨KK, hKK⟩ : ∃ KK, KK = keyV f 1 := ⟨_, rfl⟩
  have HKK := hide hKK
  clear hKK
  have TC := hide tc
  have CA := codes_any
  clear tc hx
  obtain ⟨-, h1, h2, h3, h4, h5⟩ := hbd
  have d1 : (c == 33777) = false := by simpa using h5
  go_enter Tryz.func226, Tryz.ntmps226
  go_wp2_with fail
  refine (CA _).mono ?_
  rintro e w2 ⟨r, l, rfl, hr, hm, hl, hb2⟩
  have HL := hide hl
  have H2 := hide hb2
  have hrl : r < w2.heap.size := (Array.getElem?_eq_some_iff.1 hm).1
  obtain ⟨n, hn⟩ : ∃ n, n = l.length := ⟨_, rfl⟩
  unfold MapAt at hm
  rw [← hn] at hm
  have rr := run_range_map (P := Tryz.prog) w2 140 143 3 r (entsF l 0).toArray n Tryz.underlying140 hm
  have HM := hide hm
  have HN := hide hn
  clear hm hn hl hb2
  go_wp2_with fail
  obtain ⟨es, hes⟩ : ∃ es, es = (entsF l 0).toArray := ⟨_, rfl⟩
  have HES := hide hes
  rw [← hes] at HM
  obtain ⟨W3, hW3⟩ : ∃ W3, W3 = w2.alloc (.mapIter (some r) n #[] n) := ⟨_, rfl⟩
  have HI3 := hide (show W3.heap[w2.heap.size]? = some (.mapIter (some r) n #[] n) by rw [hW3]; exact (MapKept.heap_alloc w2 _).1)
  have HM3 := hide (show W3.heap[r]? = some (.map es n) by rw [hW3]; exact ((MapKept.heap_alloc w2 _).2 r hrl).trans HM.out)
  have HB3 := hide (show Below w.heap.size w W3 by rw [hW3]; exact H2.out.alloc (H2.out.size) _)
  rw [← hW3]
  have hold : ∀ x ∈ es.toList, x.born < n := fun e he => by
    rw [HES.out] at he
    obtain ⟨_, _, _, _, _, h⟩ := ents_mem he
    rw [HN.out]; omega
  have hnd : (es.toList.map (·.born)).Nodup := by rw [HES.out]; exact ents_nodup _ _
  have HOLD := hide hold
  have HND := hide hnd
  have hit : w.heap.size ≤ w2.heap.size := H2.out.size
  have hne : r ≠ w2.heap.size := by omega
  generalize w2.heap.size = it at *
  clear hW3 hes rr HM hold hnd H2
  go_loopw [24] (fun _ wr => ∃ seen, Hid (wr.heap[it]? = some (.mapIter (some r) n seen n)) ∧ Hid (wr.heap[r]? = some (.map es n)) ∧ Hid (∀ e ∈ es.toList, seen.contains e.born = true → e.key ≠ KK) ∧ Hid (Below w.heap.size w wr)) (fun _ wr => wr.rangeLeft r it)
  case atStart => exact ⟨#[], HI3, HM3, hide (fun e _ h => by simp at h), HB3⟩
  case round =>
    obtain ⟨seen, hi, hm, hs, hb⟩ := hrel
    go_wp2_with (at_next; refine wpList_next_at rfl (.tmp 23) rfl it r n seen es rfl hi.out hm.out HOLD.out ?done ?more)
    case done =>
      intro h0
      exfalso
      obtain ⟨e, he, hk, _⟩ := ents_has (k := 0) ((HL.out _).2 HX.out)
      have he' : e ∈ es.toList := by rw [HES.out]; exact he
      exact hs.out e he' (all_seen es seen (by rw [h0.out]; rfl) e he') (hk.trans HKK.out.symm)
    case more =>
      intro e w4 he hw
      obtain ⟨w1, hw1, hw4⟩ : ∃ w1, (w1 = wr ∨ w1 = wr.drew) ∧ w4 = setBlock w1 it (.mapIter (some r) n (seen.push e.born) n) := by
        rcases hw.out with h | h
        · exact ⟨_, .inl rfl, h⟩
        · exact ⟨_, .inr rfl, h⟩
      have hel : e ∈ (leftOf es seen).toList := Array.mem_toList_iff.2 he.out
      have hem := mem_left hel
      have hi1 : w1.heap[it]? = some (.mapIter (some r) n seen n) := by rcases hw1 with rfl | rfl <;> exact hi.out
      have hm1 : w1.heap[r]? = some (.map es n) := by rcases hw1 with rfl | rfl <;> exact hm.out
      have hb1 : Below w.heap.size w w1 := by rcases hw1 with rfl | rfl <;> exact ⟨hb.out.os, hb.out.tape, hb.out.output, hb.out.size, hb.out.block⟩
      have hset := MapKept.heap_set (o' := .mapIter (some r) n (seen.push e.born) n) hi1
      have HI4 := hide (show w4.heap[it]? = some (.mapIter (some r) n (seen.push e.born) n) by rw [hw4]; exact hset.1)
      have HM4 := hide (show w4.heap[r]? = some (.map es n) by rw [hw4]; exact (hset.2 r hne).trans hm1)
      have HB4 := hide (show Below w.heap.size w w4 by
        rw [hw4]
        refine ⟨hb1.os, hb1.tape, hb1.output, by simp only [setBlock, Array.size_setIfInBounds]; exact hb1.size, fun q hq => (hset.2 q (by omega)).trans (hb1.block q hq)⟩)
      have hen := run_entry_at (P := Tryz.prog) w4 it r n seen es n e HI4.out HM4.out hem.1 HND.out
      have HSH := hide (left_shrinks es seen e hel)
      have HEM := hide hem.1
      obtain ⟨x, hx, hk, hv, _⟩ := ents_mem (show e ∈ entsF l 0 by have := hem.1; rw [HES.out] at this; exact this)
      have HK := hide hk
      have HXL := hide ((HL.out x).1 hx)
      obtain ⟨xf, xl, xc⟩ := x
      rw [hk, hv]
      rw [hk, hv] at hen
      unfold keyV at hen ⊢
      clear hw1 hw4 hi1 hm1 hb1 hset hem hel hk hv hx hw
      have hil : w4.heap.size > it := (Array.getElem?_eq_some_iff.1 HI4.out).1
      simp only at hen
      have hw0 := HB4.out.size
      by_cases q : xl = 1 ∧ xc = c
      · obtain ⟨rfl, rfl⟩ := q
        have hxx := TC.out _ HXL.out rfl rfl
        injection hxx with hxx _
        subst hxx
        go_wp2
        go_ret2
        exact ⟨rfl, HB4.out.alloc HB4.out.size _⟩
      · have hkne : e.key ≠ KK := by
          intro hk2
          rw [HK.out, HKK.out] at hk2
          simp only [keyV, Value.agg.injEq, Array.mk.injEq, List.cons.injEq, Value.int.injEq, true_and, and_true] at hk2
          have := tab_key _ HXL.out _ HX.out (by unfold hasK; simp [hk2])
          injection this with t1 t2
          injection t2 with t2 t3
          exact q ⟨t2.symm, t3.symm⟩
        have HKN := hide hkne
        clear hkne
        go_wp2_with fail
        all_goals first
          | (exfalso; omega)
          | skip
        all_goals (
          go_roundw
          case rel =>
            refine ⟨seen.push e.born, hide ?_, hide ?_, hide (fun e' he' hc => ?_), hide (HB4.out.alloc HB4.out.size _)⟩
            · rw [show ∀ o, (w4.alloc o).heap[it]? = w4.heap[it]? from fun o => (MapKept.heap_alloc w4 o).2 it (by omega)]; exact HI4.out
            · rw [show ∀ o, (w4.alloc o).heap[r]? = w4.heap[r]? from fun o => (MapKept.heap_alloc w4 o).2 r (by omega)]; exact HM4.out
            · rw [contains_push] at hc
              rcases Bool.or_eq_true _ _ ▸ hc with hc | hc
              · exact hs.out e' he' hc
              · have hbe : e'.born = e.born := by simpa using hc
                have : e' = e := born_inj HND.out he' HEM.out hbe
                rw [this]; exact HKN.out
          case measure =>
            unfold World.rangeLeft
            rw [show ∀ o, (w4.alloc o).heap[it]? = w4.heap[it]? from fun o => (MapKept.heap_alloc w4 o).2 it (by omega), show ∀ o, (w4.alloc o).heap[r]? = w4.heap[r]? from fun o => (MapKept.heap_alloc w4 o).2 r (by omega), HI4.out, HM4.out, hi.out, hm.out]
            exact HSH.out)
set_option maxRecDepth 100000 in
set_option maxHeartbeats 2000000 in
theorem fmt_2 (f c : Int) (hx : (f, 2, c) ∈ tabF) (w : World) : Calls Tryz.prog 226 #[.int .i64 c, .int .i64 2] w fun e w' => e = .returned (.tuple #[.int .i64 f, .int .i64 0]) ∧ Below w.heap.size w w' := by
  have hbd := tab_bd _ hx
  have tc := tab_code _ hx
  simp only at hbd tc
  have HX := hide hx
  obtain ⟨KK, hKK⟩ : ∃ KK, KK = keyV f 2 := ⟨_, rfl⟩
  have HKK := hide hKK
  clear hKK
  have TC := hide tc
  have CA := codes_any
  clear tc hx
  obtain ⟨-, h1, h2, h3, h4, h5⟩ := hbd
  have d1 : (c == 33777) = false := by simpa using h5
  go_enter Tryz.func226, Tryz.ntmps226
  go_wp2_with fail
  refine (CA _).mono ?_
  rintro e w2 ⟨r, l, rfl, hr, hm, hl, hb2⟩
  have HL := hide hl
  have H2 := hide hb2
  have hrl : r < w2.heap.size := (Array.getElem?_eq_some_iff.1 hm).1
  obtain ⟨n, hn⟩ : ∃ n, n = l.length := ⟨_, rfl⟩
  unfold MapAt at hm
  rw [← hn] at hm
  have rr := run_range_map (P := Tryz.prog) w2 140 143 3 r (entsF l 0).toArray n Tryz.underlying140 hm
  have HM := hide hm
  have HN := hide hn
  clear hm hn hl hb2
  go_wp2_with fail
  obtain ⟨es, hes⟩ : ∃ es, es = (entsF l 0).toArray := ⟨_, rfl⟩
  have HES := hide hes
  rw [← hes] at HM
  obtain ⟨W3, hW3⟩ : ∃ W3, W3 = w2.alloc (.mapIter (some r) n #[] n) := ⟨_, rfl⟩
  have HI3 := hide (show W3.heap[w2.heap.size]? = some (.mapIter (some r) n #[] n) by rw [hW3]; exact (MapKept.heap_alloc w2 _).1)
  have HM3 := hide (show W3.heap[r]? = some (.map es n) by rw [hW3]; exact ((MapKept.heap_alloc w2 _).2 r hrl).trans HM.out)
  have HB3 := hide (show Below w.heap.size w W3 by rw [hW3]; exact H2.out.alloc (H2.out.size) _)
  rw [← hW3]
  have hold : ∀ x ∈ es.toList, x.born < n := fun e he => by
    rw [HES.out] at he
    obtain ⟨_, _, _, _, _, h⟩ := ents_mem he
    rw [HN.out]; omega
  have hnd : (es.toList.map (·.born)).Nodup := by rw [HES.out]; exact ents_nodup _ _
  have HOLD := hide hold
  have HND := hide hnd
  have hit : w.heap.size ≤ w2.heap.size := H2.out.size
  have hne : r ≠ w2.heap.size := by omega
  generalize w2.heap.size = it at *
  clear hW3 hes rr HM hold hnd H2
  go_loopw [24] (fun _ wr => ∃ seen, Hid (wr.heap[it]? = some (.mapIter (some r) n seen n)) ∧ Hid (wr.heap[r]? = some (.map es n)) ∧ Hid (∀ e ∈ es.toList, seen.contains e.born = true → e.key ≠ KK) ∧ Hid (Below w.heap.size w wr)) (fun _ wr => wr.rangeLeft r it)
  case atStart => exact ⟨#[], HI3, HM3, hide (fun e _ h => by simp at h), HB3⟩
  case round =>
    obtain ⟨seen, hi, hm, hs, hb⟩ := hrel
    go_wp2_with (at_next; refine wpList_next_at rfl (.tmp 23) rfl it r n seen es rfl hi.out hm.out HOLD.out ?done ?more)
    case done =>
      intro h0
      exfalso
      obtain ⟨e, he, hk, _⟩ := ents_has (k := 0) ((HL.out _).2 HX.out)
      have he' : e ∈ es.toList := by rw [HES.out]; exact he
      exact hs.out e he' (all_seen es seen (by rw [h0.out]; rfl) e he') (hk.trans HKK.out.symm)
    case more =>
      intro e w4 he hw
      obtain ⟨w1, hw1, hw4⟩ : ∃ w1, (w1 = wr ∨ w1 = wr.drew) ∧ w4 = setBlock w1 it (.mapIter (some r) n (seen.push e.born) n) := by
        rcases hw.out with h | h
        · exact ⟨_, .inl rfl, h⟩
        · exact ⟨_, .inr rfl, h⟩
      have hel : e ∈ (leftOf es seen).toList := Array.mem_toList_iff.2 he.out
      have hem := mem_left hel
      have hi1 : w1.heap[it]? = some (.mapIter (some r) n seen n) := by rcases hw1 with rfl | rfl <;> exact hi.out
      have hm1 : w1.heap[r]? = some (.map es n) := by rcases hw1 with rfl | rfl <;> exact hm.out
      have hb1 : Below w.heap.size w w1 := by rcases hw1 with rfl | rfl <;> exact ⟨hb.out.os, hb.out.tape, hb.out.output, hb.out.size, hb.out.block⟩
      have hset := MapKept.heap_set (o' := .mapIter (some r) n (seen.push e.born) n) hi1
      have HI4 := hide (show w4.heap[it]? = some (.mapIter (some r) n (seen.push e.born) n) by rw [hw4]; exact hset.1)
      have HM4 := hide (show w4.heap[r]? = some (.map es n) by rw [hw4]; exact (hset.2 r hne).trans hm1)
      have HB4 := hide (show Below w.heap.size w w4 by
        rw [hw4]
        refine ⟨hb1.os, hb1.tape, hb1.output, by simp only [setBlock, Array.size_setIfInBounds]; exact hb1.size, fun q hq => (hset.2 q (by omega)).trans (hb1.block q hq)⟩)
      have hen := run_entry_at (P := Tryz.prog) w4 it r n seen es n e HI4.out HM4.out hem.1 HND.out
      have HSH := hide (left_shrinks es seen e hel)
      have HEM := hide hem.1
      obtain ⟨x, hx, hk, hv, _⟩ := ents_mem (show e ∈ entsF l 0 by have := hem.1; rw [HES.out] at this; exact this)
      have HK := hide hk
      have HXL := hide ((HL.out x).1 hx)
      obtain ⟨xf, xl, xc⟩ := x
      rw [hk, hv]
      rw [hk, hv] at hen
      unfold keyV at hen ⊢
      clear hw1 hw4 hi1 hm1 hb1 hset hem hel hk hv hx hw
      have hil : w4.heap.size > it := (Array.getElem?_eq_some_iff.1 HI4.out).1
      simp only at hen
      have hw0 := HB4.out.size
      by_cases q : xl = 2 ∧ xc = c
      · obtain ⟨rfl, rfl⟩ := q
        have hxx := TC.out _ HXL.out rfl rfl
        injection hxx with hxx _
        subst hxx
        go_wp2
        go_ret2
        exact ⟨rfl, HB4.out.alloc HB4.out.size _⟩
      · have hkne : e.key ≠ KK := by
          intro hk2
          rw [HK.out, HKK.out] at hk2
          simp only [keyV, Value.agg.injEq, Array.mk.injEq, List.cons.injEq, Value.int.injEq, true_and, and_true] at hk2
          have := tab_key _ HXL.out _ HX.out (by unfold hasK; simp [hk2])
          injection this with t1 t2
          injection t2 with t2 t3
          exact q ⟨t2.symm, t3.symm⟩
        have HKN := hide hkne
        clear hkne
        go_wp2_with fail
        all_goals first
          | (exfalso; omega)
          | skip
        all_goals (
          go_roundw
          case rel =>
            refine ⟨seen.push e.born, hide ?_, hide ?_, hide (fun e' he' hc => ?_), hide (HB4.out.alloc HB4.out.size _)⟩
            · rw [show ∀ o, (w4.alloc o).heap[it]? = w4.heap[it]? from fun o => (MapKept.heap_alloc w4 o).2 it (by omega)]; exact HI4.out
            · rw [show ∀ o, (w4.alloc o).heap[r]? = w4.heap[r]? from fun o => (MapKept.heap_alloc w4 o).2 r (by omega)]; exact HM4.out
            · rw [contains_push] at hc
              rcases Bool.or_eq_true _ _ ▸ hc with hc | hc
              · exact hs.out e' he' hc
              · have hbe : e'.born = e.born := by simpa using hc
                have : e' = e := born_inj HND.out he' HEM.out hbe
                rw [this]; exact HKN.out
          case measure =>
            unfold World.rangeLeft
            rw [show ∀ o, (w4.alloc o).heap[it]? = w4.heap[it]? from fun o => (MapKept.heap_alloc w4 o).2 it (by omega), show ∀ o, (w4.alloc o).heap[r]? = w4.heap[r]? from fun o => (MapKept.heap_alloc w4 o).2 r (by omega), HI4.out, HM4.out, hi.out, hm.out]
            exact HSH.out)
theorem fmt_any (x : Int × Int × Int) (hx : x ∈ tabF) (w : World) : Calls Tryz.prog 226 #[.int .i64 x.2.2, .int .i64 x.2.1] w fun e w' => e = .returned (.tuple #[.int .i64 x.1, .int .i64 0]) ∧ Below w.heap.size w w' := by
  have hbd := tab_bd x hx
  obtain ⟨f, fl, c⟩ := x
  simp only at hbd ⊢
  rcases hbd.1 with rfl | rfl
  · exact fmt_1 f c hx w
  · exact fmt_2 f c hx w
end Go.Proofs.YtpkclnkibhgpkaaGreat
/-
What the run of awake leans on: the levels of an image, the texels and the sizes of a texture, the formats' numbers, the best level. Its conditions: none.
-/
namespace Go.Proofs.YtpkclnkibhgpkaaGreat.Sx
open Go Go.RowKit
def litI : ST → Option Int
  | .v (.c (.lf (.int .i64 (.lit a)))) => some a
  | _ => none
def litC : SC → Option Int
  | .lf (.int .i64 (.lit a)) => some a
  | _ => none
def sm42 (nx : Nat) : List ST → Option (ST × List (Nat × Blk) × Nat)
  | [x, y] => match litI x, litI y with
    | some a, some b => bif (ile 0 a && ile a 4096) && (ile 0 b && ile b 63) then some (kc .i64 (.lit (sideV a b)), [], nx) else none
    | _, _ => none
  | _ => none
def sm50 (nx : Nat) : List ST → Option (ST × List (Nat × Blk) × Nat)
  | [x, y] => match litI x, litI y with
    | some a, some b => bif (ile 0 a && ile a 4096) && (ile 0 b && ile b 4096) then some (kc .i64 (.lit (levelsV a b)), [], nx) else none
    | _, _ => none
  | _ => none
def sm61 (nx : Nat) : List ST → Option (ST × List (Nat × Blk) × Nat)
  | [.v (.agg [o, w, h, l, f, n, _, _])] => match litC o, litC w, litC h, litC l, litC f, litC n with
    | some _, some w, some h, some l, some f, some n => bif ((ieq w 2 && ieq h 2) && (ieq l 1 && ieq f 1)) && ieq n 2 then some (.tup [.c (.lf (.int .i64 (.lit 5))), .c (.lf (.int .i64 (.lit 0)))], [], nx) else none
    | _, _, _, _, _, _ => none
  | _ => none
def sm63 (nx : Nat) : List ST → Option (ST × List (Nat × Blk) × Nat)
  | [x, y, z, q] => match litI x, litI y, litI z, litI q with
    | some f, some w, some h, some n => bif (ieq f 1 && ieq w 2) && (ieq h 2 && ieq n 2) then
        some (.tup [.c (.lf (.sl nx 0 2 none)), .c (.lf (.int .i64 (.lit 0)))], [(nx, ⟨0, [.lf (.int .i64 (.lit 8)), .lf (.int .i64 (.lit 8))], false, 0⟩)], Nat.succ nx) else none
    | _, _, _, _ => none
  | _ => none
def sm49 (nx : Nat) : List ST → Option (ST × List (Nat × Blk) × Nat)
  | [x, y] => match litI x, litI y with
    | some a, some b => bif ieq a 1 && ieq b 2 then some (.tup [.c (.lf (.int .i64 (.lit 33776))), .c (.lf (.int .i64 (.lit 0)))], [], nx) else none
    | _, _ => none
  | _ => none
def sm226 (nx : Nat) : List ST → Option (ST × List (Nat × Blk) × Nat)
  | [x, y] => match litI x, litI y with
    | some a, some b => bif ieq a 33776 && ieq b 2 then some (.tup [.c (.lf (.int .i64 (.lit 1))), .c (.lf (.int .i64 (.lit 0)))], [], nx) else none
    | _, _ => none
  | _ => none
def zeroC : SC → Bool
  | .lf (.int .i64 (.lit n)) => ieq n 0
  | _ => false
/-- the best level, of a tile of noughts -/
def sm179 (nx : Nat) : List ST → Option (ST × List (Nat × Blk) × Nat)
  | [.v (.agg l), x, y] => match litI x, litI y with
    | some c, some b => bif (Nat.beq (lenL l) 64 && allL zeroC l) && ((ieq c 0 && ieq b 5) || ((ieq c 1 && ieq b 6) || (ieq c 2 && ieq b 5))) then some (kc .i64 (.lit 0), [], nx) else none
    | _, _ => none
  | _ => none
def smB (n : Nat) (args : List ST) (_ : List (Nat × Blk)) (nx : Nat) : Option (ST × List (Nat × Blk) × Nat) :=
  bif Nat.beq n 42 then sm42 nx args else bif Nat.beq n 50 then sm50 nx args else bif Nat.beq n 61 then sm61 nx args else bif Nat.beq n 63 then sm63 nx args else bif Nat.beq n 49 then sm49 nx args else
  bif Nat.beq n 226 then sm226 nx args else bif Nat.beq n 179 then sm179 nx args else none
theorem litI_some {x : ST} {a : Int} (h : litI x = some a) : x = kc .i64 (.lit a) := by
  unfold litI at h
  split at h
  · cases h; rfl
  · cases h
theorem litC_some {x : SC} {a : Int} (h : litC x = some a) : x = .lf (.int .i64 (.lit a)) := by
  unfold litC at h
  split at h
  · cases h; rfl
  · cases h
theorem litI_val [Sh] {x : ST} {a : Int} (h : litI x = some a) {b : Nat → Option Nat} {u : Value} (hr : RepT b x u) : u = .int .i64 a := by
  rw [litI_some h] at hr; exact hr
theorem litC_val [Sh] {x : SC} {a : Int} (h : litC x = some a) {b : Nat → Option Nat} {u : Value} (hr : RepC b x u) : u = .int .i64 a := by
  rw [litC_some h] at hr; exact hr
theorem fa2_one {α β : Type} {R : α → β → Prop} {x : α} {l : List β} (h : FA2 R [x] l) : ∃ a, l = [a] ∧ R x a := by
  cases h with
  | cons h1 h2 => cases h2; exact ⟨_, rfl, h1⟩
theorem fa2_uncons {α β : Type} {R : α → β → Prop} {x : α} {r : List α} {l : List β} (h : FA2 R (x :: r) l) : ∃ a m, l = a :: m ∧ R x a ∧ FA2 R r m := by
  cases h with
  | cons h1 h2 => exact ⟨_, _, rfl, h1, h2⟩
theorem fa2_two {α β : Type} {R : α → β → Prop} {x y : α} {l : List β} (h : FA2 R [x, y] l) : ∃ a b, l = [a, b] ∧ R x a ∧ R y b := by
  obtain ⟨a, m, rfl, h1, h2⟩ := fa2_uncons h
  obtain ⟨b, rfl, h3⟩ := fa2_one h2
  exact ⟨a, b, rfl, h1, h3⟩
theorem toArray_of {vals : Array Value} {l : List Value} (h : vals.toList = l) : vals = ⟨l⟩ := by cases vals; simp_all
theorem zero_cells [Sh] {b : Nat → Option Nat} : ∀ {l : List SC} {vs : List Value}, FA2 (RepC b) l vs → allL zeroC l = true → vs = List.replicate l.length (.int .i64 0)
  | [], _, .nil, _ => rfl
  | x :: r, _, .cons h1 h2, h => by
    unfold allL at h
    cases q : zeroC x
    · rw [q] at h; cases h
    · rw [q] at h
      rw [zero_cells h2 h]
      unfold zeroC at q
      split at q
      · rw [ieq_iff] at q
        subst q
        rw [show _ = Value.int .i64 0 from h1]; rfl
      · cases q
noncomputable def zT : Value := .agg ⟨List.replicate 64 (.int .i64 0)⟩
noncomputable def zA : ST := .v (.agg (repL [.lf (.int .i64 (.lit 0))] 64))
theorem zA_rep [Sh] (b : Nat → Option Nat) : RepT b zA zT := ⟨_, rfl, by
  have : ∀ n, FA2 (RepC b) (repL [.lf (.int .i64 (.lit 0))] n) (List.replicate n (.int .i64 0)) := fun n => by
    induction n with
    | zero => exact .nil
    | succ n ih => exact .cons rfl ih
  exact this 64⟩
def isNil0 : ST → Bool
  | .v (.c (.lf (.int .i64 (.lit n)))) => ieq n 0
  | _ => false
theorem isNil0_val {x : ST} (h : isNil0 x = true) : valT x = .int .i64 0 := by
  unfold isNil0 at h
  split at h
  · rw [ieq_iff] at h; subst h; rfl
  · cases h
theorem wide_05 : leafOK 0 isNil0 (callS env 100000 179 [zA, kc .i64 (.lit 0), kc .i64 (.lit 5)] [] 0) = true := by kernel_rfl
theorem wide_16 : leafOK 0 isNil0 (callS env 100000 179 [zA, kc .i64 (.lit 1), kc .i64 (.lit 6)] [] 0) = true := by kernel_rfl
theorem wide_25 : leafOK 0 isNil0 (callS env 100000 179 [zA, kc .i64 (.lit 2), kc .i64 (.lit 5)] [] 0) = true := by kernel_rfl
theorem wide_zero {c k : Int} (h : leafOK 0 isNil0 (callS env 100000 179 [zA, kc .i64 (.lit c), kc .i64 (.lit k)] [] 0) = true) (w : World) : Calls Tryz.prog 179 #[zT, .int .i64 c, .int .i64 k] w fun e w' => e = .returned (.int .i64 0) ∧ Below w.heap.size w w' := by
  obtain ⟨h0, h1⟩ := @calls_free ⟨fun _ => 0⟩ _ _ #[zT, .int .i64 c, .int .i64 k] _ (fun _ => rfl) h (.cons (@zA_rep ⟨fun _ => 0⟩ _) (.cons rfl (.cons rfl .nil))) w
  rw [isNil0_val h0] at h1
  exact h1
end Go.Proofs.YtpkclnkibhgpkaaGreat.Sx
/-
What the run of awake leans on holds. Its conditions: none.
-/
namespace Go.Proofs.YtpkclnkibhgpkaaGreat.Sx
open Go Go.RowKit
/-- what a run may lean on, at one call -/
def SumAt [Sh] (n : Nat) (b : Nat → Option Nat) (nx : Nat) (vals : Array Value) (w : World) (v : ST) (new : List (Nat × Blk)) (nx' : Nat) : Prop :=
  (callFunc n vals).run Tryz.prog w = .ok (.enter n vals) w ∧ Calls Tryz.prog n vals w fun ex w' => ∃ c u, ex = .returned u ∧ RepT c v u ∧ ExtN nx b c ∧ HpOK c new w' ∧ (∀ i, Live new i → nx ≤ i) ∧ (∀ i j n, Live new i → Live new j → c i = some n → c j = some n → i = j) ∧
      (∀ i n, c i = some n → i < nx') ∧ (∀ i n, Live new i → c i = some n → w.heap.size ≤ n ∧ n < w'.heap.size) ∧ nx ≤ nx' ∧ Below w.heap.size w w'
def putB (nx g : Nat) (b : Nat → Option Nat) : Nat → Option Nat := fun i => if i = nx then some g else b i
theorem putB_self (nx g : Nat) (b : Nat → Option Nat) : putB nx g b nx = some g := if_pos rfl
theorem putB_ne {nx g i : Nat} {b : Nat → Option Nat} (h : i ≠ nx) : putB nx g b i = b i := if_neg h
theorem sizes2 (w : World) : Calls Tryz.prog 63 #[.int .i64 1, .int .i64 2, .int .i64 2, .int .i64 2] w fun ex w' => ∃ g cap, ex = .returned (.tuple ⟨.slice (some ⟨g, 0, none⟩) 2 cap :: [.int .i64 0]⟩) ∧ 2 ≤ cap ∧ w.heap.size ≤ g ∧ g < w'.heap.size ∧
      (∀ (j : Nat) (x : Value), [Value.int .i64 8, .int .i64 8][j]? = some x → w'.cell? ⟨g, j, none⟩ = some x) ∧ Below w.heap.size w w' := by
  refine (lsizes_any 1 8 7 2 2 2 false w ofF1 (by omega) (by omega) (by omega) (by omega) (by omega) (by omega) (by omega) (by omega)).mono ?_
  rintro e w' ⟨hb, v, rfl, -, h1⟩
  have e0 : sizV 8 2 2 2 = 0 := by decide
  have e1 : sizL 8 2 2 (2 : Int).toNat = [.int .i64 8, .int .i64 8] := by kernel_rfl
  have own := h1 e0
  rw [e1] at own
  obtain ⟨g, cap, rfl, hg, -⟩ := own.form (by decide)
  have hc : ∀ (j : Nat) (x : Value), [Value.int .i64 8, .int .i64 8][j]? = some x → w'.cell? ⟨g, j, none⟩ = some x := fun j x hj => by
    have hlt := (List.getElem?_eq_some_iff.1 hj).1
    simp only [List.length_cons, List.length_nil] at hlt
    rw [own.cellAt j (by omega)]; exact hj
  refine ⟨g, cap, by rw [e0]; rfl, ?_, hg, World.block_lt_of_cell? w' _ (hc 0 _ rfl), hc, hb⟩
  rcases own.2 with ⟨h, _⟩ | ⟨_, _, _, h, _, _, h5, _⟩
  · cases h
  · cases h; exact h5
section
variable [Sh] {nx nx' : Nat} {args : List ST} {v : ST} {new : List (Nat × Blk)} {b : Nat → Option Nat} {vals : Array Value} {w : World}
theorem sum42 (h : sm42 nx args = some (v, new, nx')) (hv : FA2 (RepT b) args vals.toList) (hl : ∀ i n, b i = some n → i < nx) : SumAt 42 b nx vals w v new nx' := by
  unfold sm42 at h
  split at h
  · rename_i x y
    split at h
    · rename_i a k ha hk
      cases q : ((ile 0 a && ile a 4096) && (ile 0 k && ile k 63))
      · rw [q] at h; cases h
      · rw [q] at h; cases h
        simp only [Bool.and_eq_true, ile_iff] at q
        obtain ⟨u1, u2, e, r1, r2⟩ := fa2_two hv
        rw [toArray_of e, litI_val ha r1, litI_val hk r2]
        exact sum_plain (Tryz.call42 _ _) (side_any a k w (by omega) (by omega) (by omega)) rfl hl
    · cases h
  · cases h
theorem sum50 (h : sm50 nx args = some (v, new, nx')) (hv : FA2 (RepT b) args vals.toList) (hl : ∀ i n, b i = some n → i < nx) : SumAt 50 b nx vals w v new nx' := by
  unfold sm50 at h
  split at h
  · rename_i x y
    split at h
    · rename_i a k ha hk
      cases q : ((ile 0 a && ile a 4096) && (ile 0 k && ile k 4096))
      · rw [q] at h; cases h
      · rw [q] at h; cases h
        simp only [Bool.and_eq_true, ile_iff] at q
        obtain ⟨u1, u2, e, r1, r2⟩ := fa2_two hv
        rw [toArray_of e, litI_val ha r1, litI_val hk r2]
        exact sum_plain (Tryz.call50 _ _) (levels_any a k w (by omega) (by omega) (by omega) (by omega)) rfl hl
    · cases h
  · cases h
theorem sum49 (h : sm49 nx args = some (v, new, nx')) (hv : FA2 (RepT b) args vals.toList) (hl : ∀ i n, b i = some n → i < nx) : SumAt 49 b nx vals w v new nx' := by
  unfold sm49 at h
  split at h
  · rename_i x y
    split at h
    · rename_i a k ha hk
      cases q : (ieq a 1 && ieq k 2)
      · rw [q] at h; cases h
      · rw [q] at h; cases h
        simp only [Bool.and_eq_true, ieq_iff] at q
        obtain ⟨rfl, rfl⟩ := q
        obtain ⟨u1, u2, e, r1, r2⟩ := fa2_two hv
        rw [toArray_of e, litI_val ha r1, litI_val hk r2]
        exact sum_plain (Tryz.call49 _ _) (code_any (1, 2, 33776) (by decide) w) ⟨_, rfl, .cons rfl (.cons rfl .nil)⟩ hl
    · cases h
  · cases h
theorem sum226 (h : sm226 nx args = some (v, new, nx')) (hv : FA2 (RepT b) args vals.toList) (hl : ∀ i n, b i = some n → i < nx) : SumAt 226 b nx vals w v new nx' := by
  unfold sm226 at h
  split at h
  · rename_i x y
    split at h
    · rename_i a k ha hk
      cases q : (ieq a 33776 && ieq k 2)
      · rw [q] at h; cases h
      · rw [q] at h; cases h
        simp only [Bool.and_eq_true, ieq_iff] at q
        obtain ⟨rfl, rfl⟩ := q
        obtain ⟨u1, u2, e, r1, r2⟩ := fa2_two hv
        rw [toArray_of e, litI_val ha r1, litI_val hk r2]
        exact sum_plain (Tryz.call226 _ _) (fmt_any (1, 2, 33776) (by decide) w) ⟨_, rfl, .cons rfl (.cons rfl .nil)⟩ hl
    · cases h
  · cases h
theorem sum179 (h : sm179 nx args = some (v, new, nx')) (hv : FA2 (RepT b) args vals.toList) (hl : ∀ i n, b i = some n → i < nx) : SumAt 179 b nx vals w v new nx' := by
  unfold sm179 at h
  split at h
  · rename_i l x y
    split at h
    · rename_i c k hc hk
      cases q : ((Nat.beq (lenL l) 64 && allL zeroC l) && ((ieq c 0 && ieq k 5) || ((ieq c 1 && ieq k 6) || (ieq c 2 && ieq k 5))))
      · rw [q] at h; cases h
      · rw [q] at h; cases h
        simp only [Bool.and_eq_true, Bool.or_eq_true, ieq_iff, beq_iff, lenL_eq] at q
        obtain ⟨⟨q1, q2⟩, q3⟩ := q
        obtain ⟨u0, m, e, r0, r⟩ := fa2_uncons hv
        obtain ⟨u1, u2, e2, r1, r2⟩ := fa2_two r
        subst e2
        obtain ⟨cs, rfl, r0⟩ := r0
        have hcs := toArray_of (zero_cells r0 q2)
        rw [q1] at hcs
        rw [toArray_of e, litI_val hc r1, litI_val hk r2, hcs]
        have key : Calls Tryz.prog 179 #[zT, .int .i64 c, .int .i64 k] w fun e w' => e = .returned (.int .i64 0) ∧ Below w.heap.size w w' := by
          rcases q3 with ⟨rfl, rfl⟩ | ⟨rfl, rfl⟩ | ⟨rfl, rfl⟩
          · exact wide_zero wide_05 w
          · exact wide_zero wide_16 w
          · exact wide_zero wide_25 w
        exact sum_plain (Tryz.call179 _ _) key rfl hl
    · cases h
  · cases h
theorem sum61 (h : sm61 nx args = some (v, new, nx')) (hv : FA2 (RepT b) args vals.toList) (hl : ∀ i n, b i = some n → i < nx) : SumAt 61 b nx vals w v new nx' := by
  unfold sm61 at h
  split at h
  · rename_i o W H l f n d p
    split at h
    · rename_i vo vw vh vl vf vn ho hw hh hl' hf hn
      cases q : (((ieq vw 2 && ieq vh 2) && (ieq vl 1 && ieq vf 1)) && ieq vn 2)
      · rw [q] at h; cases h
      · rw [q] at h; cases h
        simp only [Bool.and_eq_true, ieq_iff] at q
        obtain ⟨⟨⟨rfl, rfl⟩, rfl, rfl⟩, rfl⟩ := q
        obtain ⟨u, e, r⟩ := fa2_one hv
        obtain ⟨cs, rfl, r⟩ := r
        obtain ⟨a0, m0, e0, r0, r⟩ := fa2_uncons r
        obtain ⟨a1, m1, e1, r1, r⟩ := fa2_uncons r
        obtain ⟨a2, m2, e2, r2, r⟩ := fa2_uncons r
        obtain ⟨a3, m3, e3, r3, r⟩ := fa2_uncons r
        obtain ⟨a4, m4, e4, r4, r⟩ := fa2_uncons r
        obtain ⟨a5, m5, e5, r5, r⟩ := fa2_uncons r
        obtain ⟨a6, a7, e6, r6, r7⟩ := fa2_two r
        subst e6 e5 e4 e3 e2 e1
        rw [toArray_of e, toArray_of e0, litC_val ho r0, litC_val hw r1, litC_val hh r2, litC_val hl' r3, litC_val hf r4, litC_val hn r5]
        have key := texels_any vo 2 2 1 1 2 a6 a7 w (by omega) (by omega) (by omega) (by omega) (by omega) (by omega) (by omega) (by omega) (by omega) (by omega)
        rw [show texV 2 2 1 1 2 = (5, 0) from by decide] at key
        exact sum_plain (Tryz.call61 _ _) key ⟨_, rfl, .cons rfl (.cons rfl .nil)⟩ hl
    · cases h
  · cases h
/-- a contract that hands back a row of plain cells of its own, as what a run may lean on -/
theorem sum_row {n : Nat} {cells : List SC} {vs : List Value} {m : Nat} {r : List SV} {us : List Value} (hf : (callFunc n vals).run Tryz.prog w = .ok (.enter n vals) w)
    (hC : Calls Tryz.prog n vals w fun ex w' => ∃ g cap, ex = .returned (.tuple ⟨.slice (some ⟨g, 0, none⟩) m cap :: us⟩) ∧ m ≤ cap ∧ w.heap.size ≤ g ∧ g < w'.heap.size ∧ (∀ (j : Nat) (x : Value), vs[j]? = some x → w'.cell? ⟨g, j, none⟩ = some x) ∧ Below w.heap.size w w')
    (hp : ∀ c, FA2 (RepC c) cells vs) (hr : ∀ c, FA2 (RepV c) r us) (hl : ∀ i n, b i = some n → i < nx) (hz : ∀ i, nx ≤ i → Sh.sh i = 0) :
    SumAt n b nx vals w (.tup (.c (.lf (.sl nx 0 m none)) :: r)) [(nx, ⟨0, cells, false, 0⟩)] (Nat.succ nx) := by
  refine ⟨hf, hC.mono fun ex w' ⟨g, cap, h1, h2, h3, h4, h5, h6⟩ => ?_⟩
  have hlive : ∀ {i : Nat}, Live [(nx, (⟨0, cells, false, 0⟩ : Blk))] i → i = nx := by
    rintro i ⟨k, hk⟩
    rw [getB_cons] at hk
    cases q : Nat.beq nx i
    · rw [q] at hk; cases hk
    · exact (beq_iff.1 q).symm
  refine ⟨putB nx g b, _, h1, ⟨_, rfl, .cons ⟨g, cap, putB_self _ _ _, by rw [hz nx (Nat.le_refl _)], h2⟩ (hr _)⟩, fun i hi => putB_ne (by omega), fun id k hk => ?_, fun i hi => ?_, fun i j q hi hj _ _ => ?_, fun i q hq => ?_, fun i q hi hq => ?_, Nat.le_succ _, h6⟩
  · have := hlive ⟨k, hk⟩
    subst this
    rw [getB_cons] at hk
    rw [beq_iff.2 rfl] at hk
    cases hk
    exact ⟨g, putB_self _ _ _, vs, hp _, fun j x hx => by rw [hz _ (Nat.le_refl _)]; simpa using h5 j x hx, fun q => (by cases q), fun q => absurd rfl q⟩
  · rw [hlive hi]; exact Nat.le_refl _
  · rw [hlive hi, hlive hj]
  · by_cases e : i = nx
    · omega
    · rw [putB_ne e] at hq
      exact Nat.lt_succ_of_lt (hl i q hq)
  · rw [hlive hi, putB_self] at hq
    cases hq
    exact ⟨h3, h4⟩
theorem sum63 (h : sm63 nx args = some (v, new, nx')) (hv : FA2 (RepT b) args vals.toList) (hl : ∀ i n, b i = some n → i < nx) (hz : ∀ i, nx ≤ i → Sh.sh i = 0) : SumAt 63 b nx vals w v new nx' := by
  unfold sm63 at h
  split at h
  · rename_i x y z o
    split at h
    · rename_i vf vw vh vn hf hw hh hn
      cases q : ((ieq vf 1 && ieq vw 2) && (ieq vh 2 && ieq vn 2))
      · rw [q] at h; cases h
      · rw [q] at h; cases h
        simp only [Bool.and_eq_true, ieq_iff] at q
        obtain ⟨⟨rfl, rfl⟩, rfl, rfl⟩ := q
        obtain ⟨a0, m0, e0, r0, r⟩ := fa2_uncons hv
        obtain ⟨a1, m1, e1, r1, r⟩ := fa2_uncons r
        obtain ⟨a2, a3, e2, r2, r3⟩ := fa2_two r
        subst e2 e1
        rw [toArray_of e0, litI_val hf r0, litI_val hw r1, litI_val hh r2, litI_val hn r3]
        exact sum_row (Tryz.call63 _ _) (sizes2 w) (fun c => .cons rfl (.cons rfl .nil)) (fun c => .cons rfl .nil) hl hz
    · cases h
  · cases h
end
theorem sumB [Sh] : SumOK Tryz.prog smB := by
  intro n args hp nx v new nx' h w b vals hv hh hj hl hs hz
  unfold smB at h
  cases q : Nat.beq n 42
  · rw [q] at h
    cases q : Nat.beq n 50
    · rw [q] at h
      cases q : Nat.beq n 61
      · rw [q] at h
        cases q : Nat.beq n 63
        · rw [q] at h
          cases q : Nat.beq n 49
          · rw [q] at h
            cases q : Nat.beq n 226
            · rw [q] at h
              cases q : Nat.beq n 179
              · rw [q] at h; cases h
              · rw [q] at h; rw [beq_iff] at q; subst q; exact sum179 h hv hl
            · rw [q] at h; rw [beq_iff] at q; subst q; exact sum226 h hv hl
          · rw [q] at h; rw [beq_iff] at q; subst q; exact sum49 h hv hl
        · rw [q] at h; rw [beq_iff] at q; subst q; exact sum63 h hv hl hz
      · rw [q] at h; rw [beq_iff] at q; subst q; exact sum61 h hv hl
    · rw [q] at h; rw [beq_iff] at q; subst q; exact sum50 h hv hl
  · rw [q] at h; rw [beq_iff] at q; subst q; exact sum42 h hv hl
noncomputable def envB : Env := ⟨tys, fns, smB⟩
theorem envB_ok [Sh] : EnvOK Tryz.prog envB := env_ok sumB
end Go.Proofs.YtpkclnkibhgpkaaGreat.Sx
/-
The block that is fitted to a tile of noughts. Its conditions: none.
-/
namespace Go.Proofs.YtpkclnkibhgpkaaGreat.Sx
open Go Go.RowKit
variable {P : Program}
def leafB (nx : Nat) (f : ST → St → Bool) : Option RTree → Bool
  | some (.leaf v s) => bif clean nx s.wr then f v s else false
  | _ => false
/-- a call that leaves all old memory: what it hands back, and what it has laid -/
theorem calls_leaf [Sh] {e : Env} (he : EnvOK P e) {fuel n : Nat} {args : List ST} {hp : List (Nat × Blk)} {nx : Nat} {f : ST → St → Bool} (h : leafB nx f (callS e fuel n args hp nx) = true) :
    ∃ v s, f v s = true ∧ ∀ {w : World} {b : Nat → Option Nat} {vals : Array Value}, FA2 (RepT b) args vals.toList → HpOK b hp w → (∀ i j n, Live hp i → Live hp j → b i = some n → b j = some n → i = j) →
      (∀ i n, b i = some n → i < nx) → (∀ i n, Live hp i → b i = some n → n < w.heap.size) → (∀ i, nx ≤ i → Sh.sh i = 0) →
      Calls P n vals w fun ex w' => Below w.heap.size w w' ∧ ∃ c u, ex = .returned u ∧ RepT c v u ∧ ExtN nx b c ∧ Conc w ⟨nx, Live hp⟩ c s ⟨#[], []⟩ w' := by
  cases q : callS e fuel n args hp nx with
  | none => rw [q] at h; cases h
  | some rt =>
    cases rt with
    | ite p a b => rw [q] at h; cases h
    | leaf v s =>
      rw [q] at h
      simp only [leafB] at h
      cases q2 : clean nx s.wr
      · rw [q2] at h; cases h
      · rw [q2] at h
        refine ⟨v, s, h, fun {w b vals} hv hh hj hl hs hz => callS_ok he q hv hh hj hl hs hz ?_⟩
        intro c w' u hx hc hr
        refine ⟨⟨hc.fr.os, hc.fr.tape, hc.fr.output, hc.fr.size, fun m hm => hc.fr.block m hm fun i hi hb => ?_⟩, c, u, rfl, hr, hx, hc⟩
        by_cases g : i < nx
        · rw [clean_off q2 g] at hi; cases hi
        · rcases hc.nw i m (by simp only; omega) (.inr hi) hb with r | ⟨j, r1, r2, _⟩
          · omega
          · rw [clean_off q2 r1] at r2; cases r2
/-- a row of bytes of the run's own -/
def bytesIs (s : St) (id : Nat) (l : List Nat) : Bool := match getB s.hp id with
  | some blk => Nat.beq blk.off 0 && (match litBytes blk.cells with | some m => natsEq m l | none => false)
  | none => false
theorem bytesIs_out [Sh] {s : St} {id : Nat} {l : List Nat} (h : bytesIs s id l = true) {w0 w : World} {n0 : Base} {b : Nat → Option Nat} {a : Act} (hc : Conc w0 n0 b s a w) (hz : Sh.sh id = 0) :
    ∃ g, b id = some g ∧ g < w.heap.size ∧ Live s.hp id ∧ ∀ (j : Nat) (x : Value), (l.map fun n : Nat => Value.int .u8 n)[j]? = some x → w.cell? ⟨g, j, none⟩ = some x := by
  unfold bytesIs at h
  split at h
  · rename_i blk hb
    simp only [Bool.and_eq_true, beq_iff] at h
    obtain ⟨h0, h1⟩ := h
    split at h1
    · rename_i m hm
      have := natsEq_iff.1 h1
      subst this
      obtain ⟨g, hg, vs, x1, x2, _⟩ := hc.hp id blk hb
      obtain ⟨k1, _⟩ := litBytes_rep hm x1
      refine ⟨g, hg, hc.sz id g ⟨blk, hb⟩ hg, ⟨blk, hb⟩, fun j x hx => ?_⟩
      have hx2 : vs[j]? = some x := by
        rw [k1]; exact hx
      have := x2 j x hx2
      rw [hz, h0] at this
      simpa using this
    · cases h1
  · cases h
def fitB (v : ST) (s : St) : Bool := match v with
  | .tup [.c (.lf (.own id 8)), .c (.lf (.int .i64 (.lit a))), .c (.lf (.int .i64 (.lit e)))] => (ieq a 0 && ieq e 0) && bytesIs s id [0, 0, 0, 0, 0, 0, 0, 0]
  | _ => false
theorem fitB_out {v : ST} {s : St} (h : fitB v s = true) : ∃ id, v = .tup [.c (.lf (.own id 8)), .c (.lf (.int .i64 (.lit 0))), .c (.lf (.int .i64 (.lit 0)))] ∧ bytesIs s id [0, 0, 0, 0, 0, 0, 0, 0] = true := by
  unfold fitB at h
  split at h
  · simp only [Bool.and_eq_true, ieq_iff] at h
    obtain ⟨⟨rfl, rfl⟩, h⟩ := h
    exact ⟨_, rfl, h⟩
  · cases h
theorem fit_run : leafB 0 fitB (callS envB 100000 56 [kc .i64 (.lit 1), zA, kc .i64 (.lit 0)] [] 0) = true := by kernel_rfl
def z8 : List Value := [.int .u8 0, .int .u8 0, .int .u8 0, .int .u8 0, .int .u8 0, .int .u8 0, .int .u8 0, .int .u8 0]
theorem fit_zero (w : World) : Calls Tryz.prog 56 #[.int .i64 1, zT, .int .i64 0] w fun ex w' => ∃ g cap, ex = .returned (.tuple ⟨.slice (some ⟨g, 0, none⟩) 8 cap :: [.int .i64 0, .int .i64 0]⟩) ∧ 8 ≤ cap ∧ w.heap.size ≤ g ∧ g < w'.heap.size ∧
      (∀ (j : Nat) (x : Value), z8[j]? = some x → w'.cell? ⟨g, j, none⟩ = some x) ∧ Below w.heap.size w w' := by
  letI : Sh := ⟨fun _ => 0⟩
  obtain ⟨v, s, h0, h1⟩ := calls_leaf envB_ok fit_run
  obtain ⟨id, rfl, hb⟩ := fitB_out h0
  refine (h1 (w := w) (b := fun _ => none) (vals := #[.int .i64 1, zT, .int .i64 0]) (.cons rfl (.cons (zA_rep _) (.cons rfl .nil))) (fun id k hk => by cases hk) (fun i j n hi => by obtain ⟨k, hk⟩ := hi; cases hk) (fun i n hi => by cases hi) (fun i n hi => by obtain ⟨k, hk⟩ := hi; cases hk) (fun _ _ => rfl)).mono ?_
  rintro ex w' ⟨hbl, c, u, rfl, hr, hx, hc⟩
  obtain ⟨g, hg, hlt, hlive, hcell⟩ := bytesIs_out hb hc rfl
  obtain ⟨vs, rfl, hr⟩ := hr
  obtain ⟨u0, m, e0, r0, r⟩ := fa2_uncons hr
  obtain ⟨u1, u2, e1, r1, r2⟩ := fa2_two r
  subst e1
  rw [toArray_of e0]
  obtain ⟨n', cap, q1, q2, rfl, q3⟩ := r0
  rw [hg] at q1; cases q1
  have hr1 : u1 = .int .i64 0 := r1
  have hr2 : u2 = .int .i64 0 := r2
  subst hr1 hr2
  refine ⟨g, cap, rfl, q3, ?_, hlt, fun j x hx => hcell j x hx, hbl⟩
  rcases hc.nw id g (Nat.zero_le _) (.inl hlive) hg with h | ⟨j, h, _⟩
  · exact h
  · simp only at h; omega
end Go.Proofs.YtpkclnkibhgpkaaGreat.Sx
