/- TopOlder: the surfaces of a texture of ETC1, read as ETC2, are the same where no difference goes too far; every input, no condition. -/
import Derived.Test.YtpkclnkibhgpkaaGreatRows
import Derived.WalkKit
import Derived.ProofKit
import Derived.OpenShut
import Derived.Test.YtpkclnkibhgpkaaGreatPY
import Derived.Test.YtpkclnkibhgpkaaGreatZK
import Derived.Deep.Slices
import Derived.Deep.Strs
import Derived.Deep.SlicePairs
namespace Go.Proofs.YtpkclnkibhgpkaaGreat
open Go.ChangeShapes Go.WideShapes Go.ChangeAt Go.RowKit

section
variable {H : Type} {enc : TypeId × Value → H} {P : Program}
theorem post_of_below {f : Func} {s : ChangeSpec} {apart fresh handsOn again : Bool} {W W' : World} {args : Array Value} {v : Value} {ds gs : List (DataW H)} {before pa pv : List MemPlace}
    (hW : DataW.Whole enc P f.params.toList s.vars apart W args.toList ds gs before)
    (hres : ∀ (b : Nat) (sp : Nat → Bool) (hd : Bool), DataW.TrodAll enc P W' b sp hd f.resultTypes.toList (v.resultList f.resultTypes.size) (s.fn H (ds ++ gs)).results [])
    (hargs : ∀ sp : Nat → Bool, (∀ p ∈ before, sp p.block = true) → DataW.TrodAll enc P W' 0 sp true f.params.toList args.toList (s.fn H (ds ++ gs)).args pa)
    (hvars : ∀ sp : Nat → Bool, (∀ p ∈ before, sp p.block = true) → DataW.TrodVars enc P W' sp s.vars (s.fn H (ds ++ gs)).vars pv)
    (hps : before = pa ++ pv) (hb : Below W.heap.size W W')
    (hok : ∀ (j : Nat) (t : TypeId) (r : Value), f.resultTypes[j]? = some t → (v.resultList f.resultTypes.size)[j]? = some r → Value.okWide P W' .any 0 t r) :
    s.post enc P f apart fresh handsOn again W args v W' := by
  have hlt : ∀ p ∈ before, p.block < W.heap.size := fun p hp => hW.lt p hp
  have hold : ∀ p ∈ before, (fun b => decide (b < W.heap.size)) p.block = true := fun p hp => by simpa using hlt p hp
  refine ⟨ds, gs, before, [], pa, pv, hW, hres _ _ _, hargs _ hold, hvars _ hold, World.keptBut_mono (fun p hp => ⟨hp, ?_⟩) (hb.frame (· ∈ before)), fun _ => ?_⟩
  · rw [hps, List.mem_append] at hp
    exact Or.inr hp
  · obtain ⟨_, _, _, _, _, hz, hn⟩ := hW
    refine ⟨hok, _, _, ([] ++ pa) ++ pv, ⟨[] ++ pa, pv, trodAll_append (hargs _ (fun _ _ => rfl)) (hres _ _ _), hvars _ (fun _ _ => rfl), rfl, ?_, ?_⟩, ?_⟩
    · intro b off hp
      have hin : MemPlace.cell b off ∈ before := by rw [hps]; simpa using hp
      rw [hb.frozen (hlt _ hin)]
      exact hz b off hin
    · intro ha
      have := hn ha
      rw [hps] at this
      simpa using this
    · intro p hp _
      rw [hps]
      simpa using hp
end

/-- the arguments read behind the call as before it -/
theorem args_stay {H : Type} {enc : TypeId × Value → H} {P : Program} (hl : laidOutB P = true) {W W' : World} {sp : Nat → Bool} (hb : Below W.heap.size W W') :
    ∀ (ts : List TypeId) (vs : List Value) (ds : List (DataW H)) (ps : List MemPlace), ts.all (fun t => P.readableRec t && decide (t < P.types.size)) = true →
      DataW.TrodAll enc P W 0 (fun _ => true) true ts vs ds ps → (∀ x ∈ ps, x.block < W.heap.size) → (∀ x ∈ ps, sp x.block = true) → DataW.TrodAll enc P W' 0 sp true ts vs ds ps := by
  intro ts
  induction ts with
  | nil => intro vs ds ps _ h _ _; cases vs <;> cases ds <;> simp_all [DataW.TrodAll]
  | cons t ts ih =>
    intro vs ds ps hr h hlt hsp
    simp only [List.all_cons, Bool.and_eq_true, decide_eq_true_eq] at hr
    obtain ⟨v, vs', d, ds', p, q, rfl, rfl, rfl, h0, r0⟩ := trodAll_cons h
    refine trodAll_cons_mk (WideElems.Trod_stays hl hr.1.1 hr.1.2 h0 (fun x hx => hb.same (hlt x (List.mem_append_left _ hx))) (fun x hx => hsp x (List.mem_append_left _ hx))) ?_
    exact ih vs' ds' q hr.2 r0 (fun x hx => hlt x (List.mem_append_right _ hx)) (fun x hx => hsp x (List.mem_append_right _ hx))

/-- a law's end: it returned true, and nothing that was there has turned -/
theorem law_post {H : Type} {enc : TypeId × Value → H} {P : Program} {f : Func} {s : ChangeSpec} {W W' : World} {args : Array Value} {ds : List (DataW H)} {before : List MemPlace} {tb : TypeId}
    (hl : laidOutB P = true) (hr : f.params.toList.all (fun t => P.readableRec t && decide (t < P.types.size)) = true) (hvars : s.vars = []) (hrt : f.resultTypes = #[tb]) (htb : P.underlying tb = some .bool)
    (hW : DataW.Whole enc P f.params.toList s.vars false W args.toList ds [] before) (hfn : s.fn H (ds ++ []) = { results := [.lit (.bool true)], args := ds }) (hb : Below W.heap.size W W') :
    s.post enc P f false true false false W args (.bool true) W' := by
  have hlt : ∀ p ∈ before, p.block < W.heap.size := fun p hp => hW.lt p hp
  have hW2 := hW
  obtain ⟨p, q, hA, hV, rfl, _, _⟩ := hW2
  rw [hvars] at hV
  obtain ⟨_, rfl⟩ := trodVars_none hV
  refine post_of_below (pa := p) (pv := []) hW ?_ ?_ ?_ rfl hb ?_
  · intro b sp hd
    rw [hfn, hrt]
    exact trodAll_cons_mk (shut_bool htb _) trodAll_mk0
  · intro sp hsp
    rw [hfn]
    exact args_stay hl hb _ _ _ _ hr hA (fun x hx => hlt x (List.mem_append_left _ hx)) (fun x hx => hsp x (List.mem_append_left _ hx))
  · intro sp _
    rw [hvars, hfn]
    rfl
  · rw [hrt]
    intro j t r ht hv
    match j, ht, hv with
    | 0, ht, hv =>
      simp [Value.resultList] at ht hv
      subst ht hv
      exact okWide_bool_mk htb _
    | j + 1, ht, _ => simp at ht

end Go.Proofs.YtpkclnkibhgpkaaGreat
namespace Go.Proofs.YtpkclnkibhgpkaaGreat.topOlder
open Go.ChangeShapes Go.WideShapes Go.ChangeAt Go.RowKit

theorem own : ownKnob Tryz.prog.godebug = none := by kernel_rfl
theorem cells3 : Tryz.prog.cellsOf 3 = 1 := by kernel_rfl
theorem cells5 : Tryz.prog.cellsOf 5 = 1 := by kernel_rfl
theorem cells9 : Tryz.prog.cellsOf 9 = 1 := by kernel_rfl
theorem cells22 : Tryz.prog.cellsOf 22 = 1 := by kernel_rfl
theorem cells23 : Tryz.prog.cellsOf 23 = 1 := by kernel_rfl
theorem cells25 : Tryz.prog.cellsOf 25 = 8 := by kernel_rfl
theorem cells27 : Tryz.prog.cellsOf 27 = 1 := by kernel_rfl
theorem cells74 : Tryz.prog.cellsOf 74 = 2 := by kernel_rfl
theorem laidOut : laidOutB Tryz.prog = true := by kernel_rfl
/-- bytes that can be read -/
theorem open_bytes {H : Type} {enc : TypeId × Value → H} {W : World} {base : Nat} {sp : Nat → Bool} {held : Bool} {fuel : Nat} {c : Value} {x : DataW H × List MemPlace}
    (hf : DataW.trod enc Tryz.prog W base sp held fuel 27 [c] = some x) : ∃ q : Nat × (Nat → Int), Rb W c q.1 q.2 := by
  rcases open_ints Tryz.underlying27 Tryz.underlying5 cells5 hf with ⟨hcs, hx⟩ | ⟨a, len', cap', zs, hcs, _, hl, hm, hz, hx, hcell, hwz⟩
  · simp at hcs
    subst hcs
    exact ⟨(0, fun _ => 0), none, 0, rfl, Nat.le_refl _, by decide, fun _ => ⟨Int.le_refl 0, show (0 : Int) ≤ 255 by decide⟩, fun h => by simp at h⟩
  · simp at hcs
    subst hcs
    unfold maxLen at hm
    have hzl : len' ≤ zs.length := by rw [hz]; split <;> omega
    refine ⟨(len', fun i => zs[i]?.getD 0), some a, cap', rfl, hl, by omega, range_u8 hwz, fun h0 => ?_⟩
    have h0' : 0 < len' := h0
    obtain ⟨b, off, rfl, hc⟩ := ints_at hcell (by omega)
    exact ⟨b, off, rfl, fun i hi => by
      have hi' : i < len' := hi
      have := hc i (by omega)
      simpa using this⟩
theorem open_data {H : Type} {enc : TypeId × Value → H} {W : World} {base : Nat} {sp : Nat → Bool} {held : Bool} {fuel : Nat} {c : Value} {x : DataW H × List MemPlace}
    (hf : DataW.trod enc Tryz.prog W base sp held fuel 22 [c] = some x) : ∃ N V L g, Dat W c N V L g := by
  rcases Go.Deep.open_slice1 Tryz.underlying22 cells27 hf with ⟨hcs, hx⟩ | ⟨a, len, cap, m, n, V, D, Pl, hcs, _, hl, hm, hmm, hx, hc⟩
  · simp at hcs
    subst hcs
    exact ⟨0, fun _ => .slice none 0 0, fun _ => 0, fun _ _ => 0, none, 0, rfl, by decide, fun h => by omega, fun i h => by omega⟩
  · simp at hcs
    subst hcs
    unfold maxLen at hm
    have hlm : len ≤ m := by rw [hmm]; split <;> omega
    obtain ⟨q, hq⟩ := Classical.axiomOfChoice (r := fun (i : Nat) (q : Nat × (Nat → Int)) => i < len → Rb W (V i) q.1 q.2) (fun i => by
      by_cases h : i < len
      · obtain ⟨q, hq⟩ := open_bytes (hc i (by omega)).2
        exact ⟨q, fun _ => hq⟩
      · exact ⟨(0, fun _ => 0), fun h' => absurd h' h⟩)
    refine ⟨len, V, fun i => (q i).1, fun i => (q i).2, some a, cap, rfl, by omega, fun h0 => ?_, fun i hi => hq i hi⟩
    obtain ⟨b, off, spot⟩ := a
    have h1 := (hc 0 (by omega)).1
    have hspot : spot = none := by simpa [Addr.add] using World.cell?_spot h1
    subst hspot
    exact ⟨b, off, rfl, fun i hi => by have := (hc i (by omega)).1; rwa [Addr.add_lit] at this⟩
theorem open_prs {H : Type} {enc : TypeId × Value → H} {W : World} {base : Nat} {sp : Nat → Bool} {held : Bool} {fuel : Nat} {c : Value} {x : DataW H × List MemPlace}
    (hf : DataW.trod enc Tryz.prog W base sp held fuel 23 [c] = some x) : ∃ M K U, Prs W c M K U := by
  rcases Go.Deep.open_slice_pairs Tryz.underlying23 Tryz.underlying74 cells74 rfl rfl cells9 cells9 hf with ⟨hcs, hx⟩ | ⟨a, len, cap, m, n, V0, V1, D0, D1, P0, P1, hcs, _, hl, hm, hmm, hx, hc⟩
  · simp at hcs
    subst hcs
    exact ⟨0, fun _ => default, fun _ => default, none, 0, rfl, by decide, fun h => by omega⟩
  · simp at hcs
    subst hcs
    unfold maxLen at hm
    have hlm : len ≤ m := by rw [hmm]; split <;> omega
    have str : ∀ i, i < len → ∃ q : ByteArray × ByteArray, V0 i = .string q.1 ∧ V1 i = .string q.2 := fun i hi => by
      obtain ⟨_, _, t0, t1⟩ := hc i (by omega)
      obtain ⟨s0, e0, _⟩ := DataW.trod_string Tryz.underlying9 t0
      obtain ⟨s1, e1, _⟩ := DataW.trod_string Tryz.underlying9 t1
      simp at e0 e1
      exact ⟨(s0, s1), e0, e1⟩
    obtain ⟨q, hq⟩ := Classical.axiomOfChoice (r := fun (i : Nat) (q : ByteArray × ByteArray) => i < len → V0 i = .string q.1 ∧ V1 i = .string q.2) (fun i => by
      by_cases h : i < len
      · obtain ⟨q, hq⟩ := str i h
        exact ⟨q, fun _ => hq⟩
      · exact ⟨(default, default), fun h' => absurd h' h⟩)
    refine ⟨len, fun i => (q i).1, fun i => (q i).2, some a, cap, rfl, by omega, fun h0 => ?_⟩
    obtain ⟨b, off, spot⟩ := a
    have h1 := (hc 0 (by omega)).1
    have hspot : spot = none := by simpa [Addr.add] using World.cell?_spot h1
    subst hspot
    exact ⟨b, off, rfl, fun i hi => by
      obtain ⟨c0, c1, _, _⟩ := hc i (by omega)
      rw [Addr.add_lit] at c0 c1
      rw [(hq i hi).1] at c0
      rw [(hq i hi).2] at c1
      exact ⟨c0, by rw [Nat.add_assoc]; exact c1⟩⟩
set_option maxRecDepth 100000 in
/-- an argument that is a texture -/
theorem open_tex {H : Type} {enc : TypeId × Value → H} {W : World} {base : Nat} {sp : Nat → Bool} {held : Bool} {v : Value} {d : DataW H} {p : List MemPlace}
    (hv : Value.okWide Tryz.prog W .any base 25 v) (h : DataW.Trod enc Tryz.prog W 0 sp held 25 v d p) : ∃ (f W0 H0 Ly F n : Int) (dv pv : Value) (N : Nat) (V : Nat → Value) (L : Nat → Nat) (g : Nat → Nat → Int) (M : Nat) (K U : Nat → ByteArray),
      v = .agg #[.int .i64 f, .int .i64 W0, .int .i64 H0, .int .i64 Ly, .int .i64 F, .int .i64 n, dv, pv] ∧ Dat W dv N V L g ∧ Prs W pv M K U ∧
      (-9223372036854775808 ≤ W0 ∧ W0 ≤ 9223372036854775807) ∧ (-9223372036854775808 ≤ H0 ∧ H0 ≤ 9223372036854775807) ∧ (-9223372036854775808 ≤ Ly ∧ Ly ≤ 9223372036854775807) ∧ (-9223372036854775808 ≤ F ∧ F ≤ 9223372036854775807) ∧ (-9223372036854775808 ≤ n ∧ n ≤ 9223372036854775807) := by
  have hcs : ∃ cs, v = .agg cs := by
    unfold Value.okWide at hv
    rw [Tryz.underlying25] at hv
    obtain ⟨cs, h1, _⟩ := hv
    exact ⟨cs, h1⟩
  obtain ⟨⟨l⟩, rfl⟩ := hcs
  obtain ⟨fuel, hf⟩ := h
  obtain ⟨xs, q, _, _, hl, hlen, hg⟩ := DataW.trod_struct Tryz.underlying25 hf
  rw [cells25] at hl
  have g0 := hg 0 _ rfl
  have g1 := hg 1 _ rfl
  have g2 := hg 2 _ rfl
  have g3 := hg 3 _ rfl
  have g4 := hg 4 _ rfl
  have g5 := hg 5 _ rfl
  have g6 := hg 6 _ rfl
  have g7 := hg 7 _ rfl
  have hl' : l.length = 8 := by simpa [Value.cells] using hl
  have hx : ∀ i, i < 8 → ∃ y, xs[i]? = some y := fun i hi => ⟨_, List.getElem?_eq_getElem (by rw [hlen]; exact hi)⟩
  obtain ⟨y0, e0⟩ := hx 0 (by omega)
  obtain ⟨y1, e1⟩ := hx 1 (by omega)
  obtain ⟨y2, e2⟩ := hx 2 (by omega)
  obtain ⟨y3, e3⟩ := hx 3 (by omega)
  obtain ⟨y4, e4⟩ := hx 4 (by omega)
  obtain ⟨y5, e5⟩ := hx 5 (by omega)
  obtain ⟨y6, e6⟩ := hx 6 (by omega)
  obtain ⟨y7, e7⟩ := hx 7 (by omega)
  match l, hl' with
  | [c0, c1, c2, c3, c4, c5, c6, c7], _ =>
    simp [Value.cells, cells3, cells22, cells23, e0, e1, e2, e3, e4, e5, e6, e7] at g0 g1 g2 g3 g4 g5 g6 g7
    obtain ⟨a0, r0, _, w0⟩ := DataW.trod_int Tryz.underlying3 g0
    obtain ⟨a1, r1, _, w1⟩ := DataW.trod_int Tryz.underlying3 g1
    obtain ⟨a2, r2, _, w2⟩ := DataW.trod_int Tryz.underlying3 g2
    obtain ⟨a3, r3, _, w3⟩ := DataW.trod_int Tryz.underlying3 g3
    obtain ⟨a4, r4, _, w4⟩ := DataW.trod_int Tryz.underlying3 g4
    obtain ⟨a5, r5, _, w5⟩ := DataW.trod_int Tryz.underlying3 g5
    simp at r0 r1 r2 r3 r4 r5
    subst r0 r1 r2 r3 r4 r5
    obtain ⟨N, V, L, g, hD⟩ := open_data g6
    obtain ⟨M, K, U, hP⟩ := open_prs g7
    exact ⟨a0, a1, a2, a3, a4, a5, c6, c7, N, V, L, g, M, K, U, rfl, hD, hP, bounds_i64 w1, bounds_i64 w2, bounds_i64 w3, bounds_i64 w4, bounds_i64 w5⟩

set_option maxRecDepth 100000 in
theorem lifted (os : Os) (started : os.Started) (H : Type) (enc : TypeId × Value → H) :
    ReturnsInHanded {} Tryz.checked os 3 .any (Rows.topOlderSpec.pre6 enc Tryz.prog Tryz.f3 Rows.topOlderRow.domain false) (Rows.topOlderSpec.post enc Tryz.prog Tryz.f3 false true false false) := by
  refine returnsInHanded_of_change (C := Tryz.checked) own started (by kernel_rfl) Tryz.func3
    (ChangeSpec.witness6 (enc := enc) (C := Tryz.checked) false ⟨#[], #[.agg #[.int .i64 0, .int .i64 0, .int .i64 0, .int .i64 0, .int .i64 0, .int .i64 0, .slice none 0 0, .slice none 0 0]], []⟩ 8 (by kernel_rfl) (by kernel_rfl) (by kernel_rfl) (by kernel_rfl)) ?_
  intro W base args ds gs before hval0 hW _ _
  have hval : ∀ (j : Nat) t v, Tryz.f3.params[j]? = some t → args[j]? = some v → Value.okWide Tryz.prog W .any base t v := hval0
  have hW' := hW
  obtain ⟨p, q, hA0, hV, rfl, _, _⟩ := hW
  have hA : DataW.TrodAll enc Tryz.prog W 0 (fun _ => true) true Tryz.f3.params.toList args.toList ds p := hA0
  rw [Tryz.params3] at hA hval
  obtain ⟨v0, vs0, d0, ds0, p0, q0, hargs, rfl, rfl, h0, r0⟩ := trodAll_cons hA
  obtain ⟨rfl, rfl, rfl⟩ := trodAll_nil r0
  obtain rfl : args = #[v0] := by cases args; simp_all
  obtain ⟨rfl, rfl⟩ := trodVars_none hV
  obtain ⟨f, W0, H0, Ly, F, n, dv, pv, N, V, L, g, M, K, U, rfl, hD, hP, b1, b2, b3, b4, b5⟩ := open_tex (hval 0 25 v0 rfl rfl) h0
  refine (older_any awake_any f W0 H0 Ly F n dv pv N V L g M K U W b1.1 b1.2 b2.1 b2.2 b3.1 b3.2 b4.1 b4.2 b5.1 b5.2 hD hP).mono fun e W' ⟨he, hg⟩ => ?_
  subst he
  exact ⟨_, rfl, law_post laidOut (by kernel_rfl) rfl rfl Tryz.underlying4 hW' rfl hg⟩

theorem over : Rows.topOlderRow.holds Tryz.pinned (OpenSpec.ofChange Rows.topOlderSpec) :=
  OpenClaim.holds_of_wide 3 Tryz.f3 rfl rfl rfl rfl rfl rfl rfl ⟨rfl, rfl, rfl, rfl, rfl⟩ rfl rfl rfl rfl rfl (by kernel_rfl) Tryz.func3 (by kernel_rfl)
    (of_decide_eq_true (by kernel_rfl)) (by unfold Func.isWrapper; first | (rw [if_pos (by decide +kernel)]; kernel_rfl) | (rw [if_neg (by decide +kernel)]; exact ⟨rfl, rfl⟩))
    (fun os started H enc _ => lifted os started H enc)

theorem proved : Rows.TopOlderSaid :=
  over
#print axioms proved
end Go.Proofs.YtpkclnkibhgpkaaGreat.topOlder
