/- LevelBest: the best of any numbers for any, and how far any two tiles are apart, are what the reference says; every input, no condition. -/
import Derived.Test.YtonamhikhjjacaaO
import Derived.Test.YtonamhikhjjacaaN
namespace Go.Proofs.Ytonamhikhjjacaa.levelBest
open Go.ChangeShapes Go.WideShapes Go.ChangeAt Go.RowKit

theorem own : ownKnob Try.prog.godebug = none := by kernel_rfl
theorem I31 : IntT Try.prog 31 4 := intT_array (m := 4) (k := 1) Try.underlying31 Try.cells3 (by kernel_rfl) (by omega) (intT_int Try.underlying3)
theorem I33 : IntT Try.prog 33 64 := intT_array (m := 16) (k := 4) Try.underlying33 (by kernel_rfl) (by kernel_rfl) (by omega) I31
theorem I34 : IntT Try.prog 34 128 := intT_array (m := 2) (k := 64) Try.underlying34 (by kernel_rfl) (by kernel_rfl) (by omega) I33
theorem cells25 : Try.prog.cellsOf 25 = 1 := by kernel_rfl
theorem cells29 : Try.prog.cellsOf 29 = 2 := by kernel_rfl
/-- an argument that is two slices of ints -/
theorem open_two {H : Type} {enc : TypeId × Value → H} {W : World} {base : Nat} {sp : Nat → Bool} {held : Bool} {v : Value} {d : DataW H} {p : List MemPlace}
    (hv : Value.okWide Try.prog W .any base 29 v) (h : DataW.Trod enc Try.prog W 0 sp held 29 v d p) : ∃ x y n f m g, v = .agg #[x, y] ∧ RI W x n f ∧ RI W y m g := by
  have hcs : ∃ cs, v = .agg cs := by
    unfold Value.okWide at hv
    rw [Try.underlying29] at hv
    obtain ⟨cs, h1, _⟩ := hv
    exact ⟨cs, h1⟩
  obtain ⟨cs, rfl⟩ := hcs
  obtain ⟨fuel, hf⟩ := h
  obtain ⟨xs, q, _, _, hlen, hxs, hg⟩ := DataW.trod_array Try.underlying29 hf
  rw [cells29] at hlen
  obtain ⟨l⟩ := cs
  simp [Value.cells] at hlen
  match l, hlen with
  | [c0, c1], _ =>
    have g0 := hg 0 (by omega)
    have g1 := hg 1 (by omega)
    simp [cells25, Value.cells] at g0 g1
    match xs, hxs with
    | [y0, y1], _ =>
      simp at g0 g1
      obtain ⟨n, f, r0, _⟩ := ri_of_cells g0
      obtain ⟨m, g, r1, _⟩ := ri_of_cells g1
      exact ⟨c0, c1, n, f, m, g, rfl, r0, r1⟩

set_option maxRecDepth 100000 in
theorem lifted (os : Os) (started : os.Started) (H : Type) (enc : TypeId × Value → H) :
    ReturnsInHanded {} Try.checked os 4 .any (Rows.levelBestSpec.pre6 enc Try.prog Try.f4 Rows.levelBestRow.domain false) (Rows.levelBestSpec.post enc Try.prog Try.f4 false true false false) := by
  refine returnsInHanded_of_change (C := Try.checked) own started (by kernel_rfl) Try.func4
    (ChangeSpec.witness6 (enc := enc) (C := Try.checked) false ⟨#[], #[.agg #[.slice none 0 0, .slice none 0 0], .agg (Array.replicate 128 (.int .i64 0)), .int .i64 0], []⟩ 8 (by kernel_rfl) (by kernel_rfl) (by kernel_rfl) (by kernel_rfl)) ?_
  intro W base args ds gs before hval0 hW _ _
  have hval : ∀ (j : Nat) t v, Try.f4.params[j]? = some t → args[j]? = some v → Value.okWide Try.prog W .any base t v := hval0
  have hW' := hW
  obtain ⟨p, q, hA0, hV, rfl, _, _⟩ := hW
  have hA : DataW.TrodAll enc Try.prog W 0 (fun _ => true) true Try.f4.params.toList args.toList ds p := hA0
  rw [Try.params4] at hA hval
  obtain ⟨v0, vs0, d0, ds0, p0, q0, hargs, rfl, rfl, h0, r0⟩ := trodAll_cons hA
  obtain ⟨v1, vs1, d1, ds1, p1, q1, rfl, rfl, rfl, h1, r1⟩ := trodAll_cons r0
  obtain ⟨v2, vs2, d2, ds2, p2, q2, rfl, rfl, rfl, h2, r2⟩ := trodAll_cons r1
  obtain ⟨rfl, rfl, rfl⟩ := trodAll_nil r2
  obtain rfl : args = #[v0, v1, v2] := by cases args; simp_all
  obtain ⟨rfl, rfl⟩ := trodVars_none hV
  obtain ⟨x0, y0, n0, f0, m0, g0, rfl, rx, ry⟩ := open_two (hval 0 29 v0 rfl rfl) h0
  obtain ⟨cs, rfl, hag, _⟩ := open_ag Try.underlying34 I34 (hval 1 34 v1 rfl rfl) h1
  obtain ⟨a2, rfl, _, _, w2⟩ := open_int Try.underlying3 (hval 2 3 v2 rfl rfl) h2
  refine (lbest_any rx ry hag a2).mono fun e W' ⟨he, hg⟩ => ?_
  subst he
  exact ⟨_, rfl, law_post Try.laidOut (by kernel_rfl) rfl rfl Try.underlying4 hW' rfl hg⟩

theorem over : Rows.levelBestRow.holds Try.pinned (OpenSpec.ofChange Rows.levelBestSpec) :=
  OpenClaim.holds_of_wide 4 Try.f4 rfl rfl rfl rfl rfl rfl rfl ⟨rfl, rfl, rfl, rfl, rfl⟩ rfl rfl rfl rfl rfl (by kernel_rfl) Try.func4 (by kernel_rfl)
    (of_decide_eq_true (by kernel_rfl)) (by unfold Func.isWrapper; first | (rw [if_pos (by decide +kernel)]; kernel_rfl) | (rw [if_neg (by decide +kernel)]; exact ⟨rfl, rfl⟩))
    (fun os started H enc _ => lifted os started H enc)

theorem proved : Rows.LevelBestSaid :=
  over
#print axioms proved
end Go.Proofs.Ytonamhikhjjacaa.levelBest
