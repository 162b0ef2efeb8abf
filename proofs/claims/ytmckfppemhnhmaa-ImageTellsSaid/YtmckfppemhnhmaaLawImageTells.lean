/- ImageTells: whether an image may be, any texel of it, it with any texel there, and whether it is another one, are what the reference says; every input, no condition. -/
import Derived.Test.YtmckfppemhnhmaaR
import Derived.Test.YtmckfppemhnhmaaS
namespace Go.Proofs.Ytmckfppemhnhmaa.imageTells
open Go.ChangeShapes Go.WideShapes Go.ChangeAt Go.RowKit

theorem own : ownKnob Try.prog.godebug = none := by kernel_rfl
theorem tells_any {W H W' H' : Int} {n n' : Nat} {f f' : Nat → Int} {ao ao' : Option Addr} {cap cap' : Nat} {x y : Int} {t : Nat → Int} {w : World} (hv : Im w (.agg #[.int .i64 W, .int .i64 H, .slice ao n cap]) W H n f) (hv' : Im w (.agg #[.int .i64 W', .int .i64 H', .slice ao' n' cap']) W' H' n' f')
    (hx : -9223372036854775808 ≤ x ∧ x ≤ 9223372036854775807) (hy : -9223372036854775808 ≤ y ∧ y ≤ 9223372036854775807) :
    Calls Try.prog 5 #[.agg #[.int .i64 W, .int .i64 H, .slice ao n cap, .int .i64 W', .int .i64 H', .slice ao' n' cap'], .agg #[.int .i64 x, .int .i64 y], tx t] w fun e w' => e = .returned (.bool true) ∧ Below w.heap.size w w' := by
  by_cases h : (lightV W H n && lightV W' H' n') = true
  · simp only [Bool.and_eq_true] at h
    exact tells_yes hv hv' hx hy h.1 h.2
  · exact tells_no (by simpa using h)

set_option maxRecDepth 100000 in
theorem lifted (os : Os) (started : os.Started) (H : Type) (enc : TypeId × Value → H) :
    ReturnsInHanded {} Try.checked os 5 .any (Rows.imageTellsSpec.pre6 enc Try.prog Try.f5 Rows.imageTellsRow.domain false) (Rows.imageTellsSpec.post enc Try.prog Try.f5 false true false false) := by
  refine returnsInHanded_of_change (C := Try.checked) own started (by kernel_rfl) Try.func5
    (ChangeSpec.witness6 (enc := enc) (C := Try.checked) false ⟨#[], #[.agg #[.int .i64 0, .int .i64 0, .slice none 0 0, .int .i64 0, .int .i64 0, .slice none 0 0], .agg #[.int .i64 0, .int .i64 0], .agg #[.int .i64 0, .int .i64 0, .int .i64 0, .int .i64 0]], []⟩ 8 (by kernel_rfl) (by kernel_rfl) (by kernel_rfl) (by kernel_rfl)) ?_
  intro W base args ds gs before hval0 hW _ _
  have hval : ∀ (j : Nat) t v, Try.f5.params[j]? = some t → args[j]? = some v → Value.okWide Try.prog W .any base t v := hval0
  have hW' := hW
  obtain ⟨p, q, hA0, hV, rfl, _, _⟩ := hW
  have hA : DataW.TrodAll enc Try.prog W 0 (fun _ => true) true Try.f5.params.toList args.toList ds p := hA0
  rw [Try.params5] at hA hval
  obtain ⟨v0, vs0, d0, ds0, p0, q0, hargs, rfl, rfl, h0, r0⟩ := trodAll_cons hA
  obtain ⟨v1, vs1, d1, ds1, p1, q1, rfl, rfl, rfl, h1, r1⟩ := trodAll_cons r0
  obtain ⟨v2, vs2, d2, ds2, p2, q2, rfl, rfl, rfl, h2, r2⟩ := trodAll_cons r1
  obtain ⟨rfl, rfl, rfl⟩ := trodAll_nil r2
  obtain rfl : args = #[v0, v1, v2] := by cases args; simp_all
  obtain ⟨rfl, rfl⟩ := trodVars_none hV
  obtain ⟨W0, H0, ao, n0, cap, f0, W1, H1, ao', n1, cap', f1, rfl, im0, im1⟩ := open_im2 (hval 0 41 v0 rfl rfl) h0
  obtain ⟨x, y, rfl, hx, hy⟩ := open_two (hval 1 25 v1 rfl rfl) h1
  obtain ⟨t, rfl⟩ := open_tx (hval 2 38 v2 rfl rfl) h2
  refine (tells_any im0 im1 hx hy).mono fun e W' ⟨he, hg⟩ => ?_
  subst he
  exact ⟨_, rfl, law_post Try.laidOut (by kernel_rfl) rfl rfl Try.underlying4 hW' rfl hg⟩

theorem over : Rows.imageTellsRow.holds Try.pinned (OpenSpec.ofChange Rows.imageTellsSpec) :=
  OpenClaim.holds_of_wide 5 Try.f5 rfl rfl rfl rfl rfl rfl rfl ⟨rfl, rfl, rfl, rfl, rfl⟩ rfl rfl rfl rfl rfl (by kernel_rfl) Try.func5 (by kernel_rfl)
    (of_decide_eq_true (by kernel_rfl)) (by unfold Func.isWrapper; first | (rw [if_pos (by decide +kernel)]; kernel_rfl) | (rw [if_neg (by decide +kernel)]; exact ⟨rfl, rfl⟩))
    (fun os started H enc _ => lifted os started H enc)

theorem proved : Rows.ImageTellsSaid :=
  over
#print axioms proved
end Go.Proofs.Ytmckfppemhnhmaa.imageTells
