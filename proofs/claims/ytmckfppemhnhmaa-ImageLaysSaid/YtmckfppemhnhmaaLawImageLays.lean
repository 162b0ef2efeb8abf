/- ImageLays: a tile that was laid is gathered, as far as there are texels, and all others stay; every input, no condition. -/
import Derived.Test.YtmckfppemhnhmaaV2
import Derived.Test.YtmckfppemhnhmaaS
namespace Go.Proofs.Ytmckfppemhnhmaa.imageLays
open Go.ChangeShapes Go.WideShapes Go.ChangeAt Go.RowKit

theorem own : ownKnob Try.prog.godebug = none := by kernel_rfl
theorem lays_any {W H : Int} {n : Nat} {f : Nat → Int} {v : Value} {X Y : Int} {t : Nat → Int} {w : World} (hv : Im w v W H n f) :
    Calls Try.prog 7 #[v, .agg #[.int .i64 X, .int .i64 Y], .agg (agOf 0 64 t)] w fun e w' => e = .returned (.bool true) ∧ Below w.heap.size w w' := by
  by_cases h : (lightV W H n && rightV W H n) = true
  · simp only [Bool.and_eq_true] at h
    by_cases h3 : hasV W H X Y n = true
    · exact lays_yes hv h.1 h.2 h3
    · exact lays_nohas hv h.1 h.2 (by simpa using h3)
  · obtain ⟨ao, cap, rfl, _, _, _⟩ := hv
    exact lays_no (by simpa using h)

set_option maxRecDepth 100000 in
theorem lifted (os : Os) (started : os.Started) (H : Type) (enc : TypeId × Value → H) :
    ReturnsInHanded {} Try.checked os 7 .any (Rows.imageLaysSpec.pre6 enc Try.prog Try.f7 Rows.imageLaysRow.domain false) (Rows.imageLaysSpec.post enc Try.prog Try.f7 false true false false) := by
  refine returnsInHanded_of_change (C := Try.checked) own started (by kernel_rfl) Try.func7
    (ChangeSpec.witness6 (enc := enc) (C := Try.checked) false ⟨#[], #[.agg #[.int .i64 0, .int .i64 0, .slice none 0 0], .agg #[.int .i64 0, .int .i64 0], .agg (Array.replicate 64 (.int .i64 0))], []⟩ 8 (by kernel_rfl) (by kernel_rfl) (by kernel_rfl) (by kernel_rfl)) ?_
  intro W base args ds gs before hval0 hW _ _
  have hval : ∀ (j : Nat) t v, Try.f7.params[j]? = some t → args[j]? = some v → Value.okWide Try.prog W .any base t v := hval0
  have hW' := hW
  obtain ⟨p, q, hA0, hV, rfl, _, _⟩ := hW
  have hA : DataW.TrodAll enc Try.prog W 0 (fun _ => true) true Try.f7.params.toList args.toList ds p := hA0
  rw [Try.params7] at hA hval
  obtain ⟨v0, vs0, d0, ds0, p0, q0, hargs, rfl, rfl, h0, r0⟩ := trodAll_cons hA
  obtain ⟨v1, vs1, d1, ds1, p1, q1, rfl, rfl, rfl, h1, r1⟩ := trodAll_cons r0
  obtain ⟨v2, vs2, d2, ds2, p2, q2, rfl, rfl, rfl, h2, r2⟩ := trodAll_cons r1
  obtain ⟨rfl, rfl, rfl⟩ := trodAll_nil r2
  obtain rfl : args = #[v0, v1, v2] := by cases args; simp_all
  obtain ⟨rfl, rfl⟩ := trodVars_none hV
  obtain ⟨W0, H0, n0, f0, him⟩ := open_im (hval 0 24 v0 rfl rfl) h0
  obtain ⟨x, y, rfl, _, _⟩ := open_two (hval 1 25 v1 rfl rfl) h1
  obtain ⟨t, rfl, _⟩ := open_tile (hval 2 48 v2 rfl rfl) h2
  refine (lays_any him).mono fun e W' ⟨he, hg⟩ => ?_
  subst he
  exact ⟨_, rfl, law_post Try.laidOut (by kernel_rfl) rfl rfl Try.underlying4 hW' rfl hg⟩

theorem over : Rows.imageLaysRow.holds Try.pinned (OpenSpec.ofChange Rows.imageLaysSpec) :=
  OpenClaim.holds_of_wide 7 Try.f7 rfl rfl rfl rfl rfl rfl rfl ⟨rfl, rfl, rfl, rfl, rfl⟩ rfl rfl rfl rfl rfl (by kernel_rfl) Try.func7 (by kernel_rfl)
    (of_decide_eq_true (by kernel_rfl)) (by unfold Func.isWrapper; first | (rw [if_pos (by decide +kernel)]; kernel_rfl) | (rw [if_neg (by decide +kernel)]; exact ⟨rfl, rfl⟩))
    (fun os started H enc _ => lifted os started H enc)

theorem proved : Rows.ImageLaysSaid :=
  over
#print axioms proved
end Go.Proofs.Ytmckfppemhnhmaa.imageLays
