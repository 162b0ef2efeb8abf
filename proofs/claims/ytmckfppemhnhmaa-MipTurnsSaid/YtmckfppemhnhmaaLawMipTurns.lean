/- MipTurns: the half of an image, columns as rows, is its half, columns as rows, and the last of a flat image's halves is one texel of its colour; every input, no condition. -/
import Derived.Test.YtmckfppemhnhmaaMR
import Derived.Test.YtmckfppemhnhmaaMS
import Derived.Test.YtmckfppemhnhmaaS
namespace Go.Proofs.Ytmckfppemhnhmaa.mipTurns
open Go.ChangeShapes Go.WideShapes Go.ChangeAt Go.RowKit

theorem own : ownKnob Try.prog.godebug = none := by kernel_rfl
theorem mturn_any {W H : Int} {n : Nat} {f t : Nat → Int} {v : Value} {w : World} (hv : Im w v W H n f) :
    Calls Try.prog 9 #[v, tx t] w fun e w' => e = .returned (.bool true) ∧ Below w.heap.size w w' := by
  by_cases h : (lightV W H n && rightV W H n) = true
  · simp only [Bool.and_eq_true] at h
    have hws : 1 ≤ W ∧ 1 ≤ H := by have := h.2; unfold rightV at this; simp at this; omega
    obtain ⟨a, rfl⟩ : ∃ a : Nat, W = (a : Int) := ⟨W.toNat, by omega⟩
    obtain ⟨b, rfl⟩ : ∃ b : Nat, H = (b : Int) := ⟨H.toNat, by omega⟩
    exact mturn_yes hv h.1 h.2
  · obtain ⟨ao, cap, rfl, _, _, _⟩ := hv
    exact mturn_no (by simpa using h)

set_option maxRecDepth 100000 in
theorem lifted (os : Os) (started : os.Started) (H : Type) (enc : TypeId × Value → H) :
    ReturnsInHanded {} Try.checked os 9 .any (Rows.mipTurnsSpec.pre6 enc Try.prog Try.f9 Rows.mipTurnsRow.domain false) (Rows.mipTurnsSpec.post enc Try.prog Try.f9 false true false false) := by
  refine returnsInHanded_of_change (C := Try.checked) own started (by kernel_rfl) Try.func9
    (ChangeSpec.witness6 (enc := enc) (C := Try.checked) false ⟨#[], #[.agg #[.int .i64 0, .int .i64 0, .slice none 0 0], .agg #[.int .i64 0, .int .i64 0, .int .i64 0, .int .i64 0]], []⟩ 8 (by kernel_rfl) (by kernel_rfl) (by kernel_rfl) (by kernel_rfl)) ?_
  intro W base args ds gs before hval0 hW _ _
  have hval : ∀ (j : Nat) t v, Try.f9.params[j]? = some t → args[j]? = some v → Value.okWide Try.prog W .any base t v := hval0
  have hW' := hW
  obtain ⟨p, q, hA0, hV, rfl, _, _⟩ := hW
  have hA : DataW.TrodAll enc Try.prog W 0 (fun _ => true) true Try.f9.params.toList args.toList ds p := hA0
  rw [Try.params9] at hA hval
  obtain ⟨v0, vs0, d0, ds0, p0, q0, hargs, rfl, rfl, h0, r0⟩ := trodAll_cons hA
  obtain ⟨v1, vs1, d1, ds1, p1, q1, rfl, rfl, rfl, h1, r1⟩ := trodAll_cons r0
  obtain ⟨rfl, rfl, rfl⟩ := trodAll_nil r1
  obtain rfl : args = #[v0, v1] := by cases args; simp_all
  obtain ⟨rfl, rfl⟩ := trodVars_none hV
  obtain ⟨W0, H0, n0, f0, him⟩ := open_im (hval 0 24 v0 rfl rfl) h0
  obtain ⟨t0, rfl⟩ := open_tx (hval 1 38 v1 rfl rfl) h1
  refine (mturn_any him).mono fun e W' ⟨he, hg⟩ => ?_
  subst he
  exact ⟨_, rfl, law_post Try.laidOut (by kernel_rfl) rfl rfl Try.underlying4 hW' rfl hg⟩

theorem over : Rows.mipTurnsRow.holds Try.pinned (OpenSpec.ofChange Rows.mipTurnsSpec) :=
  OpenClaim.holds_of_wide 9 Try.f9 rfl rfl rfl rfl rfl rfl rfl ⟨rfl, rfl, rfl, rfl, rfl⟩ rfl rfl rfl rfl rfl (by kernel_rfl) Try.func9 (by kernel_rfl)
    (of_decide_eq_true (by kernel_rfl)) (by unfold Func.isWrapper; first | (rw [if_pos (by decide +kernel)]; kernel_rfl) | (rw [if_neg (by decide +kernel)]; exact ⟨rfl, rfl⟩))
    (fun os started H enc _ => lifted os started H enc)

theorem proved : Rows.MipTurnsSaid :=
  over
#print axioms proved
end Go.Proofs.Ytmckfppemhnhmaa.mipTurns
