/- ImageTiles: any tile of any image, the image with any tile there, and the image of any tiles; every input, no condition. -/
import Derived.Test.YtmckfppemhnhmaaZC
import Derived.Test.YtmckfppemhnhmaaS2
namespace Go.Proofs.Ytmckfppemhnhmaa.imageTiles
open Go.ChangeShapes Go.WideShapes Go.ChangeAt Go.RowKit

theorem own : ownKnob Try.prog.godebug = none := by kernel_rfl
theorem tilels_any {W H x y : Int} {n m : Nat} {f : Nat → Int} {v l : Value} {T : Nat → Nat → Int} {w : World} (hv : Im w v W H n f) (hl : Tl w l m T) :
    Calls Try.prog 8 #[v, .agg #[.int .i64 x, .int .i64 y], l] w fun e w' => e = .returned (.bool true) ∧ Below w.heap.size w w' := by
  by_cases h : (lightV W H n && decide (m ≤ 80)) = true
  · simp only [Bool.and_eq_true, decide_eq_true_eq] at h
    exact tilel_yes hv hl h.1 h.2
  · obtain ⟨ao, cap, rfl, _, _, _⟩ := hv
    obtain ⟨al, cl, rfl, hm, _⟩ := hl
    exact tilel_no (by simpa using h) hm

set_option maxRecDepth 100000 in
theorem lifted (os : Os) (started : os.Started) (H : Type) (enc : TypeId × Value → H) :
    ReturnsInHanded {} Try.checked os 8 .any (Rows.imageTilesSpec.pre6 enc Try.prog Try.f8 Rows.imageTilesRow.domain false) (Rows.imageTilesSpec.post enc Try.prog Try.f8 false true false false) := by
  refine returnsInHanded_of_change (C := Try.checked) own started (by kernel_rfl) Try.func8
    (ChangeSpec.witness6 (enc := enc) (C := Try.checked) false ⟨#[], #[.agg #[.int .i64 0, .int .i64 0, .slice none 0 0], .agg #[.int .i64 0, .int .i64 0], .slice none 0 0], []⟩ 8 (by kernel_rfl) (by kernel_rfl) (by kernel_rfl) (by kernel_rfl)) ?_
  intro W base args ds gs before hval0 hW _ _
  have hval : ∀ (j : Nat) t v, Try.f8.params[j]? = some t → args[j]? = some v → Value.okWide Try.prog W .any base t v := hval0
  have hW' := hW
  obtain ⟨p, q, hA0, hV, rfl, _, _⟩ := hW
  have hA : DataW.TrodAll enc Try.prog W 0 (fun _ => true) true Try.f8.params.toList args.toList ds p := hA0
  rw [Try.params8] at hA hval
  obtain ⟨v0, vs0, d0, ds0, p0, q0, hargs, rfl, rfl, h0, r0⟩ := trodAll_cons hA
  obtain ⟨v1, vs1, d1, ds1, p1, q1, rfl, rfl, rfl, h1, r1⟩ := trodAll_cons r0
  obtain ⟨v2, vs2, d2, ds2, p2, q2, rfl, rfl, rfl, h2, r2⟩ := trodAll_cons r1
  obtain ⟨rfl, rfl, rfl⟩ := trodAll_nil r2
  obtain rfl : args = #[v0, v1, v2] := by cases args; simp_all
  obtain ⟨rfl, rfl⟩ := trodVars_none hV
  obtain ⟨W0, H0, n0, f0, him⟩ := open_im (hval 0 24 v0 rfl rfl) h0
  obtain ⟨x, y, rfl, _, _⟩ := open_two (hval 1 25 v1 rfl rfl) h1
  obtain ⟨m0, T0, htl⟩ := open_tiles (hval 2 46 v2 rfl rfl) h2
  refine (tilels_any him htl).mono fun e W' ⟨he, hg⟩ => ?_
  subst he
  exact ⟨_, rfl, law_post Try.laidOut (by kernel_rfl) rfl rfl Try.underlying4 hW' rfl hg⟩

theorem over : Rows.imageTilesRow.holds Try.pinned (OpenSpec.ofChange Rows.imageTilesSpec) :=
  OpenClaim.holds_of_wide 8 Try.f8 rfl rfl rfl rfl rfl rfl rfl ⟨rfl, rfl, rfl, rfl, rfl⟩ rfl rfl rfl rfl rfl (by kernel_rfl) Try.func8 (by kernel_rfl)
    (of_decide_eq_true (by kernel_rfl)) (by unfold Func.isWrapper; first | (rw [if_pos (by decide +kernel)]; kernel_rfl) | (rw [if_neg (by decide +kernel)]; exact ⟨rfl, rfl⟩))
    (fun os started H enc _ => lifted os started H enc)

theorem proved : Rows.ImageTilesSaid :=
  over
#print axioms proved
end Go.Proofs.Ytmckfppemhnhmaa.imageTiles
