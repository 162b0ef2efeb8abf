import Derived.Test.YtcppnangooldoaaI
import Derived.Test.YtcppnangooldoaaJ
namespace Go.Proofs.Ytcppnangooldoaa
open Go.ChangeShapes Go.WideShapes Go.ChangeAt Go.RowKit

theorem open_arg {H : Type} {enc : TypeId × Value → H} {W : World} {base : Nat} {sp : Nat → Bool} {v : Value} {d : DataW H} {p : List MemPlace}
    (hv : Value.okWide Try.prog W .any base 27 v) (h : DataW.Trod enc Try.prog W 0 sp true 27 v d p) : ∃ n f, Arg W v n f := by
  obtain ⟨ao, len, cap, rfl⟩ := okWide_slice Try.underlying27 hv
  obtain ⟨fuel, hf⟩ := h
  rcases open_ints Try.underlying27 Try.underlying5 Try.cells5 hf with ⟨hcs, hx⟩ | ⟨a, len', cap', zs, hcs, _, hl, hm, hz, hx, hcell, hwz⟩
  · simp [Value.cells] at hcs
    obtain ⟨rfl, rfl, rfl⟩ := hcs
    exact ⟨0, fun _ => 0, _, _, rfl, by omega, by omega, fun _ => ⟨rfl, rfl⟩, fun _ => ⟨Int.le_refl _, (by decide : (0 : Int) ≤ 255)⟩, fun h => by omega⟩
  · simp [Value.cells] at hcs
    obtain ⟨rfl, rfl, rfl⟩ := hcs
    unfold maxLen at hm
    have hzl : len ≤ zs.length := by rw [hz]; split <;> omega
    refine ⟨len, fun i => zs[i]?.getD 0, some a, cap, rfl, hl, by omega, fun h => (by cases h), range_u8 hwz, fun h0 => ?_⟩
    obtain ⟨b, off, rfl, hc⟩ := ints_at hcell (by omega)
    exact ⟨b, off, rfl, fun i hi => by have := hc i (by omega); simpa using this⟩
end Go.Proofs.Ytcppnangooldoaa
