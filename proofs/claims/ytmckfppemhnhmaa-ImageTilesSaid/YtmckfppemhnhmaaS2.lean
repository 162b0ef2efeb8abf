import Derived.Test.YtmckfppemhnhmaaS
import Derived.Test.YtmckfppemhnhmaaW
import Derived.Deep.Slices
namespace Go.Proofs.Ytmckfppemhnhmaa
open Go.ChangeShapes Go.WideShapes Go.ChangeAt Go.RowKit

def intCell (w : World) (a : Addr) : Int := match w.cell? a with | some (.int _ x) => x | _ => 0
/-- an argument that is a slice of tiles -/
theorem open_tiles {H : Type} {enc : TypeId × Value → H} {W : World} {base : Nat} {sp : Nat → Bool} {held : Bool} {v : Value} {d : DataW H} {p : List MemPlace}
    (hv : Value.okWide Try.prog W .any base 46 v) (h : DataW.Trod enc Try.prog W 0 sp held 46 v d p) : ∃ m T, Tl W v m T := by
  have hcs := okWide_slice Try.underlying46 hv
  obtain ⟨ao, n, c, rfl⟩ := hcs
  obtain ⟨fuel, hf⟩ := h
  have hf' : DataW.trod enc Try.prog W 0 sp held fuel 46 [.slice ao n c] = some (d, p) := by simpa [Value.cells] using hf
  rcases Go.Deep.open_slice Try.underlying46 hf' with ⟨hcs, _⟩ | ⟨a, len, cap, m, q, D, Pl, hcs, _, hl, hm, hmm, _, hi⟩
  · simp at hcs
    obtain ⟨rfl, rfl, rfl⟩ := hcs
    exact ⟨0, fun _ _ => 0, _, _, rfl, by omega, fun h => by omega⟩
  · simp at hcs
    obtain ⟨rfl, rfl, rfl⟩ := hcs
    unfold maxLen at hm
    have hnm : n ≤ m := by rw [hmm]; split <;> omega
    have key : ∀ i j, i < n → j < 64 → W.cell? (a.add (i * 64 + j)) = some (.int .i64 (intCell W (a.add (i * 64 + j)))) := fun i j hin hj => by
      obtain ⟨cs', hc, ht⟩ := hi i (by omega)
      rw [Try.cells48] at hc
      obtain ⟨_, hcl, hat⟩ := World.cells?_some hc
      obtain ⟨_, h2⟩ := I48 H enc W 0 sp held q cs' _ ht
      obtain ⟨x, hx, _⟩ := h2 j (by omega)
      have h1 := hat j hj
      rw [Go.Deep.add_add, hx] at h1
      unfold intCell
      rw [h1]
    refine ⟨n, fun i j => intCell W (a.add (i * 64 + j)), some a, c, rfl, by omega, fun h0 => ?_⟩
    obtain ⟨b, off, rfl, hb⟩ := ints_at (w := W) (a := a) (k := .i64) (zs := (List.range (n * 64)).map fun i => intCell W (a.add i)) (fun i hi => by
      simp only [List.length_map, List.length_range] at hi
      have := key (i / 64) (i % 64) (by omega) (by omega)
      rw [show i / 64 * 64 + i % 64 = i by omega] at this
      rw [this]
      simp [hi]) (by simp; omega)
    refine ⟨b, off, rfl, fun i j hin hj => ?_⟩
    have := hb (i * 64 + j) (by simp; omega)
    rw [← Nat.add_assoc] at this
    rw [this]
    have hlt : i * 64 + j < n * 64 := by omega
    simp [hlt]
end Go.Proofs.Ytmckfppemhnhmaa
