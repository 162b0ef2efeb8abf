import Derived.Test.YtmckfppemhnhmaaMG
import Derived.Test.YtmckfppemhnhmaaMD
namespace Go.Proofs.Ytmckfppemhnhmaa
open Go.RowKit

def chN (W H : Int) (i : Nat) : Nat := (4 * hk i W * hk i H).toNat
def chF (W H : Int) (f : Nat → Int) : Nat → Nat → Int
  | 0 => f
  | i + 1 => halfF (hk i W) (hk i H) (chF W H f i)
theorem chF_bd {W H : Int} {f : Nat → Int} (hf : ∀ i, 0 ≤ f i ∧ f i ≤ 255) : ∀ i j, 0 ≤ chF W H f i j ∧ chF W H f i j ≤ 255
  | 0 => hf
  | i + 1 => halfF_bd (chF_bd hf i)
theorem hk_4096 {W : Int} (h : 1 ≤ W ∧ W ≤ 4096) (i : Nat) : 1 ≤ hk i W ∧ hk i W ≤ 4096 := ⟨hk_pos h.1 i, Int.le_trans (hk_le h.1 i) h.2⟩
theorem chN_ok {W H : Int} (hW : 1 ≤ W ∧ W ≤ 4096) (hH : 1 ≤ H ∧ H ≤ 4096) (i : Nat) : rightV (hk i W) (hk i H) (chN W H i) = true ∧ 0 < chN W H i ∧ chN W H i ≤ 67108864 := by
  have a := hk_4096 hW i
  have b := hk_4096 hH i
  have hb := area_bd (W := hk i W) (H := hk i H) ⟨a.1, b.1, a.2, b.2⟩
  have := Int.mul_pos (show 0 < 4 * hk i W by omega) (show 0 < hk i H by omega)
  unfold chN rightV
  refine ⟨?_, by omega, by omega⟩
  simp
  omega
theorem lv_le : ∀ (f : Nat) (w h : Int), lv f w h ≤ f
  | 0, _, _ => Nat.le_refl _
  | f + 1, w, h => by
    rw [lv]
    split
    · have := lv_le f (halfV w) (halfV h); omega
    · omega
theorem levels_le {W H : Int} (hW : 1 ≤ W) (hH : 1 ≤ H) : levelsV W H ≤ W + H := by
  unfold levelsV
  rw [if_neg (by omega)]
  have := lv_le (W + H).toNat W H
  omega

theorem Try.info24 : (Try.prog.info? 24).map (fun i => (i.zero, i.size, i.bytes)) = some (some (.agg Z3), 3, 40) := by kernel_rfl
/-- one image of a row of images: what its cells hold, and its bytes, in a block that is not the row's -/
def ElB (W H : Int) (f : Nat → Int) (w : World) (g : Nat) (L : List Value) (i : Nat) : Prop :=
  ∃ b off cp, L[i * 3]? = some (.int .i64 (hk i W)) ∧ L[i * 3 + 1]? = some (.int .i64 (hk i H)) ∧ L[i * 3 + 2]? = some (.slice (some ⟨b, off, none⟩) (chN W H i) cp) ∧ b ≠ g ∧
    ∀ j, j < chN W H i → w.cell? ⟨b, off + j, none⟩ = some (.int .u8 (chF W H f i j))
theorem ElB.below {W H : Int} {f : Nat → Int} {w w' : World} {g i : Nat} {L : List Value} (h : ElB W H f w g L i) (hb : Below w.heap.size w w') : ElB W H f w' g L i := by
  obtain ⟨b, off, cp, h1, h2, h3, h4, h5⟩ := h
  exact ⟨b, off, cp, h1, h2, h3, h4, fun j hj => (hb.cell (World.block_lt_of_cell? w _ (h5 j hj))).trans (h5 j hj)⟩
theorem ElB.grown {W H : Int} {f : Nat → Int} {w w' : World} {g g' i : Nat} {L M : List Value} (h : ElB W H f w g L i) (hg : w.grownBy w' (some g)) (hi : i * 3 + 3 ≤ L.length) (h0 : 0 < chN W H i) (hgg : g' = g ∨ w.heap.size ≤ g') : ElB W H f w' g' (L ++ M) i := by
  obtain ⟨b, off, cp, h1, h2, h3, h4, h5⟩ := h
  have hbl : b < w.heap.size := World.block_lt_of_cell? w _ (h5 0 h0)
  refine ⟨b, off, cp, ?_, ?_, ?_, by rcases hgg with rfl | hgg <;> omega, fun j hj => hg.cell (h5 j hj) (by simpa using h4)⟩
  · rw [List.getElem?_append_left (by omega)]; exact h1
  · rw [List.getElem?_append_left (by omega)]; exact h2
  · rw [List.getElem?_append_left (by omega)]; exact h3
/-- the new one -/
theorem ElB.new {W H : Int} {f : Nat → Int} {w : World} {g i b cp : Nat} {L : List Value} (hL : L.length = i * 3) (hb : b ≠ g) (hc : Cl w b 0 (chN W H i) (chF W H f i)) :
    ElB W H f w g (L ++ [.int .i64 (hk i W), .int .i64 (hk i H), .slice (some ⟨b, 0, none⟩) (chN W H i) cp]) i := by
  refine ⟨b, 0, cp, ?_, ?_, ?_, hb, fun j hj => (hc j hj).1⟩
  · rw [List.getElem?_append_right (by omega), hL]; simp
  · rw [List.getElem?_append_right (by omega), hL]; simp
  · rw [List.getElem?_append_right (by omega), hL]; simp

/-- a row of m images, each half the one before -/
def Ch (w : World) (v : Value) (m : Nat) (W H : Int) (f : Nat → Int) : Prop :=
  ∃ g cap, v = .slice (some ⟨g, 0, none⟩) m cap ∧ ∀ i, i < m → ∃ ao cp, w.cell? ⟨g, i * 3, none⟩ = some (.int .i64 (hk i W)) ∧ w.cell? ⟨g, i * 3 + 1, none⟩ = some (.int .i64 (hk i H)) ∧ w.cell? ⟨g, i * 3 + 2, none⟩ = some (.slice ao (chN W H i) cp) ∧
    Im w (.agg #[.int .i64 (hk i W), .int .i64 (hk i H), .slice ao (chN W H i) cp]) (hk i W) (hk i H) (chN W H i) (chF W H f i)
theorem Ch.below {w w' : World} {v : Value} {m : Nat} {W H : Int} {f : Nat → Int} (h : Ch w v m W H f) (hb : Below w.heap.size w w') : Ch w' v m W H f := by
  obtain ⟨g, cap, rfl, h⟩ := h
  refine ⟨g, cap, rfl, fun i hi => ?_⟩
  obtain ⟨ao, cp, h1, h2, h3, h4⟩ := h i hi
  have hl := World.block_lt_of_cell? w _ h1
  exact ⟨ao, cp, (hb.cell hl).trans h1, (hb.cell (World.block_lt_of_cell? w _ h2)).trans h2, (hb.cell (World.block_lt_of_cell? w _ h3)).trans h3, h4.below hb (Nat.le_refl _)⟩
theorem ElB.im {W H : Int} {f : Nat → Int} {w : World} {g i : Nat} {L : List Value} (h : ElB W H f w g L i) (hW : 1 ≤ W ∧ W ≤ 4096) (hH : 1 ≤ H ∧ H ≤ 4096) (hf : ∀ i, 0 ≤ f i ∧ f i ≤ 255) :
    ∃ ao cp, L[i * 3]? = some (.int .i64 (hk i W)) ∧ L[i * 3 + 1]? = some (.int .i64 (hk i H)) ∧ L[i * 3 + 2]? = some (.slice ao (chN W H i) cp) ∧
      Im w (.agg #[.int .i64 (hk i W), .int .i64 (hk i H), .slice ao (chN W H i) cp]) (hk i W) (hk i H) (chN W H i) (chF W H f i) := by
  obtain ⟨b, off, cp, h1, h2, h3, _, h5⟩ := h
  have a := hk_4096 hW i
  have c := hk_4096 hH i
  have hn := (chN_ok hW hH i).2.2
  exact ⟨_, cp, h1, h2, h3, _, _, rfl, ⟨_, _, rfl, by omega, chF_bd hf i, fun _ => ⟨b, off, rfl, h5⟩⟩, by omega, by omega⟩
theorem Ch.of_own {w : World} {B g cap m : Nat} {L : List Value} {W H : Int} {f : Nat → Int} (hown : w.ownsRow B 24 3 (.slice (some ⟨g, 0, none⟩) m cap) m L) (hE : ∀ i, i < m → ElB W H f w g L i) (hW : 1 ≤ W ∧ W ≤ 4096) (hH : 1 ≤ H ∧ H ≤ 4096) (hf : ∀ i, 0 ≤ f i ∧ f i ≤ 255) :
    Ch w (.slice (some ⟨g, 0, none⟩) m cap) m W H f := by
  refine ⟨g, cap, rfl, fun i hi => ?_⟩
  obtain ⟨ao, cp, h1, h2, h3, h4⟩ := (hE i hi).im hW hH hf
  exact ⟨ao, cp, (World.ownsRow.cellAt hown _ (by omega)).trans h1, (World.ownsRow.cellAt hown _ (by omega)).trans h2, (World.ownsRow.cellAt hown _ (by omega)).trans h3, h4⟩

def chainOk (W H : Int) (n : Nat) (many : Int) : Bool := rightV W H n && decide (1 ≤ many) && decide (many ≤ levelsV W H)
def chainP (W H : Int) (n : Nat) (f : Nat → Int) (many : Int) (w : World) (e : Ending) (w' : World) : Prop :=
  ∃ v, e = .returned (.tuple #[v, .int .i64 (if chainOk W H n many then 0 else 1)]) ∧ (if chainOk W H n many then Ch w' v many.toNat W H f else v = .slice none 0 0) ∧ Below w.heap.size w w'
end Go.Proofs.Ytmckfppemhnhmaa
