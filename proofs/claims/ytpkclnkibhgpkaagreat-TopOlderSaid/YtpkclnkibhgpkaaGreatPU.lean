/-
The surfaces of a texture: the row that they lie in. Its conditions: none but what is told of each surface.
-/
import Derived.Test.YtpkclnkibhgpkaaGreatPT
namespace Go.Proofs.YtpkclnkibhgpkaaGreat
open Go.RowKit
attribute [local irreducible] agOf
/-- the cells of k surfaces -/
def scells (X Y : Nat → Int) (M GP CP : Nat → Nat) : Nat → List Value
  | 0 => []
  | k + 1 => scells X Y M GP CP k ++ [.int .i64 (X k), .int .i64 (Y k), .slice (some ⟨GP k, 0, none⟩) (M k) (CP k)]
theorem scells_len (X Y : Nat → Int) (M GP CP : Nat → Nat) : ∀ k, (scells X Y M GP CP k).length = k * 3
  | 0 => rfl
  | k + 1 => by rw [scells, List.length_append, scells_len X Y M GP CP k]; simp; omega
theorem scells_congr {X Y : Nat → Int} {M GP CP GP' CP' : Nat → Nat} : ∀ k, (∀ i, i < k → GP i = GP' i ∧ CP i = CP' i) → scells X Y M GP CP k = scells X Y M GP' CP' k
  | 0, _ => rfl
  | k + 1, h => by rw [scells, scells, scells_congr k fun i hi => h i (by omega), (h k (by omega)).1, (h k (by omega)).2]
theorem scells_at (X Y : Nat → Int) (M GP CP : Nat → Nat) : ∀ k i, i < k → (scells X Y M GP CP k)[i * 3]? = some (.int .i64 (X i)) ∧ (scells X Y M GP CP k)[i * 3 + 1]? = some (.int .i64 (Y i)) ∧ (scells X Y M GP CP k)[i * 3 + 2]? = some (.slice (some ⟨GP i, 0, none⟩) (M i) (CP i))
  | 0, i, h => by omega
  | k + 1, i, h => by
    have hl := scells_len X Y M GP CP k
    by_cases e : i = k
    · subst e
      refine ⟨?_, ?_, ?_⟩ <;> rw [scells, List.getElem?_append_right (by omega), hl]
      · rw [Nat.sub_self]; rfl
      · rw [Nat.add_sub_cancel_left]; rfl
      · rw [Nat.add_sub_cancel_left]; rfl
    · obtain ⟨h0, h1, h2⟩ := scells_at X Y M GP CP k i (by omega)
      refine ⟨?_, ?_, ?_⟩ <;> rw [scells, List.getElem?_append_left (by omega)] <;> assumption
/-- a row of k surfaces of the call's own, with their texels -/
def Surs (w : World) (B : Nat) (v : Value) (k : Nat) (X Y : Nat → Int) (M : Nat → Nat) (F : Nat → Nat → Int) : Prop :=
  ∃ GP CP : Nat → Nat, w.ownsRow B 47 3 v k (scells X Y M GP CP k) ∧ ∀ i, i < k → B ≤ GP i ∧ v.ownBlock ≠ some (GP i) ∧ Bk w (GP i) (M i * 4) (F i) ∧ GP i < w.heap.size
theorem Surs.nil (w : World) (B : Nat) (X Y : Nat → Int) (M : Nat → Nat) (F : Nat → Nat → Int) : Surs w B (.slice none 0 0) 0 X Y M F := ⟨fun _ => 0, fun _ => 0, World.ownsRow_nil _ _ _ _, fun i h => by omega⟩
theorem Surs.below {w w' : World} {B : Nat} {v : Value} {k : Nat} {X Y : Nat → Int} {M : Nat → Nat} {F : Nat → Nat → Int} (h : Surs w B v k X Y M F) (hb : Below w.heap.size w w') : Surs w' B v k X Y M F := by
  obtain ⟨GP, CP, h1, h2⟩ := h
  refine ⟨GP, CP, own_of h1 (fun r _ hr => hb.block r ?_), fun i hi => ?_⟩
  · exact (h1.lt r hr).2
  · obtain ⟨a, b, c, d⟩ := h2 i hi
    exact ⟨a, b, c.below hb d, Nat.lt_of_lt_of_le d hb.size⟩
theorem Surs.snoc {w w' : World} {B g cap k gp cp : Nat} {v : Value} {X Y : Nat → Int} {M GP CP : Nat → Nat} {F : Nat → Nat → Int} (h2 : ∀ i, i < k → B ≤ GP i ∧ v.ownBlock ≠ some (GP i) ∧ Bk w (GP i) (M i * 4) (F i) ∧ GP i < w.heap.size)
    (own : w'.ownsRow B 47 3 (.slice (some ⟨g, 0, none⟩) (k + 1) cap) (k + 1) (scells X Y M GP CP k ++ [.int .i64 (X k), .int .i64 (Y k), .slice (some ⟨gp, 0, none⟩) (M k) cp])) (hg : w.grownBy w' v.ownBlock) (hat : v.ownBlock = some g ∨ w.heap.size ≤ g)
    (p1 : B ≤ gp) (p2 : v.ownBlock ≠ some gp) (p3 : Bk w gp (M k * 4) (F k)) (p4 : gp < w.heap.size) : Surs w' B (.slice (some ⟨g, 0, none⟩) (k + 1) cap) (k + 1) X Y M F := by
  have key : ∀ q n f, q < w.heap.size → v.ownBlock ≠ some q → Bk w q n f → Bk w' q n f := fun q n f hq hv hb j hj => by
    have e := cell_alike (hg.block q hq (fun e => hv e.symm)) ⟨q, j, none⟩ rfl
    exact ⟨e.1.trans (hb j hj).1, e.2.trans (hb j hj).2⟩
  have kg : ∀ q, q < w.heap.size → v.ownBlock ≠ some q → (Value.slice (some ⟨g, 0, none⟩) (k + 1) cap).ownBlock ≠ some q := fun q hq hv e => by
    simp [Value.ownBlock] at e
    subst e
    rcases hat with h | h
    · exact hv h
    · omega
  refine ⟨fun i => if i = k then gp else GP i, fun i => if i = k then cp else CP i, ?_, fun i hi => ?_⟩
  · rw [scells, ← scells_congr (GP := GP) (CP := CP) k fun i hi => ⟨by rw [if_neg (by omega)], by rw [if_neg (by omega)]⟩]
    simp only [if_true]
    exact own
  · by_cases e : i = k
    · subst e
      simp only [if_true]
      exact ⟨p1, kg _ p4 p2, key _ _ _ p4 p2 p3, Nat.lt_of_lt_of_le p4 hg.size⟩
    · obtain ⟨a, b, c, d⟩ := h2 i (by omega)
      simp only [if_neg e]
      exact ⟨a, kg _ d b, key _ _ _ d b c, Nat.lt_of_lt_of_le d hg.size⟩
end Go.Proofs.YtpkclnkibhgpkaaGreat
