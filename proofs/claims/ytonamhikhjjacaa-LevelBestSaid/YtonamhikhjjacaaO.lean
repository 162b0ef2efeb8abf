import Derived.Test.YtonamhikhjjacaaF
import Derived.Test.YtonamhikhjjacaaT
import Derived.Test.YtonamhikhjjacaaPost
namespace Go.Proofs.Ytonamhikhjjacaa
open Go.ChangeShapes Go.WideShapes Go.ChangeAt Go.RowKit

theorem Try.cells3 : Try.prog.cellsOf 3 = 1 := by kernel_rfl
theorem Try.laidOut : laidOutB Try.prog = true := by kernel_rfl

/-- whatever reads as a T is n ints -/
def IntT (P : Program) (T : TypeId) (n : Nat) : Prop :=
  ∀ (H : Type) (enc : TypeId × Value → H) (w : World) (base : Nat) (sp : Nat → Bool) (held : Bool) (fuel : Nat) (cs : List Value) (x : DataW H × List MemPlace), DataW.trod enc P w base sp held fuel T cs = some x →
    cs.length = n ∧ ∀ i, i < n → ∃ a : Int, cs[i]? = some (.int .i64 a) ∧ (Lit.int .i64 a).wf = true
theorem intT_int {P : Program} {T : TypeId} (h : P.underlying T = some (.int .i64)) : IntT P T 1 := by
  intro H enc w base sp held fuel cs x hx
  obtain ⟨a, rfl, _, wf⟩ := DataW.trod_int h hx
  exact ⟨rfl, fun i hi => ⟨a, by obtain rfl : i = 0 := by omega
                                 rfl, wf⟩⟩
theorem intT_array {P : Program} {T E : TypeId} {m k : Nat} (h : P.underlying T = some (.array m E)) (hE : P.cellsOf E = k) (hT : P.cellsOf T = m * k) (hk : 0 < k) (he : IntT P E k) : IntT P T (m * k) := by
  intro H enc w base sp held fuel cs x hx
  obtain ⟨xs, q, _, _, hlen, hxs, hg⟩ := DataW.trod_array h hx
  rw [hT] at hlen
  refine ⟨hlen, fun i hi => ?_⟩
  have hik : i / k < m := Nat.div_lt_of_lt_mul (by rw [Nat.mul_comm]; exact hi)
  have g := hg (i / k) hik
  rw [hE] at g
  have hsome : xs[i / k]? = some (xs[i / k]'(by omega)) := List.getElem?_eq_getElem (by omega)
  rw [hsome] at g
  obtain ⟨_, h2⟩ := he H enc w base sp held q _ _ g
  obtain ⟨a, ha, wf⟩ := h2 (i % k) (Nat.mod_lt _ hk)
  refine ⟨a, ?_, wf⟩
  rw [List.getElem?_take_of_lt (Nat.mod_lt _ hk), List.getElem?_drop] at ha
  rw [← ha]
  congr 1
  have := Nat.div_add_mod i k
  rw [Nat.mul_comm] at this
  omega

def intAt (cs : Array Value) (i : Nat) : Int := match cs[i]? with | some (.int _ a) => a | _ => 0
/-- an argument that is an array of ints, or of arrays of ints -/
theorem open_ag {P : Program} {T E : TypeId} {n m : Nat} (hu : P.underlying T = some (.array m E)) (hI : IntT P T n) {H : Type} {enc : TypeId × Value → H} {W : World} {base : Nat} {sp : Nat → Bool} {held : Bool} {v : Value} {d : DataW H} {p : List MemPlace}
    (hv : Value.okWide P W .any base T v) (h : DataW.Trod enc P W 0 sp held T v d p) :
    ∃ cs : Array Value, v = .agg cs ∧ Ag cs n (intAt cs) ∧ ∀ i, -9223372036854775808 ≤ intAt cs i ∧ intAt cs i ≤ 9223372036854775807 := by
  have hcs : ∃ cs, v = .agg cs := by
    unfold Value.okWide at hv
    rw [hu] at hv
    obtain ⟨cs, h1, _⟩ := hv
    exact ⟨cs, h1⟩
  obtain ⟨cs, rfl⟩ := hcs
  obtain ⟨fuel, hf⟩ := h
  obtain ⟨h1, h2⟩ := hI H enc W 0 sp held fuel _ _ hf
  have hsz : cs.size = n := by simpa [Value.cells] using h1
  have hat : ∀ i, i < n → cs[i]? = some (.int .i64 (intAt cs i)) ∧ (Lit.int .i64 (intAt cs i)).wf = true := by
    intro i hi
    obtain ⟨a, ha, wf⟩ := h2 i hi
    have ha' : cs[i]? = some (.int .i64 a) := by simpa [Value.cells] using ha
    unfold intAt
    rw [ha']
    exact ⟨rfl, wf⟩
  refine ⟨cs, rfl, ⟨hsz, fun i hi => (hat i hi).1⟩, fun i => ?_⟩
  by_cases hi : i < n
  · exact bounds_i64 (hat i hi).2
  · unfold intAt
    rw [Array.getElem?_eq_none (by omega)]
    exact ⟨by decide, by decide⟩

/-- an argument that is a slice of ints -/
theorem ri_of_cells {H : Type} {enc : TypeId × Value → H} {W : World} {base : Nat} {sp : Nat → Bool} {held : Bool} {fuel : Nat} {c : Value} {x : DataW H × List MemPlace}
    (hf : DataW.trod enc Try.prog W base sp held fuel 25 [c] = some x) : ∃ n f, RI W c n f ∧ ∀ i, i < n → -9223372036854775808 ≤ f i ∧ f i ≤ 9223372036854775807 := by
  rcases open_ints Try.underlying25 Try.underlying3 Try.cells3 hf with ⟨hcs, hx⟩ | ⟨a, len', cap', zs, hcs, _, hl, hm, hz, hx, hcell, hwz⟩
  · simp at hcs
    subst hcs
    exact ⟨0, fun _ => 0, ⟨_, _, rfl, by omega, fun h => by omega⟩, fun i hi => by omega⟩
  · simp at hcs
    subst hcs
    unfold maxLen at hm
    have hzl : len' ≤ zs.length := by rw [hz]; split <;> omega
    refine ⟨len', fun i => zs[i]?.getD 0, ⟨_, _, rfl, by omega, fun h0 => ?_⟩, fun i _ => range_i64 hwz i⟩
    obtain ⟨b, off, rfl, hc⟩ := ints_at hcell (by omega)
    exact ⟨b, off, rfl, fun i hi => by have := hc i (by omega); simpa using this⟩
theorem open_ri {H : Type} {enc : TypeId × Value → H} {W : World} {sp : Nat → Bool} {held : Bool} {v : Value} {d : DataW H} {p : List MemPlace} {base : Nat}
    (hv : Value.okWide Try.prog W .any base 25 v) (h : DataW.Trod enc Try.prog W 0 sp held 25 v d p) : ∃ n f, RI W v n f := by
  obtain ⟨ao, len, cap, rfl⟩ := okWide_slice Try.underlying25 hv
  obtain ⟨fuel, hf⟩ := h
  obtain ⟨n, f, hr, _⟩ := ri_of_cells (c := .slice ao len cap) (by simpa [Value.cells] using hf)
  exact ⟨n, f, hr⟩
end Go.Proofs.Ytonamhikhjjacaa
