import Derived.Test.YtmckfppemhnhmaaI
import Derived.Test.YtmckfppemhnhmaaPost
import Derived.Deep.Strs
namespace Go.Proofs.Ytmckfppemhnhmaa
open Go.ChangeShapes Go.WideShapes Go.ChangeAt Go.RowKit

theorem Try.cells3 : Try.prog.cellsOf 3 = 1 := by kernel_rfl
theorem Try.cells5 : Try.prog.cellsOf 5 = 1 := by kernel_rfl
theorem Try.cells22 : Try.prog.cellsOf 22 = 1 := by kernel_rfl
theorem Try.cells24 : Try.prog.cellsOf 24 = 3 := by kernel_rfl
theorem Try.cells41 : Try.prog.cellsOf 41 = 6 := by kernel_rfl
theorem Try.cells25 : Try.prog.cellsOf 25 = 2 := by kernel_rfl
theorem Try.cells38 : Try.prog.cellsOf 38 = 4 := by kernel_rfl
theorem Try.cells48 : Try.prog.cellsOf 48 = 64 := by kernel_rfl
theorem Try.laidOut : laidOutB Try.prog = true := by kernel_rfl

theorem rd_of_cells {H : Type} {enc : TypeId × Value → H} {W : World} {base : Nat} {sp : Nat → Bool} {held : Bool} {fuel : Nat} {c : Value} {x : DataW H × List MemPlace}
    (hf : DataW.trod enc Try.prog W base sp held fuel 22 [c] = some x) : ∃ n f, Rd W c n f := by
  rcases open_ints Try.underlying22 Try.underlying5 Try.cells5 hf with ⟨hcs, hx⟩ | ⟨a, len', cap', zs, hcs, _, hl, hm, hz, hx, hcell, hwz⟩
  · simp at hcs
    subst hcs
    exact ⟨0, fun _ => 0, Rd.nil W⟩
  · simp at hcs
    subst hcs
    unfold maxLen at hm
    have hzl : len' ≤ zs.length := by rw [hz]; split <;> omega
    refine ⟨len', fun i => zs[i]?.getD 0, some a, cap', rfl, by omega, range_u8 hwz, fun h0 => ?_⟩
    obtain ⟨b, off, rfl, hc⟩ := ints_at hcell (by omega)
    exact ⟨b, off, rfl, fun i hi => by have := hc i (by omega); simpa using this⟩

theorem im_of_cells {H : Type} {enc : TypeId × Value → H} {W : World} {base : Nat} {sp : Nat → Bool} {held : Bool} {fuel : Nat} {cs : List Value} {x : DataW H × List MemPlace}
    (hf : DataW.trod enc Try.prog W base sp held fuel 24 cs = some x) : ∃ W0 H0 ao n cap f, cs = [.int .i64 W0, .int .i64 H0, .slice ao n cap] ∧ Im W (.agg #[.int .i64 W0, .int .i64 H0, .slice ao n cap]) W0 H0 n f := by
  obtain ⟨y0, y1, y2, m, _, hl, t0, t1, t2⟩ := Go.Deep.trod_struct3 Try.underlying24 hf
  rw [Try.cells24] at hl
  match cs, hl with
  | [c0, c1, c2], _ =>
    simp [Try.cells3, Try.cells22] at t0 t1 t2
    obtain ⟨W0, e0, _, w0⟩ := DataW.trod_int Try.underlying3 t0
    obtain ⟨H0, e1, _, w1⟩ := DataW.trod_int Try.underlying3 t1
    simp at e0 e1
    subst e0 e1
    obtain ⟨n, f, hr⟩ := rd_of_cells t2
    have hr2 := hr
    obtain ⟨ao, cap, rfl, _⟩ := hr
    exact ⟨W0, H0, ao, n, cap, f, rfl, ao, cap, rfl, hr2, bounds_i64 w0, bounds_i64 w1⟩

/-- an argument that is an image -/
theorem open_im {H : Type} {enc : TypeId × Value → H} {W : World} {base : Nat} {sp : Nat → Bool} {held : Bool} {v : Value} {d : DataW H} {p : List MemPlace}
    (hv : Value.okWide Try.prog W .any base 24 v) (h : DataW.Trod enc Try.prog W 0 sp held 24 v d p) : ∃ W0 H0 n f, Im W v W0 H0 n f := by
  have hcs : ∃ cs, v = .agg cs := by
    unfold Value.okWide at hv
    rw [Try.underlying24] at hv
    obtain ⟨cs, h1, _⟩ := hv
    exact ⟨cs, h1⟩
  obtain ⟨⟨l⟩, rfl⟩ := hcs
  obtain ⟨fuel, hf⟩ := h
  obtain ⟨W0, H0, ao, n, cap, f, e, him⟩ := im_of_cells (cs := l) (by simpa [Value.cells] using hf)
  subst e
  exact ⟨W0, H0, n, f, him⟩

/-- an argument that is two images -/
theorem open_im2 {H : Type} {enc : TypeId × Value → H} {W : World} {base : Nat} {sp : Nat → Bool} {held : Bool} {v : Value} {d : DataW H} {p : List MemPlace}
    (hv : Value.okWide Try.prog W .any base 41 v) (h : DataW.Trod enc Try.prog W 0 sp held 41 v d p) :
    ∃ W0 H0 ao n cap f W1 H1 ao' n' cap' f', v = .agg #[.int .i64 W0, .int .i64 H0, .slice ao n cap, .int .i64 W1, .int .i64 H1, .slice ao' n' cap'] ∧
      Im W (.agg #[.int .i64 W0, .int .i64 H0, .slice ao n cap]) W0 H0 n f ∧ Im W (.agg #[.int .i64 W1, .int .i64 H1, .slice ao' n' cap']) W1 H1 n' f' := by
  have hcs : ∃ cs, v = .agg cs := by
    unfold Value.okWide at hv
    rw [Try.underlying41] at hv
    obtain ⟨cs, h1, _⟩ := hv
    exact ⟨cs, h1⟩
  obtain ⟨⟨l⟩, rfl⟩ := hcs
  obtain ⟨fuel, hf⟩ := h
  obtain ⟨xs, m, _, _, hl, hlen, hg⟩ := DataW.trod_array Try.underlying41 hf
  have g0 := hg 0 (by omega)
  have g1 := hg 1 (by omega)
  rw [Try.cells41] at hl
  match xs, hlen with
  | [y0, y1], _ =>
    simp [Try.cells24, Value.cells] at g0 g1 hl
    obtain ⟨W0, H0, ao, n, cap, f, e0, i0⟩ := im_of_cells g0
    obtain ⟨W1, H1, ao', n', cap', f', e1, i1⟩ := im_of_cells g1
    refine ⟨W0, H0, ao, n, cap, f, W1, H1, ao', n', cap', f', ?_, i0, i1⟩
    match l, hl with
    | [c0, c1, c2, c3, c4, c5], _ =>
      simp at e0 e1
      obtain ⟨rfl, rfl, rfl⟩ := e0
      obtain ⟨rfl, rfl, rfl⟩ := e1
      rfl
/-- whatever reads as a T is n ints -/
def IntT (P : Program) (T : TypeId) (n : Nat) : Prop :=
  ∀ (H : Type) (enc : TypeId × Value → H) (w : World) (base : Nat) (sp : Nat → Bool) (held : Bool) (fuel : Nat) (cs : List Value) (x : DataW H × List MemPlace), DataW.trod enc P w base sp held fuel T cs = some x →
    cs.length = n ∧ ∀ i, i < n → ∃ a : Int, cs[i]? = some (.int .i64 a) ∧ (Lit.int .i64 a).wf = true
theorem intT_int {P : Program} {T : TypeId} (h : P.underlying T = some (.int .i64)) : IntT P T 1 := by
  intro H enc w base sp held fuel cs x hx
  obtain ⟨a, rfl, _, wf⟩ := DataW.trod_int h hx
  exact ⟨rfl, fun i hi => ⟨a, by obtain rfl : i = 0 := by omega
                                 rfl, wf⟩⟩
theorem intT_array {P : Program} {T E : TypeId} {m k : Nat} (h : P.underlying T = some (.array m E)) (hE : P.cellsOf E = k) (hT : P.cellsOf T = m * k) (hk : 0 < k) (he : IntT P E k) : IntT P T (m * k) := by
  intro H enc w base sp held fuel cs x hx
  obtain ⟨xs, q, _, _, hlen, hxs, hg⟩ := DataW.trod_array h hx
  rw [hT] at hlen
  refine ⟨hlen, fun i hi => ?_⟩
  have hik : i / k < m := Nat.div_lt_of_lt_mul (by rw [Nat.mul_comm]; exact hi)
  have g := hg (i / k) hik
  rw [hE] at g
  have hsome : xs[i / k]? = some (xs[i / k]'(by omega)) := List.getElem?_eq_getElem (by omega)
  rw [hsome] at g
  obtain ⟨_, h2⟩ := he H enc w base sp held q _ _ g
  obtain ⟨a, ha, wf⟩ := h2 (i % k) (Nat.mod_lt _ hk)
  refine ⟨a, ?_, wf⟩
  rw [List.getElem?_take_of_lt (Nat.mod_lt _ hk), List.getElem?_drop] at ha
  rw [← ha]
  congr 1
  have := Nat.div_add_mod i k
  rw [Nat.mul_comm] at this
  omega

def intAt (cs : Array Value) (i : Nat) : Int := match cs[i]? with | some (.int _ a) => a | _ => 0
/-- an argument that is an array of ints, or of arrays of ints -/
theorem open_ag {P : Program} {T E : TypeId} {n m : Nat} (hu : P.underlying T = some (.array m E)) (hI : IntT P T n) {H : Type} {enc : TypeId × Value → H} {W : World} {base : Nat} {sp : Nat → Bool} {held : Bool} {v : Value} {d : DataW H} {p : List MemPlace}
    (hv : Value.okWide P W .any base T v) (h : DataW.Trod enc P W 0 sp held T v d p) :
    ∃ cs : Array Value, v = .agg cs ∧ Ag cs n (intAt cs) ∧ ∀ i, -9223372036854775808 ≤ intAt cs i ∧ intAt cs i ≤ 9223372036854775807 := by
  have hcs : ∃ cs, v = .agg cs := by
    unfold Value.okWide at hv
    rw [hu] at hv
    obtain ⟨cs, h1, _⟩ := hv
    exact ⟨cs, h1⟩
  obtain ⟨cs, rfl⟩ := hcs
  obtain ⟨fuel, hf⟩ := h
  obtain ⟨h1, h2⟩ := hI H enc W 0 sp held fuel _ _ hf
  have hsz : cs.size = n := by simpa [Value.cells] using h1
  have hat : ∀ i, i < n → cs[i]? = some (.int .i64 (intAt cs i)) ∧ (Lit.int .i64 (intAt cs i)).wf = true := by
    intro i hi
    obtain ⟨a, ha, wf⟩ := h2 i hi
    have ha' : cs[i]? = some (.int .i64 a) := by simpa [Value.cells] using ha
    unfold intAt
    rw [ha']
    exact ⟨rfl, wf⟩
  refine ⟨cs, rfl, ⟨hsz, fun i hi => (hat i hi).1⟩, fun i => ?_⟩
  by_cases hi : i < n
  · exact bounds_i64 (hat i hi).2
  · unfold intAt
    rw [Array.getElem?_eq_none (by omega)]
    exact ⟨by decide, by decide⟩

theorem ag2 {cs : Array Value} {g : Nat → Int} (h : Ag cs 2 g) : cs = #[.int .i64 (g 0), .int .i64 (g 1)] := by
  obtain ⟨l⟩ := cs
  obtain ⟨hs, ha⟩ := h
  match l, hs with
  | [c0, c1], _ =>
    have h0 := ha 0 (by omega)
    have h1 := ha 1 (by omega)
    simp at h0 h1
    rw [h0, h1]
theorem ag4 {cs : Array Value} {g : Nat → Int} (h : Ag cs 4 g) : Value.agg cs = tx g := by
  obtain ⟨l⟩ := cs
  obtain ⟨hs, ha⟩ := h
  match l, hs with
  | [c0, c1, c2, c3], _ =>
    have h0 := ha 0 (by omega)
    have h1 := ha 1 (by omega)
    have h2 := ha 2 (by omega)
    have h3 := ha 3 (by omega)
    simp at h0 h1 h2 h3
    rw [h0, h1, h2, h3]; rfl
theorem I25 : IntT Try.prog 25 (2 * 1) := intT_array Try.underlying25 Try.cells3 Try.cells25 (by omega) (intT_int Try.underlying3)
theorem I38 : IntT Try.prog 38 (4 * 1) := intT_array Try.underlying38 Try.cells3 Try.cells38 (by omega) (intT_int Try.underlying3)
theorem I48 : IntT Try.prog 48 (16 * 4) := intT_array Try.underlying48 Try.cells38 Try.cells48 (by omega) I38
theorem open_two {H : Type} {enc : TypeId × Value → H} {W : World} {base : Nat} {sp : Nat → Bool} {held : Bool} {v : Value} {d : DataW H} {p : List MemPlace}
    (hv : Value.okWide Try.prog W .any base 25 v) (h : DataW.Trod enc Try.prog W 0 sp held 25 v d p) : ∃ x y : Int, v = .agg #[.int .i64 x, .int .i64 y] ∧ (-9223372036854775808 ≤ x ∧ x ≤ 9223372036854775807) ∧ (-9223372036854775808 ≤ y ∧ y ≤ 9223372036854775807) := by
  obtain ⟨cs, rfl, ha, hb⟩ := open_ag Try.underlying25 I25 hv h
  exact ⟨_, _, congrArg Value.agg (ag2 ha), hb 0, hb 1⟩
theorem open_tx {H : Type} {enc : TypeId × Value → H} {W : World} {base : Nat} {sp : Nat → Bool} {held : Bool} {v : Value} {d : DataW H} {p : List MemPlace}
    (hv : Value.okWide Try.prog W .any base 38 v) (h : DataW.Trod enc Try.prog W 0 sp held 38 v d p) : ∃ t, v = tx t := by
  obtain ⟨cs, rfl, ha, hb⟩ := open_ag Try.underlying38 I38 hv h
  exact ⟨_, ag4 ha⟩
theorem open_tile {H : Type} {enc : TypeId × Value → H} {W : World} {base : Nat} {sp : Nat → Bool} {held : Bool} {v : Value} {d : DataW H} {p : List MemPlace}
    (hv : Value.okWide Try.prog W .any base 48 v) (h : DataW.Trod enc Try.prog W 0 sp held 48 v d p) : ∃ t, v = .agg (agOf 0 64 t) ∧ ∀ i, -9223372036854775808 ≤ t i ∧ t i ≤ 9223372036854775807 := by
  obtain ⟨cs, rfl, ha, hb⟩ := open_ag Try.underlying48 I48 hv h
  have ha' : Ag cs 64 (intAt cs) := ha
  exact ⟨intAt cs, by rw [← ha'.eq], hb⟩
end Go.Proofs.Ytmckfppemhnhmaa
