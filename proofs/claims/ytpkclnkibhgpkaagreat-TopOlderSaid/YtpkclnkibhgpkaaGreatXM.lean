/-
The operations that append and copy do what the run tells of them. Its conditions: that the tables of types tell the program's types.
-/
import Derived.Test.YtpkclnkibhgpkaaGreatXL
namespace Go.Proofs.YtpkclnkibhgpkaaGreat.Sx
open Go Go.RowKit
variable {P : Program}

theorem lenOf_sl (a : Option Addr) (n c : Nat) (w : World) : (Builtin.lenOf (.slice a n c)).run P w = .ok n w := rfl
theorem append_fit [Sh] {t t2 ty el el2 : Nat} {d : TyD} (hu : P.underlying t = some (.slice el)) (hu2 : P.underlying t2 = some (.slice el2)) (hd : TyOK P el d) {a : Addr} {n c : Nat} {a2 : Option Addr} {m c2 : Nat} {ys : Array Value} {w w' : World}
    (hle : n + m ≤ c) (hy : (Builtin.firstCells d.size m (.slice a2 m c2)).run P w = .ok ys w) (hs : (storeCells (a.add (n * d.size)) ys.toList).run P w = .ok () w') :
    (Builtin.append_ #[t, t2] ty #[.slice (some a) n c, .slice a2 m c2]).run P w = .ok (.slice (some a) (n + m) c) w' := by
  have h0 : ((#[t, t2] : Array TypeId)[0]?, (#[Value.slice (some a) n c, .slice a2 m c2] : Array Value)[0]?, (#[Value.slice (some a) n c, .slice a2 m c2] : Array Value)[1]?) = (some t, some (.slice (some a) n c), some (.slice a2 m c2)) := rfl
  have h1 : (#[t, t2] : Array TypeId)[1]? = some t2 := rfl
  unfold Builtin.append_
  simp only [h0, h1]
  rw [bind_run (run_underlying hu w)]
  simp only
  rw [bind_run (hd.size_run w)]
  rw [bind_run (run_underlying hu2 w), bind_run (Sem.run_pure _ _ _)]
  simp only [Bool.false_eq_true, if_false, Bool.not_false, if_true]
  rw [bind_run (lenOf_sl _ _ _ _), if_pos hle, bind_run hy, bind_run hs]
  rfl
theorem append_new [Sh] {t t2 ty el el2 : Nat} {d : TyD} (hu : P.underlying t = some (.slice el)) (hu2 : P.underlying t2 = some (.slice el2)) (hd : TyOK P el d) {a a2 : Option Addr} {n c m c2 : Nat} {xs ys : Array Value} {w : World}
    (hle : ¬ n + m ≤ c) (hx : ∀ W : World, W.heap = w.heap → (Builtin.firstCells d.size n (.slice a n c)).run P W = .ok xs W) (hy : ∀ W : World, W.heap = w.heap → (Builtin.firstCells d.size m (.slice a2 m c2)).run P W = .ok ys W)
    (hb1 : (n + m) * d.bytes ≤ 1000000000) (hb2 : d.bytes ≤ 1000000) (hb3 : n + m ≤ 1000000) :
    ∃ k rest, n + m ≤ k ∧ rest.size = (k - (n + m)) * d.size ∧ (Builtin.append_ #[t, t2] ty #[.slice a n c, .slice a2 m c2]).run P w = .ok (.slice (some ⟨w.heap.size, 0, none⟩) (n + m) k) (({ w with drawn := w.drawn + 1 } : World).alloc (.cells (xs ++ ys ++ rest) el)) := by
  have h0 : ((#[t, t2] : Array TypeId)[0]?, (#[Value.slice a n c, .slice a2 m c2] : Array Value)[0]?, (#[Value.slice a n c, .slice a2 m c2] : Array Value)[1]?) = (some t, some (.slice a n c), some (.slice a2 m c2)) := rfl
  have h1 : (#[t, t2] : Array TypeId)[1]? = some t2 := rfl
  obtain ⟨i, hi, hib, his⟩ := hd.info_run w
  obtain ⟨i', hi', hib', his'⟩ := hd.info_run ({ w with drawn := w.drawn + 1 } : World)
  obtain ⟨z, hz, hzr, _, hzl⟩ := hd.zero_run ({ w with drawn := w.drawn + 1 } : World)
  have hzs : z.cells.size = d.size := by have := fa2_len (hzr fun _ => none); simp at this; omega
  have hcap : ¬ Builtin.nextslicecap (n + m) c * i.bytes > 2 ^ 48 := by
    have g : ∀ r x : Nat, Builtin.growBy (n + m) r x ≤ max x (2 * (n + m) + 768) := by
      intro r
      induction r with
      | zero => intro x; simp [Builtin.growBy]; omega
      | succ r ih =>
        intro x
        simp only [Builtin.growBy]
        split
        · omega
        · have := ih (x + (x + 768) / 4); omega
    have g2 : Builtin.nextslicecap (n + m) c ≤ 2 * (n + m) + 768 := by
      unfold Builtin.nextslicecap
      split
      · omega
      · split
        · omega
        · have := g 4 c; omega
    rw [hib]
    have : Builtin.nextslicecap (n + m) c * d.bytes ≤ (2 * (n + m) + 768) * d.bytes := Nat.mul_le_mul_right _ g2
    rw [Nat.add_mul, Nat.mul_assoc] at this
    omega
  have hk : ∃ k, n + m ≤ k ∧ (choose (.appendCap (n + m) c el)).run P w = .ok k { w with drawn := w.drawn + 1 } :=
    ⟨(Question.appendCap (n + m) c el).cut (w.tape w.drawn (.appendCap (n + m) c el)), Nat.le_add_right _ _, rfl⟩
  obtain ⟨k, hk1, hk2⟩ := hk
  refine ⟨k, Builtin.zeroCells z.cells (k - (n + m)), hk1, ?_, ?_⟩
  · simp [Builtin.zeroCells, hzs]
  have hroom : (askRoom (k * i'.bytes)).run P ({ w with drawn := w.drawn + 1 } : World) = .ok () { w with drawn := w.drawn + 1 } := by
    unfold askRoom; split <;> rfl
  unfold Builtin.append_
  simp only [h0, h1]
  rw [bind_run (run_underlying hu w)]
  simp only
  rw [bind_run (hd.size_run w)]
  have hmax : ¬ (((n + m : Nat) : Int) > IntKind.i64.max ∧ (false = true ∨ i.bytes = 0)) := by simp [IntKind.max, IntKind.signed, IntKind.bits]; omega
  rw [bind_run (run_underlying hu2 w), bind_run (Sem.run_pure _ _ _)]
  simp only [Bool.false_eq_true, if_false, Bool.not_false, if_true]
  rw [bind_run (lenOf_sl _ _ _ _), if_neg hle, bind_run hi]
  simp only [Bool.false_eq_true] at hmax
  rw [if_neg hmax, bind_run hi, if_neg hcap, bind_run hk2, bind_run hi', bind_run hroom, bind_run (hx { w with drawn := w.drawn + 1 } rfl), bind_run (hy { w with drawn := w.drawn + 1 } rfl), bind_run hz]
  rfl
end Go.Proofs.YtpkclnkibhgpkaaGreat.Sx
