import Derived.Test.YtpkclnkibhgpkaaGreatPF
import Derived.Test.YtpkclnkibhgpkaaGreatPG
namespace Go.Proofs.YtpkclnkibhgpkaaGreat
open Go.RowKit

/-- the texels of so many levels: their number, and an error -/
def texK (W H : Int) : Nat → Int × Int
  | 0 => (0, 0)
  | k + 1 => if (texK W H k).2 ≠ 0 then texK W H k else
      if (timesV (sideV W k) (sideV H k)).2 ≠ 0 then (0, (timesV (sideV W k) (sideV H k)).2) else sumV (texK W H k).1 (timesV (sideV W k) (sideV H k)).1
/-- of all -/
def texV (W H L F n : Int) : Int × Int :=
  if W < 1 ∨ H < 1 ∨ L < 1 ∨ F < 1 ∨ n < 1 then (0, 1) else
  let real := min n (levelsV W H)
  let a := texK W H real.toNat
  if a.2 ≠ 0 then (0, a.2) else
  let b := sumV a.1 (min (n - real) 2147483647)
  if b.2 ≠ 0 then (0, b.2) else
  let c := timesV b.1 F
  if c.2 ≠ 0 then (0, c.2) else timesV c.1 L
/-- the least of five -/
def min5 (a b c d e : Int) : Int := [b, c, d, e].foldl (fun x y => if y < x then y else x) a
theorem run_min5 {P : Program} (a b c d e : Int) (ts : Array TypeId) (ty : TypeId) (w : World) : (Builtin.min_ ts ty #[.int .i64 a, .int .i64 b, .int .i64 c, .int .i64 d, .int .i64 e]).run P w = .ok (.int .i64 (min5 a b c d e)) w := by
  simp [Builtin.min_, Builtin.min2, min5, List.foldlM]
theorem min5_lt (a b c d e : Int) : min5 a b c d e < 1 ↔ (a < 1 ∨ b < 1 ∨ c < 1 ∨ d < 1 ∨ e < 1) := by
  simp only [min5, List.foldl]
  repeat' split
  all_goals omega
end Go.Proofs.YtpkclnkibhgpkaaGreat
