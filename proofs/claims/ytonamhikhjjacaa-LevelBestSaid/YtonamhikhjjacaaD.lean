import Derived.Test.YtonamhikhjjacaaC
namespace Go.Proofs.Ytonamhikhjjacaa
open Go.RowKit

def leastK (g : Nat → Int) : Nat → Nat × Int
  | 0 => (0, 0)
  | k + 1 => if k = 0 ∨ g k < (leastK g k).2 then (k, g k) else leastK g k

set_option maxHeartbeats 400000 in
theorem least_any (K : FuncId) (p1 p2 : Value) (g : Nat → Int) (many : Nat) (w : World) (hm : many ≤ 1000000000000)
    (hcf : ∀ (args : Array Value) (w : World), (callFunc K args).run Try.prog w = .ok (.enter K args) w)
    (H : ∀ (i : Nat) (wr : World), i < many → Dr w wr → Calls Try.prog K #[.int .i64 i, p1, p2] wr fun e w' => e = .returned (.int .i64 (g i)) ∧ Dr wr w') :
    Calls Try.prog 25 #[.int .i64 many, .func (.func K) #[] #[p1, p2]] w fun e w' => e = .returned (.int .i64 (leastK g many).1) ∧ Dr w w' := by
  have HH := hide H
  clear H
  go_enter Try.func25, Try.ntmps25
  go_wp2_with fail
  go_loopw [5, 6, 10] (fun o l i wr => ∃ k : Nat, k ≤ many ∧ i = .int .i64 k ∧ o = .int .i64 ((leastK g k).1 : Int) ∧ l = .int .i64 (leastK g k).2 ∧ Dr w wr) (fun _ _ i _ => many - (intOf i).toNat)
  case atStart => exact ⟨0, by omega, rfl, rfl, rfl, Dr.refl _⟩
  case round =>
    obtain ⟨k, hk, rfl, rfl, rfl, hdr⟩ := hrel
    obtain ⟨o, ho⟩ : ∃ o, o = leastK g k := ⟨_, rfl⟩
    rw [← ho]
    have HO := hide ho
    clear ho
    by_cases hlt : k < many
    · by_cases hz : k = 0
      · obtain rfl := hz
        have HL : Hid (leastK g 1 = (0, g 0)) := by unfold leastK; rw [if_pos (by simp)]; exact hide rfl
        go_wp2_with fail
        refine (HH.out 0 wr hlt hdr).mono ?_
        rintro e w1 ⟨rfl, hd1⟩
        have hd := hdr.trans hd1
        clear hd1 hdr
        go_wp2_with fail
        all_goals first | (exfalso; omega) | skip
        go_roundw
        case rel => exact ⟨1, by omega, by go_num, by rw [HL.out]; rfl, by rw [HL.out], hd⟩
        case measure => simp [intOf]; omega
      · have hzb : ((k : Int) == 0) = false := by simp; omega
        by_cases hc : g k < o.2
        · have HL : Hid (leastK g (k + 1) = (k, g k)) := by rw [leastK, if_pos (by rw [← HO.out]; exact Or.inr hc)]; exact hide rfl
          go_wp2_with fail
          refine (HH.out k wr hlt hdr).mono ?_
          rintro e w1 ⟨rfl, hd1⟩
          have hd := hdr.trans hd1
          clear hd1 hdr
          go_wp2_with fail
          go_roundw
          case rel => exact ⟨k + 1, by omega, by go_num, by rw [HL.out], by rw [HL.out], hd⟩
          case measure => simp [intOf]; omega
        · have HL : Hid (leastK g (k + 1) = o) := by rw [leastK, if_neg (by rw [← HO.out]; intro h; rcases h with h | h; exact hz h; exact hc h)]; exact hide HO.out.symm
          go_wp2_with fail
          refine (HH.out k wr hlt hdr).mono ?_
          rintro e w1 ⟨rfl, hd1⟩
          have hd := hdr.trans hd1
          clear hd1 hdr
          go_wp2_with fail
          go_roundw
          case rel => exact ⟨k + 1, by omega, by go_num, by rw [HL.out], by rw [HL.out], hd⟩
          case measure => simp [intOf]; omega
    · obtain rfl : k = many := by omega
      go_wp2
      go_ret
      exact ⟨ret1 (by rw [HO.out]), hdr⟩

theorem cf26 (args : Array Value) (w : World) : (callFunc 26 args).run Try.prog w = .ok (.enter 26 args) w := by kernel_rfl
theorem cf29 (args : Array Value) (w : World) : (callFunc 29 args).run Try.prog w = .ok (.enter 29 args) w := by kernel_rfl
end Go.Proofs.Ytonamhikhjjacaa
