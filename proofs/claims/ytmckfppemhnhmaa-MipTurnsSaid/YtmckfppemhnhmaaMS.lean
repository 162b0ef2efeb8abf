import Derived.Test.YtmckfppemhnhmaaMQ
namespace Go.Proofs.Ytmckfppemhnhmaa
open Go.RowKit

set_option maxRecDepth 100000 in
set_option maxHeartbeats 800000 in
theorem mturn_no {W H : Int} {n : Nat} {ao : Option Addr} {cap : Nat} {t : Nat → Int} {w : World} (hno : (lightV W H n && rightV W H n) = false) :
    Calls Try.prog 9 #[.agg #[.int .i64 W, .int .i64 H, .slice ao n cap], tx t] w fun e w' => e = .returned (.bool true) ∧ Below w.heap.size w w' := by
  generalize h1 : lightV W H n = b1 at hno
  generalize h2 : rightV W H n = b2 at hno
  have H1 := hide h1
  have H2 := hide h2
  clear h1 h2
  unfold tx
  cases b1
  · clear hno
    go_enter Try.func9, Try.ntmps9
    go_wp2_with fail
    refine (mawake_any _).mono ?_
    rintro e w1 ⟨rfl, hb⟩
    have EV := hide (EnvM.start hb)
    clear hb
    obtain ⟨k0, k1, k2⟩ := EV.out.i.c3.1
    go_wp2_with fail
    refine (light_any W H ao n cap _).mono ?_
    rintro e w2 ⟨rfl, hb⟩
    rw [H1.out]
    have EV2 := hide (EV.out.below hb)
    clear hb EV k0 k1 k2
    go_wp2_with fail
    go_ret
    exact ⟨rfl, EV2.out.be⟩
  · cases b2
    · clear hno
      go_enter Try.func9, Try.ntmps9
      go_wp2_with fail
      refine (mawake_any _).mono ?_
      rintro e w1 ⟨rfl, hb⟩
      have EV := hide (EnvM.start hb)
      clear hb
      obtain ⟨k0, k1, k2⟩ := EV.out.i.c3.1
      go_wp2_with fail
      refine (light_any W H ao n cap _).mono ?_
      rintro e w2 ⟨rfl, hb⟩
      rw [H1.out]
      have EV2 := hide (EV.out.below hb)
      clear hb EV k0 k1 k2
      obtain ⟨k0, k1, k2⟩ := EV2.out.i.c3.1
      go_wp2_with fail
      refine (right_any W H ao n cap _).mono ?_
      rintro e w3 ⟨rfl, hb⟩
      rw [H2.out]
      have EV3 := hide (EV2.out.below hb)
      clear hb EV2 k0 k1 k2
      go_wp2_with fail
      go_ret
      exact ⟨rfl, EV3.out.be⟩
    · simp at hno
end Go.Proofs.Ytmckfppemhnhmaa
