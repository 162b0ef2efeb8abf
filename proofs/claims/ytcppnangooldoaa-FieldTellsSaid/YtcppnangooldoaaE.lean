import Derived.Test.YtcppnangooldoaaD
namespace Go.Proofs.Ytcppnangooldoaa
open Go.RowKit

theorem pow_le (m : Nat) (h : m ≤ 4) : (256 : Int) ^ m ≤ 4294967296 ∧ 0 < (256 : Int) ^ m := by
  match m, h with
  | 0, _ => decide
  | 1, _ => decide
  | 2, _ => decide
  | 3, _ => decide
  | 4, _ => decide

/-- how the reference lays them: the number's rest after k -/
def restK (x : Int) : Nat → Int
  | 0 => x
  | k + 1 => restK x k / 256
theorem restK_eq (x : Int) (k : Nat) : restK x k = x / 256 ^ k := by
  induction k with
  | zero => simp [restK]
  | succ k ih => rw [restK, ih, Int.pow_succ, Int.ediv_ediv_of_nonneg (Int.pow_nonneg (by omega))]
theorem restK_bd (x : Int) (h0 : 0 ≤ x) (h1 : x < 4294967296) (k : Nat) : 0 ≤ restK x k ∧ restK x k < 4294967296 := by
  induction k with
  | zero => exact ⟨h0, h1⟩
  | succ k ih => simp only [restK]; omega

def putR (f : Nat → Int) (at' bytes : Nat) (big : Bool) (x : Int) : Nat → Nat → Int
  | 0 => f
  | k + 1 => fun i => if i = (if big then at' + bytes - 1 - k else at' + k) then digit x k else putR f at' bytes big x k i

theorem putR_eq (f : Nat → Int) (at' bytes : Nat) (big : Bool) (x : Int) (i : Nat) : putR f at' bytes big x bytes i = putK f at' bytes big x bytes i := by
  have H : ∀ k, k ≤ bytes → putR f at' bytes big x k i = if (if big then at' + bytes - k ≤ i ∧ i < at' + bytes else at' ≤ i ∧ i < at' + k) then digit x (if big then bytes - 1 - (i - at') else i - at') else f i := by
    intro k
    induction k with
    | zero => intro _; cases big <;> simp [putR] <;> intro h <;> omega
    | succ k ih =>
      intro hk
      simp only [putR]
      rw [ih (by omega)]
      cases big
      · simp only [Bool.false_eq_true, if_false]
        by_cases h : i = at' + k
        · rw [if_pos h, if_pos (by omega), show i - at' = k by omega]
        · rw [if_neg h]
          by_cases h2 : at' ≤ i ∧ i < at' + k
          · rw [if_pos h2, if_pos (by omega)]
          · rw [if_neg h2, if_neg (by omega)]
      · simp only [if_true]
        by_cases h : i = at' + bytes - 1 - k
        · rw [if_pos h, if_pos (by omega), show bytes - 1 - (i - at') = k by omega]
        · rw [if_neg h]
          by_cases h2 : at' + bytes - k ≤ i ∧ i < at' + bytes
          · rw [if_pos h2, if_pos (by omega)]
          · rw [if_neg h2, if_neg (by omega)]
  rw [H bytes (Nat.le_refl _)]
  unfold putK
  cases big
  · simp
  · simp only [if_true]
    by_cases h : at' ≤ i ∧ i < at' + bytes
    · rw [if_pos h, if_pos (by omega)]
    · rw [if_neg h, if_neg (by omega)]

theorem own_cl {w : World} {B n : Nat} {v : Value} {xs : List Value} {f : Nat → Int} (h : w.ownsRow B 5 1 v n xs) (h0 : 0 < n) (hx : ∀ i, i < n → xs[i]? = some (.int .u8 (f i))) :
    ∃ g cap, v = .slice (some ⟨g, 0, none⟩) n cap ∧ B ≤ g ∧ Cl w g 0 n f := by
  have hh := h
  rcases h.2 with ⟨rfl, h2⟩ | ⟨g, cap, cur, rfl, hb, _⟩
  · omega
  · refine ⟨g, cap, rfl, hb, fun i hi => ?_⟩
    rw [Nat.zero_add]
    exact ⟨(hh.cellAt i (by omega)).trans (hx i hi), hh.frozenAt i⟩

set_option maxHeartbeats 800000 in
theorem rput_ok (b off n cap : Nat) (f : Nat → Int) (at' bytes : Nat) (big : Bool) (x : Int) (w : World) (hn : n ≤ 1000000) (h3 : 1 ≤ bytes) (h4 : bytes ≤ 4) (h5 : at' + bytes ≤ n)
    (hx0 : 0 ≤ x) (hx1 : x < 256 ^ bytes)
    (hc : ∀ i, i < n → w.cell? ⟨b, off + i, none⟩ = some (.int .u8 (f i))) (hf : ∀ i, 0 ≤ f i ∧ f i ≤ 255) :
    Calls Try.prog 14 #[.slice (some ⟨b, off, none⟩) n cap, .int .i64 at', .int .i64 bytes, .bool big, .int .i64 x] w fun e w' => ∃ v, e = .returned (.tuple #[v, .int .i64 0]) ∧ Rd w' v n (putK f at' bytes big x bytes) ∧ Below w.heap.size w w' := by
  have hchk : chkV n at' bytes = 0 := by unfold chkV roomB; rw [if_neg (by omega), if_pos (by simp; omega)]
  have hrd : Rd w (.slice (some ⟨b, off, none⟩) n cap) n f := ⟨_, _, rfl, by omega, hf, fun _ => ⟨b, off, rfl, hc⟩⟩
  have hget : getV f n at' bytes big = (refN f at' bytes big bytes, 0) := by unfold getV; rw [if_pos hchk]; simp
  have Hget := hide hget
  clear hget hchk
  have hx2 := (pow_le bytes h4).1
  have hxx : x < 4294967296 := by omega
  have Hx := hide hx1
  clear hx1 hx2
  obtain ⟨i0, hi, hz0, hz1, hz2⟩ := info_parts Try.info5
  have hcw : ∀ i, i < n → b < w.heap.size := fun i hi => World.block_lt_of_cell? w _ (hc i hi)
  have hbw := hcw 0 (by omega)
  clear hcw
  go_enter Try.func14, Try.ntmps14
  go_wp2_with (go_at_call 13; refine (rget_any hrd _ _ _ (by omega) (by omega) (by omega) (by omega)).mono ?_; rintro e w' ⟨rfl, rfl⟩; rw [Hget.out])
  go_loop [14, 15] (fun m i => ∃ k : Nat, k ≤ bytes ∧ i = .int .i64 k ∧ m = .int .i64 (256 ^ k)) (fun _ i => bytes - (intOf i).toNat)
  case atStart => exact ⟨0, by omega, rfl, rfl⟩
  case round =>
    obtain ⟨k, hk, rfl, rfl⟩ := hrel
    have hp := pow_le k (by omega)
    by_cases hlt : k < bytes
    · go_wp2
      go_round
      case rel => exact ⟨k + 1, by omega, by go_num, by rw [Int.pow_succ]⟩
      case measure => simp [intOf]; omega
    · obtain rfl : k = bytes := by omega
      have hxq := Hx.out
      obtain ⟨cs, hcs⟩ : ∃ cs : List Value, cs = (List.range n).map (fun i => Value.int .u8 (f i)) := ⟨_, rfl⟩
      have Hcs := hide hcs
      have hcl : cs.length = n * 1 := by rw [hcs]; simp
      clear hcs
      have Hcl := hide hcl
      clear hcl
      go_wp2_with (at_builtin; refine wpList_append_own _ rfl _ _ 27 rfl w.heap.size 5 i0 (.int .u8 0) 1 1 Try.underlying27 hi hz0 hz1 hz2 rfl (by decide) _ _ _ rfl (World.ownsRow_made w #[] 0 (Nat.le_refl _) (by decide) rfl) ⟨b, off, none⟩ n cap cs rfl Hcl.out ?c1 ?c2 ?c3 ?c4 ?c5 ?_)
      case c1 =>
        intro j v hj
        rw [Hcs.out] at hj
        exact cells_bytes hc (Below.refl _ _) hj
      case c2 => rw [Hcs.out]; intro v hv; obtain ⟨_, _, rfl⟩ := List.mem_map.1 hv; rfl
      case c3 => unfold maxLen; omega
      case c4 => omega
      intro v' w1 hown hgrow hnil
      have hb1 : Below w.heap.size w w1 := (((Below.refl _ _).alloc (Nat.le_refl _) _).grown hgrow (by simp) (fun k e => by simp [Value.ownBlock] at e; omega))
      obtain ⟨g, cap', rfl, hbg, hcl⟩ := own_cl (n := n) (f := f) (by simpa using hown) (by omega) (fun i hi => by
        rw [Hcs.out, List.getElem?_map, List.getElem?_range hi]; rfl)
      clear hown hgrow hnil Hcs Hcl
      go_wp2
      go_loopw [4, 17, 18] (fun y i _ wr => ∃ m : Nat, m ≤ k ∧ i = .int .i64 m ∧ y = .int .i64 (restK x m) ∧ Cl wr g 0 n (putR f at' k big x m) ∧ Below w.heap.size w wr) (fun _ i _ _ => k - (intOf i).toNat)
      case atStart => exact ⟨0, by omega, rfl, rfl, hcl, hb1⟩
      case round =>
        obtain ⟨m, hm, rfl, rfl, hcl', hbe⟩ := hrel
        have hrb := restK_bd x hx0 hxx m
        by_cases hlt : m < k
        · cases big
          · have hck := hcl' (at' + m) (by omega)
            have hck1 := hck.1
            have hck2 := hck.2
            clear hck
            rw [Nat.zero_add] at hck1 hck2
            go_wp2
            go_roundw
            case rel =>
              refine ⟨m + 1, by omega, by go_num, rfl, ?_, hbe.setCell (p := ⟨g, at' + m, none⟩) hbg _⟩
              have h := hcl'.set (at' + m) (restK x m % 256)
              rw [Nat.zero_add] at h
              exact h.congr (fun i hi => by simp only [putR, digit, restK_eq, Bool.false_eq_true, if_false])
            case measure => simp [intOf]; omega
          · have hck := hcl' (at' + k - 1 - m) (by omega)
            have hck1 := hck.1
            have hck2 := hck.2
            clear hck
            rw [Nat.zero_add] at hck1 hck2
            go_wp2
            go_roundw
            case rel =>
              refine ⟨m + 1, by omega, by go_num, rfl, ?_, hbe.setCell (p := ⟨g, at' + k - 1 - m, none⟩) hbg _⟩
              have h := hcl'.set (at' + k - 1 - m) (restK x m % 256)
              rw [Nat.zero_add] at h
              exact h.congr (fun i hi => by simp only [putR, digit, restK_eq, if_true])
            case measure => simp [intOf]; omega
        · obtain rfl : m = k := by omega
          go_wp2
          go_ret2
          exact ⟨_, rfl, Rd.of_cl (hcl'.congr (fun i hi => putR_eq f at' m big x i)) (by omega) (fun i => putK_bd hf at' m big x m i), hbe⟩

theorem getV_no {f : Nat → Int} {n : Nat} {at' bytes : Int} {big : Bool} (h : chkV n at' bytes ≠ 0) : getV f n at' bytes big = (0, chkV n at' bytes) := by unfold getV; rw [if_neg h]

set_option maxHeartbeats 400000 in
theorem rput_no {v : Value} {n : Nat} {f : Nat → Int} {w : World} (hv : Rd w v n f) (at' bytes x : Int) (big : Bool) (h1 : -9223372036854775808 ≤ at') (h2 : at' ≤ 9223372036854775807) (h3 : -9223372036854775808 ≤ bytes) (h4 : bytes ≤ 9223372036854775807)
    (h : chkV n at' bytes ≠ 0) :
    Calls Try.prog 14 #[v, .int .i64 at', .int .i64 bytes, .bool big, .int .i64 x] w fun e w' => e = .returned (.tuple #[.slice none 0 0, .int .i64 (chkV n at' bytes)]) ∧ w = w' := by
  have hb : (chkV n at' bytes != 0) = true := by simpa using h
  have Hget := hide (getV_no (f := f) (big := big) h)
  clear h
  go_enter Try.func14, Try.ntmps14
  go_wp2_with (go_at_call 13; refine (rget_any hv _ _ _ h1 h2 h3 h4).mono ?_; rintro e w' ⟨rfl, rfl⟩; rw [Hget.out])
  go_ret2
  exact ⟨rfl, rfl⟩

set_option maxHeartbeats 400000 in
theorem rput_over {v : Value} {n : Nat} {f : Nat → Int} {w : World} (hv : Rd w v n f) (at' : Int) (bytes : Nat) (x : Int) (big : Bool) (h1 : -9223372036854775808 ≤ at') (h2 : at' ≤ 9223372036854775807) (h3 : 1 ≤ bytes) (h4 : bytes ≤ 4)
    (hx1 : -9223372036854775808 ≤ x) (hx2 : x ≤ 9223372036854775807)
    (h : chkV n at' bytes = 0) (hx : x < 0 ∨ 256 ^ bytes ≤ x) :
    Calls Try.prog 14 #[v, .int .i64 at', .int .i64 bytes, .bool big, .int .i64 x] w fun e w' => e = .returned (.tuple #[.slice none 0 0, .int .i64 10]) ∧ w = w' := by
  have hget : getV f n at' bytes big = (refN f at'.toNat bytes big bytes, 0) := by unfold getV; rw [if_pos h]; simp
  have Hget := hide hget
  have Hx := hide hx
  clear hget h hx
  go_enter Try.func14, Try.ntmps14
  go_wp2_with (go_at_call 13; refine (rget_any hv _ _ _ h1 h2 (by omega) (by omega)).mono ?_; rintro e w' ⟨rfl, rfl⟩; rw [Hget.out])
  go_loop [14, 15] (fun m i => ∃ k : Nat, k ≤ bytes ∧ i = .int .i64 k ∧ m = .int .i64 (256 ^ k)) (fun _ i => bytes - (intOf i).toNat)
  case atStart => exact ⟨0, by omega, rfl, rfl⟩
  case round =>
    obtain ⟨k, hk, rfl, rfl⟩ := hrel
    have hp := pow_le k (by omega)
    by_cases hlt : k < bytes
    · go_wp2
      go_round
      case rel => exact ⟨k + 1, by omega, by go_num, by rw [Int.pow_succ]⟩
      case measure => simp [intOf]; omega
    · obtain rfl : k = bytes := by omega
      have hxq := Hx.out
      by_cases hneg : x < 0
      · clear hxq
        go_wp2_with fail
        all_goals first | (exfalso; omega) | skip
        all_goals go_ret2
        all_goals exact ⟨rfl, rfl⟩
      · have hxx : 256 ^ k ≤ x := by omega
        clear hxq
        go_wp2_with fail
        all_goals first | (exfalso; omega) | skip
        all_goals go_ret2
        all_goals exact ⟨rfl, rfl⟩

theorem rput_any {n : Nat} {f : Nat → Int} {v : Value} {w : World} (hv : Rd w v n f) (hn : n ≤ 1000000) (at' bytes x : Int) (big : Bool) (h1 : -9223372036854775808 ≤ at') (h2 : at' ≤ 9223372036854775807) (h3 : -9223372036854775808 ≤ bytes) (h4 : bytes ≤ 9223372036854775807)
    (hx1 : -9223372036854775808 ≤ x) (hx2 : x ≤ 9223372036854775807) :
    Calls Try.prog 14 #[v, .int .i64 at', .int .i64 bytes, .bool big, .int .i64 x] w (PutPost n f at' bytes big x w) := by
  have hrd := hv
  obtain ⟨ao, cap, rfl, hnn, hf, hc⟩ := hv
  unfold PutPost putE
  by_cases h : chkV n at' bytes = 0
  · rw [if_pos h]
    obtain ⟨g1, g2, g3, g4⟩ := chk_ok h
    obtain ⟨b, off, rfl, hcc⟩ := hc (by omega)
    obtain ⟨a, rfl⟩ := Int.eq_ofNat_of_zero_le g3
    obtain ⟨m, rfl⟩ := Int.eq_ofNat_of_zero_le (show 0 ≤ bytes by omega)
    rw [Int.toNat_natCast, Int.toNat_natCast]
    by_cases hx : x < 0 ∨ 256 ^ m ≤ x
    · rw [if_pos hx]
      refine (rput_over hrd a m x big h1 h2 (by omega) (by omega) hx1 hx2 h hx).mono ?_
      rintro e w' ⟨rfl, rfl⟩
      exact ⟨_, rfl, Below.refl _ _, fun h => by omega, fun _ => rfl⟩
    · rw [if_neg hx]
      refine (rput_ok b off n cap f a m big x w hn (by omega) (by omega) (by omega) (by omega) (by omega) hcc hf).mono ?_
      rintro e w' ⟨v, rfl, hr, hb⟩
      exact ⟨_, rfl, hb, fun _ => hr, fun h => by omega⟩
  · rw [if_neg h]
    refine (rput_no hrd at' bytes x big h1 h2 h3 h4 h).mono ?_
    rintro e w' ⟨rfl, rfl⟩
    exact ⟨_, rfl, Below.refl _ _, fun h' => absurd h' h, fun _ => rfl⟩
end Go.Proofs.Ytcppnangooldoaa
