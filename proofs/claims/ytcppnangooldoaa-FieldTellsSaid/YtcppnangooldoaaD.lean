import Derived.Test.YtcppnangooldoaaC

namespace Go.Proofs.Ytcppnangooldoaa
open Go.RowKit

theorem hide {p : Prop} (h : p) : Hid p := h
theorem Try.info5 : (Try.prog.info? 5).map (fun i => (i.zero, i.size, i.bytes)) = some (some (.int .u8 0), 1, 1) := by kernel_rfl

/-- n bytes f from place off of block g on, not frozen -/
def Cl (w : World) (g off n : Nat) (f : Nat → Int) : Prop := ∀ i, i < n → w.cell? ⟨g, off + i, none⟩ = some (.int .u8 (f i)) ∧ w.frozen? ⟨g, off + i, none⟩ = false

theorem Cl.set {w : World} {g off n : Nat} {f : Nat → Int} (h : Cl w g off n f) (j : Nat) (x : Int) : Cl (w.setCell ⟨g, off + j, none⟩ (.int .u8 x)) g off n (fun i => if i = j then x else f i) := by
  intro i hi
  obtain ⟨h1, h2⟩ := h i hi
  refine ⟨?_, by rw [World.frozen?_setCell]; exact h2⟩
  by_cases e : i = j
  · subst e
    simp only [if_true]
    exact World.cell?_setCell_same' _ _ _ (by rw [h1]; rfl)
  · simp only [if_neg e]
    rw [World.cell?_setCell_other, h1]
    simp
theorem Cl.congr {w : World} {g off n : Nat} {f f' : Nat → Int} (h : Cl w g off n f) (e : ∀ i, i < n → f i = f' i) : Cl w g off n f' := fun i hi => by rw [← e i hi]; exact h i hi
theorem Cl.row {w : World} {g n : Nat} {cs : List Value} {f : Nat → Int} (h : w.heap[g]? = some (.cells cs.toArray 5 (0, 0))) (e : ∀ i, i < n → cs[i]? = some (.int .u8 (f i))) : Cl w g 0 n f := by
  intro i hi
  rw [Nat.zero_add, cell_of_row w g i _ _ _ h, frozen_of_row w g i _ _ h]
  exact ⟨by simpa using e i hi, rfl⟩

theorem cells_bytes {w w1 : World} {b off n : Nat} {f : Nat → Int} (hc : ∀ i, i < n → w.cell? ⟨b, off + i, none⟩ = some (.int .u8 (f i))) (hb : Below w.heap.size w w1) {j : Nat} {v : Value}
    (hj : ((List.range n).map (fun i => Value.int .u8 (f i)))[j]? = some v) : w1.cell? ⟨b, off + j, none⟩ = some v := by
  by_cases hjn : j < n
  · rw [List.getElem?_map, List.getElem?_range hjn] at hj
    simp at hj
    subst hj
    have h := hc j hjn
    exact (hb.cell (World.block_lt_of_cell? w _ h)).trans h
  · rw [List.getElem?_eq_none (by simp; omega)] at hj; simp at hj

def digit (x : Int) (j : Nat) : Int := x / 256 ^ j % 256
def putK (f : Nat → Int) (at' bytes : Nat) (big : Bool) (x : Int) (k : Nat) (i : Nat) : Int := if at' ≤ i ∧ i < at' + k then digit x (if big then bytes - 1 - (i - at') else i - at') else f i

theorem putK_bd {f : Nat → Int} (hf : ∀ i, 0 ≤ f i ∧ f i ≤ 255) (at' bytes : Nat) (big : Bool) (x : Int) (k i : Nat) : 0 ≤ putK f at' bytes big x k i ∧ putK f at' bytes big x k i ≤ 255 := by
  unfold putK digit
  split
  · omega
  · exact hf i
theorem putK_step (f : Nat → Int) (at' bytes : Nat) (big : Bool) (x : Int) (k i : Nat) : putK f at' bytes big x (k + 1) i = if i = at' + k then digit x (if big then bytes - 1 - k else k) else putK f at' bytes big x k i := by
  unfold putK
  by_cases h : i = at' + k
  · subst h
    rw [if_pos (by omega), if_pos rfl, show at' + k - at' = k by omega]
  · rw [if_neg h]
    by_cases h2 : at' ≤ i ∧ i < at' + k
    · rw [if_pos (by omega), if_pos h2]
    · rw [if_neg (by omega), if_neg h2]

theorem digit_and (x : Int) (hx0 : 0 ≤ x) (hx2 : x < 4294967296) (k bytes : Nat) (big : Bool) (hk : k < bytes) : bits .and .i64 (x / 2 ^ (farV k bytes big).toNat) 255 % 256 = digit x (if big then bytes - 1 - k else k) := by
  have e1 : (farV k bytes big).toNat = 8 * (if big then bytes - 1 - k else k) := by cases big <;> simp [farV] <;> omega
  rw [e1]
  generalize (if big = true then bytes - 1 - k else k) = m
  rw [Int.pow_mul, show (2 : Int) ^ 8 = 256 from rfl]
  unfold digit
  have h1 : 0 ≤ x / 256 ^ m := Int.ediv_nonneg hx0 (Int.pow_nonneg (by omega))
  have h2 : x / 256 ^ m ≤ x := Int.ediv_le_self _ hx0
  generalize x / 256 ^ m = y at h1 h2 ⊢
  obtain ⟨y, rfl⟩ := Int.eq_ofNat_of_zero_le h1
  have := i64_and_nat y 255 (by omega) (by omega)
  rw [show ((255 : Nat) : Int) = 255 from rfl] at this
  rw [this, show (255 : Nat) = 2 ^ 8 - 1 from rfl, Nat.and_two_pow_sub_one_eq_mod]
  omega

theorem Rd.of_cl {w : World} {g off n cap : Nat} {f : Nat → Int} (h : Cl w g off n f) (hn : n ≤ 9223372036854775807) (hf : ∀ i, 0 ≤ f i ∧ f i ≤ 255) : Rd w (.slice (some ⟨g, off, none⟩) n cap) n f :=
  ⟨_, _, rfl, hn, hf, fun _ => ⟨g, off, rfl, fun i hi => (h i hi).1⟩⟩
theorem Rd.nil (w : World) : Rd w (.slice none 0 0) 0 (fun _ => 0) := ⟨_, _, rfl, by omega, fun _ => ⟨Int.le_refl _, (by decide : (0 : Int) ≤ 255)⟩, fun h => by omega⟩
theorem Rd.below {w w' : World} {v : Value} {n : Nat} {f : Nat → Int} (h : Rd w v n f) {B : Nat} (hb : Below B w w') (hB : w.heap.size ≤ B) : Rd w' v n f := by
  obtain ⟨ao, cap, rfl, hn, hf, hc⟩ := h
  refine ⟨ao, cap, rfl, hn, hf, fun h0 => ?_⟩
  obtain ⟨b, off, rfl, hcc⟩ := hc h0
  exact ⟨b, off, rfl, fun i hi => (hb.cell (Nat.lt_of_lt_of_le (World.block_lt_of_cell? w _ (hcc i hi)) hB)).trans (hcc i hi)⟩

set_option maxHeartbeats 400000 in
theorem put_ok (b off n cap : Nat) (f : Nat → Int) (at' bytes : Nat) (big : Bool) (x : Int) (w : World) (hn : n ≤ 1000000) (h3 : 1 ≤ bytes) (h4 : bytes ≤ 4) (h5 : at' + bytes ≤ n)
    (hx0 : 0 ≤ x) (hx1 : x < 256 ^ bytes)
    (hc : ∀ i, i < n → w.cell? ⟨b, off + i, none⟩ = some (.int .u8 (f i))) (hf : ∀ i, 0 ≤ f i ∧ f i ≤ 255) :
    Calls Try.prog 11 #[.slice (some ⟨b, off, none⟩) n cap, .int .i64 at', .int .i64 bytes, .bool big, .int .i64 x] w fun e w' => ∃ v, e = .returned (.tuple #[v, .int .i64 0]) ∧ Rd w' v n (putK f at' bytes big x bytes) ∧ Below w.heap.size w w' := by
  have hchk : chkV n at' bytes = 0 := by unfold chkV roomB; rw [if_neg (by omega), if_pos (by simp; omega)]
  have hx2 : x < 4294967296 := by
    have : (256:Int)^bytes ≤ 256^4 := by
      have h : 256 ^ bytes ≤ 256 ^ 4 := Nat.pow_le_pow_right (by omega) (by omega)
      have e : ((256 : Int) ^ bytes) = ((256 ^ bytes : Nat) : Int) := by rw [Int.natCast_pow]; rfl
      rw [e]; omega
    omega
  have Hx := hide hx1
  clear hx1
  have hsh : (x / 2 ^ (8 * bytes) != 0) = false := by
    have e : (2 : Int) ^ (8 * bytes) = 256 ^ bytes := by rw [Int.pow_mul]; rfl
    have : x / 256 ^ bytes = 0 := Int.ediv_eq_zero_of_lt hx0 Hx.out
    rw [e, this]; rfl
  obtain ⟨i0, hi, hz0, hz1, hz2⟩ := info_parts Try.info5
  go_enter Try.func11, Try.ntmps11
  go_wp2_with (first | (go_at_call 18; refine (check_any _ _ _ _ _ _ (by omega) (by omega) (by omega) (by omega) (by omega)).mono ?_; rintro e w' ⟨rfl, rfl⟩; rw [hchk]) | (at_make; refine wpList_make_full _ rfl _ _ 27 rfl w.heap.size 5 i0 (.int .u8 0) 1 Try.underlying27 hi hz0 hz1 _ _ _ _ n rfl rfl rfl rfl ?c1 ?c2 ?c3 ?_))
  case c1 => rw [hz2]; omega
  case c2 => unfold maxLen; omega
  case c3 => exact Nat.le_refl _
  intro w1 hown hgrow
  have hb1 : Below w.heap.size w w1 := (Below.refl _ _).grown hgrow (Nat.le_refl _) (fun k e => by cases e)
  obtain ⟨cur, hcur, hg⟩ : ∃ cur : List Value, cur.length = n ∧ w1.heap[w.heap.size]? = some (.cells cur.toArray 5 (0, 0)) := by
    obtain ⟨_, h⟩ := hown
    rcases h with ⟨h, _⟩ | ⟨g, cap', cur, h, hbg, hh, hle, hmx, hsz, htk⟩
    · simp at h
    · simp only [Value.slice.injEq, Option.some.injEq, Addr.mk.injEq, and_true, true_and] at h
      obtain ⟨rfl, rfl⟩ := h
      exact ⟨cur.toList, by simpa using hsz, by simpa using hh⟩
  clear hown hgrow
  have hlen := hide hcur
  clear hcur
  obtain ⟨cs, hcs⟩ : ∃ cs : List Value, cs = (List.range n).map (fun i => Value.int .u8 (f i)) := ⟨_, rfl⟩
  have Hcs := hide hcs
  clear hcs
  go_wp2_with (with_reducible refine wpList_copy_splice rfl _ _ 27 27 rfl 5 Try.underlying27 (by rw [hi]; simp [hz1]) _ _ _ _ _ _ rfl rfl w.heap.size 0 cur 5 hg cs ?d1 ?d2 ?d3 ?d4 w.heap.size w hb1 (Nat.le_refl _) ?_)
  case d1 => rw [Hcs.out]; simp
  case d2 =>
    intro _ j v hj
    rw [Hcs.out] at hj
    exact cells_bytes hc hb1 hj
  case d3 => rw [Hcs.out, hlen.out]; simp
  case d4 => rw [Hcs.out]; intro v hv; obtain ⟨_, _, rfl⟩ := List.mem_map.1 hv; rfl
  intro w2 HG2 hB2
  have hcl : Cl w2 w.heap.size 0 n f := Cl.row HG2.out (fun i hi => by
    rw [Hcs.out]; unfold splice; simp only [List.take_zero, List.nil_append]
    rw [List.getElem?_append_left (by simpa using hi), List.getElem?_map, List.getElem?_range hi]; rfl)
  clear HG2 Hcs hg
  go_wp2
  go_loopw [14, 40] (fun _ i wr => ∃ k : Nat, k ≤ bytes ∧ i = .int .i64 k ∧ Cl wr w.heap.size 0 n (putK f at' bytes big x k) ∧ Below w.heap.size w wr) (fun _ i _ => bytes - (intOf i).toNat)
  case atStart => exact ⟨0, by omega, rfl, hcl.congr (fun i hi => by unfold putK; rw [if_neg (by omega)]), hB2⟩
  case round =>
    obtain ⟨k, hk, rfl, hcl', hbe⟩ := hrel
    by_cases hlt : k < bytes
    · have hck := hcl' (at' + k) (by omega)
      have hck1 := hck.1
      have hck2 := hck.2
      clear hck
      rw [Nat.zero_add] at hck1 hck2
      have e6 : 0 ≤ farV k bytes big := by unfold farV; split <;> omega
      have e7 : farV k bytes big ≤ 24 := by unfold farV; split <;> omega
      go_wp2_with (go_at_call 19; refine (far_any _ _ _ _ (by omega) (by omega) (by omega)).mono ?_; rintro e w' ⟨rfl, rfl⟩)
      go_roundw
      case rel => 
        rw [digit_and x hx0 (by omega) k bytes big hlt]
        refine ⟨k + 1, by omega, by go_num, ?_, hbe.setCell (p := ⟨w.heap.size, at' + k, none⟩) (Nat.le_refl _) _⟩
        have h := hcl'.set (at' + k) (digit x (if big then bytes - 1 - k else k))
        rw [Nat.zero_add] at h
        exact h.congr (fun i hi => (putK_step f at' bytes big x k i).symm)
      case measure => simp [intOf]; omega
    · obtain rfl : k = bytes := by omega
      go_wp2
      go_ret2
      exact ⟨_, rfl, Rd.of_cl hcl' (by omega) (fun i => putK_bd hf at' k big x k i), hbe⟩

def putE (n : Nat) (at' bytes : Int) (x : Int) : Int := if chkV n at' bytes = 0 then (if x < 0 ∨ 256 ^ bytes.toNat ≤ x then 10 else 0) else chkV n at' bytes

set_option maxHeartbeats 400000 in
theorem put_no (ao : Option Addr) (n cap : Nat) (at' bytes x : Int) (big : Bool) (w : World) (hn : n ≤ 9223372036854775807) (h1 : -9223372036854775808 ≤ at') (h2 : at' ≤ 9223372036854775807) (h3 : -9223372036854775808 ≤ bytes) (h4 : bytes ≤ 9223372036854775807)
    (h : chkV n at' bytes ≠ 0) :
    Calls Try.prog 11 #[.slice ao n cap, .int .i64 at', .int .i64 bytes, .bool big, .int .i64 x] w fun e w' => e = .returned (.tuple #[.slice none 0 0, .int .i64 (chkV n at' bytes)]) ∧ w = w' := by
  have hb : (chkV n at' bytes != 0) = true := by simpa using h
  clear h
  go_enter Try.func11, Try.ntmps11
  go_wp2_with (go_at_call 18; refine (check_any _ _ _ _ _ _ hn h1 h2 h3 h4).mono ?_; rintro e w' ⟨rfl, rfl⟩)
  go_ret2
  exact ⟨rfl, rfl⟩

set_option maxHeartbeats 400000 in
theorem put_over (ao : Option Addr) (n cap : Nat) (at' : Int) (bytes : Nat) (x : Int) (big : Bool) (w : World) (hn : n ≤ 9223372036854775807) (h1 : -9223372036854775808 ≤ at') (h2 : at' ≤ 9223372036854775807) (h3 : 1 ≤ bytes) (h4 : bytes ≤ 4)
    (hx1 : -9223372036854775808 ≤ x) (hx2 : x ≤ 9223372036854775807)
    (h : chkV n at' bytes = 0) (hx : x < 0 ∨ 256 ^ bytes ≤ x) :
    Calls Try.prog 11 #[.slice ao n cap, .int .i64 at', .int .i64 bytes, .bool big, .int .i64 x] w fun e w' => e = .returned (.tuple #[.slice none 0 0, .int .i64 10]) ∧ w = w' := by
  have hn0 : ¬ x < 0 → (x / 2 ^ (8 * bytes) != 0) = true := by
    intro h0
    have e : (2 : Int) ^ (8 * bytes) = 256 ^ bytes := by rw [Int.pow_mul]; rfl
    have hp : (0 : Int) < 256 ^ bytes := Int.pow_pos (by omega)
    have : 1 ≤ x / 256 ^ bytes := (Int.le_ediv_iff_mul_le hp).2 (by omega)
    rw [e]; simp; omega
  clear hx
  by_cases hneg : x < 0
  · clear hn0
    go_enter Try.func11, Try.ntmps11
    go_wp2_with (go_at_call 18; refine (check_any _ _ _ _ _ _ hn h1 h2 (by omega) (by omega)).mono ?_; rintro e w' ⟨rfl, rfl⟩; rw [h])
    all_goals first | (exfalso; omega) | skip
    all_goals go_ret2
    all_goals exact ⟨rfl, rfl⟩
  · have hq := hn0 hneg
    clear hn0
    go_enter Try.func11, Try.ntmps11
    go_wp2_with (go_at_call 18; refine (check_any _ _ _ _ _ _ hn h1 h2 (by omega) (by omega)).mono ?_; rintro e w' ⟨rfl, rfl⟩; rw [h])
    all_goals first | (exfalso; omega) | skip
    all_goals go_ret2
    all_goals exact ⟨rfl, rfl⟩

def PutPost (n : Nat) (f : Nat → Int) (at' bytes : Int) (big : Bool) (x : Int) (w : World) (e : Ending) (w' : World) : Prop :=
  ∃ v, e = .returned (.tuple #[v, .int .i64 (putE n at' bytes x)]) ∧ Below w.heap.size w w' ∧
    (putE n at' bytes x = 0 → Rd w' v n (putK f at'.toNat bytes.toNat big x bytes.toNat)) ∧ (putE n at' bytes x ≠ 0 → v = .slice none 0 0)

theorem put_any {n : Nat} {f : Nat → Int} {v : Value} {w : World} (hv : Rd w v n f) (hn : n ≤ 1000000) (at' bytes x : Int) (big : Bool) (h1 : -9223372036854775808 ≤ at') (h2 : at' ≤ 9223372036854775807) (h3 : -9223372036854775808 ≤ bytes) (h4 : bytes ≤ 9223372036854775807)
    (hx1 : -9223372036854775808 ≤ x) (hx2 : x ≤ 9223372036854775807) :
    Calls Try.prog 11 #[v, .int .i64 at', .int .i64 bytes, .bool big, .int .i64 x] w (PutPost n f at' bytes big x w) := by
  obtain ⟨ao, cap, rfl, hnn, hf, hc⟩ := hv
  unfold PutPost putE
  by_cases h : chkV n at' bytes = 0
  · rw [if_pos h]
    obtain ⟨g1, g2, g3, g4⟩ := chk_ok h
    obtain ⟨b, off, rfl, hcc⟩ := hc (by omega)
    obtain ⟨a, rfl⟩ := Int.eq_ofNat_of_zero_le g3
    obtain ⟨m, rfl⟩ := Int.eq_ofNat_of_zero_le (show 0 ≤ bytes by omega)
    rw [Int.toNat_natCast, Int.toNat_natCast]
    by_cases hx : x < 0 ∨ 256 ^ m ≤ x
    · rw [if_pos hx]
      refine (put_over _ n cap a m x big w hnn h1 h2 (by omega) (by omega) hx1 hx2 h hx).mono ?_
      rintro e w' ⟨rfl, rfl⟩
      exact ⟨_, rfl, Below.refl _ _, fun h => by omega, fun _ => rfl⟩
    · rw [if_neg hx]
      refine (put_ok b off n cap f a m big x w hn (by omega) (by omega) (by omega) (by omega) (by omega) hcc hf).mono ?_
      rintro e w' ⟨v, rfl, hr, hb⟩
      exact ⟨_, rfl, hb, fun _ => hr, fun h => by omega⟩
  · rw [if_neg h]
    refine (put_no ao n cap at' bytes x big w hnn h1 h2 h3 h4 h).mono ?_
    rintro e w' ⟨rfl, rfl⟩
    exact ⟨_, rfl, Below.refl _ _, fun h' => absurd h' h, fun _ => rfl⟩
end Go.Proofs.Ytcppnangooldoaa
