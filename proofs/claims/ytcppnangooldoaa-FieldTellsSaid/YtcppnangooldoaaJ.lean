import Derived.Test.YtcppnangooldoaaH
import Derived.WalkSpells
namespace Go.Proofs.Ytcppnangooldoaa
open Go.RowKit

set_option maxHeartbeats 400000 in
theorem same_eq {n : Nat} {f g : Nat → Int} {v u : Value} {w : World} (hv : Rd w v n f) (hu : Rd w u n g) (he : ∀ i, i < n → f i = g i) :
    Calls Try.prog 17 #[v, u] w fun e w' => e = .returned (.bool true) ∧ Dr w w' := by
  obtain ⟨ao, cap, rfl, hn, hf, hc⟩ := hv
  obtain ⟨ao2, cap2, rfl, _, _, hc2⟩ := hu
  have HC := hide hc
  have HC2 := hide hc2
  clear hc hc2
  go_enter Try.func17, Try.ntmps17
  go_wp2_with fail
  go_loopw [5] (fun i wr => ∃ k : Nat, k ≤ n ∧ i = .int .i64 k ∧ Dr w wr) (fun i _ => n - (intOf i).toNat)
  case atStart => exact ⟨0, by omega, rfl, Dr.refl _⟩
  case round =>
    obtain ⟨k, hk, rfl, hdr⟩ := hrel
    by_cases hlt : k < n
    · obtain ⟨b, off, rfl, h1⟩ := HC.out (by omega)
      obtain ⟨b2, off2, rfl, h2⟩ := HC2.out (by omega)
      have d1 := (hdr.cell _).trans (h1 k hlt)
      have d2 := (hdr.cell _).trans (h2 k hlt)
      rw [← he k hlt] at d2
      clear h1 h2
      go_wp2_with fail
      go_quiet (fail)
      go_wp2
      go_roundw
      case rel => exact ⟨k + 1, by omega, by go_num, hdr.drewN _⟩
      case measure => simp [intOf]; omega
    · obtain rfl : k = n := by omega
      go_wp2
      go_ret
      exact ⟨rfl, hdr⟩

theorem eqnil27 : ∀ (w : World) (a : Option Addr) (n c n' c' : Nat), (binOp .eql 27 (.slice a n c) (.slice none n' c')).run Try.prog w = .ok (.bool a.isNone) w := fun w a n c n' c' => Lib.run_eql_slice_nil w _ _ a n c n' c' Try.underlying27

/-- n bytes at an address -/
theorem clone_some {n : Nat} {f : Nat → Int} {a : Addr} {cap : Nat} {w : World} (hn : n ≤ 1000000) (hf : ∀ i, 0 ≤ f i ∧ f i ≤ 255) (hc : 0 < n → ∃ b off, a = ⟨b, off, none⟩ ∧ ∀ i, i < n → w.cell? ⟨b, off + i, none⟩ = some (.int .u8 (f i))) :
    Calls Try.prog 22 #[.slice (some a) n cap] w fun e w' => ∃ v, e = .returned v ∧ Rd w' v n f ∧ Below w.heap.size w w' := by
  obtain ⟨i0, hi, hz0, hz1, hz2⟩ := info_parts Try.info5
  have q27 := eqnil27
  have HC := hide hc
  clear hc
  obtain ⟨cs, hcs⟩ : ∃ cs : List Value, cs = (List.range n).map (fun i => Value.int .u8 (f i)) := ⟨_, rfl⟩
  have Hcs := hide hcs
  have hcl : cs.length = n * 1 := by rw [hcs]; simp
  clear hcs
  have Hcl := hide hcl
  clear hcl
  go_enter Try.func22, Try.ntmps22
  go_wp2_with (at_builtin; refine wpList_append_own _ rfl _ _ 27 rfl w.heap.size 5 i0 (.int .u8 0) 1 1 Try.underlying27 hi hz0 hz1 hz2 rfl (by decide) _ _ _ rfl (World.ownsRow_made w #[] 0 (Nat.le_refl _) (by decide) rfl) a n cap cs rfl Hcl.out ?c1 ?c2 ?c3 ?c4 ?c5 ?_)
  case c1 =>
    intro j v hj
    rw [Hcs.out] at hj
    by_cases hjn : j < n
    · obtain ⟨b, off, rfl, hcc⟩ := HC.out (by omega)
      rw [Addr.add_lit]
      exact cells_bytes hcc ((Below.refl _ _).alloc (Nat.le_refl _) _) hj
    · rw [List.getElem?_eq_none (by simp; omega)] at hj; simp at hj
  case c2 => rw [Hcs.out]; intro v hv; obtain ⟨_, _, rfl⟩ := List.mem_map.1 hv; rfl
  case c3 => unfold maxLen; omega
  case c4 => omega
  case c5 => simp
  intro v' w1 hown hgrow hnil
  have hb1 : Below w.heap.size w w1 := (((Below.refl _ _).alloc (Nat.le_refl _) _).grown hgrow (by simp) (fun k e => by simp [Value.ownBlock] at e; omega))
  have hr : Rd w1 v' n f := by
    by_cases h0 : 0 < n
    · obtain ⟨g, cap', rfl, hbg, hcl⟩ := own_cl (n := n) (f := f) (by simpa using hown) h0 (fun i hi => by
        rw [Hcs.out, List.getElem?_map, List.getElem?_range hi]; rfl)
      exact Rd.of_cl hcl (by omega) hf
    · obtain rfl : n = 0 := by omega
      rcases hown.2 with ⟨rfl, _⟩ | ⟨g, cap', cur, rfl, _⟩
      · exact ⟨_, _, rfl, by omega, hf, fun h => by omega⟩
      · exact ⟨some ⟨g, 0, none⟩, cap', rfl, by omega, hf, fun h => by omega⟩
  have HR := hide hr
  clear hown hgrow hnil hr
  go_wp2
  go_ret
  exact ⟨_, rfl, HR.out, hb1⟩

theorem clone_nil (w : World) : Calls Try.prog 22 #[.slice none 0 0] w fun e w' => e = .returned (.slice none 0 0) ∧ w = w' := by
  have q27 := eqnil27
  go_enter Try.func22, Try.ntmps22
  go_wp2
  go_ret
  exact ⟨rfl, rfl⟩

def partE (n : Nat) (at' bytes : Int) : Int := if at' < 0 ∨ bytes < 0 then 1 else if roomB n at' bytes then 0 else 2

def PartPost (n : Nat) (f : Nat → Int) (at' bytes : Int) (w : World) (e : Ending) (w' : World) : Prop :=
  ∃ v, e = .returned (.tuple #[v, .int .i64 (partE n at' bytes)]) ∧ Below w.heap.size w w' ∧ Rd w' v (if partE n at' bytes = 0 then bytes.toNat else 0) (if partE n at' bytes = 0 then fun i => f (at'.toNat + i) else fun _ => 0)

theorem part_some {n : Nat} {f : Nat → Int} {ad : Addr} {cap : Nat} {w : World} (hn : n ≤ 1000000) (hf : ∀ i, 0 ≤ f i ∧ f i ≤ 255) (hc : 0 < n → ∃ b off, ad = ⟨b, off, none⟩ ∧ ∀ i, i < n → w.cell? ⟨b, off + i, none⟩ = some (.int .u8 (f i)))
    (a m : Nat) (h : a + m ≤ n) (hcap : n ≤ cap) (hcm : cap ≤ 9223372036854775807) :
    Calls Try.prog 15 #[.slice (some ad) n cap, .int .i64 a, .int .i64 m] w fun e w' => ∃ v, e = .returned (.tuple #[v, .int .i64 0]) ∧ Rd w' v m (fun i => f (a + i)) ∧ Below w.heap.size w w' := by
  have hroom : roomB n a m = true := by unfold roomB; simp; omega
  have HC := hide hc
  clear hc
  by_cases hm : m = 0
  · subst hm
    have hroom0 : roomB n a 0 = true := hroom
    clear hroom
    go_enter Try.func15, Try.ntmps15
    go_wp2_with (go_at_call 21; refine (room_any _ _ _ _ _ _ (by omega) (by omega) (by omega)).mono ?_; rintro e w' ⟨rfl, rfl⟩; rw [hroom0])
    refine (clone_some (n := 0) (f := fun i => f (a + i)) (by omega) (fun i => hf _) (fun h => by omega)).mono ?_
    rintro e w' ⟨v, rfl, hr, hb⟩
    have HR := hide hr
    clear hr
    go_wp2
    go_ret2
    exact ⟨_, rfl, HR.out, hb⟩
  · obtain ⟨b, off, rfl, hcc⟩ := HC.out (by omega)
    have HD : Hid (∀ i, i < m → w.cell? ⟨b, off + a + i, none⟩ = some (.int .u8 (f (a + i)))) := fun i hi => by rw [Nat.add_assoc]; exact hcc (a + i) (by omega)
    clear hcc
    go_enter Try.func15, Try.ntmps15
    go_wp2_with (go_at_call 21; refine (room_any _ _ _ _ _ _ (by omega) (by omega) (by omega)).mono ?_; rintro e w' ⟨rfl, rfl⟩; rw [hroom])
    refine (clone_some (f := fun i => f (a + i)) (by omega) (fun i => hf _) (fun _ => ⟨b, off + a, rfl, HD.out⟩)).mono ?_
    rintro e w' ⟨v, rfl, hr, hb⟩
    have HR := hide hr
    clear hr
    go_wp2
    go_ret2
    exact ⟨_, rfl, HR.out, hb⟩

theorem part_nil (w : World) : Calls Try.prog 15 #[.slice none 0 0, .int .i64 0, .int .i64 0] w fun e w' => e = .returned (.tuple #[.slice none 0 0, .int .i64 0]) ∧ w = w' := by
  have hroom : roomB ((0 : Nat) : Int) 0 0 = true := rfl
  go_enter Try.func15, Try.ntmps15
  go_wp2_with (first | (go_at_call 21; refine (room_any none 0 0 0 0 _ (by omega) (by omega) (by omega)).mono ?_; rintro e w' ⟨rfl, rfl⟩; rw [hroom]) | (go_at_call 22; refine (clone_nil _).mono ?_; rintro e w' ⟨rfl, rfl⟩))
  go_ret2
  exact ⟨rfl, rfl⟩

theorem part_no (ao : Option Addr) (n cap : Nat) (at' bytes : Int) (w : World) (hn : n ≤ 9223372036854775807) (h1 : -9223372036854775808 ≤ at') (h2 : at' ≤ 9223372036854775807) (h3 : -9223372036854775808 ≤ bytes) (h4 : bytes ≤ 9223372036854775807)
    (h : partE n at' bytes ≠ 0) :
    Calls Try.prog 15 #[.slice ao n cap, .int .i64 at', .int .i64 bytes] w fun e w' => e = .returned (.tuple #[.slice none 0 0, .int .i64 (partE n at' bytes)]) ∧ w = w' := by
  unfold partE at h ⊢
  by_cases hz : at' < 0 ∨ bytes < 0
  · rw [if_pos hz]
    clear h
    go_enter Try.func15, Try.ntmps15
    go_wp2_with fail
    all_goals first | (exfalso; omega) | skip
    all_goals go_ret2
    all_goals exact ⟨rfl, rfl⟩
  · rw [if_neg hz] at h ⊢
    have hr : roomB n at' bytes = false := by
      revert h
      cases roomB n at' bytes <;> simp
    rw [hr]
    have g1 : 0 ≤ at' := by omega
    have g2 : 0 ≤ bytes := by omega
    have g4 : (decide (at' < 0) || decide (bytes < 0)) = false := by simp; omega
    clear hz h
    go_enter Try.func15, Try.ntmps15
    go_wp2_with (go_at_call 21; refine (room_any _ _ _ _ _ _ hn g1 h2).mono ?_; rintro e w' ⟨rfl, rfl⟩; rw [hr])
    go_ret2
    exact ⟨rfl, rfl⟩

theorem rpart_no (ao : Option Addr) (n cap : Nat) (at' bytes : Int) (w : World) (hn : n ≤ 9223372036854775807) (h1 : -9223372036854775808 ≤ at') (h2 : at' ≤ 9223372036854775807) (h3 : -9223372036854775808 ≤ bytes) (h4 : bytes ≤ 9223372036854775807)
    (h : partE n at' bytes ≠ 0) :
    Calls Try.prog 16 #[.slice ao n cap, .int .i64 at', .int .i64 bytes] w fun e w' => e = .returned (.tuple #[.slice none 0 0, .int .i64 (partE n at' bytes)]) ∧ w = w' := by
  unfold partE at h ⊢
  by_cases hz : at' < 0 ∨ bytes < 0
  · rw [if_pos hz]
    clear h
    go_enter Try.func16, Try.ntmps16
    go_wp2_with fail
    all_goals first | (exfalso; omega) | skip
    all_goals go_ret2
    all_goals exact ⟨rfl, rfl⟩
  · rw [if_neg hz] at h ⊢
    have hr : roomB n at' bytes = false := by
      revert h
      cases roomB n at' bytes <;> simp
    rw [hr]
    have g1 : 0 ≤ at' := by omega
    have g2 : 0 ≤ bytes := by omega
    have g4 : (decide (at' < 0) || decide (bytes < 0)) = false := by simp; omega
    clear hz h
    go_enter Try.func16, Try.ntmps16
    go_wp2_with (go_at_call 20; refine (room_ref _ _ _ _ _ _ hn g1 h2).mono ?_; rintro e w' ⟨rfl, rfl⟩; rw [hr])
    go_ret2
    exact ⟨rfl, rfl⟩

theorem rpart_nil (w : World) : Calls Try.prog 16 #[.slice none 0 0, .int .i64 0, .int .i64 0] w fun e w' => ∃ v, e = .returned (.tuple #[v, .int .i64 0]) ∧ Rd w' v 0 (fun _ => 0) ∧ Below w.heap.size w w' := by
  have hroom : roomB ((0 : Nat) : Int) 0 0 = true := rfl
  obtain ⟨i0, hi, hz0, hz1, hz2⟩ := info_parts Try.info5
  go_enter Try.func16, Try.ntmps16
  go_wp2_with (first | (go_at_call 20; refine (room_ref none 0 0 0 0 _ (by omega) (by omega) (by omega)).mono ?_; rintro e w' ⟨rfl, rfl⟩; rw [hroom]) | (at_builtin; refine wpList_append_own_none rfl _ _ 27 rfl w.heap.size 5 i0 1 Try.underlying27 hi _ 0 [] rfl (World.ownsRow_made w #[] 0 (Nat.le_refl _) (by decide) rfl) rfl ?_))
  go_ret2
  exact ⟨_, rfl, ⟨_, _, rfl, by omega, fun _ => ⟨Int.le_refl _, (by decide : (0 : Int) ≤ 255)⟩, fun h => by omega⟩, (Below.refl _ _).alloc (Nat.le_refl _) _⟩

theorem rpart_some {n : Nat} {f : Nat → Int} {ad : Addr} {cap : Nat} {w : World} (hn : n ≤ 1000000) (hf : ∀ i, 0 ≤ f i ∧ f i ≤ 255) (hc : 0 < n → ∃ b off, ad = ⟨b, off, none⟩ ∧ ∀ i, i < n → w.cell? ⟨b, off + i, none⟩ = some (.int .u8 (f i)))
    (a m : Nat) (h : a + m ≤ n) (hcap : n ≤ cap) (hcm : cap ≤ 9223372036854775807) :
    Calls Try.prog 16 #[.slice (some ad) n cap, .int .i64 a, .int .i64 m] w fun e w' => ∃ v, e = .returned (.tuple #[v, .int .i64 0]) ∧ Rd w' v m (fun i => f (a + i)) ∧ Below w.heap.size w w' := by
  have hroom : roomB n a m = true := by unfold roomB; simp; omega
  obtain ⟨i0, hi, hz0, hz1, hz2⟩ := info_parts Try.info5
  have HC := hide hc
  clear hc
  by_cases hm : m = 0
  · subst hm
    have hroom0 : roomB n a 0 = true := hroom
    clear hroom
    go_enter Try.func16, Try.ntmps16
    go_wp2_with (go_at_call 20; refine (room_ref _ _ _ _ _ _ (by omega) (by omega) (by omega)).mono ?_; rintro e w' ⟨rfl, rfl⟩; rw [hroom0])
    all_goals go_ret2
    all_goals exact ⟨_, rfl, ⟨_, _, rfl, by omega, fun i => hf _, fun h => by omega⟩, (Below.refl _ _).alloc (Nat.le_refl _) _⟩
  · obtain ⟨b, off, rfl, hcc⟩ := HC.out (by omega)
    have HD : Hid (∀ i, i < m → w.cell? ⟨b, off + a + i, none⟩ = some (.int .u8 (f (a + i)))) := fun i hi => by rw [Nat.add_assoc]; exact hcc (a + i) (by omega)
    clear hcc
    obtain ⟨cs, hcs⟩ : ∃ cs : List Value, cs = (List.range m).map (fun i => Value.int .u8 (f (a + i))) := ⟨_, rfl⟩
    have Hcs := hide hcs
    have hcl : cs.length = (a + m - a) * 1 := by rw [hcs]; simp
    clear hcs
    have Hcl := hide hcl
    clear hcl
    go_enter Try.func16, Try.ntmps16
    go_wp2_with (first | (go_at_call 20; refine (room_ref _ _ _ _ _ _ (by omega) (by omega) (by omega)).mono ?_; rintro e w' ⟨rfl, rfl⟩; rw [hroom]) | (at_builtin; refine wpList_append_own _ rfl _ _ 27 rfl w.heap.size 5 i0 (.int .u8 0) 1 1 Try.underlying27 hi hz0 hz1 hz2 rfl (by decide) _ _ _ rfl (World.ownsRow_made w #[] 0 (Nat.le_refl _) (by decide) rfl) ⟨b, off + a, none⟩ (a + m - a) (cap - a) cs rfl Hcl.out ?c1 ?c2 ?c3 ?c4 ?c5 ?_))
    case c1 =>
      intro j v hj
      rw [Hcs.out] at hj
      rw [Addr.add_lit]
      exact cells_bytes HD.out ((Below.refl _ _).alloc (Nat.le_refl _) _) hj
    case c2 => rw [Hcs.out]; intro v hv; obtain ⟨_, _, rfl⟩ := List.mem_map.1 hv; rfl
    case c3 => unfold maxLen; omega
    case c4 => omega
    case c5 => simp
    intro v' w1 hown hgrow hnil
    have hb1 : Below w.heap.size w w1 := (((Below.refl _ _).alloc (Nat.le_refl _) _).grown hgrow (by simp) (fun k e => by simp [Value.ownBlock] at e; omega))
    obtain ⟨g, cap', rfl, hbg, hcl⟩ := own_cl (n := m) (f := fun i => f (a + i)) (by simpa using hown) (by omega) (fun i hi => by
      rw [Hcs.out, List.getElem?_map, List.getElem?_range hi]; rfl)
    have HR := hide (Rd.of_cl (cap := cap') hcl (by omega) (fun i => hf (a + i)))
    clear hown hgrow hnil hcl
    go_wp2
    go_ret2
    exact ⟨_, rfl, HR.out, hb1⟩

/-- the slice as an argument lies: its capacity, and that a nil one is empty -/
def Arg (w : World) (v : Value) (n : Nat) (f : Nat → Int) : Prop :=
  ∃ ao cap, v = .slice ao n cap ∧ n ≤ cap ∧ cap ≤ 9223372036854775807 ∧ (ao = none → n = 0 ∧ cap = 0) ∧ (∀ i, 0 ≤ f i ∧ f i ≤ 255) ∧
    (0 < n → ∃ b off, ao = some ⟨b, off, none⟩ ∧ ∀ i, i < n → w.cell? ⟨b, off + i, none⟩ = some (.int .u8 (f i)))
theorem Arg.rd {w : World} {v : Value} {n : Nat} {f : Nat → Int} (h : Arg w v n f) : Rd w v n f := by
  obtain ⟨ao, cap, rfl, h1, h2, _, hf, hc⟩ := h
  exact ⟨_, _, rfl, by omega, hf, hc⟩
theorem Arg.below {w w' : World} {v : Value} {n : Nat} {f : Nat → Int} (h : Arg w v n f) (hb : Below w.heap.size w w') : Arg w' v n f := by
  obtain ⟨ao, cap, rfl, h1, h2, h3, hf, hc⟩ := h
  refine ⟨_, _, rfl, h1, h2, h3, hf, fun h0 => ?_⟩
  obtain ⟨b, off, rfl, hcc⟩ := hc h0
  exact ⟨b, off, rfl, fun i hi => (hb.cell (by exact World.block_lt_of_cell? w _ (hcc i hi))).trans (hcc i hi)⟩

theorem partE_ok {n : Nat} {at' bytes : Int} (h : partE n at' bytes = 0) : 0 ≤ at' ∧ 0 ≤ bytes ∧ at' + bytes ≤ n := by
  unfold partE roomB at h
  by_cases h1 : at' < 0 ∨ bytes < 0
  · rw [if_pos h1] at h; omega
  · rw [if_neg h1] at h
    by_cases h2 : at' ≤ (n : Int) ∧ bytes ≤ n - at'
    · omega
    · rw [if_neg (by simpa using h2)] at h; omega

theorem part_any {n : Nat} {f : Nat → Int} {v : Value} {w : World} (hv : Arg w v n f) (hn : n ≤ 1000000) (at' bytes : Int) (h1 : -9223372036854775808 ≤ at') (h2 : at' ≤ 9223372036854775807) (h3 : -9223372036854775808 ≤ bytes) (h4 : bytes ≤ 9223372036854775807) :
    Calls Try.prog 15 #[v, .int .i64 at', .int .i64 bytes] w (PartPost n f at' bytes w) := by
  obtain ⟨ao, cap, rfl, hcap, hcm, hnil, hf, hc⟩ := hv
  unfold PartPost
  by_cases h : partE n at' bytes = 0
  · obtain ⟨g1, g2, g3⟩ := partE_ok h
    rw [if_pos h, if_pos h, h]
    obtain ⟨a, rfl⟩ := Int.eq_ofNat_of_zero_le g1
    obtain ⟨m, rfl⟩ := Int.eq_ofNat_of_zero_le g2
    rw [Int.toNat_natCast, Int.toNat_natCast]
    cases ao with
    | none =>
      obtain ⟨rfl, rfl⟩ := hnil rfl
      obtain rfl : a = 0 := by omega
      obtain rfl : m = 0 := by omega
      refine (part_nil w).mono ?_
      rintro e w' ⟨rfl, rfl⟩
      exact ⟨_, rfl, Below.refl _ _, ⟨_, _, rfl, by omega, fun i => hf _, fun h => by omega⟩⟩
    | some ad =>
      refine (part_some hn hf (fun h0 => by obtain ⟨b, off, hb, hcc⟩ := hc h0; exact ⟨b, off, by simpa using hb, hcc⟩) a m (by omega) hcap hcm).mono ?_
      rintro e w' ⟨v, rfl, hr, hb⟩
      exact ⟨_, rfl, hb, hr⟩
  · rw [if_neg h, if_neg h]
    refine (part_no ao n cap at' bytes w (by omega) h1 h2 h3 h4 h).mono ?_
    rintro e w' ⟨rfl, rfl⟩
    exact ⟨_, rfl, Below.refl _ _, Rd.nil _⟩

theorem rpart_any {n : Nat} {f : Nat → Int} {v : Value} {w : World} (hv : Arg w v n f) (hn : n ≤ 1000000) (at' bytes : Int) (h1 : -9223372036854775808 ≤ at') (h2 : at' ≤ 9223372036854775807) (h3 : -9223372036854775808 ≤ bytes) (h4 : bytes ≤ 9223372036854775807) :
    Calls Try.prog 16 #[v, .int .i64 at', .int .i64 bytes] w (PartPost n f at' bytes w) := by
  obtain ⟨ao, cap, rfl, hcap, hcm, hnil, hf, hc⟩ := hv
  unfold PartPost
  by_cases h : partE n at' bytes = 0
  · obtain ⟨g1, g2, g3⟩ := partE_ok h
    rw [if_pos h, if_pos h, h]
    obtain ⟨a, rfl⟩ := Int.eq_ofNat_of_zero_le g1
    obtain ⟨m, rfl⟩ := Int.eq_ofNat_of_zero_le g2
    rw [Int.toNat_natCast, Int.toNat_natCast]
    cases ao with
    | none =>
      obtain ⟨rfl, rfl⟩ := hnil rfl
      obtain rfl : a = 0 := by omega
      obtain rfl : m = 0 := by omega
      refine (rpart_nil w).mono ?_
      rintro e w' ⟨v, rfl, hr, hb⟩
      obtain ⟨ao, cap, rfl, _, _, _⟩ := hr
      exact ⟨_, rfl, hb, ⟨_, _, rfl, by omega, fun i => hf _, fun h => by omega⟩⟩
    | some ad =>
      refine (rpart_some hn hf (fun h0 => by obtain ⟨b, off, hb, hcc⟩ := hc h0; exact ⟨b, off, by simpa using hb, hcc⟩) a m (by omega) hcap hcm).mono ?_
      rintro e w' ⟨v, rfl, hr, hb⟩
      exact ⟨_, rfl, hb, hr⟩
  · rw [if_neg h, if_neg h]
    refine (rpart_no ao n cap at' bytes w (by omega) h1 h2 h3 h4 h).mono ?_
    rintro e w' ⟨rfl, rfl⟩
    exact ⟨_, rfl, Below.refl _ _, Rd.nil _⟩

set_option maxRecDepth 100000 in
set_option maxHeartbeats 1600000 in
theorem tells_ok {n : Nat} {f : Nat → Int} {ao : Option Addr} {cap : Nat} {w : World} (hv : Arg w (.slice ao n cap) n f) (hn : n ≤ 300) (a0 a1 a2 : Int) (big : Bool)
    (h1 : -9223372036854775808 ≤ a0) (h2 : a0 ≤ 9223372036854775807) (h3 : -9223372036854775808 ≤ a1) (h4 : a1 ≤ 9223372036854775807) (h5 : -9223372036854775808 ≤ a2) (h6 : a2 ≤ 9223372036854775807) :
    Calls Try.prog 5 #[.slice ao n cap, .agg #[.int .i64 a0, .int .i64 a1, .int .i64 a2], .bool big] w fun e w' => e = .returned (.bool true) ∧ Below w.heap.size w w' := by
  have HV := hide hv
  clear hv
  go_enter Try.func5, Try.ntmps5
  go_wp2_with fail
  refine (awake_any _).mono ?_
  rintro e w1 ⟨rfl, hb0⟩
  have hb1 : Below w.heap.size w w1 := ((Below.refl _ _).alloc (Nat.le_refl _) _).trans (hb0.mono (by simp))
  obtain ⟨c0, c1, c2⟩ := (At3.new w 28 a0 a1 a2).below hb0 (by simp)
  have hs1 : w.heap.size < w1.heap.size := by have := hb0.size; simp at this; omega
  clear hb0
  go_wp2_with fail
  refine (get_any (HV.out.below hb1).rd a0 a1 big h1 h2 h3 h4).mono ?_
  rintro e w2 ⟨rfl, hd2⟩
  have hb2 : Below w.heap.size w w2 := hb1.trans (hd2.below _)
  have hs2 : w.heap.size < w2.heap.size := by rw [hd2.heap]; exact hs1
  obtain ⟨c0, c1, c2⟩ := At3.below ⟨c0, c1, c2⟩ (hd2.below _) hs1
  clear hd2 hs1 hb1
  go_wp2_with fail
  refine (rget_any (HV.out.below hb2).rd a0 a1 big h1 h2 h3 h4).mono ?_
  rintro e w3 ⟨rfl, rfl⟩
  go_wp2_with fail
  refine (put_any (HV.out.below hb2).rd (by omega) a0 a1 a2 big h1 h2 h3 h4 h5 h6).mono ?_
  rintro e w3 ⟨v, rfl, hb3', hp1, hp2⟩
  have hb3 : Below w.heap.size w w3 := hb2.trans (hb3'.mono hb2.size)
  have hs3 : w.heap.size < w3.heap.size := Nat.lt_of_lt_of_le hs2 hb3'.size
  obtain ⟨c0, c1, c2⟩ := At3.below ⟨c0, c1, c2⟩ hb3' hs2
  have HP1 := hide hp1
  have HP2 := hide hp2
  clear hp1 hp2 hb3' hs2 hb2
  go_wp2_with fail
  refine (rput_any (HV.out.below hb3).rd (by omega) a0 a1 a2 big h1 h2 h3 h4 h5 h6).mono ?_
  rintro e w4 ⟨u, rfl, hb4', hp1, hp2⟩
  have hb4 : Below w.heap.size w w4 := hb3.trans (hb4'.mono hb3.size)
  have hs4 : w.heap.size < w4.heap.size := Nat.lt_of_lt_of_le hs3 hb4'.size
  obtain ⟨c0, c1, c2⟩ := At3.below ⟨c0, c1, c2⟩ hb4' hs3
  have HP : Hid (∃ m g1 g2, Rd w4 v m g1 ∧ Rd w4 u m g2 ∧ ∀ i, i < m → g1 i = g2 i) := by
    by_cases hE : putE n a0 a1 a2 = 0
    · exact ⟨_, _, _, (HP1.out hE).below hb4' (Nat.le_refl _), hp1 hE, fun _ _ => rfl⟩
    · obtain rfl := HP2.out hE
      obtain rfl := hp2 hE
      exact ⟨0, _, _, Rd.nil _, Rd.nil _, fun _ _ => rfl⟩
  clear hp1 hp2 hb4' HP1 HP2 hb3 hs3
  go_wp2_with fail
  refine (part_any (HV.out.below hb4) (by omega) a0 a1 h1 h2 h3 h4).mono ?_
  rintro e w5 ⟨p, rfl, hb5', hr⟩
  have hb5 : Below w.heap.size w w5 := hb4.trans (hb5'.mono hb4.size)
  have hs5 : w.heap.size < w5.heap.size := Nat.lt_of_lt_of_le hs4 hb5'.size
  obtain ⟨c0, c1, c2⟩ := At3.below ⟨c0, c1, c2⟩ hb5' hs4
  have HR := hide hr
  have HB5 := hide hb5'
  clear hr hb5' hb4 hs4
  go_wp2_with fail
  refine (rpart_any (HV.out.below hb5) (by omega) a0 a1 h1 h2 h3 h4).mono ?_
  rintro e w6 ⟨q, rfl, hb6', hr⟩
  have hb6 : Below w.heap.size w w6 := hb5.trans (hb6'.mono hb5.size)
  have HR6 := hide (HR.out.below hb6' (Nat.le_refl _))
  have HQ6 := hide hr
  have HB6 := hide hb6'
  clear hr hb6' hb5 hs5 HR
  obtain ⟨m, g1, g2, hr1, hr2, hee⟩ := HP.out
  have hr1' := hide ((hr1.below HB5.out (Nat.le_refl _)).below HB6.out (Nat.le_refl _))
  have hr2' := hide ((hr2.below HB5.out (Nat.le_refl _)).below HB6.out (Nat.le_refl _))
  have HEE := hide hee
  clear hr1 hr2 hee HP
  go_wp2_with fail
  refine (same_eq hr1'.out hr2'.out HEE.out).mono ?_
  rintro e w7 ⟨rfl, hd7⟩
  go_wp2_with fail
  refine (same_eq (HR6.out.below (hd7.below _) (Nat.le_refl _)) (HQ6.out.below (hd7.below _) (Nat.le_refl _)) (fun _ _ => rfl)).mono ?_
  rintro e w8 ⟨rfl, hd8⟩
  have hb8 := (hb6.trans (hd7.below _)).trans (hd8.below _)
  clear hd7 hd8 hb6 c0 c1 c2
  go_wp2_with fail
  go_ret
  exact ⟨rfl, hb8⟩

set_option maxRecDepth 100000 in
set_option maxHeartbeats 800000 in
theorem tells_long {n : Nat} {ao : Option Addr} {cap : Nat} {w : World} (hn : 300 < n) (hm : n ≤ 9223372036854775807) (a0 a1 a2 : Int) (big : Bool) :
    Calls Try.prog 5 #[.slice ao n cap, .agg #[.int .i64 a0, .int .i64 a1, .int .i64 a2], .bool big] w fun e w' => e = .returned (.bool true) ∧ Below w.heap.size w w' := by
  go_enter Try.func5, Try.ntmps5
  go_wp2_with fail
  refine (awake_any _).mono ?_
  rintro e w1 ⟨rfl, hb0⟩
  have hb1 : Below w.heap.size w w1 := ((Below.refl _ _).alloc (Nat.le_refl _) _).trans (hb0.mono (by simp))
  clear hb0
  go_wp2_with fail
  go_ret
  exact ⟨rfl, hb1⟩

theorem tells_any {n : Nat} {f : Nat → Int} {v : Value} {w : World} (hv : Arg w v n f) (a0 a1 a2 : Int) (big : Bool)
    (h1 : -9223372036854775808 ≤ a0) (h2 : a0 ≤ 9223372036854775807) (h3 : -9223372036854775808 ≤ a1) (h4 : a1 ≤ 9223372036854775807) (h5 : -9223372036854775808 ≤ a2) (h6 : a2 ≤ 9223372036854775807) :
    Calls Try.prog 5 #[v, .agg #[.int .i64 a0, .int .i64 a1, .int .i64 a2], .bool big] w fun e w' => e = .returned (.bool true) ∧ Below w.heap.size w w' := by
  have hv' := hv
  obtain ⟨ao, cap, rfl, hcap, hcm, hnil, hf, hc⟩ := hv
  by_cases hn : n ≤ 300
  · exact tells_ok hv' hn a0 a1 a2 big h1 h2 h3 h4 h5 h6
  · exact tells_long (by omega) (by omega) a0 a1 a2 big
end Go.Proofs.Ytcppnangooldoaa
