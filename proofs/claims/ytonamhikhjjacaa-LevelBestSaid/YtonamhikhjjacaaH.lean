import Derived.Test.YtonamhikhjjacaaG
import Derived.Test.YtonamhikhjjacaaT
namespace Go.Proofs.Ytonamhikhjjacaa
open Go.RowKit

def allSmall (n : Nat) (f : Nat → Int) : Bool := decide ((∀ i, i < n → smallV (f i) = true) ∧ n ≤ 100)

set_option maxHeartbeats 400000 in
theorem smalls_any (n : Nat) (f : Nat → Int) (v : Value) (w : World) (hv : RI w v n f) : Calls Try.prog 8 #[v] w fun e w' => e = .returned (.bool (allSmall n f)) ∧ w = w' := by
  obtain ⟨ao, cap, rfl, hn, hc⟩ := hv
  have HC := hide hc
  clear hc
  go_enter Try.func8, Try.ntmps8
  go_wp2_with fail
  go_loop [3] (fun i => ∃ k : Nat, k ≤ n ∧ i = .int .i64 k ∧ Hid (∀ j, j < k → smallV (f j) = true)) (fun i => n - (intOf i).toNat)
  case atStart => exact ⟨0, by omega, rfl, fun j hj => by omega⟩
  case round =>
    obtain ⟨k, hk, rfl, hsm⟩ := hrel
    by_cases hlt : k < n
    · obtain ⟨b, off, rfl, hcc⟩ := HC.out (by omega)
      have hck := hcc k hlt
      clear hcc
      by_cases hs : smallV (f k) = true
      · have HS := hide hs
        go_wp2_with (go_at_call 17; refine (small_any _ _).mono ?_; rintro e w' ⟨rfl, rfl⟩; rw [HS.out])
        go_round
        case rel => exact ⟨k + 1, by omega, by go_num, fun j hj => by
          by_cases e : j < k
          · exact hsm.out j e
          · obtain rfl : j = k := by omega
            exact HS.out⟩
        case measure => simp [intOf]; omega
      · have HS := hide (show smallV (f k) = false by simpa using hs)
        have HA : Hid (allSmall n f = false) := by
          unfold allSmall
          exact decide_eq_false (fun h => hs (h.1 k hlt))
        clear hs
        go_wp2_with (go_at_call 17; refine (small_any _ _).mono ?_; rintro e w' ⟨rfl, rfl⟩; rw [HS.out])
        go_ret
        exact ⟨ret1b (by rw [HA.out]), rfl⟩
    · obtain rfl : k = n := by omega
      go_wp2_with fail
      go_ret
      refine ⟨ret1b ?_, rfl⟩
      unfold allSmall
      rw [Bool.eq_iff_iff, decide_eq_true_eq, decide_eq_true_eq]
      exact ⟨fun h => ⟨hsm.out, by omega⟩, fun h => by omega⟩

def errK (t s : Nat → Int) (mask : Int) : Nat → Int
  | 0 => 0
  | j + 1 => errK t s mask j + if mask / 2 ^ (j % 4) % 2 = 1 then (t j - s j) * (t j - s j) else 0
theorem errK_bd (t s : Nat → Int) (mask : Int) (ht : ∀ j, j < 64 → -1048576 ≤ t j ∧ t j ≤ 1048576) (hs : ∀ j, j < 64 → -1048576 ≤ s j ∧ s j ≤ 1048576) (k : Nat) (hk : k ≤ 64) : 0 ≤ errK t s mask k ∧ errK t s mask k ≤ k * 281474976710656 := by
  induction k with
  | zero => simp [errK]
  | succ k ih =>
    have := sq_small (ht k (by omega)) (hs k (by omega))
    have := ih (by omega)
    simp only [errK]
    split <;> omega

/-- n cells of ints -/
def Ci (w : World) (b off n : Nat) (f : Nat → Int) : Prop := ∀ i, i < n → w.cell? ⟨b, off + i, none⟩ = some (.int .i64 (f i))
theorem Ag.new {cs : Array Value} {n : Nat} {f : Nat → Int} (h : Ag cs n f) (w : World) (t : TypeId) : Ci (w.alloc (.cells cs t)) w.heap.size 0 n f := by
  intro i hi
  rw [Nat.zero_add, cell_new]; exact h.2 i hi
theorem Ci.below {w w' : World} {b off n B : Nat} {f : Nat → Int} (h : Ci w b off n f) (hb : Below B w w') (hB : b < B) : Ci w' b off n f := fun i hi => (hb.cell (by exact hB)).trans (h i hi)

theorem and_one (x : Int) : bits .and .i64 x 1 = x % 2 := and_low x 1 (by omega)

set_option maxHeartbeats 800000 in
theorem error_any (t s : Nat → Int) (cs ds : Array Value) (mask : Int) (w : World) (hcs : Ag cs 64 t) (hds : Ag ds 64 s)
    (ht : ∀ j, j < 64 → -1048576 ≤ t j ∧ t j ≤ 1048576) (hs : ∀ j, j < 64 → -1048576 ≤ s j ∧ s j ≤ 1048576) :
    Calls Try.prog 20 #[.agg cs, .agg ds, .int .i64 mask] w fun e w' => e = .returned (.int .i64 (errK t s mask 64)) ∧ Below w.heap.size w w' := by
  have HT := hide ht
  have HS := hide hs
  have HE := hide (errK_bd t s mask ht hs)
  have HB : Hid (Below w.heap.size w ((w.alloc (.cells cs 33)).alloc (.cells ds 33))) := ((Below.refl _ _).alloc (Nat.le_refl _) _).alloc (by simp) _
  have HC1 : Hid (Ci ((w.alloc (.cells cs 33)).alloc (.cells ds 33)) w.heap.size 0 64 t) := (hcs.new w 33).below ((Below.refl _ _).alloc (Nat.le_refl _) _) (by simp)
  have HC2 := hide (show Ci ((w.alloc (.cells cs 33)).alloc (.cells ds 33)) (w.heap.size + 1) 0 64 s by have h := hds.new (w.alloc (.cells cs 33)) 33; simpa using h)
  clear ht hs hcs hds
  go_enter Try.func20, Try.ntmps20
  go_wp2_with fail
  generalize ((w.alloc (.cells cs 33)).alloc (.cells ds 33)) = wx at HB HC1 HC2 ⊢
  go_loopw [7, 10] (fun n i wr => ∃ k : Nat, k ≤ 16 ∧ i = .int .i64 k ∧ n = .int .i64 (errK t s mask (4 * k)) ∧ Dr wx wr) (fun _ i _ => 16 - (intOf i).toNat)
  case atStart => exact ⟨0, by omega, rfl, rfl, Dr.refl _⟩
  case round =>
    obtain ⟨k, hk, rfl, rfl, hdr⟩ := hrel
    by_cases hlt : k < 16
    · obtain ⟨w1, rfl⟩ : ∃ w1 : World, w1 = wr := ⟨_, rfl⟩
      go_wp2_with fail
      go_loopw [7, 13] (fun n i wr => ∃ c : Nat, c ≤ 4 ∧ i = .int .i64 c ∧ n = .int .i64 (errK t s mask (4 * k + c)) ∧ Dr wx wr) (fun _ i _ => 4 - (intOf i).toNat)
      case atStart => exact ⟨0, by omega, rfl, rfl, hdr⟩
      case round =>
        obtain ⟨c, hc, rfl, rfl, hdr2⟩ := hrel
        by_cases hltc : c < 4
        · have g1 := (hdr2.cell _).trans (HC1.out (4 * k + c) (by omega))
          have g2 := (hdr2.cell _).trans (HC2.out (4 * k + c) (by omega))
          rw [show 0 + (4 * k + c) = k * 4 + c by omega] at g1 g2
          have b1 := HT.out (4 * k + c) (by omega)
          have b2 := HS.out (4 * k + c) (by omega)
          have hsq := sq_small b1 b2
          have hE := HE.out (4 * k + c) (by omega)
          have hand := and_one (mask / 2 ^ c)
          by_cases hbit : mask / 2 ^ c % 2 = 1
          · have s1 : IntKind.i64.wrap (t (4 * k + c) - s (4 * k + c)) = t (4 * k + c) - s (4 * k + c) := IntWalk.i64_in _ (by omega)
            have s2 : IntKind.i64.wrap (errK t s mask (4 * k + c) + (t (4 * k + c) - s (4 * k + c)) * (t (4 * k + c) - s (4 * k + c))) = errK t s mask (4 * k + c) + (t (4 * k + c) - s (4 * k + c)) * (t (4 * k + c) - s (4 * k + c)) := IntWalk.i64_in _ (by omega)
            have HK : Hid (errK t s mask (4 * k + (c + 1)) = errK t s mask (4 * k + c) + (t (4 * k + c) - s (4 * k + c)) * (t (4 * k + c) - s (4 * k + c))) := by
              rw [← Nat.add_assoc, errK, show (4 * k + c) % 4 = c by omega, if_pos hbit]; exact hide rfl
            go_wp2_with fail
            go_quiet ((go_at_call 27; exact Calls.quiet_of_same ((square_any _ _ (by omega) (by omega)).mono (fun _ _ h => ⟨h.1, h.2.symm⟩))))
            go_wp2
            go_roundw
            case rel => exact ⟨c + 1, by omega, by go_num, by rw [HK.out], hdr2.drewN _⟩
            case measure => simp [intOf]; omega
          · have hb2 : (mask / 2 ^ c % 2 == 1) = false := by simpa using hbit
            have HK : Hid (errK t s mask (4 * k + (c + 1)) = errK t s mask (4 * k + c)) := by
              rw [← Nat.add_assoc, errK, show (4 * k + c) % 4 = c by omega, if_neg hbit, Int.add_zero]; exact hide rfl
            go_wp2_with fail
            go_roundw
            case rel => exact ⟨c + 1, by omega, by go_num, by rw [HK.out], hdr2⟩
            case measure => simp [intOf]; omega
        · obtain rfl : c = 4 := by omega
          go_wp2_with fail
          go_roundw
          case rel => exact ⟨k + 1, by omega, by go_num, by rw [show 4 * (k + 1) = 4 * k + 4 by omega], hdr2⟩
          case measure => simp [intOf]; omega
    · obtain rfl : k = 16 := by omega
      go_wp2_with fail
      go_ret
      exact ⟨rfl, HB.out.trans (hdr.below _)⟩

theorem bit_eq (mask : Int) (c : Nat) (hc : c < 4) : mask % 16 / 2 ^ c % 2 = mask / 2 ^ c % 2 := by
  match c, hc with
  | 0, _ => simp
  | 1, _ => show mask % 16 / 2 % 2 = mask / 2 % 2; omega
  | 2, _ => show mask % 16 / 4 % 2 = mask / 4 % 2; omega
  | 3, _ => show mask % 16 / 8 % 2 = mask / 8 % 2; omega

set_option maxHeartbeats 800000 in
theorem rerror_any (t s : Nat → Int) (cs ds : Array Value) (mask : Int) (w : World) (hcs : Ag cs 64 t) (hds : Ag ds 64 s)
    (ht : ∀ j, j < 64 → -1048576 ≤ t j ∧ t j ≤ 1048576) (hs : ∀ j, j < 64 → -1048576 ≤ s j ∧ s j ≤ 1048576) (hm1 : -1048576 ≤ mask) (hm2 : mask ≤ 1048576) :
    Calls Try.prog 21 #[.agg cs, .agg ds, .int .i64 mask] w fun e w' => e = .returned (.int .i64 (errK t s mask 64)) ∧ Below w.heap.size w w' := by
  have HT := hide ht
  have HS := hide hs
  have HE := hide (errK_bd t s mask ht hs)
  have HB : Hid (Below w.heap.size w ((w.alloc (.cells cs 33)).alloc (.cells ds 33))) := ((Below.refl _ _).alloc (Nat.le_refl _) _).alloc (by simp) _
  have HC1 : Hid (Ci ((w.alloc (.cells cs 33)).alloc (.cells ds 33)) w.heap.size 0 64 t) := (hcs.new w 33).below ((Below.refl _ _).alloc (Nat.le_refl _) _) (by simp)
  have HC2 := hide (show Ci ((w.alloc (.cells cs 33)).alloc (.cells ds 33)) (w.heap.size + 1) 0 64 s by have h := hds.new (w.alloc (.cells cs 33)) 33; simpa using h)
  clear ht hs hcs hds
  have mm1 : 0 ≤ mask % 16 := Int.emod_nonneg _ (by omega)
  have mm2 : mask % 16 < 16 := Int.emod_lt_of_pos _ (by omega)
  go_enter Try.func21, Try.ntmps21
  go_wp2_with fail
  generalize ((w.alloc (.cells cs 33)).alloc (.cells ds 33)) = wx at HB HC1 HC2 ⊢
  go_loopw [7, 8] (fun n i wr => ∃ k : Nat, k ≤ 16 ∧ i = .int .i64 k ∧ n = .int .i64 (errK t s mask (4 * k)) ∧ Dr wx wr) (fun _ i _ => 16 - (intOf i).toNat)
  case atStart => exact ⟨0, by omega, rfl, rfl, Dr.refl _⟩
  case round =>
    obtain ⟨k, hk, rfl, rfl, hdr⟩ := hrel
    by_cases hlt : k < 16
    · have hdk : decide ((k : Int) < 16) = true := by simp; omega
      obtain ⟨w1, rfl⟩ : ∃ w1 : World, w1 = wr := ⟨_, rfl⟩
      go_wp2_with fail
      go_loopw [7, 9] (fun n i wr => ∃ c : Nat, c ≤ 4 ∧ i = .int .i64 c ∧ n = .int .i64 (errK t s mask (4 * k + c)) ∧ Dr wx wr) (fun _ i _ => 4 - (intOf i).toNat)
      case atStart => exact ⟨0, by omega, rfl, rfl, hdr⟩
      case round =>
        obtain ⟨c, hc, rfl, rfl, hdr2⟩ := hrel
        by_cases hltc : c < 4
        · have g1 := (hdr2.cell _).trans (HC1.out (4 * k + c) (by omega))
          have g2 := (hdr2.cell _).trans (HC2.out (4 * k + c) (by omega))
          rw [show 0 + (4 * k + c) = k * 4 + c by omega] at g1 g2
          have b1 := HT.out (4 * k + c) (by omega)
          have b2 := HS.out (4 * k + c) (by omega)
          have hsq := sq_small b1 b2
          have hE := HE.out (4 * k + c) (by omega)
          have hp := pow2_le (show c ≤ 4 by omega)
          have hp0 := pow2_pos c
          have HBE := hide (bit_eq mask c hltc)
          obtain ⟨p, hpp⟩ : ∃ p : Int, p = 2 ^ c := ⟨_, rfl⟩
          rw [← hpp] at hp hp0
          have HP := hide hpp
          clear hpp
          have q1 : 0 ≤ mask % 16 / p := Int.ediv_nonneg (by omega) (by omega)
          have q2 : mask % 16 / p ≤ mask % 16 := Int.ediv_le_self _ (by omega)
          go_wp2_with fail
          refine (mod_any _ _ _ (by omega) (by omega) (by omega) (by omega)).mono ?_
          rintro e w' ⟨rfl, rfl⟩
          go_wp2_with fail
          refine (power_any c _ (by omega)).mono ?_
          rintro e w' ⟨rfl, rfl⟩
          rw [← HP.out]
          by_cases hbit : mask / 2 ^ c % 2 = 1
          · have hb2 : (mask % 16 / p % 2 == 1) = true := by rw [HP.out, HBE.out, hbit]; rfl
            have s1 : IntKind.i64.wrap (t (4 * k + c) - s (4 * k + c)) = t (4 * k + c) - s (4 * k + c) := IntWalk.i64_in _ (by omega)
            have s2 : IntKind.i64.wrap (errK t s mask (4 * k + c) + (t (4 * k + c) - s (4 * k + c)) * (t (4 * k + c) - s (4 * k + c))) = errK t s mask (4 * k + c) + (t (4 * k + c) - s (4 * k + c)) * (t (4 * k + c) - s (4 * k + c)) := IntWalk.i64_in _ (by omega)
            have HK : Hid (errK t s mask (4 * k + (c + 1)) = errK t s mask (4 * k + c) + (t (4 * k + c) - s (4 * k + c)) * (t (4 * k + c) - s (4 * k + c))) := by
              rw [← Nat.add_assoc, errK, show (4 * k + c) % 4 = c by omega, if_pos hbit]; exact hide rfl
            clear hbit
            go_wp2_with fail
            go_quiet ((go_at_call 28; exact Calls.quiet_of_same ((far_any _ _ (by omega) (by omega)).mono (fun _ _ h => ⟨h.1, h.2.symm⟩))))
            go_wp2
            go_roundw
            case rel => exact ⟨c + 1, by omega, by go_num, by rw [HK.out], hdr2.drewN _⟩
            case measure => simp [intOf]; omega
          · have hb2 : (mask % 16 / p % 2 == 1) = false := by rw [HP.out, HBE.out]; simpa using hbit
            have HK : Hid (errK t s mask (4 * k + (c + 1)) = errK t s mask (4 * k + c)) := by
              rw [← Nat.add_assoc, errK, show (4 * k + c) % 4 = c by omega, if_neg hbit, Int.add_zero]; exact hide rfl
            clear hbit
            go_wp2_with fail
            go_roundw
            case rel => exact ⟨c + 1, by omega, by go_num, by rw [HK.out], hdr2⟩
            case measure => simp [intOf]; omega
        · obtain rfl : c = 4 := by omega
          go_wp2_with fail
          go_roundw
          case rel => exact ⟨k + 1, by omega, by go_num, by rw [show 4 * (k + 1) = 4 * k + 4 by omega], hdr2⟩
          case measure => simp [intOf]; omega
    · obtain rfl : k = 16 := by omega
      go_wp2_with fail
      go_ret
      exact ⟨rfl, HB.out.trans (hdr.below _)⟩
end Go.Proofs.Ytonamhikhjjacaa
