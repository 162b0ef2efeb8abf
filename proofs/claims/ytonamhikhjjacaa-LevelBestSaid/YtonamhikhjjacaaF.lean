import Derived.Test.YtonamhikhjjacaaE
namespace Go.Proofs.Ytonamhikhjjacaa
open Go.RowKit

def RI (w : World) (v : Value) (n : Nat) (f : Nat → Int) : Prop :=
  ∃ ao cap, v = .slice ao n cap ∧ n ≤ 9223372036854775807 ∧ (0 < n → ∃ b off, ao = some ⟨b, off, none⟩ ∧ ∀ i, i < n → w.cell? ⟨b, off + i, none⟩ = some (.int .i64 (f i)))
theorem RI.below {w w' : World} {v : Value} {n : Nat} {f : Nat → Int} (h : RI w v n f) {B : Nat} (hb : Below B w w') (hB : w.heap.size ≤ B) : RI w' v n f := by
  obtain ⟨ao, cap, rfl, hn, hc⟩ := h
  refine ⟨ao, cap, rfl, hn, fun h0 => ?_⟩
  obtain ⟨b, off, rfl, hcc⟩ := hc h0
  exact ⟨b, off, rfl, fun i hi => (hb.cell (Nat.lt_of_lt_of_le (World.block_lt_of_cell? w _ (hcc i hi)) hB)).trans (hcc i hi)⟩

def sumK (x : Int) (h : Nat → Int) : Nat → Int
  | 0 => 0
  | k + 1 => sumK x h k + (h k - x) * (h k - x)
theorem sumK_bd (x : Int) (h : Nat → Int) (m k : Nat) (hk : k ≤ m) (hx1 : -1048576 ≤ x) (hx2 : x ≤ 1048576) (hh : ∀ j, j < m → -1048576 ≤ h j ∧ h j ≤ 1048576) : 0 ≤ sumK x h k ∧ sumK x h k ≤ k * 281474976710656 := by
  induction k with
  | zero => simp [sumK]
  | succ k ih =>
    have := hh k (by omega)
    have := sq_bd (n := h k - x) (by omega) (by omega)
    have := ih (by omega)
    simp only [sumK]
    omega
theorem sq_small {a b : Int} (ha : -1048576 ≤ a ∧ a ≤ 1048576) (hb : -1048576 ≤ b ∧ b ≤ 1048576) : 0 ≤ (a - b) * (a - b) ∧ (a - b) * (a - b) ≤ 281474976710656 := sq_bd (by omega) (by omega)

set_option maxHeartbeats 400000 in
theorem best1_any (i : Nat) (n m : Nat) (f h : Nat → Int) (v u : Value) (B1 B2 : Nat) (w : World) (hi : i < n) (hm : m ≤ 100)
    (hv : RI w v n f) (hu : RI w u m h) (hf : ∀ j, j < n → -1048576 ≤ f j ∧ f j ≤ 1048576) (hh : ∀ j, j < m → -1048576 ≤ h j ∧ h j ≤ 1048576)
    (c1 : w.cell? ⟨B1, 0, none⟩ = some u) (c2 : w.cell? ⟨B2, 0, none⟩ = some v) :
    Calls Try.prog 29 #[.int .i64 i, .pointer (some ⟨B1, 0, none⟩), .pointer (some ⟨B2, 0, none⟩)] w fun e w' => e = .returned (.int .i64 (sumK (f i) h m)) ∧ w = w' := by
  obtain ⟨ao, cap, rfl, hn, hc⟩ := hv
  obtain ⟨ao2, cap2, rfl, hm2, hc2⟩ := hu
  obtain ⟨b, off, rfl, hcc⟩ := hc (by omega)
  have hci := hcc i hi
  have hfi := hf i hi
  clear hcc hc
  have HC := hide hc2
  have HH := hide hh
  have HS := hide (fun k hk => sumK_bd (f i) h m k hk hfi.1 hfi.2 hh)
  clear hc2 hh hf
  go_enter Try.func29, Try.ntmps29
  go_wp2_with fail
  go_loop [5, 10] (fun s j => ∃ k : Nat, k ≤ m ∧ j = .int .i64 k ∧ s = .int .i64 (sumK (f i) h k)) (fun _ j => m - (intOf j).toNat)
  case atStart => exact ⟨0, by omega, rfl, rfl⟩
  case round =>
    obtain ⟨k, hk, rfl, rfl⟩ := hrel
    have hs := HS.out k hk
    by_cases hlt : k < m
    · obtain ⟨b2, off2, rfl, hcc2⟩ := HC.out (by omega)
      have hck := hcc2 k hlt
      have hhk := HH.out k hlt
      have hsq := sq_small hhk hfi
      clear hcc2
      go_wp2_with (go_at_call 27; refine (square_any _ _ (by omega) (by omega)).mono ?_; rintro e w' ⟨rfl, rfl⟩)
      go_round
      case rel => exact ⟨k + 1, by omega, by go_num, rfl⟩
      case measure => simp [intOf]; omega
    · obtain rfl : k = m := by omega
      go_wp2
      go_ret
      exact ⟨rfl, rfl⟩

set_option maxHeartbeats 400000 in
theorem sum_any (x : Int) (m : Nat) (h : Nat → Int) (u : Value) (w : World) (hm : m ≤ 100) (hx : -1048576 ≤ x ∧ x ≤ 1048576)
    (hu : RI w u m h) (hh : ∀ j, j < m → -1048576 ≤ h j ∧ h j ≤ 1048576) :
    Calls Try.prog 30 #[.int .i64 x, u] w fun e w' => e = .returned (.int .i64 (sumK x h m)) ∧ w = w' := by
  obtain ⟨ao2, cap2, rfl, hm2, hc2⟩ := hu
  have HC := hide hc2
  have HH := hide hh
  have HS := hide (fun k hk => sumK_bd x h m k hk hx.1 hx.2 hh)
  clear hc2 hh
  go_enter Try.func30, Try.ntmps30
  go_wp2_with fail
  go_loop [5, 6] (fun s j => ∃ k : Nat, k ≤ m ∧ j = .int .i64 k ∧ s = .int .i64 (sumK x h k)) (fun _ j => m - (intOf j).toNat)
  case atStart => exact ⟨0, by omega, rfl, rfl⟩
  case round =>
    obtain ⟨k, hk, rfl, rfl⟩ := hrel
    have hs := HS.out k hk
    by_cases hlt : k < m
    · obtain ⟨b2, off2, rfl, hcc2⟩ := HC.out (by omega)
      have hck := hcc2 k hlt
      have hhk := HH.out k hlt
      have hsq := sq_small hhk hx
      clear hcc2
      go_wp2_with (go_at_call 28; refine (far_any _ _ (by omega) (by omega)).mono ?_; rintro e w' ⟨rfl, rfl⟩)
      go_round
      case rel => exact ⟨k + 1, by omega, by go_num, rfl⟩
      case measure => simp [intOf]; omega
    · obtain rfl : k = m := by omega
      go_wp2
      go_ret
      exact ⟨rfl, rfl⟩

def bestV (n m : Nat) (f h : Nat → Int) : Nat := (leastK (fun i => sumK (f i) h m) n).1

set_option maxHeartbeats 400000 in
theorem best_any (n m : Nat) (f h : Nat → Int) (v u : Value) (w : World) (hn : n ≤ 1000000) (hm : m ≤ 100)
    (hv : RI w v n f) (hu : RI w u m h) (hf : ∀ j, j < n → -1048576 ≤ f j ∧ f j ≤ 1048576) (hh : ∀ j, j < m → -1048576 ≤ h j ∧ h j ≤ 1048576) :
    Calls Try.prog 18 #[v, u] w fun e w' => e = .returned (.int .i64 (bestV n m f h : Int)) ∧ Below w.heap.size w w' := by
  have hmm := hmf
  obtain ⟨ao, cap, rfl, hn', hc⟩ := hv
  obtain ⟨ao2, cap2, rfl, hm', hc2⟩ := hu
  have HV : Hid (RI w (.slice ao n cap) n f) := ⟨_, _, rfl, hn', hc⟩
  have HU : Hid (RI w (.slice ao2 m cap2) m h) := ⟨_, _, rfl, hm', hc2⟩
  clear hc hc2
  have HF := hide hf
  have HH := hide hh
  have c1 : ((w.alloc (.cells #[.slice ao n cap] 25)).alloc (.cells #[.slice ao2 m cap2] 25)).cell? ⟨w.heap.size + 1, 0, none⟩ = some (.slice ao2 m cap2) := by
    simp
  have c2 : ((w.alloc (.cells #[.slice ao n cap] 25)).alloc (.cells #[.slice ao2 m cap2] 25)).cell? ⟨w.heap.size, 0, none⟩ = some (.slice ao n cap) := by
    rw [cell_old _ _ (by simp), cell_new]; rfl
  have C1 := hide c1
  have C2 := hide c2
  clear c1 c2 hf hh
  go_enter Try.func18, Try.ntmps18
  go_wp2_with fail
  have hbb : Below w.heap.size w ((w.alloc (.cells #[.slice ao n cap] 25)).alloc (.cells #[.slice ao2 m cap2] 25)) := ((Below.refl _ _).alloc (Nat.le_refl _) _).alloc (by simp) _
  have HBB := hide hbb
  clear hbb
  refine (least_any 29 _ _ (fun i => sumK (f i) h m) n _ (by omega) cf29 (fun i wr hi hd => (best1_any i n m f h _ _ (w.heap.size + 1) w.heap.size wr hi hm (HV.out.below (HBB.out.trans (hd.below _)) (Nat.le_refl _)) (HU.out.below (HBB.out.trans (hd.below _)) (Nat.le_refl _)) HF.out HH.out ((hd.cell _).trans C1.out) ((hd.cell _).trans C2.out)).mono (fun e w' h => ⟨h.1, h.2 ▸ Dr.refl _⟩))).mono ?_
  rintro e w' ⟨rfl, hd⟩
  go_wp2
  go_ret
  exact ⟨rfl, HBB.out.trans (hd.below _)⟩

set_option maxHeartbeats 800000 in
theorem rbest_any (n m : Nat) (f h : Nat → Int) (v u : Value) (w : World) (hn : n ≤ 1000000) (hm : m ≤ 100)
    (hv : RI w v n f) (hu : RI w u m h) (hf : ∀ j, j < n → -1048576 ≤ f j ∧ f j ≤ 1048576) (hh : ∀ j, j < m → -1048576 ≤ h j ∧ h j ≤ 1048576) :
    Calls Try.prog 19 #[v, u] w fun e w' => e = .returned (.int .i64 (bestV n m f h : Int)) ∧ Dr w w' := by
  obtain ⟨ao, cap, rfl, hn', hc⟩ := hv
  have HC := hide hc
  have HU := hide hu
  have HF := hide hf
  have HH := hide hh
  clear hc hu hf hh
  obtain ⟨g, hg⟩ : ∃ g : Nat → Int, g = fun i => sumK (f i) h m := ⟨_, rfl⟩
  have HG := hide hg
  unfold bestV
  rw [← hg]
  clear hg
  by_cases h0 : n = 0
  · subst h0
    go_enter Try.func19, Try.ntmps19
    go_wp2_with fail
    refine wp_loop_rounds 1 ?_
    rw [rounds_succ]
    go_wp2_with fail
    go_ret
    exact ⟨rfl, Dr.refl _⟩
  · go_enter Try.func19, Try.ntmps19
    go_wp2_with fail
    go_loopw [5, 6] (fun o i wr => ∃ k : Nat, 1 ≤ k ∧ k ≤ n ∧ i = .int .i64 k ∧ o = .int .i64 ((leastK g k).1 : Int) ∧ Dr w wr) (fun _ i _ => n - (intOf i).toNat)
    case atStart => exact ⟨1, by omega, by omega, rfl, rfl, Dr.refl _⟩
    case round =>
      obtain ⟨k, hk1, hk, rfl, rfl, hdr⟩ := hrel
      obtain ⟨hv, hl⟩ := leastK_val g k hk1
      obtain ⟨o, ho2⟩ : ∃ o, o = leastK g k := ⟨_, rfl⟩
      rw [← ho2] at hv hl ⊢
      have HV := hide hv
      have HO := hide ho2
      clear ho2 hv
      by_cases hlt : k < n
      · obtain ⟨b, off, rfl, hcc⟩ := HC.out (by omega)
        have d1 := (hdr.cell _).trans (hcc k hlt)
        have d2 := (hdr.cell _).trans (hcc o.1 (by omega))
        have HK := hide (HF.out k hlt)
        have HO1 := hide (HF.out o.1 (by omega))
        have HU2 := hide (HU.out.below (hdr.below _) (Nat.le_refl _))
        clear hcc
        by_cases hc : g k < o.2
        · have HL : Hid (leastK g (k + 1) = (k, g k)) := by rw [leastK, if_pos (by rw [← HO.out]; exact Or.inr hc)]; exact hide rfl
          have hc2 : sumK (f k) h m < sumK (f o.1) h m := by rw [HV.out, HG.out] at hc; exact hc
          clear hc
          go_wp2_with fail
          go_quiet ((go_at_call 30; exact Calls.quiet_of_same ((sum_any _ m h _ _ hm (by first | exact HK.out | exact HO1.out) (HU2.out.below (Dr.below ⟨_, rfl⟩ _) (Nat.le_refl _)) HH.out).mono (fun _ _ h => ⟨h.1, h.2.symm⟩))))
          go_wp2
          go_roundw
          case rel => exact ⟨k + 1, by omega, by omega, by go_num, by rw [HL.out], hdr.drewN _⟩
          case measure => simp [intOf]; omega
        · have HL : Hid (leastK g (k + 1) = o) := by rw [leastK, if_neg (by rw [← HO.out]; intro h; rcases h with h | h; omega; exact hc h)]; exact hide HO.out.symm
          have hc2 : ¬ sumK (f k) h m < sumK (f o.1) h m := by rw [HV.out, HG.out] at hc; exact hc
          clear hc
          go_wp2_with fail
          go_quiet ((go_at_call 30; exact Calls.quiet_of_same ((sum_any _ m h _ _ hm (by first | exact HK.out | exact HO1.out) (HU2.out.below (Dr.below ⟨_, rfl⟩ _) (Nat.le_refl _)) HH.out).mono (fun _ _ h => ⟨h.1, h.2.symm⟩))))
          go_wp2
          go_roundw
          case rel => exact ⟨k + 1, by omega, by omega, by go_num, by rw [HL.out], hdr.drewN _⟩
          case measure => simp [intOf]; omega
      · obtain rfl : k = n := by omega
        go_wp2_with fail
        go_ret
        exact ⟨ret1 (by rw [HO.out]), hdr⟩
end Go.Proofs.Ytonamhikhjjacaa
