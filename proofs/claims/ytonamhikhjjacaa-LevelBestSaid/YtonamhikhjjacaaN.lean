import Derived.Test.YtonamhikhjjacaaI
import Derived.Test.YtonamhikhjjacaaM
import Derived.Maps.RangeWalk
namespace Go.Proofs.Ytonamhikhjjacaa
open Go.RowKit

/-- ints in a block, from a place on -/
def L2 (w : World) (A : Nat) (v u : Value) : Prop := w.cell? ⟨A, 0, none⟩ = some v ∧ w.cell? ⟨A, 1, none⟩ = some u

def smallT (t : Nat → Int) : Prop := ∀ j, j < 128 → sml (t j)

set_option maxRecDepth 100000 in
set_option maxHeartbeats 3200000 in
theorem lbest_ok {n m : Nat} {f h : Nat → Int} {v u : Value} {w : World} {ts : Array Value} {t : Nat → Int} (hv : RI w v n f) (hu : RI w u m h) (ht : Ag ts 128 t) (mask : Int) (h1 : allSmall n f = true) (h2 : allSmall m h = true) (h3 : smallV mask = true) :
    Calls Try.prog 4 #[.agg #[v, u], .agg ts, .int .i64 mask] w fun e w' => e = .returned (.bool true) ∧ Below w.heap.size w w' := by
  have HA := hide h1
  have HB := hide h2
  have HM := hide h3
  have HV := hide hv
  have HU := hide hu
  have HT := hide ht
  clear h1 h2 h3 hv hu ht
  go_enter Try.func4, Try.ntmps4
  have hB0 : Below w.heap.size w ((w.alloc (.cells #[v, u] 29)).alloc (.cells ts 34)) := ((Below.refl _ _).alloc (Nat.le_refl _) _).alloc (by simp) _
  have hl : L2 ((w.alloc (.cells #[v, u] 29)).alloc (.cells ts 34)) w.heap.size v u := by
    unfold L2
    exact ⟨(cell_old _ _ (by simp)).trans (cell_new _ _ _ 0), (cell_old _ _ (by simp)).trans (cell_new _ _ _ 1)⟩
  have hk : Bk ((w.alloc (.cells #[v, u] 29)).alloc (.cells ts 34)) (w.heap.size + 1) 128 t := by
    have h := Bk.new HT.out (w.alloc (.cells #[v, u] 29)) 34
    simpa using h
  have hsz : ((w.alloc (.cells #[v, u] 29)).alloc (.cells ts 34)).heap.size = w.heap.size + 2 := by simp
  have HB0 := hide hB0
  have HL := hide hl
  have HK := hide hk
  have HSZ := hide hsz
  clear hB0 hl hk hsz
  go_wp2_with fail
  generalize ((w.alloc (.cells #[v, u] 29)).alloc (.cells ts 34)) = w0 at HB0 HL HK HSZ ⊢
  refine (awake_any _).mono ?_
  rintro e w1 ⟨rfl, hb1'⟩
  have hb1 : Below w.heap.size w w1 := HB0.out.trans (hb1'.mono HB0.out.size)
  have hs1 : w.heap.size + 2 ≤ w1.heap.size := by have := hb1'.size; rw [HSZ.out] at this; exact this
  have HK1 := hide (HK.out.below hb1' (by rw [HSZ.out]; omega))
  have c0 := (hb1'.cell (p := ⟨w.heap.size, 0, none⟩) (by rw [HSZ.out]; simp)).trans HL.out.1
  have c1 := (hb1'.cell (p := ⟨w.heap.size, 1, none⟩) (by rw [HSZ.out]; simp)).trans HL.out.2
  clear hb1' HK HL HSZ HB0
  go_wp2_with fail
  refine (smalls_any n f _ _ (HV.out.below hb1 (Nat.le_refl _))).mono ?_
  rintro e w' ⟨rfl, rfl⟩
  rw [HA.out]
  go_wp2_with fail
  refine (smalls_any m h _ _ (HU.out.below hb1 (Nat.le_refl _))).mono ?_
  rintro e w' ⟨rfl, rfl⟩
  rw [HB.out]
  go_wp2_with fail
  refine (small_any mask _).mono ?_
  rintro e w' ⟨rfl, rfl⟩
  rw [HM.out]
  go_wp2_with fail
  go_loop [10, 11] (fun i _ => ∃ k : Nat, k ≤ 16 ∧ i = .int .i64 k ∧ Hid (∀ j, j < 4 * k → sml (t j) ∧ sml (t (64 + j)))) (fun i _ => 16 - (intOf i).toNat)
  case atStart => exact ⟨0, by omega, rfl, fun j hj => by omega⟩
  case round =>
    obtain ⟨k, hk, rfl, HS⟩ := hrel
    by_cases hlt : k < 16
    · have hdk : decide ((k : Int) < 16) = true := by simp; omega
      go_wp2_with fail
      go_loop [11] (fun c => ∃ q : Nat, q ≤ 4 ∧ c = .int .i64 q ∧ Hid (∀ j, j < 4 * k + q → sml (t j) ∧ sml (t (64 + j)))) (fun c => 4 - (intOf c).toNat)
      case atStart => exact ⟨0, by omega, rfl, HS.out⟩
      case round =>
        obtain ⟨q, hq, rfl, HS2⟩ := hrel
        by_cases hltq : q < 4
        · have g1 := (HK1.out (4 * k + q) (by omega)).1
          have g2 := (HK1.out (64 + (4 * k + q)) (by omega)).1
          rw [show 4 * k + q = k * 4 + q by omega] at g1
          rw [show 64 + (4 * k + q) = 64 + k * 4 + q by omega] at g2
          by_cases hsm1 : smallV (t (k * 4 + q)) = true
          · have HS1 := hide hsm1
            by_cases hsm2 : smallV (t (64 + k * 4 + q)) = true
            · have HS22 := hide hsm2
              clear hsm1 hsm2
              go_wp2_with fail
              refine (small_any _ _).mono ?_
              rintro e w' ⟨rfl, rfl⟩
              rw [HS1.out]
              go_wp2_with fail
              refine (small_any _ _).mono ?_
              rintro e w' ⟨rfl, rfl⟩
              rw [HS22.out]
              go_wp2_with fail
              go_round
              case rel => exact ⟨q + 1, by omega, by go_num, fun j hj => by
                by_cases e : j < 4 * k + q
                · exact HS2.out j e
                · obtain rfl : j = k * 4 + q := by omega
                  have a1 := HS1.out
                  have a2 := HS22.out
                  unfold smallV at a1 a2
                  unfold sml
                  exact ⟨by simpa using a1, by rw [show 64 + (k * 4 + q) = 64 + k * 4 + q by omega]; simpa using a2⟩⟩
              case measure => simp [intOf]; omega
            · have HS22 := hide (show smallV (t (64 + k * 4 + q)) = false by simpa using hsm2)
              clear hsm1 hsm2
              go_wp2_with fail
              refine (small_any _ _).mono ?_
              rintro e w' ⟨rfl, rfl⟩
              rw [HS1.out]
              go_wp2_with fail
              refine (small_any _ _).mono ?_
              rintro e w' ⟨rfl, rfl⟩
              rw [HS22.out]
              go_wp2_with fail
              go_ret
              exact ⟨rfl, hb1⟩
          · have HS1 := hide (show smallV (t (k * 4 + q)) = false by simpa using hsm1)
            clear hsm1
            go_wp2_with fail
            refine (small_any _ _).mono ?_
            rintro e w' ⟨rfl, rfl⟩
            rw [HS1.out]
            go_wp2_with fail
            go_ret
            exact ⟨rfl, hb1⟩
        · obtain rfl : q = 4 := by omega
          go_wp2_with fail
          go_round
          case rel => exact ⟨k + 1, by omega, by go_num, HS2.out⟩
          case measure => simp [intOf]; omega
    · obtain rfl : k = 16 := by omega
      go_wp2_with fail
      have st1 : ∀ j, j < 64 → sml (t (0 + j)) := fun j hj => by have := (HS.out j (by omega)).1; rw [Nat.zero_add]; exact this
      have st2 : ∀ j, j < 64 → sml (t (64 + j)) := fun j hj => (HS.out j (by omega)).2
      have hms : sml mask := by have h := HM.out; unfold smallV at h; unfold sml; simpa using h
      obtain ⟨sf, hn⟩ := small_all HA.out
      obtain ⟨sh, hm⟩ := small_all HB.out
      have d0 : ∀ n : Wb w1, n.1.cell? ⟨w.heap.size, 0, none⟩ = some v := fun n => (n.cell (show w.heap.size < w1.heap.size by omega)).trans c0
      have d1 : ∀ n : Wb w1, n.1.cell? ⟨w.heap.size, 1, none⟩ = some u := fun n => (n.cell (show w.heap.size < w1.heap.size by omega)).trans c1
      have DK : Hid (∀ n : Wb w1, Bk n.1 (w.heap.size + 1) 128 t) := fun n => HK1.out.below n.2 (by omega)
      have DV : Hid (∀ n' : Wb w1, RI n'.1 v n f) := fun n' => HV.out.below (hb1.trans (n'.2.mono hb1.size)) (Nat.le_refl _)
      have DU : Hid (∀ n' : Wb w1, RI n'.1 u m h) := fun n' => HU.out.below (hb1.trans (n'.2.mono hb1.size)) (Nat.le_refl _)
      have A0 := hide (agOf_ag 0 64 t)
      have A1 := hide (agOf_ag 64 64 t)
      have z0 := (agOf_ag 0 64 t).1
      have z1 := (agOf_ag 64 64 t).1
      clear c0 c1 HS HK1 HV HU HA HB HM HT
      have SF := hide sf
      have SH := hide sh
      have ST1 := hide st1
      have ST2 := hide st2
      have HMS := hide hms
      clear sf sh st1 st2 hms
      refine wp_region_below w1 (Below.refl _ _) (by kernel_rfl) (by kernel_rfl) ?_
      repeat (first
        | (with_reducible refine wpQuiet_load T33 rfl (.tmp 73) rfl ⟨w.heap.size + 1, 0, none⟩ rfl (agOf 0 64 t) z0 (fun n => (DK.out n).load (by omega)) ?_; go_frame)
        | (with_reducible refine wpQuiet_load T33 rfl (.tmp 75) rfl ⟨w.heap.size + 1, 64, none⟩ rfl (agOf 64 64 t) z1 (fun n => (DK.out n).load (by omega)) ?_; go_frame)
        | (with_reducible refine wpQuiet_load T33 rfl (.tmp 79) rfl ⟨w.heap.size + 1, 0, none⟩ rfl (agOf 0 64 t) z0 (fun n => (DK.out n).load (by omega)) ?_; go_frame)
        | (with_reducible refine wpQuiet_load T33 rfl (.tmp 81) rfl ⟨w.heap.size + 1, 64, none⟩ rfl (agOf 64 64 t) z1 (fun n => (DK.out n).load (by omega)) ?_; go_frame)
        | go_big_quiet_step (first
          | (go_at_call 18; exact Calls.wb (best_any _ _ _ _ _ _ _ (by omega) hm (DV.out _) (DU.out _) SF.out SH.out))
          | (go_at_call 19; exact Calls.wb_dr (rbest_any _ _ _ _ _ _ _ (by omega) hm (DV.out _) (DU.out _) SF.out SH.out))
          | (go_at_call 20; exact Calls.wb (error_any _ _ _ _ _ _ A0.out A1.out ST1.out ST2.out))
          | (go_at_call 21; exact Calls.wb (rerror_any _ _ _ _ _ _ A0.out A1.out ST1.out ST2.out HMS.out.1 HMS.out.2))))
      refine wpQuiet_nil ?_
      rintro _ ⟨⟨w3, hb3⟩, rfl⟩
      go_wp2
      go_ret
      exact ⟨rfl, hb1.trans (hb3.mono hb1.size)⟩

set_option maxRecDepth 100000 in
set_option maxHeartbeats 3200000 in
theorem lbest_no {n m : Nat} {f h : Nat → Int} {v u : Value} {w : World} {ts : Array Value} (hv : RI w v n f) (hu : RI w u m h) (mask : Int) (hno : allSmall n f = false ∨ allSmall m h = false ∨ smallV mask = false) :
    Calls Try.prog 4 #[.agg #[v, u], .agg ts, .int .i64 mask] w fun e w' => e = .returned (.bool true) ∧ Below w.heap.size w w' := by
  have hb : (!allSmall n f || !allSmall m h || !smallV mask) = true := by
    rcases hno with h | h | h
    · rw [h]; rfl
    · rw [h]; simp
    · rw [h]; simp
  clear hno
  generalize hA : allSmall n f = A at hb
  generalize hB : allSmall m h = B at hb
  generalize hM : smallV mask = M at hb
  have HA := hide hA
  have HB := hide hB
  have HM := hide hM
  have HV := hide hv
  have HU := hide hu
  clear hA hB hM hv hu
  have hB0 : Below w.heap.size w ((w.alloc (.cells #[v, u] 29)).alloc (.cells ts 34)) := ((Below.refl _ _).alloc (Nat.le_refl _) _).alloc (by simp) _
  have hl : L2 ((w.alloc (.cells #[v, u] 29)).alloc (.cells ts 34)) w.heap.size v u := by
    unfold L2
    exact ⟨(cell_old _ _ (by simp)).trans (cell_new _ _ _ 0), (cell_old _ _ (by simp)).trans (cell_new _ _ _ 1)⟩
  have hsz : ((w.alloc (.cells #[v, u] 29)).alloc (.cells ts 34)).heap.size = w.heap.size + 2 := by simp
  have HB0 := hide hB0
  have HL := hide hl
  have HSZ := hide hsz
  clear hB0 hl hsz
  have HNO := hide hb
  cases A <;> cases B <;> cases M
  case true.true.true => simp at hb
  all_goals
    clear hb HNO
    go_enter Try.func4, Try.ntmps4
    go_wp2_with fail
    generalize ((w.alloc (.cells #[v, u] 29)).alloc (.cells ts 34)) = w0 at HB0 HL HSZ ⊢
    refine (awake_any _).mono ?_
    rintro e w1 ⟨rfl, hb1'⟩
    have hb1 : Below w.heap.size w w1 := HB0.out.trans (hb1'.mono HB0.out.size)
    have c0 := (hb1'.cell (p := ⟨w.heap.size, 0, none⟩) (by rw [HSZ.out]; simp)).trans HL.out.1
    have c1 := (hb1'.cell (p := ⟨w.heap.size, 1, none⟩) (by rw [HSZ.out]; simp)).trans HL.out.2
    clear hb1' HL HSZ HB0
    go_wp2_with fail
    refine (smalls_any n f _ _ (HV.out.below hb1 (Nat.le_refl _))).mono ?_
    rintro e w' ⟨rfl, rfl⟩
    rw [HA.out]
    go_wp2_with fail
    refine (smalls_any m h _ _ (HU.out.below hb1 (Nat.le_refl _))).mono ?_
    rintro e w' ⟨rfl, rfl⟩
    rw [HB.out]
    go_wp2_with (go_at_call 17; refine (small_any mask _).mono ?_; rintro e w' ⟨rfl, rfl⟩; rw [HM.out])
    go_ret
    exact ⟨rfl, hb1⟩

theorem lbest_any {n m : Nat} {f h : Nat → Int} {v u : Value} {w : World} {ts : Array Value} {t : Nat → Int} (hv : RI w v n f) (hu : RI w u m h) (ht : Ag ts 128 t) (mask : Int) :
    Calls Try.prog 4 #[.agg #[v, u], .agg ts, .int .i64 mask] w fun e w' => e = .returned (.bool true) ∧ Below w.heap.size w w' := by
  by_cases hno : allSmall n f = false ∨ allSmall m h = false ∨ smallV mask = false
  · exact lbest_no hv hu mask hno
  · have h1 : allSmall n f = true := by
      cases e : allSmall n f
      · exact absurd (Or.inl e) hno
      · rfl
    have h2 : allSmall m h = true := by
      cases e : allSmall m h
      · exact absurd (Or.inr (Or.inl e)) hno
      · rfl
    have h3 : smallV mask = true := by
      cases e : smallV mask
      · exact absurd (Or.inr (Or.inr e)) hno
      · rfl
    exact lbest_ok hv hu ht mask h1 h2 h3
end Go.Proofs.Ytonamhikhjjacaa
