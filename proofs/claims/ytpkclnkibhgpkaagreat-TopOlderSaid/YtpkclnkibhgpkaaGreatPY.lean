/-
What blocks of ETC1 and of ETC2 decode to; the surfaces of both. Its conditions: none but what is told of the texture.
-/
import Derived.Test.YtpkclnkibhgpkaaGreatPW
import Derived.Test.YtpkclnkibhgpkaaGreatYH
import Derived.Deep.CutBlock
namespace Go.Proofs.YtpkclnkibhgpkaaGreat
open Go.RowKit
theorem tile_ag (g : Nat → Int) : Sx.tileV g = .agg (agOf 0 64 g) := by kernel_rfl
attribute [local irreducible] agOf
open Classical in
noncomputable def TT (T : (f : Nat → Int) → (∀ i, 0 ≤ f i ∧ f i ≤ 255) → Nat → Int) (g : Nat → Int) : Nat → Int := if h : ∀ i, 0 ≤ g i ∧ g i ≤ 255 then T g h else fun _ => 0
open Classical in
noncomputable def FF (g : Nat → Int) : Int := if h : ∀ i, 0 ≤ g i ∧ g i ≤ 255 then Sx.F7 g h else 3
theorem decOK7 : DecOK 7 (TT Sx.T7) := fun v g w hr => by
  obtain ⟨ao, cap, rfl, h1, h2, h3, h4⟩ := hr
  obtain ⟨b, off, rfl, hc⟩ := h4 (by omega)
  have := Sx.dec45_7 g h3 b off cap w h1 hc
  rw [tile_ag] at this
  unfold TT
  rw [dif_pos h3]
  exact this
theorem decOK8 : DecOK 8 (TT Sx.T8) := fun v g w hr => by
  obtain ⟨ao, cap, rfl, h1, h2, h3, h4⟩ := hr
  obtain ⟨b, off, rfl, hc⟩ := h4 (by omega)
  have := Sx.dec45_8 g h3 b off cap w h1 hc
  rw [tile_ag] at this
  unfold TT
  rw [dif_pos h3]
  exact this
theorem TT_eq (g : Nat → Int) (h : FF g = 3) : ∀ i, i < 64 → TT Sx.T8 g i = TT Sx.T7 g i := by
  intro i hi
  unfold FF at h
  unfold TT
  by_cases q : ∀ i, 0 ≤ g i ∧ g i ≤ 255
  · rw [dif_pos q] at h ⊢
    rw [dif_pos q]
    exact Sx.T8_eq g q h i hi
  · rw [dif_neg q, dif_neg q]
theorem lay1_congr {W H : Int} {F t t' : Nat → Int} {X Y : Int} {i : Nat} (h : ∀ j, j < 4 → t (i * 4 + j) = t' (i * 4 + j)) : lay1 W H F t X Y i = lay1 W H F t' X Y i := by
  unfold lay1
  split
  · funext j
    split
    · rename_i q
      exact h _ (by omega)
    · rfl
  · rfl
theorem layT_congr {W H : Int} {F t t' : Nat → Int} {x y : Int} (h : ∀ j, j < 64 → t j = t' j) : ∀ k, k ≤ 16 → layT W H F t x y k = layT W H F t' x y k
  | 0, _ => rfl
  | k + 1, hk => by
    rw [layT, layT, layT_congr h k (by omega)]
    exact lay1_congr fun j hj => h _ (by omega)
theorem surR_congr {W H : Int} {tf tf' : Nat → Nat → Nat → Int} {y : Nat} {F : Nat → Int} : ∀ x, (∀ x', x' < x → ∀ j, j < 64 → tf y x' j = tf' y x' j) → surR W H tf y F x = surR W H tf' y F x
  | 0, _ => rfl
  | x + 1, h => by
    rw [surR, surR, surR_congr x fun x' hx' => h x' (by omega)]
    exact layT_congr (h x (by omega)) 16 (Nat.le_refl _)
theorem surV_congr {W H : Int} {tf tf' : Nat → Nat → Nat → Int} {cols : Nat} : ∀ y, (∀ y', y' < y → ∀ x', x' < cols → ∀ j, j < 64 → tf y' x' j = tf' y' x' j) → surV W H tf cols y = surV W H tf' cols y
  | 0, _ => rfl
  | y + 1, h => by
    rw [surV, surV, surV_congr y fun y' hy' => h y' (by omega)]
    exact surR_congr cols fun x' hx' => h y (by omega) x' hx'
/-- where no difference goes too far, the surfaces are one -/
theorem sF_eq {W H Ly F n : Int} {N : Nat} {L : Nat → Nat} {g : Nat → Nat → Int} (ok : TexOK W H Ly F n N L) {i : Nat} (hi : i < N) (h : ∀ k, k * 8 + 8 ≤ L i → FF (fun j => g i (k * 8 + j)) = 3) : sF (TT Sx.T8) g W H n i = sF (TT Sx.T7) g W H n i := by
  unfold sF
  refine surV_congr _ fun y hy x hx j hj => TT_eq _ (h (y * sC W H n i + x) ?_) j hj
  rw [(lenI ok hi).1]
  have := Nat.mul_le_mul_right (sC W H n i) (show y + 1 ≤ sR W H n i by omega)
  rw [Nat.add_mul, Nat.one_mul, Nat.mul_comm (sR W H n i)] at this
  omega
set_option maxRecDepth 100000 in
set_option maxHeartbeats 2000000 in
/-- Light: it tells that there are not too many -/
theorem light_any (f W H Ly F n : Int) (dv pv : Value) (N : Nat) (V : Nat → Value) (L : Nat → Nat) (g : Nat → Nat → Int) (M : Nat) (K U : Nat → ByteArray) (w : World) (hD : Dat w dv N V L g) (hP : Prs w pv M K U) :
    Calls Tryz.prog 6 #[.agg #[.int .i64 f, .int .i64 W, .int .i64 H, .int .i64 Ly, .int .i64 F, .int .i64 n, dv, pv]] w fun e w' => ∃ t : Bool, e = .returned (.bool t) ∧ (t = true → N ≤ 300) ∧ Below w.heap.size w w' := by
  have DD := hide hD
  have PP := hide hP
  obtain ⟨ao, cap, rfl, hN, hc, hr⟩ := hD
  obtain ⟨ap, capp, rfl, hM, hpc⟩ := hP
  have HC := hide hc
  have HR := hide hr
  have HP := hide hpc
  clear hc hr hpc
  go_enter Tryz.func6, Tryz.ntmps6
  go_upto_region 1 with fail
  generalize hw1 : w.alloc _ = w1
  have B0 := hide (show Box w1 w.heap.size #[.int .i64 f, .int .i64 W, .int .i64 H, .int .i64 Ly, .int .i64 F, .int .i64 n, .slice ao N cap, .slice ap M capp] by rw [← hw1]; exact Box.mk' rfl)
  have L1 := hide (show Below w.heap.size w w1 by rw [← hw1]; exact (Below.refl _ _).alloc (Nat.le_refl _) _)
  clear hw1
  go_upto_block 0 with fail
  go_cut [3] from 4 to 25 (fun s wx => ∃ x : Int, s = .int .i64 x ∧ Box wx w.heap.size #[.int .i64 f, .int .i64 W, .int .i64 H, .int .i64 Ly, .int .i64 F, .int .i64 n, .slice ao N cap, .slice ap M capp] ∧ Below w.heap.size w wx)
  case first =>
    go_wp2_with fail
    go_loopw [3, 4] (fun s i wr => ∃ (k : Nat) (x : Int), k ≤ N ∧ i = .int .i64 k ∧ s = .int .i64 x ∧ Box wr w.heap.size #[.int .i64 f, .int .i64 W, .int .i64 H, .int .i64 Ly, .int .i64 F, .int .i64 n, .slice ao N cap, .slice ap M capp] ∧ Below w.heap.size w wr) (fun _ i _ => N - (intOf i).toNat)
    case atStart => exact ⟨0, 0, by omega, rfl, rfl, B0.out, L1.out⟩
    case round =>
      obtain ⟨k, x, hk, rfl, rfl, hbx, hbw⟩ := hrel
      have HBX := hide hbx
      have HB := hide hbw
      clear hbw
      obtain ⟨-, -, -, -, -, -, c6, c7⟩ := hbx.c8
      clear hbx
      by_cases hlt : k < N
      · obtain ⟨bb, off, rfl, h1⟩ := HC.out (by omega)
        have e1 := (HB.out.cell (p := ⟨bb, off + k, none⟩) (World.block_lt_of_cell? w _ (h1 k hlt))).trans (h1 k hlt)
        obtain ⟨a1, cp1, hV, -, -, -, -⟩ := HR.out k hlt
        rw [hV] at e1
        clear h1 hV
        by_cases h400 : k < 400
        · have d4 : decide ((k : Int) < 400) = true := by simpa using (by omega : (k : Int) < 400)
          go_wp2
          go_roundw
          case rel => exact ⟨k + 1, _, by omega, by go_num, rfl, HBX.out, HB.out⟩
          case measure => simp [intOf]; omega
        · have d4 : decide ((k : Int) < 400) = false := by simpa using (by omega : (400 : Int) ≤ k)
          go_wp2
          go_meet
          exact ⟨_, rfl, HBX.out, HB.out⟩
      · obtain rfl : k = N := by omega
        go_wp2
        go_meet
        exact ⟨_, rfl, HBX.out, HB.out⟩
  case rest =>
  obtain ⟨x, rfl, hbx, hbw⟩ := hcut
  have HBX := hide hbx
  have HB := hide hbw
  clear hbw hbx B0 L1
  go_upto_block 2 with fail
  go_cut [3] from 5 to 54 (fun s wx => ∃ x : Int, s = .int .i64 x ∧ Box wx w.heap.size #[.int .i64 f, .int .i64 W, .int .i64 H, .int .i64 Ly, .int .i64 F, .int .i64 n, .slice ao N cap, .slice ap M capp] ∧ Below w.heap.size w wx)
  case first =>
    go_wp2_with fail
    go_loopw [3, 5] (fun s i wr => ∃ (k : Nat) (x : Int), k ≤ M ∧ i = .int .i64 k ∧ s = .int .i64 x ∧ Box wr w.heap.size #[.int .i64 f, .int .i64 W, .int .i64 H, .int .i64 Ly, .int .i64 F, .int .i64 n, .slice ao N cap, .slice ap M capp] ∧ Below w.heap.size w wr) (fun _ i _ => M - (intOf i).toNat)
    case atStart => exact ⟨0, _, by omega, rfl, rfl, HBX.out, HB.out⟩
    case round =>
      obtain ⟨k, x, hk, rfl, rfl, hbx, hbw⟩ := hrel
      have HBX := hide hbx
      have HB := hide hbw
      clear hbw
      obtain ⟨-, -, -, -, -, -, c6, c7⟩ := hbx.c8
      clear hbx
      by_cases hlt : k < M
      · obtain ⟨bb, off, rfl, h1⟩ := HP.out (by omega)
        have e1 := (HB.out.cell (p := ⟨bb, off + k * 2, none⟩) (World.block_lt_of_cell? w _ (h1 k hlt).1)).trans (h1 k hlt).1
        have e2 := (HB.out.cell (p := ⟨bb, off + k * 2 + 1, none⟩) (World.block_lt_of_cell? w _ (h1 k hlt).2)).trans (h1 k hlt).2
        clear h1
        by_cases h400 : k < 400
        · have d4 : decide ((k : Int) < 400) = true := by simpa using (by omega : (k : Int) < 400)
          go_upto_region 9 with fail
          go_quiet (fail)
          go_wp2
          go_roundw
          case rel => exact ⟨k + 1, _, by omega, by go_num, rfl, HBX.out.drewN _, Below.drewN HB.out _⟩
          case measure => simp [intOf]; omega
        · have d4 : decide ((k : Int) < 400) = false := by simpa using (by omega : (400 : Int) ≤ k)
          go_wp2
          go_meet
          exact ⟨_, rfl, HBX.out, HB.out⟩
      · obtain rfl : k = M := by omega
        go_wp2
        go_meet
        exact ⟨_, rfl, HBX.out, HB.out⟩
  case rest =>
  obtain ⟨x, rfl, hbx, hbw⟩ := hcut
  have HB := hide hbw
  obtain ⟨-, -, -, -, -, -, c6, c7⟩ := hbx.c8
  clear hbx hbw HBX
  by_cases g1 : N ≤ 300
  · have d1 : decide ((N : Int) ≤ 300) = true := by simpa using (by omega : (N : Int) ≤ 300)
    by_cases g2 : M ≤ 100
    · have d2 : decide ((M : Int) ≤ 100) = true := by simpa using (by omega : (M : Int) ≤ 100)
      go_wp2
      go_ret
      exact ⟨_, rfl, fun _ => g1, HB.out⟩
    · have d2 : decide ((M : Int) ≤ 100) = false := by simpa using (by omega : (100 : Int) < M)
      go_wp2
      go_ret
      exact ⟨_, rfl, fun _ => g1, HB.out⟩
  · have d1 : decide ((N : Int) ≤ 300) = false := by simpa using (by omega : (300 : Int) < N)
    go_wp2
    go_ret
    exact ⟨_, rfl, fun h => (by cases h), HB.out⟩
end Go.Proofs.YtpkclnkibhgpkaaGreat
/-
The law: an ETC1 texture, as one of ETC2, has the same surfaces, unless a difference goes too far. Its conditions: a texture that can be read; that awake is true.
-/
namespace Go.Proofs.YtpkclnkibhgpkaaGreat
open Go.RowKit
attribute [local irreducible] agOf
theorem eq3' (d : Nat) (a b : Int) (w : World) : (Op.equalIn (d + 1) 3 (.int .i64 a) (.int .i64 b)).run Tryz.prog w = .ok (a == b) w := by
  simp [Op.equalIn, run_underlying Tryz.underlying3]
theorem p41 (a b c d : Int) (w : World) : (part 3 #[.int .i64 a, .int .i64 b, .int .i64 c, .int .i64 d] 0).run Tryz.prog w = .ok (.int .i64 a) w ∧ (part 3 #[.int .i64 a, .int .i64 b, .int .i64 c, .int .i64 d] 1).run Tryz.prog w = .ok (.int .i64 b) w ∧
  (part 3 #[.int .i64 a, .int .i64 b, .int .i64 c, .int .i64 d] 2).run Tryz.prog w = .ok (.int .i64 c) w ∧ (part 3 #[.int .i64 a, .int .i64 b, .int .i64 c, .int .i64 d] 3).run Tryz.prog w = .ok (.int .i64 d) w := ⟨by kernel_rfl, by kernel_rfl, by kernel_rfl, by kernel_rfl⟩
theorem size3 (w : World) : (sizeOf 3).run Tryz.prog w = .ok 1 w := by kernel_rfl
theorem equal41 (a b c d : Int) (w : World) : (Op.equal 41 (.agg #[.int .i64 a, .int .i64 b, .int .i64 c, .int .i64 d]) (.agg #[.int .i64 a, .int .i64 b, .int .i64 c, .int .i64 d])).run Tryz.prog w = .ok true w := by
  unfold Op.equal Op.maxDepth
  rw [show 10000 = 9998 + 1 + 1 from rfl]
  unfold Op.equalIn
  simp only [Sem.run_bind, run_underlying Tryz.underlying41, Result.andThen_ok, size3]
  have h := p41 a b c d w
  simp [h.1, h.2.1, h.2.2.1, h.2.2.2, eq3', Std.Legacy.Range.forIn_eq_forIn_range', List.range']
theorem neq41 (a b c d : Int) (w : World) : (binOp .neq 41 (.agg #[.int .i64 a, .int .i64 b, .int .i64 c, .int .i64 d]) (.agg #[.int .i64 a, .int .i64 b, .int .i64 c, .int .i64 d])).run Tryz.prog w = .ok (.bool false) w := by
  have h := equal41 a b c d w
  simp [binOp, h]
theorem T37 : AggT Tryz.prog 37 26 #[.bool false, .bool false, .int .i64 0, .int .i64 0, .int .i64 0, .int .i64 0, .int .i64 0, .int .i64 0, .int .i64 0, .int .i64 0, .int .i64 0, .int .i64 0, .int .i64 0, .int .i64 0, .int .i64 0, .int .i64 0, .int .i64 0, .int .i64 0, .int .i64 0, .int .i64 0, .int .i64 0, .int .i64 0, .int .i64 0, .int .i64 0, .int .i64 0, .int .i64 0] :=
  ⟨⟨_, Tryz.underlying37, rfl⟩, by kernel_rfl, fun _ => by kernel_rfl, rfl, fun _ => by kernel_rfl⟩
theorem T42 : AggT Tryz.prog 42 8 #[.int .i64 0, .int .i64 0, .int .i64 0, .int .i64 0, .int .i64 0, .int .i64 0, .int .i64 0, .int .i64 0] :=
  ⟨⟨_, Tryz.underlying42, rfl⟩, by kernel_rfl, fun _ => by kernel_rfl, rfl, fun _ => by kernel_rfl⟩
/-- Parts and Bases, of eight bytes that can be read: how far -/
theorem far_any (h : Nat → Int) (hh : ∀ i, 0 ≤ h i ∧ h i ≤ 255) : ∃ A B : Array Value, A.size = 26 ∧ B.size = 8 ∧ (∀ v ∈ A.toList, v.oneCell' = true) ∧ (∀ v ∈ B.toList, v.oneCell' = true) ∧
    (∀ (b off cap : Nat) (w : World), 8 ≤ cap → (∀ i, i < 8 → w.cell? ⟨b, off + i, none⟩ = some (.int .u8 (h i))) → Calls Tryz.prog 8 #[.slice (some ⟨b, off, none⟩) 8 cap] w fun e w' => e = .returned (.tuple #[.agg A, .int .i64 0]) ∧ Below w.heap.size w w') ∧
    ∀ w, Calls Tryz.prog 9 #[.agg A] w fun e w' => e = .returned (.tuple #[.agg B, .int .i64 (FF h)]) ∧ Below w.heap.size w w' := by
  have hFF : FF h = Sx.F7 h hh := by unfold FF; rw [dif_pos hh]
  have one : ∀ (ks : List Sx.Kd) (x : Nat → Int) (t : Nat → Bool) (i : Nat) (v : Value), v ∈ Sx.kdVal x t ks i → v.oneCell' = true := by
    intro ks
    induction ks with
    | nil => intro x t i v hv; cases hv
    | cons k r ih =>
      intro x t i v hv
      cases k <;> (unfold Sx.kdVal at hv; rcases List.mem_cons.1 hv with rfl | hv; rfl; exact ih _ _ _ _ hv)
  refine ⟨(Sx.kdVal (Sx.pX h hh) (Sx.pT h hh) Sx.kdBlock 0).toArray, (Sx.kdVal (Sx.basV (Sx.pT h hh 0) (Sx.pX h hh) (Sx.pT h hh) (Sx.pX_bd h hh)) (fun _ => false) Sx.kdBases 0).toArray, rfl, rfl, fun v hv => one _ _ _ _ v hv, fun v hv => one _ _ _ _ v hv, fun b off cap w hc hcell => Sx.parts_any h hh b off cap w hc hcell, fun w => ?_⟩
  rw [hFF]
  exact Sx.bases_any (Sx.pT h hh 0) (Sx.pX h hh) (Sx.pT h hh) (Sx.pX_bd h hh) w
theorem Box.isS2 {w : World} {b : Nat} {cs : Array Value} (h : Box w b cs) {n : Nat} (hn : cs.size = n) : ∀ j, j < n → (w.cell? ⟨b, 0 + j, none⟩).isSome = true ∧ w.frozen? ⟨b, 0 + j, none⟩ = false := fun j hj => by
  have hv : cs[j]? = some cs[j] := Array.getElem?_eq_getElem (by omega)
  obtain ⟨h1, h2⟩ := h j _ hv
  rw [Nat.zero_add, h1]
  exact ⟨rfl, h2⟩
theorem SetAt.loads0 {w w' : World} {b : Nat} {cs : Array Value} (h : SetAt w b 0 cs w') : ∀ j v, cs[j]? = some v → w'.cell? ((⟨b, 0, none⟩ : Addr).add j) = some v := fun j v hj => by
  rw [Addr.add_lit]
  exact (h.inn j (Array.getElem?_eq_some_iff.1 hj).1).trans hj
theorem Box.set0 {w : World} {b : Nat} {x v a1 a2 a3 a4 a5 a6 a7 : Value} (h : Box w b #[x, a1, a2, a3, a4, a5, a6, a7]) : Box (w.setCell ⟨b, 0, none⟩ v) b #[v, a1, a2, a3, a4, a5, a6, a7] := by
  intro j u hj
  obtain ⟨h1, h2⟩ := h 0 x rfl
  match j, hj with
  | 0, hj =>
    simp only [List.getElem?_toArray, List.getElem?_cons_zero, Option.some.injEq] at hj
    subst hj
    exact ⟨World.cell?_setCell_same' _ _ _ (by rw [h1]; rfl), by rw [World.frozen?_setCell]; exact h2⟩
  | j + 1, hj =>
    obtain ⟨g1, g2⟩ := h (j + 1) u (by simpa using hj)
    exact ⟨by rw [World.cell?_setCell_other _ _ _ _ (by intro e; injection e with _ e; exact absurd e (by omega))]; exact g1, by rw [World.frozen?_setCell]; exact g2⟩
/-- what can be read of a row of surfaces -/
def SurQ (w : World) (B : Nat) (ao : Option Addr) (k : Nat) (M : Nat → Nat) (F : Nat → Nat → Int) : Prop :=
  ∀ i, i < k → ∃ g p c : Nat, ao = some ⟨g, 0, none⟩ ∧ w.cell? ⟨g, i * 3 + 2, none⟩ = some (.slice (some ⟨p, 0, none⟩) (M i) c) ∧ Bk w p (M i * 4) (F i) ∧ B ≤ g ∧ B ≤ p ∧ g < w.heap.size ∧ p < w.heap.size
theorem SurQ.kept {w w' : World} {B : Nat} {ao : Option Addr} {k : Nat} {M : Nat → Nat} {F : Nat → Nat → Int} (h : SurQ w B ao k M F) (hs : w.heap.size ≤ w'.heap.size) (hb : ∀ q, B ≤ q → q < w.heap.size → w'.heap[q]? = w.heap[q]?) : SurQ w' B ao k M F := fun i hi => by
  obtain ⟨g, p, c, h1, h2, h3, h4, h5, h6, h7⟩ := h i hi
  refine ⟨g, p, c, h1, (World.cell?_of_block (hb g h4 h6)).trans h2, fun j hj => ?_, h4, h5, by omega, by omega⟩
  exact ⟨(World.cell?_of_block (a := ⟨p, j, none⟩) (hb p h5 h7)).trans (h3 j hj).1, (World.frozen?_of_block (a := ⟨p, j, none⟩) (hb p h5 h7)).trans (h3 j hj).2⟩
theorem SurQ.below {w w' : World} {B : Nat} {ao : Option Addr} {k : Nat} {M : Nat → Nat} {F : Nat → Nat → Int} (h : SurQ w B ao k M F) (hb : Below w.heap.size w w') : SurQ w' B ao k M F := h.kept hb.size fun q _ hq => hb.block q hq
theorem Surs.read {w : World} {B : Nat} {v : Value} {k : Nat} {X Y : Nat → Int} {M : Nat → Nat} {F : Nat → Nat → Int} (h : Surs w B v k X Y M F) : ∃ (ao : Option Addr) (cap : Nat), v = .slice ao k cap ∧ SurQ w B ao k M F := by
  obtain ⟨GP, CP, h1, h2⟩ := h
  have h1' := h1
  rcases h1.2 with ⟨rfl, rfl⟩ | ⟨g, cap, cur, rfl, a1, a2, a3, a4, a5, a6⟩
  · exact ⟨none, 0, rfl, fun i hi => by omega⟩
  · refine ⟨_, cap, rfl, fun i hi => ⟨g, GP i, CP i, rfl, ?_, (h2 i hi).2.2.1, a1, (h2 i hi).1, ?_, (h2 i hi).2.2.2⟩⟩
    · have e := (scells_at X Y M GP CP k i hi).2.2
      rw [← a6, List.getElem?_take_of_lt (by omega)] at e
      simp only [World.cell?, a2]
      simpa using e
    · exact (h1'.lt g rfl).2
def AwakeOK : Prop := ∀ w, Calls Tryz.prog 5 #[] w fun e w' => e = .returned (.bool true) ∧ Below w.heap.size w w'
set_option maxRecDepth 100000 in
set_option maxHeartbeats 4000000 in
theorem older_any (HAW : AwakeOK) (f W H Ly F n : Int) (dv pv : Value) (N : Nat) (V : Nat → Value) (L : Nat → Nat) (g : Nat → Nat → Int) (M : Nat) (K U : Nat → ByteArray) (w : World)
    (hW0 : -9223372036854775808 ≤ W) (hW : W ≤ 9223372036854775807) (hH0 : -9223372036854775808 ≤ H) (hH : H ≤ 9223372036854775807) (hL0 : -9223372036854775808 ≤ Ly) (hL : Ly ≤ 9223372036854775807)
    (hF0 : -9223372036854775808 ≤ F) (hF : F ≤ 9223372036854775807) (hn0 : -9223372036854775808 ≤ n) (hn : n ≤ 9223372036854775807) (hD : Dat w dv N V L g) (hP : Prs w pv M K U) :
    Calls Tryz.prog 3 #[.agg #[.int .i64 f, .int .i64 W, .int .i64 H, .int .i64 Ly, .int .i64 F, .int .i64 n, dv, pv]] w fun e w' => e = .returned (.bool true) ∧ Below w.heap.size w w' := by
  have DD := hide hD
  have PP := hide hP
  have AW := hide HAW
  obtain ⟨ao, cap, rfl, hN, hc, hr⟩ := hD
  have HC := hide hc
  have HR := hide hr
  clear hc hr hP HAW
  go_enter Tryz.func3, Tryz.ntmps3
  go_upto_region 1 with fail
  generalize hw1 : w.alloc _ = w1
  have B0 := hide (show Box w1 w.heap.size #[.int .i64 f, .int .i64 W, .int .i64 H, .int .i64 Ly, .int .i64 F, .int .i64 n, .slice ao N cap, pv] by rw [← hw1]; exact Box.mk' rfl)
  have L1 := hide (show Below w.heap.size w w1 by rw [← hw1]; exact (Below.refl _ _).alloc (Nat.le_refl _) _)
  have z1 : w.heap.size + 1 ≤ w1.heap.size := by rw [← hw1]; simp
  clear hw1
  go_wp2_with fail
  refine (AW.out _).mono ?_
  rintro e w2 ⟨rfl, hb2⟩
  have B2 := hide (B0.out.below hb2 (by omega))
  have L2 := hide (L1.out.trans (hb2.mono (by omega)))
  have z2 : w.heap.size + 1 ≤ w2.heap.size := by have := hb2.size; omega
  clear hb2 B0 L1 z1
  go_upto_block 0 with fail
  go_cut [4] from 5 to 38 (fun s wx => ∃ x : Int, s = .int .i64 x ∧ Box wx w.heap.size #[.int .i64 f, .int .i64 W, .int .i64 H, .int .i64 Ly, .int .i64 F, .int .i64 n, .slice ao N cap, pv] ∧ Below w.heap.size w wx)
  case first =>
    go_wp2_with fail
    go_loopw [4, 5] (fun s i wr => ∃ (k : Nat) (x : Int), k ≤ N ∧ i = .int .i64 k ∧ s = .int .i64 x ∧ Box wr w.heap.size #[.int .i64 f, .int .i64 W, .int .i64 H, .int .i64 Ly, .int .i64 F, .int .i64 n, .slice ao N cap, pv] ∧ Below w.heap.size w wr) (fun _ i _ => N - (intOf i).toNat)
    case atStart => exact ⟨0, 0, by omega, rfl, rfl, B2.out, L2.out⟩
    case round =>
      obtain ⟨k, x, hk, rfl, rfl, hbx, hbw⟩ := hrel
      have HBX := hide hbx
      have HB := hide hbw
      clear hbw
      obtain ⟨-, -, -, -, -, -, c6, c7⟩ := hbx.c8
      clear hbx
      by_cases hlt : k < N
      · obtain ⟨bb, off, rfl, h1⟩ := HC.out (by omega)
        have e1 := (HB.out.cell (p := ⟨bb, off + k, none⟩) (World.block_lt_of_cell? w _ (h1 k hlt))).trans (h1 k hlt)
        obtain ⟨a1, cp1, hV, -, -, -, -⟩ := HR.out k hlt
        rw [hV] at e1
        clear h1 hV
        by_cases h50 : k < 50
        · have d4 : decide ((k : Int) < 50) = true := by simpa using (by omega : (k : Int) < 50)
          go_wp2
          go_roundw
          case rel => exact ⟨k + 1, _, by omega, by go_num, rfl, HBX.out, HB.out⟩
          case measure => simp [intOf]; omega
        · have d4 : decide ((k : Int) < 50) = false := by simpa using (by omega : (50 : Int) ≤ k)
          go_wp2
          go_meet
          exact ⟨_, rfl, HBX.out, HB.out⟩
      · obtain rfl : k = N := by omega
        go_wp2
        go_meet
        exact ⟨_, rfl, HBX.out, HB.out⟩
  case rest =>
  obtain ⟨x, rfl, hbx, hbw⟩ := hcut
  have B3 := hide hbx
  have L3 := hide hbw
  have z3 : w.heap.size + 1 ≤ wc.heap.size := by have := B3.out.lt (by simp); omega
  clear hbw hbx B2 L2 z2
  have LI := hide (light_any f W H Ly F n (.slice ao N cap) pv N V L g M K U wc (DD.out.below L3.out (Nat.le_refl _)) (PP.out.below L3.out (Nat.le_refl _)))
  go_wp2_with (with_reducible refine wpList_run rfl (exec_load T25 (.tmp 1) rfl ⟨w.heap.size, 0, none⟩ rfl #[.int .i64 f, .int .i64 W, .int .i64 H, .int .i64 Ly, .int .i64 F, .int .i64 n, .slice ao N cap, pv] rfl (Box.loads B3.out)) ?_)
  refine LI.out.mono ?_
  rintro e w4 ⟨t, rfl, hN3, hb4⟩
  have B4 := hide (B3.out.below hb4 (by omega))
  have L4 := hide (L3.out.trans (hb4.mono (by omega)))
  have z4 : w.heap.size + 1 ≤ w4.heap.size := by have := hb4.size; omega
  have HN3 := hide hN3
  clear hb4 B3 L3 LI z3 hN3
  obtain ⟨c0, -, -, -, -, -, -, -⟩ := B4.out.c8
  cases t with
  | false =>
    go_wp2
    go_ret
    exact ⟨rfl, L4.out⟩
  | true =>
  have hN300 : N ≤ 300 := HN3.out rfl
  by_cases g1 : x > 1500
  · have d1 : decide (x > 1500) = true := by simpa using g1
    go_wp2
    go_ret
    exact ⟨rfl, L4.out⟩
  have d1 : decide (x > 1500) = false := by simpa using g1
  by_cases g2 : f = 7
  case neg =>
    have d2 : (f != 7) = true := by simpa using g2
    go_wp2
    go_ret
    exact ⟨rfl, L4.out⟩
  subst g2
  clear HN3 c0
  obtain ⟨c0, -, -, -, -, -, -, -⟩ := B4.out.c8
  obtain ⟨cv, hcv⟩ : ∃ cv, cv = chkV 8 W H Ly F n 2147483647 2147483647 2147483647 N L M K U := ⟨_, rfl⟩
  have HTK := hide (@texOK_of W H Ly F n N L M K U hW hH)
  have S7 := hide (surfaces_any 7 7 W H Ly F n false (.slice ao N cap) pv (TT Sx.T7) N V L g M K U w4 of7 decOK7 hW0 hW hH0 hH hL0 hL hF0 hF hn0 hn (DD.out.below L4.out (Nat.le_refl _)) (PP.out.below L4.out (Nat.le_refl _)) (by omega))
  have S8 := hide (fun w' (hb : Below w.heap.size w w') => surfaces_any 8 7 W H Ly F n false (.slice ao N cap) pv (TT Sx.T8) N V L g M K U w' of8 decOK8 hW0 hW hH0 hH hL0 hL hF0 hF hn0 hn (DD.out.below hb (Nat.le_refl _)) (PP.out.below hb (Nat.le_refl _)) (by omega))
  rw [← hcv] at HTK S7
  simp only [← hcv] at S8
  clear hcv
  go_wp2_with (with_reducible refine wpList_run rfl (exec_load T25 (.tmp 1) rfl ⟨w.heap.size, 0, none⟩ rfl #[.int .i64 7, .int .i64 W, .int .i64 H, .int .i64 Ly, .int .i64 F, .int .i64 n, .slice ao N cap, pv] rfl (Box.loads B4.out)) ?_)
  refine S7.out.mono ?_
  rintro e w5 ⟨hb5, hif⟩
  have B5 := hide (B4.out.below hb5 (by omega))
  have L5 := hide (L4.out.trans (hb5.mono (by omega)))
  have z5 : w4.heap.size ≤ w5.heap.size := hb5.size
  clear hb5 B4 S7 c0
  by_cases h1 : cv ≠ 0
  · rw [if_pos h1] at hif
    subst hif
    have d2 : (cv != 0) = true := by simpa using h1
    go_wp2
    go_ret
    exact ⟨rfl, L5.out⟩
  by_cases h2 : 4096 < mx2 W H
  · rw [if_neg h1, if_pos h2] at hif
    subst hif
    go_wp2
    go_ret
    exact ⟨rfl, L5.out⟩
  rw [if_neg h1, if_neg h2] at hif
  obtain ⟨sv, rfl, hs⟩ := hif
  obtain ⟨ao7, cap7, rfl, hq7⟩ := hs.read
  have Q7 := hide hq7
  obtain rfl : cv = 0 := by omega
  have tex : TexOK W H Ly F n N L := HTK.out rfl (by unfold mx2 at h2; split at h2 <;> omega) (by unfold mx2 at h2; split at h2 <;> omega)
  have TX := hide tex
  have HH2 := hide h2
  clear h1 h2 hs hq7 HTK tex
  go_wp2_with fail
  go_loopw [9] (fun i' wr => ∃ i : Nat, i ≤ N ∧ i' = .int .i64 i ∧ (∀ i0, i0 < i → ∀ k, k * 8 + 8 ≤ L i0 → FF (fun j => g i0 (k * 8 + j)) = 3) ∧ Below w5.heap.size w5 wr) (fun i' _ => N - (intOf i').toNat)
  case atStart => exact ⟨0, by omega, rfl, fun i0 h => by omega, Below.refl _ _⟩
  case round =>
    obtain ⟨i, hi, rfl, hff, hb⟩ := hrel
    have HFF := hide hff
    have HB := hide hb
    have hsz : w5.heap.size ≤ wr.heap.size := hb.size
    have B6 := hide (B5.out.below hb (by omega))
    have c6 := (B6.out.c8).2.2.2.2.2.2.1
    clear hff hb
    by_cases hlt : i < N
    · have hLi := lenI_le TX.out i hlt
      go_wp2_with fail
      go_loopw [10] (fun k' wq => ∃ m p : Nat, p = m * 8 ∧ p ≤ L i ∧ k' = .int .i64 p ∧ (∀ q, q < m → FF (fun j => g i (q * 8 + j)) = 3) ∧ Below w5.heap.size w5 wq) (fun k' _ => L i - (intOf k').toNat)
      case atStart => exact ⟨0, 0, rfl, by omega, rfl, fun q h => by omega, HB.out⟩
      case round =>
        obtain ⟨m, p, hp, hpl, rfl, hfm, hb⟩ := hrel
        have HFM := hide hfm
        have HPM := hide hp
        have HB2 := hide hb
        have hsz2 := hb.size
        have B7 := hide (B5.out.below hb (by omega))
        have L7 := hide (L5.out.trans (hb.mono (by omega)))
        have c6 := (B7.out.c8).2.2.2.2.2.2.1
        clear hfm hb hp
        obtain ⟨bb, off, rfl, h1⟩ := HC.out (by omega)
        have e1 := (L7.out.cell (p := ⟨bb, off + i, none⟩) (World.block_lt_of_cell? w _ (h1 i hlt))).trans (h1 i hlt)
        obtain ⟨vo, vcap, hVi, hv1, hv2, hg, hv4⟩ := HR.out i hlt
        rw [hVi] at e1
        have HG := hide hg
        have HV4 := hide hv4
        clear h1 hVi hg hv4
        by_cases hlp : p + 8 ≤ L i
        · obtain ⟨vb, voff, rfl, hvc⟩ := HV4.out (by omega)
          have HVC := hide hvc
          clear hvc
          obtain ⟨A, Bs, hA, hBs, hA1, hB1, h8, h9⟩ := far_any (fun j => g i (p + j)) (fun j => HG.out _)
          have P8 := hide (h8 vb (voff + p) (vcap - p) wr (by omega) (fun j hj => by
            rw [Nat.add_assoc]
            exact (L7.out.cell (p := ⟨vb, voff + (p + j), none⟩) (World.block_lt_of_cell? w _ (HVC.out (p + j) (by omega)))).trans (HVC.out (p + j) (by omega))))
          have P9 := hide h9
          have HA1 := hide hA1
          have HB1 := hide hB1
          obtain ⟨fv, hfv⟩ : ∃ fv, fv = FF (fun j => g i (p + j)) := ⟨_, rfl⟩
          rw [← hfv] at P9
          have HFV := hide hfv
          clear h8 h9 hA1 hB1 hfv
          go_wp2_with fail
          refine P8.out.mono ?_
          rintro e w7 ⟨rfl, hb7⟩
          have L8 := hide (HB2.out.trans (hb7.mono (by omega)))
          have z8 : w5.heap.size ≤ w7.heap.size := by have := hb7.size; omega
          clear hb7 P8 c6 e1 HVC HV4
          obtain ⟨z37, hz37⟩ : ∃ z : Array Value, z = #[.bool false, .bool false, .int .i64 0, .int .i64 0, .int .i64 0, .int .i64 0, .int .i64 0, .int .i64 0, .int .i64 0, .int .i64 0, .int .i64 0, .int .i64 0, .int .i64 0, .int .i64 0, .int .i64 0, .int .i64 0, .int .i64 0, .int .i64 0, .int .i64 0, .int .i64 0, .int .i64 0, .int .i64 0, .int .i64 0, .int .i64 0, .int .i64 0, .int .i64 0] := ⟨_, rfl⟩
          have T37' := T37
          rw [← hz37] at T37'
          have hz37s : z37.size = 26 := by rw [hz37]; rfl
          clear hz37
          have I7 := hide (Box.isS2 (show Box (w7.alloc (.cells z37 37)) w7.heap.size z37 from Box.mk' rfl) hz37s)
          go_wp2_with (first
            | (with_reducible refine wpList_run rfl (exec_alloc T37' rfl) ?_)
            | (with_reducible refine wpList_store T37' rfl (.tmp 11) (.tmp 90) rfl w7.heap.size 0 rfl A rfl hA (fun j hj => (I7.out j hj).1) (fun j hj => (I7.out j hj).2) HA1.out ?_))
          intro w8 hs8
          have LA := hide hs8.loads0
          have hbs : Below w7.heap.size w7 w8 := ((Below.refl _ _).alloc (Nat.le_refl _) _).trans (hs8.below (Nat.le_refl _))
          have L9 := hide (L8.out.trans (hbs.mono z8))
          have z9 : w5.heap.size ≤ w8.heap.size := by have := hbs.size; omega
          clear hbs hs8 L8 z8 I7
          go_wp2_with (with_reducible refine wpList_run rfl (exec_load T37' (.tmp 11) rfl ⟨w7.heap.size, 0, none⟩ rfl A hA LA.out) ?_)
          refine (P9.out _).mono ?_
          rintro e w9 ⟨rfl, hb9⟩
          have L10 := hide (L9.out.trans (hb9.mono (by omega)))
          have z10 : w5.heap.size ≤ w9.heap.size := by have := hb9.size; omega
          clear hb9 L9 z9 P9 LA
          have I9 := hide (Box.isS2 (show Box (w9.alloc (.cells #[.int .i64 0, .int .i64 0, .int .i64 0, .int .i64 0, .int .i64 0, .int .i64 0, .int .i64 0, .int .i64 0] 42)) w9.heap.size _ from Box.mk' rfl) (n := 8) rfl)
          go_wp2_with (first
            | (with_reducible refine wpList_run rfl (exec_alloc T42 rfl) ?_)
            | (with_reducible refine wpList_store T42 rfl (.tmp 13) (.tmp 95) rfl w9.heap.size 0 rfl Bs rfl hBs (fun j hj => (I9.out j hj).1) (fun j hj => (I9.out j hj).2) HB1.out ?_))
          intro w10 hs10
          have hbs : Below w9.heap.size w9 w10 := ((Below.refl _ _).alloc (Nat.le_refl _) _).trans (hs10.below (Nat.le_refl _))
          have L11 := hide (L10.out.trans (hbs.mono z10))
          clear hbs hs10 L10 z10 I9
          by_cases hf3 : fv = 3
          · have d3 : (fv != 3) = false := by simpa using hf3
            have HF3 := hide (show ∀ q, q < m + 1 → FF (fun j => g i (q * 8 + j)) = 3 from fun q hq => by
              by_cases e : q = m
              · subst e
                have := HFV.out
                rw [HPM.out] at this
                rw [← this, hf3]
              · exact HFM.out q (by omega))
            go_wp2
            go_roundw
            case rel => exact ⟨m + 1, p + 8, by rw [HPM.out]; omega, hlp, by go_num, HF3.out, L11.out⟩
            case measure => simp [intOf]; omega
          · have d3 : (fv != 3) = true := by simpa using hf3
            go_wp2
            go_ret
            exact ⟨rfl, L5.out.trans (L11.out.mono (by omega))⟩
        · have HF2 := hide (show ∀ i0, i0 < i + 1 → ∀ k, k * 8 + 8 ≤ L i0 → FF (fun j => g i0 (k * 8 + j)) = 3 from fun i0 hi0 k hk => by
            by_cases e : i0 = i
            · subst e
              exact HFM.out k (by have := HPM.out; omega)
            · exact HFF.out i0 (by omega) k hk)
          go_wp2
          go_roundw
          case rel => exact ⟨i + 1, by omega, by go_num, HF2.out, HB2.out⟩
          case measure => simp [intOf]; omega
    · obtain rfl : N = i := by omega
      have L6 := hide (L5.out.trans (HB.out.mono (by omega)))
      have Q6 := hide (Q7.out.below (HB.out.mono (Nat.le_refl _)))
      have c0 := (B6.out.c8).1
      have f0 := (B6.out 0 _ rfl).2
      go_upto_region 24 with fail
      generalize hw7 : wr.setCell ⟨w.heap.size, 0, none⟩ (.int .i64 8) = w7
      have B7 := hide (show Box w7 w.heap.size #[.int .i64 8, .int .i64 W, .int .i64 H, .int .i64 Ly, .int .i64 F, .int .i64 n, .slice ao N cap, pv] by rw [← hw7]; exact B6.out.set0)
      have L7 := hide (show Below w.heap.size w w7 by rw [← hw7]; exact L6.out.setCell (Nat.le_refl _) _)
      have z7 : w7.heap.size = wr.heap.size := by rw [← hw7]; simp [World.setCell]
      have Q8 := hide (show SurQ w7 w4.heap.size ao7 N (sM W H n) (sF (TT Sx.T7) g W H n) by rw [← hw7]; exact Q6.out.kept (by simp [World.setCell]) fun q h1 h2 => Below.heap_setCell _ _ _ _ (by simp; omega))
      clear hw7 B6 L6 Q6 c0 f0 c6 hlt
      go_wp2_with (with_reducible refine wpList_run rfl (exec_load T25 (.tmp 1) rfl ⟨w.heap.size, 0, none⟩ rfl #[.int .i64 8, .int .i64 W, .int .i64 H, .int .i64 Ly, .int .i64 F, .int .i64 n, .slice ao N cap, pv] rfl (Box.loads B7.out)) ?_)
      refine (S8.out w7 L7.out).mono ?_
      rintro e w8 ⟨hb8, hif⟩
      rw [if_neg (by simp), if_neg (by have := HH2.out; omega)] at hif
      obtain ⟨sv, rfl, hs⟩ := hif
      obtain ⟨ao8, cap8, rfl, hq8⟩ := hs.read
      have QA := hide (Q8.out.below hb8)
      have QB := hide hq8
      have L8 := hide (L7.out.trans (hb8.mono (by omega)))
      have z8 : w7.heap.size ≤ w8.heap.size := hb8.size
      have EF := hide (show ∀ i, i < N → sF (TT Sx.T8) g W H n i = sF (TT Sx.T7) g W H n i from fun i hi => sF_eq TX.out hi (HFF.out i hi))
      have SB := hide (show ∀ i, i < N → sM W H n i ≤ 16777216 from fun i hi => by
        have q1 := sideV_bd (of := ((i : Int) % n)) TX.out.w1
        have q2 := sideV_bd (of := ((i : Int) % n)) TX.out.h1
        have q3 := TX.out.w2
        have q4 := TX.out.h2
        have q5 := sideV_one TX.out.w1 (Int.emod_nonneg (i : Int) (show n ≠ 0 by have := TX.out.n1; omega))
        have q6 := sideV_one TX.out.h1 (Int.emod_nonneg (i : Int) (show n ≠ 0 by have := TX.out.n1; omega))
        have := mul_bd (x := sX W n i) (y := sX H n i) (X := 4096) (Y := 4096) (by unfold sX; omega) (by unfold sX; omega) (by unfold sX; omega) (by unfold sX; omega)
        unfold sM
        omega)
      clear hb8 hs hq8 B7 L7 Q8 S8 HFF HB Q7 B5 HC HR DD PP HH2 L4 L5
      go_wp2_with fail
      go_loopw [17] (fun i' wr => ∃ i : Nat, i ≤ N ∧ i' = .int .i64 i ∧ Below w8.heap.size w8 wr) (fun i' _ => N - (intOf i').toNat)
      case atStart => exact ⟨0, by omega, rfl, Below.refl _ _⟩
      case round =>
        obtain ⟨i, hi, rfl, hb⟩ := hrel
        have HB := hide hb
        clear hb
        by_cases hlt : i < N
        · obtain ⟨g7, p7, cc7, rfl, -, -, -, -, -, -⟩ := QA.out i hlt
          obtain ⟨g8, p8, cc8, rfl, -, -, -, -, -, -⟩ := QB.out i hlt
          have hM := SB.out i hlt
          obtain ⟨mq, hmq⟩ : ∃ mq, mq = sM W H n i := ⟨_, rfl⟩
          have HMQ := hide hmq
          rw [← hmq] at hM
          clear hmq
          go_wp2_with fail
          go_loopw [18] (fun j' wq => ∃ j : Nat, j ≤ mq ∧ j' = .int .i64 j ∧ Below w8.heap.size w8 wq) (fun j' _ => mq - (intOf j').toNat)
          case atStart => exact ⟨0, by omega, rfl, HB.out⟩
          case round =>
            obtain ⟨j, hj, rfl, hb⟩ := hrel
            have HB2 := hide hb
            obtain ⟨ga, pa, ca, ea, a1, a2, -, -, -, -⟩ := QA.out.below hb i hlt
            obtain ⟨gb, pb, cb, eb, b1, b2, -, -, -, -⟩ := QB.out.below hb i hlt
            injection ea with ea
            injection ea with ea _ _
            subst ea
            injection eb with eb
            injection eb with eb _ _
            subst eb
            rw [← HMQ.out] at a1 a2 b1 b2
            rw [EF.out i hlt] at b2
            have HA2 := hide a2
            have HB2' := hide b2
            clear hb a2 b2
            by_cases hlj : j < mq
            · have c0 := (HA2.out (j * 4) (by omega)).1
              have c1 := (HA2.out (j * 4 + 1) (by omega)).1
              have c2 := (HA2.out (j * 4 + 2) (by omega)).1
              have c3 := (HA2.out (j * 4 + 3) (by omega)).1
              have d0 := (HB2'.out (j * 4) (by omega)).1
              have d1' := (HB2'.out (j * 4 + 1) (by omega)).1
              have d2 := (HB2'.out (j * 4 + 2) (by omega)).1
              have d3 := (HB2'.out (j * 4 + 3) (by omega)).1
              have q41 := neq41
              go_upto_region 33 with fail
              go_quiet (fail)
              go_wp2
              go_roundw
              case rel => exact ⟨j + 1, by omega, by go_num, Below.drewN HB2.out _⟩
              case measure => simp [intOf]; omega
            · obtain rfl : mq = j := by omega
              go_wp2
              go_roundw
              case rel => exact ⟨i + 1, by omega, by go_num, HB2.out⟩
              case measure => simp [intOf]; omega
        · obtain rfl : N = i := by omega
          go_wp2
          go_ret
          exact ⟨rfl, L8.out.trans (HB.out.mono (by omega))⟩
end Go.Proofs.YtpkclnkibhgpkaaGreat
