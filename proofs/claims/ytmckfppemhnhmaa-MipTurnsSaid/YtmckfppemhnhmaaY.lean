import Derived.Test.YtmckfppemhnhmaaX
import Derived.Test.YtmckfppemhnhmaaW2
import Derived.Test.YtmckfppemhnhmaaQ
import Derived.Great.BuildSlice
import Derived.Deep.Cut
namespace Go.Proofs.Ytmckfppemhnhmaa
open Go.RowKit
attribute [local irreducible] agOf

theorem iwhole_any {W H : Int} {v : Value} {m : Nat} {T : Nat → Nat → Int} {w : World} (hv : Tl w v m T) :
    Calls Try.prog 32 #[.int .i64 W, .int .i64 H, v] w (wholeP W H m T w) := by
  by_cases hs : sizedV W H = true
  · by_cases hm : (m : Int) = (tilesV W H).1 * (tilesV W H).2
    · exact iwhole_ok hv hs hm
    · obtain ⟨ao, cap, rfl, _⟩ := hv
      exact iwhole_no2 hs hm
  · exact iwhole_no1 (by simpa using hs)

/-- a slice of k tiles of the call's own -/
def tcells (k : Nat) (T : Nat → Nat → Int) : List Value := (List.range (k * 64)).map fun i => Value.int .i64 (T (i / 64) (i % 64))
def OwnT (w : World) (B : Nat) (v : Value) (k : Nat) (T : Nat → Nat → Int) : Prop := w.ownsRow B 48 64 v k (tcells k T)
theorem tcells_snoc (k : Nat) (T : Nat → Nat → Int) : tcells k T ++ (agOf 0 64 (T k)).toList = tcells (k + 1) T := by
  apply List.ext_getElem?
  intro i
  have hl : (tcells k T).length = k * 64 := by simp [tcells]
  have A := agOf_ag0 64 (T k)
  have hs : (agOf 0 64 (T k)).toList.length = 64 := by simpa using A.1
  by_cases h : i < k * 64
  · rw [List.getElem?_append_left (by omega)]
    unfold tcells
    rw [List.getElem?_map, List.getElem?_map, List.getElem?_range h, List.getElem?_range (by omega)]
  · rw [List.getElem?_append_right (by omega), hl]
    by_cases h2 : i < (k + 1) * 64
    · have e := A.2 (i - k * 64) (by omega)
      unfold tcells
      rw [List.getElem?_map, List.getElem?_range h2]
      rw [Array.getElem?_toList, e]
      simp only [Option.map_some]
      rw [show i / 64 = k by omega, show i % 64 = i - k * 64 by omega]
    · rw [List.getElem?_eq_none (by omega), List.getElem?_eq_none (by simp [tcells]; omega)]
theorem Below.asGrown {w w' : World} (hb : Below w.heap.size w w') : w.grownBy w' none := ⟨hb.os, hb.tape, hb.output, hb.size, fun k hk _ => hb.block k hk⟩
theorem OwnT.below {w w' : World} {B : Nat} {v : Value} {k : Nat} {T : Nat → Nat → Int} (h : OwnT w B v k T) (hb : Below w.heap.size w w') : OwnT w' B v k T :=
  World.ownsRow.kept h (Below.asGrown hb) (by cases hv : v.ownBlock <;> simp)
theorem OwnT.tl {w : World} {B : Nat} {v : Value} {k : Nat} {T : Nat → Nat → Int} (h : OwnT w B v k T) (hk : k ≤ 9223372036854775807) : Tl w v k T := by
  have hh := h
  rcases h.2 with ⟨rfl, rfl⟩ | ⟨g, cap, cur, rfl, _⟩
  · exact ⟨_, _, rfl, hk, fun h => by omega⟩
  · refine ⟨_, _, rfl, hk, fun _ => ⟨g, 0, rfl, fun i j hi hj => ?_⟩⟩
    have := World.ownsRow.cellAt hh (i * 64 + j) (by omega)
    rw [Nat.zero_add, this]
    unfold tcells
    rw [List.getElem?_map, List.getElem?_range (by omega)]
    simp only [Option.map_some]
    rw [show (i * 64 + j) / 64 = i by omega, show (i * 64 + j) % 64 = j by omega]

theorem Try.info48 : (Try.prog.info? 48).map (fun i => (i.zero, i.size, i.bytes)) = some (some (.agg Z64), 64, 512) := by kernel_rfl
theorem fill_one {s : Nat} (hs : 0 < s) (cs base : Array Value) (h1 : cs.size = s) (h2 : base.size = s) :
    Instr.fill (fun i => some (i * s, s)) base [(0, .agg cs)] = some cs := by
  have := Great.fill_whole hs [.agg cs] base (fun v hv => by simp at hv; subst hv; exact h1) (by simp [h2])
  simpa [Value.cells] using this
theorem slice48 {ops : Array Oper} {rest : List Oper} {o : Oper} {a : Act} {w : World} {Q : Exit → Act → World → Prop} (hg : o.guard = none) (x : Operand) (ho : o.op = .buildSlice 46 1 #[(0, x)])
    (cs : Array Value) (hx : a.eval x = .agg cs) (hn : cs.size = 64) (h : wpList Try.prog ops Q rest (a.put o.dst (.slice (some ⟨w.heap.size, 0, none⟩) 1 1)) (w.alloc (.cells cs 48))) :
    wpList Try.prog ops Q (o :: rest) a w := by
  obtain ⟨i0, hi0, hz0, hz1, hz2⟩ := info_parts Try.info48
  refine wpList_buildSlice hg 46 48 1 #[(0, x)] ho cs i0 (.agg Z64) Try.underlying46 hi0 hz0 (by rw [hz1]; decide) (by rw [hz1]; decide) ?_ h
  rw [hz1]
  have e : (Array.map (fun p : Nat × Operand => (p.1, a.eval p.2)) #[(0, x)]).toList = [(0, .agg cs)] := by simp [hx]
  rw [e]
  exact fill_one (by omega) cs _ hn (by simp)

structure Env1 (w : World) (I : Array Value) (w' : World) : Prop where
  i : Box w' w.heap.size I
  sz : w.heap.size + 1 ≤ w'.heap.size
  be : Below w.heap.size w w'
theorem Env1.below {w w' w'' : World} {I : Array Value} (h : Env1 w I w') (hb : Below w'.heap.size w' w'') : Env1 w I w'' :=
  have h1 := h.sz
  ⟨h.i.below hb (by omega), Nat.le_trans h.sz hb.size, h.be.trans (hb.mono (by omega))⟩
theorem Env1.ofB {w w' w'' : World} {I : Array Value} (h : Env1 w I w') {B : Nat} (hb : Below B w' w'') (hB : w.heap.size + 1 ≤ B) : Env1 w I w'' :=
  ⟨h.i.below hb (by omega), Nat.le_trans h.sz hb.size, h.be.trans (hb.mono (by omega))⟩
theorem Env1.start {w w' : World} {I : Array Value} {T1 : TypeId} (hb : Below (w.alloc (.cells I T1)).heap.size (w.alloc (.cells I T1)) w') : Env1 w I w' :=
  ⟨Box.below (Box.mk' rfl) hb (by simp), by have := hb.size; simp at this; omega, Below.trans ((Below.refl _ _).alloc (Nat.le_refl _) _) (hb.mono (by simp))⟩

set_option maxRecDepth 100000 in
set_option maxHeartbeats 800000 in
theorem wholel_no {W H : Int} {n : Nat} {ao : Option Addr} {cap : Nat} {w : World} (hno : (lightV W H n && rightV W H n) = false) :
    Calls Try.prog 6 #[.agg #[.int .i64 W, .int .i64 H, .slice ao n cap]] w fun e w' => e = .returned (.bool true) ∧ Below w.heap.size w w' := by
  generalize h1 : lightV W H n = b1 at hno
  generalize h2 : rightV W H n = b2 at hno
  have H1 := hide h1
  have H2 := hide h2
  clear h1 h2
  cases b1
  · clear hno
    go_enter Try.func6, Try.ntmps6
    go_wp2_with fail
    refine (awake_any _).mono ?_
    rintro e w1 ⟨rfl, hb⟩
    have EV := hide (Env1.start hb)
    clear hb
    obtain ⟨k0, k1, k2⟩ := EV.out.i.c3.1
    go_wp2_with fail
    refine (light_any W H ao n cap _).mono ?_
    rintro e w2 ⟨rfl, hb⟩
    rw [H1.out]
    have EV2 := hide (EV.out.below hb)
    clear hb EV k0 k1 k2
    go_wp2_with fail
    go_ret
    exact ⟨rfl, EV2.out.be⟩
  · cases b2
    · clear hno
      go_enter Try.func6, Try.ntmps6
      go_wp2_with fail
      refine (awake_any _).mono ?_
      rintro e w1 ⟨rfl, hb⟩
      have EV := hide (Env1.start hb)
      clear hb
      obtain ⟨k0, k1, k2⟩ := EV.out.i.c3.1
      go_wp2_with fail
      refine (light_any W H ao n cap _).mono ?_
      rintro e w2 ⟨rfl, hb⟩
      rw [H1.out]
      have EV2 := hide (EV.out.below hb)
      clear hb EV k0 k1 k2
      obtain ⟨k0, k1, k2⟩ := EV2.out.i.c3.1
      go_wp2_with fail
      refine (right_any W H ao n cap _).mono ?_
      rintro e w3 ⟨rfl, hb⟩
      rw [H2.out]
      have EV3 := hide (EV2.out.below hb)
      clear hb EV2 k0 k1 k2
      go_wp2_with fail
      go_ret
      exact ⟨rfl, EV3.out.be⟩
    · simp at hno

theorem has_of {W H x y : Int} {n : Nat} {a b : Nat} (hr : rightV W H n = true) (hab : tilesV W H = ((a : Int), (b : Int))) (hx : 0 ≤ x) (hxa : x < a) (hy : 0 ≤ y) (hyb : y < b) : hasV W H x y n = true := by
  unfold hasV inV
  rw [hr, hab]
  simp
  omega
theorem tilesOf_at {W H : Int} {f : Nat → Int} {a b x y k : Nat} (hab : tilesV W H = ((a : Int), (b : Int))) (hxa : x < a) (hk : k = y * a + x) : tilesOf W H f k = gatV W H f (x : Int) (y : Int) := by
  funext j
  unfold tilesOf
  rw [hab]
  have h := (tile_num (x := (x : Int)) (y := (y : Int)) (a := (a : Int)) (by omega) (by omega) (by omega) (k : Int)).2 (by rw [hk]; simp)
  simp only []
  rw [← h.1, ← h.2]

set_option maxRecDepth 100000 in
set_option maxHeartbeats 1600000 in
theorem wholel_yes {W H : Int} {n : Nat} {f : Nat → Int} {v : Value} {w : World} (hv : Im w v W H n f) (h1 : lightV W H n = true) (h2 : rightV W H n = true) :
    Calls Try.prog 6 #[v] w fun e w' => e = .returned (.bool true) ∧ Below w.heap.size w w' := by
  have HV := hide hv
  obtain ⟨ao, cap, rfl, hrd, hWb, hHb⟩ := hv
  have hf : ∀ i, 0 ≤ f i ∧ f i ≤ 255 := by obtain ⟨_, _, _, _, hf, _⟩ := hrd; exact hf
  have hws : (1 ≤ W ∧ 1 ≤ H ∧ W ≤ 4096 ∧ H ≤ 4096) ∧ (n : Int) = 4 * W * H := by unfold rightV at h2; simpa using h2
  obtain ⟨a, b, hab, ha1, ha2, hb1, hb2⟩ : ∃ a b : Nat, tilesV W H = ((a : Int), (b : Int)) ∧ 1 ≤ a ∧ a ≤ 1024 ∧ 1 ≤ b ∧ b ≤ 1024 :=
    ⟨((W - 1) / 4 + 1).toNat, ((H - 1) / 4 + 1).toNat, by unfold tilesV; rw [if_neg (by omega)]; congr 1 <;> omega, by omega, by omega, by omega, by omega⟩
  have hN : (4 * W * H).toNat = n := by omega
  have hsz : sizedV W H = true := by unfold sizedV; simpa using hws.1
  have HOK := hide (show wholeOk W H (b * a) = true by unfold wholeOk; rw [hsz, hab]; simp [Int.mul_comm])
  have HSAME := hide (show sameV W H n f W H n (wholeK W H (tilesOf W H f) (b * a)) = true by
    unfold sameV
    simp only [beq_self_eq_true, Bool.true_and]
    exact allEq_true fun i hi => (whole_back h2 hf (by rw [hab]; simp [Int.mul_comm]) i hi).symm)
  have HNN := hide hN
  have HAB := hide hab
  have hKb : ∀ y, y ≤ b → y * a ≤ 1048576 := fun y hy => by
    have := Nat.mul_le_mul (show y ≤ 1024 by omega) ha2
    omega
  have HKB := hide hKb
  have H1 := hide h1
  have H2 := hide h2
  have hW4 : 1 ≤ W ∧ 1 ≤ H ∧ W ≤ 4096 ∧ H ≤ 4096 := hws.1
  obtain ⟨i0, hi0, hz0, hz1, hz2⟩ := info_parts Try.info48
  have HI := hide (And.intro hi0 (And.intro hz0 (And.intro hz1 hz2)))
  clear h1 h2 hws hN hab hf hrd hsz hKb hi0 hz0 hz1 hz2
  go_enter Try.func6, Try.ntmps6
  go_wp2_with fail
  refine (awake_any _).mono ?_
  rintro e w1 ⟨rfl, hb⟩
  have EV := hide (Env1.start hb)
  clear hb
  obtain ⟨k0, k1, k2⟩ := EV.out.i.c3.1
  go_wp2_with fail
  refine (light_any W H ao n cap _).mono ?_
  rintro e w2 ⟨rfl, hb⟩
  rw [H1.out]
  have EV2 := hide (EV.out.below hb)
  clear hb EV k0 k1 k2
  obtain ⟨k0, k1, k2⟩ := EV2.out.i.c3.1
  go_wp2_with fail
  refine (right_any W H ao n cap _).mono ?_
  rintro e w3 ⟨rfl, hb⟩
  rw [H2.out]
  have EV3 := hide (EV2.out.below hb)
  clear hb EV2 k0 k1 k2
  obtain ⟨k0, k1, k2⟩ := EV3.out.i.c3.1
  go_wp2_with fail
  refine (tiles_any W H _ (by omega) (by omega) (by omega) (by omega)).mono ?_
  rintro e w' ⟨rfl, rfl⟩
  rw [HAB.out]
  clear k0 k1 k2
  go_wp2_with fail
  go_loopw [7, 8] (fun u y' wr => ∃ y : Nat, y ≤ b ∧ y' = .int .i64 y ∧ OwnT wr (w.heap.size + 1) u (y * a) (tilesOf W H f) ∧ Below (w.heap.size + 1) w3 wr) (fun _ y' _ => b - (intOf y').toNat)
  case atStart => exact ⟨0, by omega, rfl, by rw [Nat.zero_mul]; exact World.ownsRow_nil _ _ _ _, Below.refl _ _⟩
  case round =>
    obtain ⟨y, hyb, rfl, hown, hbw⟩ := hrel
    rename_i u _
    have HO := hide hown
    have HB := hide hbw
    have hK := HKB.out y hyb
    obtain ⟨q, hq⟩ : ∃ q, q = y * a := ⟨_, rfl⟩
    rw [← hq] at HO hK
    have HQ := hide hq
    clear hown hbw hq
    by_cases hlt : y < b
    · go_wp2_with fail
      go_loopw [7, 9] (fun u x' wq => ∃ x : Nat, x ≤ a ∧ x' = .int .i64 x ∧ OwnT wq (w.heap.size + 1) u (q + x) (tilesOf W H f) ∧ Below (w.heap.size + 1) w3 wq) (fun _ x' _ => a - (intOf x').toNat)
      case atStart => exact ⟨0, by omega, rfl, HO.out, HB.out⟩
      case round =>
        obtain ⟨x, hxa, rfl, hown, hbw⟩ := hrel
        have HO2 := hide hown
        have HB2 := hide hbw
        have EVq := hide (EV3.out.ofB hbw (Nat.le_refl _))
        clear hown hbw
        by_cases hltx : x < a
        · obtain ⟨k0, k1, k2⟩ := EVq.out.i.c3.1
          go_wp2_with fail
          refine (gather_any (x : Int) (y : Int) (HV.out.below EVq.out.be (Nat.le_refl _))).mono ?_
          intro e w5 hp
          obtain ⟨rfl, hb⟩ := gatP_yes (has_of H2.out HAB.out (by omega) (by omega) (by omega) (by omega)) hp
          obtain ⟨G, hG⟩ : ∃ G, G = gatV W H f x y := ⟨_, rfl⟩
          rw [← hG]
          have HG := hide (show tilesOf W H f (q + x) = G by rw [hG]; exact tilesOf_at HAB.out hltx (by rw [HQ.out]))
          have A0 := hide (agOf_ag0 64 G)
          have zG := A0.out.1
          clear hG hp k0 k1 k2
          have EV5 := hide (EVq.out.below hb)
          have HO5 := hide (HO2.out.below hb)
          have HB5 := hide (HB2.out.trans (hb.mono (by have := EVq.out.sz; omega)))
          have s5 := EV5.out.sz
          clear hb EVq HO2 HB2
          have k1 := hide (Bk.new Z64_ag w5 48)
          go_wp2_with (first | (with_reducible refine wpList_run rfl (exec_alloc T48 rfl) ?_) | (with_reducible refine wpList_store T48 rfl (.tmp 10) (.tmp 49) rfl w5.heap.size 0 rfl (agOf 0 64 G) rfl zG (k1.out.isSome (by omega)) (k1.out.free (by omega)) A0.out.one ?_))
          intro w6 hs
          have K6 := hide ((k1.out.set hs A0.out).congr (g := G) (fun j hj => by rw [if_pos (by omega), Nat.sub_zero]))
          have hal := ((Below.refl w5.heap.size w5).alloc (Nat.le_refl _) (.cells Z64 48)).trans (hs.below (Nat.le_refl _))
          have HO6 := hide (HO5.out.below hal)
          have HB6 := hide (HB5.out.trans (hal.mono (by omega)))
          have s6 : w.heap.size + 1 ≤ w6.heap.size := by have := hal.size; omega
          clear hs hal k1 HO5 HB5 EV5 s5
          generalize w5.heap.size = pt at *
          obtain ⟨L, hL⟩ : ∃ L : List Value, L = (agOf 0 64 G).toList := ⟨_, rfl⟩
          have HL := hide hL
          have hLl : L.length = 1 * 64 := by rw [hL]; simpa using zG
          clear hL
          have HLl := hide hLl
          clear hLl
          go_wp2_with (first | (with_reducible refine wpList_run rfl (exec_load T48 (.tmp 10) rfl ⟨pt, 0, none⟩ rfl (agOf 0 64 G) zG (K6.out.load (by omega))) ?_) | (with_reducible refine slice48 rfl (.tmp 54) rfl (agOf 0 64 G) rfl zG ?_) | (at_builtin; refine wpList_append_own _ rfl _ _ 46 rfl (w.heap.size + 1) 48 i0 (.agg Z64) 64 512 Try.underlying46 HI.out.1 HI.out.2.1 HI.out.2.2.1 HI.out.2.2.2 rfl (by decide) _ _ _ rfl (World.ownsRow.alloc HO6.out _) ⟨w6.heap.size, 0, none⟩ 1 1 L rfl HLl.out ?c1 ?c2 ?c3 ?c4 ?c5 ?_))
          case c1 =>
            intro j u hj
            rw [HL.out, Array.getElem?_toList] at hj
            rw [Addr.add_lit, Nat.zero_add, cell_new]
            exact hj
          case c2 => rw [HL.out]; exact A0.out.one
          case c3 => unfold maxLen; omega
          case c4 => omega
          case c5 => simp; omega
          intro v' w7 hown hgrow _
          have HO7 := hide (show OwnT w7 (w.heap.size + 1) v' (q + (x + 1)) (tilesOf W H f) by
            unfold OwnT
            rw [show q + (x + 1) = q + x + 1 by omega, ← tcells_snoc (q + x), HG.out, ← HL.out]
            exact hown)
          have HB7 := hide (HB6.out.trans (((Below.refl (w.heap.size + 1) w6).alloc s6 _).grown hgrow (by simp; omega) (fun k e => (World.ownsRow.lt HO6.out k e).1)))
          clear hown hgrow
          go_wp2_with fail
          exact ⟨⟨x + 1, by omega, by go_num, HO7.out, HB7.out⟩, by simp [intOf]; omega⟩
        · obtain rfl : x = a := by omega
          go_wp2_with fail
          exact ⟨⟨y + 1, by omega, by go_num, by rw [Nat.add_mul, Nat.one_mul, ← HQ.out]; exact HO2.out, HB2.out⟩, by simp [intOf]; omega⟩
    · obtain rfl : y = b := by omega
      have EVr := hide (EV3.out.ofB HB.out (Nat.le_refl _))
      obtain ⟨k0, k1, k2⟩ := EVr.out.i.c3.1
      have hm63 : q ≤ 9223372036854775807 := by omega
      go_wp2_with fail
      refine (iwhole_any (HO.out.tl hm63)).mono ?_
      intro e w5 hp
      unfold wholeP at hp
      rw [HQ.out, HOK.out, HNN.out] at hp
      obtain ⟨v, rfl, him, hb⟩ := hp
      have him2 : Im w5 v W H n (wholeK W H (tilesOf W H f) (y * a)) := him
      have IN := hide him2
      obtain ⟨ao3, cap3, rfl, _⟩ := him2
      have EV5 := hide (EVr.out.below hb)
      clear hb him EVr k0 k1 k2
      go_upto_region 18 with (fail)
      generalize hw6 : w5.alloc (.cells #[.int .i64 W, .int .i64 H, .slice ao3 n cap3] 24) = w6
      have hal : Below w5.heap.size w5 w6 := by rw [← hw6]; exact (Below.refl _ _).alloc (Nat.le_refl _) _
      have BN := hide (show Box w6 w5.heap.size #[.int .i64 W, .int .i64 H, .slice ao3 n cap3] by rw [← hw6]; exact Box.mk' rfl)
      have EV6 := hide (EV5.out.below hal)
      have IN6 := hide (IN.out.below hal (Nat.le_refl _))
      clear hw6 hal EV5 IN
      generalize w5.heap.size = p at *
      obtain ⟨k0, k1, k2⟩ := EV6.out.i.c3.1
      obtain ⟨m0, m1, m2⟩ := BN.out.c3.1
      go_wp2_with fail
      refine (rsame_any (HV.out.below EV6.out.be (Nat.le_refl _)) IN6.out).mono ?_
      rintro e w7 ⟨rfl, hb⟩
      rw [HSAME.out]
      have EV7 := hide (EV6.out.below hb)
      clear hb k0 k1 k2 m0 m1 m2
      go_wp2_with fail
      go_ret
      exact ⟨rfl, EV7.out.be⟩
end Go.Proofs.Ytmckfppemhnhmaa
