/-
Each operation that looks at memory, and calls nothing, does what the run tells of it: all of them together. Its conditions: that the tables of types tell the program's types.
-/
import Derived.Test.YtpkclnkibhgpkaaGreatXN
import Derived.Laws.IdiomStrings
import Derived.Laws.BytesString
namespace Go.Proofs.YtpkclnkibhgpkaaGreat.Sx
open Go Go.RowKit
variable {P : Program}

theorem copyS_run [Sh] {e : Env} (he : TysOK P e.ty) {s s' : St} {t : Nat} {ts : List Nat} {x y v : ST} (h : copyS e s t x y = some (v, s')) {w0 : World} {n0 : Base} {b : Nat → Option Nat} {a : Act} {w : World} (hc : Conc w0 n0 b s a w) {u1 u2 : Value} (hx : RepT b x u1) (hy : RepT b y u2) (ty : Nat) :
    ∃ w' u, s'.nx = s.nx ∧ s'.tm = s.tm ∧ Conc w0 n0 b s' a w' ∧ (Builtin.copy_ (t :: ts).toArray ty #[u1, u2]).run P w = .ok u w' ∧ RepT b v u := by
  unfold copyS at h
  split at h
  · rename_i el _ _ _ g1
    split at h
    · rename_i d g3
      split at h
      · rename_i m id off n cap l2
        split at h
        · rename_i cy bk r2 hb
          cases q7 : (bk.wr && Nat.ble bk.off off)
          · rw [q7] at h; cases h
          · rw [q7] at h
            simp only [Bool.and_eq_true, ble_iff] at q7
            simp only [cond_true] at h
            cases q8 : layL (off - bk.off) bk.cells cy with
            | none => rw [q8] at h; cases h
            | some l =>
              rw [q8] at h; cases h
              have hu1 := he.slice g1
              have hd := he _ _ g3
              obtain ⟨d2, hd2, ys, y1, y2, y3, y4⟩ := rowS_run P r2 hc.hp hy
              rw [g3] at hd2; cases hd2
              obtain ⟨q5, c1, h1, rfl, h3, h4⟩ := RepL.slv (β := b) (id := id) (off := off) (len := n) (cap := cap) hx
              obtain ⟨n', hn', hbk⟩ := hc.hp id bk hb
              rw [h1] at hn'; cases hn'
              obtain ⟨w', hs, hst⟩ := lay_store (P := P) hbk q7.1 q8 y1
              refine ⟨w', .int .i64 (Nat.min m n), rfl, rfl, hc.set hb h1 q8 y1 hs, ?_, rfl⟩
              obtain ⟨a2, c2, rfl⟩ : ∃ a2 c2, u2 = .slice a2 m c2 := by
                rcases slLen_rep l2 hy with ⟨_, rfl, rfl⟩ | ⟨_, _, _, _, c, _, _, rfl, _⟩
                · exact ⟨_, _, rfl⟩
                · exact ⟨_, _, rfl⟩
              have h0 : ((t :: ts).toArray[0]?, (#[Value.slice (some ⟨q5, Sh.sh id + off, none⟩) n c1, .slice a2 m c2] : Array Value)[0]?, (#[Value.slice (some ⟨q5, Sh.sh id + off, none⟩) n c1, .slice a2 m c2] : Array Value)[1]?) = (some t, some (.slice (some ⟨q5, Sh.sh id + off, none⟩) n c1), some (.slice a2 m c2)) := rfl
              unfold Builtin.copy_
              simp only [h0]
              rw [bind_run (run_underlying hu1 w)]
              simp only
              rw [bind_run (lenOf_sl _ _ _ _), bind_run (hd.size_run w), bind_run (y3 w rfl)]
              rw [show Sh.sh id + off = Sh.sh id + bk.off + (off - bk.off) by omega, bind_run hst]
              rfl
        · cases h
      · cases h
    · cases h
  · cases h
theorem alloc_nx (s : St) (l : List SC) : (allocS s l).nx = s.nx + 1 ∧ (allocS s l).tm = s.tm := by obtain ⟨tm, hp, nx, wr⟩ := s; exact ⟨rfl, rfl⟩
theorem litBytes_rep [Sh] {b : Nat → Option Nat} : ∀ {l : List SC} {ns : List Nat}, litBytes l = some ns → ∀ {vs : List Value}, FA2 (RepC b) l vs → vs = ns.map (fun n : Nat => Value.int .u8 (n : Int)) ∧ ∀ n ∈ ns, n ≤ 255
  | [], ns, h, vs, hv => by cases h; cases hv; exact ⟨rfl, fun n q => by cases q⟩
  | c :: r, ns, h, vs, hv => by
    cases hv with
    | cons h1 h2 =>
      unfold litBytes at h
      split at h
      · rename_i q; cases q
      · rename_i n r' q
        cases q
        split at h
        · rename_i l hl
          cases q2 : (ile 0 n && ile n 255)
          · rw [q2] at h; cases h
          · rw [q2] at h; cases h
            simp only [Bool.and_eq_true, ile_iff] at q2
            obtain ⟨k1, k2⟩ := litBytes_rep hl h2
            refine ⟨?_, fun m hm => ?_⟩
            · rw [k1, List.map_cons]
              have : ((n.toNat : Nat) : Int) = n := by omega
              rw [this]
              rw [show _ = Value.int .u8 n from h1]
            · rcases List.mem_cons.1 hm with rfl | hm
              · omega
              · exact k2 m hm
        · cases h
      · cases h
theorem bytesOf_eq : ∀ l : List Nat, bytesOf l = l.map UInt8.ofNat
  | [] => rfl
  | a :: r => by simp only [bytesOf, List.map_cons, bytesOf_eq r]
theorem strCells_rep [Sh] (b : Nat → Option Nat) : ∀ l : List Nat, FA2 (RepC b) (strCells l) (l.map fun n : Nat => Value.int .u8 (n : Int))
  | [] => .nil
  | _ :: r => .cons rfl (strCells_rep b r)
theorem convM_run [Sh] {e : Env} (he : TysOK P e.ty) {s s' : St} {src dst : Nat} {x : ST} {v : Option ST} (h : convM e s src dst x = some (v, s')) {w0 : World} {n0 : Base} {b : Nat → Option Nat} {a : Act} {w : World} (hc : Conc w0 n0 b s a w) {u : Value} (hx : RepT b x u) :
    MemP P w0 n0 b s a w (do pure (Next.value (← convert src dst u))) v s' := by
  unfold convM at h
  split at h
  · rename_i el _ _ _ str g1 g2
    split at h
    · rename_i d3 d4 g3
      simp only [freshS] at h
      cases h
      obtain ⟨rfl, _⟩ : u = .string str ∧ _ := hx
      have hel : P.underlying el = some (.int .u8) := he.int g3
      have hr := run_bytes_of_string (P := P) w src dst el str (he.str g1) (he.slice g2) hel
      have hgc : str.size ≤ grownCap w str.size 0 el := by unfold grownCap; exact Nat.le_add_right _ _
      have hsz : (bytesRow str (grownCap w str.size 0 el)).size = grownCap w str.size 0 el := by
        simp [bytesRow]
        have : str.data.size = str.size := rfl
        omega
      have hw : ∃ cc fr, w.drew.alloc (.cells (bytesRow str (grownCap w str.size 0 el)) el ((bytesRow str (grownCap w str.size 0 el)).size, (bytesRow str (grownCap w str.size 0 el)).size + 1)) = w.drew.alloc (.cells cc el fr) := ⟨_, _, rfl⟩
      have hd := hc.memory (w' := w.drew) rfl rfl rfl rfl
      have hcell : ∀ j, (w.drew.alloc (.cells (bytesRow str (grownCap w str.size 0 el)) el ((bytesRow str (grownCap w str.size 0 el)).size, (bytesRow str (grownCap w str.size 0 el)).size + 1))).cell? ⟨w.drew.heap.size, j, none⟩ = (bytesRow str (grownCap w str.size 0 el))[j]? := fun j => World.cell?_alloc_mark _ _ _ _ _
      have hfr : ∀ j, j < (bytesRow str (grownCap w str.size 0 el)).size → (w.drew.alloc (.cells (bytesRow str (grownCap w str.size 0 el)) el ((bytesRow str (grownCap w str.size 0 el)).size, (bytesRow str (grownCap w str.size 0 el)).size + 1))).frozen? ⟨w.drew.heap.size, j, none⟩ = false := by
        intro j hj
        unfold World.frozen?
        rw [heap_alloc_new w.drew]
        simp only [Bool.and_eq_false_iff, decide_eq_false_iff_not]
        left; omega
      obtain ⟨c, k1, k2, k3, k4⟩ := hd.allocO (strCells_rep b (bytesL str.data.toList)) (ob := .cells (bytesRow str (grownCap w str.size 0 el)) el ((bytesRow str (grownCap w str.size 0 el)).size, (bytesRow str (grownCap w str.size 0 el)).size + 1)) (m := grownCap w str.size 0 el) (cap := grownCap w str.size 0 el) (es := 1)
        (by rw [bytesL_eq]; simp; exact hgc) (fun j v hj => by
          rw [hcell, bytesRow]
          rw [bytesL_eq, List.map_map, List.getElem?_map] at hj
          cases q : str.data.toList[j]? with
          | none => rw [q] at hj; cases hj
          | some y =>
            rw [q] at hj
            simp only [Option.map_some, Function.comp, Option.some.injEq] at hj
            subst hj
            have hlt := (List.getElem?_eq_some_iff.1 q).1
            rw [Array.getElem?_append_left (by simpa using hlt), Array.getElem?_map]
            rw [Array.getElem?_toList] at q
            rw [q]; rfl) (fun j hj => ⟨by rw [hcell, Array.getElem?_eq_getElem (by rw [hsz]; exact hj)]; rfl, hfr j (by rw [hsz]; exact hj)⟩) (by omega)
      refine ⟨_, c, k1, by simp only [Nat.succ_eq_add_one]; omega, rfl, k4, .inl ⟨_, _, rfl, exec_v hr, ?_⟩⟩
      refine ⟨_, _, k2, k3, ?_, ?_⟩
      · rw [lenL_eq, hc.z _ (Nat.le_refl _)]; rfl
      · rw [lenL_eq]; exact hgc
    · cases h
  · rename_i el _ _ _ _ _ _ g1 g2
    split at h
    · rename_i _ _ n g3 g4
      split at h
      · rename_i l hl
        split at h
        · rename_i ns hns
          cases h
          have hel : P.underlying el = some (.int .u8) := he.int g3
          have hxs := asS_rep hx
          obtain ⟨d1, hd1, vs, x1, x2, x3, x4⟩ := rowS_run P hl hc.hp hxs
          rw [g3] at hd1; cases hd1
          obtain ⟨k1, k2⟩ := litBytes_rep hns x1
          have hval : (bytesOf ns).length = n := by rw [bytesOf_eq, List.length_map]; rw [k1] at x2; simpa using x2
          refine ⟨w, b, ExtN.refl _ _, Nat.le_refl _, rfl, hc, .inl ⟨_, .string ⟨(bytesOf ns).toArray⟩, rfl, exec_v ?_, rfl, rfl⟩⟩
          have hdst := he.str g2
          rcases slLen_rep g4 hxs with ⟨_, rfl, rfl⟩ | ⟨id, off, cap, m, c, _, _, rfl, _, _⟩
          · have : ns = [] := by
              rw [k1] at x2
              simpa using x2
            subst this
            rw [run_convert_bytes_string w src dst el none 0 0 (he.slice g1) hel hdst]
            rfl
          · have hload := x3 w rfl
            rw [run_convert_bytes_string w src dst el _ n c (he.slice g1) hel hdst]
            have hl2 : (loadCells ⟨m, Sh.sh id + off, none⟩ n).run P w = .ok ((ns.map (fun n : Nat => (n : Int))).map (Value.int .u8)).toArray w := by
              rw [k1] at hload
              have e0 : (Value.int .u8 ∘ fun n : Nat => (n : Int)) = fun n : Nat => Value.int .u8 (n : Int) := rfl
              rw [List.map_map, e0]
              simpa [Builtin.firstCells] using hload
            rw [run_bytesToString w _ n c _ hl2]
            have e1 : ns.map (fun n : Nat => (n : Int)) = (bytesOf ns).map (fun b => (b.toNat : Int)) := by
              rw [bytesOf_eq, List.map_map]
              refine List.map_congr_left fun y hy => ?_
              have := k2 y hy
              simp [Nat.mod_eq_of_lt (show y < 256 by omega)]
            rw [e1, foldl_push_byteCells]
            have e2 : ByteArray.empty.data = #[] := rfl
            rw [e2]
            simp
        · cases h
      · cases h
    · cases h
  · rename_i el _ _ _ _ _ _ _ id off n cap g1 g2
    cases q : Nat.beq src dst
    · rw [q] at h; cases h
    · rw [q] at h
      rw [beq_iff] at q
      subst q
      simp only [cond_true] at h
      split at h
      · rename_i _ _ _ bk g3 g4
        cases h
        have hel : P.underlying el = some (.int .u8) := he.int g3
        obtain ⟨m, c, hb, rfl, hle, hcap⟩ := RepL.slv hx
        obtain ⟨w', hr, hm⟩ := run_convert_same (P := P) w src el m (Sh.sh id + off) n c (he.slice g1) hel
        exact ⟨w', b, ExtN.refl _ _, Nat.le_refl _, rfl, hc.mark g4 hb hm, .inl ⟨_, _, rfl, exec_v hr, hx⟩⟩
      · cases h
  · rename_i d g1 _ _ _
    cases q : convS' e dst _ with
    | none => rw [q] at h; cases h
    | some r =>
      rw [q] at h; cases h
      obtain ⟨desc, hdesc, _⟩ := (he _ _ g1).und
      obtain ⟨z, hz, hr⟩ := convS_run (src := src) he q hx w ⟨desc, hdesc⟩
      exact ⟨w, b, ExtN.refl _ _, Nat.le_refl _, rfl, hc, .inl ⟨_, z, rfl, exec_v hz, hr⟩⟩
  · cases h
theorem run_buildSlice0 {P : Program} (w : World) (t e : TypeId) (len : Nat) (parts : Array (Nat × Value)) (cells : Array Value) (ie : TypeInfo) (hu : P.underlying t = some (.slice e)) (hie : P.info? e = some ie) (h0 : len = 0)
    (h : Instr.fill (fun i => some (i * ie.size, ie.size)) #[] parts.toList = some cells) :
    (Instr.buildSlice t len parts).run P w = .ok (.slice (some ⟨w.heap.size, 0, none⟩) len len) (w.alloc (.cells cells e)) := by
  subst h0
  simp [Instr.buildSlice, run_underlying hu, sizeOf, typeInfo, hie, newRow]
  have e9 : (Array.map (fun _ => (default : Value)) (Array.range 0)) = #[] := by simp
  rw [e9, h]
  rfl
theorem memS_run [Sh] {e : Env} (he : TysOK P e.ty) {o : Oper} {s s' : St} {v : Option ST} (h : memS e s o.op = some (v, s')) {w0 : World} {n0 : Base} {b : Nat → Option Nat} {a : Act} {w : World} (hc : Conc w0 n0 b s a w) :
    MemP P w0 n0 b s a w (execOp a.eval o) v s' := by
  have ht := hc.tm
  unfold execOp
  unfold memS at h
  cases ho : o.op <;> simp only [ho] at h ⊢
  case load t x =>
    split at h
    · rename_i p q1
      cases q : loadS e s.hp t p with
      | none => rw [q] at h; cases h
      | some r =>
        rw [q] at h; cases h
        obtain ⟨u, hu, hr⟩ := loadS_run he q hc.hp (evO_rep ht q1)
        exact ⟨w, b, ExtN.refl _ _, Nat.le_refl _, rfl, hc, .inl ⟨_, u, rfl, exec_v hu, hr⟩⟩
    · cases h
  case store t x y =>
    split at h
    · rename_i p p2 q1 q2
      cases q : storeS e s t p p2 with
      | none => rw [q] at h; cases h
      | some r =>
        rw [q] at h; cases h
        obtain ⟨w', h1, h2, h3, h4⟩ := storeS_run he q hc (evO_rep ht q1) (evO_rep ht q2)
        refine ⟨w', b, ExtN.refl _ _, by rw [h1]; exact Nat.le_refl _, h2, h3, .inr ⟨rfl, ?_⟩⟩
        rw [bind_run h4]; rfl
    · cases h
  case convert src dst x =>
    split at h
    · rename_i p q1
      exact convM_run he h hc (evO_rep ht q1)
    · cases h
  case alloc t =>
    split at h
    · rename_i d g
      cases h
      have hd := he _ _ g
      obtain ⟨z, hz, hzr, _, _⟩ := hd.zero_run w
      obtain ⟨c, k1, k2, k3⟩ := hc.alloc (hzr b) (vs := z.cells) (fun j u hj => by simpa using hj) t
      refine ⟨_, c, k1, by rw [(alloc_nx _ _).1]; omega, (alloc_nx _ _).2, k3, .inl ⟨_, .pointer (some ⟨w.heap.size, 0, none⟩), rfl, ?_, _, k2, by rw [hc.z _ (Nat.le_refl _)]⟩⟩
      refine exec_v ?_
      unfold Instr.alloc
      rw [bind_run hz]
      rfl
    · cases h
  case box t x =>
    split at h
    · rename_i sv q1
      cases h
      have hx := evO_rep ht q1
      obtain ⟨c, k1, k2, k3⟩ := hc.alloc (RepV.cells hx) (vs := (a.eval x).cells) (fun j u hj => by simpa using hj) t
      refine ⟨_, c, k1, by rw [(alloc_nx _ _).1]; omega, (alloc_nx _ _).2, k3, .inl ⟨_, .pointer (some ⟨w.heap.size, 0, none⟩), rfl, ?_, _, k2, by rw [hc.z _ (Nat.le_refl _)]⟩⟩
      exact exec_v rfl
    · cases h
  case buildSlice t n ps =>
    split at h
    · rename_i el _ _ _ l g1 q1
      split at h
      · rename_i d g2
        cases q2 : buildOne e (repL d.zero n) (fun i => some (i * d.size, d.size)) l with
        | none => rw [q2] at h; cases h
        | some cs =>
          rw [q2] at h
          simp only at h
          cases q3 : ((Nat.blt 0 (Nat.mul n d.size) || Nat.beq n 0) && Nat.ble (Nat.mul n d.size) 1000000)
          · rw [q3] at h; cases h
          · rw [q3] at h; cases h
            simp only [Bool.and_eq_true, Bool.or_eq_true, ble_iff, beq_iff, Nat.blt_eq] at q3
            have q31 : 0 < n * d.size ∨ n = 0 := q3.1
            have q32 : n * d.size ≤ 1000000 := q3.2
            have hd := he _ _ g2
            obtain ⟨i, z, hi, his, hib, hz, hzr, hza, hzl⟩ := hd.info
            have hp := evParts_rep ht q1
            have hzz := zeros_rep (hzr b) n
            rw [hzl] at hzz
            obtain ⟨out, ho1, ho2, ho3⟩ := buildOne_run (place' := fun i => some (i * d.size, d.size)) (fun i x hx => hx) q2 (vs := (ps.map fun p => (p.1, a.eval p.2)).toList) (by rw [Array.toList_map]; exact hp) hzz
            have e9 : n = 0 → Instr.fill (fun i => some (i * d.size, d.size)) #[] (ps.map fun p => (p.1, a.eval p.2)).toList = some out := by
              intro g9
              subst g9
              have e8 : (Array.range (0 * d.size)) = #[] := by rw [Nat.zero_mul]; simp
              rw [e8, show (Array.map (fun x => z.cells[x % z.cells.size]!) (#[] : Array Nat)) = #[] by simp] at ho1; exact ho1
            rcases q31 with q31 | q31
            · have hrun := run_buildSlice (P := P) w t el n (ps.map fun p => (p.1, a.eval p.2)) out i z (he.slice g1) hi hz (by rw [his]; omega) (by rw [his]; omega) (by rw [his]; exact ho1)
              obtain ⟨c, k1, k2, k3⟩ := hc.alloc ho2 (vs := out) (fun j u hj => by simpa using hj) el
              refine ⟨_, c, k1, by rw [(alloc_nx _ _).1]; omega, (alloc_nx _ _).2, k3, .inl ⟨_, .slice (some ⟨w.heap.size, 0, none⟩) n n, rfl, exec_v hrun, _, k2, by rw [hc.z _ (Nat.le_refl _)], Nat.le_refl _⟩⟩
            · have hrun := run_buildSlice0 (P := P) w t el n (ps.map fun p => (p.1, a.eval p.2)) out i (he.slice g1) hi q31 (by rw [his]; exact e9 q31)
              obtain ⟨c, k1, k2, k3⟩ := hc.alloc ho2 (vs := out) (fun j u hj => by simpa using hj) el
              refine ⟨_, c, k1, by rw [(alloc_nx _ _).1]; omega, (alloc_nx _ _).2, k3, .inl ⟨_, .slice (some ⟨w.heap.size, 0, none⟩) n n, rfl, exec_v hrun, _, k2, by rw [hc.z _ (Nat.le_refl _)], Nat.le_refl _⟩⟩
      · cases h
    · cases h
  case makeSlice t l c =>
    split at h
    · rename_i el _ _ _ n m g1 q1 q2
      split at h
      · rename_i d g2
        cases q3 : (Nat.ble n m && (Nat.ble (Nat.mul d.bytes m) 1000000000 && Nat.ble m 1000000))
        · rw [q3] at h; cases h
        · rw [q3] at h; cases h
          simp only [Bool.and_eq_true, ble_iff] at q3
          obtain ⟨b1, b2, b3⟩ := q3
          have b2' : d.bytes * m ≤ 1000000000 := b2
          have hd := he _ _ g2
          obtain ⟨k, x, e1, x1, x2⟩ := nat?_some q1
          obtain ⟨k', y, e2, y1, y2⟩ := nat?_some q2
          have hl : a.eval l = .int k x := evO_rep ht e1
          have hcv : a.eval c = .int k' y := evO_rep ht e2
          obtain ⟨i, hi, hib, his⟩ := hd.info_run w
          obtain ⟨z, hz, hzr, hza, hzl⟩ := hd.zero_run w
          have hwx : IntKind.i64.wrap x = x := wrap_in .i64 x (by simp [kmin]; omega) (by simp [kmax]; omega)
          have hwy : IntKind.i64.wrap y = y := wrap_in .i64 y (by simp [kmin]; omega) (by simp [kmax]; omega)
          obtain ⟨arr, harr, hrow⟩ : ∃ arr : Array Value, FA2 (RepC b) (repL d.zero m) arr.toList ∧ (Instr.makeSlice t (.int k x) (.int k' y)).run P w = .ok (.slice (some ⟨w.heap.size, 0, none⟩) n m) (w.alloc (.cells arr el)) := by
            have hroom : (askRoom (m * i.bytes)).run P w = .ok () w := by unfold askRoom; split <;> rfl
            have hty : ¬ ((y < 0 || (i.bytes : Int) * y > 2 ^ 48) || x < 0 || x > y) = true := by
              have hm : (i.bytes : Int) * y = ((d.bytes * m : Nat) : Int) := by rw [hib, show y = (m : Int) by omega]; simp
              simp only [Bool.or_eq_true, decide_eq_true_eq, hm]
              omega
            unfold Instr.makeSlice
            rw [bind_run (run_underlying (he.slice g1) w)]
            simp only [asInt, asIntOf]
            rw [bind_run (by rw [bind_run (Sem.run_pure _ _ _)]; rfl : (do let __ ← (pure (k, x) : Sem (IntKind × Int)); pure __.2 : Sem Int).run P w = .ok x w)]
            rw [bind_run (by rw [bind_run (Sem.run_pure _ _ _)]; rfl : (do let __ ← (pure (k', y) : Sem (IntKind × Int)); pure __.2 : Sem Int).run P w = .ok y w)]
            rw [bind_run hi]
            simp only [hwx, hwy]
            rw [if_neg hty, y2, bind_run hroom, bind_run (hd.size_run w)]
            have hzz := zeros_rep (hzr b) m
            rw [hzl] at hzz
            by_cases h0 : m * d.size = 0
            · rw [if_pos h0, bind_run (Sem.run_pure _ _ _)]
              refine ⟨(Array.range (m * d.size)).map ((#[] : Array Value)[· % (#[] : Array Value).size]!), ?_, by rw [x2]; rfl⟩
              rw [h0]
              have : repL d.zero m = [] := List.eq_nil_of_length_eq_zero (by rw [repL_len, hzl]; exact h0)
              rw [this]
              simp
              exact .nil
            · rw [if_neg h0]
              refine ⟨_, hzz, ?_⟩
              rw [bind_run hz, bind_run (Sem.run_pure _ _ _), x2]; rfl
          obtain ⟨c2, k1, k2, k3⟩ := hc.alloc harr (vs := arr) (fun j u hj => by simpa using hj) el
          rw [hl, hcv]
          exact ⟨_, c2, k1, by rw [(alloc_nx _ _).1]; omega, (alloc_nx _ _).2, k3, .inl ⟨_, .slice (some ⟨w.heap.size, 0, none⟩) n m, rfl, exec_v hrow, _, k2, by rw [hc.z _ (Nat.le_refl _)], b1⟩⟩
      · cases h
    · cases h
  case call c =>
    obtain ⟨callee, args, ats⟩ := c
    have e2 : ats = ats.toList.toArray := by simp
    cases callee with
    | builtin bi =>
      cases bi <;> simp only at h
      case append =>
        split at h
        · rename_i x y t t2 q1 q2
          cases q : appendS e s t t2 x y with
          | none => rw [q] at h; cases h
          | some r =>
            obtain ⟨v', s2⟩ := r
            rw [q] at h; cases h
            have hr := evL_rep ht q1
            rw [← Array.toList_map] at hr
            cases hm : (args.map a.eval).toList with
            | nil => rw [hm] at hr; cases hr
            | cons u1 r1 =>
              rw [hm] at hr
              cases hr with
              | cons hx hr2 =>
                cases hr2 with
                | cons hy hr3 =>
                  cases hr3
                  rename_i u2
                  obtain ⟨w', c, u, k1, k2, k3, k4, k5, k6⟩ := appendS_run he q hc hx hy o.type
                  refine ⟨w', c, k1, k2, k3, k4, .inl ⟨_, u, rfl, ?_, k6⟩⟩
                  have e1 : args.map a.eval = #[u1, u2] := by rw [← Array.toArray_toList (xs := args.map a.eval), hm]
                  simp only [resolve]
                  rw [bind_run (Sem.run_pure _ _ _)]
                  simp only [invoke, builtin]
                  rw [e1, e2, q2]
                  exact exec_v k5
        · cases h
      case copy =>
        split at h
        · rename_i x y t ts q1 q2
          cases q : copyS e s t (asS x) (asS y) with
          | none => rw [q] at h; cases h
          | some r =>
            obtain ⟨v', s2⟩ := r
            rw [q] at h; cases h
            have hr := evL_rep ht q1
            rw [← Array.toList_map] at hr
            cases hm : (args.map a.eval).toList with
            | nil => rw [hm] at hr; cases hr
            | cons u1 r1 =>
              rw [hm] at hr
              cases hr with
              | cons hx hr2 =>
                cases hr2 with
                | cons hy hr3 =>
                  cases hr3
                  rename_i u2
                  obtain ⟨w', u, k2, k3, k4, k5, k6⟩ := copyS_run (ts := ts) he q hc (asS_rep hx) (asS_rep hy) o.type
                  refine ⟨w', b, ExtN.refl _ _, by rw [k2]; exact Nat.le_refl _, k3, k4, .inl ⟨_, u, rfl, ?_, k6⟩⟩
                  have e1 : args.map a.eval = #[u1, u2] := by rw [← Array.toArray_toList (xs := args.map a.eval), hm]
                  simp only [resolve]
                  rw [bind_run (Sem.run_pure _ _ _)]
                  simp only [invoke, builtin]
                  rw [e1, e2, q2]
                  exact exec_v k5
        · cases h
      all_goals cases h
    | value f => cases h
    | invoke r m => cases h
  all_goals cases h
end Go.Proofs.YtpkclnkibhgpkaaGreat.Sx
