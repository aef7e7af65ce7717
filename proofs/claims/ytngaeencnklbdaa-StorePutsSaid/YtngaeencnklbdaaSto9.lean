/-
  WHAT IS PROVED HERE: what an insertion of one item into a list of the call's own hands back. Condition: at most 4096 items.
-/
import Derived.Test.YtngaeencnklbdaaSto8
import Derived.Lib.AppendZerosOnto
import Derived.Lib.Overlaps
namespace Go.Proofs.Ytngaeencnklbdaa
open Go.RowKit

theorem run_copy3 {w : World} (ty : TypeId) (g o dLen dCap : Nat) (ad : Addr) (sLen sCap k : Nat) (cur : Array Value) (cs : List Value) (hk : Nat.min sLen dLen = k) (hg : w.heap[g]? = some (.cells cur 35 (0, 0))) (hn : cs.length = k * 3)
    (hsrc : ∀ j v, cs[j]? = some v → w.cell? (ad.add j) = some v) (hfit : o + cs.length ≤ cur.size) (h1 : ∀ v ∈ cs, v.oneCell' = true) :
    (Builtin.copy_ #[22, 22] ty #[.slice (some ⟨g, o, none⟩) dLen dCap, .slice (some ad) sLen sCap]).run Try.prog w =
      .ok (goInt k) (w.setRow g (cur.toList.take o ++ cs ++ cur.toList.drop (o + cs.length)).toArray) := by
  obtain ⟨i, hi, _, hz, _⟩ := info_parts40 itemJ3
  have hl := run_firstCells_some (P := Try.prog) (w := w) 3 k ad sLen sCap cs hn hsrc
  have hst := run_storeCells_atM Try.prog g o 35 (0, 0) cs 0 cur w hg (.inl rfl) (by simpa using hfit) h1
  rw [Nat.add_zero] at hst
  simp [Builtin.copy_, run_underlying Try.underlying22, Builtin.lenOf, sizeOf, typeInfo, hi, hz, hk, hl, hst]
theorem wpl_copy3 {ops : Array Oper} {rest : List Oper} {o : Oper} {a : Act} {Q : Exit → Act → World → Prop} (hgd : o.guard = none) (d s : Operand)
    (ho : o.op = .call { callee := .builtin .copy, args := #[d, s], argTypes := #[22, 22] }) {w : World} (vd vs : Value) (hd : a.eval d = vd) (hs : a.eval s = vs) (r : Value) (w' : World)
    (hrun : (Builtin.copy_ #[22, 22] o.type #[vd, vs]).run Try.prog w = .ok r w')
    (h : wpList Try.prog ops Q rest (a.put o.dst r) w') : wpList Try.prog ops Q (o :: rest) a w :=
  wpList_plain hgd fun _ hK => by
    unfold Oper.wp execOp
    simp only [ho, resolve, invoke, builtin, Sem.run_bind, Sem.run_pure, Result.andThen_ok, List.map_toArray, List.map_cons, List.map_nil, hd, hs, hrun]
    exact hK _ _ h
theorem ins_a (olds xc ds R : List Value) (h : xc.length + ds.length ≤ R.length) :
    let C0 := olds ++ R
    let C1 := C0.take olds.length ++ xc ++ C0.drop (olds.length + xc.length)
    let C2 := C1.take (olds.length + xc.length) ++ ds ++ C1.drop (olds.length + xc.length + ds.length)
    C2.take (olds.length + xc.length + ds.length) = olds ++ xc ++ ds ∧ C2.length = C0.length := by
  intro C0 C1 C2
  have e1 : C1 = (olds ++ xc) ++ R.drop xc.length := by
    show (olds ++ R).take olds.length ++ xc ++ (olds ++ R).drop (olds.length + xc.length) = _
    rw [List.take_left, List.drop_append, List.drop_eq_nil_of_le (by omega), Nat.add_sub_cancel_left, List.nil_append]
  have e2 : C2 = (olds ++ xc ++ ds) ++ C1.drop (olds.length + xc.length + ds.length) := by
    show C1.take (olds.length + xc.length) ++ ds ++ _ = _
    rw [e1, show olds.length + xc.length = (olds ++ xc).length from (List.length_append).symm, List.take_left]
  refine ⟨?_, ?_⟩
  · rw [e2, show olds.length + xc.length + ds.length = (olds ++ xc ++ ds).length from by simp; omega, List.take_left]
  · rw [e2, e1]
    simp only [List.length_append, List.length_drop]
    show _ = (olds ++ R).length
    rw [List.length_append]
    omega
theorem ins_b (olds xc ds R : List Value) (hx : xc.length ≤ ds.length + R.length) (h : xc.length ≤ R.length) :
    let C0 := olds ++ ds ++ R
    let C1 := C0.take (olds.length + xc.length) ++ ds ++ C0.drop (olds.length + xc.length + ds.length)
    let C2 := C1.take olds.length ++ xc ++ C1.drop (olds.length + xc.length)
    C2.take (olds.length + xc.length + ds.length) = olds ++ xc ++ ds ∧ C2.length = C0.length := by
  intro C0 C1 C2
  have l0 : C0.length = olds.length + ds.length + R.length := by show (olds ++ ds ++ R).length = _; rw [List.length_append, List.length_append]
  have l1 : (C0.take (olds.length + xc.length)).length = olds.length + xc.length := by rw [List.length_take, l0]; omega
  have t1 : C1.take olds.length = olds := by
    show (C0.take (olds.length + xc.length) ++ ds ++ _).take olds.length = _
    rw [List.append_assoc, List.take_append_of_le_length (by rw [l1]; omega), List.take_take, Nat.min_eq_left (by omega)]
    show (olds ++ ds ++ R).take olds.length = olds
    rw [List.append_assoc, List.take_left]
  have d1 : C1.drop (olds.length + xc.length) = ds ++ C0.drop (olds.length + xc.length + ds.length) := by
    show (C0.take (olds.length + xc.length) ++ ds ++ _).drop (olds.length + xc.length) = _
    rw [List.append_assoc]
    have := List.drop_left (l₁ := C0.take (olds.length + xc.length)) (l₂ := ds ++ C0.drop (olds.length + xc.length + ds.length))
    rw [l1] at this
    exact this
  have e2 : C2 = (olds ++ xc ++ ds) ++ C0.drop (olds.length + xc.length + ds.length) := by
    show C1.take olds.length ++ xc ++ C1.drop (olds.length + xc.length) = _
    rw [t1, d1]
    simp
  refine ⟨?_, ?_⟩
  · rw [e2, show olds.length + xc.length + ds.length = (olds ++ xc ++ ds).length from by simp; omega, List.take_left]
  · rw [e2]
    simp only [List.length_append, List.length_drop, l0]
    omega
theorem next_small {n : Nat} (hn : n ≤ 4096) : Builtin.nextslicecap (n + 1) n * 40 ≤ 281474976710656 := by
  have h : Builtin.nextslicecap (n + 1) n ≤ 100000 := by
    unfold Builtin.nextslicecap
    split
    · omega
    · split
      · omega
      · simp only [Builtin.growBy]
        split
        · omega
        · split
          · omega
          · split
            · omega
            · split <;> omega
  omega
theorem size_item (w : World) : (sizeOf 35).run Try.prog w = .ok 3 w := by
  obtain ⟨i, hi, _, hz, _⟩ := info_parts40 itemJ3
  simp [sizeOf, typeInfo, hi, hz]
theorem itmsL_drop (is : List Itm) (k : Nat) : (itmsL is).drop (k * 3) = itmsL (is.drop k) := by
  induction is generalizing k with
  | nil => simp [itmsL]
  | cons i is ih =>
    cases k with
    | zero => simp
    | succ k =>
      have h := ih k
      rw [show (k + 1) * 3 = k * 3 + 3 from by omega]
      unfold itmsL at *
      simp only [List.flatMap_cons, List.drop_succ_cons, itmCells, List.cons_append, List.nil_append]
      exact h
theorem grown_row (w : World) (g : Nat) (cs : Array Value) : w.grownBy (w.setRow g cs) (some g) := ⟨rfl, rfl, rfl, by simp, fun k _ hk => setRow_other w g k _ (fun e => hk (by rw [e]))⟩
theorem itm_cells_one (x : Itm) : ∀ v ∈ itmCells x, v.oneCell' = true := by
  intro v hv
  simp [itmCells] at hv
  rcases hv with rfl | rfl | rfl <;> rfl
set_option maxRecDepth 100000 in
set_option maxHeartbeats 3200000 in
theorem Insert_any (is : List Itm) (x : Itm) (v : Value) (n p gx cx : Nat) (w : World) {B : Nat} (hB : B ≤ w.heap.size) (hn : n ≤ 4096) (hp : p ≤ n) (own : OwnI w B v n is) (hx : Blk w gx 35 #[.string x.k, .string x.b, .int .i64 x.r]) (hne : v.ownBlock ≠ some gx) :
    Calls Try.prog 26 #[v, .int .i64 p, .slice (some ⟨gx, 0, none⟩) 1 cx] w fun e w' => ∃ v', e = .returned v' ∧ OwnI w' B v' (n + 1) (is.take p ++ x :: is.drop p) ∧ w.grownBy w' v.ownBlock := by
  obtain ⟨j0, hj0, hjz, hj1, hj2⟩ := info_parts40 itemJ3
  obtain ⟨A, cap, rfl, hc1, hc2⟩ := own_slice own
  have hlen := own.len
  have hsl0 := run_slice_from (P := Try.prog) (w := w) 22 35 Try.underlying22 j0 hj0 3 hj1 A n cap p (by omega) (by omega)
  rw [Int.toNat_natCast] at hsl0
  rcases (by omega : p = n ∨ (p < n ∧ n = cap) ∨ (p < n ∧ n + 1 ≤ cap)) with rfl | ⟨hpn, rfl⟩ | ⟨hpn, hcap⟩
  · have hres : Hid (is.take p ++ x :: is.drop p = is ++ [x]) := by
      rw [Hid, List.take_of_length_le (by omega), List.drop_eq_nil_of_le (by omega)]
    have hnew : Itms w 0 (some ⟨gx, 0, none⟩) 1 [x] := by
      refine ⟨rfl, fun _ => ⟨gx, 0, rfl, hx.lt, .inr ⟨_, _, hx⟩, fun j u hu => ?_⟩⟩
      rw [Nat.zero_add, hx.cell j]
      rcases j with _ | _ | _ | j
      · exact hu
      · exact hu
      · exact hu
      · simp [itmsL, itmCells] at hu
    replace hx := hid_mk hx
    refine calls_of_wpQ Try.func26 rfl ?_
    intro Q hQ
    simp only [Try.ntmps26, List.size_toArray, List.length_cons, List.length_nil, Nat.reduceAdd, Nat.reduceSub, Array.replicate_succ, Array.replicate_zero, List.push_toArray, List.append_toArray, List.nil_append, List.cons_append]
    go_wp2_with (at_builtin; refine wpList_append_any _ rfl (.tmp 23) (.tmp 24) _ rfl B 35 j0 _ 3 40 Try.underlying22 hj0 hjz hj1 hj2 rfl (by omega) _ p (itmsL is) rfl own 0 (some ⟨gx, 0, none⟩) 1 cx (itmsL [x]) rfl hnew (itm_one [x]) (by simp only [maxLen]; omega) (by omega) hB ?_; intro v1 w1 hown1 hg1 hat1; obtain ⟨A1, c1, rfl, hd1, hd2⟩ := own_slice hown1)
    refine ends_ret hQ (results_tmp rfl _ _ _) rfl ?_
    refine ⟨.slice A1 (p + 1) c1, rfl, ?_, hg1⟩
    rw [hres.out]
    unfold OwnI
    rw [itmsL_app]
    exact hown1
  · obtain ⟨g, c', hv, _, _, hgB, hgl⟩ := own.some_ (by omega)
    obtain ⟨rfl, rfl⟩ : A = some ⟨g, 0, none⟩ ∧ n = c' := by injection hv with e1 e2 e3; exact ⟨e1, e3⟩
    have hgx : gx ≠ g := by simpa [Value.ownBlock] using fun e : gx = g => hne (by rw [e]; rfl)
    have hgxl := hx.lt
    obtain ⟨k, hk⟩ : ∃ k, n + 1 - p = k := ⟨_, rfl⟩
    have hpk : p + k = n + 1 := by omega
    have holl : (itmsL (is.take p)).length = p * 3 := by rw [itmsL_len, List.length_take, hlen, Nat.min_eq_left (by omega)]
    have hdl : (itmsL (is.drop p)).length = (n - p) * 3 := by rw [itmsL_len, List.length_drop, hlen]
    have hold := run_firstCells_some (P := Try.prog) (w := w.drew) 3 p ⟨g, 0, none⟩ p n (itmsL (is.take p)) holl (fun j v hj => by
      rw [add_plain, Nat.zero_add]
      have hjl := (List.getElem?_eq_some_iff.1 hj).1
      rw [holl] at hjl
      have h1 : (itmsL is)[j]? = some v := by
        rw [← itmsL_take, List.getElem?_take_of_lt hjl] at hj
        exact hj
      exact (World.ownsRow.cellAt own j (by omega)).trans h1)
    have happ := Lib.run_append_grow_zeros (P := Try.prog) w 22 3 22 35 j0 _ .i64 .i64 Try.underlying22 Try.underlying3 hj0 hjz (some ⟨g, 0, none⟩) p n (itmsL (is.take p)) (by rw [hj1]; exact hold) k (by omega) (by rw [hj1]; omega) (by omega) (by omega) (by rw [hj2]; omega) (by rw [hj2, hpk]; exact next_small hn)
    rw [hpk] at happ
    have hge := grownCap_ge w (n + 1) n 35
    have hle := grownCap_le_maxLen w (n + 1) n 35 (by unfold maxLen; omega)
    obtain ⟨c, hc⟩ : ∃ c, grownCap w (n + 1) n 35 = c := ⟨_, rfl⟩
    rw [hc] at happ hge hle
    obtain ⟨D, hD⟩ : ∃ D : Array Value, (itmsL (is.take p)).toArray ++ Builtin.zeroCells (Value.agg #[.string ByteArray.empty, .string ByteArray.empty, .int .i64 0]).cells k ++ Builtin.zeroCells (Value.agg #[.string ByteArray.empty, .string ByteArray.empty, .int .i64 0]).cells (c - (n + 1)) = D := ⟨_, rfl⟩
    rw [hD] at happ
    have hzs : ∀ m, (Builtin.zeroCells (Value.agg #[.string ByteArray.empty, .string ByteArray.empty, .int .i64 0]).cells m).size = m * 3 := by
      intro m
      unfold Builtin.zeroCells
      simp [Value.cells]
    obtain ⟨R, hR⟩ : ∃ R : List Value, D.toList = itmsL (is.take p) ++ R ∧ R.length = k * 3 + (c - (n + 1)) * 3 := by
      refine ⟨(Builtin.zeroCells (Value.agg #[.string ByteArray.empty, .string ByteArray.empty, .int .i64 0]).cells k).toList ++ (Builtin.zeroCells (Value.agg #[.string ByteArray.empty, .string ByteArray.empty, .int .i64 0]).cells (c - (n + 1))).toList, ?_, ?_⟩
      · rw [← hD]; simp
      · simp [hzs]
    obtain ⟨hDl, hRl⟩ := hR
    have hDs : D.size = c * 3 := by
      rw [← Array.length_toList, hDl, List.length_append, holl, hRl]; omega
    obtain ⟨G, hG⟩ : ∃ G, w.heap.size = G := ⟨_, rfl⟩
    obtain ⟨W0, hW0⟩ : ∃ W, w.drew.alloc (.cells D 35) = W := ⟨_, rfl⟩
    have hrow0 : W0.heap[G]? = some (.cells D 35 (0, 0)) := by rw [← hW0, ← hG]; exact heap_alloc_new w.drew _
    have hx0 : Blk W0 gx 35 #[.string x.k, .string x.b, .int .i64 x.r] := by rw [← hW0]; exact hx.drew.alloc _
    have hb0 : Below w.heap.size w W0 := by rw [← hW0]; exact (Below.refl _ w).drew.alloc (Nat.le_refl _) _
    rw [hW0, hG] at happ
    obtain ⟨hC2t, hC2l⟩ := ins_a (itmsL (is.take p)) (itmCells x) (itmsL (is.drop p)) R (by rw [hRl, hdl]; show 3 + _ ≤ _; omega)
    rw [← hDl, holl, hdl, show (itmCells x).length = 3 from rfl] at hC2t
    rw [← hDl, holl, hdl, show (itmCells x).length = 3 from rfl] at hC2l
    have hcutG : ∀ q, q < c → cutA (some ⟨G, 0, none⟩) c q 3 = some ⟨G, q * 3, none⟩ := by
      intro q hq
      unfold cutA
      rw [if_neg (by omega)]
      show some ((⟨G, 0, none⟩ : Addr).add (q * 3)) = _
      rw [add_plain, Nat.zero_add]
    have hcutg : cutA (some ⟨g, 0, none⟩) n p 3 = some ⟨g, p * 3, none⟩ := by
      unfold cutA
      rw [if_neg (by omega)]
      show some ((⟨g, 0, none⟩ : Addr).add (p * 3)) = _
      rw [add_plain, Nat.zero_add]
    have hslP : ∀ W : World, (Instr.slice 22 (.slice (some ⟨g, 0, none⟩) n n) none (some (.int .i64 (p : Int))) none).run Try.prog W = .ok (.slice (some ⟨g, 0, none⟩) p n) W := fun W => by
      have h := run_slice_upto (P := Try.prog) (w := W) 22 35 Try.underlying22 j0 hj0 (some ⟨g, 0, none⟩) n n (p : Int) (by omega) (by omega)
      rw [Int.toNat_natCast] at h
      exact h
    have hslX : ∀ W : World, (Instr.slice 22 (.slice (some ⟨G, 0, none⟩) (n + 1) c) (some (.int .i64 (p : Int))) none none).run Try.prog W = .ok (.slice (some ⟨G, p * 3, none⟩) (n + 1 - p) (c - p)) W := fun W => by
      have h := run_slice_from (P := Try.prog) (w := W) 22 35 Try.underlying22 j0 hj0 3 hj1 (some ⟨G, 0, none⟩) (n + 1) c (p : Int) (by omega) (by omega)
      rw [Int.toNat_natCast, hcutG p (by omega)] at h
      exact h
    have hslY : ∀ W : World, (Instr.slice 22 (.slice (some ⟨G, 0, none⟩) (n + 1) c) (some (.int .i64 ((p : Int) + 1))) none none).run Try.prog W = .ok (.slice (some ⟨G, (p + 1) * 3, none⟩) (n - p) (c - (p + 1))) W := fun W => by
      have h := run_slice_from (P := Try.prog) (w := W) 22 35 Try.underlying22 j0 hj0 3 hj1 (some ⟨G, 0, none⟩) (n + 1) c ((p : Int) + 1) (by omega) (by omega)
      rw [show ((p : Int) + 1).toNat = p + 1 from by omega, hcutG (p + 1) (by omega), show n + 1 - (p + 1) = n - p from by omega] at h
      exact h
    have hslZ : ∀ W : World, (Instr.slice 22 (.slice (some ⟨g, 0, none⟩) n n) (some (.int .i64 (p : Int))) none none).run Try.prog W = .ok (.slice (some ⟨g, p * 3, none⟩) (n - p) (n - p)) W := fun W => by
      have h := run_slice_from (P := Try.prog) (w := W) 22 35 Try.underlying22 j0 hj0 3 hj1 (some ⟨g, 0, none⟩) n n (p : Int) (by omega) (by omega)
      rw [Int.toNat_natCast, hcutg] at h
      exact h
    have hcpA := run_copy3 (w := W0) 3 G (p * 3) (n + 1 - p) (c - p) ⟨gx, 0, none⟩ 1 cx 1 D (itmCells x) (by show min 1 (n + 1 - p) = 1; omega) hrow0 rfl (fun j v hj => by
      rw [add_plain, Nat.zero_add, hx0.cell j]
      rcases j with _ | _ | _ | j
      · exact hj
      · exact hj
      · exact hj
      · simp [itmCells] at hj) (by rw [hDs]; show p * 3 + 3 ≤ _; omega) (itm_cells_one x)
    obtain ⟨C1, hC1⟩ : ∃ C, D.toList.take (p * 3) ++ itmCells x ++ D.toList.drop (p * 3 + (itmCells x).length) = C := ⟨_, rfl⟩
    rw [hC1] at hcpA
    obtain ⟨W1, hW1⟩ : ∃ W, W0.setRow G C1.toArray = W := ⟨_, rfl⟩
    have hrow1 : W1.heap[G]? = some (.cells C1.toArray 35 (0, 0)) := by rw [← hW1]; exact setRow_heap W0 G D _ 35 (0, 0) hrow0
    have hb1 : Below w.heap.size w W1 := by rw [← hW1]; exact below_setRow hb0 (by omega) _
    rw [hW1] at hcpA
    have hC1l : C1.length = c * 3 := by
      rw [← hC1]
      simp only [List.length_append, List.length_take, List.length_drop, Array.length_toList, hDs]
      show _ + 3 + (_ - (_ + 3)) = _
      omega
    have hcpB := run_copy3 (w := W1.drew) 3 G ((p + 1) * 3) (n - p) (c - (p + 1)) ⟨g, p * 3, none⟩ (n - p) (n - p) (n - p) C1.toArray (itmsL (is.drop p)) (by show min (n - p) (n - p) = n - p; omega) hrow1 hdl (fun j v hj => by
      rw [add_plain]
      have h1 : (itmsL is)[p * 3 + j]? = some v := by rw [← itmsL_drop, List.getElem?_drop] at hj; exact hj
      have h2 := World.ownsRow.cellAt own (p * 3 + j) (by have := (List.getElem?_eq_some_iff.1 h1).1; rw [itmsL_len, hlen] at this; exact this)
      exact (((bcell hb1).1 _ _ hgl).trans h2).trans h1) (by rw [hdl, List.size_toArray, hC1l]; omega) (itm_one _)
    obtain ⟨C2, hC2⟩ : ∃ C, C1.toArray.toList.take ((p + 1) * 3) ++ itmsL (is.drop p) ++ C1.toArray.toList.drop ((p + 1) * 3 + (itmsL (is.drop p)).length) = C := ⟨_, rfl⟩
    rw [hC2] at hcpB
    obtain ⟨W2, hW2⟩ : ∃ W, W1.drew.setRow G C2.toArray = W := ⟨_, rfl⟩
    have hrow2 : W2.heap[G]? = some (.cells C2.toArray 35 (0, 0)) := by rw [← hW2]; exact setRow_heap W1.drew G _ _ 35 (0, 0) hrow1
    have hb2 : Hid (Below w.heap.size w W2) := by rw [← hW2]; exact below_setRow hb1.drew (by omega) _
    rw [hW2] at hcpB
    have own2 : Hid (OwnI W2 B (.slice (some ⟨G, 0, none⟩) (n + 1) c) (n + 1) (is.take p ++ x :: is.drop p)) := by
      have hfin : C2.take (p * 3 + 3 + (n - p) * 3) = itmsL (is.take p) ++ itmCells x ++ itmsL (is.drop p) ∧ C2.length = D.toList.length := by
        rw [← hC2, List.toList_toArray, hdl, ← hC1, show (p + 1) * 3 = p * 3 + 3 from by omega]
        exact ⟨hC2t, hC2l⟩
      refine ⟨?_, .inr ⟨G, c, C2.toArray, rfl, by omega, hrow2, hge, hle, ?_, ?_⟩⟩
      · rw [itmsL_len, List.length_append, List.length_cons, List.length_take, List.length_drop, hlen]; omega
      · rw [List.size_toArray, hfin.2, Array.length_toList, hDs]
      · rw [List.toList_toArray, show (n + 1) * 3 = p * 3 + 3 + (n - p) * 3 from by omega, hfin.1, itmsL_app, List.append_assoc]
        rfl
    have hq1 : ((p : Int) == (n : Int)) = false := by simp; omega
    have hq2 : decide ((n : Int) < (n : Int) + 1) = true := decide_eq_true (by omega)
    have hwn : IntKind.i64.wrap ((n : Int) + 1) = (n : Int) + 1 := IntWalk.i64_in _ (by omega)
    have hwp : IntKind.i64.wrap ((p : Int) + 1) = (p : Int) + 1 := IntWalk.i64_in _ (by omega)
    have hwk : (n : Int) + 1 - (p : Int) = (k : Int) := by omega
    have hwk' : IntKind.i64.wrap ((n : Int) + 1 - (p : Int)) = (k : Int) := by rw [hwk]; exact IntWalk.i64_in _ (by omega)
    have happ' := hid_mk happ
    have hcpA' := hid_mk hcpA
    have hcpB' := hid_mk hcpB
    replace hrow0 := hid_mk hrow0
    replace hrow1 := hid_mk hrow1
    replace hrow2 := hid_mk hrow2
    replace hold := hid_mk hold
    replace hC1 := hid_mk hC1
    replace hC2 := hid_mk hC2
    replace hW0 := hid_mk hW0
    replace hW1 := hid_mk hW1
    replace hW2 := hid_mk hW2
    replace hx := hid_mk hx
    replace hx0 := hid_mk hx0
    replace hlen := hid_mk hlen
    replace hdl := hid_mk hdl
    replace holl := hid_mk holl
    replace hcutg := hid_mk hcutg
    replace hcutG := hid_mk hcutG
    replace hD := hid_mk hD
    replace hDl := hid_mk hDl
    replace hDs := hid_mk hDs
    replace hc := hid_mk hc
    replace hk := hid_mk hk
    replace hG := hid_mk hG
    replace hC1l := hid_mk hC1l
    clear hC2t hC2l hv hne own hRl happ hcpA hcpB hpk hzs hb0 hb1
    have hcpA2 := hcpA'.out
    refine calls_of_wpQ Try.func26 rfl ?_
    intro Q hQ
    simp only [Try.ntmps26, List.size_toArray, List.length_cons, List.length_nil, Nat.reduceAdd, Nat.reduceSub, Array.replicate_succ, Array.replicate_zero, List.push_toArray, List.append_toArray, List.nil_append, List.cons_append]
    go_wp2_with (at_builtin; refine Lib.wpList_append_run _ rfl (.tmp 34) (.tmp 39) 22 3 rfl _ _ rfl rfl _ _ happ'.out ?_)
    go_still_tail 8, (by kernel_rfl)
    change wpList _ _ _ _ _ W1.drew
    refine wpl_copy3 rfl (.tmp 50) (.tmp 53) rfl _ _ rfl rfl _ _ hcpB'.out ?_
    clear hcpA2
    go_wp2
    refine ends_ret hQ (results_tmp rfl _ _ _) rfl ?_
    exact ⟨.slice (some ⟨G, 0, none⟩) (n + 1) c, rfl, own2.out, grown_of hb2.out⟩
  · obtain ⟨g, c', hv, _, _, hgB, hgl⟩ := own.some_ (by omega)
    obtain ⟨rfl, rfl⟩ : A = some ⟨g, 0, none⟩ ∧ cap = c' := by injection hv with e1 e2 e3; exact ⟨e1, e3⟩
    obtain ⟨cur, hrow, hcs, htake⟩ : ∃ cur : Array Value, w.heap[g]? = some (.cells cur 35 (0, 0)) ∧ cur.size = cap * 3 ∧ cur.toList.take (n * 3) = itmsL is := by
      rcases own.2 with ⟨h', _⟩ | ⟨g', cap', cur, h', _, hg, _, _, hcs, ht⟩
      · simp at h'
      · simp only [Value.slice.injEq, Option.some.injEq, Addr.mk.injEq, and_true, true_and] at h'
        obtain ⟨rfl, rfl⟩ := h'
        exact ⟨cur, hg, hcs, ht⟩
    have hgx : gx ≠ g := by simpa [Value.ownBlock] using fun e : gx = g => hne (by rw [e]; rfl)
    have hcut1 : cutA (some ⟨g, 0, none⟩) cap (p + 1) 3 = some ⟨g, (p + 1) * 3, none⟩ := by
      unfold cutA
      rw [if_neg (by omega)]
      show some ((⟨g, 0, none⟩ : Addr).add ((p + 1) * 3)) = _
      rw [add_plain, Nat.zero_add]
    have hcut2 : cutA (some ⟨g, 0, none⟩) cap p 3 = some ⟨g, p * 3, none⟩ := by
      unfold cutA
      rw [if_neg (by omega)]
      show some ((⟨g, 0, none⟩ : Addr).add (p * 3)) = _
      rw [add_plain, Nat.zero_add]
    have hslA : ∀ W : World, (Instr.slice 22 (.slice (some ⟨g, 0, none⟩) n cap) none (some (.int .i64 ((n : Int) + 1))) none).run Try.prog W = .ok (.slice (some ⟨g, 0, none⟩) (n + 1) cap) W := fun W => by
      have h := run_slice_upto (P := Try.prog) (w := W) 22 35 Try.underlying22 j0 hj0 (some ⟨g, 0, none⟩) n cap ((n : Int) + 1) (by omega) (by omega)
      rw [show ((n : Int) + 1).toNat = n + 1 from by omega] at h
      exact h
    have hslB : ∀ W : World, (Instr.slice 22 (.slice (some ⟨g, 0, none⟩) (n + 1) cap) (some (.int .i64 ((p : Int) + 1))) none none).run Try.prog W = .ok (.slice (some ⟨g, (p + 1) * 3, none⟩) (n - p) (cap - (p + 1))) W := fun W => by
      have h := run_slice_from (P := Try.prog) (w := W) 22 35 Try.underlying22 j0 hj0 3 hj1 (some ⟨g, 0, none⟩) (n + 1) cap ((p : Int) + 1) (by omega) (by omega)
      rw [show ((p : Int) + 1).toNat = p + 1 from by omega, hcut1, show n + 1 - (p + 1) = n - p from by omega] at h
      exact h
    have hslC : ∀ W : World, (Instr.slice 22 (.slice (some ⟨g, 0, none⟩) (n + 1) cap) (some (.int .i64 (p : Int))) none none).run Try.prog W = .ok (.slice (some ⟨g, p * 3, none⟩) (n + 1 - p) (cap - p)) W := fun W => by
      have h := run_slice_from (P := Try.prog) (w := W) 22 35 Try.underlying22 j0 hj0 3 hj1 (some ⟨g, 0, none⟩) (n + 1) cap (p : Int) (by omega) (by omega)
      rw [Int.toNat_natCast, hcut2] at h
      exact h
    have hov : (callFunc 35 #[.slice (some ⟨gx, 0, none⟩) 1 cx, .slice (some ⟨g, (p + 1) * 3, none⟩) (n - p) (cap - (p + 1))]).run Try.prog w = .ok (.value (.bool false)) w := by
      rw [run_callFunc_extern Try.func35 (by kernel_rfl) (by kernel_rfl) (by kernel_rfl) (e := Extern.SlicesOverlaps.overlaps #[22, 22] #[4]) (by kernel_rfl),
        Lib.run_overlaps_apart w 22 4 35 Try.underlying22 3 size_item ⟨gx, 0, none⟩ ⟨g, (p + 1) * 3, none⟩ 1 cx (n - p) (cap - (p + 1)) hgx 35 35 3 (cap * 3) (by unfold Blk at hx; simp [World.shape?, hx]) (by simp [World.shape?, hrow, hcs]) (by omega) (hx.frozen 0) (hx.frozen 3)]
      rfl
    have hdl : (itmsL (is.drop p)).length = (n - p) * 3 := by rw [itmsL_len, List.length_drop, hlen]
    have holl : (itmsL (is.take p)).length = p * 3 := by rw [itmsL_len, List.length_take, hlen, Nat.min_eq_left (by omega)]
    obtain ⟨R, hR⟩ : ∃ R, cur.toList.drop (n * 3) = R := ⟨_, rfl⟩
    have hcurL : cur.toList = itmsL (is.take p) ++ itmsL (is.drop p) ++ R := by
      rw [← hR, ← itmsL_app, List.take_append_drop, ← htake, List.take_append_drop]
    have hRl : R.length = cap * 3 - n * 3 := by rw [← hR, List.length_drop, Array.length_toList, hcs]
    obtain ⟨hC2t, hC2l⟩ := ins_b (itmsL (is.take p)) (itmCells x) (itmsL (is.drop p)) R (by rw [hRl]; show 3 ≤ _; omega) (by rw [hRl]; show 3 ≤ _; omega)
    rw [← hcurL, holl, hdl, show (itmCells x).length = 3 from rfl] at hC2t
    rw [← hcurL, holl, hdl, show (itmCells x).length = 3 from rfl] at hC2l
    have hcpA := run_copy3 (w := w.drew) 3 g ((p + 1) * 3) (n - p) (cap - (p + 1)) ⟨g, p * 3, none⟩ (n + 1 - p) (cap - p) (n - p) cur (itmsL (is.drop p)) (by show min (n + 1 - p) (n - p) = n - p; omega) hrow hdl (fun j v hj => by
      rw [add_plain]
      have h1 : (itmsL is)[p * 3 + j]? = some v := by rw [← itmsL_drop, List.getElem?_drop] at hj; exact hj
      have h2 := World.ownsRow.cellAt own (p * 3 + j) (by have := (List.getElem?_eq_some_iff.1 h1).1; rw [itmsL_len, hlen] at this; exact this)
      exact h2.trans h1) (by rw [hdl, hcs]; omega) (itm_one _)
    obtain ⟨C1, hC1⟩ : ∃ C, cur.toList.take ((p + 1) * 3) ++ itmsL (is.drop p) ++ cur.toList.drop ((p + 1) * 3 + (itmsL (is.drop p)).length) = C := ⟨_, rfl⟩
    rw [hC1] at hcpA
    obtain ⟨W1, hW1⟩ : ∃ W, w.drew.setRow g C1.toArray = W := ⟨_, rfl⟩
    have hrow1 : W1.heap[g]? = some (.cells C1.toArray 35 (0, 0)) := by rw [← hW1]; exact setRow_heap w.drew g cur _ 35 (0, 0) hrow
    have hx1 : Blk W1 gx 35 #[.string x.k, .string x.b, .int .i64 x.r] := by rw [← hW1]; exact blk_setRow_far hx.drew hgx _
    have hg1 : Hid (w.grownBy W1 (some g)) := by rw [← hW1]; exact Grew.gt (Grew.gd (World.grownBy.refl w _)) (grown_row _ _ _)
    rw [hW1] at hcpA
    have hC1l : C1.length = cap * 3 := by
      rw [← hC1]
      simp only [List.length_append, List.length_take, List.length_drop, Array.length_toList, hcs, hdl]
      omega
    have hcpB := run_copy3 (w := W1) 3 g (p * 3) (n + 1 - p) (cap - p) ⟨gx, 0, none⟩ 1 cx 1 C1.toArray (itmCells x) (by show min 1 (n + 1 - p) = 1; omega) hrow1 rfl (fun j v hj => by
      rw [add_plain, Nat.zero_add, hx1.cell j]
      rcases j with _ | _ | _ | j
      · exact hj
      · exact hj
      · exact hj
      · simp [itmCells] at hj) (by rw [List.size_toArray, hC1l]; show p * 3 + 3 ≤ _; omega) (itm_cells_one x)
    obtain ⟨C2, hC2⟩ : ∃ C, C1.toArray.toList.take (p * 3) ++ itmCells x ++ C1.toArray.toList.drop (p * 3 + (itmCells x).length) = C := ⟨_, rfl⟩
    rw [hC2] at hcpB
    obtain ⟨W2, hW2⟩ : ∃ W, W1.setRow g C2.toArray = W := ⟨_, rfl⟩
    have hrow2 : W2.heap[g]? = some (.cells C2.toArray 35 (0, 0)) := by rw [← hW2]; exact setRow_heap W1 g _ _ 35 (0, 0) hrow1
    have hg2 : Hid (w.grownBy W2 (some g)) := by rw [← hW2]; exact Grew.gt hg1.out (grown_row _ _ _)
    rw [hW2] at hcpB
    have own2 : Hid (OwnI W2 B (.slice (some ⟨g, 0, none⟩) (n + 1) cap) (n + 1) (is.take p ++ x :: is.drop p)) := by
      have hfin : C2.take (p * 3 + 3 + (n - p) * 3) = itmsL (is.take p) ++ itmCells x ++ itmsL (is.drop p) ∧ C2.length = cur.toList.length := by
        rw [← hC2, List.toList_toArray, ← hC1, hdl, show (p + 1) * 3 = p * 3 + 3 from by omega]
        exact ⟨hC2t, hC2l⟩
      refine ⟨?_, .inr ⟨g, cap, C2.toArray, rfl, hgB, hrow2, hcap, hc2, ?_, ?_⟩⟩
      · rw [itmsL_len, List.length_append, List.length_cons, List.length_take, List.length_drop, hlen]; omega
      · rw [List.size_toArray, hfin.2, Array.length_toList, hcs]
      · rw [List.toList_toArray, show (n + 1) * 3 = p * 3 + 3 + (n - p) * 3 from by omega, hfin.1, itmsL_app, List.append_assoc]
        rfl
    have hq1 : ((p : Int) == (n : Int)) = false := by simp; omega
    have hq2 : decide ((cap : Int) < (n : Int) + 1) = false := decide_eq_false (by omega)
    have hwn : IntKind.i64.wrap ((n : Int) + 1) = (n : Int) + 1 := IntWalk.i64_in _ (by omega)
    have hwp : IntKind.i64.wrap ((p : Int) + 1) = (p : Int) + 1 := IntWalk.i64_in _ (by omega)
    replace hrow := hid_mk hrow
    replace hrow1 := hid_mk hrow1
    replace hrow2 := hid_mk hrow2
    replace htake := hid_mk htake
    replace hcurL := hid_mk hcurL
    replace hC1 := hid_mk hC1
    replace hC2 := hid_mk hC2
    replace hW1 := hid_mk hW1
    replace hW2 := hid_mk hW2
    replace hx := hid_mk hx
    replace hx1 := hid_mk hx1
    replace hR := hid_mk hR
    replace hlen := hid_mk hlen
    replace hdl := hid_mk hdl
    replace holl := hid_mk holl
    replace hcut1 := hid_mk hcut1
    replace hcut2 := hid_mk hcut2
    replace hcs := hid_mk hcs
    replace hcpA := hid_mk hcpA
    replace hcpB := hid_mk hcpB
    replace hC1l := hid_mk hC1l
    clear hC2t hC2l hv hne own hRl
    refine calls_of_wpQ Try.func26 rfl ?_
    intro Q hQ
    simp only [Try.ntmps26, List.size_toArray, List.length_cons, List.length_nil, Nat.reduceAdd, Nat.reduceSub, Array.replicate_succ, Array.replicate_zero, List.push_toArray, List.append_toArray, List.nil_append, List.cons_append]
    go_wp2_with (simp only [hov])
    go_still_tail 8, (by kernel_rfl)
    change wpList _ _ _ _ _ w.drew
    refine wpl_copy3 rfl (.tmp 73) (.tmp 76) rfl _ _ rfl rfl _ _ hcpA.out ?_
    have hcpB' := hcpB.out
    go_wp2
    refine ends_ret hQ (results_tmp rfl _ _ _) rfl ?_
    exact ⟨.slice (some ⟨g, 0, none⟩) (n + 1) cap, rfl, own2.out, hg2.out⟩
end Go.Proofs.Ytngaeencnklbdaa
