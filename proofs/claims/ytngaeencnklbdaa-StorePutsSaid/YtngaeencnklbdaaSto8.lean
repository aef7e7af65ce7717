/-
  WHAT IS PROVED HERE: what sweeping makes of a store. Condition: at most 2^41 items.
-/
import Derived.Test.YtngaeencnklbdaaSto7
namespace Go.Proofs.Ytngaeencnklbdaa
open Go.RowKit

theorem grown_of {w w' : World} {row : Option Nat} (h : Below w.heap.size w w') : w.grownBy w' row := ⟨h.os, h.tape, h.output, h.size, fun i hi _ => h.block i hi⟩
theorem grown_set (w : World) (g i : Nat) (u : Value) : w.grownBy (w.setCell ⟨g, i, none⟩ u) (some g) := ⟨rfl, rfl, rfl, by simp, fun k _ hk => heap_setCell_other w ⟨g, i, none⟩ k u (fun e => hk (by simp [e]))⟩
theorem OwnI.below {w w' : World} {B n : Nat} {v : Value} {is : List Itm} (h : OwnI w B v n is) (hb : Below w.heap.size w w') : OwnI w' B v n is :=
  World.ownsRow.kept (row := none) h (grown_of hb) (by
    rcases h.2 with ⟨rfl, _⟩ | ⟨g, cap, cur, rfl, _⟩
    · exact .inl rfl
    · exact .inr (by simp [Value.ownBlock]))
theorem OwnI.stored {w : World} {B n cap g p : Nat} {d : List Itm} (h : OwnI w B (.slice (some ⟨g, 0, none⟩) n cap) n d) (hp : p < n) (i : Itm) :
    OwnI (((w.setCell ⟨g, p * 3, none⟩ (.string i.k)).setCell ⟨g, p * 3 + 1, none⟩ (.string i.b)).setCell ⟨g, p * 3 + 2, none⟩ (.int .i64 i.r)) B (.slice (some ⟨g, 0, none⟩) n cap) n (d.set p i) := by
  have h1 := (World.ownsRow.stored h (p * 3) (.string i.k)).1
  have h2 := (World.ownsRow.stored h1 (p * 3 + 1) (.string i.b)).1
  have h3 := (World.ownsRow.stored h2 (p * 3 + 2) (.int .i64 i.r)).1
  unfold OwnI
  rw [← itmsL_set d p i (by rw [OwnI.len h]; exact hp)]
  exact h3
theorem OwnI.cells_ {w : World} {B n cap g p : Nat} {d : List Itm} {i : Itm} (h : OwnI w B (.slice (some ⟨g, 0, none⟩) n cap) n d) (hi : d[p]? = some i) :
    w.cell? ⟨g, p * 3, none⟩ = some (.string i.k) ∧ w.cell? ⟨g, p * 3 + 1, none⟩ = some (.string i.b) ∧ w.cell? ⟨g, p * 3 + 2, none⟩ = some (.int .i64 i.r) ∧ w.frozen? ⟨g, p * 3, none⟩ = false ∧ w.frozen? ⟨g, p * 3 + 1, none⟩ = false ∧ w.frozen? ⟨g, p * 3 + 2, none⟩ = false := by
  obtain ⟨c0, c1, c2⟩ := itmsL_at d p i hi
  have hp : p < n := by rw [← OwnI.len h]; exact (List.getElem?_eq_some_iff.1 hi).1
  exact ⟨(World.ownsRow.cellAt h _ (by omega)).trans c0, (World.ownsRow.cellAt h _ (by omega)).trans c1, (World.ownsRow.cellAt h _ (by omega)).trans c2, World.ownsRow.frozenAt h _, World.ownsRow.frozenAt h _, World.ownsRow.frozenAt h _⟩
theorem zero_item (w : World) : (zeroValue 35).run Try.prog w = .ok (.agg #[.string ⟨#[]⟩, .string ⟨#[]⟩, .int .i64 0]) w := by kernel_rfl
theorem zero_one (n : Nat) : ∀ v ∈ (Builtin.zeroCells (Value.agg #[.string ⟨#[]⟩, .string ⟨#[]⟩, .int .i64 0]).cells n).toList, v.oneCell' = true := by
  intro v hv
  unfold Builtin.zeroCells at hv
  simp only [Array.toList_map, List.mem_map] at hv
  obtain ⟨j, _, rfl⟩ := hv
  have : j % 3 = 0 ∨ j % 3 = 1 ∨ j % 3 = 2 := by omega
  show (#[Value.string ⟨#[]⟩, .string ⟨#[]⟩, .int .i64 0][j % 3]!).oneCell' = true
  rcases this with h | h | h <;> rw [h] <;> rfl
/-- 'clear(s[i:])', s a row of the call's own: what stands ahead stays -/
theorem run_clear3 {w : World} {B n cap g i : Nat} {d : List Itm} (ty : TypeId) (c : Nat) (h : OwnI w B (.slice (some ⟨g, 0, none⟩) n cap) n d) (hi : i < n) :
    ∃ w', (Builtin.clear_ #[22] ty #[.slice (some ⟨g, i * 3, none⟩) (n - i) c]).run Try.prog w = .ok (.tuple #[]) w' ∧ OwnI w' B (.slice (some ⟨g, 0, none⟩) i cap) i (d.take i) ∧ w.grownBy w' (some g) := by
  rcases h.2 with ⟨h', _⟩ | ⟨g', cap', cur, h', hb, hg, hnc, hcm, hcs, htake⟩
  · simp at h'
  · simp only [Value.slice.injEq, Option.some.injEq, Addr.mk.injEq, and_true, true_and] at h'
    obtain ⟨rfl, rfl⟩ := h'
    obtain ⟨m, hm⟩ : ∃ m, n - i = m + 1 := ⟨n - i - 1, by omega⟩
    have hzl : ∀ k, (Builtin.zeroCells (Value.agg #[.string ⟨#[]⟩, .string ⟨#[]⟩, .int .i64 0]).cells k).toList.length = k * 3 := by
      intro k
      unfold Builtin.zeroCells
      simp [Value.cells]
    have hst := run_storeCells_atM Try.prog g (i * 3) 35 (0, 0) (Builtin.zeroCells (Value.agg #[.string ⟨#[]⟩, .string ⟨#[]⟩, .int .i64 0]).cells (n - i)).toList 0 cur w hg (.inl rfl) (by rw [hzl, hcs]; omega) (zero_one _)
    have hlen := OwnI.len h
    refine ⟨w.setRow g (cur.toList.take (i * 3 + 0) ++ (Builtin.zeroCells (Value.agg #[.string ⟨#[]⟩, .string ⟨#[]⟩, .int .i64 0]).cells (n - i)).toList ++ cur.toList.drop (i * 3 + 0 + (Builtin.zeroCells (Value.agg #[.string ⟨#[]⟩, .string ⟨#[]⟩, .int .i64 0]).cells (n - i)).toList.length)).toArray, ?_, ?_, ?_⟩
    · rw [hm] at hst ⊢
      simp [Builtin.clear_, run_underlying Try.underlying22, hst]
    · refine ⟨by rw [itmsL_len, List.length_take]; omega, .inr ⟨g, cap, _, rfl, hb, setRow_heap w g cur _ 35 (0, 0) hg, by omega, hcm, ?_, ?_⟩⟩
      · simp only [List.size_toArray, List.length_append, List.length_take, List.length_drop, hzl, Array.length_toList, hcs]
        omega
      · have h1 : (cur.toList.take (n * 3)).take (i * 3) = itmsL (d.take i) := by rw [htake, itmsL_take]
        rw [List.take_take, Nat.min_eq_left (by omega)] at h1
        rw [← h1, Nat.add_zero, List.append_assoc, List.take_append_of_le_length (by rw [List.length_take, Array.length_toList, hcs]; omega), List.take_take, Nat.min_self]
    · exact ⟨rfl, rfl, rfl, by simp, fun k _ hk => setRow_other w g k _ (fun e => hk (by rw [e]))⟩
theorem wpl_clear {ops : Array Oper} {rest : List Oper} {o : Oper} {a : Act} {Q : Exit → Act → World → Prop} (hgd : o.guard = none) (s : Operand) (t : TypeId)
    (ho : o.op = .call { callee := .builtin .clear, args := #[s], argTypes := #[t] }) {w w' : World} (v : Value) (hs : a.eval s = v)
    (hrun : (Builtin.clear_ #[t] o.type #[v]).run Try.prog w = .ok (.tuple #[]) w')
    (h : wpList Try.prog ops Q rest (a.put o.dst (.tuple #[])) w') : wpList Try.prog ops Q (o :: rest) a w :=
  wpList_plain hgd fun _ hK => by
    unfold Oper.wp execOp
    simp only [ho, resolve, invoke, builtin, Sem.run_bind, Sem.run_pure, Result.andThen_ok, List.map_toArray, List.map_cons, List.map_nil, hs, hrun]
    exact hK _ _ h
theorem del_any (K Bd : ByteArray) (rf : Int) (w : World) : Calls Try.prog 32 #[.agg #[.string K, .string Bd, .int .i64 rf]] w fun e w' => e = .returned (.bool (rf == 0)) ∧ Below w.heap.size w w' := by
  refine calls_of_wpQ Try.func32 rfl ?_
  intro Q hQ
  simp only [Try.ntmps32, List.size_toArray, List.length_cons, List.length_nil, Nat.reduceAdd, Nat.reduceSub, Array.replicate_succ, Array.replicate_zero, List.push_toArray, List.append_toArray, List.nil_append, List.cons_append]
  go_wp2
  refine ends_ret hQ (results_tmp rfl _ _ _) rfl ?_
  exact ⟨rfl, by go_grown⟩
def Idx0 (is : List Itm) (x : Int) : Prop := (x = -1 ∧ ∀ (j : Nat) (i : Itm), is[j]? = some i → i.r ≠ 0) ∨ ∃ (j : Nat) (i : Itm), x = j ∧ is[j]? = some i ∧ i.r = 0 ∧ ∀ (t : Nat) (y : Itm), t < j → is[t]? = some y → y.r ≠ 0
theorem IndexF_any (is : List Itm) (A : Option Addr) (n cap : Nat) (w : World) {B : Nat} (hm : n ≤ 3518437208800) (h0 : Itms w B A n is) :
    Calls Try.prog 38 #[.slice A n cap, .func (.func 32) #[] #[]] w fun e w' => ∃ x, e = .returned (.int .i64 x) ∧ Idx0 is x ∧ Below w.heap.size w w' := by
  have hlen := hid_mk h0.len
  have h := hid_mk h0.top
  clear h0
  refine calls_of_wpQ Try.func38 rfl ?_
  intro Q hQ
  simp only [Try.ntmps38, List.size_toArray, List.length_cons, List.length_nil, Nat.reduceAdd, Nat.reduceSub, Array.replicate_succ, Array.replicate_zero, List.push_toArray, List.append_toArray, List.nil_append, List.cons_append]
  go_wp2
  go_loopw [8] (fun iv wr => ∃ k : Nat, iv = .int .i64 k ∧ k ≤ n ∧ Hid (∀ (t : Nat) (y : Itm), t < k → is[t]? = some y → y.r ≠ 0) ∧ Hid (Below w.heap.size w wr)) (fun iv _ => n - (intOf iv).toNat)
  case atStart => exact ⟨0, rfl, Nat.zero_le _, fun t y ht _ => absurd ht (by omega), hid_mk (Below.refl _ _)⟩
  case round =>
    obtain ⟨k, rfl, hk, hall, hb⟩ := hrel
    by_cases hlt : k < n
    · obtain ⟨b, o, i, rfl, hbl, hik, c0, c1, c2⟩ := (h.out.to hb.out).at_ hlt
      obtain ⟨K, Bd, rf⟩ := i
      dsimp only at c0 c1 c2
      have k0 : (0 : Int) ≤ k := by omega
      have k1 : (k : Int) < n := by omega
      replace hik := hid_mk hik
      by_cases hr : rf = 0
      · subst hr
        go_wp2_with (go_at_call 32; refine (del_any K Bd 0 _).mono ?_; rintro e w2 ⟨rfl, hb2⟩; have q2 := hid_mk (after (w := w) hb2 hb.out).1; clear hb2)
        refine ends_ret hQ (results_tmp rfl _ _ _) rfl ?_
        exact ⟨k, rfl, .inr ⟨k, _, rfl, hik.out, rfl, hall.out⟩, q2.out⟩
      · have hrz : (rf == 0) = false := by simpa using hr
        have hall2 : Hid (∀ (t : Nat) (y : Itm), t < k + 1 → is[t]? = some y → y.r ≠ 0) := by
          intro t y ht hy
          rcases Nat.lt_or_ge t k with h1 | h1
          · exact hall.out t y h1 hy
          · obtain rfl : t = k := by omega
            have h2 := hik.out
            rw [h2] at hy; injection hy with hy; rw [← hy]; exact hr
        replace hr := hid_mk hr
        go_wp2_with (go_at_call 32; refine (del_any K Bd rf _).mono ?_; rw [hrz]; rintro e w2 ⟨rfl, hb2⟩; have q2 := hid_mk (after (w := w) hb2 hb.out).1; clear hb2)
        go_roundw
        case rel => exact ⟨k + 1, by go_num, by omega, hall2, q2⟩
        case measure => simp [intOf]; omega
    · have hall2 : Hid (∀ (j : Nat) (i : Itm), is[j]? = some i → i.r ≠ 0) := by
        intro j i hi
        have hj : j < n := by rw [← hlen.out]; exact (List.getElem?_eq_some_iff.1 hi).1
        exact hall.out j i (by omega) hi
      go_wp2
      refine ends_ret hQ (results_tmp rfl _ _ _) rfl ?_
      exact ⟨-1, rfl, .inl ⟨rfl, hall2.out⟩, hb.out⟩
theorem sweep_all {is : List Itm} (hnn : ∀ i ∈ is, 0 ≤ i.r) (h : ∀ (j : Nat) (i : Itm), is[j]? = some i → i.r ≠ 0) : sweepI is = is := by
  unfold sweepI
  rw [List.filter_eq_self]
  intro i hi
  obtain ⟨j, hj⟩ := List.mem_iff_getElem?.1 hi
  have h1 := h j i hj
  have h2 := hnn i hi
  exact decide_eq_true (by omega)
theorem sweep_len (is : List Itm) : (sweepI is).length ≤ is.length := List.length_filter_le _ _
theorem take_set_ {α : Type} (l : List α) (i : Nat) (x : α) (hi : i < l.length) : (l.set i x).take (i + 1) = l.take i ++ [x] := by
  have h1 : (l.take i).set i x = l.take i := List.set_eq_of_length_le (by rw [List.length_take]; omega)
  rw [List.take_add_one, List.getElem?_set_self hi, List.take_set, h1]
  rfl
set_option maxRecDepth 100000 in
set_option maxHeartbeats 1600000 in
theorem DeleteF_any (is : List Itm) (v : Value) (n : Nat) (w : World) {B : Nat} (hm : n ≤ 3518437208800) (own : OwnI w B v n is) (hnn : ∀ i ∈ is, 0 ≤ i.r) :
    Calls Try.prog 31 #[v, .func (.func 32) #[] #[]] w fun e w' => ∃ v', e = .returned v' ∧ OwnI w' B v' (sweepI is).length (sweepI is) ∧ w.grownBy w' v.ownBlock := by
  obtain ⟨A, cap, rfl, hc1, hc2⟩ := own_slice own
  have hlen := hid_mk own.len
  have hI := fun B' : Nat => OwnI.itms (B' := B') own
  obtain ⟨j0, hj0, hjz, hj1, hj2⟩ := info_parts40 itemJ3
  replace hnn := hid_mk hnn
  refine calls_of_wpQ Try.func31 rfl ?_
  intro Q hQ
  simp only [Try.ntmps31, List.size_toArray, List.length_cons, List.length_nil, Nat.reduceAdd, Nat.reduceSub, Array.replicate_succ, Array.replicate_zero, List.push_toArray, List.append_toArray, List.nil_append, List.cons_append]
  go_wp2_with fail
  refine (IndexF_any is A n cap _ hm (hI 0)).mono ?_
  rintro e w1 ⟨x, rfl, hx, hb1⟩
  have own1 := own.below hb1
  have g1 : Hid (w.grownBy w1 (Value.slice A n cap).ownBlock) := grown_of hb1
  rcases hx with ⟨rfl, hall⟩ | ⟨p, i0, rfl, hp0, hr0, hlow⟩
  · have hsw : Hid (sweepI is = is) := sweep_all hnn.out hall
    replace own1 := hid_mk own1
    clear hall hb1
    go_wp2
    refine ends_ret hQ (results_tmp rfl _ _ _) rfl ?_
    exact ⟨_, rfl, by rw [hsw.out, hlen.out]; exact own1.out, g1.out⟩
  · have hpn : p < n := by rw [← hlen.out]; exact (List.getElem?_eq_some_iff.1 hp0).1
    obtain ⟨g, cap', hv, hcc, _, hgB, hgl⟩ := own1.some_ (by omega)
    obtain ⟨rfl, rfl⟩ : A = some ⟨g, 0, none⟩ ∧ cap = cap' := by injection hv with e1 e2 e3; exact ⟨e1, e3⟩
    have htk0 : Hid (is.take p = sweepI (is.take (p + 1))) := by
      rw [Hid, sweepI_take hp0, if_neg (by omega), List.append_nil]
      refine (sweep_all (fun i hi => hnn.out i (List.mem_of_mem_take hi)) ?_).symm
      intro j i hj
      have hjp : j < p := by
        have h1 := (List.getElem?_eq_some_iff.1 hj).1
        rw [List.length_take] at h1
        omega
      rw [List.getElem?_take_of_lt hjp] at hj
      exact hlow j i hjp hj
    have hpx : ((p : Int) == -1) = false := by simp
    have hpx' : ¬ ((p : Int) = -1) := by omega
    replace hp0 := hid_mk hp0
    replace own1 := hid_mk own1
    clear hlow hb1 hv own hI hr0
    go_wp2
    go_loopw [5, 6] (fun iv jv wr => ∃ (i j : Nat) (d : List Itm), iv = .int .i64 i ∧ jv = .int .i64 j ∧ i < j ∧ j ≤ n ∧ Hid (OwnI wr B (.slice (some ⟨g, 0, none⟩) n cap) n d) ∧ Hid (d.take i = sweepI (is.take j)) ∧ Hid (∀ t, j ≤ t → d[t]? = is[t]?) ∧ Hid (w.grownBy wr (some g))) (fun _ jv _ => n - (intOf jv).toNat)
    case atStart => exact ⟨p, p + 1, is, rfl, by go_num, by omega, by omega, own1, htk0, fun _ _ => rfl, g1⟩
    case round =>
      clear own1 htk0 g1
      obtain ⟨i, j, d, rfl, rfl, hij, hj, hown, htk, hrest, hgr⟩ := hrel
      by_cases hlt : j < n
      · obtain ⟨x, hx⟩ : ∃ x, is[j]? = some x := ⟨_, List.getElem?_eq_getElem (by rw [hlen.out]; exact hlt)⟩
        have hdx : d[j]? = some x := (hrest.out j (Nat.le_refl _)).trans hx
        have hxn := hnn.out x (List.mem_of_getElem? hx)
        have htk1 := hid_mk (sweepI_take hx)
        obtain ⟨c0, c1, c2, _⟩ := OwnI.cells_ hown.out hdx
        obtain ⟨y, hy⟩ : ∃ y, d[i]? = some y := ⟨_, List.getElem?_eq_getElem (by rw [OwnI.len hown.out]; omega)⟩
        obtain ⟨K, Bd, rf⟩ := x
        dsimp only at c0 c1 c2 hxn htk1
        have i0 : (0 : Int) ≤ i := by omega
        have i1 : (i : Int) < n := by omega
        have jj0 : (0 : Int) ≤ j := by omega
        have jj1 : (j : Int) < n := by omega
        have hgl2 : g < wr.heap.size := (World.ownsRow.lt hown.out g rfl).2
        have ownA : Hid (OwnI (wr.alloc (.cells #[.string K, .string Bd, .int .i64 rf] 35)) B (.slice (some ⟨g, 0, none⟩) n cap) n d) := World.ownsRow.alloc hown.out _
        have hN : Hid (Blk (wr.alloc (.cells #[.string K, .string Bd, .int .i64 rf] 35)) wr.heap.size 35 #[.string K, .string Bd, .int .i64 rf]) := Blk.new wr 35 #[.string K, .string Bd, .int .i64 rf]
        have gA : Hid (w.grownBy (wr.alloc (.cells #[.string K, .string Bd, .int .i64 rf] 35)) (some g)) := Grew.gt hgr.out (World.grownBy_alloc wr _ _)
        replace hx := hid_mk hx
        replace hdx := hid_mk hdx
        replace hy := hid_mk hy
        by_cases hr : rf = 0
        · subst hr
          have htk2 : Hid (d.take i = sweepI (is.take (j + 1))) := by rw [Hid, htk1.out, if_neg (by omega), List.append_nil]; exact htk.out
          have hrest2 : Hid (∀ t, j + 1 ≤ t → d[t]? = is[t]?) := fun t ht => hrest.out t (by omega)
          go_wp2_with (go_at_call 32; refine (del_any K Bd 0 _).mono ?_; rintro e w2 ⟨rfl, hb2⟩; have own2 := hid_mk (OwnI.below ownA.out hb2); have g2 : Hid (w.grownBy w2 (some g)) := Grew.gt gA.out (grown_of hb2); clear hb2)
          go_roundw
          case rel => exact ⟨i, j + 1, d, rfl, by go_num, by omega, by omega, own2, htk2, hrest2, g2⟩
          case measure => simp [intOf]; omega
        · have hrz : (rf == 0) = false := by simpa using hr
          have hil : i < d.length := by rw [OwnI.len hown.out]; omega
          have htk2 : Hid ((d.set i ⟨K, Bd, rf⟩).take (i + 1) = sweepI (is.take (j + 1))) := by rw [Hid, htk1.out, if_pos (by omega), take_set_ _ _ _ hil, htk.out]
          have hrest2 : Hid (∀ t, j + 1 ≤ t → (d.set i ⟨K, Bd, rf⟩)[t]? = is[t]?) := fun t ht => by rw [List.getElem?_set_ne (by omega)]; exact hrest.out t (by omega)
          replace hr := hid_mk hr
          replace hil := hid_mk hil
          go_wp2_with (go_at_call 32; refine (del_any K Bd rf _).mono ?_; rw [hrz]; rintro e w2 ⟨rfl, hb2⟩; have own2 := hid_mk (OwnI.below ownA.out hb2); have g2 : Hid (w.grownBy w2 (some g)) := Grew.gt gA.out (grown_of hb2); have hN2 := hN.out.keep hb2; have m0 : w2.cell? ⟨wr.heap.size, 0, none⟩ = some (.string K) := hN2.cell 0; have m1 : w2.cell? ⟨wr.heap.size, 1, none⟩ = some (.string Bd) := hN2.cell 1; have m2 : w2.cell? ⟨wr.heap.size, 2, none⟩ = some (.int .i64 rf) := hN2.cell 2; have ml := hN2.lt; obtain ⟨d0, d1, d2, f0, f1, f2⟩ := OwnI.cells_ own2.out hy.out; have hgl3 : g < w2.heap.size := Nat.lt_of_lt_of_le hgl2 (Nat.le_trans (by simp) hb2.size); clear hb2)
          have own5 := hid_mk (OwnI.stored own2.out (p := i) (by omega) ⟨K, Bd, rf⟩)
          have g5 : Hid (w.grownBy (((w2.setCell ⟨g, i * 3, none⟩ (.string K)).setCell ⟨g, i * 3 + 1, none⟩ (.string Bd)).setCell ⟨g, i * 3 + 2, none⟩ (.int .i64 rf)) (some g)) := Grew.gt (Grew.gt (Grew.gt g2.out (grown_set _ _ _ _)) (grown_set _ _ _ _)) (grown_set _ _ _ _)
          go_roundw
          case rel => exact ⟨i + 1, j + 1, d.set i ⟨K, Bd, rf⟩, by go_num, by go_num, by omega, by omega, own5, htk2, hrest2, g5⟩
          case measure => simp [intOf]; omega
      · obtain rfl : n = j := by omega
        have hsw : Hid (d.take i = sweepI is) := by rw [Hid, htk.out, List.take_of_length_le (by rw [hlen.out]; omega)]
        have hsl1 := run_slice_from (P := Try.prog) (w := wr) 22 35 Try.underlying22 j0 hj0 3 hj1 (some ⟨g, 0, none⟩) n cap i (by omega) (by omega)
        have hcut : cutA (some ⟨g, 0, none⟩) cap (i : Int).toNat 3 = some ⟨g, i * 3, none⟩ := by
          unfold cutA
          rw [Int.toNat_natCast, if_neg (by omega)]
          show some ((⟨g, 0, none⟩ : Addr).add (i * 3)) = _
          rw [add_plain, Nat.zero_add]
        rw [hcut, Int.toNat_natCast] at hsl1
        obtain ⟨w9, hrun, own9, g9⟩ := run_clear3 0 (cap - i) hown.out hij
        have hsl2 := run_slice_upto (P := Try.prog) (w := w9) 22 35 Try.underlying22 j0 hj0 (some ⟨g, 0, none⟩) n cap i (by omega) (by omega)
        rw [Int.toNat_natCast] at hsl2
        have hil : i ≤ n := by omega
        replace own9 := hid_mk own9
        go_wp2_with (at_builtin; refine wpl_clear rfl (.tmp 38) 22 rfl _ rfl hrun ?_)
        refine ends_ret hQ (results_tmp rfl _ _ _) rfl ?_
        have hsl : (sweepI is).length = i := by
          have h1 := OwnI.len own9.out
          rw [hsw.out] at h1
          exact h1
        exact ⟨_, rfl, by rw [hsl, ← hsw.out]; exact own9.out, Grew.gt hgr.out g9⟩
/-- what sweeping makes of a store, and the error -/
def sweepE (is : List Itm) : List Itm × Int := if rightI is then (sweepI is, 0) else ([], 1)
theorem Sweep_any (is : List Itm) (A : Option Addr) (n cap : Nat) (w : World) {B : Nat} (hm : n ≤ 3518437208800) (h0 : Itms w B A n is) :
    Calls Try.prog 21 #[.agg #[.slice A n cap]] w (RetD w (sweepE is)) := by
  have hb0 : Hid (Below w.heap.size w ((w.alloc (.cells #[.slice A n cap] 24)).alloc (.cells #[.slice none 0 0] 24))) := ((Below.refl _ w).alloc (Nat.le_refl _) _).alloc (by rw [World.size_alloc]; omega) _
  have hX0 : Hid (Blk ((w.alloc (.cells #[.slice A n cap] 24)).alloc (.cells #[.slice none 0 0] 24)) w.heap.size 24 #[.slice A n cap]) := (Blk.new w 24 #[.slice A n cap]).alloc _
  have hR0 : Hid (Blk ((w.alloc (.cells #[.slice A n cap] 24)).alloc (.cells #[.slice none 0 0] 24)) (w.heap.size + 1) 24 #[.slice none 0 0]) := by
    have h1 := Blk.new (w.alloc (.cells #[.slice A n cap] 24)) 24 #[.slice none 0 0]
    rw [World.size_alloc] at h1
    exact h1
  have h1 : Itms ((w.alloc (.cells #[.slice A n cap] 24)).alloc (.cells #[.slice none 0 0] 24)) w.heap.size A n is := h0.top.to hb0.out
  clear h0
  cases hr : rightI is
  · have hE : Hid (sweepE is = ([], 1)) := by unfold Hid sweepE; rw [hr]; rfl
    rw [hE.out]
    replace hr := hid_mk hr
    refine calls_of_wpQ Try.func21 rfl ?_
    intro Q hQ
    simp only [Try.ntmps21, List.size_toArray, List.length_cons, List.length_nil, Nat.reduceAdd, Nat.reduceSub, Array.replicate_succ, Array.replicate_zero, List.push_toArray, List.append_toArray, List.nil_append, List.cons_append]
    go_wp2_with fail
    refine (Right_any is A n cap _ (by omega) h1).mono ?_
    rw [hr.out]
    rintro e w1 ⟨rfl, hb1⟩
    have q1 := hid_mk (after (w := w) hb1 hb0.out).1
    have hR1 := hid_mk (hR0.out.keep hb1)
    have r0 : w1.cell? ⟨w.heap.size + 1, 0, none⟩ = some (.slice none 0 0) := hR1.out.cell 0
    have r1 := hR1.out.frozen 0
    have rl := hR1.out.lt
    clear hb1 h1 hX0 hb0 hR0
    go_wp2
    refine ends_ret hQ (v := .tuple #[.agg #[.slice none 0 0], .int .i64 1]) (by simp [results, Try.results21, go_sem, r0]) rfl ?_
    exact ⟨.slice none 0 0, rfl, own_nil _ _, q1.out.setCell (p := ⟨w.heap.size + 1, 0, none⟩) (by simp) _⟩
  · obtain ⟨hl4, hok, _⟩ := rightI_all hr
    have hnn : Hid (∀ i ∈ is, 0 ≤ i.r) := fun i hi => (itmOk_size (hok i hi)).2.2.1
    have hE : Hid (sweepE is = (sweepI is, 0)) := by unfold Hid sweepE; rw [hr]; rfl
    rw [hE.out]
    replace hr := hid_mk hr
    clear hl4 hok
    refine calls_of_wpQ Try.func21 rfl ?_
    intro Q hQ
    simp only [Try.ntmps21, List.size_toArray, List.length_cons, List.length_nil, Nat.reduceAdd, Nat.reduceSub, Array.replicate_succ, Array.replicate_zero, List.push_toArray, List.append_toArray, List.nil_append, List.cons_append]
    go_wp2_with fail
    refine (Right_any is A n cap _ (by omega) h1).mono ?_
    rw [hr.out]
    rintro e w1 ⟨rfl, hb1⟩
    have q1 := hid_mk (after (w := w) hb1 hb0.out).1
    have hR1 := hid_mk (hR0.out.keep hb1)
    have hX1 := hid_mk (hX0.out.keep hb1)
    have x0 : w1.cell? ⟨w.heap.size, 0, none⟩ = some (.slice A n cap) := hX1.out.cell 0
    have xl := hX1.out.lt
    have h2 : Itms w1 w1.heap.size A n is := (h1.to hb1).top
    clear hb1 h1 hX0 hb0 hR0
    go_wp2_with fail
    refine (Clone_any is A n cap _ hm h2).mono ?_
    rintro e w2 ⟨v2, rfl, own2, hb2⟩
    have q2 := hid_mk (after (w := w) hb2 q1.out).1
    have hR2 := hid_mk (hR1.out.keep hb2)
    have hw1 := q1.out.size
    clear hb2 x0 xl h2
    obtain ⟨A2, c2, rfl, _, _⟩ := own_slice own2
    have hne2 := own_ne own2 hR2.out
    go_wp2_with fail
    refine (DeleteF_any is (.slice A2 n c2) n _ hm own2 hnn.out).mono ?_
    rintro e w3 ⟨v3, rfl, own3, g3⟩
    have hR3 := hid_mk (Blk.grown hR2.out g3 hne2)
    have q3 := hid_mk (q2.out.grown g3 q2.out.size (fun k hk => Nat.le_trans hw1 (World.ownsRow.lt own2 k hk).1))
    obtain ⟨A3, c3, rfl, _, _⟩ := own_slice own3
    have r0 : w3.cell? ⟨w.heap.size + 1, 0, none⟩ = some (.slice none 0 0) := hR3.out.cell 0
    have r1 := hR3.out.frozen 0
    have rl := hR3.out.lt
    have own5 : OwnI (w3.setCell ⟨w.heap.size + 1, 0, none⟩ (.slice A3 (sweepI is).length c3)) w1.heap.size (.slice A3 (sweepI is).length c3) (sweepI is).length (sweepI is) := own_far own3 hR3.out (by decide) 0 _
    replace own5 := hid_mk own5
    obtain ⟨N, hN⟩ : ∃ N, (sweepI is).length = N := ⟨_, rfl⟩
    rw [hN] at own5 own3
    clear own2 own3 g3 hne2
    rw [hN]
    replace hN := hid_mk hN
    go_wp2
    refine ends_ret hQ (v := .tuple #[.agg #[.slice A3 N c3], .int .i64 0]) (by simp [results, Try.results21, go_sem, r0]) rfl ?_
    refine ⟨.slice A3 N c3, rfl, ?_, q3.out.setCell (p := ⟨w.heap.size + 1, 0, none⟩) (by simp) _⟩
    dsimp only
    rw [hN.out]
    exact OwnI.low own5.out hw1
end Go.Proofs.Ytngaeencnklbdaa
