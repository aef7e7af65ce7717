/-
  WHAT IS PROVED HERE: what an argument that is a slice of messages, and read as data, gives the walks. No condition.
-/
import Derived.Test.YtnaindoeihnmpaaDoorOpenN
import Derived.Test.YtnaindoeihnmpaaDoorMgs
namespace Go.Proofs.YtnaindoeihnmpaaDoor
open Go.ChangeShapes Go.WideShapes Go.ChangeAt Go.Deep Go.Joins Go.RowKit

theorem weightsAll_mem {H : Type} {P : Program} {e : TypeId} {d : DataW H} {n : Nat} (hn : n ∈ d.weights P e) : ∀ {l : List (DataW H)}, d ∈ l → n ∈ DataW.weightsAll P e l
  | _ :: _, h => by
    rw [DataW.weightsAll, List.mem_append]
    rcases List.mem_cons.1 h with rfl | h
    · exact .inl hn
    · exact .inr (weightsAll_mem hn h)
section
variable {H : Type} {enc : TypeId × Value → H} {W : World} {base : Nat} {v : Value} {d : DataW H} {p : List MemPlace}
set_option maxRecDepth 100000 in
set_option maxHeartbeats 1600000 in
theorem open_msgs_at {fs : Array Field} (hfs : Tryd.prog.underlying 32 = some (.struct fs)) {ys : List (DataW H × List MemPlace)} {n' : Nat} {C : Nat → Addr} (hw : ∀ n ∈ (DataW.agg (ys.map (·.1))).weights Tryd.prog 32, n ≤ reachBytes)
    (hj : ∀ (j : Nat) (f : Field), fs[j]? = some f → ∃ (v : Value) (y : DataW H × List MemPlace), W.cell? (C j) = some v ∧ ys[j]? = some y ∧ DataW.trod enc Tryd.prog W 0 (fun _ => true) true n' f.type [v] = some y) (hyl : ys.length = 11) :
    ∃ q : Ms × MsA, MsOk W W.heap.size q.1 q.2 ∧ ∀ j u, (msgCells q)[j]? = some u → W.cell? (C j) = some u := by
  have efs := hfs.symm.trans Tryd.underlying32
  injection efs with efs
  injection efs with efs
  subst efs
  obtain ⟨y0, y1, y2, y3, y4, y5, y6, y7, y8, y9, y10, rfl⟩ := list11' hyl
  obtain ⟨v0, z0, c0, g0, t0⟩ := hj 0 _ rfl
  obtain rfl : y0 = z0 := by simpa using g0
  obtain ⟨v1, z1, c1, g1, t1⟩ := hj 1 _ rfl
  obtain rfl : y1 = z1 := by simpa using g1
  obtain ⟨v2, z2, c2, g2, t2⟩ := hj 2 _ rfl
  obtain rfl : y2 = z2 := by simpa using g2
  obtain ⟨v3, z3, c3, g3, t3⟩ := hj 3 _ rfl
  obtain rfl : y3 = z3 := by simpa using g3
  obtain ⟨v4, z4, c4, g4, t4⟩ := hj 4 _ rfl
  obtain rfl : y4 = z4 := by simpa using g4
  obtain ⟨v5, z5, c5, g5, t5⟩ := hj 5 _ rfl
  obtain rfl : y5 = z5 := by simpa using g5
  obtain ⟨v6, z6, c6, g6, t6⟩ := hj 6 _ rfl
  obtain rfl : y6 = z6 := by simpa using g6
  obtain ⟨v7, z7, c7, g7, t7⟩ := hj 7 _ rfl
  obtain rfl : y7 = z7 := by simpa using g7
  obtain ⟨v8, z8, c8, g8, t8⟩ := hj 8 _ rfl
  obtain rfl : y8 = z8 := by simpa using g8
  obtain ⟨v9, z9, c9, g9, t9⟩ := hj 9 _ rfl
  obtain rfl : y9 = z9 := by simpa using g9
  obtain ⟨v10, z10, c10, g10, t10⟩ := hj 10 _ rfl
  obtain rfl : y10 = z10 := by simpa using g10
  have hw7 : ∀ k ∈ y7.1.weights Tryd.prog 22, k ≤ reachBytes := fun k hk => hw k (by
    simp only [DataW.weights, Tryd.underlying32, List.map_cons, List.map_nil, DataW.weightsEach, List.mem_append]
    right; right; right; right; right; right; right; left; exact hk)
  have hw9 : ∀ k ∈ y9.1.weights Tryd.prog 9, k ≤ reachBytes := fun k hk => hw k (by
    simp only [DataW.weights, Tryd.underlying32, List.map_cons, List.map_nil, DataW.weightsEach, List.mem_append]
    right; right; right; right; right; right; right; right; right; left; exact hk)
  have hw10 : ∀ k ∈ y10.1.weights Tryd.prog 25, k ≤ reachBytes := fun k hk => hw k (by
    simp only [DataW.weights, Tryd.underlying32, List.map_cons, List.map_nil, DataW.weightsEach, List.mem_append]
    right; right; right; right; right; right; right; right; right; right; left; exact hk)
  have k1 : Tryd.prog.cellsOf 3 = 1 := by kernel_rfl
  obtain ⟨x0, e0, _, _⟩ := DataW.trod_int Tryd.underlying3 t0
  obtain ⟨x1, e1, _, _⟩ := DataW.trod_int Tryd.underlying3 t1
  obtain ⟨x2, e2, _, _⟩ := DataW.trod_int Tryd.underlying3 t2
  obtain ⟨x3, e3, _, _⟩ := DataW.trod_int Tryd.underlying3 t3
  obtain ⟨x5, e5, _, _⟩ := DataW.trod_int Tryd.underlying3 t5
  obtain ⟨x6, e6, _, _⟩ := DataW.trod_int Tryd.underlying3 t6
  obtain ⟨x8, e8, _, _⟩ := DataW.trod_int Tryd.underlying3 t8
  obtain ⟨x4, e4, _⟩ := DataW.trod_bool Tryd.underlying4 t4
  obtain ⟨s9, e9, hs9, _⟩ := DataW.trod_string Tryd.underlying9 t9
  simp only [List.cons.injEq, and_true] at e0 e1 e2 e3 e4 e5 e6 e8 e9
  subst e0; subst e1; subst e2; subst e3; subst e4; subst e5; subst e6; subst e8; subst e9
  obtain ⟨A, n, cap, rs, rfl, hR, h1, h2⟩ := open_recs_trod (x := y7) t7 hw7
  obtain ⟨A', n', cap', vs, rfl, hI, h3, h4⟩ := open_ints_trod Tryd.underlying25 Tryd.underlying3 k1 (by kernel_rfl) t10 hw10
  refine ⟨(⟨x0, x1, x2, x3, x4, x5, x6, rs, x8, s9, vs⟩, ⟨⟨A, n, cap⟩, ⟨A', n', cap'⟩⟩), ⟨hR, h1, h2, hI, h3, h4, ?_⟩, ?_⟩
  · have := hw9 s9.data.toList.length (by rw [hs9]; simp [DataW.weights])
    simpa [reachBytes] using this
  · intro j u hu
    match j with
    | 0 =>
      obtain rfl : _ = u := by simpa [msgCells] using hu
      exact c0
    | 1 =>
      obtain rfl : _ = u := by simpa [msgCells] using hu
      exact c1
    | 2 =>
      obtain rfl : _ = u := by simpa [msgCells] using hu
      exact c2
    | 3 =>
      obtain rfl : _ = u := by simpa [msgCells] using hu
      exact c3
    | 4 =>
      obtain rfl : _ = u := by simpa [msgCells] using hu
      exact c4
    | 5 =>
      obtain rfl : _ = u := by simpa [msgCells] using hu
      exact c5
    | 6 =>
      obtain rfl : _ = u := by simpa [msgCells] using hu
      exact c6
    | 7 =>
      obtain rfl : _ = u := by simpa [msgCells] using hu
      exact c7
    | 8 =>
      obtain rfl : _ = u := by simpa [msgCells] using hu
      exact c8
    | 9 =>
      obtain rfl : _ = u := by simpa [msgCells] using hu
      exact c9
    | 10 =>
      obtain rfl : _ = u := by simpa [msgCells] using hu
      exact c10
    | k + 11 => simp [msgCells] at hu
set_option maxRecDepth 100000 in
set_option maxHeartbeats 1600000 in
theorem open_msgs_trod {fuel : Nat} {x : DataW H × List MemPlace} (h : DataW.trod enc Tryd.prog W 0 (fun _ => true) true fuel 37 [v] = some x) (hw : ∀ n ∈ x.1.weights Tryd.prog 37, n ≤ reachBytes) :
    ∃ A n cap ms, v = .slice A n cap ∧ Mgs W W.heap.size A n ms ∧ n ≤ cap ∧ cap * 128 ≤ 140737488351232 := by
  rcases open_slice_fields Tryd.underlying37 Tryd.underlying32 (by kernel_rfl) (by kernel_rfl) h with ⟨hcs, _⟩ | ⟨a, len, cap, m, D, Pl, hcs, _, hl, hm, hmm, hx, hf⟩
  · simp only [List.cons.injEq, and_true] at hcs
    subst hcs
    exact ⟨none, 0, 0, [], rfl, mgs_nil, Nat.le_refl _, by omega⟩
  · simp only [List.cons.injEq, and_true] at hcs
    subst hcs
    simp only [if_true] at hmm
    subst hmm
    have hd : x.1 = .slice ((List.range len).map D) ((List.range (m - len)).map fun j => D (len + j)) := congrArg Prod.fst hx
    have hch : ∀ i : Nat, ∃ q : Ms × MsA, i < len → MsOk W W.heap.size q.1 q.2 ∧ ∀ j u, (msgCells q)[j]? = some u → W.cell? (a.add (i * 11 + j)) = some u := by
      intro i
      by_cases hi : i < len
      · obtain ⟨ys, n, hDi, _, hyl, hj⟩ := hf i (by omega)
        obtain ⟨q, h1, h2⟩ := open_msgs_at Tryd.underlying32 (C := fun j => a.add (i * 11 + j)) (ys := ys) (n' := n) (W := W) (enc := enc) (fun k hk => hw k (by
          rw [hd]
          simp only [DataW.weights, Tryd.underlying37, List.mem_cons, List.mem_append]
          right; left
          refine weightsAll_mem (d := D i) (by rw [hDi]; exact hk) (List.mem_map.2 ⟨i, by simpa using hi, rfl⟩))) hj hyl
        exact ⟨q, fun _ => ⟨h1, h2⟩⟩
      · exact ⟨(⟨0, 0, 0, 0, false, 0, 0, [], 0, ⟨#[]⟩, []⟩, nilMA), fun h => absurd h hi⟩
    obtain ⟨R, hR⟩ := Classical.axiomOfChoice hch
    refine ⟨some a, len, m, (List.range len).map R, rfl, ⟨⟨by rw [mgsL_len]; simp, fun hn => ?_⟩, fun q hq => ?_⟩, hl, ?_⟩
    · obtain ⟨b, o, spot⟩ := a
      have h0 := (hR 0 hn).2 0 _ rfl
      have hspot : spot = none := by simpa [Addr.add] using World.cell?_spot h0
      subst hspot
      have hblt : b < W.heap.size := by have := cell_lt h0; simpa [Addr.add] using this
      refine ⟨b, o, rfl, hblt, .inl hblt, ?_⟩
      intro j u hu
      have hj : j < len * 11 := by
        rcases Nat.lt_or_ge j (len * 11) with h | h
        · exact h
        · rw [List.getElem?_eq_none (by rw [mgsL_len]; simpa using h)] at hu; cases hu
      obtain ⟨i, k, hk, rfl⟩ : ∃ i k, k < 11 ∧ j = i * 11 + k := ⟨j / 11, j % 11, by omega, by omega⟩
      have hi : i < len := by omega
      have hr : ((List.range len).map R)[i]? = some (R i) := by simp [hi]
      rw [mgsL_at _ i _ hr k hk] at hu
      have := (hR i hi).2 k u hu
      rwa [add_plain] at this
    · obtain ⟨i, hi, rfl⟩ := List.mem_map.1 hq
      exact (hR i (by simpa using hi)).1
    · have hb : Tryd.prog.bytesOf 32 = 128 := by kernel_rfl
      have := hw (len * 128 + (m - len) * 128) (by
        rw [hd]; simp only [DataW.weights, Tryd.underlying37, hb, List.length_map, List.length_range, List.mem_cons]; left; omega)
      simp only [reachBytes] at this
      omega
set_option maxRecDepth 100000 in
theorem open_msgs (hok : Value.okWide Tryd.prog W .any base 37 v) (h : DataW.Trod enc Tryd.prog W 0 (fun _ => true) true 37 v d p) (hw : ∀ n ∈ d.weights Tryd.prog 37, n ≤ reachBytes) :
    ∃ A n cap ms, v = .slice A n cap ∧ Mgs W W.heap.size A n ms ∧ n ≤ cap ∧ cap * 128 ≤ 140737488351232 := by
  obtain ⟨A, n, cap, rfl⟩ := okWide_slice Tryd.underlying37 hok
  obtain ⟨fuel, hf⟩ := h
  exact open_msgs_trod (x := (d, p)) (by simpa [Value.cells] using hf) hw
end
end Go.Proofs.YtnaindoeihnmpaaDoor
