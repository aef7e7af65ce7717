/-
  WHAT IS PROVED HERE: what an argument that is a rule (rows of relations, each with its spans), and reads as data, gives the walks. No condition.
-/
import Derived.Test.YtfafinnklniniaaDoorOpen
import Derived.Test.YtfafinnklniniaaDoorPlu1
import Derived.Deep.Slices
import Derived.Deep.Fields
import Derived.ChangeSame
import Derived.Lib.SmallJoins
namespace Go.Proofs.YtfafinnklniniaaDoor
open Go.ChangeShapes Go.WideShapes Go.Deep Go.Joins Go.RowKit

section
variable {H : Type} {enc : TypeId × Value → H} {P : Program} {w : World} {base : Nat} {spare : Nat → Bool} {held : Bool}
theorem weights_all {P : Program} {e : TypeId} {d : DataW H} {k : Nat} (hk : k ∈ d.weights P e) : ∀ {l : List (DataW H)}, d ∈ l → k ∈ DataW.weightsAll P e l
  | a :: r, h => by
    show k ∈ DataW.weights P e a ++ DataW.weightsAll P e r
    rcases List.mem_cons.1 h with rfl | h
    · exact List.mem_append_left _ hk
    · exact List.mem_append_right _ (weights_all hk h)
theorem open_slice_fieldsR {t e : TypeId} {fs : Array Field} {fuel : Nat} {cs : List Value} {x : DataW H × List MemPlace} (ht : P.underlying t = some (.slice e)) (he : P.underlying e = some (.struct fs))
    (hone : oneCellFields P fs = true) (hC : P.cellsOf e = fs.size) (h : DataW.trod enc P w base spare held fuel t cs = some x) :
    (cs = [.slice none 0 0] ∧ x = (.nil, [])) ∨
    ∃ (a : Addr) (len cap m : Nat) (D : Nat → DataW H) (Pl : Nat → List MemPlace), cs = [.slice (some a) len cap] ∧ base ≤ a.block ∧ len ≤ cap ∧ cap ≤ maxLen ∧ m = (if spare a.block then cap else len) ∧
      x = (.slice ((List.range len).map D) ((List.range (m - len)).map fun j => D (len + j)), MemPlace.row a (m * fs.size) ++ (List.range m).flatMap Pl) ∧
      ∀ i, i < m → ∃ (ys : List (DataW H × List MemPlace)) (n : Nat), D i = .agg (ys.map (·.1)) ∧ Pl i = ys.flatMap (·.2) ∧ ys.length = fs.size ∧
        ∀ (j : Nat) (f : Field), fs[j]? = some f → ∃ (v : Value) (y : DataW H × List MemPlace), w.cell? (a.add (i * fs.size + j)) = some v ∧ ys[j]? = some y ∧ DataW.trod enc P w base spare held n f.type [v] = some y := by
  rcases open_slice ht h with h0 | ⟨a, len, cap, m, n, D, Pl, hcs, hb, hl, hm, hmm, hx, hi⟩
  · exact .inl h0
  · refine .inr ⟨a, len, cap, m, D, Pl, hcs, hb, hl, hm, hmm, by rw [hC] at hx; exact hx, fun i him => ?_⟩
    obtain ⟨cs', hc, ht'⟩ := hi i him
    rw [hC] at hc
    obtain ⟨ys, n', hn', hy, hlen, hyl, hf⟩ := DataW.trod_struct he ht'
    obtain ⟨_, hcl, hat⟩ := World.cells?_some hc
    simp only [Prod.mk.injEq] at hy
    refine ⟨ys, n', hy.1, hy.2, hyl, fun j f hj => ?_⟩
    obtain ⟨ho, hk⟩ := hone_of hone j f hj
    have hjl : j < fs.size := (Array.getElem?_eq_some_iff.1 hj).1
    have hcell := hat j hjl
    have hv : cs'[j]? = some (cs'[j]'(by omega)) := List.getElem?_eq_getElem (by omega)
    have h1 := hf j f hj
    rw [ho, hk] at h1
    have hone' : (cs'.drop j).take 1 = [cs'[j]'(by omega)] := by
      rw [List.drop_eq_getElem_cons (by omega)]
      rfl
    rw [hone'] at h1
    have hys : ys[j]? = some (ys[j]'(by omega)) := List.getElem?_eq_getElem (by omega)
    refine ⟨_, _, ?_, hys, h1.trans hys⟩
    rw [← Go.Deep.add_add, hcell, hv]
end
section
variable {H : Type} {enc : TypeId × Value → H} {W : World} {base : Nat} {v : Value} {d : DataW H} {p : List MemPlace}
theorem open_spans_trod {fuel : Nat} {x : DataW H × List MemPlace} (h : DataW.trod enc Tryd.prog W 0 (fun _ => true) true fuel 35 [v] = some x) (hw : ∀ n ∈ x.1.weights Tryd.prog 35, n ≤ reachBytes) :
    ∃ (u : Sl) (l : List (Int × Int)), v = slV u ∧ Spans W W.heap.size u.1 u.2.1 l ∧ u.2.1 ≤ 8796093022208 := by
  rcases open_slice_fieldsR Tryd.underlying35 Tryd.underlying45 (by kernel_rfl) (by kernel_rfl) h with ⟨hcs, _⟩ | ⟨a, len, cap, m, D, Pl, hcs, _, hl, hm, hmm, hx, hf⟩
  · simp only [List.cons.injEq, and_true] at hcs
    subst hcs
    exact ⟨(none, 0, 0), [], rfl, Reads.none_, by dsimp only; omega⟩
  · simp only [List.cons.injEq, and_true] at hcs
    subst hcs
    simp only [if_true] at hmm
    subst hmm
    have hch : ∀ i : Nat, ∃ r : Int × Int, i < m → W.cell? (a.add (i * 2)) = some (.int .i64 r.1) ∧ W.cell? (a.add (i * 2 + 1)) = some (.int .i64 r.2) := by
      intro i
      by_cases hi : i < m
      · obtain ⟨ys, n, _, _, _, hj⟩ := hf i hi
        obtain ⟨v0, y0, c0, _, t0⟩ := hj 0 _ rfl
        obtain ⟨v1, y1, c1, _, t1⟩ := hj 1 _ rfl
        obtain ⟨x0, e0, _, _⟩ := DataW.trod_int Tryd.underlying3 t0
        obtain ⟨x1, e1, _, _⟩ := DataW.trod_int Tryd.underlying3 t1
        simp only [List.cons.injEq, and_true] at e0 e1
        subst e0; subst e1
        exact ⟨(x0, x1), fun _ => ⟨c0, c1⟩⟩
      · exact ⟨(0, 0), fun h => absurd h hi⟩
    obtain ⟨R, hR⟩ := Classical.axiomOfChoice hch
    refine ⟨(some a, len, m), (List.range len).map R, rfl, ⟨by rw [spanL_len]; simp, fun hn => ?_⟩, ?_⟩
    · dsimp only at hn
      obtain ⟨b, o, spot⟩ := a
      have h0 := (hR 0 (by omega)).1
      have hspot : spot = none := by simpa [Addr.add] using World.cell?_spot h0
      subst hspot
      have hblt : b < W.heap.size := by have := cell_lt h0; simpa [Addr.add] using this
      refine ⟨b, o, rfl, hblt, .inl hblt, ?_⟩
      intro j u hu
      have hj : j < len * 2 := by
        rcases Nat.lt_or_ge j (len * 2) with h | h
        · exact h
        · rw [List.getElem?_eq_none (by rw [spanL_len]; simpa using h)] at hu; cases hu
      obtain ⟨i, k, hk, rfl⟩ : ∃ i k, k < 2 ∧ j = i * 2 + k := ⟨j / 2, j % 2, by omega, by omega⟩
      have hi : i < len := by omega
      have hr : ((List.range len).map R)[i]? = some (R i) := by simp [hi]
      obtain ⟨g0, g1⟩ := spanL_at _ i _ hr
      obtain ⟨k0, k1⟩ := hR i (by omega)
      rw [add_plain] at k0 k1
      match k, hk with
      | 0, _ => rw [Nat.add_zero] at hu ⊢; rw [g0] at hu; cases hu; exact k0
      | 1, _ => rw [g1] at hu; cases hu; exact k1
    · have hd : x.1 = .slice ((List.range len).map D) ((List.range (m - len)).map fun j => D (len + j)) := congrArg Prod.fst hx
      have hb : Tryd.prog.bytesOf 45 = 16 := by kernel_rfl
      have := hw (len * 16 + (m - len) * 16) (by
        rw [hd]; simp only [DataW.weights, Tryd.underlying35, hb, List.length_map, List.length_range, List.mem_cons]; left; omega)
      simp only [reachBytes] at this
      dsimp only
      omega
theorem open_row_trod {fuel : Nat} {x : DataW H × List MemPlace} (h : DataW.trod enc Tryd.prog W 0 (fun _ => true) true fuel 34 [v] = some x) (hw : ∀ n ∈ x.1.weights Tryd.prog 34, n ≤ reachBytes) :
    ∃ (u : Sl) (l : List Rl), v = slV u ∧ Rels W W.heap.size u.1 u.2.1 l ∧ u.2.1 ≤ 8796093022208 := by
  rcases open_slice_fieldsR Tryd.underlying34 Tryd.underlying37 (by kernel_rfl) (by kernel_rfl) h with ⟨hcs, _⟩ | ⟨a, len, cap, m, D, Pl, hcs, _, hl, hm, hmm, hx, hf⟩
  · simp only [List.cons.injEq, and_true] at hcs
    subst hcs
    exact ⟨(none, 0, 0), [], rfl, ⟨[], rfl, Reads.none_, fun z hz => by cases hz⟩, by dsimp only; omega⟩
  · simp only [List.cons.injEq, and_true] at hcs
    subst hcs
    simp only [if_true] at hmm
    subst hmm
    have hd : x.1 = .slice ((List.range len).map D) ((List.range (m - len)).map fun j => D (len + j)) := congrArg Prod.fst hx
    have hwD : ∀ i, i < len → ∀ k ∈ (D i).weights Tryd.prog 37, k ≤ reachBytes := fun i hi k hk => hw k (by
      rw [hd]
      simp only [DataW.weights, Tryd.underlying34, List.mem_cons, List.mem_append]
      exact .inr (.inl (weights_all hk (List.mem_map.2 ⟨i, List.mem_range.2 hi, rfl⟩))))
    have hch : ∀ i : Nat, ∃ z : Rl × Sl, i < len → (W.cell? (a.add (i * 3)) = some (.int .i64 z.1.mod) ∧ W.cell? (a.add (i * 3 + 1)) = some (.bool z.1.not) ∧ W.cell? (a.add (i * 3 + 2)) = some (slV z.2)) ∧ Spans W W.heap.size z.2.1 z.2.2.1 z.1.spans ∧ z.2.2.1 ≤ 8796093022208 := by
      intro i
      by_cases hi : i < len
      · obtain ⟨ys, n, hDi, _, hyl, hj⟩ := hf i (by omega)
        obtain ⟨v0, y0, c0, _, t0⟩ := hj 0 _ rfl
        obtain ⟨v1, y1, c1, _, t1⟩ := hj 1 _ rfl
        obtain ⟨v2, y2, c2, e2y, t2⟩ := hj 2 _ rfl
        obtain ⟨x0, e0, _, _⟩ := DataW.trod_int Tryd.underlying3 t0
        obtain ⟨x1, e1, _⟩ := DataW.trod_bool Tryd.underlying4 t1
        simp only [List.cons.injEq, and_true] at e0 e1
        subst e0; subst e1
        have hyl3 : ys.length = 3 := hyl
        obtain ⟨y0', y1', y2', rfl⟩ : ∃ a b c, ys = [a, b, c] := by
          match ys, hyl3 with
          | [a, b, c], _ => exact ⟨a, b, c, rfl⟩
        have hy2 : y2' = y2 := by simpa using e2y
        subst hy2
        obtain ⟨u, l, rfl, hS, hn⟩ := open_spans_trod t2 (fun k hk => hwD i hi k (by
          rw [hDi]
          simp only [DataW.weights, Tryd.underlying37, List.map_cons, List.map_nil, DataW.weightsEach, List.mem_append]
          right; right; left; exact hk))
        exact ⟨(⟨x0, x1, l⟩, u), fun _ => ⟨⟨c0, c1, c2⟩, hS, hn⟩⟩
      · exact ⟨(⟨0, false, []⟩, (none, 0, 0)), fun h => absurd h hi⟩
    obtain ⟨R, hR⟩ := Classical.axiomOfChoice hch
    refine ⟨(some a, len, m), ((List.range len).map R).map (·.1), rfl, ⟨(List.range len).map R, rfl, ⟨by rw [relL_len]; simp, fun hn => ?_⟩, fun z hz => ?_⟩, ?_⟩
    · dsimp only at hn
      obtain ⟨b, o, spot⟩ := a
      have h0 := (hR 0 (by omega)).1.1
      have hspot : spot = none := by simpa [Addr.add] using World.cell?_spot h0
      subst hspot
      have hblt : b < W.heap.size := by have := cell_lt h0; simpa [Addr.add] using this
      refine ⟨b, o, rfl, hblt, .inl hblt, ?_⟩
      intro j u hu
      have hj : j < len * 3 := by
        rcases Nat.lt_or_ge j (len * 3) with h | h
        · exact h
        · rw [List.getElem?_eq_none (by rw [relL_len]; simpa using h)] at hu; cases hu
      obtain ⟨i, k, hk, rfl⟩ : ∃ i k, k < 3 ∧ j = i * 3 + k := ⟨j / 3, j % 3, by omega, by omega⟩
      have hi : i < len := by omega
      have hr : ((List.range len).map R)[i]? = some (R i) := by simp [hi]
      obtain ⟨g0, g1, g2⟩ := relL_at _ i _ hr
      obtain ⟨⟨k0, k1, k2⟩, _⟩ := hR i hi
      rw [add_plain] at k0 k1 k2
      match k, hk with
      | 0, _ => rw [Nat.add_zero] at hu ⊢; rw [g0] at hu; cases hu; exact k0
      | 1, _ => rw [g1] at hu; cases hu; exact k1
      | 2, _ => rw [g2] at hu; cases hu; exact k2
    · obtain ⟨i, hi, rfl⟩ := List.mem_map.1 hz
      exact (hR i (List.mem_range.1 hi)).2
    · have hb : Tryd.prog.bytesOf 37 = 40 := by kernel_rfl
      have := hw (len * 40 + (m - len) * 40) (by
        rw [hd]; simp only [DataW.weights, Tryd.underlying34, hb, List.length_map, List.length_range, List.mem_cons]; left; omega)
      simp only [reachBytes] at this
      dsimp only
      omega
theorem open_rule (hok : Value.okWide Tryd.prog W .any base 22 v) (h : DataW.Trod enc Tryd.prog W 0 (fun _ => true) true 22 v d p) (hw : ∀ n ∈ d.weights Tryd.prog 22, n ≤ reachBytes) :
    ∃ A n cap l, v = .slice A n cap ∧ Rule W W.heap.size A n l ∧ n ≤ cap ∧ n ≤ 8796093022208 := by
  obtain ⟨A, n, cap, rfl⟩ := okWide_slice Tryd.underlying22 hok
  obtain ⟨fuel, hf⟩ := h
  have hf' : DataW.trod enc Tryd.prog W 0 (fun _ => true) true fuel 22 [.slice A n cap] = some (d, p) := by simpa [Value.cells] using hf
  clear hf
  rcases open_slice1 Tryd.underlying22 (by kernel_rfl) hf' with ⟨hcs, _⟩ | ⟨a, len, cap', m, n', V, D, Pl, hcs, _, hl, hm, hmm, hx, hi⟩
  · simp only [List.cons.injEq, and_true] at hcs
    injection hcs with h1 h2 h3
    subst h1; subst h2; subst h3
    exact ⟨none, 0, 0, [], rfl, ⟨[], rfl, Reads.none_, fun z hz => by cases hz⟩, Nat.le_refl _, by omega⟩
  · simp only [List.cons.injEq, and_true] at hcs
    injection hcs with h1 h2 h3
    subst h1; subst h2; subst h3
    simp only [if_true] at hmm
    subst hmm
    have hd : d = .slice ((List.range n).map D) ((List.range (m - n)).map fun j => D (n + j)) := congrArg Prod.fst hx
    have hch : ∀ i : Nat, ∃ z : List Rl × Sl, i < n → W.cell? (a.add i) = some (slV z.2) ∧ Rels W W.heap.size z.2.1 z.2.2.1 z.1 ∧ z.2.2.1 ≤ 8796093022208 := by
      intro i
      by_cases hin : i < n
      · obtain ⟨c0, t0⟩ := hi i (by omega)
        obtain ⟨u, l, hv, hR, hn⟩ := open_row_trod t0 (fun k hk => hw k (by
          rw [hd]
          simp only [DataW.weights, Tryd.underlying22, List.mem_cons, List.mem_append]
          exact .inr (.inl (weights_all hk (List.mem_map.2 ⟨i, List.mem_range.2 hin, rfl⟩)))))
        rw [hv] at c0
        exact ⟨(l, u), fun _ => ⟨c0, hR, hn⟩⟩
      · exact ⟨([], (none, 0, 0)), fun h => absurd h hin⟩
    obtain ⟨R, hR⟩ := Classical.axiomOfChoice hch
    refine ⟨some a, n, m, ((List.range n).map R).map (·.1), rfl, ⟨(List.range n).map R, rfl, ⟨by simp, fun hn => ?_⟩, fun z hz => ?_⟩, hl, ?_⟩
    · obtain ⟨b, o, spot⟩ := a
      have h0 := (hR 0 (by omega)).1
      have hspot : spot = none := by simpa [Addr.add] using World.cell?_spot h0
      subst hspot
      have hblt : b < W.heap.size := by have := cell_lt h0; simpa [Addr.add] using this
      refine ⟨b, o, rfl, hblt, .inl hblt, ?_⟩
      intro j u hu
      have hj : j < n := by
        rcases Nat.lt_or_ge j n with h | h
        · exact h
        · rw [List.getElem?_eq_none (by simpa using h)] at hu; cases hu
      have k0 := (hR j hj).1
      rw [add_plain] at k0
      have hg : (((List.range n).map R).map fun z => slV z.2)[j]? = some (slV (R j).2) := by simp [hj]
      rw [hg] at hu
      cases hu
      exact k0
    · obtain ⟨i, hi2, rfl⟩ := List.mem_map.1 hz
      exact (hR i (List.mem_range.1 hi2)).2
    · have hb : Tryd.prog.bytesOf 34 = 24 := by kernel_rfl
      have := hw (n * 24 + (m - n) * 24) (by
        rw [hd]; simp only [DataW.weights, Tryd.underlying22, hb, List.length_map, List.length_range, List.mem_cons]; left; omega)
      simp only [reachBytes] at this
      omega
end
end Go.Proofs.YtfafinnklniniaaDoor
