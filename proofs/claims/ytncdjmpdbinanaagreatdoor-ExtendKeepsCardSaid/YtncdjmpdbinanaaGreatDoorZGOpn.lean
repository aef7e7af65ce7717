/-
  WHAT IS PROVED HERE: what an argument that reads as data gives the walks: ints within bounds, slices of ints as lists, strings, within the form's reach. No condition.
  WHAT IS PROVED HERE: what arguments that are logs, or slices of records, and read as data, give the walks. No condition.
  WHAT IS PROVED HERE: what an argument that is a Hard, and reads as data, gives the walks. No condition.
-/
import Derived.Test.YtncdjmpdbinanaaGreatDoorZGJrn
import Derived.ProofKit
import Derived.OpenShut
import Derived.ShutString
import Derived.ChangeOld
import Derived.SizedLaws
import Derived.Deep.Slices
import Derived.Deep.Fields
import Derived.ChangeSame
import Derived.Lib.SmallJoins
namespace Go.Proofs.YtncdjmpdbinanaaGreatDoor
open Go.ChangeShapes Go.WideShapes Go.ChangeAt Go.RowKit
open Go.ChangeMaps (open_string shut_string)

theorem cell_lt {w : World} {p : Addr} {v : Value} (h : w.cell? p = some v) : p.block < w.heap.size := by
  rcases Nat.lt_or_ge p.block w.heap.size with hlt | hge
  · exact hlt
  · unfold World.cell? at h
    rw [Array.getElem?_eq_none hge] at h
    cases h
section
variable {H : Type} {enc : TypeId × Value → H} {P : Program} {W : World} {base : Nat} {t e : TypeId} {v : Value} {d : DataW H} {p : List MemPlace}
theorem open_intsl (ht : P.underlying t = some (.slice e)) (he : P.underlying e = some (.int .i64)) (hc : P.cellsOf e = 1) (hby : P.bytesOf e = 8)
    (hok : Value.okWide P W .any base t v) (h : DataW.Trod enc P W 0 (fun _ => true) true t v d p) (hw : ∀ n ∈ d.weights P t, n ≤ reachBytes) :
    ∃ a len cap zs, v = .slice a len cap ∧ Ints W W.heap.size a len zs ∧ len ≤ cap ∧ cap * 8 ≤ 140737488351232 ∧ ∀ z ∈ zs, -9223372036854775808 ≤ z ∧ z ≤ 9223372036854775807 := by
  obtain ⟨a, len, cap, rfl⟩ := okWide_slice ht hok
  obtain ⟨fuel, hf⟩ := h
  rcases open_ints ht he hc hf with ⟨hcs, _⟩ | ⟨x, l, c, zs, hcs, _, hl, hm, hz, hx, hcell, hwz⟩
  · simp [Value.cells] at hcs
    obtain ⟨rfl, rfl, rfl⟩ := hcs
    exact ⟨none, 0, 0, [], rfl, Reads.none_, Nat.le_refl _, by omega, by simp⟩
  · simp [Value.cells] at hcs
    obtain ⟨rfl, rfl, rfl⟩ := hcs
    simp only [if_true] at hz
    have hlen : (zs.take len).length = len := by simp; omega
    refine ⟨some x, len, cap, zs.take len, rfl, ⟨by simp; omega, fun hn => ?_⟩, hl, ?_, ?_⟩
    · obtain ⟨b, o, rfl, hc2⟩ := ints_at hcell (by omega)
      have hblt : b < W.heap.size := by have := cell_lt (hc2 0 (by omega)); exact this
      refine ⟨b, o, rfl, hblt, .inl hblt, ?_⟩
      · intro j u hu
        have hj : j < len := by
          rcases Nat.lt_or_ge j len with h | h
          · exact h
          · rw [List.getElem?_eq_none (by simp; omega)] at hu; cases hu
        rw [hc2 j (by omega)]
        rw [List.getElem?_map, List.getElem?_take_of_lt hj, List.getElem?_eq_getElem (by omega)] at hu
        simp only [Option.map_some, Option.some.injEq] at hu
        rw [← hu]; simp [List.getElem?_eq_getElem (show j < zs.length by omega), vint]
    · have hd : d = .slice (lits .i64 (zs.take len)) (lits .i64 (zs.drop len)) := congrArg Prod.fst hx
      have := hw ((zs.take len).length * 8 + (zs.drop len).length * 8) (by
        rw [hd]; simp only [DataW.weights, ht, hby, lits, List.length_map, List.mem_cons]; left; omega)
      simp only [List.length_take, List.length_drop, reachBytes] at this
      omega
    · intro z hz'
      exact bounds_i64 (hwz z (List.mem_of_mem_take hz'))
theorem open_int_ (ht : P.underlying t = some (.int .i64)) (hok : Value.okWide P W .any base t v) (h : DataW.Trod enc P W 0 (fun _ => true) true t v d p) :
    ∃ n, v = .int .i64 n ∧ -9223372036854775808 ≤ n ∧ n ≤ 9223372036854775807 := by
  obtain ⟨n, rfl, _, _, hw⟩ := open_int ht hok h
  exact ⟨n, rfl, bounds_i64 hw⟩
theorem open_string_ (ht : P.underlying t = some .string) (hok : Value.okWide P W .any base t v) (h : DataW.Trod enc P W 0 (fun _ => true) true t v d p) (hw : ∀ n ∈ d.weights P t, n ≤ reachBytes) :
    ∃ s : ByteArray, v = .string s ∧ s.size ≤ 140737488351232 := by
  obtain ⟨s, rfl, rfl, _, _⟩ := open_string ht hok h
  refine ⟨s, rfl, ?_⟩
  have := hw s.data.toList.length (by simp [DataW.weights])
  simpa [reachBytes] using this
theorem weights_at {ts : List TypeId} {ds : List (DataW H)} (h : (DataW.weightsEach P ts ds).all (· ≤ reachBytes) = true) {j : Nat} (ht : ts[j]? = some t) (hd : ds[j]? = some d) : ∀ n ∈ d.weights P t, n ≤ reachBytes := by
  intro n hn
  have := List.all_eq_true.1 h _ (DataW.weights_mem_each ht hd n hn)
  simpa using this
theorem trod_lt' (h : DataW.Trod enc P W 0 (fun _ => true) true t v d p) : ∀ x ∈ p, x.block < W.heap.size := by
  obtain ⟨m, hm⟩ := h; exact DataW.trod_lt m _ _ _ hm
end
end Go.Proofs.YtncdjmpdbinanaaGreatDoor
namespace Go.Proofs.YtncdjmpdbinanaaGreatDoor
open Go.ChangeShapes Go.WideShapes Go.Deep Go.Joins Go.RowKit

section
variable {H : Type} {enc : TypeId × Value → H} {P : Program} {w : World} {base : Nat} {spare : Nat → Bool} {held : Bool}
theorem open_slice_fields {t e : TypeId} {fs : Array Field} {fuel : Nat} {cs : List Value} {x : DataW H × List MemPlace} (ht : P.underlying t = some (.slice e)) (he : P.underlying e = some (.struct fs))
    (hone : oneCellFields P fs = true) (hC : P.cellsOf e = fs.size) (h : DataW.trod enc P w base spare held fuel t cs = some x) :
    (cs = [.slice none 0 0] ∧ x = (.nil, [])) ∨
    ∃ (a : Addr) (len cap m : Nat) (D : Nat → DataW H) (Pl : Nat → List MemPlace), cs = [.slice (some a) len cap] ∧ base ≤ a.block ∧ len ≤ cap ∧ cap ≤ maxLen ∧ m = (if spare a.block then cap else len) ∧
      x = (.slice ((List.range len).map D) ((List.range (m - len)).map fun j => D (len + j)), MemPlace.row a (m * fs.size) ++ (List.range m).flatMap Pl) ∧
      ∀ i, i < m → ∃ (ys : List (DataW H × List MemPlace)) (n : Nat), D i = .agg (ys.map (·.1)) ∧ Pl i = ys.flatMap (·.2) ∧ ys.length = fs.size ∧
        ∀ (j : Nat) (f : Field), fs[j]? = some f → ∃ (v : Value) (y : DataW H × List MemPlace), w.cell? (a.add (i * fs.size + j)) = some v ∧ ys[j]? = some y ∧ DataW.trod enc P w base spare held n f.type [v] = some y := by
  rcases open_slice ht h with h0 | ⟨a, len, cap, m, n, D, Pl, hcs, hb, hl, hm, hmm, hx, hi⟩
  · exact .inl h0
  · refine .inr ⟨a, len, cap, m, D, Pl, hcs, hb, hl, hm, hmm, by rw [hC] at hx; exact hx, fun i him => ?_⟩
    obtain ⟨cs', hc, ht'⟩ := hi i him
    rw [hC] at hc
    obtain ⟨ys, n', hn', hy, hlen, hyl, hf⟩ := DataW.trod_struct he ht'
    obtain ⟨_, hcl, hat⟩ := World.cells?_some hc
    simp only [Prod.mk.injEq] at hy
    refine ⟨ys, n', hy.1, hy.2, hyl, fun j f hj => ?_⟩
    obtain ⟨ho, hk⟩ := hone_of hone j f hj
    have hjl : j < fs.size := (Array.getElem?_eq_some_iff.1 hj).1
    have hcell := hat j hjl
    have hv : cs'[j]? = some (cs'[j]'(by omega)) := List.getElem?_eq_getElem (by omega)
    have h1 := hf j f hj
    rw [ho, hk] at h1
    have hone' : (cs'.drop j).take 1 = [cs'[j]'(by omega)] := by
      rw [List.drop_eq_getElem_cons (by omega)]
      rfl
    rw [hone'] at h1
    have hys : ys[j]? = some (ys[j]'(by omega)) := List.getElem?_eq_getElem (by omega)
    refine ⟨_, _, ?_, hys, h1.trans hys⟩
    rw [← Go.Deep.add_add, hcell, hv]
end

section
variable {H : Type} {enc : TypeId × Value → H} {W : World} {base : Nat} {v : Value} {d : DataW H} {p : List MemPlace}
set_option maxRecDepth 100000 in
theorem open_recs_trod {fuel : Nat} {x : DataW H × List MemPlace} (h : DataW.trod enc Tryz.prog W 0 (fun _ => true) true fuel 22 [v] = some x) (hw : ∀ n ∈ x.1.weights Tryz.prog 22, n ≤ reachBytes) :
    ∃ A n cap rs, v = .slice A n cap ∧ Recs W W.heap.size A n rs ∧ n ≤ cap ∧ cap * 32 ≤ 140737488351232 := by
  rcases open_slice_fields Tryz.underlying22 Tryz.underlying51 (by kernel_rfl) (by kernel_rfl) h with ⟨hcs, _⟩ | ⟨a, len, cap, m, D, Pl, hcs, _, hl, hm, hmm, hx, hf⟩
  · simp only [List.cons.injEq, and_true] at hcs
    subst hcs
    exact ⟨none, 0, 0, [], rfl, Reads.none_, Nat.le_refl _, by omega⟩
  · simp only [List.cons.injEq, and_true] at hcs
    subst hcs
    simp only [if_true] at hmm
    subst hmm
    have hch : ∀ i : Nat, ∃ r : Rec, i < m → W.cell? (a.add (i * 3)) = some (.int .i64 r.t) ∧ W.cell? (a.add (i * 3 + 1)) = some (.int .i64 r.k) ∧ W.cell? (a.add (i * 3 + 2)) = some (.string r.d) := by
      intro i
      by_cases hi : i < m
      · obtain ⟨ys, n, _, _, _, hj⟩ := hf i hi
        obtain ⟨v0, y0, c0, _, t0⟩ := hj 0 _ rfl
        obtain ⟨v1, y1, c1, _, t1⟩ := hj 1 _ rfl
        obtain ⟨v2, y2, c2, _, t2⟩ := hj 2 _ rfl
        obtain ⟨x0, e0, _, _⟩ := DataW.trod_int Tryz.underlying3 t0
        obtain ⟨x1, e1, _, _⟩ := DataW.trod_int Tryz.underlying3 t1
        obtain ⟨x2, e2, _, _⟩ := DataW.trod_string Tryz.underlying9 t2
        simp only [List.cons.injEq, and_true] at e0 e1 e2
        subst e0; subst e1; subst e2
        exact ⟨⟨x0, x1, x2⟩, fun _ => ⟨c0, c1, c2⟩⟩
      · exact ⟨⟨0, 0, ByteArray.empty⟩, fun h => absurd h hi⟩
    obtain ⟨R, hR⟩ := Classical.axiomOfChoice hch
    refine ⟨some a, len, m, (List.range len).map R, rfl, ⟨by rw [cellsOf_len]; simp, fun hn => ?_⟩, hl, ?_⟩
    · obtain ⟨b, o, spot⟩ := a
      have h0 := (hR 0 (by omega)).1
      have hspot : spot = none := by simpa [Addr.add] using World.cell?_spot h0
      subst hspot
      have hblt : b < W.heap.size := by have := cell_lt h0; simpa [Addr.add] using this
      refine ⟨b, o, rfl, hblt, .inl hblt, ?_⟩
      · intro j u hu
        have hj : j < len * 3 := by
          rcases Nat.lt_or_ge j (len * 3) with h | h
          · exact h
          · rw [List.getElem?_eq_none (by rw [cellsOf_len]; simpa using h)] at hu; cases hu
        obtain ⟨i, k, hk, rfl⟩ : ∃ i k, k < 3 ∧ j = i * 3 + k := ⟨j / 3, j % 3, by omega, by omega⟩
        have hi : i < len := by omega
        have hr : ((List.range len).map R)[i]? = some (R i) := by simp [hi]
        obtain ⟨g0, g1, g2⟩ := cellsOf_at _ i _ hr
        obtain ⟨k0, k1, k2⟩ := hR i (by omega)
        rw [add_plain] at k0 k1 k2
        match k, hk with
        | 0, _ => rw [Nat.add_zero] at hu ⊢; rw [g0] at hu; cases hu; exact k0
        | 1, _ => rw [g1] at hu; cases hu; exact k1
        | 2, _ => rw [g2] at hu; cases hu; exact k2
    · have hd : x.1 = .slice ((List.range len).map D) ((List.range (m - len)).map fun j => D (len + j)) := congrArg Prod.fst hx
      have hb : Tryz.prog.bytesOf 51 = 32 := by kernel_rfl
      have := hw (len * 32 + (m - len) * 32) (by
        rw [hd]; simp only [DataW.weights, Tryz.underlying22, hb, List.length_map, List.length_range, List.mem_cons]; left; omega)
      simp only [reachBytes] at this
      omega
set_option maxRecDepth 100000 in
theorem open_recs (hok : Value.okWide Tryz.prog W .any base 22 v) (h : DataW.Trod enc Tryz.prog W 0 (fun _ => true) true 22 v d p) (hw : ∀ n ∈ d.weights Tryz.prog 22, n ≤ reachBytes) :
    ∃ A n cap rs, v = .slice A n cap ∧ Recs W W.heap.size A n rs ∧ n ≤ cap ∧ cap * 32 ≤ 140737488351232 := by
  obtain ⟨A, n, cap, rfl⟩ := okWide_slice Tryz.underlying22 hok
  obtain ⟨fuel, hf⟩ := h
  exact open_recs_trod (by simpa [Value.cells] using hf) hw
set_option maxRecDepth 100000 in
theorem open_log (hok : Value.okWide Tryz.prog W .any base 24 v) (h : DataW.Trod enc Tryz.prog W 0 (fun _ => true) true 24 v d p) (hw : ∀ n ∈ d.weights Tryz.prog 24, n ≤ reachBytes) :
    ∃ l A n cap, v = logV l A n cap ∧ Recs W W.heap.size A n l.rs ∧ n ≤ cap ∧ cap * 32 ≤ 140737488351232 := by
  obtain ⟨c0, c1, c2, y0, y1, y2, m, rfl, rfl, rfl, t0, t1, t2⟩ := open_agg3 Tryz.underlying24 (by kernel_rfl) (by kernel_rfl) hok h
  obtain ⟨x0, e0, _, _⟩ := DataW.trod_int Tryz.underlying3 t0
  obtain ⟨x1, e1, _, _⟩ := DataW.trod_int Tryz.underlying3 t1
  simp only [List.cons.injEq, and_true] at e0 e1
  subst e0; subst e1
  obtain ⟨A, n, cap, rs, rfl, hR, hl, hc⟩ := open_recs_trod (x := y2) t2 (fun k hk => hw k (by
    simp only [DataW.weights, Tryz.underlying24, List.map_cons, List.map_nil, DataW.weightsEach, List.mem_append]
    right; right; left; exact hk))
  exact ⟨⟨x0, x1, rs⟩, A, n, cap, rfl, hR, hl, hc⟩
end
end Go.Proofs.YtncdjmpdbinanaaGreatDoor
namespace Go.Proofs.YtncdjmpdbinanaaGreatDoor
open Go.ChangeShapes Go.WideShapes Go.ChangeAt Go.Deep Go.Joins Go.RowKit

theorem array7 {α : Type} {cs : Array α} (h : cs.size = 7) : ∃ c0 c1 c2 c3 c4 c5 c6, cs = #[c0, c1, c2, c3, c4, c5, c6] := by
  obtain ⟨l⟩ := cs
  match l, h with
  | [c0, c1, c2, c3, c4, c5, c6], _ => exact ⟨c0, c1, c2, c3, c4, c5, c6, rfl⟩
theorem list3 {α : Type} {l : List α} (h : l.length = 3) : ∃ a b c, l = [a, b, c] := by
  match l, h with
  | [a, b, c], _ => exact ⟨a, b, c, rfl⟩
/-- a state that is kept: two ints, a log, a text, voters -/
def hardV (t v : Int) (l : Lg) (A : Option Addr) (n cap : Nat) (s : ByteArray) (A' : Option Addr) (n' cap' : Nat) : Value :=
  .agg #[.int .i64 t, .int .i64 v, .int .i64 l.base, .int .i64 l.bt, .slice A n cap, .string s, .slice A' n' cap']
section
variable {H : Type} {enc : TypeId × Value → H} {P : Program} {W : World} {base : Nat} {t e : TypeId} {v : Value} {d : DataW H} {p : List MemPlace}
theorem open_ints_trod {fuel : Nat} {x : DataW H × List MemPlace} (ht : P.underlying t = some (.slice e)) (he : P.underlying e = some (.int .i64)) (hc : P.cellsOf e = 1) (hby : P.bytesOf e = 8)
    (h : DataW.trod enc P W 0 (fun _ => true) true fuel t [v] = some x) (hw : ∀ n ∈ x.1.weights P t, n ≤ reachBytes) :
    ∃ a len cap zs, v = .slice a len cap ∧ Ints W W.heap.size a len zs ∧ len ≤ cap ∧ cap * 8 ≤ 140737488351232 := by
  rcases open_ints ht he hc h with ⟨hcs, _⟩ | ⟨x1, l, c, zs, hcs, _, hl, hm, hz, hx, hcell, hwz⟩
  · simp only [List.cons.injEq, and_true] at hcs
    subst hcs
    exact ⟨none, 0, 0, [], rfl, Reads.none_, Nat.le_refl _, by omega⟩
  · simp only [List.cons.injEq, and_true] at hcs
    subst hcs
    simp only [if_true] at hz
    have hlen : (zs.take l).length = l := by simp; omega
    refine ⟨some x1, l, c, zs.take l, rfl, ⟨by simp; omega, fun hn => ?_⟩, hl, ?_⟩
    · obtain ⟨b, o, rfl, hc2⟩ := ints_at hcell (by omega)
      have hblt : b < W.heap.size := by have := cell_lt (hc2 0 (by omega)); exact this
      refine ⟨b, o, rfl, hblt, .inl hblt, ?_⟩
      · intro j u hu
        have hj : j < l := by
          rcases Nat.lt_or_ge j l with h | h
          · exact h
          · rw [List.getElem?_eq_none (by simp; omega)] at hu; cases hu
        rw [hc2 j (by omega)]
        rw [List.getElem?_map, List.getElem?_take_of_lt hj, List.getElem?_eq_getElem (by omega)] at hu
        simp only [Option.map_some, Option.some.injEq] at hu
        rw [← hu]; simp [List.getElem?_eq_getElem (show j < zs.length by omega), vint]
    · have hd : x.1 = .slice (lits .i64 (zs.take l)) (lits .i64 (zs.drop l)) := congrArg Prod.fst hx
      have := hw ((zs.take l).length * 8 + (zs.drop l).length * 8) (by
        rw [hd]; simp only [DataW.weights, ht, hby, lits, List.length_map, List.mem_cons]; left; omega)
      simp only [List.length_take, List.length_drop, reachBytes] at this
      omega
set_option maxRecDepth 100000 in
theorem open_hard (hok : Value.okWide Tryz.prog W .any base 27 v) (h : DataW.Trod enc Tryz.prog W 0 (fun _ => true) true 27 v d p) (hw : ∀ n ∈ d.weights Tryz.prog 27, n ≤ reachBytes) :
    ∃ x y l A n cap s A' n' cap' zs, v = hardV x y l A n cap s A' n' cap' ∧ Recs W W.heap.size A n l.rs ∧ n ≤ cap ∧ cap * 32 ≤ 140737488351232 ∧ Ints W W.heap.size A' n' zs ∧ n' ≤ cap' ∧ cap' * 8 ≤ 140737488351232 ∧ s.size ≤ 140737488351232 := by
  obtain ⟨cs, rfl, hsz⟩ := okWide_struct Tryz.underlying27 hok
  obtain ⟨c0, c1, c2, c3, c4, c5, c6, rfl⟩ := array7 (hsz.trans (by kernel_rfl))
  obtain ⟨fuel, hf⟩ := h
  obtain ⟨ys, m, hm, hy, _, hyl, hfl⟩ := DataW.trod_struct Tryz.underlying27 hf
  simp only [Prod.mk.injEq] at hy
  match ys, hyl with
  | [y0, y1, y2, y3, y4], _ =>
    have t0 := hfl 0 _ rfl
    have t1 := hfl 1 _ rfl
    have t2 := hfl 2 _ rfl
    have t3 := hfl 3 _ rfl
    have t4 := hfl 4 _ rfl
    have k1 : Tryz.prog.cellsOf 3 = 1 := by kernel_rfl
    have k2 : Tryz.prog.cellsOf 24 = 3 := by kernel_rfl
    have k3 : Tryz.prog.cellsOf 9 = 1 := by kernel_rfl
    have k4 : Tryz.prog.cellsOf 25 = 1 := by kernel_rfl
    simp [Value.cells, k1, k2, k3, k4] at t0 t1 t2 t3 t4
    obtain ⟨x0, e0, _, _⟩ := DataW.trod_int Tryz.underlying3 t0
    obtain ⟨x1, e1, _, _⟩ := DataW.trod_int Tryz.underlying3 t1
    obtain ⟨s3, e3, hs3, _⟩ := DataW.trod_string Tryz.underlying9 t3
    simp only [List.cons.injEq, and_true] at e0 e1 e3
    subst e0; subst e1; subst e3
    have hw2 : ∀ k ∈ y2.1.weights Tryz.prog 24, k ≤ reachBytes := fun k hk => hw k (by
      rw [hy.1]
      simp only [DataW.weights, Tryz.underlying27, List.map_cons, List.map_nil, DataW.weightsEach, List.mem_append]
      right; right; left; exact hk)
    have hw3 : ∀ k ∈ y3.1.weights Tryz.prog 9, k ≤ reachBytes := fun k hk => hw k (by
      rw [hy.1]
      simp only [DataW.weights, Tryz.underlying27, List.map_cons, List.map_nil, DataW.weightsEach, List.mem_append]
      right; right; right; left; exact hk)
    have hw4 : ∀ k ∈ y4.1.weights Tryz.prog 25, k ≤ reachBytes := fun k hk => hw k (by
      rw [hy.1]
      simp only [DataW.weights, Tryz.underlying27, List.map_cons, List.map_nil, DataW.weightsEach, List.mem_append]
      right; right; right; right; left; exact hk)
    obtain ⟨zs, m2, hm2, hz, _, hzl, hgl⟩ := DataW.trod_struct Tryz.underlying24 t2
    have hz1 : y2.1 = .agg (zs.map (·.1)) := congrArg Prod.fst hz
    obtain ⟨z0, z1, z2, rfl⟩ := list3 hzl
    have hzz := trivial
    · clear hzz
      have r0 := hgl 0 _ rfl
      have r1 := hgl 1 _ rfl
      have r2 := hgl 2 _ rfl
      have k5 : Tryz.prog.cellsOf 22 = 1 := by kernel_rfl
      simp [k1, k5] at r0 r1 r2
      obtain ⟨b0, e0, _, _⟩ := DataW.trod_int Tryz.underlying3 r0
      obtain ⟨b1, e1, _, _⟩ := DataW.trod_int Tryz.underlying3 r1
      simp only [List.cons.injEq, and_true] at e0 e1
      subst e0; subst e1
      obtain ⟨A, n, cap, rs, rfl, hR, hl, hc⟩ := open_recs_trod (x := z2) r2 (fun k hk => hw2 k (by
        rw [hz1]
        simp only [DataW.weights, Tryz.underlying24, List.map_cons, List.map_nil, DataW.weightsEach, List.mem_append]
        right; right; left; exact hk))
      obtain ⟨A', n', cap', vs, rfl, hI, hl', hc'⟩ := open_ints_trod Tryz.underlying25 Tryz.underlying3 k1 (by kernel_rfl) t4 hw4
      refine ⟨x0, x1, ⟨b0, b1, rs⟩, A, n, cap, s3, A', n', cap', vs, rfl, hR, hl, hc, hI, hl', hc', ?_⟩
      have := hw3 s3.data.toList.length (by rw [hs3]; simp [DataW.weights])
      simpa [reachBytes] using this
end
end Go.Proofs.YtncdjmpdbinanaaGreatDoor
