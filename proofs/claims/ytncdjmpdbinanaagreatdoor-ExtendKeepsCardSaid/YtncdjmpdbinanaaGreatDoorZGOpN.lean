/-
  WHAT IS PROVED HERE: what an argument of type []string that reads as data gives the walks: its strings, within the form's reach. No condition.
  WHAT IS PROVED HERE: what arguments that are nodes or messages, and read as data, give the walks. No condition.
-/
import Derived.Test.YtncdjmpdbinanaaGreatDoorZGOpn
import Derived.Test.YtncdjmpdbinanaaGreatDoorZOwn
import Derived.SliceStrings
import Derived.Test.YtncdjmpdbinanaaGreatDoorZGMem
namespace Go.Proofs.YtncdjmpdbinanaaGreatDoor
open Go.ChangeShapes Go.WideShapes Go.ChangeAt Go.RowKit

/-- A slice of strings. -/
def vstr (s : ByteArray) : Value := .string s
def Strs (w : World) (B : Nat) (A : Option Addr) (n : Nat) (ss : List ByteArray) : Prop := Reads w B 9 1 A n (ss.map vstr)
section
variable {w w' : World} {B B' n : Nat} {A : Option Addr} {ss : List ByteArray}
theorem Strs.len (h : Strs w B A n ss) : ss.length = n := by simpa using h.1
theorem Strs.at_ {k : Nat} (h : Strs w B A n ss) (hk : k < n) :
    ∃ b o s, A = some ⟨b, o, none⟩ ∧ b < w.heap.size ∧ Hid (ss.drop k = s :: ss.drop (k + 1)) ∧ ss[k]? = some s ∧ w.cell? ⟨b, o + k, none⟩ = some (.string s) := by
  obtain ⟨b, o, e, hb, _, hc⟩ := h.2 (by omega)
  have hl : k < ss.length := by have := h.len; omega
  exact ⟨b, o, ss[k], e, hb, List.drop_eq_getElem_cons hl, List.getElem?_eq_getElem hl, hc k _ (by simp [hl, vstr])⟩
theorem Strs.to (h : Strs w B A n ss) (hb : Below w.heap.size w w') : Strs w' B A n ss := Reads.to h hb
theorem Strs.end_ {k : Nat} (h : Strs w B A n ss) (hk : k ≤ n) (hlt : ¬ k < n) : ss.drop k = [] := by
  have := h.len
  exact List.drop_eq_nil_of_le (by omega)
theorem Strs.take {k : Nat} (h : Strs w B A n ss) (hk : k ≤ n) : Strs w B A k (ss.take k) := by
  have := Reads.take (k := k) h hk
  rw [Nat.mul_one] at this
  unfold Strs
  rw [List.map_take]
  exact this
end
section
variable {H : Type} {enc : TypeId × Value → H} {P : Program} {W : World} {base : Nat} {t e : TypeId} {v : Value} {d : DataW H} {p : List MemPlace}
theorem weights_strs (P : Program) (e : TypeId) : ∀ (l : List ByteArray) (s : ByteArray), s ∈ l → s.data.toList.length ∈ DataW.weightsAll P e (strs (H := H) l)
  | [], s, h => by cases h
  | a :: r, s, h => by
    have ih := weights_strs P e r s
    show _ ∈ DataW.weights P e _ ++ DataW.weightsAll P e (strs r)
    rcases List.mem_cons.1 h with rfl | h
    · exact List.mem_append_left _ (by simp [DataW.weights])
    · exact List.mem_append_right _ (ih h)
theorem open_strsl (ht : P.underlying t = some (.slice e)) (he : P.underlying e = some .string) (hE : e = 9) (hc : P.cellsOf e = 1) (hby : P.bytesOf e = 16)
    (hok : Value.okWide P W .any base t v) (h : DataW.Trod enc P W 0 (fun _ => true) true t v d p) (hw : ∀ n ∈ d.weights P t, n ≤ reachBytes) :
    ∃ a len cap ss, v = .slice a len cap ∧ Strs W W.heap.size a len ss ∧ len ≤ cap ∧ cap * 16 ≤ 140737488351232 ∧ ∀ s ∈ ss, s.size ≤ 140737488351232 := by
  subst hE
  obtain ⟨a, len, cap, rfl⟩ := okWide_slice ht hok
  obtain ⟨fuel, hf⟩ := h
  rcases open_strings ht he hc hf with ⟨hcs, _⟩ | ⟨x, l, c, ss, hcs, _, hl, hm, hz, hx, hcell, hsz⟩
  · simp [Value.cells] at hcs
    obtain ⟨rfl, rfl, rfl⟩ := hcs
    exact ⟨none, 0, 0, [], rfl, Reads.none_, Nat.le_refl _, by omega, by simp⟩
  · simp [Value.cells] at hcs
    obtain ⟨rfl, rfl, rfl⟩ := hcs
    simp only [if_true] at hz
    have hlen : (ss.take len).length = len := by simp; omega
    have hd : d = .slice (strs (ss.take len)) (strs (ss.drop len)) := congrArg Prod.fst hx
    refine ⟨some x, len, cap, ss.take len, rfl, ⟨by simp; omega, fun hn => ?_⟩, hl, ?_, ?_⟩
    · have hx2 : ∃ b o, x = ⟨b, o, none⟩ ∧ ∀ i, i < ss.length → W.cell? ⟨b, o + i, none⟩ = some (.string (ss.getD i ByteArray.empty)) := by
        have h0 := hcell 0 (by omega)
        obtain ⟨b, o, r⟩ := x
        have hspot : r = none := by simpa [Addr.add] using World.cell?_spot h0
        subst hspot
        exact ⟨b, o, rfl, fun i hi => by have := hcell i hi; rwa [add_plain] at this⟩
      obtain ⟨b, o, rfl, hc2⟩ := hx2
      have hblt : b < W.heap.size := by have := cell_lt (hc2 0 (by omega)); exact this
      refine ⟨b, o, rfl, hblt, .inl hblt, ?_⟩
      intro j u hu
      have hj : j < len := by
        rcases Nat.lt_or_ge j len with h | h
        · exact h
        · rw [List.getElem?_eq_none (by simp; omega)] at hu; cases hu
      rw [hc2 j (by omega)]
      rw [List.getElem?_map, List.getElem?_take_of_lt hj, List.getElem?_eq_getElem (by omega)] at hu
      simp only [Option.map_some, Option.some.injEq] at hu
      rw [← hu]; simp [List.getElem?_eq_getElem (show j < ss.length by omega), vstr]
    · have := hw ((ss.take len).length * 16 + (ss.drop len).length * 16) (by
        rw [hd]; simp only [DataW.weights, ht, hby, strs, List.length_map, List.mem_cons]; left; omega)
      simp only [List.length_take, List.length_drop, reachBytes] at this
      omega
    · intro s hs
      have := hw s.data.toList.length (by
        rw [hd]; simp only [DataW.weights, ht, List.mem_cons, List.mem_append]
        right; left
        exact weights_strs P _ _ s hs)
      simpa [reachBytes] using this
end
end Go.Proofs.YtncdjmpdbinanaaGreatDoor
namespace Go.Proofs.YtncdjmpdbinanaaGreatDoor
open Go.ChangeShapes Go.WideShapes Go.ChangeAt Go.Deep Go.Joins Go.RowKit

theorem list7 {α : Type} {l : List α} (h : l.length = 7) : ∃ a b c d e f g, l = [a, b, c, d, e, f, g] := by
  match l, h with
  | [a, b, c, d, e, f, g], _ => exact ⟨a, b, c, d, e, f, g, rfl⟩
theorem list14 {α : Type} {l : List α} (h : l.length = 14) : ∃ a b c d e f g a' b' c' d' e' f' g', l = [a, b, c, d, e, f, g, a', b', c', d', e', f', g'] := by
  match l, h with
  | [a, b, c, d, e, f, g, a', b', c', d', e', f', g'], _ => exact ⟨a, b, c, d, e, f, g, a', b', c', d', e', f', g', rfl⟩
theorem list11 {α : Type} {l : List α} (h : l.length = 11) : ∃ a b c d e f g a' b' c' d', l = [a, b, c, d, e, f, g, a', b', c', d'] := by
  match l, h with
  | [a, b, c, d, e, f, g, a', b', c', d'], _ => exact ⟨a, b, c, d, e, f, g, a', b', c', d', rfl⟩
theorem list5' {α : Type} {l : List α} (h : l.length = 5) : ∃ a0 a1 a2 a3 a4, l = [a0, a1, a2, a3, a4] := by
  match l, h with
  | [a0, a1, a2, a3, a4], _ => exact ⟨a0, a1, a2, a3, a4, rfl⟩
theorem list8' {α : Type} {l : List α} (h : l.length = 8) : ∃ a0 a1 a2 a3 a4 a5 a6 a7, l = [a0, a1, a2, a3, a4, a5, a6, a7] := by
  match l, h with
  | [a0, a1, a2, a3, a4, a5, a6, a7], _ => exact ⟨a0, a1, a2, a3, a4, a5, a6, a7, rfl⟩
theorem list11' {α : Type} {l : List α} (h : l.length = 11) : ∃ a0 a1 a2 a3 a4 a5 a6 a7 a8 a9 a10, l = [a0, a1, a2, a3, a4, a5, a6, a7, a8, a9, a10] := by
  match l, h with
  | [a0, a1, a2, a3, a4, a5, a6, a7, a8, a9, a10], _ => exact ⟨a0, a1, a2, a3, a4, a5, a6, a7, a8, a9, a10, rfl⟩
section
variable {H : Type} {enc : TypeId × Value → H} {W : World} {base : Nat} {v : Value} {d : DataW H} {p : List MemPlace}
set_option maxRecDepth 100000 in
theorem open_prs_trod {fuel : Nat} {x : DataW H × List MemPlace} (h : DataW.trod enc Tryz.prog W 0 (fun _ => true) true fuel 28 [v] = some x) (hw : ∀ n ∈ x.1.weights Tryz.prog 28, n ≤ reachBytes) :
    ∃ A n cap rs, v = .slice A n cap ∧ Prs W W.heap.size A n rs ∧ n ≤ cap ∧ cap * 24 ≤ 140737488351232 := by
  rcases open_slice_fields Tryz.underlying28 Tryz.underlying53 (by kernel_rfl) (by kernel_rfl) h with ⟨hcs, _⟩ | ⟨a, len, cap, m, D, Pl, hcs, _, hl, hm, hmm, hx, hf⟩
  · simp only [List.cons.injEq, and_true] at hcs
    subst hcs
    exact ⟨none, 0, 0, [], rfl, Reads.none_, Nat.le_refl _, by omega⟩
  · simp only [List.cons.injEq, and_true] at hcs
    subst hcs
    simp only [if_true] at hmm
    subst hmm
    have hch : ∀ i : Nat, ∃ r : Pr, i < m → W.cell? (a.add (i * 3)) = some (.int .i64 r.id) ∧ W.cell? (a.add (i * 3 + 1)) = some (.int .i64 r.nx) ∧ W.cell? (a.add (i * 3 + 2)) = some (.int .i64 r.mt) := by
      intro i
      by_cases hi : i < m
      · obtain ⟨ys, n, _, _, _, hj⟩ := hf i hi
        obtain ⟨v0, y0, c0, _, t0⟩ := hj 0 _ rfl
        obtain ⟨v1, y1, c1, _, t1⟩ := hj 1 _ rfl
        obtain ⟨v2, y2, c2, _, t2⟩ := hj 2 _ rfl
        obtain ⟨x0, e0, _, _⟩ := DataW.trod_int Tryz.underlying3 t0
        obtain ⟨x1, e1, _, _⟩ := DataW.trod_int Tryz.underlying3 t1
        obtain ⟨x2, e2, _, _⟩ := DataW.trod_int Tryz.underlying3 t2
        simp only [List.cons.injEq, and_true] at e0 e1 e2
        subst e0; subst e1; subst e2
        exact ⟨⟨x0, x1, x2⟩, fun _ => ⟨c0, c1, c2⟩⟩
      · exact ⟨⟨0, 0, 0⟩, fun h => absurd h hi⟩
    obtain ⟨R, hR⟩ := Classical.axiomOfChoice hch
    refine ⟨some a, len, m, (List.range len).map R, rfl, ⟨by rw [prsL_len]; simp, fun hn => ?_⟩, hl, ?_⟩
    · obtain ⟨b, o, spot⟩ := a
      have h0 := (hR 0 (by omega)).1
      have hspot : spot = none := by simpa [Addr.add] using World.cell?_spot h0
      subst hspot
      have hblt : b < W.heap.size := by have := cell_lt h0; simpa [Addr.add] using this
      refine ⟨b, o, rfl, hblt, .inl hblt, ?_⟩
      · intro j u hu
        have hj : j < len * 3 := by
          rcases Nat.lt_or_ge j (len * 3) with h | h
          · exact h
          · rw [List.getElem?_eq_none (by rw [prsL_len]; simpa using h)] at hu; cases hu
        obtain ⟨i, k, hk, rfl⟩ : ∃ i k, k < 3 ∧ j = i * 3 + k := ⟨j / 3, j % 3, by omega, by omega⟩
        have hi : i < len := by omega
        have hr : ((List.range len).map R)[i]? = some (R i) := by simp [hi]
        obtain ⟨g0, g1, g2⟩ := prsL_at _ i _ hr
        obtain ⟨k0, k1, k2⟩ := hR i (by omega)
        rw [add_plain] at k0 k1 k2
        match k, hk with
        | 0, _ => rw [Nat.add_zero] at hu ⊢; rw [g0] at hu; cases hu; exact k0
        | 1, _ => rw [g1] at hu; cases hu; exact k1
        | 2, _ => rw [g2] at hu; cases hu; exact k2
    · have hd : x.1 = .slice ((List.range len).map D) ((List.range (m - len)).map fun j => D (len + j)) := congrArg Prod.fst hx
      have hb : Tryz.prog.bytesOf 53 = 24 := by kernel_rfl
      have := hw (len * 24 + (m - len) * 24) (by
        rw [hd]; simp only [DataW.weights, Tryz.underlying28, hb, List.length_map, List.length_range, List.mem_cons]; left; omega)
      simp only [reachBytes] at this
      omega
set_option maxRecDepth 100000 in
theorem open_hard_trod {fuel : Nat} {x : DataW H × List MemPlace} {c0 c1 c2 c3 c4 c5 c6 : Value} (h : DataW.trod enc Tryz.prog W 0 (fun _ => true) true fuel 27 [c0, c1, c2, c3, c4, c5, c6] = some x) (hw : ∀ n ∈ x.1.weights Tryz.prog 27, n ≤ reachBytes) :
    ∃ (x y : Int) (l : Lg) (A : Option Addr) (n cap : Nat) (s : ByteArray) (A' : Option Addr) (n' cap' : Nat) (zs : List Int), c0 = .int .i64 x ∧ c1 = .int .i64 y ∧ c2 = .int .i64 l.base ∧ c3 = .int .i64 l.bt ∧ c4 = .slice A n cap ∧ c5 = .string s ∧ c6 = .slice A' n' cap' ∧ Recs W W.heap.size A n l.rs ∧ n ≤ cap ∧ cap * 32 ≤ 140737488351232 ∧ Ints W W.heap.size A' n' zs ∧ n' ≤ cap' ∧ cap' * 8 ≤ 140737488351232 ∧ s.size ≤ 140737488351232 := by
  obtain ⟨ys, m, hm, hy, _, hyl, hfl⟩ := DataW.trod_struct Tryz.underlying27 h
  have hy1 : x.1 = .agg (ys.map (·.1)) := congrArg Prod.fst hy
  obtain ⟨y0, y1, y2, y3, y4, rfl⟩ := list5' hyl
  · skip
    have t0 := hfl 0 _ rfl
    have t1 := hfl 1 _ rfl
    have t2 := hfl 2 _ rfl
    have t3 := hfl 3 _ rfl
    have t4 := hfl 4 _ rfl
    have k1 : Tryz.prog.cellsOf 3 = 1 := by kernel_rfl
    have k2 : Tryz.prog.cellsOf 24 = 3 := by kernel_rfl
    have k3 : Tryz.prog.cellsOf 9 = 1 := by kernel_rfl
    have k4 : Tryz.prog.cellsOf 25 = 1 := by kernel_rfl
    simp [k1, k2, k3, k4] at t0 t1 t2 t3 t4
    obtain ⟨x0, e0, _, _⟩ := DataW.trod_int Tryz.underlying3 t0
    obtain ⟨x1, e1, _, _⟩ := DataW.trod_int Tryz.underlying3 t1
    obtain ⟨s3, e3, hs3, _⟩ := DataW.trod_string Tryz.underlying9 t3
    simp only [List.cons.injEq, and_true] at e0 e1 e3
    subst e0; subst e1; subst e3
    have hw2 : ∀ k ∈ y2.1.weights Tryz.prog 24, k ≤ reachBytes := fun k hk => hw k (by
      rw [hy1]
      simp only [DataW.weights, Tryz.underlying27, List.map_cons, List.map_nil, DataW.weightsEach, List.mem_append]
      right; right; left; exact hk)
    have hw3 : ∀ k ∈ y3.1.weights Tryz.prog 9, k ≤ reachBytes := fun k hk => hw k (by
      rw [hy1]
      simp only [DataW.weights, Tryz.underlying27, List.map_cons, List.map_nil, DataW.weightsEach, List.mem_append]
      right; right; right; left; exact hk)
    have hw4 : ∀ k ∈ y4.1.weights Tryz.prog 25, k ≤ reachBytes := fun k hk => hw k (by
      rw [hy1]
      simp only [DataW.weights, Tryz.underlying27, List.map_cons, List.map_nil, DataW.weightsEach, List.mem_append]
      right; right; right; right; left; exact hk)
    obtain ⟨zs, m2, hm2, hz, _, hzl, hgl⟩ := DataW.trod_struct Tryz.underlying24 t2
    have hz1 : y2.1 = .agg (zs.map (·.1)) := congrArg Prod.fst hz
    obtain ⟨z0, z1, z2, rfl⟩ := list3 hzl
    have hzz := trivial
    · clear hzz
      have r0 := hgl 0 _ rfl
      have r1 := hgl 1 _ rfl
      have r2 := hgl 2 _ rfl
      have k5 : Tryz.prog.cellsOf 22 = 1 := by kernel_rfl
      simp [k1, k5] at r0 r1 r2
      obtain ⟨b0, e0, _, _⟩ := DataW.trod_int Tryz.underlying3 r0
      obtain ⟨b1, e1, _, _⟩ := DataW.trod_int Tryz.underlying3 r1
      simp only [List.cons.injEq, and_true] at e0 e1
      subst e0; subst e1
      obtain ⟨A, n, cap, rs, rfl, hR, hl, hc⟩ := open_recs_trod (x := z2) r2 (fun k hk => hw2 k (by
        rw [hz1]
        simp only [DataW.weights, Tryz.underlying24, List.map_cons, List.map_nil, DataW.weightsEach, List.mem_append]
        right; right; left; exact hk))
      obtain ⟨A', n', cap', vs, rfl, hI, hl', hc'⟩ := open_ints_trod Tryz.underlying25 Tryz.underlying3 k1 (by kernel_rfl) t4 hw4
      refine ⟨x0, x1, ⟨b0, b1, rs⟩, A, n, cap, s3, A', n', cap', vs, rfl, rfl, rfl, rfl, rfl, rfl, rfl, hR, hl, hc, hI, hl', hc', ?_⟩
      have := hw3 s3.data.toList.length (by rw [hs3]; simp [DataW.weights])
      simpa [reachBytes] using this
set_option maxRecDepth 100000 in
theorem open_node (hok : Value.okWide Tryz.prog W .any base 30 v) (h : DataW.Trod enc Tryz.prog W 0 (fun _ => true) true 30 v d p) (hw : ∀ n ∈ d.weights Tryz.prog 30, n ≤ reachBytes) :
    ∃ N a, v = nodeV N a ∧ NdOk W W.heap.size N a := by
  obtain ⟨cs, rfl, hsz⟩ := okWide_struct Tryz.underlying30 hok
  obtain ⟨c0, c1, c2, c3, c4, c5, c6, c7, c8, c9, c10, c11, c12, c13, rfl⟩ : ∃ c0 c1 c2 c3 c4 c5 c6 c7 c8 c9 c10 c11 c12 c13, cs = #[c0, c1, c2, c3, c4, c5, c6, c7, c8, c9, c10, c11, c12, c13] := by
    obtain ⟨l⟩ := cs
    obtain ⟨a, b, c, d, e, f, g, a', b', c', d', e', f', g', rfl⟩ := list14 (l := l) (hsz.trans (by kernel_rfl))
    exact ⟨_, _, _, _, _, _, _, _, _, _, _, _, _, _, rfl⟩
  obtain ⟨fuel, hf⟩ := h
  obtain ⟨ys, m, hm, hy, _, hyl, hfl⟩ := DataW.trod_struct Tryz.underlying30 hf
  have hy1 : d = .agg (ys.map (·.1)) := congrArg Prod.fst hy
  obtain ⟨y0, y1, y2, y3, y4, y5, y6, y7, rfl⟩ := list8' hyl
  · skip
    have t0 := hfl 0 _ rfl
    have t1 := hfl 1 _ rfl
    have t2 := hfl 2 _ rfl
    have t3 := hfl 3 _ rfl
    have t4 := hfl 4 _ rfl
    have t5 := hfl 5 _ rfl
    have t6 := hfl 6 _ rfl
    have t7 := hfl 7 _ rfl
    have k1 : Tryz.prog.cellsOf 3 = 1 := by kernel_rfl
    have k2 : Tryz.prog.cellsOf 27 = 7 := by kernel_rfl
    have k3 : Tryz.prog.cellsOf 28 = 1 := by kernel_rfl
    have k4 : Tryz.prog.cellsOf 25 = 1 := by kernel_rfl
    simp [Value.cells, k1, k2, k3, k4] at t0 t1 t2 t3 t4 t5 t6 t7
    obtain ⟨x0, e0, _, _⟩ := DataW.trod_int Tryz.underlying3 t0
    obtain ⟨x2, e2, _, _⟩ := DataW.trod_int Tryz.underlying3 t2
    obtain ⟨x3, e3, _, _⟩ := DataW.trod_int Tryz.underlying3 t3
    obtain ⟨x4, e4, _, _⟩ := DataW.trod_int Tryz.underlying3 t4
    obtain ⟨x5, e5, _, _⟩ := DataW.trod_int Tryz.underlying3 t5
    simp only [List.cons.injEq, and_true] at e0 e2 e3 e4 e5
    subst e0; subst e2; subst e3; subst e4; subst e5
    have hw1 : ∀ k ∈ y1.1.weights Tryz.prog 27, k ≤ reachBytes := fun k hk => hw k (by
      rw [hy1]
      simp only [DataW.weights, Tryz.underlying30, List.map_cons, List.map_nil, DataW.weightsEach, List.mem_append]
      right; left; exact hk)
    have hw6 : ∀ k ∈ y6.1.weights Tryz.prog 25, k ≤ reachBytes := fun k hk => hw k (by
      rw [hy1]
      simp only [DataW.weights, Tryz.underlying30, List.map_cons, List.map_nil, DataW.weightsEach, List.mem_append]
      right; right; right; right; right; right; left; exact hk)
    have hw7 : ∀ k ∈ y7.1.weights Tryz.prog 28, k ≤ reachBytes := fun k hk => hw k (by
      rw [hy1]
      simp only [DataW.weights, Tryz.underlying30, List.map_cons, List.map_nil, DataW.weightsEach, List.mem_append]
      right; right; right; right; right; right; right; left; exact hk)
    obtain ⟨x, y, l, A, n, cap, s, A', n', cap', zs, rfl, rfl, rfl, rfl, rfl, rfl, rfl, hR, h1, h2, hI, h3, h4, h5⟩ := open_hard_trod t1 hw1
    obtain ⟨A2, n2, cap2, gs, rfl, hG, h6, h7⟩ := open_ints_trod Tryz.underlying25 Tryz.underlying3 k1 (by kernel_rfl) t6 hw6
    obtain ⟨A3, n3, cap3, ps, rfl, hP, h8, h9⟩ := open_prs_trod t7 hw7
    exact ⟨⟨x0, ⟨x, y, l, s, zs⟩, x2, x3, x4, x5, gs, ps⟩, ⟨⟨A, n, cap⟩, ⟨A', n', cap'⟩, ⟨A2, n2, cap2⟩, ⟨A3, n3, cap3⟩⟩, rfl, ⟨hR, h1, by dsimp only; omega, hI, h3, by dsimp only; omega, h5, hG, h6, by dsimp only; omega, hP, h8, by dsimp only; omega⟩⟩
set_option maxRecDepth 100000 in
theorem open_msg (hok : Value.okWide Tryz.prog W .any base 32 v) (h : DataW.Trod enc Tryz.prog W 0 (fun _ => true) true 32 v d p) (hw : ∀ n ∈ d.weights Tryz.prog 32, n ≤ reachBytes) :
    ∃ M a, v = msgV M a ∧ MsOk W W.heap.size M a := by
  obtain ⟨cs, rfl, hsz⟩ := okWide_struct Tryz.underlying32 hok
  obtain ⟨c0, c1, c2, c3, c4, c5, c6, c7, c8, c9, c10, rfl⟩ : ∃ c0 c1 c2 c3 c4 c5 c6 c7 c8 c9 c10, cs = #[c0, c1, c2, c3, c4, c5, c6, c7, c8, c9, c10] := by
    obtain ⟨l⟩ := cs
    obtain ⟨a, b, c, d, e, f, g, a', b', c', d', rfl⟩ := list11 (l := l) (hsz.trans (by kernel_rfl))
    exact ⟨_, _, _, _, _, _, _, _, _, _, _, rfl⟩
  obtain ⟨fuel, hf⟩ := h
  obtain ⟨ys, m, hm, hy, _, hyl, hfl⟩ := DataW.trod_struct Tryz.underlying32 hf
  have hy1 : d = .agg (ys.map (·.1)) := congrArg Prod.fst hy
  obtain ⟨y0, y1, y2, y3, y4, y5, y6, y7, y8, y9, y10, rfl⟩ := list11' hyl
  · skip
    have t0 := hfl 0 _ rfl
    have t1 := hfl 1 _ rfl
    have t2 := hfl 2 _ rfl
    have t3 := hfl 3 _ rfl
    have t4 := hfl 4 _ rfl
    have t5 := hfl 5 _ rfl
    have t6 := hfl 6 _ rfl
    have t7 := hfl 7 _ rfl
    have t8 := hfl 8 _ rfl
    have t9 := hfl 9 _ rfl
    have t10 := hfl 10 _ rfl
    have k1 : Tryz.prog.cellsOf 3 = 1 := by kernel_rfl
    have k2 : Tryz.prog.cellsOf 22 = 1 := by kernel_rfl
    have k3 : Tryz.prog.cellsOf 9 = 1 := by kernel_rfl
    have k4 : Tryz.prog.cellsOf 25 = 1 := by kernel_rfl
    have k5 : Tryz.prog.cellsOf 4 = 1 := by kernel_rfl
    simp [Value.cells, k1, k2, k3, k4, k5] at t0 t1 t2 t3 t4 t5 t6 t7 t8 t9 t10
    obtain ⟨x0, e0, _, _⟩ := DataW.trod_int Tryz.underlying3 t0
    obtain ⟨x1, e1, _, _⟩ := DataW.trod_int Tryz.underlying3 t1
    obtain ⟨x2, e2, _, _⟩ := DataW.trod_int Tryz.underlying3 t2
    obtain ⟨x3, e3, _, _⟩ := DataW.trod_int Tryz.underlying3 t3
    obtain ⟨x5, e5, _, _⟩ := DataW.trod_int Tryz.underlying3 t5
    obtain ⟨x6, e6, _, _⟩ := DataW.trod_int Tryz.underlying3 t6
    obtain ⟨x8, e8, _, _⟩ := DataW.trod_int Tryz.underlying3 t8
    obtain ⟨x4, e4, _⟩ := DataW.trod_bool Tryz.underlying4 t4
    obtain ⟨s9, e9, hs9, _⟩ := DataW.trod_string Tryz.underlying9 t9
    simp only [List.cons.injEq, and_true] at e0 e1 e2 e3 e4 e5 e6 e8 e9
    subst e0; subst e1; subst e2; subst e3; subst e4; subst e5; subst e6; subst e8; subst e9
    have hw7 : ∀ k ∈ y7.1.weights Tryz.prog 22, k ≤ reachBytes := fun k hk => hw k (by
      rw [hy1]
      simp only [DataW.weights, Tryz.underlying32, List.map_cons, List.map_nil, DataW.weightsEach, List.mem_append]
      right; right; right; right; right; right; right; left; exact hk)
    have hw9 : ∀ k ∈ y9.1.weights Tryz.prog 9, k ≤ reachBytes := fun k hk => hw k (by
      rw [hy1]
      simp only [DataW.weights, Tryz.underlying32, List.map_cons, List.map_nil, DataW.weightsEach, List.mem_append]
      right; right; right; right; right; right; right; right; right; left; exact hk)
    have hw10 : ∀ k ∈ y10.1.weights Tryz.prog 25, k ≤ reachBytes := fun k hk => hw k (by
      rw [hy1]
      simp only [DataW.weights, Tryz.underlying32, List.map_cons, List.map_nil, DataW.weightsEach, List.mem_append]
      right; right; right; right; right; right; right; right; right; right; left; exact hk)
    obtain ⟨A, n, cap, rs, rfl, hR, h1, h2⟩ := open_recs_trod (x := y7) t7 hw7
    obtain ⟨A', n', cap', vs, rfl, hI, h3, h4⟩ := open_ints_trod Tryz.underlying25 Tryz.underlying3 k1 (by kernel_rfl) t10 hw10
    refine ⟨⟨x0, x1, x2, x3, x4, x5, x6, rs, x8, s9, vs⟩, ⟨⟨A, n, cap⟩, ⟨A', n', cap'⟩⟩, rfl, ⟨hR, h1, by dsimp only; omega, hI, h3, by dsimp only; omega, ?_⟩⟩
    have := hw9 s9.data.toList.length (by rw [hs9]; simp [DataW.weights])
    simpa [reachBytes] using this
end
end Go.Proofs.YtncdjmpdbinanaaGreatDoor
