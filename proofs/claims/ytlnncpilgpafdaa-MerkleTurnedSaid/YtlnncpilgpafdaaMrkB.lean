/-
  WHAT IS PROVED HERE: a text of 32 bytes of which one bit was turned is another text of 32 bytes. Condition: the place of the bit is below 256.
-/
import Derived.Test.YtlnncpilgpafdaaLaw05d
import Derived.Test.YtlnncpilgpafdaaMrkA
namespace Go.Proofs.Ytlnncpilgpafdaa
open Go.RowKit

theorem frz_row {w : World} {g : Nat} {R : Array Value} {t : TypeId} (h : w.heap[g]? = some (.cells R t (R.size, R.size + 1))) {j : Nat} (hj : j < R.size) : w.frozen? ⟨g, j, none⟩ = false := by
  simp [World.frozen?, h]
  omega
theorem set_reads {w : World} {g n c : Nat} {t : TypeId} {R : Array Value} {xs : List Value} (hrow : w.heap[g]? = some (.cells R t (R.size, R.size + 1))) (h : OwnM w g t (.slice (some ⟨g, 0, none⟩) n c) n xs) (j : Nat) (u : Value) : Reads (w.setCell ⟨g, j, none⟩ u).drew g t 1 (some ⟨g, 0, none⟩) n (xs.set j u) := by
  have h1 := h.reads (B' := g)
  have hset : (w.setCell ⟨g, j, none⟩ u).drew.heap[g]? = some (.cells (R.setIfInBounds j u) t (R.size, R.size + 1)) := by
    show (w.setCell ⟨g, j, none⟩ u).heap[g]? = _
    simp [World.setCell, Array.getElem?_modify, hrow]
  have hlt : g < w.heap.size := by
    rcases Nat.lt_or_ge g w.heap.size with h | h
    · exact h
    · rw [Array.getElem?_eq_none h] at hrow; cases hrow
  refine ⟨by rw [List.length_set]; exact h1.1, fun hn => ⟨g, 0, rfl, ?_, .inr ⟨_, _, hset⟩, ?_⟩⟩
  · show g < (w.setCell ⟨g, j, none⟩ u).heap.size
    simpa [World.setCell] using hlt
  · intro i v hv
    obtain ⟨b2, o2, ea, _, _, hc⟩ := h1.2 hn
    injection ea with ea
    injection ea with e1 e2
    subst e1
    subst e2
    have hil : i < xs.length := by
      rcases Nat.lt_or_ge i xs.length with h | h
      · exact h
      · rw [List.getElem?_eq_none (by rw [List.length_set]; exact h)] at hv; cases hv
    have h0 := hc i _ (List.getElem?_eq_getElem hil)
    rw [Nat.zero_add, cell_of_row w g i R t _ hrow] at h0
    have hiR : i < R.size := by
      rcases Nat.lt_or_ge i R.size with h | h
      · exact h
      · rw [Array.getElem?_eq_none h] at h0; cases h0
    rw [Nat.zero_add, cell_of_row _ g i _ t _ hset]
    by_cases hij : j = i
    · subst hij
      rw [List.getElem?_set_self hil] at hv
      rw [Array.getElem?_setIfInBounds_self_of_lt hiR]
      exact hv
    · rw [List.getElem?_set_ne hij] at hv
      rw [Array.getElem?_setIfInBounds_ne hij]
      rw [← hv, List.getElem?_eq_getElem hil]
      exact h0
theorem xor_ne (x k : Nat) (hx : x < 256) (hk : k < 8) : ∃ y : UInt8, bits BinOp.xor IntKind.u8 (x : Int) (2 ^ k % 256) = (y.toNat : Int) ∧ y.toNat ≠ x := by
  have h : ∀ x : Fin 256, ∀ k : Fin 8, bits BinOp.xor IntKind.u8 (x.val : Int) (2 ^ k.val % 256) = ((UInt8.ofNat (x.val ^^^ 2 ^ k.val)).toNat : Int) ∧ (UInt8.ofNat (x.val ^^^ 2 ^ k.val)).toNat ≠ x.val := by decide +kernel
  exact ⟨_, h ⟨x, hx⟩ ⟨k, hk⟩⟩
set_option maxHeartbeats 1600000 in
theorem turn1_any (s : ByteArray) (g b : Nat) (w : World) (hs : s.size ≤ 140737488351232) (hb : b < 256) (hB : Blk w g 3 #[.int .i64 b]) :
    Calls Try.prog 22 #[.string s, .pointer (some ⟨g, 0, none⟩)] w fun e w' => ∃ t : ByteArray, e = .returned (.string t) ∧ t.size = s.size ∧ (s.size = 32 → t ≠ s) ∧ Below w.heap.size w w' := by
  have hconv := run_bytes_of_string (P := Try.prog) w 9 44 5 s Try.underlying9 Try.underlying44 Try.underlying5
  have hown0 := own_of_bytes w 5 s (B := w.heap.size) (Nat.le_refl _) (by unfold maxLen; omega)
  obtain ⟨c0, hc0⟩ : ∃ c, grownCap w s.size 0 5 = c := ⟨_, rfl⟩
  rw [hc0] at hconv hown0
  have hR0 : ∀ (j : Nat) (x : UInt8), s.data.toList[j]? = some x → (bytesRow s c0)[j]? = some (Value.int .u8 (x.toNat : Int)) := by
    intro j x hx
    unfold bytesRow
    have hlt : j < s.data.size := by
      rcases Nat.lt_or_ge j s.data.toList.length with h | h
      · simpa using h
      · rw [List.getElem?_eq_none h] at hx; cases hx
    rw [Array.getElem?_append_left (by rw [Array.size_map]; exact hlt), Array.getElem?_map]
    have : s.data[j]? = some x := by rw [← Array.getElem?_toList]; exact hx
    rw [this]; rfl
  obtain ⟨R, hR⟩ : ∃ R, bytesRow s c0 = R := ⟨_, rfl⟩
  rw [hR] at hown0 hconv hR0
  have hg0 := hB.lt
  have hBb : Blk (w.drew.alloc (.cells R 5 (R.size, R.size + 1))) g 3 #[.int .i64 b] := hB.alloc _
  have cb : (w.drew.alloc (.cells R 5 (R.size, R.size + 1))).cell? ⟨g, 0, none⟩ = some (.int .i64 b) := hBb.cell 0
  have hg1 : g < (w.drew.alloc (.cells R 5 (R.size, R.size + 1))).heap.size := hBb.lt
  have q0 : Below w.heap.size w (w.drew.alloc (.cells R 5 (R.size, R.size + 1))) := by go_grown
  obtain ⟨w1, hw1⟩ : ∃ w1, w.drew.alloc (.cells R 5 (R.size, R.size + 1)) = w1 := ⟨_, rfl⟩
  have hrow : w1.heap[w.heap.size]? = some (.cells R 5 (R.size, R.size + 1)) := by rw [← hw1]; exact heap_alloc_new w.drew _
  rw [hw1] at hown0 hconv cb hg1 q0
  replace hw1 := hid_mk hw1
  have hmf : True := trivial
  clear hBb hB
  by_cases h32 : s.size = 32
  · have hlen : s.data.toList.length = 32 := by rw [← h32]; rfl
    have hj : b / 8 < 32 := by omega
    obtain ⟨x, hx⟩ : ∃ x, s.data.toList[b / 8]? = some x := ⟨_, List.getElem?_eq_getElem (by omega)⟩
    have hcx := hR0 _ _ hx
    have hRl : b / 8 < R.size := by
      rcases Nat.lt_or_ge (b / 8) R.size with h | h
      · exact h
      · rw [Array.getElem?_eq_none h] at hcx; cases hcx
    obtain ⟨y, hy, hyx⟩ := xor_ne x.toNat (b % 8) (UInt8.toNat_lt x) (by omega)
    obtain ⟨j, hje⟩ : ∃ j, b / 8 = j := ⟨_, rfl⟩
    obtain ⟨k, hke⟩ : ∃ k, b % 8 = k := ⟨_, rfl⟩
    rw [hje] at hx hcx hRl hj
    rw [hke] at hy
    have d1 : (b : Int) / 8 = (j : Int) := by omega
    have d2 : (b : Int) % 8 = (k : Int) := by omega
    have d1' : (b : Int).tdiv 8 = (j : Int) := by rw [Int.tdiv_eq_ediv_of_nonneg (by omega)]; exact d1
    have d2' : (b : Int).tmod 8 = (k : Int) := by rw [Int.tmod_eq_emod_of_nonneg (by omega)]; exact d2
    have d3 : IntKind.i64.wrap (j : Int) = (j : Int) := IntWalk.i64_in _ (by omega)
    have k0 : (0 : Int) ≤ (k : Int) := by omega
    have k1 : (k : Int) ≤ 8 := by omega
    have k2 : IntKind.u8.wrap (1 * 2 ^ (k : Int).toNat) = 2 ^ k := by
      have hk8 : k < 8 := by omega
      rw [Int.toNat_natCast]
      have h : ∀ k : Fin 8, IntKind.u8.wrap (1 * 2 ^ k.val) = 2 ^ k.val := by decide +kernel
      exact h ⟨k, hk8⟩
    have j0 : (0 : Int) ≤ (j : Int) := by omega
    have j1 : (j : Int) < 32 := by omega
    have c1 : w1.cell? ⟨w.heap.size, j, none⟩ = some (.int .u8 x.toNat) := by rw [cell_of_row w1 w.heap.size j R _ _ hrow]; exact hcx
    have f1 : w1.frozen? ⟨w.heap.size, j, none⟩ = false := frz_row hrow hRl
    have hg2 : w.heap.size < w1.heap.size := by
      rcases Nat.lt_or_ge w.heap.size w1.heap.size with h | h
      · exact h
      · rw [Array.getElem?_eq_none h] at hrow; cases hrow
    have hrd := set_reads hrow hown0 j (.int .u8 y.toNat)
    have hbs : (Lib.byteCells s.data.toList).set j (.int .u8 y.toNat) = Lib.byteCells (s.data.toList.set j y) := by
      unfold Lib.byteCells
      rw [List.map_set]
    rw [hbs] at hrd
    have hcv := conv_row (c := c0) hrd
    have hsz : (⟨(s.data.toList.set j y).toArray⟩ : ByteArray).size = s.size := by
      show (s.data.toList.set j y).toArray.size = s.data.size
      simp
    have hne : (⟨(s.data.toList.set j y).toArray⟩ : ByteArray) ≠ s := by
      intro e
      have e2 : (s.data.toList.set j y)[j]? = s.data.toList[j]? := by
        have := congrArg (fun z : ByteArray => z.data.toList[j]?) e
        simpa using this
      rw [List.getElem?_set_self (by omega), hx] at e2
      injection e2 with e2
      exact hyx (by rw [e2])
    obtain ⟨T, hT⟩ : ∃ T : ByteArray, (⟨(s.data.toList.set j y).toArray⟩ : ByteArray) = T := ⟨_, rfl⟩
    rw [hT] at hcv hsz hne
    have q2 : Below w.heap.size w (w1.setCell ⟨w.heap.size, j, none⟩ (.int .u8 y.toNat)).drew := by go_grown
    have h32' : (s.size : Int) = 32 := by omega
    have e32 : ((s.size : Int) == 32) = true := by rw [h32']; rfl
    replace hT := hid_mk hT
    replace hrd := hid_mk hrd
    replace hbs := hid_mk hbs
    replace hx := hid_mk hx
    replace hje := hid_mk hje
    replace hke := hid_mk hke
    replace hcx := hid_mk hcx
    replace hlen := hid_mk hlen
    replace hR0 := hid_mk hR0
    replace hrow := hid_mk hrow
    replace hR := hid_mk hR
    replace hown0 := hid_mk hown0
    replace hyx := hid_mk hyx
    refine calls_of_wpQ Try.func22 rfl ?_
    intro Q hQ
    simp only [Try.ntmps22, List.size_toArray, List.length_cons, List.length_nil, Nat.reduceAdd, Nat.reduceSub, Array.replicate_succ, Array.replicate_zero, List.push_toArray, List.append_toArray, List.nil_append, List.cons_append]
    go_wp2_with fail
    go_still_tail 10, (by kernel_rfl)
    change wpList _ _ _ _ _ w1.drew
    rw [h32] at hcv
    go_wp2
    refine ends_ret hQ (results_tmp rfl _ _ _) rfl ?_
    exact ⟨T, rfl, hsz, fun _ => hne, q2⟩
  · have e32 : ((s.size : Int) == 32) = false := by simp; omega
    have hown1 : OwnM w1 w.heap.size 5 (.slice (some ⟨w.heap.size, 0, none⟩) s.size c0) s.size (Lib.byteCells s.data.toList) := hown0
    have hcv := conv_row (c := c0) (hown1.reads (B' := w.heap.size))
    have hss : (⟨s.data.toList.toArray⟩ : ByteArray) = s := by cases s; simp
    rw [hss] at hcv
    replace hR0 := hid_mk hR0
    replace hrow := hid_mk hrow
    replace hR := hid_mk hR
    replace hown0 := hid_mk hown0
    replace hown1 := hid_mk hown1
    replace hss := hid_mk hss
    refine calls_of_wpQ Try.func22 rfl ?_
    intro Q hQ
    simp only [Try.ntmps22, List.size_toArray, List.length_cons, List.length_nil, Nat.reduceAdd, Nat.reduceSub, Array.replicate_succ, Array.replicate_zero, List.push_toArray, List.append_toArray, List.nil_append, List.cons_append]
    go_wp2
    refine ends_ret hQ (results_tmp rfl _ _ _) rfl ?_
    exact ⟨s, rfl, rfl, fun e => absurd e h32, q0⟩
end Go.Proofs.Ytlnncpilgpafdaa
