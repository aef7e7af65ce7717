/-
  WHAT IS PROVED HERE: what the reference's product of two numbers' digits hands back. Condition: at most 1000 digits.
-/
import Derived.Test.YtpfjfihfnplhfaaRoot1
namespace Go.Proofs.Ytpfjfihfnplhfaa
open Go.RowKit

def rowN (i a : Nat) : List Nat → Nat → List Nat → Nat → List Nat × Nat
  | [], _, out, c => (out, c)
  | b :: bs, j, out, c => rowN i a bs (j + 1) (out.set (i + j) ((out.getD (i + j) 0 + a * b + c) % 65536)) ((out.getD (i + j) 0 + a * b + c) / 65536)
def prodN (bs : List Nat) : List Nat → Nat → List Nat → List Nat
  | [], _, out => out
  | a :: rest, i, out => prodN bs rest (i + 1) ((rowN i a bs 0 out 0).1.set (i + bs.length) ((rowN i a bs 0 out 0).1.getD (i + bs.length) 0 + (rowN i a bs 0 out 0).2))
def mulN (a b : List Nat) : List Nat := prodN b a 0 (List.replicate (a.length + b.length) 0)
def cellsN (l : List Nat) : Array Value := (l.map vnat).toArray
theorem cellsN_at {l : List Nat} {i x : Nat} (h : l[i]? = some x) : (cellsN l)[i]? = some (.int .i64 x) := by
  unfold cellsN
  rw [List.getElem?_toArray, List.getElem?_map, h]; rfl
theorem cellsN_set (l : List Nat) (i x : Nat) : (cellsN l).setIfInBounds i (.int .i64 x) = cellsN (l.set i x) := by
  unfold cellsN
  rw [List.setIfInBounds_toArray, List.map_set]; rfl
theorem reads_blk {w : World} {g B : Nat} {t : TypeId} {l : List Nat} (h : Blk w g t (cellsN l)) : Reads w B t 1 (some ⟨g, 0, none⟩) l.length (l.map vnat) := by
  refine ⟨by simp, fun _ => ⟨g, 0, rfl, h.lt, .inr ⟨_, _, h⟩, fun j u hu => ?_⟩⟩
  rw [Nat.zero_add, h.cell j]
  unfold cellsN
  rw [List.getElem?_toArray]; exact hu
theorem getD_lt {l : List Nat} (h : Dig l) (i : Nat) : l.getD i 0 < 65536 := by
  rcases Nat.lt_or_ge i l.length with hi | hi
  · rw [getD_of (List.getElem?_eq_getElem hi)]
    exact h _ (List.getElem_mem hi)
  · rw [getD_out hi]; omega
theorem dig_set {l : List Nat} (h : Dig l) (i : Nat) {x : Nat} (hx : x < 65536) : Dig (l.set i x) := by
  intro e he
  rcases List.mem_or_eq_of_mem_set he with h1 | h1
  · exact h e h1
  · rw [h1]; exact hx
def Tail0 (l : List Nat) (k : Nat) : Prop := ∀ m, k ≤ m → l.getD m 0 = 0
theorem tail_set {l : List Nat} {k i : Nat} (h : Tail0 l k) (hi : i < k) (x : Nat) : Tail0 (l.set i x) k := by
  intro m hm
  rw [List.getD_eq_getElem?_getD, List.getElem?_set_ne (by omega), ← List.getD_eq_getElem?_getD]
  exact h m hm
theorem tail_more {l : List Nat} {k k' : Nat} (h : Tail0 l k) (hk : k ≤ k') : Tail0 l k' := fun m hm => h m (by omega)
theorem dig_zero (n : Nat) : Dig (List.replicate n 0) := by
  intro e he
  simp at he; omega
theorem tail_zero (n k : Nat) : Tail0 (List.replicate n 0) k := by
  intro m _
  rw [List.getD_eq_getElem?_getD, List.getElem?_replicate]
  split <;> rfl
theorem carry_lt {o a b c : Nat} (ho : o < 65536) (ha : a < 65536) (hb : b < 65536) (hc : c < 65536) : o + a * b + c < 4294967296 := by
  have h : a * b ≤ 65535 * 65535 := Nat.mul_le_mul (by omega) (by omega)
  omega
theorem make_run (N : Nat) (w : World) (hN : N ≤ 2000) : (Instr.makeSlice 62 (.int .i64 (N : Int)) (.int .i64 (N : Int))).run Try.prog w = .ok (.slice (some ⟨w.heap.size, 0, none⟩) N N) (w.alloc (.cells (cellsN (List.replicate N 0)) 3)) := by
  obtain ⟨j0, hj0, hjz, hj1, hj2⟩ := info_parts8_ intJ_
  have h := run_makeSlice (P := Try.prog) (w := w) 62 3 j0 _ Try.underlying62 hj0 hjz .i64 .i64 (N : Int) (N : Int) (by omega) (Int.le_refl _) (by rw [hj1]; simp; omega) (by rw [hj2]; omega) (by omega)
  rw [Int.toNat_natCast, hj1, Nat.mul_one] at h
  rw [h]
  have hc : madeCells (Value.int .i64 0).cells N = cellsN (List.replicate N 0) := by
    rw [show (Value.int IntKind.i64 0).cells = #[Value.int .i64 0] from rfl]
    unfold cellsN
    rw [← madeCells_rep N]
  rw [hc]
set_option maxHeartbeats 3200000 in
theorem product_any (A : Option Addr) (n c : Nat) (l : List Nat) (A' : Option Addr) (n' c' : Nat) (l' : List Nat) (w : World) {B B' : Nat} (h : Reads w B 3 1 A n (l.map vnat)) (h' : Reads w B' 3 1 A' n' (l'.map vnat)) (hn : n ≤ 1000) (hn' : n' ≤ 1000) (hd : Dig l) (hd' : Dig l') :
    Calls Try.prog 35 #[.slice A n c, .slice A' n' c'] w (RetDig w (mulN l l')) := by
  have hl : l.length = n := by have := h.1; simpa using this
  have hl' : l'.length = n' := by have := h'.1; simpa using this
  obtain ⟨N, hN⟩ : ∃ N, n + n' = N := ⟨_, rfl⟩
  have hN2 : N ≤ 2000 := by omega
  have hmul : Hid (mulN l l' = prodN l' (l.drop 0) 0 (List.replicate N 0)) := by rw [Hid, mulN, hl, hl', hN]; rfl
  obtain ⟨R, hR⟩ : ∃ R, mulN l l' = R := ⟨_, rfl⟩
  rw [hR] at hmul ⊢
  have e1 : (n : Int) + (n' : Int) = (N : Int) := by omega
  have e2 : IntKind.i64.wrap (N : Int) = (N : Int) := IntWalk.i64_in _ (by omega)
  have e2' : IntKind.i64.wrap ((n : Int) + (n' : Int)) = (N : Int) := by rw [e1, e2]
  have hmk := make_run N w hN2
  have hG0 : Hid (Blk (w.alloc (.cells (cellsN (List.replicate N 0)) 3)) w.heap.size 3 (cellsN (List.replicate N 0))) := Blk.new _ _ _
  have hb0 : Hid (Below w.heap.size w (w.alloc (.cells (cellsN (List.replicate N 0)) 3))) := (Below.refl _ _).alloc (Nat.le_refl _) _
  obtain ⟨wm, hwm⟩ : ∃ u, w.alloc (.cells (cellsN (List.replicate N 0)) 3) = u := ⟨_, rfl⟩
  rw [hwm] at hmk hG0 hb0
  have hD0 : Hid (Dig (List.replicate N 0)) := dig_zero N
  have hZ0 : Hid (Tail0 (List.replicate N 0) n') := tail_zero N n'
  have hlen0 : Hid ((List.replicate N 0).length = N) := List.length_replicate
  obtain ⟨Z, hZ⟩ : ∃ Z, List.replicate N 0 = Z := ⟨_, rfl⟩
  rw [hZ] at hmul hG0 hD0 hZ0 hlen0
  replace hZ := hid_mk hZ
  replace hR := hid_mk hR
  replace hwm := hid_mk hwm
  replace hd := hid_mk hd
  replace hd' := hid_mk hd'
  replace hl := hid_mk hl
  replace hl' := hid_mk hl'
  obtain ⟨g, hg⟩ : ∃ g, w.heap.size = g := ⟨_, rfl⟩
  rw [hg] at hmk hG0
  refine calls_of_wpQ Try.func35 rfl ?_
  intro Q hQ
  simp only [Try.ntmps35, List.size_toArray, List.length_cons, List.length_nil, Nat.reduceAdd, Nat.reduceSub, Array.replicate_succ, Array.replicate_zero, List.push_toArray, List.append_toArray, List.nil_append, List.cons_append]
  go_wp2
  go_loopw [18] (fun iv wr => ∃ (i : Nat) (out : List Nat), iv = .int .i64 i ∧ i ≤ n ∧ Hid (out.length = N) ∧ Hid (Dig out) ∧ Hid (Tail0 out (i + n')) ∧ Hid (Blk wr g 3 (cellsN out)) ∧ Hid (R = prodN l' (l.drop i) i out) ∧ Hid (Below w.heap.size w wr)) (fun iv _ => n - (intOf iv).toNat)
  case atStart => exact ⟨0, Z, rfl, Nat.zero_le _, hlen0, hD0, (by rw [Nat.zero_add]; exact hZ0), hG0, hmul, hb0⟩
  case round =>
    clear hlen0 hD0 hZ0 hG0 hmul hb0 hmk
    obtain ⟨i, out, rfl, hin, hlen, hD, hT, hG, hpr, hb⟩ := hrel
    by_cases hlt : i < n
    · obtain ⟨ba, oa, a, rfl, hba, hsa, hca⟩ := reads_at h hlt
      have ha : a < 65536 := hd.out a (List.mem_of_getElem? hsa)
      have hdr : l.drop i = a :: l.drop (i + 1) := by
        rw [List.drop_eq_getElem_cons (by rw [hl.out]; exact hlt)]
        rw [List.getElem?_eq_getElem (by rw [hl.out]; exact hlt)] at hsa
        injection hsa with hsa
        rw [hsa]
      have i0 : (0 : Int) ≤ i := by omega
      have i1 : (i : Int) < n := by omega
      replace hsa := hid_mk hsa
      replace hdr := hid_mk hdr
      obtain ⟨wo, hwo⟩ : ∃ wo : World, wo = wr := ⟨_, rfl⟩
      go_wp2
      go_loopw [7, 23] (fun cv iv wr => ∃ (j cy : Nat) (o2 : List Nat), iv = .int .i64 j ∧ j ≤ n' ∧ cv = .int .i64 cy ∧ cy < 65536 ∧ Hid (o2.length = N) ∧ Hid (Dig o2) ∧ Hid (Tail0 o2 (i + n')) ∧ Hid (Blk wr g 3 (cellsN o2)) ∧ Hid (rowN i a l' 0 out 0 = rowN i a (l'.drop j) j o2 cy) ∧ Hid (Below w.heap.size w wr)) (fun _ iv _ => n' - (intOf iv).toNat)
      case atStart => exact ⟨0, 0, out, rfl, Nat.zero_le _, rfl, by omega, hlen, hD, hT, hG, rfl, hb⟩
      case round =>
        clear hG hb hwo
        obtain ⟨j, cy, o2, rfl, hjn, rfl, hcy, hlen2, hD2, hT2, hG2, hrow, hb⟩ := hrel
        by_cases hltj : j < n'
        · obtain ⟨bb, ob, b, rfl, hbb, hsb, hcb⟩ := reads_at h' hltj
          have hbv : b < 65536 := hd'.out b (List.mem_of_getElem? hsb)
          have hdrb : l'.drop j = b :: l'.drop (j + 1) := by
            rw [List.drop_eq_getElem_cons (by rw [hl'.out]; exact hltj)]
            rw [List.getElem?_eq_getElem (by rw [hl'.out]; exact hltj)] at hsb
            injection hsb with hsb
            rw [hsb]
          obtain ⟨q, hq⟩ : ∃ q, i + j = q := ⟨_, rfl⟩
          have hqN : q < N := by omega
          obtain ⟨o, ho⟩ : ∃ o, o2[q]? = some o := ⟨_, List.getElem?_eq_getElem (by rw [hlen2.out]; exact hqN)⟩
          have hov : o < 65536 := hD2.out o (List.mem_of_getElem? ho)
          obtain ⟨p, hp⟩ : ∃ p, a * b = p := ⟨_, rfl⟩
          have hxl := carry_lt hov ha hbv hcy
          rw [hp] at hxl
          obtain ⟨x, hx⟩ : ∃ x, o + p + cy = x := ⟨_, rfl⟩
          rw [hx] at hxl
          obtain ⟨r, hr⟩ : ∃ r, x % 65536 = r := ⟨_, rfl⟩
          obtain ⟨c2, hc2⟩ : ∃ c, x / 65536 = c := ⟨_, rfl⟩
          have hr1 : r < 65536 := by omega
          have hc3 : c2 < 65536 := by omega
          have hrow2 : Hid (rowN i a l' 0 out 0 = rowN i a (l'.drop (j + 1)) (j + 1) (o2.set q r) c2) := by
            rw [Hid, hrow.out, hdrb, rowN, hq, getD_of ho, hp, hx, hr, hc2]
          have v0 : (i : Int) + (j : Int) = (q : Int) := by omega
          have v0' : IntKind.i64.wrap ((i : Int) + (j : Int)) = (q : Int) := by rw [v0]; exact IntWalk.i64_in _ (by omega)
          have v1 : (a : Int) * (b : Int) = (p : Int) := by rw [← hp, Int.natCast_mul]
          have hple : p ≤ 4294967296 := by omega
          have v1' : IntKind.i64.wrap ((a : Int) * (b : Int)) = (p : Int) := by rw [v1]; exact IntWalk.i64_in _ (by omega)
          have v2 : IntKind.i64.wrap ((o : Int) + (p : Int)) = (o : Int) + (p : Int) := IntWalk.i64_in _ (by omega)
          have v3 : IntKind.i64.wrap ((o : Int) + (p : Int) + (cy : Int)) = (x : Int) := by rw [IntWalk.i64_in _ (by omega)]; omega
          have v4 : (x : Int) % 65536 = (r : Int) := by omega
          have v5 : (x : Int) / 65536 = (c2 : Int) := by omega
          have v6 : (0 : Int) ≤ (q : Int) := by omega
          have v7 : (q : Int) < (N : Int) := by omega
          have v8 : (0 : Int) ≤ (j : Int) := by omega
          have v9 : (j : Int) < (n' : Int) := by omega
          have ca : wr.cell? ⟨ba, oa + i, none⟩ = some (.int .i64 a) := ((bcell hb.out).1 _ _ hba).trans hca
          have cb : wr.cell? ⟨bb, ob + j, none⟩ = some (.int .i64 b) := ((bcell hb.out).1 _ _ hbb).trans hcb
          have co : wr.cell? ⟨g, q, none⟩ = some (.int .i64 o) := (hG2.out.cell q).trans (cellsN_at ho)
          have fo : wr.frozen? ⟨g, q, none⟩ = false := hG2.out.frozen q
          have lg := hG2.out.lt
          have la : ba < wr.heap.size := Nat.lt_of_lt_of_le hba hb.out.size
          have lb : bb < wr.heap.size := Nat.lt_of_lt_of_le hbb hb.out.size
          replace hsb := hid_mk hsb
          replace hdrb := hid_mk hdrb
          replace ho := hid_mk ho
          replace hp := hid_mk hp
          replace hx := hid_mk hx
          replace hr := hid_mk hr
          replace hc2 := hid_mk hc2
          replace hq := hid_mk hq
          go_wp2_with fail
          go_quiet (fail)
          obtain ⟨wq, hwq⟩ : ∃ u, wr.drewN nq = u := ⟨_, rfl⟩
          rw [hwq]
          have hGq : Blk wq g 3 (cellsN o2) := by rw [← hwq]; exact hG2.out
          have hbq : Below w.heap.size w wq := by rw [← hwq]; exact below_drewN hb.out _
          have cq : wq.cell? ⟨g, q, none⟩ = some (.int .i64 o) := by rw [← hwq]; exact co
          have fq : wq.frozen? ⟨g, q, none⟩ = false := hGq.frozen q
          have lq := hGq.lt
          have hgw : w.heap.size ≤ g := by omega
          have hGs : Hid (Blk (wq.setCell ⟨g, q, none⟩ (.int .i64 r)) g 3 (cellsN (o2.set q r))) := by
            have h1 := hGq.set_ q (.int .i64 r)
            rw [cellsN_set] at h1
            exact h1
          have hbs : Hid (Below w.heap.size w (wq.setCell ⟨g, q, none⟩ (.int .i64 r))) := hbq.setCell (p := ⟨g, q, none⟩) hgw _
          have hls : Hid ((o2.set q r).length = N) := by rw [Hid, List.length_set]; exact hlen2.out
          have hDs : Hid (Dig (o2.set q r)) := dig_set hD2.out q hr1
          have hTs : Hid (Tail0 (o2.set q r) (i + n')) := tail_set hT2.out (by have := hq.out; omega) r
          replace hwq := hid_mk hwq
          replace hGq := hid_mk hGq
          replace hbq := hid_mk hbq
          clear ca cb co fo lg la lb
          go_wp2
          go_roundw
          case rel => exact ⟨j + 1, c2, _, by go_num, by omega, rfl, hc3, hls, hDs, hTs, hGs, hrow2, hbs⟩
          case measure => simp [intOf]; omega
        · obtain rfl : n' = j := by omega
          have hrow3 : rowN i a l' 0 out 0 = (o2, cy) := by
            rw [hrow.out, List.drop_eq_nil_of_le (by rw [hl'.out]; omega)]; rfl
          obtain ⟨q, hq⟩ : ∃ q, i + n' = q := ⟨_, rfl⟩
          have hqN : q < N := by omega
          have hz : o2[q]? = some 0 := by
            have h1 := hT2.out q (by omega)
            rw [List.getD_eq_getElem?_getD, List.getElem?_eq_getElem (by rw [hlen2.out]; exact hqN)] at h1
            rw [List.getElem?_eq_getElem (by rw [hlen2.out]; exact hqN)]
            simpa using h1
          have hpr2 : Hid (R = prodN l' (l.drop (i + 1)) (i + 1) (o2.set q cy)) := by
            rw [Hid, hpr.out, hdr.out, prodN, hrow3, hl'.out, hq]
            simp only [getD_of hz, Nat.zero_add]
          have v0 : (i : Int) + (n' : Int) = (q : Int) := by omega
          have v0' : IntKind.i64.wrap ((i : Int) + (n' : Int)) = (q : Int) := by rw [v0]; exact IntWalk.i64_in _ (by omega)
          have v1 : IntKind.i64.wrap (cy : Int) = (cy : Int) := IntWalk.i64_in _ (by omega)
          have v6 : (0 : Int) ≤ (q : Int) := by omega
          have v7 : (q : Int) < (N : Int) := by omega
          have co : wr.cell? ⟨g, q, none⟩ = some (.int .i64 0) := (hG2.out.cell q).trans (cellsN_at hz)
          have fo : wr.frozen? ⟨g, q, none⟩ = false := hG2.out.frozen q
          have lg := hG2.out.lt
          have hgw : w.heap.size ≤ g := by omega
          have hGs : Hid (Blk (wr.setCell ⟨g, q, none⟩ (.int .i64 cy)) g 3 (cellsN (o2.set q cy))) := by
            have h1 := hG2.out.set_ q (.int .i64 cy)
            rw [cellsN_set] at h1
            exact h1
          have hbs : Hid (Below w.heap.size w (wr.setCell ⟨g, q, none⟩ (.int .i64 cy))) := hb.out.setCell (p := ⟨g, q, none⟩) hgw _
          have hls : Hid ((o2.set q cy).length = N) := by rw [Hid, List.length_set]; exact hlen2.out
          have hDs : Hid (Dig (o2.set q cy)) := dig_set hD2.out q hcy
          have hTs : Hid (Tail0 (o2.set q cy) (i + 1 + n')) := tail_set (tail_more hT2.out (by omega)) (by omega) cy
          replace hq := hid_mk hq
          replace hz := hid_mk hz
          replace hrow3 := hid_mk hrow3
          go_wp2
          go_roundw
          case rel => exact ⟨i + 1, _, by go_num, by omega, hls, hDs, hTs, hGs, hpr2, hbs⟩
          case measure => simp [intOf]; omega
    · obtain rfl : n = i := by omega
      have hRo : Hid (R = out) := by
        rw [Hid, hpr.out, List.drop_eq_nil_of_le (by rw [hl.out]; omega)]; rfl
      go_wp2
      refine ends_ret hQ (results_tmp rfl _ _ _) rfl ?_
      refine ⟨some ⟨g, 0, none⟩, N, N, rfl, Nat.le_refl _, ?_, hb.out, by rw [hRo.out]; exact hD.out, by rw [hRo.out]; exact hlen.out⟩
      have h1 := reads_blk (B := wr.heap.size) hG.out
      rw [hlen.out] at h1
      rw [hRo.out]
      exact h1
end Go.Proofs.Ytpfjfihfnplhfaa
