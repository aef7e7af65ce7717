/-
  WHAT IS PROVED HERE: which state may be, as the reference tells it. Conditions: the slices are of at most 2^47 elements; the library's table stands.
  WHAT IS PROVED HERE: what the reference's Right hands back of a node. Conditions: the slices are of at most 2^47 elements; the library's table stands.
-/
import Derived.Test.YtncdjmpdbinanaaGreatDoorZGEl0
import Derived.Test.YtncdjmpdbinanaaGreatDoorZGVl5
import Derived.Test.YtncdjmpdbinanaaGreatDoorZGEl1
namespace Go.Proofs.YtncdjmpdbinanaaGreatDoor
open Go.RowKit

theorem put_res (L : Nat) (a b : ByteArray) : ∃ (x : ByteArray) (k : Int), (if L ≤ 131072 then Value.tuple #[.string a, .int .i64 0] else .tuple #[.string b, .int .i64 2]) = .tuple #[.string x, .int .i64 k] ∧ (k == 0) = decide (L ≤ 131072) := by
  by_cases h : L ≤ 131072
  · exact ⟨a, 0, by rw [if_pos h], by simp [h]⟩
  · exact ⟨b, 2, by rw [if_neg h], by simp [h]⟩
set_option maxRecDepth 100000 in
set_option maxHeartbeats 6400000 in
theorem RBytes_any (h : Hd) (R V : Slc) (w : World) {B : Nat} (hm : R.n ≤ 140737488355328) (hvm : V.n ≤ 140737488355328) (hr : Recs w B R.A R.n h.l.rs) (hi : Ints w B V.A V.n h.vs) (ht : Tab w) :
    Calls Tryz.prog 122 #[hdV h R V] w fun e w' => (∃ x, e = .returned (.tuple #[.string x, .bool (rightH h)])) ∧ Below w.heap.size w w' := by
  obtain ⟨i0, hi0, hz0, hz1, hz2⟩ := info_val valInfo
  obtain ⟨hh, hhe⟩ : ∃ hh, h = hh := ⟨_, rfl⟩
  rw [hhe]
  obtain ⟨t, hv, ⟨base, bt, rs⟩, s, vs⟩ := h
  obtain ⟨RA, n, Rc⟩ := R
  obtain ⟨VA, m, Vc⟩ := V
  have hlen := hid_mk hr.len
  have hlv := hid_mk hi.len
  dsimp only at hr hi hlen hlv hm hvm
  have hf1 : Hid (inB t 0 1073741824 = false → rightH hh = false) := fun e => by rw [← hhe]; unfold rightH shapedH; simp [e]
  have hf2 : Hid (inB hv 0 9 = false → rightH hh = false) := fun e => by rw [← hhe]; unfold rightH shapedH; simp [e]
  have hf3 : Hid (logT ⟨base, bt, rs⟩ t = false → rightH hh = false) := fun e => by rw [← hhe]; unfold rightH shapedH; simp [e]
  have hf4 : Hid ((ascL none vs && decide (vs.length ≤ 7)) = false → rightH hh = false) := fun e => by rw [← hhe]; unfold rightH shapedH; simp only [e]; simp
  have hf5 : Hid (131072 < s.size → rightH hh = false) := fun e => by rw [← hhe]; unfold rightH shapedH; rw [show decide (s.size ≤ 131072) = false from by simp; omega]; simp
  have hX0 := hid_mk (Blk.new w 27 #[.int .i64 t, .int .i64 hv, .int .i64 base, .int .i64 bt, .slice RA n Rc, .string s, .slice VA m Vc])
  have q0 : Below w.heap.size w (w.alloc (.cells #[.int .i64 t, .int .i64 hv, .int .i64 base, .int .i64 bt, .slice RA n Rc, .string s, .slice VA m Vc] 27)) := by go_grown
  rw [← hhe]
  unfold hdV
  dsimp only
  rw [hhe]
  refine calls_of_wpQ Tryz.func122 rfl ?_
  intro Q hQ
  simp only [Tryz.ntmps122, List.size_toArray, List.length_cons, List.length_nil, Nat.reduceAdd, Nat.reduceSub, Array.replicate_succ, Array.replicate_zero, List.push_toArray, List.append_toArray, List.nil_append, List.cons_append]
  go_wp2_with fail
  refine (rin_any _ _ _ _).mono ?_
  rintro e w' ⟨rfl, rfl⟩
  cases h1 : inB t 0 1073741824
  · have hf := hid_mk (hf1.out h1)
    replace h1 := hid_mk h1
    go_wp2
    refine ends_ret hQ (results_tmp2 rfl _ _ _) rfl ?_
    exact ⟨⟨_, by rw [hf.out]; rfl⟩, q0⟩
  have g1 := hid_mk h1
  clear h1
  go_wp2_with fail
  refine (rin_any _ _ _ _).mono ?_
  rintro e w' ⟨rfl, rfl⟩
  cases h2 : inB hv 0 9
  · have hf := hid_mk (hf2.out h2)
    replace h2 := hid_mk h2
    go_wp2
    refine ends_ret hQ (results_tmp2 rfl _ _ _) rfl ?_
    exact ⟨⟨_, by rw [hf.out]; rfl⟩, q0⟩
  have g2 := hid_mk h2
  clear h2
  go_wp2_with fail
  refine (RLog_any ⟨base, bt, rs⟩ t RA n Rc _ (B := B) hm (hr.to (by go_grown))).mono ?_
  rintro e w1 ⟨rfl, hb1⟩
  have q1 := (after (w := w) hb1 (by go_grown)).1
  have hX1 := hid_mk (hX0.out.keep hb1)
  clear hb1
  obtain ⟨xl, x0, x1, x2, x3, x4, x5, x6⟩ := blk7 hX1.out
  cases h3 : logT ⟨base, bt, rs⟩ t
  · have hf := hid_mk (hf3.out h3)
    replace h3 := hid_mk h3
    go_wp2
    refine ends_ret hQ (results_tmp2 rfl _ _ _) rfl ?_
    exact ⟨⟨_, by rw [hf.out]; rfl⟩, q1⟩
  have g3 := hid_mk h3
  clear h3
  go_wp2_with fail
  refine (RVoters_any VA m Vc vs _ (B := B) hvm (hi.to (by go_grown))).mono ?_
  rintro e w3 ⟨rfl, hb3⟩
  have q3 := (after (w := w) hb3 (by go_grown)).1
  have hX3 := hid_mk (hX1.out.keep hb3)
  clear hb3 xl x0 x1 x2 x3 x4 x5 x6
  obtain ⟨xl, x0, x1, x2, x3, x4, x5, x6⟩ := blk7 hX3.out
  cases h4 : (ascL none vs && decide (vs.length ≤ 7))
  · have hf := hid_mk (hf4.out h4)
    replace h4 := hid_mk h4
    go_wp2
    refine ends_ret hQ (results_tmp2 rfl _ _ _) rfl ?_
    exact ⟨⟨_, by rw [hf.out]; rfl⟩, q3⟩
  have g4 := hid_mk h4
  clear h4
  by_cases h5 : 131072 < s.size
  · have hf := hid_mk (hf5.out h5)
    go_wp2
    refine ends_ret hQ (results_tmp2 rfl _ _ _) rfl ?_
    exact ⟨⟨_, by rw [hf.out]; rfl⟩, q3⟩
  have hs : shapedH ⟨t, hv, ⟨base, bt, rs⟩, s, vs⟩ = true := by
    unfold shapedH
    rw [g1.out, g2.out, g3.out, g4.out, show decide (s.size ≤ 131072) = true from by simp; omega]
    rfl
  clear hf1 hf2 hf3 hf4 hf5 g1 g2 g3 g4
  have hbd := shaped_bounds hs
  have hfr := shaped_fit hs
  have hfv := asc_fit none _ (shaped_asc hs)
  have hel := encH_len hs
  dsimp only at hbd hfr hfv
  have hm7 : m ≤ 7 := by have := hlv.out; omega
  have hn2 : n ≤ 200 := by have := hlen.out; omega
  obtain ⟨L, hL⟩ : ∃ L, (encH ⟨t, hv, ⟨base, bt, rs⟩, s, vs⟩).length = L := ⟨_, rfl⟩
  rw [hL] at hel
  obtain ⟨px, pk, hpr, hpk⟩ := put_res L ⟨(encH ⟨t, hv, ⟨base, bt, rs⟩, s, vs⟩).toArray⟩ ⟨#[]⟩
  have hrt : Hid (rightH hh = (pk == 0)) := by rw [Hid, ← hhe, hpk, ← hL]; unfold rightH; rw [hs]; rfl
  replace hpr := hid_mk hpr
  replace hL := hid_mk hL
  replace hhe := hid_mk hhe
  have hs' := hid_mk hs
  clear hs hbd hpk
  have hi := hi.to q3
  have hr := hr.to q3
  have ht := ht.to q3
  have hR0 := hid_mk (RowSt.new w3 1)
  have qx0 : Below w3.heap.size w3 (w3.alloc (.cells #[.int .i64 3, .int .i64 0, .string ⟨#[]⟩, .slice none 0 0] 163)) := by go_grown
  have he0 : Hid (([] : List Vn) = votN (vs.take 0)) := rfl
  have hwl := xl
  go_wp2
  clear xl x0 x1 x2 x3 x4 x5 x6
  go_loopw [6, 43] (fun _ i wr => ∃ (k : Nat) (Av : Option Addr) (c : Nat) (xs : List Vn), k ≤ m ∧ i = .int .i64 k ∧ Below w3.heap.size w3 wr ∧ Hid (RowSt wr (w3.heap.size) (.slice Av k c) (.slice Av k c) 1 k xs) ∧ Hid (xs = votN (vs.take k))) (fun _ i _ => m - (intOf i).toNat)
  case atStart => exact ⟨0, none, 0, [], Nat.zero_le _, rfl, qx0, hR0, he0⟩
  case round =>
    obtain ⟨k, Av, c, xs, hk, rfl, hb, hR, he⟩ := hrel
    have v3 := hR.out.box.cell 3
    have vl := hR.out.box.lt
    change _ = some (Value.slice Av k c) at v3
    by_cases hlt : k < m
    · obtain ⟨b, o, x, rfl, hbb, hd, hc⟩ := (hi.to (B := B) hb).at_ hlt
      have hxb := hfv x (List.mem_of_mem_drop (show x ∈ vs.drop k by rw [hd.out]; exact List.mem_cons_self ..))
      have hx0 : 0 ≤ x := by omega
      have hx1 : x ≤ 1073741824 := by omega
      clear hxb
      have hbz := hb.size
      go_wp2_with fail
      refine wp_region_T (fun w' => w'.cell? ⟨w3.heap.size, 3, none⟩ = some (.slice Av k c)) (fun j => decide (j < 7)) 8 (by kernel_rfl) (by kernel_rfl) ?_
      refine wpAnyT_take (i := 0) rfl (by kernel_rfl) (by kernel_rfl) (by kernel_rfl) rfl (by kernel_rfl) (fun _ _ _ h => h) rfl (fun w' hS => (by skip; go_simp; try with_reducible rfl)) v3 ?_
      simp only [Act.put]
      refine wpAnyT_take (i := 1) rfl (by kernel_rfl) (by kernel_rfl) (by kernel_rfl) rfl (by kernel_rfl) (fun _ _ _ h => h) rfl (fun w' hS => (by skip; go_simp; try with_reducible rfl)) v3 ?_
      simp only [Act.put]
      refine wpAnyT_take (i := 2) rfl (by kernel_rfl) (by kernel_rfl) (by kernel_rfl) rfl (by kernel_rfl) (fun _ _ _ h => h) rfl (fun w' hS => (by skip; go_simp; try with_reducible rfl)) v3 ?_
      simp only [Act.put]
      refine wpAnyT_one (i := 3) (by kernel_rfl) rfl (fun K hK => ?_)
      go_simp
      refine (rnum_any _ _).mono ?_
      rintro e w1 ⟨rfl, hb1⟩
      have q1 := (after (w := w3) hb1 (by go_grown)).1
      have hR1 := hid_mk (hR.out.keep (after hb1 (by go_grown)).1)
      clear hb1 v3 vl
      have v3 := hR1.out.box.cell 3
      have vl := hR1.out.box.lt
      change _ = some (Value.slice Av k c) at v3
      refine hK.out _ _ (fun _ => v3) ?_
      clear hK K
      try simp only [Act.put]
      refine wpAnyT_one (i := 4) (by kernel_rfl) rfl (fun K hK => ?_)
      go_simp
      refine hK.out _ _ (fun _ => (by go_keep)) ?_
      clear hK K
      try simp only [Act.put]
      refine wpAnyT_one (i := 5) (by kernel_rfl) rfl (fun K hK => ?_)
      refine step_append_any _ (by rfl) (.tmp 48) (.tmp 51) 161 (by rfl) (w3.heap.size + 1) 163 i0 _ 4 56 Tryz.underlying161 hi0 hz0 hz1 hz2 rfl (by omega) (.slice Av k c) k _ (by simp [Act.eval]) (hR1.out.keep (by go_grown)).own 0 (some ⟨w1.heap.size, 0, none⟩) 1 1 (valCells (numN x).v) (by simp [Act.eval]) (num_new w1 x) (val_one _) (by unfold maxLen; omega) (by omega) (by simp; omega) ?_
      intro v5 w5 own5 g5 at5
      have hR5 := hid_mk (RowSt.app (x := numN x) (hR1.out.keep (by go_grown)) g5 at5 own5 (num_ok _ hx0 hx1))
      have q5 : Below w3.heap.size w3 w5 := grown_below (by go_grown) g5 (fun k2 e => (by (have := (own_lt hR1.out.own _ e).1; omega)))
      obtain ⟨A5, c5, rfl, h51, h52⟩ := own_slice own5
      clear own5 g5 at5 v3 vl
      have v3 := hR5.out.box.cell 3
      have vl := hR5.out.box.lt
      have f3 := hR5.out.box.frozen 3
      change _ = some (Value.slice Av k c) at v3
      refine hK.out _ _ (fun _ => v3) ?_
      clear hK K
      try simp only [Act.put]
      refine wpAnyT_take (i := 6) rfl (by kernel_rfl) (by kernel_rfl) (by kernel_rfl) rfl (by kernel_rfl) (fun _ _ _ h => h) rfl (fun w' hS => (by skip; go_simp; try with_reducible rfl)) v3 ?_
      simp only [Act.put]
      refine wpAnyT_one (i := 7) (by kernel_rfl) rfl (fun K hK => ?_)
      go_simp
      refine hK.out _ _ (fun h => absurd h (by decide)) ?_
      clear hK K
      try simp only [Act.put]
      refine wpAnyT_done (by kernel_rfl) ?_ _
      go_wp2
      have hP := hid_mk hR5.out.put
      go_roundw
      case rel =>
        refine ⟨k + 1, A5, c5, _, by omega, by go_num, q5.setCell (p := ⟨w3.heap.size, 3, none⟩) (by simp; try omega) _, hP, ?_⟩
        rw [Hid, he.out, take_snoc hd.out]
        unfold votN
        rw [List.map_append]
        rfl
      case measure => simp [intOf]; omega
    · have hke := hid_mk (show vs.take k = vs from List.take_of_length_le (by have := hlv.out; omega))
      have hkm : k = m := by omega
      subst hkm
      have hV := hid_mk (show VOk wr (Ups (w3.heap.size)) 2 (lstV Av k c) (1 + k) (votEnc vs) from by
        have := hR.out.list (by omega)
        have e1 := he.out
        rw [hke.out] at e1
        rw [e1] at this
        have e2 : cntN (votN vs) = k := by
          unfold cntN votN
          rw [List.map_map]
          have : ∀ l : List Int, (l.map ((fun x : Vn => x.cnt) ∘ numN)).sum = l.length := by
            intro l
            induction l with
            | nil => rfl
            | cons a l ih => simp [numN] at ih ⊢; omega
          rw [this]
          exact hlv.out
        rw [e2] at this
        exact this)
      have hB := hid_mk hR.out.box
      have hX := hid_mk (hX3.out.keep hb)
      obtain ⟨xl, x0, x1, x2, x3, x4, x5, x6⟩ := blk7 hX.out
      obtain ⟨yl, y0, y1, y2, y3⟩ := blk4v hB.out
      clear v3 vl hi0 hz0 hz1 hz2 he hke
      go_wp2_with fail
      have hbz := hb.size
      have qr : Below wr.heap.size wr wr := Below.refl _ _
      have hwz : w3.heap.size < wr.heap.size := yl
      have hcn : 1 + (5 + (1 + k) + (1 + 4 * n)) ≤ 4000 := by omega
      go_region_held3 (fun w' => w'.cell? ⟨w.heap.size, 0, none⟩ = some (.int .i64 t) ∧ w'.cell? ⟨w.heap.size, 1, none⟩ = some (.int .i64 hv) ∧ w'.cell? ⟨w.heap.size, 2, none⟩ = some (.int .i64 base) ∧ w'.cell? ⟨w.heap.size, 3, none⟩ = some (.int .i64 bt) ∧ w'.cell? ⟨w.heap.size, 4, none⟩ = some (.slice RA n Rc) ∧ w'.cell? ⟨w.heap.size, 5, none⟩ = some (.string s) ∧ w'.cell? ⟨w3.heap.size, 0, none⟩ = some (.int .i64 3) ∧ w'.cell? ⟨w3.heap.size, 1, none⟩ = some (.int .i64 0) ∧ w'.cell? ⟨w3.heap.size, 2, none⟩ = some (.string ⟨#[]⟩) ∧ w'.cell? ⟨w3.heap.size, 3, none⟩ = some (.slice Av k c)) ((first | (refine ⟨?_, ?_, ?_, ?_, ?_, ?_, ?_, ?_, ?_, ?_⟩ <;> with_reducible assumption) | with_reducible exact S_of (hX2.out.alloc _) (hB2.out.alloc _) | with_reducible exact S_of hX.out.drew hB.out.drew)) (first
        | (go_at_call 153; refine (rnum_any _ _).mono ?_; rintro e w1 ⟨rfl, hb1⟩; replace qr := (after (w := wr) hb1 (by go_grown)).1; replace hX := hid_mk (hX.out.keep (after hb1 (by go_grown)).1); replace hB := hid_mk (hB.out.keep (after hb1 (by go_grown)).1); clear hb1 xl x0 x1 x2 x3 x4 x5 x6 yl y0 y1 y2 y3; obtain ⟨xl, x0, x1, x2, x3, x4, x5, x6⟩ := blk7 hX.out; obtain ⟨yl, y0, y1, y2, y3⟩ := blk4v hB.out)
        | (go_at_call 155; refine (rrecs_any rs RA n Rc w3.heap.size _ (B := B) (by first | omega | (simp; omega)) (by omega) (hr.to (show Below w3.heap.size w3 _ from Below.trans hb (Below.mono (show Below wr.heap.size wr _ from by go_grown) hbz))) hfr).mono ?_; rintro e w2 ⟨⟨A2, c2, rfl, hL2⟩, hb1⟩; have q2 := (after (w := wr) hb1 (by go_grown)).1; have hX2 := hid_mk (hX.out.keep (after hb1 (by go_grown)).1); have hB2 := hid_mk (hB.out.keep (after hb1 (by go_grown)).1); have hrow := Blk.new w2 163 (cellsN (hardN ⟨t, hv, ⟨base, bt, rs⟩, s, vs⟩ Av k c A2 n c2)).toArray; have q2z := q2.size; have qrow : Below w2.heap.size w2 (w2.alloc (.cells (cellsN (hardN ⟨t, hv, ⟨base, bt, rs⟩, s, vs⟩ Av k c A2 n c2)).toArray 163)) := (Below.refl _ _).alloc (Nat.le_refl _) _; have hV2 := VOk.to (S' := Ups w3.heap.size) (Nat.le_trans q2z qrow.size) (fun b _ hlt => (qrow.block b (by omega)).trans (q2.block b hlt)) (fun b hb _ => hb) hV.out; have hL3 := VOk.to (S' := Ups w3.heap.size) qrow.size (fun b _ hlt => qrow.block b hlt) (fun b hb _ => hb) hL2; have hO := hid_mk (VOk.to (S' := Lows (w2.alloc (.cells (cellsN (hardN ⟨t, hv, ⟨base, bt, rs⟩, s, vs⟩ Av k c A2 n c2)).toArray 163)).heap.size) (Nat.le_refl _) (fun _ _ _ => rfl) (fun b _ hlt => hlt) (hard_ok (h := ⟨t, hv, ⟨base, bt, rs⟩, s, vs⟩) hrow (show Ups w3.heap.size w2.heap.size from by (unfold Ups; omega)) hs'.out hV2 hL3)); clear hV2 hL3 hrow qrow hL2 hb1 xl x0 x1 x2 x3 x4 x5 x6 yl y0 y1 y2 y3; obtain ⟨xl, x0, x1, x2, x3, x4, x5, x6⟩ := blk7 hX2.out; obtain ⟨yl, y0, y1, y2, y3⟩ := blk4v hB2.out)
        | (go_at_call 154; refine (RPut_any 4 (lstV (some ⟨w2.heap.size, 0, none⟩) 7 7) _ (encH ⟨t, hv, ⟨base, bt, rs⟩, s, vs⟩) _ hO.out hcn (by omega) (ht.to (show Below w3.heap.size w3 _ from Below.trans hb (Below.mono (show Below wr.heap.size wr _ from by go_grown) hbz))) (by rw [hL.out]; exact hel)).mono ?_; rw [hL.out, hpr.out]; rintro e w4 ⟨rfl, hb1⟩; have q4 := (after (w := wr) hb1 (by go_grown)).1; have hX4 := hid_mk (Blk.keep (hX2.out.alloc _) hb1); have hB4 := hid_mk (Blk.keep (hB2.out.alloc _) hb1); clear hb1 xl x0 x1 x2 x3 x4 x5 x6 yl y0 y1 y2 y3; obtain ⟨xl, x0, x1, x2, x3, x4, x5, x6⟩ := blk7 hX4.out; obtain ⟨yl, y0, y1, y2, y3⟩ := blk4v hB4.out)
        | fail)
      go_wp2
      refine ends_ret hQ (results_tmp2 rfl _ _ _) rfl ?_
      exact ⟨⟨px, by rw [hrt.out]; rfl⟩, q3.trans ((hb.trans (q4.mono hbz)).mono q3.size)⟩
set_option maxRecDepth 100000 in
theorem HRight_any (h : Hd) (R V : Slc) (w : World) {B : Nat} (hm : R.n ≤ 140737488355328) (hv : V.n ≤ 140737488355328) (hr : Recs w B R.A R.n h.l.rs) (hi : Ints w B V.A V.n h.vs) (ht : Tab w) :
    Calls Tryz.prog 59 #[hdV h R V] w fun e w' => e = .returned (.bool (rightH h)) ∧ Below w.heap.size w w' := by
  have ht' : Tab (w.alloc (.cells #[.int .i64 h.t, .int .i64 h.v, .int .i64 h.l.base, .int .i64 h.l.bt, .slice R.A R.n R.c, .string h.s, .slice V.A V.n V.c] 27)) := ht.to (by go_grown)
  obtain ⟨r, hr'⟩ : ∃ r, rightH h = r := ⟨_, rfl⟩
  rw [hr']
  replace hr' := hid_mk hr'
  unfold hdV
  refine calls_of_wpQ Tryz.func59 rfl ?_
  intro Q hQ
  simp only [Tryz.ntmps59, List.size_toArray, List.length_cons, List.length_nil, Nat.reduceAdd, Nat.reduceSub, Array.replicate_succ, Array.replicate_zero, List.push_toArray, List.append_toArray, List.nil_append, List.cons_append]
  go_wp2_with (go_at_call 122; refine (RBytes_any h R V _ (B := B) hm hv (hr.to (by go_grown)) (hi.to (by go_grown)) ht').mono ?_; rw [hr'.out]; rintro e w1 ⟨⟨x, rfl⟩, hb1⟩; have q1 := (after (w := w) hb1 (by go_grown)).1; clear hb1)
  refine ends_ret hQ (results_tmp rfl _ _ _) rfl ?_
  exact ⟨rfl, q1⟩
end Go.Proofs.YtncdjmpdbinanaaGreatDoor
namespace Go.Proofs.YtncdjmpdbinanaaGreatDoor
open Go.RowKit

theorem blk14 {w : World} {g : Nat} {t : TypeId} {a0 a1 a2 a3 a4 a5 a6 a7 a8 a9 a10 a11 a12 a13 : Value} (h : Blk w g t #[a0, a1, a2, a3, a4, a5, a6, a7, a8, a9, a10, a11, a12, a13]) :
    g < w.heap.size ∧ w.cell? ⟨g, 0, none⟩ = some a0 ∧ w.cell? ⟨g, 1, none⟩ = some a1 ∧ w.cell? ⟨g, 2, none⟩ = some a2 ∧ w.cell? ⟨g, 3, none⟩ = some a3 ∧ w.cell? ⟨g, 4, none⟩ = some a4 ∧ w.cell? ⟨g, 5, none⟩ = some a5 ∧ w.cell? ⟨g, 6, none⟩ = some a6 ∧ w.cell? ⟨g, 7, none⟩ = some a7 ∧ w.cell? ⟨g, 8, none⟩ = some a8 ∧ w.cell? ⟨g, 9, none⟩ = some a9 ∧ w.cell? ⟨g, 10, none⟩ = some a10 ∧ w.cell? ⟨g, 11, none⟩ = some a11 ∧ w.cell? ⟨g, 12, none⟩ = some a12 ∧ w.cell? ⟨g, 13, none⟩ = some a13 :=
  ⟨h.lt, h.cell 0, h.cell 1, h.cell 2, h.cell 3, h.cell 4, h.cell 5, h.cell 6, h.cell 7, h.cell 8, h.cell 9, h.cell 10, h.cell 11, h.cell 12, h.cell 13⟩
set_option maxRecDepth 100000 in
set_option maxHeartbeats 12800000 in
theorem NRight_any (N : Nd) (a : NdA) (w : World) {B : Nat} (hN : NdOk w B N a) (ht : Tab w) :
    Calls Tryz.prog 18 #[nodeV N a] w fun e w' => e = .returned (.bool (rightN N)) ∧ Below w.heap.size w w' := by
  obtain ⟨hr, hrc, hrb, hi, hvc, hvb, hsb, hg, hgc, hgb, hps, hpc, hpb⟩ := hN
  obtain ⟨NN, hNN⟩ : ∃ NN, N = NN := ⟨_, rfl⟩
  obtain ⟨id, ⟨t, v, ⟨base, bt, rs⟩, s, vs⟩, role, lead, timer, commit, got, ps⟩ := N
  obtain ⟨⟨RA, n, Rc⟩, ⟨VA, m, Vc⟩, ⟨GA, gn, Gc⟩, ⟨PA, pn, Pc⟩⟩ := a
  dsimp only at hr hrc hrb hi hvc hvb hsb hg hgc hgb hps hpc hpb
  have hrl := hid_mk hr.len
  have hf1 : Hid (inB id 1 9 = false → rightN NN = false) := fun e => by rw [← hNN]; unfold rightN; simp [e]
  have hf2 : Hid (rightH ⟨t, v, ⟨base, bt, rs⟩, s, vs⟩ = false → rightN NN = false) := fun e => by rw [← hNN]; unfold rightN; simp [e]
  have hf3 : Hid (rightL vs = false → rightN NN = false) := fun e => by rw [← hNN]; unfold rightN; simp [e]
  have hf4 : Hid (inB role 0 2 = false → rightN NN = false) := fun e => by rw [← hNN]; unfold rightN; simp [e]
  have hf5 : Hid (0 < role → t = 0 → rightN NN = false) := fun e e2 => by rw [← hNN]; unfold rightN; simp [e, e2]
  have hf6 : Hid (inB lead 0 9 = false → rightN NN = false) := fun e => by rw [← hNN]; unfold rightN; simp [e]
  have hf7 : Hid (inB timer 0 1048576 = false → rightN NN = false) := fun e => by rw [← hNN]; unfold rightN; simp [e]
  have hf8 : Hid (inB commit base (lastJ ⟨base, bt, rs⟩) = false → rightN NN = false) := fun e => by rw [← hNN]; unfold rightN; simp [e]
  have hf9 : Hid (ascL none got = false → rightN NN = false) := fun e => by rw [← hNN]; unfold rightN; simp [e]
  have hft : Hid (inB id 1 9 = true → rightH ⟨t, v, ⟨base, bt, rs⟩, s, vs⟩ = true → rightL vs = true → inB role 0 2 = true → (decide (0 < role) && t == 0) = false → inB lead 0 9 = true → inB timer 0 1048576 = true → inB commit base (lastJ ⟨base, bt, rs⟩) = true → ascL none got = true → rightN NN = okPs id (lastJ ⟨base, bt, rs⟩) none ps) := fun e1 e2 e3 e4 e5 e6 e7 e8 e9 => by rw [← hNN]; unfold rightN; simp only [e1, e2, e3, e4, e5, e6, e7, e8, e9]; rfl
  unfold nodeV
  dsimp only
  rw [hNN]
  clear hNN
  have hX0 := hid_mk (Blk.new w 30 #[.int .i64 id, .int .i64 t, .int .i64 v, .int .i64 base, .int .i64 bt, .slice RA n Rc, .string s, .slice VA m Vc, .int .i64 role, .int .i64 lead, .int .i64 timer, .int .i64 commit, .slice GA gn Gc, .slice PA pn Pc])
  have q0 : Below w.heap.size w (w.alloc (.cells #[.int .i64 id, .int .i64 t, .int .i64 v, .int .i64 base, .int .i64 bt, .slice RA n Rc, .string s, .slice VA m Vc, .int .i64 role, .int .i64 lead, .int .i64 timer, .int .i64 commit, .slice GA gn Gc, .slice PA pn Pc] 30)) := by go_grown
  refine calls_of_wpQ Tryz.func18 rfl ?_
  intro Q hQ
  simp only [Tryz.ntmps18, List.size_toArray, List.length_cons, List.length_nil, Nat.reduceAdd, Nat.reduceSub, Array.replicate_succ, Array.replicate_zero, List.push_toArray, List.append_toArray, List.nil_append, List.cons_append]
  go_wp2_with fail
  refine (r17in_any _ _ _ _).mono ?_
  rintro e w' ⟨rfl, rfl⟩
  cases c1 : inB id 1 9
  · have hf := hid_mk (hf1.out c1)
    replace c1 := hid_mk c1
    go_wp2
    refine ends_ret hQ (results_tmp rfl _ _ _) rfl ?_
    exact ⟨ret_bool hf.out.symm, q0⟩
  replace c1 := hid_mk c1
  go_wp2_with fail
  refine (HRight_any ⟨t, v, ⟨base, bt, rs⟩, s, vs⟩ ⟨RA, n, Rc⟩ ⟨VA, m, Vc⟩ _ (B := B) (by dsimp only; omega) (by dsimp only; omega) (hr.to (by go_grown)) (hi.to (by go_grown)) (ht.to (by go_grown))).mono ?_
  rintro e w1 ⟨rfl, hb1⟩
  have q1 := (after (w := w) hb1 (by go_grown)).1
  have hX1 := hid_mk (hX0.out.keep hb1)
  clear hb1
  obtain ⟨xl, x0, x1, x2, x3, x4, x5, x6, x7, x8, x9, x10, x11, x12, x13⟩ := blk14 hX1.out
  cases c2 : rightH ⟨t, v, ⟨base, bt, rs⟩, s, vs⟩
  · have hf := hid_mk (hf2.out c2)
    replace c2 := hid_mk c2
    go_wp2
    refine ends_ret hQ (results_tmp rfl _ _ _) rfl ?_
    exact ⟨ret_bool hf.out.symm, q1⟩
  have hsh := hid_mk (right_shaped c2)
  replace c2 := hid_mk c2
  go_wp2_with fail
  refine (qrefRight_any VA m Vc vs _ B (by omega) (hi.to (by go_grown))).mono ?_
  rintro e w' ⟨rfl, rfl⟩
  cases c3 : rightL vs
  · have hf := hid_mk (hf3.out c3)
    replace c3 := hid_mk c3
    go_wp2
    refine ends_ret hQ (results_tmp rfl _ _ _) rfl ?_
    exact ⟨ret_bool hf.out.symm, q1⟩
  replace c3 := hid_mk c3
  go_wp2_with fail
  refine (r17in_any _ _ _ _).mono ?_
  rintro e w' ⟨rfl, rfl⟩
  cases c4 : inB role 0 2
  · have hf := hid_mk (hf4.out c4)
    replace c4 := hid_mk c4
    go_wp2
    refine ends_ret hQ (results_tmp rfl _ _ _) rfl ?_
    exact ⟨ret_bool hf.out.symm, q1⟩
  have b4 : 0 ≤ role ∧ role ≤ 2 := by simpa [inB] using c4
  replace c4 := hid_mk c4
  obtain ⟨ht0, hht0⟩ : ∃ z, (decide (0 < role) && t == 0) = z := ⟨_, rfl⟩
  cases ht0
  case true =>
    have e5 : 0 < role ∧ t = 0 := by simpa using hht0
    have hf := hid_mk (hf5.out e5.1 e5.2)
    have e6 : (role == 0) = false := by have := e5.1; simp; omega
    have e8 : (role != 0) = true := by have := e5.1; simp; omega
    have e7 : (t == 0) = true := by simpa using e5.2
    clear e5 hht0
    go_wp2
    refine ends_ret hQ (results_tmp rfl _ _ _) rfl ?_
    exact ⟨ret_bool hf.out.symm, q1⟩
  have c5 := hid_mk hht0
  have c5' : ((role == 0) = true ∧ (role != 0) = false) ∨ (((role == 0) = false ∧ (role != 0) = true) ∧ (t == 0) = false) := by
    by_cases hr0 : 0 < role
    · exact .inr ⟨⟨by simp; omega, by simp; omega⟩, by simpa [hr0] using hht0⟩
    · exact .inl ⟨by simp; omega, by simp; omega⟩
  clear hht0
  rcases c5' with ⟨hr0, hr00⟩ | ⟨⟨hr0, hr00⟩, ht0⟩
  · go_wp2_with fail
    refine (r17in_any _ _ _ _).mono ?_
    rintro e w' ⟨rfl, rfl⟩
    cases c6 : inB lead 0 9
    · have hf := hid_mk (hf6.out c6)
      replace c6 := hid_mk c6
      go_wp2
      refine ends_ret hQ (results_tmp rfl _ _ _) rfl ?_
      exact ⟨ret_bool hf.out.symm, q1⟩
    replace c6 := hid_mk c6
    go_wp2_with fail
    refine (r17in_any _ _ _ _).mono ?_
    rintro e w' ⟨rfl, rfl⟩
    cases c7 : inB timer 0 1048576
    · have hf := hid_mk (hf7.out c7)
      replace c7 := hid_mk c7
      go_wp2
      refine ends_ret hQ (results_tmp rfl _ _ _) rfl ?_
      exact ⟨ret_bool hf.out.symm, q1⟩
    replace c7 := hid_mk c7
    go_wp2_with fail
    refine (rises_any GA gn Gc got _ (B := B) (by omega) (hg.to (by go_grown))).mono ?_
    rintro e w2 ⟨rfl, hb2⟩
    have q2 := (after (w := w) hb2 (by go_grown)).1
    have hX2 := hid_mk (hX1.out.keep hb2)
    clear xl x0 x1 x2 x3 x4 x5 x6 x7 x8 x9 x10 x11 x12 x13 hb2
    obtain ⟨xl, x0, x1, x2, x3, x4, x5, x6, x7, x8, x9, x10, x11, x12, x13⟩ := blk14 hX2.out
    cases c9 : ascL none got
    · have hf := hid_mk (hf9.out c9)
      replace c9 := hid_mk c9
      go_wp2
      refine ends_ret hQ (results_tmp rfl _ _ _) rfl ?_
      exact ⟨ret_bool hf.out.symm, q2⟩
    have hsb0 := shaped_bounds hsh.out
    dsimp only at hsb0
    go_wp2_with fail
    refine (refLast_any ⟨base, bt, rs⟩ RA n Rc _ (by omega) hrl.out (by dsimp only; omega) (by dsimp only; omega)).mono ?_
    rintro e w3 ⟨rfl, hb3⟩
    have qL := (after (w := w) hb3 (by go_grown)).1
    have hXL := hid_mk (hX2.out.keep hb3)
    clear xl x0 x1 x2 x3 x4 x5 x6 x7 x8 x9 x10 x11 x12 x13 hb3
    obtain ⟨xl, x0, x1, x2, x3, x4, x5, x6, x7, x8, x9, x10, x11, x12, x13⟩ := blk14 hXL.out
    obtain ⟨last, hla⟩ : ∃ last, lastJ ⟨base, bt, rs⟩ = last := ⟨_, rfl⟩
    have hlb : 0 ≤ last ∧ last ≤ 1073741824 := by
      have h8 := right_bounds (shaped_J hsh.out)
      rw [← hla]
      unfold lastJ
      dsimp only at *
      omega
    rw [hla] at hf8 hft ⊢
    replace hla := hid_mk hla
    clear hsb0
    obtain ⟨R2, hR2⟩ : ∃ R2, okPs id last none ps = R2 := ⟨_, rfl⟩
    have hjoin : Hid (rightN NN = (R2 && inB commit base last)) := by
      cases c8 : inB commit base last with
      | false => rw [Hid, hf8.out c8, Bool.and_false]
      | true => rw [Hid, hft.out c1.out c2.out c3.out c4.out c5.out c6.out c7.out c8 c9, hR2, Bool.and_true]
    have hR0 : Hid (R2 = okPs id last (prevP ps 0) (ps.drop 0)) := hR2.symm
    clear hR2
    replace c9 := hid_mk c9
    clear hf1 hf2 hf3 hf4 hf5 hf6 hf7 hf8 hf9 hft c1 c2 c3 c4 c5 c6 c7 c9 hX0 hX1 hX2 q0 q1 q2
    go_wp2
    clear xl x0 x1 x2 x3 x4 x5 x6 x7 x8 x9 x10 x11 x12 x13
    go_loopw [4, 63] (fun _ i wr => ∃ k : Nat, k ≤ pn ∧ i = .int .i64 k ∧ Below w.heap.size w wr ∧ Hid (R2 = okPs id last (prevP ps k) (ps.drop k)) ∧ Hid (Blk wr w.heap.size 30 #[.int .i64 id, .int .i64 t, .int .i64 v, .int .i64 base, .int .i64 bt, .slice RA n Rc, .string s, .slice VA m Vc, .int .i64 role, .int .i64 lead, .int .i64 timer, .int .i64 commit, .slice GA gn Gc, .slice PA pn Pc])) (fun _ i _ => pn - (intOf i).toNat)
    case atStart => exact ⟨0, Nat.zero_le _, rfl, qL, hR0, hXL⟩
    case round =>
      clear hXL
      obtain ⟨k, hk, rfl, hb, hn, hX⟩ := hrel
      by_cases hlt : k < pn
      · obtain ⟨b, o, r, rfl, hbb, hd, ci, cn, cm⟩ := (hps.to hb).at_ hlt
        replace hd := hid_mk hd
        have hp1 := hid_mk (prevP_succ hd.out)
        have xl := hX.out.lt
        have x0 := hX.out.cell 0
        have x13 := hX.out.cell 13
        change _ = some (Value.int .i64 id) at x0
        change _ = some (Value.slice (some ⟨b, o, none⟩) pn Pc) at x13
        obtain ⟨rid, rnx, rmt⟩ := r
        dsimp only at ci cn cm hp1
        have hb2 : Below w.heap.size w (wr.alloc (.cells #[.int .i64 rid, .int .i64 rnx, .int .i64 rmt] 53)) := hb.alloc hb.size _
        have hX2 := hid_mk (hX.out.alloc (.cells #[.int .i64 rid, .int .i64 rnx, .int .i64 rmt] 53))
        rcases Nat.eq_zero_or_pos k with h0 | h0
        · subst h0
          rw [prevP_zero] at hn
          rw [Nat.zero_mul, Nat.add_zero] at ci cn cm
          cases p1 : inB rid 1 9
          · skip
            go_wp2
            go_quiet ((go_at_call 58; exact Calls.quiet_of_same (r17in_q (by assumption))))
            go_wp2
            refine ends_ret hQ (results_tmp rfl _ _ _) rfl ?_
            exact ⟨ret_bool (by rw [hjoin.out, hn.out, hd.out, okPs, if_neg (by unfold okP; simp [p1])]; rfl), below_drewN_ hb2 _⟩
          by_cases p2 : rid = id
          · have p2' : (rid == id) = true := by simpa using p2
            replace p2 := hid_mk p2
            go_wp2
            go_quiet ((go_at_call 58; exact Calls.quiet_of_same (r17in_q (by assumption))))
            go_wp2
            refine ends_ret hQ (results_tmp rfl _ _ _) rfl ?_
            exact ⟨ret_bool (by rw [hjoin.out, hn.out, hd.out, okPs, if_neg (by unfold okP; simp [p2'])]; rfl), below_drewN_ hb2 _⟩
          have p2' : (rid == id) = false := by simpa using p2
          replace p2 := hid_mk p2
          cases p4 : inB rnx 1 (last + 1)
          · skip
            go_wp2
            go_quiet ((go_at_call 58; exact Calls.quiet_of_same (r17in_q (by assumption))))
            go_wp2
            refine ends_ret hQ (results_tmp rfl _ _ _) rfl ?_
            exact ⟨ret_bool (by rw [hjoin.out, hn.out, hd.out, okPs, if_neg (by unfold okP; simp [p4])]; rfl), below_drewN_ hb2 _⟩
          have p4b : 1 ≤ rnx ∧ rnx ≤ last + 1 := by simpa [inB] using p4
          have p4w : IntKind.i64.wrap (rnx - 1) = rnx - 1 := IntWalk.i64_in _ (by omega)
          cases p5 : inB rmt 0 (rnx - 1)
          · skip
            go_wp2
            go_quiet ((go_at_call 58; exact Calls.quiet_of_same (r17in_q (by assumption))))
            go_wp2
            refine ends_ret hQ (results_tmp rfl _ _ _) rfl ?_
            exact ⟨ret_bool (by rw [hjoin.out, hn.out, hd.out, okPs, if_neg (by unfold okP; simp [p5])]; rfl), below_drewN_ hb2 _⟩
          have hok : okP id last (none) ⟨rid, rnx, rmt⟩ = true := by
            unfold okP
            simp only [p1, p2', p4, p5]
            rfl
          replace hok := hid_mk hok
          go_wp2
          go_quiet ((go_at_call 58; exact Calls.quiet_of_same (r17in_q (by assumption))))
          go_wp2
          go_roundw
          case rel => exact ⟨0 + 1, by omega, by go_num, below_drewN_ hb2 _, by rw [Hid, hn.out, hd.out, okPs, if_pos hok.out, hp1.out], hX2⟩
          case measure => simp [intOf]; omega
        · obtain ⟨kp, rfl⟩ : ∃ kp, k = kp + 1 := ⟨k - 1, by omega⟩
          obtain ⟨b', o', u, e, _, hd', cu, _, _⟩ := (hps.to hb).at_ (show kp < pn by omega)
          cases e
          obtain ⟨u, unx, umt⟩ := u
          dsimp only at cu
          have hp := hid_mk (prevP_succ hd')
          replace hd' := hid_mk hd'
          dsimp only at hp
          rw [hp.out] at hn
          cases p1 : inB rid 1 9
          · skip
            go_wp2
            go_quiet ((go_at_call 58; exact Calls.quiet_of_same (r17in_q (by assumption))))
            go_wp2
            refine ends_ret hQ (results_tmp rfl _ _ _) rfl ?_
            exact ⟨ret_bool (by rw [hjoin.out, hn.out, hd.out, okPs, if_neg (by unfold okP; simp [p1])]; rfl), below_drewN_ hb2 _⟩
          by_cases p2 : rid = id
          · have p2' : (rid == id) = true := by simpa using p2
            replace p2 := hid_mk p2
            go_wp2
            go_quiet ((go_at_call 58; exact Calls.quiet_of_same (r17in_q (by assumption))))
            go_wp2
            refine ends_ret hQ (results_tmp rfl _ _ _) rfl ?_
            exact ⟨ret_bool (by rw [hjoin.out, hn.out, hd.out, okPs, if_neg (by unfold okP; simp [p2'])]; rfl), below_drewN_ hb2 _⟩
          have p2' : (rid == id) = false := by simpa using p2
          replace p2 := hid_mk p2
          by_cases p3 : rid ≤ u
          · have p3' : decide (rid ≤ u) = true := by simpa using p3
            go_wp2
            go_quiet ((go_at_call 58; exact Calls.quiet_of_same (r17in_q (by assumption))))
            go_wp2
            refine ends_ret hQ (results_tmp rfl _ _ _) rfl ?_
            exact ⟨ret_bool (by rw [hjoin.out, hn.out, hd.out, okPs, if_neg (by unfold okP; simp; intros; omega)]; rfl), below_drewN_ hb2 _⟩
          have p3' : decide (rid ≤ u) = false := by simpa using p3
          cases p4 : inB rnx 1 (last + 1)
          · skip
            go_wp2
            go_quiet ((go_at_call 58; exact Calls.quiet_of_same (r17in_q (by assumption))))
            go_wp2
            refine ends_ret hQ (results_tmp rfl _ _ _) rfl ?_
            exact ⟨ret_bool (by rw [hjoin.out, hn.out, hd.out, okPs, if_neg (by unfold okP; simp [p4])]; rfl), below_drewN_ hb2 _⟩
          have p4b : 1 ≤ rnx ∧ rnx ≤ last + 1 := by simpa [inB] using p4
          have p4w : IntKind.i64.wrap (rnx - 1) = rnx - 1 := IntWalk.i64_in _ (by omega)
          cases p5 : inB rmt 0 (rnx - 1)
          · skip
            go_wp2
            go_quiet ((go_at_call 58; exact Calls.quiet_of_same (r17in_q (by assumption))))
            go_wp2
            refine ends_ret hQ (results_tmp rfl _ _ _) rfl ?_
            exact ⟨ret_bool (by rw [hjoin.out, hn.out, hd.out, okPs, if_neg (by unfold okP; simp [p5])]; rfl), below_drewN_ hb2 _⟩
          have hok : okP id last (some u) ⟨rid, rnx, rmt⟩ = true := by
            unfold okP
            simp only [p1, p2', p4, p5]
            simp; omega
          replace hok := hid_mk hok
          go_wp2
          go_quiet ((go_at_call 58; exact Calls.quiet_of_same (r17in_q (by assumption))))
          go_wp2
          go_roundw
          case rel => exact ⟨kp + 1 + 1, by omega, by go_num, below_drewN_ hb2 _, by rw [Hid, hn.out, hd.out, okPs, if_pos hok.out, hp1.out], hX2⟩
          case measure => simp [intOf]; omega
      · have hend := hid_mk (show R2 = true by rw [hn.out, List.drop_eq_nil_of_le (by have := hps.len; omega)]; rfl)
        have x0 := hX.out.cell 11
        have x1 := hX.out.cell 3
        have xl := hX.out.lt
        change _ = some (Value.int .i64 commit) at x0
        change _ = some (Value.int .i64 base) at x1
        go_wp2_with fail
        refine (r17in_any _ _ _ _).mono ?_
        rintro e w' ⟨rfl, rfl⟩
        go_wp2
        refine ends_ret hQ (results_tmp rfl _ _ _) rfl ?_
        exact ⟨ret_bool (by rw [hjoin.out, hend.out]; rfl), hb⟩
  · go_wp2_with fail
    refine (r17in_any _ _ _ _).mono ?_
    rintro e w' ⟨rfl, rfl⟩
    cases c6 : inB lead 0 9
    · have hf := hid_mk (hf6.out c6)
      replace c6 := hid_mk c6
      go_wp2
      refine ends_ret hQ (results_tmp rfl _ _ _) rfl ?_
      exact ⟨ret_bool hf.out.symm, q1⟩
    replace c6 := hid_mk c6
    go_wp2_with fail
    refine (r17in_any _ _ _ _).mono ?_
    rintro e w' ⟨rfl, rfl⟩
    cases c7 : inB timer 0 1048576
    · have hf := hid_mk (hf7.out c7)
      replace c7 := hid_mk c7
      go_wp2
      refine ends_ret hQ (results_tmp rfl _ _ _) rfl ?_
      exact ⟨ret_bool hf.out.symm, q1⟩
    replace c7 := hid_mk c7
    go_wp2_with fail
    refine (rises_any GA gn Gc got _ (B := B) (by omega) (hg.to (by go_grown))).mono ?_
    rintro e w2 ⟨rfl, hb2⟩
    have q2 := (after (w := w) hb2 (by go_grown)).1
    have hX2 := hid_mk (hX1.out.keep hb2)
    clear xl x0 x1 x2 x3 x4 x5 x6 x7 x8 x9 x10 x11 x12 x13 hb2
    obtain ⟨xl, x0, x1, x2, x3, x4, x5, x6, x7, x8, x9, x10, x11, x12, x13⟩ := blk14 hX2.out
    cases c9 : ascL none got
    · have hf := hid_mk (hf9.out c9)
      replace c9 := hid_mk c9
      go_wp2
      refine ends_ret hQ (results_tmp rfl _ _ _) rfl ?_
      exact ⟨ret_bool hf.out.symm, q2⟩
    have hsb0 := shaped_bounds hsh.out
    dsimp only at hsb0
    go_wp2_with fail
    refine (refLast_any ⟨base, bt, rs⟩ RA n Rc _ (by omega) hrl.out (by dsimp only; omega) (by dsimp only; omega)).mono ?_
    rintro e w3 ⟨rfl, hb3⟩
    have qL := (after (w := w) hb3 (by go_grown)).1
    have hXL := hid_mk (hX2.out.keep hb3)
    clear xl x0 x1 x2 x3 x4 x5 x6 x7 x8 x9 x10 x11 x12 x13 hb3
    obtain ⟨xl, x0, x1, x2, x3, x4, x5, x6, x7, x8, x9, x10, x11, x12, x13⟩ := blk14 hXL.out
    obtain ⟨last, hla⟩ : ∃ last, lastJ ⟨base, bt, rs⟩ = last := ⟨_, rfl⟩
    have hlb : 0 ≤ last ∧ last ≤ 1073741824 := by
      have h8 := right_bounds (shaped_J hsh.out)
      rw [← hla]
      unfold lastJ
      dsimp only at *
      omega
    rw [hla] at hf8 hft ⊢
    replace hla := hid_mk hla
    clear hsb0
    obtain ⟨R2, hR2⟩ : ∃ R2, okPs id last none ps = R2 := ⟨_, rfl⟩
    have hjoin : Hid (rightN NN = (R2 && inB commit base last)) := by
      cases c8 : inB commit base last with
      | false => rw [Hid, hf8.out c8, Bool.and_false]
      | true => rw [Hid, hft.out c1.out c2.out c3.out c4.out c5.out c6.out c7.out c8 c9, hR2, Bool.and_true]
    have hR0 : Hid (R2 = okPs id last (prevP ps 0) (ps.drop 0)) := hR2.symm
    clear hR2
    replace c9 := hid_mk c9
    clear hf1 hf2 hf3 hf4 hf5 hf6 hf7 hf8 hf9 hft c1 c2 c3 c4 c5 c6 c7 c9 hX0 hX1 hX2 q0 q1 q2
    go_wp2
    clear xl x0 x1 x2 x3 x4 x5 x6 x7 x8 x9 x10 x11 x12 x13
    go_loopw [4, 63] (fun _ i wr => ∃ k : Nat, k ≤ pn ∧ i = .int .i64 k ∧ Below w.heap.size w wr ∧ Hid (R2 = okPs id last (prevP ps k) (ps.drop k)) ∧ Hid (Blk wr w.heap.size 30 #[.int .i64 id, .int .i64 t, .int .i64 v, .int .i64 base, .int .i64 bt, .slice RA n Rc, .string s, .slice VA m Vc, .int .i64 role, .int .i64 lead, .int .i64 timer, .int .i64 commit, .slice GA gn Gc, .slice PA pn Pc])) (fun _ i _ => pn - (intOf i).toNat)
    case atStart => exact ⟨0, Nat.zero_le _, rfl, qL, hR0, hXL⟩
    case round =>
      clear hXL
      obtain ⟨k, hk, rfl, hb, hn, hX⟩ := hrel
      by_cases hlt : k < pn
      · obtain ⟨b, o, r, rfl, hbb, hd, ci, cn, cm⟩ := (hps.to hb).at_ hlt
        replace hd := hid_mk hd
        have hp1 := hid_mk (prevP_succ hd.out)
        have xl := hX.out.lt
        have x0 := hX.out.cell 0
        have x13 := hX.out.cell 13
        change _ = some (Value.int .i64 id) at x0
        change _ = some (Value.slice (some ⟨b, o, none⟩) pn Pc) at x13
        obtain ⟨rid, rnx, rmt⟩ := r
        dsimp only at ci cn cm hp1
        have hb2 : Below w.heap.size w (wr.alloc (.cells #[.int .i64 rid, .int .i64 rnx, .int .i64 rmt] 53)) := hb.alloc hb.size _
        have hX2 := hid_mk (hX.out.alloc (.cells #[.int .i64 rid, .int .i64 rnx, .int .i64 rmt] 53))
        rcases Nat.eq_zero_or_pos k with h0 | h0
        · subst h0
          rw [prevP_zero] at hn
          rw [Nat.zero_mul, Nat.add_zero] at ci cn cm
          cases p1 : inB rid 1 9
          · skip
            go_wp2
            go_quiet ((go_at_call 58; exact Calls.quiet_of_same (r17in_q (by assumption))))
            go_wp2
            refine ends_ret hQ (results_tmp rfl _ _ _) rfl ?_
            exact ⟨ret_bool (by rw [hjoin.out, hn.out, hd.out, okPs, if_neg (by unfold okP; simp [p1])]; rfl), below_drewN_ hb2 _⟩
          by_cases p2 : rid = id
          · have p2' : (rid == id) = true := by simpa using p2
            replace p2 := hid_mk p2
            go_wp2
            go_quiet ((go_at_call 58; exact Calls.quiet_of_same (r17in_q (by assumption))))
            go_wp2
            refine ends_ret hQ (results_tmp rfl _ _ _) rfl ?_
            exact ⟨ret_bool (by rw [hjoin.out, hn.out, hd.out, okPs, if_neg (by unfold okP; simp [p2'])]; rfl), below_drewN_ hb2 _⟩
          have p2' : (rid == id) = false := by simpa using p2
          replace p2 := hid_mk p2
          cases p4 : inB rnx 1 (last + 1)
          · skip
            go_wp2
            go_quiet ((go_at_call 58; exact Calls.quiet_of_same (r17in_q (by assumption))))
            go_wp2
            refine ends_ret hQ (results_tmp rfl _ _ _) rfl ?_
            exact ⟨ret_bool (by rw [hjoin.out, hn.out, hd.out, okPs, if_neg (by unfold okP; simp [p4])]; rfl), below_drewN_ hb2 _⟩
          have p4b : 1 ≤ rnx ∧ rnx ≤ last + 1 := by simpa [inB] using p4
          have p4w : IntKind.i64.wrap (rnx - 1) = rnx - 1 := IntWalk.i64_in _ (by omega)
          cases p5 : inB rmt 0 (rnx - 1)
          · skip
            go_wp2
            go_quiet ((go_at_call 58; exact Calls.quiet_of_same (r17in_q (by assumption))))
            go_wp2
            refine ends_ret hQ (results_tmp rfl _ _ _) rfl ?_
            exact ⟨ret_bool (by rw [hjoin.out, hn.out, hd.out, okPs, if_neg (by unfold okP; simp [p5])]; rfl), below_drewN_ hb2 _⟩
          have hok : okP id last (none) ⟨rid, rnx, rmt⟩ = true := by
            unfold okP
            simp only [p1, p2', p4, p5]
            rfl
          replace hok := hid_mk hok
          go_wp2
          go_quiet ((go_at_call 58; exact Calls.quiet_of_same (r17in_q (by assumption))))
          go_wp2
          go_roundw
          case rel => exact ⟨0 + 1, by omega, by go_num, below_drewN_ hb2 _, by rw [Hid, hn.out, hd.out, okPs, if_pos hok.out, hp1.out], hX2⟩
          case measure => simp [intOf]; omega
        · obtain ⟨kp, rfl⟩ : ∃ kp, k = kp + 1 := ⟨k - 1, by omega⟩
          obtain ⟨b', o', u, e, _, hd', cu, _, _⟩ := (hps.to hb).at_ (show kp < pn by omega)
          cases e
          obtain ⟨u, unx, umt⟩ := u
          dsimp only at cu
          have hp := hid_mk (prevP_succ hd')
          replace hd' := hid_mk hd'
          dsimp only at hp
          rw [hp.out] at hn
          cases p1 : inB rid 1 9
          · skip
            go_wp2
            go_quiet ((go_at_call 58; exact Calls.quiet_of_same (r17in_q (by assumption))))
            go_wp2
            refine ends_ret hQ (results_tmp rfl _ _ _) rfl ?_
            exact ⟨ret_bool (by rw [hjoin.out, hn.out, hd.out, okPs, if_neg (by unfold okP; simp [p1])]; rfl), below_drewN_ hb2 _⟩
          by_cases p2 : rid = id
          · have p2' : (rid == id) = true := by simpa using p2
            replace p2 := hid_mk p2
            go_wp2
            go_quiet ((go_at_call 58; exact Calls.quiet_of_same (r17in_q (by assumption))))
            go_wp2
            refine ends_ret hQ (results_tmp rfl _ _ _) rfl ?_
            exact ⟨ret_bool (by rw [hjoin.out, hn.out, hd.out, okPs, if_neg (by unfold okP; simp [p2'])]; rfl), below_drewN_ hb2 _⟩
          have p2' : (rid == id) = false := by simpa using p2
          replace p2 := hid_mk p2
          by_cases p3 : rid ≤ u
          · have p3' : decide (rid ≤ u) = true := by simpa using p3
            go_wp2
            go_quiet ((go_at_call 58; exact Calls.quiet_of_same (r17in_q (by assumption))))
            go_wp2
            refine ends_ret hQ (results_tmp rfl _ _ _) rfl ?_
            exact ⟨ret_bool (by rw [hjoin.out, hn.out, hd.out, okPs, if_neg (by unfold okP; simp; intros; omega)]; rfl), below_drewN_ hb2 _⟩
          have p3' : decide (rid ≤ u) = false := by simpa using p3
          cases p4 : inB rnx 1 (last + 1)
          · skip
            go_wp2
            go_quiet ((go_at_call 58; exact Calls.quiet_of_same (r17in_q (by assumption))))
            go_wp2
            refine ends_ret hQ (results_tmp rfl _ _ _) rfl ?_
            exact ⟨ret_bool (by rw [hjoin.out, hn.out, hd.out, okPs, if_neg (by unfold okP; simp [p4])]; rfl), below_drewN_ hb2 _⟩
          have p4b : 1 ≤ rnx ∧ rnx ≤ last + 1 := by simpa [inB] using p4
          have p4w : IntKind.i64.wrap (rnx - 1) = rnx - 1 := IntWalk.i64_in _ (by omega)
          cases p5 : inB rmt 0 (rnx - 1)
          · skip
            go_wp2
            go_quiet ((go_at_call 58; exact Calls.quiet_of_same (r17in_q (by assumption))))
            go_wp2
            refine ends_ret hQ (results_tmp rfl _ _ _) rfl ?_
            exact ⟨ret_bool (by rw [hjoin.out, hn.out, hd.out, okPs, if_neg (by unfold okP; simp [p5])]; rfl), below_drewN_ hb2 _⟩
          have hok : okP id last (some u) ⟨rid, rnx, rmt⟩ = true := by
            unfold okP
            simp only [p1, p2', p4, p5]
            simp; omega
          replace hok := hid_mk hok
          go_wp2
          go_quiet ((go_at_call 58; exact Calls.quiet_of_same (r17in_q (by assumption))))
          go_wp2
          go_roundw
          case rel => exact ⟨kp + 1 + 1, by omega, by go_num, below_drewN_ hb2 _, by rw [Hid, hn.out, hd.out, okPs, if_pos hok.out, hp1.out], hX2⟩
          case measure => simp [intOf]; omega
      · have hend := hid_mk (show R2 = true by rw [hn.out, List.drop_eq_nil_of_le (by have := hps.len; omega)]; rfl)
        have x0 := hX.out.cell 11
        have x1 := hX.out.cell 3
        have xl := hX.out.lt
        change _ = some (Value.int .i64 commit) at x0
        change _ = some (Value.int .i64 base) at x1
        go_wp2_with fail
        refine (r17in_any _ _ _ _).mono ?_
        rintro e w' ⟨rfl, rfl⟩
        go_wp2
        refine ends_ret hQ (results_tmp rfl _ _ _) rfl ?_
        exact ⟨ret_bool (by rw [hjoin.out, hend.out]; rfl), hb⟩
end Go.Proofs.YtncdjmpdbinanaaGreatDoor
