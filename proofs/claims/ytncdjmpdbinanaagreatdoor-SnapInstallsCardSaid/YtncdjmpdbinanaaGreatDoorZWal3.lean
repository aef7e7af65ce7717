/-
  WHAT IS PROVED HERE: which state may be, as the reference tells it. Conditions: the slices are of at most 2^47 elements; the library's table stands.
-/
import Derived.Test.YtncdjmpdbinanaaGreatDoorZGEl0
import Derived.Test.YtncdjmpdbinanaaGreatDoorZGVl5
namespace Go.Proofs.YtncdjmpdbinanaaGreatDoor
open Go.RowKit

theorem put_res (L : Nat) (a b : ByteArray) : ∃ (x : ByteArray) (k : Int), (if L ≤ 131072 then Value.tuple #[.string a, .int .i64 0] else .tuple #[.string b, .int .i64 2]) = .tuple #[.string x, .int .i64 k] ∧ (k == 0) = decide (L ≤ 131072) := by
  by_cases h : L ≤ 131072
  · exact ⟨a, 0, by rw [if_pos h], by simp [h]⟩
  · exact ⟨b, 2, by rw [if_neg h], by simp [h]⟩
set_option maxRecDepth 100000 in
set_option maxHeartbeats 6400000 in
theorem RBytes_any (h : Hd) (R V : Slc) (w : World) {B : Nat} (hm : R.n ≤ 140737488355328) (hvm : V.n ≤ 140737488355328) (hr : Recs w B R.A R.n h.l.rs) (hi : Ints w B V.A V.n h.vs) (ht : Tab w) :
    Calls Tryz.prog 122 #[hdV h R V] w fun e w' => (∃ x, e = .returned (.tuple #[.string x, .bool (rightH h)])) ∧ Below w.heap.size w w' := by
  obtain ⟨i0, hi0, hz0, hz1, hz2⟩ := info_val valInfo
  obtain ⟨hh, hhe⟩ : ∃ hh, h = hh := ⟨_, rfl⟩
  rw [hhe]
  obtain ⟨t, hv, ⟨base, bt, rs⟩, s, vs⟩ := h
  obtain ⟨RA, n, Rc⟩ := R
  obtain ⟨VA, m, Vc⟩ := V
  have hlen := hid_mk hr.len
  have hlv := hid_mk hi.len
  dsimp only at hr hi hlen hlv hm hvm
  have hf1 : Hid (inB t 0 1073741824 = false → rightH hh = false) := fun e => by rw [← hhe]; unfold rightH shapedH; simp [e]
  have hf2 : Hid (inB hv 0 9 = false → rightH hh = false) := fun e => by rw [← hhe]; unfold rightH shapedH; simp [e]
  have hf3 : Hid (logT ⟨base, bt, rs⟩ t = false → rightH hh = false) := fun e => by rw [← hhe]; unfold rightH shapedH; simp [e]
  have hf4 : Hid ((ascL none vs && decide (vs.length ≤ 7)) = false → rightH hh = false) := fun e => by rw [← hhe]; unfold rightH shapedH; simp only [e]; simp
  have hf5 : Hid (131072 < s.size → rightH hh = false) := fun e => by rw [← hhe]; unfold rightH shapedH; rw [show decide (s.size ≤ 131072) = false from by simp; omega]; simp
  have hX0 := hid_mk (Blk.new w 27 #[.int .i64 t, .int .i64 hv, .int .i64 base, .int .i64 bt, .slice RA n Rc, .string s, .slice VA m Vc])
  have q0 : Below w.heap.size w (w.alloc (.cells #[.int .i64 t, .int .i64 hv, .int .i64 base, .int .i64 bt, .slice RA n Rc, .string s, .slice VA m Vc] 27)) := by go_grown
  rw [← hhe]
  unfold hdV
  dsimp only
  rw [hhe]
  refine calls_of_wpQ Tryz.func122 rfl ?_
  intro Q hQ
  simp only [Tryz.ntmps122, List.size_toArray, List.length_cons, List.length_nil, Nat.reduceAdd, Nat.reduceSub, Array.replicate_succ, Array.replicate_zero, List.push_toArray, List.append_toArray, List.nil_append, List.cons_append]
  go_wp2_with fail
  refine (rin_any _ _ _ _).mono ?_
  rintro e w' ⟨rfl, rfl⟩
  cases h1 : inB t 0 1073741824
  · have hf := hid_mk (hf1.out h1)
    replace h1 := hid_mk h1
    go_wp2
    refine ends_ret hQ (results_tmp2 rfl _ _ _) rfl ?_
    exact ⟨⟨_, by rw [hf.out]; rfl⟩, q0⟩
  have g1 := hid_mk h1
  clear h1
  go_wp2_with fail
  refine (rin_any _ _ _ _).mono ?_
  rintro e w' ⟨rfl, rfl⟩
  cases h2 : inB hv 0 9
  · have hf := hid_mk (hf2.out h2)
    replace h2 := hid_mk h2
    go_wp2
    refine ends_ret hQ (results_tmp2 rfl _ _ _) rfl ?_
    exact ⟨⟨_, by rw [hf.out]; rfl⟩, q0⟩
  have g2 := hid_mk h2
  clear h2
  go_wp2_with fail
  refine (RLog_any ⟨base, bt, rs⟩ t RA n Rc _ (B := B) hm (hr.to (by go_grown))).mono ?_
  rintro e w1 ⟨rfl, hb1⟩
  have q1 := (after (w := w) hb1 (by go_grown)).1
  have hX1 := hid_mk (hX0.out.keep hb1)
  clear hb1
  obtain ⟨xl, x0, x1, x2, x3, x4, x5, x6⟩ := blk7 hX1.out
  cases h3 : logT ⟨base, bt, rs⟩ t
  · have hf := hid_mk (hf3.out h3)
    replace h3 := hid_mk h3
    go_wp2
    refine ends_ret hQ (results_tmp2 rfl _ _ _) rfl ?_
    exact ⟨⟨_, by rw [hf.out]; rfl⟩, q1⟩
  have g3 := hid_mk h3
  clear h3
  go_wp2_with fail
  refine (RVoters_any VA m Vc vs _ (B := B) hvm (hi.to (by go_grown))).mono ?_
  rintro e w3 ⟨rfl, hb3⟩
  have q3 := (after (w := w) hb3 (by go_grown)).1
  have hX3 := hid_mk (hX1.out.keep hb3)
  clear hb3 xl x0 x1 x2 x3 x4 x5 x6
  obtain ⟨xl, x0, x1, x2, x3, x4, x5, x6⟩ := blk7 hX3.out
  cases h4 : (ascL none vs && decide (vs.length ≤ 7))
  · have hf := hid_mk (hf4.out h4)
    replace h4 := hid_mk h4
    go_wp2
    refine ends_ret hQ (results_tmp2 rfl _ _ _) rfl ?_
    exact ⟨⟨_, by rw [hf.out]; rfl⟩, q3⟩
  have g4 := hid_mk h4
  clear h4
  by_cases h5 : 131072 < s.size
  · have hf := hid_mk (hf5.out h5)
    go_wp2
    refine ends_ret hQ (results_tmp2 rfl _ _ _) rfl ?_
    exact ⟨⟨_, by rw [hf.out]; rfl⟩, q3⟩
  have hs : shapedH ⟨t, hv, ⟨base, bt, rs⟩, s, vs⟩ = true := by
    unfold shapedH
    rw [g1.out, g2.out, g3.out, g4.out, show decide (s.size ≤ 131072) = true from by simp; omega]
    rfl
  clear hf1 hf2 hf3 hf4 hf5 g1 g2 g3 g4
  have hbd := shaped_bounds hs
  have hfr := shaped_fit hs
  have hfv := asc_fit none _ (shaped_asc hs)
  have hel := encH_len hs
  dsimp only at hbd hfr hfv
  have hm7 : m ≤ 7 := by have := hlv.out; omega
  have hn2 : n ≤ 200 := by have := hlen.out; omega
  obtain ⟨L, hL⟩ : ∃ L, (encH ⟨t, hv, ⟨base, bt, rs⟩, s, vs⟩).length = L := ⟨_, rfl⟩
  rw [hL] at hel
  obtain ⟨px, pk, hpr, hpk⟩ := put_res L ⟨(encH ⟨t, hv, ⟨base, bt, rs⟩, s, vs⟩).toArray⟩ ⟨#[]⟩
  have hrt : Hid (rightH hh = (pk == 0)) := by rw [Hid, ← hhe, hpk, ← hL]; unfold rightH; rw [hs]; rfl
  replace hpr := hid_mk hpr
  replace hL := hid_mk hL
  replace hhe := hid_mk hhe
  have hs' := hid_mk hs
  clear hs hbd hpk
  have hi := hi.to q3
  have hr := hr.to q3
  have ht := ht.to q3
  have hR0 := hid_mk (RowSt.new w3 1)
  have qx0 : Below w3.heap.size w3 (w3.alloc (.cells #[.int .i64 3, .int .i64 0, .string ⟨#[]⟩, .slice none 0 0] 163)) := by go_grown
  have he0 : Hid (([] : List Vn) = votN (vs.take 0)) := rfl
  have hwl := xl
  go_wp2
  clear xl x0 x1 x2 x3 x4 x5 x6
  go_loopw [6, 43] (fun _ i wr => ∃ (k : Nat) (Av : Option Addr) (c : Nat) (xs : List Vn), k ≤ m ∧ i = .int .i64 k ∧ Below w3.heap.size w3 wr ∧ Hid (RowSt wr (w3.heap.size) (.slice Av k c) (.slice Av k c) 1 k xs) ∧ Hid (xs = votN (vs.take k))) (fun _ i _ => m - (intOf i).toNat)
  case atStart => exact ⟨0, none, 0, [], Nat.zero_le _, rfl, qx0, hR0, he0⟩
  case round =>
    obtain ⟨k, Av, c, xs, hk, rfl, hb, hR, he⟩ := hrel
    have v3 := hR.out.box.cell 3
    have vl := hR.out.box.lt
    change _ = some (Value.slice Av k c) at v3
    by_cases hlt : k < m
    · obtain ⟨b, o, x, rfl, hbb, hd, hc⟩ := (hi.to (B := B) hb).at_ hlt
      have hxb := hfv x (List.mem_of_mem_drop (show x ∈ vs.drop k by rw [hd.out]; exact List.mem_cons_self ..))
      have hx0 : 0 ≤ x := by omega
      have hx1 : x ≤ 1073741824 := by omega
      clear hxb
      have hbz := hb.size
      go_wp2_with fail
      refine wp_region_T (fun w' => w'.cell? ⟨w3.heap.size, 3, none⟩ = some (.slice Av k c)) (fun j => decide (j < 7)) 8 (by kernel_rfl) (by kernel_rfl) ?_
      refine wpAnyT_take (i := 0) rfl (by kernel_rfl) (by kernel_rfl) (by kernel_rfl) rfl (by kernel_rfl) (fun _ _ _ h => h) rfl (fun w' hS => (by skip; go_simp; try with_reducible rfl)) v3 ?_
      simp only [Act.put]
      refine wpAnyT_take (i := 1) rfl (by kernel_rfl) (by kernel_rfl) (by kernel_rfl) rfl (by kernel_rfl) (fun _ _ _ h => h) rfl (fun w' hS => (by skip; go_simp; try with_reducible rfl)) v3 ?_
      simp only [Act.put]
      refine wpAnyT_take (i := 2) rfl (by kernel_rfl) (by kernel_rfl) (by kernel_rfl) rfl (by kernel_rfl) (fun _ _ _ h => h) rfl (fun w' hS => (by skip; go_simp; try with_reducible rfl)) v3 ?_
      simp only [Act.put]
      refine wpAnyT_one (i := 3) (by kernel_rfl) rfl (fun K hK => ?_)
      go_simp
      refine (rnum_any _ _).mono ?_
      rintro e w1 ⟨rfl, hb1⟩
      have q1 := (after (w := w3) hb1 (by go_grown)).1
      have hR1 := hid_mk (hR.out.keep (after hb1 (by go_grown)).1)
      clear hb1 v3 vl
      have v3 := hR1.out.box.cell 3
      have vl := hR1.out.box.lt
      change _ = some (Value.slice Av k c) at v3
      refine hK.out _ _ (fun _ => v3) ?_
      clear hK K
      try simp only [Act.put]
      refine wpAnyT_one (i := 4) (by kernel_rfl) rfl (fun K hK => ?_)
      go_simp
      refine hK.out _ _ (fun _ => (by go_keep)) ?_
      clear hK K
      try simp only [Act.put]
      refine wpAnyT_one (i := 5) (by kernel_rfl) rfl (fun K hK => ?_)
      refine step_append_any _ (by rfl) (.tmp 48) (.tmp 51) 161 (by rfl) (w3.heap.size + 1) 163 i0 _ 4 56 Tryz.underlying161 hi0 hz0 hz1 hz2 rfl (by omega) (.slice Av k c) k _ (by simp [Act.eval]) (hR1.out.keep (by go_grown)).own 0 (some ⟨w1.heap.size, 0, none⟩) 1 1 (valCells (numN x).v) (by simp [Act.eval]) (num_new w1 x) (val_one _) (by unfold maxLen; omega) (by omega) (by simp; omega) ?_
      intro v5 w5 own5 g5 at5
      have hR5 := hid_mk (RowSt.app (x := numN x) (hR1.out.keep (by go_grown)) g5 at5 own5 (num_ok _ hx0 hx1))
      have q5 : Below w3.heap.size w3 w5 := grown_below (by go_grown) g5 (fun k2 e => (by (have := (own_lt hR1.out.own _ e).1; omega)))
      obtain ⟨A5, c5, rfl, h51, h52⟩ := own_slice own5
      clear own5 g5 at5 v3 vl
      have v3 := hR5.out.box.cell 3
      have vl := hR5.out.box.lt
      have f3 := hR5.out.box.frozen 3
      change _ = some (Value.slice Av k c) at v3
      refine hK.out _ _ (fun _ => v3) ?_
      clear hK K
      try simp only [Act.put]
      refine wpAnyT_take (i := 6) rfl (by kernel_rfl) (by kernel_rfl) (by kernel_rfl) rfl (by kernel_rfl) (fun _ _ _ h => h) rfl (fun w' hS => (by skip; go_simp; try with_reducible rfl)) v3 ?_
      simp only [Act.put]
      refine wpAnyT_one (i := 7) (by kernel_rfl) rfl (fun K hK => ?_)
      go_simp
      refine hK.out _ _ (fun h => absurd h (by decide)) ?_
      clear hK K
      try simp only [Act.put]
      refine wpAnyT_done (by kernel_rfl) ?_ _
      go_wp2
      have hP := hid_mk hR5.out.put
      go_roundw
      case rel =>
        refine ⟨k + 1, A5, c5, _, by omega, by go_num, q5.setCell (p := ⟨w3.heap.size, 3, none⟩) (by simp; try omega) _, hP, ?_⟩
        rw [Hid, he.out, take_snoc hd.out]
        unfold votN
        rw [List.map_append]
        rfl
      case measure => simp [intOf]; omega
    · have hke := hid_mk (show vs.take k = vs from List.take_of_length_le (by have := hlv.out; omega))
      have hkm : k = m := by omega
      subst hkm
      have hV := hid_mk (show VOk wr (Ups (w3.heap.size)) 2 (lstV Av k c) (1 + k) (votEnc vs) from by
        have := hR.out.list (by omega)
        have e1 := he.out
        rw [hke.out] at e1
        rw [e1] at this
        have e2 : cntN (votN vs) = k := by
          unfold cntN votN
          rw [List.map_map]
          have : ∀ l : List Int, (l.map ((fun x : Vn => x.cnt) ∘ numN)).sum = l.length := by
            intro l
            induction l with
            | nil => rfl
            | cons a l ih => simp [numN] at ih ⊢; omega
          rw [this]
          exact hlv.out
        rw [e2] at this
        exact this)
      have hB := hid_mk hR.out.box
      have hX := hid_mk (hX3.out.keep hb)
      obtain ⟨xl, x0, x1, x2, x3, x4, x5, x6⟩ := blk7 hX.out
      obtain ⟨yl, y0, y1, y2, y3⟩ := blk4v hB.out
      clear v3 vl hi0 hz0 hz1 hz2 he hke
      go_wp2_with fail
      have hbz := hb.size
      have qr : Below wr.heap.size wr wr := Below.refl _ _
      have hwz : w3.heap.size < wr.heap.size := yl
      have hcn : 1 + (5 + (1 + k) + (1 + 4 * n)) ≤ 4000 := by omega
      go_region_held3 (fun w' => w'.cell? ⟨w.heap.size, 0, none⟩ = some (.int .i64 t) ∧ w'.cell? ⟨w.heap.size, 1, none⟩ = some (.int .i64 hv) ∧ w'.cell? ⟨w.heap.size, 2, none⟩ = some (.int .i64 base) ∧ w'.cell? ⟨w.heap.size, 3, none⟩ = some (.int .i64 bt) ∧ w'.cell? ⟨w.heap.size, 4, none⟩ = some (.slice RA n Rc) ∧ w'.cell? ⟨w.heap.size, 5, none⟩ = some (.string s) ∧ w'.cell? ⟨w3.heap.size, 0, none⟩ = some (.int .i64 3) ∧ w'.cell? ⟨w3.heap.size, 1, none⟩ = some (.int .i64 0) ∧ w'.cell? ⟨w3.heap.size, 2, none⟩ = some (.string ⟨#[]⟩) ∧ w'.cell? ⟨w3.heap.size, 3, none⟩ = some (.slice Av k c)) ((first | (refine ⟨?_, ?_, ?_, ?_, ?_, ?_, ?_, ?_, ?_, ?_⟩ <;> with_reducible assumption) | with_reducible exact S_of (hX2.out.alloc _) (hB2.out.alloc _) | with_reducible exact S_of hX.out.drew hB.out.drew)) (first
        | (go_at_call 153; refine (rnum_any _ _).mono ?_; rintro e w1 ⟨rfl, hb1⟩; replace qr := (after (w := wr) hb1 (by go_grown)).1; replace hX := hid_mk (hX.out.keep (after hb1 (by go_grown)).1); replace hB := hid_mk (hB.out.keep (after hb1 (by go_grown)).1); clear hb1 xl x0 x1 x2 x3 x4 x5 x6 yl y0 y1 y2 y3; obtain ⟨xl, x0, x1, x2, x3, x4, x5, x6⟩ := blk7 hX.out; obtain ⟨yl, y0, y1, y2, y3⟩ := blk4v hB.out)
        | (go_at_call 155; refine (rrecs_any rs RA n Rc w3.heap.size _ (B := B) (by first | omega | (simp; omega)) (by omega) (hr.to (show Below w3.heap.size w3 _ from Below.trans hb (Below.mono (show Below wr.heap.size wr _ from by go_grown) hbz))) hfr).mono ?_; rintro e w2 ⟨⟨A2, c2, rfl, hL2⟩, hb1⟩; have q2 := (after (w := wr) hb1 (by go_grown)).1; have hX2 := hid_mk (hX.out.keep (after hb1 (by go_grown)).1); have hB2 := hid_mk (hB.out.keep (after hb1 (by go_grown)).1); have hrow := Blk.new w2 163 (cellsN (hardN ⟨t, hv, ⟨base, bt, rs⟩, s, vs⟩ Av k c A2 n c2)).toArray; have q2z := q2.size; have qrow : Below w2.heap.size w2 (w2.alloc (.cells (cellsN (hardN ⟨t, hv, ⟨base, bt, rs⟩, s, vs⟩ Av k c A2 n c2)).toArray 163)) := (Below.refl _ _).alloc (Nat.le_refl _) _; have hV2 := VOk.to (S' := Ups w3.heap.size) (Nat.le_trans q2z qrow.size) (fun b _ hlt => (qrow.block b (by omega)).trans (q2.block b hlt)) (fun b hb _ => hb) hV.out; have hL3 := VOk.to (S' := Ups w3.heap.size) qrow.size (fun b _ hlt => qrow.block b hlt) (fun b hb _ => hb) hL2; have hO := hid_mk (VOk.to (S' := Lows (w2.alloc (.cells (cellsN (hardN ⟨t, hv, ⟨base, bt, rs⟩, s, vs⟩ Av k c A2 n c2)).toArray 163)).heap.size) (Nat.le_refl _) (fun _ _ _ => rfl) (fun b _ hlt => hlt) (hard_ok (h := ⟨t, hv, ⟨base, bt, rs⟩, s, vs⟩) hrow (show Ups w3.heap.size w2.heap.size from by (unfold Ups; omega)) hs'.out hV2 hL3)); clear hV2 hL3 hrow qrow hL2 hb1 xl x0 x1 x2 x3 x4 x5 x6 yl y0 y1 y2 y3; obtain ⟨xl, x0, x1, x2, x3, x4, x5, x6⟩ := blk7 hX2.out; obtain ⟨yl, y0, y1, y2, y3⟩ := blk4v hB2.out)
        | (go_at_call 154; refine (RPut_any 4 (lstV (some ⟨w2.heap.size, 0, none⟩) 7 7) _ (encH ⟨t, hv, ⟨base, bt, rs⟩, s, vs⟩) _ hO.out hcn (by omega) (ht.to (show Below w3.heap.size w3 _ from Below.trans hb (Below.mono (show Below wr.heap.size wr _ from by go_grown) hbz))) (by rw [hL.out]; exact hel)).mono ?_; rw [hL.out, hpr.out]; rintro e w4 ⟨rfl, hb1⟩; have q4 := (after (w := wr) hb1 (by go_grown)).1; have hX4 := hid_mk (Blk.keep (hX2.out.alloc _) hb1); have hB4 := hid_mk (Blk.keep (hB2.out.alloc _) hb1); clear hb1 xl x0 x1 x2 x3 x4 x5 x6 yl y0 y1 y2 y3; obtain ⟨xl, x0, x1, x2, x3, x4, x5, x6⟩ := blk7 hX4.out; obtain ⟨yl, y0, y1, y2, y3⟩ := blk4v hB4.out)
        | fail)
      go_wp2
      refine ends_ret hQ (results_tmp2 rfl _ _ _) rfl ?_
      exact ⟨⟨px, by rw [hrt.out]; rfl⟩, q3.trans ((hb.trans (q4.mono hbz)).mono q3.size)⟩
set_option maxRecDepth 100000 in
theorem HRight_any (h : Hd) (R V : Slc) (w : World) {B : Nat} (hm : R.n ≤ 140737488355328) (hv : V.n ≤ 140737488355328) (hr : Recs w B R.A R.n h.l.rs) (hi : Ints w B V.A V.n h.vs) (ht : Tab w) :
    Calls Tryz.prog 59 #[hdV h R V] w fun e w' => e = .returned (.bool (rightH h)) ∧ Below w.heap.size w w' := by
  have ht' : Tab (w.alloc (.cells #[.int .i64 h.t, .int .i64 h.v, .int .i64 h.l.base, .int .i64 h.l.bt, .slice R.A R.n R.c, .string h.s, .slice V.A V.n V.c] 27)) := ht.to (by go_grown)
  obtain ⟨r, hr'⟩ : ∃ r, rightH h = r := ⟨_, rfl⟩
  rw [hr']
  replace hr' := hid_mk hr'
  unfold hdV
  refine calls_of_wpQ Tryz.func59 rfl ?_
  intro Q hQ
  simp only [Tryz.ntmps59, List.size_toArray, List.length_cons, List.length_nil, Nat.reduceAdd, Nat.reduceSub, Array.replicate_succ, Array.replicate_zero, List.push_toArray, List.append_toArray, List.nil_append, List.cons_append]
  go_wp2_with (go_at_call 122; refine (RBytes_any h R V _ (B := B) hm hv (hr.to (by go_grown)) (hi.to (by go_grown)) ht').mono ?_; rw [hr'.out]; rintro e w1 ⟨⟨x, rfl⟩, hb1⟩; have q1 := (after (w := w) hb1 (by go_grown)).1; clear hb1)
  refine ends_ret hQ (results_tmp rfl _ _ _) rfl ?_
  exact ⟨rfl, q1⟩
end Go.Proofs.YtncdjmpdbinanaaGreatDoor
