/-
  WHAT IS PROVED HERE: the walk of the law JournalCompacts: it returns true and writes nothing that was there. Conditions: slices of at most 2^42 records.
-/
import Derived.Test.YthaddhdlmlnclaaJrnT
import Derived.Test.YthaddhdlmlnclaaJrnQ
import Derived.Test.YthaddhdlmlnclaaJrn6
namespace Go.Proofs.Ythaddhdlmlnclaa
open Go.RowKit

theorem termJ_some {l : Lg} {p : Int} (h0 : l.base ≤ p) (h1 : p ≤ lastJ l) : ∃ v, termJ l p = some v := by
  rcases Int.lt_or_eq_of_le h0 with h | h
  · rw [termJ_at h, List.getElem?_eq_getElem (by unfold lastJ at h1; omega)]; exact ⟨_, rfl⟩
  · rw [← h]; exact ⟨_, termJ_eq l⟩
theorem Last_right (l : Lg) (A : Option Addr) (n cap : Nat) (w : World) {B : Nat} {L T : Int} (hr : rightJ l = true) (hL : lastJ l = L) (hT : (termJ l L).getD 0 = T) (hm : n ≤ 140737488355328) (h : Recs w B A n l.rs) :
    Calls Try.prog 9 #[logV l A n cap] w fun e w' => e = .returned (.tuple #[.int .i64 L, .int .i64 T]) ∧ Below w.heap.size w w' := by
  have := Last_any l A n cap w hm h
  rw [hr, hL, hT] at this
  exact this
set_option maxRecDepth 100000 in
set_option maxHeartbeats 3200000 in
theorem LawCompacts_any (l : Lg) (to at' term : Int) (more : List Rec) (A : Option Addr) (n cap : Nat) (A' : Option Addr) (n' cap' : Nat) (w : World) {B : Nat} (hB : B ≤ w.heap.size) (hm : n ≤ 4398046511103) (hm' : n' ≤ 4398046511103) (hcap : n ≤ cap) (hcap' : n' ≤ cap') (h : Recs w B A n l.rs) (h' : Recs w B A' n' more) :
    Calls Try.prog 8 #[logV l A n cap, .int .i64 to, .int .i64 at', .int .i64 term, .slice A' n' cap'] w fun e w' => e = .returned (.bool true) ∧ Below w.heap.size w w' := by
  have hX := hid_mk (Blk.new w 24 #[.int .i64 l.base, .int .i64 l.bt, .slice A n cap])
  have hlen := hid_mk h.len
  have hcl := compact_len l to
  have hln := hlen.out
  obtain ⟨c, hc1⟩ : ∃ c, (compactJ l to).1 = c := ⟨_, rfl⟩
  obtain ⟨ce, hc2⟩ : ∃ ce, (compactJ l to).2 = ce := ⟨_, rfl⟩
  rw [hc1] at hcl
  have hcl' : c.rs.length ≤ 4398046511103 := by omega
  clear hcl
  replace hc1 := hid_mk hc1
  replace hc2 := hid_mk hc2
  by_cases g1 : ce = 0
  case neg =>
    have g1 : (ce != 0) = true := by simpa using g1
    clear hln
    rw [logV_eq]
    refine calls_of_wpQ Try.func8 rfl ?_
    intro Q hQ
    simp only [Try.ntmps8, List.size_toArray, List.length_cons, List.length_nil, Nat.reduceAdd, Nat.reduceSub, Array.replicate_succ, Array.replicate_zero, List.push_toArray, List.append_toArray, List.nil_append, List.cons_append]
    go_wp2_with fail
    try rw [← logV_eq]
    refine (Compact_any l to A n cap _ (B := B) (by first | omega | (simp; omega)) (by omega) hcap (h.to (by go_grown))).mono ?_
    rw [hc1.out, hc2.out]
    rintro e w1 ⟨A1, n1, c1, rfl, hRa, h11, h12, hb⟩
    have q1 := (after (w := w) hb (by go_grown)).1
    replace hX := hid_mk (hX.out.keep (after hb (by go_grown)).1)
    replace hRa := hid_mk hRa
    have hlena := hid_mk hRa.out.len
    have hla : n1 ≤ 4398046511103 := by have := hlena.out; omega
    unfold logV
    have hs1 := hb.size; try simp only [World.size_alloc] at hs1; clear hb
    have hA := hid_mk (Blk.new w1 24 #[.int .i64 c.base, .int .i64 c.bt, .slice A1 n1 c1])
    go_wp2_with fail
    refine (alive_any _).mono ?_
    rintro e w2 ⟨rfl, hb⟩
    have q2 := (after (w := w) hb (by go_grown)).1
    replace hX := hid_mk (hX.out.keep (after hb (by go_grown)).1)
    replace hA := hid_mk (hA.out.keep (after hb (by go_grown)).1)
    replace hRa := hid_mk (hRa.out.to (after hb (by go_grown)).1)
    have hs2 := hb.size; try simp only [World.size_alloc] at hs2; clear hb
    go_wp2_with fail
    refine (alive_any _).mono ?_
    rintro e w3 ⟨rfl, hb⟩
    have q3 := (after (w := w) hb (by go_grown)).1
    replace hX := hid_mk (hX.out.keep (after hb (by go_grown)).1)
    replace hA := hid_mk (hA.out.keep (after hb (by go_grown)).1)
    replace hRa := hid_mk (hRa.out.to (after hb (by go_grown)).1)
    have hs3 := hb.size; try simp only [World.size_alloc] at hs3; clear hb
    go_wp2
    refine ends_ret hQ (results_tmp rfl _ _ _) rfl ?_
    exact ⟨ret_bool (by simp), by first | exact q3 | go_grown⟩
  subst g1
  obtain ⟨hr, t, ht, hce⟩ : rightJ l = true ∧ ∃ t, termJ l to = some t ∧ (⟨to, t, l.rs.drop (to - l.base).toNat⟩ : Lg) = c := by
    have e1 := hc1.out
    have e2 := hc2.out
    unfold compactJ at e1 e2
    split at e2
    · rename_i hr
      rw [if_pos hr] at e1
      cases hto : termJ l to with
      | none => rw [hto] at e2; simp at e2
      | some t => rw [hto] at e1; exact ⟨hr, t, rfl, e1⟩
    · simp at e2
  have hcr := compact_right hr ht
  rw [hce] at hcr
  obtain ⟨hrc, hlc, htc⟩ := hcr
  have hmc := @merge_compact l to t at' term more hr ht
  rw [hce] at hmc
  have hrg := termJ_range ht
  have hbd := right_bounds hr
  have hbc := right_bounds hrc
  obtain ⟨L, hL⟩ : ∃ L, lastJ l = L := ⟨_, rfl⟩
  have hL0 : L = l.base + n := by rw [← hL]; unfold lastJ; rw [hln]
  have hL1 : to ≤ L := by omega
  have hL2 : L ≤ 1073741824 := by omega
  have hL3 : 0 ≤ to := by omega
  have hn200 : n ≤ 200 := by omega
  obtain ⟨T, hT⟩ : ∃ T, (termJ l L).getD 0 = T := ⟨_, rfl⟩
  have hT2 : (termJ c L).getD 0 = T := by rw [htc L hL1]; exact hT
  rw [hL] at hlc
  have hta : Hid (∀ p, to ≤ p → p ≤ L → ∃ v, termAtJ l p = some v ∧ termAtJ c p = some v) := fun p h1 h2 => by
    obtain ⟨v, hv⟩ := termJ_some (l := l) (p := p) (by omega) (by omega)
    exact ⟨v, by unfold termAtJ; rw [hr]; exact hv, by unfold termAtJ; rw [hrc, htc p h1]; exact hv⟩
  obtain ⟨ma, hma⟩ : ∃ m, mergeJ l at' term more = m := ⟨_, rfl⟩
  obtain ⟨mb, hmb⟩ : ∃ m, mergeJ c at' term more = m := ⟨_, rfl⟩
  have hl1 := merge_len l at' term more
  have hl2 := merge_len c at' term more
  rw [hma] at hl1 hmc
  rw [hmb] at hl2 hmc
  obtain ⟨al, an, af, ae⟩ := ma
  obtain ⟨bl, bn, bf, be⟩ := mb
  dsimp only at hl1 hl2 hmc
  replace hma := hid_mk hma
  replace hmb := hid_mk hmb
  replace hmc := hid_mk hmc
  replace hr := hid_mk hr
  replace hrc := hid_mk hrc
  replace hL := hid_mk hL
  replace hT := hid_mk hT
  replace hT2 := hid_mk hT2
  replace hlc := hid_mk hlc
  replace ht := hid_mk ht
  replace hce := hid_mk hce
  clear htc hln hrg hL0
  have hn1 : (L != L) = false := by simp
  have hn2 : (T != T) = false := by simp
  rw [logV_eq]
  refine calls_of_wpQ Try.func8 rfl ?_
  intro Q hQ
  simp only [Try.ntmps8, List.size_toArray, List.length_cons, List.length_nil, Nat.reduceAdd, Nat.reduceSub, Array.replicate_succ, Array.replicate_zero, List.push_toArray, List.append_toArray, List.nil_append, List.cons_append]
  go_wp2_with fail
  try rw [← logV_eq]
  refine (Compact_any l to A n cap _ (B := B) (by first | omega | (simp; omega)) (by omega) hcap (h.to (by go_grown))).mono ?_
  rw [hc1.out, hc2.out]
  rintro e w1 ⟨A1, n1, c1, rfl, hRa, h11, h12, hb⟩
  have q1 := (after (w := w) hb (by go_grown)).1
  replace hX := hid_mk (hX.out.keep (after hb (by go_grown)).1)
  replace hRa := hid_mk hRa
  have hlena := hid_mk hRa.out.len
  have hla : n1 ≤ 4398046511103 := by have := hlena.out; omega
  unfold logV
  have hs1 := hb.size; try simp only [World.size_alloc] at hs1; clear hb
  have hA := hid_mk (Blk.new w1 24 #[.int .i64 c.base, .int .i64 c.bt, .slice A1 n1 c1])
  go_wp2_with fail
  refine (alive_any _).mono ?_
  rintro e w2 ⟨rfl, hb⟩
  have q2 := (after (w := w) hb (by go_grown)).1
  replace hX := hid_mk (hX.out.keep (after hb (by go_grown)).1)
  replace hA := hid_mk (hA.out.keep (after hb (by go_grown)).1)
  replace hRa := hid_mk (hRa.out.to (after hb (by go_grown)).1)
  have hs2 := hb.size; try simp only [World.size_alloc] at hs2; clear hb
  obtain ⟨hgx, x0, x1, x2⟩ := blk3 hX.out
  obtain ⟨hga, a0, a1, a2⟩ := blk3 hA.out
  go_wp2_with fail
  try rw [← logV_eq]
  refine (Last_right l A n cap _ hr.out hL.out hT.out (by omega) (h.to (by go_grown))).mono ?_
  rintro e w3 ⟨rfl, hb⟩
  have q3 := (after (w := w) hb (by go_grown)).1
  replace hX := hid_mk (hX.out.keep (after hb (by go_grown)).1)
  replace hA := hid_mk (hA.out.keep (after hb (by go_grown)).1)
  replace hRa := hid_mk (hRa.out.to (after hb (by go_grown)).1)
  clear hgx x0 x1 x2 hga a0 a1 a2
  obtain ⟨hgx, x0, x1, x2⟩ := blk3 hX.out
  obtain ⟨hga, a0, a1, a2⟩ := blk3 hA.out
  have hs3 := hb.size; try simp only [World.size_alloc] at hs3; clear hb
  go_wp2_with fail
  try rw [← logV_eq]
  refine (Last_right c A1 n1 c1 _ hrc.out hlc.out hT2.out (by omega) (hRa.out.to (by go_grown))).mono ?_
  rintro e w4 ⟨rfl, hb⟩
  have q4 := (after (w := w) hb (by go_grown)).1
  replace hX := hid_mk (hX.out.keep (after hb (by go_grown)).1)
  replace hA := hid_mk (hA.out.keep (after hb (by go_grown)).1)
  replace hRa := hid_mk (hRa.out.to (after hb (by go_grown)).1)
  clear hgx x0 x1 x2 hga a0 a1 a2
  obtain ⟨hgx, x0, x1, x2⟩ := blk3 hX.out
  obtain ⟨hga, a0, a1, a2⟩ := blk3 hA.out
  have hs4 := hb.size; try simp only [World.size_alloc] at hs4; clear hb
  go_wp2
  go_loopw [17] (fun i wr => ∃ (j : Nat), i = .int .i64 (to + j) ∧ Below w4.heap.size w4 wr ∧ to + j ≤ 1073741825) (fun i _ => (L + 1 - intOf i).toNat)
  case atStart => exact ⟨0, by simp, Below.refl _ _, by omega⟩
  case round =>
    obtain ⟨j, rfl, hb, hj⟩ := hrel
    have hwz := hb.size
    replace hX := hid_mk (hX.out.keep hb)
    replace hA := hid_mk (hA.out.keep hb)
    replace hRa := hid_mk (hRa.out.to hb)
    clear hgx x0 x1 x2 hga a0 a1 a2
    obtain ⟨hgx, x0, x1, x2⟩ := blk3 hX.out
    obtain ⟨hga, a0, a1, a2⟩ := blk3 hA.out
    have qr : Below w.heap.size w wr := q4.trans (hb.mono q4.size)
    have hb3 := hid_mk hb
    by_cases g3 : to + j ≤ L
    case pos =>
      obtain ⟨v, hv1, hv2⟩ := hta.out (to + j) (by omega) g3
      replace hv1 := hid_mk hv1
      replace hv2 := hid_mk hv2
      have hne : (v != v) = false := by simp
      go_wp2_with fail
      try rw [← logV_eq]
      refine (TermAt_any l _ A n cap _ (by omega) (h.to (by go_grown))).mono ?_
      rw [hv1.out, Option.getD_some, Option.isSome_some]
      rintro e w5 ⟨rfl, hb⟩
      have q5 := (after (w := w) hb (by go_grown)).1
      replace hX := hid_mk (hX.out.keep (after hb (by go_grown)).1)
      replace hA := hid_mk (hA.out.keep (after hb (by go_grown)).1)
      replace hRa := hid_mk (hRa.out.to (after hb (by go_grown)).1)
      clear hgx x0 x1 x2 hga a0 a1 a2
      obtain ⟨hgx, x0, x1, x2⟩ := blk3 hX.out
      obtain ⟨hga, a0, a1, a2⟩ := blk3 hA.out
      have r5 := (after (w := w4) hb (by go_grown)).1
      have hs5 := hb.size; try simp only [World.size_alloc] at hs5; clear hb
      go_wp2_with fail
      try rw [← logV_eq]
      refine (TermAt_any c _ A1 n1 c1 _ (by omega) (hRa.out.to (by go_grown))).mono ?_
      rw [hv2.out, Option.getD_some, Option.isSome_some]
      rintro e w6 ⟨rfl, hb⟩
      have q6 := (after (w := w) hb (by go_grown)).1
      replace hX := hid_mk (hX.out.keep (after hb (by go_grown)).1)
      replace hA := hid_mk (hA.out.keep (after hb (by go_grown)).1)
      replace hRa := hid_mk (hRa.out.to (after hb (by go_grown)).1)
      clear hgx x0 x1 x2 hga a0 a1 a2
      obtain ⟨hgx, x0, x1, x2⟩ := blk3 hX.out
      obtain ⟨hga, a0, a1, a2⟩ := blk3 hA.out
      have r6 := (after (w := w4) hb (by go_grown)).1
      have hs6 := hb.size; try simp only [World.size_alloc] at hs6; clear hb
      go_wp2
      go_roundw
      case rel => exact ⟨j + 1, by go_num, r6, by omega⟩
      case measure => simp [intOf]; omega
    case neg =>
      by_cases g5 : at' < to
      case pos =>
        go_wp2
        refine ends_ret hQ (results_tmp rfl _ _ _) rfl ?_
        exact ⟨ret_bool (by simp), by first | exact qr | go_grown⟩
      case neg =>
        replace hmc := hid_mk (hmc.out (by omega))
        go_wp2_with fail
        try rw [← logV_eq]
        refine (Merge_any l at' term more A n cap A' n' cap' _ (B := B) (by first | omega | (simp; omega)) hm hm' hcap hcap' (h.to (by go_grown)) (h'.to (by go_grown))).mono ?_
        rw [hma.out]
        rintro e w5 ⟨A2, n2, c2, rfl, hRb, h21, h22, hb⟩
        have q5 := (after (w := w) hb (by go_grown)).1
        replace hX := hid_mk (hX.out.keep (after hb (by go_grown)).1)
        replace hA := hid_mk (hA.out.keep (after hb (by go_grown)).1)
        replace hRa := hid_mk (hRa.out.to (after hb (by go_grown)).1)
        clear hgx x0 x1 x2 hga a0 a1 a2
        obtain ⟨hgx, x0, x1, x2⟩ := blk3 hX.out
        obtain ⟨hga, a0, a1, a2⟩ := blk3 hA.out
        replace hRb := hid_mk hRb
        have hlenb := hid_mk hRb.out.len
        have hlb : n2 ≤ 200 := by have := hlenb.out; dsimp only at this; omega
        unfold logV
        dsimp only
        have hs5 := hb.size; try simp only [World.size_alloc] at hs5; clear hb
        have hBb := hid_mk (Blk.new w5 24 #[.int .i64 al.base, .int .i64 al.bt, .slice A2 n2 c2])
        go_wp2_with fail
        try rw [← logV_eq]
        refine (Merge_any c at' term more A1 n1 c1 A' n' cap' _ (B := B) (by first | omega | (simp; omega)) hla hm' h11 hcap' (hRa.out.to (by go_grown)) (h'.to (by go_grown))).mono ?_
        rw [hmb.out]
        rintro e w6 ⟨A3, n3, c3, rfl, hRc, h31, h32, hb⟩
        have q6 := (after (w := w) hb (by go_grown)).1
        replace hX := hid_mk (hX.out.keep (after hb (by go_grown)).1)
        replace hA := hid_mk (hA.out.keep (after hb (by go_grown)).1)
        replace hBb := hid_mk (hBb.out.keep (after hb (by go_grown)).1)
        replace hRa := hid_mk (hRa.out.to (after hb (by go_grown)).1)
        replace hRb := hid_mk (hRb.out.to (after hb (by go_grown)).1)
        clear hgx x0 x1 x2 hga a0 a1 a2
        obtain ⟨hgx, x0, x1, x2⟩ := blk3 hX.out
        obtain ⟨hga, a0, a1, a2⟩ := blk3 hA.out
        replace hRc := hid_mk hRc
        have hlenc := hid_mk hRc.out.len
        have hlc2 : n3 ≤ 200 := by have := hlenc.out; dsimp only at this; omega
        unfold logV
        dsimp only
        have hs6 := hb.size; try simp only [World.size_alloc] at hs6; clear hb
        have hC := hid_mk (Blk.new w6 24 #[.int .i64 bl.base, .int .i64 bl.bt, .slice A3 n3 c3])
        by_cases k1 : ae = be
        case neg =>
          have k2 : ae = 130 := by
            rcases hmc.out with e | ⟨e, _⟩
            · exact e
            · exact absurd e k1
          subst k2
          have k3 : ((130 : Int) != be) = true := by simpa using k1
          replace k1 := hid_mk k1
          go_wp2
          refine ends_ret hQ (results_tmp rfl _ _ _) rfl ?_
          exact ⟨ret_bool (by simp), by first | exact q6 | go_grown⟩
        subst k1
        by_cases k2 : ae = 0
        case neg =>
          have k3 : (ae != 0) = true := by simpa using k2
          have k4 : (ae != ae) = false := by simp
          replace k2 := hid_mk k2
          go_wp2
          refine ends_ret hQ (results_tmp rfl _ _ _) rfl ?_
          exact ⟨ret_bool (by simp), by first | exact q6 | go_grown⟩
        subst k2
        obtain ⟨rfl, rfl, hcm⟩ : an = bn ∧ af = bf ∧ compactJ al to = (bl, 0) := by
          rcases hmc.out with e | ⟨_, e⟩
          · omega
          · exact e rfl
        have hcm1 : Hid ((compactJ al to).1 = bl) := by rw [Hid, hcm]
        have hcm2 : Hid ((compactJ al to).2 = 0) := by rw [Hid, hcm]
        clear hcm
        have k5 : (an != an) = false := by simp
        have k6 : (af != af) = false := by simp
        obtain ⟨hgb, b0, b1, b2⟩ := blk3 hBb.out
        go_wp2_with fail
        try rw [← logV_eq]
        refine (Compact_any al to A2 n2 c2 _ (B := B) (by first | omega | (simp; omega)) (by omega) h21 (hRb.out.to (by go_grown))).mono ?_
        rw [hcm1.out, hcm2.out]
        rintro e w7 ⟨A4, n4, c4, rfl, hRd, h41, h42, hb⟩
        have q7 := (after (w := w) hb (by go_grown)).1
        replace hX := hid_mk (hX.out.keep (after hb (by go_grown)).1)
        replace hA := hid_mk (hA.out.keep (after hb (by go_grown)).1)
        replace hBb := hid_mk (hBb.out.keep (after hb (by go_grown)).1)
        replace hC := hid_mk (hC.out.keep (after hb (by go_grown)).1)
        replace hRa := hid_mk (hRa.out.to (after hb (by go_grown)).1)
        replace hRb := hid_mk (hRb.out.to (after hb (by go_grown)).1)
        replace hRc := hid_mk (hRc.out.to (after hb (by go_grown)).1)
        clear hgx x0 x1 x2 hga a0 a1 a2 hgb b0 b1 b2
        obtain ⟨hgx, x0, x1, x2⟩ := blk3 hX.out
        obtain ⟨hga, a0, a1, a2⟩ := blk3 hA.out
        obtain ⟨hgb, b0, b1, b2⟩ := blk3 hBb.out
        replace hRd := hid_mk hRd
        have hlend := hid_mk hRd.out.len
        have hld : n4 ≤ 200 := by have := hlend.out; omega
        unfold logV
        have hs7 := hb.size; try simp only [World.size_alloc] at hs7; clear hb
        have hD := hid_mk (Blk.new w7 24 #[.int .i64 bl.base, .int .i64 bl.bt, .slice A4 n4 c4])
        obtain ⟨hgc, d0, d1, d2⟩ := blk3 hC.out
        go_wp2_with fail
        try rw [← logV_eq]
        try rw [← logV_eq]
        refine (Like_any bl bl A4 n4 c4 A3 n3 c3 _ (by omega) (by omega) (hRd.out.to (by go_grown)) (hRc.out.to (by go_grown))).mono ?_
        rw [likeJ_self]
        rintro e w8 ⟨rfl, hb⟩
        have q8 := (after (w := w) hb (by go_grown)).1
        replace hX := hid_mk (hX.out.keep (after hb (by go_grown)).1)
        replace hA := hid_mk (hA.out.keep (after hb (by go_grown)).1)
        replace hBb := hid_mk (hBb.out.keep (after hb (by go_grown)).1)
        replace hC := hid_mk (hC.out.keep (after hb (by go_grown)).1)
        replace hD := hid_mk (hD.out.keep (after hb (by go_grown)).1)
        replace hRc := hid_mk (hRc.out.to (after hb (by go_grown)).1)
        replace hRd := hid_mk (hRd.out.to (after hb (by go_grown)).1)
        clear hgx x0 x1 x2 hga a0 a1 a2 hgb b0 b1 b2 hgc d0 d1 d2
        obtain ⟨hgx, x0, x1, x2⟩ := blk3 hX.out
        obtain ⟨hga, a0, a1, a2⟩ := blk3 hA.out
        obtain ⟨hgb, b0, b1, b2⟩ := blk3 hBb.out
        obtain ⟨hgc, d0, d1, d2⟩ := blk3 hC.out
        have hs8 := hb.size; try simp only [World.size_alloc] at hs8; clear hb
        go_wp2
        refine ends_ret hQ (results_tmp rfl _ _ _) rfl ?_
        exact ⟨ret_bool (by simp), by first | exact q8 | go_grown⟩
theorem LawCompacts_walk (l0 : Lg) (a0 : Option Addr) (len0 cap0 : Nat) {w : World} (i0 : Recs w w.heap.size a0 len0 l0.rs) (lc0 : len0 ≤ cap0) (hs0 : cap0 * 32 ≤ 140737488351232)
    (a1 : Int) (_lo1 : -9223372036854775808 ≤ a1) (_hi1 : a1 ≤ 9223372036854775807) (a2 : Int) (_lo2 : -9223372036854775808 ≤ a2) (_hi2 : a2 ≤ 9223372036854775807) (a3 : Int) (_lo3 : -9223372036854775808 ≤ a3) (_hi3 : a3 ≤ 9223372036854775807)
    (a4 : Option Addr) (len4 cap4 : Nat) (rs4 : List Rec) (i4 : Recs w w.heap.size a4 len4 rs4) (lc4 : len4 ≤ cap4) (hs4 : cap4 * 32 ≤ 140737488351232) :
    Calls Try.prog 8 #[logV l0 a0 len0 cap0, .int .i64 a1, .int .i64 a2, .int .i64 a3, .slice a4 len4 cap4] w fun e w' => e = .returned (.bool true) ∧ Below w.heap.size w w' :=
  LawCompacts_any _ _ _ _ _ _ _ _ _ _ _ _ (Nat.le_refl _) (by omega) (by omega) lc0 lc4 i0 i4
end Go.Proofs.Ythaddhdlmlnclaa
