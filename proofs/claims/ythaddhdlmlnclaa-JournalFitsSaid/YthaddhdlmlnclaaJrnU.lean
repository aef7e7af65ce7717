/-
  WHAT IS PROVED HERE: the walk of the law JournalFits: it returns true and writes nothing that was there. Conditions: slices of at most 2^42 records.
-/
import Derived.Test.YthaddhdlmlnclaaJrnT
import Derived.Test.YthaddhdlmlnclaaJrnP
namespace Go.Proofs.Ythaddhdlmlnclaa
open Go.RowKit

theorem drop_get {α} {xs ys : List α} {k : Nat} {r : α} (h : xs.drop k = r :: ys) : xs[k]? = some r := by
  have := List.getElem?_drop (xs := xs) (i := k) (j := 0)
  rw [h] at this
  simpa using this.symm
set_option maxRecDepth 100000 in
set_option maxHeartbeats 3200000 in
theorem LawFits_any (l : Lg) (at' term : Int) (more : List Rec) (A : Option Addr) (n cap : Nat) (A' : Option Addr) (n' cap' : Nat) (w : World) {B : Nat} (hB : B ≤ w.heap.size) (hm : n ≤ 4398046511103) (hm' : n' ≤ 4398046511103) (hcap : n ≤ cap) (hcap' : n' ≤ cap') (h : Recs w B A n l.rs) (h' : Recs w B A' n' more) :
    Calls Try.prog 6 #[logV l A n cap, .int .i64 at', .int .i64 term, .slice A' n' cap'] w fun e w' => e = .returned (.bool true) ∧ Below w.heap.size w w' := by
  have hlen' := hid_mk h'.len
  have hX := hid_mk (Blk.new w 24 #[.int .i64 l.base, .int .i64 l.bt, .slice A n cap])
  have hml := merge_len l at' term more
  have hkp := hid_mk (@merge_keeps l at' term more)
  have hcs := hid_mk (@merge_cases l at' term more)
  obtain ⟨m, hmg⟩ : ∃ m, mergeJ l at' term more = m := ⟨_, rfl⟩
  rw [hmg] at hml hkp hcs
  replace hmg := hid_mk hmg
  obtain ⟨ml, mn, mf, me⟩ := m
  dsimp only at hml hkp hcs
  by_cases g1 : me = 0
  case neg =>
    have g1 : (me != 0) = true := by simpa using g1
    rw [logV_eq]
    refine calls_of_wpQ Try.func6 rfl ?_
    intro Q hQ
    simp only [Try.ntmps6, List.size_toArray, List.length_cons, List.length_nil, Nat.reduceAdd, Nat.reduceSub, Array.replicate_succ, Array.replicate_zero, List.push_toArray, List.append_toArray, List.nil_append, List.cons_append]
    go_wp2_with fail
    refine (Merge_any l at' term more A n cap A' n' cap' _ (B := B) (by first | omega | (simp; omega)) hm hm' hcap hcap' (h.to (by go_grown)) (h'.to (by go_grown))).mono ?_
    rw [hmg.out]
    rintro e w1 ⟨A1, n1, c1, rfl, hRa, h11, h12, hb⟩
    have q1 := (after (w := w) hb (by go_grown)).1
    replace hX := hid_mk (hX.out.keep (after hb (by go_grown)).1)
    replace hRa := hid_mk hRa
    have hlena := hid_mk hRa.out.len
    have hla : n1 ≤ 200 := by have := hlena.out; dsimp only at this; omega
    unfold logV
    dsimp only
    have hs1 := hb.size; try simp only [World.size_alloc] at hs1; clear hb
    have hA := hid_mk (Blk.new w1 24 #[.int .i64 ml.base, .int .i64 ml.bt, .slice A1 n1 c1])
    go_wp2_with fail
    refine (alive_any _).mono ?_
    rintro e w2 ⟨rfl, hb⟩
    have q2 := (after (w := w) hb (by go_grown)).1
    replace hX := hid_mk (hX.out.keep (after hb (by go_grown)).1)
    replace hA := hid_mk (hA.out.keep (after hb (by go_grown)).1)
    replace hRa := hid_mk (hRa.out.to (after hb (by go_grown)).1)
    have hs2 := hb.size; try simp only [World.size_alloc] at hs2; clear hb
    go_wp2_with fail
    refine (alive_any _).mono ?_
    rintro e w3 ⟨rfl, hb⟩
    have q3 := (after (w := w) hb (by go_grown)).1
    replace hX := hid_mk (hX.out.keep (after hb (by go_grown)).1)
    replace hA := hid_mk (hA.out.keep (after hb (by go_grown)).1)
    replace hRa := hid_mk (hRa.out.to (after hb (by go_grown)).1)
    have hs3 := hb.size; try simp only [World.size_alloc] at hs3; clear hb
    go_wp2
    refine ends_ret hQ (results_tmp rfl _ _ _) rfl ?_
    exact ⟨ret_bool (by simp), q3⟩
  subst g1
  cases mf
  case false =>
    rw [logV_eq]
    refine calls_of_wpQ Try.func6 rfl ?_
    intro Q hQ
    simp only [Try.ntmps6, List.size_toArray, List.length_cons, List.length_nil, Nat.reduceAdd, Nat.reduceSub, Array.replicate_succ, Array.replicate_zero, List.push_toArray, List.append_toArray, List.nil_append, List.cons_append]
    go_wp2_with fail
    refine (Merge_any l at' term more A n cap A' n' cap' _ (B := B) (by first | omega | (simp; omega)) hm hm' hcap hcap' (h.to (by go_grown)) (h'.to (by go_grown))).mono ?_
    rw [hmg.out]
    rintro e w1 ⟨A1, n1, c1, rfl, hRa, h11, h12, hb⟩
    have q1 := (after (w := w) hb (by go_grown)).1
    replace hX := hid_mk (hX.out.keep (after hb (by go_grown)).1)
    replace hRa := hid_mk hRa
    have hlena := hid_mk hRa.out.len
    have hla : n1 ≤ 200 := by have := hlena.out; dsimp only at this; omega
    unfold logV
    dsimp only
    have hs1 := hb.size; try simp only [World.size_alloc] at hs1; clear hb
    have hA := hid_mk (Blk.new w1 24 #[.int .i64 ml.base, .int .i64 ml.bt, .slice A1 n1 c1])
    go_wp2_with fail
    refine (alive_any _).mono ?_
    rintro e w2 ⟨rfl, hb⟩
    have q2 := (after (w := w) hb (by go_grown)).1
    replace hX := hid_mk (hX.out.keep (after hb (by go_grown)).1)
    replace hA := hid_mk (hA.out.keep (after hb (by go_grown)).1)
    replace hRa := hid_mk (hRa.out.to (after hb (by go_grown)).1)
    have hs2 := hb.size; try simp only [World.size_alloc] at hs2; clear hb
    go_wp2_with fail
    refine (alive_any _).mono ?_
    rintro e w3 ⟨rfl, hb⟩
    have q3 := (after (w := w) hb (by go_grown)).1
    replace hX := hid_mk (hX.out.keep (after hb (by go_grown)).1)
    replace hA := hid_mk (hA.out.keep (after hb (by go_grown)).1)
    replace hRa := hid_mk (hRa.out.to (after hb (by go_grown)).1)
    have hs3 := hb.size; try simp only [World.size_alloc] at hs3; clear hb
    go_wp2
    refine ends_ret hQ (results_tmp rfl _ _ _) rfl ?_
    exact ⟨ret_bool (by simp), q3⟩
  obtain ⟨hr, hra, hk1, hk2, hk3⟩ := hkp.out (by rfl) (by rfl)
  have hr2 := (hcs.out (by rfl) (by rfl)).2.1
  have hbd := right_bounds hr
  have hbd2 := right_bounds hr2
  dsimp only at hbd2
  have hln' := hlen'.out
  have hn200' : n' ≤ 200 := by omega
  clear hkp hcs hln'
  have hta : Hid (∀ p, p ≤ at' → termAtJ ml p = termAtJ l p) := fun p hp => by unfold termAtJ; rw [hr, hra]; simp only [if_true]; exact hk2 p hp
  have htb : Hid (∀ (j : Nat) (r : Rec), more[j]? = some r → l.base < at' + 1 + j → termAtJ ml (at' + 1 + j) = some r.t) := fun j r hj hp => by unfold termAtJ; rw [hra]; simp only [if_true]; exact hk1 j r hj hp
  replace hr := hid_mk hr
  replace hra := hid_mk hra
  replace hr2 := hid_mk hr2
  replace hk3 := hid_mk hk3
  clear hk1 hk2
  rw [logV_eq]
  refine calls_of_wpQ Try.func6 rfl ?_
  intro Q hQ
  simp only [Try.ntmps6, List.size_toArray, List.length_cons, List.length_nil, Nat.reduceAdd, Nat.reduceSub, Array.replicate_succ, Array.replicate_zero, List.push_toArray, List.append_toArray, List.nil_append, List.cons_append]
  go_wp2_with fail
  refine (Merge_any l at' term more A n cap A' n' cap' _ (B := B) (by first | omega | (simp; omega)) hm hm' hcap hcap' (h.to (by go_grown)) (h'.to (by go_grown))).mono ?_
  rw [hmg.out]
  rintro e w1 ⟨A1, n1, c1, rfl, hRa, h11, h12, hb⟩
  have q1 := (after (w := w) hb (by go_grown)).1
  replace hX := hid_mk (hX.out.keep (after hb (by go_grown)).1)
  replace hRa := hid_mk hRa
  have hlena := hid_mk hRa.out.len
  have hla : n1 ≤ 200 := by have := hlena.out; dsimp only at this; omega
  unfold logV
  dsimp only
  have hs1 := hb.size; try simp only [World.size_alloc] at hs1; clear hb
  have hA := hid_mk (Blk.new w1 24 #[.int .i64 ml.base, .int .i64 ml.bt, .slice A1 n1 c1])
  go_wp2_with fail
  refine (alive_any _).mono ?_
  rintro e w2 ⟨rfl, hb⟩
  have q2 := (after (w := w) hb (by go_grown)).1
  replace hX := hid_mk (hX.out.keep (after hb (by go_grown)).1)
  replace hA := hid_mk (hA.out.keep (after hb (by go_grown)).1)
  replace hRa := hid_mk (hRa.out.to (after hb (by go_grown)).1)
  have hs2 := hb.size; try simp only [World.size_alloc] at hs2; clear hb
  obtain ⟨hga, a0, a1, a2⟩ := blk3 hA.out
  go_wp2_with fail
  refine (Right_any ml A1 n1 c1 _ (by omega) (hRa.out.to (by go_grown))).mono ?_
  rw [hra.out]
  rintro e w3 ⟨rfl, hb⟩
  have q3 := (after (w := w) hb (by go_grown)).1
  replace hX := hid_mk (hX.out.keep (after hb (by go_grown)).1)
  replace hA := hid_mk (hA.out.keep (after hb (by go_grown)).1)
  replace hRa := hid_mk (hRa.out.to (after hb (by go_grown)).1)
  clear hga a0 a1 a2
  obtain ⟨hga, a0, a1, a2⟩ := blk3 hA.out
  have hs3 := hb.size; try simp only [World.size_alloc] at hs3; clear hb
  obtain ⟨hgx, x0, x1, x2⟩ := blk3 hX.out
  go_wp2
  go_loopw [53] (fun i wr => ∃ (k : Nat), k ≤ n' ∧ i = .int .i64 k ∧ Below w3.heap.size w3 wr) (fun i _ => n' - (intOf i).toNat)
  case atStart => exact ⟨0, Nat.zero_le _, rfl, Below.refl _ _⟩
  case round =>
    obtain ⟨k, hk, rfl, hb⟩ := hrel
    have hwz := hb.size
    replace hX := hid_mk (hX.out.keep hb)
    replace hA := hid_mk (hA.out.keep hb)
    replace hRa := hid_mk (hRa.out.to hb)
    clear hgx x0 x1 x2 hga a0 a1 a2
    obtain ⟨hgx, x0, x1, x2⟩ := blk3 hX.out
    obtain ⟨hga, a0, a1, a2⟩ := blk3 hA.out
    have qr : Below w.heap.size w wr := q3.trans (hb.mono q3.size)
    by_cases hlt : k < n'
    case pos =>
      obtain ⟨b, o, r, rfl, hbb, hd, ct, ck, cd⟩ := (h'.to qr).at_ hlt
      have hget := hid_mk (drop_get hd.out)
      obtain ⟨rt, rk, rd⟩ := r
      dsimp only at ct ck cd
      have hb3 := hid_mk hb
      have hne : (rt != rt) = false := by simp
      by_cases g2 : l.base < at' + 1 + k
      case pos =>
        have htt := hid_mk (htb.out k _ hget.out g2)
        have hRr := hid_mk (Blk.new wr 47 #[.int .i64 rt, .int .i64 rk, .string rd])
        go_wp2_with fail
        refine (TermAt_any ml _ A1 n1 c1 _ (by omega) (hRa.out.to (by go_grown))).mono ?_
        rw [htt.out, Option.getD_some, Option.isSome_some]
        rintro e w4 ⟨rfl, hb⟩
        have q4 := (after (w := w) hb (by go_grown)).1
        replace hX := hid_mk (hX.out.keep (after hb (by go_grown)).1)
        replace hA := hid_mk (hA.out.keep (after hb (by go_grown)).1)
        replace hRr := hid_mk (hRr.out.keep (after hb (by go_grown)).1)
        replace hRa := hid_mk (hRa.out.to (after hb (by go_grown)).1)
        clear hgx x0 x1 x2 hga a0 a1 a2
        obtain ⟨hgx, x0, x1, x2⟩ := blk3 hX.out
        obtain ⟨hga, a0, a1, a2⟩ := blk3 hA.out
        have r4 := (after (w := w3) hb (by go_grown)).1
        have hs4 := hb.size; try simp only [World.size_alloc] at hs4; clear hb
        obtain ⟨hgr, r0, r1, r2⟩ := blk3 hRr.out
        go_wp2
        go_roundw
        case rel => exact ⟨k + 1, by omega, by go_num, r4⟩
        case measure => simp [intOf]; omega
      case neg =>
        go_wp2
        go_roundw
        case rel => exact ⟨k + 1, by omega, by go_num, by go_grown⟩
        case measure => simp [intOf]; omega
    case neg =>
      obtain ⟨wo, rfl⟩ : ∃ wo : World, wo = wr := ⟨_, rfl⟩
      have qo := qr
      obtain rfl : n' = k := by omega
      clear hb qr hwz hlt hk
      go_wp2
      go_loopw [18] (fun i wr => ∃ (j : Nat), i = .int .i64 (l.base + j) ∧ Below wo.heap.size wo wr ∧ l.base + j ≤ 1073741825) (fun i _ => (at' + 1 - intOf i).toNat)
      case atStart => exact ⟨0, by simp, Below.refl _ _, by omega⟩
      case round =>
        obtain ⟨j, rfl, hb, hj⟩ := hrel
        have hwz := hb.size
        replace hX := hid_mk (hX.out.keep hb)
        replace hA := hid_mk (hA.out.keep hb)
        replace hRa := hid_mk (hRa.out.to hb)
        clear hgx x0 x1 x2 hga a0 a1 a2
        obtain ⟨hgx, x0, x1, x2⟩ := blk3 hX.out
        obtain ⟨hga, a0, a1, a2⟩ := blk3 hA.out
        have qr : Below w.heap.size w wr := qo.trans (hb.mono qo.size)
        have hb3 := hid_mk hb
        by_cases g3 : l.base + j ≤ at'
        case pos =>
          have hto := hid_mk (hta.out (l.base + j) g3)
          obtain ⟨o, ho⟩ : ∃ o, termAtJ l (l.base + j) = o := ⟨_, rfl⟩
          rw [ho] at hto
          replace ho := hid_mk ho
          have hne : ((o.getD 0) != (o.getD 0)) = false := by simp
          have hne2 : ((o.isSome) != (o.isSome)) = false := by simp
          go_wp2_with fail
          refine (TermAt_any l _ A n cap _ (by omega) (h.to (by go_grown))).mono ?_
          rw [ho.out]
          rintro e w4 ⟨rfl, hb⟩
          have q4 := (after (w := w) hb (by go_grown)).1
          replace hX := hid_mk (hX.out.keep (after hb (by go_grown)).1)
          replace hA := hid_mk (hA.out.keep (after hb (by go_grown)).1)
          replace hRa := hid_mk (hRa.out.to (after hb (by go_grown)).1)
          clear hgx x0 x1 x2 hga a0 a1 a2
          obtain ⟨hgx, x0, x1, x2⟩ := blk3 hX.out
          obtain ⟨hga, a0, a1, a2⟩ := blk3 hA.out
          have r4 := (after (w := wo) hb (by go_grown)).1
          have hs4 := hb.size; try simp only [World.size_alloc] at hs4; clear hb
          go_wp2_with fail
          refine (TermAt_any ml _ A1 n1 c1 _ (by omega) (hRa.out.to (by go_grown))).mono ?_
          rw [hto.out]
          rintro e w5 ⟨rfl, hb⟩
          have q5 := (after (w := w) hb (by go_grown)).1
          replace hX := hid_mk (hX.out.keep (after hb (by go_grown)).1)
          replace hA := hid_mk (hA.out.keep (after hb (by go_grown)).1)
          replace hRa := hid_mk (hRa.out.to (after hb (by go_grown)).1)
          clear hgx x0 x1 x2 hga a0 a1 a2
          obtain ⟨hgx, x0, x1, x2⟩ := blk3 hX.out
          obtain ⟨hga, a0, a1, a2⟩ := blk3 hA.out
          have r5 := (after (w := wo) hb (by go_grown)).1
          have hs5 := hb.size; try simp only [World.size_alloc] at hs5; clear hb
          by_cases g4 : 200 < l.base + j - l.base
          case pos =>
            go_wp2_with fail
            refine (Merge_any ml at' term more A1 n1 c1 A' n' cap' _ (B := B) (by first | omega | (simp; omega)) (by omega) hm' h11 hcap' (hRa.out.to (by go_grown)) (h'.to (by go_grown))).mono ?_
            rw [hk3.out]
            rintro e w6 ⟨A2, n2, c2, rfl, hRb, h21, h22, hb⟩
            have q6 := (after (w := w) hb (by go_grown)).1
            replace hX := hid_mk (hX.out.keep (after hb (by go_grown)).1)
            replace hA := hid_mk (hA.out.keep (after hb (by go_grown)).1)
            replace hRa := hid_mk (hRa.out.to (after hb (by go_grown)).1)
            clear hgx x0 x1 x2 hga a0 a1 a2
            obtain ⟨hgx, x0, x1, x2⟩ := blk3 hX.out
            obtain ⟨hga, a0, a1, a2⟩ := blk3 hA.out
            replace hRb := hid_mk hRb
            have hlenb := hid_mk hRb.out.len
            have hlb : n2 ≤ 200 := by have := hlenb.out; dsimp only at this; omega
            unfold logV
            dsimp only
            have hs6 := hb.size; try simp only [World.size_alloc] at hs6; clear hb
            have hBb := hid_mk (Blk.new w6 24 #[.int .i64 ml.base, .int .i64 ml.bt, .slice A2 n2 c2])
            go_wp2_with fail
            refine (Like_any ml ml A1 n1 c1 A2 n2 c2 _ (by omega) (by omega) (hRa.out.to (by go_grown)) (hRb.out.to (by go_grown))).mono ?_
            rw [likeJ_self]
            rintro e w7 ⟨rfl, hb⟩
            have q7 := (after (w := w) hb (by go_grown)).1
            replace hX := hid_mk (hX.out.keep (after hb (by go_grown)).1)
            replace hA := hid_mk (hA.out.keep (after hb (by go_grown)).1)
            replace hBb := hid_mk (hBb.out.keep (after hb (by go_grown)).1)
            replace hRa := hid_mk (hRa.out.to (after hb (by go_grown)).1)
            replace hRb := hid_mk (hRb.out.to (after hb (by go_grown)).1)
            clear hgx x0 x1 x2 hga a0 a1 a2
            obtain ⟨hgx, x0, x1, x2⟩ := blk3 hX.out
            obtain ⟨hga, a0, a1, a2⟩ := blk3 hA.out
            have hs7 := hb.size; try simp only [World.size_alloc] at hs7; clear hb
            go_wp2
            refine ends_ret hQ (results_tmp rfl _ _ _) rfl ?_
            exact ⟨ret_bool (by simp), q7⟩
          case neg =>
            go_wp2
            go_roundw
            case rel => exact ⟨j + 1, by go_num, r5, by omega⟩
            case measure => simp [intOf]; omega
        case neg =>
          go_wp2_with fail
          refine (Merge_any ml at' term more A1 n1 c1 A' n' cap' _ (B := B) (by first | omega | (simp; omega)) (by omega) hm' h11 hcap' (hRa.out.to (by go_grown)) (h'.to (by go_grown))).mono ?_
          rw [hk3.out]
          rintro e w4 ⟨A2, n2, c2, rfl, hRb, h21, h22, hb⟩
          have q4 := (after (w := w) hb (by go_grown)).1
          replace hX := hid_mk (hX.out.keep (after hb (by go_grown)).1)
          replace hA := hid_mk (hA.out.keep (after hb (by go_grown)).1)
          replace hRa := hid_mk (hRa.out.to (after hb (by go_grown)).1)
          clear hgx x0 x1 x2 hga a0 a1 a2
          obtain ⟨hgx, x0, x1, x2⟩ := blk3 hX.out
          obtain ⟨hga, a0, a1, a2⟩ := blk3 hA.out
          replace hRb := hid_mk hRb
          have hlenb := hid_mk hRb.out.len
          have hlb : n2 ≤ 200 := by have := hlenb.out; dsimp only at this; omega
          unfold logV
          dsimp only
          have hs4 := hb.size; try simp only [World.size_alloc] at hs4; clear hb
          have hBb := hid_mk (Blk.new w4 24 #[.int .i64 ml.base, .int .i64 ml.bt, .slice A2 n2 c2])
          go_wp2_with fail
          refine (Like_any ml ml A1 n1 c1 A2 n2 c2 _ (by omega) (by omega) (hRa.out.to (by go_grown)) (hRb.out.to (by go_grown))).mono ?_
          rw [likeJ_self]
          rintro e w5 ⟨rfl, hb⟩
          have q5 := (after (w := w) hb (by go_grown)).1
          replace hX := hid_mk (hX.out.keep (after hb (by go_grown)).1)
          replace hA := hid_mk (hA.out.keep (after hb (by go_grown)).1)
          replace hBb := hid_mk (hBb.out.keep (after hb (by go_grown)).1)
          replace hRa := hid_mk (hRa.out.to (after hb (by go_grown)).1)
          replace hRb := hid_mk (hRb.out.to (after hb (by go_grown)).1)
          clear hgx x0 x1 x2 hga a0 a1 a2
          obtain ⟨hgx, x0, x1, x2⟩ := blk3 hX.out
          obtain ⟨hga, a0, a1, a2⟩ := blk3 hA.out
          have hs5 := hb.size; try simp only [World.size_alloc] at hs5; clear hb
          go_wp2
          refine ends_ret hQ (results_tmp rfl _ _ _) rfl ?_
          exact ⟨ret_bool (by simp), q5⟩
theorem LawFits_walk (l0 : Lg) (a0 : Option Addr) (len0 cap0 : Nat) {w : World} (i0 : Recs w w.heap.size a0 len0 l0.rs) (lc0 : len0 ≤ cap0) (hs0 : cap0 * 32 ≤ 140737488351232)
    (a1 : Int) (_lo1 : -9223372036854775808 ≤ a1) (_hi1 : a1 ≤ 9223372036854775807) (a2 : Int) (_lo2 : -9223372036854775808 ≤ a2) (_hi2 : a2 ≤ 9223372036854775807)
    (a3 : Option Addr) (len3 cap3 : Nat) (rs3 : List Rec) (i3 : Recs w w.heap.size a3 len3 rs3) (lc3 : len3 ≤ cap3) (hs3 : cap3 * 32 ≤ 140737488351232) :
    Calls Try.prog 6 #[logV l0 a0 len0 cap0, .int .i64 a1, .int .i64 a2, .slice a3 len3 cap3] w fun e w' => e = .returned (.bool true) ∧ Below w.heap.size w w' :=
  LawFits_any _ _ _ _ _ _ _ _ _ _ _ (Nat.le_refl _) (by omega) (by omega) lc0 lc3 i0 i3
end Go.Proofs.Ythaddhdlmlnclaa
