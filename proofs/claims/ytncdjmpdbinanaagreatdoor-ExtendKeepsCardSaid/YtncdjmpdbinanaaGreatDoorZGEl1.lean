/-
  WHAT IS PROVED HERE: what elect.Right hands back of a node. Conditions: the slices are of at most 2^47 elements; the library's table stands.
  WHAT IS PROVED HERE: what elect.Later hands back of any node and term. Conditions: the slices are of at most 2^47 elements; the library's table stands.
-/
import Derived.Test.YtncdjmpdbinanaaGreatDoorZGEl0
namespace Go.Proofs.YtncdjmpdbinanaaGreatDoor
open Go.RowKit

theorem below_drewN_ {B : Nat} {a w : World} (h : Below B a w) (n : Nat) : Below B a (w.drewN n) := ⟨h.os, h.tape, h.output, h.size, h.block⟩
set_option maxRecDepth 100000 in
set_option maxHeartbeats 12800000 in
theorem ERight_any (N : Nd) (a : NdA) (w : World) {B : Nat} (hN : NdOk w B N a) (ht : Tab w) :
    Calls Tryz.prog 35 #[nodeV N a] w fun e w' => e = .returned (.bool (rightN N)) ∧ Below w.heap.size w w' := by
  obtain ⟨hr, hrc, hrb, hi, hvc, hvb, hsb, hg, hgc, hgb, hps, hpc, hpb⟩ := hN
  obtain ⟨NN, hNN⟩ : ∃ NN, N = NN := ⟨_, rfl⟩
  obtain ⟨id, ⟨t, v, ⟨base, bt, rs⟩, s, vs⟩, role, lead, timer, commit, got, ps⟩ := N
  obtain ⟨⟨RA, n, Rc⟩, ⟨VA, m, Vc⟩, ⟨GA, gn, Gc⟩, ⟨PA, pn, Pc⟩⟩ := a
  dsimp only at hr hrc hrb hi hvc hvb hsb hg hgc hgb hps hpc hpb
  have hrl := hid_mk hr.len
  have hf1 : Hid (inB id 1 9 = false → rightN NN = false) := fun e => by rw [← hNN]; unfold rightN; simp [e]
  have hf2 : Hid (rightH ⟨t, v, ⟨base, bt, rs⟩, s, vs⟩ = false → rightN NN = false) := fun e => by rw [← hNN]; unfold rightN; simp [e]
  have hf3 : Hid (rightL vs = false → rightN NN = false) := fun e => by rw [← hNN]; unfold rightN; simp [e]
  have hf4 : Hid (inB role 0 2 = false → rightN NN = false) := fun e => by rw [← hNN]; unfold rightN; simp [e]
  have hf5 : Hid (0 < role → t = 0 → rightN NN = false) := fun e e2 => by rw [← hNN]; unfold rightN; simp [e, e2]
  have hf6 : Hid (inB lead 0 9 = false → rightN NN = false) := fun e => by rw [← hNN]; unfold rightN; simp [e]
  have hf7 : Hid (inB timer 0 1048576 = false → rightN NN = false) := fun e => by rw [← hNN]; unfold rightN; simp [e]
  have hf8 : Hid (inB commit base (lastJ ⟨base, bt, rs⟩) = false → rightN NN = false) := fun e => by rw [← hNN]; unfold rightN; simp [e]
  have hf9 : Hid (ascL none got = false → rightN NN = false) := fun e => by rw [← hNN]; unfold rightN; simp [e]
  have hft : Hid (inB id 1 9 = true → rightH ⟨t, v, ⟨base, bt, rs⟩, s, vs⟩ = true → rightL vs = true → inB role 0 2 = true → (decide (0 < role) && t == 0) = false → inB lead 0 9 = true → inB timer 0 1048576 = true → inB commit base (lastJ ⟨base, bt, rs⟩) = true → ascL none got = true → rightN NN = okPs id (lastJ ⟨base, bt, rs⟩) none ps) := fun e1 e2 e3 e4 e5 e6 e7 e8 e9 => by rw [← hNN]; unfold rightN; simp only [e1, e2, e3, e4, e5, e6, e7, e8, e9]; rfl
  unfold nodeV
  dsimp only
  rw [hNN]
  clear hNN
  obtain ⟨wa, hwa⟩ : ∃ wa, (w.alloc (.cells #[.int .i64 id, .int .i64 t, .int .i64 v, .int .i64 base, .int .i64 bt, .slice RA n Rc, .string s, .slice VA m Vc, .int .i64 role, .int .i64 lead, .int .i64 timer, .int .i64 commit, .slice GA gn Gc, .slice PA pn Pc] 30)).alloc (.cells #[.int .i64 t, .int .i64 v, .int .i64 base, .int .i64 bt, .slice RA n Rc, .string s, .slice VA m Vc] 27) = wa := ⟨_, rfl⟩
  have hX0 : Hid (Blk wa w.heap.size 30 #[.int .i64 id, .int .i64 t, .int .i64 v, .int .i64 base, .int .i64 bt, .slice RA n Rc, .string s, .slice VA m Vc, .int .i64 role, .int .i64 lead, .int .i64 timer, .int .i64 commit, .slice GA gn Gc, .slice PA pn Pc]) := by rw [← hwa]; exact (Blk.new w _ _).alloc _
  have hH0 : Hid (Blk wa (w.heap.size + 1) 27 #[.int .i64 t, .int .i64 v, .int .i64 base, .int .i64 bt, .slice RA n Rc, .string s, .slice VA m Vc]) := by rw [← hwa]; exact Blk.new_ (by simp)
  have q0 : Below w.heap.size w wa := by rw [← hwa]; go_grown
  rw [← hwa] at hX0 hH0 q0
  clear hwa wa
  refine calls_of_wpQ Tryz.func35 rfl ?_
  intro Q hQ
  simp only [Tryz.ntmps35, List.size_toArray, List.length_cons, List.length_nil, Nat.reduceAdd, Nat.reduceSub, Array.replicate_succ, Array.replicate_zero, List.push_toArray, List.append_toArray, List.nil_append, List.cons_append]
  go_wp2_with fail
  refine (ewithin_any _ _ _ _).mono ?_
  rintro e w' ⟨rfl, rfl⟩
  cases c1 : inB id 1 9
  · have hf := hid_mk (hf1.out c1)
    replace c1 := hid_mk c1
    go_wp2
    refine ends_ret hQ (results_tmp rfl _ _ _) rfl ?_
    exact ⟨ret_bool hf.out.symm, q0⟩
  replace c1 := hid_mk c1
  go_wp2_with fail
  refine (WRight_any ⟨t, v, ⟨base, bt, rs⟩, s, vs⟩ ⟨RA, n, Rc⟩ ⟨VA, m, Vc⟩ _ (B := B) (by dsimp only; omega) (by dsimp only; omega) (hr.to (by go_grown)) (hi.to (by go_grown)) (ht.to (by go_grown))).mono ?_
  rintro e w1 ⟨rfl, hb1⟩
  have q1 := (after (w := w) hb1 (by go_grown)).1
  have hX1 := hid_mk (hX0.out.keep hb1)
  have hH1 := hid_mk (hH0.out.keep hb1)
  clear hb1
  have xs1 := hX1.out
  have hs1 := hH1.out
  obtain ⟨hl, h0, h1, h2, h3, h4, h5, h6⟩ := blk7 hs1
  have xl := xs1.lt
  have x2 := xs1.cell 8
  have x3 := xs1.cell 9
  have x4 := xs1.cell 10
  change _ = some (Value.int .i64 role) at x2
  change _ = some (Value.int .i64 lead) at x3
  change _ = some (Value.int .i64 timer) at x4
  clear xs1 hs1
  cases c2 : rightH ⟨t, v, ⟨base, bt, rs⟩, s, vs⟩
  · have hf := hid_mk (hf2.out c2)
    replace c2 := hid_mk c2
    go_wp2
    refine ends_ret hQ (results_tmp rfl _ _ _) rfl ?_
    exact ⟨ret_bool hf.out.symm, q1⟩
  have hsh := hid_mk (right_shaped c2)
  replace c2 := hid_mk c2
  go_wp2_with fail
  refine (qRight_any VA m Vc vs _ B (by omega) (hi.to (by go_grown))).mono ?_
  rintro e w' ⟨rfl, rfl⟩
  cases c3 : rightL vs
  · have hf := hid_mk (hf3.out c3)
    replace c3 := hid_mk c3
    go_wp2
    refine ends_ret hQ (results_tmp rfl _ _ _) rfl ?_
    exact ⟨ret_bool hf.out.symm, q1⟩
  replace c3 := hid_mk c3
  go_wp2_with fail
  refine (ewithin_any _ _ _ _).mono ?_
  rintro e w' ⟨rfl, rfl⟩
  cases c4 : inB role 0 2
  · have hf := hid_mk (hf4.out c4)
    replace c4 := hid_mk c4
    go_wp2
    refine ends_ret hQ (results_tmp rfl _ _ _) rfl ?_
    exact ⟨ret_bool hf.out.symm, q1⟩
  have b4 : 0 ≤ role ∧ role ≤ 2 := by simpa [inB] using c4
  replace c4 := hid_mk c4
  obtain ⟨ht0, hht0⟩ : ∃ z, (decide (0 < role) && t == 0) = z := ⟨_, rfl⟩
  cases ht0
  case true =>
    have e5 : 0 < role ∧ t = 0 := by simpa using hht0
    have hf := hid_mk (hf5.out e5.1 e5.2)
    have e6 := e5.1
    have e7 : (t == 0) = true := by simpa using e5.2
    clear e5 hht0
    go_wp2
    refine ends_ret hQ (results_tmp rfl _ _ _) rfl ?_
    exact ⟨ret_bool hf.out.symm, q1⟩
  have c5 := hid_mk hht0
  have c5' : ¬ 0 < role ∨ (0 < role ∧ (t == 0) = false) := by
    by_cases hr0 : 0 < role
    · exact .inr ⟨hr0, by simpa [hr0] using hht0⟩
    · exact .inl hr0
  clear hht0
  rcases c5' with hr0 | ⟨hr0, ht0⟩
  · have hr1 : role ≤ 0 := by omega
    go_wp2_with fail
    refine (ewithin_any _ _ _ _).mono ?_
    rintro e w' ⟨rfl, rfl⟩
    cases c6 : inB lead 0 9
    · have hf := hid_mk (hf6.out c6)
      replace c6 := hid_mk c6
      go_wp2
      refine ends_ret hQ (results_tmp rfl _ _ _) rfl ?_
      exact ⟨ret_bool hf.out.symm, q1⟩
    replace c6 := hid_mk c6
    go_wp2_with fail
    refine (ewithin_any _ _ _ _).mono ?_
    rintro e w' ⟨rfl, rfl⟩
    cases c7 : inB timer 0 1048576
    · have hf := hid_mk (hf7.out c7)
      replace c7 := hid_mk c7
      go_wp2
      refine ends_ret hQ (results_tmp rfl _ _ _) rfl ?_
      exact ⟨ret_bool hf.out.symm, q1⟩
    replace c7 := hid_mk c7
    go_wp2_with fail
    refine (Last_any ⟨base, bt, rs⟩ RA n Rc _ (B := B) (by omega) (hr.to (by go_grown))).mono ?_
    rw [show rightJ ⟨base, bt, rs⟩ = true from shaped_J hsh.out, if_pos rfl, if_pos rfl]
    rintro e w2 ⟨rfl, hb2⟩
    have q2 := (after (w := w) hb2 (by go_grown)).1
    have hX2 := hid_mk (hX1.out.keep hb2)
    have hH2 := hid_mk (hH1.out.keep hb2)
    clear hb2 hl h0 h1 h2 h3 h4 h5 h6 xl x2 x3 x4
    have hs2 := hH2.out
    obtain ⟨hl, h0, h1, h2, h3, h4, h5, h6⟩ := blk7 hs2
    have xs2 := hX2.out
    have xl := xs2.lt
    have x5 := xs2.cell 11
    have x6 := xs2.cell 12
    have x7 := xs2.cell 13
    change _ = some (Value.int .i64 commit) at x5
    change _ = some (Value.slice GA gn Gc) at x6
    change _ = some (Value.slice PA pn Pc) at x7
    clear xs2 hs2
    obtain ⟨last, hla⟩ : ∃ last, lastJ ⟨base, bt, rs⟩ = last := ⟨_, rfl⟩
    have hlb : 0 ≤ last ∧ last ≤ 1073741824 := by
      have := shaped_bounds hsh.out
      have h8 := right_bounds (shaped_J hsh.out)
      rw [← hla]
      unfold lastJ
      dsimp only at *
      omega
    rw [hla] at hf8 hft ⊢
    replace hla := hid_mk hla
    go_wp2_with fail
    refine (ewithin_any _ _ _ _).mono ?_
    rintro e w' ⟨rfl, rfl⟩
    cases c8 : inB commit base last
    · have hf := hid_mk (hf8.out c8)
      replace c8 := hid_mk c8
      go_wp2
      refine ends_ret hQ (results_tmp rfl _ _ _) rfl ?_
      exact ⟨ret_bool hf.out.symm, q2⟩
    replace c8 := hid_mk c8
    go_wp2_with fail
    refine (rising_any GA gn Gc got _ (B := B) (by omega) (hg.to (by go_grown))).mono ?_
    rintro e w3 ⟨rfl, hb3⟩
    have qL := (after (w := w) hb3 (by go_grown)).1
    have hXL := hid_mk (hX2.out.keep hb3)
    clear hb3 hl h0 h1 h2 h3 h4 h5 h6 xl x5 x6 x7
    have xsL := hXL.out
    have xl := xsL.lt
    have x7 := xsL.cell 13
    change _ = some (Value.slice PA pn Pc) at x7
    clear xsL
    cases c9 : ascL none got
    · have hf := hid_mk (hf9.out c9)
      replace c9 := hid_mk c9
      go_wp2
      refine ends_ret hQ (results_tmp rfl _ _ _) rfl ?_
      exact ⟨ret_bool hf.out.symm, qL⟩
    have hR0 : Hid (rightN NN = okPs id last (prevP ps 0) (ps.drop 0)) := hft.out c1.out c2.out c3.out c4.out c5.out c6.out c7.out c8.out c9
    replace c9 := hid_mk c9
    clear hf1 hf2 hf3 hf4 hf5 hf6 hf7 hf8 hf9 hft c1 c2 c3 c4 c5 c6 c7 c8 c9 hX0 hH0 hX1 hH1 hX2 hH2 q0 q1 q2
    go_wp2
    clear xl x7
    go_loopw [6, 76] (fun _ i wr => ∃ k : Nat, k ≤ pn ∧ i = .int .i64 k ∧ Below w.heap.size w wr ∧ Hid (rightN NN = okPs id last (prevP ps k) (ps.drop k)) ∧ Hid (Blk wr w.heap.size 30 #[.int .i64 id, .int .i64 t, .int .i64 v, .int .i64 base, .int .i64 bt, .slice RA n Rc, .string s, .slice VA m Vc, .int .i64 role, .int .i64 lead, .int .i64 timer, .int .i64 commit, .slice GA gn Gc, .slice PA pn Pc])) (fun _ i _ => pn - (intOf i).toNat)
    case atStart => exact ⟨0, Nat.zero_le _, rfl, qL, hR0, hXL⟩
    case round =>
      clear hXL
      obtain ⟨k, hk, rfl, hb, hn, hX⟩ := hrel
      by_cases hlt : k < pn
      · obtain ⟨b, o, r, rfl, hbb, hd, ci, cn, cm⟩ := (hps.to hb).at_ hlt
        replace hd := hid_mk hd
        have hp1 := hid_mk (prevP_succ hd.out)
        have xl := hX.out.lt
        have x0 := hX.out.cell 0
        have x13 := hX.out.cell 13
        change _ = some (Value.int .i64 id) at x0
        change _ = some (Value.slice (some ⟨b, o, none⟩) pn Pc) at x13
        obtain ⟨rid, rnx, rmt⟩ := r
        dsimp only at ci cn cm hp1
        have hb2 : Below w.heap.size w (wr.alloc (.cells #[.int .i64 rid, .int .i64 rnx, .int .i64 rmt] 53)) := hb.alloc hb.size _
        have hX2 := hid_mk (hX.out.alloc (.cells #[.int .i64 rid, .int .i64 rnx, .int .i64 rmt] 53))
        rcases Nat.eq_zero_or_pos k with h0 | h0
        · subst h0
          rw [prevP_zero] at hn
          rw [Nat.zero_mul, Nat.add_zero] at ci cn cm
          cases p1 : inB rid 1 9
          · skip
            go_wp2
            go_quiet ((go_at_call 100; exact Calls.quiet_of_same (ewithin_q (by assumption))))
            go_wp2
            refine ends_ret hQ (results_tmp rfl _ _ _) rfl ?_
            exact ⟨ret_bool (by rw [hn.out, hd.out, okPs, if_neg (by unfold okP; simp [p1])]), below_drewN_ hb2 _⟩
          by_cases p2 : rid = id
          · have p2' : (rid == id) = true := by simpa using p2
            replace p2 := hid_mk p2
            go_wp2
            go_quiet ((go_at_call 100; exact Calls.quiet_of_same (ewithin_q (by assumption))))
            go_wp2
            refine ends_ret hQ (results_tmp rfl _ _ _) rfl ?_
            exact ⟨ret_bool (by rw [hn.out, hd.out, okPs, if_neg (by unfold okP; simp [p2'])]), below_drewN_ hb2 _⟩
          have p2' : (rid == id) = false := by simpa using p2
          replace p2 := hid_mk p2
          cases p4 : inB rnx 1 (last + 1)
          · skip
            go_wp2
            go_quiet ((go_at_call 100; exact Calls.quiet_of_same (ewithin_q (by assumption))))
            go_wp2
            refine ends_ret hQ (results_tmp rfl _ _ _) rfl ?_
            exact ⟨ret_bool (by rw [hn.out, hd.out, okPs, if_neg (by unfold okP; simp [p4])]), below_drewN_ hb2 _⟩
          have p4b : 1 ≤ rnx ∧ rnx ≤ last + 1 := by simpa [inB] using p4
          have p4w : IntKind.i64.wrap (rnx - 1) = rnx - 1 := IntWalk.i64_in _ (by omega)
          cases p5 : inB rmt 0 (rnx - 1)
          · skip
            go_wp2
            go_quiet ((go_at_call 100; exact Calls.quiet_of_same (ewithin_q (by assumption))))
            go_wp2
            refine ends_ret hQ (results_tmp rfl _ _ _) rfl ?_
            exact ⟨ret_bool (by rw [hn.out, hd.out, okPs, if_neg (by unfold okP; simp [p5])]), below_drewN_ hb2 _⟩
          have hok : okP id last (none) ⟨rid, rnx, rmt⟩ = true := by
            unfold okP
            simp only [p1, p2', p4, p5]
            rfl
          replace hok := hid_mk hok
          go_wp2
          go_quiet ((go_at_call 100; exact Calls.quiet_of_same (ewithin_q (by assumption))))
          go_wp2
          go_roundw
          case rel => exact ⟨0 + 1, by omega, by go_num, below_drewN_ hb2 _, by rw [Hid, hn.out, hd.out, okPs, if_pos hok.out, hp1.out], hX2⟩
          case measure => simp [intOf]; omega
        · obtain ⟨kp, rfl⟩ : ∃ kp, k = kp + 1 := ⟨k - 1, by omega⟩
          obtain ⟨b', o', u, e, _, hd', cu, _, _⟩ := (hps.to hb).at_ (show kp < pn by omega)
          cases e
          obtain ⟨u, unx, umt⟩ := u
          dsimp only at cu
          have hp := hid_mk (prevP_succ hd')
          replace hd' := hid_mk hd'
          dsimp only at hp
          rw [hp.out] at hn
          cases p1 : inB rid 1 9
          · skip
            go_wp2
            go_quiet ((go_at_call 100; exact Calls.quiet_of_same (ewithin_q (by assumption))))
            go_wp2
            refine ends_ret hQ (results_tmp rfl _ _ _) rfl ?_
            exact ⟨ret_bool (by rw [hn.out, hd.out, okPs, if_neg (by unfold okP; simp [p1])]), below_drewN_ hb2 _⟩
          by_cases p2 : rid = id
          · have p2' : (rid == id) = true := by simpa using p2
            replace p2 := hid_mk p2
            go_wp2
            go_quiet ((go_at_call 100; exact Calls.quiet_of_same (ewithin_q (by assumption))))
            go_wp2
            refine ends_ret hQ (results_tmp rfl _ _ _) rfl ?_
            exact ⟨ret_bool (by rw [hn.out, hd.out, okPs, if_neg (by unfold okP; simp [p2'])]), below_drewN_ hb2 _⟩
          have p2' : (rid == id) = false := by simpa using p2
          replace p2 := hid_mk p2
          by_cases p3 : rid ≤ u
          · have p3' : decide (rid ≤ u) = true := by simpa using p3
            go_wp2
            go_quiet ((go_at_call 100; exact Calls.quiet_of_same (ewithin_q (by assumption))))
            go_wp2
            refine ends_ret hQ (results_tmp rfl _ _ _) rfl ?_
            exact ⟨ret_bool (by rw [hn.out, hd.out, okPs, if_neg (by unfold okP; simp; intros; omega)]), below_drewN_ hb2 _⟩
          have p3' : decide (rid ≤ u) = false := by simpa using p3
          cases p4 : inB rnx 1 (last + 1)
          · skip
            go_wp2
            go_quiet ((go_at_call 100; exact Calls.quiet_of_same (ewithin_q (by assumption))))
            go_wp2
            refine ends_ret hQ (results_tmp rfl _ _ _) rfl ?_
            exact ⟨ret_bool (by rw [hn.out, hd.out, okPs, if_neg (by unfold okP; simp [p4])]), below_drewN_ hb2 _⟩
          have p4b : 1 ≤ rnx ∧ rnx ≤ last + 1 := by simpa [inB] using p4
          have p4w : IntKind.i64.wrap (rnx - 1) = rnx - 1 := IntWalk.i64_in _ (by omega)
          cases p5 : inB rmt 0 (rnx - 1)
          · skip
            go_wp2
            go_quiet ((go_at_call 100; exact Calls.quiet_of_same (ewithin_q (by assumption))))
            go_wp2
            refine ends_ret hQ (results_tmp rfl _ _ _) rfl ?_
            exact ⟨ret_bool (by rw [hn.out, hd.out, okPs, if_neg (by unfold okP; simp [p5])]), below_drewN_ hb2 _⟩
          have hok : okP id last (some u) ⟨rid, rnx, rmt⟩ = true := by
            unfold okP
            simp only [p1, p2', p4, p5]
            simp; omega
          replace hok := hid_mk hok
          go_wp2
          go_quiet ((go_at_call 100; exact Calls.quiet_of_same (ewithin_q (by assumption))))
          go_wp2
          go_roundw
          case rel => exact ⟨kp + 1 + 1, by omega, by go_num, below_drewN_ hb2 _, by rw [Hid, hn.out, hd.out, okPs, if_pos hok.out, hp1.out], hX2⟩
          case measure => simp [intOf]; omega
      · have hend := hid_mk (show rightN NN = true by rw [hn.out, List.drop_eq_nil_of_le (by have := hps.len; omega)]; rfl)
        go_wp2
        refine ends_ret hQ (results_tmp rfl _ _ _) rfl ?_
        exact ⟨ret_bool hend.out.symm, hb⟩
  · go_wp2_with fail
    refine (ewithin_any _ _ _ _).mono ?_
    rintro e w' ⟨rfl, rfl⟩
    cases c6 : inB lead 0 9
    · have hf := hid_mk (hf6.out c6)
      replace c6 := hid_mk c6
      go_wp2
      refine ends_ret hQ (results_tmp rfl _ _ _) rfl ?_
      exact ⟨ret_bool hf.out.symm, q1⟩
    replace c6 := hid_mk c6
    go_wp2_with fail
    refine (ewithin_any _ _ _ _).mono ?_
    rintro e w' ⟨rfl, rfl⟩
    cases c7 : inB timer 0 1048576
    · have hf := hid_mk (hf7.out c7)
      replace c7 := hid_mk c7
      go_wp2
      refine ends_ret hQ (results_tmp rfl _ _ _) rfl ?_
      exact ⟨ret_bool hf.out.symm, q1⟩
    replace c7 := hid_mk c7
    go_wp2_with fail
    refine (Last_any ⟨base, bt, rs⟩ RA n Rc _ (B := B) (by omega) (hr.to (by go_grown))).mono ?_
    rw [show rightJ ⟨base, bt, rs⟩ = true from shaped_J hsh.out, if_pos rfl, if_pos rfl]
    rintro e w2 ⟨rfl, hb2⟩
    have q2 := (after (w := w) hb2 (by go_grown)).1
    have hX2 := hid_mk (hX1.out.keep hb2)
    have hH2 := hid_mk (hH1.out.keep hb2)
    clear hb2 hl h0 h1 h2 h3 h4 h5 h6 xl x2 x3 x4
    have hs2 := hH2.out
    obtain ⟨hl, h0, h1, h2, h3, h4, h5, h6⟩ := blk7 hs2
    have xs2 := hX2.out
    have xl := xs2.lt
    have x5 := xs2.cell 11
    have x6 := xs2.cell 12
    have x7 := xs2.cell 13
    change _ = some (Value.int .i64 commit) at x5
    change _ = some (Value.slice GA gn Gc) at x6
    change _ = some (Value.slice PA pn Pc) at x7
    clear xs2 hs2
    obtain ⟨last, hla⟩ : ∃ last, lastJ ⟨base, bt, rs⟩ = last := ⟨_, rfl⟩
    have hlb : 0 ≤ last ∧ last ≤ 1073741824 := by
      have := shaped_bounds hsh.out
      have h8 := right_bounds (shaped_J hsh.out)
      rw [← hla]
      unfold lastJ
      dsimp only at *
      omega
    rw [hla] at hf8 hft ⊢
    replace hla := hid_mk hla
    go_wp2_with fail
    refine (ewithin_any _ _ _ _).mono ?_
    rintro e w' ⟨rfl, rfl⟩
    cases c8 : inB commit base last
    · have hf := hid_mk (hf8.out c8)
      replace c8 := hid_mk c8
      go_wp2
      refine ends_ret hQ (results_tmp rfl _ _ _) rfl ?_
      exact ⟨ret_bool hf.out.symm, q2⟩
    replace c8 := hid_mk c8
    go_wp2_with fail
    refine (rising_any GA gn Gc got _ (B := B) (by omega) (hg.to (by go_grown))).mono ?_
    rintro e w3 ⟨rfl, hb3⟩
    have qL := (after (w := w) hb3 (by go_grown)).1
    have hXL := hid_mk (hX2.out.keep hb3)
    clear hb3 hl h0 h1 h2 h3 h4 h5 h6 xl x5 x6 x7
    have xsL := hXL.out
    have xl := xsL.lt
    have x7 := xsL.cell 13
    change _ = some (Value.slice PA pn Pc) at x7
    clear xsL
    cases c9 : ascL none got
    · have hf := hid_mk (hf9.out c9)
      replace c9 := hid_mk c9
      go_wp2
      refine ends_ret hQ (results_tmp rfl _ _ _) rfl ?_
      exact ⟨ret_bool hf.out.symm, qL⟩
    have hR0 : Hid (rightN NN = okPs id last (prevP ps 0) (ps.drop 0)) := hft.out c1.out c2.out c3.out c4.out c5.out c6.out c7.out c8.out c9
    replace c9 := hid_mk c9
    clear hf1 hf2 hf3 hf4 hf5 hf6 hf7 hf8 hf9 hft c1 c2 c3 c4 c5 c6 c7 c8 c9 hX0 hH0 hX1 hH1 hX2 hH2 q0 q1 q2
    go_wp2
    clear xl x7
    go_loopw [6, 76] (fun _ i wr => ∃ k : Nat, k ≤ pn ∧ i = .int .i64 k ∧ Below w.heap.size w wr ∧ Hid (rightN NN = okPs id last (prevP ps k) (ps.drop k)) ∧ Hid (Blk wr w.heap.size 30 #[.int .i64 id, .int .i64 t, .int .i64 v, .int .i64 base, .int .i64 bt, .slice RA n Rc, .string s, .slice VA m Vc, .int .i64 role, .int .i64 lead, .int .i64 timer, .int .i64 commit, .slice GA gn Gc, .slice PA pn Pc])) (fun _ i _ => pn - (intOf i).toNat)
    case atStart => exact ⟨0, Nat.zero_le _, rfl, qL, hR0, hXL⟩
    case round =>
      clear hXL
      obtain ⟨k, hk, rfl, hb, hn, hX⟩ := hrel
      by_cases hlt : k < pn
      · obtain ⟨b, o, r, rfl, hbb, hd, ci, cn, cm⟩ := (hps.to hb).at_ hlt
        replace hd := hid_mk hd
        have hp1 := hid_mk (prevP_succ hd.out)
        have xl := hX.out.lt
        have x0 := hX.out.cell 0
        have x13 := hX.out.cell 13
        change _ = some (Value.int .i64 id) at x0
        change _ = some (Value.slice (some ⟨b, o, none⟩) pn Pc) at x13
        obtain ⟨rid, rnx, rmt⟩ := r
        dsimp only at ci cn cm hp1
        have hb2 : Below w.heap.size w (wr.alloc (.cells #[.int .i64 rid, .int .i64 rnx, .int .i64 rmt] 53)) := hb.alloc hb.size _
        have hX2 := hid_mk (hX.out.alloc (.cells #[.int .i64 rid, .int .i64 rnx, .int .i64 rmt] 53))
        rcases Nat.eq_zero_or_pos k with h0 | h0
        · subst h0
          rw [prevP_zero] at hn
          rw [Nat.zero_mul, Nat.add_zero] at ci cn cm
          cases p1 : inB rid 1 9
          · skip
            go_wp2
            go_quiet ((go_at_call 100; exact Calls.quiet_of_same (ewithin_q (by assumption))))
            go_wp2
            refine ends_ret hQ (results_tmp rfl _ _ _) rfl ?_
            exact ⟨ret_bool (by rw [hn.out, hd.out, okPs, if_neg (by unfold okP; simp [p1])]), below_drewN_ hb2 _⟩
          by_cases p2 : rid = id
          · have p2' : (rid == id) = true := by simpa using p2
            replace p2 := hid_mk p2
            go_wp2
            go_quiet ((go_at_call 100; exact Calls.quiet_of_same (ewithin_q (by assumption))))
            go_wp2
            refine ends_ret hQ (results_tmp rfl _ _ _) rfl ?_
            exact ⟨ret_bool (by rw [hn.out, hd.out, okPs, if_neg (by unfold okP; simp [p2'])]), below_drewN_ hb2 _⟩
          have p2' : (rid == id) = false := by simpa using p2
          replace p2 := hid_mk p2
          cases p4 : inB rnx 1 (last + 1)
          · skip
            go_wp2
            go_quiet ((go_at_call 100; exact Calls.quiet_of_same (ewithin_q (by assumption))))
            go_wp2
            refine ends_ret hQ (results_tmp rfl _ _ _) rfl ?_
            exact ⟨ret_bool (by rw [hn.out, hd.out, okPs, if_neg (by unfold okP; simp [p4])]), below_drewN_ hb2 _⟩
          have p4b : 1 ≤ rnx ∧ rnx ≤ last + 1 := by simpa [inB] using p4
          have p4w : IntKind.i64.wrap (rnx - 1) = rnx - 1 := IntWalk.i64_in _ (by omega)
          cases p5 : inB rmt 0 (rnx - 1)
          · skip
            go_wp2
            go_quiet ((go_at_call 100; exact Calls.quiet_of_same (ewithin_q (by assumption))))
            go_wp2
            refine ends_ret hQ (results_tmp rfl _ _ _) rfl ?_
            exact ⟨ret_bool (by rw [hn.out, hd.out, okPs, if_neg (by unfold okP; simp [p5])]), below_drewN_ hb2 _⟩
          have hok : okP id last (none) ⟨rid, rnx, rmt⟩ = true := by
            unfold okP
            simp only [p1, p2', p4, p5]
            rfl
          replace hok := hid_mk hok
          go_wp2
          go_quiet ((go_at_call 100; exact Calls.quiet_of_same (ewithin_q (by assumption))))
          go_wp2
          go_roundw
          case rel => exact ⟨0 + 1, by omega, by go_num, below_drewN_ hb2 _, by rw [Hid, hn.out, hd.out, okPs, if_pos hok.out, hp1.out], hX2⟩
          case measure => simp [intOf]; omega
        · obtain ⟨kp, rfl⟩ : ∃ kp, k = kp + 1 := ⟨k - 1, by omega⟩
          obtain ⟨b', o', u, e, _, hd', cu, _, _⟩ := (hps.to hb).at_ (show kp < pn by omega)
          cases e
          obtain ⟨u, unx, umt⟩ := u
          dsimp only at cu
          have hp := hid_mk (prevP_succ hd')
          replace hd' := hid_mk hd'
          dsimp only at hp
          rw [hp.out] at hn
          cases p1 : inB rid 1 9
          · skip
            go_wp2
            go_quiet ((go_at_call 100; exact Calls.quiet_of_same (ewithin_q (by assumption))))
            go_wp2
            refine ends_ret hQ (results_tmp rfl _ _ _) rfl ?_
            exact ⟨ret_bool (by rw [hn.out, hd.out, okPs, if_neg (by unfold okP; simp [p1])]), below_drewN_ hb2 _⟩
          by_cases p2 : rid = id
          · have p2' : (rid == id) = true := by simpa using p2
            replace p2 := hid_mk p2
            go_wp2
            go_quiet ((go_at_call 100; exact Calls.quiet_of_same (ewithin_q (by assumption))))
            go_wp2
            refine ends_ret hQ (results_tmp rfl _ _ _) rfl ?_
            exact ⟨ret_bool (by rw [hn.out, hd.out, okPs, if_neg (by unfold okP; simp [p2'])]), below_drewN_ hb2 _⟩
          have p2' : (rid == id) = false := by simpa using p2
          replace p2 := hid_mk p2
          by_cases p3 : rid ≤ u
          · have p3' : decide (rid ≤ u) = true := by simpa using p3
            go_wp2
            go_quiet ((go_at_call 100; exact Calls.quiet_of_same (ewithin_q (by assumption))))
            go_wp2
            refine ends_ret hQ (results_tmp rfl _ _ _) rfl ?_
            exact ⟨ret_bool (by rw [hn.out, hd.out, okPs, if_neg (by unfold okP; simp; intros; omega)]), below_drewN_ hb2 _⟩
          have p3' : decide (rid ≤ u) = false := by simpa using p3
          cases p4 : inB rnx 1 (last + 1)
          · skip
            go_wp2
            go_quiet ((go_at_call 100; exact Calls.quiet_of_same (ewithin_q (by assumption))))
            go_wp2
            refine ends_ret hQ (results_tmp rfl _ _ _) rfl ?_
            exact ⟨ret_bool (by rw [hn.out, hd.out, okPs, if_neg (by unfold okP; simp [p4])]), below_drewN_ hb2 _⟩
          have p4b : 1 ≤ rnx ∧ rnx ≤ last + 1 := by simpa [inB] using p4
          have p4w : IntKind.i64.wrap (rnx - 1) = rnx - 1 := IntWalk.i64_in _ (by omega)
          cases p5 : inB rmt 0 (rnx - 1)
          · skip
            go_wp2
            go_quiet ((go_at_call 100; exact Calls.quiet_of_same (ewithin_q (by assumption))))
            go_wp2
            refine ends_ret hQ (results_tmp rfl _ _ _) rfl ?_
            exact ⟨ret_bool (by rw [hn.out, hd.out, okPs, if_neg (by unfold okP; simp [p5])]), below_drewN_ hb2 _⟩
          have hok : okP id last (some u) ⟨rid, rnx, rmt⟩ = true := by
            unfold okP
            simp only [p1, p2', p4, p5]
            simp; omega
          replace hok := hid_mk hok
          go_wp2
          go_quiet ((go_at_call 100; exact Calls.quiet_of_same (ewithin_q (by assumption))))
          go_wp2
          go_roundw
          case rel => exact ⟨kp + 1 + 1, by omega, by go_num, below_drewN_ hb2 _, by rw [Hid, hn.out, hd.out, okPs, if_pos hok.out, hp1.out], hX2⟩
          case measure => simp [intOf]; omega
      · have hend := hid_mk (show rightN NN = true by rw [hn.out, List.drop_eq_nil_of_le (by have := hps.len; omega)]; rfl)
        go_wp2
        refine ends_ret hQ (results_tmp rfl _ _ _) rfl ?_
        exact ⟨ret_bool hend.out.symm, hb⟩
end Go.Proofs.YtncdjmpdbinanaaGreatDoor
namespace Go.Proofs.YtncdjmpdbinanaaGreatDoor
open Go.RowKit

theorem blk14f {w : World} {g : Nat} {t : TypeId} {a0 a1 a2 a3 a4 a5 a6 a7 a8 a9 a10 a11 a12 a13 : Value} (h : Blk w g t #[a0, a1, a2, a3, a4, a5, a6, a7, a8, a9, a10, a11, a12, a13]) :
    g < w.heap.size ∧ w.cell? ⟨g, 0, none⟩ = some a0 ∧ w.cell? ⟨g, 1, none⟩ = some a1 ∧ w.cell? ⟨g, 2, none⟩ = some a2 ∧ w.cell? ⟨g, 3, none⟩ = some a3 ∧ w.cell? ⟨g, 4, none⟩ = some a4 ∧ w.cell? ⟨g, 5, none⟩ = some a5 ∧ w.cell? ⟨g, 6, none⟩ = some a6 ∧ w.cell? ⟨g, 7, none⟩ = some a7 ∧ w.cell? ⟨g, 8, none⟩ = some a8 ∧ w.cell? ⟨g, 9, none⟩ = some a9 ∧ w.cell? ⟨g, 10, none⟩ = some a10 ∧ w.cell? ⟨g, 11, none⟩ = some a11 ∧ w.cell? ⟨g, 12, none⟩ = some a12 ∧ w.cell? ⟨g, 13, none⟩ = some a13 ∧ w.frozen? ⟨g, 0, none⟩ = false ∧ w.frozen? ⟨g, 1, none⟩ = false ∧ w.frozen? ⟨g, 2, none⟩ = false ∧ w.frozen? ⟨g, 3, none⟩ = false ∧ w.frozen? ⟨g, 4, none⟩ = false ∧ w.frozen? ⟨g, 5, none⟩ = false ∧ w.frozen? ⟨g, 6, none⟩ = false ∧ w.frozen? ⟨g, 7, none⟩ = false ∧ w.frozen? ⟨g, 8, none⟩ = false ∧ w.frozen? ⟨g, 9, none⟩ = false ∧ w.frozen? ⟨g, 10, none⟩ = false ∧ w.frozen? ⟨g, 11, none⟩ = false ∧ w.frozen? ⟨g, 12, none⟩ = false ∧ w.frozen? ⟨g, 13, none⟩ = false :=
  ⟨h.lt, h.cell 0, h.cell 1, h.cell 2, h.cell 3, h.cell 4, h.cell 5, h.cell 6, h.cell 7, h.cell 8, h.cell 9, h.cell 10, h.cell 11, h.cell 12, h.cell 13, h.frozen 0, h.frozen 1, h.frozen 2, h.frozen 3, h.frozen 4, h.frozen 5, h.frozen 6, h.frozen 7, h.frozen 8, h.frozen 9, h.frozen 10, h.frozen 11, h.frozen 12, h.frozen 13⟩
theorem blk14c {w : World} {g : Nat} {t : TypeId} {a0 a1 a2 a3 a4 a5 a6 a7 a8 a9 a10 a11 a12 a13 : Value} (h : Blk w g t #[a0, a1, a2, a3, a4, a5, a6, a7, a8, a9, a10, a11, a12, a13]) : g < w.heap.size ∧ w.cell? ⟨g, 0, none⟩ = some a0 ∧ w.cell? ⟨g, 1, none⟩ = some a1 ∧ w.cell? ⟨g, 2, none⟩ = some a2 ∧ w.cell? ⟨g, 3, none⟩ = some a3 ∧ w.cell? ⟨g, 4, none⟩ = some a4 ∧ w.cell? ⟨g, 5, none⟩ = some a5 ∧ w.cell? ⟨g, 6, none⟩ = some a6 ∧ w.cell? ⟨g, 7, none⟩ = some a7 ∧ w.cell? ⟨g, 8, none⟩ = some a8 ∧ w.cell? ⟨g, 9, none⟩ = some a9 ∧ w.cell? ⟨g, 10, none⟩ = some a10 ∧ w.cell? ⟨g, 11, none⟩ = some a11 ∧ w.cell? ⟨g, 12, none⟩ = some a12 ∧ w.cell? ⟨g, 13, none⟩ = some a13 := ⟨h.lt, h.cell 0, h.cell 1, h.cell 2, h.cell 3, h.cell 4, h.cell 5, h.cell 6, h.cell 7, h.cell 8, h.cell 9, h.cell 10, h.cell 11, h.cell 12, h.cell 13⟩
/-- fourteen cells stored into a box of the call's own -/
def set14 (w : World) (g : Nat) (a0 a1 a2 a3 a4 a5 a6 a7 a8 a9 a10 a11 a12 a13 : Value) : World := (((((((((((((w.setCell ⟨g, 0, none⟩ a0).setCell ⟨g, 1, none⟩ a1).setCell ⟨g, 2, none⟩ a2).setCell ⟨g, 3, none⟩ a3).setCell ⟨g, 4, none⟩ a4).setCell ⟨g, 5, none⟩ a5).setCell ⟨g, 6, none⟩ a6).setCell ⟨g, 7, none⟩ a7).setCell ⟨g, 8, none⟩ a8).setCell ⟨g, 9, none⟩ a9).setCell ⟨g, 10, none⟩ a10).setCell ⟨g, 11, none⟩ a11).setCell ⟨g, 12, none⟩ a12).setCell ⟨g, 13, none⟩ a13
theorem set14_blk {w : World} {g : Nat} {t : TypeId} {a0 a1 a2 a3 a4 a5 a6 a7 a8 a9 a10 a11 a12 a13 : Value} (h : Blk w g t #[a0, a1, a2, a3, a4, a5, a6, a7, a8, a9, a10, a11, a12, a13]) (b0 b1 b2 b3 b4 b5 b6 b7 b8 b9 b10 b11 b12 b13 : Value) : Blk (set14 w g b0 b1 b2 b3 b4 b5 b6 b7 b8 b9 b10 b11 b12 b13) g t #[b0, b1, b2, b3, b4, b5, b6, b7, b8, b9, b10, b11, b12, b13] := by
  unfold set14
  have k0 : Blk (w.setCell ⟨g, 0, none⟩ b0) g t #[b0, a1, a2, a3, a4, a5, a6, a7, a8, a9, a10, a11, a12, a13] := h.set_ 0 b0
  have k1 : Blk ((w.setCell ⟨g, 0, none⟩ b0).setCell ⟨g, 1, none⟩ b1) g t #[b0, b1, a2, a3, a4, a5, a6, a7, a8, a9, a10, a11, a12, a13] := k0.set_ 1 b1
  have k2 : Blk (((w.setCell ⟨g, 0, none⟩ b0).setCell ⟨g, 1, none⟩ b1).setCell ⟨g, 2, none⟩ b2) g t #[b0, b1, b2, a3, a4, a5, a6, a7, a8, a9, a10, a11, a12, a13] := k1.set_ 2 b2
  have k3 : Blk ((((w.setCell ⟨g, 0, none⟩ b0).setCell ⟨g, 1, none⟩ b1).setCell ⟨g, 2, none⟩ b2).setCell ⟨g, 3, none⟩ b3) g t #[b0, b1, b2, b3, a4, a5, a6, a7, a8, a9, a10, a11, a12, a13] := k2.set_ 3 b3
  have k4 : Blk (((((w.setCell ⟨g, 0, none⟩ b0).setCell ⟨g, 1, none⟩ b1).setCell ⟨g, 2, none⟩ b2).setCell ⟨g, 3, none⟩ b3).setCell ⟨g, 4, none⟩ b4) g t #[b0, b1, b2, b3, b4, a5, a6, a7, a8, a9, a10, a11, a12, a13] := k3.set_ 4 b4
  have k5 : Blk ((((((w.setCell ⟨g, 0, none⟩ b0).setCell ⟨g, 1, none⟩ b1).setCell ⟨g, 2, none⟩ b2).setCell ⟨g, 3, none⟩ b3).setCell ⟨g, 4, none⟩ b4).setCell ⟨g, 5, none⟩ b5) g t #[b0, b1, b2, b3, b4, b5, a6, a7, a8, a9, a10, a11, a12, a13] := k4.set_ 5 b5
  have k6 : Blk (((((((w.setCell ⟨g, 0, none⟩ b0).setCell ⟨g, 1, none⟩ b1).setCell ⟨g, 2, none⟩ b2).setCell ⟨g, 3, none⟩ b3).setCell ⟨g, 4, none⟩ b4).setCell ⟨g, 5, none⟩ b5).setCell ⟨g, 6, none⟩ b6) g t #[b0, b1, b2, b3, b4, b5, b6, a7, a8, a9, a10, a11, a12, a13] := k5.set_ 6 b6
  have k7 : Blk ((((((((w.setCell ⟨g, 0, none⟩ b0).setCell ⟨g, 1, none⟩ b1).setCell ⟨g, 2, none⟩ b2).setCell ⟨g, 3, none⟩ b3).setCell ⟨g, 4, none⟩ b4).setCell ⟨g, 5, none⟩ b5).setCell ⟨g, 6, none⟩ b6).setCell ⟨g, 7, none⟩ b7) g t #[b0, b1, b2, b3, b4, b5, b6, b7, a8, a9, a10, a11, a12, a13] := k6.set_ 7 b7
  have k8 : Blk (((((((((w.setCell ⟨g, 0, none⟩ b0).setCell ⟨g, 1, none⟩ b1).setCell ⟨g, 2, none⟩ b2).setCell ⟨g, 3, none⟩ b3).setCell ⟨g, 4, none⟩ b4).setCell ⟨g, 5, none⟩ b5).setCell ⟨g, 6, none⟩ b6).setCell ⟨g, 7, none⟩ b7).setCell ⟨g, 8, none⟩ b8) g t #[b0, b1, b2, b3, b4, b5, b6, b7, b8, a9, a10, a11, a12, a13] := k7.set_ 8 b8
  have k9 : Blk ((((((((((w.setCell ⟨g, 0, none⟩ b0).setCell ⟨g, 1, none⟩ b1).setCell ⟨g, 2, none⟩ b2).setCell ⟨g, 3, none⟩ b3).setCell ⟨g, 4, none⟩ b4).setCell ⟨g, 5, none⟩ b5).setCell ⟨g, 6, none⟩ b6).setCell ⟨g, 7, none⟩ b7).setCell ⟨g, 8, none⟩ b8).setCell ⟨g, 9, none⟩ b9) g t #[b0, b1, b2, b3, b4, b5, b6, b7, b8, b9, a10, a11, a12, a13] := k8.set_ 9 b9
  have k10 : Blk (((((((((((w.setCell ⟨g, 0, none⟩ b0).setCell ⟨g, 1, none⟩ b1).setCell ⟨g, 2, none⟩ b2).setCell ⟨g, 3, none⟩ b3).setCell ⟨g, 4, none⟩ b4).setCell ⟨g, 5, none⟩ b5).setCell ⟨g, 6, none⟩ b6).setCell ⟨g, 7, none⟩ b7).setCell ⟨g, 8, none⟩ b8).setCell ⟨g, 9, none⟩ b9).setCell ⟨g, 10, none⟩ b10) g t #[b0, b1, b2, b3, b4, b5, b6, b7, b8, b9, b10, a11, a12, a13] := k9.set_ 10 b10
  have k11 : Blk ((((((((((((w.setCell ⟨g, 0, none⟩ b0).setCell ⟨g, 1, none⟩ b1).setCell ⟨g, 2, none⟩ b2).setCell ⟨g, 3, none⟩ b3).setCell ⟨g, 4, none⟩ b4).setCell ⟨g, 5, none⟩ b5).setCell ⟨g, 6, none⟩ b6).setCell ⟨g, 7, none⟩ b7).setCell ⟨g, 8, none⟩ b8).setCell ⟨g, 9, none⟩ b9).setCell ⟨g, 10, none⟩ b10).setCell ⟨g, 11, none⟩ b11) g t #[b0, b1, b2, b3, b4, b5, b6, b7, b8, b9, b10, b11, a12, a13] := k10.set_ 11 b11
  have k12 : Blk (((((((((((((w.setCell ⟨g, 0, none⟩ b0).setCell ⟨g, 1, none⟩ b1).setCell ⟨g, 2, none⟩ b2).setCell ⟨g, 3, none⟩ b3).setCell ⟨g, 4, none⟩ b4).setCell ⟨g, 5, none⟩ b5).setCell ⟨g, 6, none⟩ b6).setCell ⟨g, 7, none⟩ b7).setCell ⟨g, 8, none⟩ b8).setCell ⟨g, 9, none⟩ b9).setCell ⟨g, 10, none⟩ b10).setCell ⟨g, 11, none⟩ b11).setCell ⟨g, 12, none⟩ b12) g t #[b0, b1, b2, b3, b4, b5, b6, b7, b8, b9, b10, b11, b12, a13] := k11.set_ 12 b12
  have k13 : Blk ((((((((((((((w.setCell ⟨g, 0, none⟩ b0).setCell ⟨g, 1, none⟩ b1).setCell ⟨g, 2, none⟩ b2).setCell ⟨g, 3, none⟩ b3).setCell ⟨g, 4, none⟩ b4).setCell ⟨g, 5, none⟩ b5).setCell ⟨g, 6, none⟩ b6).setCell ⟨g, 7, none⟩ b7).setCell ⟨g, 8, none⟩ b8).setCell ⟨g, 9, none⟩ b9).setCell ⟨g, 10, none⟩ b10).setCell ⟨g, 11, none⟩ b11).setCell ⟨g, 12, none⟩ b12).setCell ⟨g, 13, none⟩ b13) g t #[b0, b1, b2, b3, b4, b5, b6, b7, b8, b9, b10, b11, b12, b13] := k12.set_ 13 b13
  exact k13
theorem set14_below {w W : World} {g : Nat} (a0 a1 a2 a3 a4 a5 a6 a7 a8 a9 a10 a11 a12 a13 : Value) (h : Below W.heap.size W w) (hg : W.heap.size ≤ g) : Below W.heap.size W (set14 w g a0 a1 a2 a3 a4 a5 a6 a7 a8 a9 a10 a11 a12 a13) :=
  (((((((((((((h.setCell (p := ⟨g, 0, none⟩) hg _).setCell (p := ⟨g, 1, none⟩) hg _).setCell (p := ⟨g, 2, none⟩) hg _).setCell (p := ⟨g, 3, none⟩) hg _).setCell (p := ⟨g, 4, none⟩) hg _).setCell (p := ⟨g, 5, none⟩) hg _).setCell (p := ⟨g, 6, none⟩) hg _).setCell (p := ⟨g, 7, none⟩) hg _).setCell (p := ⟨g, 8, none⟩) hg _).setCell (p := ⟨g, 9, none⟩) hg _).setCell (p := ⟨g, 10, none⟩) hg _).setCell (p := ⟨g, 11, none⟩) hg _).setCell (p := ⟨g, 12, none⟩) hg _).setCell (p := ⟨g, 13, none⟩) hg _
theorem set14_reads {w : World} {g : Nat} {t : TypeId} {a0 a1 a2 a3 a4 a5 a6 a7 a8 a9 a10 a11 a12 a13 : Value} (h : Blk w g t #[a0, a1, a2, a3, a4, a5, a6, a7, a8, a9, a10, a11, a12, a13]) (b0 b1 b2 b3 b4 b5 b6 b7 b8 b9 b10 b11 b12 b13 : Value) {B : Nat} (hg : B ≤ g) {e : TypeId} (hne : e ≠ t) {size n : Nat} {A : Option Addr} {xs : List Value} (hr : Reads w B e size A n xs) :
    Reads (set14 w g b0 b1 b2 b3 b4 b5 b6 b7 b8 b9 b10 b11 b12 b13) B e size A n xs := by
  unfold set14
  have r0 := Reads.far hr h hg hne 0 b0
  have k0 := h.set_ 0 b0
  have r1 := Reads.far r0 k0 hg hne 1 b1
  have k1 := k0.set_ 1 b1
  have r2 := Reads.far r1 k1 hg hne 2 b2
  have k2 := k1.set_ 2 b2
  have r3 := Reads.far r2 k2 hg hne 3 b3
  have k3 := k2.set_ 3 b3
  have r4 := Reads.far r3 k3 hg hne 4 b4
  have k4 := k3.set_ 4 b4
  have r5 := Reads.far r4 k4 hg hne 5 b5
  have k5 := k4.set_ 5 b5
  have r6 := Reads.far r5 k5 hg hne 6 b6
  have k6 := k5.set_ 6 b6
  have r7 := Reads.far r6 k6 hg hne 7 b7
  have k7 := k6.set_ 7 b7
  have r8 := Reads.far r7 k7 hg hne 8 b8
  have k8 := k7.set_ 8 b8
  have r9 := Reads.far r8 k8 hg hne 9 b9
  have k9 := k8.set_ 9 b9
  have r10 := Reads.far r9 k9 hg hne 10 b10
  have k10 := k9.set_ 10 b10
  have r11 := Reads.far r10 k10 hg hne 11 b11
  have k11 := k10.set_ 11 b11
  have r12 := Reads.far r11 k11 hg hne 12 b12
  have k12 := k11.set_ 12 b12
  have r13 := Reads.far r12 k12 hg hne 13 b13
  exact r13
/-- does the node see the term? -/
def laterC (N : Nd) (term : Int) : Bool := rightN N && (decide (N.h.t < term) && decide (term ≤ 1073741824))
def laterN (N : Nd) (term : Int) : Nd := if laterC N term then ⟨N.id, ⟨term, 0, N.h.l, N.h.s, N.h.vs⟩, 0, 0, N.timer, N.commit, [], []⟩ else N
end Go.Proofs.YtncdjmpdbinanaaGreatDoor
