/-
  WHAT IS PROVED HERE: what the reference's Right hands back of a node. Conditions: the slices are of at most 2^47 elements; the library's table stands.
-/
import Derived.Test.YtncdjmpdbinanaaGreatDoorZGEl1
import Derived.Test.YtncdjmpdbinanaaGreatDoorZWal3
namespace Go.Proofs.YtncdjmpdbinanaaGreatDoor
open Go.RowKit

theorem blk14 {w : World} {g : Nat} {t : TypeId} {a0 a1 a2 a3 a4 a5 a6 a7 a8 a9 a10 a11 a12 a13 : Value} (h : Blk w g t #[a0, a1, a2, a3, a4, a5, a6, a7, a8, a9, a10, a11, a12, a13]) :
    g < w.heap.size ∧ w.cell? ⟨g, 0, none⟩ = some a0 ∧ w.cell? ⟨g, 1, none⟩ = some a1 ∧ w.cell? ⟨g, 2, none⟩ = some a2 ∧ w.cell? ⟨g, 3, none⟩ = some a3 ∧ w.cell? ⟨g, 4, none⟩ = some a4 ∧ w.cell? ⟨g, 5, none⟩ = some a5 ∧ w.cell? ⟨g, 6, none⟩ = some a6 ∧ w.cell? ⟨g, 7, none⟩ = some a7 ∧ w.cell? ⟨g, 8, none⟩ = some a8 ∧ w.cell? ⟨g, 9, none⟩ = some a9 ∧ w.cell? ⟨g, 10, none⟩ = some a10 ∧ w.cell? ⟨g, 11, none⟩ = some a11 ∧ w.cell? ⟨g, 12, none⟩ = some a12 ∧ w.cell? ⟨g, 13, none⟩ = some a13 :=
  ⟨h.lt, h.cell 0, h.cell 1, h.cell 2, h.cell 3, h.cell 4, h.cell 5, h.cell 6, h.cell 7, h.cell 8, h.cell 9, h.cell 10, h.cell 11, h.cell 12, h.cell 13⟩
set_option maxRecDepth 100000 in
set_option maxHeartbeats 12800000 in
theorem NRight_any (N : Nd) (a : NdA) (w : World) {B : Nat} (hN : NdOk w B N a) (ht : Tab w) :
    Calls Tryz.prog 18 #[nodeV N a] w fun e w' => e = .returned (.bool (rightN N)) ∧ Below w.heap.size w w' := by
  obtain ⟨hr, hrc, hrb, hi, hvc, hvb, hsb, hg, hgc, hgb, hps, hpc, hpb⟩ := hN
  obtain ⟨NN, hNN⟩ : ∃ NN, N = NN := ⟨_, rfl⟩
  obtain ⟨id, ⟨t, v, ⟨base, bt, rs⟩, s, vs⟩, role, lead, timer, commit, got, ps⟩ := N
  obtain ⟨⟨RA, n, Rc⟩, ⟨VA, m, Vc⟩, ⟨GA, gn, Gc⟩, ⟨PA, pn, Pc⟩⟩ := a
  dsimp only at hr hrc hrb hi hvc hvb hsb hg hgc hgb hps hpc hpb
  have hrl := hid_mk hr.len
  have hf1 : Hid (inB id 1 9 = false → rightN NN = false) := fun e => by rw [← hNN]; unfold rightN; simp [e]
  have hf2 : Hid (rightH ⟨t, v, ⟨base, bt, rs⟩, s, vs⟩ = false → rightN NN = false) := fun e => by rw [← hNN]; unfold rightN; simp [e]
  have hf3 : Hid (rightL vs = false → rightN NN = false) := fun e => by rw [← hNN]; unfold rightN; simp [e]
  have hf4 : Hid (inB role 0 2 = false → rightN NN = false) := fun e => by rw [← hNN]; unfold rightN; simp [e]
  have hf5 : Hid (0 < role → t = 0 → rightN NN = false) := fun e e2 => by rw [← hNN]; unfold rightN; simp [e, e2]
  have hf6 : Hid (inB lead 0 9 = false → rightN NN = false) := fun e => by rw [← hNN]; unfold rightN; simp [e]
  have hf7 : Hid (inB timer 0 1048576 = false → rightN NN = false) := fun e => by rw [← hNN]; unfold rightN; simp [e]
  have hf8 : Hid (inB commit base (lastJ ⟨base, bt, rs⟩) = false → rightN NN = false) := fun e => by rw [← hNN]; unfold rightN; simp [e]
  have hf9 : Hid (ascL none got = false → rightN NN = false) := fun e => by rw [← hNN]; unfold rightN; simp [e]
  have hft : Hid (inB id 1 9 = true → rightH ⟨t, v, ⟨base, bt, rs⟩, s, vs⟩ = true → rightL vs = true → inB role 0 2 = true → (decide (0 < role) && t == 0) = false → inB lead 0 9 = true → inB timer 0 1048576 = true → inB commit base (lastJ ⟨base, bt, rs⟩) = true → ascL none got = true → rightN NN = okPs id (lastJ ⟨base, bt, rs⟩) none ps) := fun e1 e2 e3 e4 e5 e6 e7 e8 e9 => by rw [← hNN]; unfold rightN; simp only [e1, e2, e3, e4, e5, e6, e7, e8, e9]; rfl
  unfold nodeV
  dsimp only
  rw [hNN]
  clear hNN
  have hX0 := hid_mk (Blk.new w 30 #[.int .i64 id, .int .i64 t, .int .i64 v, .int .i64 base, .int .i64 bt, .slice RA n Rc, .string s, .slice VA m Vc, .int .i64 role, .int .i64 lead, .int .i64 timer, .int .i64 commit, .slice GA gn Gc, .slice PA pn Pc])
  have q0 : Below w.heap.size w (w.alloc (.cells #[.int .i64 id, .int .i64 t, .int .i64 v, .int .i64 base, .int .i64 bt, .slice RA n Rc, .string s, .slice VA m Vc, .int .i64 role, .int .i64 lead, .int .i64 timer, .int .i64 commit, .slice GA gn Gc, .slice PA pn Pc] 30)) := by go_grown
  refine calls_of_wpQ Tryz.func18 rfl ?_
  intro Q hQ
  simp only [Tryz.ntmps18, List.size_toArray, List.length_cons, List.length_nil, Nat.reduceAdd, Nat.reduceSub, Array.replicate_succ, Array.replicate_zero, List.push_toArray, List.append_toArray, List.nil_append, List.cons_append]
  go_wp2_with fail
  refine (r17in_any _ _ _ _).mono ?_
  rintro e w' ⟨rfl, rfl⟩
  cases c1 : inB id 1 9
  · have hf := hid_mk (hf1.out c1)
    replace c1 := hid_mk c1
    go_wp2
    refine ends_ret hQ (results_tmp rfl _ _ _) rfl ?_
    exact ⟨ret_bool hf.out.symm, q0⟩
  replace c1 := hid_mk c1
  go_wp2_with fail
  refine (HRight_any ⟨t, v, ⟨base, bt, rs⟩, s, vs⟩ ⟨RA, n, Rc⟩ ⟨VA, m, Vc⟩ _ (B := B) (by dsimp only; omega) (by dsimp only; omega) (hr.to (by go_grown)) (hi.to (by go_grown)) (ht.to (by go_grown))).mono ?_
  rintro e w1 ⟨rfl, hb1⟩
  have q1 := (after (w := w) hb1 (by go_grown)).1
  have hX1 := hid_mk (hX0.out.keep hb1)
  clear hb1
  obtain ⟨xl, x0, x1, x2, x3, x4, x5, x6, x7, x8, x9, x10, x11, x12, x13⟩ := blk14 hX1.out
  cases c2 : rightH ⟨t, v, ⟨base, bt, rs⟩, s, vs⟩
  · have hf := hid_mk (hf2.out c2)
    replace c2 := hid_mk c2
    go_wp2
    refine ends_ret hQ (results_tmp rfl _ _ _) rfl ?_
    exact ⟨ret_bool hf.out.symm, q1⟩
  have hsh := hid_mk (right_shaped c2)
  replace c2 := hid_mk c2
  go_wp2_with fail
  refine (qrefRight_any VA m Vc vs _ B (by omega) (hi.to (by go_grown))).mono ?_
  rintro e w' ⟨rfl, rfl⟩
  cases c3 : rightL vs
  · have hf := hid_mk (hf3.out c3)
    replace c3 := hid_mk c3
    go_wp2
    refine ends_ret hQ (results_tmp rfl _ _ _) rfl ?_
    exact ⟨ret_bool hf.out.symm, q1⟩
  replace c3 := hid_mk c3
  go_wp2_with fail
  refine (r17in_any _ _ _ _).mono ?_
  rintro e w' ⟨rfl, rfl⟩
  cases c4 : inB role 0 2
  · have hf := hid_mk (hf4.out c4)
    replace c4 := hid_mk c4
    go_wp2
    refine ends_ret hQ (results_tmp rfl _ _ _) rfl ?_
    exact ⟨ret_bool hf.out.symm, q1⟩
  have b4 : 0 ≤ role ∧ role ≤ 2 := by simpa [inB] using c4
  replace c4 := hid_mk c4
  obtain ⟨ht0, hht0⟩ : ∃ z, (decide (0 < role) && t == 0) = z := ⟨_, rfl⟩
  cases ht0
  case true =>
    have e5 : 0 < role ∧ t = 0 := by simpa using hht0
    have hf := hid_mk (hf5.out e5.1 e5.2)
    have e6 : (role == 0) = false := by have := e5.1; simp; omega
    have e8 : (role != 0) = true := by have := e5.1; simp; omega
    have e7 : (t == 0) = true := by simpa using e5.2
    clear e5 hht0
    go_wp2
    refine ends_ret hQ (results_tmp rfl _ _ _) rfl ?_
    exact ⟨ret_bool hf.out.symm, q1⟩
  have c5 := hid_mk hht0
  have c5' : ((role == 0) = true ∧ (role != 0) = false) ∨ (((role == 0) = false ∧ (role != 0) = true) ∧ (t == 0) = false) := by
    by_cases hr0 : 0 < role
    · exact .inr ⟨⟨by simp; omega, by simp; omega⟩, by simpa [hr0] using hht0⟩
    · exact .inl ⟨by simp; omega, by simp; omega⟩
  clear hht0
  rcases c5' with ⟨hr0, hr00⟩ | ⟨⟨hr0, hr00⟩, ht0⟩
  · go_wp2_with fail
    refine (r17in_any _ _ _ _).mono ?_
    rintro e w' ⟨rfl, rfl⟩
    cases c6 : inB lead 0 9
    · have hf := hid_mk (hf6.out c6)
      replace c6 := hid_mk c6
      go_wp2
      refine ends_ret hQ (results_tmp rfl _ _ _) rfl ?_
      exact ⟨ret_bool hf.out.symm, q1⟩
    replace c6 := hid_mk c6
    go_wp2_with fail
    refine (r17in_any _ _ _ _).mono ?_
    rintro e w' ⟨rfl, rfl⟩
    cases c7 : inB timer 0 1048576
    · have hf := hid_mk (hf7.out c7)
      replace c7 := hid_mk c7
      go_wp2
      refine ends_ret hQ (results_tmp rfl _ _ _) rfl ?_
      exact ⟨ret_bool hf.out.symm, q1⟩
    replace c7 := hid_mk c7
    go_wp2_with fail
    refine (rises_any GA gn Gc got _ (B := B) (by omega) (hg.to (by go_grown))).mono ?_
    rintro e w2 ⟨rfl, hb2⟩
    have q2 := (after (w := w) hb2 (by go_grown)).1
    have hX2 := hid_mk (hX1.out.keep hb2)
    clear xl x0 x1 x2 x3 x4 x5 x6 x7 x8 x9 x10 x11 x12 x13 hb2
    obtain ⟨xl, x0, x1, x2, x3, x4, x5, x6, x7, x8, x9, x10, x11, x12, x13⟩ := blk14 hX2.out
    cases c9 : ascL none got
    · have hf := hid_mk (hf9.out c9)
      replace c9 := hid_mk c9
      go_wp2
      refine ends_ret hQ (results_tmp rfl _ _ _) rfl ?_
      exact ⟨ret_bool hf.out.symm, q2⟩
    have hsb0 := shaped_bounds hsh.out
    dsimp only at hsb0
    go_wp2_with fail
    refine (refLast_any ⟨base, bt, rs⟩ RA n Rc _ (by omega) hrl.out (by dsimp only; omega) (by dsimp only; omega)).mono ?_
    rintro e w3 ⟨rfl, hb3⟩
    have qL := (after (w := w) hb3 (by go_grown)).1
    have hXL := hid_mk (hX2.out.keep hb3)
    clear xl x0 x1 x2 x3 x4 x5 x6 x7 x8 x9 x10 x11 x12 x13 hb3
    obtain ⟨xl, x0, x1, x2, x3, x4, x5, x6, x7, x8, x9, x10, x11, x12, x13⟩ := blk14 hXL.out
    obtain ⟨last, hla⟩ : ∃ last, lastJ ⟨base, bt, rs⟩ = last := ⟨_, rfl⟩
    have hlb : 0 ≤ last ∧ last ≤ 1073741824 := by
      have h8 := right_bounds (shaped_J hsh.out)
      rw [← hla]
      unfold lastJ
      dsimp only at *
      omega
    rw [hla] at hf8 hft ⊢
    replace hla := hid_mk hla
    clear hsb0
    obtain ⟨R2, hR2⟩ : ∃ R2, okPs id last none ps = R2 := ⟨_, rfl⟩
    have hjoin : Hid (rightN NN = (R2 && inB commit base last)) := by
      cases c8 : inB commit base last with
      | false => rw [Hid, hf8.out c8, Bool.and_false]
      | true => rw [Hid, hft.out c1.out c2.out c3.out c4.out c5.out c6.out c7.out c8 c9, hR2, Bool.and_true]
    have hR0 : Hid (R2 = okPs id last (prevP ps 0) (ps.drop 0)) := hR2.symm
    clear hR2
    replace c9 := hid_mk c9
    clear hf1 hf2 hf3 hf4 hf5 hf6 hf7 hf8 hf9 hft c1 c2 c3 c4 c5 c6 c7 c9 hX0 hX1 hX2 q0 q1 q2
    go_wp2
    clear xl x0 x1 x2 x3 x4 x5 x6 x7 x8 x9 x10 x11 x12 x13
    go_loopw [4, 63] (fun _ i wr => ∃ k : Nat, k ≤ pn ∧ i = .int .i64 k ∧ Below w.heap.size w wr ∧ Hid (R2 = okPs id last (prevP ps k) (ps.drop k)) ∧ Hid (Blk wr w.heap.size 30 #[.int .i64 id, .int .i64 t, .int .i64 v, .int .i64 base, .int .i64 bt, .slice RA n Rc, .string s, .slice VA m Vc, .int .i64 role, .int .i64 lead, .int .i64 timer, .int .i64 commit, .slice GA gn Gc, .slice PA pn Pc])) (fun _ i _ => pn - (intOf i).toNat)
    case atStart => exact ⟨0, Nat.zero_le _, rfl, qL, hR0, hXL⟩
    case round =>
      clear hXL
      obtain ⟨k, hk, rfl, hb, hn, hX⟩ := hrel
      by_cases hlt : k < pn
      · obtain ⟨b, o, r, rfl, hbb, hd, ci, cn, cm⟩ := (hps.to hb).at_ hlt
        replace hd := hid_mk hd
        have hp1 := hid_mk (prevP_succ hd.out)
        have xl := hX.out.lt
        have x0 := hX.out.cell 0
        have x13 := hX.out.cell 13
        change _ = some (Value.int .i64 id) at x0
        change _ = some (Value.slice (some ⟨b, o, none⟩) pn Pc) at x13
        obtain ⟨rid, rnx, rmt⟩ := r
        dsimp only at ci cn cm hp1
        have hb2 : Below w.heap.size w (wr.alloc (.cells #[.int .i64 rid, .int .i64 rnx, .int .i64 rmt] 53)) := hb.alloc hb.size _
        have hX2 := hid_mk (hX.out.alloc (.cells #[.int .i64 rid, .int .i64 rnx, .int .i64 rmt] 53))
        rcases Nat.eq_zero_or_pos k with h0 | h0
        · subst h0
          rw [prevP_zero] at hn
          rw [Nat.zero_mul, Nat.add_zero] at ci cn cm
          cases p1 : inB rid 1 9
          · skip
            go_wp2
            go_quiet ((go_at_call 58; exact Calls.quiet_of_same (r17in_q (by assumption))))
            go_wp2
            refine ends_ret hQ (results_tmp rfl _ _ _) rfl ?_
            exact ⟨ret_bool (by rw [hjoin.out, hn.out, hd.out, okPs, if_neg (by unfold okP; simp [p1])]; rfl), below_drewN_ hb2 _⟩
          by_cases p2 : rid = id
          · have p2' : (rid == id) = true := by simpa using p2
            replace p2 := hid_mk p2
            go_wp2
            go_quiet ((go_at_call 58; exact Calls.quiet_of_same (r17in_q (by assumption))))
            go_wp2
            refine ends_ret hQ (results_tmp rfl _ _ _) rfl ?_
            exact ⟨ret_bool (by rw [hjoin.out, hn.out, hd.out, okPs, if_neg (by unfold okP; simp [p2'])]; rfl), below_drewN_ hb2 _⟩
          have p2' : (rid == id) = false := by simpa using p2
          replace p2 := hid_mk p2
          cases p4 : inB rnx 1 (last + 1)
          · skip
            go_wp2
            go_quiet ((go_at_call 58; exact Calls.quiet_of_same (r17in_q (by assumption))))
            go_wp2
            refine ends_ret hQ (results_tmp rfl _ _ _) rfl ?_
            exact ⟨ret_bool (by rw [hjoin.out, hn.out, hd.out, okPs, if_neg (by unfold okP; simp [p4])]; rfl), below_drewN_ hb2 _⟩
          have p4b : 1 ≤ rnx ∧ rnx ≤ last + 1 := by simpa [inB] using p4
          have p4w : IntKind.i64.wrap (rnx - 1) = rnx - 1 := IntWalk.i64_in _ (by omega)
          cases p5 : inB rmt 0 (rnx - 1)
          · skip
            go_wp2
            go_quiet ((go_at_call 58; exact Calls.quiet_of_same (r17in_q (by assumption))))
            go_wp2
            refine ends_ret hQ (results_tmp rfl _ _ _) rfl ?_
            exact ⟨ret_bool (by rw [hjoin.out, hn.out, hd.out, okPs, if_neg (by unfold okP; simp [p5])]; rfl), below_drewN_ hb2 _⟩
          have hok : okP id last (none) ⟨rid, rnx, rmt⟩ = true := by
            unfold okP
            simp only [p1, p2', p4, p5]
            rfl
          replace hok := hid_mk hok
          go_wp2
          go_quiet ((go_at_call 58; exact Calls.quiet_of_same (r17in_q (by assumption))))
          go_wp2
          go_roundw
          case rel => exact ⟨0 + 1, by omega, by go_num, below_drewN_ hb2 _, by rw [Hid, hn.out, hd.out, okPs, if_pos hok.out, hp1.out], hX2⟩
          case measure => simp [intOf]; omega
        · obtain ⟨kp, rfl⟩ : ∃ kp, k = kp + 1 := ⟨k - 1, by omega⟩
          obtain ⟨b', o', u, e, _, hd', cu, _, _⟩ := (hps.to hb).at_ (show kp < pn by omega)
          cases e
          obtain ⟨u, unx, umt⟩ := u
          dsimp only at cu
          have hp := hid_mk (prevP_succ hd')
          replace hd' := hid_mk hd'
          dsimp only at hp
          rw [hp.out] at hn
          cases p1 : inB rid 1 9
          · skip
            go_wp2
            go_quiet ((go_at_call 58; exact Calls.quiet_of_same (r17in_q (by assumption))))
            go_wp2
            refine ends_ret hQ (results_tmp rfl _ _ _) rfl ?_
            exact ⟨ret_bool (by rw [hjoin.out, hn.out, hd.out, okPs, if_neg (by unfold okP; simp [p1])]; rfl), below_drewN_ hb2 _⟩
          by_cases p2 : rid = id
          · have p2' : (rid == id) = true := by simpa using p2
            replace p2 := hid_mk p2
            go_wp2
            go_quiet ((go_at_call 58; exact Calls.quiet_of_same (r17in_q (by assumption))))
            go_wp2
            refine ends_ret hQ (results_tmp rfl _ _ _) rfl ?_
            exact ⟨ret_bool (by rw [hjoin.out, hn.out, hd.out, okPs, if_neg (by unfold okP; simp [p2'])]; rfl), below_drewN_ hb2 _⟩
          have p2' : (rid == id) = false := by simpa using p2
          replace p2 := hid_mk p2
          by_cases p3 : rid ≤ u
          · have p3' : decide (rid ≤ u) = true := by simpa using p3
            go_wp2
            go_quiet ((go_at_call 58; exact Calls.quiet_of_same (r17in_q (by assumption))))
            go_wp2
            refine ends_ret hQ (results_tmp rfl _ _ _) rfl ?_
            exact ⟨ret_bool (by rw [hjoin.out, hn.out, hd.out, okPs, if_neg (by unfold okP; simp; intros; omega)]; rfl), below_drewN_ hb2 _⟩
          have p3' : decide (rid ≤ u) = false := by simpa using p3
          cases p4 : inB rnx 1 (last + 1)
          · skip
            go_wp2
            go_quiet ((go_at_call 58; exact Calls.quiet_of_same (r17in_q (by assumption))))
            go_wp2
            refine ends_ret hQ (results_tmp rfl _ _ _) rfl ?_
            exact ⟨ret_bool (by rw [hjoin.out, hn.out, hd.out, okPs, if_neg (by unfold okP; simp [p4])]; rfl), below_drewN_ hb2 _⟩
          have p4b : 1 ≤ rnx ∧ rnx ≤ last + 1 := by simpa [inB] using p4
          have p4w : IntKind.i64.wrap (rnx - 1) = rnx - 1 := IntWalk.i64_in _ (by omega)
          cases p5 : inB rmt 0 (rnx - 1)
          · skip
            go_wp2
            go_quiet ((go_at_call 58; exact Calls.quiet_of_same (r17in_q (by assumption))))
            go_wp2
            refine ends_ret hQ (results_tmp rfl _ _ _) rfl ?_
            exact ⟨ret_bool (by rw [hjoin.out, hn.out, hd.out, okPs, if_neg (by unfold okP; simp [p5])]; rfl), below_drewN_ hb2 _⟩
          have hok : okP id last (some u) ⟨rid, rnx, rmt⟩ = true := by
            unfold okP
            simp only [p1, p2', p4, p5]
            simp; omega
          replace hok := hid_mk hok
          go_wp2
          go_quiet ((go_at_call 58; exact Calls.quiet_of_same (r17in_q (by assumption))))
          go_wp2
          go_roundw
          case rel => exact ⟨kp + 1 + 1, by omega, by go_num, below_drewN_ hb2 _, by rw [Hid, hn.out, hd.out, okPs, if_pos hok.out, hp1.out], hX2⟩
          case measure => simp [intOf]; omega
      · have hend := hid_mk (show R2 = true by rw [hn.out, List.drop_eq_nil_of_le (by have := hps.len; omega)]; rfl)
        have x0 := hX.out.cell 11
        have x1 := hX.out.cell 3
        have xl := hX.out.lt
        change _ = some (Value.int .i64 commit) at x0
        change _ = some (Value.int .i64 base) at x1
        go_wp2_with fail
        refine (r17in_any _ _ _ _).mono ?_
        rintro e w' ⟨rfl, rfl⟩
        go_wp2
        refine ends_ret hQ (results_tmp rfl _ _ _) rfl ?_
        exact ⟨ret_bool (by rw [hjoin.out, hend.out]; rfl), hb⟩
  · go_wp2_with fail
    refine (r17in_any _ _ _ _).mono ?_
    rintro e w' ⟨rfl, rfl⟩
    cases c6 : inB lead 0 9
    · have hf := hid_mk (hf6.out c6)
      replace c6 := hid_mk c6
      go_wp2
      refine ends_ret hQ (results_tmp rfl _ _ _) rfl ?_
      exact ⟨ret_bool hf.out.symm, q1⟩
    replace c6 := hid_mk c6
    go_wp2_with fail
    refine (r17in_any _ _ _ _).mono ?_
    rintro e w' ⟨rfl, rfl⟩
    cases c7 : inB timer 0 1048576
    · have hf := hid_mk (hf7.out c7)
      replace c7 := hid_mk c7
      go_wp2
      refine ends_ret hQ (results_tmp rfl _ _ _) rfl ?_
      exact ⟨ret_bool hf.out.symm, q1⟩
    replace c7 := hid_mk c7
    go_wp2_with fail
    refine (rises_any GA gn Gc got _ (B := B) (by omega) (hg.to (by go_grown))).mono ?_
    rintro e w2 ⟨rfl, hb2⟩
    have q2 := (after (w := w) hb2 (by go_grown)).1
    have hX2 := hid_mk (hX1.out.keep hb2)
    clear xl x0 x1 x2 x3 x4 x5 x6 x7 x8 x9 x10 x11 x12 x13 hb2
    obtain ⟨xl, x0, x1, x2, x3, x4, x5, x6, x7, x8, x9, x10, x11, x12, x13⟩ := blk14 hX2.out
    cases c9 : ascL none got
    · have hf := hid_mk (hf9.out c9)
      replace c9 := hid_mk c9
      go_wp2
      refine ends_ret hQ (results_tmp rfl _ _ _) rfl ?_
      exact ⟨ret_bool hf.out.symm, q2⟩
    have hsb0 := shaped_bounds hsh.out
    dsimp only at hsb0
    go_wp2_with fail
    refine (refLast_any ⟨base, bt, rs⟩ RA n Rc _ (by omega) hrl.out (by dsimp only; omega) (by dsimp only; omega)).mono ?_
    rintro e w3 ⟨rfl, hb3⟩
    have qL := (after (w := w) hb3 (by go_grown)).1
    have hXL := hid_mk (hX2.out.keep hb3)
    clear xl x0 x1 x2 x3 x4 x5 x6 x7 x8 x9 x10 x11 x12 x13 hb3
    obtain ⟨xl, x0, x1, x2, x3, x4, x5, x6, x7, x8, x9, x10, x11, x12, x13⟩ := blk14 hXL.out
    obtain ⟨last, hla⟩ : ∃ last, lastJ ⟨base, bt, rs⟩ = last := ⟨_, rfl⟩
    have hlb : 0 ≤ last ∧ last ≤ 1073741824 := by
      have h8 := right_bounds (shaped_J hsh.out)
      rw [← hla]
      unfold lastJ
      dsimp only at *
      omega
    rw [hla] at hf8 hft ⊢
    replace hla := hid_mk hla
    clear hsb0
    obtain ⟨R2, hR2⟩ : ∃ R2, okPs id last none ps = R2 := ⟨_, rfl⟩
    have hjoin : Hid (rightN NN = (R2 && inB commit base last)) := by
      cases c8 : inB commit base last with
      | false => rw [Hid, hf8.out c8, Bool.and_false]
      | true => rw [Hid, hft.out c1.out c2.out c3.out c4.out c5.out c6.out c7.out c8 c9, hR2, Bool.and_true]
    have hR0 : Hid (R2 = okPs id last (prevP ps 0) (ps.drop 0)) := hR2.symm
    clear hR2
    replace c9 := hid_mk c9
    clear hf1 hf2 hf3 hf4 hf5 hf6 hf7 hf8 hf9 hft c1 c2 c3 c4 c5 c6 c7 c9 hX0 hX1 hX2 q0 q1 q2
    go_wp2
    clear xl x0 x1 x2 x3 x4 x5 x6 x7 x8 x9 x10 x11 x12 x13
    go_loopw [4, 63] (fun _ i wr => ∃ k : Nat, k ≤ pn ∧ i = .int .i64 k ∧ Below w.heap.size w wr ∧ Hid (R2 = okPs id last (prevP ps k) (ps.drop k)) ∧ Hid (Blk wr w.heap.size 30 #[.int .i64 id, .int .i64 t, .int .i64 v, .int .i64 base, .int .i64 bt, .slice RA n Rc, .string s, .slice VA m Vc, .int .i64 role, .int .i64 lead, .int .i64 timer, .int .i64 commit, .slice GA gn Gc, .slice PA pn Pc])) (fun _ i _ => pn - (intOf i).toNat)
    case atStart => exact ⟨0, Nat.zero_le _, rfl, qL, hR0, hXL⟩
    case round =>
      clear hXL
      obtain ⟨k, hk, rfl, hb, hn, hX⟩ := hrel
      by_cases hlt : k < pn
      · obtain ⟨b, o, r, rfl, hbb, hd, ci, cn, cm⟩ := (hps.to hb).at_ hlt
        replace hd := hid_mk hd
        have hp1 := hid_mk (prevP_succ hd.out)
        have xl := hX.out.lt
        have x0 := hX.out.cell 0
        have x13 := hX.out.cell 13
        change _ = some (Value.int .i64 id) at x0
        change _ = some (Value.slice (some ⟨b, o, none⟩) pn Pc) at x13
        obtain ⟨rid, rnx, rmt⟩ := r
        dsimp only at ci cn cm hp1
        have hb2 : Below w.heap.size w (wr.alloc (.cells #[.int .i64 rid, .int .i64 rnx, .int .i64 rmt] 53)) := hb.alloc hb.size _
        have hX2 := hid_mk (hX.out.alloc (.cells #[.int .i64 rid, .int .i64 rnx, .int .i64 rmt] 53))
        rcases Nat.eq_zero_or_pos k with h0 | h0
        · subst h0
          rw [prevP_zero] at hn
          rw [Nat.zero_mul, Nat.add_zero] at ci cn cm
          cases p1 : inB rid 1 9
          · skip
            go_wp2
            go_quiet ((go_at_call 58; exact Calls.quiet_of_same (r17in_q (by assumption))))
            go_wp2
            refine ends_ret hQ (results_tmp rfl _ _ _) rfl ?_
            exact ⟨ret_bool (by rw [hjoin.out, hn.out, hd.out, okPs, if_neg (by unfold okP; simp [p1])]; rfl), below_drewN_ hb2 _⟩
          by_cases p2 : rid = id
          · have p2' : (rid == id) = true := by simpa using p2
            replace p2 := hid_mk p2
            go_wp2
            go_quiet ((go_at_call 58; exact Calls.quiet_of_same (r17in_q (by assumption))))
            go_wp2
            refine ends_ret hQ (results_tmp rfl _ _ _) rfl ?_
            exact ⟨ret_bool (by rw [hjoin.out, hn.out, hd.out, okPs, if_neg (by unfold okP; simp [p2'])]; rfl), below_drewN_ hb2 _⟩
          have p2' : (rid == id) = false := by simpa using p2
          replace p2 := hid_mk p2
          cases p4 : inB rnx 1 (last + 1)
          · skip
            go_wp2
            go_quiet ((go_at_call 58; exact Calls.quiet_of_same (r17in_q (by assumption))))
            go_wp2
            refine ends_ret hQ (results_tmp rfl _ _ _) rfl ?_
            exact ⟨ret_bool (by rw [hjoin.out, hn.out, hd.out, okPs, if_neg (by unfold okP; simp [p4])]; rfl), below_drewN_ hb2 _⟩
          have p4b : 1 ≤ rnx ∧ rnx ≤ last + 1 := by simpa [inB] using p4
          have p4w : IntKind.i64.wrap (rnx - 1) = rnx - 1 := IntWalk.i64_in _ (by omega)
          cases p5 : inB rmt 0 (rnx - 1)
          · skip
            go_wp2
            go_quiet ((go_at_call 58; exact Calls.quiet_of_same (r17in_q (by assumption))))
            go_wp2
            refine ends_ret hQ (results_tmp rfl _ _ _) rfl ?_
            exact ⟨ret_bool (by rw [hjoin.out, hn.out, hd.out, okPs, if_neg (by unfold okP; simp [p5])]; rfl), below_drewN_ hb2 _⟩
          have hok : okP id last (none) ⟨rid, rnx, rmt⟩ = true := by
            unfold okP
            simp only [p1, p2', p4, p5]
            rfl
          replace hok := hid_mk hok
          go_wp2
          go_quiet ((go_at_call 58; exact Calls.quiet_of_same (r17in_q (by assumption))))
          go_wp2
          go_roundw
          case rel => exact ⟨0 + 1, by omega, by go_num, below_drewN_ hb2 _, by rw [Hid, hn.out, hd.out, okPs, if_pos hok.out, hp1.out], hX2⟩
          case measure => simp [intOf]; omega
        · obtain ⟨kp, rfl⟩ : ∃ kp, k = kp + 1 := ⟨k - 1, by omega⟩
          obtain ⟨b', o', u, e, _, hd', cu, _, _⟩ := (hps.to hb).at_ (show kp < pn by omega)
          cases e
          obtain ⟨u, unx, umt⟩ := u
          dsimp only at cu
          have hp := hid_mk (prevP_succ hd')
          replace hd' := hid_mk hd'
          dsimp only at hp
          rw [hp.out] at hn
          cases p1 : inB rid 1 9
          · skip
            go_wp2
            go_quiet ((go_at_call 58; exact Calls.quiet_of_same (r17in_q (by assumption))))
            go_wp2
            refine ends_ret hQ (results_tmp rfl _ _ _) rfl ?_
            exact ⟨ret_bool (by rw [hjoin.out, hn.out, hd.out, okPs, if_neg (by unfold okP; simp [p1])]; rfl), below_drewN_ hb2 _⟩
          by_cases p2 : rid = id
          · have p2' : (rid == id) = true := by simpa using p2
            replace p2 := hid_mk p2
            go_wp2
            go_quiet ((go_at_call 58; exact Calls.quiet_of_same (r17in_q (by assumption))))
            go_wp2
            refine ends_ret hQ (results_tmp rfl _ _ _) rfl ?_
            exact ⟨ret_bool (by rw [hjoin.out, hn.out, hd.out, okPs, if_neg (by unfold okP; simp [p2'])]; rfl), below_drewN_ hb2 _⟩
          have p2' : (rid == id) = false := by simpa using p2
          replace p2 := hid_mk p2
          by_cases p3 : rid ≤ u
          · have p3' : decide (rid ≤ u) = true := by simpa using p3
            go_wp2
            go_quiet ((go_at_call 58; exact Calls.quiet_of_same (r17in_q (by assumption))))
            go_wp2
            refine ends_ret hQ (results_tmp rfl _ _ _) rfl ?_
            exact ⟨ret_bool (by rw [hjoin.out, hn.out, hd.out, okPs, if_neg (by unfold okP; simp; intros; omega)]; rfl), below_drewN_ hb2 _⟩
          have p3' : decide (rid ≤ u) = false := by simpa using p3
          cases p4 : inB rnx 1 (last + 1)
          · skip
            go_wp2
            go_quiet ((go_at_call 58; exact Calls.quiet_of_same (r17in_q (by assumption))))
            go_wp2
            refine ends_ret hQ (results_tmp rfl _ _ _) rfl ?_
            exact ⟨ret_bool (by rw [hjoin.out, hn.out, hd.out, okPs, if_neg (by unfold okP; simp [p4])]; rfl), below_drewN_ hb2 _⟩
          have p4b : 1 ≤ rnx ∧ rnx ≤ last + 1 := by simpa [inB] using p4
          have p4w : IntKind.i64.wrap (rnx - 1) = rnx - 1 := IntWalk.i64_in _ (by omega)
          cases p5 : inB rmt 0 (rnx - 1)
          · skip
            go_wp2
            go_quiet ((go_at_call 58; exact Calls.quiet_of_same (r17in_q (by assumption))))
            go_wp2
            refine ends_ret hQ (results_tmp rfl _ _ _) rfl ?_
            exact ⟨ret_bool (by rw [hjoin.out, hn.out, hd.out, okPs, if_neg (by unfold okP; simp [p5])]; rfl), below_drewN_ hb2 _⟩
          have hok : okP id last (some u) ⟨rid, rnx, rmt⟩ = true := by
            unfold okP
            simp only [p1, p2', p4, p5]
            simp; omega
          replace hok := hid_mk hok
          go_wp2
          go_quiet ((go_at_call 58; exact Calls.quiet_of_same (r17in_q (by assumption))))
          go_wp2
          go_roundw
          case rel => exact ⟨kp + 1 + 1, by omega, by go_num, below_drewN_ hb2 _, by rw [Hid, hn.out, hd.out, okPs, if_pos hok.out, hp1.out], hX2⟩
          case measure => simp [intOf]; omega
      · have hend := hid_mk (show R2 = true by rw [hn.out, List.drop_eq_nil_of_le (by have := hps.len; omega)]; rfl)
        have x0 := hX.out.cell 11
        have x1 := hX.out.cell 3
        have xl := hX.out.lt
        change _ = some (Value.int .i64 commit) at x0
        change _ = some (Value.int .i64 base) at x1
        go_wp2_with fail
        refine (r17in_any _ _ _ _).mono ?_
        rintro e w' ⟨rfl, rfl⟩
        go_wp2
        refine ends_ret hQ (results_tmp rfl _ _ _) rfl ?_
        exact ⟨ret_bool (by rw [hjoin.out, hend.out]; rfl), hb⟩
end Go.Proofs.YtncdjmpdbinanaaGreatDoor
