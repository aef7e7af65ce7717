/-
  WHAT IS PROVED HERE: what layer 20's small and alive hand back. Conditions: the slices are of at most 2^47 elements; the library's table and MaxLen stand.
-/
import Derived.Test.YtncdjmpdbinanaaGreatDoorZGKep
import Derived.Test.YtncdjmpdbinanaaGreatDoorZTic
import Derived.Test.YtncdjmpdbinanaaGreatDoorZBeg
namespace Go.Proofs.YtncdjmpdbinanaaGreatDoor
open Go.RowKit

def smallB20 (N : Nd) (M : Ms) : Bool := smallE (smallK (wrap64 ((N.h.s.size : Int) + M.s.size)) 0 N.h.l.rs) M.rs.length
theorem small20_zero {N : Nd} (hs : N.h.s.size ≤ 140737488351232) (h : smallB20 N zeroM = true) : smallB N zeroM = true := by
  unfold smallB20 at h
  unfold smallB
  have e : wrap64 ((N.h.s.size : Int) + (zeroM.s.size : Int)) = (N.h.s.size : Int) := by
    have h0 : zeroM.s.size = 0 := rfl
    rw [h0]
    rw [show ((N.h.s.size : Int) + ((0 : Nat) : Int)) = N.h.s.size from by omega]
    exact IntWalk.wrap64_in _ (by omega)
  rw [e] at h
  exact h
set_option maxRecDepth 100000 in
set_option maxHeartbeats 3200000 in
theorem small20_any (N : Nd) (a : NdA) (M : Ms) (b : MsA) (w : World) {B : Nat} (hN : NdOk w B N a) (hM : MsOk w B M b) :
    Calls Tryz.prog 40 #[nodeV N a, msgV M b] w fun e w' => e = .returned (.bool (smallB20 N M)) ∧ Below w.heap.size w w' := by
  obtain ⟨hr, hrc, hrb, hi, hvc, hvb, hsb, hg, hgc, hgb, hps, hpc, hpb⟩ := hN
  obtain ⟨mr, mrc, mrb, _, _, _, hmsb⟩ := hM
  obtain ⟨Z, hZ⟩ : ∃ Z, smallB20 N M = Z := ⟨_, rfl⟩
  rw [hZ]
  unfold smallB20 at hZ
  obtain ⟨id, ⟨t, v, ⟨base, bt, rs⟩, s, vs⟩, role, lead, timer, commit, got, ps⟩ := N
  obtain ⟨⟨RA, n, Rc⟩, ⟨VA, m, Vc⟩, ⟨GA, gn, Gc⟩, ⟨PA, pn, Pc⟩⟩ := a
  obtain ⟨kind, fr, mto, term, ok, index, lterm, mrs, mcommit, ms, mvs⟩ := M
  obtain ⟨⟨QA, qn, Qc⟩, ⟨UA, un, Uc⟩⟩ := b
  dsimp only at hr hrc hrb mr mrc mrb hZ hsb hmsb
  have hlm := hid_mk mr.len
  have hcw : wrap64 ((s.size : Int) + ms.size) = (s.size : Int) + ms.size := IntWalk.wrap64_in _ (by omega)
  unfold nodeV msgV
  dsimp only
  have hM0 : Hid (Blk ((w.alloc (.cells #[.int .i64 id, .int .i64 t, .int .i64 v, .int .i64 base, .int .i64 bt, .slice RA n Rc, .string s, .slice VA m Vc, .int .i64 role, .int .i64 lead, .int .i64 timer, .int .i64 commit, .slice GA gn Gc, .slice PA pn Pc] 30)).alloc (.cells #[.int .i64 kind, .int .i64 fr, .int .i64 mto, .int .i64 term, .bool ok, .int .i64 index, .int .i64 lterm, .slice QA qn Qc, .int .i64 mcommit, .string ms, .slice UA un Uc] 32)) (w.heap.size + 1) 32 #[.int .i64 kind, .int .i64 fr, .int .i64 mto, .int .i64 term, .bool ok, .int .i64 index, .int .i64 lterm, .slice QA qn Qc, .int .i64 mcommit, .string ms, .slice UA un Uc]) := Blk.new_ (by simp)
  have q0 : Below w.heap.size w ((w.alloc (.cells #[.int .i64 id, .int .i64 t, .int .i64 v, .int .i64 base, .int .i64 bt, .slice RA n Rc, .string s, .slice VA m Vc, .int .i64 role, .int .i64 lead, .int .i64 timer, .int .i64 commit, .slice GA gn Gc, .slice PA pn Pc] 30)).alloc (.cells #[.int .i64 kind, .int .i64 fr, .int .i64 mto, .int .i64 term, .bool ok, .int .i64 index, .int .i64 lterm, .slice QA qn Qc, .int .i64 mcommit, .string ms, .slice UA un Uc] 32)) := by go_grown
  have hz0 : Hid (smallE (smallK ((s.size : Int) + ms.size) 0 (rs.drop 0)) mrs.length = Z) := by rw [← hcw]; exact hZ
  clear hZ
  replace hcw := hid_mk hcw
  refine calls_of_wpQ Tryz.func40 rfl ?_
  intro Q hQ
  simp only [Tryz.ntmps40, List.size_toArray, List.length_cons, List.length_nil, Nat.reduceAdd, Nat.reduceSub, Array.replicate_succ, Array.replicate_zero, List.push_toArray, List.append_toArray, List.nil_append, List.cons_append]
  go_wp2
  go_loopw [5, 21] (fun cc i wr => ∃ (k : Nat) (c : Int), k ≤ n ∧ i = .int .i64 k ∧ cc = .int .i64 c ∧ Below w.heap.size w wr ∧ Hid (smallE (smallK c k (rs.drop k)) mrs.length = Z) ∧ Hid (Blk wr (w.heap.size + 1) 32 #[.int .i64 kind, .int .i64 fr, .int .i64 mto, .int .i64 term, .bool ok, .int .i64 index, .int .i64 lterm, .slice QA qn Qc, .int .i64 mcommit, .string ms, .slice UA un Uc])) (fun _ i _ => n - (intOf i).toNat)
  case atStart => exact ⟨0, _, Nat.zero_le _, rfl, rfl, q0, hz0, hM0⟩
  case round =>
    clear hz0 q0 hM0
    obtain ⟨k, c, hk, rfl, rfl, hb, hn, hX⟩ := hrel
    by_cases hlt : k < n
    · obtain ⟨b, o, r, rfl, hbb, hd, ct, ck, cd⟩ := (hr.below hb).at_ hlt
      have hb2 : Below w.heap.size w (wr.alloc (.cells #[.int .i64 r.t, .int .i64 r.k, .string r.d] 51)) := hb.alloc hb.size _
      have hX2 := hid_mk (hX.out.alloc (.cells #[.int .i64 r.t, .int .i64 r.k, .string r.d] 51))
      obtain ⟨rt, rk, rd⟩ := r
      dsimp only at ct ck cd hb2 hX2
      obtain ⟨q, hq⟩ : ∃ q, wrap64 (c + rd.size) = q := ⟨_, rfl⟩
      by_cases h1 : 30000 < q
      · have he : Hid (Z = false) := by rw [Hid, ← hn.out, hd.out, smallK, if_pos (.inl (by rw [hq]; exact h1))]; rfl
        go_wp2
        refine ends_ret hQ (results_tmp rfl _ _ _) rfl ?_
        exact ⟨ret_bool he.out.symm, hb2⟩
      by_cases h2 : 300 < k
      · have he : Hid (Z = false) := by rw [Hid, ← hn.out, hd.out, smallK, if_pos (.inr h2)]; rfl
        go_wp2
        refine ends_ret hQ (results_tmp rfl _ _ _) rfl ?_
        exact ⟨ret_bool he.out.symm, hb2⟩
      have hn2 : Hid (smallE (smallK (wrap64 (c + rd.size)) (k + 1) (rs.drop (k + 1))) mrs.length = Z) := by
        have := hn.out
        rw [hd.out, smallK, if_neg (by rw [hq]; rintro (h | h) <;> omega)] at this
        exact this
      go_wp2
      go_roundw
      case rel => exact ⟨k + 1, _, by omega, by go_num, rfl, hb2, hn2, hX2⟩
      case measure => simp [intOf]; omega
    · have hz : Hid ((decide (c ≤ 30000) && decide (qn ≤ 300)) = Z) := by
        have := hn.out
        rw [hr.end_ hlt, smallK, hlm.out] at this
        exact this
      have x7 := hX.out.cell 7
      have xl := hX.out.lt
      change _ = some (Value.slice QA qn Qc) at x7
      clear hn
      by_cases h1 : c ≤ 30000
      · have c1 := hid_mk (show decide (c ≤ 30000) = true from by simpa using h1)
        by_cases h2 : qn ≤ 300
        · have c2 := hid_mk (show decide (qn ≤ 300) = true from by simpa using h2)
          go_wp2
          refine ends_ret hQ (results_tmp rfl _ _ _) rfl ?_
          exact ⟨ret_bool (by rw [← hz.out, c1.out, c2.out]; simp; omega), hb⟩
        · have c2 := hid_mk (show decide (qn ≤ 300) = false from by simpa using h2)
          go_wp2
          refine ends_ret hQ (results_tmp rfl _ _ _) rfl ?_
          exact ⟨ret_bool (by rw [← hz.out, c1.out, c2.out]; simp; omega), hb⟩
      · have c1 := hid_mk (show decide (c ≤ 30000) = false from by simpa using h1)
        go_wp2
        refine ends_ret hQ (results_tmp rfl _ _ _) rfl ?_
        exact ⟨ret_bool (by rw [← hz.out, c1.out]; rfl), hb⟩

def liveD : Nd := begN 1 ⟨0, 0, ⟨0, 0, []⟩, ⟨#[]⟩, [1]⟩ 1
theorem liveD_right : rightN liveD = true := by
  have hl : (encH liveD.h).length ≤ 131072 := by decide +kernel
  unfold rightN rightH
  rw [show decide ((encH liveD.h).length ≤ 131072) = true from by simpa using hl]
  rfl
theorem liveD_small : smallB liveD zeroM = true := by decide +kernel
theorem liveD_won : standW liveD = true := by
  unfold standW standC
  rw [liveD_right]
  decide +kernel
theorem liveD_tick : (tickN liveD 5).role = 2 ∧ tickE liveD = 0 := by
  obtain ⟨h1, _, _, _, h5⟩ := (tick_say liveD 5).2 liveD_right
  refine ⟨?_, h1⟩
  have ht : ¬ 1 < liveD.timer := by decide
  have hr : ¬ liveD.role = 2 := by decide
  rw [(h5 ht hr liveD_won).1]
  have hw := liveD_won
  have hc : standC liveD = true := by
    unfold standW at hw
    rw [Bool.and_eq_true] at hw
    exact hw.1
  have hu : standN liveD 5 = upN liveD 5 := by
    unfold standN
    rw [liveD_right, hc]
    rfl
  have hk := keep_stand liveD_right liveD_small 5
  rw [hu] at hk ⊢
  have hl : leadC (upN liveD 5) = true := by
    unfold leadC
    rw [hk]
    rfl
  unfold leadN
  rw [if_pos hl, (sure_same _).2.2.1]
  exact (lead_right hk rfl).2.2.2.1
set_option maxRecDepth 100000 in
set_option maxHeartbeats 1600000 in
theorem alive20_any (w : World) (ht : Tab w) (mm : Int) (hm : w.cell? ⟨0, 0, none⟩ = some (.int .i64 mm)) : Calls Tryz.prog 45 #[] w fun e w' => e = .returned (.bool true) ∧ Below w.heap.size w w' := by
  have hI : Ints (w.alloc (.cells #[.int .i64 1] 3)) w.heap.size (some ⟨w.heap.size, 0, none⟩) 1 [1] := reads_new w #[.int .i64 1] 3 1 1 w.heap.size rfl
  have hN : NdOk (w.alloc (.cells #[.int .i64 1] 3)) w.heap.size liveD ⟨⟨none, 0, 0⟩, ⟨some ⟨w.heap.size, 0, none⟩, 1, 1⟩, ⟨none, 0, 0⟩, ⟨none, 0, 0⟩⟩ :=
    ⟨Reads.none_, Nat.le_refl _, by dsimp only; omega, hI, Nat.le_refl _, by dsimp only; omega, by show 0 ≤ _; omega, Reads.none_, Nat.le_refl _, by dsimp only; omega, Reads.none_, Nat.le_refl _, by dsimp only; omega⟩
  have ht' : Tab (w.alloc (.cells #[.int .i64 1] 3)) := ht.to (by go_grown)
  have hm2 : Hid (∀ w', Below w.heap.size w w' → w'.cell? ⟨0, 0, none⟩ = some (.int .i64 mm)) := fun w' hb => (hb.cell (p := ⟨0, 0, none⟩) (cell_lt hm)).trans hm
  have hBE := NBegin_any 1 ⟨0, 0, ⟨0, 0, []⟩, ⟨#[]⟩, [1]⟩ ⟨none, 0, 0⟩ ⟨some ⟨w.heap.size, 0, none⟩, 1, 1⟩ 1 _ hN ht'
  have hbr : begR 1 ⟨0, 0, ⟨0, 0, []⟩, ⟨#[]⟩, [1]⟩ 1 = (liveD, 0) := by
    unfold begR
    exact if_pos liveD_right
  rw [hbr] at hBE
  obtain ⟨h2, h3⟩ := liveD_tick
  have hTI := fun (a : NdA) (w1 : World) (h0 : w.heap.size ≤ w1.heap.size) (h1 : NdOk w1 w.heap.size liveD a) (h4 : Tab w1) (hmm : w1.cell? ⟨0, 0, none⟩ = some (.int .i64 mm)) => NTick_any liveD a 5 w1 h0 h1 h4 mm hmm
  rw [h3] at hTI
  obtain ⟨T, hT⟩ : ∃ z, tickN liveD 5 = z := ⟨_, rfl⟩
  obtain ⟨TL, hTL⟩ : ∃ z, tickL liveD 5 = z := ⟨_, rfl⟩
  rw [hT] at h2
  rw [hT, hTL] at hTI
  obtain ⟨D, hD⟩ : ∃ z, liveD = z := ⟨_, rfl⟩
  rw [hD] at hBE hTI
  replace hT := hid_mk hT
  replace hTL := hid_mk hTL
  replace hD := hid_mk hD
  clear hm hN hbr h3 ht'
  unfold hdV at hBE
  dsimp only at hBE
  refine calls_of_wpQ Tryz.func45 rfl ?_
  intro Q hQ
  simp only [Tryz.ntmps45, List.size_toArray, List.length_nil, Nat.reduceSub, Array.replicate_succ, Array.replicate_zero, List.push_toArray, List.append_toArray, List.nil_append, List.cons_append]
  go_wp2_with fail
  refine hBE.mono ?_
  rintro e w1 ⟨a1, rfl, hok1, hb1⟩
  have q1 : Below w.heap.size w w1 := (after (w := w) hb1 (by go_grown)).1
  have z1 := q1.size
  clear hb1 hI
  unfold nodeV
  dsimp only at hok1 ⊢
  have hTI2 := hTI a1
  unfold nodeV at hTI2
  go_wp2_with fail
  refine (hTI2 _ (by simp only [World.size_alloc]; omega) (hok1.to (by go_grown)) (ht.to (by go_grown)) (hm2.out _ (by go_grown))).mono ?_
  rintro e w2 ⟨a2, A2, n2, c2, pm2, rfl, _, _, _, _, hb1⟩
  have q2 : Below w.heap.size w w2 := (after (w := w) hb1 (by go_grown)).1
  have z2 := q2.size
  clear hb1 hok1
  unfold nodeV
  rw [h2]
  go_wp2
  refine ends_ret hQ (results_tmp rfl _ _ _) rfl ?_
  exact ⟨rfl, by go_grown⟩
end Go.Proofs.YtncdjmpdbinanaaGreatDoor
