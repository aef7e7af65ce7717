/-
  WHAT IS PROVED HERE: what layer 18's small and alive hand back. Conditions: the slices are of at most 2^47 elements; the library's table and MaxLen stand.
  WHAT IS PROVED HERE: the law ExtendLeads returns true: what a node is that leads, and what it sends, is what the reference tells. Conditions: the slices are of at most 2^47 elements; the library's table and MaxLen stand.
-/
import Derived.Test.YtncdjmpdbinanaaGreatDoorZGKep
import Derived.Test.YtncdjmpdbinanaaGreatDoorZEld
import Derived.Test.YtncdjmpdbinanaaGreatDoorZLik
import Derived.Test.YtncdjmpdbinanaaGreatDoorZRld
import Derived.Test.YtncdjmpdbinanaaGreatDoorZEl2
namespace Go.Proofs.YtncdjmpdbinanaaGreatDoor
open Go.RowKit

set_option maxRecDepth 100000 in
set_option maxHeartbeats 3200000 in
theorem small18_any (N : Nd) (a : NdA) (M : Ms) (b : MsA) (w : World) {B : Nat} (hN : NdOk w B N a) (hM : MsOk w B M b) :
    Calls Tryz.prog 23 #[nodeV N a, msgV M b] w fun e w' => e = .returned (.bool (smallB N M)) ∧ Below w.heap.size w w' := by
  obtain ⟨hr, hrc, hrb, hi, hvc, hvb, hsb, hg, hgc, hgb, hps, hpc, hpb⟩ := hN
  obtain ⟨mr, mrc, mrb, _, _, _, _⟩ := hM
  obtain ⟨Z, hZ⟩ : ∃ Z, smallB N M = Z := ⟨_, rfl⟩
  rw [hZ]
  unfold smallB at hZ
  obtain ⟨id, ⟨t, v, ⟨base, bt, rs⟩, s, vs⟩, role, lead, timer, commit, got, ps⟩ := N
  obtain ⟨⟨RA, n, Rc⟩, ⟨VA, m, Vc⟩, ⟨GA, gn, Gc⟩, ⟨PA, pn, Pc⟩⟩ := a
  obtain ⟨kind, fr, mto, term, ok, index, lterm, mrs, mcommit, ms, mvs⟩ := M
  obtain ⟨⟨QA, qn, Qc⟩, ⟨UA, un, Uc⟩⟩ := b
  dsimp only at hr hrc hrb mr mrc mrb hZ
  have hlm := hid_mk mr.len
  unfold nodeV msgV
  dsimp only
  have hM0 : Hid (Blk ((w.alloc (.cells #[.int .i64 id, .int .i64 t, .int .i64 v, .int .i64 base, .int .i64 bt, .slice RA n Rc, .string s, .slice VA m Vc, .int .i64 role, .int .i64 lead, .int .i64 timer, .int .i64 commit, .slice GA gn Gc, .slice PA pn Pc] 30)).alloc (.cells #[.int .i64 kind, .int .i64 fr, .int .i64 mto, .int .i64 term, .bool ok, .int .i64 index, .int .i64 lterm, .slice QA qn Qc, .int .i64 mcommit, .string ms, .slice UA un Uc] 32)) (w.heap.size + 1) 32 #[.int .i64 kind, .int .i64 fr, .int .i64 mto, .int .i64 term, .bool ok, .int .i64 index, .int .i64 lterm, .slice QA qn Qc, .int .i64 mcommit, .string ms, .slice UA un Uc]) := Blk.new_ (by simp)
  have q0 : Below w.heap.size w ((w.alloc (.cells #[.int .i64 id, .int .i64 t, .int .i64 v, .int .i64 base, .int .i64 bt, .slice RA n Rc, .string s, .slice VA m Vc, .int .i64 role, .int .i64 lead, .int .i64 timer, .int .i64 commit, .slice GA gn Gc, .slice PA pn Pc] 30)).alloc (.cells #[.int .i64 kind, .int .i64 fr, .int .i64 mto, .int .i64 term, .bool ok, .int .i64 index, .int .i64 lterm, .slice QA qn Qc, .int .i64 mcommit, .string ms, .slice UA un Uc] 32)) := by go_grown
  have hz0 : Hid (smallE (smallK s.size 0 (rs.drop 0)) mrs.length = Z) := hZ
  clear hZ
  refine calls_of_wpQ Tryz.func23 rfl ?_
  intro Q hQ
  simp only [Tryz.ntmps23, List.size_toArray, List.length_cons, List.length_nil, Nat.reduceAdd, Nat.reduceSub, Array.replicate_succ, Array.replicate_zero, List.push_toArray, List.append_toArray, List.nil_append, List.cons_append]
  go_wp2
  go_loopw [5, 17] (fun cc i wr => ∃ (k : Nat) (c : Int), k ≤ n ∧ i = .int .i64 k ∧ cc = .int .i64 c ∧ Below w.heap.size w wr ∧ Hid (smallE (smallK c k (rs.drop k)) mrs.length = Z) ∧ Hid (Blk wr (w.heap.size + 1) 32 #[.int .i64 kind, .int .i64 fr, .int .i64 mto, .int .i64 term, .bool ok, .int .i64 index, .int .i64 lterm, .slice QA qn Qc, .int .i64 mcommit, .string ms, .slice UA un Uc])) (fun _ i _ => n - (intOf i).toNat)
  case atStart => exact ⟨0, _, Nat.zero_le _, rfl, rfl, q0, hz0, hM0⟩
  case round =>
    clear hz0 q0 hM0
    obtain ⟨k, c, hk, rfl, rfl, hb, hn, hX⟩ := hrel
    by_cases hlt : k < n
    · obtain ⟨b, o, r, rfl, hbb, hd, ct, ck, cd⟩ := (hr.below hb).at_ hlt
      have hb2 : Below w.heap.size w (wr.alloc (.cells #[.int .i64 r.t, .int .i64 r.k, .string r.d] 51)) := hb.alloc hb.size _
      have hX2 := hid_mk (hX.out.alloc (.cells #[.int .i64 r.t, .int .i64 r.k, .string r.d] 51))
      obtain ⟨rt, rk, rd⟩ := r
      dsimp only at ct ck cd hb2 hX2
      obtain ⟨q, hq⟩ : ∃ q, wrap64 (c + rd.size) = q := ⟨_, rfl⟩
      by_cases h1 : 30000 < q
      · have he : Hid (Z = false) := by rw [Hid, ← hn.out, hd.out, smallK, if_pos (.inl (by rw [hq]; exact h1))]; rfl
        go_wp2
        refine ends_ret hQ (results_tmp rfl _ _ _) rfl ?_
        exact ⟨ret_bool he.out.symm, hb2⟩
      by_cases h2 : 300 < k
      · have he : Hid (Z = false) := by rw [Hid, ← hn.out, hd.out, smallK, if_pos (.inr h2)]; rfl
        go_wp2
        refine ends_ret hQ (results_tmp rfl _ _ _) rfl ?_
        exact ⟨ret_bool he.out.symm, hb2⟩
      have hn2 : Hid (smallE (smallK (wrap64 (c + rd.size)) (k + 1) (rs.drop (k + 1))) mrs.length = Z) := by
        have := hn.out
        rw [hd.out, smallK, if_neg (by rw [hq]; rintro (h | h) <;> omega)] at this
        exact this
      go_wp2
      go_roundw
      case rel => exact ⟨k + 1, _, by omega, by go_num, rfl, hb2, hn2, hX2⟩
      case measure => simp [intOf]; omega
    · have hz : Hid ((decide (c ≤ 30000) && decide (qn ≤ 300)) = Z) := by
        have := hn.out
        rw [hr.end_ hlt, smallK, hlm.out] at this
        exact this
      have x7 := hX.out.cell 7
      have xl := hX.out.lt
      change _ = some (Value.slice QA qn Qc) at x7
      clear hn
      by_cases h1 : c ≤ 30000
      · have c1 := hid_mk (show decide (c ≤ 30000) = true from by simpa using h1)
        by_cases h2 : qn ≤ 300
        · have c2 := hid_mk (show decide (qn ≤ 300) = true from by simpa using h2)
          go_wp2
          refine ends_ret hQ (results_tmp rfl _ _ _) rfl ?_
          exact ⟨ret_bool (by rw [← hz.out, c1.out, c2.out]; simp; omega), hb⟩
        · have c2 := hid_mk (show decide (qn ≤ 300) = false from by simpa using h2)
          go_wp2
          refine ends_ret hQ (results_tmp rfl _ _ _) rfl ?_
          exact ⟨ret_bool (by rw [← hz.out, c1.out, c2.out]; simp; omega), hb⟩
      · have c1 := hid_mk (show decide (c ≤ 30000) = false from by simpa using h1)
        go_wp2
        refine ends_ret hQ (results_tmp rfl _ _ _) rfl ?_
        exact ⟨ret_bool (by rw [← hz.out, c1.out]; rfl), hb⟩

def liveC : Nd := ⟨1, ⟨1, 1, ⟨0, 0, []⟩, ⟨#[]⟩, [1]⟩, 1, 0, 0, 0, [], []⟩
theorem liveC_enc (rs : List Rec) (h : (recsEnc rs).length ≤ 100) : (encH ⟨1, 1, ⟨0, 0, rs⟩, ⟨#[]⟩, [1]⟩).length ≤ 131072 := by
  have h0 := num_len (n := 0) (by omega) (by omega)
  have h1 := num_len (n := 1) (by omega) (by omega)
  have ht := itoa_len (n := (0 : Int)) (by omega) (k := 9) (by omega)
  have e : (txtN (⟨#[]⟩ : ByteArray)).enc.length ≤ 11 := by
    show (Lib.itoa ((⟨#[]⟩ : ByteArray).size : Int) ++ [58]).length ≤ 11
    rw [List.length_append]
    exact Nat.succ_le_succ ht
  have e2 : (votEnc [1]).length ≤ 14 := by
    unfold votEnc votN encN
    simp only [List.map_cons, List.map_nil, List.flatMap_cons, List.flatMap_nil, List.length_append, List.length_cons, List.length_nil]
    omega
  unfold encH
  simp only [List.length_append, List.length_cons, List.length_nil]
  omega
theorem liveC_right : rightN liveC = true := by
  have hl : (encH liveC.h).length ≤ 131072 := liveC_enc [] (by decide)
  unfold rightN rightH
  rw [show decide ((encH liveC.h).length ≤ 131072) = true from by simpa using hl]
  rfl
theorem liveC_with : rightH (withH liveC.h ⟨1, 0, ⟨#[]⟩⟩) = true := by
  have hr := rec_len2 (r := ⟨1, 0, ⟨#[]⟩⟩) ⟨by decide, by decide⟩ ⟨by decide, by decide⟩ (by decide)
  have hl : (encH (withH liveC.h ⟨1, 0, ⟨#[]⟩⟩)).length ≤ 131072 := liveC_enc [⟨1, 0, ⟨#[]⟩⟩] (by
    unfold recsEnc
    simp only [List.flatMap_cons, List.flatMap_nil, List.length_append, List.length_cons, List.length_nil]
    have e : (⟨#[]⟩ : ByteArray).size = 0 := rfl
    rw [e] at hr
    omega)
  unfold rightH
  rw [show decide ((encH (withH liveC.h ⟨1, 0, ⟨#[]⟩⟩)).length ≤ 131072) = true from by simpa using hl]
  rfl
theorem liveC_lead : (leadN liveC).role = 2 ∧ (leadN liveC).commit = 1 := by
  have hc : leadC liveC = true := by
    unfold leadC
    rw [liveC_right]
    rfl
  have hw : leadW liveC = hdN (leadB liveC) (withH liveC.h ⟨1, 0, ⟨#[]⟩⟩) := by
    unfold leadW
    exact if_pos liveC_with
  unfold leadN
  rw [if_pos hc, hw]
  have hs : sureC (hdN (leadB liveC) (withH liveC.h ⟨1, 0, ⟨#[]⟩⟩)) = true := by decide +kernel
  unfold sureN
  rw [if_pos hs]
  exact ⟨rfl, by decide +kernel⟩
set_option maxRecDepth 100000 in
set_option maxHeartbeats 1600000 in
theorem alive18_any (w : World) (ht : Tab w) (mm : Int) (hm : w.cell? ⟨0, 0, none⟩ = some (.int .i64 mm)) : Calls Tryz.prog 26 #[] w fun e w' => e = .returned (.bool true) ∧ Below w.heap.size w w' := by
  have hI : Ints (w.alloc (.cells #[.int .i64 1] 3)) w.heap.size (some ⟨w.heap.size, 0, none⟩) 1 [1] := reads_new w #[.int .i64 1] 3 1 1 w.heap.size rfl
  have hN : NdOk (w.alloc (.cells #[.int .i64 1] 3)) w.heap.size liveC ⟨⟨none, 0, 0⟩, ⟨some ⟨w.heap.size, 0, none⟩, 1, 1⟩, ⟨none, 0, 0⟩, ⟨none, 0, 0⟩⟩ :=
    ⟨Reads.none_, Nat.le_refl _, by dsimp only; omega, hI, Nat.le_refl _, by dsimp only; omega, by show 0 ≤ _; omega, Reads.none_, Nat.le_refl _, by dsimp only; omega, Reads.none_, Nat.le_refl _, by dsimp only; omega⟩
  have ht' : Tab (w.alloc (.cells #[.int .i64 1] 3)) := ht.to (by go_grown)
  have hm' : (w.alloc (.cells #[.int .i64 1] 3)).cell? ⟨0, 0, none⟩ = some (.int .i64 mm) := (World.cell?_alloc_past _ _ _ (cell_lt hm)).trans hm
  obtain ⟨X, hX⟩ : ∃ X, leadN liveC = X := ⟨_, rfl⟩
  have hl := liveC_lead
  have hEL := ELead_any liveC ⟨⟨none, 0, 0⟩, ⟨some ⟨w.heap.size, 0, none⟩, 1, 1⟩, ⟨none, 0, 0⟩, ⟨none, 0, 0⟩⟩ _ (by simp) hN ht' mm hm'
  rw [hX] at hl hEL
  obtain ⟨h2, h3⟩ := hl
  replace hX := hid_mk hX
  clear hm
  refine calls_of_wpQ Tryz.func26 rfl ?_
  intro Q hQ
  simp only [Tryz.ntmps26, List.size_toArray, List.length_nil, Nat.reduceSub, Array.replicate_succ, Array.replicate_zero, List.push_toArray, List.append_toArray, List.nil_append, List.cons_append]
  go_wp2_with fail
  refine hEL.mono ?_
  rintro e w1 ⟨a, A, n, c, pm, rfl, _, _, _, _, hb1⟩
  unfold nodeV
  rw [h2, h3]
  have q1 := (after (w := w) hb1 (by go_grown)).1
  have z1 := q1.size
  clear hb1
  go_wp2
  refine ends_ret hQ (results_tmp rfl _ _ _) rfl ?_
  exact ⟨rfl, by go_grown⟩
end Go.Proofs.YtncdjmpdbinanaaGreatDoor
namespace Go.Proofs.YtncdjmpdbinanaaGreatDoor
open Go.RowKit

theorem allM_len {N : Nd} (h : rightN N = true) : (allM N).length ≤ 9 := by
  unfold allM
  rw [List.length_map]
  exact prs_len (right_parts h).2.2.2.2.2.2.2.2.2
theorem leadL_len {N : Nd} (h : rightN N = true) : (leadL N).length ≤ 9 := by
  unfold leadL
  split
  · rename_i hc
    unfold leadC at hc
    simp only [Bool.and_eq_true, beq_iff_eq] at hc
    exact allM_len (sure_right (lead_right h hc.2).1)
  · simp
theorem sendL_len (N : Nd) (q : Int) : (sendL N q).length ≤ 1 := by
  unfold sendL
  split
  · split <;> simp
  · simp
set_option maxRecDepth 100000 in
set_option maxHeartbeats 12800000 in
theorem LawLeads_any (N : Nd) (a : NdA) (q : Int) (w : World) (hN : NdOk w w.heap.size N a) (ht : Tab w) (mm : Int) (hm : w.cell? ⟨0, 0, none⟩ = some (.int .i64 mm)) :
    Calls Tryz.prog 4 #[nodeV N a, .int .i64 q] w fun e w' => e = .returned (.bool true) ∧ Below w.heap.size w w' := by
  have hm2 : Hid (∀ w', Below w.heap.size w w' → w'.cell? ⟨0, 0, none⟩ = some (.int .i64 mm)) := fun w' hb => (hb.cell (p := ⟨0, 0, none⟩) (cell_lt hm)).trans hm
  clear hm
  obtain ⟨z, hz⟩ : ∃ z, smallB N ⟨0, 0, 0, 0, false, 0, 0, [], 0, ⟨#[]⟩, []⟩ = z := ⟨_, rfl⟩
  obtain ⟨zr, hzr⟩ : ∃ z, rightN N = z := ⟨_, rfl⟩
  replace hz := hid_mk hz
  replace hzr := hid_mk hzr
  obtain ⟨N1, hN1⟩ : ∃ z, leadN N = z := ⟨_, rfl⟩
  obtain ⟨L1, hL1⟩ : ∃ z, leadL N = z := ⟨_, rfl⟩
  obtain ⟨S1, hS1⟩ : ∃ z, sendL N q = z := ⟨_, rfl⟩
  have hno : Hid (zr = false → N1 = N ∧ L1 = [] ∧ S1 = []) := fun e => by
    have hr : rightN N = false := hzr.out.trans e
    have hc : leadC N = false := by unfold leadC; rw [hr]; rfl
    rw [← hN1, ← hL1, ← hS1]
    unfold leadN leadL sendL
    rw [hc, hr]
    exact ⟨rfl, rfl, rfl⟩
  have hl9 : Hid (zr = true → L1.length ≤ 9) := fun e => by rw [← hL1]; exact leadL_len (hzr.out.trans e)
  have hs9 : S1.length ≤ 1 := by rw [← hS1]; exact sendL_len N q
  replace hN1 := hid_mk hN1
  replace hL1 := hid_mk hL1
  replace hS1 := hid_mk hS1
  have hX := hid_mk (Blk.new w 30 #[.int .i64 N.id, .int .i64 N.h.t, .int .i64 N.h.v, .int .i64 N.h.l.base, .int .i64 N.h.l.bt, .slice a.R.A a.R.n a.R.c, .string N.h.s, .slice a.V.A a.V.n a.V.c, .int .i64 N.role, .int .i64 N.lead, .int .i64 N.timer, .int .i64 N.commit, .slice a.G.A a.G.n a.G.c, .slice a.P.A a.P.n a.P.c])
  have hmso : MsOk w w.heap.size ⟨0, 0, 0, 0, false, 0, 0, [], 0, ⟨#[]⟩, []⟩ nilMA := nilMA_ok rfl rfl rfl
  unfold nodeV
  refine calls_of_wpQ Tryz.func4 rfl ?_
  intro Q hQ
  simp only [Tryz.ntmps4, List.size_toArray, List.length_cons, List.length_nil, Nat.reduceAdd, Nat.reduceSub, Array.replicate_succ, Array.replicate_zero, List.push_toArray, List.append_toArray, List.nil_append, List.cons_append]
  go_wp2_with fail
  go_wp2_with fail
  refine (small18_any N a _ nilMA _ (B := w.heap.size) (hN.to (by go_grown)) (hmso.to (by go_grown))).mono ?_
  rw [hz.out]
  rintro e w1 ⟨rfl, hb1⟩
  have q1 := (after (w := w) hb1 (by go_grown)).1
  have z1 := q1.size
  replace hX := hid_mk (hX.out.keep (after hb1 (by go_grown)).1)
  clear hb1
  cases z
  case false =>
    go_wp2
    refine ends_ret hQ (results_tmp rfl _ _ _) rfl ?_
    exact ⟨rfl, q1⟩
  obtain ⟨xl, x0, x1, x2, x3, x4, x5, x6, x7, x8, x9, x10, x11, x12, x13⟩ := blk14c hX.out
  go_wp2_with fail
  clear xl x0 x1 x2 x3 x4 x5 x6 x7 x8 x9 x10 x11 x12 x13
  refine (ELead_any N a _ (B := w.heap.size) (by omega) (hN.to (by go_grown)) (ht.to (by go_grown)) mm (hm2.out _ (by go_grown))).mono ?_
  rw [hN1.out, hL1.out]
  rintro e w2 ⟨a1, A1, n1, c1, pm1, rfl, hok1, hM1, hp1, hc1, hb1⟩
  have q2 := (after (w := w) hb1 (by go_grown)).1
  have z2 := q2.size
  replace hX := hid_mk (hX.out.keep (after hb1 (by go_grown)).1)
  clear hb1
  replace hok1 := hid_mk hok1
  replace hM1 := hid_mk hM1
  replace hp1 := hid_mk hp1
  unfold nodeV
  obtain ⟨gA, hgA⟩ : ∃ g, w2.heap.size = g := ⟨_, rfl⟩
  replace hX := hid_mk (hX.out.alloc (.cells #[.int .i64 N1.id, .int .i64 N1.h.t, .int .i64 N1.h.v, .int .i64 N1.h.l.base, .int .i64 N1.h.l.bt, .slice a1.R.A a1.R.n a1.R.c, .string N1.h.s, .slice a1.V.A a1.V.n a1.V.c, .int .i64 N1.role, .int .i64 N1.lead, .int .i64 N1.timer, .int .i64 N1.commit, .slice a1.G.A a1.G.n a1.G.c, .slice a1.P.A a1.P.n a1.P.c] 30))
  replace hok1 := hid_mk (hok1.out.to (show Below w2.heap.size w2 (w2.alloc (.cells #[.int .i64 N1.id, .int .i64 N1.h.t, .int .i64 N1.h.v, .int .i64 N1.h.l.base, .int .i64 N1.h.l.bt, .slice a1.R.A a1.R.n a1.R.c, .string N1.h.s, .slice a1.V.A a1.V.n a1.V.c, .int .i64 N1.role, .int .i64 N1.lead, .int .i64 N1.timer, .int .i64 N1.commit, .slice a1.G.A a1.G.n a1.G.c, .slice a1.P.A a1.P.n a1.P.c] 30)) by go_grown))
  replace hM1 := hid_mk (hM1.out.to (show Below w2.heap.size w2 (w2.alloc (.cells #[.int .i64 N1.id, .int .i64 N1.h.t, .int .i64 N1.h.v, .int .i64 N1.h.l.base, .int .i64 N1.h.l.bt, .slice a1.R.A a1.R.n a1.R.c, .string N1.h.s, .slice a1.V.A a1.V.n a1.V.c, .int .i64 N1.role, .int .i64 N1.lead, .int .i64 N1.timer, .int .i64 N1.commit, .slice a1.G.A a1.G.n a1.G.c, .slice a1.P.A a1.P.n a1.P.c] 30)) by go_grown))
  have hA : Hid (Blk (w2.alloc (.cells #[.int .i64 N1.id, .int .i64 N1.h.t, .int .i64 N1.h.v, .int .i64 N1.h.l.base, .int .i64 N1.h.l.bt, .slice a1.R.A a1.R.n a1.R.c, .string N1.h.s, .slice a1.V.A a1.V.n a1.V.c, .int .i64 N1.role, .int .i64 N1.lead, .int .i64 N1.timer, .int .i64 N1.commit, .slice a1.G.A a1.G.n a1.G.c, .slice a1.P.A a1.P.n a1.P.c] 30)) gA 30 #[.int .i64 N1.id, .int .i64 N1.h.t, .int .i64 N1.h.v, .int .i64 N1.h.l.base, .int .i64 N1.h.l.bt, .slice a1.R.A a1.R.n a1.R.c, .string N1.h.s, .slice a1.V.A a1.V.n a1.V.c, .int .i64 N1.role, .int .i64 N1.lead, .int .i64 N1.timer, .int .i64 N1.commit, .slice a1.G.A a1.G.n a1.G.c, .slice a1.P.A a1.P.n a1.P.c]) := by rw [← hgA]; exact Blk.new _ _ _
  have q2b : Below w.heap.size w (w2.alloc (.cells #[.int .i64 N1.id, .int .i64 N1.h.t, .int .i64 N1.h.v, .int .i64 N1.h.l.base, .int .i64 N1.h.l.bt, .slice a1.R.A a1.R.n a1.R.c, .string N1.h.s, .slice a1.V.A a1.V.n a1.V.c, .int .i64 N1.role, .int .i64 N1.lead, .int .i64 N1.timer, .int .i64 N1.commit, .slice a1.G.A a1.G.n a1.G.c, .slice a1.P.A a1.P.n a1.P.c] 30)) := by go_grown
  obtain ⟨w2b, hw2b⟩ : ∃ x, w2.alloc (.cells #[.int .i64 N1.id, .int .i64 N1.h.t, .int .i64 N1.h.v, .int .i64 N1.h.l.base, .int .i64 N1.h.l.bt, .slice a1.R.A a1.R.n a1.R.c, .string N1.h.s, .slice a1.V.A a1.V.n a1.V.c, .int .i64 N1.role, .int .i64 N1.lead, .int .i64 N1.timer, .int .i64 N1.commit, .slice a1.G.A a1.G.n a1.G.c, .slice a1.P.A a1.P.n a1.P.c] 30) = x := ⟨_, rfl⟩
  rw [hw2b] at hX hok1 hM1 hA q2b
  replace hw2b := hid_mk hw2b
  replace hgA := hid_mk hgA
  obtain ⟨xl, x0, x1, x2, x3, x4, x5, x6, x7, x8, x9, x10, x11, x12, x13⟩ := blk14c hX.out
  go_upto_region 4 with fail
  clear xl x0 x1 x2 x3 x4 x5 x6 x7 x8 x9 x10 x11 x12 x13
  rw [hw2b.out, hgA.out]
  clear hw2b hgA
  have z2b := q2b.size
  obtain ⟨xl, x0, x1, x2, x3, x4, x5, x6, x7, x8, x9, x10, x11, x12, x13⟩ := blk14c hX.out
  obtain ⟨pl, p0, p1, p2, p3, p4, p5, p6, p7, p8, p9, p10, p11, p12, p13⟩ := blk14c hA.out
  go_wp2_with fail
  clear xl x0 x1 x2 x3 x4 x5 x6 x7 x8 x9 x10 x11 x12 x13
  clear pl p0 p1 p2 p3 p4 p5 p6 p7 p8 p9 p10 p11 p12 p13
  refine (ESendTo_any N a q _ (B := w.heap.size) (by omega) (hN.to (by go_grown)) (ht.to (by go_grown))).mono ?_
  rw [hS1.out]
  rintro e w3 ⟨A2, n2, c2, pm2, rfl, hM2, hp2, hc2, hb1⟩
  have q3 := (after (w := w) hb1 (by go_grown)).1
  have z3 := q3.size
  replace hX := hid_mk (hX.out.keep (after hb1 (by go_grown)).1)
  replace hA := hid_mk (hA.out.keep (after hb1 (by go_grown)).1)
  replace hok1 := hid_mk (hok1.out.to (after hb1 (by go_grown)).1)
  replace hM1 := hid_mk (hM1.out.to (after hb1 (by go_grown)).1)
  clear hb1
  replace hM2 := hid_mk hM2
  replace hp2 := hid_mk hp2
  obtain ⟨xl, x0, x1, x2, x3, x4, x5, x6, x7, x8, x9, x10, x11, x12, x13⟩ := blk14c hX.out
  obtain ⟨pl, p0, p1, p2, p3, p4, p5, p6, p7, p8, p9, p10, p11, p12, p13⟩ := blk14c hA.out
  go_wp2_with fail
  clear xl x0 x1 x2 x3 x4 x5 x6 x7 x8 x9 x10 x11 x12 x13
  clear pl p0 p1 p2 p3 p4 p5 p6 p7 p8 p9 p10 p11 p12 p13
  refine (NRight_any N a _ (B := w.heap.size) (hN.to (by go_grown)) (ht.to (by go_grown))).mono ?_
  rw [hzr.out]
  rintro e w4 ⟨rfl, hb1⟩
  have q4 := (after (w := w) hb1 (by go_grown)).1
  have z4 := q4.size
  replace hX := hid_mk (hX.out.keep (after hb1 (by go_grown)).1)
  replace hA := hid_mk (hA.out.keep (after hb1 (by go_grown)).1)
  replace hok1 := hid_mk (hok1.out.to (after hb1 (by go_grown)).1)
  replace hM1 := hid_mk (hM1.out.to (after hb1 (by go_grown)).1)
  replace hM2 := hid_mk (hM2.out.to (after hb1 (by go_grown)).1)
  clear hb1
  cases zr
  case false =>
    obtain ⟨e1, e2, e3⟩ := hno.out rfl
    subst e1 e2 e3
    have hn1 : n1 = 0 := by
      have h := hM1.out.len
      rw [← List.length_map (f := Prod.fst), hp1.out] at h
      exact h.symm
    have hn2 : n2 = 0 := by
      have h := hM2.out.len
      rw [← List.length_map (f := Prod.fst), hp2.out] at h
      exact h.symm
    subst hn1 hn2
    obtain ⟨xl, x0, x1, x2, x3, x4, x5, x6, x7, x8, x9, x10, x11, x12, x13⟩ := blk14c hX.out
    obtain ⟨pl, p0, p1, p2, p3, p4, p5, p6, p7, p8, p9, p10, p11, p12, p13⟩ := blk14c hA.out
    go_wp2_with fail
    clear xl x0 x1 x2 x3 x4 x5 x6 x7 x8 x9 x10 x11 x12 x13
    clear pl p0 p1 p2 p3 p4 p5 p6 p7 p8 p9 p10 p11 p12 p13
    refine (alive18_any _ (ht.to (by go_grown)) mm (hm2.out _ (by go_grown))).mono ?_
    rintro e w5 ⟨rfl, hb1⟩
    have q5 := (after (w := w) hb1 (by go_grown)).1
    have z5 := q5.size
    replace hX := hid_mk (hX.out.keep (after hb1 (by go_grown)).1)
    replace hA := hid_mk (hA.out.keep (after hb1 (by go_grown)).1)
    replace hok1 := hid_mk (hok1.out.to (after hb1 (by go_grown)).1)
    replace hM1 := hid_mk (hM1.out.to (after hb1 (by go_grown)).1)
    replace hM2 := hid_mk (hM2.out.to (after hb1 (by go_grown)).1)
    clear hb1
    obtain ⟨xl, x0, x1, x2, x3, x4, x5, x6, x7, x8, x9, x10, x11, x12, x13⟩ := blk14c hX.out
    obtain ⟨pl, p0, p1, p2, p3, p4, p5, p6, p7, p8, p9, p10, p11, p12, p13⟩ := blk14c hA.out
    go_wp2_with fail
    clear xl x0 x1 x2 x3 x4 x5 x6 x7 x8 x9 x10 x11 x12 x13
    clear pl p0 p1 p2 p3 p4 p5 p6 p7 p8 p9 p10 p11 p12 p13
    refine (NLike_same _ a1 _ _ (B := w.heap.size) (B' := w.heap.size) (hok1.out.to (by go_grown)) (hN.to (by go_grown))).mono ?_
    rintro e w6 ⟨rfl, hb1⟩
    have q6 := (after (w := w) hb1 (by go_grown)).1
    have z6 := q6.size
    replace hX := hid_mk (hX.out.keep (after hb1 (by go_grown)).1)
    replace hA := hid_mk (hA.out.keep (after hb1 (by go_grown)).1)
    replace hok1 := hid_mk (hok1.out.to (after hb1 (by go_grown)).1)
    replace hM1 := hid_mk (hM1.out.to (after hb1 (by go_grown)).1)
    replace hM2 := hid_mk (hM2.out.to (after hb1 (by go_grown)).1)
    clear hb1
    go_wp2
    refine ends_ret hQ (results_tmp rfl _ _ _) rfl ?_
    exact ⟨rfl, q6⟩
  replace hl9 := hl9.out rfl
  have hn1 : n1 ≤ 9 := by
    have h := hM1.out.len
    rw [← List.length_map (f := Prod.fst), hp1.out] at h
    omega
  have hn2 : n2 ≤ 1 := by
    have h := hM2.out.len
    rw [← List.length_map (f := Prod.fst), hp2.out] at h
    omega
  clear hno
  obtain ⟨xl, x0, x1, x2, x3, x4, x5, x6, x7, x8, x9, x10, x11, x12, x13⟩ := blk14c hX.out
  obtain ⟨pl, p0, p1, p2, p3, p4, p5, p6, p7, p8, p9, p10, p11, p12, p13⟩ := blk14c hA.out
  go_wp2_with fail
  clear xl x0 x1 x2 x3 x4 x5 x6 x7 x8 x9 x10 x11 x12 x13
  clear pl p0 p1 p2 p3 p4 p5 p6 p7 p8 p9 p10 p11 p12 p13
  refine (RLead_any N a _ (B := w.heap.size) (by omega) (hN.to (by go_grown)) (ht.to (by go_grown)) hzr.out).mono ?_
  rw [hN1.out, hL1.out]
  rintro e w5 ⟨a3, A3, n3, c3, pm3, rfl, hok3, hM3, hp3, hc3, hb1⟩
  have q5 := (after (w := w) hb1 (by go_grown)).1
  have z5 := q5.size
  replace hX := hid_mk (hX.out.keep (after hb1 (by go_grown)).1)
  replace hA := hid_mk (hA.out.keep (after hb1 (by go_grown)).1)
  replace hok1 := hid_mk (hok1.out.to (after hb1 (by go_grown)).1)
  replace hM1 := hid_mk (hM1.out.to (after hb1 (by go_grown)).1)
  replace hM2 := hid_mk (hM2.out.to (after hb1 (by go_grown)).1)
  clear hb1
  replace hok3 := hid_mk hok3
  replace hM3 := hid_mk hM3
  replace hp3 := hid_mk hp3
  unfold nodeV
  obtain ⟨gD, hgD⟩ : ∃ g, w5.heap.size = g := ⟨_, rfl⟩
  replace hX := hid_mk (hX.out.alloc (.cells #[.int .i64 N1.id, .int .i64 N1.h.t, .int .i64 N1.h.v, .int .i64 N1.h.l.base, .int .i64 N1.h.l.bt, .slice a3.R.A a3.R.n a3.R.c, .string N1.h.s, .slice a3.V.A a3.V.n a3.V.c, .int .i64 N1.role, .int .i64 N1.lead, .int .i64 N1.timer, .int .i64 N1.commit, .slice a3.G.A a3.G.n a3.G.c, .slice a3.P.A a3.P.n a3.P.c] 30))
  replace hA := hid_mk (hA.out.alloc (.cells #[.int .i64 N1.id, .int .i64 N1.h.t, .int .i64 N1.h.v, .int .i64 N1.h.l.base, .int .i64 N1.h.l.bt, .slice a3.R.A a3.R.n a3.R.c, .string N1.h.s, .slice a3.V.A a3.V.n a3.V.c, .int .i64 N1.role, .int .i64 N1.lead, .int .i64 N1.timer, .int .i64 N1.commit, .slice a3.G.A a3.G.n a3.G.c, .slice a3.P.A a3.P.n a3.P.c] 30))
  replace hok1 := hid_mk (hok1.out.to (show Below w5.heap.size w5 (w5.alloc (.cells #[.int .i64 N1.id, .int .i64 N1.h.t, .int .i64 N1.h.v, .int .i64 N1.h.l.base, .int .i64 N1.h.l.bt, .slice a3.R.A a3.R.n a3.R.c, .string N1.h.s, .slice a3.V.A a3.V.n a3.V.c, .int .i64 N1.role, .int .i64 N1.lead, .int .i64 N1.timer, .int .i64 N1.commit, .slice a3.G.A a3.G.n a3.G.c, .slice a3.P.A a3.P.n a3.P.c] 30)) by go_grown))
  replace hM1 := hid_mk (hM1.out.to (show Below w5.heap.size w5 (w5.alloc (.cells #[.int .i64 N1.id, .int .i64 N1.h.t, .int .i64 N1.h.v, .int .i64 N1.h.l.base, .int .i64 N1.h.l.bt, .slice a3.R.A a3.R.n a3.R.c, .string N1.h.s, .slice a3.V.A a3.V.n a3.V.c, .int .i64 N1.role, .int .i64 N1.lead, .int .i64 N1.timer, .int .i64 N1.commit, .slice a3.G.A a3.G.n a3.G.c, .slice a3.P.A a3.P.n a3.P.c] 30)) by go_grown))
  replace hM2 := hid_mk (hM2.out.to (show Below w5.heap.size w5 (w5.alloc (.cells #[.int .i64 N1.id, .int .i64 N1.h.t, .int .i64 N1.h.v, .int .i64 N1.h.l.base, .int .i64 N1.h.l.bt, .slice a3.R.A a3.R.n a3.R.c, .string N1.h.s, .slice a3.V.A a3.V.n a3.V.c, .int .i64 N1.role, .int .i64 N1.lead, .int .i64 N1.timer, .int .i64 N1.commit, .slice a3.G.A a3.G.n a3.G.c, .slice a3.P.A a3.P.n a3.P.c] 30)) by go_grown))
  replace hok3 := hid_mk (hok3.out.to (show Below w5.heap.size w5 (w5.alloc (.cells #[.int .i64 N1.id, .int .i64 N1.h.t, .int .i64 N1.h.v, .int .i64 N1.h.l.base, .int .i64 N1.h.l.bt, .slice a3.R.A a3.R.n a3.R.c, .string N1.h.s, .slice a3.V.A a3.V.n a3.V.c, .int .i64 N1.role, .int .i64 N1.lead, .int .i64 N1.timer, .int .i64 N1.commit, .slice a3.G.A a3.G.n a3.G.c, .slice a3.P.A a3.P.n a3.P.c] 30)) by go_grown))
  replace hM3 := hid_mk (hM3.out.to (show Below w5.heap.size w5 (w5.alloc (.cells #[.int .i64 N1.id, .int .i64 N1.h.t, .int .i64 N1.h.v, .int .i64 N1.h.l.base, .int .i64 N1.h.l.bt, .slice a3.R.A a3.R.n a3.R.c, .string N1.h.s, .slice a3.V.A a3.V.n a3.V.c, .int .i64 N1.role, .int .i64 N1.lead, .int .i64 N1.timer, .int .i64 N1.commit, .slice a3.G.A a3.G.n a3.G.c, .slice a3.P.A a3.P.n a3.P.c] 30)) by go_grown))
  have hD : Hid (Blk (w5.alloc (.cells #[.int .i64 N1.id, .int .i64 N1.h.t, .int .i64 N1.h.v, .int .i64 N1.h.l.base, .int .i64 N1.h.l.bt, .slice a3.R.A a3.R.n a3.R.c, .string N1.h.s, .slice a3.V.A a3.V.n a3.V.c, .int .i64 N1.role, .int .i64 N1.lead, .int .i64 N1.timer, .int .i64 N1.commit, .slice a3.G.A a3.G.n a3.G.c, .slice a3.P.A a3.P.n a3.P.c] 30)) gD 30 #[.int .i64 N1.id, .int .i64 N1.h.t, .int .i64 N1.h.v, .int .i64 N1.h.l.base, .int .i64 N1.h.l.bt, .slice a3.R.A a3.R.n a3.R.c, .string N1.h.s, .slice a3.V.A a3.V.n a3.V.c, .int .i64 N1.role, .int .i64 N1.lead, .int .i64 N1.timer, .int .i64 N1.commit, .slice a3.G.A a3.G.n a3.G.c, .slice a3.P.A a3.P.n a3.P.c]) := by rw [← hgD]; exact Blk.new _ _ _
  have q5b : Below w.heap.size w (w5.alloc (.cells #[.int .i64 N1.id, .int .i64 N1.h.t, .int .i64 N1.h.v, .int .i64 N1.h.l.base, .int .i64 N1.h.l.bt, .slice a3.R.A a3.R.n a3.R.c, .string N1.h.s, .slice a3.V.A a3.V.n a3.V.c, .int .i64 N1.role, .int .i64 N1.lead, .int .i64 N1.timer, .int .i64 N1.commit, .slice a3.G.A a3.G.n a3.G.c, .slice a3.P.A a3.P.n a3.P.c] 30)) := by go_grown
  obtain ⟨w5b, hw5b⟩ : ∃ x, w5.alloc (.cells #[.int .i64 N1.id, .int .i64 N1.h.t, .int .i64 N1.h.v, .int .i64 N1.h.l.base, .int .i64 N1.h.l.bt, .slice a3.R.A a3.R.n a3.R.c, .string N1.h.s, .slice a3.V.A a3.V.n a3.V.c, .int .i64 N1.role, .int .i64 N1.lead, .int .i64 N1.timer, .int .i64 N1.commit, .slice a3.G.A a3.G.n a3.G.c, .slice a3.P.A a3.P.n a3.P.c] 30) = x := ⟨_, rfl⟩
  rw [hw5b] at hX hA hok1 hM1 hM2 hok3 hM3 hD q5b
  replace hw5b := hid_mk hw5b
  replace hgD := hid_mk hgD
  obtain ⟨xl, x0, x1, x2, x3, x4, x5, x6, x7, x8, x9, x10, x11, x12, x13⟩ := blk14c hX.out
  obtain ⟨pl, p0, p1, p2, p3, p4, p5, p6, p7, p8, p9, p10, p11, p12, p13⟩ := blk14c hA.out
  go_upto_region 8 with fail
  clear xl x0 x1 x2 x3 x4 x5 x6 x7 x8 x9 x10 x11 x12 x13
  clear pl p0 p1 p2 p3 p4 p5 p6 p7 p8 p9 p10 p11 p12 p13
  rw [hw5b.out, hgD.out]
  clear hw5b hgD
  have z5b := q5b.size
  obtain ⟨xl, x0, x1, x2, x3, x4, x5, x6, x7, x8, x9, x10, x11, x12, x13⟩ := blk14c hX.out
  obtain ⟨pl, p0, p1, p2, p3, p4, p5, p6, p7, p8, p9, p10, p11, p12, p13⟩ := blk14c hA.out
  obtain ⟨sl, s0, s1, s2, s3, s4, s5, s6, s7, s8, s9, s10, s11, s12, s13⟩ := blk14c hD.out
  go_wp2_with fail
  clear xl x0 x1 x2 x3 x4 x5 x6 x7 x8 x9 x10 x11 x12 x13
  clear pl p0 p1 p2 p3 p4 p5 p6 p7 p8 p9 p10 p11 p12 p13
  clear sl s0 s1 s2 s3 s4 s5 s6 s7 s8 s9 s10 s11 s12 s13
  refine (alive18_any _ (ht.to (by go_grown)) mm (hm2.out _ (by go_grown))).mono ?_
  rintro e w6 ⟨rfl, hb1⟩
  have q6 := (after (w := w) hb1 (by go_grown)).1
  have z6 := q6.size
  replace hX := hid_mk (hX.out.keep (after hb1 (by go_grown)).1)
  replace hA := hid_mk (hA.out.keep (after hb1 (by go_grown)).1)
  replace hD := hid_mk (hD.out.keep (after hb1 (by go_grown)).1)
  replace hok1 := hid_mk (hok1.out.to (after hb1 (by go_grown)).1)
  replace hM1 := hid_mk (hM1.out.to (after hb1 (by go_grown)).1)
  replace hM2 := hid_mk (hM2.out.to (after hb1 (by go_grown)).1)
  replace hok3 := hid_mk (hok3.out.to (after hb1 (by go_grown)).1)
  replace hM3 := hid_mk (hM3.out.to (after hb1 (by go_grown)).1)
  clear hb1
  obtain ⟨xl, x0, x1, x2, x3, x4, x5, x6, x7, x8, x9, x10, x11, x12, x13⟩ := blk14c hX.out
  obtain ⟨pl, p0, p1, p2, p3, p4, p5, p6, p7, p8, p9, p10, p11, p12, p13⟩ := blk14c hA.out
  obtain ⟨sl, s0, s1, s2, s3, s4, s5, s6, s7, s8, s9, s10, s11, s12, s13⟩ := blk14c hD.out
  go_wp2_with fail
  clear xl x0 x1 x2 x3 x4 x5 x6 x7 x8 x9 x10 x11 x12 x13
  clear pl p0 p1 p2 p3 p4 p5 p6 p7 p8 p9 p10 p11 p12 p13
  clear sl s0 s1 s2 s3 s4 s5 s6 s7 s8 s9 s10 s11 s12 s13
  refine (NLike_same N1 a1 a3 _ (B := w.heap.size) (B' := w.heap.size) (hok1.out.to (by go_grown)) (hok3.out.to (by go_grown))).mono ?_
  rintro e w7 ⟨rfl, hb1⟩
  have q7 := (after (w := w) hb1 (by go_grown)).1
  have z7 := q7.size
  replace hX := hid_mk (hX.out.keep (after hb1 (by go_grown)).1)
  replace hA := hid_mk (hA.out.keep (after hb1 (by go_grown)).1)
  replace hD := hid_mk (hD.out.keep (after hb1 (by go_grown)).1)
  replace hok1 := hid_mk (hok1.out.to (after hb1 (by go_grown)).1)
  replace hM1 := hid_mk (hM1.out.to (after hb1 (by go_grown)).1)
  replace hM2 := hid_mk (hM2.out.to (after hb1 (by go_grown)).1)
  replace hok3 := hid_mk (hok3.out.to (after hb1 (by go_grown)).1)
  replace hM3 := hid_mk (hM3.out.to (after hb1 (by go_grown)).1)
  clear hb1
  obtain ⟨xl, x0, x1, x2, x3, x4, x5, x6, x7, x8, x9, x10, x11, x12, x13⟩ := blk14c hX.out
  obtain ⟨pl, p0, p1, p2, p3, p4, p5, p6, p7, p8, p9, p10, p11, p12, p13⟩ := blk14c hA.out
  obtain ⟨sl, s0, s1, s2, s3, s4, s5, s6, s7, s8, s9, s10, s11, s12, s13⟩ := blk14c hD.out
  go_wp2_with fail
  clear xl x0 x1 x2 x3 x4 x5 x6 x7 x8 x9 x10 x11 x12 x13
  clear pl p0 p1 p2 p3 p4 p5 p6 p7 p8 p9 p10 p11 p12 p13
  clear sl s0 s1 s2 s3 s4 s5 s6 s7 s8 s9 s10 s11 s12 s13
  refine (LikeMsg_same A1 n1 c1 A3 n3 c3 pm1 pm3 _ (B := w.heap.size) (B' := w.heap.size) (by omega) (hM1.out.to (by go_grown)) (hM3.out.to (by go_grown)) (by rw [hp1.out, hp3.out])).mono ?_
  rintro e w8 ⟨rfl, hb1⟩
  have q8 := (after (w := w) hb1 (by go_grown)).1
  have z8 := q8.size
  replace hX := hid_mk (hX.out.keep (after hb1 (by go_grown)).1)
  replace hA := hid_mk (hA.out.keep (after hb1 (by go_grown)).1)
  replace hD := hid_mk (hD.out.keep (after hb1 (by go_grown)).1)
  replace hok1 := hid_mk (hok1.out.to (after hb1 (by go_grown)).1)
  replace hM1 := hid_mk (hM1.out.to (after hb1 (by go_grown)).1)
  replace hM2 := hid_mk (hM2.out.to (after hb1 (by go_grown)).1)
  replace hok3 := hid_mk (hok3.out.to (after hb1 (by go_grown)).1)
  replace hM3 := hid_mk (hM3.out.to (after hb1 (by go_grown)).1)
  clear hb1
  obtain ⟨xl, x0, x1, x2, x3, x4, x5, x6, x7, x8, x9, x10, x11, x12, x13⟩ := blk14c hX.out
  obtain ⟨pl, p0, p1, p2, p3, p4, p5, p6, p7, p8, p9, p10, p11, p12, p13⟩ := blk14c hA.out
  obtain ⟨sl, s0, s1, s2, s3, s4, s5, s6, s7, s8, s9, s10, s11, s12, s13⟩ := blk14c hD.out
  go_wp2_with fail
  clear xl x0 x1 x2 x3 x4 x5 x6 x7 x8 x9 x10 x11 x12 x13
  clear pl p0 p1 p2 p3 p4 p5 p6 p7 p8 p9 p10 p11 p12 p13
  clear sl s0 s1 s2 s3 s4 s5 s6 s7 s8 s9 s10 s11 s12 s13
  refine (RSend_any N a q _ (B := w.heap.size) (by omega) (hN.to (by go_grown)) hzr.out).mono ?_
  rw [hS1.out]
  rintro e w9 ⟨A4, n4, c4, pm4, rfl, hM4, hp4, hc4, hb1⟩
  have q9 := (after (w := w) hb1 (by go_grown)).1
  have z9 := q9.size
  replace hX := hid_mk (hX.out.keep (after hb1 (by go_grown)).1)
  replace hA := hid_mk (hA.out.keep (after hb1 (by go_grown)).1)
  replace hD := hid_mk (hD.out.keep (after hb1 (by go_grown)).1)
  replace hok1 := hid_mk (hok1.out.to (after hb1 (by go_grown)).1)
  replace hM1 := hid_mk (hM1.out.to (after hb1 (by go_grown)).1)
  replace hM2 := hid_mk (hM2.out.to (after hb1 (by go_grown)).1)
  replace hok3 := hid_mk (hok3.out.to (after hb1 (by go_grown)).1)
  replace hM3 := hid_mk (hM3.out.to (after hb1 (by go_grown)).1)
  clear hb1
  replace hM4 := hid_mk hM4
  obtain ⟨xl, x0, x1, x2, x3, x4, x5, x6, x7, x8, x9, x10, x11, x12, x13⟩ := blk14c hX.out
  obtain ⟨pl, p0, p1, p2, p3, p4, p5, p6, p7, p8, p9, p10, p11, p12, p13⟩ := blk14c hA.out
  obtain ⟨sl, s0, s1, s2, s3, s4, s5, s6, s7, s8, s9, s10, s11, s12, s13⟩ := blk14c hD.out
  go_wp2_with fail
  clear xl x0 x1 x2 x3 x4 x5 x6 x7 x8 x9 x10 x11 x12 x13
  clear pl p0 p1 p2 p3 p4 p5 p6 p7 p8 p9 p10 p11 p12 p13
  clear sl s0 s1 s2 s3 s4 s5 s6 s7 s8 s9 s10 s11 s12 s13
  refine (LikeMsg_same A2 n2 c2 A4 n4 c4 pm2 pm4 _ (B := w.heap.size) (B' := w.heap.size) (by omega) (hM2.out.to (by go_grown)) (hM4.out.to (by go_grown)) (by rw [hp2.out, hp4])).mono ?_
  rintro e w10 ⟨rfl, hb1⟩
  have q10 := (after (w := w) hb1 (by go_grown)).1
  have z10 := q10.size
  replace hX := hid_mk (hX.out.keep (after hb1 (by go_grown)).1)
  replace hA := hid_mk (hA.out.keep (after hb1 (by go_grown)).1)
  replace hD := hid_mk (hD.out.keep (after hb1 (by go_grown)).1)
  replace hok1 := hid_mk (hok1.out.to (after hb1 (by go_grown)).1)
  replace hM1 := hid_mk (hM1.out.to (after hb1 (by go_grown)).1)
  replace hM2 := hid_mk (hM2.out.to (after hb1 (by go_grown)).1)
  replace hok3 := hid_mk (hok3.out.to (after hb1 (by go_grown)).1)
  replace hM3 := hid_mk (hM3.out.to (after hb1 (by go_grown)).1)
  replace hM4 := hid_mk (hM4.out.to (after hb1 (by go_grown)).1)
  clear hb1
  go_wp2
  refine ends_ret hQ (results_tmp rfl _ _ _) rfl ?_
  exact ⟨rfl, q10⟩
theorem LawLeads_walk {w : World} (ht : Tab w) (mm : Int) (hm : w.cell? ⟨0, 0, none⟩ = some (.int .i64 mm)) (N : Nd) (a : NdA) (hN : NdOk w w.heap.size N a) (q : Int) (_ : -9223372036854775808 ≤ q) (_ : q ≤ 9223372036854775807) :
    Calls Tryz.prog 4 #[nodeV N a, .int .i64 q] w fun e w' => e = .returned (.bool true) ∧ Below w.heap.size w w' := LawLeads_any N a q w hN ht mm hm
end Go.Proofs.YtncdjmpdbinanaaGreatDoor
