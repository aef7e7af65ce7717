/-
  WHAT IS PROVED HERE: what layer 18's small and alive hand back. Conditions: the slices are of at most 2^47 elements; the library's table and MaxLen stand.
-/
import Derived.Test.YtncdjmpdbinanaaGreatDoorZGKep
import Derived.Test.YtncdjmpdbinanaaGreatDoorZEld
namespace Go.Proofs.YtncdjmpdbinanaaGreatDoor
open Go.RowKit

set_option maxRecDepth 100000 in
set_option maxHeartbeats 3200000 in
theorem small18_any (N : Nd) (a : NdA) (M : Ms) (b : MsA) (w : World) {B : Nat} (hN : NdOk w B N a) (hM : MsOk w B M b) :
    Calls Tryz.prog 23 #[nodeV N a, msgV M b] w fun e w' => e = .returned (.bool (smallB N M)) ∧ Below w.heap.size w w' := by
  obtain ⟨hr, hrc, hrb, hi, hvc, hvb, hsb, hg, hgc, hgb, hps, hpc, hpb⟩ := hN
  obtain ⟨mr, mrc, mrb, _, _, _, _⟩ := hM
  obtain ⟨Z, hZ⟩ : ∃ Z, smallB N M = Z := ⟨_, rfl⟩
  rw [hZ]
  unfold smallB at hZ
  obtain ⟨id, ⟨t, v, ⟨base, bt, rs⟩, s, vs⟩, role, lead, timer, commit, got, ps⟩ := N
  obtain ⟨⟨RA, n, Rc⟩, ⟨VA, m, Vc⟩, ⟨GA, gn, Gc⟩, ⟨PA, pn, Pc⟩⟩ := a
  obtain ⟨kind, fr, mto, term, ok, index, lterm, mrs, mcommit, ms, mvs⟩ := M
  obtain ⟨⟨QA, qn, Qc⟩, ⟨UA, un, Uc⟩⟩ := b
  dsimp only at hr hrc hrb mr mrc mrb hZ
  have hlm := hid_mk mr.len
  unfold nodeV msgV
  dsimp only
  have hM0 : Hid (Blk ((w.alloc (.cells #[.int .i64 id, .int .i64 t, .int .i64 v, .int .i64 base, .int .i64 bt, .slice RA n Rc, .string s, .slice VA m Vc, .int .i64 role, .int .i64 lead, .int .i64 timer, .int .i64 commit, .slice GA gn Gc, .slice PA pn Pc] 30)).alloc (.cells #[.int .i64 kind, .int .i64 fr, .int .i64 mto, .int .i64 term, .bool ok, .int .i64 index, .int .i64 lterm, .slice QA qn Qc, .int .i64 mcommit, .string ms, .slice UA un Uc] 32)) (w.heap.size + 1) 32 #[.int .i64 kind, .int .i64 fr, .int .i64 mto, .int .i64 term, .bool ok, .int .i64 index, .int .i64 lterm, .slice QA qn Qc, .int .i64 mcommit, .string ms, .slice UA un Uc]) := Blk.new_ (by simp)
  have q0 : Below w.heap.size w ((w.alloc (.cells #[.int .i64 id, .int .i64 t, .int .i64 v, .int .i64 base, .int .i64 bt, .slice RA n Rc, .string s, .slice VA m Vc, .int .i64 role, .int .i64 lead, .int .i64 timer, .int .i64 commit, .slice GA gn Gc, .slice PA pn Pc] 30)).alloc (.cells #[.int .i64 kind, .int .i64 fr, .int .i64 mto, .int .i64 term, .bool ok, .int .i64 index, .int .i64 lterm, .slice QA qn Qc, .int .i64 mcommit, .string ms, .slice UA un Uc] 32)) := by go_grown
  have hz0 : Hid (smallE (smallK s.size 0 (rs.drop 0)) mrs.length = Z) := hZ
  clear hZ
  refine calls_of_wpQ Tryz.func23 rfl ?_
  intro Q hQ
  simp only [Tryz.ntmps23, List.size_toArray, List.length_cons, List.length_nil, Nat.reduceAdd, Nat.reduceSub, Array.replicate_succ, Array.replicate_zero, List.push_toArray, List.append_toArray, List.nil_append, List.cons_append]
  go_wp2
  go_loopw [5, 17] (fun cc i wr => ∃ (k : Nat) (c : Int), k ≤ n ∧ i = .int .i64 k ∧ cc = .int .i64 c ∧ Below w.heap.size w wr ∧ Hid (smallE (smallK c k (rs.drop k)) mrs.length = Z) ∧ Hid (Blk wr (w.heap.size + 1) 32 #[.int .i64 kind, .int .i64 fr, .int .i64 mto, .int .i64 term, .bool ok, .int .i64 index, .int .i64 lterm, .slice QA qn Qc, .int .i64 mcommit, .string ms, .slice UA un Uc])) (fun _ i _ => n - (intOf i).toNat)
  case atStart => exact ⟨0, _, Nat.zero_le _, rfl, rfl, q0, hz0, hM0⟩
  case round =>
    clear hz0 q0 hM0
    obtain ⟨k, c, hk, rfl, rfl, hb, hn, hX⟩ := hrel
    by_cases hlt : k < n
    · obtain ⟨b, o, r, rfl, hbb, hd, ct, ck, cd⟩ := (hr.below hb).at_ hlt
      have hb2 : Below w.heap.size w (wr.alloc (.cells #[.int .i64 r.t, .int .i64 r.k, .string r.d] 51)) := hb.alloc hb.size _
      have hX2 := hid_mk (hX.out.alloc (.cells #[.int .i64 r.t, .int .i64 r.k, .string r.d] 51))
      obtain ⟨rt, rk, rd⟩ := r
      dsimp only at ct ck cd hb2 hX2
      obtain ⟨q, hq⟩ : ∃ q, wrap64 (c + rd.size) = q := ⟨_, rfl⟩
      by_cases h1 : 30000 < q
      · have he : Hid (Z = false) := by rw [Hid, ← hn.out, hd.out, smallK, if_pos (.inl (by rw [hq]; exact h1))]; rfl
        go_wp2
        refine ends_ret hQ (results_tmp rfl _ _ _) rfl ?_
        exact ⟨ret_bool he.out.symm, hb2⟩
      by_cases h2 : 300 < k
      · have he : Hid (Z = false) := by rw [Hid, ← hn.out, hd.out, smallK, if_pos (.inr h2)]; rfl
        go_wp2
        refine ends_ret hQ (results_tmp rfl _ _ _) rfl ?_
        exact ⟨ret_bool he.out.symm, hb2⟩
      have hn2 : Hid (smallE (smallK (wrap64 (c + rd.size)) (k + 1) (rs.drop (k + 1))) mrs.length = Z) := by
        have := hn.out
        rw [hd.out, smallK, if_neg (by rw [hq]; rintro (h | h) <;> omega)] at this
        exact this
      go_wp2
      go_roundw
      case rel => exact ⟨k + 1, _, by omega, by go_num, rfl, hb2, hn2, hX2⟩
      case measure => simp [intOf]; omega
    · have hz : Hid ((decide (c ≤ 30000) && decide (qn ≤ 300)) = Z) := by
        have := hn.out
        rw [hr.end_ hlt, smallK, hlm.out] at this
        exact this
      have x7 := hX.out.cell 7
      have xl := hX.out.lt
      change _ = some (Value.slice QA qn Qc) at x7
      clear hn
      by_cases h1 : c ≤ 30000
      · have c1 := hid_mk (show decide (c ≤ 30000) = true from by simpa using h1)
        by_cases h2 : qn ≤ 300
        · have c2 := hid_mk (show decide (qn ≤ 300) = true from by simpa using h2)
          go_wp2
          refine ends_ret hQ (results_tmp rfl _ _ _) rfl ?_
          exact ⟨ret_bool (by rw [← hz.out, c1.out, c2.out]; simp; omega), hb⟩
        · have c2 := hid_mk (show decide (qn ≤ 300) = false from by simpa using h2)
          go_wp2
          refine ends_ret hQ (results_tmp rfl _ _ _) rfl ?_
          exact ⟨ret_bool (by rw [← hz.out, c1.out, c2.out]; simp; omega), hb⟩
      · have c1 := hid_mk (show decide (c ≤ 30000) = false from by simpa using h1)
        go_wp2
        refine ends_ret hQ (results_tmp rfl _ _ _) rfl ?_
        exact ⟨ret_bool (by rw [← hz.out, c1.out]; rfl), hb⟩

def liveC : Nd := ⟨1, ⟨1, 1, ⟨0, 0, []⟩, ⟨#[]⟩, [1]⟩, 1, 0, 0, 0, [], []⟩
theorem liveC_enc (rs : List Rec) (h : (recsEnc rs).length ≤ 100) : (encH ⟨1, 1, ⟨0, 0, rs⟩, ⟨#[]⟩, [1]⟩).length ≤ 131072 := by
  have h0 := num_len (n := 0) (by omega) (by omega)
  have h1 := num_len (n := 1) (by omega) (by omega)
  have ht := itoa_len (n := (0 : Int)) (by omega) (k := 9) (by omega)
  have e : (txtN (⟨#[]⟩ : ByteArray)).enc.length ≤ 11 := by
    show (Lib.itoa ((⟨#[]⟩ : ByteArray).size : Int) ++ [58]).length ≤ 11
    rw [List.length_append]
    exact Nat.succ_le_succ ht
  have e2 : (votEnc [1]).length ≤ 14 := by
    unfold votEnc votN encN
    simp only [List.map_cons, List.map_nil, List.flatMap_cons, List.flatMap_nil, List.length_append, List.length_cons, List.length_nil]
    omega
  unfold encH
  simp only [List.length_append, List.length_cons, List.length_nil]
  omega
theorem liveC_right : rightN liveC = true := by
  have hl : (encH liveC.h).length ≤ 131072 := liveC_enc [] (by decide)
  unfold rightN rightH
  rw [show decide ((encH liveC.h).length ≤ 131072) = true from by simpa using hl]
  rfl
theorem liveC_with : rightH (withH liveC.h ⟨1, 0, ⟨#[]⟩⟩) = true := by
  have hr := rec_len2 (r := ⟨1, 0, ⟨#[]⟩⟩) ⟨by decide, by decide⟩ ⟨by decide, by decide⟩ (by decide)
  have hl : (encH (withH liveC.h ⟨1, 0, ⟨#[]⟩⟩)).length ≤ 131072 := liveC_enc [⟨1, 0, ⟨#[]⟩⟩] (by
    unfold recsEnc
    simp only [List.flatMap_cons, List.flatMap_nil, List.length_append, List.length_cons, List.length_nil]
    have e : (⟨#[]⟩ : ByteArray).size = 0 := rfl
    rw [e] at hr
    omega)
  unfold rightH
  rw [show decide ((encH (withH liveC.h ⟨1, 0, ⟨#[]⟩⟩)).length ≤ 131072) = true from by simpa using hl]
  rfl
theorem liveC_lead : (leadN liveC).role = 2 ∧ (leadN liveC).commit = 1 := by
  have hc : leadC liveC = true := by
    unfold leadC
    rw [liveC_right]
    rfl
  have hw : leadW liveC = hdN (leadB liveC) (withH liveC.h ⟨1, 0, ⟨#[]⟩⟩) := by
    unfold leadW
    exact if_pos liveC_with
  unfold leadN
  rw [if_pos hc, hw]
  have hs : sureC (hdN (leadB liveC) (withH liveC.h ⟨1, 0, ⟨#[]⟩⟩)) = true := by decide +kernel
  unfold sureN
  rw [if_pos hs]
  exact ⟨rfl, by decide +kernel⟩
set_option maxRecDepth 100000 in
set_option maxHeartbeats 1600000 in
theorem alive18_any (w : World) (ht : Tab w) (mm : Int) (hm : w.cell? ⟨0, 0, none⟩ = some (.int .i64 mm)) : Calls Tryz.prog 26 #[] w fun e w' => e = .returned (.bool true) ∧ Below w.heap.size w w' := by
  have hI : Ints (w.alloc (.cells #[.int .i64 1] 3)) w.heap.size (some ⟨w.heap.size, 0, none⟩) 1 [1] := reads_new w #[.int .i64 1] 3 1 1 w.heap.size rfl
  have hN : NdOk (w.alloc (.cells #[.int .i64 1] 3)) w.heap.size liveC ⟨⟨none, 0, 0⟩, ⟨some ⟨w.heap.size, 0, none⟩, 1, 1⟩, ⟨none, 0, 0⟩, ⟨none, 0, 0⟩⟩ :=
    ⟨Reads.none_, Nat.le_refl _, by dsimp only; omega, hI, Nat.le_refl _, by dsimp only; omega, by show 0 ≤ _; omega, Reads.none_, Nat.le_refl _, by dsimp only; omega, Reads.none_, Nat.le_refl _, by dsimp only; omega⟩
  have ht' : Tab (w.alloc (.cells #[.int .i64 1] 3)) := ht.to (by go_grown)
  have hm' : (w.alloc (.cells #[.int .i64 1] 3)).cell? ⟨0, 0, none⟩ = some (.int .i64 mm) := (World.cell?_alloc_past _ _ _ (cell_lt hm)).trans hm
  obtain ⟨X, hX⟩ : ∃ X, leadN liveC = X := ⟨_, rfl⟩
  have hl := liveC_lead
  have hEL := ELead_any liveC ⟨⟨none, 0, 0⟩, ⟨some ⟨w.heap.size, 0, none⟩, 1, 1⟩, ⟨none, 0, 0⟩, ⟨none, 0, 0⟩⟩ _ (by simp) hN ht' mm hm'
  rw [hX] at hl hEL
  obtain ⟨h2, h3⟩ := hl
  replace hX := hid_mk hX
  clear hm
  refine calls_of_wpQ Tryz.func26 rfl ?_
  intro Q hQ
  simp only [Tryz.ntmps26, List.size_toArray, List.length_nil, Nat.reduceSub, Array.replicate_succ, Array.replicate_zero, List.push_toArray, List.append_toArray, List.nil_append, List.cons_append]
  go_wp2_with fail
  refine hEL.mono ?_
  rintro e w1 ⟨a, A, n, c, pm, rfl, _, _, _, _, hb1⟩
  unfold nodeV
  rw [h2, h3]
  have q1 := (after (w := w) hb1 (by go_grown)).1
  have z1 := q1.size
  clear hb1
  go_wp2
  refine ends_ret hQ (results_tmp rfl _ _ _) rfl ?_
  exact ⟨rfl, by go_grown⟩
end Go.Proofs.YtncdjmpdbinanaaGreatDoor
