/-
  WHAT IS PROVED HERE: the law ElectRights returns true: which nodes and which messages may be is as the document says. Conditions: the slices are of at most 2^47 elements; the library's table stands.
-/
import Derived.Test.YtnaindoeihnmpaaDoorLaw17s
import Derived.Test.YtnaindoeihnmpaaDoorMay6
import Derived.Test.YtnaindoeihnmpaaDoorRMay6
namespace Go.Proofs.YtnaindoeihnmpaaDoor
open Go.RowKit

set_option maxRecDepth 100000 in
set_option maxHeartbeats 12800000 in
theorem LawRights_any (N : Nd) (a : NdA) (M : Ms) (b : MsA) (w : World) {B : Nat} (hN : NdOk w B N a) (hM : MsOk w B M b) (ht : Tab w) :
    Calls Tryd.prog 3 #[nodeV N a, msgV M b] w fun e w' => e = .returned (.bool true) ∧ Below w.heap.size w w' := by
  obtain ⟨z, hz⟩ : ∃ z, smallB N M = z := ⟨_, rfl⟩
  obtain ⟨zr, hzr⟩ : ∃ z, rightN N = z := ⟨_, rfl⟩
  obtain ⟨zm, hzm⟩ : ∃ z, mayM M = z := ⟨_, rfl⟩
  replace hz := hid_mk hz
  replace hzr := hid_mk hzr
  replace hzm := hid_mk hzm
  have hX := hid_mk ((Blk.new w 30 #[.int .i64 N.id, .int .i64 N.h.t, .int .i64 N.h.v, .int .i64 N.h.l.base, .int .i64 N.h.l.bt, .slice a.R.A a.R.n a.R.c, .string N.h.s, .slice a.V.A a.V.n a.V.c, .int .i64 N.role, .int .i64 N.lead, .int .i64 N.timer, .int .i64 N.commit, .slice a.G.A a.G.n a.G.c, .slice a.P.A a.P.n a.P.c]).alloc (.cells #[.int .i64 M.kind, .int .i64 M.fr, .int .i64 M.to, .int .i64 M.term, .bool M.ok, .int .i64 M.index, .int .i64 M.lterm, .slice b.R.A b.R.n b.R.c, .int .i64 M.commit, .string M.s, .slice b.V.A b.V.n b.V.c] 32))
  have hB : Hid (Blk ((w.alloc (.cells #[.int .i64 N.id, .int .i64 N.h.t, .int .i64 N.h.v, .int .i64 N.h.l.base, .int .i64 N.h.l.bt, .slice a.R.A a.R.n a.R.c, .string N.h.s, .slice a.V.A a.V.n a.V.c, .int .i64 N.role, .int .i64 N.lead, .int .i64 N.timer, .int .i64 N.commit, .slice a.G.A a.G.n a.G.c, .slice a.P.A a.P.n a.P.c] 30)).alloc (.cells #[.int .i64 M.kind, .int .i64 M.fr, .int .i64 M.to, .int .i64 M.term, .bool M.ok, .int .i64 M.index, .int .i64 M.lterm, .slice b.R.A b.R.n b.R.c, .int .i64 M.commit, .string M.s, .slice b.V.A b.V.n b.V.c] 32)) (w.heap.size + 1) 32 #[.int .i64 M.kind, .int .i64 M.fr, .int .i64 M.to, .int .i64 M.term, .bool M.ok, .int .i64 M.index, .int .i64 M.lterm, .slice b.R.A b.R.n b.R.c, .int .i64 M.commit, .string M.s, .slice b.V.A b.V.n b.V.c]) := Blk.new_ (by simp)
  unfold nodeV msgV
  cases z
  case false =>
    refine calls_of_wpQ Tryd.func3 rfl ?_
    intro Q hQ
    simp only [Tryd.ntmps3, List.size_toArray, List.length_cons, List.length_nil, Nat.reduceAdd, Nat.reduceSub, Array.replicate_succ, Array.replicate_zero, List.push_toArray, List.append_toArray, List.nil_append, List.cons_append]
    go_wp2_with fail
    refine wp_region_T' (fun w' => (w'.cell? ⟨w.heap.size, 0, none⟩ = some (.int .i64 N.id) ∧ w'.cell? ⟨w.heap.size, 1, none⟩ = some (.int .i64 N.h.t) ∧ w'.cell? ⟨w.heap.size, 2, none⟩ = some (.int .i64 N.h.v) ∧ w'.cell? ⟨w.heap.size, 3, none⟩ = some (.int .i64 N.h.l.base) ∧ w'.cell? ⟨w.heap.size, 4, none⟩ = some (.int .i64 N.h.l.bt) ∧ w'.cell? ⟨w.heap.size, 5, none⟩ = some (.slice a.R.A a.R.n a.R.c) ∧ w'.cell? ⟨w.heap.size, 6, none⟩ = some (.string N.h.s) ∧ w'.cell? ⟨w.heap.size, 7, none⟩ = some (.slice a.V.A a.V.n a.V.c) ∧ w'.cell? ⟨w.heap.size, 8, none⟩ = some (.int .i64 N.role) ∧ w'.cell? ⟨w.heap.size, 9, none⟩ = some (.int .i64 N.lead) ∧ w'.cell? ⟨w.heap.size, 10, none⟩ = some (.int .i64 N.timer) ∧ w'.cell? ⟨w.heap.size, 11, none⟩ = some (.int .i64 N.commit) ∧ w'.cell? ⟨w.heap.size, 12, none⟩ = some (.slice a.G.A a.G.n a.G.c) ∧ w'.cell? ⟨w.heap.size, 13, none⟩ = some (.slice a.P.A a.P.n a.P.c)) ∧ (w'.cell? ⟨w.heap.size + 1, 0, none⟩ = some (.int .i64 M.kind) ∧ w'.cell? ⟨w.heap.size + 1, 1, none⟩ = some (.int .i64 M.fr) ∧ w'.cell? ⟨w.heap.size + 1, 2, none⟩ = some (.int .i64 M.to) ∧ w'.cell? ⟨w.heap.size + 1, 3, none⟩ = some (.int .i64 M.term) ∧ w'.cell? ⟨w.heap.size + 1, 4, none⟩ = some (.bool M.ok) ∧ w'.cell? ⟨w.heap.size + 1, 5, none⟩ = some (.int .i64 M.index) ∧ w'.cell? ⟨w.heap.size + 1, 6, none⟩ = some (.int .i64 M.lterm) ∧ w'.cell? ⟨w.heap.size + 1, 7, none⟩ = some (.slice b.R.A b.R.n b.R.c) ∧ w'.cell? ⟨w.heap.size + 1, 8, none⟩ = some (.int .i64 M.commit) ∧ w'.cell? ⟨w.heap.size + 1, 9, none⟩ = some (.string M.s) ∧ w'.cell? ⟨w.heap.size + 1, 10, none⟩ = some (.slice b.V.A b.V.n b.V.c))) (fun j => decide (j < 22)) 22 (by kernel_rfl) (by kernel_rfl) (by exact ⟨(blk14 hX.out).2, (blk11 hB.out).2⟩) (fun hS0 => ?_)
    refine wpAnyT_take (i := 0) rfl (by kernel_rfl) (by kernel_rfl) (by kernel_rfl) rfl (by kernel_rfl) (fun _ _ _ h => h) rfl (fun w' hS => (by obtain ⟨⟨s0, s1, s2, s3, s4, s5, s6, s7, s8, s9, s10, s11, s12, s13⟩, ⟨r0, r1, r2, r3, r4, r5, r6, r7, r8, r9, r10⟩⟩ := hS; go_simp; try with_reducible rfl)) hS0 ?_
    simp only [Act.put]
    refine wpAnyT_take (i := 1) rfl (by kernel_rfl) (by kernel_rfl) (by kernel_rfl) rfl (by kernel_rfl) (fun _ _ _ h => h) rfl (fun w' hS => (by obtain ⟨⟨s0, s1, s2, s3, s4, s5, s6, s7, s8, s9, s10, s11, s12, s13⟩, ⟨r0, r1, r2, r3, r4, r5, r6, r7, r8, r9, r10⟩⟩ := hS; go_simp; try with_reducible rfl)) hS0 ?_
    simp only [Act.put]
    refine wpAnyT_one (i := 2) (by kernel_rfl) rfl (fun K hK => ?_)
    go_simp
    refine (small_any N a M b _ (B := B) (hN.to (by go_grown)) (hM.to (by go_grown))).mono ?_
    rw [hz.out]
    rintro e w1 ⟨rfl, hb1⟩
    have q1 := (after (w := w) hb1 (by go_grown)).1
    replace hX := hid_mk (hX.out.keep (after hb1 (by go_grown)).1)
    replace hB := hid_mk (hB.out.keep (after hb1 (by go_grown)).1)
    clear hb1
    refine hK.out _ _ (fun _ => ⟨(blk14 hX.out).2, (blk11 hB.out).2⟩) ?_
    clear hK K
    try simp only [Act.put]
    refine wpAnyT_take (i := 3) rfl (by kernel_rfl) (by kernel_rfl) (by kernel_rfl) rfl (by kernel_rfl) (fun _ _ _ h => h) rfl (fun w' hS => (by obtain ⟨⟨s0, s1, s2, s3, s4, s5, s6, s7, s8, s9, s10, s11, s12, s13⟩, ⟨r0, r1, r2, r3, r4, r5, r6, r7, r8, r9, r10⟩⟩ := hS; go_simp; try with_reducible rfl)) ⟨(blk14 hX.out).2, (blk11 hB.out).2⟩ ?_
    simp only [Act.put]
    refine wpAnyT_take (i := 4) rfl (by kernel_rfl) (by kernel_rfl) (by kernel_rfl) rfl (by kernel_rfl) (fun _ _ _ h => h) rfl (fun w' hS => (by obtain ⟨⟨s0, s1, s2, s3, s4, s5, s6, s7, s8, s9, s10, s11, s12, s13⟩, ⟨r0, r1, r2, r3, r4, r5, r6, r7, r8, r9, r10⟩⟩ := hS; go_simp; try with_reducible rfl)) ⟨(blk14 hX.out).2, (blk11 hB.out).2⟩ ?_
    simp only [Act.put]
    refine wpAnyT_skip (i := 5) rfl (by kernel_rfl) (by kernel_rfl) (by kernel_rfl) rfl (by kernel_rfl) (fun _ _ _ h => h) (by kernel_rfl) ⟨(blk14 hX.out).2, (blk11 hB.out).2⟩ ?_
    simp only [Act.put]
    refine wpAnyT_skip (i := 6) rfl (by kernel_rfl) (by kernel_rfl) (by kernel_rfl) rfl (by kernel_rfl) (fun _ _ _ h => h) (by kernel_rfl) ⟨(blk14 hX.out).2, (blk11 hB.out).2⟩ ?_
    simp only [Act.put]
    refine wpAnyT_skip (i := 7) rfl (by kernel_rfl) (by kernel_rfl) (by kernel_rfl) rfl (by kernel_rfl) (fun _ _ _ h => h) (by kernel_rfl) ⟨(blk14 hX.out).2, (blk11 hB.out).2⟩ ?_
    simp only [Act.put]
    refine wpAnyT_skip (i := 8) rfl (by kernel_rfl) (by kernel_rfl) (by kernel_rfl) rfl (by kernel_rfl) (fun _ _ _ h => h) (by kernel_rfl) ⟨(blk14 hX.out).2, (blk11 hB.out).2⟩ ?_
    simp only [Act.put]
    refine wpAnyT_skip (i := 9) rfl (by kernel_rfl) (by kernel_rfl) (by kernel_rfl) rfl (by kernel_rfl) (fun _ _ _ h => h) (by kernel_rfl) ⟨(blk14 hX.out).2, (blk11 hB.out).2⟩ ?_
    simp only [Act.put]
    refine wpAnyT_skip (i := 10) rfl (by kernel_rfl) (by kernel_rfl) (by kernel_rfl) rfl (by kernel_rfl) (fun _ _ _ h => h) (by kernel_rfl) ⟨(blk14 hX.out).2, (blk11 hB.out).2⟩ ?_
    simp only [Act.put]
    refine wpAnyT_skip (i := 11) rfl (by kernel_rfl) (by kernel_rfl) (by kernel_rfl) rfl (by kernel_rfl) (fun _ _ _ h => h) (by kernel_rfl) ⟨(blk14 hX.out).2, (blk11 hB.out).2⟩ ?_
    simp only [Act.put]
    refine wpAnyT_skip (i := 12) rfl (by kernel_rfl) (by kernel_rfl) (by kernel_rfl) rfl (by kernel_rfl) (fun _ _ _ h => h) (by kernel_rfl) ⟨(blk14 hX.out).2, (blk11 hB.out).2⟩ ?_
    simp only [Act.put]
    refine wpAnyT_skip (i := 13) rfl (by kernel_rfl) (by kernel_rfl) (by kernel_rfl) rfl (by kernel_rfl) (fun _ _ _ h => h) (by kernel_rfl) ⟨(blk14 hX.out).2, (blk11 hB.out).2⟩ ?_
    simp only [Act.put]
    refine wpAnyT_skip (i := 14) rfl (by kernel_rfl) (by kernel_rfl) (by kernel_rfl) rfl (by kernel_rfl) (fun _ _ _ h => h) (by kernel_rfl) ⟨(blk14 hX.out).2, (blk11 hB.out).2⟩ ?_
    simp only [Act.put]
    refine wpAnyT_skip (i := 15) rfl (by kernel_rfl) (by kernel_rfl) (by kernel_rfl) rfl (by kernel_rfl) (fun _ _ _ h => h) (by kernel_rfl) ⟨(blk14 hX.out).2, (blk11 hB.out).2⟩ ?_
    simp only [Act.put]
    refine wpAnyT_skip (i := 16) rfl (by kernel_rfl) (by kernel_rfl) (by kernel_rfl) rfl (by kernel_rfl) (fun _ _ _ h => h) (by kernel_rfl) ⟨(blk14 hX.out).2, (blk11 hB.out).2⟩ ?_
    simp only [Act.put]
    refine wpAnyT_skip (i := 17) rfl (by kernel_rfl) (by kernel_rfl) (by kernel_rfl) rfl (by kernel_rfl) (fun _ _ _ h => h) (by kernel_rfl) ⟨(blk14 hX.out).2, (blk11 hB.out).2⟩ ?_
    simp only [Act.put]
    refine wpAnyT_skip (i := 18) rfl (by kernel_rfl) (by kernel_rfl) (by kernel_rfl) rfl (by kernel_rfl) (fun _ _ _ h => h) (by kernel_rfl) ⟨(blk14 hX.out).2, (blk11 hB.out).2⟩ ?_
    simp only [Act.put]
    refine wpAnyT_skip (i := 19) rfl (by kernel_rfl) (by kernel_rfl) (by kernel_rfl) rfl (by kernel_rfl) (fun _ _ _ h => h) (by kernel_rfl) ⟨(blk14 hX.out).2, (blk11 hB.out).2⟩ ?_
    simp only [Act.put]
    refine wpAnyT_one (i := 20) (by kernel_rfl) rfl (fun K hK => ?_)
    go_simp
    refine hK.out _ _ (fun _ => ⟨(blk14 hX.out).2, (blk11 hB.out).2⟩) ?_
    clear hK K
    try simp only [Act.put]
    refine wpAnyT_one (i := 21) (by kernel_rfl) rfl (fun K hK => ?_)
    go_simp
    refine hK.out _ _ (fun _ => ⟨(blk14 hX.out).2, (blk11 hB.out).2⟩) ?_
    clear hK K
    try simp only [Act.put]
    refine wpAnyT_done (by kernel_rfl) ?_ _
    go_wp2
    refine ends_ret hQ (results_tmp rfl _ _ _) rfl ?_
    exact ⟨rfl, q1⟩
  case true =>
    refine calls_of_wpQ Tryd.func3 rfl ?_
    intro Q hQ
    simp only [Tryd.ntmps3, List.size_toArray, List.length_cons, List.length_nil, Nat.reduceAdd, Nat.reduceSub, Array.replicate_succ, Array.replicate_zero, List.push_toArray, List.append_toArray, List.nil_append, List.cons_append]
    go_wp2_with fail
    refine wp_region_T' (fun w' => (w'.cell? ⟨w.heap.size, 0, none⟩ = some (.int .i64 N.id) ∧ w'.cell? ⟨w.heap.size, 1, none⟩ = some (.int .i64 N.h.t) ∧ w'.cell? ⟨w.heap.size, 2, none⟩ = some (.int .i64 N.h.v) ∧ w'.cell? ⟨w.heap.size, 3, none⟩ = some (.int .i64 N.h.l.base) ∧ w'.cell? ⟨w.heap.size, 4, none⟩ = some (.int .i64 N.h.l.bt) ∧ w'.cell? ⟨w.heap.size, 5, none⟩ = some (.slice a.R.A a.R.n a.R.c) ∧ w'.cell? ⟨w.heap.size, 6, none⟩ = some (.string N.h.s) ∧ w'.cell? ⟨w.heap.size, 7, none⟩ = some (.slice a.V.A a.V.n a.V.c) ∧ w'.cell? ⟨w.heap.size, 8, none⟩ = some (.int .i64 N.role) ∧ w'.cell? ⟨w.heap.size, 9, none⟩ = some (.int .i64 N.lead) ∧ w'.cell? ⟨w.heap.size, 10, none⟩ = some (.int .i64 N.timer) ∧ w'.cell? ⟨w.heap.size, 11, none⟩ = some (.int .i64 N.commit) ∧ w'.cell? ⟨w.heap.size, 12, none⟩ = some (.slice a.G.A a.G.n a.G.c) ∧ w'.cell? ⟨w.heap.size, 13, none⟩ = some (.slice a.P.A a.P.n a.P.c)) ∧ (w'.cell? ⟨w.heap.size + 1, 0, none⟩ = some (.int .i64 M.kind) ∧ w'.cell? ⟨w.heap.size + 1, 1, none⟩ = some (.int .i64 M.fr) ∧ w'.cell? ⟨w.heap.size + 1, 2, none⟩ = some (.int .i64 M.to) ∧ w'.cell? ⟨w.heap.size + 1, 3, none⟩ = some (.int .i64 M.term) ∧ w'.cell? ⟨w.heap.size + 1, 4, none⟩ = some (.bool M.ok) ∧ w'.cell? ⟨w.heap.size + 1, 5, none⟩ = some (.int .i64 M.index) ∧ w'.cell? ⟨w.heap.size + 1, 6, none⟩ = some (.int .i64 M.lterm) ∧ w'.cell? ⟨w.heap.size + 1, 7, none⟩ = some (.slice b.R.A b.R.n b.R.c) ∧ w'.cell? ⟨w.heap.size + 1, 8, none⟩ = some (.int .i64 M.commit) ∧ w'.cell? ⟨w.heap.size + 1, 9, none⟩ = some (.string M.s) ∧ w'.cell? ⟨w.heap.size + 1, 10, none⟩ = some (.slice b.V.A b.V.n b.V.c))) (fun j => decide (j < 22)) 22 (by kernel_rfl) (by kernel_rfl) (by exact ⟨(blk14 hX.out).2, (blk11 hB.out).2⟩) (fun hS0 => ?_)
    refine wpAnyT_take (i := 0) rfl (by kernel_rfl) (by kernel_rfl) (by kernel_rfl) rfl (by kernel_rfl) (fun _ _ _ h => h) rfl (fun w' hS => (by obtain ⟨⟨s0, s1, s2, s3, s4, s5, s6, s7, s8, s9, s10, s11, s12, s13⟩, ⟨r0, r1, r2, r3, r4, r5, r6, r7, r8, r9, r10⟩⟩ := hS; go_simp; try with_reducible rfl)) hS0 ?_
    simp only [Act.put]
    refine wpAnyT_take (i := 1) rfl (by kernel_rfl) (by kernel_rfl) (by kernel_rfl) rfl (by kernel_rfl) (fun _ _ _ h => h) rfl (fun w' hS => (by obtain ⟨⟨s0, s1, s2, s3, s4, s5, s6, s7, s8, s9, s10, s11, s12, s13⟩, ⟨r0, r1, r2, r3, r4, r5, r6, r7, r8, r9, r10⟩⟩ := hS; go_simp; try with_reducible rfl)) hS0 ?_
    simp only [Act.put]
    refine wpAnyT_one (i := 2) (by kernel_rfl) rfl (fun K hK => ?_)
    go_simp
    refine (small_any N a M b _ (B := B) (hN.to (by go_grown)) (hM.to (by go_grown))).mono ?_
    rw [hz.out]
    rintro e w1 ⟨rfl, hb1⟩
    have q1 := (after (w := w) hb1 (by go_grown)).1
    replace hX := hid_mk (hX.out.keep (after hb1 (by go_grown)).1)
    replace hB := hid_mk (hB.out.keep (after hb1 (by go_grown)).1)
    clear hb1
    refine hK.out _ _ (fun _ => ⟨(blk14 hX.out).2, (blk11 hB.out).2⟩) ?_
    clear hK K
    try simp only [Act.put]
    refine wpAnyT_take (i := 3) rfl (by kernel_rfl) (by kernel_rfl) (by kernel_rfl) rfl (by kernel_rfl) (fun _ _ _ h => h) rfl (fun w' hS => (by obtain ⟨⟨s0, s1, s2, s3, s4, s5, s6, s7, s8, s9, s10, s11, s12, s13⟩, ⟨r0, r1, r2, r3, r4, r5, r6, r7, r8, r9, r10⟩⟩ := hS; go_simp; try with_reducible rfl)) ⟨(blk14 hX.out).2, (blk11 hB.out).2⟩ ?_
    simp only [Act.put]
    refine wpAnyT_take (i := 4) rfl (by kernel_rfl) (by kernel_rfl) (by kernel_rfl) rfl (by kernel_rfl) (fun _ _ _ h => h) rfl (fun w' hS => (by obtain ⟨⟨s0, s1, s2, s3, s4, s5, s6, s7, s8, s9, s10, s11, s12, s13⟩, ⟨r0, r1, r2, r3, r4, r5, r6, r7, r8, r9, r10⟩⟩ := hS; go_simp; try with_reducible rfl)) ⟨(blk14 hX.out).2, (blk11 hB.out).2⟩ ?_
    simp only [Act.put]
    refine wpAnyT_one (i := 5) (by kernel_rfl) rfl (fun K hK => ?_)
    go_simp
    refine (alive_any _ (ht.to (by go_grown))).mono ?_
    rintro e w2 ⟨rfl, hb1⟩
    have q2 := (after (w := w) hb1 (by go_grown)).1
    replace hX := hid_mk (hX.out.keep (after hb1 (by go_grown)).1)
    replace hB := hid_mk (hB.out.keep (after hb1 (by go_grown)).1)
    clear hb1
    refine hK.out _ _ (fun _ => ⟨(blk14 hX.out).2, (blk11 hB.out).2⟩) ?_
    clear hK K
    try simp only [Act.put]
    refine wpAnyT_take (i := 6) rfl (by kernel_rfl) (by kernel_rfl) (by kernel_rfl) rfl (by kernel_rfl) (fun _ _ _ h => h) rfl (fun w' hS => (by obtain ⟨⟨s0, s1, s2, s3, s4, s5, s6, s7, s8, s9, s10, s11, s12, s13⟩, ⟨r0, r1, r2, r3, r4, r5, r6, r7, r8, r9, r10⟩⟩ := hS; go_simp; try with_reducible rfl)) ⟨(blk14 hX.out).2, (blk11 hB.out).2⟩ ?_
    simp only [Act.put]
    refine wpAnyT_take (i := 7) rfl (by kernel_rfl) (by kernel_rfl) (by kernel_rfl) rfl (by kernel_rfl) (fun _ _ _ h => h) rfl (fun w' hS => (by obtain ⟨⟨s0, s1, s2, s3, s4, s5, s6, s7, s8, s9, s10, s11, s12, s13⟩, ⟨r0, r1, r2, r3, r4, r5, r6, r7, r8, r9, r10⟩⟩ := hS; go_simp; try with_reducible rfl)) ⟨(blk14 hX.out).2, (blk11 hB.out).2⟩ ?_
    simp only [Act.put]
    refine wpAnyT_take (i := 9) rfl (by kernel_rfl) (by kernel_rfl) (by kernel_rfl) rfl (by kernel_rfl) (fun _ _ _ h => h) rfl (fun w' hS => (by obtain ⟨⟨s0, s1, s2, s3, s4, s5, s6, s7, s8, s9, s10, s11, s12, s13⟩, ⟨r0, r1, r2, r3, r4, r5, r6, r7, r8, r9, r10⟩⟩ := hS; go_simp; try with_reducible rfl)) ⟨(blk14 hX.out).2, (blk11 hB.out).2⟩ ?_
    simp only [Act.put]
    refine wpAnyT_one (i := 8) (by kernel_rfl) rfl (fun K hK => ?_)
    go_simp
    refine (ERight_any N a _ (B := B) (hN.to (by go_grown)) (ht.to (by go_grown))).mono ?_
    rw [hzr.out]
    rintro e w3 ⟨rfl, hb1⟩
    have q3 := (after (w := w) hb1 (by go_grown)).1
    replace hX := hid_mk (hX.out.keep (after hb1 (by go_grown)).1)
    replace hB := hid_mk (hB.out.keep (after hb1 (by go_grown)).1)
    clear hb1
    refine hK.out _ _ (fun _ => ⟨(blk14 hX.out).2, (blk11 hB.out).2⟩) ?_
    clear hK K
    try simp only [Act.put]
    refine wpAnyT_one (i := 10) (by kernel_rfl) rfl (fun K hK => ?_)
    go_simp
    refine (NRight_any N a _ (B := B) (hN.to (by go_grown)) (ht.to (by go_grown))).mono ?_
    rw [hzr.out]
    rintro e w4 ⟨rfl, hb1⟩
    have q4 := (after (w := w) hb1 (by go_grown)).1
    replace hX := hid_mk (hX.out.keep (after hb1 (by go_grown)).1)
    replace hB := hid_mk (hB.out.keep (after hb1 (by go_grown)).1)
    clear hb1
    refine hK.out _ _ (fun _ => ⟨(blk14 hX.out).2, (blk11 hB.out).2⟩) ?_
    clear hK K
    try simp only [Act.put]
    refine wpAnyT_take (i := 11) rfl (by kernel_rfl) (by kernel_rfl) (by kernel_rfl) rfl (by kernel_rfl) (fun _ _ _ h => h) rfl (fun w' hS => (by obtain ⟨⟨s0, s1, s2, s3, s4, s5, s6, s7, s8, s9, s10, s11, s12, s13⟩, ⟨r0, r1, r2, r3, r4, r5, r6, r7, r8, r9, r10⟩⟩ := hS; go_simp; try with_reducible rfl)) ⟨(blk14 hX.out).2, (blk11 hB.out).2⟩ ?_
    simp only [Act.put]
    refine wpAnyT_take (i := 12) rfl (by kernel_rfl) (by kernel_rfl) (by kernel_rfl) rfl (by kernel_rfl) (fun _ _ _ h => h) rfl (fun w' hS => (by obtain ⟨⟨s0, s1, s2, s3, s4, s5, s6, s7, s8, s9, s10, s11, s12, s13⟩, ⟨r0, r1, r2, r3, r4, r5, r6, r7, r8, r9, r10⟩⟩ := hS; go_simp; try with_reducible rfl)) ⟨(blk14 hX.out).2, (blk11 hB.out).2⟩ ?_
    simp only [Act.put]
    refine wpAnyT_take (i := 13) rfl (by kernel_rfl) (by kernel_rfl) (by kernel_rfl) rfl (by kernel_rfl) (fun _ _ _ h => h) rfl (fun w' hS => (by obtain ⟨⟨s0, s1, s2, s3, s4, s5, s6, s7, s8, s9, s10, s11, s12, s13⟩, ⟨r0, r1, r2, r3, r4, r5, r6, r7, r8, r9, r10⟩⟩ := hS; go_simp; try with_reducible rfl)) ⟨(blk14 hX.out).2, (blk11 hB.out).2⟩ ?_
    simp only [Act.put]
    refine wpAnyT_take (i := 14) rfl (by kernel_rfl) (by kernel_rfl) (by kernel_rfl) rfl (by kernel_rfl) (fun _ _ _ h => h) rfl (fun w' hS => (by obtain ⟨⟨s0, s1, s2, s3, s4, s5, s6, s7, s8, s9, s10, s11, s12, s13⟩, ⟨r0, r1, r2, r3, r4, r5, r6, r7, r8, r9, r10⟩⟩ := hS; go_simp; try with_reducible rfl)) ⟨(blk14 hX.out).2, (blk11 hB.out).2⟩ ?_
    simp only [Act.put]
    refine wpAnyT_take (i := 16) rfl (by kernel_rfl) (by kernel_rfl) (by kernel_rfl) rfl (by kernel_rfl) (fun _ _ _ h => h) rfl (fun w' hS => (by obtain ⟨⟨s0, s1, s2, s3, s4, s5, s6, s7, s8, s9, s10, s11, s12, s13⟩, ⟨r0, r1, r2, r3, r4, r5, r6, r7, r8, r9, r10⟩⟩ := hS; go_simp; try with_reducible rfl)) ⟨(blk14 hX.out).2, (blk11 hB.out).2⟩ ?_
    simp only [Act.put]
    refine wpAnyT_one (i := 15) (by kernel_rfl) rfl (fun K hK => ?_)
    go_simp
    refine (EMay_any M b _ (B := B) (hM.to (by go_grown))).mono ?_
    rw [hzm.out]
    rintro e w5 ⟨rfl, hb1⟩
    have q5 := (after (w := w) hb1 (by go_grown)).1
    replace hX := hid_mk (hX.out.keep (after hb1 (by go_grown)).1)
    replace hB := hid_mk (hB.out.keep (after hb1 (by go_grown)).1)
    clear hb1
    refine hK.out _ _ (fun _ => ⟨(blk14 hX.out).2, (blk11 hB.out).2⟩) ?_
    clear hK K
    try simp only [Act.put]
    refine wpAnyT_one (i := 17) (by kernel_rfl) rfl (fun K hK => ?_)
    go_simp
    refine (NMay_any M b _ (B := B) (hM.to (by go_grown))).mono ?_
    rw [hzm.out]
    rintro e w6 ⟨rfl, hb1⟩
    have q6 := (after (w := w) hb1 (by go_grown)).1
    replace hX := hid_mk (hX.out.keep (after hb1 (by go_grown)).1)
    replace hB := hid_mk (hB.out.keep (after hb1 (by go_grown)).1)
    clear hb1
    refine hK.out _ _ (fun _ => ⟨(blk14 hX.out).2, (blk11 hB.out).2⟩) ?_
    clear hK K
    try simp only [Act.put]
    refine wpAnyT_take (i := 18) rfl (by kernel_rfl) (by kernel_rfl) (by kernel_rfl) rfl (by kernel_rfl) (fun _ _ _ h => h) rfl (fun w' hS => (by obtain ⟨⟨s0, s1, s2, s3, s4, s5, s6, s7, s8, s9, s10, s11, s12, s13⟩, ⟨r0, r1, r2, r3, r4, r5, r6, r7, r8, r9, r10⟩⟩ := hS; go_simp; try with_reducible rfl)) ⟨(blk14 hX.out).2, (blk11 hB.out).2⟩ ?_
    simp only [Act.put]
    refine wpAnyT_take (i := 19) rfl (by kernel_rfl) (by kernel_rfl) (by kernel_rfl) rfl (by kernel_rfl) (fun _ _ _ h => h) rfl (fun w' hS => (by obtain ⟨⟨s0, s1, s2, s3, s4, s5, s6, s7, s8, s9, s10, s11, s12, s13⟩, ⟨r0, r1, r2, r3, r4, r5, r6, r7, r8, r9, r10⟩⟩ := hS; go_simp; try with_reducible rfl)) ⟨(blk14 hX.out).2, (blk11 hB.out).2⟩ ?_
    simp only [Act.put]
    refine wpAnyT_one (i := 20) (by kernel_rfl) rfl (fun K hK => ?_)
    go_simp
    refine hK.out _ _ (fun _ => ⟨(blk14 hX.out).2, (blk11 hB.out).2⟩) ?_
    clear hK K
    try simp only [Act.put]
    refine wpAnyT_one (i := 21) (by kernel_rfl) rfl (fun K hK => ?_)
    go_simp
    refine hK.out _ _ (fun _ => ⟨(blk14 hX.out).2, (blk11 hB.out).2⟩) ?_
    clear hK K
    try simp only [Act.put]
    refine wpAnyT_done (by kernel_rfl) ?_ _
    go_wp2
    refine ends_ret hQ (results_tmp rfl _ _ _) rfl ?_
    exact ⟨rfl, q6⟩
theorem LawRights_walk {w : World} (ht : Tab w) (N : Nd) (a : NdA) (hN : NdOk w w.heap.size N a) (M : Ms) (b : MsA) (hM : MsOk w w.heap.size M b) :
    Calls Tryd.prog 3 #[nodeV N a, msgV M b] w fun e w' => e = .returned (.bool true) ∧ Below w.heap.size w w' := LawRights_any N a M b w hN hM ht
end Go.Proofs.YtnaindoeihnmpaaDoor
