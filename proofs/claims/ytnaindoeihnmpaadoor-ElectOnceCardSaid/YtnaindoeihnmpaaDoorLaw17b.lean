/-
  WHAT IS PROVED HERE: the law ElectOnce returns true: in one term a node grants its vote to one ID alone. Conditions: the slices are of at most 2^47 elements; the library's table stands.
-/
import Derived.Test.YtnaindoeihnmpaaDoorOncP
import Derived.Test.YtnaindoeihnmpaaDoorLaw17s
import Derived.Test.YtnaindoeihnmpaaDoorReg2
import Derived.Deep.DeepCutAuto
namespace Go.Proofs.YtnaindoeihnmpaaDoor
open Go.RowKit Go.Maps

theorem zeroI (w : World) : (zeroValue 3).run Tryd.prog w = .ok (.int .i64 0) w := by kernel_rfl
/-- a block of cells is none of a map's -/
theorem grown_ne {w w' : World} {gm g : Nat} {f : Int → Option Value} {n : Nat} {k : TypeId} {t : TypeId} {cs : Array Value} (hm : MapI Tryd.prog w k gm n f) (hg : w.grownBy w' (some gm)) (h : Blk w g t cs) : Blk w' g t cs :=
  h.grown hg (fun e => hm.ne_blk h (by cases e; rfl))
theorem map_set14 {w : World} {gm g : Nat} {f : Int → Option Value} {n : Nat} {k : TypeId} (h : MapI Tryd.prog w k gm n f) (hg : gm ≠ g) (b0 b1 b2 b3 b4 b5 b6 b7 b8 b9 b10 b11 b12 b13 : Value) : MapI Tryd.prog (set14 w g b0 b1 b2 b3 b4 b5 b6 b7 b8 b9 b10 b11 b12 b13) k gm n f := by
  unfold set14
  exact (((((((((((((h.far (by exact hg) _).far (by exact hg) _).far (by exact hg) _).far (by exact hg) _).far (by exact hg) _).far (by exact hg) _).far (by exact hg) _).far (by exact hg) _).far (by exact hg) _).far (by exact hg) _).far (by exact hg) _).far (by exact hg) _).far (by exact hg) _).far (by exact hg) _
theorem mgs_set14 {w : World} {g n : Nat} {A : Option Addr} {L : List Ms} {t : TypeId} {a0 a1 a2 a3 a4 a5 a6 a7 a8 a9 a10 a11 a12 a13 : Value} (h : Mgs w 0 A n (L.map fun M => (M, nilMA))) (k : Blk w g t #[a0, a1, a2, a3, a4, a5, a6, a7, a8, a9, a10, a11, a12, a13]) (hne : 32 ≠ t) (hs : ∀ M ∈ L, M.rs = [] ∧ M.vs = [] ∧ M.s.size = 0) (b0 b1 b2 b3 b4 b5 b6 b7 b8 b9 b10 b11 b12 b13 : Value) : Mgs (set14 w g b0 b1 b2 b3 b4 b5 b6 b7 b8 b9 b10 b11 b12 b13) 0 A n (L.map fun M => (M, nilMA)) := by
  refine ⟨set14_reads k b0 b1 b2 b3 b4 b5 b6 b7 b8 b9 b10 b11 b12 b13 (Nat.zero_le _) hne h.1, fun p hp => ?_⟩
  obtain ⟨M, hM, rfl⟩ := List.mem_map.1 hp
  obtain ⟨h1, h2, h3⟩ := hs M hM
  exact nilMA_ok h1 h2 h3
theorem voteL_nil (N : Nd) (M : Ms) : ∀ x ∈ voteL N M, x.rs = [] ∧ x.vs = [] ∧ x.s.size = 0 := by
  intro x hx
  unfold voteL at hx
  split at hx
  · rw [List.mem_singleton] at hx
    subst hx
    exact ⟨rfl, rfl, rfl⟩
  · cases hx
set_option maxRecDepth 100000 in
set_option maxHeartbeats 12800000 in
theorem LawOnce_any (N : Nd) (a : NdA) (A : Option Addr) (n c : Nat) (ms : List (Ms × MsA)) (w : World) {B : Nat} (hN : NdOk w B N a) (hMs : Mgs w B A n ms) (ht : Tab w) :
    Calls Tryd.prog 4 #[nodeV N a, .slice A n c] w fun e w' => e = .returned (.bool true) ∧ Below w.heap.size w w' := by
  have hmm := @run_makeMap Tryd.prog
  obtain ⟨z, hz⟩ : ∃ z, smallB N ⟨0, 0, 0, 0, false, 0, 0, [], 0, ⟨#[]⟩, []⟩ = z := ⟨_, rfl⟩
  obtain ⟨zr, hzr⟩ : ∃ z, rightN N = z := ⟨_, rfl⟩
  replace hz := hid_mk hz
  replace hzr := hid_mk hzr
  have hX := hid_mk (Blk.new w 30 #[.int .i64 N.id, .int .i64 N.h.t, .int .i64 N.h.v, .int .i64 N.h.l.base, .int .i64 N.h.l.bt, .slice a.R.A a.R.n a.R.c, .string N.h.s, .slice a.V.A a.V.n a.V.c, .int .i64 N.role, .int .i64 N.lead, .int .i64 N.timer, .int .i64 N.commit, .slice a.G.A a.G.n a.G.c, .slice a.P.A a.P.n a.P.c])
  unfold nodeV
  refine calls_of_wpQ Tryd.func4 rfl ?_
  intro Q hQ
  simp only [Tryd.ntmps4, List.size_toArray, List.length_cons, List.length_nil, Nat.reduceAdd, Nat.reduceSub, Array.replicate_succ, Array.replicate_zero, List.push_toArray, List.append_toArray, List.nil_append, List.cons_append]
  go_wp2_with fail
  refine (small_any N a ⟨0, 0, 0, 0, false, 0, 0, [], 0, ⟨#[]⟩, []⟩ nilMA _ (B := B) (hN.to (by go_grown)) (nilMA_ok rfl rfl rfl)).mono ?_
  rw [hz.out]
  rintro e w1 ⟨rfl, hb1⟩
  have q1 := (after (w := w) hb1 (by go_grown)).1
  replace hX := hid_mk (hX.out.keep (after hb1 (by go_grown)).1)
  have hb1 := (after hb1 (Below.refl _ _)).1
  have z1 := q1.size
  clear hb1
  cases z
  case false =>
    go_wp2_with fail
    refine (alive_any _ (ht.to (by go_grown))).mono ?_
    rintro e w2 ⟨rfl, hb1⟩
    have q2 := (after (w := w) hb1 (by go_grown)).1
    replace hX := hid_mk (hX.out.keep (after hb1 (by go_grown)).1)
    have hb2 := (after hb1 (Below.refl _ _)).1
    have z2 := q2.size
    clear hb1
    go_wp2
    refine ends_ret hQ (results_tmp rfl _ _ _) rfl ?_
    exact ⟨rfl, q2⟩
  go_wp2_with fail
  refine (alive_any _ (ht.to (by go_grown))).mono ?_
  rintro e w2 ⟨rfl, hb1⟩
  have q2 := (after (w := w) hb1 (by go_grown)).1
  replace hX := hid_mk (hX.out.keep (after hb1 (by go_grown)).1)
  have hb2 := (after hb1 (Below.refl _ _)).1
  have z2 := q2.size
  clear hb1
  obtain ⟨xl, x0, x1, x2, x3, x4, x5, x6, x7, x8, x9, x10, x11, x12, x13, xf0, xf1, xf2, xf3, xf4, xf5, xf6, xf7, xf8, xf9, xf10, xf11, xf12, xf13⟩ := blk14f hX.out
  go_wp2_with fail
  clear xl x0 x1 x2 x3 x4 x5 x6 x7 x8 x9 x10 x11 x12 x13 xf0 xf1 xf2 xf3 xf4 xf5 xf6 xf7 xf8 xf9 xf10 xf11 xf12 xf13
  refine (ERight_any N a _ (B := B) (hN.to (by go_grown)) (ht.to (by go_grown))).mono ?_
  rw [hzr.out]
  rintro e w3 ⟨rfl, hb1⟩
  have q3 := (after (w := w) hb1 (by go_grown)).1
  replace hX := hid_mk (hX.out.keep (after hb1 (by go_grown)).1)
  have hb3 := (after hb1 (Below.refl _ _)).1
  have z3 := q3.size
  clear hb1
  cases zr
  case false =>
    go_wp2_with fail
    refine (alive_any _ (ht.to (by go_grown))).mono ?_
    rintro e w4 ⟨rfl, hb1⟩
    have q4 := (after (w := w) hb1 (by go_grown)).1
    replace hX := hid_mk (hX.out.keep (after hb1 (by go_grown)).1)
    have hb4 := (after hb1 (Below.refl _ _)).1
    have z4 := q4.size
    clear hb1
    go_wp2
    refine ends_ret hQ (results_tmp rfl _ _ _) rfl ?_
    exact ⟨rfl, q4⟩
  obtain ⟨gm, hgm⟩ : ∃ g, w3.heap.size = g := ⟨_, rfl⟩
  have hgw : w.heap.size ≤ gm := by rw [← hgm]; exact q3.size
  have hM0 : Hid (MapI Tryd.prog (w3.alloc (.map #[] 0)) 3 gm 0 (fun _ => none)) := by rw [← hgm]; exact MapI.made w3 Tryd.prog 3
  have q5 : Below w.heap.size w (w3.alloc (.map #[] 0)) := q3.alloc q3.size _
  have hX0 := hid_mk (hX.out.alloc (.map #[] 0))
  replace hgm := hid_mk hgm
  replace hN := hid_mk hN
  clear hX hz hzr q1 q2 q3
  go_wp2
  rw [hgm.out]
  go_loopw [31] (fun i wr => ∃ (k : Nat) (Nk : Nd) (ak : NdA) (f : Int → Option Value) (nf : Nat), i = .int .i64 k ∧ k ≤ n ∧ Below w.heap.size w wr ∧ Hid (NdOk w B Nk ak) ∧ Hid (Blk wr w.heap.size 30 #[.int .i64 Nk.id, .int .i64 Nk.h.t, .int .i64 Nk.h.v, .int .i64 Nk.h.l.base, .int .i64 Nk.h.l.bt, .slice ak.R.A ak.R.n ak.R.c, .string Nk.h.s, .slice ak.V.A ak.V.n ak.V.c, .int .i64 Nk.role, .int .i64 Nk.lead, .int .i64 Nk.timer, .int .i64 Nk.commit, .slice ak.G.A ak.G.n ak.G.c, .slice ak.P.A ak.P.n ak.P.c]) ∧ Hid (MapI Tryd.prog wr 3 gm nf f) ∧ nf ≤ k ∧ Hid (InvO f Nk)) (fun i _ => n - (intOf i).toNat)
  case atStart => exact ⟨0, N, a, _, 0, rfl, Nat.zero_le _, q5, hN, hX0, hM0, Nat.le_refl _, hid_mk (inv_none N)⟩
  case round =>
    clear hX0 hM0 q5 hN
    obtain ⟨k, Nk, ak, f, nf, rfl, hk, hb, hNk, hX, hMap, hnf, hInv⟩ := hrel
    by_cases hlt : k < n
    case neg =>
      go_wp2
      refine ends_ret hQ (results_tmp rfl _ _ _) rfl ?_
      exact ⟨rfl, hb⟩
    obtain ⟨o', oo, p, rfl, hbb, hd, hok, c0, c1, c2, c3, c4, c5, c6, c7, c8, c9, c10⟩ := hMs.at_to hb hlt
    clear hd
    obtain ⟨M, b⟩ := p
    dsimp only at hok c0 c1 c2 c3 c4 c5 c6 c7 c8 c9 c10
    have hb2 : Below w.heap.size w (wr.alloc (.cells #[.int .i64 M.kind, .int .i64 M.fr, .int .i64 M.to, .int .i64 M.term, .bool M.ok, .int .i64 M.index, .int .i64 M.lterm, .slice b.R.A b.R.n b.R.c, .int .i64 M.commit, .string M.s, .slice b.V.A b.V.n b.V.c] 32)) := hb.alloc hb.size _
    by_cases h20 : 20 ≤ k
    case pos =>
      go_wp2
      refine ends_ret hQ (results_tmp rfl _ _ _) rfl ?_
      exact ⟨rfl, hb2⟩
    have hB : Hid (Blk (wr.alloc (.cells #[.int .i64 M.kind, .int .i64 M.fr, .int .i64 M.to, .int .i64 M.term, .bool M.ok, .int .i64 M.index, .int .i64 M.lterm, .slice b.R.A b.R.n b.R.c, .int .i64 M.commit, .string M.s, .slice b.V.A b.V.n b.V.c] 32)) wr.heap.size 32 #[.int .i64 M.kind, .int .i64 M.fr, .int .i64 M.to, .int .i64 M.term, .bool M.ok, .int .i64 M.index, .int .i64 M.lterm, .slice b.R.A b.R.n b.R.c, .int .i64 M.commit, .string M.s, .slice b.V.A b.V.n b.V.c]) := Blk.new _ _ _
    replace hX := hid_mk (hX.out.alloc (.cells #[.int .i64 M.kind, .int .i64 M.fr, .int .i64 M.to, .int .i64 M.term, .bool M.ok, .int .i64 M.index, .int .i64 M.lterm, .slice b.R.A b.R.n b.R.c, .int .i64 M.commit, .string M.s, .slice b.V.A b.V.n b.V.c] 32))
    replace hMap := hid_mk (hMap.out.alloc (.cells #[.int .i64 M.kind, .int .i64 M.fr, .int .i64 M.to, .int .i64 M.term, .bool M.ok, .int .i64 M.index, .int .i64 M.lterm, .slice b.R.A b.R.n b.R.c, .int .i64 M.commit, .string M.s, .slice b.V.A b.V.n b.V.c] 32))
    have hMk : Hid (MsOk w B M b) := hok
    obtain ⟨N1, hN1⟩ : ∃ z, laterN Nk M.term = z := ⟨_, rfl⟩
    obtain ⟨a1, ha1⟩ : ∃ z, laterA Nk M.term ak = z := ⟨_, rfl⟩
    obtain ⟨N2, hN2⟩ : ∃ z, voteN N1 M 5 = z := ⟨_, rfl⟩
    obtain ⟨L, hL⟩ : ∃ z, voteL N1 M = z := ⟨_, rfl⟩
    have hOk1 : Hid (NdOk w B N1 a1) := by rw [← hN1, ← ha1]; exact laterOk hNk.out M.term
    have hOk2 : Hid (NdOk w B N2 a1) := by rw [← hN2]; exact voteOk hOk1.out M 5
    have hI1 : Hid (InvO f N1) := by rw [← hN1]; exact inv_later hInv.out M.term
    have hid1 : Hid (N1.id = Nk.id) := by rw [← hN1]; exact later_id Nk M.term
    replace hN1 := hid_mk hN1
    replace ha1 := hid_mk ha1
    replace hN2 := hid_mk hN2
    replace hL := hid_mk hL
    have hwr := hb.size
    have hMs' := hid_mk hMs
    have hLs : Hid (∀ M ∈ L, M.rs = [] ∧ M.vs = [] ∧ M.s.size = 0) := by rw [← hL.out]; exact voteL_nil N1 M
    go_upto_region 8 with fail
    go_cut [8, 9] from 38 (fun p8 p9 wx => ∃ (g8 : Nat) (A9 : Option Addr) (n9 c9 : Nat), p8 = .pointer (some ⟨g8, 0, none⟩) ∧ p9 = .slice A9 n9 c9 ∧ ¬ g8 = w.heap.size ∧ ¬ g8 = wr.heap.size ∧ w.heap.size ≤ g8 ∧ Below w.heap.size w wx ∧ Hid (Blk wx w.heap.size 30 #[.int .i64 Nk.id, .int .i64 Nk.h.t, .int .i64 Nk.h.v, .int .i64 Nk.h.l.base, .int .i64 Nk.h.l.bt, .slice ak.R.A ak.R.n ak.R.c, .string Nk.h.s, .slice ak.V.A ak.V.n ak.V.c, .int .i64 Nk.role, .int .i64 Nk.lead, .int .i64 Nk.timer, .int .i64 Nk.commit, .slice ak.G.A ak.G.n ak.G.c, .slice ak.P.A ak.P.n ak.P.c]) ∧ Hid (Blk wx wr.heap.size 32 #[.int .i64 M.kind, .int .i64 M.fr, .int .i64 M.to, .int .i64 M.term, .bool M.ok, .int .i64 M.index, .int .i64 M.lterm, .slice b.R.A b.R.n b.R.c, .int .i64 M.commit, .string M.s, .slice b.V.A b.V.n b.V.c]) ∧ Hid (Blk wx g8 30 #[.int .i64 N2.id, .int .i64 N2.h.t, .int .i64 N2.h.v, .int .i64 N2.h.l.base, .int .i64 N2.h.l.bt, .slice a1.R.A a1.R.n a1.R.c, .string N2.h.s, .slice a1.V.A a1.V.n a1.V.c, .int .i64 N2.role, .int .i64 N2.lead, .int .i64 N2.timer, .int .i64 N2.commit, .slice a1.G.A a1.G.n a1.G.c, .slice a1.P.A a1.P.n a1.P.c]) ∧ Hid (Mgs wx 0 A9 n9 (L.map fun M => (M, nilMA))) ∧ Hid (MapI Tryd.prog wx 3 gm nf f))
    case first =>
      refine wp_region_T' (fun w' => (w'.cell? ⟨w.heap.size, 0, none⟩ = some (.int .i64 Nk.id) ∧ w'.cell? ⟨w.heap.size, 1, none⟩ = some (.int .i64 Nk.h.t) ∧ w'.cell? ⟨w.heap.size, 2, none⟩ = some (.int .i64 Nk.h.v) ∧ w'.cell? ⟨w.heap.size, 3, none⟩ = some (.int .i64 Nk.h.l.base) ∧ w'.cell? ⟨w.heap.size, 4, none⟩ = some (.int .i64 Nk.h.l.bt) ∧ w'.cell? ⟨w.heap.size, 5, none⟩ = some (.slice ak.R.A ak.R.n ak.R.c) ∧ w'.cell? ⟨w.heap.size, 6, none⟩ = some (.string Nk.h.s) ∧ w'.cell? ⟨w.heap.size, 7, none⟩ = some (.slice ak.V.A ak.V.n ak.V.c) ∧ w'.cell? ⟨w.heap.size, 8, none⟩ = some (.int .i64 Nk.role) ∧ w'.cell? ⟨w.heap.size, 9, none⟩ = some (.int .i64 Nk.lead) ∧ w'.cell? ⟨w.heap.size, 10, none⟩ = some (.int .i64 Nk.timer) ∧ w'.cell? ⟨w.heap.size, 11, none⟩ = some (.int .i64 Nk.commit) ∧ w'.cell? ⟨w.heap.size, 12, none⟩ = some (.slice ak.G.A ak.G.n ak.G.c) ∧ w'.cell? ⟨w.heap.size, 13, none⟩ = some (.slice ak.P.A ak.P.n ak.P.c)) ∧ (w'.cell? ⟨wr.heap.size, 0, none⟩ = some (.int .i64 M.kind) ∧ w'.cell? ⟨wr.heap.size, 1, none⟩ = some (.int .i64 M.fr) ∧ w'.cell? ⟨wr.heap.size, 2, none⟩ = some (.int .i64 M.to) ∧ w'.cell? ⟨wr.heap.size, 3, none⟩ = some (.int .i64 M.term) ∧ w'.cell? ⟨wr.heap.size, 4, none⟩ = some (.bool M.ok) ∧ w'.cell? ⟨wr.heap.size, 5, none⟩ = some (.int .i64 M.index) ∧ w'.cell? ⟨wr.heap.size, 6, none⟩ = some (.int .i64 M.lterm) ∧ w'.cell? ⟨wr.heap.size, 7, none⟩ = some (.slice b.R.A b.R.n b.R.c) ∧ w'.cell? ⟨wr.heap.size, 8, none⟩ = some (.int .i64 M.commit) ∧ w'.cell? ⟨wr.heap.size, 9, none⟩ = some (.string M.s) ∧ w'.cell? ⟨wr.heap.size, 10, none⟩ = some (.slice b.V.A b.V.n b.V.c))) (fun j => decide (j < 12)) 12 (by kernel_rfl) (by kernel_rfl) (by exact ⟨(blk14c hX.out).2, (blk11v hB.out).2⟩) (fun hS0 => ?_)
      refine wpAnyT_take (i := 0) rfl (by kernel_rfl) (by kernel_rfl) (by kernel_rfl) rfl (by kernel_rfl) (fun _ _ _ h => h) (by kernel_rfl) (fun w' hS => (by obtain ⟨⟨s0, s1, s2, s3, s4, s5, s6, s7, s8, s9, s10, s11, s12, s13⟩, ⟨r0, r1, r2, r3, r4, r5, r6, r7, r8, r9, r10⟩⟩ := hS; go_simp; try with_reducible rfl)) hS0 ?_
      simp only [Act.put]
      refine wpAnyT_take (i := 1) rfl (by kernel_rfl) (by kernel_rfl) (by kernel_rfl) rfl (by kernel_rfl) (fun _ _ _ h => h) (by kernel_rfl) (fun w' hS => (by obtain ⟨⟨s0, s1, s2, s3, s4, s5, s6, s7, s8, s9, s10, s11, s12, s13⟩, ⟨r0, r1, r2, r3, r4, r5, r6, r7, r8, r9, r10⟩⟩ := hS; go_simp; try with_reducible rfl)) hS0 ?_
      simp only [Act.put]
      refine wpAnyT_take (i := 2) rfl (by kernel_rfl) (by kernel_rfl) (by kernel_rfl) rfl (by kernel_rfl) (fun _ _ _ h => h) (by kernel_rfl) (fun w' hS => (by obtain ⟨⟨s0, s1, s2, s3, s4, s5, s6, s7, s8, s9, s10, s11, s12, s13⟩, ⟨r0, r1, r2, r3, r4, r5, r6, r7, r8, r9, r10⟩⟩ := hS; go_simp; try with_reducible rfl)) hS0 ?_
      simp only [Act.put]
      refine wpAnyT_take (i := 4) rfl (by kernel_rfl) (by kernel_rfl) (by kernel_rfl) rfl (by kernel_rfl) (fun _ _ _ h => h) (by kernel_rfl) (fun w' hS => (by obtain ⟨⟨s0, s1, s2, s3, s4, s5, s6, s7, s8, s9, s10, s11, s12, s13⟩, ⟨r0, r1, r2, r3, r4, r5, r6, r7, r8, r9, r10⟩⟩ := hS; go_simp; try with_reducible rfl)) hS0 ?_
      simp only [Act.put]
      refine wpAnyT_two (i := 3) (j := 9) (by kernel_rfl) rfl rfl (fun K hK => ?_) (fun K hK => ?_)
      · skip
        -- refine wpAnyT_one (i := 3) (by kernel_rfl) rfl (fun K hK => ?_)
        go_simp
        refine (Later_any Nk ak M.term _ (B := B) (hNk.out.to (by go_grown)) (ht.to (by go_grown))).mono ?_
        rw [hN1.out, ha1.out]
        rintro e w4 ⟨rfl, hb1⟩
        have q4 := (after (w := w) hb1 (by go_grown)).1
        replace hX := hid_mk (hX.out.keep (after hb1 (by go_grown)).1)
        replace hB := hid_mk (hB.out.keep (after hb1 (by go_grown)).1)
        replace hMap := hid_mk (hMap.out.to (after hb1 (by go_grown)).1)
        have hb4 := (after hb1 (Below.refl _ _)).1
        have z4 := q4.size
        clear hb1
        unfold nodeV
        refine hK.out _ _ (fun _ => ⟨(blk14c hX.out).2, (blk11v hB.out).2⟩) ?_
        clear hK K
        try simp only [Act.put]
        refine wpAnyT_two (i := 5) (j := 9) (by kernel_rfl) rfl rfl (fun K hK => ?_) (fun K hK => ?_)
        · skip
          -- refine wpAnyT_one (i := 5) (by kernel_rfl) rfl (fun K hK => ?_)
          go_simp
          refine (Vote_any N1 a1 M b 5 _ (B := B) (hOk1.out.to (by go_grown)) (hMk.out.to (by go_grown)) (ht.to (by go_grown))).mono ?_
          rw [hN2.out, hL.out]
          rintro e w5 ⟨⟨A9, n9, c9, rfl, hL9, hc9⟩, hb1⟩
          have q5 := (after (w := w) hb1 (by go_grown)).1
          replace hX := hid_mk (hX.out.keep (after hb1 (by go_grown)).1)
          replace hB := hid_mk (hB.out.keep (after hb1 (by go_grown)).1)
          replace hMap := hid_mk (hMap.out.to (after hb1 (by go_grown)).1)
          have hb5 := (after hb1 (Below.refl _ _)).1
          have z5 := q5.size
          clear hb1
          have hL9 := hid_mk hL9
          unfold nodeV
          have hX5 := hX
          have hB5 := hB
          have hMap5 := hMap
          have hL5 := hL9
          refine hK.out _ _ (fun _ => ⟨(blk14c hX.out).2, (blk11v hB.out).2⟩) ?_
          clear hK K
          try simp only [Act.put]
          refine wpAnyT_take (i := 6) rfl (by kernel_rfl) (by kernel_rfl) (by kernel_rfl) rfl (by kernel_rfl) (fun _ _ _ h => h) (by kernel_rfl) (fun w' hS => (by obtain ⟨⟨s0, s1, s2, s3, s4, s5, s6, s7, s8, s9, s10, s11, s12, s13⟩, ⟨r0, r1, r2, r3, r4, r5, r6, r7, r8, r9, r10⟩⟩ := hS; go_simp; try with_reducible rfl)) ⟨(blk14c hX.out).2, (blk11v hB.out).2⟩ ?_
          simp only [Act.put]
          refine wpAnyT_take (i := 7) rfl (by kernel_rfl) (by kernel_rfl) (by kernel_rfl) rfl (by kernel_rfl) (fun _ _ _ h => h) (by kernel_rfl) (fun w' hS => (by obtain ⟨⟨s0, s1, s2, s3, s4, s5, s6, s7, s8, s9, s10, s11, s12, s13⟩, ⟨r0, r1, r2, r3, r4, r5, r6, r7, r8, r9, r10⟩⟩ := hS; go_simp; try with_reducible rfl)) ⟨(blk14c hX.out).2, (blk11v hB.out).2⟩ ?_
          simp only [Act.put]
          refine wpAnyT_take (i := 8) rfl (by kernel_rfl) (by kernel_rfl) (by kernel_rfl) rfl (by kernel_rfl) (fun _ _ _ h => h) (by kernel_rfl) (fun w' hS => (by obtain ⟨⟨s0, s1, s2, s3, s4, s5, s6, s7, s8, s9, s10, s11, s12, s13⟩, ⟨r0, r1, r2, r3, r4, r5, r6, r7, r8, r9, r10⟩⟩ := hS; go_simp; try with_reducible rfl)) ⟨(blk14c hX.out).2, (blk11v hB.out).2⟩ ?_
          simp only [Act.put]
          refine wpAnyT_one (i := 9) (by kernel_rfl) rfl (fun K hK => ?_)
          go_simp
          obtain ⟨g8, hg8⟩ : ∃ g, w5.heap.size = g := ⟨_, rfl⟩
          have hY : Hid (Blk (w5.alloc (.cells #[.int .i64 0, .int .i64 0, .int .i64 0, .int .i64 0, .int .i64 0, .slice none 0 0, .string ⟨#[]⟩, .slice none 0 0, .int .i64 0, .int .i64 0, .int .i64 0, .int .i64 0, .slice none 0 0, .slice none 0 0] 30)) g8 30 #[.int .i64 0, .int .i64 0, .int .i64 0, .int .i64 0, .int .i64 0, .slice none 0 0, .string ⟨#[]⟩, .slice none 0 0, .int .i64 0, .int .i64 0, .int .i64 0, .int .i64 0, .slice none 0 0, .slice none 0 0]) := by rw [← hg8]; exact Blk.new_ (by simp)
          replace hX := hid_mk (hX.out.alloc (.cells #[.int .i64 0, .int .i64 0, .int .i64 0, .int .i64 0, .int .i64 0, .slice none 0 0, .string ⟨#[]⟩, .slice none 0 0, .int .i64 0, .int .i64 0, .int .i64 0, .int .i64 0, .slice none 0 0, .slice none 0 0] 30))
          replace hB := hid_mk (hB.out.alloc (.cells #[.int .i64 0, .int .i64 0, .int .i64 0, .int .i64 0, .int .i64 0, .slice none 0 0, .string ⟨#[]⟩, .slice none 0 0, .int .i64 0, .int .i64 0, .int .i64 0, .int .i64 0, .slice none 0 0, .slice none 0 0] 30))
          replace hMap := hid_mk (hMap.out.alloc (.cells #[.int .i64 0, .int .i64 0, .int .i64 0, .int .i64 0, .int .i64 0, .slice none 0 0, .string ⟨#[]⟩, .slice none 0 0, .int .i64 0, .int .i64 0, .int .i64 0, .int .i64 0, .slice none 0 0, .slice none 0 0] 30))
          have d8 : ¬ g8 = w.heap.size := by have s5 := hb5.size; have s4 := hb4.size; (try simp at s5); (try simp at s4); omega
          have d9 : ¬ g8 = wr.heap.size := by have s5 := hb5.size; have s4 := hb4.size; (try simp at s5); (try simp at s4); omega
          have d7 : w.heap.size ≤ g8 := by have s5 := hb5.size; have s4 := hb4.size; (try simp at s5); (try simp at s4); omega
          rw [hg8]
          replace hg8 := hid_mk hg8
          replace hL9 := hid_mk (hL9.out.to ((Below.refl _ w5).alloc (Nat.le_refl _) (.cells #[.int .i64 0, .int .i64 0, .int .i64 0, .int .i64 0, .int .i64 0, .slice none 0 0, .string ⟨#[]⟩, .slice none 0 0, .int .i64 0, .int .i64 0, .int .i64 0, .int .i64 0, .slice none 0 0, .slice none 0 0] 30)))
          refine hK.out _ _ (fun _ => ⟨(blk14c hX.out).2, (blk11v hB.out).2⟩) ?_
          clear hK K
          try simp only [Act.put]
          obtain ⟨yl, y0, y1, y2, y3, y4, y5, y6, y7, y8, y9, y10, y11, y12, y13, yf0, yf1, yf2, yf3, yf4, yf5, yf6, yf7, yf8, yf9, yf10, yf11, yf12, yf13⟩ := blk14f hY.out
          refine wpAnyT_one (i := 10) (by kernel_rfl) rfl (fun K hK => ?_)
          go_simp
          clear yl y0 y1 y2 y3 y4 y5 y6 y7 y8 y9 y10 y11 y12 y13 yf0 yf1 yf2 yf3 yf4 yf5 yf6 yf7 yf8 yf9 yf10 yf11 yf12 yf13
          replace hX := hid_mk (set14_far hX.out (fun e => d8 e.symm) (.int .i64 N2.id) (.int .i64 N2.h.t) (.int .i64 N2.h.v) (.int .i64 N2.h.l.base) (.int .i64 N2.h.l.bt) (.slice a1.R.A a1.R.n a1.R.c) (.string N2.h.s) (.slice a1.V.A a1.V.n a1.V.c) (.int .i64 N2.role) (.int .i64 N2.lead) (.int .i64 N2.timer) (.int .i64 N2.commit) (.slice a1.G.A a1.G.n a1.G.c) (.slice a1.P.A a1.P.n a1.P.c))
          replace hB := hid_mk (set14_far hB.out (fun e => d9 e.symm) (.int .i64 N2.id) (.int .i64 N2.h.t) (.int .i64 N2.h.v) (.int .i64 N2.h.l.base) (.int .i64 N2.h.l.bt) (.slice a1.R.A a1.R.n a1.R.c) (.string N2.h.s) (.slice a1.V.A a1.V.n a1.V.c) (.int .i64 N2.role) (.int .i64 N2.lead) (.int .i64 N2.timer) (.int .i64 N2.commit) (.slice a1.G.A a1.G.n a1.G.c) (.slice a1.P.A a1.P.n a1.P.c))
          replace hMap := hid_mk (map_set14 hMap.out (hMap.out.ne_blk hY.out) (.int .i64 N2.id) (.int .i64 N2.h.t) (.int .i64 N2.h.v) (.int .i64 N2.h.l.base) (.int .i64 N2.h.l.bt) (.slice a1.R.A a1.R.n a1.R.c) (.string N2.h.s) (.slice a1.V.A a1.V.n a1.V.c) (.int .i64 N2.role) (.int .i64 N2.lead) (.int .i64 N2.timer) (.int .i64 N2.commit) (.slice a1.G.A a1.G.n a1.G.c) (.slice a1.P.A a1.P.n a1.P.c))
          replace hL9 := hid_mk (mgs_set14 hL9.out hY.out (by decide) hLs.out (.int .i64 N2.id) (.int .i64 N2.h.t) (.int .i64 N2.h.v) (.int .i64 N2.h.l.base) (.int .i64 N2.h.l.bt) (.slice a1.R.A a1.R.n a1.R.c) (.string N2.h.s) (.slice a1.V.A a1.V.n a1.V.c) (.int .i64 N2.role) (.int .i64 N2.lead) (.int .i64 N2.timer) (.int .i64 N2.commit) (.slice a1.G.A a1.G.n a1.G.c) (.slice a1.P.A a1.P.n a1.P.c))
          replace hY := hid_mk (set14_blk hY.out (.int .i64 N2.id) (.int .i64 N2.h.t) (.int .i64 N2.h.v) (.int .i64 N2.h.l.base) (.int .i64 N2.h.l.bt) (.slice a1.R.A a1.R.n a1.R.c) (.string N2.h.s) (.slice a1.V.A a1.V.n a1.V.c) (.int .i64 N2.role) (.int .i64 N2.lead) (.int .i64 N2.timer) (.int .i64 N2.commit) (.slice a1.G.A a1.G.n a1.G.c) (.slice a1.P.A a1.P.n a1.P.c))
          have qz := set14_below (.int .i64 N2.id) (.int .i64 N2.h.t) (.int .i64 N2.h.v) (.int .i64 N2.h.l.base) (.int .i64 N2.h.l.bt) (.slice a1.R.A a1.R.n a1.R.c) (.string N2.h.s) (.slice a1.V.A a1.V.n a1.V.c) (.int .i64 N2.role) (.int .i64 N2.lead) (.int .i64 N2.timer) (.int .i64 N2.commit) (.slice a1.G.A a1.G.n a1.G.c) (.slice a1.P.A a1.P.n a1.P.c) (q5.alloc q5.size (.cells #[.int .i64 0, .int .i64 0, .int .i64 0, .int .i64 0, .int .i64 0, .slice none 0 0, .string ⟨#[]⟩, .slice none 0 0, .int .i64 0, .int .i64 0, .int .i64 0, .int .i64 0, .slice none 0 0, .slice none 0 0] 30)) d7
          obtain ⟨wz, hwz⟩ : ∃ wz, set14 (w5.alloc (.cells #[.int .i64 0, .int .i64 0, .int .i64 0, .int .i64 0, .int .i64 0, .slice none 0 0, .string ⟨#[]⟩, .slice none 0 0, .int .i64 0, .int .i64 0, .int .i64 0, .int .i64 0, .slice none 0 0, .slice none 0 0] 30)) g8 (.int .i64 N2.id) (.int .i64 N2.h.t) (.int .i64 N2.h.v) (.int .i64 N2.h.l.base) (.int .i64 N2.h.l.bt) (.slice a1.R.A a1.R.n a1.R.c) (.string N2.h.s) (.slice a1.V.A a1.V.n a1.V.c) (.int .i64 N2.role) (.int .i64 N2.lead) (.int .i64 N2.timer) (.int .i64 N2.commit) (.slice a1.G.A a1.G.n a1.G.c) (.slice a1.P.A a1.P.n a1.P.c) = wz := ⟨_, rfl⟩
          rw [hwz] at hX hB hMap hL9 hY qz
          unfold set14 at hwz
          rw [hwz]
          clear hwz
          refine hK.out _ _ (fun _ => ⟨(blk14c hX.out).2, (blk11v hB.out).2⟩) ?_
          clear hK K
          try simp only [Act.put]
          refine wpAnyT_one (i := 11) (by kernel_rfl) rfl (fun K hK => ?_)
          go_simp
          refine hK.out _ _ (fun _ => ⟨(blk14c hX.out).2, (blk11v hB.out).2⟩) ?_
          clear hK K
          try simp only [Act.put]
          refine wpAnyT_done (by kernel_rfl) ?_ _
          go_wp2_with fail
          go_meet
          exact ⟨g8, A9, n9, c9, rfl, rfl, d8, d9, d7, qz, hX, hB, hY, hL9, hMap⟩
        · skip
          -- refine wpAnyT_one (i := 9) (by kernel_rfl) rfl (fun K hK => ?_)
          go_simp
          obtain ⟨g8, hg8⟩ : ∃ g, w4.heap.size = g := ⟨_, rfl⟩
          have hY : Hid (Blk (w4.alloc (.cells #[.int .i64 0, .int .i64 0, .int .i64 0, .int .i64 0, .int .i64 0, .slice none 0 0, .string ⟨#[]⟩, .slice none 0 0, .int .i64 0, .int .i64 0, .int .i64 0, .int .i64 0, .slice none 0 0, .slice none 0 0] 30)) g8 30 #[.int .i64 0, .int .i64 0, .int .i64 0, .int .i64 0, .int .i64 0, .slice none 0 0, .string ⟨#[]⟩, .slice none 0 0, .int .i64 0, .int .i64 0, .int .i64 0, .int .i64 0, .slice none 0 0, .slice none 0 0]) := by rw [← hg8]; exact Blk.new_ (by simp)
          replace hX := hid_mk (hX.out.alloc (.cells #[.int .i64 0, .int .i64 0, .int .i64 0, .int .i64 0, .int .i64 0, .slice none 0 0, .string ⟨#[]⟩, .slice none 0 0, .int .i64 0, .int .i64 0, .int .i64 0, .int .i64 0, .slice none 0 0, .slice none 0 0] 30))
          replace hB := hid_mk (hB.out.alloc (.cells #[.int .i64 0, .int .i64 0, .int .i64 0, .int .i64 0, .int .i64 0, .slice none 0 0, .string ⟨#[]⟩, .slice none 0 0, .int .i64 0, .int .i64 0, .int .i64 0, .int .i64 0, .slice none 0 0, .slice none 0 0] 30))
          replace hMap := hid_mk (hMap.out.alloc (.cells #[.int .i64 0, .int .i64 0, .int .i64 0, .int .i64 0, .int .i64 0, .slice none 0 0, .string ⟨#[]⟩, .slice none 0 0, .int .i64 0, .int .i64 0, .int .i64 0, .int .i64 0, .slice none 0 0, .slice none 0 0] 30))
          have d8 : ¬ g8 = w.heap.size := by have s4 := hb4.size; (try simp at s4); omega
          have d9 : ¬ g8 = wr.heap.size := by have s4 := hb4.size; (try simp at s4); omega
          have d7 : w.heap.size ≤ g8 := by have s4 := hb4.size; (try simp at s4); omega
          rw [hg8]
          replace hg8 := hid_mk hg8
          refine hK.out _ _ (fun _ => ⟨(blk14c hX.out).2, (blk11v hB.out).2⟩) ?_
          clear hK K
          try simp only [Act.put]
          refine wpAnyT_one (i := 5) (by kernel_rfl) rfl (fun K hK => ?_)
          go_simp
          refine (Vote_any N1 a1 M b 5 _ (B := B) (hOk1.out.to (by go_grown)) (hMk.out.to (by go_grown)) (ht.to (by go_grown))).mono ?_
          rw [hN2.out, hL.out]
          rintro e w5 ⟨⟨A9, n9, c9, rfl, hL9, hc9⟩, hb1⟩
          have q5 := (after (w := w) hb1 (by go_grown)).1
          replace hX := hid_mk (hX.out.keep (after hb1 (by go_grown)).1)
          replace hB := hid_mk (hB.out.keep (after hb1 (by go_grown)).1)
          replace hMap := hid_mk (hMap.out.to (after hb1 (by go_grown)).1)
          replace hY := hid_mk (hY.out.keep (after hb1 (by go_grown)).1)
          have hb5 := (after hb1 (Below.refl _ _)).1
          have z5 := q5.size
          clear hb1
          have hL9 := hid_mk hL9
          unfold nodeV
          refine hK.out _ _ (fun _ => ⟨(blk14c hX.out).2, (blk11v hB.out).2⟩) ?_
          clear hK K
          try simp only [Act.put]
          refine wpAnyT_take (i := 6) rfl (by kernel_rfl) (by kernel_rfl) (by kernel_rfl) rfl (by kernel_rfl) (fun _ _ _ h => h) (by kernel_rfl) (fun w' hS => (by obtain ⟨⟨s0, s1, s2, s3, s4, s5, s6, s7, s8, s9, s10, s11, s12, s13⟩, ⟨r0, r1, r2, r3, r4, r5, r6, r7, r8, r9, r10⟩⟩ := hS; go_simp; try with_reducible rfl)) ⟨(blk14c hX.out).2, (blk11v hB.out).2⟩ ?_
          simp only [Act.put]
          refine wpAnyT_take (i := 7) rfl (by kernel_rfl) (by kernel_rfl) (by kernel_rfl) rfl (by kernel_rfl) (fun _ _ _ h => h) (by kernel_rfl) (fun w' hS => (by obtain ⟨⟨s0, s1, s2, s3, s4, s5, s6, s7, s8, s9, s10, s11, s12, s13⟩, ⟨r0, r1, r2, r3, r4, r5, r6, r7, r8, r9, r10⟩⟩ := hS; go_simp; try with_reducible rfl)) ⟨(blk14c hX.out).2, (blk11v hB.out).2⟩ ?_
          simp only [Act.put]
          refine wpAnyT_take (i := 8) rfl (by kernel_rfl) (by kernel_rfl) (by kernel_rfl) rfl (by kernel_rfl) (fun _ _ _ h => h) (by kernel_rfl) (fun w' hS => (by obtain ⟨⟨s0, s1, s2, s3, s4, s5, s6, s7, s8, s9, s10, s11, s12, s13⟩, ⟨r0, r1, r2, r3, r4, r5, r6, r7, r8, r9, r10⟩⟩ := hS; go_simp; try with_reducible rfl)) ⟨(blk14c hX.out).2, (blk11v hB.out).2⟩ ?_
          simp only [Act.put]
          obtain ⟨yl, y0, y1, y2, y3, y4, y5, y6, y7, y8, y9, y10, y11, y12, y13, yf0, yf1, yf2, yf3, yf4, yf5, yf6, yf7, yf8, yf9, yf10, yf11, yf12, yf13⟩ := blk14f hY.out
          refine wpAnyT_one (i := 10) (by kernel_rfl) rfl (fun K hK => ?_)
          go_simp
          clear yl y0 y1 y2 y3 y4 y5 y6 y7 y8 y9 y10 y11 y12 y13 yf0 yf1 yf2 yf3 yf4 yf5 yf6 yf7 yf8 yf9 yf10 yf11 yf12 yf13
          replace hX := hid_mk (set14_far hX.out (fun e => d8 e.symm) (.int .i64 N2.id) (.int .i64 N2.h.t) (.int .i64 N2.h.v) (.int .i64 N2.h.l.base) (.int .i64 N2.h.l.bt) (.slice a1.R.A a1.R.n a1.R.c) (.string N2.h.s) (.slice a1.V.A a1.V.n a1.V.c) (.int .i64 N2.role) (.int .i64 N2.lead) (.int .i64 N2.timer) (.int .i64 N2.commit) (.slice a1.G.A a1.G.n a1.G.c) (.slice a1.P.A a1.P.n a1.P.c))
          replace hB := hid_mk (set14_far hB.out (fun e => d9 e.symm) (.int .i64 N2.id) (.int .i64 N2.h.t) (.int .i64 N2.h.v) (.int .i64 N2.h.l.base) (.int .i64 N2.h.l.bt) (.slice a1.R.A a1.R.n a1.R.c) (.string N2.h.s) (.slice a1.V.A a1.V.n a1.V.c) (.int .i64 N2.role) (.int .i64 N2.lead) (.int .i64 N2.timer) (.int .i64 N2.commit) (.slice a1.G.A a1.G.n a1.G.c) (.slice a1.P.A a1.P.n a1.P.c))
          replace hMap := hid_mk (map_set14 hMap.out (hMap.out.ne_blk hY.out) (.int .i64 N2.id) (.int .i64 N2.h.t) (.int .i64 N2.h.v) (.int .i64 N2.h.l.base) (.int .i64 N2.h.l.bt) (.slice a1.R.A a1.R.n a1.R.c) (.string N2.h.s) (.slice a1.V.A a1.V.n a1.V.c) (.int .i64 N2.role) (.int .i64 N2.lead) (.int .i64 N2.timer) (.int .i64 N2.commit) (.slice a1.G.A a1.G.n a1.G.c) (.slice a1.P.A a1.P.n a1.P.c))
          replace hL9 := hid_mk (mgs_set14 hL9.out hY.out (by decide) hLs.out (.int .i64 N2.id) (.int .i64 N2.h.t) (.int .i64 N2.h.v) (.int .i64 N2.h.l.base) (.int .i64 N2.h.l.bt) (.slice a1.R.A a1.R.n a1.R.c) (.string N2.h.s) (.slice a1.V.A a1.V.n a1.V.c) (.int .i64 N2.role) (.int .i64 N2.lead) (.int .i64 N2.timer) (.int .i64 N2.commit) (.slice a1.G.A a1.G.n a1.G.c) (.slice a1.P.A a1.P.n a1.P.c))
          replace hY := hid_mk (set14_blk hY.out (.int .i64 N2.id) (.int .i64 N2.h.t) (.int .i64 N2.h.v) (.int .i64 N2.h.l.base) (.int .i64 N2.h.l.bt) (.slice a1.R.A a1.R.n a1.R.c) (.string N2.h.s) (.slice a1.V.A a1.V.n a1.V.c) (.int .i64 N2.role) (.int .i64 N2.lead) (.int .i64 N2.timer) (.int .i64 N2.commit) (.slice a1.G.A a1.G.n a1.G.c) (.slice a1.P.A a1.P.n a1.P.c))
          have qz := set14_below (.int .i64 N2.id) (.int .i64 N2.h.t) (.int .i64 N2.h.v) (.int .i64 N2.h.l.base) (.int .i64 N2.h.l.bt) (.slice a1.R.A a1.R.n a1.R.c) (.string N2.h.s) (.slice a1.V.A a1.V.n a1.V.c) (.int .i64 N2.role) (.int .i64 N2.lead) (.int .i64 N2.timer) (.int .i64 N2.commit) (.slice a1.G.A a1.G.n a1.G.c) (.slice a1.P.A a1.P.n a1.P.c) q5 d7
          obtain ⟨wz, hwz⟩ : ∃ wz, set14 w5 g8 (.int .i64 N2.id) (.int .i64 N2.h.t) (.int .i64 N2.h.v) (.int .i64 N2.h.l.base) (.int .i64 N2.h.l.bt) (.slice a1.R.A a1.R.n a1.R.c) (.string N2.h.s) (.slice a1.V.A a1.V.n a1.V.c) (.int .i64 N2.role) (.int .i64 N2.lead) (.int .i64 N2.timer) (.int .i64 N2.commit) (.slice a1.G.A a1.G.n a1.G.c) (.slice a1.P.A a1.P.n a1.P.c) = wz := ⟨_, rfl⟩
          rw [hwz] at hX hB hMap hL9 hY qz
          unfold set14 at hwz
          rw [hwz]
          clear hwz
          refine hK.out _ _ (fun _ => ⟨(blk14c hX.out).2, (blk11v hB.out).2⟩) ?_
          clear hK K
          try simp only [Act.put]
          refine wpAnyT_one (i := 11) (by kernel_rfl) rfl (fun K hK => ?_)
          go_simp
          refine hK.out _ _ (fun _ => ⟨(blk14c hX.out).2, (blk11v hB.out).2⟩) ?_
          clear hK K
          try simp only [Act.put]
          refine wpAnyT_done (by kernel_rfl) ?_ _
          go_wp2_with fail
          go_meet
          exact ⟨g8, A9, n9, c9, rfl, rfl, d8, d9, d7, qz, hX, hB, hY, hL9, hMap⟩
      · skip
        -- refine wpAnyT_one (i := 9) (by kernel_rfl) rfl (fun K hK => ?_)
        go_simp
        obtain ⟨g8, hg8⟩ : ∃ g, wr.heap.size + 1 = g := ⟨_, rfl⟩
        have hY : Hid (Blk ((wr.alloc (.cells #[.int .i64 M.kind, .int .i64 M.fr, .int .i64 M.to, .int .i64 M.term, .bool M.ok, .int .i64 M.index, .int .i64 M.lterm, .slice b.R.A b.R.n b.R.c, .int .i64 M.commit, .string M.s, .slice b.V.A b.V.n b.V.c] 32)).alloc (.cells #[.int .i64 0, .int .i64 0, .int .i64 0, .int .i64 0, .int .i64 0, .slice none 0 0, .string ⟨#[]⟩, .slice none 0 0, .int .i64 0, .int .i64 0, .int .i64 0, .int .i64 0, .slice none 0 0, .slice none 0 0] 30)) g8 30 #[.int .i64 0, .int .i64 0, .int .i64 0, .int .i64 0, .int .i64 0, .slice none 0 0, .string ⟨#[]⟩, .slice none 0 0, .int .i64 0, .int .i64 0, .int .i64 0, .int .i64 0, .slice none 0 0, .slice none 0 0]) := by rw [← hg8]; exact Blk.new_ (by simp)
        replace hX := hid_mk (hX.out.alloc (.cells #[.int .i64 0, .int .i64 0, .int .i64 0, .int .i64 0, .int .i64 0, .slice none 0 0, .string ⟨#[]⟩, .slice none 0 0, .int .i64 0, .int .i64 0, .int .i64 0, .int .i64 0, .slice none 0 0, .slice none 0 0] 30))
        replace hB := hid_mk (hB.out.alloc (.cells #[.int .i64 0, .int .i64 0, .int .i64 0, .int .i64 0, .int .i64 0, .slice none 0 0, .string ⟨#[]⟩, .slice none 0 0, .int .i64 0, .int .i64 0, .int .i64 0, .int .i64 0, .slice none 0 0, .slice none 0 0] 30))
        replace hMap := hid_mk (hMap.out.alloc (.cells #[.int .i64 0, .int .i64 0, .int .i64 0, .int .i64 0, .int .i64 0, .slice none 0 0, .string ⟨#[]⟩, .slice none 0 0, .int .i64 0, .int .i64 0, .int .i64 0, .int .i64 0, .slice none 0 0, .slice none 0 0] 30))
        have d8 : ¬ g8 = w.heap.size := by omega
        have d9 : ¬ g8 = wr.heap.size := by omega
        have d7 : w.heap.size ≤ g8 := by omega
        rw [hg8]
        replace hg8 := hid_mk hg8
        refine hK.out _ _ (fun _ => ⟨(blk14c hX.out).2, (blk11v hB.out).2⟩) ?_
        clear hK K
        try simp only [Act.put]
        refine wpAnyT_one (i := 3) (by kernel_rfl) rfl (fun K hK => ?_)
        go_simp
        refine (Later_any Nk ak M.term _ (B := B) (hNk.out.to (by go_grown)) (ht.to (by go_grown))).mono ?_
        rw [hN1.out, ha1.out]
        rintro e w4 ⟨rfl, hb1⟩
        have q4 := (after (w := w) hb1 (by go_grown)).1
        replace hX := hid_mk (hX.out.keep (after hb1 (by go_grown)).1)
        replace hB := hid_mk (hB.out.keep (after hb1 (by go_grown)).1)
        replace hMap := hid_mk (hMap.out.to (after hb1 (by go_grown)).1)
        replace hY := hid_mk (hY.out.keep (after hb1 (by go_grown)).1)
        have hb4 := (after hb1 (Below.refl _ _)).1
        have z4 := q4.size
        clear hb1
        unfold nodeV
        refine hK.out _ _ (fun _ => ⟨(blk14c hX.out).2, (blk11v hB.out).2⟩) ?_
        clear hK K
        try simp only [Act.put]
        refine wpAnyT_one (i := 5) (by kernel_rfl) rfl (fun K hK => ?_)
        go_simp
        refine (Vote_any N1 a1 M b 5 _ (B := B) (hOk1.out.to (by go_grown)) (hMk.out.to (by go_grown)) (ht.to (by go_grown))).mono ?_
        rw [hN2.out, hL.out]
        rintro e w5 ⟨⟨A9, n9, c9, rfl, hL9, hc9⟩, hb1⟩
        have q5 := (after (w := w) hb1 (by go_grown)).1
        replace hX := hid_mk (hX.out.keep (after hb1 (by go_grown)).1)
        replace hB := hid_mk (hB.out.keep (after hb1 (by go_grown)).1)
        replace hMap := hid_mk (hMap.out.to (after hb1 (by go_grown)).1)
        replace hY := hid_mk (hY.out.keep (after hb1 (by go_grown)).1)
        have hb5 := (after hb1 (Below.refl _ _)).1
        have z5 := q5.size
        clear hb1
        have hL9 := hid_mk hL9
        unfold nodeV
        refine hK.out _ _ (fun _ => ⟨(blk14c hX.out).2, (blk11v hB.out).2⟩) ?_
        clear hK K
        try simp only [Act.put]
        refine wpAnyT_take (i := 6) rfl (by kernel_rfl) (by kernel_rfl) (by kernel_rfl) rfl (by kernel_rfl) (fun _ _ _ h => h) (by kernel_rfl) (fun w' hS => (by obtain ⟨⟨s0, s1, s2, s3, s4, s5, s6, s7, s8, s9, s10, s11, s12, s13⟩, ⟨r0, r1, r2, r3, r4, r5, r6, r7, r8, r9, r10⟩⟩ := hS; go_simp; try with_reducible rfl)) ⟨(blk14c hX.out).2, (blk11v hB.out).2⟩ ?_
        simp only [Act.put]
        refine wpAnyT_take (i := 7) rfl (by kernel_rfl) (by kernel_rfl) (by kernel_rfl) rfl (by kernel_rfl) (fun _ _ _ h => h) (by kernel_rfl) (fun w' hS => (by obtain ⟨⟨s0, s1, s2, s3, s4, s5, s6, s7, s8, s9, s10, s11, s12, s13⟩, ⟨r0, r1, r2, r3, r4, r5, r6, r7, r8, r9, r10⟩⟩ := hS; go_simp; try with_reducible rfl)) ⟨(blk14c hX.out).2, (blk11v hB.out).2⟩ ?_
        simp only [Act.put]
        refine wpAnyT_take (i := 8) rfl (by kernel_rfl) (by kernel_rfl) (by kernel_rfl) rfl (by kernel_rfl) (fun _ _ _ h => h) (by kernel_rfl) (fun w' hS => (by obtain ⟨⟨s0, s1, s2, s3, s4, s5, s6, s7, s8, s9, s10, s11, s12, s13⟩, ⟨r0, r1, r2, r3, r4, r5, r6, r7, r8, r9, r10⟩⟩ := hS; go_simp; try with_reducible rfl)) ⟨(blk14c hX.out).2, (blk11v hB.out).2⟩ ?_
        simp only [Act.put]
        obtain ⟨yl, y0, y1, y2, y3, y4, y5, y6, y7, y8, y9, y10, y11, y12, y13, yf0, yf1, yf2, yf3, yf4, yf5, yf6, yf7, yf8, yf9, yf10, yf11, yf12, yf13⟩ := blk14f hY.out
        refine wpAnyT_one (i := 10) (by kernel_rfl) rfl (fun K hK => ?_)
        go_simp
        clear yl y0 y1 y2 y3 y4 y5 y6 y7 y8 y9 y10 y11 y12 y13 yf0 yf1 yf2 yf3 yf4 yf5 yf6 yf7 yf8 yf9 yf10 yf11 yf12 yf13
        replace hX := hid_mk (set14_far hX.out (fun e => d8 e.symm) (.int .i64 N2.id) (.int .i64 N2.h.t) (.int .i64 N2.h.v) (.int .i64 N2.h.l.base) (.int .i64 N2.h.l.bt) (.slice a1.R.A a1.R.n a1.R.c) (.string N2.h.s) (.slice a1.V.A a1.V.n a1.V.c) (.int .i64 N2.role) (.int .i64 N2.lead) (.int .i64 N2.timer) (.int .i64 N2.commit) (.slice a1.G.A a1.G.n a1.G.c) (.slice a1.P.A a1.P.n a1.P.c))
        replace hB := hid_mk (set14_far hB.out (fun e => d9 e.symm) (.int .i64 N2.id) (.int .i64 N2.h.t) (.int .i64 N2.h.v) (.int .i64 N2.h.l.base) (.int .i64 N2.h.l.bt) (.slice a1.R.A a1.R.n a1.R.c) (.string N2.h.s) (.slice a1.V.A a1.V.n a1.V.c) (.int .i64 N2.role) (.int .i64 N2.lead) (.int .i64 N2.timer) (.int .i64 N2.commit) (.slice a1.G.A a1.G.n a1.G.c) (.slice a1.P.A a1.P.n a1.P.c))
        replace hMap := hid_mk (map_set14 hMap.out (hMap.out.ne_blk hY.out) (.int .i64 N2.id) (.int .i64 N2.h.t) (.int .i64 N2.h.v) (.int .i64 N2.h.l.base) (.int .i64 N2.h.l.bt) (.slice a1.R.A a1.R.n a1.R.c) (.string N2.h.s) (.slice a1.V.A a1.V.n a1.V.c) (.int .i64 N2.role) (.int .i64 N2.lead) (.int .i64 N2.timer) (.int .i64 N2.commit) (.slice a1.G.A a1.G.n a1.G.c) (.slice a1.P.A a1.P.n a1.P.c))
        replace hL9 := hid_mk (mgs_set14 hL9.out hY.out (by decide) hLs.out (.int .i64 N2.id) (.int .i64 N2.h.t) (.int .i64 N2.h.v) (.int .i64 N2.h.l.base) (.int .i64 N2.h.l.bt) (.slice a1.R.A a1.R.n a1.R.c) (.string N2.h.s) (.slice a1.V.A a1.V.n a1.V.c) (.int .i64 N2.role) (.int .i64 N2.lead) (.int .i64 N2.timer) (.int .i64 N2.commit) (.slice a1.G.A a1.G.n a1.G.c) (.slice a1.P.A a1.P.n a1.P.c))
        replace hY := hid_mk (set14_blk hY.out (.int .i64 N2.id) (.int .i64 N2.h.t) (.int .i64 N2.h.v) (.int .i64 N2.h.l.base) (.int .i64 N2.h.l.bt) (.slice a1.R.A a1.R.n a1.R.c) (.string N2.h.s) (.slice a1.V.A a1.V.n a1.V.c) (.int .i64 N2.role) (.int .i64 N2.lead) (.int .i64 N2.timer) (.int .i64 N2.commit) (.slice a1.G.A a1.G.n a1.G.c) (.slice a1.P.A a1.P.n a1.P.c))
        have qz := set14_below (.int .i64 N2.id) (.int .i64 N2.h.t) (.int .i64 N2.h.v) (.int .i64 N2.h.l.base) (.int .i64 N2.h.l.bt) (.slice a1.R.A a1.R.n a1.R.c) (.string N2.h.s) (.slice a1.V.A a1.V.n a1.V.c) (.int .i64 N2.role) (.int .i64 N2.lead) (.int .i64 N2.timer) (.int .i64 N2.commit) (.slice a1.G.A a1.G.n a1.G.c) (.slice a1.P.A a1.P.n a1.P.c) q5 d7
        obtain ⟨wz, hwz⟩ : ∃ wz, set14 w5 g8 (.int .i64 N2.id) (.int .i64 N2.h.t) (.int .i64 N2.h.v) (.int .i64 N2.h.l.base) (.int .i64 N2.h.l.bt) (.slice a1.R.A a1.R.n a1.R.c) (.string N2.h.s) (.slice a1.V.A a1.V.n a1.V.c) (.int .i64 N2.role) (.int .i64 N2.lead) (.int .i64 N2.timer) (.int .i64 N2.commit) (.slice a1.G.A a1.G.n a1.G.c) (.slice a1.P.A a1.P.n a1.P.c) = wz := ⟨_, rfl⟩
        rw [hwz] at hX hB hMap hL9 hY qz
        unfold set14 at hwz
        rw [hwz]
        clear hwz
        refine hK.out _ _ (fun _ => ⟨(blk14c hX.out).2, (blk11v hB.out).2⟩) ?_
        clear hK K
        try simp only [Act.put]
        refine wpAnyT_one (i := 11) (by kernel_rfl) rfl (fun K hK => ?_)
        go_simp
        refine hK.out _ _ (fun _ => ⟨(blk14c hX.out).2, (blk11v hB.out).2⟩) ?_
        clear hK K
        try simp only [Act.put]
        refine wpAnyT_done (by kernel_rfl) ?_ _
        go_wp2_with fail
        go_meet
        exact ⟨g8, A9, n9, c9, rfl, rfl, d8, d9, d7, qz, hX, hB, hY, hL9, hMap⟩
    case rest =>
      clear hX hB hMap hMs
      obtain ⟨g8, A9, n9, cc9, rfl, rfl, d8, d9, d7, qc, hX, hB, hY, hL9, hMap⟩ := hcut
      clear c0 c1 c2 c3 c4 c5 c6 c7 c8 c9 c10
      obtain ⟨gB, hgB⟩ : ∃ g, wr.heap.size = g := ⟨_, rfl⟩
      rw [hgB] at hB d9 hwr ⊢
      replace hgB := hid_mk hgB
      have h19 : Hid (n9 ≤ 1 ∧ (0 < n9 → voteP N1 M = true ∧ L = [⟨2, N1.id, M.fr, N1.h.t, voteG N1 M, 0, 0, [], 0, ⟨#[]⟩, []⟩])) := by
        have hlen := hL9.out.len
        rw [List.length_map] at hlen
        cases hp : voteP N1 M with
        | false =>
          have e : L = [] := by rw [← hL.out]; exact voteL_no hp
          rw [e] at hlen
          exact ⟨by rw [← hlen]; exact Nat.zero_le _, fun h => absurd h (by rw [← hlen]; exact Nat.lt_irrefl 0)⟩
        | true =>
          have e : L = [⟨2, N1.id, M.fr, N1.h.t, voteG N1 M, 0, 0, [], 0, ⟨#[]⟩, []⟩] := by rw [← hL.out]; exact voteL_yes hp
          rw [e] at hlen
          exact ⟨by rw [← hlen]; exact Nat.le_refl _, fun _ => ⟨rfl, e⟩⟩
      obtain ⟨zm, hzm⟩ : ∃ z, mayM M = z := ⟨_, rfl⟩
      replace hzm := hid_mk hzm
      have hn91 := h19.out.1
      go_wp2
      go_loopw [49] (fun i wy => ∃ (j : Nat) (f' : Int → Option Value) (nf' : Nat), i = .int .i64 j ∧ j ≤ n9 ∧ Below w.heap.size w wy ∧ Hid (Blk wy w.heap.size 30 #[.int .i64 Nk.id, .int .i64 Nk.h.t, .int .i64 Nk.h.v, .int .i64 Nk.h.l.base, .int .i64 Nk.h.l.bt, .slice ak.R.A ak.R.n ak.R.c, .string Nk.h.s, .slice ak.V.A ak.V.n ak.V.c, .int .i64 Nk.role, .int .i64 Nk.lead, .int .i64 Nk.timer, .int .i64 Nk.commit, .slice ak.G.A ak.G.n ak.G.c, .slice ak.P.A ak.P.n ak.P.c]) ∧ Hid (Blk wy gB 32 #[.int .i64 M.kind, .int .i64 M.fr, .int .i64 M.to, .int .i64 M.term, .bool M.ok, .int .i64 M.index, .int .i64 M.lterm, .slice b.R.A b.R.n b.R.c, .int .i64 M.commit, .string M.s, .slice b.V.A b.V.n b.V.c]) ∧ Hid (Blk wy g8 30 #[.int .i64 N2.id, .int .i64 N2.h.t, .int .i64 N2.h.v, .int .i64 N2.h.l.base, .int .i64 N2.h.l.bt, .slice a1.R.A a1.R.n a1.R.c, .string N2.h.s, .slice a1.V.A a1.V.n a1.V.c, .int .i64 N2.role, .int .i64 N2.lead, .int .i64 N2.timer, .int .i64 N2.commit, .slice a1.G.A a1.G.n a1.G.c, .slice a1.P.A a1.P.n a1.P.c]) ∧ Hid (MapI Tryd.prog wy 3 gm nf' f') ∧ nf' ≤ k + 1 ∧ Hid (j = 0 → wy = wc ∧ f' = f) ∧ Hid (j = 1 → InvO f' N2)) (fun i _ => n9 - (intOf i).toNat)
      case atStart => exact ⟨0, f, nf, rfl, Nat.zero_le _, qc, hX, hB, hY, hMap, by omega, fun _ => ⟨rfl, rfl⟩, fun e => absurd e (by omega)⟩
      case round =>
        obtain ⟨j, f', nf', rfl, hj, hb', hX', hB', hY', hMap', hnf', h0, h1⟩ := hrel
        have zz := hb'.size
        by_cases hl9 : j < n9
        case pos =>
          clear hX' hB' hY' hMap' h1
          obtain rfl : j = 0 := by omega
          have e1 := (h0.out rfl).1
          have e2 := (h0.out rfl).2
          clear h0
          subst e1
          subst e2
          obtain ⟨hp, hLx⟩ := h19.out.2 (by omega)
          obtain ⟨b9, o9, p, rfl, hb9, hd9, _, e0, e1, e2, e3, e4, e5, e6, e7, e8, e9, e10⟩ := hL9.out.at_ hl9
          rw [hLx] at hd9
          have ep : p = (⟨2, N1.id, M.fr, N1.h.t, voteG N1 M, 0, 0, [], 0, ⟨#[]⟩, []⟩, nilMA) := by simpa using hd9.symm
          subst ep
          clear hd9 hLx
          unfold nilMA at e7 e10
          dsimp only at e0 e1 e2 e3 e4 e5 e6 e7 e8 e9 e10
          simp only [Nat.zero_mul, Nat.add_zero] at e0 e1 e2 e3 e4 e5 e6 e7 e8 e9 e10
          have hI : Hid (InvO f' N1) := hI1
          obtain ⟨G, hG⟩ : ∃ G, voteG N1 M = G := ⟨_, rfl⟩
          rw [hG] at e4
          cases G
          case false =>
            have hstep : Hid (0 + 1 = 1 → InvO f' N2) := fun _ => by rw [← hN2.out]; exact vote_step0 hI.out (by rw [hG, Bool.and_false])
            replace hG := hid_mk hG
            replace hp := hid_mk hp
            go_wp2
            go_roundw
            case rel => exact ⟨0 + 1, f', nf, by go_num, by omega, by go_grown, hid_mk (hX.out.alloc _), hid_mk (hB.out.alloc _), hid_mk (hY.out.alloc _), hid_mk (hMap.out.alloc _), by omega, fun e => absurd e (by omega), hstep⟩
            case measure => simp [intOf]; omega
          case true =>
            have hbd := vote_bounds hp hG
            have hwf : (Lit.int .i64 N1.h.t).wf = true := WalkArith.wf_i64 (by omega)
            have hstep : Hid (0 + 1 = 1 → InvO (updI f' N1.h.t (.int .i64 M.fr)) N2) := fun _ => by rw [← hN2.out]; exact vote_step hI.out hp hG
            have hnc := vote_noconf hI.out hG
            replace hG := hid_mk hG
            replace hp := hid_mk hp
            rcases hnc with hf | hf
            · replace hf := hid_mk hf
              go_wp2_with (first | (at_lookup; refine mapI_lookup_ok rfl _ _ 38 rfl 3 3 Tryd.underlying3 Tryd.underlying38 (zeroI _) gm _ f' rfl (hMap.out.alloc _) _ rfl hwf (.int .i64 0) false (by rw [hf.out]; rfl) (by rw [hf.out]; rfl) ?_) | (at_mapUpdate; refine mapI_update rfl _ _ _ 38 rfl 3 3 Tryd.underlying3 Tryd.underlying38 gm _ f' rfl (hMap.out.alloc _) (by unfold maxLen; omega) _ rfl hwf _ rfl ?_; intro w6 hM6 hg6; have q6 : Below w.heap.size w w6 := grown_below (by go_grown) hg6 (fun k hk => by cases hk; exact hgw); have hX6 := hid_mk (grown_ne (hMap.out.alloc _) hg6 (hX.out.alloc _)); have hB6 := hid_mk (grown_ne (hMap.out.alloc _) hg6 (hB.out.alloc _)); have hY6 := hid_mk (grown_ne (hMap.out.alloc _) hg6 (hY.out.alloc _)); clear hg6; replace hM6 := hid_mk hM6))
              go_roundw
              case rel => exact ⟨0 + 1, _, _, by go_num, by omega, q6, hX6, hB6, hY6, hM6, by omega, fun e => absurd e (by omega), hstep⟩
              case measure => simp [intOf]; omega
            · replace hf := hid_mk hf
              go_wp2_with (first | (at_lookup; refine mapI_lookup_ok rfl _ _ 38 rfl 3 3 Tryd.underlying3 Tryd.underlying38 (zeroI _) gm _ f' rfl (hMap.out.alloc _) _ rfl hwf (.int .i64 M.fr) true (by rw [hf.out]; rfl) (by rw [hf.out]; rfl) ?_) | (at_mapUpdate; refine mapI_update rfl _ _ _ 38 rfl 3 3 Tryd.underlying3 Tryd.underlying38 gm _ f' rfl (hMap.out.alloc _) (by unfold maxLen; omega) _ rfl hwf _ rfl ?_; intro w6 hM6 hg6; have q6 : Below w.heap.size w w6 := grown_below (by go_grown) hg6 (fun k hk => by cases hk; exact hgw); have hX6 := hid_mk (grown_ne (hMap.out.alloc _) hg6 (hX.out.alloc _)); have hB6 := hid_mk (grown_ne (hMap.out.alloc _) hg6 (hB.out.alloc _)); have hY6 := hid_mk (grown_ne (hMap.out.alloc _) hg6 (hY.out.alloc _)); clear hg6; replace hM6 := hid_mk hM6))
              go_roundw
              case rel => exact ⟨0 + 1, _, _, by go_num, by omega, q6, hX6, hB6, hY6, hM6, by omega, fun e => absurd e (by omega), hstep⟩
              case measure => simp [intOf]; omega
        have hInv2 : Hid (InvO f' N2) := by
          rcases Nat.eq_zero_or_pos n9 with e | e
          · have ef := (h0.out (by omega)).2
            have hpf : voteP N1 M = false := by
              cases hp : voteP N1 M with
              | false => rfl
              | true =>
                have hlen := hL9.out.len
                rw [List.length_map, ← hL.out, voteL_yes hp] at hlen
                exact absurd hlen (by rw [e]; exact Nat.one_ne_zero)
            rw [ef, ← hN2.out]
            exact vote_step0 hI1.out (by rw [hpf]; rfl)
          · exact h1.out (by omega)
        have hcont : Hid ((mayM M = false ∨ (M.kind == 1) = false ∨ (M.to == Nk.id) = false) → InvO f' Nk) := fun e => by
          have hpf := voteP_no hid1.out e
          have hlen := hL9.out.len
          rw [List.length_map, ← hL.out, voteL_no hpf] at hlen
          have hj0 : j = 0 := by have : n9 = 0 := hlen.symm; omega
          rw [(h0.out hj0).2]
          exact hInv.out
        clear hX hB hY hMap hL9 h0 h1 h19 hI1 hInv
        have hX := hX'
        have hB := hB'
        have hY := hY'
        have hMap := hMap'
        clear hX' hB' hY' hMap'
        obtain ⟨ml, m0, m1, m2, m3, m4, m5, m6, m7, m8, m9, m10⟩ := blk11v hB.out
        go_wp2_with fail
        clear ml m0 m1 m2 m3 m4 m5 m6 m7 m8 m9 m10
        refine (EMay_any M b _ (B := B) (hMk.out.to (by go_grown))).mono ?_
        rw [hzm.out]
        rintro e w7 ⟨rfl, hb1⟩
        have q7 := (after (w := w) hb1 (by go_grown)).1
        replace hX := hid_mk (hX.out.keep hb1)
        replace hB := hid_mk (hB.out.keep hb1)
        replace hY := hid_mk (hY.out.keep hb1)
        replace hMap := hid_mk (hMap.out.to hb1)
        clear hb1
        obtain ⟨ml, m0, m1, m2, m3, m4, m5, m6, m7, m8, m9, m10⟩ := blk11v hB.out
        obtain ⟨xl, x0, x1, x2, x3, x4, x5, x6, x7, x8, x9, x10, x11, x12, x13, xf0, xf1, xf2, xf3, xf4, xf5, xf6, xf7, xf8, xf9, xf10, xf11, xf12, xf13⟩ := blk14f hX.out
        cases zm
        case false =>
          go_wp2
          go_roundw
          case rel => exact ⟨k + 1, Nk, ak, f', nf', by go_num, by omega, q7, hNk, hX, hMap, by omega, hcont.out (.inl hzm.out)⟩
          case measure => simp [intOf]; omega
        by_cases k1 : M.kind = 1
        case neg =>
          have k1' : (M.kind == 1) = false := by simpa using k1
          have k1n := hid_mk k1'
          replace k1 := hid_mk k1
          go_wp2
          go_roundw
          case rel => exact ⟨k + 1, Nk, ak, f', nf', by go_num, by omega, q7, hNk, hX, hMap, by omega, hcont.out (.inr (.inl k1n.out))⟩
          case measure => simp [intOf]; omega
        have k1' : (M.kind == 1) = true := by simpa using k1
        replace k1 := hid_mk k1
        by_cases k2 : M.to = Nk.id
        case neg =>
          have k2' : (M.to == Nk.id) = false := by simpa using k2
          have k2n := hid_mk k2'
          replace k2 := hid_mk k2
          go_wp2
          go_roundw
          case rel => exact ⟨k + 1, Nk, ak, f', nf', by go_num, by omega, q7, hNk, hX, hMap, by omega, hcont.out (.inr (.inr k2n.out))⟩
          case measure => simp [intOf]; omega
        have k2' : (M.to == Nk.id) = true := by simpa using k2
        replace k2 := hid_mk k2
        obtain ⟨yl, y0, y1, y2, y3, y4, y5, y6, y7, y8, y9, y10, y11, y12, y13⟩ := blk14c hY.out
        have hXn := hid_mk (set14_blk hX.out (.int .i64 N2.id) (.int .i64 N2.h.t) (.int .i64 N2.h.v) (.int .i64 N2.h.l.base) (.int .i64 N2.h.l.bt) (.slice a1.R.A a1.R.n a1.R.c) (.string N2.h.s) (.slice a1.V.A a1.V.n a1.V.c) (.int .i64 N2.role) (.int .i64 N2.lead) (.int .i64 N2.timer) (.int .i64 N2.commit) (.slice a1.G.A a1.G.n a1.G.c) (.slice a1.P.A a1.P.n a1.P.c))
        have hMn := hid_mk (map_set14 hMap.out (hMap.out.ne_blk hX.out) (.int .i64 N2.id) (.int .i64 N2.h.t) (.int .i64 N2.h.v) (.int .i64 N2.h.l.base) (.int .i64 N2.h.l.bt) (.slice a1.R.A a1.R.n a1.R.c) (.string N2.h.s) (.slice a1.V.A a1.V.n a1.V.c) (.int .i64 N2.role) (.int .i64 N2.lead) (.int .i64 N2.timer) (.int .i64 N2.commit) (.slice a1.G.A a1.G.n a1.G.c) (.slice a1.P.A a1.P.n a1.P.c))
        have qn := set14_below (.int .i64 N2.id) (.int .i64 N2.h.t) (.int .i64 N2.h.v) (.int .i64 N2.h.l.base) (.int .i64 N2.h.l.bt) (.slice a1.R.A a1.R.n a1.R.c) (.string N2.h.s) (.slice a1.V.A a1.V.n a1.V.c) (.int .i64 N2.role) (.int .i64 N2.lead) (.int .i64 N2.timer) (.int .i64 N2.commit) (.slice a1.G.A a1.G.n a1.G.c) (.slice a1.P.A a1.P.n a1.P.c) q7 (Nat.le_refl _)
        obtain ⟨wz, hwz⟩ : ∃ wz, set14 w7 w.heap.size (.int .i64 N2.id) (.int .i64 N2.h.t) (.int .i64 N2.h.v) (.int .i64 N2.h.l.base) (.int .i64 N2.h.l.bt) (.slice a1.R.A a1.R.n a1.R.c) (.string N2.h.s) (.slice a1.V.A a1.V.n a1.V.c) (.int .i64 N2.role) (.int .i64 N2.lead) (.int .i64 N2.timer) (.int .i64 N2.commit) (.slice a1.G.A a1.G.n a1.G.c) (.slice a1.P.A a1.P.n a1.P.c) = wz := ⟨_, rfl⟩
        rw [hwz] at hXn hMn qn
        unfold set14 at hwz
        replace hwz := hid_mk hwz
        go_wp2
        rw [hwz.out]
        go_roundw
        case rel => exact ⟨k + 1, N2, a1, f', nf', by go_num, by omega, qn, hOk2, hXn, hMn, by omega, hInv2⟩
        case measure => simp [intOf]; omega
theorem LawOnce_walk {w : World} (ht : Tab w) (N : Nd) (a : NdA) (hN : NdOk w w.heap.size N a) (A : Option Addr) (n c : Nat) (ms : List (Ms × MsA)) (hMs : Mgs w w.heap.size A n ms) (_ : n ≤ c) (_ : c * 128 ≤ 140737488351232) :
    Calls Tryd.prog 4 #[nodeV N a, .slice A n c] w fun e w' => e = .returned (.bool true) ∧ Below w.heap.size w w' := LawOnce_any N a A n c ms w hN hMs ht
end Go.Proofs.YtnaindoeihnmpaaDoor
