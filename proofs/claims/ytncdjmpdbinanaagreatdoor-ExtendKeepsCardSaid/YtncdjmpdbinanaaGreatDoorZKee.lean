/-
  WHAT IS PROVED HERE: what layer 18's keeps hands back of a node that kept what it had. Conditions: the slices are of at most 2^47 bytes; the library's table stands.
-/
import Derived.Test.YtncdjmpdbinanaaGreatDoorZGEx
import Derived.Test.YtncdjmpdbinanaaGreatDoorZGEl1
import Derived.Test.YtncdjmpdbinanaaGreatDoorZGVt
import Derived.Test.YtncdjmpdbinanaaGreatDoorZGNd
namespace Go.Proofs.YtncdjmpdbinanaaGreatDoor
open Go.RowKit

set_option maxRecDepth 100000 in
set_option maxHeartbeats 6400000 in
theorem EKeeps_any (N : Nd) (a : NdA) (M : Nd) (b : NdA) (w : World) {B : Nat} (hN : NdOk w B N a) (hM : NdOk w B M b) (hr : rightN N = true) (hk : Kept N M) (ht : Tab w) :
    Calls Tryz.prog 38 #[nodeV N a, nodeV M b] w fun e w' => e = .returned (.bool true) ∧ Below w.heap.size w w' := by
  have hcb := commit_bounds hr
  obtain ⟨kk, hkk⟩ : ∃ kk : Nat, N.commit - N.h.l.base = (kk : Int) := ⟨(N.commit - N.h.l.base).toNat, by omega⟩
  have hln := hN.recs.len
  have hlm := hM.recs.len
  have hk1 : kk ≤ a.R.n := by
    have h := hcb.2.2.1
    unfold lastJ at h
    omega
  have hkn : (N.commit - N.h.l.base).toNat = kk := by omega
  have hl2 := hk.len
  rw [hkn] at hl2
  have hk2 : kk ≤ b.R.n := by omega
  have hk3 : kk ≤ a.R.c := Nat.le_trans hk1 hN.rc
  have hk4 : kk ≤ b.R.c := Nat.le_trans hk2 hM.rc
  have hra : Hid (Recs w B a.R.A kk (N.h.l.rs.take kk)) := hN.recs.take hk1
  have hrb : Hid (Recs w B b.R.A kk (N.h.l.rs.take kk)) := by
    have h := hM.recs.take (k := kk) hk2
    have e := hk.recs
    rw [hkn] at e
    rw [e] at h
    exact h
  have hab := hN.rb
  have hER := fun (w1 : World) (h1 : NdOk w1 B M b) (h3 : Tab w1) => ERight_any M b w1 h1 h3
  rw [hk.right] at hER
  have e1 : (M.id != N.id) = false := by simp [hk.id]
  have e2 : (M.h.t != N.h.t) = false := by simp [hk.term]
  have e3 : (M.h.v != N.h.v) = false := by simp [hk.vote]
  have e4 : decide (M.commit < N.commit) = false := by rw [decide_eq_false_iff_not]; have := hk.com; omega
  have e5 : (M.h.l.base != N.h.l.base) = false := by simp [hk.base]
  have x1 : IntKind.i64.wrap (N.commit - N.h.l.base) = (kk : Int) := by rw [hkk]; exact IntWalk.i64_in _ (by omega)
  have e6 : decide ((kk : Int) ≤ (b.R.n : Int)) = true := by rw [decide_eq_true_eq]; omega
  have c1 : (kk : Int) ≤ (b.R.n : Int) := by omega
  have c2 : (0 : Int) ≤ (kk : Int) := by omega
  have c3 : (kk : Int) ≤ (a.R.c : Int) := by omega
  have c4 : (kk : Int) ≤ (b.R.c : Int) := by omega
  replace hkk := hid_mk hkk
  clear hkn hl2 hln hlm hcb
  unfold nodeV at hER ⊢
  obtain ⟨w0, hw0⟩ : ∃ x, ((w.alloc (.cells (ndC N a) 30)).alloc (.cells (ndC M b) 30)) = x := ⟨_, rfl⟩
  have hB : Hid (Bxs w.heap.size w0 [⟨w.heap.size + 1, 30, ndC M b⟩, ⟨w.heap.size, 30, ndC N a⟩]) := by
    rw [← hw0]
    exact (((Bxs.nil w.heap.size w).add_ rfl (by omega) 30 (ndC N a)).add_ (by simp) (by omega) 30 (ndC M b))
  have q0 : Below w.heap.size w w0 := by rw [← hw0]; go_grown
  have z0 := q0.size
  dsimp only [ndC, msC, zeroN, nilA, zeroM, nilMA] at hw0
  refine calls_of_wpQ Tryz.func38 rfl ?_
  intro Q hQ
  simp only [Tryz.ntmps38, List.size_toArray, List.length_cons, List.length_nil, Nat.reduceAdd, Nat.reduceSub, Array.replicate_succ, Array.replicate_zero, List.push_toArray, List.append_toArray, List.nil_append, List.cons_append]
  go_upto_region 1 with fail
  try rw [hw0]
  clear hw0
  have lX := blk14c (hB.out.at_ 1 rfl)
  have lY := blk14c (hB.out.at_ 0 rfl)
  go_wp2_with fail
  clear lX lY
  refine (hER _ (hM.to q0) (ht.to q0)).mono ?_
  rintro e w1 ⟨rfl, hb1⟩
  have q1 := (after (w := w) hb1 q0).1
  have z1 := q1.size
  replace hB := hid_mk (hB.out.keep hb1)
  clear hb1 q0 z0
  replace hra := hid_mk (hra.out.to q1)
  replace hrb := hid_mk (hrb.out.to q1)
  have lX := blk14f (hB.out.at_ 1 rfl)
  have lY := blk14f (hB.out.at_ 0 rfl)
  go_upto_region 4 with fail
  clear lX lY e1 e2 e3 e4 e5 x1
  refine regm (fun w' => w'.cell? ⟨w.heap.size, 5, none⟩ = some (.slice a.R.A a.R.n a.R.c) ∧ w'.cell? ⟨w.heap.size + 1, 5, none⟩ = some (.slice b.R.A b.R.n b.R.c)) 23 23 [(0, 0), (1, 1), (2, 2), (4, 4), (8, 8), (0, 0), (48, 48), (64, 64), (128, 128), (384, 384), (640, 640), (1152, 1152), (128, 128), (6272, 6272), (128, 128), (16512, 16512), (32896, 32896), (65664, 65664), (128, 128), (393344, 393344), (532608, 532608), (1048704, 1048704), (4194303, 2097152)] (by exact And.intro ((hB.out.at_ 1 rfl).cell 5) ((hB.out.at_ 0 rfl).cell 5)) (fun hS0 hR => ?_)
  replace hB := hid_mk hB.out.drew
  replace hra := hid_mk (hra.out.to (show Below w1.heap.size w1 w1.drew by go_grown))
  replace hrb := hid_mk (hrb.out.to (show Below w1.heap.size w1 w1.drew by go_grown))
  have qd : Below w.heap.size w w1.drew := by go_grown
  obtain ⟨wd, hwd⟩ : ∃ x, w1.drew = x := ⟨_, rfl⟩
  rw [hwd] at hS0 hB hra hrb qd ⊢
  clear hwd q1 z1
  have zd := qd.size
  refine tkn (i := 0) hR hS0 (h := ?_)
  refine tkn (i := 1) hR hS0 (h := ?_)
  refine tkn (i := 2) hR hS0 (h := ?_)
  refine tkn (i := 3) hR hS0 (h := ?_)
  refine tkn (i := 4) hR hS0 (h := ?_)
  simp only [Act.put]
  refine tkn (i := 5) hR hS0 (h := ?_)
  refine tkn (i := 6) hR hS0 (h := ?_)
  refine tkn (i := 7) hR hS0 (h := ?_)
  refine tkn (i := 8) hR hS0 (h := ?_)
  refine tkn (i := 9) hR hS0 (h := ?_)
  simp only [Act.put]
  refine tkn (i := 10) hR hS0 (h := ?_)
  refine tkn (i := 11) hR hS0 (h := ?_)
  refine tkn (i := 12) hR hS0 (h := ?_)
  refine tkn (i := 13) hR hS0 (h := ?_)
  refine tkn (i := 14) hR hS0 (h := ?_)
  simp only [Act.put]
  refine tkn (i := 15) hR hS0 (h := ?_)
  refine tkn (i := 16) hR hS0 (h := ?_)
  refine tkn (i := 17) hR hS0 (h := ?_)
  refine tkn (i := 18) hR hS0 (h := ?_)
  refine tkn (i := 19) hR hS0 (h := ?_)
  simp only [Act.put]
  refine onem (i := 20) hR (h := fun K hK => ?_)
  go_simp
  refine (LikeRec_same b.R.A kk _ a.R.A kk _ (N.h.l.rs.take kk) _ (by omega) hrb.out hra.out).mono ?_
  rintro e wT ⟨rfl, hb1⟩
  have qT := (after (w := w) hb1 qd).1
  replace hB := hid_mk (hB.out.keep hb1)
  clear hb1 qd zd
  have hS1 := And.intro ((hB.out.at_ 1 rfl).cell 5) ((hB.out.at_ 0 rfl).cell 5)
  refine hK.out _ _ (fun _ => hS1) ?_
  clear hK K hS0
  have hS0 := hS1
  clear hS1
  refine tkn (i := 21) hR hS0 (h := ?_)
  refine onem (i := 22) hR (h := fun K hK => ?_)
  go_simp
  have hS1 := And.intro ((hB.out.at_ 1 rfl).cell 5) ((hB.out.at_ 0 rfl).cell 5)
  refine hK.out _ _ (fun _ => hS1) ?_
  clear hK K hS0
  have hS0 := hS1
  clear hS1
  refine donem hR (h := ?_)
  try simp only [Act.put]
  go_wp2
  refine ends_ret hQ (results_tmp rfl _ _ _) rfl ?_
  exact ⟨rfl, qT⟩
end Go.Proofs.YtncdjmpdbinanaaGreatDoor
