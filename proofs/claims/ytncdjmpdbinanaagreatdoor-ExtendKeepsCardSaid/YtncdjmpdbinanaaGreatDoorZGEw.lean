/-
  WHAT IS PROVED HERE: what extend.told hands back. Conditions: the slices are of at most 2^47 bytes; the library's table stands.
  WHAT IS PROVED HERE: where slices.IndexFunc finds the peer that a message is from. Condition: at most 2^43 peers.
  WHAT IS PROVED HERE: a row of peers of the call's own, of which one is turned; plain laws on the answer that a leader takes. No condition.
-/
import Derived.Test.YtncdjmpdbinanaaGreatDoorZGNd
import Derived.Test.YtncdjmpdbinanaaGreatDoorZGEl1
import Derived.Test.YtncdjmpdbinanaaGreatDoorZGMy4
import Derived.Test.YtncdjmpdbinanaaGreatDoorZGEx
import Derived.Test.YtncdjmpdbinanaaGreatDoorZGKj1
namespace Go.Proofs.YtncdjmpdbinanaaGreatDoor
open Go.RowKit

/-- a message of this kind for a node that may be -/
def toldE (N : Nd) (M : Ms) (k : Int) : Bool := rightN N && (mayM M && (M.to == N.id && M.kind == k))
theorem toldC_E (N : Nd) (M : Ms) (k : Int) : toldC N M k = (toldE N M k && decide (M.term ≤ N.h.t)) := by
  unfold toldC toldE
  cases rightN N <;> cases mayM M <;> cases (M.kind == k) <;> cases (M.to == N.id) <;> simp
set_option maxRecDepth 100000 in
set_option maxHeartbeats 1600000 in
theorem ETold_any (N : Nd) (a : NdA) (M : Ms) (b : MsA) (k : Int) (w : World) {B : Nat} (hN : NdOk w B N a) (hM : MsOk w B M b) (ht : Tab w) :
    Calls Tryz.prog 92 #[nodeV N a, msgV M b, .int .i64 k] w fun e w' => e = .returned (.bool (toldE N M k)) ∧ Below w.heap.size w w' := by
  obtain ⟨zr, hzr⟩ : ∃ x, rightN N = x := ⟨_, rfl⟩
  obtain ⟨zm, hzm⟩ : ∃ x, mayM M = x := ⟨_, rfl⟩
  have hER := fun (w : World) (h : NdOk w B N a) (h2 : Tab w) => ERight_any N a w h h2
  have hEM := fun (w : World) (h : MsOk w B M b) => EMay_any M b w h
  rw [hzr] at hER
  rw [hzm] at hEM
  unfold toldE
  rw [hzr, hzm]
  clear hzr hzm
  unfold nodeV at hER ⊢
  unfold msgV at hEM ⊢
  obtain ⟨w0, hw0⟩ : ∃ x, ((w.alloc (.cells (ndC N a) 30)).alloc (.cells (msC M b) 32)) = x := ⟨_, rfl⟩
  have hB : Hid (Bxs w.heap.size w0 [⟨w.heap.size + 1, 32, msC M b⟩, ⟨w.heap.size, 30, ndC N a⟩]) := by
    rw [← hw0]
    exact (((Bxs.nil w.heap.size w).add_ rfl (by omega) 30 (ndC N a)).add_ (by simp) (by omega) 32 (msC M b))
  have q0 : Below w.heap.size w w0 := by rw [← hw0]; go_grown
  have z0 := q0.size
  dsimp only [ndC, msC, zeroN, nilA, zeroM, nilMA] at hw0
  refine calls_of_wpQ Tryz.func92 rfl ?_
  intro Q hQ
  simp only [Tryz.ntmps92, List.size_toArray, List.length_cons, List.length_nil, Nat.reduceAdd, Nat.reduceSub, Array.replicate_succ, Array.replicate_zero, List.push_toArray, List.append_toArray, List.nil_append, List.cons_append]
  go_upto_region 1 with fail
  try rw [hw0]
  clear hw0
  have lX := blk14c (hB.out.at_ 1 rfl)
  have lM := blk11v (hB.out.at_ 0 rfl)
  go_wp2_with fail
  clear lX lM
  refine (hER _ (hN.to q0) (ht.to q0)).mono ?_
  rintro e w1 ⟨rfl, hb1⟩
  have q1 := (after (w := w) hb1 q0).1
  have z1 := q1.size
  replace hB := hid_mk (hB.out.keep hb1)
  clear hb1 q0 z0
  cases zr
  case false =>
    have lX := blk14c (hB.out.at_ 1 rfl)
    have lM := blk11v (hB.out.at_ 0 rfl)
    go_wp2
    refine ends_ret hQ (results_tmp rfl _ _ _) rfl ?_
    exact ⟨rfl, q1⟩
  have lX := blk14c (hB.out.at_ 1 rfl)
  have lM := blk11v (hB.out.at_ 0 rfl)
  go_wp2_with fail
  clear lX lM
  refine (hEM _ (hM.to q1)).mono ?_
  rintro e w2 ⟨rfl, hb1⟩
  have q2 := (after (w := w) hb1 q1).1
  have z2 := q2.size
  replace hB := hid_mk (hB.out.keep hb1)
  clear hb1 q1 z1
  cases zm
  case false =>
    have lX := blk14c (hB.out.at_ 1 rfl)
    have lM := blk11v (hB.out.at_ 0 rfl)
    go_wp2
    refine ends_ret hQ (results_tmp rfl _ _ _) rfl ?_
    exact ⟨rfl, q2⟩
  by_cases g1 : M.to = N.id
  case neg =>
    have hg1 : (M.to == N.id) = false := by simpa using g1
    have lX := blk14c (hB.out.at_ 1 rfl)
    have lM := blk11v (hB.out.at_ 0 rfl)
    go_wp2
    refine ends_ret hQ (results_tmp rfl _ _ _) rfl ?_
    exact ⟨by rw [hg1]; rfl, q2⟩
  have hg1 : (M.to == N.id) = true := by simpa using g1
  have lX := blk14c (hB.out.at_ 1 rfl)
  have lM := blk11v (hB.out.at_ 0 rfl)
  go_wp2
  refine ends_ret hQ (results_tmp rfl _ _ _) rfl ?_
  exact ⟨by rw [hg1]; rfl, q2⟩
end Go.Proofs.YtncdjmpdbinanaaGreatDoor
namespace Go.Proofs.YtncdjmpdbinanaaGreatDoor
open Go.RowKit

theorem FitC_any (p : Pr) (M : Ms) (b : MsA) (gm : Nat) (w : World) (hM : Blk w gm 32 (msC M b)) : Calls Tryz.prog 94 #[.agg #[.int .i64 p.id, .int .i64 p.nx, .int .i64 p.mt], .pointer (some ⟨gm, 0, none⟩)] w fun e w' => e = .returned (.bool (p.id == M.fr)) ∧ Below w.heap.size w w' := by
  have m1 := (hM.alloc (.cells #[.int .i64 p.id, .int .i64 p.nx, .int .i64 p.mt] 53)).cell 1
  have ml := hM.lt
  change _ = some (Value.int .i64 M.fr) at m1
  replace hM := hid_mk hM
  refine calls_of_wpQ Tryz.func94 rfl ?_
  intro Q hQ
  simp only [Tryz.ntmps94, List.size_toArray, List.length_cons, List.length_nil, Nat.reduceAdd, Nat.reduceSub, Array.replicate_succ, Array.replicate_zero, List.push_toArray, List.append_toArray, List.nil_append, List.cons_append]
  go_wp2
  refine ends_ret hQ (results_tmp rfl _ _ _) rfl ?_
  exact ⟨rfl, by go_grown⟩
theorem IndexP_any (ps : List Pr) (M : Ms) (b : MsA) (gm : Nat) (A : Option Addr) (n cap : Nat) (w : World) {B : Nat} (hm : n ≤ 8796093022208) (h0 : Prs w B A n ps) (hM : Blk w gm 32 (msC M b)) :
    Calls Tryz.prog 93 #[.slice A n cap, .func (.func 94) #[] #[.pointer (some ⟨gm, 0, none⟩)]] w fun e w' => e = .returned (.int .i64 (idxP M.fr 0 ps)) ∧ Below w.heap.size w w' := by
  obtain ⟨R, hR⟩ : ∃ R, idxP M.fr 0 ps = R := ⟨_, rfl⟩
  rw [hR]
  have hlen := hid_mk h0.len
  have h := hid_mk h0.top
  replace hM := hid_mk hM
  clear h0
  refine calls_of_wpQ Tryz.func93 rfl ?_
  intro Q hQ
  simp only [Tryz.ntmps93, List.size_toArray, List.length_cons, List.length_nil, Nat.reduceAdd, Nat.reduceSub, Array.replicate_succ, Array.replicate_zero, List.push_toArray, List.append_toArray, List.nil_append, List.cons_append]
  go_wp2
  go_loopw [8] (fun iv wr => ∃ k : Nat, iv = .int .i64 k ∧ k ≤ n ∧ Hid (idxP M.fr k (ps.drop k) = R) ∧ Hid (Below w.heap.size w wr)) (fun iv _ => n - (intOf iv).toNat)
  case atStart => exact ⟨0, rfl, Nat.zero_le _, hR, hid_mk (Below.refl _ _)⟩
  case round =>
    clear hR
    obtain ⟨k, rfl, hk, hR, hb⟩ := hrel
    by_cases hlt : k < n
    · obtain ⟨b1, o, p, rfl, hbl, hik, c0, c1, c2⟩ := (h.out.to hb.out).at_ hlt
      have k0 : (0 : Int) ≤ k := by omega
      have k1 : (k : Int) < n := by omega
      have hn : Hid ((if p.id = M.fr then (k : Int) else idxP M.fr (k + 1) (ps.drop (k + 1))) = R) := by rw [Hid, ← hR.out, hik, idxP]
      clear hR hik
      by_cases hr : p.id = M.fr
      · have hr2 : (p.id == M.fr) = true := by simpa using hr
        have hv := hn.out
        rw [if_pos hr] at hv
        replace hr := hid_mk hr
        replace hv := hid_mk hv
        go_wp2_with (go_at_call 94; refine (FitC_any p M b gm _ (hM.out.keep hb.out)).mono ?_; rw [hr2]; rintro e w2 ⟨rfl, hb2⟩; have q2 := hid_mk (after (w := w) hb2 hb.out).1; clear hb2)
        refine ends_ret hQ (results_tmp rfl _ _ _) rfl ?_
        exact ⟨ret_int hv.out, q2.out⟩
      · have hr2 : (p.id == M.fr) = false := by simpa using hr
        have hv := hn.out
        rw [if_neg hr] at hv
        replace hr := hid_mk hr
        replace hv := hid_mk hv
        go_wp2_with (go_at_call 94; refine (FitC_any p M b gm _ (hM.out.keep hb.out)).mono ?_; rw [hr2]; rintro e w2 ⟨rfl, hb2⟩; have q2 := hid_mk (after (w := w) hb2 hb.out).1; clear hb2)
        go_roundw
        case rel => exact ⟨k + 1, by go_num, by omega, hv, q2⟩
        case measure => simp [intOf]; omega
    · have hv : Hid ((-1 : Int) = R) := by
        have h1 := hR.out
        rw [List.drop_eq_nil_of_le (by rw [hlen.out]; omega), idxP] at h1
        exact h1
      go_wp2
      refine ends_ret hQ (results_tmp rfl _ _ _) rfl ?_
      exact ⟨ret_int hv.out, hb.out⟩
end Go.Proofs.YtncdjmpdbinanaaGreatDoor
namespace Go.Proofs.YtncdjmpdbinanaaGreatDoor
open Go.RowKit

theorem list_set_same {α : Type} (l : List α) (j : Nat) (x : α) (h : l[j]? = some x) : l.set j x = l := by
  apply List.ext_getElem?
  intro i
  by_cases hij : j = i
  · subst hij
    have hl : j < l.length := (List.getElem?_eq_some_iff.1 h).1
    rw [List.getElem?_set_self hl, h]
  · rw [List.getElem?_set_ne hij]
theorem prsL_set (is : List Pr) (p : Nat) (i : Pr) (hp : p < is.length) : ((((prsL is).set (p * 3) (.int .i64 i.id)).set (p * 3 + 1) (.int .i64 i.nx)).set (p * 3 + 2) (.int .i64 i.mt)) = prsL (is.set p i) := by
  induction is generalizing p with
  | nil => simp at hp
  | cons x is ih =>
    cases p with
    | zero => simp [prsL, prCells]
    | succ p =>
      have h := ih p (by simpa using hp)
      have e : ∀ (a b c v : Value) (l : List Value) (j : Nat), (a :: b :: c :: l).set (j + 3) v = a :: b :: c :: l.set j v := fun _ _ _ _ _ _ => rfl
      unfold prsL at *
      rw [List.set_cons_succ]
      simp only [List.flatMap_cons, prCells, List.cons_append, List.nil_append]
      rw [← h, show (p + 1) * 3 = p * 3 + 3 from by omega, e, show p * 3 + 3 + 1 = p * 3 + 1 + 3 from by omega, e, show p * 3 + 3 + 2 = p * 3 + 2 + 3 from by omega, e]
theorem prsL_nx (is : List Pr) (k : Nat) (p : Pr) (hp : is[k]? = some p) (x : Int) : (prsL is).set (k * 3 + 1) (.int .i64 x) = prsL (is.set k ⟨p.id, x, p.mt⟩) := by
  obtain ⟨c0, c1, c2⟩ := prsL_at is k p hp
  rw [← prsL_set is k ⟨p.id, x, p.mt⟩ (List.getElem?_eq_some_iff.1 hp).1]
  dsimp only
  rw [list_set_same _ _ _ c0]
  exact (list_set_same _ _ _ (by rw [List.getElem?_set_ne (by omega)]; exact c2)).symm
theorem prsL_mt (is : List Pr) (k : Nat) (p : Pr) (hp : is[k]? = some p) (x : Int) : (prsL is).set (k * 3 + 2) (.int .i64 x) = prsL (is.set k ⟨p.id, p.nx, x⟩) := by
  obtain ⟨c0, c1, c2⟩ := prsL_at is k p hp
  rw [← prsL_set is k ⟨p.id, p.nx, x⟩ (List.getElem?_eq_some_iff.1 hp).1]
  dsimp only
  rw [list_set_same _ _ _ c0, list_set_same _ _ _ c1]
def OwnP (w : World) (B g c n : Nat) (ps : List Pr) : Prop := w.ownsRow B 53 3 (.slice (some ⟨g, 0, none⟩) n c) n (prsL ps)
section
variable {w w' : World} {B g c n : Nat} {ps : List Pr} {p : Pr} {k : Nat}
theorem OwnP.len (h : OwnP w B g c n ps) : ps.length = n := by
  have := h.1
  rw [prsL_len] at this
  omega
theorem OwnP.keep (h : OwnP w B g c n ps) (hb : Below w.heap.size w w') : OwnP w' B g c n ps :=
  World.ownsRow.kept (row := none) h ⟨hb.os, hb.tape, hb.output, hb.size, fun i hi _ => hb.block i hi⟩ (.inr (by simp [Value.ownBlock]))
theorem OwnP.cells_ (h : OwnP w B g c n ps) (hp : ps[k]? = some p) :
    w.cell? ⟨g, k * 3, none⟩ = some (.int .i64 p.id) ∧ w.cell? ⟨g, k * 3 + 1, none⟩ = some (.int .i64 p.nx) ∧ w.cell? ⟨g, k * 3 + 2, none⟩ = some (.int .i64 p.mt) ∧ w.frozen? ⟨g, k * 3 + 1, none⟩ = false ∧ w.frozen? ⟨g, k * 3 + 2, none⟩ = false := by
  obtain ⟨c0, c1, c2⟩ := prsL_at ps k p hp
  have hk : k < n := by rw [← h.len]; exact (List.getElem?_eq_some_iff.1 hp).1
  exact ⟨(World.ownsRow.cellAt h _ (by omega)).trans c0, (World.ownsRow.cellAt h _ (by omega)).trans c1, (World.ownsRow.cellAt h _ (by omega)).trans c2, World.ownsRow.frozenAt h _, World.ownsRow.frozenAt h _⟩
theorem OwnP.nx (h : OwnP w B g c n ps) (hp : ps[k]? = some p) (x : Int) : OwnP (w.setCell ⟨g, k * 3 + 1, none⟩ (.int .i64 x)) B g c n (ps.set k ⟨p.id, x, p.mt⟩) := by
  unfold OwnP
  rw [← prsL_nx ps k p hp x]
  exact (World.ownsRow.stored h (k * 3 + 1) (.int .i64 x)).1
theorem OwnP.mt (h : OwnP w B g c n ps) (hp : ps[k]? = some p) (x : Int) : OwnP (w.setCell ⟨g, k * 3 + 2, none⟩ (.int .i64 x)) B g c n (ps.set k ⟨p.id, p.nx, x⟩) := by
  unfold OwnP
  rw [← prsL_mt ps k p hp x]
  exact (World.ownsRow.stored h (k * 3 + 2) (.int .i64 x)).1
theorem OwnP.lt (h : OwnP w B g c n ps) : g < w.heap.size ∧ B ≤ g := by
  have := World.ownsRow.lt h g rfl
  exact ⟨this.2, this.1⟩
theorem OwnP.far (h : OwnP w B g c n ps) {g' : Nat} {t : TypeId} {cs : Array Value} (hg : Blk w g' t cs) (hne : 53 ≠ t) (i : Nat) (u : Value) : OwnP (w.setCell ⟨g', i, none⟩ u) B g c n ps := own_far h hg hne i u
theorem OwnP.prs {B' : Nat} (h : OwnP w B g c n ps) : Prs w B' (some ⟨g, 0, none⟩) n ps := Reads.of_own h
/-- boxes that are no rows of peers stay behind a store into the row -/
theorem Bxs.row {B' : Nat} {l : List Bx} (hB : Bxs B' w l) (h : OwnP w B g c n ps) (hl : ∀ b ∈ l, b.t ≠ 53) (i : Nat) (u : Value) : Bxs B' (w.setCell ⟨g, i, none⟩ u) l := by
  refine ⟨fun b hb => ⟨(hB.1 b hb).1.far ?_ u, (hB.1 b hb).2⟩, hB.2⟩
  have := own_ne h (hB.1 b hb).1 (fun e => hl b hb e.symm)
  intro e
  exact this (by simp only [Value.ownBlock]; rw [e])
end
/-- the row's own block -/
theorem own_box {w : World} {B n c : Nat} {A : Option Addr} {ps : List Pr} (h : w.ownsRow B 53 3 (.slice A n c) n (prsL ps)) (hn : 0 < n) : ∃ g, A = some ⟨g, 0, none⟩ ∧ OwnP w B g c n ps := by
  rcases h.2 with ⟨e, _⟩ | ⟨g, cap, cur, e, h2⟩
  · simp only [Value.slice.injEq] at e
    omega
  · simp only [Value.slice.injEq] at e
    obtain ⟨rfl, _, rfl⟩ := e
    exact ⟨g, rfl, h⟩
theorem prs_cells {w : World} {B g n k : Nat} {ps : List Pr} {p : Pr} (h : Prs w B (some ⟨g, 0, none⟩) n ps) (hp : ps[k]? = some p) :
    w.cell? ⟨g, k * 3, none⟩ = some (.int .i64 p.id) ∧ w.cell? ⟨g, k * 3 + 1, none⟩ = some (.int .i64 p.nx) ∧ w.cell? ⟨g, k * 3 + 2, none⟩ = some (.int .i64 p.mt) := by
  have hk : k < n := by rw [← h.len]; exact (List.getElem?_eq_some_iff.1 hp).1
  obtain ⟨b, o, e, _, _, hc⟩ := h.2 (by omega)
  injection e with e
  injection e with e1 e2 _
  subst e1 e2
  obtain ⟨c0, c1, c2⟩ := prsL_at ps k p hp
  have h0 := hc _ _ c0
  have h1 := hc _ _ c1
  have h2 := hc _ _ c2
  rw [Nat.zero_add] at h0 h1 h2
  exact ⟨h0, h1, h2⟩
theorem nd_same {w : World} {B : Nat} {N N' : Nd} {a : NdA} (h : NdOk w B N a) (h1 : N'.h = N.h) (h2 : N'.got = N.got) (h3 : N'.ps = N.ps) : NdOk w B N' a :=
  ⟨by rw [h1]; exact h.recs, h.rc, h.rb, by rw [h1]; exact h.vs, h.vc, h.vb, by rw [h1]; exact h.sb, by rw [h2]; exact h.got, h.gc, h.gb, by rw [h3]; exact h.ps, h.pc, h.pb⟩
theorem idxP_find (fr : Int) : ∀ (ps : List Pr) (j : Nat), (∃ (k : Nat) (p : Pr), idxP fr j ps = ((j + k : Nat) : Int) ∧ ps[k]? = some p ∧ findP fr ps = some p ∧ ∀ q, setP fr q ps = ps.set k q) ∨ (idxP fr j ps = -1 ∧ findP fr ps = none)
  | [], j => .inr ⟨rfl, rfl⟩
  | p :: ps, j => by
    by_cases h : p.id = fr
    · refine .inl ⟨0, p, ?_, rfl, ?_, fun q => ?_⟩
      · rw [idxP, if_pos h]; rfl
      · rw [findP, if_pos h]
      · rw [setP, if_pos h]; rfl
    · rw [idxP, findP, if_neg h, if_neg h]
      rcases idxP_find fr ps (j + 1) with ⟨k, q, h1, h2, h3, h4⟩ | ⟨h1, h2⟩
      · refine .inl ⟨k + 1, q, by rw [h1]; omega, by simpa using h2, h3, fun x => ?_⟩
        rw [setP, if_neg h, h4]
        rfl
      · exact .inr ⟨h1, h2⟩
/-- all that is asked of an answer but for the peer -/
def fitT (N : Nd) (M : Ms) : Bool := toldE N M 4 && (M.term == N.h.t && (N.role == 2 && !(M.ok && decide (lastJ N.h.l < M.index))))
theorem fitC_T (N : Nd) (M : Ms) : fitC N M = (fitT N M && (findP M.fr N.ps).isSome) := by
  unfold fitC fitT
  rw [toldC_E]
  have : (M.term == N.h.t) = (decide (M.term ≤ N.h.t) && decide (N.h.t ≤ M.term)) := by
    rw [Bool.eq_iff_iff]
    simp only [beq_iff_eq, Bool.and_eq_true, decide_eq_true_eq]
    omega
  rw [this]
  cases toldE N M 4 <;> cases decide (M.term ≤ N.h.t) <;> cases decide (N.h.t ≤ M.term) <;> cases (N.role == 2) <;> simp
theorem fit_no {N : Nd} {M : Ms} (h : fitT N M = false ∨ findP M.fr N.ps = none) : fitN N M = N ∧ fitL N M = [] := by
  have hc : fitC N M = false := by
    rw [fitC_T]
    rcases h with h | h
    · rw [h]; rfl
    · rw [h]; simp
  unfold fitN fitL
  rw [hc]
  exact ⟨rfl, rfl⟩
theorem fit_yes {N : Nd} {M : Ms} {p : Pr} (h : fitT N M = true) (hp : findP M.fr N.ps = some p) : fitC N M = true := by
  rw [fitC_T, h, hp]
  rfl
end Go.Proofs.YtncdjmpdbinanaaGreatDoor
