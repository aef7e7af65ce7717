/-
  WHAT IS PROVED HERE: what the reference's Fit hands back of a node that may be. Conditions: the slices are of at most 2^47 bytes.
-/
import Derived.Test.YtncdjmpdbinanaaGreatDoorZGEw
import Derived.Test.YtncdjmpdbinanaaGreatDoorZRto
import Derived.Test.YtncdjmpdbinanaaGreatDoorZGSr
import Derived.Test.YtncdjmpdbinanaaGreatDoorZGRon
import Derived.Test.YtncdjmpdbinanaaGreatDoorZGNd
import Derived.Deep.DeepCutAuto
namespace Go.Proofs.YtncdjmpdbinanaaGreatDoor
open Go.RowKit

theorem Bxs.own {w w' : World} {base B e size n : Nat} {v : Value} {xs : List Value} {l : List Bx} (hB : Bxs B w l) (h : w.ownsRow base e size v n xs) (hl : ∀ b ∈ l, b.t ≠ e) (hg : w.grownBy w' v.ownBlock) : Bxs B w' l :=
  hB.grown hg (fun b hb => own_ne h (hB.1 b hb).1 (fun x => hl b hb x.symm))
theorem Bxs.rowN {w : World} {B gp : Nat} {l : List Bx} (hB : Bxs B w l) (hl : ∀ b ∈ l, b.g ≠ gp) (i : Nat) (u : Value) : Bxs B (w.setCell ⟨gp, i, none⟩ u) l :=
  ⟨fun b hb => ⟨(hB.1 b hb).1.far (hl b hb) u, (hB.1 b hb).2⟩, hB.2⟩
theorem OwnP.to {w w' : World} {B g c n : Nat} {ps : List Pr} (h : OwnP w B g c n ps) (hb : Below w.heap.size w w') : OwnP w' B g c n ps := h.keep hb
theorem OwnP.farN {w : World} {B g c n : Nat} {ps : List Pr} (h : OwnP w B g c n ps) {g' : Nat} (hne : g' ≠ g) (i : Nat) (u : Value) : OwnP (w.setCell ⟨g', i, none⟩ u) B g c n ps := by
  obtain ⟨h1, h2⟩ := h
  refine ⟨h1, ?_⟩
  rcases h2 with h2 | ⟨g2, cap, cur, e, hb, hh, r⟩
  · exact .inl h2
  · have e2 : g = g2 := by
      simp only [Value.slice.injEq, Option.some.injEq, Addr.mk.injEq] at e
      exact e.1.1
    subst e2
    exact .inr ⟨g, cap, cur, e, hb, (Below.heap_setCell w ⟨g', i, none⟩ u g (fun x => hne x.symm)).trans hh, r⟩
theorem OwnP.put {w : World} {B g c n k : Nat} {ps : List Pr} {p : Pr} (h : OwnP w B g c n ps) (hp : ps[k]? = some p) (q : Pr) :
    OwnP (((w.setCell ⟨g, k * 3, none⟩ (.int .i64 q.id)).setCell ⟨g, k * 3 + 1, none⟩ (.int .i64 q.nx)).setCell ⟨g, k * 3 + 2, none⟩ (.int .i64 q.mt)) B g c n (ps.set k q) := by
  unfold OwnP
  rw [← prsL_set ps k q (List.getElem?_eq_some_iff.1 hp).1]
  exact (World.ownsRow.stored (World.ownsRow.stored (World.ownsRow.stored h (k * 3) (.int .i64 q.id)).1 (k * 3 + 1) (.int .i64 q.nx)).1 (k * 3 + 2) (.int .i64 q.mt)).1
theorem idxP_some {fr : Int} {ps : List Pr} (h : ∃ p, findP fr ps = some p) : ∃ (k : Nat) (p : Pr), idxP fr 0 ps = (k : Int) ∧ ps[k]? = some p ∧ findP fr ps = some p ∧ ∀ q, setP fr q ps = ps.set k q := by
  rcases idxP_find fr ps 0 with ⟨k, p, h1, h2, h3, h4⟩ | ⟨_, h2⟩
  · exact ⟨k, p, by rw [h1]; omega, h2, h3, h4⟩
  · obtain ⟨p, hp⟩ := h
    rw [h2] at hp
    cases hp
theorem nd_ps {w : World} {B c : Nat} {N N' : Nd} {a : NdA} {A : Option Addr} (h : NdOk w B N a) (h1 : N'.h = N.h) (h2 : N'.got = N.got) (h3 : Prs w B A a.P.n N'.ps) (hc : a.P.n ≤ c) : NdOk w B N' ⟨a.R, a.V, a.G, ⟨A, a.P.n, c⟩⟩ :=
  ⟨by rw [h1]; exact h.recs, h.rc, h.rb, by rw [h1]; exact h.vs, h.vc, h.vb, by rw [h1]; exact h.sb, by rw [h2]; exact h.got, h.gc, h.gb, h3, hc, h.pb⟩
theorem fitC_no {N : Nd} {M : Ms} (h : fitC N M = false) : fitN N M = N ∧ fitL N M = [] := by
  unfold fitN fitL
  rw [h]
  exact ⟨rfl, rfl⟩
theorem fitC_ref {N : Nd} {M : Ms} (h : rightN N = true) : fitC N M = (toM N M 4 && (M.term == N.h.t && (N.role == 2 && (!(decide (idxP M.fr 0 N.ps < 0)) && !(M.ok && decide (lastJ N.h.l < M.index)))))) := by
  have e : (findP M.fr N.ps).isSome = !(decide (idxP M.fr 0 N.ps < 0)) := by
    rcases idxP_find M.fr N.ps 0 with ⟨k, p, h1, _, h3, _⟩ | ⟨h1, h2⟩
    · rw [h3, h1, show decide (((0 + k : Nat) : Int) < 0) = false from by rw [decide_eq_false_iff_not]; omega]
      rfl
    · rw [h2, h1]
      rfl
  rw [fitC_T, e]
  unfold fitT toldE toM
  rw [h]
  generalize decide (idxP M.fr 0 N.ps < 0) = s1
  generalize (M.ok && decide (lastJ N.h.l < M.index)) = s2
  generalize (M.term == N.h.t) = s3
  generalize (N.role == 2) = s4
  cases mayM M <;> cases (M.kind == 4) <;> cases (M.to == N.id) <;> cases s1 <;> cases s2 <;> cases s3 <;> cases s4 <;> rfl
set_option maxRecDepth 100000 in
set_option maxHeartbeats 12800000 in
theorem RFit1_any (N : Nd) (a : NdA) (M : Ms) (ok : Bool) (b : MsA) (w : World) {B : Nat} (_hBw : B ≤ w.heap.size) (hzr : rightN N = true) (hN : NdOk w B N a) (hM : MsOk w B ⟨M.kind, M.fr, M.to, M.term, ok, M.index, M.lterm, M.rs, M.commit, M.s, M.vs⟩ b) (hK : fitC N ⟨M.kind, M.fr, M.to, M.term, ok, M.index, M.lterm, M.rs, M.commit, M.s, M.vs⟩ = false) :
    Calls Tryz.prog 32 #[nodeV N a, msgV ⟨M.kind, M.fr, M.to, M.term, ok, M.index, M.lterm, M.rs, M.commit, M.s, M.vs⟩ b] w (RetNMs w B (fitN N ⟨M.kind, M.fr, M.to, M.term, ok, M.index, M.lterm, M.rs, M.commit, M.s, M.vs⟩) (fitL N ⟨M.kind, M.fr, M.to, M.term, ok, M.index, M.lterm, M.rs, M.commit, M.s, M.vs⟩)) := by
  obtain ⟨z, hz⟩ : ∃ x, toM N ⟨M.kind, M.fr, M.to, M.term, ok, M.index, M.lterm, M.rs, M.commit, M.s, M.vs⟩ 4 = x := ⟨_, rfl⟩
  obtain ⟨ix, hixe⟩ : ∃ x, idxP M.fr 0 N.ps = x := ⟨_, rfl⟩
  obtain ⟨la, hla⟩ : ∃ x, lastJ N.h.l = x := ⟨_, rfl⟩
  obtain ⟨zl, hzl⟩ : ∃ x, decide (la < M.index) = x := ⟨_, rfl⟩
  have hT : Hid (fitC N ⟨M.kind, M.fr, M.to, M.term, ok, M.index, M.lterm, M.rs, M.commit, M.s, M.vs⟩ = (z && (M.term == N.h.t && (N.role == 2 && (!(decide (ix < 0)) && !(ok && zl)))))) := by
    rw [Hid, fitC_ref hzr, ← hz, ← hzl, ← hla, ← hixe]
  have hr : Hid (rightN N = true) := hzr
  have hTo := fun (w : World) (h2 : MsOk w B ⟨M.kind, M.fr, M.to, M.term, ok, M.index, M.lterm, M.rs, M.commit, M.s, M.vs⟩ b) => RTo_any N a ⟨M.kind, M.fr, M.to, M.term, ok, M.index, M.lterm, M.rs, M.commit, M.s, M.vs⟩ b 4 w h2
  rw [hz] at hTo
  have hLA := fun (w : World) (h : NdOk w B N a) => RLastN_any N a w h (right_n hzr).1
  rw [hla] at hLA
  have hPE := fun (w : World) (h : Prs w B a.P.A a.P.n N.ps) => RPeer_any N.ps M.fr a.P.A a.P.n a.P.c w h (by have := hN.pb; omega)
  rw [hixe] at hPE
  have hpb := hN.pb
  replace hixe := hid_mk hixe
  replace hz := hid_mk hz
  replace hla := hid_mk hla
  clear hzr
  replace hK := hid_mk hK
  unfold nodeV at hTo hLA ⊢
  unfold msgV at hTo ⊢
  dsimp only at hTo ⊢
  obtain ⟨w0, hw0⟩ : ∃ x, (((w.alloc (.cells (ndC N a) 30)).alloc (.cells (msC ⟨M.kind, M.fr, M.to, M.term, ok, M.index, M.lterm, M.rs, M.commit, M.s, M.vs⟩ b) 32)).alloc (.cells (ndC zeroN nilA) 30)) = x := ⟨_, rfl⟩
  have hB : Hid (Bxs w.heap.size w0 [⟨w.heap.size + 1 + 1, 30, ndC zeroN nilA⟩, ⟨w.heap.size + 1, 32, msC ⟨M.kind, M.fr, M.to, M.term, ok, M.index, M.lterm, M.rs, M.commit, M.s, M.vs⟩ b⟩, ⟨w.heap.size, 30, ndC N a⟩]) := by
    rw [← hw0]
    exact ((((Bxs.nil w.heap.size w).add_ rfl (by omega) 30 (ndC N a)).add_ (by simp) (by omega) 32 (msC ⟨M.kind, M.fr, M.to, M.term, ok, M.index, M.lterm, M.rs, M.commit, M.s, M.vs⟩ b)).add_ (by simp) (by omega) 30 (ndC zeroN nilA))
  have q0 : Below w.heap.size w w0 := by rw [← hw0]; go_grown
  have z0 := q0.size
  dsimp only [ndC, msC, zeroN, nilA, zeroM, nilMA] at hw0
  refine calls_of_wpQ Tryz.func32 rfl ?_
  intro Q hQ
  simp only [Tryz.ntmps32, List.size_toArray, List.length_cons, List.length_nil, Nat.reduceAdd, Nat.reduceSub, Array.replicate_succ, Array.replicate_zero, List.push_toArray, List.append_toArray, List.nil_append, List.cons_append]
  go_upto_region 1 with fail
  try rw [hw0]
  clear hw0
  have lX := blk14c (hB.out.at_ 2 rfl)
  have lM := blk11v (hB.out.at_ 1 rfl)
  go_wp2_with fail
  clear lX lM
  refine (hPE _ (hN.ps.to q0)).mono ?_
  rintro e w1 ⟨rfl, hb1⟩
  have q1 := (after (w := w) hb1 q0).1
  have z1 := q1.size
  replace hB := hid_mk (hB.out.keep hb1)
  clear hb1 q0 z0
  clear hPE
  have lX := blk14f (hB.out.at_ 2 rfl)
  have lM := blk11f (hB.out.at_ 1 rfl)
  go_upto_region 2 with fail
  clear lX lM
  go_cut [47] from 16 to 48 (fun p47 wx => ∃ g : Bool, p47 = .bool g ∧ Below w.heap.size w wx ∧ Hid (Bxs w.heap.size wx [⟨w.heap.size + 1 + 1, 30, ndC zeroN nilA⟩, ⟨w.heap.size + 1, 32, msC ⟨M.kind, M.fr, M.to, M.term, ok, M.index, M.lterm, M.rs, M.commit, M.s, M.vs⟩ b⟩, ⟨w.heap.size, 30, ndC N a⟩]) ∧ Hid (fitC N ⟨M.kind, M.fr, M.to, M.term, ok, M.index, M.lterm, M.rs, M.commit, M.s, M.vs⟩ = !g))
  case first =>
    refine regm (fun w' => AtN w' w.heap.size N a ∧ AtM w' (w.heap.size + 1) ⟨M.kind, M.fr, M.to, M.term, ok, M.index, M.lterm, M.rs, M.commit, M.s, M.vs⟩ b) 32 32 [(0, 0), (0, 0), (3, 3), (4, 4), (12, 8), (16, 16), (48, 48), (16, 16), (144, 144), (272, 272), (592, 592), (1040, 1040), (2064, 2048), (4096, 4096), (12288, 12288), (20480, 20480), (36864, 36864), (69632, 65536), (131072, 131072), (393216, 393216), (655360, 655360), (1179648, 1048576), (2097152, 2097152), (6291456, 6291456), (10485760, 10485760), (16777216, 16777216), (50331648, 50331648), (16777216, 16777216), (150994944, 150994944), (352321536, 352321536), (555745280, 555745280), (1075838976, 1075838976)] (by exact And.intro ((hB.out.at_ 2 rfl).atN) ((hB.out.at_ 1 rfl).atM)) (fun hS0 hR => ?_)
    replace hB := hid_mk hB.out.drew
    have qd : Below w.heap.size w w1.drew := by go_grown
    obtain ⟨wd, hwd⟩ : ∃ x, w1.drew = x := ⟨_, rfl⟩
    rw [hwd] at hS0 hB  qd ⊢
    clear hwd q1 z1
    have zd := qd.size
    refine tkn (i := 0) hR hS0 (h := ?_)
    refine tkn (i := 1) hR hS0 (h := ?_)
    refine onem (i := 2) hR (h := fun K hK => ?_)
    go_simp
    refine (hTo _ (hM.to qd)).mono ?_
    rintro e wT ⟨rfl, hb1⟩
    have qT := (after (w := w) hb1 qd).1
    replace hB := hid_mk (hB.out.keep hb1)
    clear hb1 qd zd
    have hS1 := And.intro ((hB.out.at_ 2 rfl).atN) ((hB.out.at_ 1 rfl).atM)
    refine hK.out _ _ (fun _ => hS1) ?_
    clear hK K hS0
    have hS0 := hS1
    clear hS1
    refine tkn (i := 3) hR hS0 (h := ?_)
    refine tkn (i := 4) hR hS0 (h := ?_)
    cases z
    case false =>
      refine skm (i := 5) hR hS0 (h := ?_)
      simp only [Act.put]
      refine skm (i := 6) hR hS0 (h := ?_)
      refine skm (i := 7) hR hS0 (h := ?_)
      refine skm (i := 8) hR hS0 (h := ?_)
      refine skm (i := 9) hR hS0 (h := ?_)
      refine skm (i := 10) hR hS0 (h := ?_)
      simp only [Act.put]
      refine tkn (i := 11) hR hS0 (h := ?_)
      refine tkn (i := 12) hR hS0 (h := ?_)
      refine skm (i := 13) hR hS0 (h := ?_)
      refine skm (i := 14) hR hS0 (h := ?_)
      refine skm (i := 15) hR hS0 (h := ?_)
      simp only [Act.put]
      refine tkn (i := 16) hR hS0 (h := ?_)
      refine tkn (i := 17) hR hS0 (h := ?_)
      refine skm (i := 18) hR hS0 (h := ?_)
      refine skm (i := 19) hR hS0 (h := ?_)
      refine tkn (i := 20) hR hS0 (h := ?_)
      simp only [Act.put]
      refine tkn (i := 21) hR hS0 (h := ?_)
      refine skm (i := 22) hR hS0 (h := ?_)
      refine skm (i := 23) hR hS0 (h := ?_)
      refine skm (i := 24) hR hS0 (h := ?_)
      refine skm (i := 25) hR hS0 (h := ?_)
      simp only [Act.put]
      refine skm (i := 26) hR hS0 (h := ?_)
      refine skm (i := 27) hR hS0 (h := ?_)
      refine skm (i := 28) hR hS0 (h := ?_)
      refine skm (i := 29) hR hS0 (h := ?_)
      refine skm (i := 30) hR hS0 (h := ?_)
      simp only [Act.put]
      refine tkn (i := 31) hR hS0 (h := ?_)
      refine donem hR (h := ?_)
      try simp only [Act.put]
      go_wp2_with fail
      go_meet
      exact ⟨true, rfl, qT, hB, hid_mk (by rw [hT.out]; rfl)⟩
    case true =>
      refine tkn (i := 5) hR hS0 (h := ?_)
      simp only [Act.put]
      refine tkn (i := 6) hR hS0 (h := ?_)
      refine tkn (i := 7) hR hS0 (h := ?_)
      refine tkn (i := 8) hR hS0 (h := ?_)
      refine tkn (i := 9) hR hS0 (h := ?_)
      by_cases g1 : M.term = N.h.t
      case neg =>
        have g1b : (M.term == N.h.t) = false := by simpa using g1
        have g1c : (M.term != N.h.t) = true := by simpa using g1
        replace g1 := hid_mk g1
        have why := hid_mk (hT.out.trans (show _ = !true by rw [g1b]; rfl))
        refine tkn (i := 10) hR hS0 (h := ?_)
        simp only [Act.put]
        refine tkn (i := 11) hR hS0 (h := ?_)
        refine tkn (i := 12) hR hS0 (h := ?_)
        refine skm (i := 13) hR hS0 (h := ?_)
        refine skm (i := 14) hR hS0 (h := ?_)
        refine skm (i := 15) hR hS0 (h := ?_)
        simp only [Act.put]
        refine tkn (i := 16) hR hS0 (h := ?_)
        refine tkn (i := 17) hR hS0 (h := ?_)
        refine skm (i := 18) hR hS0 (h := ?_)
        refine skm (i := 19) hR hS0 (h := ?_)
        refine tkn (i := 20) hR hS0 (h := ?_)
        simp only [Act.put]
        refine tkn (i := 21) hR hS0 (h := ?_)
        refine skm (i := 22) hR hS0 (h := ?_)
        refine skm (i := 23) hR hS0 (h := ?_)
        refine skm (i := 24) hR hS0 (h := ?_)
        refine skm (i := 25) hR hS0 (h := ?_)
        simp only [Act.put]
        refine skm (i := 26) hR hS0 (h := ?_)
        refine skm (i := 27) hR hS0 (h := ?_)
        refine skm (i := 28) hR hS0 (h := ?_)
        refine skm (i := 29) hR hS0 (h := ?_)
        refine skm (i := 30) hR hS0 (h := ?_)
        simp only [Act.put]
        refine tkn (i := 31) hR hS0 (h := ?_)
        refine donem hR (h := ?_)
        try simp only [Act.put]
        go_wp2_with fail
        go_meet
        exact ⟨true, rfl, qT, hB, hid_mk (why.out)⟩
      case pos =>
        have g1b : (M.term == N.h.t) = true := by simpa using g1
        have g1c : (M.term != N.h.t) = false := by simpa using g1
        replace g1 := hid_mk g1
        refine tkn (i := 10) hR hS0 (h := ?_)
        simp only [Act.put]
        refine tkn (i := 11) hR hS0 (h := ?_)
        refine tkn (i := 12) hR hS0 (h := ?_)
        refine tkn (i := 13) hR hS0 (h := ?_)
        refine tkn (i := 14) hR hS0 (h := ?_)
        by_cases g2 : N.role = 2
        case neg =>
          have g2b : (N.role == 2) = false := by simpa using g2
          have g2c : (N.role != 2) = true := by simpa using g2
          replace g2 := hid_mk g2
          have why := hid_mk (hT.out.trans (show _ = !true by rw [g1b, g2b]; rfl))
          refine tkn (i := 15) hR hS0 (h := ?_)
          simp only [Act.put]
          refine tkn (i := 16) hR hS0 (h := ?_)
          refine tkn (i := 17) hR hS0 (h := ?_)
          refine skm (i := 18) hR hS0 (h := ?_)
          refine skm (i := 19) hR hS0 (h := ?_)
          refine tkn (i := 20) hR hS0 (h := ?_)
          simp only [Act.put]
          refine tkn (i := 21) hR hS0 (h := ?_)
          refine skm (i := 22) hR hS0 (h := ?_)
          refine skm (i := 23) hR hS0 (h := ?_)
          refine skm (i := 24) hR hS0 (h := ?_)
          refine skm (i := 25) hR hS0 (h := ?_)
          simp only [Act.put]
          refine skm (i := 26) hR hS0 (h := ?_)
          refine skm (i := 27) hR hS0 (h := ?_)
          refine skm (i := 28) hR hS0 (h := ?_)
          refine skm (i := 29) hR hS0 (h := ?_)
          refine skm (i := 30) hR hS0 (h := ?_)
          simp only [Act.put]
          refine tkn (i := 31) hR hS0 (h := ?_)
          refine donem hR (h := ?_)
          try simp only [Act.put]
          go_wp2_with fail
          go_meet
          exact ⟨true, rfl, qT, hB, hid_mk (why.out)⟩
        case pos =>
          have g2b : (N.role == 2) = true := by simpa using g2
          have g2c : (N.role != 2) = false := by simpa using g2
          replace g2 := hid_mk g2
          refine tkn (i := 15) hR hS0 (h := ?_)
          simp only [Act.put]
          refine tkn (i := 16) hR hS0 (h := ?_)
          refine tkn (i := 17) hR hS0 (h := ?_)
          refine tkn (i := 18) hR hS0 (h := ?_)
          by_cases g3 : ix < 0
          case pos =>
            have g3b : decide (ix < 0) = true := by simpa using g3
            replace g3 := hid_mk g3
            have why := hid_mk (hT.out.trans (show _ = !true by rw [g1b, g2b, g3b]; rfl))
            refine tkn (i := 19) hR hS0 (h := ?_)
            refine tkn (i := 20) hR hS0 (h := ?_)
            simp only [Act.put]
            refine tkn (i := 21) hR hS0 (h := ?_)
            refine skm (i := 22) hR hS0 (h := ?_)
            refine skm (i := 23) hR hS0 (h := ?_)
            refine skm (i := 24) hR hS0 (h := ?_)
            refine skm (i := 25) hR hS0 (h := ?_)
            simp only [Act.put]
            refine skm (i := 26) hR hS0 (h := ?_)
            refine skm (i := 27) hR hS0 (h := ?_)
            refine skm (i := 28) hR hS0 (h := ?_)
            refine skm (i := 29) hR hS0 (h := ?_)
            refine skm (i := 30) hR hS0 (h := ?_)
            simp only [Act.put]
            refine tkn (i := 31) hR hS0 (h := ?_)
            refine donem hR (h := ?_)
            try simp only [Act.put]
            go_wp2_with fail
            go_meet
            exact ⟨true, rfl, qT, hB, hid_mk (why.out)⟩
          case neg =>
            have g3b : decide (ix < 0) = false := by simpa using g3
            replace g3 := hid_mk g3
            refine tkn (i := 19) hR hS0 (h := ?_)
            refine tkn (i := 20) hR hS0 (h := ?_)
            simp only [Act.put]
            refine tkn (i := 21) hR hS0 (h := ?_)
            refine tkn (i := 22) hR hS0 (h := ?_)
            refine tkn (i := 23) hR hS0 (h := ?_)
            cases ok
            case false =>
              have why := hid_mk (hT.out.trans (show _ = !false by rw [g1b, g2b, g3b]; rfl))
              refine tkn (i := 24) hR hS0 (h := ?_)
              refine skm (i := 25) hR hS0 (h := ?_)
              simp only [Act.put]
              refine skm (i := 26) hR hS0 (h := ?_)
              refine skm (i := 27) hR hS0 (h := ?_)
              refine skm (i := 28) hR hS0 (h := ?_)
              refine skm (i := 29) hR hS0 (h := ?_)
              refine tkn (i := 30) hR hS0 (h := ?_)
              simp only [Act.put]
              refine tkn (i := 31) hR hS0 (h := ?_)
              refine donem hR (h := ?_)
              try simp only [Act.put]
              go_wp2_with fail
              go_meet
              exact ⟨false, rfl, qT, hB, hid_mk (why.out)⟩
            case true =>
              have why := hid_mk (hT.out.trans (show _ = !zl by rw [g1b, g2b, g3b]; rfl))
              refine tkn (i := 24) hR hS0 (h := ?_)
              refine tkn (i := 25) hR hS0 (h := ?_)
              simp only [Act.put]
              refine tkn (i := 26) hR hS0 (h := ?_)
              refine tkn (i := 27) hR hS0 (h := ?_)
              refine onem (i := 28) hR (h := fun K hK => ?_)
              go_simp
              refine (hLA _ (hN.to qT)).mono ?_
              rintro e wU ⟨rfl, hb1⟩
              have qU := (after (w := w) hb1 qT).1
              replace hB := hid_mk (hB.out.keep hb1)
              clear hb1 qT
              have hS1 := And.intro ((hB.out.at_ 2 rfl).atN) ((hB.out.at_ 1 rfl).atM)
              refine hK.out _ _ (fun _ => hS1) ?_
              clear hK K hS0
              have hS0 := hS1
              clear hS1
              refine tkn (i := 29) hR hS0 (h := ?_)
              refine tkn (i := 30) hR hS0 (h := ?_)
              refine tkn (i := 31) hR hS0 (h := ?_)
              simp only [Act.put]
              refine donem hR (h := ?_)
              try simp only [Act.put]
              go_wp2_with fail
              go_meet
              exact ⟨zl, rfl, qU, hB, hid_mk (why.out)⟩
  case rest =>
    clear hB q1 z1 hT hTo hLA
    obtain ⟨g, rfl, q2, hB, hg⟩ := hcut
    obtain ⟨w2, hwc⟩ : ∃ x, x = wc := ⟨wc, rfl⟩
    subst hwc
    have z2 := q2.size
    cases g
    case true =>
      have hno := hid_mk (fitC_no hg.out)
      have lX := blk14f (hB.out.at_ 2 rfl)
      have lY := blk14f (hB.out.at_ 0 rfl)
      have lM := blk11f (hB.out.at_ 1 rfl)
      go_wp2
      clear lX lY lM
      have kf := setN_blk (N := N) (a := a) (hB.out.at_ 0 rfl)
      unfold setN set14 at kf
      have rs := blk14c kf
      refine ends_ret hQ (v := .tuple #[.agg (ndC N a), .slice none 0 0]) (by simp [results, Tryz.results32, go_sem, rs, ndC]) rfl ?_
      exact ⟨a, none, 0, 0, [], by rw [hno.out.1]; rfl, by rw [hno.out.1]; exact hN.to (setN_below N a q2 (by omega)), mgs_nil, by rw [hno.out.2]; rfl, Nat.le_refl _, setN_below N a q2 (by omega)⟩
    have h := hg.out
    rw [hK.out] at h
    cases h
set_option maxRecDepth 100000 in
set_option maxHeartbeats 12800000 in
theorem RFit2_any (N : Nd) (a : NdA) (M : Ms) (ok : Bool) (b : MsA) (w : World) {B : Nat} (hBw : B ≤ w.heap.size) (hzr : rightN N = true) (hN : NdOk w B N a) (hM : MsOk w B ⟨M.kind, M.fr, M.to, M.term, ok, M.index, M.lterm, M.rs, M.commit, M.s, M.vs⟩ b) (hK : fitC N ⟨M.kind, M.fr, M.to, M.term, ok, M.index, M.lterm, M.rs, M.commit, M.s, M.vs⟩ = true) (hok : ok = false) :
    Calls Tryz.prog 32 #[nodeV N a, msgV ⟨M.kind, M.fr, M.to, M.term, ok, M.index, M.lterm, M.rs, M.commit, M.s, M.vs⟩ b] w (RetNMs w B (fitN N ⟨M.kind, M.fr, M.to, M.term, ok, M.index, M.lterm, M.rs, M.commit, M.s, M.vs⟩) (fitL N ⟨M.kind, M.fr, M.to, M.term, ok, M.index, M.lterm, M.rs, M.commit, M.s, M.vs⟩)) := by
  obtain ⟨z, hz⟩ : ∃ x, toM N ⟨M.kind, M.fr, M.to, M.term, ok, M.index, M.lterm, M.rs, M.commit, M.s, M.vs⟩ 4 = x := ⟨_, rfl⟩
  obtain ⟨ix, hixe⟩ : ∃ x, idxP M.fr 0 N.ps = x := ⟨_, rfl⟩
  obtain ⟨la, hla⟩ : ∃ x, lastJ N.h.l = x := ⟨_, rfl⟩
  obtain ⟨zl, hzl⟩ : ∃ x, decide (la < M.index) = x := ⟨_, rfl⟩
  have hT : Hid (fitC N ⟨M.kind, M.fr, M.to, M.term, ok, M.index, M.lterm, M.rs, M.commit, M.s, M.vs⟩ = (z && (M.term == N.h.t && (N.role == 2 && (!(decide (ix < 0)) && !(ok && zl)))))) := by
    rw [Hid, fitC_ref hzr, ← hz, ← hzl, ← hla, ← hixe]
  have hr : Hid (rightN N = true) := hzr
  have hTo := fun (w : World) (h2 : MsOk w B ⟨M.kind, M.fr, M.to, M.term, ok, M.index, M.lterm, M.rs, M.commit, M.s, M.vs⟩ b) => RTo_any N a ⟨M.kind, M.fr, M.to, M.term, ok, M.index, M.lterm, M.rs, M.commit, M.s, M.vs⟩ b 4 w h2
  rw [hz] at hTo
  have hLA := fun (w : World) (h : NdOk w B N a) => RLastN_any N a w h (right_n hzr).1
  rw [hla] at hLA
  have hPE := fun (w : World) (h : Prs w B a.P.A a.P.n N.ps) => RPeer_any N.ps M.fr a.P.A a.P.n a.P.c w h (by have := hN.pb; omega)
  rw [hixe] at hPE
  have hpb := hN.pb
  replace hixe := hid_mk hixe
  replace hz := hid_mk hz
  replace hla := hid_mk hla
  clear hzr
  have hKt := hid_mk hK
  clear hK
  replace hok := hid_mk hok
  unfold nodeV at hTo hLA ⊢
  unfold msgV at hTo ⊢
  dsimp only at hTo ⊢
  obtain ⟨w0, hw0⟩ : ∃ x, (((w.alloc (.cells (ndC N a) 30)).alloc (.cells (msC ⟨M.kind, M.fr, M.to, M.term, ok, M.index, M.lterm, M.rs, M.commit, M.s, M.vs⟩ b) 32)).alloc (.cells (ndC zeroN nilA) 30)) = x := ⟨_, rfl⟩
  have hB : Hid (Bxs w.heap.size w0 [⟨w.heap.size + 1 + 1, 30, ndC zeroN nilA⟩, ⟨w.heap.size + 1, 32, msC ⟨M.kind, M.fr, M.to, M.term, ok, M.index, M.lterm, M.rs, M.commit, M.s, M.vs⟩ b⟩, ⟨w.heap.size, 30, ndC N a⟩]) := by
    rw [← hw0]
    exact ((((Bxs.nil w.heap.size w).add_ rfl (by omega) 30 (ndC N a)).add_ (by simp) (by omega) 32 (msC ⟨M.kind, M.fr, M.to, M.term, ok, M.index, M.lterm, M.rs, M.commit, M.s, M.vs⟩ b)).add_ (by simp) (by omega) 30 (ndC zeroN nilA))
  have q0 : Below w.heap.size w w0 := by rw [← hw0]; go_grown
  have z0 := q0.size
  dsimp only [ndC, msC, zeroN, nilA, zeroM, nilMA] at hw0
  refine calls_of_wpQ Tryz.func32 rfl ?_
  intro Q hQ
  simp only [Tryz.ntmps32, List.size_toArray, List.length_cons, List.length_nil, Nat.reduceAdd, Nat.reduceSub, Array.replicate_succ, Array.replicate_zero, List.push_toArray, List.append_toArray, List.nil_append, List.cons_append]
  go_upto_region 1 with fail
  try rw [hw0]
  clear hw0
  have lX := blk14c (hB.out.at_ 2 rfl)
  have lM := blk11v (hB.out.at_ 1 rfl)
  go_wp2_with fail
  clear lX lM
  refine (hPE _ (hN.ps.to q0)).mono ?_
  rintro e w1 ⟨rfl, hb1⟩
  have q1 := (after (w := w) hb1 q0).1
  have z1 := q1.size
  replace hB := hid_mk (hB.out.keep hb1)
  clear hb1 q0 z0
  clear hPE
  have lX := blk14f (hB.out.at_ 2 rfl)
  have lM := blk11f (hB.out.at_ 1 rfl)
  go_upto_region 2 with fail
  clear lX lM
  go_cut [47] from 16 to 48 (fun p47 wx => ∃ g : Bool, p47 = .bool g ∧ Below w.heap.size w wx ∧ Hid (Bxs w.heap.size wx [⟨w.heap.size + 1 + 1, 30, ndC zeroN nilA⟩, ⟨w.heap.size + 1, 32, msC ⟨M.kind, M.fr, M.to, M.term, ok, M.index, M.lterm, M.rs, M.commit, M.s, M.vs⟩ b⟩, ⟨w.heap.size, 30, ndC N a⟩]) ∧ Hid (fitC N ⟨M.kind, M.fr, M.to, M.term, ok, M.index, M.lterm, M.rs, M.commit, M.s, M.vs⟩ = !g))
  case first =>
    refine regm (fun w' => AtN w' w.heap.size N a ∧ AtM w' (w.heap.size + 1) ⟨M.kind, M.fr, M.to, M.term, ok, M.index, M.lterm, M.rs, M.commit, M.s, M.vs⟩ b) 32 32 [(0, 0), (0, 0), (3, 3), (4, 4), (12, 8), (16, 16), (48, 48), (16, 16), (144, 144), (272, 272), (592, 592), (1040, 1040), (2064, 2048), (4096, 4096), (12288, 12288), (20480, 20480), (36864, 36864), (69632, 65536), (131072, 131072), (393216, 393216), (655360, 655360), (1179648, 1048576), (2097152, 2097152), (6291456, 6291456), (10485760, 10485760), (16777216, 16777216), (50331648, 50331648), (16777216, 16777216), (150994944, 150994944), (352321536, 352321536), (555745280, 555745280), (1075838976, 1075838976)] (by exact And.intro ((hB.out.at_ 2 rfl).atN) ((hB.out.at_ 1 rfl).atM)) (fun hS0 hR => ?_)
    replace hB := hid_mk hB.out.drew
    have qd : Below w.heap.size w w1.drew := by go_grown
    obtain ⟨wd, hwd⟩ : ∃ x, w1.drew = x := ⟨_, rfl⟩
    rw [hwd] at hS0 hB  qd ⊢
    clear hwd q1 z1
    have zd := qd.size
    refine tkn (i := 0) hR hS0 (h := ?_)
    refine tkn (i := 1) hR hS0 (h := ?_)
    refine onem (i := 2) hR (h := fun K hK => ?_)
    go_simp
    refine (hTo _ (hM.to qd)).mono ?_
    rintro e wT ⟨rfl, hb1⟩
    have qT := (after (w := w) hb1 qd).1
    replace hB := hid_mk (hB.out.keep hb1)
    clear hb1 qd zd
    have hS1 := And.intro ((hB.out.at_ 2 rfl).atN) ((hB.out.at_ 1 rfl).atM)
    refine hK.out _ _ (fun _ => hS1) ?_
    clear hK K hS0
    have hS0 := hS1
    clear hS1
    refine tkn (i := 3) hR hS0 (h := ?_)
    refine tkn (i := 4) hR hS0 (h := ?_)
    cases z
    case false =>
      have h := hT.out
      rw [hKt.out] at h
      simp at h
    case true =>
      refine tkn (i := 5) hR hS0 (h := ?_)
      simp only [Act.put]
      refine tkn (i := 6) hR hS0 (h := ?_)
      refine tkn (i := 7) hR hS0 (h := ?_)
      refine tkn (i := 8) hR hS0 (h := ?_)
      refine tkn (i := 9) hR hS0 (h := ?_)
      by_cases g1 : M.term = N.h.t
      case neg =>
        have g1b : (M.term == N.h.t) = false := by simpa using g1
        have g1c : (M.term != N.h.t) = true := by simpa using g1
        replace g1 := hid_mk g1
        have h := hT.out
        rw [hKt.out, g1b] at h
        simp at h
      case pos =>
        have g1b : (M.term == N.h.t) = true := by simpa using g1
        have g1c : (M.term != N.h.t) = false := by simpa using g1
        replace g1 := hid_mk g1
        refine tkn (i := 10) hR hS0 (h := ?_)
        simp only [Act.put]
        refine tkn (i := 11) hR hS0 (h := ?_)
        refine tkn (i := 12) hR hS0 (h := ?_)
        refine tkn (i := 13) hR hS0 (h := ?_)
        refine tkn (i := 14) hR hS0 (h := ?_)
        by_cases g2 : N.role = 2
        case neg =>
          have g2b : (N.role == 2) = false := by simpa using g2
          have g2c : (N.role != 2) = true := by simpa using g2
          replace g2 := hid_mk g2
          have h := hT.out
          rw [hKt.out, g1b, g2b] at h
          simp at h
        case pos =>
          have g2b : (N.role == 2) = true := by simpa using g2
          have g2c : (N.role != 2) = false := by simpa using g2
          replace g2 := hid_mk g2
          refine tkn (i := 15) hR hS0 (h := ?_)
          simp only [Act.put]
          refine tkn (i := 16) hR hS0 (h := ?_)
          refine tkn (i := 17) hR hS0 (h := ?_)
          refine tkn (i := 18) hR hS0 (h := ?_)
          by_cases g3 : ix < 0
          case pos =>
            have g3b : decide (ix < 0) = true := by simpa using g3
            replace g3 := hid_mk g3
            have h := hT.out
            rw [hKt.out, g1b, g2b, g3b] at h
            simp at h
          case neg =>
            have g3b : decide (ix < 0) = false := by simpa using g3
            replace g3 := hid_mk g3
            refine tkn (i := 19) hR hS0 (h := ?_)
            refine tkn (i := 20) hR hS0 (h := ?_)
            simp only [Act.put]
            refine tkn (i := 21) hR hS0 (h := ?_)
            refine tkn (i := 22) hR hS0 (h := ?_)
            refine tkn (i := 23) hR hS0 (h := ?_)
            cases ok
            case false =>
              have why := hid_mk (hT.out.trans (show _ = !false by rw [g1b, g2b, g3b]; rfl))
              refine tkn (i := 24) hR hS0 (h := ?_)
              refine skm (i := 25) hR hS0 (h := ?_)
              simp only [Act.put]
              refine skm (i := 26) hR hS0 (h := ?_)
              refine skm (i := 27) hR hS0 (h := ?_)
              refine skm (i := 28) hR hS0 (h := ?_)
              refine skm (i := 29) hR hS0 (h := ?_)
              refine tkn (i := 30) hR hS0 (h := ?_)
              simp only [Act.put]
              refine tkn (i := 31) hR hS0 (h := ?_)
              refine donem hR (h := ?_)
              try simp only [Act.put]
              go_wp2_with fail
              go_meet
              exact ⟨false, rfl, qT, hB, hid_mk (why.out)⟩
            case true =>
              exact absurd hok.out (by decide)
  case rest =>
    clear hB q1 z1 hT hTo hLA
    obtain ⟨g, rfl, q2, hB, hg⟩ := hcut
    obtain ⟨w2, hwc⟩ : ∃ x, x = wc := ⟨wc, rfl⟩
    subst hwc
    have z2 := q2.size
    cases g
    case true =>
      have h := hg.out
      rw [hKt.out] at h
      cases h
    clear hg
    have hfC : Hid (fitC N ⟨M.kind, M.fr, M.to, M.term, ok, M.index, M.lterm, M.rs, M.commit, M.s, M.vs⟩ = true) := hKt
    obtain ⟨k, p, hix, hk, hfp, hse⟩ := idxP_some (fit_parts hfC.out).2.2.2.2.2.2.2
    dsimp only at hix hfp hse
    have hix2 : ix = (k : Int) := by rw [← hixe.out, hix]
    have hlN := hN.ps.len
    have hkn : k < a.P.n := by rw [← hlN]; exact (List.getElem?_eq_some_iff.1 hk).1
    subst hix2
    have k0 : (0 : Int) ≤ k := by omega
    have k1 : (k : Int) < a.P.n := by omega
    have hp := (okPs_iff.1 (right_parts hr.out).2.2.2.2.2.2.2.2.2).1 p (findP_mem hfp).1
    have hcb := commit_bounds hr.out
    have hp9 := prs_len (right_parts hr.out).2.2.2.2.2.2.2.2.2
    have hpo := hid_mk (fitP_ok hfC.out hfp)
    have hmb := may_bounds (fit_parts hfC.out).2.1
    dsimp only at hmb
    replace hix := hid_mk hix
    replace hk := hid_mk hk
    replace hfp := hid_mk hfp
    replace hse := hid_mk hse
    obtain ⟨i0, hi0, hz0, hz1, hz2⟩ := info_parts prInfo
    obtain ⟨gD, hgD⟩ : ∃ g, w2.heap.size = g := ⟨_, rfl⟩
    have hyD : w.heap.size + 1 + 1 < gD := by rw [← hgD]; exact (hB.out.at_ 0 rfl).lt
    have own0 : Hid ((w2.alloc (.cells #[] 53)).ownsRow gD 53 3 (.slice (some ⟨gD, 0, none⟩) 0 0) 0 (prsL (N.ps.take 0))) := hid_mk (by rw [← hgD]; simpa [prsL] using World.ownsRow_lit (base := w2.heap.size) (e := 53) (size := 3) w2 #[] 0 (Nat.le_refl _) (by unfold maxLen; omega) (by simp))
    replace hB := hid_mk (hB.out.other (.cells #[] 53))
    have q3 := q2.alloc q2.size (.cells #[] 53)
    obtain ⟨w3, hw3⟩ : ∃ x, w2.alloc (.cells #[] 53) = x := ⟨_, rfl⟩
    rw [hw3] at own0 hB q3
    have hgw3 : gD ≤ w3.heap.size := by rw [← hw3]; simp only [World.size_alloc]; omega
    replace hw3 := hid_mk hw3
    replace hgD := hid_mk hgD
    have lX := blk14f (hB.out.at_ 2 rfl)
    have lM := blk11f (hB.out.at_ 1 rfl)
    go_upto_region 5 with fail
    try rw [hw3.out]
    try rw [hgD.out]
    clear lX lM hw3 hgD q2 z2
    have lX := blk14f (hB.out.at_ 2 rfl)
    go_wp2
    clear lX
    go_loopw [7, 53] (fun o iv wr => ∃ j : Nat, iv = .int .i64 j ∧ j ≤ a.P.n ∧ Below w.heap.size w wr ∧ Hid (wr.ownsRow gD 53 3 o j (prsL (N.ps.take j))) ∧ gD ≤ wr.heap.size ∧ Hid (Bxs w.heap.size wr [⟨w.heap.size + 1 + 1, 30, ndC zeroN nilA⟩, ⟨w.heap.size + 1, 32, msC ⟨M.kind, M.fr, M.to, M.term, ok, M.index, M.lterm, M.rs, M.commit, M.s, M.vs⟩ b⟩, ⟨w.heap.size, 30, ndC N a⟩])) (fun _ iv _ => a.P.n - (intOf iv).toNat)
    case atStart => exact ⟨0, rfl, Nat.zero_le _, q3, own0, hgw3, hB⟩
    case round =>
      clear own0 hB q3 hgw3
      obtain ⟨j, rfl, hj, qr, hown, hgw, hB⟩ := hrel
      have zr := qr.size
      obtain ⟨Ao, co, rfl, ho1, ho2⟩ := own_slice hown.out
      by_cases hjn : j < a.P.n
      · obtain ⟨bv, ov, x, hA, hbv, hdx, c0, c1, c2⟩ := (hN.ps.to qr).at_ hjn
        have hts : Hid (prsL (N.ps.take (j + 1)) = prsL (N.ps.take j) ++ prsL [x]) := by
          rw [Hid, take_snoc hdx]
          unfold prsL
          rw [List.flatMap_append]
        replace hdx := hid_mk hdx
        have hnew : Hid (Prs ((wr.alloc (.cells #[.int .i64 x.id, .int .i64 x.nx, .int .i64 x.mt] 53)).alloc (.cells #[.int .i64 x.id, .int .i64 x.nx, .int .i64 x.mt] 53)) 0 (some ⟨wr.heap.size + 1, 0, none⟩) 1 [x]) := by
          have h := reads_new (wr.alloc (.cells #[.int .i64 x.id, .int .i64 x.nx, .int .i64 x.mt] 53)) #[.int .i64 x.id, .int .i64 x.nx, .int .i64 x.mt] 53 1 3 0 rfl
          rw [World.size_alloc] at h
          exact h
        have hown2 := hid_mk ((hown.out.alloc (.cells #[.int .i64 x.id, .int .i64 x.nx, .int .i64 x.mt] 53)).alloc (.cells #[.int .i64 x.id, .int .i64 x.nx, .int .i64 x.mt] 53))
        have q2 : Below w.heap.size w ((wr.alloc (.cells #[.int .i64 x.id, .int .i64 x.nx, .int .i64 x.mt] 53)).alloc (.cells #[.int .i64 x.id, .int .i64 x.nx, .int .i64 x.mt] 53)) := by go_grown
        have hB2 := hid_mk ((hB.out.other (.cells #[.int .i64 x.id, .int .i64 x.nx, .int .i64 x.mt] 53)).other (.cells #[.int .i64 x.id, .int .i64 x.nx, .int .i64 x.mt] 53))
        have hgw2 : gD ≤ ((wr.alloc (.cells #[.int .i64 x.id, .int .i64 x.nx, .int .i64 x.mt] 53)).alloc (.cells #[.int .i64 x.id, .int .i64 x.nx, .int .i64 x.mt] 53)).heap.size := by simp only [World.size_alloc]; omega
        have lX := blk14c (hB.out.at_ 2 rfl)
        go_wp2_with (at_builtin; refine wpList_append_any _ rfl (.tmp 57) (.tmp 59) _ rfl gD 53 i0 _ 3 24 Tryz.underlying28 hi0 hz0 hz1 hz2 rfl (by omega) _ j _ rfl hown2.out 0 (some ⟨wr.heap.size + 1, 0, none⟩) 1 1 _ rfl hnew.out (pr_one _) (by simp only [maxLen]; omega) (by omega) hgw2 ?_; intro v1 wa hown3 hga hat3)
        clear lX
        have qa : Below w.heap.size w wa := grown_below q2 hga (fun k hk => by have := (World.ownsRow.lt hown2.out k hk).1; omega)
        have hBa := hid_mk (hB2.out.own hown2.out (by simp) hga)
        have hgwa : gD ≤ wa.heap.size := Nat.le_trans hgw2 hga.size
        have hrow : Hid (wa.ownsRow gD 53 3 v1 (j + 1) (prsL (N.ps.take (j + 1)))) := by
          rw [hts.out]
          exact hown3
        clear hown3 hga hat3 hnew hown2 hB2
        go_roundw
        case rel =>
          (repeat apply Exists.intro)
          first | refine ⟨⟨j + 1, rfl, by omega, qa, hrow, hgwa, hBa⟩, ?_⟩ | refine ⟨⟨j + 1, rfl, by omega, hrow, hBa⟩, ?_⟩ | refine ⟨⟨j + 1, rfl, by omega, hrow, hgwa, hBa⟩, ?_⟩
          repeat' (first | rfl | go_num | apply And.intro)
        case measure => simp [intOf]; omega
      have hjn2 : j = a.P.n := by omega
      subst hjn2
      have hown1 : wr.ownsRow gD 53 3 (.slice Ao a.P.n co) a.P.n (prsL N.ps) := by
        have h := hown.out
        rw [List.take_of_length_le (by omega)] at h
        exact h
      clear hown
      obtain ⟨gp, rfl, hO⟩ := own_box hown1 (by omega)
      clear hown1
      have hgp := hO.lt
      have hO5 := hO.cells_ hk.out
      have hO6 := World.ownsRow.frozenAt hO (k * 3)
      replace hO := hid_mk hO
      have lX := blk14c (hB.out.at_ 2 rfl)
      have lM := blk11v (hB.out.at_ 1 rfl)
      obtain ⟨gQ, hgQ⟩ : ∃ g, wr.heap.size = g := ⟨_, rfl⟩
      have lgQ : w.heap.size ≤ gQ := by rw [← hgQ]; exact qr.size
      have hpQ : gp < gQ := by rw [← hgQ]; exact hgp.1
      replace hB := hid_mk (hB.out.add_ hgQ lgQ 53 (#[.int .i64 p.id, .int .i64 p.nx, .int .i64 p.mt]))
      replace hO := hid_mk (hO.out.to ((Below.refl _ wr).alloc (Nat.le_refl _) (.cells (#[.int .i64 p.id, .int .i64 p.nx, .int .i64 p.mt]) 53)))
      have q5 := qr.alloc qr.size (.cells (#[.int .i64 p.id, .int .i64 p.nx, .int .i64 p.mt]) 53)
      obtain ⟨w5, hw5⟩ : ∃ x, wr.alloc (.cells (#[.int .i64 p.id, .int .i64 p.nx, .int .i64 p.mt]) 53) = x := ⟨_, rfl⟩
      rw [hw5] at hB hO q5
      try unfold ndC at hw5
      replace hw5 := hid_mk hw5
      replace hgQ := hid_mk hgQ
      go_upto_region 11 with fail
      try rw [hw5.out]
      try rw [hgQ.out]
      clear lX lM hw5 hgQ qr zr
      have z5 := q5.size
      clear hO5 hO6
      cases ok
      case true => exact absurd hok.out (by decide)
      have hPe : fitP N ⟨M.kind, M.fr, M.to, M.term, false, M.index, M.lterm, M.rs, M.commit, M.s, M.vs⟩ p = ⟨p.id, max (min (p.nx - 1) (M.index + 1)) (p.mt + 1), p.mt⟩ := rfl
      obtain ⟨X, hX⟩ : ∃ x, max (min (p.nx - 1) (M.index + 1)) (p.mt + 1) = x := ⟨_, rfl⟩
      obtain ⟨Z, hZ⟩ : ∃ x, p.mt = x := ⟨_, rfl⟩
      rw [hX, hZ] at hPe
      obtain ⟨PQ, hPQe⟩ : ∃ x, x = (⟨p.id, X, Z⟩ : Pr) := ⟨_, rfl⟩
      obtain ⟨N2, hN2e⟩ : ∃ x, x = psN N (setP M.fr PQ N.ps) := ⟨_, rfl⟩
      have hNr2 : Hid (rightN N2 = true) := by
        have h := fit_base hfC.out hfp.out
        rw [hPe, ← hPQe] at h
        rw [hN2e]
        exact h
      have hps : Hid (N2.ps = N.ps.set k PQ) := by rw [hN2e]; exact hse.out PQ
      have hhh : Hid (N2.h = N.h ∧ N2.got = N.got) := by rw [hN2e]; exact ⟨rfl, rfl⟩
      have hcs : ∀ aa, ndC N aa = ndC N2 aa := fun aa => by rw [hN2e]; rfl
      have hfin0 : fitN N ⟨M.kind, M.fr, M.to, M.term, false, M.index, M.lterm, M.rs, M.commit, M.s, M.vs⟩ = N2 ∧ fitL N ⟨M.kind, M.fr, M.to, M.term, false, M.index, M.lterm, M.rs, M.commit, M.s, M.vs⟩ = [sendM N2 PQ] := by
        have e1 : fitN N ⟨M.kind, M.fr, M.to, M.term, false, M.index, M.lterm, M.rs, M.commit, M.s, M.vs⟩ = N2 := by
          unfold fitN
          rw [if_pos hfC.out]
          simp only [hfp.out]
          rw [hPe, hN2e, hPQe]
          rfl
        refine ⟨e1, ?_⟩
        unfold fitL
        rw [if_pos hfC.out]
        simp only [hfp.out]
        rw [hPe, e1, hPQe]
        rfl
      have hNr := hNr2
      have hPQ : Hid (1 ≤ PQ.nx ∧ PQ.nx ≤ lastJ N2.h.l + 1) := by
        have h := hpo.out.2.1
        rw [hPe, ← hPQe] at h
        rw [hN2e]
        exact h
      obtain ⟨MS, hMS⟩ : ∃ x, sendM N2 PQ = x := ⟨_, rfl⟩
      rw [hMS] at hfin0
      have x1 : IntKind.i64.wrap (p.nx - 1) = p.nx - 1 := IntWalk.i64_in _ (by omega)
      have x2 : IntKind.i64.wrap (M.index + 1) = M.index + 1 := IntWalk.i64_in _ (by omega)
      have x3 : IntKind.i64.wrap (p.mt + 1) = p.mt + 1 := IntWalk.i64_in _ (by omega)
      replace hZ := hid_mk hZ
      replace hPe := hid_mk hPe
      replace hN2e := hid_mk hN2e
      replace hPQe := hid_mk hPQe
      replace hfin0 := hid_mk hfin0
      replace hMS := hid_mk hMS
      replace hX := hid_mk hX
      have lM := blk11f (hB.out.at_ 2 rfl)
      go_upto_if 67 with fail
      clear lM
      go_cut [] from 68 (fun wx => Below w.heap.size w wx ∧ Hid (Bxs w.heap.size wx [⟨gQ, 53, #[.int .i64 PQ.id, .int .i64 PQ.nx, .int .i64 PQ.mt]⟩, ⟨w.heap.size + 1 + 1, 30, ndC zeroN nilA⟩, ⟨w.heap.size + 1, 32, msC ⟨M.kind, M.fr, M.to, M.term, false, M.index, M.lterm, M.rs, M.commit, M.s, M.vs⟩ b⟩, ⟨w.heap.size, 30, ndC N a⟩]) ∧ Hid (OwnP wx gD gp co a.P.n N.ps))
      case first =>
        have lQ := blk3f (hB.out.at_ 0 rfl)
        have lM := blk11f (hB.out.at_ 2 rfl)
        go_upto_region 16 with fail
        clear lQ lM
        have hBn := hB.out.set 0 rfl 1 (.int .i64 (p.nx - 1))
        have hOn := hO.out.farN (g' := gQ) (by omega) 1 (.int .i64 (p.nx - 1))
        have q6 := q5.setCell (p := ⟨gQ, 1, none⟩) (by dsimp only; omega) (.int .i64 (p.nx - 1))
        obtain ⟨w6, hwz⟩ : ∃ x, w5.setCell ⟨gQ, 1, none⟩ (.int .i64 (p.nx - 1)) = x := ⟨_, rfl⟩
        rw [hwz] at hBn hOn q6
        try rw [hwz]
        clear hwz
        replace hB : Hid (Bxs w.heap.size w6 [⟨gQ, 53, #[.int .i64 p.id, .int .i64 (p.nx - 1), .int .i64 p.mt]⟩, ⟨w.heap.size + 1 + 1, 30, ndC zeroN nilA⟩, ⟨w.heap.size + 1, 32, msC ⟨M.kind, M.fr, M.to, M.term, false, M.index, M.lterm, M.rs, M.commit, M.s, M.vs⟩ b⟩, ⟨w.heap.size, 30, ndC N a⟩]) := hid_mk hBn
        replace hO := hid_mk hOn
        clear hBn hOn q5 z5
        have z6 := q6.size
        by_cases c1 : M.index + 1 < p.nx - 1
        case pos =>
          have d1 : decide (M.index + 1 < p.nx - 1) = true := by simpa using c1
          have lQ := blk3f (hB.out.at_ 0 rfl)
          have lM := blk11f (hB.out.at_ 2 rfl)
          go_upto_region 18 with fail
          clear lQ lM
          have hBn := hB.out.set 0 rfl 1 (.int .i64 (M.index + 1))
          have hOn := hO.out.farN (g' := gQ) (by omega) 1 (.int .i64 (M.index + 1))
          have q7 := q6.setCell (p := ⟨gQ, 1, none⟩) (by dsimp only; omega) (.int .i64 (M.index + 1))
          obtain ⟨w7, hwz⟩ : ∃ x, w6.setCell ⟨gQ, 1, none⟩ (.int .i64 (M.index + 1)) = x := ⟨_, rfl⟩
          rw [hwz] at hBn hOn q7
          try rw [hwz]
          clear hwz
          replace hB : Hid (Bxs w.heap.size w7 [⟨gQ, 53, #[.int .i64 p.id, .int .i64 (M.index + 1), .int .i64 p.mt]⟩, ⟨w.heap.size + 1 + 1, 30, ndC zeroN nilA⟩, ⟨w.heap.size + 1, 32, msC ⟨M.kind, M.fr, M.to, M.term, false, M.index, M.lterm, M.rs, M.commit, M.s, M.vs⟩ b⟩, ⟨w.heap.size, 30, ndC N a⟩]) := hid_mk hBn
          replace hO := hid_mk hOn
          clear hBn hOn q6 z6
          have z7 := q7.size
          by_cases c2 : (M.index + 1) ≤ p.mt
          case pos =>
            have d2 : decide ((M.index + 1) ≤ p.mt) = true := by simpa using c2
            have lQ := blk3f (hB.out.at_ 0 rfl)
            have lM := blk11f (hB.out.at_ 2 rfl)
            go_wp2_with fail
            clear lQ lM
            have hBn := hB.out.set 0 rfl 1 (.int .i64 (p.mt + 1))
            have hOn := hO.out.farN (g' := gQ) (by omega) 1 (.int .i64 (p.mt + 1))
            have q8 := q7.setCell (p := ⟨gQ, 1, none⟩) (by dsimp only; omega) (.int .i64 (p.mt + 1))
            obtain ⟨w8, hwz⟩ : ∃ x, w7.setCell ⟨gQ, 1, none⟩ (.int .i64 (p.mt + 1)) = x := ⟨_, rfl⟩
            rw [hwz] at hBn hOn q8
            try rw [hwz]
            clear hwz
            replace hB : Hid (Bxs w.heap.size w8 [⟨gQ, 53, #[.int .i64 p.id, .int .i64 (p.mt + 1), .int .i64 p.mt]⟩, ⟨w.heap.size + 1 + 1, 30, ndC zeroN nilA⟩, ⟨w.heap.size + 1, 32, msC ⟨M.kind, M.fr, M.to, M.term, false, M.index, M.lterm, M.rs, M.commit, M.s, M.vs⟩ b⟩, ⟨w.heap.size, 30, ndC N a⟩]) := hid_mk hBn
            replace hO := hid_mk hOn
            clear hBn hOn q7 z7
            have z8 := q8.size
            have hX2 := hX.out
            have hZ2 := hZ.out
            go_meet
            have e8 : p.mt + 1 = X := by omega
            have e9 : p.mt = Z := by omega
            rw [e8, e9] at hB
            rw [hPQe.out]
            exact ⟨q8, hB, hO⟩
          have d2 : decide ((M.index + 1) ≤ p.mt) = false := by simpa using c2
          have lQ := blk3f (hB.out.at_ 0 rfl)
          have lM := blk11f (hB.out.at_ 2 rfl)
          go_wp2_with fail
          clear lQ lM
          have hX2 := hX.out
          have hZ2 := hZ.out
          go_meet
          have e8 : (M.index + 1) = X := by omega
          have e9 : p.mt = Z := by omega
          rw [e8, e9] at hB
          rw [hPQe.out]
          exact ⟨q7, hB, hO⟩
        have d1 : decide (M.index + 1 < p.nx - 1) = false := by simpa using c1
        by_cases c2 : (p.nx - 1) ≤ p.mt
        case pos =>
          have d2 : decide ((p.nx - 1) ≤ p.mt) = true := by simpa using c2
          have lQ := blk3f (hB.out.at_ 0 rfl)
          have lM := blk11f (hB.out.at_ 2 rfl)
          go_wp2_with fail
          clear lQ lM
          have hBn := hB.out.set 0 rfl 1 (.int .i64 (p.mt + 1))
          have hOn := hO.out.farN (g' := gQ) (by omega) 1 (.int .i64 (p.mt + 1))
          have q7 := q6.setCell (p := ⟨gQ, 1, none⟩) (by dsimp only; omega) (.int .i64 (p.mt + 1))
          obtain ⟨w7, hwz⟩ : ∃ x, w6.setCell ⟨gQ, 1, none⟩ (.int .i64 (p.mt + 1)) = x := ⟨_, rfl⟩
          rw [hwz] at hBn hOn q7
          try rw [hwz]
          clear hwz
          replace hB : Hid (Bxs w.heap.size w7 [⟨gQ, 53, #[.int .i64 p.id, .int .i64 (p.mt + 1), .int .i64 p.mt]⟩, ⟨w.heap.size + 1 + 1, 30, ndC zeroN nilA⟩, ⟨w.heap.size + 1, 32, msC ⟨M.kind, M.fr, M.to, M.term, false, M.index, M.lterm, M.rs, M.commit, M.s, M.vs⟩ b⟩, ⟨w.heap.size, 30, ndC N a⟩]) := hid_mk hBn
          replace hO := hid_mk hOn
          clear hBn hOn q6 z6
          have z7 := q7.size
          have hX2 := hX.out
          have hZ2 := hZ.out
          go_meet
          have e8 : p.mt + 1 = X := by omega
          have e9 : p.mt = Z := by omega
          rw [e8, e9] at hB
          rw [hPQe.out]
          exact ⟨q7, hB, hO⟩
        have d2 : decide ((p.nx - 1) ≤ p.mt) = false := by simpa using c2
        have lQ := blk3f (hB.out.at_ 0 rfl)
        have lM := blk11f (hB.out.at_ 2 rfl)
        go_wp2_with fail
        clear lQ lM
        have hX2 := hX.out
        have hZ2 := hZ.out
        go_meet
        have e8 : (p.nx - 1) = X := by omega
        have e9 : p.mt = Z := by omega
        rw [e8, e9] at hB
        rw [hPQe.out]
        exact ⟨q6, hB, hO⟩
      case rest =>
        clear hB q5 z5 hO hX
        obtain ⟨q20, hB, hO⟩ := hcut
        obtain ⟨w20, hwc⟩ : ∃ x, x = wc := ⟨wc, rfl⟩
        subst hwc
        have z20 := q20.size
        have hO5 := hO.out.cells_ hk.out
        have hO6 := World.ownsRow.frozenAt hO.out (k * 3)
        have lQ := blk3f (hB.out.at_ 0 rfl)
        go_upto_region 21 with fail
        clear lQ hO5 hO6
        have hOn := hO.out.put hk.out PQ
        have hBn := ((hB.out.rowN (gp := gp) (by intro b hb; simp only [List.mem_cons, List.mem_nil_iff, or_false] at hb; rcases hb with rfl | rfl | rfl | rfl <;> (dsimp only; omega)) (k * 3) (.int .i64 PQ.id)).rowN (gp := gp) (by intro b hb; simp only [List.mem_cons, List.mem_nil_iff, or_false] at hb; rcases hb with rfl | rfl | rfl | rfl <;> (dsimp only; omega)) (k * 3 + 1) (.int .i64 PQ.nx)).rowN (gp := gp) (by intro b hb; simp only [List.mem_cons, List.mem_nil_iff, or_false] at hb; rcases hb with rfl | rfl | rfl | rfl <;> (dsimp only; omega)) (k * 3 + 2) (.int .i64 PQ.mt)
        have q21 := ((q20.setCell (p := ⟨gp, k * 3, none⟩) (by dsimp only; omega) (.int .i64 PQ.id)).setCell (p := ⟨gp, k * 3 + 1, none⟩) (by dsimp only; omega) (.int .i64 PQ.nx)).setCell (p := ⟨gp, k * 3 + 2, none⟩) (by dsimp only; omega) (.int .i64 PQ.mt)
        obtain ⟨w21, hwz⟩ : ∃ x, (((w20.setCell ⟨gp, k * 3, none⟩ (.int .i64 PQ.id)).setCell ⟨gp, k * 3 + 1, none⟩ (.int .i64 PQ.nx)).setCell ⟨gp, k * 3 + 2, none⟩ (.int .i64 PQ.mt)) = x := ⟨_, rfl⟩
        rw [hwz] at hOn hBn q21
        try rw [hwz]
        replace hB := hid_mk hBn
        replace hO := hid_mk hOn
        clear hwz hBn hOn q20 z20
        have z21 := q21.size
        have lX := blk14f (hB.out.at_ 3 rfl)
        go_upto_region 22 with fail
        clear lX
        have hBn := hB.out.set 3 rfl 13 (.slice (some ⟨gp, 0, none⟩) a.P.n co)
        have hOn := hO.out.farN (g' := w.heap.size) (by omega) 13 (.slice (some ⟨gp, 0, none⟩) a.P.n co)
        have q22 := q21.setCell (p := ⟨w.heap.size, 13, none⟩) (by dsimp only; omega) (.slice (some ⟨gp, 0, none⟩) a.P.n co)
        obtain ⟨w22, hwz⟩ : ∃ x, w21.setCell ⟨w.heap.size, 13, none⟩ (.slice (some ⟨gp, 0, none⟩) a.P.n co) = x := ⟨_, rfl⟩
        rw [hwz] at hOn hBn q22
        try rw [hwz]
        replace hB : Hid (Bxs w.heap.size w22 [⟨gQ, 53, #[.int .i64 PQ.id, .int .i64 PQ.nx, .int .i64 PQ.mt]⟩, ⟨w.heap.size + 1 + 1, 30, ndC zeroN nilA⟩, ⟨w.heap.size + 1, 32, msC ⟨M.kind, M.fr, M.to, M.term, false, M.index, M.lterm, M.rs, M.commit, M.s, M.vs⟩ b⟩, ⟨w.heap.size, 30, ndC N2 ⟨a.R, a.V, a.G, ⟨some ⟨gp, 0, none⟩, a.P.n, co⟩⟩⟩]) := by rw [← hcs]; exact hBn
        have hPz : Prs w22 B (some ⟨gp, 0, none⟩) a.P.n N2.ps := by rw [hps.out]; exact hOn.prs
        have hNz := hN.to q22
        have hNk : NdOk w22 B N2 ⟨a.R, a.V, a.G, ⟨some ⟨gp, 0, none⟩, a.P.n, co⟩⟩ := nd_ps hNz hhh.out.1 hhh.out.2 hPz ho1
        replace hNk := hid_mk hNk
        clear hNz hPz
        clear hwz hBn hOn hO q21 z21
        have z22 := q22.size
        have lX := blk14f (hB.out.at_ 3 rfl)
        have lM := blk11f (hB.out.at_ 2 rfl)
        go_upto_region 24 with fail
        clear lX lM
        refine regm (fun w' => AtM w' (w.heap.size + 1) ⟨M.kind, M.fr, M.to, M.term, false, M.index, M.lterm, M.rs, M.commit, M.s, M.vs⟩ b) 9 9 [(0, 0), (1, 1), (2, 2), (4, 4), (12, 12), (4, 4), (36, 36), (84, 84), (132, 132)] (by exact (hB.out.at_ 2 rfl).atM) (fun hS0 hR => ?_)
        replace hB := hid_mk hB.out.drew
        replace hNk := hid_mk (hNk.out.to (show Below w22.heap.size w22 w22.drew by go_grown))
        have qd : Below w.heap.size w w22.drew := by go_grown
        obtain ⟨wd, hwd⟩ : ∃ x, w22.drew = x := ⟨_, rfl⟩
        rw [hwd] at hS0 hB hNk qd ⊢
        clear hwd q22 z22
        have zd := qd.size
        refine tkn (i := 0) hR hS0 (h := ?_)
        refine tkn (i := 1) hR hS0 (h := ?_)
        refine tkn (i := 2) hR hS0 (h := ?_)
        refine skm (i := 3) hR hS0 (h := ?_)
        refine skm (i := 4) hR hS0 (h := ?_)
        simp only [Act.put]
        refine skm (i := 5) hR hS0 (h := ?_)
        refine skm (i := 6) hR hS0 (h := ?_)
        refine skm (i := 7) hR hS0 (h := ?_)
        refine tkn (i := 8) hR hS0 (h := ?_)
        refine donem hR (h := ?_)
        try simp only [Act.put]
        go_simp
        obtain ⟨w24, hwc⟩ : ∃ x, x = wd := ⟨wd, rfl⟩
        subst hwc
        have q24 := qd
        have z24 := q24.size
        clear qd zd
        have hfin := hid_mk (hfin0.out)
        have lX := blk14f (hB.out.at_ 3 rfl)
        have lY := blk14f (hB.out.at_ 1 rfl)
        have lQ := blk3f (hB.out.at_ 0 rfl)
        go_upto_region 26 with fail
        clear lX lY lQ
        refine regm (fun w' => AtN w' w.heap.size N2 ⟨a.R, a.V, a.G, ⟨some ⟨gp, 0, none⟩, a.P.n, co⟩⟩ ∧ w'.cell? ⟨gQ, 0, none⟩ = some (.int .i64 PQ.id) ∧ w'.cell? ⟨gQ, 1, none⟩ = some (.int .i64 PQ.nx) ∧ w'.cell? ⟨gQ, 2, none⟩ = some (.int .i64 PQ.mt)) 7 7 [(0, 0), (0, 0), (0, 0), (6, 6), (8, 8), (9, 1), (63, 16)] (by exact And.intro ((hB.out.at_ 3 rfl).atN) (And.intro ((hB.out.at_ 0 rfl).cell 0) (And.intro ((hB.out.at_ 0 rfl).cell 1) ((hB.out.at_ 0 rfl).cell 2)))) (fun hS0 hR => ?_)
        replace hB := hid_mk hB.out.drew
        replace hNk := hid_mk (hNk.out.to (show Below w24.heap.size w24 w24.drew by go_grown))
        have qd : Below w.heap.size w w24.drew := by go_grown
        obtain ⟨wd, hwd⟩ : ∃ x, w24.drew = x := ⟨_, rfl⟩
        rw [hwd] at hS0 hB hNk qd ⊢
        clear hwd q24 z24
        have zd := qd.size
        refine tkn (i := 0) hR hS0 (h := ?_)
        refine tkn (i := 1) hR hS0 (h := ?_)
        refine tkn (i := 2) hR hS0 (h := ?_)
        refine onem (i := 3) hR (h := fun K hK => ?_)
        go_simp
        refine (ROne_any N2 ⟨a.R, a.V, a.G, ⟨some ⟨gp, 0, none⟩, a.P.n, co⟩⟩ PQ _ (Nat.le_trans hBw qd.size) hNk.out hNr.out hPQ.out).mono ?_
        rw [hMS.out]
        rintro e wS ⟨bS, rfl, hok, hb1⟩
        have qS := (after (w := w) hb1 qd).1
        replace hB := hid_mk (hB.out.keep hb1)
        replace hNk := hid_mk (hNk.out.to hb1)
        replace hok := hid_mk hok
        unfold msgV
        clear hb1 qd zd
        have hS1 := And.intro ((hB.out.at_ 3 rfl).atN) (And.intro ((hB.out.at_ 0 rfl).cell 0) (And.intro ((hB.out.at_ 0 rfl).cell 1) ((hB.out.at_ 0 rfl).cell 2)))
        refine hK.out _ _ (fun _ => hS1) ?_
        clear hK K hS0
        have hS0 := hS1
        clear hS1
        have lY := blk14f (hB.out.at_ 1 rfl)
        refine twom (i := 4) (j := 5) hR (h := fun K hK => ?_) (h' := fun K hK => ?_)
        · go_simp
          clear lY
          obtain ⟨gS, hgS⟩ : ∃ g, wS.heap.size = g := ⟨_, rfl⟩
          have hL1 : Hid (Mgs (wS.alloc (.cells (msC MS bS) 32)) B (some ⟨gS, 0, none⟩) 1 [(MS, bS)]) := by rw [← hgS]; exact mgs_box (Blk.new _ _ _) (hok.out.to ((Below.refl _ wS).alloc (Nat.le_refl _) (.cells (msC MS bS) 32)))
          replace hB := hid_mk (hB.out.other (.cells (msC MS bS) 32))
          replace hNk := hid_mk (hNk.out.to ((Below.refl _ wS).alloc (Nat.le_refl _) (.cells (msC MS bS) 32)))
          have qA := qS.alloc qS.size (.cells (msC MS bS) 32)
          obtain ⟨wA, hwS⟩ : ∃ x, wS.alloc (.cells (msC MS bS) 32) = x := ⟨_, rfl⟩
          rw [hwS] at hL1 hB hNk qA
          unfold msC at hwS
          rw [hwS, hgS]
          clear hgS hwS hok
          have hS1 := And.intro ((hB.out.at_ 3 rfl).atN) (And.intro ((hB.out.at_ 0 rfl).cell 0) (And.intro ((hB.out.at_ 0 rfl).cell 1) ((hB.out.at_ 0 rfl).cell 2)))
          refine hK.out _ _ (fun _ => hS1) ?_
          clear hK K hS0
          have hS0 := hS1
          clear hS1
          have lY := blk14f (hB.out.at_ 1 rfl)
          refine onem (i := 5) hR (h := fun K hK => ?_)
          go_simp
          clear lY
          have hkr := setN_kr (B := B) N2 ⟨a.R, a.V, a.G, ⟨some ⟨gp, 0, none⟩, a.P.n, co⟩⟩ (hB.out.at_ 1 rfl) (by dsimp only; omega)
          replace hL1 := hid_mk (mgs_setN hL1.out (hB.out.at_ 1 rfl) (by dsimp only; omega) N2 ⟨a.R, a.V, a.G, ⟨some ⟨gp, 0, none⟩, a.P.n, co⟩⟩)
          replace hNk := hid_mk (hNk.out.kr hkr)
          clear hkr
          have qz := setN_below N2 ⟨a.R, a.V, a.G, ⟨some ⟨gp, 0, none⟩, a.P.n, co⟩⟩ qA (by omega : w.heap.size ≤ w.heap.size + 1 + 1)
          have hBn := hB.out.setN 1 rfl N2 ⟨a.R, a.V, a.G, ⟨some ⟨gp, 0, none⟩, a.P.n, co⟩⟩
          obtain ⟨wz, hwz⟩ : ∃ x, setN wA (w.heap.size + 1 + 1) N2 ⟨a.R, a.V, a.G, ⟨some ⟨gp, 0, none⟩, a.P.n, co⟩⟩ = x := ⟨_, rfl⟩
          rw [hwz] at hBn hNk qz hL1
          replace hB : Hid (Bxs w.heap.size wz [⟨gQ, 53, #[.int .i64 PQ.id, .int .i64 PQ.nx, .int .i64 PQ.mt]⟩, ⟨w.heap.size + 1 + 1, 30, ndC N2 ⟨a.R, a.V, a.G, ⟨some ⟨gp, 0, none⟩, a.P.n, co⟩⟩⟩, ⟨w.heap.size + 1, 32, msC ⟨M.kind, M.fr, M.to, M.term, false, M.index, M.lterm, M.rs, M.commit, M.s, M.vs⟩ b⟩, ⟨w.heap.size, 30, ndC N2 ⟨a.R, a.V, a.G, ⟨some ⟨gp, 0, none⟩, a.P.n, co⟩⟩⟩]) := hid_mk hBn
          clear hBn
          unfold setN set14 at hwz
          rw [hwz]
          clear hwz
          have hS1 := And.intro ((hB.out.at_ 3 rfl).atN) (And.intro ((hB.out.at_ 0 rfl).cell 0) (And.intro ((hB.out.at_ 0 rfl).cell 1) ((hB.out.at_ 0 rfl).cell 2)))
          refine hK.out _ _ (fun _ => hS1) ?_
          clear hK K hS0
          have hS0 := hS1
          clear hS1
          refine onem (i := 6) hR (h := fun K hK => ?_)
          go_simp
          have hS1 := And.intro ((hB.out.at_ 3 rfl).atN) (And.intro ((hB.out.at_ 0 rfl).cell 0) (And.intro ((hB.out.at_ 0 rfl).cell 1) ((hB.out.at_ 0 rfl).cell 2)))
          refine hK.out _ _ (fun _ => hS1) ?_
          clear hK K hS0
          have hS0 := hS1
          clear hS1
          refine donem hR (h := ?_)
          try simp only [Act.put]
          have lY := blk14c (hB.out.at_ 1 rfl)
          go_wp2
          refine ends_ret hQ (v := .tuple #[.agg (ndC N2 ⟨a.R, a.V, a.G, ⟨some ⟨gp, 0, none⟩, a.P.n, co⟩⟩), .slice (some ⟨gS, 0, none⟩) 1 1]) (by simp [results, Tryz.results32, go_sem, lY, ndC]) rfl ?_
          exact ⟨⟨a.R, a.V, a.G, ⟨some ⟨gp, 0, none⟩, a.P.n, co⟩⟩, some ⟨gS, 0, none⟩, 1, 1, [(MS, bS)], by rw [hfin.out.1]; rfl, by rw [hfin.out.1]; exact hNk.out, hL1.out, by rw [hfin.out.2]; rfl, Nat.le_refl _, qz⟩
        · go_simp
          clear lY
          have hkr := setN_kr (B := B) N2 ⟨a.R, a.V, a.G, ⟨some ⟨gp, 0, none⟩, a.P.n, co⟩⟩ (hB.out.at_ 1 rfl) (by dsimp only; omega)
          replace hok := hid_mk (hok.out.kr' hkr)
          replace hNk := hid_mk (hNk.out.kr hkr)
          clear hkr
          have qA := setN_below N2 ⟨a.R, a.V, a.G, ⟨some ⟨gp, 0, none⟩, a.P.n, co⟩⟩ qS (by omega : w.heap.size ≤ w.heap.size + 1 + 1)
          have hBn := hB.out.setN 1 rfl N2 ⟨a.R, a.V, a.G, ⟨some ⟨gp, 0, none⟩, a.P.n, co⟩⟩
          obtain ⟨wA, hwz⟩ : ∃ x, setN wS (w.heap.size + 1 + 1) N2 ⟨a.R, a.V, a.G, ⟨some ⟨gp, 0, none⟩, a.P.n, co⟩⟩ = x := ⟨_, rfl⟩
          rw [hwz] at hBn hNk qA hok
          replace hB : Hid (Bxs w.heap.size wA [⟨gQ, 53, #[.int .i64 PQ.id, .int .i64 PQ.nx, .int .i64 PQ.mt]⟩, ⟨w.heap.size + 1 + 1, 30, ndC N2 ⟨a.R, a.V, a.G, ⟨some ⟨gp, 0, none⟩, a.P.n, co⟩⟩⟩, ⟨w.heap.size + 1, 32, msC ⟨M.kind, M.fr, M.to, M.term, false, M.index, M.lterm, M.rs, M.commit, M.s, M.vs⟩ b⟩, ⟨w.heap.size, 30, ndC N2 ⟨a.R, a.V, a.G, ⟨some ⟨gp, 0, none⟩, a.P.n, co⟩⟩⟩]) := hid_mk hBn
          clear hBn
          unfold setN set14 at hwz
          rw [hwz]
          clear hwz
          have hS1 := And.intro ((hB.out.at_ 3 rfl).atN) (And.intro ((hB.out.at_ 0 rfl).cell 0) (And.intro ((hB.out.at_ 0 rfl).cell 1) ((hB.out.at_ 0 rfl).cell 2)))
          refine hK.out _ _ (fun _ => hS1) ?_
          clear hK K hS0
          have hS0 := hS1
          clear hS1
          refine onem (i := 4) hR (h := fun K hK => ?_)
          go_simp
          obtain ⟨gS, hgS⟩ : ∃ g, wA.heap.size = g := ⟨_, rfl⟩
          have hL1 : Hid (Mgs (wA.alloc (.cells (msC MS bS) 32)) B (some ⟨gS, 0, none⟩) 1 [(MS, bS)]) := by rw [← hgS]; exact mgs_box (Blk.new _ _ _) (hok.out.to ((Below.refl _ wA).alloc (Nat.le_refl _) (.cells (msC MS bS) 32)))
          replace hB := hid_mk (hB.out.other (.cells (msC MS bS) 32))
          replace hNk := hid_mk (hNk.out.to ((Below.refl _ wA).alloc (Nat.le_refl _) (.cells (msC MS bS) 32)))
          have qz := qA.alloc qA.size (.cells (msC MS bS) 32)
          obtain ⟨wz, hwS⟩ : ∃ x, wA.alloc (.cells (msC MS bS) 32) = x := ⟨_, rfl⟩
          rw [hwS] at hL1 hB hNk qz
          unfold msC at hwS
          rw [hwS, hgS]
          clear hgS hwS hok
          have hS1 := And.intro ((hB.out.at_ 3 rfl).atN) (And.intro ((hB.out.at_ 0 rfl).cell 0) (And.intro ((hB.out.at_ 0 rfl).cell 1) ((hB.out.at_ 0 rfl).cell 2)))
          refine hK.out _ _ (fun _ => hS1) ?_
          clear hK K hS0
          have hS0 := hS1
          clear hS1
          refine onem (i := 6) hR (h := fun K hK => ?_)
          go_simp
          have hS1 := And.intro ((hB.out.at_ 3 rfl).atN) (And.intro ((hB.out.at_ 0 rfl).cell 0) (And.intro ((hB.out.at_ 0 rfl).cell 1) ((hB.out.at_ 0 rfl).cell 2)))
          refine hK.out _ _ (fun _ => hS1) ?_
          clear hK K hS0
          have hS0 := hS1
          clear hS1
          refine donem hR (h := ?_)
          try simp only [Act.put]
          have lY := blk14c (hB.out.at_ 1 rfl)
          go_wp2
          refine ends_ret hQ (v := .tuple #[.agg (ndC N2 ⟨a.R, a.V, a.G, ⟨some ⟨gp, 0, none⟩, a.P.n, co⟩⟩), .slice (some ⟨gS, 0, none⟩) 1 1]) (by simp [results, Tryz.results32, go_sem, lY, ndC]) rfl ?_
          exact ⟨⟨a.R, a.V, a.G, ⟨some ⟨gp, 0, none⟩, a.P.n, co⟩⟩, some ⟨gS, 0, none⟩, 1, 1, [(MS, bS)], by rw [hfin.out.1]; rfl, by rw [hfin.out.1]; exact hNk.out, hL1.out, by rw [hfin.out.2]; rfl, Nat.le_refl _, qz⟩
set_option maxRecDepth 100000 in
set_option maxHeartbeats 12800000 in
theorem RFit3_any (N : Nd) (a : NdA) (M : Ms) (ok : Bool) (b : MsA) (w : World) {B : Nat} (hBw : B ≤ w.heap.size) (hzr : rightN N = true) (hN : NdOk w B N a) (hM : MsOk w B ⟨M.kind, M.fr, M.to, M.term, ok, M.index, M.lterm, M.rs, M.commit, M.s, M.vs⟩ b) (hK : fitC N ⟨M.kind, M.fr, M.to, M.term, ok, M.index, M.lterm, M.rs, M.commit, M.s, M.vs⟩ = true) (hok : ok = true) :
    Calls Tryz.prog 32 #[nodeV N a, msgV ⟨M.kind, M.fr, M.to, M.term, ok, M.index, M.lterm, M.rs, M.commit, M.s, M.vs⟩ b] w (RetNMs w B (fitN N ⟨M.kind, M.fr, M.to, M.term, ok, M.index, M.lterm, M.rs, M.commit, M.s, M.vs⟩) (fitL N ⟨M.kind, M.fr, M.to, M.term, ok, M.index, M.lterm, M.rs, M.commit, M.s, M.vs⟩)) := by
  obtain ⟨z, hz⟩ : ∃ x, toM N ⟨M.kind, M.fr, M.to, M.term, ok, M.index, M.lterm, M.rs, M.commit, M.s, M.vs⟩ 4 = x := ⟨_, rfl⟩
  obtain ⟨ix, hixe⟩ : ∃ x, idxP M.fr 0 N.ps = x := ⟨_, rfl⟩
  obtain ⟨la, hla⟩ : ∃ x, lastJ N.h.l = x := ⟨_, rfl⟩
  obtain ⟨zl, hzl⟩ : ∃ x, decide (la < M.index) = x := ⟨_, rfl⟩
  have hT : Hid (fitC N ⟨M.kind, M.fr, M.to, M.term, ok, M.index, M.lterm, M.rs, M.commit, M.s, M.vs⟩ = (z && (M.term == N.h.t && (N.role == 2 && (!(decide (ix < 0)) && !(ok && zl)))))) := by
    rw [Hid, fitC_ref hzr, ← hz, ← hzl, ← hla, ← hixe]
  have hr : Hid (rightN N = true) := hzr
  have hTo := fun (w : World) (h2 : MsOk w B ⟨M.kind, M.fr, M.to, M.term, ok, M.index, M.lterm, M.rs, M.commit, M.s, M.vs⟩ b) => RTo_any N a ⟨M.kind, M.fr, M.to, M.term, ok, M.index, M.lterm, M.rs, M.commit, M.s, M.vs⟩ b 4 w h2
  rw [hz] at hTo
  have hLA := fun (w : World) (h : NdOk w B N a) => RLastN_any N a w h (right_n hzr).1
  rw [hla] at hLA
  have hPE := fun (w : World) (h : Prs w B a.P.A a.P.n N.ps) => RPeer_any N.ps M.fr a.P.A a.P.n a.P.c w h (by have := hN.pb; omega)
  rw [hixe] at hPE
  have hpb := hN.pb
  replace hixe := hid_mk hixe
  replace hz := hid_mk hz
  replace hla := hid_mk hla
  clear hzr
  have hKt := hid_mk hK
  clear hK
  replace hok := hid_mk hok
  unfold nodeV at hTo hLA ⊢
  unfold msgV at hTo ⊢
  dsimp only at hTo ⊢
  obtain ⟨w0, hw0⟩ : ∃ x, (((w.alloc (.cells (ndC N a) 30)).alloc (.cells (msC ⟨M.kind, M.fr, M.to, M.term, ok, M.index, M.lterm, M.rs, M.commit, M.s, M.vs⟩ b) 32)).alloc (.cells (ndC zeroN nilA) 30)) = x := ⟨_, rfl⟩
  have hB : Hid (Bxs w.heap.size w0 [⟨w.heap.size + 1 + 1, 30, ndC zeroN nilA⟩, ⟨w.heap.size + 1, 32, msC ⟨M.kind, M.fr, M.to, M.term, ok, M.index, M.lterm, M.rs, M.commit, M.s, M.vs⟩ b⟩, ⟨w.heap.size, 30, ndC N a⟩]) := by
    rw [← hw0]
    exact ((((Bxs.nil w.heap.size w).add_ rfl (by omega) 30 (ndC N a)).add_ (by simp) (by omega) 32 (msC ⟨M.kind, M.fr, M.to, M.term, ok, M.index, M.lterm, M.rs, M.commit, M.s, M.vs⟩ b)).add_ (by simp) (by omega) 30 (ndC zeroN nilA))
  have q0 : Below w.heap.size w w0 := by rw [← hw0]; go_grown
  have z0 := q0.size
  dsimp only [ndC, msC, zeroN, nilA, zeroM, nilMA] at hw0
  refine calls_of_wpQ Tryz.func32 rfl ?_
  intro Q hQ
  simp only [Tryz.ntmps32, List.size_toArray, List.length_cons, List.length_nil, Nat.reduceAdd, Nat.reduceSub, Array.replicate_succ, Array.replicate_zero, List.push_toArray, List.append_toArray, List.nil_append, List.cons_append]
  go_upto_region 1 with fail
  try rw [hw0]
  clear hw0
  have lX := blk14c (hB.out.at_ 2 rfl)
  have lM := blk11v (hB.out.at_ 1 rfl)
  go_wp2_with fail
  clear lX lM
  refine (hPE _ (hN.ps.to q0)).mono ?_
  rintro e w1 ⟨rfl, hb1⟩
  have q1 := (after (w := w) hb1 q0).1
  have z1 := q1.size
  replace hB := hid_mk (hB.out.keep hb1)
  clear hb1 q0 z0
  clear hPE
  have lX := blk14f (hB.out.at_ 2 rfl)
  have lM := blk11f (hB.out.at_ 1 rfl)
  go_upto_region 2 with fail
  clear lX lM
  go_cut [47] from 16 to 48 (fun p47 wx => ∃ g : Bool, p47 = .bool g ∧ Below w.heap.size w wx ∧ Hid (Bxs w.heap.size wx [⟨w.heap.size + 1 + 1, 30, ndC zeroN nilA⟩, ⟨w.heap.size + 1, 32, msC ⟨M.kind, M.fr, M.to, M.term, ok, M.index, M.lterm, M.rs, M.commit, M.s, M.vs⟩ b⟩, ⟨w.heap.size, 30, ndC N a⟩]) ∧ Hid (fitC N ⟨M.kind, M.fr, M.to, M.term, ok, M.index, M.lterm, M.rs, M.commit, M.s, M.vs⟩ = !g))
  case first =>
    refine regm (fun w' => AtN w' w.heap.size N a ∧ AtM w' (w.heap.size + 1) ⟨M.kind, M.fr, M.to, M.term, ok, M.index, M.lterm, M.rs, M.commit, M.s, M.vs⟩ b) 32 32 [(0, 0), (0, 0), (3, 3), (4, 4), (12, 8), (16, 16), (48, 48), (16, 16), (144, 144), (272, 272), (592, 592), (1040, 1040), (2064, 2048), (4096, 4096), (12288, 12288), (20480, 20480), (36864, 36864), (69632, 65536), (131072, 131072), (393216, 393216), (655360, 655360), (1179648, 1048576), (2097152, 2097152), (6291456, 6291456), (10485760, 10485760), (16777216, 16777216), (50331648, 50331648), (16777216, 16777216), (150994944, 150994944), (352321536, 352321536), (555745280, 555745280), (1075838976, 1075838976)] (by exact And.intro ((hB.out.at_ 2 rfl).atN) ((hB.out.at_ 1 rfl).atM)) (fun hS0 hR => ?_)
    replace hB := hid_mk hB.out.drew
    have qd : Below w.heap.size w w1.drew := by go_grown
    obtain ⟨wd, hwd⟩ : ∃ x, w1.drew = x := ⟨_, rfl⟩
    rw [hwd] at hS0 hB  qd ⊢
    clear hwd q1 z1
    have zd := qd.size
    refine tkn (i := 0) hR hS0 (h := ?_)
    refine tkn (i := 1) hR hS0 (h := ?_)
    refine onem (i := 2) hR (h := fun K hK => ?_)
    go_simp
    refine (hTo _ (hM.to qd)).mono ?_
    rintro e wT ⟨rfl, hb1⟩
    have qT := (after (w := w) hb1 qd).1
    replace hB := hid_mk (hB.out.keep hb1)
    clear hb1 qd zd
    have hS1 := And.intro ((hB.out.at_ 2 rfl).atN) ((hB.out.at_ 1 rfl).atM)
    refine hK.out _ _ (fun _ => hS1) ?_
    clear hK K hS0
    have hS0 := hS1
    clear hS1
    refine tkn (i := 3) hR hS0 (h := ?_)
    refine tkn (i := 4) hR hS0 (h := ?_)
    cases z
    case false =>
      have h := hT.out
      rw [hKt.out] at h
      simp at h
    case true =>
      refine tkn (i := 5) hR hS0 (h := ?_)
      simp only [Act.put]
      refine tkn (i := 6) hR hS0 (h := ?_)
      refine tkn (i := 7) hR hS0 (h := ?_)
      refine tkn (i := 8) hR hS0 (h := ?_)
      refine tkn (i := 9) hR hS0 (h := ?_)
      by_cases g1 : M.term = N.h.t
      case neg =>
        have g1b : (M.term == N.h.t) = false := by simpa using g1
        have g1c : (M.term != N.h.t) = true := by simpa using g1
        replace g1 := hid_mk g1
        have h := hT.out
        rw [hKt.out, g1b] at h
        simp at h
      case pos =>
        have g1b : (M.term == N.h.t) = true := by simpa using g1
        have g1c : (M.term != N.h.t) = false := by simpa using g1
        replace g1 := hid_mk g1
        refine tkn (i := 10) hR hS0 (h := ?_)
        simp only [Act.put]
        refine tkn (i := 11) hR hS0 (h := ?_)
        refine tkn (i := 12) hR hS0 (h := ?_)
        refine tkn (i := 13) hR hS0 (h := ?_)
        refine tkn (i := 14) hR hS0 (h := ?_)
        by_cases g2 : N.role = 2
        case neg =>
          have g2b : (N.role == 2) = false := by simpa using g2
          have g2c : (N.role != 2) = true := by simpa using g2
          replace g2 := hid_mk g2
          have h := hT.out
          rw [hKt.out, g1b, g2b] at h
          simp at h
        case pos =>
          have g2b : (N.role == 2) = true := by simpa using g2
          have g2c : (N.role != 2) = false := by simpa using g2
          replace g2 := hid_mk g2
          refine tkn (i := 15) hR hS0 (h := ?_)
          simp only [Act.put]
          refine tkn (i := 16) hR hS0 (h := ?_)
          refine tkn (i := 17) hR hS0 (h := ?_)
          refine tkn (i := 18) hR hS0 (h := ?_)
          by_cases g3 : ix < 0
          case pos =>
            have g3b : decide (ix < 0) = true := by simpa using g3
            replace g3 := hid_mk g3
            have h := hT.out
            rw [hKt.out, g1b, g2b, g3b] at h
            simp at h
          case neg =>
            have g3b : decide (ix < 0) = false := by simpa using g3
            replace g3 := hid_mk g3
            refine tkn (i := 19) hR hS0 (h := ?_)
            refine tkn (i := 20) hR hS0 (h := ?_)
            simp only [Act.put]
            refine tkn (i := 21) hR hS0 (h := ?_)
            refine tkn (i := 22) hR hS0 (h := ?_)
            refine tkn (i := 23) hR hS0 (h := ?_)
            cases ok
            case false =>
              exact absurd hok.out (by decide)
            case true =>
              have why := hid_mk (hT.out.trans (show _ = !zl by rw [g1b, g2b, g3b]; rfl))
              refine tkn (i := 24) hR hS0 (h := ?_)
              refine tkn (i := 25) hR hS0 (h := ?_)
              simp only [Act.put]
              refine tkn (i := 26) hR hS0 (h := ?_)
              refine tkn (i := 27) hR hS0 (h := ?_)
              refine onem (i := 28) hR (h := fun K hK => ?_)
              go_simp
              refine (hLA _ (hN.to qT)).mono ?_
              rintro e wU ⟨rfl, hb1⟩
              have qU := (after (w := w) hb1 qT).1
              replace hB := hid_mk (hB.out.keep hb1)
              clear hb1 qT
              have hS1 := And.intro ((hB.out.at_ 2 rfl).atN) ((hB.out.at_ 1 rfl).atM)
              refine hK.out _ _ (fun _ => hS1) ?_
              clear hK K hS0
              have hS0 := hS1
              clear hS1
              refine tkn (i := 29) hR hS0 (h := ?_)
              refine tkn (i := 30) hR hS0 (h := ?_)
              refine tkn (i := 31) hR hS0 (h := ?_)
              simp only [Act.put]
              refine donem hR (h := ?_)
              try simp only [Act.put]
              go_wp2_with fail
              go_meet
              exact ⟨zl, rfl, qU, hB, hid_mk (why.out)⟩
  case rest =>
    clear hB q1 z1 hT hTo hLA
    obtain ⟨g, rfl, q2, hB, hg⟩ := hcut
    obtain ⟨w2, hwc⟩ : ∃ x, x = wc := ⟨wc, rfl⟩
    subst hwc
    have z2 := q2.size
    cases g
    case true =>
      have h := hg.out
      rw [hKt.out] at h
      cases h
    clear hg
    have hfC : Hid (fitC N ⟨M.kind, M.fr, M.to, M.term, ok, M.index, M.lterm, M.rs, M.commit, M.s, M.vs⟩ = true) := hKt
    obtain ⟨k, p, hix, hk, hfp, hse⟩ := idxP_some (fit_parts hfC.out).2.2.2.2.2.2.2
    dsimp only at hix hfp hse
    have hix2 : ix = (k : Int) := by rw [← hixe.out, hix]
    have hlN := hN.ps.len
    have hkn : k < a.P.n := by rw [← hlN]; exact (List.getElem?_eq_some_iff.1 hk).1
    subst hix2
    have k0 : (0 : Int) ≤ k := by omega
    have k1 : (k : Int) < a.P.n := by omega
    have hp := (okPs_iff.1 (right_parts hr.out).2.2.2.2.2.2.2.2.2).1 p (findP_mem hfp).1
    have hcb := commit_bounds hr.out
    have hp9 := prs_len (right_parts hr.out).2.2.2.2.2.2.2.2.2
    have hpo := hid_mk (fitP_ok hfC.out hfp)
    have hmb := may_bounds (fit_parts hfC.out).2.1
    dsimp only at hmb
    replace hix := hid_mk hix
    replace hk := hid_mk hk
    replace hfp := hid_mk hfp
    replace hse := hid_mk hse
    obtain ⟨i0, hi0, hz0, hz1, hz2⟩ := info_parts prInfo
    obtain ⟨gD, hgD⟩ : ∃ g, w2.heap.size = g := ⟨_, rfl⟩
    have hyD : w.heap.size + 1 + 1 < gD := by rw [← hgD]; exact (hB.out.at_ 0 rfl).lt
    have own0 : Hid ((w2.alloc (.cells #[] 53)).ownsRow gD 53 3 (.slice (some ⟨gD, 0, none⟩) 0 0) 0 (prsL (N.ps.take 0))) := hid_mk (by rw [← hgD]; simpa [prsL] using World.ownsRow_lit (base := w2.heap.size) (e := 53) (size := 3) w2 #[] 0 (Nat.le_refl _) (by unfold maxLen; omega) (by simp))
    replace hB := hid_mk (hB.out.other (.cells #[] 53))
    have q3 := q2.alloc q2.size (.cells #[] 53)
    obtain ⟨w3, hw3⟩ : ∃ x, w2.alloc (.cells #[] 53) = x := ⟨_, rfl⟩
    rw [hw3] at own0 hB q3
    have hgw3 : gD ≤ w3.heap.size := by rw [← hw3]; simp only [World.size_alloc]; omega
    replace hw3 := hid_mk hw3
    replace hgD := hid_mk hgD
    have lX := blk14f (hB.out.at_ 2 rfl)
    have lM := blk11f (hB.out.at_ 1 rfl)
    go_upto_region 5 with fail
    try rw [hw3.out]
    try rw [hgD.out]
    clear lX lM hw3 hgD q2 z2
    have lX := blk14f (hB.out.at_ 2 rfl)
    go_wp2
    clear lX
    go_loopw [7, 53] (fun o iv wr => ∃ j : Nat, iv = .int .i64 j ∧ j ≤ a.P.n ∧ Below w.heap.size w wr ∧ Hid (wr.ownsRow gD 53 3 o j (prsL (N.ps.take j))) ∧ gD ≤ wr.heap.size ∧ Hid (Bxs w.heap.size wr [⟨w.heap.size + 1 + 1, 30, ndC zeroN nilA⟩, ⟨w.heap.size + 1, 32, msC ⟨M.kind, M.fr, M.to, M.term, ok, M.index, M.lterm, M.rs, M.commit, M.s, M.vs⟩ b⟩, ⟨w.heap.size, 30, ndC N a⟩])) (fun _ iv _ => a.P.n - (intOf iv).toNat)
    case atStart => exact ⟨0, rfl, Nat.zero_le _, q3, own0, hgw3, hB⟩
    case round =>
      clear own0 hB q3 hgw3
      obtain ⟨j, rfl, hj, qr, hown, hgw, hB⟩ := hrel
      have zr := qr.size
      obtain ⟨Ao, co, rfl, ho1, ho2⟩ := own_slice hown.out
      by_cases hjn : j < a.P.n
      · obtain ⟨bv, ov, x, hA, hbv, hdx, c0, c1, c2⟩ := (hN.ps.to qr).at_ hjn
        have hts : Hid (prsL (N.ps.take (j + 1)) = prsL (N.ps.take j) ++ prsL [x]) := by
          rw [Hid, take_snoc hdx]
          unfold prsL
          rw [List.flatMap_append]
        replace hdx := hid_mk hdx
        have hnew : Hid (Prs ((wr.alloc (.cells #[.int .i64 x.id, .int .i64 x.nx, .int .i64 x.mt] 53)).alloc (.cells #[.int .i64 x.id, .int .i64 x.nx, .int .i64 x.mt] 53)) 0 (some ⟨wr.heap.size + 1, 0, none⟩) 1 [x]) := by
          have h := reads_new (wr.alloc (.cells #[.int .i64 x.id, .int .i64 x.nx, .int .i64 x.mt] 53)) #[.int .i64 x.id, .int .i64 x.nx, .int .i64 x.mt] 53 1 3 0 rfl
          rw [World.size_alloc] at h
          exact h
        have hown2 := hid_mk ((hown.out.alloc (.cells #[.int .i64 x.id, .int .i64 x.nx, .int .i64 x.mt] 53)).alloc (.cells #[.int .i64 x.id, .int .i64 x.nx, .int .i64 x.mt] 53))
        have q2 : Below w.heap.size w ((wr.alloc (.cells #[.int .i64 x.id, .int .i64 x.nx, .int .i64 x.mt] 53)).alloc (.cells #[.int .i64 x.id, .int .i64 x.nx, .int .i64 x.mt] 53)) := by go_grown
        have hB2 := hid_mk ((hB.out.other (.cells #[.int .i64 x.id, .int .i64 x.nx, .int .i64 x.mt] 53)).other (.cells #[.int .i64 x.id, .int .i64 x.nx, .int .i64 x.mt] 53))
        have hgw2 : gD ≤ ((wr.alloc (.cells #[.int .i64 x.id, .int .i64 x.nx, .int .i64 x.mt] 53)).alloc (.cells #[.int .i64 x.id, .int .i64 x.nx, .int .i64 x.mt] 53)).heap.size := by simp only [World.size_alloc]; omega
        have lX := blk14c (hB.out.at_ 2 rfl)
        go_wp2_with (at_builtin; refine wpList_append_any _ rfl (.tmp 57) (.tmp 59) _ rfl gD 53 i0 _ 3 24 Tryz.underlying28 hi0 hz0 hz1 hz2 rfl (by omega) _ j _ rfl hown2.out 0 (some ⟨wr.heap.size + 1, 0, none⟩) 1 1 _ rfl hnew.out (pr_one _) (by simp only [maxLen]; omega) (by omega) hgw2 ?_; intro v1 wa hown3 hga hat3)
        clear lX
        have qa : Below w.heap.size w wa := grown_below q2 hga (fun k hk => by have := (World.ownsRow.lt hown2.out k hk).1; omega)
        have hBa := hid_mk (hB2.out.own hown2.out (by simp) hga)
        have hgwa : gD ≤ wa.heap.size := Nat.le_trans hgw2 hga.size
        have hrow : Hid (wa.ownsRow gD 53 3 v1 (j + 1) (prsL (N.ps.take (j + 1)))) := by
          rw [hts.out]
          exact hown3
        clear hown3 hga hat3 hnew hown2 hB2
        go_roundw
        case rel =>
          (repeat apply Exists.intro)
          first | refine ⟨⟨j + 1, rfl, by omega, qa, hrow, hgwa, hBa⟩, ?_⟩ | refine ⟨⟨j + 1, rfl, by omega, hrow, hBa⟩, ?_⟩ | refine ⟨⟨j + 1, rfl, by omega, hrow, hgwa, hBa⟩, ?_⟩
          repeat' (first | rfl | go_num | apply And.intro)
        case measure => simp [intOf]; omega
      have hjn2 : j = a.P.n := by omega
      subst hjn2
      have hown1 : wr.ownsRow gD 53 3 (.slice Ao a.P.n co) a.P.n (prsL N.ps) := by
        have h := hown.out
        rw [List.take_of_length_le (by omega)] at h
        exact h
      clear hown
      obtain ⟨gp, rfl, hO⟩ := own_box hown1 (by omega)
      clear hown1
      have hgp := hO.lt
      have hO5 := hO.cells_ hk.out
      have hO6 := World.ownsRow.frozenAt hO (k * 3)
      replace hO := hid_mk hO
      have lX := blk14c (hB.out.at_ 2 rfl)
      have lM := blk11v (hB.out.at_ 1 rfl)
      obtain ⟨gQ, hgQ⟩ : ∃ g, wr.heap.size = g := ⟨_, rfl⟩
      have lgQ : w.heap.size ≤ gQ := by rw [← hgQ]; exact qr.size
      have hpQ : gp < gQ := by rw [← hgQ]; exact hgp.1
      replace hB := hid_mk (hB.out.add_ hgQ lgQ 53 (#[.int .i64 p.id, .int .i64 p.nx, .int .i64 p.mt]))
      replace hO := hid_mk (hO.out.to ((Below.refl _ wr).alloc (Nat.le_refl _) (.cells (#[.int .i64 p.id, .int .i64 p.nx, .int .i64 p.mt]) 53)))
      have q5 := qr.alloc qr.size (.cells (#[.int .i64 p.id, .int .i64 p.nx, .int .i64 p.mt]) 53)
      obtain ⟨w5, hw5⟩ : ∃ x, wr.alloc (.cells (#[.int .i64 p.id, .int .i64 p.nx, .int .i64 p.mt]) 53) = x := ⟨_, rfl⟩
      rw [hw5] at hB hO q5
      try unfold ndC at hw5
      replace hw5 := hid_mk hw5
      replace hgQ := hid_mk hgQ
      go_upto_region 11 with fail
      try rw [hw5.out]
      try rw [hgQ.out]
      clear lX lM hw5 hgQ qr zr
      have z5 := q5.size
      clear hO5 hO6
      cases ok
      case false => exact absurd hok.out (by decide)
      have hix3 := (fit_parts hfC.out).2.2.2.2.2.2.1 rfl
      dsimp only at hix3
      have hPe : fitP N ⟨M.kind, M.fr, M.to, M.term, true, M.index, M.lterm, M.rs, M.commit, M.s, M.vs⟩ p = ⟨p.id, max p.mt M.index + 1, max p.mt M.index⟩ := rfl
      obtain ⟨Z, hZ⟩ : ∃ x, max p.mt M.index = x := ⟨_, rfl⟩
      obtain ⟨X, hX⟩ : ∃ x, Z + 1 = x := ⟨_, rfl⟩
      have hZb : 0 ≤ Z ∧ Z ≤ 1073741824 := by omega
      rw [hZ, hX] at hPe
      obtain ⟨PQ, hPQe⟩ : ∃ x, x = (⟨p.id, X, Z⟩ : Pr) := ⟨_, rfl⟩
      obtain ⟨N2, hN2e⟩ : ∃ x, x = psN N (setP M.fr PQ N.ps) := ⟨_, rfl⟩
      have hNr2 : Hid (rightN N2 = true) := by
        have h := fit_base hfC.out hfp.out
        rw [hPe, ← hPQe] at h
        rw [hN2e]
        exact h
      have hps : Hid (N2.ps = N.ps.set k PQ) := by rw [hN2e]; exact hse.out PQ
      have hhh : Hid (N2.h = N.h ∧ N2.got = N.got) := by rw [hN2e]; exact ⟨rfl, rfl⟩
      have hcs : ∀ aa, ndC N aa = ndC N2 aa := fun aa => by rw [hN2e]; rfl
      obtain ⟨N3, hN3e⟩ : ∃ x, x = sureN N2 := ⟨_, rfl⟩
      have hfin0 : fitN N ⟨M.kind, M.fr, M.to, M.term, true, M.index, M.lterm, M.rs, M.commit, M.s, M.vs⟩ = N3 ∧ fitL N ⟨M.kind, M.fr, M.to, M.term, true, M.index, M.lterm, M.rs, M.commit, M.s, M.vs⟩ = (if lastJ N.h.l < PQ.nx then [] else [sendM N3 PQ]) := by
        have e1 : fitN N ⟨M.kind, M.fr, M.to, M.term, true, M.index, M.lterm, M.rs, M.commit, M.s, M.vs⟩ = N3 := by
          unfold fitN
          rw [if_pos hfC.out]
          simp only [hfp.out]
          rw [hPe, hN3e, hN2e, hPQe]
          rfl
        refine ⟨e1, ?_⟩
        unfold fitL
        rw [if_pos hfC.out]
        simp only [hfp.out]
        rw [hPe, e1, hPQe]
        by_cases h : lastJ N.h.l < X
        · rw [if_pos h]; simp [h]
        · rw [if_neg h]; simp [h]
      have hs3 := sure_same N2
      rw [← hN3e] at hs3
      have hNr : Hid (rightN N3 = true) := by rw [hN3e]; exact sure_right hNr2.out
      have hPQ : Hid (1 ≤ PQ.nx ∧ PQ.nx ≤ lastJ N3.h.l + 1) := by
        have h := hpo.out.2.1
        rw [hPe, ← hPQe] at h
        rw [hs3.2.1, hhh.out.1]
        exact h
      have hla3 : Hid (lastJ N3.h.l = lastJ N.h.l) := by rw [Hid, hs3.2.1, hhh.out.1]
      obtain ⟨la, hla⟩ : ∃ x, lastJ N.h.l = x := ⟨_, rfl⟩
      rw [hla] at hfin0 hla3
      obtain ⟨MS, hMS⟩ : ∃ x, sendM N3 PQ = x := ⟨_, rfl⟩
      rw [hMS] at hfin0
      have x3 : IntKind.i64.wrap (Z + 1) = X := (IntWalk.i64_in _ (by omega)).trans hX
      have hnx : PQ.nx = X := by rw [hPQe]
      replace hnx := hid_mk hnx
      replace hla := hid_mk hla
      replace hs3 := hid_mk hs3
      replace hN3e := hid_mk hN3e
      replace hZ := hid_mk hZ
      replace hPe := hid_mk hPe
      replace hN2e := hid_mk hN2e
      replace hPQe := hid_mk hPQe
      replace hfin0 := hid_mk hfin0
      replace hMS := hid_mk hMS
      replace hX := hid_mk hX
      have lM := blk11f (hB.out.at_ 2 rfl)
      go_upto_if 67 with fail
      clear lM
      go_cut [] from 68 (fun wx => Below w.heap.size w wx ∧ Hid (Bxs w.heap.size wx [⟨gQ, 53, #[.int .i64 PQ.id, .int .i64 PQ.nx, .int .i64 PQ.mt]⟩, ⟨w.heap.size + 1 + 1, 30, ndC zeroN nilA⟩, ⟨w.heap.size + 1, 32, msC ⟨M.kind, M.fr, M.to, M.term, true, M.index, M.lterm, M.rs, M.commit, M.s, M.vs⟩ b⟩, ⟨w.heap.size, 30, ndC N a⟩]) ∧ Hid (OwnP wx gD gp co a.P.n N.ps))
      case first =>
        by_cases c1 : p.mt < M.index
        case pos =>
          have d1 : decide (p.mt < M.index) = true := by simpa using c1
          have lQ := blk3f (hB.out.at_ 0 rfl)
          have lM := blk11f (hB.out.at_ 2 rfl)
          go_upto_region 14 with fail
          clear lQ lM
          have hBn := hB.out.set 0 rfl 2 (.int .i64 M.index)
          have hOn := hO.out.farN (g' := gQ) (by omega) 2 (.int .i64 M.index)
          have q6 := q5.setCell (p := ⟨gQ, 2, none⟩) (by dsimp only; omega) (.int .i64 M.index)
          obtain ⟨w6, hwz⟩ : ∃ x, w5.setCell ⟨gQ, 2, none⟩ (.int .i64 M.index) = x := ⟨_, rfl⟩
          rw [hwz] at hBn hOn q6
          try rw [hwz]
          clear hwz
          replace hB : Hid (Bxs w.heap.size w6 [⟨gQ, 53, #[.int .i64 p.id, .int .i64 p.nx, .int .i64 M.index]⟩, ⟨w.heap.size + 1 + 1, 30, ndC zeroN nilA⟩, ⟨w.heap.size + 1, 32, msC ⟨M.kind, M.fr, M.to, M.term, true, M.index, M.lterm, M.rs, M.commit, M.s, M.vs⟩ b⟩, ⟨w.heap.size, 30, ndC N a⟩]) := hid_mk hBn
          replace hO := hid_mk hOn
          clear hBn hOn q5 z5
          have z6 := q6.size
          have e9 : M.index = Z := by have := hZ.out; omega
          have x4 : IntKind.i64.wrap (M.index + 1) = X := by rw [e9]; exact x3
          replace e9 := hid_mk e9
          have lQ := blk3f (hB.out.at_ 0 rfl)
          have lM := blk11f (hB.out.at_ 2 rfl)
          go_wp2_with fail
          clear lQ lM
          have hBn := hB.out.set 0 rfl 1 (.int .i64 X)
          have hOn := hO.out.farN (g' := gQ) (by omega) 1 (.int .i64 X)
          have q7 := q6.setCell (p := ⟨gQ, 1, none⟩) (by dsimp only; omega) (.int .i64 X)
          obtain ⟨w7, hwz⟩ : ∃ x, w6.setCell ⟨gQ, 1, none⟩ (.int .i64 X) = x := ⟨_, rfl⟩
          rw [hwz] at hBn hOn q7
          try rw [hwz]
          clear hwz
          replace hB : Hid (Bxs w.heap.size w7 [⟨gQ, 53, #[.int .i64 p.id, .int .i64 X, .int .i64 M.index]⟩, ⟨w.heap.size + 1 + 1, 30, ndC zeroN nilA⟩, ⟨w.heap.size + 1, 32, msC ⟨M.kind, M.fr, M.to, M.term, true, M.index, M.lterm, M.rs, M.commit, M.s, M.vs⟩ b⟩, ⟨w.heap.size, 30, ndC N a⟩]) := hid_mk hBn
          replace hO := hid_mk hOn
          clear hBn hOn q6 z6
          have z7 := q7.size
          go_meet
          exact ⟨q7, by rw [Hid, hPQe.out, ← e9.out]; exact hB, hO⟩
        have d1 : decide (p.mt < M.index) = false := by simpa using c1
        have e9 : p.mt = Z := by have := hZ.out; omega
        have x4 : IntKind.i64.wrap (p.mt + 1) = X := by rw [e9]; exact x3
        replace e9 := hid_mk e9
        have lQ := blk3f (hB.out.at_ 0 rfl)
        have lM := blk11f (hB.out.at_ 2 rfl)
        go_wp2_with fail
        clear lQ lM
        have hBn := hB.out.set 0 rfl 1 (.int .i64 X)
        have hOn := hO.out.farN (g' := gQ) (by omega) 1 (.int .i64 X)
        have q6 := q5.setCell (p := ⟨gQ, 1, none⟩) (by dsimp only; omega) (.int .i64 X)
        obtain ⟨w6, hwz⟩ : ∃ x, w5.setCell ⟨gQ, 1, none⟩ (.int .i64 X) = x := ⟨_, rfl⟩
        rw [hwz] at hBn hOn q6
        try rw [hwz]
        clear hwz
        replace hB : Hid (Bxs w.heap.size w6 [⟨gQ, 53, #[.int .i64 p.id, .int .i64 X, .int .i64 p.mt]⟩, ⟨w.heap.size + 1 + 1, 30, ndC zeroN nilA⟩, ⟨w.heap.size + 1, 32, msC ⟨M.kind, M.fr, M.to, M.term, true, M.index, M.lterm, M.rs, M.commit, M.s, M.vs⟩ b⟩, ⟨w.heap.size, 30, ndC N a⟩]) := hid_mk hBn
        replace hO := hid_mk hOn
        clear hBn hOn q5 z5
        have z6 := q6.size
        go_meet
        exact ⟨q6, by rw [Hid, hPQe.out, ← e9.out]; exact hB, hO⟩
      case rest =>
        clear hB q5 z5 hO hX
        obtain ⟨q20, hB, hO⟩ := hcut
        obtain ⟨w20, hwc⟩ : ∃ x, x = wc := ⟨wc, rfl⟩
        subst hwc
        have z20 := q20.size
        have hO5 := hO.out.cells_ hk.out
        have hO6 := World.ownsRow.frozenAt hO.out (k * 3)
        have lQ := blk3f (hB.out.at_ 0 rfl)
        go_upto_region 21 with fail
        clear lQ hO5 hO6
        have hOn := hO.out.put hk.out PQ
        have hBn := ((hB.out.rowN (gp := gp) (by intro b hb; simp only [List.mem_cons, List.mem_nil_iff, or_false] at hb; rcases hb with rfl | rfl | rfl | rfl <;> (dsimp only; omega)) (k * 3) (.int .i64 PQ.id)).rowN (gp := gp) (by intro b hb; simp only [List.mem_cons, List.mem_nil_iff, or_false] at hb; rcases hb with rfl | rfl | rfl | rfl <;> (dsimp only; omega)) (k * 3 + 1) (.int .i64 PQ.nx)).rowN (gp := gp) (by intro b hb; simp only [List.mem_cons, List.mem_nil_iff, or_false] at hb; rcases hb with rfl | rfl | rfl | rfl <;> (dsimp only; omega)) (k * 3 + 2) (.int .i64 PQ.mt)
        have q21 := ((q20.setCell (p := ⟨gp, k * 3, none⟩) (by dsimp only; omega) (.int .i64 PQ.id)).setCell (p := ⟨gp, k * 3 + 1, none⟩) (by dsimp only; omega) (.int .i64 PQ.nx)).setCell (p := ⟨gp, k * 3 + 2, none⟩) (by dsimp only; omega) (.int .i64 PQ.mt)
        obtain ⟨w21, hwz⟩ : ∃ x, (((w20.setCell ⟨gp, k * 3, none⟩ (.int .i64 PQ.id)).setCell ⟨gp, k * 3 + 1, none⟩ (.int .i64 PQ.nx)).setCell ⟨gp, k * 3 + 2, none⟩ (.int .i64 PQ.mt)) = x := ⟨_, rfl⟩
        rw [hwz] at hOn hBn q21
        try rw [hwz]
        replace hB := hid_mk hBn
        replace hO := hid_mk hOn
        clear hwz hBn hOn q20 z20
        have z21 := q21.size
        have lX := blk14f (hB.out.at_ 3 rfl)
        go_upto_region 22 with fail
        clear lX
        have hBn := hB.out.set 3 rfl 13 (.slice (some ⟨gp, 0, none⟩) a.P.n co)
        have hOn := hO.out.farN (g' := w.heap.size) (by omega) 13 (.slice (some ⟨gp, 0, none⟩) a.P.n co)
        have q22 := q21.setCell (p := ⟨w.heap.size, 13, none⟩) (by dsimp only; omega) (.slice (some ⟨gp, 0, none⟩) a.P.n co)
        obtain ⟨w22, hwz⟩ : ∃ x, w21.setCell ⟨w.heap.size, 13, none⟩ (.slice (some ⟨gp, 0, none⟩) a.P.n co) = x := ⟨_, rfl⟩
        rw [hwz] at hOn hBn q22
        try rw [hwz]
        replace hB : Hid (Bxs w.heap.size w22 [⟨gQ, 53, #[.int .i64 PQ.id, .int .i64 PQ.nx, .int .i64 PQ.mt]⟩, ⟨w.heap.size + 1 + 1, 30, ndC zeroN nilA⟩, ⟨w.heap.size + 1, 32, msC ⟨M.kind, M.fr, M.to, M.term, true, M.index, M.lterm, M.rs, M.commit, M.s, M.vs⟩ b⟩, ⟨w.heap.size, 30, ndC N2 ⟨a.R, a.V, a.G, ⟨some ⟨gp, 0, none⟩, a.P.n, co⟩⟩⟩]) := by rw [← hcs]; exact hBn
        have hPz : Prs w22 B (some ⟨gp, 0, none⟩) a.P.n N2.ps := by rw [hps.out]; exact hOn.prs
        have hNz := hN.to q22
        have hNk : NdOk w22 B N2 ⟨a.R, a.V, a.G, ⟨some ⟨gp, 0, none⟩, a.P.n, co⟩⟩ := nd_ps hNz hhh.out.1 hhh.out.2 hPz ho1
        replace hNk := hid_mk hNk
        clear hNz hPz
        clear hwz hBn hOn hO q21 z21
        have z22 := q22.size
        have lX := blk14f (hB.out.at_ 3 rfl)
        have lM := blk11f (hB.out.at_ 2 rfl)
        go_upto_region 23 with fail
        clear lX lM
        have lX := blk14c (hB.out.at_ 3 rfl)
        have lM := blk11v (hB.out.at_ 2 rfl)
        go_wp2_with fail
        clear lX lM
        refine (RSureN_any N2 ⟨a.R, a.V, a.G, ⟨some ⟨gp, 0, none⟩, a.P.n, co⟩⟩ _ hNk.out hNr2.out).mono ?_
        rw [← hN3e.out]
        rintro e w23 ⟨rfl, hb1⟩
        have q23 := (after (w := w) hb1 q22).1
        have z23 := q23.size
        replace hB := hid_mk (hB.out.keep hb1)
        replace hNk := hid_mk (hNk.out.to hb1)
        clear hb1 q22 z22
        unfold nodeV
        have lX := blk14f (hB.out.at_ 3 rfl)
        go_upto_region 24 with fail
        clear lX
        have q24 := setN_below N3 ⟨a.R, a.V, a.G, ⟨some ⟨gp, 0, none⟩, a.P.n, co⟩⟩ q23 (by omega : w.heap.size ≤ w.heap.size)
        have hNkn := hid_mk (hNk.out.kr (setN_kr (B := B) N3 ⟨a.R, a.V, a.G, ⟨some ⟨gp, 0, none⟩, a.P.n, co⟩⟩ (hB.out.at_ 3 rfl) (by dsimp only; omega)))
        have hBn := hB.out.setN 3 rfl N3 ⟨a.R, a.V, a.G, ⟨some ⟨gp, 0, none⟩, a.P.n, co⟩⟩
        obtain ⟨w24, hwz⟩ : ∃ x, setN w23 (w.heap.size) N3 ⟨a.R, a.V, a.G, ⟨some ⟨gp, 0, none⟩, a.P.n, co⟩⟩ = x := ⟨_, rfl⟩
        rw [hwz] at q24 hNkn hBn
        unfold setN set14 at hwz
        try rw [hwz]
        clear hwz
        replace hB : Hid (Bxs w.heap.size w24 [⟨gQ, 53, #[.int .i64 PQ.id, .int .i64 PQ.nx, .int .i64 PQ.mt]⟩, ⟨w.heap.size + 1 + 1, 30, ndC zeroN nilA⟩, ⟨w.heap.size + 1, 32, msC ⟨M.kind, M.fr, M.to, M.term, true, M.index, M.lterm, M.rs, M.commit, M.s, M.vs⟩ b⟩, ⟨w.heap.size, 30, ndC N3 ⟨a.R, a.V, a.G, ⟨some ⟨gp, 0, none⟩, a.P.n, co⟩⟩⟩]) := hid_mk hBn
        clear hBn
        replace hNk := hid_mk hNkn
        clear hNkn
        have z24 := q24.size
        clear q23 z23
        replace hNk : Hid (NdOk w24 B N3 ⟨a.R, a.V, a.G, ⟨some ⟨gp, 0, none⟩, a.P.n, co⟩⟩) := hid_mk (nd_same hNk.out hs3.out.2.1 hs3.out.2.2.2.2.2.1 hs3.out.2.2.2.2.2.2.1)
        refine regm (fun w' => AtN w' w.heap.size N3 ⟨a.R, a.V, a.G, ⟨some ⟨gp, 0, none⟩, a.P.n, co⟩⟩ ∧ AtM w' (w.heap.size + 1) ⟨M.kind, M.fr, M.to, M.term, true, M.index, M.lterm, M.rs, M.commit, M.s, M.vs⟩ b ∧ w'.cell? ⟨gQ, 1, none⟩ = some (.int .i64 PQ.nx)) 9 9 [(0, 0), (1, 1), (2, 2), (4, 4), (12, 12), (4, 4), (36, 36), (84, 84), (132, 132)] (by exact And.intro ((hB.out.at_ 3 rfl).atN) (And.intro ((hB.out.at_ 2 rfl).atM) ((hB.out.at_ 0 rfl).cell 1))) (fun hS0 hR => ?_)
        replace hB := hid_mk hB.out.drew
        replace hNk := hid_mk (hNk.out.to (show Below w24.heap.size w24 w24.drew by go_grown))
        have qd : Below w.heap.size w w24.drew := by go_grown
        obtain ⟨wd, hwd⟩ : ∃ x, w24.drew = x := ⟨_, rfl⟩
        rw [hwd] at hS0 hB hNk qd ⊢
        clear hwd q24 z24
        have zd := qd.size
        refine tkn (i := 0) hR hS0 (h := ?_)
        refine tkn (i := 1) hR hS0 (h := ?_)
        refine tkn (i := 2) hR hS0 (h := ?_)
        refine tkn (i := 3) hR hS0 (h := ?_)
        refine tkn (i := 4) hR hS0 (h := ?_)
        simp only [Act.put]
        refine tkn (i := 5) hR hS0 (h := ?_)
        refine onem (i := 6) hR (h := fun K hK => ?_)
        go_simp
        refine (RLastN_any N3 ⟨a.R, a.V, a.G, ⟨some ⟨gp, 0, none⟩, a.P.n, co⟩⟩ _ hNk.out (right_n hNr.out).1).mono ?_
        rw [hla3.out]
        rintro e w33 ⟨rfl, hb1⟩
        have q33 := (after (w := w) hb1 qd).1
        replace hB := hid_mk (hB.out.keep hb1)
        replace hNk := hid_mk (hNk.out.to hb1)
        clear hb1 qd zd
        have hS1 := And.intro ((hB.out.at_ 3 rfl).atN) (And.intro ((hB.out.at_ 2 rfl).atM) ((hB.out.at_ 0 rfl).cell 1))
        refine hK.out _ _ (fun _ => hS1) ?_
        clear hK K hS0
        have hS0 := hS1
        clear hS1
        refine tkn (i := 7) hR hS0 (h := ?_)
        refine tkn (i := 8) hR hS0 (h := ?_)
        refine donem hR (h := ?_)
        try simp only [Act.put]
        have z33 := q33.size
        by_cases g5 : la < PQ.nx
        case pos =>
          have g5b : decide (la < PQ.nx) = true := by simpa using g5
          have hno := hid_mk (show fitN N ⟨M.kind, M.fr, M.to, M.term, true, M.index, M.lterm, M.rs, M.commit, M.s, M.vs⟩ = N3 ∧ fitL N ⟨M.kind, M.fr, M.to, M.term, true, M.index, M.lterm, M.rs, M.commit, M.s, M.vs⟩ = [] from ⟨hfin0.out.1, by rw [hfin0.out.2, if_pos g5]⟩)
          replace g5 := hid_mk g5
          have lX := blk14f (hB.out.at_ 3 rfl)
          have lY := blk14f (hB.out.at_ 1 rfl)
          have lM := blk11f (hB.out.at_ 2 rfl)
          go_wp2
          clear lX lY lM
          have kf := setN_blk (N := N3) (a := ⟨a.R, a.V, a.G, ⟨some ⟨gp, 0, none⟩, a.P.n, co⟩⟩) (hB.out.at_ 1 rfl)
          have hkr := setN_kr (B := B) N3 ⟨a.R, a.V, a.G, ⟨some ⟨gp, 0, none⟩, a.P.n, co⟩⟩ (hB.out.at_ 1 rfl) (by dsimp only; omega)
          have hNz := hNk.out.kr hkr
          unfold setN set14 at kf
          have rs := blk14c kf
          refine ends_ret hQ (v := .tuple #[.agg (ndC N3 ⟨a.R, a.V, a.G, ⟨some ⟨gp, 0, none⟩, a.P.n, co⟩⟩), .slice none 0 0]) (by simp [results, Tryz.results32, go_sem, rs, ndC]) rfl ?_
          exact ⟨⟨a.R, a.V, a.G, ⟨some ⟨gp, 0, none⟩, a.P.n, co⟩⟩, none, 0, 0, [], by rw [hno.out.1]; rfl, by rw [hno.out.1]; exact hNz, mgs_nil, by rw [hno.out.2]; rfl, Nat.le_refl _, setN_below N3 ⟨a.R, a.V, a.G, ⟨some ⟨gp, 0, none⟩, a.P.n, co⟩⟩ q33 (by omega)⟩
        have g5b : decide (la < PQ.nx) = false := by simpa using g5
        have hfin1 := hid_mk (show fitN N ⟨M.kind, M.fr, M.to, M.term, true, M.index, M.lterm, M.rs, M.commit, M.s, M.vs⟩ = N3 ∧ fitL N ⟨M.kind, M.fr, M.to, M.term, true, M.index, M.lterm, M.rs, M.commit, M.s, M.vs⟩ = [MS] from ⟨hfin0.out.1, by rw [hfin0.out.2, if_neg g5]⟩)
        replace g5 := hid_mk g5
        have hfin := hid_mk (hfin1.out)
        have lX := blk14f (hB.out.at_ 3 rfl)
        have lY := blk14f (hB.out.at_ 1 rfl)
        have lQ := blk3f (hB.out.at_ 0 rfl)
        go_upto_region 26 with fail
        clear lX lY lQ
        refine regm (fun w' => AtN w' w.heap.size N3 ⟨a.R, a.V, a.G, ⟨some ⟨gp, 0, none⟩, a.P.n, co⟩⟩ ∧ w'.cell? ⟨gQ, 0, none⟩ = some (.int .i64 PQ.id) ∧ w'.cell? ⟨gQ, 1, none⟩ = some (.int .i64 PQ.nx) ∧ w'.cell? ⟨gQ, 2, none⟩ = some (.int .i64 PQ.mt)) 7 7 [(0, 0), (0, 0), (0, 0), (6, 6), (8, 8), (9, 1), (63, 16)] (by exact And.intro ((hB.out.at_ 3 rfl).atN) (And.intro ((hB.out.at_ 0 rfl).cell 0) (And.intro ((hB.out.at_ 0 rfl).cell 1) ((hB.out.at_ 0 rfl).cell 2)))) (fun hS0 hR => ?_)
        replace hB := hid_mk hB.out.drew
        replace hNk := hid_mk (hNk.out.to (show Below w33.heap.size w33 w33.drew by go_grown))
        have qd : Below w.heap.size w w33.drew := by go_grown
        obtain ⟨wd, hwd⟩ : ∃ x, w33.drew = x := ⟨_, rfl⟩
        rw [hwd] at hS0 hB hNk qd ⊢
        clear hwd q33 z33
        have zd := qd.size
        refine tkn (i := 0) hR hS0 (h := ?_)
        refine tkn (i := 1) hR hS0 (h := ?_)
        refine tkn (i := 2) hR hS0 (h := ?_)
        refine onem (i := 3) hR (h := fun K hK => ?_)
        go_simp
        refine (ROne_any N3 ⟨a.R, a.V, a.G, ⟨some ⟨gp, 0, none⟩, a.P.n, co⟩⟩ PQ _ (Nat.le_trans hBw qd.size) hNk.out hNr.out hPQ.out).mono ?_
        rw [hMS.out]
        rintro e wS ⟨bS, rfl, hok, hb1⟩
        have qS := (after (w := w) hb1 qd).1
        replace hB := hid_mk (hB.out.keep hb1)
        replace hNk := hid_mk (hNk.out.to hb1)
        replace hok := hid_mk hok
        unfold msgV
        clear hb1 qd zd
        have hS1 := And.intro ((hB.out.at_ 3 rfl).atN) (And.intro ((hB.out.at_ 0 rfl).cell 0) (And.intro ((hB.out.at_ 0 rfl).cell 1) ((hB.out.at_ 0 rfl).cell 2)))
        refine hK.out _ _ (fun _ => hS1) ?_
        clear hK K hS0
        have hS0 := hS1
        clear hS1
        have lY := blk14f (hB.out.at_ 1 rfl)
        refine twom (i := 4) (j := 5) hR (h := fun K hK => ?_) (h' := fun K hK => ?_)
        · go_simp
          clear lY
          obtain ⟨gS, hgS⟩ : ∃ g, wS.heap.size = g := ⟨_, rfl⟩
          have hL1 : Hid (Mgs (wS.alloc (.cells (msC MS bS) 32)) B (some ⟨gS, 0, none⟩) 1 [(MS, bS)]) := by rw [← hgS]; exact mgs_box (Blk.new _ _ _) (hok.out.to ((Below.refl _ wS).alloc (Nat.le_refl _) (.cells (msC MS bS) 32)))
          replace hB := hid_mk (hB.out.other (.cells (msC MS bS) 32))
          replace hNk := hid_mk (hNk.out.to ((Below.refl _ wS).alloc (Nat.le_refl _) (.cells (msC MS bS) 32)))
          have qA := qS.alloc qS.size (.cells (msC MS bS) 32)
          obtain ⟨wA, hwS⟩ : ∃ x, wS.alloc (.cells (msC MS bS) 32) = x := ⟨_, rfl⟩
          rw [hwS] at hL1 hB hNk qA
          unfold msC at hwS
          rw [hwS, hgS]
          clear hgS hwS hok
          have hS1 := And.intro ((hB.out.at_ 3 rfl).atN) (And.intro ((hB.out.at_ 0 rfl).cell 0) (And.intro ((hB.out.at_ 0 rfl).cell 1) ((hB.out.at_ 0 rfl).cell 2)))
          refine hK.out _ _ (fun _ => hS1) ?_
          clear hK K hS0
          have hS0 := hS1
          clear hS1
          have lY := blk14f (hB.out.at_ 1 rfl)
          refine onem (i := 5) hR (h := fun K hK => ?_)
          go_simp
          clear lY
          have hkr := setN_kr (B := B) N3 ⟨a.R, a.V, a.G, ⟨some ⟨gp, 0, none⟩, a.P.n, co⟩⟩ (hB.out.at_ 1 rfl) (by dsimp only; omega)
          replace hL1 := hid_mk (mgs_setN hL1.out (hB.out.at_ 1 rfl) (by dsimp only; omega) N3 ⟨a.R, a.V, a.G, ⟨some ⟨gp, 0, none⟩, a.P.n, co⟩⟩)
          replace hNk := hid_mk (hNk.out.kr hkr)
          clear hkr
          have qz := setN_below N3 ⟨a.R, a.V, a.G, ⟨some ⟨gp, 0, none⟩, a.P.n, co⟩⟩ qA (by omega : w.heap.size ≤ w.heap.size + 1 + 1)
          have hBn := hB.out.setN 1 rfl N3 ⟨a.R, a.V, a.G, ⟨some ⟨gp, 0, none⟩, a.P.n, co⟩⟩
          obtain ⟨wz, hwz⟩ : ∃ x, setN wA (w.heap.size + 1 + 1) N3 ⟨a.R, a.V, a.G, ⟨some ⟨gp, 0, none⟩, a.P.n, co⟩⟩ = x := ⟨_, rfl⟩
          rw [hwz] at hBn hNk qz hL1
          replace hB : Hid (Bxs w.heap.size wz [⟨gQ, 53, #[.int .i64 PQ.id, .int .i64 PQ.nx, .int .i64 PQ.mt]⟩, ⟨w.heap.size + 1 + 1, 30, ndC N3 ⟨a.R, a.V, a.G, ⟨some ⟨gp, 0, none⟩, a.P.n, co⟩⟩⟩, ⟨w.heap.size + 1, 32, msC ⟨M.kind, M.fr, M.to, M.term, true, M.index, M.lterm, M.rs, M.commit, M.s, M.vs⟩ b⟩, ⟨w.heap.size, 30, ndC N3 ⟨a.R, a.V, a.G, ⟨some ⟨gp, 0, none⟩, a.P.n, co⟩⟩⟩]) := hid_mk hBn
          clear hBn
          unfold setN set14 at hwz
          rw [hwz]
          clear hwz
          have hS1 := And.intro ((hB.out.at_ 3 rfl).atN) (And.intro ((hB.out.at_ 0 rfl).cell 0) (And.intro ((hB.out.at_ 0 rfl).cell 1) ((hB.out.at_ 0 rfl).cell 2)))
          refine hK.out _ _ (fun _ => hS1) ?_
          clear hK K hS0
          have hS0 := hS1
          clear hS1
          refine onem (i := 6) hR (h := fun K hK => ?_)
          go_simp
          have hS1 := And.intro ((hB.out.at_ 3 rfl).atN) (And.intro ((hB.out.at_ 0 rfl).cell 0) (And.intro ((hB.out.at_ 0 rfl).cell 1) ((hB.out.at_ 0 rfl).cell 2)))
          refine hK.out _ _ (fun _ => hS1) ?_
          clear hK K hS0
          have hS0 := hS1
          clear hS1
          refine donem hR (h := ?_)
          try simp only [Act.put]
          have lY := blk14c (hB.out.at_ 1 rfl)
          go_wp2
          refine ends_ret hQ (v := .tuple #[.agg (ndC N3 ⟨a.R, a.V, a.G, ⟨some ⟨gp, 0, none⟩, a.P.n, co⟩⟩), .slice (some ⟨gS, 0, none⟩) 1 1]) (by simp [results, Tryz.results32, go_sem, lY, ndC]) rfl ?_
          exact ⟨⟨a.R, a.V, a.G, ⟨some ⟨gp, 0, none⟩, a.P.n, co⟩⟩, some ⟨gS, 0, none⟩, 1, 1, [(MS, bS)], by rw [hfin.out.1]; rfl, by rw [hfin.out.1]; exact hNk.out, hL1.out, by rw [hfin.out.2]; rfl, Nat.le_refl _, qz⟩
        · go_simp
          clear lY
          have hkr := setN_kr (B := B) N3 ⟨a.R, a.V, a.G, ⟨some ⟨gp, 0, none⟩, a.P.n, co⟩⟩ (hB.out.at_ 1 rfl) (by dsimp only; omega)
          replace hok := hid_mk (hok.out.kr' hkr)
          replace hNk := hid_mk (hNk.out.kr hkr)
          clear hkr
          have qA := setN_below N3 ⟨a.R, a.V, a.G, ⟨some ⟨gp, 0, none⟩, a.P.n, co⟩⟩ qS (by omega : w.heap.size ≤ w.heap.size + 1 + 1)
          have hBn := hB.out.setN 1 rfl N3 ⟨a.R, a.V, a.G, ⟨some ⟨gp, 0, none⟩, a.P.n, co⟩⟩
          obtain ⟨wA, hwz⟩ : ∃ x, setN wS (w.heap.size + 1 + 1) N3 ⟨a.R, a.V, a.G, ⟨some ⟨gp, 0, none⟩, a.P.n, co⟩⟩ = x := ⟨_, rfl⟩
          rw [hwz] at hBn hNk qA hok
          replace hB : Hid (Bxs w.heap.size wA [⟨gQ, 53, #[.int .i64 PQ.id, .int .i64 PQ.nx, .int .i64 PQ.mt]⟩, ⟨w.heap.size + 1 + 1, 30, ndC N3 ⟨a.R, a.V, a.G, ⟨some ⟨gp, 0, none⟩, a.P.n, co⟩⟩⟩, ⟨w.heap.size + 1, 32, msC ⟨M.kind, M.fr, M.to, M.term, true, M.index, M.lterm, M.rs, M.commit, M.s, M.vs⟩ b⟩, ⟨w.heap.size, 30, ndC N3 ⟨a.R, a.V, a.G, ⟨some ⟨gp, 0, none⟩, a.P.n, co⟩⟩⟩]) := hid_mk hBn
          clear hBn
          unfold setN set14 at hwz
          rw [hwz]
          clear hwz
          have hS1 := And.intro ((hB.out.at_ 3 rfl).atN) (And.intro ((hB.out.at_ 0 rfl).cell 0) (And.intro ((hB.out.at_ 0 rfl).cell 1) ((hB.out.at_ 0 rfl).cell 2)))
          refine hK.out _ _ (fun _ => hS1) ?_
          clear hK K hS0
          have hS0 := hS1
          clear hS1
          refine onem (i := 4) hR (h := fun K hK => ?_)
          go_simp
          obtain ⟨gS, hgS⟩ : ∃ g, wA.heap.size = g := ⟨_, rfl⟩
          have hL1 : Hid (Mgs (wA.alloc (.cells (msC MS bS) 32)) B (some ⟨gS, 0, none⟩) 1 [(MS, bS)]) := by rw [← hgS]; exact mgs_box (Blk.new _ _ _) (hok.out.to ((Below.refl _ wA).alloc (Nat.le_refl _) (.cells (msC MS bS) 32)))
          replace hB := hid_mk (hB.out.other (.cells (msC MS bS) 32))
          replace hNk := hid_mk (hNk.out.to ((Below.refl _ wA).alloc (Nat.le_refl _) (.cells (msC MS bS) 32)))
          have qz := qA.alloc qA.size (.cells (msC MS bS) 32)
          obtain ⟨wz, hwS⟩ : ∃ x, wA.alloc (.cells (msC MS bS) 32) = x := ⟨_, rfl⟩
          rw [hwS] at hL1 hB hNk qz
          unfold msC at hwS
          rw [hwS, hgS]
          clear hgS hwS hok
          have hS1 := And.intro ((hB.out.at_ 3 rfl).atN) (And.intro ((hB.out.at_ 0 rfl).cell 0) (And.intro ((hB.out.at_ 0 rfl).cell 1) ((hB.out.at_ 0 rfl).cell 2)))
          refine hK.out _ _ (fun _ => hS1) ?_
          clear hK K hS0
          have hS0 := hS1
          clear hS1
          refine onem (i := 6) hR (h := fun K hK => ?_)
          go_simp
          have hS1 := And.intro ((hB.out.at_ 3 rfl).atN) (And.intro ((hB.out.at_ 0 rfl).cell 0) (And.intro ((hB.out.at_ 0 rfl).cell 1) ((hB.out.at_ 0 rfl).cell 2)))
          refine hK.out _ _ (fun _ => hS1) ?_
          clear hK K hS0
          have hS0 := hS1
          clear hS1
          refine donem hR (h := ?_)
          try simp only [Act.put]
          have lY := blk14c (hB.out.at_ 1 rfl)
          go_wp2
          refine ends_ret hQ (v := .tuple #[.agg (ndC N3 ⟨a.R, a.V, a.G, ⟨some ⟨gp, 0, none⟩, a.P.n, co⟩⟩), .slice (some ⟨gS, 0, none⟩) 1 1]) (by simp [results, Tryz.results32, go_sem, lY, ndC]) rfl ?_
          exact ⟨⟨a.R, a.V, a.G, ⟨some ⟨gp, 0, none⟩, a.P.n, co⟩⟩, some ⟨gS, 0, none⟩, 1, 1, [(MS, bS)], by rw [hfin.out.1]; rfl, by rw [hfin.out.1]; exact hNk.out, hL1.out, by rw [hfin.out.2]; rfl, Nat.le_refl _, qz⟩
theorem RFit_any (N : Nd) (a : NdA) (M : Ms) (b : MsA) (w : World) {B : Nat} (hBw : B ≤ w.heap.size) (hzr : rightN N = true) (hN : NdOk w B N a) (hM : MsOk w B M b) :
    Calls Tryz.prog 32 #[nodeV N a, msgV M b] w (RetNMs w B (fitN N M) (fitL N M)) := by
  cases h : fitC N M with
  | false => exact RFit1_any N a M M.ok b w hBw hzr hN hM h
  | true =>
    cases h2 : M.ok with
    | false =>
      have e := RFit2_any N a M M.ok b w hBw hzr hN hM h h2
      exact e
    | true =>
      have e := RFit3_any N a M M.ok b w hBw hzr hN hM h h2
      exact e
end Go.Proofs.YtncdjmpdbinanaaGreatDoor
