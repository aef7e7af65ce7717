/-
  WHAT IS PROVED HERE: the law ExtendMeets returns true: a leader and a follower of its term that are told each other's messages come together. Conditions: the slices are of at most 2^47 bytes; the library's table and MaxLen stand.
-/
import Derived.Test.YtncdjmpdbinanaaGreatDoorZMeP
import Derived.Test.YtncdjmpdbinanaaGreatDoorZEtk
import Derived.Test.YtncdjmpdbinanaaGreatDoorZEfi
import Derived.Test.YtncdjmpdbinanaaGreatDoorZGSd
import Derived.Test.YtncdjmpdbinanaaGreatDoorZGEl1
import Derived.Test.YtncdjmpdbinanaaGreatDoorZGVt
import Derived.Test.YtncdjmpdbinanaaGreatDoorZOwQ
import Derived.Test.YtncdjmpdbinanaaGreatDoorZLaw18s
import Derived.Deep.DeepCutAuto
namespace Go.Proofs.YtncdjmpdbinanaaGreatDoor
open Go.RowKit

theorem apartR_nil (l : List Rec) (b : Bool) : apartR l b [] = false := by cases l <;> rfl
/-- how it stands behind r rounds: L is what is sent -/
def MeetS (N X n x : Nd) (L : List Ms) (q r : Int) : Prop :=
  (L = [] ∧ Met N n x q) ∨ ∃ p : Pr, p.id = q ∧ L = [sendM n p] ∧ Meet N X n x p r
theorem meet_bound {N X n x : Nd} {p : Pr} {r : Int} (h : Meet N X n x p r) (hb : N.h.l.base = 0) : r ≤ 2 * N.h.l.rs.length + 1 := by
  obtain ⟨tl, nps⟩ := h.nps
  obtain ⟨_, _, ⟨pn1, pn2⟩, pm1, pm2⟩ := (okPs_iff.1 (right_parts h.nr).2.2.2.2.2.2.2.2.2).1 p (by rw [nps]; exact .head _)
  rw [h.nh] at pn2
  unfold lastJ at pn2
  rcases h.ph with ph | ph <;> omega
theorem meetS_step {N X n x : Nd} {L : List Ms} {q r : Int} (h : MeetS N X n x L q r) (hL : L ≠ []) (hb : N.h.l.base = 0) (hX : X.h.t = N.h.t) (hH : ∀ e, rightH ⟨X.h.t, X.h.v, ⟨0, 0, N.h.l.rs.take e⟩, X.h.s, X.h.vs⟩ = true) (d : Int) :
    r ≤ 2 * N.h.l.rs.length + 1 ∧ ∃ M ans, L = [M] ∧ takeL x M = [ans] ∧ MeetS N X (fitN n ans) (takeN x M d) (fitL n ans) q (r + 1) := by
  rcases h with ⟨h, _⟩ | ⟨p, hp, hl, hm⟩
  · exact absurd h hL
  · refine ⟨meet_bound hm hb, ?_⟩
    obtain ⟨ans, h1, h2⟩ := meet_step hm hb hX hH d
    refine ⟨sendM n p, ans, hl, h1, ?_⟩
    rcases h2 with ⟨h2, h3⟩ | ⟨p', h2, h3, h4⟩
    · exact Or.inl ⟨h2, hp ▸ h3⟩
    · exact Or.inr ⟨p', h2.trans hp, h3, h4⟩
theorem meetS_end {N X n x : Nd} {q r : Int} (h : MeetS N X n x [] q r) : Met N n x q := by
  rcases h with ⟨_, h⟩ | ⟨_, _, h, _⟩
  · exact h
  · cases h
theorem recs_cells {w : World} {B b o n k : Nat} {rs : List Rec} {r : Rec} (h : Recs w B (some ⟨b, o, none⟩) n rs) (hr : rs[k]? = some r) :
    w.cell? ⟨b, o + k * 3, none⟩ = some (.int .i64 r.t) ∧ w.cell? ⟨b, o + k * 3 + 1, none⟩ = some (.int .i64 r.k) ∧ w.cell? ⟨b, o + k * 3 + 2, none⟩ = some (.string r.d) := by
  have hk : k < n := by rw [← h.len]; exact (List.getElem?_eq_some_iff.1 hr).1
  obtain ⟨b', o', e, _, _, hc⟩ := h.2 (by omega)
  injection e with e
  injection e with e1 e2 _
  subst e1 e2
  obtain ⟨c0, c1, c2⟩ := cellsOf_at rs k r hr
  exact ⟨hc _ _ c0, hc _ _ c1, hc _ _ c2⟩
theorem prs_first {w : World} {B b o n : Nat} {p : Pr} {tl : List Pr} (hn : 0 < n) (h : Prs w B (some ⟨b, o, none⟩) n (p :: tl)) :
    w.cell? ⟨b, o, none⟩ = some (.int .i64 p.id) ∧ w.cell? ⟨b, o + 1, none⟩ = some (.int .i64 p.nx) ∧ w.cell? ⟨b, o + 2, none⟩ = some (.int .i64 p.mt) := by
  obtain ⟨b', o', e, _, _, hc⟩ := h.2 (by omega)
  injection e with e
  injection e with e1 e2 _
  subst e1 e2
  exact ⟨hc 0 _ rfl, hc 1 _ rfl, hc 2 _ rfl⟩
/-- a message's cells in a row -/
def AtO (w : World) (b o : Nat) (M : Ms) (m : MsA) : Prop :=
  w.cell? ⟨b, o, none⟩ = some (.int .i64 M.kind) ∧ w.cell? ⟨b, o + 1, none⟩ = some (.int .i64 M.fr) ∧ w.cell? ⟨b, o + 2, none⟩ = some (.int .i64 M.to) ∧ w.cell? ⟨b, o + 3, none⟩ = some (.int .i64 M.term) ∧ w.cell? ⟨b, o + 4, none⟩ = some (.bool M.ok) ∧ w.cell? ⟨b, o + 5, none⟩ = some (.int .i64 M.index) ∧ w.cell? ⟨b, o + 6, none⟩ = some (.int .i64 M.lterm) ∧ w.cell? ⟨b, o + 7, none⟩ = some (.slice m.R.A m.R.n m.R.c) ∧ w.cell? ⟨b, o + 8, none⟩ = some (.int .i64 M.commit) ∧ w.cell? ⟨b, o + 9, none⟩ = some (.string M.s) ∧ w.cell? ⟨b, o + 10, none⟩ = some (.slice m.V.A m.V.n m.V.c)
theorem mgs_first {w : World} {B b o n : Nat} {M : Ms} {m : MsA} {tl : List (Ms × MsA)} (hn : 0 < n) (h : Mgs w B (some ⟨b, o, none⟩) n ((M, m) :: tl)) : AtO w b o M m := by
  obtain ⟨b', o', e, _, _, hc⟩ := h.1.2 hn
  injection e with e
  injection e with e1 e2 _
  subst e1 e2
  exact ⟨hc 0 _ rfl, hc 1 _ rfl, hc 2 _ rfl, hc 3 _ rfl, hc 4 _ rfl, hc 5 _ rfl, hc 6 _ rfl, hc 7 _ rfl, hc 8 _ rfl, hc 9 _ rfl, hc 10 _ rfl⟩
theorem mgs_shape {w : World} {B n : Nat} {A : Option Addr} {M : Ms} {pm : List (Ms × MsA)} (h : Mgs w B A n pm) (hp : pm.map Prod.fst = [M]) : n = 1 ∧ ∃ b o m, A = some ⟨b, o, none⟩ ∧ pm = [(M, m)] ∧ MsOk w B M m := by
  have hl := h.len
  have h2 := congrArg List.length hp
  rw [List.length_map] at h2
  have hn : n = 1 := by simpa using hl.symm.trans h2
  refine ⟨hn, ?_⟩
  obtain ⟨b, o, e, _⟩ := h.1.2 (by omega)
  cases pm with
  | nil => cases hp
  | cons x t =>
    cases t with
    | nil =>
      obtain ⟨M', m⟩ := x
      have e2 : M' = M := by simpa using hp
      subst e2
      exact ⟨b, o, m, e, rfl, h.2 _ (.head _)⟩
    | cons y t => simp at hp
/-- a node and one message are handed back -/
def RetOne (w : World) (B : Nat) (N : Nd) (M : Ms) (e : Ending) (w' : World) : Prop :=
  ∃ a b o m c, e = .returned (.tuple #[nodeV N a, .slice (some ⟨b, o, none⟩) 1 c]) ∧ NdOk w' B N a ∧ Mgs w' B (some ⟨b, o, none⟩) 1 [(M, m)] ∧ MsOk w' B M m ∧ Below w.heap.size w w'
theorem ret_one {w w' : World} {B : Nat} {N : Nd} {M : Ms} {e : Ending} (h : RetNMs w B N [M] e w') : RetOne w B N M e w' := by
  obtain ⟨a, A, n, c, pm, h1, h2, h3, h4, _, h6⟩ := h
  obtain ⟨rfl, b, o, m, rfl, rfl, hm⟩ := mgs_shape h3 h4
  exact ⟨a, b, o, m, c, h1, h2, h3, hm, h6⟩
set_option maxRecDepth 100000 in
set_option maxHeartbeats 12800000 in
theorem LawMeets_any (N : Nd) (a : NdA) (f : Lg) (FA : Option Addr) (fn fc : Nat) (w : World) (hN : NdOk w w.heap.size N a) (hF : Recs w w.heap.size FA fn f.rs) (hfc : fn ≤ fc) (_hfb : fc * 32 ≤ 140737488351232) (ht : Tab w) (mm : Int) (hm : w.cell? ⟨0, 0, none⟩ = some (.int .i64 mm)) :
    Calls Tryz.prog 8 #[nodeV N a, logV f FA fn fc] w fun e w' => e = .returned (.bool true) ∧ Below w.heap.size w w' := by
  have hm2 : Hid (∀ w', Below w.heap.size w w' → w'.cell? ⟨0, 0, none⟩ = some (.int .i64 mm)) := fun w' hb => (hb.cell (p := ⟨0, 0, none⟩) (cell_lt hm)).trans hm
  clear hm
  obtain ⟨⟨RA, rn, Rc⟩, aV, aG, ⟨PA, pn, Pc⟩⟩ := a
  obtain ⟨z, hz⟩ : ∃ z, smallB N zeroM = z := ⟨_, rfl⟩
  obtain ⟨zr, hzr⟩ : ∃ z, rightN N = z := ⟨_, rfl⟩
  have hSm := fun (w1 : World) (h1 : NdOk w1 w.heap.size N ⟨⟨RA, rn, Rc⟩, aV, aG, ⟨PA, pn, Pc⟩⟩) => small18_any N ⟨⟨RA, rn, Rc⟩, aV, aG, ⟨PA, pn, Pc⟩⟩ zeroM nilMA w1 h1 (nilMA_ok (B := w.heap.size) rfl rfl rfl)
  have hNR := fun (w1 : World) (h1 : NdOk w1 w.heap.size N ⟨⟨RA, rn, Rc⟩, aV, aG, ⟨PA, pn, Pc⟩⟩) (h3 : Tab w1) => ERight_any N ⟨⟨RA, rn, Rc⟩, aV, aG, ⟨PA, pn, Pc⟩⟩ w1 h1 h3
  rw [hz] at hSm
  rw [hzr] at hNR
  replace hz := hid_mk hz
  replace hzr := hid_mk hzr
  obtain ⟨pb, po, p, tl, hpA⟩ : ∃ (pb po : Nat) (p : Pr) (tl : List Pr), 0 < pn → PA = some ⟨pb, po, none⟩ ∧ N.ps = p :: tl := by
    by_cases h : 0 < pn
    · obtain ⟨b, o, r, h1, _, h2, _⟩ := hN.ps.at_ (k := 0) h
      exact ⟨b, o, r, N.ps.drop 1, fun _ => ⟨h1, by simpa using h2⟩⟩
    · exact ⟨0, 0, ⟨0, 0, 0⟩, [], fun e => absurd e h⟩
  replace hpA := hid_mk hpA
  have hlN : N.h.l.rs.length = rn := hN.recs.len
  have hb1 := hN.rb
  have hb2 := hN.pb
  have hb3 := hN.rc
  have hb4 := hN.pc
  dsimp only at hb1 hb2 hb3 hb4
  replace hlN := hid_mk hlN
  unfold nodeV at hSm hNR ⊢
  unfold msgV zeroM nilMA at hSm
  unfold logV
  dsimp only at hSm hNR ⊢
  obtain ⟨w0, hw0⟩ : ∃ x, ((w.alloc (.cells (ndC N ⟨⟨RA, rn, Rc⟩, aV, aG, ⟨PA, pn, Pc⟩⟩) 30)).alloc (.cells (#[.int .i64 f.base, .int .i64 f.bt, .slice FA fn fc]) 24)) = x := ⟨_, rfl⟩
  have hB : Hid (Bxs w.heap.size w0 [⟨w.heap.size + 1, 24, #[.int .i64 f.base, .int .i64 f.bt, .slice FA fn fc]⟩, ⟨w.heap.size, 30, ndC N ⟨⟨RA, rn, Rc⟩, aV, aG, ⟨PA, pn, Pc⟩⟩⟩]) := by
    rw [← hw0]
    exact (((Bxs.nil w.heap.size w).add_ rfl (by omega) 30 (ndC N ⟨⟨RA, rn, Rc⟩, aV, aG, ⟨PA, pn, Pc⟩⟩)).add_ (by simp) (by omega) 24 (#[.int .i64 f.base, .int .i64 f.bt, .slice FA fn fc]))
  have q0 : Below w.heap.size w w0 := by rw [← hw0]; go_grown
  have z0 := q0.size
  dsimp only [ndC, msC, zeroN, nilA, zeroM, nilMA] at hw0
  refine calls_of_wpQ Tryz.func8 rfl ?_
  intro Q hQ
  simp only [Tryz.ntmps8, List.size_toArray, List.length_cons, List.length_nil, Nat.reduceAdd, Nat.reduceSub, Array.replicate_succ, Array.replicate_zero, List.push_toArray, List.append_toArray, List.nil_append, List.cons_append]
  go_upto_region 1 with fail
  try rw [hw0]
  clear hw0
  have lX := blk14c (hB.out.at_ 1 rfl)
  go_wp2_with fail
  clear lX
  refine (hSm _ (hN.to q0)).mono ?_
  rintro e w1 ⟨rfl, hb1⟩
  have q1 := (after (w := w) hb1 q0).1
  have z1 := q1.size
  replace hB := hid_mk (hB.out.keep hb1)
  clear hb1 q0 z0
  cases z
  case false =>
    have lX := blk14c (hB.out.at_ 1 rfl)
    have lF := blk3 (hB.out.at_ 0 rfl)
    go_wp2_with fail
    clear lX lF
    refine (alive18_any _ (ht.to q1) mm (hm2.out _ q1)).mono ?_
    rintro e w2 ⟨rfl, hb1⟩
    have q2 := (after (w := w) hb1 q1).1
    have z2 := q2.size
    replace hB := hid_mk (hB.out.keep hb1)
    clear hb1 q1 z1
    go_wp2
    refine ends_ret hQ (results_tmp rfl _ _ _) rfl ?_
    exact ⟨rfl, q2⟩
  have lX := blk14c (hB.out.at_ 1 rfl)
  go_wp2_with fail
  clear lX
  refine (alive18_any _ (ht.to q1) mm (hm2.out _ q1)).mono ?_
  rintro e w2 ⟨rfl, hb1⟩
  have q2 := (after (w := w) hb1 q1).1
  have z2 := q2.size
  replace hB := hid_mk (hB.out.keep hb1)
  clear hb1 q1 z1
  have lX := blk14c (hB.out.at_ 1 rfl)
  go_wp2_with fail
  clear lX
  refine (hNR _ (hN.to q2) (ht.to q2)).mono ?_
  rintro e w3 ⟨rfl, hb1⟩
  have q3 := (after (w := w) hb1 q2).1
  have z3 := q3.size
  replace hB := hid_mk (hB.out.keep hb1)
  clear hb1 q2 z2
  cases zr
  case false =>
    have lX := blk14c (hB.out.at_ 1 rfl)
    have lF := blk3 (hB.out.at_ 0 rfl)
    go_wp2_with fail
    clear lX lF
    refine (alive18_any _ (ht.to q3) mm (hm2.out _ q3)).mono ?_
    rintro e w4 ⟨rfl, hb1⟩
    have q4 := (after (w := w) hb1 q3).1
    have z4 := q4.size
    replace hB := hid_mk (hB.out.keep hb1)
    clear hb1 q3 z3
    go_wp2
    refine ends_ret hQ (results_tmp rfl _ _ _) rfl ?_
    exact ⟨rfl, q4⟩
  clear hSm hNR
  by_cases g1 : N.role = 2
  case neg =>
    have g10 : (N.role == 2) = false := by simpa using g1
    have g11 : (N.role != 2) = true := by simpa using g1
    replace g1 := hid_mk g1
    have lX := blk14c (hB.out.at_ 1 rfl)
    have lF := blk3 (hB.out.at_ 0 rfl)
    go_wp2_with fail
    clear lX lF
    refine (alive18_any _ (ht.to q3) mm (hm2.out _ q3)).mono ?_
    rintro e w4 ⟨rfl, hb1⟩
    have q4 := (after (w := w) hb1 q3).1
    have z4 := q4.size
    replace hB := hid_mk (hB.out.keep hb1)
    clear hb1 q3 z3
    go_wp2
    refine ends_ret hQ (results_tmp rfl _ _ _) rfl ?_
    exact ⟨rfl, q4⟩
  have g10 : (N.role == 2) = true := by simpa using g1
  have g11 : (N.role != 2) = false := by simpa using g1
  replace g1 := hid_mk g1
  by_cases g2 : 0 < pn
  case neg =>
    have g2b : ((pn : Int) == 0) = true := by simp; omega
    replace g2 := hid_mk g2
    have lX := blk14c (hB.out.at_ 1 rfl)
    have lF := blk3 (hB.out.at_ 0 rfl)
    go_wp2_with fail
    clear lX lF
    refine (alive18_any _ (ht.to q3) mm (hm2.out _ q3)).mono ?_
    rintro e w4 ⟨rfl, hb1⟩
    have q4 := (after (w := w) hb1 q3).1
    have z4 := q4.size
    replace hB := hid_mk (hB.out.keep hb1)
    clear hb1 q3 z3
    go_wp2
    refine ends_ret hQ (results_tmp rfl _ _ _) rfl ?_
    exact ⟨rfl, q4⟩
  have g2b : ((pn : Int) == 0) = false := by simp; omega
  by_cases g3 : N.h.l.base = 0
  case neg =>
    have g30 : (N.h.l.base == 0) = false := by simpa using g3
    have g31 : (N.h.l.base != 0) = true := by simpa using g3
    replace g3 := hid_mk g3
    have lX := blk14c (hB.out.at_ 1 rfl)
    have lF := blk3 (hB.out.at_ 0 rfl)
    go_wp2_with fail
    clear lX lF
    refine (alive18_any _ (ht.to q3) mm (hm2.out _ q3)).mono ?_
    rintro e w4 ⟨rfl, hb1⟩
    have q4 := (after (w := w) hb1 q3).1
    have z4 := q4.size
    replace hB := hid_mk (hB.out.keep hb1)
    clear hb1 q3 z3
    go_wp2
    refine ends_ret hQ (results_tmp rfl _ _ _) rfl ?_
    exact ⟨rfl, q4⟩
  have g30 : (N.h.l.base == 0) = true := by simpa using g3
  have g31 : (N.h.l.base != 0) = false := by simpa using g3
  replace g3 := hid_mk g3
  by_cases g4 : f.base = 0
  case neg =>
    have g40 : (f.base == 0) = false := by simpa using g4
    have g41 : (f.base != 0) = true := by simpa using g4
    replace g4 := hid_mk g4
    have lX := blk14c (hB.out.at_ 1 rfl)
    have lF := blk3 (hB.out.at_ 0 rfl)
    go_wp2_with fail
    clear lX lF
    refine (alive18_any _ (ht.to q3) mm (hm2.out _ q3)).mono ?_
    rintro e w4 ⟨rfl, hb1⟩
    have q4 := (after (w := w) hb1 q3).1
    have z4 := q4.size
    replace hB := hid_mk (hB.out.keep hb1)
    clear hb1 q3 z3
    go_wp2
    refine ends_ret hQ (results_tmp rfl _ _ _) rfl ?_
    exact ⟨rfl, q4⟩
  have g40 : (f.base == 0) = true := by simpa using g4
  have g41 : (f.base != 0) = false := by simpa using g4
  replace g4 := hid_mk g4
  by_cases g5 : 200 < fn
  case pos =>
    have g5b : decide ((200 : Int) < (fn : Int)) = true := by rw [decide_eq_true_eq]; omega
    replace g5 := hid_mk g5
    have lX := blk14c (hB.out.at_ 1 rfl)
    have lF := blk3 (hB.out.at_ 0 rfl)
    go_wp2_with fail
    clear lX lF
    refine (alive18_any _ (ht.to q3) mm (hm2.out _ q3)).mono ?_
    rintro e w4 ⟨rfl, hb1⟩
    have q4 := (after (w := w) hb1 q3).1
    have z4 := q4.size
    replace hB := hid_mk (hB.out.keep hb1)
    clear hb1 q3 z3
    go_wp2
    refine ends_ret hQ (results_tmp rfl _ _ _) rfl ?_
    exact ⟨rfl, q4⟩
  have g5b : decide ((200 : Int) < (fn : Int)) = false := by rw [decide_eq_false_iff_not]; omega
  have lX := blk14f (hB.out.at_ 1 rfl)
  have lF := blk3f (hB.out.at_ 0 rfl)
  go_wp2
  clear lX lF g10 g11 g2b g30 g31 g40 g41 g5b
  go_loopw [6, 67] (fun pv iv wr => ∃ (k : Nat) (b : Bool), pv = .bool b ∧ iv = .int .i64 k ∧ k ≤ fn ∧ Below w.heap.size w wr ∧ Hid (apartR N.h.l.rs false f.rs = apartR (N.h.l.rs.drop k) b (f.rs.drop k)) ∧ Hid (Bxs w.heap.size wr [⟨w.heap.size + 1, 24, #[.int .i64 f.base, .int .i64 f.bt, .slice FA fn fc]⟩, ⟨w.heap.size, 30, ndC N ⟨⟨RA, rn, Rc⟩, aV, aG, ⟨PA, pn, Pc⟩⟩⟩])) (fun _ iv _ => fn - (intOf iv).toNat)
  case atStart => exact ⟨0, false, rfl, rfl, Nat.zero_le _, q3, by rw [Hid, List.drop_zero, List.drop_zero], hB⟩
  case round =>
    clear hB q3 z3
    obtain ⟨k, b, rfl, rfl, hk, qr, hap, hB⟩ := hrel
    have zr := qr.size
    by_cases hlt : k < fn
    · skip
      obtain ⟨fb, fo, ⟨rt, rk, rd⟩, rfl, _, hdx, c0, c1, c2⟩ := (hF.to qr).at_ hlt
      dsimp only at c0 c1 c2
      have k0 : (0 : Int) ≤ k := by omega
      have k1 : (k : Int) < fn := by omega
      have lX := blk14c (hB.out.at_ 1 rfl)
      have lF := blk3 (hB.out.at_ 0 rfl)
      obtain ⟨gR, hgR⟩ : ∃ g, wr.heap.size = g := ⟨_, rfl⟩
      have lgR : w.heap.size ≤ gR := by rw [← hgR]; exact qr.size
      replace hB := hid_mk (hB.out.add_ hgR lgR 51 (#[.int .i64 rt, .int .i64 rk, .string rd]))
      have q31 := qr.alloc qr.size (.cells (#[.int .i64 rt, .int .i64 rk, .string rd]) 51)
      obtain ⟨w31, hw31⟩ : ∃ x, wr.alloc (.cells (#[.int .i64 rt, .int .i64 rk, .string rd]) 51) = x := ⟨_, rfl⟩
      rw [hw31] at hB   q31
      try unfold ndC at hw31
      replace hw31 := hid_mk hw31
      replace hgR := hid_mk hgR
      go_upto_region 8 with fail
      try rw [hw31.out]
      try rw [hgR.out]
      clear lX lF hw31 hgR qr zr
      have z31 := q31.size
      clear c0 c1 c2
      by_cases hkl : k < rn
      · skip
        obtain ⟨lb, lo, ⟨yt, yk, yd⟩, rfl, _, hdy, _, _, _⟩ := hN.recs.at_ hkl
        have hyk : Hid (N.h.l.rs[k]? = some ⟨yt, yk, yd⟩) := by
          have h1 : (N.h.l.rs.drop k)[0]? = some ⟨yt, yk, yd⟩ := by rw [hdy.out]; rfl
          rw [List.getElem?_drop, Nat.add_zero] at h1
          exact h1
        have k2 : (k : Int) < rn := by omega
        have k2b : decide ((k : Int) < rn) = true := by simpa using k2
        have hne := fun w => run_neq_rec rt rk rd yt yk yd w
        obtain ⟨rb, hrb⟩ : ∃ z, recB ⟨rt, rk, rd⟩ ⟨yt, yk, yd⟩ = z := ⟨_, rfl⟩
        rw [hrb] at hne
        obtain ⟨tb, htb⟩ : ∃ z, (rt == yt) = z := ⟨_, rfl⟩
        have hrt : rb = true → tb = true := fun e => by
          have h := recB_eq.1 (hrb.trans e)
          injection h with h1
          rw [← htb, h1]
          simp
        replace hrb := hid_mk hrb
        cases b
        case true =>
          cases rb
          case true =>
            have e := hrt rfl
            subst e
            clear hrt
            obtain ⟨hv, h1b⟩ : ∃ z, decide ((100 : Int) < (rd.size : Int)) = z := ⟨_, rfl⟩
            have lR := blk3 (hB.out.at_ 0 rfl)
            have lk := recs_cells (hN.recs.to q31) hyk.out
            go_quiet (fail)
            have hbq := below_drewN_ q31 nq
            replace hB := hid_mk (hB.out.keep (below_drewN_ (Below.refl w31.heap.size w31) nq))
            obtain ⟨w311, hwq⟩ : ∃ u, w31.drewN nq = u := ⟨_, rfl⟩
            rw [hwq] at hbq hB ⊢
            clear hwq
            have qw311 := hbq
            clear hbq q31
            clear lR lk
            have lR := blk3 (hB.out.at_ 0 rfl)
            have lk := recs_cells (hN.recs.to qw311) hyk.out
            go_wp2_with fail
            go_quiet (fail)
            have hbq := below_drewN_ qw311 nq
            replace hB := hid_mk (hB.out.keep (below_drewN_ (Below.refl w311.heap.size w311) nq))
            obtain ⟨w3112, hwq⟩ : ∃ u, w311.drewN nq = u := ⟨_, rfl⟩
            rw [hwq] at hbq hB ⊢
            clear hwq
            have qw3112 := hbq
            clear hbq qw311
            clear lR lk
            go_wp2
            refine ends_ret hQ (results_tmp rfl _ _ _) rfl ?_
            exact ⟨rfl, qw3112⟩
          case false =>
            clear hrt
            cases tb
            case true =>
              obtain ⟨hv, h1b⟩ : ∃ z, decide ((100 : Int) < (rd.size : Int)) = z := ⟨_, rfl⟩
              have lR := blk3 (hB.out.at_ 0 rfl)
              have lk := recs_cells (hN.recs.to q31) hyk.out
              go_quiet (fail)
              have hbq := below_drewN_ q31 nq
              replace hB := hid_mk (hB.out.keep (below_drewN_ (Below.refl w31.heap.size w31) nq))
              obtain ⟨w311, hwq⟩ : ∃ u, w31.drewN nq = u := ⟨_, rfl⟩
              rw [hwq] at hbq hB ⊢
              clear hwq
              have qw311 := hbq
              clear hbq q31
              clear lR lk
              have lR := blk3 (hB.out.at_ 0 rfl)
              have lk := recs_cells (hN.recs.to qw311) hyk.out
              go_wp2_with fail
              go_quiet (fail)
              have hbq := below_drewN_ qw311 nq
              replace hB := hid_mk (hB.out.keep (below_drewN_ (Below.refl w311.heap.size w311) nq))
              obtain ⟨w3112, hwq⟩ : ∃ u, w311.drewN nq = u := ⟨_, rfl⟩
              rw [hwq] at hbq hB ⊢
              clear hwq
              have qw3112 := hbq
              clear hbq qw311
              clear lR lk
              go_wp2
              refine ends_ret hQ (results_tmp rfl _ _ _) rfl ?_
              exact ⟨rfl, qw3112⟩
            case false =>
              by_cases h100 : 100 < rd.size
              case pos =>
                have h1b : decide ((100 : Int) < (rd.size : Int)) = true := by rw [decide_eq_true_eq]; omega
                have h1c : decide (100 < rd.size) = true := by simpa using h100
                replace h100 := hid_mk h100
                have lR := blk3 (hB.out.at_ 0 rfl)
                have lk := recs_cells (hN.recs.to q31) hyk.out
                go_quiet (fail)
                have hbq := below_drewN_ q31 nq
                replace hB := hid_mk (hB.out.keep (below_drewN_ (Below.refl w31.heap.size w31) nq))
                obtain ⟨w311, hwq⟩ : ∃ u, w31.drewN nq = u := ⟨_, rfl⟩
                rw [hwq] at hbq hB ⊢
                clear hwq
                have qw311 := hbq
                clear hbq q31
                clear lR lk
                have lR := blk3 (hB.out.at_ 0 rfl)
                have lk := recs_cells (hN.recs.to qw311) hyk.out
                go_wp2_with fail
                go_quiet (fail)
                have hbq := below_drewN_ qw311 nq
                replace hB := hid_mk (hB.out.keep (below_drewN_ (Below.refl w311.heap.size w311) nq))
                obtain ⟨w3112, hwq⟩ : ∃ u, w311.drewN nq = u := ⟨_, rfl⟩
                rw [hwq] at hbq hB ⊢
                clear hwq
                have qw3112 := hbq
                clear hbq qw311
                clear lR lk
                go_wp2
                refine ends_ret hQ (results_tmp rfl _ _ _) rfl ?_
                exact ⟨rfl, qw3112⟩
              have h1b : decide ((100 : Int) < (rd.size : Int)) = false := by rw [decide_eq_false_iff_not]; omega
              have h1c : decide (100 < rd.size) = false := by simpa using h100
              replace h100 := hid_mk h100
              have lR := blk3 (hB.out.at_ 0 rfl)
              have lk := recs_cells (hN.recs.to q31) hyk.out
              go_quiet (fail)
              have hbq := below_drewN_ q31 nq
              replace hB := hid_mk (hB.out.keep (below_drewN_ (Below.refl w31.heap.size w31) nq))
              obtain ⟨w311, hwq⟩ : ∃ u, w31.drewN nq = u := ⟨_, rfl⟩
              rw [hwq] at hbq hB ⊢
              clear hwq
              have qw311 := hbq
              clear hbq q31
              clear lR lk
              have lR := blk3 (hB.out.at_ 0 rfl)
              have lk := recs_cells (hN.recs.to qw311) hyk.out
              go_wp2_with fail
              go_quiet (fail)
              have hbq := below_drewN_ qw311 nq
              replace hB := hid_mk (hB.out.keep (below_drewN_ (Below.refl w311.heap.size w311) nq))
              obtain ⟨w3112, hwq⟩ : ∃ u, w311.drewN nq = u := ⟨_, rfl⟩
              rw [hwq] at hbq hB ⊢
              clear hwq
              have qw3112 := hbq
              clear hbq qw311
              clear lR lk
              have hst : Hid (apartR N.h.l.rs false f.rs = apartR (N.h.l.rs.drop (k + 1)) true (f.rs.drop (k + 1))) := by rw [Hid, hap.out, hdx.out, hdy.out, apartR, if_neg (by rw [htb, h1c, hrb.out]; decide), hrb.out]; rfl
              replace hB := hid_mk hB.out.tail
              go_wp2
              go_roundw
              case rel => exact ⟨k + 1, true, rfl, by go_num, by omega, qw3112, hst, hB⟩
              case measure => simp [intOf]; omega
        case false =>
          cases rb
          case true =>
            have e := hrt rfl
            subst e
            clear hrt
            by_cases h100 : 100 < rd.size
            case pos =>
              have h1b : decide ((100 : Int) < (rd.size : Int)) = true := by rw [decide_eq_true_eq]; omega
              have h1c : decide (100 < rd.size) = true := by simpa using h100
              replace h100 := hid_mk h100
              have lR := blk3 (hB.out.at_ 0 rfl)
              have lk := recs_cells (hN.recs.to q31) hyk.out
              go_quiet (fail)
              have hbq := below_drewN_ q31 nq
              replace hB := hid_mk (hB.out.keep (below_drewN_ (Below.refl w31.heap.size w31) nq))
              obtain ⟨w311, hwq⟩ : ∃ u, w31.drewN nq = u := ⟨_, rfl⟩
              rw [hwq] at hbq hB ⊢
              clear hwq
              have qw311 := hbq
              clear hbq q31
              clear lR lk
              have lR := blk3 (hB.out.at_ 0 rfl)
              have lk := recs_cells (hN.recs.to qw311) hyk.out
              go_wp2_with fail
              go_quiet (fail)
              have hbq := below_drewN_ qw311 nq
              replace hB := hid_mk (hB.out.keep (below_drewN_ (Below.refl w311.heap.size w311) nq))
              obtain ⟨w3112, hwq⟩ : ∃ u, w311.drewN nq = u := ⟨_, rfl⟩
              rw [hwq] at hbq hB ⊢
              clear hwq
              have qw3112 := hbq
              clear hbq qw311
              clear lR lk
              go_wp2
              refine ends_ret hQ (results_tmp rfl _ _ _) rfl ?_
              exact ⟨rfl, qw3112⟩
            have h1b : decide ((100 : Int) < (rd.size : Int)) = false := by rw [decide_eq_false_iff_not]; omega
            have h1c : decide (100 < rd.size) = false := by simpa using h100
            replace h100 := hid_mk h100
            have lR := blk3 (hB.out.at_ 0 rfl)
            have lk := recs_cells (hN.recs.to q31) hyk.out
            go_quiet (fail)
            have hbq := below_drewN_ q31 nq
            replace hB := hid_mk (hB.out.keep (below_drewN_ (Below.refl w31.heap.size w31) nq))
            obtain ⟨w311, hwq⟩ : ∃ u, w31.drewN nq = u := ⟨_, rfl⟩
            rw [hwq] at hbq hB ⊢
            clear hwq
            have qw311 := hbq
            clear hbq q31
            clear lR lk
            have lR := blk3 (hB.out.at_ 0 rfl)
            have lk := recs_cells (hN.recs.to qw311) hyk.out
            go_wp2_with fail
            go_quiet (fail)
            have hbq := below_drewN_ qw311 nq
            replace hB := hid_mk (hB.out.keep (below_drewN_ (Below.refl w311.heap.size w311) nq))
            obtain ⟨w3112, hwq⟩ : ∃ u, w311.drewN nq = u := ⟨_, rfl⟩
            rw [hwq] at hbq hB ⊢
            clear hwq
            have qw3112 := hbq
            clear hbq qw311
            clear lR lk
            have hst : Hid (apartR N.h.l.rs false f.rs = apartR (N.h.l.rs.drop (k + 1)) false (f.rs.drop (k + 1))) := by rw [Hid, hap.out, hdx.out, hdy.out, apartR, if_neg (by rw [htb, h1c, hrb.out]; decide), hrb.out]; rfl
            replace hB := hid_mk hB.out.tail
            go_wp2
            go_roundw
            case rel => exact ⟨k + 1, false, rfl, by go_num, by omega, qw3112, hst, hB⟩
            case measure => simp [intOf]; omega
          case false =>
            clear hrt
            cases tb
            case true =>
              obtain ⟨hv, h1b⟩ : ∃ z, decide ((100 : Int) < (rd.size : Int)) = z := ⟨_, rfl⟩
              have lR := blk3 (hB.out.at_ 0 rfl)
              have lk := recs_cells (hN.recs.to q31) hyk.out
              go_quiet (fail)
              have hbq := below_drewN_ q31 nq
              replace hB := hid_mk (hB.out.keep (below_drewN_ (Below.refl w31.heap.size w31) nq))
              obtain ⟨w311, hwq⟩ : ∃ u, w31.drewN nq = u := ⟨_, rfl⟩
              rw [hwq] at hbq hB ⊢
              clear hwq
              have qw311 := hbq
              clear hbq q31
              clear lR lk
              have lR := blk3 (hB.out.at_ 0 rfl)
              have lk := recs_cells (hN.recs.to qw311) hyk.out
              go_wp2_with fail
              go_quiet (fail)
              have hbq := below_drewN_ qw311 nq
              replace hB := hid_mk (hB.out.keep (below_drewN_ (Below.refl w311.heap.size w311) nq))
              obtain ⟨w3112, hwq⟩ : ∃ u, w311.drewN nq = u := ⟨_, rfl⟩
              rw [hwq] at hbq hB ⊢
              clear hwq
              have qw3112 := hbq
              clear hbq qw311
              clear lR lk
              go_wp2
              refine ends_ret hQ (results_tmp rfl _ _ _) rfl ?_
              exact ⟨rfl, qw3112⟩
            case false =>
              by_cases h100 : 100 < rd.size
              case pos =>
                have h1b : decide ((100 : Int) < (rd.size : Int)) = true := by rw [decide_eq_true_eq]; omega
                have h1c : decide (100 < rd.size) = true := by simpa using h100
                replace h100 := hid_mk h100
                have lR := blk3 (hB.out.at_ 0 rfl)
                have lk := recs_cells (hN.recs.to q31) hyk.out
                go_quiet (fail)
                have hbq := below_drewN_ q31 nq
                replace hB := hid_mk (hB.out.keep (below_drewN_ (Below.refl w31.heap.size w31) nq))
                obtain ⟨w311, hwq⟩ : ∃ u, w31.drewN nq = u := ⟨_, rfl⟩
                rw [hwq] at hbq hB ⊢
                clear hwq
                have qw311 := hbq
                clear hbq q31
                clear lR lk
                have lR := blk3 (hB.out.at_ 0 rfl)
                have lk := recs_cells (hN.recs.to qw311) hyk.out
                go_wp2_with fail
                go_quiet (fail)
                have hbq := below_drewN_ qw311 nq
                replace hB := hid_mk (hB.out.keep (below_drewN_ (Below.refl w311.heap.size w311) nq))
                obtain ⟨w3112, hwq⟩ : ∃ u, w311.drewN nq = u := ⟨_, rfl⟩
                rw [hwq] at hbq hB ⊢
                clear hwq
                have qw3112 := hbq
                clear hbq qw311
                clear lR lk
                go_wp2
                refine ends_ret hQ (results_tmp rfl _ _ _) rfl ?_
                exact ⟨rfl, qw3112⟩
              have h1b : decide ((100 : Int) < (rd.size : Int)) = false := by rw [decide_eq_false_iff_not]; omega
              have h1c : decide (100 < rd.size) = false := by simpa using h100
              replace h100 := hid_mk h100
              have lR := blk3 (hB.out.at_ 0 rfl)
              have lk := recs_cells (hN.recs.to q31) hyk.out
              go_quiet (fail)
              have hbq := below_drewN_ q31 nq
              replace hB := hid_mk (hB.out.keep (below_drewN_ (Below.refl w31.heap.size w31) nq))
              obtain ⟨w311, hwq⟩ : ∃ u, w31.drewN nq = u := ⟨_, rfl⟩
              rw [hwq] at hbq hB ⊢
              clear hwq
              have qw311 := hbq
              clear hbq q31
              clear lR lk
              have lR := blk3 (hB.out.at_ 0 rfl)
              have lk := recs_cells (hN.recs.to qw311) hyk.out
              go_wp2_with fail
              go_quiet (fail)
              have hbq := below_drewN_ qw311 nq
              replace hB := hid_mk (hB.out.keep (below_drewN_ (Below.refl w311.heap.size w311) nq))
              obtain ⟨w3112, hwq⟩ : ∃ u, w311.drewN nq = u := ⟨_, rfl⟩
              rw [hwq] at hbq hB ⊢
              clear hwq
              have qw3112 := hbq
              clear hbq qw311
              clear lR lk
              have hst : Hid (apartR N.h.l.rs false f.rs = apartR (N.h.l.rs.drop (k + 1)) true (f.rs.drop (k + 1))) := by rw [Hid, hap.out, hdx.out, hdy.out, apartR, if_neg (by rw [htb, h1c, hrb.out]; decide), hrb.out]; rfl
              replace hB := hid_mk hB.out.tail
              go_wp2
              go_roundw
              case rel => exact ⟨k + 1, true, rfl, by go_num, by omega, qw3112, hst, hB⟩
              case measure => simp [intOf]; omega
      · skip
        have hdy : Hid (N.h.l.rs.drop k = []) := hN.recs.end_ hkl
        have hdy2 : Hid (N.h.l.rs.drop (k + 1) = []) := hN.recs.end_ (show ¬ k + 1 < rn by omega)
        have k2 : ¬ (k : Int) < rn := by omega
        have k2b : decide ((k : Int) < rn) = false := by simpa using k2
        cases b
        case true =>
          by_cases h100 : 100 < rd.size
          case pos =>
            have h1b : decide ((100 : Int) < (rd.size : Int)) = true := by rw [decide_eq_true_eq]; omega
            have h1c : decide (100 < rd.size) = true := by simpa using h100
            replace h100 := hid_mk h100
            have lR := blk3 (hB.out.at_ 0 rfl)
            go_quiet (fail)
            have hbq := below_drewN_ q31 nq
            replace hB := hid_mk (hB.out.keep (below_drewN_ (Below.refl w31.heap.size w31) nq))
            obtain ⟨w311, hwq⟩ : ∃ u, w31.drewN nq = u := ⟨_, rfl⟩
            rw [hwq] at hbq hB ⊢
            clear hwq
            have qw311 := hbq
            clear hbq q31
            clear lR
            have lR := blk3 (hB.out.at_ 0 rfl)
            go_wp2_with fail
            go_quiet (fail)
            have hbq := below_drewN_ qw311 nq
            replace hB := hid_mk (hB.out.keep (below_drewN_ (Below.refl w311.heap.size w311) nq))
            obtain ⟨w3112, hwq⟩ : ∃ u, w311.drewN nq = u := ⟨_, rfl⟩
            rw [hwq] at hbq hB ⊢
            clear hwq
            have qw3112 := hbq
            clear hbq qw311
            clear lR
            go_wp2
            refine ends_ret hQ (results_tmp rfl _ _ _) rfl ?_
            exact ⟨rfl, qw3112⟩
          have h1b : decide ((100 : Int) < (rd.size : Int)) = false := by rw [decide_eq_false_iff_not]; omega
          have h1c : decide (100 < rd.size) = false := by simpa using h100
          replace h100 := hid_mk h100
          have lR := blk3 (hB.out.at_ 0 rfl)
          go_quiet (fail)
          have hbq := below_drewN_ q31 nq
          replace hB := hid_mk (hB.out.keep (below_drewN_ (Below.refl w31.heap.size w31) nq))
          obtain ⟨w311, hwq⟩ : ∃ u, w31.drewN nq = u := ⟨_, rfl⟩
          rw [hwq] at hbq hB ⊢
          clear hwq
          have qw311 := hbq
          clear hbq q31
          clear lR
          have lR := blk3 (hB.out.at_ 0 rfl)
          go_wp2_with fail
          go_quiet (fail)
          have hbq := below_drewN_ qw311 nq
          replace hB := hid_mk (hB.out.keep (below_drewN_ (Below.refl w311.heap.size w311) nq))
          obtain ⟨w3112, hwq⟩ : ∃ u, w311.drewN nq = u := ⟨_, rfl⟩
          rw [hwq] at hbq hB ⊢
          clear hwq
          have qw3112 := hbq
          clear hbq qw311
          clear lR
          have hst : Hid (apartR N.h.l.rs false f.rs = apartR (N.h.l.rs.drop (k + 1)) true (f.rs.drop (k + 1))) := by rw [Hid, hap.out, hdx.out, hdy.out, apartR, if_neg (by rw [h1c]; decide), hdy2.out]
          replace hB := hid_mk hB.out.tail
          go_wp2
          go_roundw
          case rel => exact ⟨k + 1, true, rfl, by go_num, by omega, qw3112, hst, hB⟩
          case measure => simp [intOf]; omega
        case false =>
          by_cases h100 : 100 < rd.size
          case pos =>
            have h1b : decide ((100 : Int) < (rd.size : Int)) = true := by rw [decide_eq_true_eq]; omega
            have h1c : decide (100 < rd.size) = true := by simpa using h100
            replace h100 := hid_mk h100
            have lR := blk3 (hB.out.at_ 0 rfl)
            go_quiet (fail)
            have hbq := below_drewN_ q31 nq
            replace hB := hid_mk (hB.out.keep (below_drewN_ (Below.refl w31.heap.size w31) nq))
            obtain ⟨w311, hwq⟩ : ∃ u, w31.drewN nq = u := ⟨_, rfl⟩
            rw [hwq] at hbq hB ⊢
            clear hwq
            have qw311 := hbq
            clear hbq q31
            clear lR
            have lR := blk3 (hB.out.at_ 0 rfl)
            go_wp2_with fail
            go_quiet (fail)
            have hbq := below_drewN_ qw311 nq
            replace hB := hid_mk (hB.out.keep (below_drewN_ (Below.refl w311.heap.size w311) nq))
            obtain ⟨w3112, hwq⟩ : ∃ u, w311.drewN nq = u := ⟨_, rfl⟩
            rw [hwq] at hbq hB ⊢
            clear hwq
            have qw3112 := hbq
            clear hbq qw311
            clear lR
            go_wp2
            refine ends_ret hQ (results_tmp rfl _ _ _) rfl ?_
            exact ⟨rfl, qw3112⟩
          have h1b : decide ((100 : Int) < (rd.size : Int)) = false := by rw [decide_eq_false_iff_not]; omega
          have h1c : decide (100 < rd.size) = false := by simpa using h100
          replace h100 := hid_mk h100
          have lR := blk3 (hB.out.at_ 0 rfl)
          go_quiet (fail)
          have hbq := below_drewN_ q31 nq
          replace hB := hid_mk (hB.out.keep (below_drewN_ (Below.refl w31.heap.size w31) nq))
          obtain ⟨w311, hwq⟩ : ∃ u, w31.drewN nq = u := ⟨_, rfl⟩
          rw [hwq] at hbq hB ⊢
          clear hwq
          have qw311 := hbq
          clear hbq q31
          clear lR
          have lR := blk3 (hB.out.at_ 0 rfl)
          go_wp2_with fail
          go_quiet (fail)
          have hbq := below_drewN_ qw311 nq
          replace hB := hid_mk (hB.out.keep (below_drewN_ (Below.refl w311.heap.size w311) nq))
          obtain ⟨w3112, hwq⟩ : ∃ u, w311.drewN nq = u := ⟨_, rfl⟩
          rw [hwq] at hbq hB ⊢
          clear hwq
          have qw3112 := hbq
          clear hbq qw311
          clear lR
          have hst : Hid (apartR N.h.l.rs false f.rs = apartR (N.h.l.rs.drop (k + 1)) false (f.rs.drop (k + 1))) := by rw [Hid, hap.out, hdx.out, hdy.out, apartR, if_neg (by rw [h1c]; decide), hdy2.out]
          replace hB := hid_mk hB.out.tail
          go_wp2
          go_roundw
          case rel => exact ⟨k + 1, false, rfl, by go_num, by omega, qw3112, hst, hB⟩
          case measure => simp [intOf]; omega
    · skip
      have k1 : ¬ (k : Int) < fn := by omega
      have hap0 : Hid (apartR N.h.l.rs false f.rs = false) := by rw [Hid, hap.out, hF.end_ hlt, apartR_nil]
      have hps : Hid (N.ps = p :: tl) := (hpA.out g2).2
      have hPr : Hid (Prs w w.heap.size (some ⟨pb, po, none⟩) pn (p :: tl)) := by
        have h := hN.ps
        rw [hps.out] at h
        dsimp only at h
        rw [(hpA.out g2).1] at h
        exact h
      have p0 : (0 : Int) < pn := by omega
      have hPA := (hpA.out g2).1
      have lP := prs_first g2 (hPr.out.to qr)
      clear hap
      have lX := blk14c (hB.out.at_ 1 rfl)
      have lF := blk3 (hB.out.at_ 0 rfl)
      obtain ⟨gZ, hgZ⟩ : ∃ g, wr.heap.size = g := ⟨_, rfl⟩
      have lgZ : w.heap.size ≤ gZ := by rw [← hgZ]; exact qr.size
      replace hB := hid_mk (hB.out.add_ hgZ lgZ 30 (#[.int .i64 p.id, .int .i64 N.h.t, .int .i64 0, .int .i64 f.base, .int .i64 f.bt, .slice FA fn fc, .string ⟨#[]⟩, .slice aV.A aV.n aV.c, .int .i64 0, .int .i64 0, .int .i64 0, .int .i64 0, .slice none 0 0, .slice none 0 0]))
      have q41 := qr.alloc qr.size (.cells (#[.int .i64 p.id, .int .i64 N.h.t, .int .i64 0, .int .i64 f.base, .int .i64 f.bt, .slice FA fn fc, .string ⟨#[]⟩, .slice aV.A aV.n aV.c, .int .i64 0, .int .i64 0, .int .i64 0, .int .i64 0, .slice none 0 0, .slice none 0 0]) 30)
      obtain ⟨w41, hw41⟩ : ∃ x, wr.alloc (.cells (#[.int .i64 p.id, .int .i64 N.h.t, .int .i64 0, .int .i64 f.base, .int .i64 f.bt, .slice FA fn fc, .string ⟨#[]⟩, .slice aV.A aV.n aV.c, .int .i64 0, .int .i64 0, .int .i64 0, .int .i64 0, .slice none 0 0, .slice none 0 0]) 30) = x := ⟨_, rfl⟩
      rw [hw41] at hB   q41
      try unfold ndC at hw41
      replace hw41 := hid_mk hw41
      replace hgZ := hid_mk hgZ
      go_upto_region 14 with fail
      try rw [hw41.out]
      try rw [hgZ.out]
      clear lX lF hw41 hgZ qr zr
      have z41 := q41.size
      clear lP k1
      replace hPA := hid_mk hPA
      obtain ⟨X0, hX0⟩ : ∃ z, z = (⟨p.id, ⟨N.h.t, 0, f, ⟨#[]⟩, N.h.vs⟩, 0, 0, 0, 0, [], []⟩ : Nd) := ⟨_, rfl⟩
      obtain ⟨xa, hxa⟩ : ∃ z, z = (⟨⟨FA, fn, fc⟩, aV, ⟨none, 0, 0⟩, ⟨none, 0, 0⟩⟩ : NdA) := ⟨_, rfl⟩
      have hZ : Hid (∀ w1, Below w.heap.size w w1 → NdOk w1 w.heap.size X0 xa) := fun w1 h => by
        rw [hX0, hxa]
        exact ⟨hF.to h, hfc, by dsimp only; omega, hN.vs.to h, hN.vc, hN.vb, by show 0 ≤ _; omega, Reads.none_, Nat.le_refl _, by dsimp only; omega, Reads.none_, Nat.le_refl _, by dsimp only; omega⟩
      replace hB : Hid (Bxs w.heap.size w41 [⟨gZ, 30, ndC X0 xa⟩, ⟨w.heap.size + 1, 24, #[.int .i64 f.base, .int .i64 f.bt, .slice FA fn fc]⟩, ⟨w.heap.size, 30, ndC N ⟨⟨RA, rn, Rc⟩, aV, aG, ⟨PA, pn, Pc⟩⟩⟩]) := by rw [hX0, hxa]; exact hB
      obtain ⟨zx, hzx⟩ : ∃ z, rightN X0 = z := ⟨_, rfl⟩
      have hER := fun (w1 : World) (h1 : NdOk w1 w.heap.size X0 xa) (h3 : Tab w1) => ERight_any X0 xa w1 h1 h3
      rw [hzx] at hER
      replace hzx := hid_mk hzx
      replace hX0 := hid_mk hX0
      replace hxa := hid_mk hxa
      unfold nodeV at hER
      have lZ := blk14c (hB.out.at_ 0 rfl)
      go_wp2_with fail
      clear lZ
      refine (hER _ (hZ.out _ q41) (ht.to q41)).mono ?_
      rintro e w42 ⟨rfl, hb1⟩
      have q42 := (after (w := w) hb1 q41).1
      have z42 := q42.size
      replace hB := hid_mk (hB.out.keep hb1)
      clear hb1 q41 z41
      cases zx
      case false =>
        go_wp2
        refine ends_ret hQ (results_tmp rfl _ _ _) rfl ?_
        exact ⟨rfl, q42⟩
      clear hER
      obtain ⟨i0, hi0, hz0, hz1, hz2⟩ := info_parts prInfo
      have hown0 := World.ownsRow_lit (base := w.heap.size) (e := 53) (size := 3) w42 #[] 0 q42.size (by unfold maxLen; omega) (by simp)
      have hr1 : Hid (Reads (w42.alloc (.cells #[] 53)) w.heap.size 53 3 PA pn (prsL N.ps)) := Reads.to (Reads.to hN.ps q42) ((Below.refl _ w42).alloc (Nat.le_refl _) (.cells #[] 53))
      have hB1 := hid_mk (hB.out.other (.cells #[] 53))
      have q16 := q42.alloc q42.size (.cells #[] 53)
      have lX := blk14f (hB.out.at_ 2 rfl)
      go_upto_region 17 with (at_builtin; go_loud (refine wpList_append_any _ rfl (.tmp 129) (.tmp 131) _ rfl w.heap.size 53 i0 _ 3 24 Tryz.underlying28 hi0 hz0 hz1 hz2 rfl (by omega) _ 0 [] rfl hown0 w.heap.size PA pn Pc _ rfl hr1.out (pr_one _) (by simp only [maxLen]; omega) (by omega) (by simp only [World.size_alloc]; omega) ?_; intro v1 wa hown1 hga hat; simp only [Nat.zero_add, List.nil_append] at hown1; obtain ⟨A3, c3, rfl, ho1, ho2⟩ := own_slice hown1; obtain ⟨gp, rfl, hO⟩ := own_box hown1 g2; have hBa := hid_mk (hB1.out.ownR hown0 (by simp) hga); have qa : Below w.heap.size w wa := grown_below q16 hga (fun k hk => (World.ownsRow.lt hown0 k hk).1); have lXa := blk14f (hBa.out.at_ 2 rfl)))
      clear lX
      clear lXa hown0 hown1 hga hat hr1 hB1 q16 q42 z42
      have lgp := hO.lt
      have zzz := qa.size
      have hOn : OwnP (wa.setCell ⟨w.heap.size, 13, none⟩ (.slice (some ⟨gp, 0, none⟩) pn c3)) w.heap.size gp c3 pn N.ps := hO.far (hBa.out.at_ 2 rfl) (by dsimp only; decide) 13 (.slice (some ⟨gp, 0, none⟩) pn c3)
      have hBn : Bxs w.heap.size (wa.setCell ⟨w.heap.size, 13, none⟩ (.slice (some ⟨gp, 0, none⟩) pn c3)) [⟨gZ, 30, ndC X0 xa⟩, ⟨w.heap.size + 1, 24, #[.int .i64 f.base, .int .i64 f.bt, .slice FA fn fc]⟩, ⟨w.heap.size, 30, ndC N ⟨⟨RA, rn, Rc⟩, aV, aG, ⟨some ⟨gp, 0, none⟩, pn, c3⟩⟩⟩] := hBa.out.set 2 rfl 13 (.slice (some ⟨gp, 0, none⟩) pn c3)
      have q17 := qa.setCell (p := ⟨w.heap.size, 13, none⟩) (by dsimp only; omega) (.slice (some ⟨gp, 0, none⟩) pn c3)
      obtain ⟨w17, hw17⟩ : ∃ x, wa.setCell ⟨w.heap.size, 13, none⟩ (.slice (some ⟨gp, 0, none⟩) pn c3) = x := ⟨_, rfl⟩
      rw [hw17] at hOn hBn q17
      try rw [hw17]
      clear hw17 hBa qa hO hB
      replace hOn := hid_mk hOn
      have hB := hid_mk hBn
      clear hBn
      have hk0 : Hid (N.ps[0]? = some p) := by rw [Hid, hps.out]; rfl
      have lO := hOn.out.cells_ hk0.out
      simp only [Nat.zero_mul, Nat.zero_add] at lO
      have lX := blk14f (hB.out.at_ 2 rfl)
      go_upto_region 18 with fail
      clear lX lO
      have hOm : OwnP (w17.setCell ⟨gp, 2, none⟩ (.int .i64 0)) w.heap.size gp c3 pn (⟨p.id, p.nx, 0⟩ :: tl) := by
        have h := hOn.out.mt hk0.out 0
        rw [hps.out] at h
        exact h
      have hBn := hB.out.row hOn.out (by simp) 2 (.int .i64 0)
      have q18 := q17.setCell (p := ⟨gp, 2, none⟩) (by dsimp only; omega) (.int .i64 0)
      obtain ⟨w18, hw18⟩ : ∃ x, w17.setCell ⟨gp, 2, none⟩ (.int .i64 0) = x := ⟨_, rfl⟩
      rw [hw18] at hOm hBn q18
      try rw [hw18]
      clear hw18 hOn hk0 q17
      obtain ⟨N1, hN1⟩ : ∃ z, z = psN N (⟨p.id, p.nx, 0⟩ :: tl) := ⟨_, rfl⟩
      have hcs : ndC N ⟨⟨RA, rn, Rc⟩, aV, aG, ⟨some ⟨gp, 0, none⟩, pn, c3⟩⟩ = ndC N1 ⟨⟨RA, rn, Rc⟩, aV, aG, ⟨some ⟨gp, 0, none⟩, pn, c3⟩⟩ := by rw [hN1]; rfl
      replace hB : Hid (Bxs w.heap.size w18 [⟨gZ, 30, ndC X0 xa⟩, ⟨w.heap.size + 1, 24, #[.int .i64 f.base, .int .i64 f.bt, .slice FA fn fc]⟩, ⟨w.heap.size, 30, ndC N1 ⟨⟨RA, rn, Rc⟩, aV, aG, ⟨some ⟨gp, 0, none⟩, pn, c3⟩⟩⟩]) := by rw [← hcs]; exact hBn
      clear hBn hcs
      have hNk : Hid (NdOk w18 w.heap.size N1 ⟨⟨RA, rn, Rc⟩, aV, aG, ⟨some ⟨gp, 0, none⟩, pn, c3⟩⟩) := by
        rw [hN1]
        exact ⟨hN.recs.to q18, hN.rc, hN.rb, hN.vs.to q18, hN.vc, hN.vb, hN.sb, hN.got.to q18, hN.gc, hN.gb, hOm.prs, ho1, hN.pb⟩
      clear hOm
      obtain ⟨L0, hL0⟩ : ∃ z, sendL N1 p.id = z := ⟨_, rfl⟩
      have hXt : Hid (X0.h.t = N.h.t) := by rw [hX0.out]; rfl
      have hH : Hid (∀ e, rightH ⟨X0.h.t, X0.h.v, ⟨0, 0, N.h.l.rs.take e⟩, X0.h.s, X0.h.vs⟩ = true) := by
        rw [hX0.out]
        exact fun e => take_right hzr.out hz.out g3.out e
      have hSt0 : Hid (MeetS N X0 N1 X0 L0 p.id ((0 : Nat) : Int)) := by
        have h := hzx.out
        rw [hX0.out] at h
        have h2 := meet_start hzr.out g1.out hps.out g3.out g4.out h hap0.out
        rw [← hL0, hN1, hX0.out]
        exact Or.inr ⟨⟨p.id, p.nx, 0⟩, rfl, h2.2, h2.1⟩
      have hES := fun (w1 : World) (h0 : w.heap.size ≤ w1.heap.size) (h1 : NdOk w1 w.heap.size N1 ⟨⟨RA, rn, Rc⟩, aV, aG, ⟨some ⟨gp, 0, none⟩, pn, c3⟩⟩) (h3 : Tab w1) => ESendTo_any N1 ⟨⟨RA, rn, Rc⟩, aV, aG, ⟨some ⟨gp, 0, none⟩, pn, c3⟩⟩ p.id w1 h0 h1 h3
      rw [hL0] at hES
      unfold nodeV at hES
      dsimp only at hES
      replace hL0 := hid_mk hL0
      replace hN1 := hid_mk hN1
      have z18 := q18.size
      have lX := blk14c (hB.out.at_ 2 rfl)
      go_wp2_with fail
      clear lX
      refine (hES _ (by omega) hNk.out (ht.to q18)).mono ?_
      rintro e w52 ⟨SA, sn, sc, pm, rfl, hMs, hpm, hsc, hb1⟩
      have q52 := (after (w := w) hb1 q18).1
      have z52 := q52.size
      replace hB := hid_mk (hB.out.keep hb1)
      replace hNk := hid_mk (hNk.out.to hb1)
      clear hb1 q18 z18
      clear hES
      replace hMs := hid_mk hMs
      replace hpm := hid_mk hpm
      go_wp2
      go_loopw [11, 12] (fun sl rv wr => ∃ (r : Nat) (n2 x2 : Nd) (an ax : NdA) (L : List Ms) (SB : Option Addr) (sm sd : Nat) (pm : List (Ms × MsA)), sl = .slice SB sm sd ∧ rv = .int .i64 r ∧ r ≤ 2 * rn + 2 ∧ Below w.heap.size w wr ∧ Hid (MeetS N X0 n2 x2 L p.id r) ∧ Hid (NdOk wr w.heap.size n2 an) ∧ Hid (NdOk wr w.heap.size x2 ax) ∧ Hid (Mgs wr w.heap.size SB sm pm) ∧ Hid (pm.map Prod.fst = L) ∧ Hid (Bxs w.heap.size wr [⟨gZ, 30, ndC x2 ax⟩, ⟨w.heap.size + 1, 24, #[.int .i64 f.base, .int .i64 f.bt, .slice FA fn fc]⟩, ⟨w.heap.size, 30, ndC n2 an⟩])) (fun _ rv _ => 2 * rn + 10 - (intOf rv).toNat)
      case atStart => exact ⟨0, N1, X0, ⟨⟨RA, rn, Rc⟩, aV, aG, ⟨some ⟨gp, 0, none⟩, pn, c3⟩⟩, xa, L0, SA, sn, sc, pm, rfl, rfl, by omega, q52, hSt0, hNk, hid_mk (hZ.out _ q52), hMs, hpm, hB⟩
      case round =>
        clear hB hNk hMs hpm hSt0 q52 z52
        obtain ⟨r, n2, x2, an, ax, L, SB, sm, sd, pm2, rfl, rfl, hr, qy, hSt, hn2, hx2, hMs, hpm, hB⟩ := hrel
        have zy := qy.size
        by_cases hs0 : sm = 0
        · skip
          have hLe : L = [] := by
            have h1 := hMs.out.len
            have h2 := congrArg List.length hpm.out
            rw [List.length_map] at h2
            exact List.eq_nil_of_length_eq_zero (by omega)
          have hMt : Met N n2 x2 p.id := by
            have h := hSt.out
            rw [hLe] at h
            exact meetS_end h
          obtain ⟨hh, ⟨p', tl', hp1, hp2, hp3⟩, hxl, hxt⟩ := hMt
          rw [hlN.out] at hp3 hxl hxt
          have hpn2 : 0 < an.P.n := by
            have h := hn2.out.ps.len
            rw [hp1, List.length_cons] at h
            omega
          obtain ⟨b3, o3, _, hA3, _⟩ := hn2.out.ps.at_ (k := 0) hpn2
          have hPr2 : Hid (Prs wr w.heap.size (some ⟨b3, o3, none⟩) an.P.n (p' :: tl')) := by
            have h := hn2.out.ps
            rw [hp1, hA3] at h
            exact h
          have hxn : ax.R.n = x2.h.l.rs.length := hx2.out.recs.len.symm
          have hrx : Hid (Recs wr w.heap.size ax.R.A rn N.h.l.rs) := by
            have h := hx2.out.recs.take (k := rn) (by omega)
            rw [hxt] at h
            exact h
          have hnr : Hid (rightJ n2.h.l = true) := by
            rw [Hid, hh]
            exact (right_n hzr.out).1
          have hla : Hid (lastJ n2.h.l = (rn : Int)) := by
            rw [Hid, hh]
            unfold lastJ
            rw [g3.out, hlN.out]
            omega
          have hbn := hn2.out.rb
          have hbx := hx2.out.rc
          have hLA := fun (w1 : World) (k1 : NdOk w1 w.heap.size n2 an) => Last_any n2.h.l an.R.A an.R.n an.R.c w1 (by omega) k1.recs
          rw [hnr.out, if_pos rfl, if_pos rfl, hla.out] at hLA
          obtain ⟨lt, hlt2⟩ : ∃ z, (termJ n2.h.l (rn : Int)).getD 0 = z := ⟨_, rfl⟩
          rw [hlt2] at hLA
          unfold logV at hLA
          have e1 : (p'.id == p.id) = true := by simpa using hp2
          have e2 : (p'.mt == (rn : Int)) = true := by simpa using hp3
          have e3 : decide ((rn : Int) ≤ (ax.R.n : Int)) = true := by rw [decide_eq_true_eq]; omega
          have e4 : (rn : Int) ≤ (ax.R.n : Int) := by omega
          have e5 : (0 : Int) ≤ (rn : Int) := by omega
          have e6 : (rn : Int) ≤ (ax.R.c : Int) := by omega
          have e7 : (0 : Int) < (an.P.n : Int) := by omega
          clear hp2 hp3 hxl hxt hxn
          replace hp1 := hid_mk hp1
          replace hh := hid_mk hh
          replace hlt2 := hid_mk hlt2
          replace hA3 := hid_mk hA3
          subst hs0
          have lX := blk14c (hB.out.at_ 2 rfl)
          go_wp2_with fail
          clear lX
          refine (hLA _ hn2.out).mono ?_
          rintro e w61 ⟨rfl, hb1⟩
          have q61 := (after (w := w) hb1 qy).1
          have z61 := q61.size
          replace hB := hid_mk (hB.out.keep hb1)
          replace hn2 := hid_mk (hn2.out.to hb1)
          replace hPr2 := hid_mk (hPr2.out.to hb1)
          replace hrx := hid_mk (hrx.out.to hb1)
          clear hb1 qy zy
          have lP := prs_first hpn2 hPr2.out
          have hA4 := hA3.out
          have lX := blk14c (hB.out.at_ 2 rfl)
          have lZ := blk14c (hB.out.at_ 0 rfl)
          go_wp2_with fail
          clear lX lZ
          refine (LikeRec_same ax.R.A rn _ RA rn Rc N.h.l.rs _ (B := w.heap.size) (B' := w.heap.size) (by omega) hrx.out (hN.recs.to q61)).mono ?_
          rintro e w62 ⟨rfl, hb1⟩
          have q62 := (after (w := w) hb1 q61).1
          have z62 := q62.size
          replace hB := hid_mk (hB.out.keep hb1)
          replace hn2 := hid_mk (hn2.out.to hb1)
          replace hPr2 := hid_mk (hPr2.out.to hb1)
          replace hrx := hid_mk (hrx.out.to hb1)
          clear hb1 q61 z61
          clear lP
          go_wp2
          refine ends_ret hQ (results_tmp rfl _ _ _) rfl ?_
          exact ⟨rfl, q62⟩
        · skip
          have hL : L ≠ [] := fun e => by
            have h1 := hMs.out.len
            have h2 := congrArg List.length hpm.out
            rw [List.length_map, e, List.length_nil] at h2
            omega
          obtain ⟨hr1, M, ans, hLM, hta, hSt2⟩ := meetS_step hSt.out hL g3.out hXt.out hH.out 10
          rw [hlN.out] at hr1
          obtain ⟨e1, b1, o1, m1, e2, e3, hM1⟩ := mgs_shape hMs.out (by rw [hpm.out, hLM])
          subst e1 e2 e3
          obtain ⟨x3, hx3⟩ : ∃ z, takeN x2 M 10 = z := ⟨_, rfl⟩
          obtain ⟨n3, hn3⟩ : ∃ z, fitN n2 ans = z := ⟨_, rfl⟩
          obtain ⟨L3, hL3⟩ : ∃ z, fitL n2 ans = z := ⟨_, rfl⟩
          rw [hx3, hn3, hL3] at hSt2
          have hTK : ∀ w1 : World, w.heap.size ≤ w1.heap.size → NdOk w1 w.heap.size x2 ax → MsOk w1 w.heap.size M m1 → Tab w1 → Calls Tryz.prog 33 #[nodeV x2 ax, msgV M m1, .int .i64 10] w1 (RetOne w1 w.heap.size x3 ans) := fun w1 h0 h1 h2 h3 => by
            have h := ETake_any x2 ax M m1 10 w1 h0 h1 h2 h3
            rw [hx3, hta] at h
            exact h.mono fun e w' h => ret_one h
          have hFT := fun (w1 : World) (m2 : MsA) (h0 : w.heap.size ≤ w1.heap.size) (h1 : NdOk w1 w.heap.size n2 an) (h2 : MsOk w1 w.heap.size ans m2) (h3 : Tab w1) (hmm : w1.cell? ⟨0, 0, none⟩ = some (.int .i64 mm)) => EFit_any n2 an ans m2 w1 h0 h1 h2 h3 mm hmm
          rw [hn3, hL3] at hFT
          unfold nodeV msgV at hTK hFT
          have hSt3 : Hid (MeetS N X0 n3 x3 L3 p.id ((r + 1 : Nat) : Int)) := by
            rw [show ((r + 1 : Nat) : Int) = (r : Int) + 1 from by omega]
            exact hSt2
          clear hSt hL hLM hSt2 hpm
          replace hx3 := hid_mk hx3
          replace hn3 := hid_mk hn3
          replace hL3 := hid_mk hL3
          replace hta := hid_mk hta
          replace hM1 := hid_mk hM1
          have x1 : IntKind.i64.wrap (2 * (rn : Int)) = 2 * rn := IntWalk.i64_in _ (by omega)
          have x2' : IntKind.i64.wrap (2 * (rn : Int) + 5) = 2 * rn + 5 := IntWalk.i64_in _ (by omega)
          have x3' : ¬ (2 * (rn : Int) + 5 < (r : Int)) := by omega
          have x4 : IntKind.i64.wrap ((r : Int) + 1) = r + 1 := IntWalk.i64_in _ (by omega)
          go_upto_region 24 with fail
          clear x1 x2' x3'
          go_cut [13, 14] from 157 to 164 (fun p13 p14 wx => ∃ (gY : Nat) (a3 : NdA) (b2 o2 : Nat) (m2 : MsA) (c2 : Nat), p13 = .pointer (some ⟨gY, 0, none⟩) ∧ p14 = .slice (some ⟨b2, o2, none⟩) 1 c2 ∧ w.heap.size ≤ gY ∧ Below w.heap.size w wx ∧ Hid (NdOk wx w.heap.size n2 an) ∧ Hid (NdOk wx w.heap.size x3 a3) ∧ Hid (Mgs wx w.heap.size (some ⟨b2, o2, none⟩) 1 [(ans, m2)]) ∧ Hid (MsOk wx w.heap.size ans m2) ∧ Hid (Bxs w.heap.size wx [⟨gY, 30, ndC x3 a3⟩, ⟨gZ, 30, ndC x2 ax⟩, ⟨w.heap.size + 1, 24, #[.int .i64 f.base, .int .i64 f.bt, .slice FA fn fc]⟩, ⟨w.heap.size, 30, ndC n2 an⟩]))
          case first =>
            refine regm (fun w' => AtN w' gZ x2 ax ∧ (w'.cell? ⟨b1, o1, none⟩ = some (.int .i64 M.kind) ∧ w'.cell? ⟨b1, o1 + 1, none⟩ = some (.int .i64 M.fr) ∧ w'.cell? ⟨b1, o1 + 2, none⟩ = some (.int .i64 M.to) ∧ w'.cell? ⟨b1, o1 + 3, none⟩ = some (.int .i64 M.term) ∧ w'.cell? ⟨b1, o1 + 4, none⟩ = some (.bool M.ok) ∧ w'.cell? ⟨b1, o1 + 5, none⟩ = some (.int .i64 M.index) ∧ w'.cell? ⟨b1, o1 + 6, none⟩ = some (.int .i64 M.lterm) ∧ w'.cell? ⟨b1, o1 + 7, none⟩ = some (.slice m1.R.A m1.R.n m1.R.c) ∧ w'.cell? ⟨b1, o1 + 8, none⟩ = some (.int .i64 M.commit) ∧ w'.cell? ⟨b1, o1 + 9, none⟩ = some (.string M.s) ∧ w'.cell? ⟨b1, o1 + 10, none⟩ = some (.slice m1.V.A m1.V.n m1.V.c))) 11 11 [(0, 0), (0, 0), (2, 2), (4, 4), (9, 9), (16, 16), (32, 32), (32, 32), (0, 0), (383, 320), (1023, 128)] (by exact And.intro ((hB.out.at_ 0 rfl).atN) ((show AtO wr b1 o1 M m1 from mgs_first (n := 1) (by decide) hMs.out))) (fun hS0 hR => ?_)
            replace hB := hid_mk hB.out.drew
            replace hn2 := hid_mk (hn2.out.to (show Below wr.heap.size wr wr.drew by go_grown))
            replace hx2 := hid_mk (hx2.out.to (show Below wr.heap.size wr wr.drew by go_grown))
            replace hMs := hid_mk (hMs.out.to (show Below wr.heap.size wr wr.drew by go_grown))
            replace hM1 := hid_mk (hM1.out.to (show Below wr.heap.size wr wr.drew by go_grown))
            have qd : Below w.heap.size w wr.drew := by go_grown
            obtain ⟨wd, hwd⟩ : ∃ x, wr.drew = x := ⟨_, rfl⟩
            rw [hwd] at hS0 hB hn2 hx2 hMs hM1 qd ⊢
            clear hwd qy zy
            have zd := qd.size
            refine tkn (i := 0) hR hS0 (h := ?_)
            refine tkn (i := 1) hR hS0 (h := ?_)
            refine tkn (i := 2) hR hS0 (h := ?_)
            refine tkn (i := 3) hR hS0 (h := ?_)
            refine twom (i := 4) (j := 8) hR (h := fun K hK => ?_) (h' := fun K hK => ?_)
            · go_simp
              refine (hTK _ qd.size hx2.out hM1.out (ht.to qd)).mono ?_
              rintro e wT ⟨a3, b2, o2, m2, c2, rfl, hok3, hM2, hm2k, hb1⟩
              have qT := (after (w := w) hb1 qd).1
              replace hB := hid_mk (hB.out.keep hb1)
              replace hn2 := hid_mk (hn2.out.to hb1)
              replace hx2 := hid_mk (hx2.out.to hb1)
              replace hMs := hid_mk (hMs.out.to hb1)
              replace hM1 := hid_mk (hM1.out.to hb1)
              replace hok3 := hid_mk hok3
              replace hM2 := hid_mk hM2
              replace hm2k := hid_mk hm2k
              clear hb1
              try unfold nodeV
              have hS1 := And.intro ((hB.out.at_ 0 rfl).atN) (mgs_first (n := 1) (by decide) hMs.out)
              refine hK.out _ _ (fun _ => hS1) ?_
              clear hK K hS0
              have hS0 := hS1
              clear hS1
              refine tkn (i := 5) hR hS0 (h := ?_)
              simp only [Act.put]
              refine tkn (i := 6) hR hS0 (h := ?_)
              refine tkn (i := 7) hR hS0 (h := ?_)
              refine onem (i := 8) hR (h := fun K hK => ?_)
              go_simp
              obtain ⟨gY, hgY⟩ : ∃ g, wT.heap.size = g := ⟨_, rfl⟩
              have lgY : w.heap.size ≤ gY := by rw [← hgY]; exact qT.size
              replace hB := hid_mk (hB.out.add_ hgY lgY 30 (ndC zeroN nilA))
              replace hn2 := hid_mk (hn2.out.to ((Below.refl _ wT).alloc (Nat.le_refl _) (.cells (ndC zeroN nilA) 30)))
              replace hx2 := hid_mk (hx2.out.to ((Below.refl _ wT).alloc (Nat.le_refl _) (.cells (ndC zeroN nilA) 30)))
              replace hMs := hid_mk (hMs.out.to ((Below.refl _ wT).alloc (Nat.le_refl _) (.cells (ndC zeroN nilA) 30)))
              replace hM1 := hid_mk (hM1.out.to ((Below.refl _ wT).alloc (Nat.le_refl _) (.cells (ndC zeroN nilA) 30)))
              replace hok3 := hid_mk (hok3.out.to ((Below.refl _ wT).alloc (Nat.le_refl _) (.cells (ndC zeroN nilA) 30)))
              replace hM2 := hid_mk (hM2.out.to ((Below.refl _ wT).alloc (Nat.le_refl _) (.cells (ndC zeroN nilA) 30)))
              replace hm2k := hid_mk (hm2k.out.to ((Below.refl _ wT).alloc (Nat.le_refl _) (.cells (ndC zeroN nilA) 30)))
              have qA := qT.alloc qT.size (.cells (ndC zeroN nilA) 30)
              obtain ⟨wA, hwA⟩ : ∃ x, wT.alloc (.cells (ndC zeroN nilA) 30) = x := ⟨_, rfl⟩
              rw [hwA] at hB hn2 hx2 hMs hM1 hok3 hM2 hm2k qA
              dsimp only [ndC, msC, zeroN, nilA, zeroM, nilMA] at hwA
              rw [hwA, hgY]
              clear hwA hgY
              have hS1 := And.intro ((hB.out.at_ 1 rfl).atN) (mgs_first (n := 1) (by decide) hMs.out)
              refine hK.out _ _ (fun _ => hS1) ?_
              clear hK K hS0
              have hS0 := hS1
              clear hS1
              have lY := blk14f (hB.out.at_ 0 rfl)
              refine onem (i := 9) hR (h := fun K hK => ?_)
              go_simp
              clear lY
              have hkr := setN_kr (B := w.heap.size) x3 a3 (hB.out.at_ 0 rfl) (by dsimp only; omega)
              replace hM2 := hid_mk (mgs_setN hM2.out (hB.out.at_ 0 rfl) (by dsimp only; omega) x3 a3)
              replace hMs := hid_mk (mgs_setN hMs.out (hB.out.at_ 0 rfl) (by dsimp only; omega) x3 a3)
              replace hok3 := hid_mk (hok3.out.kr hkr)
              replace hn2 := hid_mk (hn2.out.kr hkr)
              replace hx2 := hid_mk (hx2.out.kr hkr)
              replace hm2k := hid_mk (hm2k.out.kr' hkr)
              replace hM1 := hid_mk (hM1.out.kr' hkr)
              have qz := setN_below x3 a3 qA lgY
              have hBn := hB.out.setN 0 rfl x3 a3
              obtain ⟨wz, hwz⟩ : ∃ x, setN wA gY x3 a3 = x := ⟨_, rfl⟩
              rw [hwz] at hBn qz hM2 hMs hok3 hn2 hx2 hm2k hM1
              replace hB : Hid (Bxs w.heap.size wz [⟨gY, 30, ndC x3 a3⟩, ⟨gZ, 30, ndC x2 ax⟩, ⟨w.heap.size + 1, 24, #[.int .i64 f.base, .int .i64 f.bt, .slice FA fn fc]⟩, ⟨w.heap.size, 30, ndC n2 an⟩]) := hid_mk hBn
              clear hBn hkr
              unfold setN set14 at hwz
              rw [hwz]
              clear hwz
              have hS1 := And.intro ((hB.out.at_ 1 rfl).atN) (mgs_first (n := 1) (by decide) hMs.out)
              refine hK.out _ _ (fun _ => hS1) ?_
              clear hK K hS0
              have hS0 := hS1
              clear hS1
              refine onem (i := 10) hR (h := fun K hK => ?_)
              go_simp
              have hS1 := And.intro ((hB.out.at_ 1 rfl).atN) (mgs_first (n := 1) (by decide) hMs.out)
              refine hK.out _ _ (fun _ => hS1) ?_
              clear hK K hS0
              have hS0 := hS1
              clear hS1
              refine donem hR (h := ?_)
              try simp only [Act.put]
              go_wp2_with fail
              go_meet
              exact ⟨gY, a3, b2, o2, m2, c2, rfl, rfl, lgY, qz, hn2, hok3, hM2, hm2k, hB⟩
            · go_simp
              obtain ⟨gY, hgY⟩ : ∃ g, wd.heap.size = g := ⟨_, rfl⟩
              have lgY : w.heap.size ≤ gY := by rw [← hgY]; exact qd.size
              replace hB := hid_mk (hB.out.add_ hgY lgY 30 (ndC zeroN nilA))
              replace hn2 := hid_mk (hn2.out.to ((Below.refl _ wd).alloc (Nat.le_refl _) (.cells (ndC zeroN nilA) 30)))
              replace hx2 := hid_mk (hx2.out.to ((Below.refl _ wd).alloc (Nat.le_refl _) (.cells (ndC zeroN nilA) 30)))
              replace hMs := hid_mk (hMs.out.to ((Below.refl _ wd).alloc (Nat.le_refl _) (.cells (ndC zeroN nilA) 30)))
              replace hM1 := hid_mk (hM1.out.to ((Below.refl _ wd).alloc (Nat.le_refl _) (.cells (ndC zeroN nilA) 30)))
              have qA := qd.alloc qd.size (.cells (ndC zeroN nilA) 30)
              obtain ⟨wA, hwA⟩ : ∃ x, wd.alloc (.cells (ndC zeroN nilA) 30) = x := ⟨_, rfl⟩
              rw [hwA] at hB hn2 hx2 hMs hM1 qA
              dsimp only [ndC, msC, zeroN, nilA, zeroM, nilMA] at hwA
              rw [hwA, hgY]
              clear hwA hgY
              have hS1 := And.intro ((hB.out.at_ 1 rfl).atN) (mgs_first (n := 1) (by decide) hMs.out)
              refine hK.out _ _ (fun _ => hS1) ?_
              clear hK K hS0
              have hS0 := hS1
              clear hS1
              refine onem (i := 4) hR (h := fun K hK => ?_)
              go_simp
              refine (hTK _ qA.size hx2.out hM1.out (ht.to qA)).mono ?_
              rintro e wT ⟨a3, b2, o2, m2, c2, rfl, hok3, hM2, hm2k, hb1⟩
              have qT := (after (w := w) hb1 qA).1
              replace hB := hid_mk (hB.out.keep hb1)
              replace hn2 := hid_mk (hn2.out.to hb1)
              replace hx2 := hid_mk (hx2.out.to hb1)
              replace hMs := hid_mk (hMs.out.to hb1)
              replace hM1 := hid_mk (hM1.out.to hb1)
              replace hok3 := hid_mk hok3
              replace hM2 := hid_mk hM2
              replace hm2k := hid_mk hm2k
              clear hb1
              try unfold nodeV
              have hS1 := And.intro ((hB.out.at_ 1 rfl).atN) (mgs_first (n := 1) (by decide) hMs.out)
              refine hK.out _ _ (fun _ => hS1) ?_
              clear hK K hS0
              have hS0 := hS1
              clear hS1
              refine tkn (i := 5) hR hS0 (h := ?_)
              simp only [Act.put]
              refine tkn (i := 6) hR hS0 (h := ?_)
              refine tkn (i := 7) hR hS0 (h := ?_)
              have lY := blk14f (hB.out.at_ 0 rfl)
              refine onem (i := 9) hR (h := fun K hK => ?_)
              go_simp
              clear lY
              have hkr := setN_kr (B := w.heap.size) x3 a3 (hB.out.at_ 0 rfl) (by dsimp only; omega)
              replace hM2 := hid_mk (mgs_setN hM2.out (hB.out.at_ 0 rfl) (by dsimp only; omega) x3 a3)
              replace hMs := hid_mk (mgs_setN hMs.out (hB.out.at_ 0 rfl) (by dsimp only; omega) x3 a3)
              replace hok3 := hid_mk (hok3.out.kr hkr)
              replace hn2 := hid_mk (hn2.out.kr hkr)
              replace hx2 := hid_mk (hx2.out.kr hkr)
              replace hm2k := hid_mk (hm2k.out.kr' hkr)
              replace hM1 := hid_mk (hM1.out.kr' hkr)
              have qz := setN_below x3 a3 qT lgY
              have hBn := hB.out.setN 0 rfl x3 a3
              obtain ⟨wz, hwz⟩ : ∃ x, setN wT gY x3 a3 = x := ⟨_, rfl⟩
              rw [hwz] at hBn qz hM2 hMs hok3 hn2 hx2 hm2k hM1
              replace hB : Hid (Bxs w.heap.size wz [⟨gY, 30, ndC x3 a3⟩, ⟨gZ, 30, ndC x2 ax⟩, ⟨w.heap.size + 1, 24, #[.int .i64 f.base, .int .i64 f.bt, .slice FA fn fc]⟩, ⟨w.heap.size, 30, ndC n2 an⟩]) := hid_mk hBn
              clear hBn hkr
              unfold setN set14 at hwz
              rw [hwz]
              clear hwz
              have hS1 := And.intro ((hB.out.at_ 1 rfl).atN) (mgs_first (n := 1) (by decide) hMs.out)
              refine hK.out _ _ (fun _ => hS1) ?_
              clear hK K hS0
              have hS0 := hS1
              clear hS1
              refine onem (i := 10) hR (h := fun K hK => ?_)
              go_simp
              have hS1 := And.intro ((hB.out.at_ 1 rfl).atN) (mgs_first (n := 1) (by decide) hMs.out)
              refine hK.out _ _ (fun _ => hS1) ?_
              clear hK K hS0
              have hS0 := hS1
              clear hS1
              refine donem hR (h := ?_)
              try simp only [Act.put]
              go_wp2_with fail
              go_meet
              exact ⟨gY, a3, b2, o2, m2, c2, rfl, rfl, lgY, qz, hn2, hok3, hM2, hm2k, hB⟩
          case rest =>
            clear hB hMs hx2 hn2 hM1 hTK qy zy
            obtain ⟨gY, a3, b2, o2, m2, c2, rfl, rfl, lgY, q70, hn2, hx2, hMs, hM1, hB⟩ := hcut
            obtain ⟨w70, hwc⟩ : ∃ x, x = wc := ⟨wc, rfl⟩
            subst hwc
            have z70 := q70.size
            have lY := blk14f (hB.out.at_ 0 rfl)
            have lZ := blk14f (hB.out.at_ 1 rfl)
            go_upto_region 28 with fail
            clear lY lZ
            have q71 := setN_below x3 a3 q70 (by omega : w.heap.size ≤ gZ)
            have hn2n := hid_mk (hn2.out.kr (setN_kr (B := w.heap.size) x3 a3 (hB.out.at_ 1 rfl) (by dsimp only; omega)))
            have hx2n := hid_mk (hx2.out.kr (setN_kr (B := w.heap.size) x3 a3 (hB.out.at_ 1 rfl) (by dsimp only; omega)))
            have hM1n := hid_mk (hM1.out.kr' (setN_kr (B := w.heap.size) x3 a3 (hB.out.at_ 1 rfl) (by dsimp only; omega)))
            have hMsn := hid_mk (mgs_setN hMs.out (hB.out.at_ 1 rfl) (by dsimp only; omega) x3 a3)
            have hBn := hB.out.setN 1 rfl x3 a3
            obtain ⟨w71, hwz⟩ : ∃ x, setN w70 (gZ) x3 a3 = x := ⟨_, rfl⟩
            rw [hwz] at q71 hn2n hx2n hM1n hMsn hBn
            unfold setN set14 at hwz
            try rw [hwz]
            clear hwz
            replace hB : Hid (Bxs w.heap.size w71 [⟨gY, 30, ndC x3 a3⟩, ⟨gZ, 30, ndC x3 a3⟩, ⟨w.heap.size + 1, 24, #[.int .i64 f.base, .int .i64 f.bt, .slice FA fn fc]⟩, ⟨w.heap.size, 30, ndC n2 an⟩]) := hid_mk hBn
            clear hBn
            replace hn2 := hid_mk hn2n
            clear hn2n
            replace hx2 := hid_mk hx2n
            clear hx2n
            replace hM1 := hid_mk hM1n
            clear hM1n
            replace hMs := hid_mk hMsn
            clear hMsn
            have z71 := q71.size
            clear q70 z70
            replace hB := hid_mk hB.out.tail
            refine regm (fun w' => w'.cell? ⟨b2, o2, none⟩ = some (.int .i64 ans.kind) ∧ w'.cell? ⟨b2, o2 + 1, none⟩ = some (.int .i64 ans.fr) ∧ w'.cell? ⟨b2, o2 + 2, none⟩ = some (.int .i64 ans.to) ∧ w'.cell? ⟨b2, o2 + 3, none⟩ = some (.int .i64 ans.term) ∧ w'.cell? ⟨b2, o2 + 4, none⟩ = some (.bool ans.ok) ∧ w'.cell? ⟨b2, o2 + 5, none⟩ = some (.int .i64 ans.index) ∧ w'.cell? ⟨b2, o2 + 6, none⟩ = some (.int .i64 ans.lterm) ∧ w'.cell? ⟨b2, o2 + 7, none⟩ = some (.slice m2.R.A m2.R.n m2.R.c) ∧ w'.cell? ⟨b2, o2 + 8, none⟩ = some (.int .i64 ans.commit) ∧ w'.cell? ⟨b2, o2 + 9, none⟩ = some (.string ans.s) ∧ w'.cell? ⟨b2, o2 + 10, none⟩ = some (.slice m2.V.A m2.V.n m2.V.c)) 10 10 [(0, 0), (0, 0), (2, 2), (4, 4), (9, 9), (16, 16), (32, 32), (32, 32), (127, 64), (511, 128)] (by exact (show AtO w71 b2 o2 ans m2 from mgs_first (n := 1) (by decide) hMs.out)) (fun hS0 hR => ?_)
            replace hB := hid_mk hB.out.drew
            replace hn2 := hid_mk (hn2.out.to (show Below w71.heap.size w71 w71.drew by go_grown))
            replace hx2 := hid_mk (hx2.out.to (show Below w71.heap.size w71 w71.drew by go_grown))
            replace hMs := hid_mk (hMs.out.to (show Below w71.heap.size w71 w71.drew by go_grown))
            replace hM1 := hid_mk (hM1.out.to (show Below w71.heap.size w71 w71.drew by go_grown))
            have qd : Below w.heap.size w w71.drew := by go_grown
            obtain ⟨wd, hwd⟩ : ∃ x, w71.drew = x := ⟨_, rfl⟩
            rw [hwd] at hS0 hB hn2 hx2 hMs hM1 qd ⊢
            clear hwd q71 z71
            have zd := qd.size
            refine tkn (i := 1) hR hS0 (h := ?_)
            refine tkn (i := 2) hR hS0 (h := ?_)
            refine tkn (i := 3) hR hS0 (h := ?_)
            have lX := blk14f (hB.out.at_ 2 rfl)
            refine onem (i := 0) hR (h := fun K hK => ?_)
            go_simp
            clear lX
            have hS1 := mgs_first (n := 1) (by decide) hMs.out
            refine hK.out _ _ (fun _ => hS1) ?_
            clear hK K hS0
            have hS0 := hS1
            clear hS1
            refine onem (i := 4) hR (h := fun K hK => ?_)
            go_simp
            refine (hFT _ m2 qd.size hn2.out hM1.out (ht.to qd) (hm2.out _ qd)).mono ?_
            rintro e wT ⟨a4, A4, s4, d4, pm4, rfl, hok4, hM4, hp4, hc4, hb1⟩
            have qT := (after (w := w) hb1 qd).1
            replace hB := hid_mk (hB.out.keep hb1)
            replace hn2 := hid_mk (hn2.out.to hb1)
            replace hx2 := hid_mk (hx2.out.to hb1)
            replace hMs := hid_mk (hMs.out.to hb1)
            replace hM1 := hid_mk (hM1.out.to hb1)
            replace hok4 := hid_mk hok4
            replace hM4 := hid_mk hM4
            replace hp4 := hid_mk hp4
            clear hb1 qd zd
            try unfold nodeV
            have hS1 := mgs_first (n := 1) (by decide) hMs.out
            refine hK.out _ _ (fun _ => hS1) ?_
            clear hK K hS0
            have hS0 := hS1
            clear hS1
            refine tkn (i := 5) hR hS0 (h := ?_)
            refine tkn (i := 6) hR hS0 (h := ?_)
            simp only [Act.put]
            refine tkn (i := 7) hR hS0 (h := ?_)
            have lX := blk14f (hB.out.at_ 2 rfl)
            refine onem (i := 8) hR (h := fun K hK => ?_)
            go_simp
            clear lX
            have hkr := setN_kr (B := w.heap.size) n3 a4 (hB.out.at_ 2 rfl) (by dsimp only; omega)
            replace hM4 := hid_mk (mgs_setN hM4.out (hB.out.at_ 2 rfl) (by dsimp only; omega) n3 a4)
            replace hMs := hid_mk (mgs_setN hMs.out (hB.out.at_ 2 rfl) (by dsimp only; omega) n3 a4)
            replace hok4 := hid_mk (hok4.out.kr hkr)
            replace hx2 := hid_mk (hx2.out.kr hkr)
            have qz := setN_below n3 a4 qT (Nat.le_refl w.heap.size)
            have hBn := hB.out.setN 2 rfl n3 a4
            obtain ⟨wz, hwz⟩ : ∃ x, setN wT w.heap.size n3 a4 = x := ⟨_, rfl⟩
            rw [hwz] at hBn qz hM4 hMs hok4 hx2
            replace hB : Hid (Bxs w.heap.size wz [⟨gZ, 30, ndC x3 a3⟩, ⟨w.heap.size + 1, 24, #[.int .i64 f.base, .int .i64 f.bt, .slice FA fn fc]⟩, ⟨w.heap.size, 30, ndC n3 a4⟩]) := hid_mk hBn
            clear hBn hkr
            unfold setN set14 at hwz
            rw [hwz]
            clear hwz
            have hS1 := mgs_first (n := 1) (by decide) hMs.out
            refine hK.out _ _ (fun _ => hS1) ?_
            clear hK K hS0
            have hS0 := hS1
            clear hS1
            refine onem (i := 9) hR (h := fun K hK => ?_)
            go_simp
            have hS1 := mgs_first (n := 1) (by decide) hMs.out
            refine hK.out _ _ (fun _ => hS1) ?_
            clear hK K hS0
            have hS0 := hS1
            clear hS1
            refine donem hR (h := ?_)
            try simp only [Act.put]
            go_wp2_with fail
            go_roundw
            case rel => exact ⟨r + 1, n3, x3, a4, a3, L3, A4, s4, d4, pm4, rfl, by go_num, by omega, qz, hSt3, hok4, hx2, hM4, hp4, hB⟩
            case measure => simp [intOf]; omega
theorem LawMeets_walk {w : World} (ht : Tab w) (mm : Int) (hm : w.cell? ⟨0, 0, none⟩ = some (.int .i64 mm)) (N : Nd) (a : NdA) (hN : NdOk w w.heap.size N a) (f : Lg) (FA : Option Addr) (fn fc : Nat) (hF : Recs w w.heap.size FA fn f.rs) (hfc : fn ≤ fc) (hfb : fc * 32 ≤ 140737488351232) :
    Calls Tryz.prog 8 #[nodeV N a, logV f FA fn fc] w fun e w' => e = .returned (.bool true) ∧ Below w.heap.size w w' := LawMeets_any N a f FA fn fc w hN hF hfc hfb ht mm hm
end Go.Proofs.YtncdjmpdbinanaaGreatDoor
