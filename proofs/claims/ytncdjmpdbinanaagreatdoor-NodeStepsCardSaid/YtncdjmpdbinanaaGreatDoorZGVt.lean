/-
  WHAT IS PROVED HERE: the answer to a request for a vote, as data. No condition.
  WHAT IS PROVED HERE: two lists of records, two states, two nodes, two rows of messages that are the same are alike. Condition: the slices are of at most 2^43 elements.
-/
import Derived.Test.YtncdjmpdbinanaaGreatDoorZGEl1
import Derived.Test.YtncdjmpdbinanaaGreatDoorZGMem
import Derived.Test.YtncdjmpdbinanaaGreatDoorZGJrn
import Derived.Test.YtncdjmpdbinanaaGreatDoorZMay0
import Derived.Test.YtncdjmpdbinanaaGreatDoorZGQrm
namespace Go.Proofs.YtncdjmpdbinanaaGreatDoor
open Go.RowKit

theorem blk11v {w : World} {g : Nat} {t : TypeId} {a0 a1 a2 a3 a4 a5 a6 a7 a8 a9 a10 : Value} (h : Blk w g t #[a0, a1, a2, a3, a4, a5, a6, a7, a8, a9, a10]) :
    g < w.heap.size ∧ w.cell? ⟨g, 0, none⟩ = some a0 ∧ w.cell? ⟨g, 1, none⟩ = some a1 ∧ w.cell? ⟨g, 2, none⟩ = some a2 ∧ w.cell? ⟨g, 3, none⟩ = some a3 ∧ w.cell? ⟨g, 4, none⟩ = some a4 ∧ w.cell? ⟨g, 5, none⟩ = some a5 ∧ w.cell? ⟨g, 6, none⟩ = some a6 ∧ w.cell? ⟨g, 7, none⟩ = some a7 ∧ w.cell? ⟨g, 8, none⟩ = some a8 ∧ w.cell? ⟨g, 9, none⟩ = some a9 ∧ w.cell? ⟨g, 10, none⟩ = some a10 :=
  ⟨h.lt, h.cell 0, h.cell 1, h.cell 2, h.cell 3, h.cell 4, h.cell 5, h.cell 6, h.cell 7, h.cell 8, h.cell 9, h.cell 10⟩
theorem set14_far {w : World} {g g' : Nat} {t : TypeId} {cs : Array Value} (h : Blk w g t cs) (hg : g ≠ g') (b0 b1 b2 b3 b4 b5 b6 b7 b8 b9 b10 b11 b12 b13 : Value) : Blk (set14 w g' b0 b1 b2 b3 b4 b5 b6 b7 b8 b9 b10 b11 b12 b13) g t cs := by
  unfold set14
  exact (((((((((((((h.far (by exact hg) _).far (by exact hg) _).far (by exact hg) _).far (by exact hg) _).far (by exact hg) _).far (by exact hg) _).far (by exact hg) _).far (by exact hg) _).far (by exact hg) _).far (by exact hg) _).far (by exact hg) _).far (by exact hg) _).far (by exact hg) _).far (by exact hg) _
theorem voteS {w : World} {g h : Nat} {t t' : TypeId} {a0 a1 a2 a3 a4 a5 a6 a7 a8 a9 a10 a11 a12 a13 m1 : Value} {cs' : Array Value} (hm : cs'[1]? = some m1) (hX : Blk w g t #[a0, a1, a2, a3, a4, a5, a6, a7, a8, a9, a10, a11, a12, a13]) (hM : Blk w h t' cs') : w.cell? ⟨g, 0, none⟩ = some a0 ∧ w.cell? ⟨g, 1, none⟩ = some a1 ∧ w.cell? ⟨g, 2, none⟩ = some a2 ∧ w.cell? ⟨g, 3, none⟩ = some a3 ∧ w.cell? ⟨g, 4, none⟩ = some a4 ∧ w.cell? ⟨g, 5, none⟩ = some a5 ∧ w.cell? ⟨g, 6, none⟩ = some a6 ∧ w.cell? ⟨g, 7, none⟩ = some a7 ∧ w.cell? ⟨g, 8, none⟩ = some a8 ∧ w.cell? ⟨g, 9, none⟩ = some a9 ∧ w.cell? ⟨g, 10, none⟩ = some a10 ∧ w.cell? ⟨g, 11, none⟩ = some a11 ∧ w.cell? ⟨g, 12, none⟩ = some a12 ∧ w.cell? ⟨g, 13, none⟩ = some a13 ∧ w.cell? ⟨h, 1, none⟩ = some m1 := ⟨hX.cell 0, hX.cell 1, hX.cell 2, hX.cell 3, hX.cell 4, hX.cell 5, hX.cell 6, hX.cell 7, hX.cell 8, hX.cell 9, hX.cell 10, hX.cell 11, hX.cell 12, hX.cell 13, (hM.cell 1).trans hm⟩
/-- is the message one that asks this node for its vote, in a term that it has seen? -/
def voteP (N : Nd) (M : Ms) : Bool := rightN N && (mayM M && (M.kind == 1 && (M.to == N.id && decide (M.term ≤ N.h.t))))
/-- is the vote granted? -/
def voteG (N : Nd) (M : Ms) : Bool := M.term == N.h.t && ((N.h.v == 0 || N.h.v == M.fr) && newerJ N.h.l M.index M.lterm)
def voteN (N : Nd) (M : Ms) (d : Int) : Nd := if voteP N M && voteG N M then ⟨N.id, ⟨N.h.t, M.fr, N.h.l, N.h.s, N.h.vs⟩, N.role, N.lead, min (max d 0) 1048576, N.commit, N.got, N.ps⟩ else N
def voteL (N : Nd) (M : Ms) : List Ms := if voteP N M then [⟨2, N.id, M.fr, N.h.t, voteG N M, 0, 0, [], 0, ⟨#[]⟩, []⟩] else []
end Go.Proofs.YtncdjmpdbinanaaGreatDoor
namespace Go.Proofs.YtncdjmpdbinanaaGreatDoor
open Go.RowKit

theorem recUnderK : Tryz.prog.underlying 51 = some (.struct (Tryz.prog.fieldsOf 51)) := by kernel_rfl
theorem recHeldK : Tryz.prog.stoodInHeld 51 = false := by kernel_rfl
theorem run_neq_recK (t k : Int) (d : ByteArray) (w : World) : (binOp .neq 51 (.agg #[.int .i64 t, .int .i64 k, .string d]) (.agg #[.int .i64 t, .int .i64 k, .string d])).run Tryz.prog w = .ok (.bool false) w := by
  rw [run_neq_struct, run_equalIn_struct w 9999 51 _ _ recUnderK recHeldK]
  simp [go_sem, Tryz.underlying51]
theorem prUnderK : Tryz.prog.underlying 53 = some (.struct (Tryz.prog.fieldsOf 53)) := by kernel_rfl
theorem prHeldK : Tryz.prog.stoodInHeld 53 = false := by kernel_rfl
theorem run_neq_prK (a b c : Int) (w : World) : (binOp .neq 53 (.agg #[.int .i64 a, .int .i64 b, .int .i64 c]) (.agg #[.int .i64 a, .int .i64 b, .int .i64 c])).run Tryz.prog w = .ok (.bool false) w := by
  rw [run_neq_struct, run_equalIn_struct w 9999 53 _ _ prUnderK prHeldK]
  simp [go_sem, Tryz.underlying53]
set_option maxHeartbeats 800000 in
theorem LikeRec_same (A : Option Addr) (n c : Nat) (A' : Option Addr) (n' c' : Nat) (rs : List Rec) (w : World) {B B' : Nat} (hm : n ≤ 8796093022208) (h : Recs w B A n rs) (h' : Recs w B' A' n' rs) :
    Calls Tryz.prog 37 #[.slice A n c, .slice A' n' c'] w fun e w' => e = .returned (.bool true) ∧ Below w.heap.size w w' := by
  obtain rfl : n = n' := by rw [← h.len, ← h'.len]
  refine calls_of_wpQ Tryz.func37 rfl ?_
  intro Q hQ
  simp only [Tryz.ntmps37, List.size_toArray, List.length_cons, List.length_nil, Nat.reduceAdd, Nat.reduceSub, Array.replicate_succ, Array.replicate_zero, List.push_toArray, List.append_toArray, List.nil_append, List.cons_append]
  go_wp2
  go_loopw [13] (fun iv wr => ∃ k : Nat, iv = .int .i64 k ∧ k ≤ n ∧ Hid (Below w.heap.size w wr)) (fun iv _ => n - (intOf iv).toNat)
  case atStart => exact ⟨0, rfl, Nat.zero_le _, Below.refl _ _⟩
  case round =>
    obtain ⟨k, rfl, hk, hb⟩ := hrel
    by_cases hlt : k < n
    · obtain ⟨b, o, r, rfl, hbl, hik, c0, c1, c2⟩ := (h.to hb.out).at_ hlt
      obtain ⟨b', o', r', rfl, hbl', hik', d0, d1, d2⟩ := (h'.to hb.out).at_ hlt
      obtain rfl : r = r' := by
        have e := hik.out.symm.trans hik'.out
        injection e
      obtain ⟨rt, rk, rd⟩ := r
      dsimp only at c0 c1 c2 d0 d1 d2
      have hne := fun w => run_neq_recK rt rk rd w
      have k0 : (0 : Int) ≤ k := by omega
      have k1 : (k : Int) < n := by omega
      clear hik hik'
      go_wp2_with fail
      go_quiet (fail)
      obtain ⟨wq, hwq⟩ : ∃ u, wr.drewN nq = u := ⟨_, rfl⟩
      have hbq : Hid (Below w.heap.size w wq) := by rw [← hwq]; exact hid_mk (below_drewN hb.out _)
      rw [hwq]
      replace hwq := hid_mk hwq
      go_wp2
      go_roundw
      case rel => exact ⟨k + 1, by go_num, by omega, hbq⟩
      case measure => simp [intOf]; omega
    · go_wp2
      refine ends_ret hQ (results_tmp rfl _ _ _) rfl ?_
      exact ⟨rfl, hb.out⟩
set_option maxRecDepth 100000 in
set_option maxHeartbeats 3200000 in
theorem HLike_same (h : Hd) (R V R' V' : Slc) (w : World) {B B' : Nat} (hm : R.n ≤ 8796093022208) (hv : V.n ≤ 140737488355328) (hr : Recs w B R.A R.n h.l.rs) (hi : Ints w B V.A V.n h.vs) (hr' : Recs w B' R'.A R'.n h.l.rs) (hi' : Ints w B' V'.A V'.n h.vs) :
    Calls Tryz.prog 64 #[hdV h R V, hdV h R' V'] w fun e w' => e = .returned (.bool true) ∧ Below w.heap.size w w' := by
  have hen : R'.n = R.n := by rw [← hr.len, ← hr'.len]
  have hvn : V'.n = V.n := by rw [← hi.len, ← hi'.len]
  obtain ⟨t, v, ⟨base, bt, rs⟩, s, vs⟩ := h
  obtain ⟨RA, n, Rc⟩ := R
  obtain ⟨VA, m, Vc⟩ := V
  obtain ⟨RA', n', Rc'⟩ := R'
  obtain ⟨VA', m', Vc'⟩ := V'
  dsimp only at hen hvn hm hv hr hi hr' hi'
  subst hen
  subst hvn
  unfold hdV
  dsimp only
  have hX := hid_mk ((Blk.new w 27 #[.int .i64 t, .int .i64 v, .int .i64 base, .int .i64 bt, .slice RA n' Rc, .string s, .slice VA m' Vc]).alloc (.cells #[.int .i64 t, .int .i64 v, .int .i64 base, .int .i64 bt, .slice RA' n' Rc', .string s, .slice VA' m' Vc'] 27))
  have hY : Hid (Blk ((w.alloc (.cells #[.int .i64 t, .int .i64 v, .int .i64 base, .int .i64 bt, .slice RA n' Rc, .string s, .slice VA m' Vc] 27)).alloc (.cells #[.int .i64 t, .int .i64 v, .int .i64 base, .int .i64 bt, .slice RA' n' Rc', .string s, .slice VA' m' Vc'] 27)) (w.heap.size + 1) 27 #[.int .i64 t, .int .i64 v, .int .i64 base, .int .i64 bt, .slice RA' n' Rc', .string s, .slice VA' m' Vc']) := Blk.new_ (by simp)
  refine calls_of_wpQ Tryz.func64 rfl ?_
  intro Q hQ
  simp only [Tryz.ntmps64, List.size_toArray, List.length_cons, List.length_nil, Nat.reduceAdd, Nat.reduceSub, Array.replicate_succ, Array.replicate_zero, List.push_toArray, List.append_toArray, List.nil_append, List.cons_append]
  go_wp2_with fail
  refine (Ints_any VA m' Vc vs VA' m' Vc' vs _ B B' (by omega) (by omega) (hi.to (by go_grown)) (hi'.to (by go_grown))).mono ?_
  rw [decide_eq_true (rfl : vs = vs)]
  rintro e w1 ⟨rfl, hb1⟩
  have q1 := (after (w := w) hb1 (by go_grown)).1
  replace hX := hid_mk (hX.out.keep (after hb1 (by go_grown)).1)
  replace hY := hid_mk (hY.out.keep (after hb1 (by go_grown)).1)
  replace q1 := hid_mk q1
  clear hb1
  obtain ⟨xl, x0, x1, x2, x3, x4, x5, x6⟩ := blk7 hX.out
  obtain ⟨yl, y0, y1, y2, y3, y4, y5, y6⟩ := blk7 hY.out
  go_wp2
  clear xl x0 x1 x2 x3 x4 x5 x6 yl y0 y1 y2 y3 y4 y5 y6
  go_loopw [66] (fun iv wr => ∃ k : Nat, iv = .int .i64 k ∧ k ≤ n' ∧ Hid (Below w.heap.size w wr) ∧ Hid (Blk wr w.heap.size 27 #[.int .i64 t, .int .i64 v, .int .i64 base, .int .i64 bt, .slice RA n' Rc, .string s, .slice VA m' Vc]) ∧ Hid (Blk wr (w.heap.size + 1) 27 #[.int .i64 t, .int .i64 v, .int .i64 base, .int .i64 bt, .slice RA' n' Rc', .string s, .slice VA' m' Vc'])) (fun iv _ => n' - (intOf iv).toNat)
  case atStart => exact ⟨0, rfl, Nat.zero_le _, q1, hX, hY⟩
  case round =>
    clear q1 hX hY
    obtain ⟨k, rfl, hk, hb, hX, hY⟩ := hrel
    by_cases hlt : k < n'
    · obtain ⟨b, o, r, rfl, hbl, hik, c0, c1, c2⟩ := (hr.to hb.out).at_ hlt
      obtain ⟨b', o', r', rfl, hbl', hik', d0, d1, d2⟩ := (hr'.to hb.out).at_ hlt
      obtain rfl : r = r' := by
        have e := hik.out.symm.trans hik'.out
        injection e
      obtain ⟨rt, rk, rd⟩ := r
      dsimp only at c0 c1 c2 d0 d1 d2
      have hne := fun w => run_neq_recK rt rk rd w
      have k0 : (0 : Int) ≤ k := by omega
      have k1 : (k : Int) < n' := by omega
      have x4 : wr.cell? ⟨w.heap.size, 4, none⟩ = some (.slice (some ⟨b, o, none⟩) n' Rc) := hX.out.cell 4
      have y4 : wr.cell? ⟨w.heap.size + 1, 4, none⟩ = some (.slice (some ⟨b', o', none⟩) n' Rc') := hY.out.cell 4
      have hgx := hX.out.lt
      have hgy := hY.out.lt
      clear hik hik'
      go_wp2_with fail
      go_quiet (fail)
      obtain ⟨wq, hwq⟩ : ∃ u, wr.drewN nq = u := ⟨_, rfl⟩
      have hbq : Hid (Below w.heap.size w wq) := by rw [← hwq]; exact hid_mk (below_drewN hb.out _)
      have hXq : Hid (Blk wq w.heap.size 27 #[.int .i64 t, .int .i64 v, .int .i64 base, .int .i64 bt, .slice (some ⟨b, o, none⟩) n' Rc, .string s, .slice VA m' Vc]) := by rw [← hwq]; exact hX.out
      have hYq : Hid (Blk wq (w.heap.size + 1) 27 #[.int .i64 t, .int .i64 v, .int .i64 base, .int .i64 bt, .slice (some ⟨b', o', none⟩) n' Rc', .string s, .slice VA' m' Vc']) := by rw [← hwq]; exact hY.out
      rw [hwq]
      replace hwq := hid_mk hwq
      go_wp2
      go_roundw
      case rel => exact ⟨k + 1, by go_num, by omega, hbq, hXq, hYq⟩
      case measure => simp [intOf]; omega
    · go_wp2
      refine ends_ret hQ (results_tmp rfl _ _ _) rfl ?_
      exact ⟨rfl, hb.out⟩
set_option maxRecDepth 100000 in
set_option maxHeartbeats 3200000 in
theorem NLike_same (N : Nd) (a a' : NdA) (w : World) {B B' : Nat} (hN : NdOk w B N a) (hN' : NdOk w B' N a') :
    Calls Tryz.prog 20 #[nodeV N a, nodeV N a'] w fun e w' => e = .returned (.bool true) ∧ Below w.heap.size w w' := by
  have h43 : a.R.n ≤ 8796093022208 ∧ a.V.n ≤ 140737488355328 ∧ a.G.n ≤ 140737488355328 ∧ a.P.n ≤ 140737488355328 := by
    have b1 := hN.rb
    have b2 := hN.vb
    have b3 := hN.gb
    have b4 := hN.pb
    omega
  have hgn : a'.G.n = a.G.n := by rw [← hN.got.len, ← hN'.got.len]
  have hpn : a'.P.n = a.P.n := by rw [← hN.ps.len, ← hN'.ps.len]
  obtain ⟨RR, VV, ⟨GA, gn, Gc⟩, ⟨PA, pn, Pc⟩⟩ := a
  obtain ⟨RR', VV', ⟨GA', gn', Gc'⟩, ⟨PA', pn', Pc'⟩⟩ := a'
  dsimp only at hgn hpn h43
  subst hgn
  subst hpn
  obtain ⟨h1, h2, h3, h4⟩ := h43
  unfold nodeV
  dsimp only
  have hX := hid_mk ((Blk.new w 30 #[.int .i64 N.id, .int .i64 N.h.t, .int .i64 N.h.v, .int .i64 N.h.l.base, .int .i64 N.h.l.bt, .slice RR.A RR.n RR.c, .string N.h.s, .slice VV.A VV.n VV.c, .int .i64 N.role, .int .i64 N.lead, .int .i64 N.timer, .int .i64 N.commit, .slice GA gn' Gc, .slice PA pn' Pc]).alloc (.cells #[.int .i64 N.id, .int .i64 N.h.t, .int .i64 N.h.v, .int .i64 N.h.l.base, .int .i64 N.h.l.bt, .slice RR'.A RR'.n RR'.c, .string N.h.s, .slice VV'.A VV'.n VV'.c, .int .i64 N.role, .int .i64 N.lead, .int .i64 N.timer, .int .i64 N.commit, .slice GA' gn' Gc', .slice PA' pn' Pc'] 30))
  have hY : Hid (Blk ((w.alloc (.cells #[.int .i64 N.id, .int .i64 N.h.t, .int .i64 N.h.v, .int .i64 N.h.l.base, .int .i64 N.h.l.bt, .slice RR.A RR.n RR.c, .string N.h.s, .slice VV.A VV.n VV.c, .int .i64 N.role, .int .i64 N.lead, .int .i64 N.timer, .int .i64 N.commit, .slice GA gn' Gc, .slice PA pn' Pc] 30)).alloc (.cells #[.int .i64 N.id, .int .i64 N.h.t, .int .i64 N.h.v, .int .i64 N.h.l.base, .int .i64 N.h.l.bt, .slice RR'.A RR'.n RR'.c, .string N.h.s, .slice VV'.A VV'.n VV'.c, .int .i64 N.role, .int .i64 N.lead, .int .i64 N.timer, .int .i64 N.commit, .slice GA' gn' Gc', .slice PA' pn' Pc'] 30)) (w.heap.size + 1) 30 #[.int .i64 N.id, .int .i64 N.h.t, .int .i64 N.h.v, .int .i64 N.h.l.base, .int .i64 N.h.l.bt, .slice RR'.A RR'.n RR'.c, .string N.h.s, .slice VV'.A VV'.n VV'.c, .int .i64 N.role, .int .i64 N.lead, .int .i64 N.timer, .int .i64 N.commit, .slice GA' gn' Gc', .slice PA' pn' Pc']) := Blk.new_ (by simp)
  refine calls_of_wpQ Tryz.func20 rfl ?_
  intro Q hQ
  simp only [Tryz.ntmps20, List.size_toArray, List.length_cons, List.length_nil, Nat.reduceAdd, Nat.reduceSub, Array.replicate_succ, Array.replicate_zero, List.push_toArray, List.append_toArray, List.nil_append, List.cons_append]
  go_wp2_with fail
  refine (Ints_any GA gn' Gc N.got GA' gn' Gc' N.got _ B B' (by omega) (by omega) (hN.got.to (by go_grown)) (hN'.got.to (by go_grown))).mono ?_
  rw [decide_eq_true (rfl : N.got = N.got)]
  rintro e w1 ⟨rfl, hb1⟩
  have q1 := (after (w := w) hb1 (by go_grown)).1
  have z1 := q1.size
  replace hX := hid_mk (hX.out.keep (after hb1 (by go_grown)).1)
  replace hY := hid_mk (hY.out.keep (after hb1 (by go_grown)).1)
  clear hb1
  obtain ⟨xl, x0, x1, x2, x3, x4, x5, x6, x7, x8, x9, x10, x11, x12, x13⟩ := blk14c hX.out
  obtain ⟨yl, y0, y1, y2, y3, y4, y5, y6, y7, y8, y9, y10, y11, y12, y13⟩ := blk14c hY.out
  go_wp2_with fail
  refine (HLike_same N.h RR VV RR' VV' _ (B := B) (B' := B') h1 h2 (hN.recs.to (by go_grown)) (hN.vs.to (by go_grown)) (hN'.recs.to (by go_grown)) (hN'.vs.to (by go_grown))).mono ?_
  rintro e w2 ⟨rfl, hb2⟩
  have q2 := (after (w := w) hb2 (by go_grown)).1
  replace hX := hid_mk (hX.out.keep (after hb2 (by go_grown)).1)
  replace hY := hid_mk (hY.out.keep (after hb2 (by go_grown)).1)
  replace q2 := hid_mk q2
  clear hb2 q1
  clear xl x0 x1 x2 x3 x4 x5 x6 x7 x8 x9 x10 x11 x12 x13 yl y0 y1 y2 y3 y4 y5 y6 y7 y8 y9 y10 y11 y12 y13
  obtain ⟨xl, x0, x1, x2, x3, x4, x5, x6, x7, x8, x9, x10, x11, x12, x13⟩ := blk14c hX.out
  obtain ⟨yl, y0, y1, y2, y3, y4, y5, y6, y7, y8, y9, y10, y11, y12, y13⟩ := blk14c hY.out
  go_wp2
  clear xl x0 x1 x2 x3 x4 x5 x6 x7 x8 x9 x10 x11 x12 x13 yl y0 y1 y2 y3 y4 y5 y6 y7 y8 y9 y10 y11 y12 y13
  go_loopw [67] (fun iv wr => ∃ k : Nat, iv = .int .i64 k ∧ k ≤ pn' ∧ Hid (Below w.heap.size w wr) ∧ Hid (Blk wr w.heap.size 30 #[.int .i64 N.id, .int .i64 N.h.t, .int .i64 N.h.v, .int .i64 N.h.l.base, .int .i64 N.h.l.bt, .slice RR.A RR.n RR.c, .string N.h.s, .slice VV.A VV.n VV.c, .int .i64 N.role, .int .i64 N.lead, .int .i64 N.timer, .int .i64 N.commit, .slice GA gn' Gc, .slice PA pn' Pc]) ∧ Hid (Blk wr (w.heap.size + 1) 30 #[.int .i64 N.id, .int .i64 N.h.t, .int .i64 N.h.v, .int .i64 N.h.l.base, .int .i64 N.h.l.bt, .slice RR'.A RR'.n RR'.c, .string N.h.s, .slice VV'.A VV'.n VV'.c, .int .i64 N.role, .int .i64 N.lead, .int .i64 N.timer, .int .i64 N.commit, .slice GA' gn' Gc', .slice PA' pn' Pc'])) (fun iv _ => pn' - (intOf iv).toNat)
  case atStart => exact ⟨0, rfl, Nat.zero_le _, q2, hX, hY⟩
  case round =>
    clear q2 hX hY
    obtain ⟨k, rfl, hk, hb, hX, hY⟩ := hrel
    by_cases hlt : k < pn'
    · obtain ⟨b, o, r, rfl, hbl, hik, c0, c1, c2⟩ := (hN.ps.to hb.out).at_ hlt
      obtain ⟨b', o', r', rfl, hbl', hik', d0, d1, d2⟩ := (hN'.ps.to hb.out).at_ hlt
      obtain rfl : r = r' := by rw [hik] at hik'; injection hik'
      obtain ⟨rt, rk, rd⟩ := r
      dsimp only at c0 c1 c2 d0 d1 d2
      have hne := fun w => run_neq_prK rt rk rd w
      have k0 : (0 : Int) ≤ k := by omega
      have k1 : (k : Int) < pn' := by omega
      have x13 : wr.cell? ⟨w.heap.size, 13, none⟩ = some (.slice (some ⟨b, o, none⟩) pn' Pc) := hX.out.cell 13
      have y13 : wr.cell? ⟨w.heap.size + 1, 13, none⟩ = some (.slice (some ⟨b', o', none⟩) pn' Pc') := hY.out.cell 13
      have hgx := hX.out.lt
      have hgy := hY.out.lt
      clear hik hik'
      go_wp2_with fail
      go_quiet (fail)
      obtain ⟨wq, hwq⟩ : ∃ u, wr.drewN nq = u := ⟨_, rfl⟩
      have hbq : Hid (Below w.heap.size w wq) := by rw [← hwq]; exact hid_mk (below_drewN hb.out _)
      have hXq : Hid (Blk wq w.heap.size 30 #[.int .i64 N.id, .int .i64 N.h.t, .int .i64 N.h.v, .int .i64 N.h.l.base, .int .i64 N.h.l.bt, .slice RR.A RR.n RR.c, .string N.h.s, .slice VV.A VV.n VV.c, .int .i64 N.role, .int .i64 N.lead, .int .i64 N.timer, .int .i64 N.commit, .slice GA gn' Gc, .slice (some ⟨b, o, none⟩) pn' Pc]) := by rw [← hwq]; exact hX.out
      have hYq : Hid (Blk wq (w.heap.size + 1) 30 #[.int .i64 N.id, .int .i64 N.h.t, .int .i64 N.h.v, .int .i64 N.h.l.base, .int .i64 N.h.l.bt, .slice RR'.A RR'.n RR'.c, .string N.h.s, .slice VV'.A VV'.n VV'.c, .int .i64 N.role, .int .i64 N.lead, .int .i64 N.timer, .int .i64 N.commit, .slice GA' gn' Gc', .slice (some ⟨b', o', none⟩) pn' Pc']) := by rw [← hwq]; exact hY.out
      rw [hwq]
      replace hwq := hid_mk hwq
      go_wp2
      go_roundw
      case rel => exact ⟨k + 1, by go_num, by omega, hbq, hXq, hYq⟩
      case measure => simp [intOf]; omega
    · go_wp2
      refine ends_ret hQ (results_tmp rfl _ _ _) rfl ?_
      exact ⟨rfl, hb.out⟩
set_option maxRecDepth 100000 in
set_option maxHeartbeats 3200000 in
theorem LikeMsg_same (A : Option Addr) (n c : Nat) (A' : Option Addr) (n' c' : Nat) (ms ms' : List (Ms × MsA)) (w : World) {B B' : Nat} (hm : n ≤ 8796093022208) (h : Mgs w B A n ms) (h' : Mgs w B' A' n' ms') (hs : ms.map Prod.fst = ms'.map Prod.fst) :
    Calls Tryz.prog 22 #[.slice A n c, .slice A' n' c'] w fun e w' => e = .returned (.bool true) ∧ Below w.heap.size w w' := by
  obtain rfl : n = n' := by
    rw [← h.len, ← h'.len]
    have := congrArg List.length hs
    simpa using this
  replace hs := hid_mk hs
  refine calls_of_wpQ Tryz.func22 rfl ?_
  intro Q hQ
  simp only [Tryz.ntmps22, List.size_toArray, List.length_cons, List.length_nil, Nat.reduceAdd, Nat.reduceSub, Array.replicate_succ, Array.replicate_zero, List.push_toArray, List.append_toArray, List.nil_append, List.cons_append]
  go_wp2
  go_loopw [15] (fun iv wr => ∃ k : Nat, iv = .int .i64 k ∧ k ≤ n ∧ Below w.heap.size w wr) (fun iv _ => n - (intOf iv).toNat)
  case atStart => exact ⟨0, rfl, Nat.zero_le _, Below.refl _ _⟩
  case round =>
    obtain ⟨k, rfl, hk, hb⟩ := hrel
    have zr := hb.size
    by_cases hlt : k < n
    · obtain ⟨b, o, p, rfl, hbl, hik, hok, c0, c1, c2, c3, c4, c5, c6, c7, c8, c9, c10⟩ := (h.to hb).at_ hlt
      obtain ⟨b', o', p', rfl, hbl', hik', hok', d0, d1, d2, d3, d4, d5, d6, d7, d8, d9, d10⟩ := (h'.to hb).at_ hlt
      have hpp : p.1 = p'.1 := by
        have e := congrArg (List.drop k) hs.out
        rw [← List.map_drop, ← List.map_drop, hik, hik'] at e
        injection e
      have h43p : p.2.R.n ≤ 8796093022208 ∧ p.2.V.n ≤ 140737488355328 := by
        have b1 := hok.rb
        have b2 := hok.vb
        omega
      obtain ⟨M, ⟨⟨RA, rn, Rc⟩, ⟨VA, vn, Vc⟩⟩⟩ := p
      obtain ⟨M', ⟨⟨RA', rn', Rc'⟩, ⟨VA', vn', Vc'⟩⟩⟩ := p'
      dsimp only at hpp hok hok' h43p c0 c1 c2 c3 c4 c5 c6 c7 c8 c9 c10 d0 d1 d2 d3 d4 d5 d6 d7 d8 d9 d10
      subst hpp
      obtain ⟨g1, g2⟩ := h43p
      have hen : rn' = rn := by have a := hok.recs.len; have b := hok'.recs.len; dsimp only at a b; omega
      have hvn : vn' = vn := by have a := hok.vs.len; have b := hok'.vs.len; dsimp only at a b; omega
      subst hen
      subst hvn
      clear hik hik'
      have hX := hid_mk ((Blk.new wr 32 #[.int .i64 M.kind, .int .i64 M.fr, .int .i64 M.to, .int .i64 M.term, .bool M.ok, .int .i64 M.index, .int .i64 M.lterm, .slice RA rn' Rc, .int .i64 M.commit, .string M.s, .slice VA vn' Vc]).alloc (.cells #[.int .i64 M.kind, .int .i64 M.fr, .int .i64 M.to, .int .i64 M.term, .bool M.ok, .int .i64 M.index, .int .i64 M.lterm, .slice RA' rn' Rc', .int .i64 M.commit, .string M.s, .slice VA' vn' Vc'] 32))
      have hY : Hid (Blk ((wr.alloc (.cells #[.int .i64 M.kind, .int .i64 M.fr, .int .i64 M.to, .int .i64 M.term, .bool M.ok, .int .i64 M.index, .int .i64 M.lterm, .slice RA rn' Rc, .int .i64 M.commit, .string M.s, .slice VA vn' Vc] 32)).alloc (.cells #[.int .i64 M.kind, .int .i64 M.fr, .int .i64 M.to, .int .i64 M.term, .bool M.ok, .int .i64 M.index, .int .i64 M.lterm, .slice RA' rn' Rc', .int .i64 M.commit, .string M.s, .slice VA' vn' Vc'] 32)) (wr.heap.size + 1) 32 #[.int .i64 M.kind, .int .i64 M.fr, .int .i64 M.to, .int .i64 M.term, .bool M.ok, .int .i64 M.index, .int .i64 M.lterm, .slice RA' rn' Rc', .int .i64 M.commit, .string M.s, .slice VA' vn' Vc']) := Blk.new_ (by simp)
      go_wp2_with fail
      refine (Ints_any VA vn' Vc M.vs VA' vn' Vc' M.vs _ B B' (by omega) (by omega) (hok.vs.to (by go_grown)) (hok'.vs.to (by go_grown))).mono ?_
      rw [decide_eq_true (rfl : M.vs = M.vs)]
      rintro e w1 ⟨rfl, hb1⟩
      have q1 := (after (w := w) hb1 (by go_grown)).1
      have q1r : Below wr.heap.size wr w1 := (after (w := wr) hb1 (by go_grown)).1
      have z1 := q1r.size
      replace hX := hid_mk (hX.out.keep (after hb1 (by go_grown)).1)
      replace hY := hid_mk (hY.out.keep (after hb1 (by go_grown)).1)
      clear hb1 c0 c1 c2 c3 c4 c5 c6 c7 c8 c9 c10 d0 d1 d2 d3 d4 d5 d6 d7 d8 d9 d10
      obtain ⟨xl, x0, x1, x2, x3, x4, x5, x6, x7, x8, x9, x10⟩ := blk11v hX.out
      obtain ⟨yl, y0, y1, y2, y3, y4, y5, y6, y7, y8, y9, y10⟩ := blk11v hY.out
      go_wp2_with fail
      refine (LikeRec_same RA _ Rc RA' _ Rc' M.rs _ (B := B) (B' := B') g1 (hok.recs.to (by go_grown)) (hok'.recs.to (by go_grown))).mono ?_
      rintro e w2 ⟨rfl, hb2⟩
      have q2 := (after (w := w) hb2 (by go_grown)).1
      go_wp2
      go_roundw
      case rel => exact ⟨k + 1, by go_num, by omega, q2⟩
      case measure => simp [intOf]; omega
    · go_wp2
      refine ends_ret hQ (results_tmp rfl _ _ _) rfl ?_
      exact ⟨rfl, hb⟩
end Go.Proofs.YtncdjmpdbinanaaGreatDoor
