/-
  WHAT IS PROVED HERE: what extend.send hands back of a node that may be and a place to send. Conditions: the slices are of at most 2^47 bytes.
  WHAT IS PROVED HERE: what extend.sendAll and Send hand back of a node. Conditions: the slices are of at most 2^47 bytes; of sendAll: the node may be.
-/
import Derived.Test.YtncdjmpdbinanaaGreatDoorZGEx
import Derived.Test.YtncdjmpdbinanaaGreatDoorZGStd
import Derived.Test.YtncdjmpdbinanaaGreatDoorZGVt
import Derived.Deep.DeepCutAuto
namespace Go.Proofs.YtncdjmpdbinanaaGreatDoor
open Go.RowKit

def prV (p : Pr) : Value := .agg #[.int .i64 p.id, .int .i64 p.nx, .int .i64 p.mt]
/-- a message is handed back -/
def RetM (w : World) (B : Nat) (M : Ms) (e : Ending) (w' : World) : Prop := ∃ b, e = .returned (msgV M b) ∧ MsOk w' B M b ∧ Below w.heap.size w w'
set_option maxRecDepth 100000 in
set_option maxHeartbeats 12800000 in
theorem ESend_any (N : Nd) (a : NdA) (p : Pr) (w : World) {B : Nat} (hBw : B ≤ w.heap.size) (hN : NdOk w B N a) (hzr : rightN N = true) (hp : 1 ≤ p.nx ∧ p.nx ≤ lastJ N.h.l + 1) :
    Calls Tryz.prog 75 #[nodeV N a, prV p] w (RetM w B (sendM N p)) := by
  have hb : a.R.n ≤ 4398046511103 ∧ a.V.n ≤ 17592186044415 := by
    have b1 := hN.rb
    have b2 := hN.vb
    omega
  have hn := right_n hzr
  have hcb := commit_bounds hzr
  obtain ⟨X, hX'⟩ : ∃ x, sendM N p = x := ⟨_, rfl⟩
  obtain ⟨tg, htg⟩ : ∃ x, (termJ N.h.l (p.nx - 1)).getD 0 = x := ⟨_, rfl⟩
  obtain ⟨rb, hrb'⟩ : ∃ x, behindJ N.h.l (p.nx - 1) 20 = x := ⟨_, rfl⟩
  have hXs : Hid (p.nx ≤ N.h.l.base → X = ⟨5, N.id, p.id, N.h.t, false, N.h.l.base, N.h.l.bt, [], 0, N.h.s, N.h.vs⟩) := fun e => by
    rw [← hX']
    unfold sendM
    rw [if_pos e]
  have hXa : Hid (¬ p.nx ≤ N.h.l.base → X = ⟨3, N.id, p.id, N.h.t, false, p.nx - 1, tg, rb, N.commit, ⟨#[]⟩, []⟩) := fun e => by
    rw [← hX', ← htg, ← hrb']
    unfold sendM
    rw [if_neg e]
  have hTA := fun (w : World) (k1 : Recs w B a.R.A a.R.n N.h.l.rs) => TermAt_any N.h.l (p.nx - 1) a.R.A a.R.n a.R.c w (by omega) k1
  have hta : (termAtJ N.h.l (p.nx - 1)).getD 0 = tg := by unfold termAtJ; rw [if_pos hn.1, htg]
  rw [hta] at hTA
  have hBE := fun (w : World) (k1 : Recs w B a.R.A a.R.n N.h.l.rs) => Behind_any N.h.l (p.nx - 1) 20 a.R.A a.R.n a.R.c w (by omega) hN.rc k1
  rw [hrb'] at hBE
  have hdl : Hid (rb.length * 32 ≤ 140737488351232) := by
    rw [Hid, ← hrb']
    unfold behindJ
    split
    · rw [List.length_take]; have : Int.toNat 20 = 20 := rfl; omega
    · simp
  rw [hX']
  have hpx : 1 ≤ p.nx ∧ p.nx ≤ 1073741825 := by omega
  clear hX' htg hta hrb' hcb hp hzr
  have hN0 := hid_mk hN
  obtain ⟨hr, hrc, hrb, hi, hvc, hvb, hsb, _, _, _, _, _, _⟩ := hN
  obtain ⟨id, ⟨t, v, ⟨base, bt, rs⟩, s, vs⟩, role, lead, timer, commit, got, ps⟩ := N
  obtain ⟨⟨RA, n, Rc⟩, ⟨VA, m, Vc⟩, ⟨GA, gn, Gc⟩, ⟨PA, pn, Pc⟩⟩ := a
  obtain ⟨pid, px, pm⟩ := p
  dsimp only at hr hrc hrb hi hvc hvb hsb hXs hXa hTA hBE hb hpx
  have hw64 : IntKind.i64.wrap (px - 1) = px - 1 := IntWalk.i64_in _ (by omega)
  have hX : Hid (Blk (((((w.alloc (.cells #[.int .i64 id, .int .i64 t, .int .i64 v, .int .i64 base, .int .i64 bt, .slice RA n Rc, .string s, .slice VA m Vc, .int .i64 role, .int .i64 lead, .int .i64 timer, .int .i64 commit, .slice GA gn Gc, .slice PA pn Pc] 30)).alloc (.cells #[.int .i64 pid, .int .i64 px, .int .i64 pm] 53)).alloc (.cells #[.int .i64 0, .int .i64 0, .int .i64 0, .int .i64 0, .bool false, .int .i64 0, .int .i64 0, .slice none 0 0, .int .i64 0, .string ⟨#[]⟩, .slice none 0 0] 32)).alloc (.cells #[.int .i64 base, .int .i64 bt, .slice RA n Rc] 24)).alloc (.cells #[.int .i64 3, .int .i64 id, .int .i64 pid, .int .i64 t, .bool false, .int .i64 (px - 1), .int .i64 0, .slice none 0 0, .int .i64 0, .string ⟨#[]⟩, .slice none 0 0] 32)) w.heap.size 30 #[.int .i64 id, .int .i64 t, .int .i64 v, .int .i64 base, .int .i64 bt, .slice RA n Rc, .string s, .slice VA m Vc, .int .i64 role, .int .i64 lead, .int .i64 timer, .int .i64 commit, .slice GA gn Gc, .slice PA pn Pc]) := hid_mk (((((Blk.new w 30 #[.int .i64 id, .int .i64 t, .int .i64 v, .int .i64 base, .int .i64 bt, .slice RA n Rc, .string s, .slice VA m Vc, .int .i64 role, .int .i64 lead, .int .i64 timer, .int .i64 commit, .slice GA gn Gc, .slice PA pn Pc]).alloc _).alloc _).alloc _).alloc _)
  have hP : Hid (Blk (((((w.alloc (.cells #[.int .i64 id, .int .i64 t, .int .i64 v, .int .i64 base, .int .i64 bt, .slice RA n Rc, .string s, .slice VA m Vc, .int .i64 role, .int .i64 lead, .int .i64 timer, .int .i64 commit, .slice GA gn Gc, .slice PA pn Pc] 30)).alloc (.cells #[.int .i64 pid, .int .i64 px, .int .i64 pm] 53)).alloc (.cells #[.int .i64 0, .int .i64 0, .int .i64 0, .int .i64 0, .bool false, .int .i64 0, .int .i64 0, .slice none 0 0, .int .i64 0, .string ⟨#[]⟩, .slice none 0 0] 32)).alloc (.cells #[.int .i64 base, .int .i64 bt, .slice RA n Rc] 24)).alloc (.cells #[.int .i64 3, .int .i64 id, .int .i64 pid, .int .i64 t, .bool false, .int .i64 (px - 1), .int .i64 0, .slice none 0 0, .int .i64 0, .string ⟨#[]⟩, .slice none 0 0] 32)) (w.heap.size + 1) 53 #[.int .i64 pid, .int .i64 px, .int .i64 pm]) := hid_mk (((Blk.new_ (by simp)).alloc _).alloc _ |>.alloc _)
  have hY : Hid (Blk (((((w.alloc (.cells #[.int .i64 id, .int .i64 t, .int .i64 v, .int .i64 base, .int .i64 bt, .slice RA n Rc, .string s, .slice VA m Vc, .int .i64 role, .int .i64 lead, .int .i64 timer, .int .i64 commit, .slice GA gn Gc, .slice PA pn Pc] 30)).alloc (.cells #[.int .i64 pid, .int .i64 px, .int .i64 pm] 53)).alloc (.cells #[.int .i64 0, .int .i64 0, .int .i64 0, .int .i64 0, .bool false, .int .i64 0, .int .i64 0, .slice none 0 0, .int .i64 0, .string ⟨#[]⟩, .slice none 0 0] 32)).alloc (.cells #[.int .i64 base, .int .i64 bt, .slice RA n Rc] 24)).alloc (.cells #[.int .i64 3, .int .i64 id, .int .i64 pid, .int .i64 t, .bool false, .int .i64 (px - 1), .int .i64 0, .slice none 0 0, .int .i64 0, .string ⟨#[]⟩, .slice none 0 0] 32)) (w.heap.size + 1 + 1) 32 #[.int .i64 0, .int .i64 0, .int .i64 0, .int .i64 0, .bool false, .int .i64 0, .int .i64 0, .slice none 0 0, .int .i64 0, .string ⟨#[]⟩, .slice none 0 0]) := hid_mk (((Blk.new_ (by simp)).alloc _).alloc _)
  have hL : Hid (Blk (((((w.alloc (.cells #[.int .i64 id, .int .i64 t, .int .i64 v, .int .i64 base, .int .i64 bt, .slice RA n Rc, .string s, .slice VA m Vc, .int .i64 role, .int .i64 lead, .int .i64 timer, .int .i64 commit, .slice GA gn Gc, .slice PA pn Pc] 30)).alloc (.cells #[.int .i64 pid, .int .i64 px, .int .i64 pm] 53)).alloc (.cells #[.int .i64 0, .int .i64 0, .int .i64 0, .int .i64 0, .bool false, .int .i64 0, .int .i64 0, .slice none 0 0, .int .i64 0, .string ⟨#[]⟩, .slice none 0 0] 32)).alloc (.cells #[.int .i64 base, .int .i64 bt, .slice RA n Rc] 24)).alloc (.cells #[.int .i64 3, .int .i64 id, .int .i64 pid, .int .i64 t, .bool false, .int .i64 (px - 1), .int .i64 0, .slice none 0 0, .int .i64 0, .string ⟨#[]⟩, .slice none 0 0] 32)) (w.heap.size + 1 + 1 + 1) 24 #[.int .i64 base, .int .i64 bt, .slice RA n Rc]) := hid_mk ((Blk.new_ (by simp)).alloc _)
  have hM : Hid (Blk (((((w.alloc (.cells #[.int .i64 id, .int .i64 t, .int .i64 v, .int .i64 base, .int .i64 bt, .slice RA n Rc, .string s, .slice VA m Vc, .int .i64 role, .int .i64 lead, .int .i64 timer, .int .i64 commit, .slice GA gn Gc, .slice PA pn Pc] 30)).alloc (.cells #[.int .i64 pid, .int .i64 px, .int .i64 pm] 53)).alloc (.cells #[.int .i64 0, .int .i64 0, .int .i64 0, .int .i64 0, .bool false, .int .i64 0, .int .i64 0, .slice none 0 0, .int .i64 0, .string ⟨#[]⟩, .slice none 0 0] 32)).alloc (.cells #[.int .i64 base, .int .i64 bt, .slice RA n Rc] 24)).alloc (.cells #[.int .i64 3, .int .i64 id, .int .i64 pid, .int .i64 t, .bool false, .int .i64 (px - 1), .int .i64 0, .slice none 0 0, .int .i64 0, .string ⟨#[]⟩, .slice none 0 0] 32)) (w.heap.size + 1 + 1 + 1 + 1) 32 #[.int .i64 3, .int .i64 id, .int .i64 pid, .int .i64 t, .bool false, .int .i64 (px - 1), .int .i64 0, .slice none 0 0, .int .i64 0, .string ⟨#[]⟩, .slice none 0 0]) := Blk.new_ (by simp)
  have q0 : Below w.heap.size w (((((w.alloc (.cells #[.int .i64 id, .int .i64 t, .int .i64 v, .int .i64 base, .int .i64 bt, .slice RA n Rc, .string s, .slice VA m Vc, .int .i64 role, .int .i64 lead, .int .i64 timer, .int .i64 commit, .slice GA gn Gc, .slice PA pn Pc] 30)).alloc (.cells #[.int .i64 pid, .int .i64 px, .int .i64 pm] 53)).alloc (.cells #[.int .i64 0, .int .i64 0, .int .i64 0, .int .i64 0, .bool false, .int .i64 0, .int .i64 0, .slice none 0 0, .int .i64 0, .string ⟨#[]⟩, .slice none 0 0] 32)).alloc (.cells #[.int .i64 base, .int .i64 bt, .slice RA n Rc] 24)).alloc (.cells #[.int .i64 3, .int .i64 id, .int .i64 pid, .int .i64 t, .bool false, .int .i64 (px - 1), .int .i64 0, .slice none 0 0, .int .i64 0, .string ⟨#[]⟩, .slice none 0 0] 32)) := by go_grown
  show Calls Tryz.prog 75 #[.agg #[.int .i64 id, .int .i64 t, .int .i64 v, .int .i64 base, .int .i64 bt, .slice RA n Rc, .string s, .slice VA m Vc, .int .i64 role, .int .i64 lead, .int .i64 timer, .int .i64 commit, .slice GA gn Gc, .slice PA pn Pc], .agg #[.int .i64 pid, .int .i64 px, .int .i64 pm]] w _
  refine calls_of_wpQ Tryz.func75 rfl ?_
  intro Q hQ
  simp only [Tryz.ntmps75, List.size_toArray, List.length_cons, List.length_nil, Nat.reduceAdd, Nat.reduceSub, Array.replicate_succ, Array.replicate_zero, List.push_toArray, List.append_toArray, List.nil_append, List.cons_append]
  go_upto_region 3 with fail
  obtain ⟨w0, hw0⟩ : ∃ x, ((((w.alloc (.cells #[.int .i64 id, .int .i64 t, .int .i64 v, .int .i64 base, .int .i64 bt, .slice RA n Rc, .string s, .slice VA m Vc, .int .i64 role, .int .i64 lead, .int .i64 timer, .int .i64 commit, .slice GA gn Gc, .slice PA pn Pc] 30)).alloc (.cells #[.int .i64 pid, .int .i64 px, .int .i64 pm] 53)).alloc (.cells #[.int .i64 0, .int .i64 0, .int .i64 0, .int .i64 0, .bool false, .int .i64 0, .int .i64 0, .slice none 0 0, .int .i64 0, .string ⟨#[]⟩, .slice none 0 0] 32)).alloc (.cells #[.int .i64 base, .int .i64 bt, .slice RA n Rc] 24)).alloc (.cells #[.int .i64 3, .int .i64 id, .int .i64 pid, .int .i64 t, .bool false, .int .i64 (px - 1), .int .i64 0, .slice none 0 0, .int .i64 0, .string ⟨#[]⟩, .slice none 0 0] 32) = x := ⟨_, rfl⟩
  rw [hw0] at hX hP hY hL hM q0
  try rw [hw0]
  clear hw0
  have z0 := q0.size
  have p1 := hP.out.cell 1
  change _ = some (.int .i64 px : Value) at p1
  have l0 := hL.out.cell 0
  change _ = some (.int .i64 base : Value) at l0
  by_cases hc : px ≤ base
  case pos =>
    have hfin := hid_mk (hXs.out hc)
    clear hXs hXa hTA hBE
    go_upto_region 4 with fail
    replace hc := hid_mk hc
    clear p1 l0
    refine wp_region_T' (fun w' => w'.cell? ⟨w.heap.size + 1 + 1 + 1, 0, none⟩ = some (.int .i64 base) ∧ w'.cell? ⟨w.heap.size + 1 + 1 + 1, 1, none⟩ = some (.int .i64 bt) ∧ w'.cell? ⟨w.heap.size, 6, none⟩ = some (.string s) ∧ w'.cell? ⟨w.heap.size, 7, none⟩ = some (.slice VA m Vc)) (fun j => decide (j < 21)) 21 (by kernel_rfl) (by kernel_rfl) (by exact ⟨hL.out.cell 0, hL.out.cell 1, hX.out.cell 6, hX.out.cell 7⟩) (fun hS0 => ?_)
    replace hX := hid_mk hX.out.drew
    replace hY := hid_mk hY.out.drew
    replace hL := hid_mk hL.out.drew
    replace hM := hid_mk hM.out.drew
    have qd : Below w.heap.size w w0.drew := by go_grown
    obtain ⟨wd, hwd⟩ : ∃ x, w0.drew = x := ⟨_, rfl⟩
    rw [hwd] at hS0 hX hY hL hM qd ⊢
    clear hwd q0
    refine wpAnyT_take (i := 0) rfl (by kernel_rfl) (by kernel_rfl) (by kernel_rfl) rfl (by kernel_rfl) (fun _ _ _ h => h) (by kernel_rfl) (fun w' hS => (by obtain ⟨s0, s1, s2, s3⟩ := hS; go_simp; try with_reducible rfl)) hS0 ?_
    simp only [Act.put]
    refine wpAnyT_take (i := 1) rfl (by kernel_rfl) (by kernel_rfl) (by kernel_rfl) rfl (by kernel_rfl) (fun _ _ _ h => h) (by kernel_rfl) (fun w' hS => (by obtain ⟨s0, s1, s2, s3⟩ := hS; go_simp; try with_reducible rfl)) hS0 ?_
    simp only [Act.put]
    refine wpAnyT_take (i := 2) rfl (by kernel_rfl) (by kernel_rfl) (by kernel_rfl) rfl (by kernel_rfl) (fun _ _ _ h => h) (by kernel_rfl) (fun w' hS => (by obtain ⟨s0, s1, s2, s3⟩ := hS; go_simp; try with_reducible rfl)) hS0 ?_
    simp only [Act.put]
    refine wpAnyT_take (i := 3) rfl (by kernel_rfl) (by kernel_rfl) (by kernel_rfl) rfl (by kernel_rfl) (fun _ _ _ h => h) (by kernel_rfl) (fun w' hS => (by obtain ⟨s0, s1, s2, s3⟩ := hS; go_simp; try with_reducible rfl)) hS0 ?_
    simp only [Act.put]
    refine wpAnyT_take (i := 4) rfl (by kernel_rfl) (by kernel_rfl) (by kernel_rfl) rfl (by kernel_rfl) (fun _ _ _ h => h) (by kernel_rfl) (fun w' hS => (by obtain ⟨s0, s1, s2, s3⟩ := hS; go_simp; try with_reducible rfl)) hS0 ?_
    simp only [Act.put]
    refine wpAnyT_take (i := 5) rfl (by kernel_rfl) (by kernel_rfl) (by kernel_rfl) rfl (by kernel_rfl) (fun _ _ _ h => h) (by kernel_rfl) (fun w' hS => (by obtain ⟨s0, s1, s2, s3⟩ := hS; go_simp; try with_reducible rfl)) hS0 ?_
    simp only [Act.put]
    refine wpAnyT_take (i := 6) rfl (by kernel_rfl) (by kernel_rfl) (by kernel_rfl) rfl (by kernel_rfl) (fun _ _ _ h => h) (by kernel_rfl) (fun w' hS => (by obtain ⟨s0, s1, s2, s3⟩ := hS; go_simp; try with_reducible rfl)) hS0 ?_
    simp only [Act.put]
    refine wpAnyT_take (i := 7) rfl (by kernel_rfl) (by kernel_rfl) (by kernel_rfl) rfl (by kernel_rfl) (fun _ _ _ h => h) (by kernel_rfl) (fun w' hS => (by obtain ⟨s0, s1, s2, s3⟩ := hS; go_simp; try with_reducible rfl)) hS0 ?_
    simp only [Act.put]
    refine wpAnyT_take (i := 8) rfl (by kernel_rfl) (by kernel_rfl) (by kernel_rfl) rfl (by kernel_rfl) (fun _ _ _ h => h) (by kernel_rfl) (fun w' hS => (by obtain ⟨s0, s1, s2, s3⟩ := hS; go_simp; try with_reducible rfl)) hS0 ?_
    simp only [Act.put]
    refine wpAnyT_take (i := 9) rfl (by kernel_rfl) (by kernel_rfl) (by kernel_rfl) rfl (by kernel_rfl) (fun _ _ _ h => h) (by kernel_rfl) (fun w' hS => (by obtain ⟨s0, s1, s2, s3⟩ := hS; go_simp; try with_reducible rfl)) hS0 ?_
    simp only [Act.put]
    refine wpAnyT_take (i := 11) rfl (by kernel_rfl) (by kernel_rfl) (by kernel_rfl) rfl (by kernel_rfl) (fun _ _ _ h => h) (by kernel_rfl) (fun w' hS => (by obtain ⟨s0, s1, s2, s3⟩ := hS; go_simp; try with_reducible rfl)) hS0 ?_
    simp only [Act.put]
    refine wpAnyT_one (i := 10) (by kernel_rfl) rfl (fun K hK => ?_)
    go_simp
    refine (CloneC_any VA m Vc vs _ B (by omega) (hi.to qd)).mono ?_
    rintro e w5 ⟨WA, Wc, rfl, hI5, hc5, hb1⟩
    have q5 := (after (w := w) hb1 qd).1
    have z5 := q5.size
    replace hX := hid_mk (hX.out.keep hb1)
    replace hY := hid_mk (hY.out.keep hb1)
    replace hL := hid_mk (hL.out.keep hb1)
    replace hM := hid_mk (hM.out.keep hb1)
    replace hI5 := hid_mk hI5
    clear hb1
    refine hK.out _ _ (fun _ => ⟨hL.out.cell 0, hL.out.cell 1, hX.out.cell 6, hX.out.cell 7⟩) ?_
    clear hK K
    try simp only [Act.put]
    have mc0 := hM.out.cell 0
    change _ = some (.int .i64 3 : Value) at mc0
    have mf0 := hM.out.frozen 0
    have mlt := hM.out.lt
    refine wpAnyT_one (i := 12) (by kernel_rfl) rfl (fun K hK => ?_)
    go_simp
    clear mc0 mf0 mlt
    have hXn := (hX.out.far (p := ⟨w.heap.size + 1 + 1 + 1 + 1, 0, none⟩) (by dsimp only; omega) (.int .i64 5))
    have hYn := (hY.out.far (p := ⟨w.heap.size + 1 + 1 + 1 + 1, 0, none⟩) (by dsimp only; omega) (.int .i64 5))
    have hLn := (hL.out.far (p := ⟨w.heap.size + 1 + 1 + 1 + 1, 0, none⟩) (by dsimp only; omega) (.int .i64 5))
    have hI5n : Ints (w5.setCell ⟨w.heap.size + 1 + 1 + 1 + 1, 0, none⟩ (.int .i64 5)) 0 WA m vs := (Reads.far hI5.out hM.out (Nat.zero_le _) (by decide) 0 (.int .i64 5))
    have hMn : Blk (w5.setCell ⟨w.heap.size + 1 + 1 + 1 + 1, 0, none⟩ (.int .i64 5)) (w.heap.size + 1 + 1 + 1 + 1) 32 #[.int .i64 5, .int .i64 id, .int .i64 pid, .int .i64 t, .bool false, .int .i64 (px - 1), .int .i64 0, .slice none 0 0, .int .i64 0, .string ⟨#[]⟩, .slice none 0 0] := (hM.out.set_ 0 (.int .i64 5))
    have qb0 := (q5.setCell (p := ⟨w.heap.size + 1 + 1 + 1 + 1, 0, none⟩) (by dsimp only; omega) (.int .i64 5))
    obtain ⟨wb0, hwn⟩ : ∃ x, (w5.setCell ⟨w.heap.size + 1 + 1 + 1 + 1, 0, none⟩ (.int .i64 5)) = x := ⟨_, rfl⟩
    rw [hwn] at hXn hYn hLn hI5n hMn qb0 ⊢
    clear hwn  hX hY hL hI5 hM
    have hX := hid_mk hXn
    have hY := hid_mk hYn
    have hL := hid_mk hLn
    have hI5 := hid_mk hI5n
    have hM := hid_mk hMn
    clear hXn hYn hLn hI5n hMn
    refine hK.out _ _ (fun _ => ⟨hL.out.cell 0, hL.out.cell 1, hX.out.cell 6, hX.out.cell 7⟩) ?_
    clear hK K
    try simp only [Act.put]
    refine wpAnyT_take (i := 13) rfl (by kernel_rfl) (by kernel_rfl) (by kernel_rfl) rfl (by kernel_rfl) (fun _ _ _ h => h) (by kernel_rfl) (fun w' hS => (by obtain ⟨s0, s1, s2, s3⟩ := hS; go_simp; try with_reducible rfl)) ⟨hL.out.cell 0, hL.out.cell 1, hX.out.cell 6, hX.out.cell 7⟩ ?_
    simp only [Act.put]
    have mc0 := hM.out.cell 5
    change _ = some (.int .i64 (px - 1) : Value) at mc0
    have mf0 := hM.out.frozen 5
    have mlt := hM.out.lt
    refine wpAnyT_one (i := 14) (by kernel_rfl) rfl (fun K hK => ?_)
    go_simp
    clear mc0 mf0 mlt
    have hXn := (hX.out.far (p := ⟨w.heap.size + 1 + 1 + 1 + 1, 5, none⟩) (by dsimp only; omega) (.int .i64 base))
    have hYn := (hY.out.far (p := ⟨w.heap.size + 1 + 1 + 1 + 1, 5, none⟩) (by dsimp only; omega) (.int .i64 base))
    have hLn := (hL.out.far (p := ⟨w.heap.size + 1 + 1 + 1 + 1, 5, none⟩) (by dsimp only; omega) (.int .i64 base))
    have hI5n : Ints (wb0.setCell ⟨w.heap.size + 1 + 1 + 1 + 1, 5, none⟩ (.int .i64 base)) 0 WA m vs := (Reads.far hI5.out hM.out (Nat.zero_le _) (by decide) 5 (.int .i64 base))
    have hMn : Blk (wb0.setCell ⟨w.heap.size + 1 + 1 + 1 + 1, 5, none⟩ (.int .i64 base)) (w.heap.size + 1 + 1 + 1 + 1) 32 #[.int .i64 5, .int .i64 id, .int .i64 pid, .int .i64 t, .bool false, .int .i64 base, .int .i64 0, .slice none 0 0, .int .i64 0, .string ⟨#[]⟩, .slice none 0 0] := (hM.out.set_ 5 (.int .i64 base))
    have qb1 := (qb0.setCell (p := ⟨w.heap.size + 1 + 1 + 1 + 1, 5, none⟩) (by dsimp only; omega) (.int .i64 base))
    obtain ⟨wb1, hwn⟩ : ∃ x, (wb0.setCell ⟨w.heap.size + 1 + 1 + 1 + 1, 5, none⟩ (.int .i64 base)) = x := ⟨_, rfl⟩
    rw [hwn] at hXn hYn hLn hI5n hMn qb1 ⊢
    clear hwn qb0 hX hY hL hI5 hM
    have hX := hid_mk hXn
    have hY := hid_mk hYn
    have hL := hid_mk hLn
    have hI5 := hid_mk hI5n
    have hM := hid_mk hMn
    clear hXn hYn hLn hI5n hMn
    refine hK.out _ _ (fun _ => ⟨hL.out.cell 0, hL.out.cell 1, hX.out.cell 6, hX.out.cell 7⟩) ?_
    clear hK K
    try simp only [Act.put]
    refine wpAnyT_take (i := 15) rfl (by kernel_rfl) (by kernel_rfl) (by kernel_rfl) rfl (by kernel_rfl) (fun _ _ _ h => h) (by kernel_rfl) (fun w' hS => (by obtain ⟨s0, s1, s2, s3⟩ := hS; go_simp; try with_reducible rfl)) ⟨hL.out.cell 0, hL.out.cell 1, hX.out.cell 6, hX.out.cell 7⟩ ?_
    simp only [Act.put]
    have mc0 := hM.out.cell 6
    change _ = some (.int .i64 0 : Value) at mc0
    have mf0 := hM.out.frozen 6
    have mlt := hM.out.lt
    refine wpAnyT_one (i := 16) (by kernel_rfl) rfl (fun K hK => ?_)
    go_simp
    clear mc0 mf0 mlt
    have hXn := (hX.out.far (p := ⟨w.heap.size + 1 + 1 + 1 + 1, 6, none⟩) (by dsimp only; omega) (.int .i64 bt))
    have hYn := (hY.out.far (p := ⟨w.heap.size + 1 + 1 + 1 + 1, 6, none⟩) (by dsimp only; omega) (.int .i64 bt))
    have hLn := (hL.out.far (p := ⟨w.heap.size + 1 + 1 + 1 + 1, 6, none⟩) (by dsimp only; omega) (.int .i64 bt))
    have hI5n : Ints (wb1.setCell ⟨w.heap.size + 1 + 1 + 1 + 1, 6, none⟩ (.int .i64 bt)) 0 WA m vs := (Reads.far hI5.out hM.out (Nat.zero_le _) (by decide) 6 (.int .i64 bt))
    have hMn : Blk (wb1.setCell ⟨w.heap.size + 1 + 1 + 1 + 1, 6, none⟩ (.int .i64 bt)) (w.heap.size + 1 + 1 + 1 + 1) 32 #[.int .i64 5, .int .i64 id, .int .i64 pid, .int .i64 t, .bool false, .int .i64 base, .int .i64 bt, .slice none 0 0, .int .i64 0, .string ⟨#[]⟩, .slice none 0 0] := (hM.out.set_ 6 (.int .i64 bt))
    have qb2 := (qb1.setCell (p := ⟨w.heap.size + 1 + 1 + 1 + 1, 6, none⟩) (by dsimp only; omega) (.int .i64 bt))
    obtain ⟨wb2, hwn⟩ : ∃ x, (wb1.setCell ⟨w.heap.size + 1 + 1 + 1 + 1, 6, none⟩ (.int .i64 bt)) = x := ⟨_, rfl⟩
    rw [hwn] at hXn hYn hLn hI5n hMn qb2 ⊢
    clear hwn qb1 hX hY hL hI5 hM
    have hX := hid_mk hXn
    have hY := hid_mk hYn
    have hL := hid_mk hLn
    have hI5 := hid_mk hI5n
    have hM := hid_mk hMn
    clear hXn hYn hLn hI5n hMn
    refine hK.out _ _ (fun _ => ⟨hL.out.cell 0, hL.out.cell 1, hX.out.cell 6, hX.out.cell 7⟩) ?_
    clear hK K
    try simp only [Act.put]
    refine wpAnyT_take (i := 17) rfl (by kernel_rfl) (by kernel_rfl) (by kernel_rfl) rfl (by kernel_rfl) (fun _ _ _ h => h) (by kernel_rfl) (fun w' hS => (by obtain ⟨s0, s1, s2, s3⟩ := hS; go_simp; try with_reducible rfl)) ⟨hL.out.cell 0, hL.out.cell 1, hX.out.cell 6, hX.out.cell 7⟩ ?_
    simp only [Act.put]
    have mc0 := hM.out.cell 9
    change _ = some (.string ⟨#[]⟩ : Value) at mc0
    have mf0 := hM.out.frozen 9
    have mlt := hM.out.lt
    refine wpAnyT_one (i := 18) (by kernel_rfl) rfl (fun K hK => ?_)
    go_simp
    clear mc0 mf0 mlt
    have hXn := (hX.out.far (p := ⟨w.heap.size + 1 + 1 + 1 + 1, 9, none⟩) (by dsimp only; omega) (.string s))
    have hYn := (hY.out.far (p := ⟨w.heap.size + 1 + 1 + 1 + 1, 9, none⟩) (by dsimp only; omega) (.string s))
    have hLn := (hL.out.far (p := ⟨w.heap.size + 1 + 1 + 1 + 1, 9, none⟩) (by dsimp only; omega) (.string s))
    have hI5n : Ints (wb2.setCell ⟨w.heap.size + 1 + 1 + 1 + 1, 9, none⟩ (.string s)) 0 WA m vs := (Reads.far hI5.out hM.out (Nat.zero_le _) (by decide) 9 (.string s))
    have hMn : Blk (wb2.setCell ⟨w.heap.size + 1 + 1 + 1 + 1, 9, none⟩ (.string s)) (w.heap.size + 1 + 1 + 1 + 1) 32 #[.int .i64 5, .int .i64 id, .int .i64 pid, .int .i64 t, .bool false, .int .i64 base, .int .i64 bt, .slice none 0 0, .int .i64 0, .string s, .slice none 0 0] := (hM.out.set_ 9 (.string s))
    have qb3 := (qb2.setCell (p := ⟨w.heap.size + 1 + 1 + 1 + 1, 9, none⟩) (by dsimp only; omega) (.string s))
    obtain ⟨wb3, hwn⟩ : ∃ x, (wb2.setCell ⟨w.heap.size + 1 + 1 + 1 + 1, 9, none⟩ (.string s)) = x := ⟨_, rfl⟩
    rw [hwn] at hXn hYn hLn hI5n hMn qb3 ⊢
    clear hwn qb2 hX hY hL hI5 hM
    have hX := hid_mk hXn
    have hY := hid_mk hYn
    have hL := hid_mk hLn
    have hI5 := hid_mk hI5n
    have hM := hid_mk hMn
    clear hXn hYn hLn hI5n hMn
    refine hK.out _ _ (fun _ => ⟨hL.out.cell 0, hL.out.cell 1, hX.out.cell 6, hX.out.cell 7⟩) ?_
    clear hK K
    try simp only [Act.put]
    refine wpAnyT_take (i := 19) rfl (by kernel_rfl) (by kernel_rfl) (by kernel_rfl) rfl (by kernel_rfl) (fun _ _ _ h => h) (by kernel_rfl) (fun w' hS => (by obtain ⟨s0, s1, s2, s3⟩ := hS; go_simp; try with_reducible rfl)) ⟨hL.out.cell 0, hL.out.cell 1, hX.out.cell 6, hX.out.cell 7⟩ ?_
    simp only [Act.put]
    have mc0 := hM.out.cell 10
    change _ = some (.slice none 0 0 : Value) at mc0
    have mf0 := hM.out.frozen 10
    have mlt := hM.out.lt
    refine wpAnyT_one (i := 20) (by kernel_rfl) rfl (fun K hK => ?_)
    go_simp
    clear mc0 mf0 mlt
    have hXn := (hX.out.far (p := ⟨w.heap.size + 1 + 1 + 1 + 1, 10, none⟩) (by dsimp only; omega) (.slice WA m Wc))
    have hYn := (hY.out.far (p := ⟨w.heap.size + 1 + 1 + 1 + 1, 10, none⟩) (by dsimp only; omega) (.slice WA m Wc))
    have hLn := (hL.out.far (p := ⟨w.heap.size + 1 + 1 + 1 + 1, 10, none⟩) (by dsimp only; omega) (.slice WA m Wc))
    have hI5n : Ints (wb3.setCell ⟨w.heap.size + 1 + 1 + 1 + 1, 10, none⟩ (.slice WA m Wc)) 0 WA m vs := (Reads.far hI5.out hM.out (Nat.zero_le _) (by decide) 10 (.slice WA m Wc))
    have hMn : Blk (wb3.setCell ⟨w.heap.size + 1 + 1 + 1 + 1, 10, none⟩ (.slice WA m Wc)) (w.heap.size + 1 + 1 + 1 + 1) 32 #[.int .i64 5, .int .i64 id, .int .i64 pid, .int .i64 t, .bool false, .int .i64 base, .int .i64 bt, .slice none 0 0, .int .i64 0, .string s, .slice WA m Wc] := (hM.out.set_ 10 (.slice WA m Wc))
    have qb4 := (qb3.setCell (p := ⟨w.heap.size + 1 + 1 + 1 + 1, 10, none⟩) (by dsimp only; omega) (.slice WA m Wc))
    obtain ⟨wb4, hwn⟩ : ∃ x, (wb3.setCell ⟨w.heap.size + 1 + 1 + 1 + 1, 10, none⟩ (.slice WA m Wc)) = x := ⟨_, rfl⟩
    rw [hwn] at hXn hYn hLn hI5n hMn qb4 ⊢
    clear hwn qb3 hX hY hL hI5 hM
    have hX := hid_mk hXn
    have hY := hid_mk hYn
    have hL := hid_mk hLn
    have hI5 := hid_mk hI5n
    have hM := hid_mk hMn
    clear hXn hYn hLn hI5n hMn
    refine hK.out _ _ (fun _ => ⟨hL.out.cell 0, hL.out.cell 1, hX.out.cell 6, hX.out.cell 7⟩) ?_
    clear hK K
    try simp only [Act.put]
    refine wpAnyT_done (by kernel_rfl) ?_ _
    clear hX hL
    have m0 := hM.out.cell 0
    change _ = some (.int .i64 5 : Value) at m0
    have m1 := hM.out.cell 1
    change _ = some (.int .i64 id : Value) at m1
    have m2 := hM.out.cell 2
    change _ = some (.int .i64 pid : Value) at m2
    have m3 := hM.out.cell 3
    change _ = some (.int .i64 t : Value) at m3
    have m4 := hM.out.cell 4
    change _ = some (.bool false : Value) at m4
    have m5 := hM.out.cell 5
    change _ = some (.int .i64 base : Value) at m5
    have m6 := hM.out.cell 6
    change _ = some (.int .i64 bt : Value) at m6
    have m7 := hM.out.cell 7
    change _ = some (.slice none 0 0 : Value) at m7
    have m8 := hM.out.cell 8
    change _ = some (.int .i64 0 : Value) at m8
    have m9 := hM.out.cell 9
    change _ = some (.string s : Value) at m9
    have m10 := hM.out.cell 10
    change _ = some (.slice WA m Wc : Value) at m10
    have y0 := hY.out.cell 0
    change _ = some (.int .i64 0 : Value) at y0
    have y1 := hY.out.cell 1
    change _ = some (.int .i64 0 : Value) at y1
    have y2 := hY.out.cell 2
    change _ = some (.int .i64 0 : Value) at y2
    have y3 := hY.out.cell 3
    change _ = some (.int .i64 0 : Value) at y3
    have y4 := hY.out.cell 4
    change _ = some (.bool false : Value) at y4
    have y5 := hY.out.cell 5
    change _ = some (.int .i64 0 : Value) at y5
    have y6 := hY.out.cell 6
    change _ = some (.int .i64 0 : Value) at y6
    have y7 := hY.out.cell 7
    change _ = some (.slice none 0 0 : Value) at y7
    have y8 := hY.out.cell 8
    change _ = some (.int .i64 0 : Value) at y8
    have y9 := hY.out.cell 9
    change _ = some (.string ⟨#[]⟩ : Value) at y9
    have y10 := hY.out.cell 10
    change _ = some (.slice none 0 0 : Value) at y10
    have yf0 := hY.out.frozen 0
    have yf1 := hY.out.frozen 1
    have yf2 := hY.out.frozen 2
    have yf3 := hY.out.frozen 3
    have yf4 := hY.out.frozen 4
    have yf5 := hY.out.frozen 5
    have yf6 := hY.out.frozen 6
    have yf7 := hY.out.frozen 7
    have yf8 := hY.out.frozen 8
    have yf9 := hY.out.frozen 9
    have yf10 := hY.out.frozen 10
    have ylt := hY.out.lt
    have mlt := hM.out.lt
    go_wp2
    clear m0 m1 m2 m3 m4 m5 m6 m7 m8 m9 m10 y0 y1 y2 y3 y4 y5 y6 y7 y8 y9 y10 yf0 yf1 yf2 yf3 yf4 yf5 yf6 yf7 yf8 yf9 yf10 ylt mlt
    have kfin := st11_blk hY.out (.int .i64 5) (.int .i64 id) (.int .i64 pid) (.int .i64 t) (.bool false) (.int .i64 base) (.int .i64 bt) (.slice none 0 0) (.int .i64 0) (.string s) (.slice WA m Wc)
    have qz := st11_below (.int .i64 5) (.int .i64 id) (.int .i64 pid) (.int .i64 t) (.bool false) (.int .i64 base) (.int .i64 bt) (.slice none 0 0) (.int .i64 0) (.string s) (.slice WA m Wc) qb4 (by omega : w.heap.size ≤ w.heap.size + 1 + 1)
    have hI7 : Ints (st11 wb4 (w.heap.size + 1 + 1) (.int .i64 5) (.int .i64 id) (.int .i64 pid) (.int .i64 t) (.bool false) (.int .i64 base) (.int .i64 bt) (.slice none 0 0) (.int .i64 0) (.string s) (.slice WA m Wc)) 0 WA m vs := st11_reads hY.out (.int .i64 5) (.int .i64 id) (.int .i64 pid) (.int .i64 t) (.bool false) (.int .i64 base) (.int .i64 bt) (.slice none 0 0) (.int .i64 0) (.string s) (.slice WA m Wc) (Nat.zero_le _) (by decide) hI5.out
    unfold st11 at kfin qz hI7
    have kf := blk11v kfin
    obtain ⟨_, r0, r1, r2, r3, r4, r5, r6, r7, r8, r9, r10⟩ := kf
    refine ends_ret hQ (v := .agg #[.int .i64 5, .int .i64 id, .int .i64 pid, .int .i64 t, .bool false, .int .i64 base, .int .i64 bt, .slice none 0 0, .int .i64 0, .string s, .slice WA m Wc]) (by simp [results, Tryz.results75, go_sem, r0, r1, r2, r3, r4, r5, r6, r7, r8, r9, r10]) rfl ?_
    exact ⟨⟨⟨none, 0, 0⟩, ⟨WA, m, Wc⟩⟩, by rw [hfin.out]; rfl, by (rw [hfin.out]; exact ⟨Reads.none_, Nat.le_refl _, by dsimp only; omega, (hI7.more (Nat.zero_le _)), hc5, by dsimp only; omega, hsb⟩), qz⟩

  have hfin := hid_mk (hXa.out hc)
  clear hXs hXa
  have l1 := hL.out.cell 1
  change _ = some (.int .i64 bt : Value) at l1
  have l2 := hL.out.cell 2
  change _ = some (.slice RA n Rc : Value) at l2
  have llt := hL.out.lt
  have m5 := hM.out.cell 5
  change _ = some (.int .i64 (px - 1) : Value) at m5
  have mlt := hM.out.lt
  go_wp2_with fail
  refine (hTA _ (hr.to q0)).mono ?_
  rintro e w1 ⟨rfl, hb1⟩
  have q1 := (after (w := w) hb1 q0).1
  replace hX := hid_mk (hX.out.keep hb1)
  replace hY := hid_mk (hY.out.keep hb1)
  replace hL := hid_mk (hL.out.keep hb1)
  replace hM := hid_mk (hM.out.keep hb1)
  clear hb1 p1 l0 l1 l2 m5 mlt llt
  have z1 := q1.size
  have m6 := hM.out.cell 6
  change _ = some (.int .i64 0 : Value) at m6
  have mf6 := hM.out.frozen 6
  have mlt := hM.out.lt
  go_upto_region 7 with fail
  clear m6 mf6 mlt
  have hM2 : Blk (w1.setCell ⟨w.heap.size + 1 + 1 + 1 + 1, 6, none⟩ (.int .i64 tg)) (w.heap.size + 1 + 1 + 1 + 1) 32 #[.int .i64 3, .int .i64 id, .int .i64 pid, .int .i64 t, .bool false, .int .i64 (px - 1), .int .i64 tg, .slice none 0 0, .int .i64 0, .string ⟨#[]⟩, .slice none 0 0] := hM.out.set_ 6 _
  have hX2 := hX.out.far (p := ⟨w.heap.size + 1 + 1 + 1 + 1, 6, none⟩) (by dsimp only; omega) (.int .i64 tg)
  have hY2 := hY.out.far (p := ⟨w.heap.size + 1 + 1 + 1 + 1, 6, none⟩) (by dsimp only; omega) (.int .i64 tg)
  have hL2 := hL.out.far (p := ⟨w.heap.size + 1 + 1 + 1 + 1, 6, none⟩) (by dsimp only; omega) (.int .i64 tg)
  have q2 := q1.setCell (p := ⟨w.heap.size + 1 + 1 + 1 + 1, 6, none⟩) (by dsimp only; omega) (.int .i64 tg)
  obtain ⟨w2, hw2⟩ : ∃ x, w1.setCell ⟨w.heap.size + 1 + 1 + 1 + 1, 6, none⟩ (.int .i64 tg) = x := ⟨_, rfl⟩
  rw [hw2] at hM2 hX2 hY2 hL2 q2 ⊢
  clear hw2 q1 z1
  replace hX := hid_mk hX2
  replace hY := hid_mk hY2
  replace hL := hid_mk hL2
  replace hM := hid_mk hM2
  clear hX2 hY2 hL2 hM2
  have z2 := q2.size
  refine wp_region_T' (fun w' => w'.cell? ⟨w.heap.size + 1 + 1 + 1, 0, none⟩ = some (.int .i64 base) ∧ w'.cell? ⟨w.heap.size + 1 + 1 + 1, 1, none⟩ = some (.int .i64 bt) ∧ w'.cell? ⟨w.heap.size + 1 + 1 + 1, 2, none⟩ = some (.slice RA n Rc) ∧ w'.cell? ⟨w.heap.size, 11, none⟩ = some (.int .i64 commit) ∧ w'.cell? ⟨w.heap.size + 1 + 1 + 1 + 1, 5, none⟩ = some (.int .i64 (px - 1))) (fun j => decide (j < 10)) 10 (by kernel_rfl) (by kernel_rfl) (by exact ⟨hL.out.cell 0, hL.out.cell 1, hL.out.cell 2, hX.out.cell 11, hM.out.cell 5⟩) (fun hS0 => ?_)
  replace hX := hid_mk hX.out.drew
  replace hY := hid_mk hY.out.drew
  replace hL := hid_mk hL.out.drew
  replace hM := hid_mk hM.out.drew
  have qd : Below w.heap.size w w2.drew := by go_grown
  obtain ⟨wd, hwd⟩ : ∃ x, w2.drew = x := ⟨_, rfl⟩
  rw [hwd] at hS0 hX hY hL hM qd ⊢
  clear hwd q2 z2
  refine wpAnyT_take (i := 0) rfl (by kernel_rfl) (by kernel_rfl) (by kernel_rfl) rfl (by kernel_rfl) (fun _ _ _ h => h) (by kernel_rfl) (fun w' hS => (by obtain ⟨s0, s1, s2, s3, s4⟩ := hS; go_simp; try with_reducible rfl)) hS0 ?_
  simp only [Act.put]
  refine wpAnyT_take (i := 1) rfl (by kernel_rfl) (by kernel_rfl) (by kernel_rfl) rfl (by kernel_rfl) (fun _ _ _ h => h) (by kernel_rfl) (fun w' hS => (by obtain ⟨s0, s1, s2, s3, s4⟩ := hS; go_simp; try with_reducible rfl)) hS0 ?_
  simp only [Act.put]
  refine wpAnyT_take (i := 2) rfl (by kernel_rfl) (by kernel_rfl) (by kernel_rfl) rfl (by kernel_rfl) (fun _ _ _ h => h) (by kernel_rfl) (fun w' hS => (by obtain ⟨s0, s1, s2, s3, s4⟩ := hS; go_simp; try with_reducible rfl)) hS0 ?_
  simp only [Act.put]
  refine wpAnyT_take (i := 4) rfl (by kernel_rfl) (by kernel_rfl) (by kernel_rfl) rfl (by kernel_rfl) (fun _ _ _ h => h) (by kernel_rfl) (fun w' hS => (by obtain ⟨s0, s1, s2, s3, s4⟩ := hS; go_simp; try with_reducible rfl)) hS0 ?_
  simp only [Act.put]
  refine wpAnyT_take (i := 5) rfl (by kernel_rfl) (by kernel_rfl) (by kernel_rfl) rfl (by kernel_rfl) (fun _ _ _ h => h) (by kernel_rfl) (fun w' hS => (by obtain ⟨s0, s1, s2, s3, s4⟩ := hS; go_simp; try with_reducible rfl)) hS0 ?_
  simp only [Act.put]
  refine wpAnyT_one (i := 3) (by kernel_rfl) rfl (fun K hK => ?_)
  go_simp
  refine (hBE _ (hr.to qd)).mono ?_
  rintro e w5 ⟨DA, dn, Dc, rfl, hI5, hc5, hcm5, hb1⟩
  have q5 := (after (w := w) hb1 qd).1
  have z5 := q5.size
  replace hX := hid_mk (hX.out.keep hb1)
  replace hY := hid_mk (hY.out.keep hb1)
  replace hL := hid_mk (hL.out.keep hb1)
  replace hM := hid_mk (hM.out.keep hb1)
  replace hI5 := hid_mk hI5
  clear hb1
  refine hK.out _ _ (fun _ => ⟨hL.out.cell 0, hL.out.cell 1, hL.out.cell 2, hX.out.cell 11, hM.out.cell 5⟩) ?_
  clear hK K
  try simp only [Act.put]
  refine wpAnyT_take (i := 6) rfl (by kernel_rfl) (by kernel_rfl) (by kernel_rfl) rfl (by kernel_rfl) (fun _ _ _ h => h) (by kernel_rfl) (fun w' hS => (by obtain ⟨s0, s1, s2, s3, s4⟩ := hS; go_simp; try with_reducible rfl)) ⟨hL.out.cell 0, hL.out.cell 1, hL.out.cell 2, hX.out.cell 11, hM.out.cell 5⟩ ?_
  simp only [Act.put]
  have mc0 := hM.out.cell 7
  change _ = some (.slice none 0 0 : Value) at mc0
  have mf0 := hM.out.frozen 7
  have mlt := hM.out.lt
  refine wpAnyT_one (i := 7) (by kernel_rfl) rfl (fun K hK => ?_)
  go_simp
  clear mc0 mf0 mlt
  have hXn := (hX.out.far (p := ⟨w.heap.size + 1 + 1 + 1 + 1, 7, none⟩) (by dsimp only; omega) (.slice DA dn Dc))
  have hYn := (hY.out.far (p := ⟨w.heap.size + 1 + 1 + 1 + 1, 7, none⟩) (by dsimp only; omega) (.slice DA dn Dc))
  have hLn := (hL.out.far (p := ⟨w.heap.size + 1 + 1 + 1 + 1, 7, none⟩) (by dsimp only; omega) (.slice DA dn Dc))
  have hI5n : Recs (w5.setCell ⟨w.heap.size + 1 + 1 + 1 + 1, 7, none⟩ (.slice DA dn Dc)) B DA dn rb := (Reads.far hI5.out hM.out (by omega) (by decide) 7 (.slice DA dn Dc))
  have hMn : Blk (w5.setCell ⟨w.heap.size + 1 + 1 + 1 + 1, 7, none⟩ (.slice DA dn Dc)) (w.heap.size + 1 + 1 + 1 + 1) 32 #[.int .i64 3, .int .i64 id, .int .i64 pid, .int .i64 t, .bool false, .int .i64 (px - 1), .int .i64 tg, .slice DA dn Dc, .int .i64 0, .string ⟨#[]⟩, .slice none 0 0] := (hM.out.set_ 7 (.slice DA dn Dc))
  have qb0 := (q5.setCell (p := ⟨w.heap.size + 1 + 1 + 1 + 1, 7, none⟩) (by dsimp only; omega) (.slice DA dn Dc))
  obtain ⟨wb0, hwn⟩ : ∃ x, (w5.setCell ⟨w.heap.size + 1 + 1 + 1 + 1, 7, none⟩ (.slice DA dn Dc)) = x := ⟨_, rfl⟩
  rw [hwn] at hXn hYn hLn hI5n hMn qb0 ⊢
  clear hwn  hX hY hL hI5 hM
  have hX := hid_mk hXn
  have hY := hid_mk hYn
  have hL := hid_mk hLn
  have hI5 := hid_mk hI5n
  have hM := hid_mk hMn
  clear hXn hYn hLn hI5n hMn
  refine hK.out _ _ (fun _ => ⟨hL.out.cell 0, hL.out.cell 1, hL.out.cell 2, hX.out.cell 11, hM.out.cell 5⟩) ?_
  clear hK K
  try simp only [Act.put]
  refine wpAnyT_take (i := 8) rfl (by kernel_rfl) (by kernel_rfl) (by kernel_rfl) rfl (by kernel_rfl) (fun _ _ _ h => h) (by kernel_rfl) (fun w' hS => (by obtain ⟨s0, s1, s2, s3, s4⟩ := hS; go_simp; try with_reducible rfl)) ⟨hL.out.cell 0, hL.out.cell 1, hL.out.cell 2, hX.out.cell 11, hM.out.cell 5⟩ ?_
  simp only [Act.put]
  have mc0 := hM.out.cell 8
  change _ = some (.int .i64 0 : Value) at mc0
  have mf0 := hM.out.frozen 8
  have mlt := hM.out.lt
  refine wpAnyT_one (i := 9) (by kernel_rfl) rfl (fun K hK => ?_)
  go_simp
  clear mc0 mf0 mlt
  have hXn := (hX.out.far (p := ⟨w.heap.size + 1 + 1 + 1 + 1, 8, none⟩) (by dsimp only; omega) (.int .i64 commit))
  have hYn := (hY.out.far (p := ⟨w.heap.size + 1 + 1 + 1 + 1, 8, none⟩) (by dsimp only; omega) (.int .i64 commit))
  have hLn := (hL.out.far (p := ⟨w.heap.size + 1 + 1 + 1 + 1, 8, none⟩) (by dsimp only; omega) (.int .i64 commit))
  have hI5n : Recs (wb0.setCell ⟨w.heap.size + 1 + 1 + 1 + 1, 8, none⟩ (.int .i64 commit)) B DA dn rb := (Reads.far hI5.out hM.out (by omega) (by decide) 8 (.int .i64 commit))
  have hMn : Blk (wb0.setCell ⟨w.heap.size + 1 + 1 + 1 + 1, 8, none⟩ (.int .i64 commit)) (w.heap.size + 1 + 1 + 1 + 1) 32 #[.int .i64 3, .int .i64 id, .int .i64 pid, .int .i64 t, .bool false, .int .i64 (px - 1), .int .i64 tg, .slice DA dn Dc, .int .i64 commit, .string ⟨#[]⟩, .slice none 0 0] := (hM.out.set_ 8 (.int .i64 commit))
  have qb1 := (qb0.setCell (p := ⟨w.heap.size + 1 + 1 + 1 + 1, 8, none⟩) (by dsimp only; omega) (.int .i64 commit))
  obtain ⟨wb1, hwn⟩ : ∃ x, (wb0.setCell ⟨w.heap.size + 1 + 1 + 1 + 1, 8, none⟩ (.int .i64 commit)) = x := ⟨_, rfl⟩
  rw [hwn] at hXn hYn hLn hI5n hMn qb1 ⊢
  clear hwn qb0 hX hY hL hI5 hM
  have hX := hid_mk hXn
  have hY := hid_mk hYn
  have hL := hid_mk hLn
  have hI5 := hid_mk hI5n
  have hM := hid_mk hMn
  clear hXn hYn hLn hI5n hMn
  refine hK.out _ _ (fun _ => ⟨hL.out.cell 0, hL.out.cell 1, hL.out.cell 2, hX.out.cell 11, hM.out.cell 5⟩) ?_
  clear hK K
  try simp only [Act.put]
  refine wpAnyT_done (by kernel_rfl) ?_ _
  have hd20 : dn * 32 ≤ 140737488351232 := by rw [← hI5.out.len]; exact hdl.out
  clear hX hL
  have m0 := hM.out.cell 0
  change _ = some (.int .i64 3 : Value) at m0
  have m1 := hM.out.cell 1
  change _ = some (.int .i64 id : Value) at m1
  have m2 := hM.out.cell 2
  change _ = some (.int .i64 pid : Value) at m2
  have m3 := hM.out.cell 3
  change _ = some (.int .i64 t : Value) at m3
  have m4 := hM.out.cell 4
  change _ = some (.bool false : Value) at m4
  have m5 := hM.out.cell 5
  change _ = some (.int .i64 (px - 1) : Value) at m5
  have m6 := hM.out.cell 6
  change _ = some (.int .i64 tg : Value) at m6
  have m7 := hM.out.cell 7
  change _ = some (.slice DA dn Dc : Value) at m7
  have m8 := hM.out.cell 8
  change _ = some (.int .i64 commit : Value) at m8
  have m9 := hM.out.cell 9
  change _ = some (.string ⟨#[]⟩ : Value) at m9
  have m10 := hM.out.cell 10
  change _ = some (.slice none 0 0 : Value) at m10
  have y0 := hY.out.cell 0
  change _ = some (.int .i64 0 : Value) at y0
  have y1 := hY.out.cell 1
  change _ = some (.int .i64 0 : Value) at y1
  have y2 := hY.out.cell 2
  change _ = some (.int .i64 0 : Value) at y2
  have y3 := hY.out.cell 3
  change _ = some (.int .i64 0 : Value) at y3
  have y4 := hY.out.cell 4
  change _ = some (.bool false : Value) at y4
  have y5 := hY.out.cell 5
  change _ = some (.int .i64 0 : Value) at y5
  have y6 := hY.out.cell 6
  change _ = some (.int .i64 0 : Value) at y6
  have y7 := hY.out.cell 7
  change _ = some (.slice none 0 0 : Value) at y7
  have y8 := hY.out.cell 8
  change _ = some (.int .i64 0 : Value) at y8
  have y9 := hY.out.cell 9
  change _ = some (.string ⟨#[]⟩ : Value) at y9
  have y10 := hY.out.cell 10
  change _ = some (.slice none 0 0 : Value) at y10
  have yf0 := hY.out.frozen 0
  have yf1 := hY.out.frozen 1
  have yf2 := hY.out.frozen 2
  have yf3 := hY.out.frozen 3
  have yf4 := hY.out.frozen 4
  have yf5 := hY.out.frozen 5
  have yf6 := hY.out.frozen 6
  have yf7 := hY.out.frozen 7
  have yf8 := hY.out.frozen 8
  have yf9 := hY.out.frozen 9
  have yf10 := hY.out.frozen 10
  have ylt := hY.out.lt
  have mlt := hM.out.lt
  go_wp2
  clear m0 m1 m2 m3 m4 m5 m6 m7 m8 m9 m10 y0 y1 y2 y3 y4 y5 y6 y7 y8 y9 y10 yf0 yf1 yf2 yf3 yf4 yf5 yf6 yf7 yf8 yf9 yf10 ylt mlt
  have kfin := st11_blk hY.out (.int .i64 3) (.int .i64 id) (.int .i64 pid) (.int .i64 t) (.bool false) (.int .i64 (px - 1)) (.int .i64 tg) (.slice DA dn Dc) (.int .i64 commit) (.string ⟨#[]⟩) (.slice none 0 0)
  have qz := st11_below (.int .i64 3) (.int .i64 id) (.int .i64 pid) (.int .i64 t) (.bool false) (.int .i64 (px - 1)) (.int .i64 tg) (.slice DA dn Dc) (.int .i64 commit) (.string ⟨#[]⟩) (.slice none 0 0) qb1 (by omega : w.heap.size ≤ w.heap.size + 1 + 1)
  have hI7 : Recs (st11 wb1 (w.heap.size + 1 + 1) (.int .i64 3) (.int .i64 id) (.int .i64 pid) (.int .i64 t) (.bool false) (.int .i64 (px - 1)) (.int .i64 tg) (.slice DA dn Dc) (.int .i64 commit) (.string ⟨#[]⟩) (.slice none 0 0)) B DA dn rb := st11_reads hY.out (.int .i64 3) (.int .i64 id) (.int .i64 pid) (.int .i64 t) (.bool false) (.int .i64 (px - 1)) (.int .i64 tg) (.slice DA dn Dc) (.int .i64 commit) (.string ⟨#[]⟩) (.slice none 0 0) (by omega) (by decide) hI5.out
  unfold st11 at kfin qz hI7
  have kf := blk11v kfin
  obtain ⟨_, r0, r1, r2, r3, r4, r5, r6, r7, r8, r9, r10⟩ := kf
  refine ends_ret hQ (v := .agg #[.int .i64 3, .int .i64 id, .int .i64 pid, .int .i64 t, .bool false, .int .i64 (px - 1), .int .i64 tg, .slice DA dn Dc, .int .i64 commit, .string ⟨#[]⟩, .slice none 0 0]) (by simp [results, Tryz.results75, go_sem, r0, r1, r2, r3, r4, r5, r6, r7, r8, r9, r10]) rfl ?_
  exact ⟨⟨⟨DA, dn, Dc⟩, ⟨none, 0, 0⟩⟩, by rw [hfin.out]; rfl, by (rw [hfin.out]; exact ⟨hI7, hc5, hd20, Reads.none_, Nat.le_refl _, by dsimp only; omega, by simp [ByteArray.size]⟩), qz⟩
end Go.Proofs.YtncdjmpdbinanaaGreatDoor
namespace Go.Proofs.YtncdjmpdbinanaaGreatDoor
open Go.RowKit

/-- messages are handed back -/
def RetMs (w : World) (B : Nat) (ms : List Ms) (e : Ending) (w' : World) : Prop :=
  ∃ A n c pm, e = .returned (.slice A n c) ∧ Mgs w' B A n pm ∧ pm.map Prod.fst = ms ∧ n ≤ c ∧ Below w.heap.size w w'
theorem mgs_blk {w : World} {B g : Nat} {M : Ms} {b : MsA} (h : Blk w g 32 #[.int .i64 M.kind, .int .i64 M.fr, .int .i64 M.to, .int .i64 M.term, .bool M.ok, .int .i64 M.index, .int .i64 M.lterm, .slice b.R.A b.R.n b.R.c, .int .i64 M.commit, .string M.s, .slice b.V.A b.V.n b.V.c]) (hM : MsOk w B M b) : Mgs w B (some ⟨g, 0, none⟩) 1 [(M, b)] := by
  refine ⟨⟨rfl, fun _ => ⟨g, 0, rfl, h.lt, .inr ⟨_, _, h⟩, fun j u hu => ?_⟩⟩, fun p hp => ?_⟩
  · rw [Nat.zero_add, h.cell j]
    simpa [mgsL, msgCells] using hu
  · rw [List.mem_singleton] at hp
    subst hp
    exact hM
theorem asc_len9 : ∀ {l : List Int} {u : Int}, l.Pairwise (· < ·) → (∀ x ∈ l, u < x ∧ x ≤ 9) → u ≤ 9 → (l.length : Int) ≤ 9 - u
  | [], u, _, _, h => by simp; omega
  | x :: l, u, hp, h, _ => by
    have h1 := h x (.head _)
    have := asc_len9 (List.pairwise_cons.1 hp).2 (fun y hy => ⟨(List.pairwise_cons.1 hp).1 y hy, (h y (.tail _ hy)).2⟩) h1.2
    rw [List.length_cons]
    omega
theorem prs_len {nid last : Int} {ps : List Pr} (h : okPs nid last none ps = true) : ps.length ≤ 9 := by
  obtain ⟨a1, a2, _⟩ := okPs_iff.1 h
  have h1 : (ps.map Pr.id).Pairwise (· < ·) := List.pairwise_map.2 a2
  have h3 := asc_len9 (u := 0) h1 (fun x hx => by
    obtain ⟨p, hp, rfl⟩ := List.mem_map.1 hx
    have := (a1 p hp).1
    omega) (by omega)
  rw [List.length_map] at h3
  omega
set_option maxRecDepth 100000 in
set_option maxHeartbeats 12800000 in
theorem ESendAll_any (N : Nd) (a : NdA) (w : World) {B : Nat} (hBw : B ≤ w.heap.size) (hN : NdOk w B N a) (hzr : rightN N = true) :
    Calls Tryz.prog 74 #[nodeV N a] w (RetMs w B (allM N)) := by
  have hps := (okPs_iff.1 (right_parts hzr).2.2.2.2.2.2.2.2.2).1
  have hpl := prs_len (right_parts hzr).2.2.2.2.2.2.2.2.2
  have hES := fun (p : Pr) (w : World) (h0 : B ≤ w.heap.size) (k : NdOk w B N a) (hp : 1 ≤ p.nx ∧ p.nx ≤ lastJ N.h.l + 1) => ESend_any N a p w h0 k hzr hp
  have hps2 : Hid (∀ p ∈ N.ps, 1 ≤ p.nx ∧ p.nx ≤ lastJ N.h.l + 1) := fun p hp => (hps p hp).2.2.1
  obtain ⟨F, hF⟩ : ∃ F, sendM N = F := ⟨_, rfl⟩
  unfold allM
  rw [hF] at hES ⊢
  have hN0 := hid_mk hN
  have hPr := hid_mk hN.ps
  have hlen := hN.ps.len
  replace hF := hid_mk hF
  clear hzr hps hN
  obtain ⟨id, ⟨t, v, ⟨base, bt, rs⟩, s, vs⟩, role, lead, timer, commit, got, ps⟩ := N
  obtain ⟨⟨RA, n, Rc⟩, ⟨VA, m, Vc⟩, ⟨GA, gn, Gc⟩, ⟨PA, pn, Pc⟩⟩ := a
  dsimp only at hES hPr hlen hps2 hpl ⊢
  have hpn : pn ≤ 9 := by omega
  unfold nodeV at hES
  dsimp only at hES
  have hX : Hid (Blk (w.alloc (.cells #[.int .i64 id, .int .i64 t, .int .i64 v, .int .i64 base, .int .i64 bt, .slice RA n Rc, .string s, .slice VA m Vc, .int .i64 role, .int .i64 lead, .int .i64 timer, .int .i64 commit, .slice GA gn Gc, .slice PA pn Pc] 30)) w.heap.size 30 #[.int .i64 id, .int .i64 t, .int .i64 v, .int .i64 base, .int .i64 bt, .slice RA n Rc, .string s, .slice VA m Vc, .int .i64 role, .int .i64 lead, .int .i64 timer, .int .i64 commit, .slice GA gn Gc, .slice PA pn Pc]) := Blk.new _ _ _
  obtain ⟨i0, hi0, hz0, hz1, hz2⟩ := info_parts msgInfo
  show Calls Tryz.prog 74 #[.agg #[.int .i64 id, .int .i64 t, .int .i64 v, .int .i64 base, .int .i64 bt, .slice RA n Rc, .string s, .slice VA m Vc, .int .i64 role, .int .i64 lead, .int .i64 timer, .int .i64 commit, .slice GA gn Gc, .slice PA pn Pc]] w _
  refine calls_of_wpQ Tryz.func74 rfl ?_
  intro Q hQ
  simp only [Tryz.ntmps74, List.size_toArray, List.length_cons, List.length_nil, Nat.reduceAdd, Nat.reduceSub, Array.replicate_succ, Array.replicate_zero, List.push_toArray, List.append_toArray, List.nil_append, List.cons_append]
  obtain ⟨xl, x0, x1, x2, x3, x4, x5, x6, x7, x8, x9, x10, x11, x12, x13⟩ := blk14c hX.out
  go_wp2
  go_loopw [3, 9] (fun o i wr => ∃ (k : Nat) (pm : List (Ms × MsA)), i = .int .i64 k ∧ k ≤ pn ∧ Below w.heap.size w wr ∧ Hid (wr.ownsRow w.heap.size 32 11 o pm.length (mgsL pm)) ∧ Hid (∀ p ∈ pm, MsOk wr B p.1 p.2) ∧ Hid (pm.map Prod.fst = (ps.take k).map F) ∧ Hid (Blk wr w.heap.size 30 #[.int .i64 id, .int .i64 t, .int .i64 v, .int .i64 base, .int .i64 bt, .slice RA n Rc, .string s, .slice VA m Vc, .int .i64 role, .int .i64 lead, .int .i64 timer, .int .i64 commit, .slice GA gn Gc, .slice PA pn Pc])) (fun _ i _ => pn - (intOf i).toNat)
  case atStart => exact ⟨0, [], rfl, Nat.zero_le _, by go_grown, World.ownsRow_nil _ _ _ _, fun _ h => by (cases h), rfl, hX⟩
  case round =>
    clear hX xl x0 x1 x2 x3 x4 x5 x6 x7 x8 x9 x10 x11 x12 x13
    obtain ⟨k, pm, rfl, hk, hb, hown, hok, hpm, hX⟩ := hrel
    have zr := hb.size
    by_cases hkv : k < pn
    · obtain ⟨bv, ov, p, hA, hbv, hdx, c0, c1, c2⟩ := (hPr.out.to hb).at_ hkv
      subst hA
      obtain ⟨xl, x0, x1, x2, x3, x4, x5, x6, x7, x8, x9, x10, x11, x12, x13⟩ := blk14c hX.out
      have hstep : Hid ((ps.take (k + 1)).map F = (ps.take k).map F ++ [F p]) := by
        rw [Hid, take_snoc hdx, List.map_append]
        rfl
      have hpb := hid_mk (hps2.out p (List.mem_of_mem_drop (by rw [hdx]; exact .head _)))
      have hml : pm.length ≤ 9 := by
        have := congrArg List.length hpm.out
        rw [List.length_map, List.length_map, List.length_take] at this
        omega
      obtain ⟨Ao, co, rfl, ho1, ho2⟩ := own_slice hown.out
      obtain ⟨na, hna⟩ : ∃ q, pm.length = q := ⟨_, rfl⟩
      rw [hna] at hown hml ho1 ⊢
      replace hna := hid_mk hna
      have hPB : Hid (Blk (wr.alloc (.cells #[.int .i64 p.id, .int .i64 p.nx, .int .i64 p.mt] 53)) wr.heap.size 53 #[.int .i64 p.id, .int .i64 p.nx, .int .i64 p.mt]) := Blk.new _ _ _
      replace hX := hid_mk (hX.out.alloc (.cells #[.int .i64 p.id, .int .i64 p.nx, .int .i64 p.mt] 53))
      have hown1 := hid_mk (hown.out.alloc (.cells #[.int .i64 p.id, .int .i64 p.nx, .int .i64 p.mt] 53))
      have q1 : Below w.heap.size w (wr.alloc (.cells #[.int .i64 p.id, .int .i64 p.nx, .int .i64 p.mt] 53)) := by go_grown
      replace hdx := hid_mk hdx
      go_wp2_with fail
      refine (hES p _ (by have := q1.size; omega) (hN0.out.to q1) hpb.out).mono ?_
      obtain ⟨M, hMM⟩ : ∃ M, F p = M := ⟨_, rfl⟩
      rw [hMM] at hstep ⊢
      rintro e w2 ⟨⟨⟨QA, qn, Qc⟩, ⟨UA, un, Uc⟩⟩, rfl, hMb, hb2⟩
      unfold msgV
      dsimp only at hMb ⊢
      clear hMM c0 c1 c2 xl x0 x1 x2 x3 x4 x5 x6 x7 x8 x9 x10 x11 x12 x13
      have q2 := (after (w := w) hb2 q1).1
      have z2 := q2.size
      have qr : Below wr.heap.size wr w2 := (after (w := wr) hb2 (by go_grown)).1
      replace hX := hid_mk (hX.out.keep hb2)
      have hown2 := own_keep hown.out qr
      have hok2 : ∀ p ∈ pm, MsOk w2 B p.1 p.2 := fun p hp => (hok.out p hp).to qr
      have hnB : Blk (w2.alloc (.cells #[.int .i64 M.kind, .int .i64 M.fr, .int .i64 M.to, .int .i64 M.term, .bool M.ok, .int .i64 M.index, .int .i64 M.lterm, .slice QA qn Qc, .int .i64 M.commit, .string M.s, .slice UA un Uc] 32)) w2.heap.size 32 #[.int .i64 M.kind, .int .i64 M.fr, .int .i64 M.to, .int .i64 M.term, .bool M.ok, .int .i64 M.index, .int .i64 M.lterm, .slice QA qn Qc, .int .i64 M.commit, .string M.s, .slice UA un Uc] := Blk.new _ _ _
      have qa : Below w2.heap.size w2 (w2.alloc (.cells #[.int .i64 M.kind, .int .i64 M.fr, .int .i64 M.to, .int .i64 M.term, .bool M.ok, .int .i64 M.index, .int .i64 M.lterm, .slice QA qn Qc, .int .i64 M.commit, .string M.s, .slice UA un Uc] 32)) := by go_grown
      have hMb2 := hMb.to qa
      have hnew := hid_mk (mgs_blk (M := M) (b := ⟨⟨QA, qn, Qc⟩, ⟨UA, un, Uc⟩⟩) hnB hMb2).1
      have hown' := hid_mk (hown2.alloc (.cells #[.int .i64 M.kind, .int .i64 M.fr, .int .i64 M.to, .int .i64 M.term, .bool M.ok, .int .i64 M.index, .int .i64 M.lterm, .slice QA qn Qc, .int .i64 M.commit, .string M.s, .slice UA un Uc] 32))
      have hok3 : Hid (∀ p ∈ pm ++ [(M, ⟨⟨QA, qn, Qc⟩, ⟨UA, un, Uc⟩⟩)], MsOk (w2.alloc (.cells #[.int .i64 M.kind, .int .i64 M.fr, .int .i64 M.to, .int .i64 M.term, .bool M.ok, .int .i64 M.index, .int .i64 M.lterm, .slice QA qn Qc, .int .i64 M.commit, .string M.s, .slice UA un Uc] 32)) B p.1 p.2) := fun p hp => by
        rcases List.mem_append.1 hp with hp | hp
        · exact (hok2 p hp).to qa
        · rw [List.mem_singleton] at hp
          subst hp
          exact hMb2
      replace hX := hid_mk (hX.out.alloc (.cells #[.int .i64 M.kind, .int .i64 M.fr, .int .i64 M.to, .int .i64 M.term, .bool M.ok, .int .i64 M.index, .int .i64 M.lterm, .slice QA qn Qc, .int .i64 M.commit, .string M.s, .slice UA un Uc] 32))
      have q3 : Below w.heap.size w (w2.alloc (.cells #[.int .i64 M.kind, .int .i64 M.fr, .int .i64 M.to, .int .i64 M.term, .bool M.ok, .int .i64 M.index, .int .i64 M.lterm, .slice QA qn Qc, .int .i64 M.commit, .string M.s, .slice UA un Uc] 32)) := by go_grown
      clear hown hown1 hown2 hok hok2 hnB qa hMb hMb2 hb2 qr
      go_wp2_with (at_builtin; refine wpList_append_any _ rfl (.tmp 13) (.tmp 17) _ rfl w.heap.size 32 i0 _ 11 128 Tryz.underlying34 hi0 hz0 hz1 hz2 rfl (by omega) _ na _ rfl hown'.out B (some ⟨w2.heap.size, 0, none⟩) 1 1 _ rfl hnew.out (msg_one _) (by simp only [maxLen]; omega) (by omega) (by simp only [World.size_alloc]; omega) ?_; intro v1 wa hown2 hga hat2)
      have qb : Below w.heap.size w wa := grown_below q3 hga (fun k hk => (World.ownsRow.lt hown'.out k hk).1)
      have hXa := hid_mk (Blk.grown hX.out hga (own_ne hown'.out hX.out))
      have hkr : KR (w2.alloc (.cells #[.int .i64 M.kind, .int .i64 M.fr, .int .i64 M.to, .int .i64 M.term, .bool M.ok, .int .i64 M.index, .int .i64 M.lterm, .slice QA qn Qc, .int .i64 M.commit, .string M.s, .slice UA un Uc] 32)) wa B := (KR.own hown'.out hga).low hBw
      have hok4 : Hid (∀ p ∈ pm ++ [(M, ⟨⟨QA, qn, Qc⟩, ⟨UA, un, Uc⟩⟩)], MsOk wa B p.1 p.2) := fun p hp => (hok3.out p hp).kr' hkr
      have hrow : Hid (wa.ownsRow w.heap.size 32 11 v1 (pm ++ [(M, (⟨⟨QA, qn, Qc⟩, ⟨UA, un, Uc⟩⟩ : MsA))]).length (mgsL (pm ++ [(M, ⟨⟨QA, qn, Qc⟩, ⟨UA, un, Uc⟩⟩)]))) := by
        rw [List.length_append, hna.out]
        unfold mgsL at hown2 ⊢
        rw [List.flatMap_append]
        exact hown2
      have hpm2 : Hid ((pm ++ [(M, (⟨⟨QA, qn, Qc⟩, ⟨UA, un, Uc⟩⟩ : MsA))]).map Prod.fst = (ps.take (k + 1)).map F) := by
        rw [Hid, hstep.out, List.map_append, hpm.out]
        rfl
      clear hown2 hga hat2 hkr hok3 hnew hown' hX
      go_roundw
      case rel => exact ⟨k + 1, pm ++ [(M, ⟨⟨QA, qn, Qc⟩, ⟨UA, un, Uc⟩⟩)], by go_num, by omega, qb, hrow, hok4, hpm2, hXa⟩
      case measure => simp [intOf]; omega
    · have hkn : k = pn := by omega
      obtain ⟨Ao, co, rfl, ho1, ho2⟩ := own_slice hown.out
      have hM1 : Hid (Mgs wr B Ao pm.length pm) := ⟨Reads.of_own hown.out, hok.out⟩
      have hfin : Hid (pm.map Prod.fst = ps.map F) := by
        rw [Hid, hpm.out, List.take_of_length_le (by omega)]
      obtain ⟨na, hna⟩ : ∃ q, pm.length = q := ⟨_, rfl⟩
      rw [hna] at hM1 ho1 ⊢
      replace hna := hid_mk hna
      clear hown hok hpm
      go_wp2
      refine ends_ret hQ (results_tmp rfl _ _ _) rfl ?_
      exact ⟨Ao, na, co, pm, rfl, hM1.out, hfin.out, ho1, hb⟩
end Go.Proofs.YtncdjmpdbinanaaGreatDoor
