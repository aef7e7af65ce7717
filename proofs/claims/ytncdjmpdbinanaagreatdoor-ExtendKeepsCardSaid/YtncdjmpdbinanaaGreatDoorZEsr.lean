/-
  WHAT IS PROVED HERE: what extend.last and sure hand back of a node that may be. Conditions: the slices are of at most 2^47 bytes; MaxLen stands.
-/
import Derived.Test.YtncdjmpdbinanaaGreatDoorZGEx
import Derived.Test.YtncdjmpdbinanaaGreatDoorZGKs
import Derived.Test.YtncdjmpdbinanaaGreatDoorZGStd
import Derived.Deep.DeepCutAuto
namespace Go.Proofs.YtncdjmpdbinanaaGreatDoor
open Go.RowKit

theorem sureL_same {self last : Int} {ps : List Pr} {xs : List Int} {m : Int} (hr : rightL xs = true) (h0 : 0 ≤ last) (hm : (sorted (xs.map (haveV self last ps)))[(xs.length - 1) / 2]? = some m) : refSureL self last ps xs = m := by
  unfold refSureL
  rw [if_pos hr]
  have hmem : m ∈ xs.map (haveV self last ps) := (sorted_perm _).mem_iff.1 (List.mem_of_getElem? hm)
  obtain ⟨v, _, hv⟩ := List.mem_map.1 hmem
  have hb : 0 ≤ m ∧ m ≤ last := by
    rw [← hv]
    unfold haveV
    have := most_ge v ps 0
    split <;> omega
  exact sure_eq self last ps xs m hm hb.1 hb.2 last.toNat (by omega) (by omega)
/-- a node is handed back -/
def RetN (w : World) (N : Nd) (a : NdA) (e : Ending) (w' : World) : Prop := e = .returned (nodeV N a) ∧ Below w.heap.size w w'
theorem nd_rn {w : World} {B : Nat} {N : Nd} {a : NdA} (hN : NdOk w B N a) : a.R.n ≤ 4398046511103 ∧ a.V.n ≤ 17592186044415 ∧ a.P.n ≤ 5864062014804 := by
  have b1 := hN.rb
  have b2 := hN.vb
  have b3 := hN.pb
  omega
set_option maxRecDepth 100000 in
set_option maxHeartbeats 1600000 in
theorem ELast_any (N : Nd) (a : NdA) (w : World) {B : Nat} (hN : NdOk w B N a) (hj : rightJ N.h.l = true) :
    Calls Tryz.prog 71 #[nodeV N a] w fun e w' => e = .returned (.int .i64 (lastJ N.h.l)) ∧ Below w.heap.size w w' := by
  have hb := nd_rn hN
  obtain ⟨la, hla⟩ : ∃ x, lastJ N.h.l = x := ⟨_, rfl⟩
  obtain ⟨lt, hlt⟩ : ∃ x, (termJ N.h.l (lastJ N.h.l)).getD 0 = x := ⟨_, rfl⟩
  have hLA := fun (w : World) (k1 : Recs w B a.R.A a.R.n N.h.l.rs) => Last_any N.h.l a.R.A a.R.n a.R.c w (by omega) k1
  rw [hj, if_pos rfl, if_pos rfl, hlt, hla] at hLA
  rw [hla]
  have hrc := hN.recs
  clear hla hlt hN hj hb
  obtain ⟨id, ⟨t, v, ⟨base, bt, rs⟩, s, vs⟩, role, lead, timer, commit, got, ps⟩ := N
  obtain ⟨⟨RA, n, Rc⟩, ⟨VA, m, Vc⟩, ⟨GA, gn, Gc⟩, ⟨PA, pn, Pc⟩⟩ := a
  dsimp only at hLA hrc
  unfold nodeV
  dsimp only
  have hX : Hid (Blk (w.alloc (.cells #[.int .i64 id, .int .i64 t, .int .i64 v, .int .i64 base, .int .i64 bt, .slice RA n Rc, .string s, .slice VA m Vc, .int .i64 role, .int .i64 lead, .int .i64 timer, .int .i64 commit, .slice GA gn Gc, .slice PA pn Pc] 30)) w.heap.size 30 #[.int .i64 id, .int .i64 t, .int .i64 v, .int .i64 base, .int .i64 bt, .slice RA n Rc, .string s, .slice VA m Vc, .int .i64 role, .int .i64 lead, .int .i64 timer, .int .i64 commit, .slice GA gn Gc, .slice PA pn Pc]) := Blk.new _ _ _
  refine calls_of_wpQ Tryz.func71 rfl ?_
  intro Q hQ
  simp only [Tryz.ntmps71, List.size_toArray, List.length_cons, List.length_nil, Nat.reduceAdd, Nat.reduceSub, Array.replicate_succ, Array.replicate_zero, List.push_toArray, List.append_toArray, List.nil_append, List.cons_append]
  go_wp2_with fail
  refine (hLA _ (hrc.to (by go_grown))).mono ?_
  rintro e w1 ⟨rfl, hbb⟩
  have q1 := (after (w := w) hbb (by go_grown)).1
  clear hbb
  go_wp2
  refine ends_ret hQ (results_tmp rfl _ _ _) rfl ?_
  exact ⟨rfl, q1⟩
set_option maxRecDepth 100000 in
set_option maxHeartbeats 6400000 in
theorem ESure_any (N : Nd) (a : NdA) (w : World) {B : Nat} (hN : NdOk w B N a) (hzr : rightN N = true) (mm : Int) (hm : w.cell? ⟨0, 0, none⟩ = some (.int .i64 mm)) :
    Calls Tryz.prog 73 #[nodeV N a] w fun e w' => e = .returned (nodeV (sureN N) a) ∧ Below w.heap.size w w' := by
  have hb := nd_rn hN
  have hn := right_n hzr
  have hcb := commit_bounds hzr
  obtain ⟨la, hla⟩ : ∃ x, lastJ N.h.l = x := ⟨_, rfl⟩
  obtain ⟨sp, hsp⟩ : ∃ x, sureP N = x := ⟨_, rfl⟩
  obtain ⟨vo, hvo⟩ : ∃ x, votersN N = x := ⟨_, rfl⟩
  obtain ⟨tm, htm⟩ : ∃ x, termJ N.h.l sp = x := ⟨_, rfl⟩
  obtain ⟨X, hX'⟩ : ∃ x, sureN N = x := ⟨_, rfl⟩
  have hvr : Hid (rightL vo = true) := by rw [← hvo]; exact of_right N.h.l.base N.h.l.rs hn.2.1
  have hsu : Hid (∀ mx, (sorted (vo.map (haveV N.id la N.ps)))[(vo.length - 1) / 2]? = some mx → mx = sp) := fun mx h => by
    have e := sureL_same hvr.out (by omega) h
    rw [← hsp]
    unfold sureP
    rw [hla, hvo]
    exact e.symm
  have hXd : Hid (X = if decide (N.commit < sp) && (tm == some N.h.t) then ⟨N.id, N.h, N.role, N.lead, N.timer, sp, N.got, N.ps⟩ else N) := by
    rw [Hid, ← hX']
    unfold sureN sureC
    rw [hsp, htm]
  have hEL := fun (w : World) (h : NdOk w B N a) => ELast_any N a w h hn.1
  have hTA := fun (w : World) (k1 : Recs w B a.R.A a.R.n N.h.l.rs) => TermAt_any N.h.l sp a.R.A a.R.n a.R.c w (by omega) k1
  have hta : termAtJ N.h.l sp = tm := by unfold termAtJ; rw [if_pos hn.1, htm]
  rw [hta] at hTA
  rw [hX']
  rw [hla] at hEL
  have hla0 : 0 ≤ la := by omega
  replace hcb := hid_mk hcb
  clear hX' hsp htm hta hzr hn hla
  have hN0 := hid_mk hN
  obtain ⟨hr, hrc, hrb, hi, hvc, hvb, _, _, _, _, hp, hpc, hpb⟩ := hN
  unfold votersN at hvo
  obtain ⟨id, ⟨t, v, ⟨base, bt, rs⟩, s, vs⟩, role, lead, timer, commit, got, ps⟩ := N
  obtain ⟨⟨RA, n, Rc⟩, ⟨VA, m, Vc⟩, ⟨GA, gn, Gc⟩, ⟨PA, pn, Pc⟩⟩ := a
  unfold nodeV at hEL
  dsimp only at hr hrc hrb hi hvc hvb hp hpc hpb hvo hsu hXd hEL hTA hb
  replace hvo := hid_mk hvo
  have hX := hid_mk ((Blk.new w 30 #[.int .i64 id, .int .i64 t, .int .i64 v, .int .i64 base, .int .i64 bt, .slice RA n Rc, .string s, .slice VA m Vc, .int .i64 role, .int .i64 lead, .int .i64 timer, .int .i64 commit, .slice GA gn Gc, .slice PA pn Pc]).alloc (.cells #[.int .i64 0, .int .i64 0, .int .i64 0, .int .i64 0, .int .i64 0, .slice none 0 0, .string ⟨#[]⟩, .slice none 0 0, .int .i64 0, .int .i64 0, .int .i64 0, .int .i64 0, .slice none 0 0, .slice none 0 0] 30))
  have hY : Hid (Blk ((w.alloc (.cells #[.int .i64 id, .int .i64 t, .int .i64 v, .int .i64 base, .int .i64 bt, .slice RA n Rc, .string s, .slice VA m Vc, .int .i64 role, .int .i64 lead, .int .i64 timer, .int .i64 commit, .slice GA gn Gc, .slice PA pn Pc] 30)).alloc (.cells #[.int .i64 0, .int .i64 0, .int .i64 0, .int .i64 0, .int .i64 0, .slice none 0 0, .string ⟨#[]⟩, .slice none 0 0, .int .i64 0, .int .i64 0, .int .i64 0, .int .i64 0, .slice none 0 0, .slice none 0 0] 30)) (w.heap.size + 1) 30 #[.int .i64 0, .int .i64 0, .int .i64 0, .int .i64 0, .int .i64 0, .slice none 0 0, .string ⟨#[]⟩, .slice none 0 0, .int .i64 0, .int .i64 0, .int .i64 0, .int .i64 0, .slice none 0 0, .slice none 0 0]) := Blk.new_ (by simp)
  show Calls Tryz.prog 73 #[.agg #[.int .i64 id, .int .i64 t, .int .i64 v, .int .i64 base, .int .i64 bt, .slice RA n Rc, .string s, .slice VA m Vc, .int .i64 role, .int .i64 lead, .int .i64 timer, .int .i64 commit, .slice GA gn Gc, .slice PA pn Pc]] w _
  refine calls_of_wpQ Tryz.func73 rfl ?_
  intro Q hQ
  simp only [Tryz.ntmps73, List.size_toArray, List.length_cons, List.length_nil, Nat.reduceAdd, Nat.reduceSub, Array.replicate_succ, Array.replicate_zero, List.push_toArray, List.append_toArray, List.nil_append, List.cons_append]
  go_wp2_with fail
  refine (Of_any t v ⟨base, bt, rs⟩ RA n Rc s VA m Vc vs _ B B mm ((World.cell?_alloc_past _ _ _ (by simp only [World.size_alloc]; have := cell_lt hm; omega)).trans ((World.cell?_alloc_past _ _ _ (cell_lt hm)).trans hm)) (by omega) (by omega) (hr.to (by go_grown)) (hi.to (by go_grown))).mono ?_
  rintro e w1 ⟨VA2, vn, vc, rfl, hvI, hvn, hb1⟩
  dsimp only at hvI
  rw [hvo.out] at hvI
  have q1 := (after (w := w) hb1 (by go_grown)).1
  replace hX := hid_mk (hX.out.keep (after hb1 (by go_grown)).1)
  replace hY := hid_mk (hY.out.keep (after hb1 (by go_grown)).1)
  replace hvI := hid_mk hvI
  clear hb1 hm hvo
  go_upto_region 2 with fail
  refine wp_region_T' (fun w' => w'.cell? ⟨w.heap.size, 0, none⟩ = some (.int .i64 id) ∧ w'.cell? ⟨w.heap.size, 1, none⟩ = some (.int .i64 t) ∧ w'.cell? ⟨w.heap.size, 2, none⟩ = some (.int .i64 v) ∧ w'.cell? ⟨w.heap.size, 3, none⟩ = some (.int .i64 base) ∧ w'.cell? ⟨w.heap.size, 4, none⟩ = some (.int .i64 bt) ∧ w'.cell? ⟨w.heap.size, 5, none⟩ = some (.slice RA n Rc) ∧ w'.cell? ⟨w.heap.size, 6, none⟩ = some (.string s) ∧ w'.cell? ⟨w.heap.size, 7, none⟩ = some (.slice VA m Vc) ∧ w'.cell? ⟨w.heap.size, 8, none⟩ = some (.int .i64 role) ∧ w'.cell? ⟨w.heap.size, 9, none⟩ = some (.int .i64 lead) ∧ w'.cell? ⟨w.heap.size, 10, none⟩ = some (.int .i64 timer) ∧ w'.cell? ⟨w.heap.size, 11, none⟩ = some (.int .i64 commit) ∧ w'.cell? ⟨w.heap.size, 12, none⟩ = some (.slice GA gn Gc) ∧ w'.cell? ⟨w.heap.size, 13, none⟩ = some (.slice PA pn Pc)) (fun j => decide (j < 9)) 9 (by kernel_rfl) (by kernel_rfl) (by exact ⟨hX.out.cell 0, hX.out.cell 1, hX.out.cell 2, hX.out.cell 3, hX.out.cell 4, hX.out.cell 5, hX.out.cell 6, hX.out.cell 7, hX.out.cell 8, hX.out.cell 9, hX.out.cell 10, hX.out.cell 11, hX.out.cell 12, hX.out.cell 13⟩) (fun hS0 => ?_)
  replace hX := hid_mk hX.out.drew
  replace hY := hid_mk hY.out.drew
  replace hvI := hid_mk (hvI.out.to (show Below w1.heap.size w1 w1.drew by go_grown))
  have qd : Below w.heap.size w w1.drew := by go_grown
  obtain ⟨wd, hwd⟩ : ∃ x, w1.drew = x := ⟨_, rfl⟩
  rw [hwd] at hS0 hX hY hvI qd ⊢
  clear hwd q1
  refine wpAnyT_take (i := 0) rfl (by kernel_rfl) (by kernel_rfl) (by kernel_rfl) rfl (by kernel_rfl) (fun _ _ _ h => h) (by kernel_rfl) (fun w' hS => (by obtain ⟨s0, s1, s2, s3, s4, s5, s6, s7, s8, s9, s10, s11, s12, s13⟩ := hS; go_simp; try with_reducible rfl)) hS0 ?_
  simp only [Act.put]
  refine wpAnyT_take (i := 1) rfl (by kernel_rfl) (by kernel_rfl) (by kernel_rfl) rfl (by kernel_rfl) (fun _ _ _ h => h) (by kernel_rfl) (fun w' hS => (by obtain ⟨s0, s1, s2, s3, s4, s5, s6, s7, s8, s9, s10, s11, s12, s13⟩ := hS; go_simp; try with_reducible rfl)) hS0 ?_
  simp only [Act.put]
  refine wpAnyT_take (i := 2) rfl (by kernel_rfl) (by kernel_rfl) (by kernel_rfl) rfl (by kernel_rfl) (fun _ _ _ h => h) (by kernel_rfl) (fun w' hS => (by obtain ⟨s0, s1, s2, s3, s4, s5, s6, s7, s8, s9, s10, s11, s12, s13⟩ := hS; go_simp; try with_reducible rfl)) hS0 ?_
  simp only [Act.put]
  refine wpAnyT_take (i := 3) rfl (by kernel_rfl) (by kernel_rfl) (by kernel_rfl) rfl (by kernel_rfl) (fun _ _ _ h => h) (by kernel_rfl) (fun w' hS => (by obtain ⟨s0, s1, s2, s3, s4, s5, s6, s7, s8, s9, s10, s11, s12, s13⟩ := hS; go_simp; try with_reducible rfl)) hS0 ?_
  simp only [Act.put]
  refine wpAnyT_take (i := 5) rfl (by kernel_rfl) (by kernel_rfl) (by kernel_rfl) rfl (by kernel_rfl) (fun _ _ _ h => h) (by kernel_rfl) (fun w' hS => (by obtain ⟨s0, s1, s2, s3, s4, s5, s6, s7, s8, s9, s10, s11, s12, s13⟩ := hS; go_simp; try with_reducible rfl)) hS0 ?_
  simp only [Act.put]
  refine wpAnyT_take (i := 6) rfl (by kernel_rfl) (by kernel_rfl) (by kernel_rfl) rfl (by kernel_rfl) (fun _ _ _ h => h) (by kernel_rfl) (fun w' hS => (by obtain ⟨s0, s1, s2, s3, s4, s5, s6, s7, s8, s9, s10, s11, s12, s13⟩ := hS; go_simp; try with_reducible rfl)) hS0 ?_
  simp only [Act.put]
  refine wpAnyT_one (i := 4) (by kernel_rfl) rfl (fun K hK => ?_)
  go_simp
  refine (hEL _ (hN0.out.to (after qd (by go_grown)).1)).mono ?_
  rintro e w2 ⟨rfl, hb1⟩
  have q2 := (after (w := w) hb1 qd).1
  replace hX := hid_mk (hX.out.keep hb1)
  replace hY := hid_mk (hY.out.keep hb1)
  replace hvI := hid_mk (hvI.out.to hb1)
  clear hb1
  refine hK.out _ _ (fun _ => ⟨hX.out.cell 0, hX.out.cell 1, hX.out.cell 2, hX.out.cell 3, hX.out.cell 4, hX.out.cell 5, hX.out.cell 6, hX.out.cell 7, hX.out.cell 8, hX.out.cell 9, hX.out.cell 10, hX.out.cell 11, hX.out.cell 12, hX.out.cell 13⟩) ?_
  clear hK K
  try simp only [Act.put]
  refine wpAnyT_one (i := 7) (by kernel_rfl) rfl (fun K hK => ?_)
  go_simp
  refine (Sure_any VA2 vn vc vo id la PA pn Pc ps _ (B := w2.heap.size) (by omega) (by omega) (hvI.out.more (Nat.zero_le _)) (hp.to q2).top hvr.out hla0).mono ?_
  rintro e w3 ⟨⟨mx, rfl, hmx⟩, hb1⟩
  have hms := hsu.out mx hmx
  subst mx
  have q3 := (after (w := w) hb1 q2).1
  replace hX := hid_mk (hX.out.keep hb1)
  replace hY := hid_mk (hY.out.keep hb1)
  clear hb1 hvI
  refine hK.out _ _ (fun _ => ⟨hX.out.cell 0, hX.out.cell 1, hX.out.cell 2, hX.out.cell 3, hX.out.cell 4, hX.out.cell 5, hX.out.cell 6, hX.out.cell 7, hX.out.cell 8, hX.out.cell 9, hX.out.cell 10, hX.out.cell 11, hX.out.cell 12, hX.out.cell 13⟩) ?_
  clear hK K
  try simp only [Act.put]
  refine wpAnyT_one (i := 8) (by kernel_rfl) rfl (fun K hK => ?_)
  go_simp
  refine hK.out _ _ (fun _ => ⟨hX.out.cell 0, hX.out.cell 1, hX.out.cell 2, hX.out.cell 3, hX.out.cell 4, hX.out.cell 5, hX.out.cell 6, hX.out.cell 7, hX.out.cell 8, hX.out.cell 9, hX.out.cell 10, hX.out.cell 11, hX.out.cell 12, hX.out.cell 13⟩) ?_
  clear hK K
  try simp only [Act.put]
  refine wpAnyT_done (by kernel_rfl) ?_ _
  obtain ⟨xl, x0, x1, x2, x3, x4, x5, x6, x7, x8, x9, x10, x11, x12, x13⟩ := blk14c hX.out
  go_wp2_with fail
  refine (hTA _ (hr.to q3)).mono ?_
  rintro e w4 ⟨rfl, hb1⟩
  have q4 := (after (w := w) hb1 q3).1
  replace hX := hid_mk (hX.out.keep hb1)
  replace hY := hid_mk (hY.out.keep hb1)
  clear hb1
  clear xl x0 x1 x2 x3 x4 x5 x6 x7 x8 x9 x10 x11 x12 x13
  cases tm with
  | none =>
    have hx := hid_mk (hXd.out.trans (if_neg (by simp)))
    obtain ⟨xl, x0, x1, x2, x3, x4, x5, x6, x7, x8, x9, x10, x11, x12, x13, xf0, xf1, xf2, xf3, xf4, xf5, xf6, xf7, xf8, xf9, xf10, xf11, xf12, xf13⟩ := blk14f hX.out
    obtain ⟨yl, y0, y1, y2, y3, y4, y5, y6, y7, y8, y9, y10, y11, y12, y13, yf0, yf1, yf2, yf3, yf4, yf5, yf6, yf7, yf8, yf9, yf10, yf11, yf12, yf13⟩ := blk14f hY.out
    go_wp2
    clear xl x0 x1 x2 x3 x4 x5 x6 x7 x8 x9 x10 x11 x12 x13 xf0 xf1 xf2 xf3 xf4 xf5 xf6 xf7 xf8 xf9 xf10 xf11 xf12 xf13
    clear yl y0 y1 y2 y3 y4 y5 y6 y7 y8 y9 y10 y11 y12 y13 yf0 yf1 yf2 yf3 yf4 yf5 yf6 yf7 yf8 yf9 yf10 yf11 yf12 yf13
    have kfin := set14_blk hY.out (.int .i64 id) (.int .i64 t) (.int .i64 v) (.int .i64 base) (.int .i64 bt) (.slice RA n Rc) (.string s) (.slice VA m Vc) (.int .i64 role) (.int .i64 lead) (.int .i64 timer) (.int .i64 commit) (.slice GA gn Gc) (.slice PA pn Pc)
    unfold set14 at kfin
    obtain ⟨_, r0, r1, r2, r3, r4, r5, r6, r7, r8, r9, r10, r11, r12, r13⟩ := blk14c kfin
    refine ends_ret hQ (v := .agg #[.int .i64 id, .int .i64 t, .int .i64 v, .int .i64 base, .int .i64 bt, .slice RA n Rc, .string s, .slice VA m Vc, .int .i64 role, .int .i64 lead, .int .i64 timer, .int .i64 commit, .slice GA gn Gc, .slice PA pn Pc]) (by simp [results, Tryz.results73, go_sem, r0, r1, r2, r3, r4, r5, r6, r7, r8, r9, r10, r11, r12, r13]) rfl ?_
    exact ⟨by rw [hx.out]; rfl, set14_below (.int .i64 id) (.int .i64 t) (.int .i64 v) (.int .i64 base) (.int .i64 bt) (.slice RA n Rc) (.string s) (.slice VA m Vc) (.int .i64 role) (.int .i64 lead) (.int .i64 timer) (.int .i64 commit) (.slice GA gn Gc) (.slice PA pn Pc) q4 (by omega)⟩
  | some x =>
    by_cases g1 : commit < sp
    case neg =>
      have hg1 := hid_mk (show decide (commit < sp) = false by simpa using g1)
      have g1' : ¬ sp > commit := by omega
      replace g1 := hid_mk g1
      have hx := hid_mk (hXd.out.trans (if_neg (by rw [hg1.out]; simp)))
      obtain ⟨xl, x0, x1, x2, x3, x4, x5, x6, x7, x8, x9, x10, x11, x12, x13, xf0, xf1, xf2, xf3, xf4, xf5, xf6, xf7, xf8, xf9, xf10, xf11, xf12, xf13⟩ := blk14f hX.out
      obtain ⟨yl, y0, y1, y2, y3, y4, y5, y6, y7, y8, y9, y10, y11, y12, y13, yf0, yf1, yf2, yf3, yf4, yf5, yf6, yf7, yf8, yf9, yf10, yf11, yf12, yf13⟩ := blk14f hY.out
      go_wp2
      clear xl x0 x1 x2 x3 x4 x5 x6 x7 x8 x9 x10 x11 x12 x13 xf0 xf1 xf2 xf3 xf4 xf5 xf6 xf7 xf8 xf9 xf10 xf11 xf12 xf13
      clear yl y0 y1 y2 y3 y4 y5 y6 y7 y8 y9 y10 y11 y12 y13 yf0 yf1 yf2 yf3 yf4 yf5 yf6 yf7 yf8 yf9 yf10 yf11 yf12 yf13
      have kfin := set14_blk hY.out (.int .i64 id) (.int .i64 t) (.int .i64 v) (.int .i64 base) (.int .i64 bt) (.slice RA n Rc) (.string s) (.slice VA m Vc) (.int .i64 role) (.int .i64 lead) (.int .i64 timer) (.int .i64 commit) (.slice GA gn Gc) (.slice PA pn Pc)
      unfold set14 at kfin
      obtain ⟨_, r0, r1, r2, r3, r4, r5, r6, r7, r8, r9, r10, r11, r12, r13⟩ := blk14c kfin
      refine ends_ret hQ (v := .agg #[.int .i64 id, .int .i64 t, .int .i64 v, .int .i64 base, .int .i64 bt, .slice RA n Rc, .string s, .slice VA m Vc, .int .i64 role, .int .i64 lead, .int .i64 timer, .int .i64 commit, .slice GA gn Gc, .slice PA pn Pc]) (by simp [results, Tryz.results73, go_sem, r0, r1, r2, r3, r4, r5, r6, r7, r8, r9, r10, r11, r12, r13]) rfl ?_
      exact ⟨by rw [hx.out]; rfl, set14_below (.int .i64 id) (.int .i64 t) (.int .i64 v) (.int .i64 base) (.int .i64 bt) (.slice RA n Rc) (.string s) (.slice VA m Vc) (.int .i64 role) (.int .i64 lead) (.int .i64 timer) (.int .i64 commit) (.slice GA gn Gc) (.slice PA pn Pc) q4 (by omega)⟩
    have hg1 := hid_mk (show decide (commit < sp) = true by simpa using g1)
    by_cases g2 : x = t
    case neg =>
      have hg2 : (x == t) = false := by simpa using g2
      have hg2n := hid_mk g2
      replace g2 := hid_mk g2
      have hx := hid_mk (hXd.out.trans (if_neg (by simp [hg2n.out])))
      obtain ⟨xl, x0, x1, x2, x3, x4, x5, x6, x7, x8, x9, x10, x11, x12, x13, xf0, xf1, xf2, xf3, xf4, xf5, xf6, xf7, xf8, xf9, xf10, xf11, xf12, xf13⟩ := blk14f hX.out
      obtain ⟨yl, y0, y1, y2, y3, y4, y5, y6, y7, y8, y9, y10, y11, y12, y13, yf0, yf1, yf2, yf3, yf4, yf5, yf6, yf7, yf8, yf9, yf10, yf11, yf12, yf13⟩ := blk14f hY.out
      go_wp2
      clear xl x0 x1 x2 x3 x4 x5 x6 x7 x8 x9 x10 x11 x12 x13 xf0 xf1 xf2 xf3 xf4 xf5 xf6 xf7 xf8 xf9 xf10 xf11 xf12 xf13
      clear yl y0 y1 y2 y3 y4 y5 y6 y7 y8 y9 y10 y11 y12 y13 yf0 yf1 yf2 yf3 yf4 yf5 yf6 yf7 yf8 yf9 yf10 yf11 yf12 yf13
      have kfin := set14_blk hY.out (.int .i64 id) (.int .i64 t) (.int .i64 v) (.int .i64 base) (.int .i64 bt) (.slice RA n Rc) (.string s) (.slice VA m Vc) (.int .i64 role) (.int .i64 lead) (.int .i64 timer) (.int .i64 commit) (.slice GA gn Gc) (.slice PA pn Pc)
      unfold set14 at kfin
      obtain ⟨_, r0, r1, r2, r3, r4, r5, r6, r7, r8, r9, r10, r11, r12, r13⟩ := blk14c kfin
      refine ends_ret hQ (v := .agg #[.int .i64 id, .int .i64 t, .int .i64 v, .int .i64 base, .int .i64 bt, .slice RA n Rc, .string s, .slice VA m Vc, .int .i64 role, .int .i64 lead, .int .i64 timer, .int .i64 commit, .slice GA gn Gc, .slice PA pn Pc]) (by simp [results, Tryz.results73, go_sem, r0, r1, r2, r3, r4, r5, r6, r7, r8, r9, r10, r11, r12, r13]) rfl ?_
      exact ⟨by rw [hx.out]; rfl, set14_below (.int .i64 id) (.int .i64 t) (.int .i64 v) (.int .i64 base) (.int .i64 bt) (.slice RA n Rc) (.string s) (.slice VA m Vc) (.int .i64 role) (.int .i64 lead) (.int .i64 timer) (.int .i64 commit) (.slice GA gn Gc) (.slice PA pn Pc) q4 (by omega)⟩
    have hg2 : (x == t) = true := by simpa using g2
    have hg2n := hid_mk g2
    replace g2 := hid_mk g2
    obtain ⟨xl, x0, x1, x2, x3, x4, x5, x6, x7, x8, x9, x10, x11, x12, x13, xf0, xf1, xf2, xf3, xf4, xf5, xf6, xf7, xf8, xf9, xf10, xf11, xf12, xf13⟩ := blk14f hX.out
    obtain ⟨yl, y0, y1, y2, y3, y4, y5, y6, y7, y8, y9, y10, y11, y12, y13, yf0, yf1, yf2, yf3, yf4, yf5, yf6, yf7, yf8, yf9, yf10, yf11, yf12, yf13⟩ := blk14f hY.out
    go_upto_region 6 with fail
    clear xl x0 x1 x2 x3 x4 x5 x6 x7 x8 x9 x10 x11 x12 x13 xf0 xf1 xf2 xf3 xf4 xf5 xf6 xf7 xf8 xf9 xf10 xf11 xf12 xf13
    clear yl y0 y1 y2 y3 y4 y5 y6 y7 y8 y9 y10 y11 y12 y13 yf0 yf1 yf2 yf3 yf4 yf5 yf6 yf7 yf8 yf9 yf10 yf11 yf12 yf13
    have hX5 : Blk (w4.setCell ⟨w.heap.size, 11, none⟩ (.int .i64 sp)) w.heap.size 30 #[.int .i64 id, .int .i64 t, .int .i64 v, .int .i64 base, .int .i64 bt, .slice RA n Rc, .string s, .slice VA m Vc, .int .i64 role, .int .i64 lead, .int .i64 timer, .int .i64 sp, .slice GA gn Gc, .slice PA pn Pc] := hX.out.set_ 11 _
    have hY5 := hY.out.far (p := ⟨w.heap.size, 11, none⟩) (by simp) (.int .i64 sp)
    have q5 := q4.setCell (p := ⟨w.heap.size, 11, none⟩) (Nat.le_refl _) (.int .i64 sp)
    obtain ⟨w5, hw5⟩ : ∃ x, w4.setCell ⟨w.heap.size, 11, none⟩ (.int .i64 sp) = x := ⟨_, rfl⟩
    rw [hw5] at hX5 hY5 q5 ⊢
    clear hw5
    replace hX := hid_mk hX5
    replace hY := hid_mk hY5
    clear hX5 hY5
    have hx := hid_mk (hXd.out.trans (if_pos (by rw [hg1.out, hg2n.out]; simp)))
    obtain ⟨xl, x0, x1, x2, x3, x4, x5, x6, x7, x8, x9, x10, x11, x12, x13, xf0, xf1, xf2, xf3, xf4, xf5, xf6, xf7, xf8, xf9, xf10, xf11, xf12, xf13⟩ := blk14f hX.out
    obtain ⟨yl, y0, y1, y2, y3, y4, y5, y6, y7, y8, y9, y10, y11, y12, y13, yf0, yf1, yf2, yf3, yf4, yf5, yf6, yf7, yf8, yf9, yf10, yf11, yf12, yf13⟩ := blk14f hY.out
    go_wp2
    clear xl x0 x1 x2 x3 x4 x5 x6 x7 x8 x9 x10 x11 x12 x13 xf0 xf1 xf2 xf3 xf4 xf5 xf6 xf7 xf8 xf9 xf10 xf11 xf12 xf13
    clear yl y0 y1 y2 y3 y4 y5 y6 y7 y8 y9 y10 y11 y12 y13 yf0 yf1 yf2 yf3 yf4 yf5 yf6 yf7 yf8 yf9 yf10 yf11 yf12 yf13
    have kfin := set14_blk hY.out (.int .i64 id) (.int .i64 t) (.int .i64 v) (.int .i64 base) (.int .i64 bt) (.slice RA n Rc) (.string s) (.slice VA m Vc) (.int .i64 role) (.int .i64 lead) (.int .i64 timer) (.int .i64 sp) (.slice GA gn Gc) (.slice PA pn Pc)
    unfold set14 at kfin
    obtain ⟨_, r0, r1, r2, r3, r4, r5, r6, r7, r8, r9, r10, r11, r12, r13⟩ := blk14c kfin
    refine ends_ret hQ (v := .agg #[.int .i64 id, .int .i64 t, .int .i64 v, .int .i64 base, .int .i64 bt, .slice RA n Rc, .string s, .slice VA m Vc, .int .i64 role, .int .i64 lead, .int .i64 timer, .int .i64 sp, .slice GA gn Gc, .slice PA pn Pc]) (by simp [results, Tryz.results73, go_sem, r0, r1, r2, r3, r4, r5, r6, r7, r8, r9, r10, r11, r12, r13]) rfl ?_
    exact ⟨by rw [hx.out]; rfl, set14_below (.int .i64 id) (.int .i64 t) (.int .i64 v) (.int .i64 base) (.int .i64 bt) (.slice RA n Rc) (.string s) (.slice VA m Vc) (.int .i64 role) (.int .i64 lead) (.int .i64 timer) (.int .i64 sp) (.slice GA gn Gc) (.slice PA pn Pc) q5 (by omega)⟩
end Go.Proofs.YtncdjmpdbinanaaGreatDoor
