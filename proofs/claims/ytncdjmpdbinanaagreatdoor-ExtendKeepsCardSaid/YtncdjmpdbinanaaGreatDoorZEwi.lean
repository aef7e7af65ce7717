/-
  WHAT IS PROVED HERE: what extend.with hands back of a node whose log may be. Conditions: the slices are of at most 2^47 bytes; the library's table stands.
-/
import Derived.Test.YtncdjmpdbinanaaGreatDoorZGEx
import Derived.Test.YtncdjmpdbinanaaGreatDoorZGStd
import Derived.Test.YtncdjmpdbinanaaGreatDoorZGKj1
import Derived.Test.YtncdjmpdbinanaaGreatDoorZGEl0
import Derived.Deep.DeepCutAuto
namespace Go.Proofs.YtncdjmpdbinanaaGreatDoor
open Go.RowKit

theorem own_low {w : World} {base base' : Nat} {e : TypeId} {size n : Nat} {v : Value} {xs : List Value} (h : w.ownsRow base e size v n xs) (hb : base' ≤ base) : w.ownsRow base' e size v n xs := by
  refine ⟨h.1, ?_⟩
  rcases h.2 with hn | ⟨g, cap, cur, hv, hB, rest⟩
  · exact .inl hn
  · exact .inr ⟨g, cap, cur, hv, Nat.le_trans hb hB, rest⟩
theorem own_ne_lt {w : World} {base g : Nat} {e : TypeId} {size n : Nat} {v : Value} {xs : List Value} (h : w.ownsRow base e size v n xs) (hg : g < base) : some g ≠ v.ownBlock := fun e => by
  have := (World.ownsRow.lt h g e.symm).1
  omega
def recVal (r : Rec) : Value := .agg #[.int .i64 r.t, .int .i64 r.k, .string r.d]
/-- a node and a word are handed back -/
def RetNB (w : World) (B : Nat) (N : Nd) (z : Bool) (e : Ending) (w' : World) : Prop := ∃ a, e = .returned (.tuple #[nodeV N a, .bool z]) ∧ NdOk w' B N a ∧ Below w.heap.size w w'
set_option maxRecDepth 100000 in
set_option maxHeartbeats 12800000 in
theorem EWith_any (N : Nd) (a : NdA) (r : Rec) (w : World) {B : Nat} (hBw : B ≤ w.heap.size) (hN : NdOk w B N a) (hj : rightJ N.h.l = true) (ht : Tab w) :
    Calls Tryz.prog 72 #[nodeV N a, recVal r] w (RetNB w B (hdN N (withH N.h r)) (rightH (withH N.h r))) := by
  have hn200 : a.R.n ≤ 200 := by
    have := hN.recs.len
    have h2 := (right_iff.1 hj).2.2.2.2.2.1
    omega
  have hv47 : a.V.n ≤ 140737488355328 := by have := hN.vb; omega
  obtain ⟨zh, hzh⟩ : ∃ z, rightH (withH N.h r) = z := ⟨_, rfl⟩
  have hWR := fun (R V : Slc) (w : World) (k1 : R.n ≤ 140737488355328) (k2 : V.n ≤ 140737488355328) (k3 : Recs w B R.A R.n (N.h.l.rs ++ [r])) (k4 : Ints w B V.A V.n N.h.vs) (k5 : Tab w) => WRight_any (withH N.h r) R V w k1 k2 k3 k4 k5
  rw [hzh] at hWR ⊢
  clear hzh hj
  have hN0 := hN
  obtain ⟨hr, hrc, hrb, hi, hvc, hvb, hsb, _, _, _, _, _, _⟩ := hN
  obtain ⟨id, ⟨t, v, ⟨base, bt, rs⟩, s, vs⟩, role, lead, timer, commit, got, ps⟩ := N
  obtain ⟨⟨RA, n, Rc⟩, ⟨VA, m, Vc⟩, ⟨GA, gn, Gc⟩, ⟨PA, pn, Pc⟩⟩ := a
  obtain ⟨rt, rk, rd⟩ := r
  dsimp only at hr hrc hrb hi hvc hvb hsb hn200 hv47
  unfold withH at hWR
  dsimp only at hWR
  have hX : Hid (Blk (((w.alloc (.cells #[.int .i64 id, .int .i64 t, .int .i64 v, .int .i64 base, .int .i64 bt, .slice RA n Rc, .string s, .slice VA m Vc, .int .i64 role, .int .i64 lead, .int .i64 timer, .int .i64 commit, .slice GA gn Gc, .slice PA pn Pc] 30)).alloc (.cells #[.int .i64 rt, .int .i64 rk, .string rd] 51)).alloc (.cells #[.int .i64 0, .int .i64 0, .int .i64 0, .int .i64 0, .int .i64 0, .slice none 0 0, .string ⟨#[]⟩, .slice none 0 0, .int .i64 0, .int .i64 0, .int .i64 0, .int .i64 0, .slice none 0 0, .slice none 0 0] 30)) (w.heap.size) 30 #[.int .i64 id, .int .i64 t, .int .i64 v, .int .i64 base, .int .i64 bt, .slice RA n Rc, .string s, .slice VA m Vc, .int .i64 role, .int .i64 lead, .int .i64 timer, .int .i64 commit, .slice GA gn Gc, .slice PA pn Pc]) := hid_mk (((Blk.new w 30 #[.int .i64 id, .int .i64 t, .int .i64 v, .int .i64 base, .int .i64 bt, .slice RA n Rc, .string s, .slice VA m Vc, .int .i64 role, .int .i64 lead, .int .i64 timer, .int .i64 commit, .slice GA gn Gc, .slice PA pn Pc]).alloc _).alloc _)
  have hR : Hid (Blk (((w.alloc (.cells #[.int .i64 id, .int .i64 t, .int .i64 v, .int .i64 base, .int .i64 bt, .slice RA n Rc, .string s, .slice VA m Vc, .int .i64 role, .int .i64 lead, .int .i64 timer, .int .i64 commit, .slice GA gn Gc, .slice PA pn Pc] 30)).alloc (.cells #[.int .i64 rt, .int .i64 rk, .string rd] 51)).alloc (.cells #[.int .i64 0, .int .i64 0, .int .i64 0, .int .i64 0, .int .i64 0, .slice none 0 0, .string ⟨#[]⟩, .slice none 0 0, .int .i64 0, .int .i64 0, .int .i64 0, .int .i64 0, .slice none 0 0, .slice none 0 0] 30)) (w.heap.size + 1) 51 #[.int .i64 rt, .int .i64 rk, .string rd]) := hid_mk ((Blk.new_ (by simp)).alloc _)
  have hY : Hid (Blk (((w.alloc (.cells #[.int .i64 id, .int .i64 t, .int .i64 v, .int .i64 base, .int .i64 bt, .slice RA n Rc, .string s, .slice VA m Vc, .int .i64 role, .int .i64 lead, .int .i64 timer, .int .i64 commit, .slice GA gn Gc, .slice PA pn Pc] 30)).alloc (.cells #[.int .i64 rt, .int .i64 rk, .string rd] 51)).alloc (.cells #[.int .i64 0, .int .i64 0, .int .i64 0, .int .i64 0, .int .i64 0, .slice none 0 0, .string ⟨#[]⟩, .slice none 0 0, .int .i64 0, .int .i64 0, .int .i64 0, .int .i64 0, .slice none 0 0, .slice none 0 0] 30)) (w.heap.size + 1 + 1) 30 #[.int .i64 0, .int .i64 0, .int .i64 0, .int .i64 0, .int .i64 0, .slice none 0 0, .string ⟨#[]⟩, .slice none 0 0, .int .i64 0, .int .i64 0, .int .i64 0, .int .i64 0, .slice none 0 0, .slice none 0 0]) := Blk.new_ (by simp)
  have q0 : Below w.heap.size w (((w.alloc (.cells #[.int .i64 id, .int .i64 t, .int .i64 v, .int .i64 base, .int .i64 bt, .slice RA n Rc, .string s, .slice VA m Vc, .int .i64 role, .int .i64 lead, .int .i64 timer, .int .i64 commit, .slice GA gn Gc, .slice PA pn Pc] 30)).alloc (.cells #[.int .i64 rt, .int .i64 rk, .string rd] 51)).alloc (.cells #[.int .i64 0, .int .i64 0, .int .i64 0, .int .i64 0, .int .i64 0, .slice none 0 0, .string ⟨#[]⟩, .slice none 0 0, .int .i64 0, .int .i64 0, .int .i64 0, .int .i64 0, .slice none 0 0, .slice none 0 0] 30)) := by go_grown
  obtain ⟨i0, hi0, hz0, hz1, hz2⟩ := info_parts recInfo
  show Calls Tryz.prog 72 #[.agg #[.int .i64 id, .int .i64 t, .int .i64 v, .int .i64 base, .int .i64 bt, .slice RA n Rc, .string s, .slice VA m Vc, .int .i64 role, .int .i64 lead, .int .i64 timer, .int .i64 commit, .slice GA gn Gc, .slice PA pn Pc], .agg #[.int .i64 rt, .int .i64 rk, .string rd]] w _
  refine calls_of_wpQ Tryz.func72 rfl ?_
  intro Q hQ
  simp only [Tryz.ntmps72, List.size_toArray, List.length_cons, List.length_nil, Nat.reduceAdd, Nat.reduceSub, Array.replicate_succ, Array.replicate_zero, List.push_toArray, List.append_toArray, List.nil_append, List.cons_append]
  go_upto_region 1 with fail
  obtain ⟨w0, hw0⟩ : ∃ x, ((w.alloc (.cells #[.int .i64 id, .int .i64 t, .int .i64 v, .int .i64 base, .int .i64 bt, .slice RA n Rc, .string s, .slice VA m Vc, .int .i64 role, .int .i64 lead, .int .i64 timer, .int .i64 commit, .slice GA gn Gc, .slice PA pn Pc] 30)).alloc (.cells #[.int .i64 rt, .int .i64 rk, .string rd] 51)).alloc (.cells #[.int .i64 0, .int .i64 0, .int .i64 0, .int .i64 0, .int .i64 0, .slice none 0 0, .string ⟨#[]⟩, .slice none 0 0, .int .i64 0, .int .i64 0, .int .i64 0, .int .i64 0, .slice none 0 0, .slice none 0 0] 30) = x := ⟨_, rfl⟩
  rw [hw0] at hX hR hY q0
  try rw [hw0]
  clear hw0
  have z0 := q0.size
  refine wp_region_T' (fun w' => w'.cell? ⟨w.heap.size, 5, none⟩ = some (.slice RA n Rc) ∧ w'.cell? ⟨w.heap.size + 1, 0, none⟩ = some (.int .i64 rt) ∧ w'.cell? ⟨w.heap.size + 1, 1, none⟩ = some (.int .i64 rk) ∧ w'.cell? ⟨w.heap.size + 1, 2, none⟩ = some (.string rd)) (fun j => decide (j < 11)) 12 (by kernel_rfl) (by kernel_rfl) (by exact ⟨hX.out.cell 5, hR.out.cell 0, hR.out.cell 1, hR.out.cell 2⟩) (fun hS0 => ?_)
  replace hX := hid_mk hX.out.drew
  replace hR := hid_mk hR.out.drew
  replace hY := hid_mk hY.out.drew
  have qd : Below w.heap.size w w0.drew := by go_grown
  obtain ⟨wd, hwd⟩ : ∃ x, w0.drew = x := ⟨_, rfl⟩
  rw [hwd] at hS0 hX hR hY qd ⊢
  clear hwd q0 z0
  have zd := qd.size
  obtain ⟨gD, hgD⟩ : ∃ g, wd.heap.size = g := ⟨_, rfl⟩
  have hyD : w.heap.size + 1 + 1 < gD := by rw [← hgD]; exact hY.out.lt
  replace hgD := hid_mk hgD
  refine wpAnyT_take (i := 0) rfl (by kernel_rfl) (by kernel_rfl) (by kernel_rfl) rfl (by kernel_rfl) (fun _ _ _ h => h) (by kernel_rfl) (fun w' hS => (by obtain ⟨s0, s1, s2, s3⟩ := hS; go_simp; try with_reducible rfl)) hS0 ?_
  simp only [Act.put]
  refine wpAnyT_take (i := 1) rfl (by kernel_rfl) (by kernel_rfl) (by kernel_rfl) rfl (by kernel_rfl) (fun _ _ _ h => h) (by kernel_rfl) (fun w' hS => (by obtain ⟨s0, s1, s2, s3⟩ := hS; go_simp; try with_reducible rfl)) hS0 ?_
  simp only [Act.put]
  refine wpAnyT_take (i := 2) rfl (by kernel_rfl) (by kernel_rfl) (by kernel_rfl) rfl (by kernel_rfl) (fun _ _ _ h => h) (by kernel_rfl) (fun w' hS => (by obtain ⟨s0, s1, s2, s3⟩ := hS; go_simp; try with_reducible rfl)) hS0 ?_
  simp only [Act.put]
  refine wpAnyT_take (i := 3) rfl (by kernel_rfl) (by kernel_rfl) (by kernel_rfl) rfl (by kernel_rfl) (fun _ _ _ h => h) (by kernel_rfl) (fun w' hS => (by obtain ⟨s0, s1, s2, s3⟩ := hS; go_simp; try with_reducible rfl)) hS0 ?_
  simp only [Act.put]
  refine wpAnyT_take (i := 5) rfl (by kernel_rfl) (by kernel_rfl) (by kernel_rfl) rfl (by kernel_rfl) (fun _ _ _ h => h) (by kernel_rfl) (fun w' hS => (by obtain ⟨s0, s1, s2, s3⟩ := hS; go_simp; try with_reducible rfl)) hS0 ?_
  simp only [Act.put]
  refine wpAnyT_two (i := 4) (j := 6) (by kernel_rfl) rfl rfl (fun K hK => ?_) (fun K hK => ?_)
  · skip
    -- refine wpAnyT_one (i := 4) (by kernel_rfl) rfl (fun K hK => ?_)
    go_simp
    refine (CloneR_own RA n Rc rs _ (B := B) (by omega) (hr.to qd)).mono ?_
    rintro e wA ⟨CA, Cc, rfl, hown, hcc, hb1⟩
    have qA := (after (w := w) hb1 qd).1
    have zqA := qA.size
    have hown2 := hid_mk (own_low hown (by rw [← hgD.out]; exact Nat.le_refl _ : gD ≤ wd.heap.size))
    replace hX := hid_mk (hX.out.keep hb1)
    replace hR := hid_mk (hR.out.keep hb1)
    replace hY := hid_mk (hY.out.keep hb1)
    have hzA : gD ≤ wA.heap.size := by rw [← hgD.out]; exact hb1.size
    clear hb1 hown
    refine hK.out _ _ (fun _ => ⟨hX.out.cell 5, hR.out.cell 0, hR.out.cell 1, hR.out.cell 2⟩) ?_
    clear hK K
    try simp only [Act.put]
    refine wpAnyT_one (i := 6) (by kernel_rfl) rfl (fun K hK => ?_)
    go_simp
    obtain ⟨gN, hgN⟩ : ∃ g, wA.heap.size = g := ⟨_, rfl⟩
    have hL : Hid (Recs (wA.alloc (.cells #[.int .i64 rt, .int .i64 rk, .string rd] 51)) 0 (some ⟨gN, 0, none⟩) 1 [⟨rt, rk, rd⟩]) := by rw [← hgN]; exact reads_new wA #[.int .i64 rt, .int .i64 rk, .string rd] 51 1 3 0 rfl
    replace hX := hid_mk (hX.out.alloc (.cells #[.int .i64 rt, .int .i64 rk, .string rd] 51))
    replace hR := hid_mk (hR.out.alloc (.cells #[.int .i64 rt, .int .i64 rk, .string rd] 51))
    replace hY := hid_mk (hY.out.alloc (.cells #[.int .i64 rt, .int .i64 rk, .string rd] 51))
    have qB := qA.alloc qA.size (.cells #[.int .i64 rt, .int .i64 rk, .string rd] 51)
    replace hown2 := hid_mk (hown2.out.alloc (.cells #[.int .i64 rt, .int .i64 rk, .string rd] 51))
    have hzB : gD ≤ (wA.alloc (.cells #[.int .i64 rt, .int .i64 rk, .string rd] 51)).heap.size := by simp only [World.size_alloc]; omega
    obtain ⟨wB, hwn⟩ : ∃ x, wA.alloc (.cells #[.int .i64 rt, .int .i64 rk, .string rd] 51) = x := ⟨_, rfl⟩
    rw [hwn] at hX hR hY hL hown2 qB hzB ⊢
    rw [hgN]
    clear hwn hgN
    clear qA
    refine hK.out _ _ (fun _ => ⟨hX.out.cell 5, hR.out.cell 0, hR.out.cell 1, hR.out.cell 2⟩) ?_
    clear hK K
    try simp only [Act.put]
    refine wpAnyT_one (i := 7) (by kernel_rfl) rfl (fun K hK => ?_)
    refine step_append_any _ rfl (.tmp 10) (.tmp 12) 22 rfl gD 51 i0 _ 3 32 Tryz.underlying22 hi0 hz0 hz1 hz2 rfl (by omega) _ n _ rfl hown2.out 0 (some ⟨gN, 0, none⟩) 1 1 _ rfl hL.out (rec_one _) (by simp only [maxLen]; omega) (by omega) hzB ?_
    intro v5 w5 hown5 hg5 _
    have q5 : Below w.heap.size w w5 := grown_below qB hg5 (fun k hk => by have := (World.ownsRow.lt hown2.out k hk).1; omega)
    have zq5 := q5.size
    replace hX := hid_mk (Blk.grown hX.out hg5 (own_ne_lt hown2.out (by omega)))
    replace hY := hid_mk (Blk.grown hY.out hg5 (own_ne_lt hown2.out (by omega)))
    replace hR := hid_mk (Blk.grown hR.out hg5 (own_ne_lt hown2.out (by omega)))
    obtain ⟨WA, Wc, rfl, hwc, _⟩ := own_slice hown5
    clear hown2 hL hg5 qB
    refine hK.out _ _ (fun _ => ⟨hX.out.cell 5, hR.out.cell 0, hR.out.cell 1, hR.out.cell 2⟩) ?_
    clear hK K
    try simp only [Act.put]
    refine wpAnyT_one (i := 8) (by kernel_rfl) rfl (fun K hK => ?_)
    go_simp
    refine hK.out _ _ (fun _ => ⟨hX.out.cell 5, hR.out.cell 0, hR.out.cell 1, hR.out.cell 2⟩) ?_
    clear hK K
    try simp only [Act.put]
    refine wpAnyT_one (i := 9) (by kernel_rfl) rfl (fun K hK => ?_)
    go_simp
    refine hK.out _ _ (fun _ => ⟨hX.out.cell 5, hR.out.cell 0, hR.out.cell 1, hR.out.cell 2⟩) ?_
    clear hK K
    try simp only [Act.put]
    refine wpAnyT_one (i := 10) (by kernel_rfl) rfl (fun K hK => ?_)
    go_simp
    refine hK.out _ _ (fun _ => ⟨hX.out.cell 5, hR.out.cell 0, hR.out.cell 1, hR.out.cell 2⟩) ?_
    clear hK K
    try simp only [Act.put]
    have x5 := hX.out.cell 5
    change _ = some (Value.slice RA n Rc) at x5
    have xf5 := hX.out.frozen 5
    have xl := hX.out.lt
    refine wpAnyT_one (i := 11) (by kernel_rfl) rfl (fun K hK => ?_)
    go_simp
    refine hK.out _ _ (fun h => absurd h (by decide)) ?_
    clear hK K
    try simp only [Act.put]
    refine wpAnyT_done (by kernel_rfl) ?_ _
    clear x5 xf5 xl
    have hX6 : Blk (w5.setCell ⟨w.heap.size, 5, none⟩ (.slice WA (n + 1) Wc)) (w.heap.size) 30 #[.int .i64 id, .int .i64 t, .int .i64 v, .int .i64 base, .int .i64 bt, .slice WA (n + 1) Wc, .string s, .slice VA m Vc, .int .i64 role, .int .i64 lead, .int .i64 timer, .int .i64 commit, .slice GA gn Gc, .slice PA pn Pc] := hX.out.set_ 5 _
    have hY6 := hY.out.far (p := ⟨w.heap.size, 5, none⟩) (by dsimp only; omega) (.slice WA (n + 1) Wc)
    have hR6 : Recs (w5.setCell ⟨w.heap.size, 5, none⟩ (.slice WA (n + 1) Wc)) B WA (n + 1) (rs ++ [⟨rt, rk, rd⟩]) := Reads.far (by have h := Reads.of_own (B := B) hown5; unfold cellsOf at h; rw [← List.flatMap_append] at h; exact h) hX.out hBw (by decide) 5 _
    have q6 := q5.setCell (p := ⟨w.heap.size, 5, none⟩) (Nat.le_refl _) (.slice WA (n + 1) Wc)
    obtain ⟨w6, hw6⟩ : ∃ x, (w5.setCell ⟨w.heap.size, 5, none⟩ (.slice WA (n + 1) Wc)) = x := ⟨_, rfl⟩
    rw [hw6] at hX6 hY6 hR6 q6 ⊢
    clear hw6 hown5 hX hY hR q5
    have hX := hid_mk hX6
    have hY := hid_mk hY6
    replace hR6 := hid_mk hR6
    clear hX6 hY6
    go_upto_region 2 with fail
    refine wp_region_T' (fun w' => w'.cell? ⟨w.heap.size, 0, none⟩ = some (.int .i64 id) ∧ w'.cell? ⟨w.heap.size, 1, none⟩ = some (.int .i64 t) ∧ w'.cell? ⟨w.heap.size, 2, none⟩ = some (.int .i64 v) ∧ w'.cell? ⟨w.heap.size, 3, none⟩ = some (.int .i64 base) ∧ w'.cell? ⟨w.heap.size, 4, none⟩ = some (.int .i64 bt) ∧ w'.cell? ⟨w.heap.size, 5, none⟩ = some (.slice WA (n + 1) Wc) ∧ w'.cell? ⟨w.heap.size, 6, none⟩ = some (.string s) ∧ w'.cell? ⟨w.heap.size, 7, none⟩ = some (.slice VA m Vc) ∧ w'.cell? ⟨w.heap.size, 8, none⟩ = some (.int .i64 role) ∧ w'.cell? ⟨w.heap.size, 9, none⟩ = some (.int .i64 lead) ∧ w'.cell? ⟨w.heap.size, 10, none⟩ = some (.int .i64 timer) ∧ w'.cell? ⟨w.heap.size, 11, none⟩ = some (.int .i64 commit) ∧ w'.cell? ⟨w.heap.size, 12, none⟩ = some (.slice GA gn Gc) ∧ w'.cell? ⟨w.heap.size, 13, none⟩ = some (.slice PA pn Pc)) (fun j => decide (j < 6)) 6 (by kernel_rfl) (by kernel_rfl) (by exact ⟨hX.out.cell 0, hX.out.cell 1, hX.out.cell 2, hX.out.cell 3, hX.out.cell 4, hX.out.cell 5, hX.out.cell 6, hX.out.cell 7, hX.out.cell 8, hX.out.cell 9, hX.out.cell 10, hX.out.cell 11, hX.out.cell 12, hX.out.cell 13⟩) (fun hS0 => ?_)
    replace hX := hid_mk hX.out.drew
    replace hY := hid_mk hY.out.drew
    replace hR6 := hid_mk (hR6.out.to (show Below w6.heap.size w6 w6.drew by go_grown))
    have qe : Below w.heap.size w w6.drew := by go_grown
    obtain ⟨we, hwe⟩ : ∃ x, w6.drew = x := ⟨_, rfl⟩
    rw [hwe] at hS0 hX hY hR6 qe ⊢
    clear hwe q6
    refine wpAnyT_take (i := 0) rfl (by kernel_rfl) (by kernel_rfl) (by kernel_rfl) rfl (by kernel_rfl) (fun _ _ _ h => h) (by kernel_rfl) (fun w' hS => (by obtain ⟨s0, s1, s2, s3, s4, s5, s6, s7, s8, s9, s10, s11, s12, s13⟩ := hS; go_simp; try with_reducible rfl)) hS0 ?_
    simp only [Act.put]
    refine wpAnyT_take (i := 1) rfl (by kernel_rfl) (by kernel_rfl) (by kernel_rfl) rfl (by kernel_rfl) (fun _ _ _ h => h) (by kernel_rfl) (fun w' hS => (by obtain ⟨s0, s1, s2, s3, s4, s5, s6, s7, s8, s9, s10, s11, s12, s13⟩ := hS; go_simp; try with_reducible rfl)) hS0 ?_
    simp only [Act.put]
    refine wpAnyT_take (i := 2) rfl (by kernel_rfl) (by kernel_rfl) (by kernel_rfl) rfl (by kernel_rfl) (fun _ _ _ h => h) (by kernel_rfl) (fun w' hS => (by obtain ⟨s0, s1, s2, s3, s4, s5, s6, s7, s8, s9, s10, s11, s12, s13⟩ := hS; go_simp; try with_reducible rfl)) hS0 ?_
    simp only [Act.put]
    refine wpAnyT_one (i := 3) (by kernel_rfl) rfl (fun K hK => ?_)
    go_simp
    refine (hWR ⟨WA, n + 1, Wc⟩ ⟨VA, m, Vc⟩ _ (by dsimp only; omega) (by dsimp only; omega) hR6.out (hi.to qe) (ht.to qe)).mono ?_
    rintro e w7 ⟨rfl, hb1⟩
    have q7 := (after (w := w) hb1 qe).1
    replace hX := hid_mk (hX.out.keep hb1)
    replace hY := hid_mk (hY.out.keep hb1)
    replace hR6 := hid_mk (hR6.out.to hb1)
    clear hb1 qe
    refine hK.out _ _ (fun _ => ⟨hX.out.cell 0, hX.out.cell 1, hX.out.cell 2, hX.out.cell 3, hX.out.cell 4, hX.out.cell 5, hX.out.cell 6, hX.out.cell 7, hX.out.cell 8, hX.out.cell 9, hX.out.cell 10, hX.out.cell 11, hX.out.cell 12, hX.out.cell 13⟩) ?_
    clear hK K
    try simp only [Act.put]
    obtain ⟨yl, y0, y1, y2, y3, y4, y5, y6, y7, y8, y9, y10, y11, y12, y13, yf0, yf1, yf2, yf3, yf4, yf5, yf6, yf7, yf8, yf9, yf10, yf11, yf12, yf13⟩ := blk14f hY.out
    refine wpAnyT_one (i := 4) (by kernel_rfl) rfl (fun K hK => ?_)
    go_simp
    clear yl y0 y1 y2 y3 y4 y5 y6 y7 y8 y9 y10 y11 y12 y13 yf0 yf1 yf2 yf3 yf4 yf5 yf6 yf7 yf8 yf9 yf10 yf11 yf12 yf13
    replace hX := hid_mk (set14_farS hX.out (by omega : w.heap.size ≠ w.heap.size + 1 + 1) (.int .i64 id) (.int .i64 t) (.int .i64 v) (.int .i64 base) (.int .i64 bt) (.slice WA (n + 1) Wc) (.string s) (.slice VA m Vc) (.int .i64 role) (.int .i64 lead) (.int .i64 timer) (.int .i64 commit) (.slice GA gn Gc) (.slice PA pn Pc))
    have qz := set14_below (.int .i64 id) (.int .i64 t) (.int .i64 v) (.int .i64 base) (.int .i64 bt) (.slice WA (n + 1) Wc) (.string s) (.slice VA m Vc) (.int .i64 role) (.int .i64 lead) (.int .i64 timer) (.int .i64 commit) (.slice GA gn Gc) (.slice PA pn Pc) q7 (by omega : w.heap.size ≤ w.heap.size + 1 + 1)
    have hRz : Recs (set14 w7 (w.heap.size + 1 + 1) (.int .i64 id) (.int .i64 t) (.int .i64 v) (.int .i64 base) (.int .i64 bt) (.slice WA (n + 1) Wc) (.string s) (.slice VA m Vc) (.int .i64 role) (.int .i64 lead) (.int .i64 timer) (.int .i64 commit) (.slice GA gn Gc) (.slice PA pn Pc)) B WA (n + 1) (rs ++ [⟨rt, rk, rd⟩]) := set14_reads hY.out (.int .i64 id) (.int .i64 t) (.int .i64 v) (.int .i64 base) (.int .i64 bt) (.slice WA (n + 1) Wc) (.string s) (.slice VA m Vc) (.int .i64 role) (.int .i64 lead) (.int .i64 timer) (.int .i64 commit) (.slice GA gn Gc) (.slice PA pn Pc) (by omega) (by decide) hR6.out
    replace hY := hid_mk (set14_blk hY.out (.int .i64 id) (.int .i64 t) (.int .i64 v) (.int .i64 base) (.int .i64 bt) (.slice WA (n + 1) Wc) (.string s) (.slice VA m Vc) (.int .i64 role) (.int .i64 lead) (.int .i64 timer) (.int .i64 commit) (.slice GA gn Gc) (.slice PA pn Pc))
    obtain ⟨wz, hwz⟩ : ∃ x, set14 w7 (w.heap.size + 1 + 1) (.int .i64 id) (.int .i64 t) (.int .i64 v) (.int .i64 base) (.int .i64 bt) (.slice WA (n + 1) Wc) (.string s) (.slice VA m Vc) (.int .i64 role) (.int .i64 lead) (.int .i64 timer) (.int .i64 commit) (.slice GA gn Gc) (.slice PA pn Pc) = x := ⟨_, rfl⟩
    rw [hwz] at hX hY hRz qz
    unfold set14 at hwz
    rw [hwz]
    clear hwz
    refine hK.out _ _ (fun _ => ⟨hX.out.cell 0, hX.out.cell 1, hX.out.cell 2, hX.out.cell 3, hX.out.cell 4, hX.out.cell 5, hX.out.cell 6, hX.out.cell 7, hX.out.cell 8, hX.out.cell 9, hX.out.cell 10, hX.out.cell 11, hX.out.cell 12, hX.out.cell 13⟩) ?_
    clear hK K
    try simp only [Act.put]
    refine wpAnyT_one (i := 5) (by kernel_rfl) rfl (fun K hK => ?_)
    go_simp
    refine hK.out _ _ (fun _ => ⟨hX.out.cell 0, hX.out.cell 1, hX.out.cell 2, hX.out.cell 3, hX.out.cell 4, hX.out.cell 5, hX.out.cell 6, hX.out.cell 7, hX.out.cell 8, hX.out.cell 9, hX.out.cell 10, hX.out.cell 11, hX.out.cell 12, hX.out.cell 13⟩) ?_
    clear hK K
    try simp only [Act.put]
    refine wpAnyT_done (by kernel_rfl) ?_ _
    obtain ⟨_, y0, y1, y2, y3, y4, y5, y6, y7, y8, y9, y10, y11, y12, y13⟩ := blk14c hY.out
    go_wp2
    refine ends_ret hQ (v := .tuple #[.agg #[.int .i64 id, .int .i64 t, .int .i64 v, .int .i64 base, .int .i64 bt, .slice WA (n + 1) Wc, .string s, .slice VA m Vc, .int .i64 role, .int .i64 lead, .int .i64 timer, .int .i64 commit, .slice GA gn Gc, .slice PA pn Pc], .bool zh]) (by simp [results, Tryz.results72, go_sem, y0, y1, y2, y3, y4, y5, y6, y7, y8, y9, y10, y11, y12, y13]) rfl ?_
    exact ⟨⟨⟨WA, n + 1, Wc⟩, ⟨VA, m, Vc⟩, ⟨GA, gn, Gc⟩, ⟨PA, pn, Pc⟩⟩, rfl, ⟨hRz, hwc, by dsimp only; omega, hN0.vs.to qz, hN0.vc, hN0.vb, hN0.sb, hN0.got.to qz, hN0.gc, hN0.gb, hN0.ps.to qz, hN0.pc, hN0.pb⟩, qz⟩
  · skip
    -- refine wpAnyT_one (i := 6) (by kernel_rfl) rfl (fun K hK => ?_)
    go_simp
    obtain ⟨gN, hgN⟩ : ∃ g, wd.heap.size = g := ⟨_, rfl⟩
    have hL : Hid (Recs (wd.alloc (.cells #[.int .i64 rt, .int .i64 rk, .string rd] 51)) 0 (some ⟨gN, 0, none⟩) 1 [⟨rt, rk, rd⟩]) := by rw [← hgN]; exact reads_new wd #[.int .i64 rt, .int .i64 rk, .string rd] 51 1 3 0 rfl
    replace hX := hid_mk (hX.out.alloc (.cells #[.int .i64 rt, .int .i64 rk, .string rd] 51))
    replace hR := hid_mk (hR.out.alloc (.cells #[.int .i64 rt, .int .i64 rk, .string rd] 51))
    replace hY := hid_mk (hY.out.alloc (.cells #[.int .i64 rt, .int .i64 rk, .string rd] 51))
    have qA := qd.alloc qd.size (.cells #[.int .i64 rt, .int .i64 rk, .string rd] 51)
    have hzA : gD ≤ (wd.alloc (.cells #[.int .i64 rt, .int .i64 rk, .string rd] 51)).heap.size := by have := hgD.out; simp only [World.size_alloc]; omega
    obtain ⟨wA, hwn⟩ : ∃ x, wd.alloc (.cells #[.int .i64 rt, .int .i64 rk, .string rd] 51) = x := ⟨_, rfl⟩
    rw [hwn] at hX hR hY hL qA hzA ⊢
    rw [hgN]
    clear hwn hgN
    refine hK.out _ _ (fun _ => ⟨hX.out.cell 5, hR.out.cell 0, hR.out.cell 1, hR.out.cell 2⟩) ?_
    clear hK K
    try simp only [Act.put]
    refine wpAnyT_one (i := 4) (by kernel_rfl) rfl (fun K hK => ?_)
    go_simp
    refine (CloneR_own RA n Rc rs _ (B := B) (by omega) (hr.to qA)).mono ?_
    rintro e wB ⟨CA, Cc, rfl, hown, hcc, hb1⟩
    have qB := (after (w := w) hb1 qA).1
    have zqB := qB.size
    have hown2 := hid_mk (own_low hown (by exact hzA : gD ≤ wA.heap.size))
    replace hX := hid_mk (hX.out.keep hb1)
    replace hR := hid_mk (hR.out.keep hb1)
    replace hY := hid_mk (hY.out.keep hb1)
    have hzB : gD ≤ wB.heap.size := Nat.le_trans hzA hb1.size
    replace hL := hid_mk (hL.out.to hb1)
    clear hb1 hown qA
    refine hK.out _ _ (fun _ => ⟨hX.out.cell 5, hR.out.cell 0, hR.out.cell 1, hR.out.cell 2⟩) ?_
    clear hK K
    try simp only [Act.put]
    refine wpAnyT_one (i := 7) (by kernel_rfl) rfl (fun K hK => ?_)
    refine step_append_any _ rfl (.tmp 10) (.tmp 12) 22 rfl gD 51 i0 _ 3 32 Tryz.underlying22 hi0 hz0 hz1 hz2 rfl (by omega) _ n _ rfl hown2.out 0 (some ⟨gN, 0, none⟩) 1 1 _ rfl hL.out (rec_one _) (by simp only [maxLen]; omega) (by omega) hzB ?_
    intro v5 w5 hown5 hg5 _
    have q5 : Below w.heap.size w w5 := grown_below qB hg5 (fun k hk => by have := (World.ownsRow.lt hown2.out k hk).1; omega)
    have zq5 := q5.size
    replace hX := hid_mk (Blk.grown hX.out hg5 (own_ne_lt hown2.out (by omega)))
    replace hY := hid_mk (Blk.grown hY.out hg5 (own_ne_lt hown2.out (by omega)))
    replace hR := hid_mk (Blk.grown hR.out hg5 (own_ne_lt hown2.out (by omega)))
    obtain ⟨WA, Wc, rfl, hwc, _⟩ := own_slice hown5
    clear hown2 hL hg5 qB
    refine hK.out _ _ (fun _ => ⟨hX.out.cell 5, hR.out.cell 0, hR.out.cell 1, hR.out.cell 2⟩) ?_
    clear hK K
    try simp only [Act.put]
    refine wpAnyT_one (i := 8) (by kernel_rfl) rfl (fun K hK => ?_)
    go_simp
    refine hK.out _ _ (fun _ => ⟨hX.out.cell 5, hR.out.cell 0, hR.out.cell 1, hR.out.cell 2⟩) ?_
    clear hK K
    try simp only [Act.put]
    refine wpAnyT_one (i := 9) (by kernel_rfl) rfl (fun K hK => ?_)
    go_simp
    refine hK.out _ _ (fun _ => ⟨hX.out.cell 5, hR.out.cell 0, hR.out.cell 1, hR.out.cell 2⟩) ?_
    clear hK K
    try simp only [Act.put]
    refine wpAnyT_one (i := 10) (by kernel_rfl) rfl (fun K hK => ?_)
    go_simp
    refine hK.out _ _ (fun _ => ⟨hX.out.cell 5, hR.out.cell 0, hR.out.cell 1, hR.out.cell 2⟩) ?_
    clear hK K
    try simp only [Act.put]
    have x5 := hX.out.cell 5
    change _ = some (Value.slice RA n Rc) at x5
    have xf5 := hX.out.frozen 5
    have xl := hX.out.lt
    refine wpAnyT_one (i := 11) (by kernel_rfl) rfl (fun K hK => ?_)
    go_simp
    refine hK.out _ _ (fun h => absurd h (by decide)) ?_
    clear hK K
    try simp only [Act.put]
    refine wpAnyT_done (by kernel_rfl) ?_ _
    clear x5 xf5 xl
    have hX6 : Blk (w5.setCell ⟨w.heap.size, 5, none⟩ (.slice WA (n + 1) Wc)) (w.heap.size) 30 #[.int .i64 id, .int .i64 t, .int .i64 v, .int .i64 base, .int .i64 bt, .slice WA (n + 1) Wc, .string s, .slice VA m Vc, .int .i64 role, .int .i64 lead, .int .i64 timer, .int .i64 commit, .slice GA gn Gc, .slice PA pn Pc] := hX.out.set_ 5 _
    have hY6 := hY.out.far (p := ⟨w.heap.size, 5, none⟩) (by dsimp only; omega) (.slice WA (n + 1) Wc)
    have hR6 : Recs (w5.setCell ⟨w.heap.size, 5, none⟩ (.slice WA (n + 1) Wc)) B WA (n + 1) (rs ++ [⟨rt, rk, rd⟩]) := Reads.far (by have h := Reads.of_own (B := B) hown5; unfold cellsOf at h; rw [← List.flatMap_append] at h; exact h) hX.out hBw (by decide) 5 _
    have q6 := q5.setCell (p := ⟨w.heap.size, 5, none⟩) (Nat.le_refl _) (.slice WA (n + 1) Wc)
    obtain ⟨w6, hw6⟩ : ∃ x, (w5.setCell ⟨w.heap.size, 5, none⟩ (.slice WA (n + 1) Wc)) = x := ⟨_, rfl⟩
    rw [hw6] at hX6 hY6 hR6 q6 ⊢
    clear hw6 hown5 hX hY hR q5
    have hX := hid_mk hX6
    have hY := hid_mk hY6
    replace hR6 := hid_mk hR6
    clear hX6 hY6
    go_upto_region 2 with fail
    refine wp_region_T' (fun w' => w'.cell? ⟨w.heap.size, 0, none⟩ = some (.int .i64 id) ∧ w'.cell? ⟨w.heap.size, 1, none⟩ = some (.int .i64 t) ∧ w'.cell? ⟨w.heap.size, 2, none⟩ = some (.int .i64 v) ∧ w'.cell? ⟨w.heap.size, 3, none⟩ = some (.int .i64 base) ∧ w'.cell? ⟨w.heap.size, 4, none⟩ = some (.int .i64 bt) ∧ w'.cell? ⟨w.heap.size, 5, none⟩ = some (.slice WA (n + 1) Wc) ∧ w'.cell? ⟨w.heap.size, 6, none⟩ = some (.string s) ∧ w'.cell? ⟨w.heap.size, 7, none⟩ = some (.slice VA m Vc) ∧ w'.cell? ⟨w.heap.size, 8, none⟩ = some (.int .i64 role) ∧ w'.cell? ⟨w.heap.size, 9, none⟩ = some (.int .i64 lead) ∧ w'.cell? ⟨w.heap.size, 10, none⟩ = some (.int .i64 timer) ∧ w'.cell? ⟨w.heap.size, 11, none⟩ = some (.int .i64 commit) ∧ w'.cell? ⟨w.heap.size, 12, none⟩ = some (.slice GA gn Gc) ∧ w'.cell? ⟨w.heap.size, 13, none⟩ = some (.slice PA pn Pc)) (fun j => decide (j < 6)) 6 (by kernel_rfl) (by kernel_rfl) (by exact ⟨hX.out.cell 0, hX.out.cell 1, hX.out.cell 2, hX.out.cell 3, hX.out.cell 4, hX.out.cell 5, hX.out.cell 6, hX.out.cell 7, hX.out.cell 8, hX.out.cell 9, hX.out.cell 10, hX.out.cell 11, hX.out.cell 12, hX.out.cell 13⟩) (fun hS0 => ?_)
    replace hX := hid_mk hX.out.drew
    replace hY := hid_mk hY.out.drew
    replace hR6 := hid_mk (hR6.out.to (show Below w6.heap.size w6 w6.drew by go_grown))
    have qe : Below w.heap.size w w6.drew := by go_grown
    obtain ⟨we, hwe⟩ : ∃ x, w6.drew = x := ⟨_, rfl⟩
    rw [hwe] at hS0 hX hY hR6 qe ⊢
    clear hwe q6
    refine wpAnyT_take (i := 0) rfl (by kernel_rfl) (by kernel_rfl) (by kernel_rfl) rfl (by kernel_rfl) (fun _ _ _ h => h) (by kernel_rfl) (fun w' hS => (by obtain ⟨s0, s1, s2, s3, s4, s5, s6, s7, s8, s9, s10, s11, s12, s13⟩ := hS; go_simp; try with_reducible rfl)) hS0 ?_
    simp only [Act.put]
    refine wpAnyT_take (i := 1) rfl (by kernel_rfl) (by kernel_rfl) (by kernel_rfl) rfl (by kernel_rfl) (fun _ _ _ h => h) (by kernel_rfl) (fun w' hS => (by obtain ⟨s0, s1, s2, s3, s4, s5, s6, s7, s8, s9, s10, s11, s12, s13⟩ := hS; go_simp; try with_reducible rfl)) hS0 ?_
    simp only [Act.put]
    refine wpAnyT_take (i := 2) rfl (by kernel_rfl) (by kernel_rfl) (by kernel_rfl) rfl (by kernel_rfl) (fun _ _ _ h => h) (by kernel_rfl) (fun w' hS => (by obtain ⟨s0, s1, s2, s3, s4, s5, s6, s7, s8, s9, s10, s11, s12, s13⟩ := hS; go_simp; try with_reducible rfl)) hS0 ?_
    simp only [Act.put]
    refine wpAnyT_one (i := 3) (by kernel_rfl) rfl (fun K hK => ?_)
    go_simp
    refine (hWR ⟨WA, n + 1, Wc⟩ ⟨VA, m, Vc⟩ _ (by dsimp only; omega) (by dsimp only; omega) hR6.out (hi.to qe) (ht.to qe)).mono ?_
    rintro e w7 ⟨rfl, hb1⟩
    have q7 := (after (w := w) hb1 qe).1
    replace hX := hid_mk (hX.out.keep hb1)
    replace hY := hid_mk (hY.out.keep hb1)
    replace hR6 := hid_mk (hR6.out.to hb1)
    clear hb1 qe
    refine hK.out _ _ (fun _ => ⟨hX.out.cell 0, hX.out.cell 1, hX.out.cell 2, hX.out.cell 3, hX.out.cell 4, hX.out.cell 5, hX.out.cell 6, hX.out.cell 7, hX.out.cell 8, hX.out.cell 9, hX.out.cell 10, hX.out.cell 11, hX.out.cell 12, hX.out.cell 13⟩) ?_
    clear hK K
    try simp only [Act.put]
    obtain ⟨yl, y0, y1, y2, y3, y4, y5, y6, y7, y8, y9, y10, y11, y12, y13, yf0, yf1, yf2, yf3, yf4, yf5, yf6, yf7, yf8, yf9, yf10, yf11, yf12, yf13⟩ := blk14f hY.out
    refine wpAnyT_one (i := 4) (by kernel_rfl) rfl (fun K hK => ?_)
    go_simp
    clear yl y0 y1 y2 y3 y4 y5 y6 y7 y8 y9 y10 y11 y12 y13 yf0 yf1 yf2 yf3 yf4 yf5 yf6 yf7 yf8 yf9 yf10 yf11 yf12 yf13
    replace hX := hid_mk (set14_farS hX.out (by omega : w.heap.size ≠ w.heap.size + 1 + 1) (.int .i64 id) (.int .i64 t) (.int .i64 v) (.int .i64 base) (.int .i64 bt) (.slice WA (n + 1) Wc) (.string s) (.slice VA m Vc) (.int .i64 role) (.int .i64 lead) (.int .i64 timer) (.int .i64 commit) (.slice GA gn Gc) (.slice PA pn Pc))
    have qz := set14_below (.int .i64 id) (.int .i64 t) (.int .i64 v) (.int .i64 base) (.int .i64 bt) (.slice WA (n + 1) Wc) (.string s) (.slice VA m Vc) (.int .i64 role) (.int .i64 lead) (.int .i64 timer) (.int .i64 commit) (.slice GA gn Gc) (.slice PA pn Pc) q7 (by omega : w.heap.size ≤ w.heap.size + 1 + 1)
    have hRz : Recs (set14 w7 (w.heap.size + 1 + 1) (.int .i64 id) (.int .i64 t) (.int .i64 v) (.int .i64 base) (.int .i64 bt) (.slice WA (n + 1) Wc) (.string s) (.slice VA m Vc) (.int .i64 role) (.int .i64 lead) (.int .i64 timer) (.int .i64 commit) (.slice GA gn Gc) (.slice PA pn Pc)) B WA (n + 1) (rs ++ [⟨rt, rk, rd⟩]) := set14_reads hY.out (.int .i64 id) (.int .i64 t) (.int .i64 v) (.int .i64 base) (.int .i64 bt) (.slice WA (n + 1) Wc) (.string s) (.slice VA m Vc) (.int .i64 role) (.int .i64 lead) (.int .i64 timer) (.int .i64 commit) (.slice GA gn Gc) (.slice PA pn Pc) (by omega) (by decide) hR6.out
    replace hY := hid_mk (set14_blk hY.out (.int .i64 id) (.int .i64 t) (.int .i64 v) (.int .i64 base) (.int .i64 bt) (.slice WA (n + 1) Wc) (.string s) (.slice VA m Vc) (.int .i64 role) (.int .i64 lead) (.int .i64 timer) (.int .i64 commit) (.slice GA gn Gc) (.slice PA pn Pc))
    obtain ⟨wz, hwz⟩ : ∃ x, set14 w7 (w.heap.size + 1 + 1) (.int .i64 id) (.int .i64 t) (.int .i64 v) (.int .i64 base) (.int .i64 bt) (.slice WA (n + 1) Wc) (.string s) (.slice VA m Vc) (.int .i64 role) (.int .i64 lead) (.int .i64 timer) (.int .i64 commit) (.slice GA gn Gc) (.slice PA pn Pc) = x := ⟨_, rfl⟩
    rw [hwz] at hX hY hRz qz
    unfold set14 at hwz
    rw [hwz]
    clear hwz
    refine hK.out _ _ (fun _ => ⟨hX.out.cell 0, hX.out.cell 1, hX.out.cell 2, hX.out.cell 3, hX.out.cell 4, hX.out.cell 5, hX.out.cell 6, hX.out.cell 7, hX.out.cell 8, hX.out.cell 9, hX.out.cell 10, hX.out.cell 11, hX.out.cell 12, hX.out.cell 13⟩) ?_
    clear hK K
    try simp only [Act.put]
    refine wpAnyT_one (i := 5) (by kernel_rfl) rfl (fun K hK => ?_)
    go_simp
    refine hK.out _ _ (fun _ => ⟨hX.out.cell 0, hX.out.cell 1, hX.out.cell 2, hX.out.cell 3, hX.out.cell 4, hX.out.cell 5, hX.out.cell 6, hX.out.cell 7, hX.out.cell 8, hX.out.cell 9, hX.out.cell 10, hX.out.cell 11, hX.out.cell 12, hX.out.cell 13⟩) ?_
    clear hK K
    try simp only [Act.put]
    refine wpAnyT_done (by kernel_rfl) ?_ _
    obtain ⟨_, y0, y1, y2, y3, y4, y5, y6, y7, y8, y9, y10, y11, y12, y13⟩ := blk14c hY.out
    go_wp2
    refine ends_ret hQ (v := .tuple #[.agg #[.int .i64 id, .int .i64 t, .int .i64 v, .int .i64 base, .int .i64 bt, .slice WA (n + 1) Wc, .string s, .slice VA m Vc, .int .i64 role, .int .i64 lead, .int .i64 timer, .int .i64 commit, .slice GA gn Gc, .slice PA pn Pc], .bool zh]) (by simp [results, Tryz.results72, go_sem, y0, y1, y2, y3, y4, y5, y6, y7, y8, y9, y10, y11, y12, y13]) rfl ?_
    exact ⟨⟨⟨WA, n + 1, Wc⟩, ⟨VA, m, Vc⟩, ⟨GA, gn, Gc⟩, ⟨PA, pn, Pc⟩⟩, rfl, ⟨hRz, hwc, by dsimp only; omega, hN0.vs.to qz, hN0.vc, hN0.vb, hN0.sb, hN0.got.to qz, hN0.gc, hN0.gb, hN0.ps.to qz, hN0.pc, hN0.pb⟩, qz⟩
end Go.Proofs.YtncdjmpdbinanaaGreatDoor
