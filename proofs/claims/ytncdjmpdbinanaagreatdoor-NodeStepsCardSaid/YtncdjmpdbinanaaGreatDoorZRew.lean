/-
  WHAT IS PROVED HERE: what the reference's end hands back of a node whose log may be. Conditions: the slices are of at most 2^47 bytes; the library's table stands.
-/
import Derived.Test.YtncdjmpdbinanaaGreatDoorZEwi
import Derived.Test.YtncdjmpdbinanaaGreatDoorZGEt
import Derived.Deep.DeepCutAuto
namespace Go.Proofs.YtncdjmpdbinanaaGreatDoor
open Go.RowKit

set_option maxRecDepth 100000 in
set_option maxHeartbeats 12800000 in
theorem RWith_any (N : Nd) (a : NdA) (r : Rec) (w : World) {B : Nat} (hBw : B ≤ w.heap.size) (hN : NdOk w B N a) (hj : rightJ N.h.l = true) (ht : Tab w) :
    Calls Tryz.prog 77 #[nodeV N a, recVal r] w (RetNB w B (hdN N (withH N.h r)) (rightH (withH N.h r))) := by
  have hn200 : a.R.n ≤ 200 := by
    have := hN.recs.len
    have h2 := (right_iff.1 hj).2.2.2.2.2.1
    omega
  have hv47 : a.V.n ≤ 140737488355328 := by have := hN.vb; omega
  obtain ⟨zh, hzh⟩ : ∃ z, rightH (withH N.h r) = z := ⟨_, rfl⟩
  have hWR := fun (R V : Slc) (w : World) (k1 : R.n ≤ 140737488355328) (k2 : V.n ≤ 140737488355328) (k3 : Recs w B R.A R.n (N.h.l.rs ++ [r])) (k4 : Ints w B V.A V.n N.h.vs) (k5 : Tab w) => HRight_any (withH N.h r) R V w k1 k2 k3 k4 k5
  rw [hzh] at hWR ⊢
  clear hzh hj
  have hN0 := hN
  obtain ⟨hr, hrc, hrb, hi, hvc, hvb, hsb, _, _, _, _, _, _⟩ := hN
  obtain ⟨id, ⟨t, v, ⟨base, bt, rs⟩, s, vs⟩, role, lead, timer, commit, got, ps⟩ := N
  obtain ⟨⟨RA, n, Rc⟩, ⟨VA, m, Vc⟩, ⟨GA, gn, Gc⟩, ⟨PA, pn, Pc⟩⟩ := a
  obtain ⟨rt, rk, rd⟩ := r
  dsimp only at hr hrc hrb hi hvc hvb hsb hn200 hv47
  unfold withH at hWR
  dsimp only at hWR
  have hX : Hid (Blk (((w.alloc (.cells #[.int .i64 id, .int .i64 t, .int .i64 v, .int .i64 base, .int .i64 bt, .slice RA n Rc, .string s, .slice VA m Vc, .int .i64 role, .int .i64 lead, .int .i64 timer, .int .i64 commit, .slice GA gn Gc, .slice PA pn Pc] 30)).alloc (.cells #[.int .i64 rt, .int .i64 rk, .string rd] 51)).alloc (.cells #[.int .i64 0, .int .i64 0, .int .i64 0, .int .i64 0, .int .i64 0, .slice none 0 0, .string ⟨#[]⟩, .slice none 0 0, .int .i64 0, .int .i64 0, .int .i64 0, .int .i64 0, .slice none 0 0, .slice none 0 0] 30)) (w.heap.size) 30 #[.int .i64 id, .int .i64 t, .int .i64 v, .int .i64 base, .int .i64 bt, .slice RA n Rc, .string s, .slice VA m Vc, .int .i64 role, .int .i64 lead, .int .i64 timer, .int .i64 commit, .slice GA gn Gc, .slice PA pn Pc]) := hid_mk (((Blk.new w 30 #[.int .i64 id, .int .i64 t, .int .i64 v, .int .i64 base, .int .i64 bt, .slice RA n Rc, .string s, .slice VA m Vc, .int .i64 role, .int .i64 lead, .int .i64 timer, .int .i64 commit, .slice GA gn Gc, .slice PA pn Pc]).alloc _).alloc _)
  have hR : Hid (Blk (((w.alloc (.cells #[.int .i64 id, .int .i64 t, .int .i64 v, .int .i64 base, .int .i64 bt, .slice RA n Rc, .string s, .slice VA m Vc, .int .i64 role, .int .i64 lead, .int .i64 timer, .int .i64 commit, .slice GA gn Gc, .slice PA pn Pc] 30)).alloc (.cells #[.int .i64 rt, .int .i64 rk, .string rd] 51)).alloc (.cells #[.int .i64 0, .int .i64 0, .int .i64 0, .int .i64 0, .int .i64 0, .slice none 0 0, .string ⟨#[]⟩, .slice none 0 0, .int .i64 0, .int .i64 0, .int .i64 0, .int .i64 0, .slice none 0 0, .slice none 0 0] 30)) (w.heap.size + 1) 51 #[.int .i64 rt, .int .i64 rk, .string rd]) := hid_mk ((Blk.new_ (by simp)).alloc _)
  have hY : Hid (Blk (((w.alloc (.cells #[.int .i64 id, .int .i64 t, .int .i64 v, .int .i64 base, .int .i64 bt, .slice RA n Rc, .string s, .slice VA m Vc, .int .i64 role, .int .i64 lead, .int .i64 timer, .int .i64 commit, .slice GA gn Gc, .slice PA pn Pc] 30)).alloc (.cells #[.int .i64 rt, .int .i64 rk, .string rd] 51)).alloc (.cells #[.int .i64 0, .int .i64 0, .int .i64 0, .int .i64 0, .int .i64 0, .slice none 0 0, .string ⟨#[]⟩, .slice none 0 0, .int .i64 0, .int .i64 0, .int .i64 0, .int .i64 0, .slice none 0 0, .slice none 0 0] 30)) (w.heap.size + 1 + 1) 30 #[.int .i64 0, .int .i64 0, .int .i64 0, .int .i64 0, .int .i64 0, .slice none 0 0, .string ⟨#[]⟩, .slice none 0 0, .int .i64 0, .int .i64 0, .int .i64 0, .int .i64 0, .slice none 0 0, .slice none 0 0]) := Blk.new_ (by simp)
  have q0 : Below w.heap.size w (((w.alloc (.cells #[.int .i64 id, .int .i64 t, .int .i64 v, .int .i64 base, .int .i64 bt, .slice RA n Rc, .string s, .slice VA m Vc, .int .i64 role, .int .i64 lead, .int .i64 timer, .int .i64 commit, .slice GA gn Gc, .slice PA pn Pc] 30)).alloc (.cells #[.int .i64 rt, .int .i64 rk, .string rd] 51)).alloc (.cells #[.int .i64 0, .int .i64 0, .int .i64 0, .int .i64 0, .int .i64 0, .slice none 0 0, .string ⟨#[]⟩, .slice none 0 0, .int .i64 0, .int .i64 0, .int .i64 0, .int .i64 0, .slice none 0 0, .slice none 0 0] 30)) := by go_grown
  obtain ⟨i0, hi0, hz0, hz1, hz2⟩ := info_parts recInfo
  show Calls Tryz.prog 77 #[.agg #[.int .i64 id, .int .i64 t, .int .i64 v, .int .i64 base, .int .i64 bt, .slice RA n Rc, .string s, .slice VA m Vc, .int .i64 role, .int .i64 lead, .int .i64 timer, .int .i64 commit, .slice GA gn Gc, .slice PA pn Pc], .agg #[.int .i64 rt, .int .i64 rk, .string rd]] w _
  refine calls_of_wpQ Tryz.func77 rfl ?_
  intro Q hQ
  simp only [Tryz.ntmps77, List.size_toArray, List.length_cons, List.length_nil, Nat.reduceAdd, Nat.reduceSub, Array.replicate_succ, Array.replicate_zero, List.push_toArray, List.append_toArray, List.nil_append, List.cons_append]
  go_upto_region 1 with fail
  obtain ⟨w0, hw0⟩ : ∃ x, ((w.alloc (.cells #[.int .i64 id, .int .i64 t, .int .i64 v, .int .i64 base, .int .i64 bt, .slice RA n Rc, .string s, .slice VA m Vc, .int .i64 role, .int .i64 lead, .int .i64 timer, .int .i64 commit, .slice GA gn Gc, .slice PA pn Pc] 30)).alloc (.cells #[.int .i64 rt, .int .i64 rk, .string rd] 51)).alloc (.cells #[.int .i64 0, .int .i64 0, .int .i64 0, .int .i64 0, .int .i64 0, .slice none 0 0, .string ⟨#[]⟩, .slice none 0 0, .int .i64 0, .int .i64 0, .int .i64 0, .int .i64 0, .slice none 0 0, .slice none 0 0] 30) = x := ⟨_, rfl⟩
  rw [hw0] at hX hR hY q0
  try rw [hw0]
  clear hw0
  have z0 := q0.size
  obtain ⟨gD, hgD⟩ : ∃ g, w0.heap.size = g := ⟨_, rfl⟩
  have hyD : w.heap.size + 1 + 1 < gD := by rw [← hgD]; exact hY.out.lt
  have own0 : Hid ((w0.alloc (.cells #[] 51)).ownsRow gD 51 3 (.slice (some ⟨gD, 0, none⟩) 0 0) 0 (cellsOf (rs.take 0))) := hid_mk (by rw [← hgD]; simpa [cellsOf] using World.ownsRow_lit (base := w0.heap.size) (e := 51) (size := 3) w0 #[] 0 (Nat.le_refl _) (by unfold maxLen; omega) (by simp))
  replace hX := hid_mk (hX.out.alloc (.cells #[] 51))
  replace hR := hid_mk (hR.out.alloc (.cells #[] 51))
  replace hY := hid_mk (hY.out.alloc (.cells #[] 51))
  have q1 : Below w.heap.size w (w0.alloc (.cells #[] 51)) := by go_grown
  obtain ⟨w1, hw1⟩ : ∃ x, w0.alloc (.cells #[] 51) = x := ⟨_, rfl⟩
  rw [hw1] at own0 hX hR hY q1
  have hgw1 : gD ≤ w1.heap.size := by rw [← hw1]; simp only [World.size_alloc]; omega
  replace hw1 := hid_mk hw1
  replace hgD := hid_mk hgD
  have x5 := hX.out.cell 5
  change _ = some (Value.slice RA n Rc) at x5
  have xl := hX.out.lt
  have hrl := hr.len
  go_upto_region 2 with fail
  rw [hgD.out, hw1.out]
  clear hgD hw1 q0 z0
  go_wp2
  go_loopw [6, 15] (fun o iv wr => ∃ k : Nat, iv = .int .i64 k ∧ k ≤ n ∧ Below w.heap.size w wr ∧ Hid (wr.ownsRow gD 51 3 o k (cellsOf (rs.take k))) ∧ gD ≤ wr.heap.size ∧ Hid (Blk wr (w.heap.size) 30 #[.int .i64 id, .int .i64 t, .int .i64 v, .int .i64 base, .int .i64 bt, .slice RA n Rc, .string s, .slice VA m Vc, .int .i64 role, .int .i64 lead, .int .i64 timer, .int .i64 commit, .slice GA gn Gc, .slice PA pn Pc]) ∧ Hid (Blk wr (w.heap.size + 1) 51 #[.int .i64 rt, .int .i64 rk, .string rd]) ∧ Hid (Blk wr (w.heap.size + 1 + 1) 30 #[.int .i64 0, .int .i64 0, .int .i64 0, .int .i64 0, .int .i64 0, .slice none 0 0, .string ⟨#[]⟩, .slice none 0 0, .int .i64 0, .int .i64 0, .int .i64 0, .int .i64 0, .slice none 0 0, .slice none 0 0])) (fun _ iv _ => n - (intOf iv).toNat)
  case atStart => exact ⟨0, rfl, Nat.zero_le _, q1, own0, hgw1, hX, hR, hY⟩
  case round =>
    clear own0 hX hR hY q1 x5 xl
    obtain ⟨k, rfl, hk, hb, hown, hgw, hX, hR, hY⟩ := hrel
    have zr := hb.size
    obtain ⟨Ao, co, rfl, ho1, ho2⟩ := own_slice hown.out
    by_cases hkn : k < n
    · obtain ⟨bv, ov, x, hA, hbv, hdx, c0, c1, c2⟩ := (hr.to hb).at_ hkn
      subst hA
      obtain ⟨xt, xk, xd⟩ := x
      dsimp only at c0 c1 c2
      have hts : Hid (cellsOf (rs.take (k + 1)) = cellsOf (rs.take k) ++ cellsOf [⟨xt, xk, xd⟩]) := by
        rw [Hid, take_snoc hdx.out]
        unfold cellsOf
        rw [List.flatMap_append]
      replace hdx := hid_mk hdx
      have hnew : Hid (Recs ((wr.alloc (.cells #[.int .i64 xt, .int .i64 xk, .string xd] 51)).alloc (.cells #[.int .i64 xt, .int .i64 xk, .string xd] 51)) 0 (some ⟨wr.heap.size + 1, 0, none⟩) 1 [⟨xt, xk, xd⟩]) := by
        have h := reads_new (wr.alloc (.cells #[.int .i64 xt, .int .i64 xk, .string xd] 51)) #[.int .i64 xt, .int .i64 xk, .string xd] 51 1 3 0 rfl
        rw [World.size_alloc] at h
        exact h
      have hown2 := hid_mk ((hown.out.alloc (.cells #[.int .i64 xt, .int .i64 xk, .string xd] 51)).alloc (.cells #[.int .i64 xt, .int .i64 xk, .string xd] 51))
      have q2 : Below w.heap.size w ((wr.alloc (.cells #[.int .i64 xt, .int .i64 xk, .string xd] 51)).alloc (.cells #[.int .i64 xt, .int .i64 xk, .string xd] 51)) := by go_grown
      have hX2 := hid_mk ((hX.out.alloc (.cells #[.int .i64 xt, .int .i64 xk, .string xd] 51)).alloc (.cells #[.int .i64 xt, .int .i64 xk, .string xd] 51))
      have hR2 := hid_mk ((hR.out.alloc (.cells #[.int .i64 xt, .int .i64 xk, .string xd] 51)).alloc (.cells #[.int .i64 xt, .int .i64 xk, .string xd] 51))
      have hY2 := hid_mk ((hY.out.alloc (.cells #[.int .i64 xt, .int .i64 xk, .string xd] 51)).alloc (.cells #[.int .i64 xt, .int .i64 xk, .string xd] 51))
      have hgw2 : gD ≤ ((wr.alloc (.cells #[.int .i64 xt, .int .i64 xk, .string xd] 51)).alloc (.cells #[.int .i64 xt, .int .i64 xk, .string xd] 51)).heap.size := by simp only [World.size_alloc]; omega
      go_wp2_with (at_builtin; refine wpList_append_any _ rfl (.tmp 19) (.tmp 21) _ rfl gD 51 i0 _ 3 32 Tryz.underlying22 hi0 hz0 hz1 hz2 rfl (by omega) _ k _ rfl hown2.out 0 (some ⟨wr.heap.size + 1, 0, none⟩) 1 1 _ rfl hnew.out (rec_one _) (by simp only [maxLen]; omega) (by omega) hgw2 ?_; intro v1 wa hown3 hga hat3)
      have qa : Below w.heap.size w wa := grown_below q2 hga (fun k hk => by have := (World.ownsRow.lt hown2.out k hk).1; omega)
      have hXa := hid_mk (Blk.grown hX2.out hga (own_ne_lt hown2.out (by omega)))
      have hRa := hid_mk (Blk.grown hR2.out hga (own_ne_lt hown2.out (by omega)))
      have hYa := hid_mk (Blk.grown hY2.out hga (own_ne_lt hown2.out (by omega)))
      have hgwa : gD ≤ wa.heap.size := Nat.le_trans hgw2 hga.size
      have hrow : Hid (wa.ownsRow gD 51 3 v1 (k + 1) (cellsOf (rs.take (k + 1)))) := by
        rw [hts.out]
        exact hown3
      clear hown3 hga hat3 hnew hown2 hX2 hR2 hY2
      go_roundw
      case rel => exact ⟨k + 1, by go_num, by omega, qa, hrow, hgwa, hXa, hRa, hYa⟩
      case measure => simp [intOf]; omega
    · obtain rfl : n = k := by omega
      have hown1 : Hid (wr.ownsRow gD 51 3 (.slice Ao n co) n (cellsOf rs)) := by
        have h := hown.out
        rw [List.take_of_length_le (by omega)] at h
        exact h
      clear hown
      have hL : Hid (Recs (wr.alloc (.cells #[.int .i64 rt, .int .i64 rk, .string rd] 51)) 0 (some ⟨wr.heap.size, 0, none⟩) 1 [⟨rt, rk, rd⟩]) := reads_new wr #[.int .i64 rt, .int .i64 rk, .string rd] 51 1 3 0 rfl
      have hown2 := hid_mk (hown1.out.alloc (.cells #[.int .i64 rt, .int .i64 rk, .string rd] 51))
      have qB : Below w.heap.size w (wr.alloc (.cells #[.int .i64 rt, .int .i64 rk, .string rd] 51)) := by go_grown
      have hX2 := hid_mk (hX.out.alloc (.cells #[.int .i64 rt, .int .i64 rk, .string rd] 51))
      have hY2 := hid_mk (hY.out.alloc (.cells #[.int .i64 rt, .int .i64 rk, .string rd] 51))
      have hzB : gD ≤ (wr.alloc (.cells #[.int .i64 rt, .int .i64 rk, .string rd] 51)).heap.size := by simp only [World.size_alloc]; omega
      have r0 := hR.out.cell 0
      have r1 := hR.out.cell 1
      have r2 := hR.out.cell 2
      change _ = some (Value.int .i64 rt) at r0
      change _ = some (Value.int .i64 rk) at r1
      change _ = some (Value.string rd) at r2
      have rl := hR.out.lt
      clear hX hY
      have x5 : True := trivial
      have xf5 : True := trivial
      have xl : True := trivial
      go_upto_region 9 with (at_builtin; refine wpList_append_any _ rfl (.tmp 24) (.tmp 26) _ rfl gD 51 i0 _ 3 32 Tryz.underlying22 hi0 hz0 hz1 hz2 rfl (by omega) _ n _ rfl hown2.out 0 (some ⟨wr.heap.size, 0, none⟩) 1 1 _ rfl hL.out (rec_one _) (by simp only [maxLen]; omega) (by omega) hzB ?_; intro v5 w5 hown5 hg5 _; have q5 : Below w.heap.size w w5 := grown_below qB hg5 (fun k hk => by have := (World.ownsRow.lt hown2.out k hk).1; omega); have hX := hid_mk (Blk.grown hX2.out hg5 (own_ne_lt hown2.out (by omega))); have hY := hid_mk (Blk.grown hY2.out hg5 (own_ne_lt hown2.out (by omega))); obtain ⟨WA, Wc, rfl, hwc, _⟩ := own_slice hown5; have y5 := hX.out.cell 5; change _ = some (Value.slice RA n Rc) at y5; have yf5 := hX.out.frozen 5; have yl5 := hX.out.lt)
      clear y5 yf5 yl5 r0 r1 r2 rl hX2 hY2 x5 xf5 xl
      have hX6 : Blk (w5.setCell ⟨w.heap.size, 5, none⟩ (.slice WA (n + 1) Wc)) (w.heap.size) 30 #[.int .i64 id, .int .i64 t, .int .i64 v, .int .i64 base, .int .i64 bt, .slice WA (n + 1) Wc, .string s, .slice VA m Vc, .int .i64 role, .int .i64 lead, .int .i64 timer, .int .i64 commit, .slice GA gn Gc, .slice PA pn Pc] := hX.out.set_ 5 _
      have hY6 := hY.out.far (p := ⟨w.heap.size, 5, none⟩) (by dsimp only; omega) (.slice WA (n + 1) Wc)
      have hR6 : Recs (w5.setCell ⟨w.heap.size, 5, none⟩ (.slice WA (n + 1) Wc)) B WA (n + 1) (rs ++ [⟨rt, rk, rd⟩]) := Reads.far (by have h := Reads.of_own (B := B) hown5; unfold cellsOf at h; rw [← List.flatMap_append] at h; exact h) hX.out hBw (by decide) 5 _
      have q6 := q5.setCell (p := ⟨w.heap.size, 5, none⟩) (Nat.le_refl _) (.slice WA (n + 1) Wc)
      obtain ⟨w6, hw6⟩ : ∃ x, (w5.setCell ⟨w.heap.size, 5, none⟩ (.slice WA (n + 1) Wc)) = x := ⟨_, rfl⟩
      rw [hw6] at hX6 hY6 hR6 q6 ⊢
      clear hw6 hown5 hX hY hR q5 hown2 hL
      have hX := hid_mk hX6
      have hY := hid_mk hY6
      replace hR6 := hid_mk hR6
      clear hX6 hY6
      refine wp_region_T' (fun w' => w'.cell? ⟨w.heap.size, 0, none⟩ = some (.int .i64 id) ∧ w'.cell? ⟨w.heap.size, 1, none⟩ = some (.int .i64 t) ∧ w'.cell? ⟨w.heap.size, 2, none⟩ = some (.int .i64 v) ∧ w'.cell? ⟨w.heap.size, 3, none⟩ = some (.int .i64 base) ∧ w'.cell? ⟨w.heap.size, 4, none⟩ = some (.int .i64 bt) ∧ w'.cell? ⟨w.heap.size, 5, none⟩ = some (.slice WA (n + 1) Wc) ∧ w'.cell? ⟨w.heap.size, 6, none⟩ = some (.string s) ∧ w'.cell? ⟨w.heap.size, 7, none⟩ = some (.slice VA m Vc) ∧ w'.cell? ⟨w.heap.size, 8, none⟩ = some (.int .i64 role) ∧ w'.cell? ⟨w.heap.size, 9, none⟩ = some (.int .i64 lead) ∧ w'.cell? ⟨w.heap.size, 10, none⟩ = some (.int .i64 timer) ∧ w'.cell? ⟨w.heap.size, 11, none⟩ = some (.int .i64 commit) ∧ w'.cell? ⟨w.heap.size, 12, none⟩ = some (.slice GA gn Gc) ∧ w'.cell? ⟨w.heap.size, 13, none⟩ = some (.slice PA pn Pc)) (fun j => decide (j < 6)) 6 (by kernel_rfl) (by kernel_rfl) (by exact ⟨hX.out.cell 0, hX.out.cell 1, hX.out.cell 2, hX.out.cell 3, hX.out.cell 4, hX.out.cell 5, hX.out.cell 6, hX.out.cell 7, hX.out.cell 8, hX.out.cell 9, hX.out.cell 10, hX.out.cell 11, hX.out.cell 12, hX.out.cell 13⟩) (fun hS0 => ?_)
      replace hX := hid_mk hX.out.drew
      replace hY := hid_mk hY.out.drew
      replace hR6 := hid_mk (hR6.out.to (show Below w6.heap.size w6 w6.drew by go_grown))
      have qe : Below w.heap.size w w6.drew := by go_grown
      obtain ⟨we, hwe⟩ : ∃ x, w6.drew = x := ⟨_, rfl⟩
      rw [hwe] at hS0 hX hY hR6 qe ⊢
      clear hwe q6
      refine wpAnyT_take (i := 0) rfl (by kernel_rfl) (by kernel_rfl) (by kernel_rfl) rfl (by kernel_rfl) (fun _ _ _ h => h) (by kernel_rfl) (fun w' hS => (by obtain ⟨s0, s1, s2, s3, s4, s5, s6, s7, s8, s9, s10, s11, s12, s13⟩ := hS; go_simp; try with_reducible rfl)) hS0 ?_
      simp only [Act.put]
      refine wpAnyT_take (i := 1) rfl (by kernel_rfl) (by kernel_rfl) (by kernel_rfl) rfl (by kernel_rfl) (fun _ _ _ h => h) (by kernel_rfl) (fun w' hS => (by obtain ⟨s0, s1, s2, s3, s4, s5, s6, s7, s8, s9, s10, s11, s12, s13⟩ := hS; go_simp; try with_reducible rfl)) hS0 ?_
      simp only [Act.put]
      refine wpAnyT_take (i := 2) rfl (by kernel_rfl) (by kernel_rfl) (by kernel_rfl) rfl (by kernel_rfl) (fun _ _ _ h => h) (by kernel_rfl) (fun w' hS => (by obtain ⟨s0, s1, s2, s3, s4, s5, s6, s7, s8, s9, s10, s11, s12, s13⟩ := hS; go_simp; try with_reducible rfl)) hS0 ?_
      simp only [Act.put]
      refine wpAnyT_one (i := 3) (by kernel_rfl) rfl (fun K hK => ?_)
      go_simp
      refine (hWR ⟨WA, n + 1, Wc⟩ ⟨VA, m, Vc⟩ _ (by dsimp only; omega) (by dsimp only; omega) hR6.out (hi.to qe) (ht.to qe)).mono ?_
      rintro e w7 ⟨rfl, hb1⟩
      have q7 := (after (w := w) hb1 qe).1
      replace hX := hid_mk (hX.out.keep hb1)
      replace hY := hid_mk (hY.out.keep hb1)
      replace hR6 := hid_mk (hR6.out.to hb1)
      clear hb1 qe
      refine hK.out _ _ (fun _ => ⟨hX.out.cell 0, hX.out.cell 1, hX.out.cell 2, hX.out.cell 3, hX.out.cell 4, hX.out.cell 5, hX.out.cell 6, hX.out.cell 7, hX.out.cell 8, hX.out.cell 9, hX.out.cell 10, hX.out.cell 11, hX.out.cell 12, hX.out.cell 13⟩) ?_
      clear hK K
      try simp only [Act.put]
      obtain ⟨yl, y0, y1, y2, y3, y4, y5, y6, y7, y8, y9, y10, y11, y12, y13, yf0, yf1, yf2, yf3, yf4, yf5, yf6, yf7, yf8, yf9, yf10, yf11, yf12, yf13⟩ := blk14f hY.out
      refine wpAnyT_one (i := 4) (by kernel_rfl) rfl (fun K hK => ?_)
      go_simp
      clear yl y0 y1 y2 y3 y4 y5 y6 y7 y8 y9 y10 y11 y12 y13 yf0 yf1 yf2 yf3 yf4 yf5 yf6 yf7 yf8 yf9 yf10 yf11 yf12 yf13
      replace hX := hid_mk (set14_farS hX.out (by omega : w.heap.size ≠ w.heap.size + 1 + 1) (.int .i64 id) (.int .i64 t) (.int .i64 v) (.int .i64 base) (.int .i64 bt) (.slice WA (n + 1) Wc) (.string s) (.slice VA m Vc) (.int .i64 role) (.int .i64 lead) (.int .i64 timer) (.int .i64 commit) (.slice GA gn Gc) (.slice PA pn Pc))
      have qz := set14_below (.int .i64 id) (.int .i64 t) (.int .i64 v) (.int .i64 base) (.int .i64 bt) (.slice WA (n + 1) Wc) (.string s) (.slice VA m Vc) (.int .i64 role) (.int .i64 lead) (.int .i64 timer) (.int .i64 commit) (.slice GA gn Gc) (.slice PA pn Pc) q7 (by omega : w.heap.size ≤ w.heap.size + 1 + 1)
      have hRz : Recs (set14 w7 (w.heap.size + 1 + 1) (.int .i64 id) (.int .i64 t) (.int .i64 v) (.int .i64 base) (.int .i64 bt) (.slice WA (n + 1) Wc) (.string s) (.slice VA m Vc) (.int .i64 role) (.int .i64 lead) (.int .i64 timer) (.int .i64 commit) (.slice GA gn Gc) (.slice PA pn Pc)) B WA (n + 1) (rs ++ [⟨rt, rk, rd⟩]) := set14_reads hY.out (.int .i64 id) (.int .i64 t) (.int .i64 v) (.int .i64 base) (.int .i64 bt) (.slice WA (n + 1) Wc) (.string s) (.slice VA m Vc) (.int .i64 role) (.int .i64 lead) (.int .i64 timer) (.int .i64 commit) (.slice GA gn Gc) (.slice PA pn Pc) (by omega) (by decide) hR6.out
      replace hY := hid_mk (set14_blk hY.out (.int .i64 id) (.int .i64 t) (.int .i64 v) (.int .i64 base) (.int .i64 bt) (.slice WA (n + 1) Wc) (.string s) (.slice VA m Vc) (.int .i64 role) (.int .i64 lead) (.int .i64 timer) (.int .i64 commit) (.slice GA gn Gc) (.slice PA pn Pc))
      obtain ⟨wz, hwz⟩ : ∃ x, set14 w7 (w.heap.size + 1 + 1) (.int .i64 id) (.int .i64 t) (.int .i64 v) (.int .i64 base) (.int .i64 bt) (.slice WA (n + 1) Wc) (.string s) (.slice VA m Vc) (.int .i64 role) (.int .i64 lead) (.int .i64 timer) (.int .i64 commit) (.slice GA gn Gc) (.slice PA pn Pc) = x := ⟨_, rfl⟩
      rw [hwz] at hX hY hRz qz
      unfold set14 at hwz
      rw [hwz]
      clear hwz
      refine hK.out _ _ (fun _ => ⟨hX.out.cell 0, hX.out.cell 1, hX.out.cell 2, hX.out.cell 3, hX.out.cell 4, hX.out.cell 5, hX.out.cell 6, hX.out.cell 7, hX.out.cell 8, hX.out.cell 9, hX.out.cell 10, hX.out.cell 11, hX.out.cell 12, hX.out.cell 13⟩) ?_
      clear hK K
      try simp only [Act.put]
      refine wpAnyT_one (i := 5) (by kernel_rfl) rfl (fun K hK => ?_)
      go_simp
      refine hK.out _ _ (fun _ => ⟨hX.out.cell 0, hX.out.cell 1, hX.out.cell 2, hX.out.cell 3, hX.out.cell 4, hX.out.cell 5, hX.out.cell 6, hX.out.cell 7, hX.out.cell 8, hX.out.cell 9, hX.out.cell 10, hX.out.cell 11, hX.out.cell 12, hX.out.cell 13⟩) ?_
      clear hK K
      try simp only [Act.put]
      refine wpAnyT_done (by kernel_rfl) ?_ _
      obtain ⟨_, y0, y1, y2, y3, y4, y5, y6, y7, y8, y9, y10, y11, y12, y13⟩ := blk14c hY.out
      go_wp2
      refine ends_ret hQ (v := .tuple #[.agg #[.int .i64 id, .int .i64 t, .int .i64 v, .int .i64 base, .int .i64 bt, .slice WA (n + 1) Wc, .string s, .slice VA m Vc, .int .i64 role, .int .i64 lead, .int .i64 timer, .int .i64 commit, .slice GA gn Gc, .slice PA pn Pc], .bool zh]) (by simp [results, Tryz.results77, go_sem, y0, y1, y2, y3, y4, y5, y6, y7, y8, y9, y10, y11, y12, y13]) rfl ?_
      exact ⟨⟨⟨WA, n + 1, Wc⟩, ⟨VA, m, Vc⟩, ⟨GA, gn, Gc⟩, ⟨PA, pn, Pc⟩⟩, rfl, ⟨hRz, hwc, by dsimp only; omega, hN0.vs.to qz, hN0.vc, hN0.vb, hN0.sb, hN0.got.to qz, hN0.gc, hN0.gb, hN0.ps.to qz, hN0.pc, hN0.pb⟩, qz⟩
end Go.Proofs.YtncdjmpdbinanaaGreatDoor
