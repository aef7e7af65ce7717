/-
  WHAT IS PROVED HERE: what extend.sendAll and Send hand back of a node. Conditions: the slices are of at most 2^47 bytes; of sendAll: the node may be.
-/
import Derived.Test.YtncdjmpdbinanaaGreatDoorZEsd
namespace Go.Proofs.YtncdjmpdbinanaaGreatDoor
open Go.RowKit

/-- messages are handed back -/
def RetMs (w : World) (B : Nat) (ms : List Ms) (e : Ending) (w' : World) : Prop :=
  ∃ A n c pm, e = .returned (.slice A n c) ∧ Mgs w' B A n pm ∧ pm.map Prod.fst = ms ∧ n ≤ c ∧ Below w.heap.size w w'
theorem mgs_blk {w : World} {B g : Nat} {M : Ms} {b : MsA} (h : Blk w g 32 #[.int .i64 M.kind, .int .i64 M.fr, .int .i64 M.to, .int .i64 M.term, .bool M.ok, .int .i64 M.index, .int .i64 M.lterm, .slice b.R.A b.R.n b.R.c, .int .i64 M.commit, .string M.s, .slice b.V.A b.V.n b.V.c]) (hM : MsOk w B M b) : Mgs w B (some ⟨g, 0, none⟩) 1 [(M, b)] := by
  refine ⟨⟨rfl, fun _ => ⟨g, 0, rfl, h.lt, .inr ⟨_, _, h⟩, fun j u hu => ?_⟩⟩, fun p hp => ?_⟩
  · rw [Nat.zero_add, h.cell j]
    simpa [mgsL, msgCells] using hu
  · rw [List.mem_singleton] at hp
    subst hp
    exact hM
def resL (F : Pr → Ms) (q : Int) (ps : List Pr) : List Ms := match findP q ps with | some p => [F p] | none => []
theorem resL_cons (F : Pr → Ms) (q : Int) (p : Pr) (ps : List Pr) : resL F q (p :: ps) = if p.id = q then [F p] else resL F q ps := by
  unfold resL
  rw [findP]
  by_cases h : p.id = q
  · rw [if_pos h, if_pos h]
  · rw [if_neg h, if_neg h]
theorem asc_len9 : ∀ {l : List Int} {u : Int}, l.Pairwise (· < ·) → (∀ x ∈ l, u < x ∧ x ≤ 9) → u ≤ 9 → (l.length : Int) ≤ 9 - u
  | [], u, _, _, h => by simp; omega
  | x :: l, u, hp, h, _ => by
    have h1 := h x (.head _)
    have := asc_len9 (List.pairwise_cons.1 hp).2 (fun y hy => ⟨(List.pairwise_cons.1 hp).1 y hy, (h y (.tail _ hy)).2⟩) h1.2
    rw [List.length_cons]
    omega
theorem prs_len {nid last : Int} {ps : List Pr} (h : okPs nid last none ps = true) : ps.length ≤ 9 := by
  obtain ⟨a1, a2, _⟩ := okPs_iff.1 h
  have h1 : (ps.map Pr.id).Pairwise (· < ·) := List.pairwise_map.2 a2
  have h3 := asc_len9 (u := 0) h1 (fun x hx => by
    obtain ⟨p, hp, rfl⟩ := List.mem_map.1 hx
    have := (a1 p hp).1
    omega) (by omega)
  rw [List.length_map] at h3
  omega
set_option maxRecDepth 100000 in
set_option maxHeartbeats 12800000 in
theorem ESendAll_any (N : Nd) (a : NdA) (w : World) {B : Nat} (hBw : B ≤ w.heap.size) (hN : NdOk w B N a) (hzr : rightN N = true) :
    Calls Tryz.prog 74 #[nodeV N a] w (RetMs w B (allM N)) := by
  have hps := (okPs_iff.1 (right_parts hzr).2.2.2.2.2.2.2.2.2).1
  have hpl := prs_len (right_parts hzr).2.2.2.2.2.2.2.2.2
  have hES := fun (p : Pr) (w : World) (h0 : B ≤ w.heap.size) (k : NdOk w B N a) (hp : 1 ≤ p.nx ∧ p.nx ≤ lastJ N.h.l + 1) => ESend_any N a p w h0 k hzr hp
  have hps2 : Hid (∀ p ∈ N.ps, 1 ≤ p.nx ∧ p.nx ≤ lastJ N.h.l + 1) := fun p hp => (hps p hp).2.2.1
  obtain ⟨F, hF⟩ : ∃ F, sendM N = F := ⟨_, rfl⟩
  unfold allM
  rw [hF] at hES ⊢
  have hN0 := hid_mk hN
  have hPr := hid_mk hN.ps
  have hlen := hN.ps.len
  replace hF := hid_mk hF
  clear hzr hps hN
  obtain ⟨id, ⟨t, v, ⟨base, bt, rs⟩, s, vs⟩, role, lead, timer, commit, got, ps⟩ := N
  obtain ⟨⟨RA, n, Rc⟩, ⟨VA, m, Vc⟩, ⟨GA, gn, Gc⟩, ⟨PA, pn, Pc⟩⟩ := a
  dsimp only at hES hPr hlen hps2 hpl ⊢
  have hpn : pn ≤ 9 := by omega
  unfold nodeV at hES
  dsimp only at hES
  have hX : Hid (Blk (w.alloc (.cells #[.int .i64 id, .int .i64 t, .int .i64 v, .int .i64 base, .int .i64 bt, .slice RA n Rc, .string s, .slice VA m Vc, .int .i64 role, .int .i64 lead, .int .i64 timer, .int .i64 commit, .slice GA gn Gc, .slice PA pn Pc] 30)) w.heap.size 30 #[.int .i64 id, .int .i64 t, .int .i64 v, .int .i64 base, .int .i64 bt, .slice RA n Rc, .string s, .slice VA m Vc, .int .i64 role, .int .i64 lead, .int .i64 timer, .int .i64 commit, .slice GA gn Gc, .slice PA pn Pc]) := Blk.new _ _ _
  obtain ⟨i0, hi0, hz0, hz1, hz2⟩ := info_parts msgInfo
  show Calls Tryz.prog 74 #[.agg #[.int .i64 id, .int .i64 t, .int .i64 v, .int .i64 base, .int .i64 bt, .slice RA n Rc, .string s, .slice VA m Vc, .int .i64 role, .int .i64 lead, .int .i64 timer, .int .i64 commit, .slice GA gn Gc, .slice PA pn Pc]] w _
  refine calls_of_wpQ Tryz.func74 rfl ?_
  intro Q hQ
  simp only [Tryz.ntmps74, List.size_toArray, List.length_cons, List.length_nil, Nat.reduceAdd, Nat.reduceSub, Array.replicate_succ, Array.replicate_zero, List.push_toArray, List.append_toArray, List.nil_append, List.cons_append]
  obtain ⟨xl, x0, x1, x2, x3, x4, x5, x6, x7, x8, x9, x10, x11, x12, x13⟩ := blk14c hX.out
  go_wp2
  go_loopw [3, 9] (fun o i wr => ∃ (k : Nat) (pm : List (Ms × MsA)), i = .int .i64 k ∧ k ≤ pn ∧ Below w.heap.size w wr ∧ Hid (wr.ownsRow w.heap.size 32 11 o pm.length (mgsL pm)) ∧ Hid (∀ p ∈ pm, MsOk wr B p.1 p.2) ∧ Hid (pm.map Prod.fst = (ps.take k).map F) ∧ Hid (Blk wr w.heap.size 30 #[.int .i64 id, .int .i64 t, .int .i64 v, .int .i64 base, .int .i64 bt, .slice RA n Rc, .string s, .slice VA m Vc, .int .i64 role, .int .i64 lead, .int .i64 timer, .int .i64 commit, .slice GA gn Gc, .slice PA pn Pc])) (fun _ i _ => pn - (intOf i).toNat)
  case atStart => exact ⟨0, [], rfl, Nat.zero_le _, by go_grown, World.ownsRow_nil _ _ _ _, fun _ h => by (cases h), rfl, hX⟩
  case round =>
    clear hX xl x0 x1 x2 x3 x4 x5 x6 x7 x8 x9 x10 x11 x12 x13
    obtain ⟨k, pm, rfl, hk, hb, hown, hok, hpm, hX⟩ := hrel
    have zr := hb.size
    by_cases hkv : k < pn
    · obtain ⟨bv, ov, p, hA, hbv, hdx, c0, c1, c2⟩ := (hPr.out.to hb).at_ hkv
      subst hA
      obtain ⟨xl, x0, x1, x2, x3, x4, x5, x6, x7, x8, x9, x10, x11, x12, x13⟩ := blk14c hX.out
      have hstep : Hid ((ps.take (k + 1)).map F = (ps.take k).map F ++ [F p]) := by
        rw [Hid, take_snoc hdx, List.map_append]
        rfl
      have hpb := hid_mk (hps2.out p (List.mem_of_mem_drop (by rw [hdx]; exact .head _)))
      have hml : pm.length ≤ 9 := by
        have := congrArg List.length hpm.out
        rw [List.length_map, List.length_map, List.length_take] at this
        omega
      obtain ⟨Ao, co, rfl, ho1, ho2⟩ := own_slice hown.out
      obtain ⟨na, hna⟩ : ∃ q, pm.length = q := ⟨_, rfl⟩
      rw [hna] at hown hml ho1 ⊢
      replace hna := hid_mk hna
      have hPB : Hid (Blk (wr.alloc (.cells #[.int .i64 p.id, .int .i64 p.nx, .int .i64 p.mt] 53)) wr.heap.size 53 #[.int .i64 p.id, .int .i64 p.nx, .int .i64 p.mt]) := Blk.new _ _ _
      replace hX := hid_mk (hX.out.alloc (.cells #[.int .i64 p.id, .int .i64 p.nx, .int .i64 p.mt] 53))
      have hown1 := hid_mk (hown.out.alloc (.cells #[.int .i64 p.id, .int .i64 p.nx, .int .i64 p.mt] 53))
      have q1 : Below w.heap.size w (wr.alloc (.cells #[.int .i64 p.id, .int .i64 p.nx, .int .i64 p.mt] 53)) := by go_grown
      replace hdx := hid_mk hdx
      go_wp2_with fail
      refine (hES p _ (by have := q1.size; omega) (hN0.out.to q1) hpb.out).mono ?_
      obtain ⟨M, hMM⟩ : ∃ M, F p = M := ⟨_, rfl⟩
      rw [hMM] at hstep ⊢
      rintro e w2 ⟨⟨⟨QA, qn, Qc⟩, ⟨UA, un, Uc⟩⟩, rfl, hMb, hb2⟩
      unfold msgV
      dsimp only at hMb ⊢
      clear hMM c0 c1 c2 xl x0 x1 x2 x3 x4 x5 x6 x7 x8 x9 x10 x11 x12 x13
      have q2 := (after (w := w) hb2 q1).1
      have z2 := q2.size
      have qr : Below wr.heap.size wr w2 := (after (w := wr) hb2 (by go_grown)).1
      replace hX := hid_mk (hX.out.keep hb2)
      have hown2 := own_keep hown.out qr
      have hok2 : ∀ p ∈ pm, MsOk w2 B p.1 p.2 := fun p hp => (hok.out p hp).to qr
      have hnB : Blk (w2.alloc (.cells #[.int .i64 M.kind, .int .i64 M.fr, .int .i64 M.to, .int .i64 M.term, .bool M.ok, .int .i64 M.index, .int .i64 M.lterm, .slice QA qn Qc, .int .i64 M.commit, .string M.s, .slice UA un Uc] 32)) w2.heap.size 32 #[.int .i64 M.kind, .int .i64 M.fr, .int .i64 M.to, .int .i64 M.term, .bool M.ok, .int .i64 M.index, .int .i64 M.lterm, .slice QA qn Qc, .int .i64 M.commit, .string M.s, .slice UA un Uc] := Blk.new _ _ _
      have qa : Below w2.heap.size w2 (w2.alloc (.cells #[.int .i64 M.kind, .int .i64 M.fr, .int .i64 M.to, .int .i64 M.term, .bool M.ok, .int .i64 M.index, .int .i64 M.lterm, .slice QA qn Qc, .int .i64 M.commit, .string M.s, .slice UA un Uc] 32)) := by go_grown
      have hMb2 := hMb.to qa
      have hnew := hid_mk (mgs_blk (M := M) (b := ⟨⟨QA, qn, Qc⟩, ⟨UA, un, Uc⟩⟩) hnB hMb2).1
      have hown' := hid_mk (hown2.alloc (.cells #[.int .i64 M.kind, .int .i64 M.fr, .int .i64 M.to, .int .i64 M.term, .bool M.ok, .int .i64 M.index, .int .i64 M.lterm, .slice QA qn Qc, .int .i64 M.commit, .string M.s, .slice UA un Uc] 32))
      have hok3 : Hid (∀ p ∈ pm ++ [(M, ⟨⟨QA, qn, Qc⟩, ⟨UA, un, Uc⟩⟩)], MsOk (w2.alloc (.cells #[.int .i64 M.kind, .int .i64 M.fr, .int .i64 M.to, .int .i64 M.term, .bool M.ok, .int .i64 M.index, .int .i64 M.lterm, .slice QA qn Qc, .int .i64 M.commit, .string M.s, .slice UA un Uc] 32)) B p.1 p.2) := fun p hp => by
        rcases List.mem_append.1 hp with hp | hp
        · exact (hok2 p hp).to qa
        · rw [List.mem_singleton] at hp
          subst hp
          exact hMb2
      replace hX := hid_mk (hX.out.alloc (.cells #[.int .i64 M.kind, .int .i64 M.fr, .int .i64 M.to, .int .i64 M.term, .bool M.ok, .int .i64 M.index, .int .i64 M.lterm, .slice QA qn Qc, .int .i64 M.commit, .string M.s, .slice UA un Uc] 32))
      have q3 : Below w.heap.size w (w2.alloc (.cells #[.int .i64 M.kind, .int .i64 M.fr, .int .i64 M.to, .int .i64 M.term, .bool M.ok, .int .i64 M.index, .int .i64 M.lterm, .slice QA qn Qc, .int .i64 M.commit, .string M.s, .slice UA un Uc] 32)) := by go_grown
      clear hown hown1 hown2 hok hok2 hnB qa hMb hMb2 hb2 qr
      go_wp2_with (at_builtin; refine wpList_append_any _ rfl (.tmp 13) (.tmp 17) _ rfl w.heap.size 32 i0 _ 11 128 Tryz.underlying34 hi0 hz0 hz1 hz2 rfl (by omega) _ na _ rfl hown'.out B (some ⟨w2.heap.size, 0, none⟩) 1 1 _ rfl hnew.out (msg_one _) (by simp only [maxLen]; omega) (by omega) (by simp only [World.size_alloc]; omega) ?_; intro v1 wa hown2 hga hat2)
      have qb : Below w.heap.size w wa := grown_below q3 hga (fun k hk => (World.ownsRow.lt hown'.out k hk).1)
      have hXa := hid_mk (Blk.grown hX.out hga (own_ne hown'.out hX.out))
      have hkr : KR (w2.alloc (.cells #[.int .i64 M.kind, .int .i64 M.fr, .int .i64 M.to, .int .i64 M.term, .bool M.ok, .int .i64 M.index, .int .i64 M.lterm, .slice QA qn Qc, .int .i64 M.commit, .string M.s, .slice UA un Uc] 32)) wa B := (KR.own hown'.out hga).low hBw
      have hok4 : Hid (∀ p ∈ pm ++ [(M, ⟨⟨QA, qn, Qc⟩, ⟨UA, un, Uc⟩⟩)], MsOk wa B p.1 p.2) := fun p hp => (hok3.out p hp).kr' hkr
      have hrow : Hid (wa.ownsRow w.heap.size 32 11 v1 (pm ++ [(M, (⟨⟨QA, qn, Qc⟩, ⟨UA, un, Uc⟩⟩ : MsA))]).length (mgsL (pm ++ [(M, ⟨⟨QA, qn, Qc⟩, ⟨UA, un, Uc⟩⟩)]))) := by
        rw [List.length_append, hna.out]
        unfold mgsL at hown2 ⊢
        rw [List.flatMap_append]
        exact hown2
      have hpm2 : Hid ((pm ++ [(M, (⟨⟨QA, qn, Qc⟩, ⟨UA, un, Uc⟩⟩ : MsA))]).map Prod.fst = (ps.take (k + 1)).map F) := by
        rw [Hid, hstep.out, List.map_append, hpm.out]
        rfl
      clear hown2 hga hat2 hkr hok3 hnew hown' hX
      go_roundw
      case rel => exact ⟨k + 1, pm ++ [(M, ⟨⟨QA, qn, Qc⟩, ⟨UA, un, Uc⟩⟩)], by go_num, by omega, qb, hrow, hok4, hpm2, hXa⟩
      case measure => simp [intOf]; omega
    · have hkn : k = pn := by omega
      obtain ⟨Ao, co, rfl, ho1, ho2⟩ := own_slice hown.out
      have hM1 : Hid (Mgs wr B Ao pm.length pm) := ⟨Reads.of_own hown.out, hok.out⟩
      have hfin : Hid (pm.map Prod.fst = ps.map F) := by
        rw [Hid, hpm.out, List.take_of_length_le (by omega)]
      obtain ⟨na, hna⟩ : ∃ q, pm.length = q := ⟨_, rfl⟩
      rw [hna] at hM1 ho1 ⊢
      replace hna := hid_mk hna
      clear hown hok hpm
      go_wp2
      refine ends_ret hQ (results_tmp rfl _ _ _) rfl ?_
      exact ⟨Ao, na, co, pm, rfl, hM1.out, hfin.out, ho1, hb⟩
set_option maxRecDepth 100000 in
set_option maxHeartbeats 12800000 in
theorem ESendTo_any (N : Nd) (a : NdA) (q : Int) (w : World) {B : Nat} (hBw : B ≤ w.heap.size) (hN : NdOk w B N a) (ht : Tab w) :
    Calls Tryz.prog 25 #[nodeV N a, .int .i64 q] w (RetMs w B (sendL N q)) := by
  obtain ⟨zr, hzr⟩ : ∃ z, rightN N = z := ⟨_, rfl⟩
  obtain ⟨F, hF⟩ : ∃ F, sendM N = F := ⟨_, rfl⟩
  have hES : zr = true → ∀ (p : Pr) (w : World) (h0 : B ≤ w.heap.size) (k : NdOk w B N a) (hp : 1 ≤ p.nx ∧ p.nx ≤ lastJ N.h.l + 1), Calls Tryz.prog 75 #[nodeV N a, prV p] w (RetM w B (F p)) := fun e p w h0 k hp => by
    rw [← hF]
    exact ESend_any N a p w h0 k (by rw [hzr]; exact e) hp
  have hps2 : Hid (zr = true → ∀ p ∈ N.ps, 1 ≤ p.nx ∧ p.nx ≤ lastJ N.h.l + 1) := fun e p hp => ((okPs_iff.1 (right_parts (by rw [hzr]; exact e)).2.2.2.2.2.2.2.2.2).1 p hp).2.2.1
  have hpl : Hid (zr = true → N.ps.length ≤ 9) := fun e => prs_len (right_parts (by rw [hzr]; exact e)).2.2.2.2.2.2.2.2.2
  obtain ⟨L, hL⟩ : ∃ L, sendL N q = L := ⟨_, rfl⟩
  have hno : Hid ((zr && N.role == 2) = false → L = []) := fun e => by
    rw [← hL]
    unfold sendL
    rw [hzr, e]
    rfl
  have hyes : Hid ((zr && N.role == 2) = true → L = resL F q N.ps) := fun e => by
    rw [← hL, ← hF]
    unfold sendL
    rw [hzr, e]
    rfl
  rw [hL]
  have hER := ERight_any N a
  rw [hzr] at hER
  have hN0 := hid_mk hN
  have hPr := hid_mk hN.ps
  have hlen := hN.ps.len
  clear hL hN hF hzr
  obtain ⟨id, ⟨t, v, ⟨base, bt, rs⟩, s, vs⟩, role, lead, timer, commit, got, ps⟩ := N
  obtain ⟨⟨RA, n, Rc⟩, ⟨VA, m, Vc⟩, ⟨GA, gn, Gc⟩, ⟨PA, pn, Pc⟩⟩ := a
  dsimp only at hES hPr hlen hps2 hpl hno hyes hER
  unfold nodeV at hES hER
  dsimp only at hES hER
  have hX : Hid (Blk (w.alloc (.cells #[.int .i64 id, .int .i64 t, .int .i64 v, .int .i64 base, .int .i64 bt, .slice RA n Rc, .string s, .slice VA m Vc, .int .i64 role, .int .i64 lead, .int .i64 timer, .int .i64 commit, .slice GA gn Gc, .slice PA pn Pc] 30)) w.heap.size 30 #[.int .i64 id, .int .i64 t, .int .i64 v, .int .i64 base, .int .i64 bt, .slice RA n Rc, .string s, .slice VA m Vc, .int .i64 role, .int .i64 lead, .int .i64 timer, .int .i64 commit, .slice GA gn Gc, .slice PA pn Pc]) := Blk.new _ _ _
  show Calls Tryz.prog 25 #[.agg #[.int .i64 id, .int .i64 t, .int .i64 v, .int .i64 base, .int .i64 bt, .slice RA n Rc, .string s, .slice VA m Vc, .int .i64 role, .int .i64 lead, .int .i64 timer, .int .i64 commit, .slice GA gn Gc, .slice PA pn Pc], .int .i64 q] w _
  refine calls_of_wpQ Tryz.func25 rfl ?_
  intro Q hQ
  simp only [Tryz.ntmps25, List.size_toArray, List.length_cons, List.length_nil, Nat.reduceAdd, Nat.reduceSub, Array.replicate_succ, Array.replicate_zero, List.push_toArray, List.append_toArray, List.nil_append, List.cons_append]
  go_wp2_with fail
  refine (hER _ (B := B) (hN0.out.to (by go_grown)) (ht.to (by go_grown))).mono ?_
  rintro e w1 ⟨rfl, hb1⟩
  have q1 := (after (w := w) hb1 (by go_grown)).1
  replace hX := hid_mk (hX.out.keep (after hb1 (by go_grown)).1)
  clear hb1
  cases zr
  case false =>
    have hn := hid_mk (hno.out rfl)
    go_wp2
    refine ends_ret hQ (results_tmp rfl _ _ _) rfl ?_
    exact ⟨none, 0, 0, [], rfl, mgs_nil, by rw [hn.out]; rfl, Nat.le_refl _, q1⟩
  have hpn := hpl.out rfl
  have hpn2 : pn ≤ 9 := by omega
  obtain ⟨xl, x0, x1, x2, x3, x4, x5, x6, x7, x8, x9, x10, x11, x12, x13⟩ := blk14c hX.out
  by_cases g1 : role = 2
  case neg =>
    have hn := hid_mk (hno.out (by simpa using g1))
    have g1' : (role != 2) = true := by simpa using g1
    replace g1 := hid_mk g1
    go_wp2
    refine ends_ret hQ (results_tmp rfl _ _ _) rfl ?_
    exact ⟨none, 0, 0, [], rfl, mgs_nil, by rw [hn.out]; rfl, Nat.le_refl _, q1⟩
  have g1' : (role != 2) = false := by simpa using g1
  have hy : Hid (L = resL F q (ps.drop 0)) := by rw [Hid, List.drop_zero]; exact hyes.out (by simpa using g1)
  replace g1 := hid_mk g1
  have hps3 := hid_mk (hps2.out rfl)
  replace hES := hES rfl
  clear hno hyes hps2 hpl hER
  go_wp2
  go_loopw [18] (fun i wr => ∃ (k : Nat), i = .int .i64 k ∧ k ≤ pn ∧ Below w.heap.size w wr ∧ Hid (L = resL F q (ps.drop k)) ∧ Hid (Blk wr w.heap.size 30 #[.int .i64 id, .int .i64 t, .int .i64 v, .int .i64 base, .int .i64 bt, .slice RA n Rc, .string s, .slice VA m Vc, .int .i64 role, .int .i64 lead, .int .i64 timer, .int .i64 commit, .slice GA gn Gc, .slice PA pn Pc])) (fun i _ => pn - (intOf i).toNat)
  case atStart => exact ⟨0, rfl, Nat.zero_le _, q1, hy, hX⟩
  case round =>
    clear hX xl x0 x1 x2 x3 x4 x5 x6 x7 x8 x9 x10 x11 x12 x13 hy q1
    obtain ⟨k, rfl, hk, hb, hL, hX⟩ := hrel
    have zr := hb.size
    by_cases hkv : k < pn
    · obtain ⟨bv, ov, p, hA, hbv, hdx, c0, c1, c2⟩ := (hPr.out.to hb).at_ hkv
      subst hA
      obtain ⟨xl, x0, x1, x2, x3, x4, x5, x6, x7, x8, x9, x10, x11, x12, x13⟩ := blk14c hX.out
      have hpb := hid_mk (hps3.out p (List.mem_of_mem_drop (by rw [hdx]; exact .head _)))
      have hPB : Hid (Blk (wr.alloc (.cells #[.int .i64 p.id, .int .i64 p.nx, .int .i64 p.mt] 53)) wr.heap.size 53 #[.int .i64 p.id, .int .i64 p.nx, .int .i64 p.mt]) := Blk.new _ _ _
      have q1 : Below w.heap.size w (wr.alloc (.cells #[.int .i64 p.id, .int .i64 p.nx, .int .i64 p.mt] 53)) := by go_grown
      have hXn := hid_mk (hX.out.alloc (.cells #[.int .i64 p.id, .int .i64 p.nx, .int .i64 p.mt] 53))
      by_cases g2 : p.id = q
      · have g2' : (p.id == q) = true := by simpa using g2
        have hLn : Hid (L = [F p]) := by rw [Hid, hL.out, hdx, resL_cons, if_pos g2]
        replace hdx := hid_mk hdx
        replace g2 := hid_mk g2
        go_wp2_with fail
        refine (hES p _ (by have := q1.size; omega) (hN0.out.to q1) hpb.out).mono ?_
        obtain ⟨M, hMM⟩ : ∃ M, F p = M := ⟨_, rfl⟩
        rw [hMM] at hLn ⊢
        rintro e w2 ⟨⟨⟨QA, qn, Qc⟩, ⟨UA, un, Uc⟩⟩, rfl, hMb, hb2⟩
        unfold msgV
        dsimp only at hMb ⊢
        have q2 := (after (w := w) hb2 q1).1
        have z2 := q2.size
        have hnB : Blk (w2.alloc (.cells #[.int .i64 M.kind, .int .i64 M.fr, .int .i64 M.to, .int .i64 M.term, .bool M.ok, .int .i64 M.index, .int .i64 M.lterm, .slice QA qn Qc, .int .i64 M.commit, .string M.s, .slice UA un Uc] 32)) w2.heap.size 32 #[.int .i64 M.kind, .int .i64 M.fr, .int .i64 M.to, .int .i64 M.term, .bool M.ok, .int .i64 M.index, .int .i64 M.lterm, .slice QA qn Qc, .int .i64 M.commit, .string M.s, .slice UA un Uc] := Blk.new _ _ _
        have qa : Below w2.heap.size w2 (w2.alloc (.cells #[.int .i64 M.kind, .int .i64 M.fr, .int .i64 M.to, .int .i64 M.term, .bool M.ok, .int .i64 M.index, .int .i64 M.lterm, .slice QA qn Qc, .int .i64 M.commit, .string M.s, .slice UA un Uc] 32)) := by go_grown
        have q3 : Below w.heap.size w (w2.alloc (.cells #[.int .i64 M.kind, .int .i64 M.fr, .int .i64 M.to, .int .i64 M.term, .bool M.ok, .int .i64 M.index, .int .i64 M.lterm, .slice QA qn Qc, .int .i64 M.commit, .string M.s, .slice UA un Uc] 32)) := by go_grown
        have hnew := hid_mk (mgs_blk (M := M) (b := ⟨⟨QA, qn, Qc⟩, ⟨UA, un, Uc⟩⟩) hnB (hMb.to qa))
        clear hMM c0 c1 c2 xl x0 x1 x2 x3 x4 x5 x6 x7 x8 x9 x10 x11 x12 x13 hnB hMb hb2 q2 hX hXn hPB
        go_wp2
        refine ends_ret hQ (results_tmp rfl _ _ _) rfl ?_
        exact ⟨_, 1, 1, _, rfl, hnew.out, by rw [hLn.out]; rfl, Nat.le_refl _, q3⟩
      · have g2' : (p.id == q) = false := by simpa using g2
        have hLn : Hid (L = resL F q (ps.drop (k + 1))) := by rw [Hid, hL.out, hdx, resL_cons, if_neg g2]
        replace hdx := hid_mk hdx
        replace g2 := hid_mk g2
        go_wp2
        go_roundw
        case rel => exact ⟨k + 1, by go_num, by omega, q1, hLn, hXn⟩
        case measure => simp [intOf]; omega
    · have hLn : Hid (L = []) := by
        rw [Hid, hL.out, List.drop_eq_nil_of_le (by omega)]
        rfl
      clear hL
      go_wp2
      refine ends_ret hQ (results_tmp rfl _ _ _) rfl ?_
      exact ⟨none, 0, 0, [], rfl, mgs_nil, by rw [hLn.out]; rfl, Nat.le_refl _, hb⟩
end Go.Proofs.YtncdjmpdbinanaaGreatDoor
