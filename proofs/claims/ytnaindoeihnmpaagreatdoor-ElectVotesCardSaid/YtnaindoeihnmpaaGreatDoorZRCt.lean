/-
  WHAT IS PROVED HERE: what the reference's Count hands back of a node that may be. Condition: the slices are of at most 2^43 elements.
-/
import Derived.Test.YtnaindoeihnmpaaGreatDoorZGRlt
import Derived.Test.YtnaindoeihnmpaaGreatDoorZCnt
import Derived.Test.YtnaindoeihnmpaaGreatDoorZKepP
import Derived.Test.YtnaindoeihnmpaaGreatDoorZRMay6
import Derived.Test.YtnaindoeihnmpaaGreatDoorZKr
namespace Go.Proofs.YtnaindoeihnmpaaGreatDoor
open Go.RowKit

/-- who is counted, of the first k -/
def refG (fr : Int) (got : List Int) (k : Nat) : List Int := ((List.range k).map fun (i : Nat) => (i : Int) + 1).filter fun x => x == fr || inL x got
theorem refG_succ (fr : Int) (got : List Int) (k : Nat) : refG fr got (k + 1) = refG fr got k ++ (if ((k : Int) + 1 == fr || inL ((k : Int) + 1) got) then [(k : Int) + 1] else []) := by
  unfold refG
  rw [List.range_succ, List.map_append, List.filter_append]
  congr 1
  simp only [List.map_cons, List.map_nil, List.filter_cons, List.filter_nil]
theorem inL_iffR (x : Int) : ∀ l, inL x l = true ↔ x ∈ l
  | [] => by simp [inL]
  | y :: ys => by
    unfold inL
    by_cases h : x = y <;> simp [h, inL_iffR x ys]
theorem refG_mem {fr : Int} {got : List Int} {k : Nat} {x : Int} : x ∈ refG fr got k ↔ (1 ≤ x ∧ x ≤ k) ∧ (x = fr ∨ x ∈ got) := by
  unfold refG
  rw [List.mem_filter, List.mem_map]
  simp only [List.mem_range, Bool.or_eq_true, beq_iff_eq, inL_iffR]
  constructor
  · rintro ⟨⟨i, hi, rfl⟩, h⟩
    exact ⟨by omega, h⟩
  · rintro ⟨h1, h⟩
    exact ⟨⟨(x - 1).toNat, by omega, by omega⟩, h⟩
theorem refG_asc (fr : Int) (got : List Int) : ∀ k, (refG fr got k).Pairwise (· < ·)
  | 0 => List.Pairwise.nil
  | k + 1 => by
    rw [refG_succ, List.pairwise_append]
    refine ⟨refG_asc fr got k, by split <;> simp, fun a ha b hb => ?_⟩
    have := (refG_mem.1 ha).1
    split at hb
    · rw [List.mem_singleton] at hb; omega
    · cases hb
theorem asc_ext : ∀ {l l' : List Int}, l.Pairwise (· < ·) → l'.Pairwise (· < ·) → (∀ x, x ∈ l ↔ x ∈ l') → l = l'
  | [], [], _, _, _ => rfl
  | [], b :: l', _, _, h => by have := (h b).2 (.head _); cases this
  | a :: l, [], _, _, h => by have := (h a).1 (.head _); cases this
  | a :: l, b :: l', h1, h2, h => by
    rw [List.pairwise_cons] at h1 h2
    have hab : a = b := by
      rcases List.mem_cons.1 ((h a).1 (.head _)) with e | e
      · exact e
      · rcases List.mem_cons.1 ((h b).2 (.head _)) with e' | e'
        · exact e'.symm
        · have := h2.1 a e; have := h1.1 b e'; omega
    subst hab
    congr 1
    refine asc_ext h1.2 h2.2 fun x => ⟨fun hx => ?_, fun hx => ?_⟩
    · rcases List.mem_cons.1 ((h x).1 (.tail _ hx)) with e | e
      · have := h1.1 x hx; omega
      · exact e
    · rcases List.mem_cons.1 ((h x).2 (.tail _ hx)) with e | e
      · have := h2.1 x hx; omega
      · exact e
theorem gotM_memR {g : List Int} {x y : Int} : y ∈ gotM g x ↔ y = x ∨ y ∈ g := by
  unfold gotM
  split
  · rename_i h
    have : x ∈ g := by simpa using h
    constructor
    · exact fun hy => .inr hy
    · rintro (rfl | hy)
      · exact this
      · exact hy
  · constructor
    · intro hy
      rw [List.mem_append, List.mem_cons] at hy
      rcases hy with hy | rfl | hy
      · exact .inr (List.mem_of_mem_take hy)
      · exact .inl rfl
      · exact .inr (List.mem_of_mem_drop hy)
    · intro hy
      rw [List.mem_append, List.mem_cons]
      rcases hy with rfl | hy
      · exact .inr (.inl rfl)
      · rw [← List.take_append_drop (posL x g) g, List.mem_append] at hy
        rcases hy with hy | hy
        · exact .inl hy
        · exact .inr (.inr hy)
theorem refG_got {fr : Int} {got : List Int} (h : ascL none got = true) (hf : 1 ≤ fr ∧ fr ≤ 9) : refG fr got 9 = gotM got fr := by
  refine asc_ext (refG_asc fr got 9) (asc_none (got_asc h hf)).1 fun x => ?_
  rw [refG_mem, gotM_memR]
  constructor
  · exact fun h => h.2
  · intro hx
    refine ⟨?_, hx⟩
    rcases hx with rfl | hx
    · omega
    · have := asc_bounds h x hx
      omega
theorem refG_len (fr : Int) (got : List Int) (k : Nat) : (refG fr got k).length ≤ k := by
  unfold refG
  refine Nat.le_trans (List.length_filter_le _ _) ?_
  simp
theorem intInfoR : (Tryz.prog.info? 3).map (fun i => (i.zero, i.size, i.bytes)) = some (some (.int .i64 0), 1, 8) := by kernel_rfl
set_option maxRecDepth 100000 in
set_option maxHeartbeats 12800000 in
theorem RCount_any (N : Nd) (a : NdA) (M : Ms) (b : MsA) (w : World) {B : Nat} (hBw : B ≤ w.heap.size) (hN : NdOk w B N a) (hMs : MsOk w B M b) (hzr : rightN N = true) :
    Calls Tryz.prog 17 #[nodeV N a, msgV M b] w fun e w' => RetC w' B (countN N M) (countW N M) e ∧ Below w.heap.size w w' := by
  have hBy : B ≤ w.heap.size + 1 + 1 := by omega
  obtain ⟨zm, hzm⟩ : ∃ z, mayM M = z := ⟨_, rfl⟩
  obtain ⟨N', hN'⟩ : ∃ z, countN N M = z := ⟨_, rfl⟩
  obtain ⟨Wn, hWn⟩ : ∃ z, countW N M = z := ⟨_, rfl⟩
  obtain ⟨vo, hvo⟩ : ∃ z, votersN N = z := ⟨_, rfl⟩
  have hNo : Hid ((zm && (M.kind == 2 && (M.to == N.id && (M.term == N.h.t && (M.ok && N.role == 1))))) = false → N' = N ∧ Wn = false) := fun e => by
    have hp : countC N M = false := by unfold countC; rw [hzr, hzm]; exact e
    rw [← hN', ← hWn]
    unfold countN countW
    simp [hp]
  have hYes : Hid ((zm && (M.kind == 2 && (M.to == N.id && (M.term == N.h.t && (M.ok && N.role == 1))))) = true → N' = ⟨N.id, N.h, N.role, N.lead, N.timer, N.commit, refG M.fr N.got 9, N.ps⟩ ∧ Wn = winsL vo (refG M.fr N.got 9)) := fun e => by
    have hp : countC N M = true := by unfold countC; rw [hzr, hzm]; exact e
    have hmm : mayM M = true := by
      rw [hzm]
      simp only [Bool.and_eq_true] at e
      exact e.1
    have hf : 1 ≤ M.fr ∧ M.fr ≤ 9 := by
      unfold mayM inB at hmm
      simp only [Bool.and_eq_true, decide_eq_true_eq] at hmm
      omega
    rw [← hN', ← hWn, ← hvo, refG_got (got_right hzr) hf]
    unfold countN countW
    simp [hp]
  have hjl := right_n hzr
  rw [hN', hWn]
  replace hzm := hid_mk hzm
  clear hN' hWn
  have hEM := NMay_any M b
  have hN0 := hN
  have hM0 := hMs
  obtain ⟨hr, hrc, hrb, hi, hvc, hvb, _, hgi, hgc, hgb, _, _, _⟩ := hN
  clear hMs
  have hgl9 : N.got.length ≤ 9 := (asc_none (got_right hzr)).2
  have hn200 : a.R.n ≤ 200 := by rw [← hr.len]; exact (right_bounds hjl.1).2.2.2.2.1
  have hm7 : a.V.n ≤ 7 := by rw [← hi.len]; exact (right_len hjl.2.1).2
  have hg9 : a.G.n ≤ 9 := by rw [← hgi.len]; exact hgl9
  clear hgl9 hjl hzr
  obtain ⟨id, ⟨t, v, ⟨base, bt, rs⟩, s, vs⟩, role, lead, timer, commit, got, ps⟩ := N
  obtain ⟨⟨RA, n, Rc⟩, ⟨VA, m, Vc⟩, ⟨GA, gn, Gc⟩, ⟨PA, pn, Pc⟩⟩ := a
  obtain ⟨kind, fr, mto, mt, ok, index, lterm, mrs, mcommit, ms, mvs⟩ := M
  obtain ⟨⟨QA, qn, Qc⟩, ⟨UA, un, Uc⟩⟩ := b
  unfold votersN at hvo
  unfold nodeV
  unfold msgV at hEM ⊢
  dsimp only at hr hrc hrb hi hvc hvb hgi hgc hgb hNo hYes hEM hvo hn200 hm7 hg9 ⊢
  replace hvo := hid_mk hvo
  replace hgi := hid_mk hgi
  have hX := hid_mk (((Blk.new w 30 #[.int .i64 id, .int .i64 t, .int .i64 v, .int .i64 base, .int .i64 bt, .slice RA n Rc, .string s, .slice VA m Vc, .int .i64 role, .int .i64 lead, .int .i64 timer, .int .i64 commit, .slice GA gn Gc, .slice PA pn Pc]).alloc (.cells #[.int .i64 kind, .int .i64 fr, .int .i64 mto, .int .i64 mt, .bool ok, .int .i64 index, .int .i64 lterm, .slice QA qn Qc, .int .i64 mcommit, .string ms, .slice UA un Uc] 33)).alloc (.cells #[.int .i64 0, .int .i64 0, .int .i64 0, .int .i64 0, .int .i64 0, .slice none 0 0, .string ⟨#[]⟩, .slice none 0 0, .int .i64 0, .int .i64 0, .int .i64 0, .int .i64 0, .slice none 0 0, .slice none 0 0] 30))
  have hM : Hid (Blk (((w.alloc (.cells #[.int .i64 id, .int .i64 t, .int .i64 v, .int .i64 base, .int .i64 bt, .slice RA n Rc, .string s, .slice VA m Vc, .int .i64 role, .int .i64 lead, .int .i64 timer, .int .i64 commit, .slice GA gn Gc, .slice PA pn Pc] 30)).alloc (.cells #[.int .i64 kind, .int .i64 fr, .int .i64 mto, .int .i64 mt, .bool ok, .int .i64 index, .int .i64 lterm, .slice QA qn Qc, .int .i64 mcommit, .string ms, .slice UA un Uc] 33)).alloc (.cells #[.int .i64 0, .int .i64 0, .int .i64 0, .int .i64 0, .int .i64 0, .slice none 0 0, .string ⟨#[]⟩, .slice none 0 0, .int .i64 0, .int .i64 0, .int .i64 0, .int .i64 0, .slice none 0 0, .slice none 0 0] 30)) (w.heap.size + 1) 33 #[.int .i64 kind, .int .i64 fr, .int .i64 mto, .int .i64 mt, .bool ok, .int .i64 index, .int .i64 lterm, .slice QA qn Qc, .int .i64 mcommit, .string ms, .slice UA un Uc]) := (Blk.new_ (by simp)).alloc _
  have hY : Hid (Blk (((w.alloc (.cells #[.int .i64 id, .int .i64 t, .int .i64 v, .int .i64 base, .int .i64 bt, .slice RA n Rc, .string s, .slice VA m Vc, .int .i64 role, .int .i64 lead, .int .i64 timer, .int .i64 commit, .slice GA gn Gc, .slice PA pn Pc] 30)).alloc (.cells #[.int .i64 kind, .int .i64 fr, .int .i64 mto, .int .i64 mt, .bool ok, .int .i64 index, .int .i64 lterm, .slice QA qn Qc, .int .i64 mcommit, .string ms, .slice UA un Uc] 33)).alloc (.cells #[.int .i64 0, .int .i64 0, .int .i64 0, .int .i64 0, .int .i64 0, .slice none 0 0, .string ⟨#[]⟩, .slice none 0 0, .int .i64 0, .int .i64 0, .int .i64 0, .int .i64 0, .slice none 0 0, .slice none 0 0] 30)) (w.heap.size + 1 + 1) 30 #[.int .i64 0, .int .i64 0, .int .i64 0, .int .i64 0, .int .i64 0, .slice none 0 0, .string ⟨#[]⟩, .slice none 0 0, .int .i64 0, .int .i64 0, .int .i64 0, .int .i64 0, .slice none 0 0, .slice none 0 0]) := Blk.new_ (by simp)
  refine calls_of_wpQ Tryz.func17 rfl ?_
  intro Q hQ
  simp only [Tryz.ntmps17, List.size_toArray, List.length_cons, List.length_nil, Nat.reduceAdd, Nat.reduceSub, Array.replicate_succ, Array.replicate_zero, List.push_toArray, List.append_toArray, List.nil_append, List.cons_append]
  go_wp2_with fail
  refine (hEM _ (B := B) (hM0.to (by go_grown))).mono ?_
  rw [hzm.out]
  rintro e w2 ⟨rfl, hb1⟩
  have q2 := (after (w := w) hb1 (by go_grown)).1
  have z2 := q2.size
  replace hX := hid_mk (hX.out.keep (after hb1 (by go_grown)).1)
  replace hY := hid_mk (hY.out.keep (after hb1 (by go_grown)).1)
  replace hM := hid_mk (hM.out.keep (after hb1 (by go_grown)).1)
  clear hb1
  obtain ⟨xl, x0, x1, x2, x3, x4, x5, x6, x7, x8, x9, x10, x11, x12, x13, xf0, xf1, xf2, xf3, xf4, xf5, xf6, xf7, xf8, xf9, xf10, xf11, xf12, xf13⟩ := blk14f hX.out
  obtain ⟨yl, y0, y1, y2, y3, y4, y5, y6, y7, y8, y9, y10, y11, y12, y13, yf0, yf1, yf2, yf3, yf4, yf5, yf6, yf7, yf8, yf9, yf10, yf11, yf12, yf13⟩ := blk14f hY.out
  obtain ⟨ml, m0, m1, m2, m3, m4, m5, m6, m7, m8, m9, m10⟩ := blk11v hM.out
  cases zm
  case false =>
    have hno := hid_mk (hNo.out (rfl))
    go_wp2
    clear xl x0 x1 x2 x3 x4 x5 x6 x7 x8 x9 x10 x11 x12 x13 xf0 xf1 xf2 xf3 xf4 xf5 xf6 xf7 xf8 xf9 xf10 xf11 xf12 xf13 yl y0 y1 y2 y3 y4 y5 y6 y7 y8 y9 y10 y11 y12 y13 yf0 yf1 yf2 yf3 yf4 yf5 yf6 yf7 yf8 yf9 yf10 yf11 yf12 yf13 ml m0 m1 m2 m3 m4 m5 m6 m7 m8 m9 m10
    have kfin := set14_blk hY.out (.int .i64 id) (.int .i64 t) (.int .i64 v) (.int .i64 base) (.int .i64 bt) (.slice RA n Rc) (.string s) (.slice VA m Vc) (.int .i64 role) (.int .i64 lead) (.int .i64 timer) (.int .i64 commit) (.slice GA gn Gc) (.slice PA pn Pc)
    unfold set14 at kfin
    obtain ⟨_, r0, r1, r2, r3, r4, r5, r6, r7, r8, r9, r10, r11, r12, r13⟩ := blk14c kfin
    refine ends_ret hQ (v := .tuple #[.agg #[.int .i64 id, .int .i64 t, .int .i64 v, .int .i64 base, .int .i64 bt, .slice RA n Rc, .string s, .slice VA m Vc, .int .i64 role, .int .i64 lead, .int .i64 timer, .int .i64 commit, .slice GA gn Gc, .slice PA pn Pc], .bool false]) (by simp [results, Tryz.results17, go_sem, r0, r1, r2, r3, r4, r5, r6, r7, r8, r9, r10, r11, r12, r13]) rfl ?_
    exact ⟨⟨⟨⟨RA, n, Rc⟩, ⟨VA, m, Vc⟩, ⟨GA, gn, Gc⟩, ⟨PA, pn, Pc⟩⟩, by rw [hno.out.1, hno.out.2]; rfl, by rw [hno.out.1]; exact hN0.to (set14_below (.int .i64 id) (.int .i64 t) (.int .i64 v) (.int .i64 base) (.int .i64 bt) (.slice RA n Rc) (.string s) (.slice VA m Vc) (.int .i64 role) (.int .i64 lead) (.int .i64 timer) (.int .i64 commit) (.slice GA gn Gc) (.slice PA pn Pc) q2 (by omega : w.heap.size ≤ w.heap.size + 1 + 1))⟩, set14_below (.int .i64 id) (.int .i64 t) (.int .i64 v) (.int .i64 base) (.int .i64 bt) (.slice RA n Rc) (.string s) (.slice VA m Vc) (.int .i64 role) (.int .i64 lead) (.int .i64 timer) (.int .i64 commit) (.slice GA gn Gc) (.slice PA pn Pc) q2 (by omega : w.heap.size ≤ w.heap.size + 1 + 1)⟩
  by_cases k1 : kind = 2
  case neg =>
    have k1' : (kind != 2) = true := by simpa using k1
    have k1n := hid_mk (show (kind == 2) = false by simpa using k1)
    replace k1 := hid_mk k1
    have hno := hid_mk (hNo.out (by rw [k1n.out]; rfl))
    go_wp2
    clear xl x0 x1 x2 x3 x4 x5 x6 x7 x8 x9 x10 x11 x12 x13 xf0 xf1 xf2 xf3 xf4 xf5 xf6 xf7 xf8 xf9 xf10 xf11 xf12 xf13 yl y0 y1 y2 y3 y4 y5 y6 y7 y8 y9 y10 y11 y12 y13 yf0 yf1 yf2 yf3 yf4 yf5 yf6 yf7 yf8 yf9 yf10 yf11 yf12 yf13 ml m0 m1 m2 m3 m4 m5 m6 m7 m8 m9 m10
    have kfin := set14_blk hY.out (.int .i64 id) (.int .i64 t) (.int .i64 v) (.int .i64 base) (.int .i64 bt) (.slice RA n Rc) (.string s) (.slice VA m Vc) (.int .i64 role) (.int .i64 lead) (.int .i64 timer) (.int .i64 commit) (.slice GA gn Gc) (.slice PA pn Pc)
    unfold set14 at kfin
    obtain ⟨_, r0, r1, r2, r3, r4, r5, r6, r7, r8, r9, r10, r11, r12, r13⟩ := blk14c kfin
    refine ends_ret hQ (v := .tuple #[.agg #[.int .i64 id, .int .i64 t, .int .i64 v, .int .i64 base, .int .i64 bt, .slice RA n Rc, .string s, .slice VA m Vc, .int .i64 role, .int .i64 lead, .int .i64 timer, .int .i64 commit, .slice GA gn Gc, .slice PA pn Pc], .bool false]) (by simp [results, Tryz.results17, go_sem, r0, r1, r2, r3, r4, r5, r6, r7, r8, r9, r10, r11, r12, r13]) rfl ?_
    exact ⟨⟨⟨⟨RA, n, Rc⟩, ⟨VA, m, Vc⟩, ⟨GA, gn, Gc⟩, ⟨PA, pn, Pc⟩⟩, by rw [hno.out.1, hno.out.2]; rfl, by rw [hno.out.1]; exact hN0.to (set14_below (.int .i64 id) (.int .i64 t) (.int .i64 v) (.int .i64 base) (.int .i64 bt) (.slice RA n Rc) (.string s) (.slice VA m Vc) (.int .i64 role) (.int .i64 lead) (.int .i64 timer) (.int .i64 commit) (.slice GA gn Gc) (.slice PA pn Pc) q2 (by omega : w.heap.size ≤ w.heap.size + 1 + 1))⟩, set14_below (.int .i64 id) (.int .i64 t) (.int .i64 v) (.int .i64 base) (.int .i64 bt) (.slice RA n Rc) (.string s) (.slice VA m Vc) (.int .i64 role) (.int .i64 lead) (.int .i64 timer) (.int .i64 commit) (.slice GA gn Gc) (.slice PA pn Pc) q2 (by omega : w.heap.size ≤ w.heap.size + 1 + 1)⟩
  have k1' : (kind == 2) = true := by simpa using k1
  have k1x : (kind != 2) = false := by simpa using k1
  replace k1 := hid_mk k1
  by_cases k2 : mto = id
  case neg =>
    have k2' : (mto != id) = true := by simpa using k2
    have k2n := hid_mk (show (mto == id) = false by simpa using k2)
    replace k2 := hid_mk k2
    have hno := hid_mk (hNo.out (by rw [k2n.out, k1.out]; rfl))
    go_wp2
    clear xl x0 x1 x2 x3 x4 x5 x6 x7 x8 x9 x10 x11 x12 x13 xf0 xf1 xf2 xf3 xf4 xf5 xf6 xf7 xf8 xf9 xf10 xf11 xf12 xf13 yl y0 y1 y2 y3 y4 y5 y6 y7 y8 y9 y10 y11 y12 y13 yf0 yf1 yf2 yf3 yf4 yf5 yf6 yf7 yf8 yf9 yf10 yf11 yf12 yf13 ml m0 m1 m2 m3 m4 m5 m6 m7 m8 m9 m10
    have kfin := set14_blk hY.out (.int .i64 id) (.int .i64 t) (.int .i64 v) (.int .i64 base) (.int .i64 bt) (.slice RA n Rc) (.string s) (.slice VA m Vc) (.int .i64 role) (.int .i64 lead) (.int .i64 timer) (.int .i64 commit) (.slice GA gn Gc) (.slice PA pn Pc)
    unfold set14 at kfin
    obtain ⟨_, r0, r1, r2, r3, r4, r5, r6, r7, r8, r9, r10, r11, r12, r13⟩ := blk14c kfin
    refine ends_ret hQ (v := .tuple #[.agg #[.int .i64 id, .int .i64 t, .int .i64 v, .int .i64 base, .int .i64 bt, .slice RA n Rc, .string s, .slice VA m Vc, .int .i64 role, .int .i64 lead, .int .i64 timer, .int .i64 commit, .slice GA gn Gc, .slice PA pn Pc], .bool false]) (by simp [results, Tryz.results17, go_sem, r0, r1, r2, r3, r4, r5, r6, r7, r8, r9, r10, r11, r12, r13]) rfl ?_
    exact ⟨⟨⟨⟨RA, n, Rc⟩, ⟨VA, m, Vc⟩, ⟨GA, gn, Gc⟩, ⟨PA, pn, Pc⟩⟩, by rw [hno.out.1, hno.out.2]; rfl, by rw [hno.out.1]; exact hN0.to (set14_below (.int .i64 id) (.int .i64 t) (.int .i64 v) (.int .i64 base) (.int .i64 bt) (.slice RA n Rc) (.string s) (.slice VA m Vc) (.int .i64 role) (.int .i64 lead) (.int .i64 timer) (.int .i64 commit) (.slice GA gn Gc) (.slice PA pn Pc) q2 (by omega : w.heap.size ≤ w.heap.size + 1 + 1))⟩, set14_below (.int .i64 id) (.int .i64 t) (.int .i64 v) (.int .i64 base) (.int .i64 bt) (.slice RA n Rc) (.string s) (.slice VA m Vc) (.int .i64 role) (.int .i64 lead) (.int .i64 timer) (.int .i64 commit) (.slice GA gn Gc) (.slice PA pn Pc) q2 (by omega : w.heap.size ≤ w.heap.size + 1 + 1)⟩
  have k2' : (mto == id) = true := by simpa using k2
  have k2x : (mto != id) = false := by simpa using k2
  replace k2 := hid_mk k2
  by_cases k3 : mt = t
  case neg =>
    have k3' : (mt != t) = true := by simpa using k3
    have k3n := hid_mk (show (mt == t) = false by simpa using k3)
    replace k3 := hid_mk k3
    have hno := hid_mk (hNo.out (by rw [k3n.out, k2.out, k1.out]; simp))
    go_wp2
    clear xl x0 x1 x2 x3 x4 x5 x6 x7 x8 x9 x10 x11 x12 x13 xf0 xf1 xf2 xf3 xf4 xf5 xf6 xf7 xf8 xf9 xf10 xf11 xf12 xf13 yl y0 y1 y2 y3 y4 y5 y6 y7 y8 y9 y10 y11 y12 y13 yf0 yf1 yf2 yf3 yf4 yf5 yf6 yf7 yf8 yf9 yf10 yf11 yf12 yf13 ml m0 m1 m2 m3 m4 m5 m6 m7 m8 m9 m10
    have kfin := set14_blk hY.out (.int .i64 id) (.int .i64 t) (.int .i64 v) (.int .i64 base) (.int .i64 bt) (.slice RA n Rc) (.string s) (.slice VA m Vc) (.int .i64 role) (.int .i64 lead) (.int .i64 timer) (.int .i64 commit) (.slice GA gn Gc) (.slice PA pn Pc)
    unfold set14 at kfin
    obtain ⟨_, r0, r1, r2, r3, r4, r5, r6, r7, r8, r9, r10, r11, r12, r13⟩ := blk14c kfin
    refine ends_ret hQ (v := .tuple #[.agg #[.int .i64 id, .int .i64 t, .int .i64 v, .int .i64 base, .int .i64 bt, .slice RA n Rc, .string s, .slice VA m Vc, .int .i64 role, .int .i64 lead, .int .i64 timer, .int .i64 commit, .slice GA gn Gc, .slice PA pn Pc], .bool false]) (by simp [results, Tryz.results17, go_sem, r0, r1, r2, r3, r4, r5, r6, r7, r8, r9, r10, r11, r12, r13]) rfl ?_
    exact ⟨⟨⟨⟨RA, n, Rc⟩, ⟨VA, m, Vc⟩, ⟨GA, gn, Gc⟩, ⟨PA, pn, Pc⟩⟩, by rw [hno.out.1, hno.out.2]; rfl, by rw [hno.out.1]; exact hN0.to (set14_below (.int .i64 id) (.int .i64 t) (.int .i64 v) (.int .i64 base) (.int .i64 bt) (.slice RA n Rc) (.string s) (.slice VA m Vc) (.int .i64 role) (.int .i64 lead) (.int .i64 timer) (.int .i64 commit) (.slice GA gn Gc) (.slice PA pn Pc) q2 (by omega : w.heap.size ≤ w.heap.size + 1 + 1))⟩, set14_below (.int .i64 id) (.int .i64 t) (.int .i64 v) (.int .i64 base) (.int .i64 bt) (.slice RA n Rc) (.string s) (.slice VA m Vc) (.int .i64 role) (.int .i64 lead) (.int .i64 timer) (.int .i64 commit) (.slice GA gn Gc) (.slice PA pn Pc) q2 (by omega : w.heap.size ≤ w.heap.size + 1 + 1)⟩
  have k3' : (mt == t) = true := by simpa using k3
  have k3x : (mt != t) = false := by simpa using k3
  replace k3 := hid_mk k3
  cases ok
  case false =>
    have hno := hid_mk (hNo.out (by rw [k3.out, k2.out, k1.out]; simp))
    go_wp2
    clear xl x0 x1 x2 x3 x4 x5 x6 x7 x8 x9 x10 x11 x12 x13 xf0 xf1 xf2 xf3 xf4 xf5 xf6 xf7 xf8 xf9 xf10 xf11 xf12 xf13 yl y0 y1 y2 y3 y4 y5 y6 y7 y8 y9 y10 y11 y12 y13 yf0 yf1 yf2 yf3 yf4 yf5 yf6 yf7 yf8 yf9 yf10 yf11 yf12 yf13 ml m0 m1 m2 m3 m4 m5 m6 m7 m8 m9 m10
    have kfin := set14_blk hY.out (.int .i64 id) (.int .i64 t) (.int .i64 v) (.int .i64 base) (.int .i64 bt) (.slice RA n Rc) (.string s) (.slice VA m Vc) (.int .i64 role) (.int .i64 lead) (.int .i64 timer) (.int .i64 commit) (.slice GA gn Gc) (.slice PA pn Pc)
    unfold set14 at kfin
    obtain ⟨_, r0, r1, r2, r3, r4, r5, r6, r7, r8, r9, r10, r11, r12, r13⟩ := blk14c kfin
    refine ends_ret hQ (v := .tuple #[.agg #[.int .i64 id, .int .i64 t, .int .i64 v, .int .i64 base, .int .i64 bt, .slice RA n Rc, .string s, .slice VA m Vc, .int .i64 role, .int .i64 lead, .int .i64 timer, .int .i64 commit, .slice GA gn Gc, .slice PA pn Pc], .bool false]) (by simp [results, Tryz.results17, go_sem, r0, r1, r2, r3, r4, r5, r6, r7, r8, r9, r10, r11, r12, r13]) rfl ?_
    exact ⟨⟨⟨⟨RA, n, Rc⟩, ⟨VA, m, Vc⟩, ⟨GA, gn, Gc⟩, ⟨PA, pn, Pc⟩⟩, by rw [hno.out.1, hno.out.2]; rfl, by rw [hno.out.1]; exact hN0.to (set14_below (.int .i64 id) (.int .i64 t) (.int .i64 v) (.int .i64 base) (.int .i64 bt) (.slice RA n Rc) (.string s) (.slice VA m Vc) (.int .i64 role) (.int .i64 lead) (.int .i64 timer) (.int .i64 commit) (.slice GA gn Gc) (.slice PA pn Pc) q2 (by omega : w.heap.size ≤ w.heap.size + 1 + 1))⟩, set14_below (.int .i64 id) (.int .i64 t) (.int .i64 v) (.int .i64 base) (.int .i64 bt) (.slice RA n Rc) (.string s) (.slice VA m Vc) (.int .i64 role) (.int .i64 lead) (.int .i64 timer) (.int .i64 commit) (.slice GA gn Gc) (.slice PA pn Pc) q2 (by omega : w.heap.size ≤ w.heap.size + 1 + 1)⟩
  by_cases k5 : role = 1
  case neg =>
    have k5' : (role != 1) = true := by simpa using k5
    have k5n := hid_mk (show (role == 1) = false by simpa using k5)
    replace k5 := hid_mk k5
    have hno := hid_mk (hNo.out (by rw [k5n.out, k3.out, k2.out, k1.out]; simp))
    go_wp2
    clear xl x0 x1 x2 x3 x4 x5 x6 x7 x8 x9 x10 x11 x12 x13 xf0 xf1 xf2 xf3 xf4 xf5 xf6 xf7 xf8 xf9 xf10 xf11 xf12 xf13 yl y0 y1 y2 y3 y4 y5 y6 y7 y8 y9 y10 y11 y12 y13 yf0 yf1 yf2 yf3 yf4 yf5 yf6 yf7 yf8 yf9 yf10 yf11 yf12 yf13 ml m0 m1 m2 m3 m4 m5 m6 m7 m8 m9 m10
    have kfin := set14_blk hY.out (.int .i64 id) (.int .i64 t) (.int .i64 v) (.int .i64 base) (.int .i64 bt) (.slice RA n Rc) (.string s) (.slice VA m Vc) (.int .i64 role) (.int .i64 lead) (.int .i64 timer) (.int .i64 commit) (.slice GA gn Gc) (.slice PA pn Pc)
    unfold set14 at kfin
    obtain ⟨_, r0, r1, r2, r3, r4, r5, r6, r7, r8, r9, r10, r11, r12, r13⟩ := blk14c kfin
    refine ends_ret hQ (v := .tuple #[.agg #[.int .i64 id, .int .i64 t, .int .i64 v, .int .i64 base, .int .i64 bt, .slice RA n Rc, .string s, .slice VA m Vc, .int .i64 role, .int .i64 lead, .int .i64 timer, .int .i64 commit, .slice GA gn Gc, .slice PA pn Pc], .bool false]) (by simp [results, Tryz.results17, go_sem, r0, r1, r2, r3, r4, r5, r6, r7, r8, r9, r10, r11, r12, r13]) rfl ?_
    exact ⟨⟨⟨⟨RA, n, Rc⟩, ⟨VA, m, Vc⟩, ⟨GA, gn, Gc⟩, ⟨PA, pn, Pc⟩⟩, by rw [hno.out.1, hno.out.2]; rfl, by rw [hno.out.1]; exact hN0.to (set14_below (.int .i64 id) (.int .i64 t) (.int .i64 v) (.int .i64 base) (.int .i64 bt) (.slice RA n Rc) (.string s) (.slice VA m Vc) (.int .i64 role) (.int .i64 lead) (.int .i64 timer) (.int .i64 commit) (.slice GA gn Gc) (.slice PA pn Pc) q2 (by omega : w.heap.size ≤ w.heap.size + 1 + 1))⟩, set14_below (.int .i64 id) (.int .i64 t) (.int .i64 v) (.int .i64 base) (.int .i64 bt) (.slice RA n Rc) (.string s) (.slice VA m Vc) (.int .i64 role) (.int .i64 lead) (.int .i64 timer) (.int .i64 commit) (.slice GA gn Gc) (.slice PA pn Pc) q2 (by omega : w.heap.size ≤ w.heap.size + 1 + 1)⟩
  have k5' : (role == 1) = true := by simpa using k5
  have k5x : (role != 1) = false := by simpa using k5
  have hy := hid_mk (hYes.out (by rw [k5, k3.out, k2.out, k1.out]; simp))
  replace k5 := hid_mk k5
  clear hNo hYes
  have own0 := World.ownsRow_lit (base := w.heap.size) (e := 3) (size := 1) w2 #[] 0 q2.size (by unfold maxLen; omega) (by simp)
  have own0' : Hid ((w2.alloc (.cells #[] 3)).ownsRow w.heap.size 3 1 (.slice (some ⟨w2.heap.size, 0, none⟩) 0 0) (refG fr got 0).length ((refG fr got 0).map vint)) := hid_mk (by simpa [refG] using own0)
  clear own0
  go_upto_region 5 with fail
  clear xl x0 x1 x2 x3 x4 x5 x6 x7 x8 x9 x10 x11 x12 x13 xf0 xf1 xf2 xf3 xf4 xf5 xf6 xf7 xf8 xf9 xf10 xf11 xf12 xf13 yl y0 y1 y2 y3 y4 y5 y6 y7 y8 y9 y10 y11 y12 y13 yf0 yf1 yf2 yf3 yf4 yf5 yf6 yf7 yf8 yf9 yf10 yf11 yf12 yf13 ml m0 m1 m2 m3 m4 m5 m6 m7 m8 m9 m10
  replace hX := hid_mk (hX.out.alloc (.cells #[] 3))
  replace hY := hid_mk (hY.out.alloc (.cells #[] 3))
  replace hM := hid_mk (hM.out.alloc (.cells #[] 3))
  have q3 : Below w.heap.size w (w2.alloc (.cells #[] 3)) := by go_grown
  obtain ⟨i0, hi0, hz0, hz1, hz2⟩ := info_parts intInfoR
  obtain ⟨gE, hgE⟩ : ∃ g, w2.heap.size = g := ⟨_, rfl⟩
  obtain ⟨wE, hwE⟩ : ∃ x, w2.alloc (.cells #[] 3) = x := ⟨_, rfl⟩
  rw [hwE] at own0' hX hY hM q3 ⊢
  rw [hgE] at own0' ⊢
  clear hwE z2 q2
  replace hgE := hid_mk hgE
  go_loopw [6, 7] (fun sv i wr => ∃ k : Nat, i = .int .i64 ((k : Int) + 1) ∧ k ≤ 9 ∧ Below w.heap.size w wr ∧ Hid (wr.ownsRow w.heap.size 3 1 sv (refG fr got k).length ((refG fr got k).map vint)) ∧ Hid (Blk wr w.heap.size 30 #[.int .i64 id, .int .i64 t, .int .i64 v, .int .i64 base, .int .i64 bt, .slice RA n Rc, .string s, .slice VA m Vc, .int .i64 role, .int .i64 lead, .int .i64 timer, .int .i64 commit, .slice GA gn Gc, .slice PA pn Pc]) ∧ Hid (Blk wr (w.heap.size + 1 + 1) 30 #[.int .i64 0, .int .i64 0, .int .i64 0, .int .i64 0, .int .i64 0, .slice none 0 0, .string ⟨#[]⟩, .slice none 0 0, .int .i64 0, .int .i64 0, .int .i64 0, .int .i64 0, .slice none 0 0, .slice none 0 0]) ∧ Hid (Blk wr (w.heap.size + 1) 33 #[.int .i64 kind, .int .i64 fr, .int .i64 mto, .int .i64 mt, .bool true, .int .i64 index, .int .i64 lterm, .slice QA qn Qc, .int .i64 mcommit, .string ms, .slice UA un Uc])) (fun _ i _ => 10 - (intOf i).toNat)
  case atStart => exact ⟨0, rfl, by omega, q3, own0', hX, hY, hM⟩
  case round =>
    clear own0' hX hY hM q3
    obtain ⟨k, rfl, hk, hb, hown, hX, hY, hM⟩ := hrel
    have zr := hb.size
    have hlk : Hid ((refG fr got k).length ≤ 9) := Nat.le_trans (refG_len fr got k) hk
    by_cases hk9 : k < 9
    · have hsucc := hid_mk (refG_succ fr got k)
      have hgi2 : Hid (Ints wr B GA gn got) := hgi.out.to hb
      obtain ⟨na, hna⟩ : ∃ q, (refG fr got k).length = q := ⟨_, rfl⟩
      obtain ⟨Ao, co, rfl, ho1, ho2⟩ := own_slice hown.out
      rw [hna] at hown hlk ho1 ⊢
      have hna9 : na ≤ 9 := hlk.out
      replace hna := hid_mk hna
      have hx12 : wr.cell? ⟨w.heap.size, 12, none⟩ = some (.slice GA gn Gc) := hX.out.cell 12
      have hm1 : wr.cell? ⟨w.heap.size + 1, 1, none⟩ = some (.int .i64 fr) := hM.out.cell 1
      have hxl := hX.out.lt
      have hml := hM.out.lt
      by_cases h1 : (k : Int) + 1 = fr
      · have h1' : ((k : Int) + 1 == fr) = true := by simpa using h1
        have hstep : Hid (refG fr got (k + 1) = refG fr got k ++ [(k : Int) + 1]) := hid_mk (by rw [hsucc.out, h1', Bool.true_or, if_pos rfl])
        replace h1 := hid_mk h1
        have hown' := hid_mk (hown.out.alloc (.cells #[.int .i64 ((k : Int) + 1)] 3))
        have hnew : Hid (Reads (wr.alloc (.cells #[.int .i64 ((k : Int) + 1)] 3)) 0 3 1 (some ⟨wr.heap.size, 0, none⟩) 1 [.int .i64 ((k : Int) + 1)]) := reads_new wr #[.int .i64 ((k : Int) + 1)] 3 1 1 0 rfl
        go_wp2_with (at_builtin; refine wpList_append_any _ rfl (.tmp 57) (.tmp 59) _ rfl w.heap.size 3 i0 _ 1 8 Tryz.underlying25 hi0 hz0 hz1 hz2 rfl (by omega) _ na _ rfl hown'.out 0 (some ⟨wr.heap.size, 0, none⟩) 1 1 _ rfl hnew.out (by intro u hu; rw [List.mem_singleton] at hu; subst hu; rfl) (by simp only [maxLen]; omega) (by omega) (by simp; omega) ?_; intro v1 wa hown2 hga hat2)
        have qa : Below w.heap.size w wa := grown_below (by go_grown) hga (fun k hk => (World.ownsRow.lt hown'.out k hk).1)
        have hXa := hid_mk (Blk.grown (hX.out.alloc _) hga (own_ne hown'.out (hX.out.alloc _)))
        have hYa := hid_mk (Blk.grown (hY.out.alloc _) hga (own_ne hown'.out (hY.out.alloc _)))
        have hMa := hid_mk (Blk.grown (hM.out.alloc _) hga (own_ne hown'.out (hM.out.alloc _)))
        have hrow : Hid (wa.ownsRow w.heap.size 3 1 v1 (refG fr got (k + 1)).length ((refG fr got (k + 1)).map vint)) := by
          rw [hstep.out, List.length_append, hna.out, List.map_append]
          exact hown2
        clear hown2 hga hat2
        go_roundw
        case rel => exact ⟨k + 1, by go_num, by omega, qa, hrow, hXa, hYa, hMa⟩
        case measure => simp [intOf]; omega
      · have h1' : ((k : Int) + 1 == fr) = false := by simpa using h1
        replace h1 := hid_mk h1
        go_wp2_with fail
        refine (In_any GA gn Gc got ((k : Int) + 1) _ B (by omega) hgi2.out).mono ?_
        obtain ⟨zi, hzi⟩ : ∃ z, inL ((k : Int) + 1) got = z := ⟨_, rfl⟩
        rw [hzi]
        rintro e w' ⟨rfl, rfl⟩
        cases zi
        case false =>
          have hstep : Hid (refG fr got (k + 1) = refG fr got k) := hid_mk (by rw [hsucc.out, h1', hzi]; simp)
          replace hzi := hid_mk hzi
          go_wp2
          go_roundw
          case rel => exact ⟨k + 1, by go_num, by omega, hb, by rw [hstep.out, hna.out]; exact hown, hX, hY, hM⟩
          case measure => simp [intOf]; omega
        have hstep : Hid (refG fr got (k + 1) = refG fr got k ++ [(k : Int) + 1]) := hid_mk (by rw [hsucc.out, hzi, Bool.or_true, if_pos rfl])
        replace hzi := hid_mk hzi
        have hown' := hid_mk (hown.out.alloc (.cells #[.int .i64 ((k : Int) + 1)] 3))
        have hnew : Hid (Reads (wr.alloc (.cells #[.int .i64 ((k : Int) + 1)] 3)) 0 3 1 (some ⟨wr.heap.size, 0, none⟩) 1 [.int .i64 ((k : Int) + 1)]) := reads_new wr #[.int .i64 ((k : Int) + 1)] 3 1 1 0 rfl
        go_wp2_with (at_builtin; refine wpList_append_any _ rfl (.tmp 57) (.tmp 59) _ rfl w.heap.size 3 i0 _ 1 8 Tryz.underlying25 hi0 hz0 hz1 hz2 rfl (by omega) _ na _ rfl hown'.out 0 (some ⟨wr.heap.size, 0, none⟩) 1 1 _ rfl hnew.out (by intro u hu; rw [List.mem_singleton] at hu; subst hu; rfl) (by simp only [maxLen]; omega) (by omega) (by simp; omega) ?_; intro v1 wa hown2 hga hat2)
        have qa : Below w.heap.size w wa := grown_below (by go_grown) hga (fun k hk => (World.ownsRow.lt hown'.out k hk).1)
        have hXa := hid_mk (Blk.grown (hX.out.alloc _) hga (own_ne hown'.out (hX.out.alloc _)))
        have hYa := hid_mk (Blk.grown (hY.out.alloc _) hga (own_ne hown'.out (hY.out.alloc _)))
        have hMa := hid_mk (Blk.grown (hM.out.alloc _) hga (own_ne hown'.out (hM.out.alloc _)))
        have hrow : Hid (wa.ownsRow w.heap.size 3 1 v1 (refG fr got (k + 1)).length ((refG fr got (k + 1)).map vint)) := by
          rw [hstep.out, List.length_append, hna.out, List.map_append]
          exact hown2
        clear hown2 hga hat2
        go_roundw
        case rel => exact ⟨k + 1, by go_num, by omega, qa, hrow, hXa, hYa, hMa⟩
        case measure => simp [intOf]; omega
    · obtain rfl : k = 9 := by omega
      obtain ⟨A6, c6, rfl, ho1, ho2⟩ := own_slice hown.out
      obtain ⟨g6, hg6⟩ : ∃ q, refG fr got 9 = q := ⟨_, rfl⟩
      rw [hg6] at hy hown hlk ho1 ⊢
      obtain ⟨n6, hn6⟩ : ∃ q, g6.length = q := ⟨_, rfl⟩
      rw [hn6] at hown hlk ho1 ⊢
      replace hg6 := hid_mk hg6
      have hn69 : n6 ≤ 9 := hlk.out
      replace hn6 := hid_mk hn6
      have hI6 : Hid (Ints wr B A6 n6 g6) := Reads.of_own hown.out
      have hx12 : wr.cell? ⟨w.heap.size, 12, none⟩ = some (.slice GA gn Gc) := hX.out.cell 12
      have hf12 := hX.out.frozen 12
      have hxl := hX.out.lt
      have hX2 : Blk (wr.setCell ⟨w.heap.size, 12, none⟩ (.slice A6 n6 c6)) w.heap.size 30 #[.int .i64 id, .int .i64 t, .int .i64 v, .int .i64 base, .int .i64 bt, .slice RA n Rc, .string s, .slice VA m Vc, .int .i64 role, .int .i64 lead, .int .i64 timer, .int .i64 commit, .slice A6 n6 c6, .slice PA pn Pc] := hX.out.set_ 12 _
      have hY2 := hY.out.far (p := ⟨w.heap.size, 12, none⟩) (by dsimp only; omega) (.slice A6 n6 c6)
      have hI7 : Ints _ B A6 n6 g6 := Reads.far hI6.out hX.out hBw (by decide) 12 (.slice A6 n6 c6)
      have q4 := hb.setCell (p := ⟨w.heap.size, 12, none⟩) (Nat.le_refl _) (.slice A6 n6 c6)
      obtain ⟨w4, hw4⟩ : ∃ x, wr.setCell ⟨w.heap.size, 12, none⟩ (.slice A6 n6 c6) = x := ⟨_, rfl⟩
      rw [hw4] at hX2 hY2 hI7 q4
      replace hw4 := hid_mk hw4
      go_upto_region 10 with fail
      rw [hw4.out]
      clear hw4 hx12 hf12 hxl hown hI6 hM
      replace hX := hid_mk hX2
      replace hY := hid_mk hY2
      replace hI7 := hid_mk hI7
      clear hX2 hY2
      have hv6 : votersN ⟨id, ⟨t, v, ⟨base, bt, rs⟩, s, vs⟩, role, lead, timer, commit, g6, ps⟩ = vo := hvo.out
      obtain ⟨zw, hzw⟩ : ∃ z, winsL vo g6 = z := ⟨_, rfl⟩
      replace hzw := hid_mk hzw
      refine wp_region_T' (fun w' => w'.cell? ⟨w.heap.size, 0, none⟩ = some (.int .i64 id) ∧ w'.cell? ⟨w.heap.size, 1, none⟩ = some (.int .i64 t) ∧ w'.cell? ⟨w.heap.size, 2, none⟩ = some (.int .i64 v) ∧ w'.cell? ⟨w.heap.size, 3, none⟩ = some (.int .i64 base) ∧ w'.cell? ⟨w.heap.size, 4, none⟩ = some (.int .i64 bt) ∧ w'.cell? ⟨w.heap.size, 5, none⟩ = some (.slice RA n Rc) ∧ w'.cell? ⟨w.heap.size, 6, none⟩ = some (.string s) ∧ w'.cell? ⟨w.heap.size, 7, none⟩ = some (.slice VA m Vc) ∧ w'.cell? ⟨w.heap.size, 8, none⟩ = some (.int .i64 role) ∧ w'.cell? ⟨w.heap.size, 9, none⟩ = some (.int .i64 lead) ∧ w'.cell? ⟨w.heap.size, 10, none⟩ = some (.int .i64 timer) ∧ w'.cell? ⟨w.heap.size, 11, none⟩ = some (.int .i64 commit) ∧ w'.cell? ⟨w.heap.size, 12, none⟩ = some (.slice A6 n6 c6) ∧ w'.cell? ⟨w.heap.size, 13, none⟩ = some (.slice PA pn Pc)) (fun j => decide (j < 7)) 7 (by kernel_rfl) (by kernel_rfl) (by exact (blk14c hX.out).2) (fun hS0 => ?_)
      replace hX := hid_mk hX.out.drew
      replace hY := hid_mk hY.out.drew
      replace hI7 : Hid (Ints w4.drew B A6 n6 g6) := hI7.out.to (by go_grown)
      have qd : Below w.heap.size w w4.drew := by go_grown
      obtain ⟨wd, hwd⟩ : ∃ x, w4.drew = x := ⟨_, rfl⟩
      rw [hwd] at hS0 hX hY hI7 qd ⊢
      clear hwd
      refine wpAnyT_take (i := 0) rfl (by kernel_rfl) (by kernel_rfl) (by kernel_rfl) rfl (by kernel_rfl) (fun _ _ _ h => h) (by kernel_rfl) (fun w' hS => (by obtain ⟨s0, s1, s2, s3, s4, s5, s6, s7, s8, s9, s10, s11, s12, s13⟩ := hS; go_simp; try with_reducible rfl)) hS0 ?_
      simp only [Act.put]
      refine wpAnyT_take (i := 1) rfl (by kernel_rfl) (by kernel_rfl) (by kernel_rfl) rfl (by kernel_rfl) (fun _ _ _ h => h) (by kernel_rfl) (fun w' hS => (by obtain ⟨s0, s1, s2, s3, s4, s5, s6, s7, s8, s9, s10, s11, s12, s13⟩ := hS; go_simp; try with_reducible rfl)) hS0 ?_
      simp only [Act.put]
      refine wpAnyT_take (i := 3) rfl (by kernel_rfl) (by kernel_rfl) (by kernel_rfl) rfl (by kernel_rfl) (fun _ _ _ h => h) (by kernel_rfl) (fun w' hS => (by obtain ⟨s0, s1, s2, s3, s4, s5, s6, s7, s8, s9, s10, s11, s12, s13⟩ := hS; go_simp; try with_reducible rfl)) hS0 ?_
      simp only [Act.put]
      refine wpAnyT_one (i := 2) (by kernel_rfl) rfl (fun K hK => ?_)
      go_simp
      refine (NVoters_any ⟨id, ⟨t, v, ⟨base, bt, rs⟩, s, vs⟩, role, lead, timer, commit, g6, ps⟩ ⟨⟨RA, n, Rc⟩, ⟨VA, m, Vc⟩, ⟨A6, n6, c6⟩, ⟨PA, pn, Pc⟩⟩ _ (B := B) ⟨hN0.recs.to qd, hN0.rc, hN0.rb, hN0.vs.to qd, hN0.vc, hN0.vb, hN0.sb, hI7.out, ho1, by dsimp only; omega, hN0.ps.to qd, hN0.pc, hN0.pb⟩ ⟨by dsimp only; omega, by dsimp only; omega⟩).mono ?_
      rw [hv6]
      rintro e w5 ⟨VA2, vn, vc, rfl, hvI, hvn, hb1⟩
      have q5 := (after (w := w) hb1 (by go_grown)).1
      replace hX := hid_mk (hX.out.keep hb1)
      replace hY := hid_mk (hY.out.keep hb1)
      replace hI7 := hid_mk (hI7.out.to hb1)
      replace hvI := hid_mk hvI
      clear hb1
      refine hK.out _ _ (fun _ => (blk14c hX.out).2) ?_
      clear hK K
      try simp only [Act.put]
      refine wpAnyT_one (i := 4) (by kernel_rfl) rfl (fun K hK => ?_)
      go_simp
      refine (refWins_any VA2 vn vc vo A6 n6 c6 g6 _ B hvn (by omega) hvI.out hI7.out).mono ?_
      rw [hzw.out]
      rintro e wb ⟨rfl, hww⟩
      have hb1 : Below w5.heap.size w5 wb := by rw [← hww]; exact Below.refl _ _
      clear hww
      have q6 := (after (w := w) hb1 (by go_grown)).1
      replace hX := hid_mk (hX.out.keep hb1)
      replace hY := hid_mk (hY.out.keep hb1)
      replace hI7 := hid_mk (hI7.out.to hb1)
      clear hb1
      refine hK.out _ _ (fun _ => (blk14c hX.out).2) ?_
      clear hK K
      try simp only [Act.put]
      obtain ⟨yl, y0, y1, y2, y3, y4, y5, y6, y7, y8, y9, y10, y11, y12, y13, yf0, yf1, yf2, yf3, yf4, yf5, yf6, yf7, yf8, yf9, yf10, yf11, yf12, yf13⟩ := blk14f hY.out
      refine wpAnyT_one (i := 5) (by kernel_rfl) rfl (fun K hK => ?_)
      go_simp
      clear yl y0 y1 y2 y3 y4 y5 y6 y7 y8 y9 y10 y11 y12 y13 yf0 yf1 yf2 yf3 yf4 yf5 yf6 yf7 yf8 yf9 yf10 yf11 yf12 yf13
      replace hI7 := hid_mk (show Ints _ B A6 n6 g6 from set14_reads hY.out (.int .i64 id) (.int .i64 t) (.int .i64 v) (.int .i64 base) (.int .i64 bt) (.slice RA n Rc) (.string s) (.slice VA m Vc) (.int .i64 role) (.int .i64 lead) (.int .i64 timer) (.int .i64 commit) (.slice A6 n6 c6) (.slice PA pn Pc) hBy (by decide) hI7.out)
      replace hX := hid_mk (set14_farS hX.out (by omega : w.heap.size ≠ w.heap.size + 1 + 1) (.int .i64 id) (.int .i64 t) (.int .i64 v) (.int .i64 base) (.int .i64 bt) (.slice RA n Rc) (.string s) (.slice VA m Vc) (.int .i64 role) (.int .i64 lead) (.int .i64 timer) (.int .i64 commit) (.slice A6 n6 c6) (.slice PA pn Pc))
      have qz := set14_below (.int .i64 id) (.int .i64 t) (.int .i64 v) (.int .i64 base) (.int .i64 bt) (.slice RA n Rc) (.string s) (.slice VA m Vc) (.int .i64 role) (.int .i64 lead) (.int .i64 timer) (.int .i64 commit) (.slice A6 n6 c6) (.slice PA pn Pc) q6 (by omega : w.heap.size ≤ w.heap.size + 1 + 1)
      replace hY := hid_mk (set14_blk hY.out (.int .i64 id) (.int .i64 t) (.int .i64 v) (.int .i64 base) (.int .i64 bt) (.slice RA n Rc) (.string s) (.slice VA m Vc) (.int .i64 role) (.int .i64 lead) (.int .i64 timer) (.int .i64 commit) (.slice A6 n6 c6) (.slice PA pn Pc))
      obtain ⟨wz, hwz⟩ : ∃ x, set14 wb (w.heap.size + 1 + 1) (.int .i64 id) (.int .i64 t) (.int .i64 v) (.int .i64 base) (.int .i64 bt) (.slice RA n Rc) (.string s) (.slice VA m Vc) (.int .i64 role) (.int .i64 lead) (.int .i64 timer) (.int .i64 commit) (.slice A6 n6 c6) (.slice PA pn Pc) = x := ⟨_, rfl⟩
      rw [hwz] at hX hY hI7 qz
      unfold set14 at hwz
      rw [hwz]
      clear hwz
      refine hK.out _ _ (fun _ => (blk14c hX.out).2) ?_
      clear hK K
      try simp only [Act.put]
      refine wpAnyT_one (i := 6) (by kernel_rfl) rfl (fun K hK => ?_)
      go_simp
      refine hK.out _ _ (fun _ => (blk14c hX.out).2) ?_
      clear hK K
      try simp only [Act.put]
      refine wpAnyT_done (by kernel_rfl) ?_ _
      obtain ⟨_, y0, y1, y2, y3, y4, y5, y6, y7, y8, y9, y10, y11, y12, y13⟩ := blk14c hY.out
      go_wp2
      refine ends_ret hQ (v := .tuple #[.agg #[.int .i64 id, .int .i64 t, .int .i64 v, .int .i64 base, .int .i64 bt, .slice RA n Rc, .string s, .slice VA m Vc, .int .i64 role, .int .i64 lead, .int .i64 timer, .int .i64 commit, .slice A6 n6 c6, .slice PA pn Pc], .bool zw]) (by simp [results, Tryz.results17, go_sem, y0, y1, y2, y3, y4, y5, y6, y7, y8, y9, y10, y11, y12, y13]) rfl ?_
      exact ⟨⟨⟨⟨RA, n, Rc⟩, ⟨VA, m, Vc⟩, ⟨A6, n6, c6⟩, ⟨PA, pn, Pc⟩⟩, by rw [hy.out.1, hy.out.2, hzw.out]; rfl, by rw [hy.out.1]; exact ⟨hN0.recs.to qz, hN0.rc, hN0.rb, hN0.vs.to qz, hN0.vc, hN0.vb, hN0.sb, hI7.out, ho1, by dsimp only; omega, hN0.ps.to qz, hN0.pc, hN0.pb⟩⟩, qz⟩
end Go.Proofs.YtnaindoeihnmpaaGreatDoor
