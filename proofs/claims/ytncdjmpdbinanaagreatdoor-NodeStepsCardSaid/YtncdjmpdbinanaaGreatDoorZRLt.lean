/-
  WHAT IS PROVED HERE: what the reference's Draw, Later, Voters and End hand back. Condition: the slices are of at most 2^43 elements; of Later and End: the node may be.
-/
import Derived.Test.YtncdjmpdbinanaaGreatDoorZGStd
import Derived.Test.YtncdjmpdbinanaaGreatDoorZGJrn
namespace Go.Proofs.YtncdjmpdbinanaaGreatDoor
open Go.RowKit

theorem Draw_any (d : Int) (w : World) : Calls Tryz.prog 106 #[.int .i64 d] w fun e w' => e = .returned (.int .i64 (min (max d 0) 1048576)) ∧ w = w' := by
  by_cases h1 : d < 0
  · go_enter Tryz.func106, Tryz.ntmps106
    go_wp2
    go_ret
    exact ⟨ret_int (by omega), rfl⟩
  by_cases h2 : 1048576 < d
  · go_enter Tryz.func106, Tryz.ntmps106
    go_wp2
    go_ret
    exact ⟨ret_int (by omega), rfl⟩
  · go_enter Tryz.func106, Tryz.ntmps106
    go_wp2
    go_ret
    exact ⟨ret_int (by omega), rfl⟩
set_option maxRecDepth 100000 in
set_option maxHeartbeats 1600000 in
theorem RLater_any (N : Nd) (a : NdA) (term : Int) (w : World) (hr : rightN N = true) :
    Calls Tryz.prog 114 #[nodeV N a, .int .i64 term] w fun e w' => e = .returned (nodeV (laterN N term) (laterA N term a)) ∧ Below w.heap.size w w' := by
  obtain ⟨R, hR⟩ : ∃ R, nodeV (laterN N term) (laterA N term a) = R := ⟨_, rfl⟩
  rw [hR]
  have hRo : Hid ((if ((decide (N.h.t < term) && decide (term ≤ 1073741824))) = true then nodeV ⟨N.id, ⟨term, 0, N.h.l, N.h.s, N.h.vs⟩, 0, 0, N.timer, N.commit, [], []⟩ ⟨a.R, a.V, ⟨none, 0, 0⟩, ⟨none, 0, 0⟩⟩ else nodeV N a) = R) := by
    rw [Hid, ← hR]
    unfold laterN laterA laterC
    rw [hr, Bool.true_and]
    split <;> rfl
  clear hR hr
  obtain ⟨id, ⟨t, v, ⟨base, bt, rs⟩, s, vs⟩, role, lead, timer, commit, got, ps⟩ := N
  obtain ⟨⟨RA, n, Rc⟩, ⟨VA, m, Vc⟩, ⟨GA, gn, Gc⟩, ⟨PA, pn, Pc⟩⟩ := a
  unfold nodeV at hRo ⊢
  dsimp only at hRo ⊢
  by_cases h1 : t < term
  · by_cases h2 : term ≤ 1073741824
    · have hv : Hid (Value.agg #[.int .i64 id, .int .i64 term, .int .i64 0, .int .i64 base, .int .i64 bt, .slice RA n Rc, .string s, .slice VA m Vc, .int .i64 0, .int .i64 0, .int .i64 timer, .int .i64 commit, .slice none 0 0, .slice none 0 0] = R) := by
        have h := hRo.out
        rw [if_pos (by simp [h1, h2])] at h
        exact h
      clear hRo
      refine calls_of_wpQ Tryz.func114 rfl ?_
      intro Q hQ
      simp only [Tryz.ntmps114, List.size_toArray, List.length_cons, List.length_nil, Nat.reduceAdd, Nat.reduceSub, Array.replicate_succ, Array.replicate_zero, List.push_toArray, List.append_toArray, List.nil_append, List.cons_append]
      go_wp2
      refine ends_ret hQ (v := .agg #[.int .i64 id, .int .i64 term, .int .i64 0, .int .i64 base, .int .i64 bt, .slice RA n Rc, .string s, .slice VA m Vc, .int .i64 0, .int .i64 0, .int .i64 timer, .int .i64 commit, .slice none 0 0, .slice none 0 0]) (by simp [results, Tryz.results114, go_sem]) rfl ?_
      exact ⟨by rw [hv.out], by go_grown⟩
    · have hv : Hid (Value.agg #[.int .i64 id, .int .i64 t, .int .i64 v, .int .i64 base, .int .i64 bt, .slice RA n Rc, .string s, .slice VA m Vc, .int .i64 role, .int .i64 lead, .int .i64 timer, .int .i64 commit, .slice GA gn Gc, .slice PA pn Pc] = R) := by
        have h := hRo.out
        rw [if_neg (by simp [h2])] at h
        exact h
      clear hRo
      refine calls_of_wpQ Tryz.func114 rfl ?_
      intro Q hQ
      simp only [Tryz.ntmps114, List.size_toArray, List.length_cons, List.length_nil, Nat.reduceAdd, Nat.reduceSub, Array.replicate_succ, Array.replicate_zero, List.push_toArray, List.append_toArray, List.nil_append, List.cons_append]
      go_wp2
      refine ends_ret hQ (v := .agg #[.int .i64 id, .int .i64 t, .int .i64 v, .int .i64 base, .int .i64 bt, .slice RA n Rc, .string s, .slice VA m Vc, .int .i64 role, .int .i64 lead, .int .i64 timer, .int .i64 commit, .slice GA gn Gc, .slice PA pn Pc]) (by simp [results, Tryz.results114, go_sem]) rfl ?_
      exact ⟨by rw [hv.out], by go_grown⟩
  · have hv : Hid (Value.agg #[.int .i64 id, .int .i64 t, .int .i64 v, .int .i64 base, .int .i64 bt, .slice RA n Rc, .string s, .slice VA m Vc, .int .i64 role, .int .i64 lead, .int .i64 timer, .int .i64 commit, .slice GA gn Gc, .slice PA pn Pc] = R) := by
      have h := hRo.out
      rw [if_neg (by simp [h1])] at h
      exact h
    clear hRo
    refine calls_of_wpQ Tryz.func114 rfl ?_
    intro Q hQ
    simp only [Tryz.ntmps114, List.size_toArray, List.length_cons, List.length_nil, Nat.reduceAdd, Nat.reduceSub, Array.replicate_succ, Array.replicate_zero, List.push_toArray, List.append_toArray, List.nil_append, List.cons_append]
    go_wp2
    refine ends_ret hQ (v := .agg #[.int .i64 id, .int .i64 t, .int .i64 v, .int .i64 base, .int .i64 bt, .slice RA n Rc, .string s, .slice VA m Vc, .int .i64 role, .int .i64 lead, .int .i64 timer, .int .i64 commit, .slice GA gn Gc, .slice PA pn Pc]) (by simp [results, Tryz.results114, go_sem]) rfl ?_
    exact ⟨by rw [hv.out], by go_grown⟩
def RetVo (B : Nat) (w : World) (vs : List Int) (e : Ending) (w' : World) : Prop := ∃ A n c, e = .returned (.slice A n c) ∧ Ints w' B A n vs ∧ n ≤ 140737488355328 ∧ Below w.heap.size w w'
set_option maxRecDepth 100000 in
theorem NVoters_any (N : Nd) (a : NdA) (w : World) {B : Nat} (hN : NdOk w B N a) (h43 : a.R.n ≤ 8796093022208 ∧ a.V.n ≤ 8796093022208) :
    Calls Tryz.prog 76 #[nodeV N a] w fun e w' => RetVo B w (votersN N) e w' := by
  obtain ⟨R, hR⟩ : ∃ R, votersN N = R := ⟨_, rfl⟩
  rw [hR]
  unfold votersN at hR
  obtain ⟨hrc, _, _, hi, _, _, _, _, _, _, _, _, _⟩ := hN
  obtain ⟨id, ⟨t, v, ⟨base, bt, rs⟩, s, vs⟩, role, lead, timer, commit, got, ps⟩ := N
  obtain ⟨⟨RA, n, Rc⟩, ⟨VA, m, Vc⟩, ⟨GA, gn, Gc⟩, ⟨PA, pn, Pc⟩⟩ := a
  dsimp only at hR hrc hi h43
  obtain ⟨h43a, h43b⟩ := h43
  unfold nodeV
  dsimp only
  refine calls_of_wpQ Tryz.func76 rfl ?_
  intro Q hQ
  simp only [Tryz.ntmps76, List.size_toArray, List.length_cons, List.length_nil, Nat.reduceAdd, Nat.reduceSub, Array.replicate_succ, Array.replicate_zero, List.push_toArray, List.append_toArray, List.nil_append, List.cons_append]
  go_wp2_with fail
  refine (refOf_any t v ⟨base, bt, rs⟩ RA n Rc s VA m Vc vs _ B B h43a (by omega) (hrc.to (by go_grown)) (hi.to (by go_grown))).mono ?_
  rintro e w1 ⟨A2, n2, c2, rfl, hI, hn2, hb1⟩
  dsimp only at hI
  rw [hR] at hI
  have q1 := (after (w := w) hb1 (by go_grown)).1
  replace hI := hid_mk hI
  clear hb1 hR
  go_wp2
  refine ends_ret hQ (results_tmp rfl _ _ _) rfl ?_
  exact ⟨A2, n2, c2, rfl, hI.out, hn2, q1⟩
set_option maxRecDepth 100000 in
theorem REnd_any (N : Nd) (a : NdA) (w : World) {B : Nat} (hN : NdOk w B N a) (hr : rightJ N.h.l = true) :
    Calls Tryz.prog 141 #[nodeV N a] w fun e w' => e = .returned (.tuple #[.int .i64 (lastJ N.h.l), .int .i64 ((termJ N.h.l (lastJ N.h.l)).getD 0)]) ∧ Below w.heap.size w w' := by
  have hb := right_bounds hr
  have hlen := hN.recs.len
  obtain ⟨la, hla⟩ : ∃ x, lastJ N.h.l = x := ⟨_, rfl⟩
  obtain ⟨lt, hlt⟩ : ∃ x, (termJ N.h.l la).getD 0 = x := ⟨_, rfl⟩
  have hlt2 : (termJ N.h.l la).getD (-1) = lt := by
    rw [← hlt, ← hla]
    have : (termJ N.h.l (lastJ N.h.l)).isSome = true := by
      unfold termJ lastJ
      by_cases e : N.h.l.base + (N.h.l.rs.length : Int) = N.h.l.base
      · rw [if_pos e]; rfl
      · rw [if_neg e, if_pos (by omega), List.getElem?_eq_getElem (by omega)]; rfl
    cases hh : termJ N.h.l (lastJ N.h.l) with
    | none => rw [hh] at this; cases this
    | some v => rfl
  rw [hla, hlt]
  have hn : a.R.n ≤ 200 := by omega
  have hrc := hN.recs
  replace hla := hid_mk hla
  replace hlt2 := hid_mk hlt2
  clear hlt hN hr
  obtain ⟨id, ⟨t, v, ⟨base, bt, rs⟩, s, vs⟩, role, lead, timer, commit, got, ps⟩ := N
  obtain ⟨⟨RA, n, Rc⟩, ⟨VA, m, Vc⟩, ⟨GA, gn, Gc⟩, ⟨PA, pn, Pc⟩⟩ := a
  dsimp only at hb hlen hla hlt2 hn hrc
  obtain ⟨hb0, hb1, _⟩ := hb
  unfold nodeV
  dsimp only
  have hX : Hid (Blk (w.alloc (.cells #[.int .i64 id, .int .i64 t, .int .i64 v, .int .i64 base, .int .i64 bt, .slice RA n Rc, .string s, .slice VA m Vc, .int .i64 role, .int .i64 lead, .int .i64 timer, .int .i64 commit, .slice GA gn Gc, .slice PA pn Pc] 30)) w.heap.size 30 #[.int .i64 id, .int .i64 t, .int .i64 v, .int .i64 base, .int .i64 bt, .slice RA n Rc, .string s, .slice VA m Vc, .int .i64 role, .int .i64 lead, .int .i64 timer, .int .i64 commit, .slice GA gn Gc, .slice PA pn Pc]) := Blk.new _ _ _
  refine calls_of_wpQ Tryz.func141 rfl ?_
  intro Q hQ
  simp only [Tryz.ntmps141, List.size_toArray, List.length_cons, List.length_nil, Nat.reduceAdd, Nat.reduceSub, Array.replicate_succ, Array.replicate_zero, List.push_toArray, List.append_toArray, List.nil_append, List.cons_append]
  go_wp2_with fail
  refine (refLast_any ⟨base, bt, rs⟩ RA n Rc _ (by omega) hlen hb0 hb1).mono ?_
  rw [hla.out]
  rintro e w1 ⟨rfl, hbb⟩
  have q1 := (after (w := w) hbb (by go_grown)).1
  have q1' := q1
  replace hX := hid_mk (hX.out.keep (after hbb (by go_grown)).1)
  replace hlen := hid_mk hlen
  clear hbb
  obtain ⟨xl, x0, x1, x2, x3, x4, x5, x6, x7, x8, x9, x10, x11, x12, x13⟩ := blk14c hX.out
  go_wp2_with fail
  refine (refTerm_any ⟨base, bt, rs⟩ la RA n Rc _ (B := B) (by omega) (hrc.to (by go_grown)) hb0 hb1).mono ?_
  rw [hlt2.out]
  rintro e w2 ⟨rfl, hbb⟩
  have q2 := (after (w := w) hbb (by go_grown)).1
  clear hbb
  go_wp2
  refine ends_ret hQ (v := .tuple #[.int .i64 la, .int .i64 lt]) (by simp [results, Tryz.results141, go_sem]) rfl ?_
  exact ⟨rfl, q2⟩
end Go.Proofs.YtncdjmpdbinanaaGreatDoor
