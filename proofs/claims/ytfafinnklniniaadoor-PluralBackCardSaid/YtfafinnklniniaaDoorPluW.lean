/-
  WHAT IS PROVED HERE: what is read well of a text is what the text says: the text of what was read is the text (plain Lean, no program in sight). No condition.
-/
import Derived.Test.YtfafinnklniniaaDoorPluV
namespace Go.Proofs.YtfafinnklniniaaDoor
open Go.RowKit

/-- reading went on over t -/
def Rd (sl : List UInt8) (st st' : St) (t : List UInt8) : Prop := st.bad = 0 ∧ sl.drop st.at_ = t ++ sl.drop st'.at_ ∧ st'.at_ = st.at_ + t.length
section
variable {sl : List UInt8}
theorem Rd.trans {a b c : St} {t u : List UInt8} (h : Rd sl a b t) (k : Rd sl b c u) : Rd sl a c (t ++ u) := ⟨h.1, by rw [h.2.1, k.2.1, List.append_assoc], by rw [k.2.2, h.2.2, List.length_append]; omega⟩
theorem Rd.nil {a : St} (h : a.bad = 0) : Rd sl a a [] := ⟨h, rfl, rfl⟩
theorem Rd.one {a : Nat} {b : Int} {c : UInt8} (hb : b = 0) (h : sl[a]? = some c) : Rd sl ⟨a, b⟩ ⟨a + 1, 0⟩ [c] := by
  refine ⟨hb, ?_, rfl⟩
  obtain ⟨hl, rfl⟩ := List.getElem?_eq_some_iff.1 h
  exact List.drop_eq_getElem_cons hl
theorem wrongS_bad (sl : List UInt8) (st : St) : (wrongS sl st).bad ≠ 0 := by
  unfold wrongS
  split
  · dsimp only
    split <;> omega
  · assumption
theorem must_no : ∀ (t : List UInt8) (st : St), (mustS sl t st).bad = 0 → Rd sl st (mustS sl t st) t
  | [], st, h => Rd.nil h
  | c :: t, st, h => by
    obtain ⟨a, b⟩ := st
    rw [mustS] at h ⊢
    split at h
    · rename_i hb; exact absurd h hb
    · rename_i hb
      rw [if_neg hb]
      split at h
      · rename_i hc
        rw [if_pos hc]
        exact (Rd.one (Decidable.not_not.1 hb) hc).trans (must_no t _ h)
      · exact absurd h (wrongS_bad _ _)
theorem is_no {c : UInt8} {st : St} (h : isS sl c st = true) : Rd sl st ⟨st.at_ + 1, 0⟩ [c] := by
  unfold isS at h
  simp only [Bool.and_eq_true, decide_eq_true_eq, beq_iff_eq] at h
  exact Rd.one h.1 h.2
theorem numL_no : ∀ (l : List UInt8) (a : Nat) (n : Int), 0 ≤ n → n ≤ 1000000 → (numL sl false n a l).2.bad = 0 →
    ∃ t, l = t ++ l.drop t.length ∧ (numL sl false n a l).2.at_ = a + t.length ∧ Lib.decDigits (numL sl false n a l).1.toNat = Lib.decDigits n.toNat ++ t ∧ numIn (numL sl false n a l).1
  | [], a, n, h0, h1, h => ⟨[], rfl, rfl, by rw [List.append_nil]; rfl, h0, h1⟩
  | c :: l, a, n, h0, h1, h => by
    rw [numL] at h ⊢
    split at h
    · rename_i hd
      rw [if_pos hd]
      split at h
      · exact absurd h (wrongS_bad _ _)
      · rename_i hc
        rw [if_neg hc]
        have hn : n ≠ 0 := fun e => hc (.inl ⟨rfl, e⟩)
        have hl : ¬ 1000000 < 10 * n + ((c.toNat : Int) - 48) := fun e => hc (.inr e)
        obtain ⟨t, e1, e2, e3, e4⟩ := numL_no l (a + 1) (10 * n + ((c.toNat : Int) - 48)) (by omega) (by omega) h
        refine ⟨c :: t, ?_, ?_, ?_, e4⟩
        · rw [List.length_cons, List.drop_succ_cons, List.cons_append, ← e1]
        · rw [e2, List.length_cons]; omega
        · have hs := dec_step (n := n.toNat) (d := c.toNat - 48) (by omega) (by omega)
          rw [show 10 * n.toNat + (c.toNat - 48) = (10 * n + ((c.toNat : Int) - 48)).toNat by omega, show UInt8.ofNat (48 + (c.toNat - 48)) = c by rw [show 48 + (c.toNat - 48) = c.toNat by omega]; exact UInt8.ofNat_toNat] at hs
          rw [e3, hs, List.append_assoc, List.singleton_append]
    · rename_i hd
      rw [if_neg hd]
      exact ⟨[], rfl, rfl, by rw [List.append_nil]; rfl, h0, h1⟩
theorem num_no {st : St} (h : (numS sl st).2.bad = 0) : Rd sl st (numS sl st).2 (Lib.itoa (numS sl st).1) ∧ numIn (numS sl st).1 := by
  obtain ⟨a, b⟩ := st
  unfold numS at h ⊢
  split at h
  · rename_i hb
    dsimp only at hb h
    rw [if_pos hb]
    dsimp only
    cases hl : sl.drop a with
    | nil =>
      rw [hl, numL] at h
      exact absurd h (wrongS_bad _ _)
    | cons c l =>
      rw [hl] at h
      rw [numL] at h ⊢
      split at h
      · rename_i hd
        rw [if_pos hd]
        split at h
        · exact absurd h (wrongS_bad _ _)
        · rename_i hc
          rw [if_neg hc]
          obtain ⟨t, e1, e2, e3, e4⟩ := numL_no l (a + 1) (10 * 0 + ((c.toNat : Int) - 48)) (by omega) (by omega) h
          have hs := dec_one (d := c.toNat - 48) (by omega)
          rw [show c.toNat - 48 = (10 * 0 + ((c.toNat : Int) - 48)).toNat by omega, show UInt8.ofNat (48 + (10 * 0 + ((c.toNat : Int) - 48)).toNat) = c by rw [show 48 + (10 * 0 + ((c.toNat : Int) - 48)).toNat = c.toNat by omega]; exact UInt8.ofNat_toNat] at hs
          have e5 : Lib.itoa (numL sl false (10 * 0 + ((c.toNat : Int) - 48)) (a + 1) l).1 = c :: t := by rw [itoa_nn e4.1, e3, hs]; rfl
          refine ⟨⟨hb, ?_, ?_⟩, e4⟩
          · rw [e5, e2]
            dsimp only
            rw [hl, List.cons_append]
            congr 1
            rw [Nat.add_assoc, ← List.drop_drop, hl, show 1 + t.length = t.length + 1 by omega, List.drop_succ_cons]
            exact e1
          · rw [e5, e2]
            simp
            omega
      · rw [if_pos rfl] at h
        exact absurd h (wrongS_bad _ _)
  · rename_i hb
    exact absurd h hb
theorem one_no {st : St} (h : (oneSpan sl st).2.bad = 0) : Rd sl st (oneSpan sl st).2 (spanT (oneSpan sl st).1) ∧ spanIn (oneSpan sl st).1 := by
  unfold oneSpan at h ⊢
  split at h
  · rename_i hd
    rw [if_pos hd]
    dsimp only at h ⊢
    obtain ⟨r3, i3⟩ := num_no h
    have r2 := must_no _ _ r3.1
    obtain ⟨r1, i1⟩ := num_no r2.1
    refine ⟨?_, i1, fun k hk => by injection hk with hk; subst hk; exact i3⟩
    exact r1.trans (r2.trans r3)
  · rename_i hd
    rw [if_neg hd]
    dsimp only at h ⊢
    obtain ⟨r1, i1⟩ := num_no h
    exact ⟨r1, i1, fun k hk => by cases hk⟩
theorem spans_no : ∀ (f : Nat) (st : St), sl.length - st.at_ < f → (spansF sl f st).2.bad = 0 → Rd sl st (spansF sl f st).2 (spansT (spansF sl f st).1) ∧ (spansF sl f st).1 ≠ [] ∧ ∀ s ∈ (spansF sl f st).1, spanIn s
  | 0, st, hf, _ => by omega
  | f + 1, st, hf, h => by
    rw [spansF] at h ⊢
    split at h
    · rename_i hc
      rw [if_pos hc]
      dsimp only at h ⊢
      obtain ⟨i1, i2⟩ := isS_lt hc
      have rc := is_no hc
      obtain ⟨r1, i1'⟩ := one_no i1
      have hm := oneSpan_mono sl st
      obtain ⟨r2, n2, a2⟩ := spans_no f ⟨(oneSpan sl st).2.at_ + 1, 0⟩ (by dsimp only; omega) h
      refine ⟨?_, by simp, fun s hs => ?_⟩
      · obtain ⟨y, ys, hy⟩ := List.exists_cons_of_ne_nil n2
        have := r1.trans (rc.trans r2)
        rw [hy] at this ⊢
        have e : spansT ((oneSpan sl st).1 :: y :: ys) = spanT (oneSpan sl st).1 ++ ([44] ++ spansT (y :: ys)) := join_two _ _ _ _
        rw [e]
        exact this
      · rcases List.mem_cons.1 hs with rfl | hs
        · exact i1'
        · exact a2 s hs
    · rename_i hc
      rw [if_neg hc]
      dsimp only at h ⊢
      obtain ⟨r1, i1⟩ := one_no h
      refine ⟨?_, by simp, fun s hs => by rw [List.mem_singleton] at hs; subst hs; exact i1⟩
      rw [show spansT [(oneSpan sl st).1] = spanT (oneSpan sl st).1 from Lib.join_one _ _]
      exact r1
theorem mod_no {st : St} (h : (modS sl st).2.bad = 0) : Rd sl st (modS sl st).2 (modT (modS sl st).1) ∧ ∀ m, (modS sl st).1 = some m → numIn m := by
  unfold modS at h ⊢
  split at h
  · rename_i hc
    rw [if_pos hc]
    dsimp only at h ⊢
    have r3 := must_no _ _ h
    obtain ⟨r2, i2⟩ := num_no r3.1
    have r1 := must_no _ _ r2.1
    exact ⟨r1.trans (r2.trans r3), fun m hm => by injection hm with hm; subst hm; exact i2⟩
  · rename_i hc
    rw [if_neg hc]
    exact ⟨Rd.nil h, fun m hm => by cases hm⟩
theorem not_no {st : St} (h : (notS sl st).2.bad = 0) : Rd sl st (notS sl st).2 (if (notS sl st).1 then [33] else []) := by
  unfold notS at h ⊢
  split at h
  · rename_i hc
    rw [if_pos hc]
    exact must_no _ _ h
  · rename_i hc
    rw [if_neg hc]
    exact Rd.nil h
theorem head_no {st : St} (h : (headS sl st).2.2.bad = 0) : Rd sl st (headS sl st).2.2 (headT (headS sl st).1 (headS sl st).2.1) ∧ ∀ m, (headS sl st).1 = some m → numIn m := by
  unfold headS at h ⊢
  dsimp only at h ⊢
  have r4 := must_no _ _ h
  have r3 := not_no r4.1
  obtain ⟨r2, i2⟩ := mod_no r3.1
  have r1 := must_no _ _ r2.1
  exact ⟨r1.trans (r2.trans (r3.trans r4)), i2⟩
theorem rel_no {st : St} (h : (relS sl st).2.bad = 0) : Rd sl st (relS sl st).2 (relT (relS sl st).1) ∧ rawIn (relS sl st).1 := by
  have h0 : (headS sl st).2.2.bad = 0 := by
    unfold relS at h
    dsimp only at h
    exact (spans_no _ _ (by omega) h).1.1
  obtain ⟨r1, i1⟩ := head_no h0
  unfold relS at h ⊢
  dsimp only at h ⊢
  obtain ⟨r2, n2, a2⟩ := spans_no _ _ (by omega) h
  exact ⟨r1.trans r2, i1, n2, a2⟩
theorem loop_no : ∀ (f : Nat) (out : List (List Raw)) (row : List Raw) (st : St), sl.length - st.at_ < f → (parseLoop sl f out row st).2.bad = 0 →
    ∃ xs rows, (parseLoop sl f out row st).1 = out ++ ((row ++ xs) :: rows) ∧ (∀ x ∈ xs, rawIn x) ∧ (∀ r ∈ rows, r ≠ [] ∧ ∀ x ∈ r, rawIn x) ∧ st.bad = 0 ∧
      sl.drop st.at_ = Lib.joinTail [32, 97, 110, 100, 32] (xs.map relT) ++ Lib.joinTail [32, 111, 114, 32] (rows.map rowT)
  | 0, _, _, _, hf, _ => by omega
  | f + 1, out, row, st, hf, h => by
    by_cases hc : st.bad = 0 ∧ st.at_ < sl.length
    · rw [parseLoop, if_pos hc] at h ⊢
      split at h
      · rename_i ha
        rw [if_pos ha]
        have hb : (relS sl (mustS sl [97, 110, 100, 32] (mustS sl [32] st))).2.bad = 0 := by
          rcases Decidable.em ((relS sl (mustS sl [97, 110, 100, 32] (mustS sl [32] st))).2.bad = 0) with e | e
          · exact e
          · rw [parseLoop_done sl _ _ _ _ (fun k => e k.1)] at h; exact absurd h e
        obtain ⟨r3, i3⟩ := rel_no hb
        have r2 := must_no _ _ r3.1
        have r1 := must_no _ _ r2.1
        have r := r1.trans (r2.trans r3)
        obtain ⟨xs, rows, e1, e2, e3, _, e5⟩ := loop_no f out _ _ (by rw [r.2.2]; simp only [List.length_append, List.length_cons, List.length_nil]; omega) h
        refine ⟨(relS sl (mustS sl [97, 110, 100, 32] (mustS sl [32] st))).1 :: xs, rows, ?_, ?_, e3, hc.1, ?_⟩
        · rw [e1, List.append_assoc, List.singleton_append]
        · intro x hx
          rcases List.mem_cons.1 hx with rfl | hx
          · exact i3
          · exact e2 x hx
        · rw [tail_and, r.2.1, e5]
          simp
      · rename_i ha
        rw [if_neg ha]
        have hb : (relS sl (mustS sl [111, 114, 32] (mustS sl [32] st))).2.bad = 0 := by
          rcases Decidable.em ((relS sl (mustS sl [111, 114, 32] (mustS sl [32] st))).2.bad = 0) with e | e
          · exact e
          · rw [parseLoop_done sl _ _ _ _ (fun k => e k.1)] at h; exact absurd h e
        obtain ⟨r3, i3⟩ := rel_no hb
        have r2 := must_no _ _ r3.1
        have r1 := must_no _ _ r2.1
        have r := r1.trans (r2.trans r3)
        obtain ⟨xs, rows, e1, e2, e3, _, e5⟩ := loop_no f (out ++ [row]) _ _ (by rw [r.2.2]; simp only [List.length_append, List.length_cons, List.length_nil]; omega) h
        refine ⟨[], ((relS sl (mustS sl [111, 114, 32] (mustS sl [32] st))).1 :: xs) :: rows, ?_, fun x hx => (by cases hx), ?_, hc.1, ?_⟩
        · rw [e1, List.append_assoc, List.singleton_append, List.append_nil, List.singleton_append]
        · intro q hq
          rcases List.mem_cons.1 hq with rfl | hq
          · refine ⟨by simp, fun x hx => ?_⟩
            rcases List.mem_cons.1 hx with rfl | hx
            · exact i3
            · exact e2 x hx
          · exact e3 q hq
        · rw [tail_or, r.2.1, e5]
          simp [Lib.joinTail]
    · rw [parseLoop_done sl _ _ _ _ hc] at h ⊢
      have hge : sl.length ≤ st.at_ := by
        rcases Nat.lt_or_ge st.at_ sl.length with e | e
        · exact absurd ⟨h, e⟩ hc
        · exact e
      exact ⟨[], [], by simp, fun x hx => (by cases hx), fun x hx => (by cases hx), h, by rw [List.drop_eq_nil_of_le hge]; rfl⟩
end
theorem raws_no {sl : List UInt8} (h : (rawsS sl).2.bad = 0) : rulT (rawsS sl).1 = sl ∧ ∀ r ∈ (rawsS sl).1, r ≠ [] ∧ ∀ x ∈ r, rawIn x := by
  have hb : (relS sl ⟨0, 0⟩).2.bad = 0 := by
    rcases Decidable.em ((relS sl ⟨0, 0⟩).2.bad = 0) with e | e
    · exact e
    · unfold rawsS at h
      rw [parseLoop_done sl _ _ _ _ (fun k => e k.1)] at h; exact absurd h e
  obtain ⟨r1, i1⟩ := rel_no hb
  obtain ⟨xs, rows, e1, e2, e3, _, e5⟩ := loop_no (sl.length + 1) [] [(relS sl ⟨0, 0⟩).1] (relS sl ⟨0, 0⟩).2 (by omega) h
  have e6 : (rawsS sl).1 = ((relS sl ⟨0, 0⟩).1 :: xs) :: rows := e1
  have e7 := r1.2.1
  dsimp only at e7
  rw [List.drop_zero, e5] at e7
  refine ⟨?_, ?_⟩
  · rw [e6, rul_head]
    exact e7.symm
  · rw [e6]
    intro r hr
    rcases List.mem_cons.1 hr with rfl | hr
    · refine ⟨by simp, fun x hx => ?_⟩
      rcases List.mem_cons.1 hx with rfl | hx
      · exact i1
      · exact e2 x hx
    · exact e3 r hr
end Go.Proofs.YtfafinnklniniaaDoor
