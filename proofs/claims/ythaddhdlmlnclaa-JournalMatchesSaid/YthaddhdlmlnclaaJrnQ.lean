/-
  WHAT IS PROVED HERE: plain laws of the function that journal.Merge computes: two logs that part behind a place come together (P15.5), a compacted log merges like the whole one (P15.3). No program in sight. No condition.
-/
import Derived.Test.YthaddhdlmlnclaaJrnP
namespace Go.Proofs.Ythaddhdlmlnclaa
open Go.RowKit

theorem termJ_base (b bt : Int) (rs : List Rec) : termJ ⟨b, bt, rs⟩ b = some bt := termJ_eq ⟨b, bt, rs⟩
def lastT (b bt : Int) (xs : List Rec) : Int := (termJ ⟨b, bt, xs⟩ (b + xs.length)).getD 0
theorem lastT_snoc {b bt : Int} {xs : List Rec} {r : Rec} : lastT b bt (xs ++ [r]) = r.t := by
  unfold lastT
  rw [termJ_at (by simp only [List.length_append, List.length_singleton]; omega)]
  dsimp only
  rw [show (b + ((xs ++ [r]).length : Int) - b - 1).toNat = xs.length from by simp only [List.length_append, List.length_singleton]; omega]
  simp
theorem lastT_nil {b bt : Int} : lastT b bt [] = bt := by
  unfold lastT
  simp [termJ]
theorem snoc_cases (xs : List Rec) : xs = [] ∨ ∃ ys r, xs = ys ++ [r] := by
  rcases List.eq_nil_or_concat xs with h | ⟨ys, r, h⟩
  · exact .inl h
  · exact .inr ⟨ys, r, by simpa using h⟩
theorem right_split {b bt : Int} {xs ys : List Rec} (hx : rightJ ⟨b, bt, xs⟩ = true) (hl : (xs ++ ys).length ≤ 200) :
    rightJ ⟨b, bt, xs ++ ys⟩ = rightJ ⟨b + xs.length, lastT b bt xs, ys⟩ := by
  have h1 := right_iff.1 hx
  dsimp only at h1
  obtain ⟨a1, a2, a3, a4, a5, a6, a7, a8⟩ := h1
  have hpos := right_pos hx
  dsimp only at hpos
  rw [Bool.eq_iff_iff, right_iff, right_iff]
  dsimp only
  rw [okRecs_append, a8]
  rcases snoc_cases xs with rfl | ⟨zs, r, rfl⟩
  · rw [lastT_nil]
    simp only [List.nil_append, List.length_nil, List.getLast?_nil, Option.map_none, Option.getD_none, Bool.true_and] at *
    constructor
    · rintro ⟨_, _, _, _, _, _, _, h⟩; exact ⟨by omega, by omega, a3, a4, by simpa using a5, hl, by omega, h⟩
    · rintro ⟨_, _, _, _, _, _, _, h⟩; exact ⟨by omega, by omega, a3, a4, by simpa using a5, hl, by omega, h⟩
  · have hr1 : 1 ≤ r.t := hpos r (by simp)
    have hr2 : r.t ≤ 1073741824 := by
      rw [okRecs_append] at a8
      simp only [Bool.and_eq_true] at a8
      have := a8.2
      unfold okRecs inB at this
      split at this
      · rename_i hc
        simp only [Bool.and_eq_true, decide_eq_true_eq] at hc
        omega
      · cases this
    rw [lastT_snoc, show max r.t 1 = r.t from by omega]
    simp only [List.getLast?_append, List.getLast?_singleton, Option.some_or, Option.map_some, Option.getD_some, Bool.true_and, List.length_append, List.length_singleton] at *
    constructor
    · rintro ⟨_, _, _, _, _, _, h7, h⟩; exact ⟨by omega, by omega, by omega, hr2, by omega, by omega, by omega, h⟩
    · rintro ⟨_, _, _, _, _, _, h7, h⟩; exact ⟨by omega, by omega, a3, a4, a5, by omega, by omega, h⟩
theorem right_pre {b bt : Int} {xs ys : List Rec} (h : rightJ ⟨b, bt, xs ++ ys⟩ = true) : rightJ ⟨b, bt, xs⟩ = true := by
  have h1 := right_iff.1 h
  dsimp only at h1
  obtain ⟨a1, a2, a3, a4, a5, a6, a7, a8⟩ := h1
  rw [okRecs_append] at a8
  simp only [Bool.and_eq_true, List.length_append] at a8 a6 a7
  exact right_iff.2 ⟨a1, a2, a3, a4, a5, by dsimp only; omega, by dsimp only; omega, a8.1⟩

/-- are the records that have the same terms the same ones? -/
def preOk : List Rec → List Rec → Bool
  | a :: aa, b :: bb => if a.t == b.t then if recB a b then preOk aa bb else false else true
  | _, _ => true
theorem pre_take : ∀ {i : Nat} {x more : List Rec}, preOk x more = true → i ≤ more.length → (∀ j, j < i → (x[j]?).map Rec.t = (more[j]?).map Rec.t) → x.take i = more.take i ∧ i ≤ x.length
  | 0, _, _, _, _, _ => by simp
  | i + 1, x, [], _, h, _ => by simp at h
  | i + 1, x, b :: bs, hp, hi, hj => by
    have h0 := hj 0 (by omega)
    cases x with
    | nil => simp at h0
    | cons a aa =>
      simp only [List.getElem?_cons_zero, Option.map_some, Option.some.injEq] at h0
      unfold preOk at hp
      rw [if_pos (by simpa using h0)] at hp
      by_cases e : recB a b = true
      · rw [if_pos e] at hp
        have e2 := recB_eq.1 e
        subst e2
        obtain ⟨g1, g2⟩ := pre_take hp (by simpa using hi) (fun j hlt => by have := hj (j + 1) (by omega); simpa using this)
        exact ⟨by simp [g1], by simp; omega⟩
      · rw [if_neg e] at hp; cases hp

/-- P15.5: one side -/
theorem match_side {l : Lg} {x more : List Rec} (hr : rightJ l = true) (h1 : rightJ ⟨l.base, l.bt, l.rs ++ x⟩ = true) (hp : preOk x more = true) :
    (rightJ ⟨lastJ l, (termJ l (lastJ l)).getD 0, more⟩ = false ∧ (mergeJ ⟨l.base, l.bt, l.rs ++ x⟩ (lastJ l) ((termJ l (lastJ l)).getD 0) more).e = 1) ∨
    (rightJ ⟨lastJ l, (termJ l (lastJ l)).getD 0, more⟩ = true ∧ ((mergeJ ⟨l.base, l.bt, l.rs ++ x⟩ (lastJ l) ((termJ l (lastJ l)).getD 0) more).e = 130 ∨
      ∃ a, mergeJ ⟨l.base, l.bt, l.rs ++ x⟩ (lastJ l) ((termJ l (lastJ l)).getD 0) more = ⟨a, lastJ l + more.length, true, 0⟩ ∧ behindJ a l.base (lastJ l + more.length - l.base) = l.rs ++ more)) := by
  have hlast : lastJ l = l.base + l.rs.length := rfl
  obtain ⟨term, hterm⟩ : ∃ t, (termJ l (lastJ l)).getD 0 = t := ⟨_, rfl⟩
  have hT : lastT l.base l.bt l.rs = term := hterm
  have hsome : termJ l (lastJ l) = some term := by
    obtain ⟨v, hv, _⟩ := termJ_last hr
    rw [hv] at hterm ⊢
    rw [← hterm]; rfl
  rw [hterm]
  cases hr2 : rightJ ⟨lastJ l, term, more⟩ with
  | false => exact .inl ⟨rfl, by unfold mergeJ; rw [h1, hr2]; rfl⟩
  | true =>
    refine .inr ⟨rfl, ?_⟩
    have hbd := right_bounds hr
    have hat : termJ ⟨l.base, l.bt, l.rs ++ x⟩ (lastJ l) = some term := by
      rcases Int.lt_or_eq_of_le (show l.base ≤ lastJ l from by omega) with h | h
      · rw [← hsome, termJ_at h, termJ_at (by exact h)]
        dsimp only
        rw [List.getElem?_append_left (by omega)]
      · rw [← hsome, ← h, termJ_base, termJ_eq]
    have hx : ∀ j : Nat, termJ ⟨l.base, l.bt, l.rs ++ x⟩ (lastJ l + 1 + j) = (x[j]?).map Rec.t := fun j => by
      rw [termJ_at (by dsimp only; omega)]
      dsimp only
      rw [List.getElem?_append_right (by omega)]
      congr 2
      omega
    have ga : ¬ (l.base ≤ lastJ l ∧ termJ ⟨l.base, l.bt, l.rs ++ x⟩ (lastJ l) ≠ some term) := fun e => e.2 hat
    rw [mergeJ_fits h1 hr2 ga]
    dsimp only
    have hmax : max l.base (lastJ l + more.length) = lastJ l + more.length := by omega
    rw [hmax]
    have hfin : ∀ a : Lg, rightJ a = true → a.base = l.base → l.rs.length + more.length ≤ a.rs.length → a.rs.take (l.rs.length + more.length) = l.rs ++ more → behindJ a l.base (lastJ l + more.length - l.base) = l.rs ++ more := by
      intro a ha hb hl ht
      unfold behindJ
      rw [if_pos ⟨ha, by omega, by unfold lastJ; omega⟩, hb, show (l.base - l.base).toNat = 0 from by omega, List.drop_zero, show (lastJ l + more.length - l.base).toNat = l.rs.length + more.length from by omega]
      exact ht
    cases hfd : fdJ ⟨l.base, l.bt, l.rs ++ x⟩ (lastJ l) 0 more with
    | none =>
      dsimp only
      refine .inr ⟨_, rfl, ?_⟩
      have hall := fdJ_none_all hfd
      obtain ⟨g1, g2⟩ := pre_take hp (Nat.le_refl _) (fun j hj => by
        rcases hall j more[j] (List.getElem?_eq_getElem hj) with h | h
        · dsimp only at h; omega
        · rw [hx] at h; rw [h, List.getElem?_eq_getElem hj]; rfl)
      refine hfin _ h1 rfl (by simp; omega) ?_
      dsimp only
      rw [List.take_append, List.take_of_length_le (by omega), Nat.add_sub_cancel_left, g1, List.take_length]
    | some i =>
      dsimp only
      obtain ⟨r0, hr0, _, hlow⟩ := fdJ_some_all hfd
      have hi : i < more.length := by
        rcases Nat.lt_or_ge i more.length with h | h
        · exact h
        · rw [List.getElem?_eq_none (by omega)] at hr0; cases hr0
      obtain ⟨g1, g2⟩ := pre_take (i := i) hp (by omega) (fun j hj => by
        rcases hlow j more[j] hj (List.getElem?_eq_getElem (by omega)) with h | h
        · dsimp only at h; omega
        · rw [hx] at h; rw [h, List.getElem?_eq_getElem (by omega)]; rfl)
      have hrs : (l.rs ++ x).take (lastJ l + i - l.base).toNat ++ more.drop i = l.rs ++ more := by
        rw [show (lastJ l + i - l.base).toNat = l.rs.length + i from by omega, List.take_append, List.take_of_length_le (by omega), Nat.add_sub_cancel_left, g1, List.append_assoc, List.take_append_drop]
      rw [hrs]
      by_cases h200 : 200 < (l.rs ++ more).length
      · rw [if_pos h200]; exact .inl rfl
      · rw [if_neg h200]
        have hrr : rightJ ⟨l.base, l.bt, l.rs ++ more⟩ = true := by
          rw [right_split hr (by omega), hT]
          exact hr2
        rw [if_pos hrr]
        refine .inr ⟨_, rfl, hfin _ hrr rfl (by simp) ?_⟩
        dsimp only
        rw [← List.length_append, List.take_length]

/-- P15.3 -/
theorem compact_right {l : Lg} {to t : Int} (hr : rightJ l = true) (ht : termJ l to = some t) :
    rightJ ⟨to, t, l.rs.drop (to - l.base).toNat⟩ = true ∧ lastJ ⟨to, t, l.rs.drop (to - l.base).toNat⟩ = lastJ l ∧ ∀ p, to ≤ p → termJ ⟨to, t, l.rs.drop (to - l.base).toNat⟩ p = termJ l p := by
  have hrg := termJ_range ht
  have hbd := right_bounds hr
  obtain ⟨d, hd⟩ : ∃ d, (to - l.base).toNat = d := ⟨_, rfl⟩
  have hto : to = l.base + d := by omega
  have hlen : (l.rs.take d).length = d := by simp; omega
  have hT : lastT l.base l.bt (l.rs.take d) = t := by
    unfold lastT
    rw [hlen, ← hto]
    rcases Int.lt_or_eq_of_le hrg.1 with h | h
    · rw [termJ_at (by exact h)]
      rw [termJ_at h] at ht
      dsimp only
      rw [List.getElem?_take, if_pos (by omega), ht]; rfl
    · rw [← h] at ht ⊢
      rw [termJ_eq] at ht
      rw [termJ_base]; injection ht
  rw [hd]
  have hr' : rightJ ⟨l.base, l.bt, l.rs.take d ++ l.rs.drop d⟩ = true := by rw [List.take_append_drop]; exact hr
  refine ⟨?_, by unfold lastJ; simp; omega, fun p hp => ?_⟩
  · have := right_split (right_pre hr') (ys := l.rs.drop d) (by rw [List.take_append_drop]; omega)
    rw [hr', hT, hlen, ← hto] at this
    exact this.symm
  · rcases Int.lt_or_eq_of_le hp with h | h
    · rw [termJ_at (by exact h), termJ_at (by omega)]
      dsimp only
      rw [List.getElem?_drop]
      congr 2
      omega
    · rw [← h, ht]
      exact termJ_eq ⟨to, t, l.rs.drop d⟩

theorem merge_compact {l : Lg} {to t at' term : Int} {more : List Rec} (hr : rightJ l = true) (ht : termJ l to = some t) (hat : to ≤ at') :
    (mergeJ l at' term more).e = 130 ∨ ((mergeJ l at' term more).e = (mergeJ ⟨to, t, l.rs.drop (to - l.base).toNat⟩ at' term more).e ∧ ((mergeJ l at' term more).e = 0 →
      (mergeJ l at' term more).n = (mergeJ ⟨to, t, l.rs.drop (to - l.base).toNat⟩ at' term more).n ∧ (mergeJ l at' term more).f = (mergeJ ⟨to, t, l.rs.drop (to - l.base).toNat⟩ at' term more).f ∧
      compactJ (mergeJ l at' term more).l to = ((mergeJ ⟨to, t, l.rs.drop (to - l.base).toNat⟩ at' term more).l, 0))) := by
  obtain ⟨hc1, hc2, hc3⟩ := compact_right hr ht
  have hrg := termJ_range ht
  have hbd := right_bounds hr
  obtain ⟨c, hc⟩ : ∃ c : Lg, (⟨to, t, l.rs.drop (to - l.base).toNat⟩ : Lg) = c := ⟨_, rfl⟩
  have hcb : c.base = to := by rw [← hc]
  have hcl : compactJ l to = (c, 0) := by unfold compactJ; rw [hr, ht, ← hc]; rfl
  rw [hc] at hc1 hc2 hc3 ⊢
  cases hr2 : rightJ ⟨at', term, more⟩ with
  | false =>
    refine .inr ⟨by unfold mergeJ; rw [hr, hr2, hc1]; rfl, fun h => ?_⟩
    unfold mergeJ at h; rw [hr, hr2] at h; simp at h
  | true =>
    by_cases ga : l.base ≤ at' ∧ termJ l at' ≠ some term
    · have ga2 : c.base ≤ at' ∧ termJ c at' ≠ some term := ⟨by omega, by rw [hc3 at' hat]; exact ga.2⟩
      have e1 : mergeJ l at' term more = ⟨l, min (lastJ l) (at' - 1), false, 0⟩ := by unfold mergeJ; rw [hr, hr2]; simp [ga]
      have e2 : mergeJ c at' term more = ⟨c, min (lastJ l) (at' - 1), false, 0⟩ := by unfold mergeJ; rw [hc1, hr2, hc2]; simp [ga2]
      rw [e1, e2]
      exact .inr ⟨rfl, fun _ => ⟨rfl, rfl, hcl⟩⟩
    · have ga2 : ¬ (c.base ≤ at' ∧ termJ c at' ≠ some term) := by
        rw [hc3 at' hat]; rintro ⟨_, e⟩; exact ga ⟨by omega, e⟩
      have hfd : fdJ c at' 0 more = fdJ l at' 0 more := by
        have : ∀ (xs : List Rec) (k : Nat), fdJ c at' k xs = fdJ l at' k xs := by
          intro xs
          induction xs with
          | nil => intro k; rfl
          | cons x xs ih =>
            intro k
            unfold fdJ
            rw [hc3 (at' + 1 + k) (by omega), ih]
            by_cases e : termJ l (at' + 1 + k) = some x.t
            · rw [if_pos (.inr e), if_pos (.inr e)]
            · rw [if_neg (by rintro (h | h); omega; exact e h), if_neg (by rintro (h | h); omega; exact e h)]
        exact this more 0
      have hm1 : max l.base (at' + more.length) = at' + more.length := by omega
      have hm2 : max c.base (at' + more.length) = at' + more.length := by omega
      rw [mergeJ_fits hr hr2 ga, mergeJ_fits hc1 hr2 ga2, hfd, hm1, hm2]
      cases hf : fdJ l at' 0 more with
      | none => exact .inr ⟨rfl, fun _ => ⟨rfl, rfl, hcl⟩⟩
      | some i =>
        obtain ⟨h0, h1⟩ := fdJ_place ga hf
        dsimp only
        obtain ⟨d, hd⟩ : ∃ d, (to - l.base).toNat = d := ⟨_, rfl⟩
        have hto : to = l.base + d := by omega
        have hcr : c.rs = l.rs.drop d := by rw [← hc, hd]
        have hlen : (l.rs.take d).length = d := by simp; omega
        have hsplit : l.rs.take (at' + i - l.base).toNat ++ more.drop i = l.rs.take d ++ (c.rs.take (at' + i - c.base).toNat ++ more.drop i) := by
          rw [← List.append_assoc, hcr, hcb]
          congr 1
          rw [show (at' + i - l.base).toNat = d + (at' + i - to).toNat from by omega, List.take_add]
        by_cases h200 : 200 < (l.rs.take (at' + i - l.base).toNat ++ more.drop i).length
        · rw [if_pos h200]; exact .inl rfl
        · rw [if_neg h200]
          have h200' : ¬ 200 < (c.rs.take (at' + i - c.base).toNat ++ more.drop i).length := by
            rw [hsplit, List.length_append] at h200; omega
          rw [if_neg h200']
          have hr' : rightJ ⟨l.base, l.bt, l.rs.take d ++ l.rs.drop d⟩ = true := by rw [List.take_append_drop]; exact hr
          have hT : lastT l.base l.bt (l.rs.take d) = t := by
            unfold lastT
            rw [hlen, ← hto]
            rcases Int.lt_or_eq_of_le hrg.1 with h | h
            · rw [termJ_at (by exact h)]
              rw [termJ_at h] at ht
              dsimp only
              rw [List.getElem?_take, if_pos (by omega), ht]; rfl
            · rw [← h] at ht ⊢
              rw [termJ_eq] at ht
              rw [termJ_base]; injection ht
          have heq : rightJ ⟨l.base, l.bt, l.rs.take (at' + i - l.base).toNat ++ more.drop i⟩ = rightJ ⟨c.base, c.bt, c.rs.take (at' + i - c.base).toNat ++ more.drop i⟩ := by
            rw [hsplit, right_split (right_pre hr') (by rw [← hsplit]; omega), hT, hlen, ← hto, hcb, ← hc]
          have hcbt : c.bt = t := by rw [← hc]
          rw [← heq]
          by_cases hrr : rightJ ⟨l.base, l.bt, l.rs.take (at' + i - l.base).toNat ++ more.drop i⟩ = true
          · rw [if_pos hrr, if_pos hrr]
            refine .inr ⟨rfl, fun _ => ⟨rfl, rfl, ?_⟩⟩
            unfold compactJ
            dsimp only
            rw [if_pos hrr, join_low h0 h1 (by omega), ht]
            dsimp only
            rw [hsplit, hd, List.drop_append_of_le_length (by omega), List.drop_eq_nil_of_le (by omega), List.nil_append, hcb, hcbt]
          · rw [if_neg hrr, if_neg hrr]
            exact .inr ⟨rfl, fun h => by simp at h⟩
end Go.Proofs.Ythaddhdlmlnclaa
