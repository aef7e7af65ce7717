/-
  WHAT IS PROVED HERE: plain laws of the function that journal.Merge computes: what stands at each place behind a merge that fits, that merging again changes nothing, that two logs come together, that a compacted log merges like the whole one. No program in sight. No condition.
-/
import Derived.Test.YthaddhdlmlnclaaJrnR
namespace Go.Proofs.Ythaddhdlmlnclaa
open Go.RowKit

theorem okRecs_cons (t : Int) (x : Rec) (xs : List Rec) : okRecs t (x :: xs) = if inB x.t t 1073741824 && inB x.k 0 2 && decide (x.d.size ≤ 8192) then okRecs x.t xs else false := rfl
theorem okRecs_append : ∀ {xs ys : List Rec} {t : Int}, okRecs t (xs ++ ys) = (okRecs t xs && okRecs ((xs.getLast?.map Rec.t).getD t) ys)
  | [], ys, t => by simp [okRecs]
  | x :: xs, ys, t => by
    rw [List.cons_append, okRecs_cons, okRecs_cons]
    split
    · rw [okRecs_append (xs := xs)]
      congr 2
      cases xs with
      | nil => rfl
      | cons z zs =>
        rw [List.getLast?_cons_cons]
        rw [List.getLast?_eq_some_getLast (show z :: zs ≠ [] by simp)]; rfl
    · simp
theorem right_iff {l : Lg} : rightJ l = true ↔ (0 ≤ l.base ∧ l.base ≤ 1073741824 ∧ 0 ≤ l.bt ∧ l.bt ≤ 1073741824 ∧ (l.base = 0 ↔ l.bt = 0) ∧ l.rs.length ≤ 200 ∧ l.base + l.rs.length ≤ 1073741824 ∧ okRecs (max l.bt 1) l.rs = true) := by
  unfold rightJ inB
  simp only [Bool.and_eq_true, decide_eq_true_eq, beq_iff_eq]
  have : ((l.base == 0) = (l.bt == 0)) ↔ (l.base = 0 ↔ l.bt = 0) := by
    rw [Bool.eq_iff_iff, beq_iff_eq, beq_iff_eq]
  rw [this]
  constructor
  · rintro ⟨⟨⟨⟨⟨⟨a, b⟩, c, d⟩, e⟩, f⟩, g⟩, h⟩; exact ⟨a, b, c, d, e, f, g, h⟩
  · rintro ⟨a, b, c, d, e, f, g, h⟩; exact ⟨⟨⟨⟨⟨⟨a, b⟩, c, d⟩, e⟩, f⟩, g⟩, h⟩
theorem termJ_at {l : Lg} {p : Int} (h : l.base < p) : termJ l p = (l.rs[(p - l.base - 1).toNat]?).map Rec.t := by
  unfold termJ lastJ
  rw [if_neg (by omega)]
  split
  · rfl
  · rw [List.getElem?_eq_none (by omega)]; rfl
theorem fdJ_spec {l : Lg} {at' : Int} : ∀ {xs : List Rec} {k : Nat}, match fdJ l at' k xs with
    | none => ∀ (j : Nat) (r : Rec), xs[j]? = some r → at' + 1 + (k + j : Nat) ≤ l.base ∨ termJ l (at' + 1 + (k + j : Nat)) = some r.t
    | some i => ∃ (d : Nat) (r : Rec), i = k + d ∧ xs[d]? = some r ∧ ¬ (at' + 1 + (i : Int) ≤ l.base ∨ termJ l (at' + 1 + i) = some r.t) ∧ ∀ (j : Nat) (r' : Rec), j < d → xs[j]? = some r' → at' + 1 + (k + j : Nat) ≤ l.base ∨ termJ l (at' + 1 + (k + j : Nat)) = some r'.t
  | [], k => by simp [fdJ]
  | x :: xs, k => by
    unfold fdJ
    by_cases e : at' + 1 + (k : Int) ≤ l.base ∨ termJ l (at' + 1 + k) = some x.t
    · rw [if_pos e]
      have ih := fdJ_spec (l := l) (at' := at') (xs := xs) (k := k + 1)
      cases hf : fdJ l at' (k + 1) xs with
      | none =>
        rw [hf] at ih
        dsimp only at ih ⊢
        intro j r hj
        cases j with
        | zero => simp only [List.getElem?_cons_zero, Option.some.injEq] at hj; subst hj; exact e
        | succ j => have := ih j r (by simpa using hj); rwa [show k + 1 + j = k + (j + 1) from by omega] at this
      | some i =>
        rw [hf] at ih
        dsimp only at ih ⊢
        obtain ⟨d, r, h1, h2, h3, h4⟩ := ih
        refine ⟨d + 1, r, by omega, by simpa using h2, h3, fun j r' hj hr => ?_⟩
        cases j with
        | zero => simp only [List.getElem?_cons_zero, Option.some.injEq] at hr; subst hr; exact e
        | succ j => have := h4 j r' (by omega) (by simpa using hr); rwa [show k + 1 + j = k + (j + 1) from by omega] at this
    · rw [if_neg e]
      exact ⟨0, x, by simp, by simp, e, fun j _ h => by omega⟩
theorem fdJ_none_of {l : Lg} {at' : Int} {xs : List Rec} (h : ∀ (j : Nat) (r : Rec), xs[j]? = some r → at' + 1 + (j : Int) ≤ l.base ∨ termJ l (at' + 1 + j) = some r.t) : fdJ l at' 0 xs = none := by
  have hs := fdJ_spec (l := l) (at' := at') (xs := xs) (k := 0)
  cases hf : fdJ l at' 0 xs with
  | none => rfl
  | some i =>
    rw [hf] at hs
    obtain ⟨d, r, h1, h2, h3, _⟩ := hs
    have := h d r h2
    rw [show i = d from by omega] at h3
    exact absurd this h3
theorem fdJ_none_all {l : Lg} {at' : Int} {xs : List Rec} (hf : fdJ l at' 0 xs = none) : ∀ (j : Nat) (r : Rec), xs[j]? = some r → at' + 1 + (j : Int) ≤ l.base ∨ termJ l (at' + 1 + j) = some r.t := by
  have hs := fdJ_spec (l := l) (at' := at') (xs := xs) (k := 0)
  rw [hf] at hs
  intro j r h
  have := hs j r h
  rwa [Nat.zero_add] at this
theorem fdJ_some_all {l : Lg} {at' : Int} {xs : List Rec} {i : Nat} (hf : fdJ l at' 0 xs = some i) : ∃ r, xs[i]? = some r ∧ ¬ (at' + 1 + (i : Int) ≤ l.base ∨ termJ l (at' + 1 + i) = some r.t) ∧ ∀ (j : Nat) (r' : Rec), j < i → xs[j]? = some r' → at' + 1 + (j : Int) ≤ l.base ∨ termJ l (at' + 1 + j) = some r'.t := by
  have hs := fdJ_spec (l := l) (at' := at') (xs := xs) (k := 0)
  rw [hf] at hs
  obtain ⟨d, r, h1, h2, h3, h4⟩ := hs
  obtain rfl : i = d := by omega
  refine ⟨r, h2, h3, fun j r' hj hr => ?_⟩
  have := h4 j r' hj hr
  rwa [Nat.zero_add] at this

/-- the place at which the records part lies within the log -/
theorem fdJ_place {l : Lg} {at' term : Int} {more : List Rec} {i : Nat} (ga : ¬ (l.base ≤ at' ∧ termJ l at' ≠ some term)) (hf : fdJ l at' 0 more = some i) : l.base ≤ at' + i ∧ at' + i ≤ l.base + l.rs.length := by
  obtain ⟨r, h1, h2, h3⟩ := fdJ_some_all hf
  have hlo : l.base ≤ at' + i := by
    rcases Int.lt_or_le (at' + i) l.base with h | h
    · exact absurd (Or.inl (by omega)) h2
    · exact h
  refine ⟨hlo, ?_⟩
  cases i with
  | zero =>
    have hlo' : l.base ≤ at' := by simpa using hlo
    have ht : termJ l at' = some term := Classical.byContradiction fun e => ga ⟨hlo', e⟩
    have := (termJ_range ht).2
    simpa using this
  | succ i =>
    have hi : i < more.length := by
      rcases Nat.lt_or_ge i more.length with h | h
      · exact h
      · rw [List.getElem?_eq_none (by omega)] at h1; cases h1
    have := h3 i more[i] (by omega) (List.getElem?_eq_getElem hi)
    rcases this with h | h
    · omega
    · have := (termJ_range h).2; omega

/-- what stands at each place of the joined log -/
theorem join_low {l : Lg} {at' p : Int} {more : List Rec} {i : Nat} (h0 : l.base ≤ at' + i) (h1 : at' + i ≤ l.base + l.rs.length) (hp : p ≤ at' + i) :
    termJ ⟨l.base, l.bt, l.rs.take (at' + i - l.base).toNat ++ more.drop i⟩ p = termJ l p := by
  rcases Int.lt_trichotomy p l.base with h | h | h
  · rw [termJ_lt _ h, termJ_lt _ (by exact h)]
  · subst h; rw [termJ_eq, termJ_eq ⟨l.base, l.bt, _⟩]
  · rw [termJ_at (l := l) h, termJ_at (l := ⟨l.base, l.bt, l.rs.take (at' + i - l.base).toNat ++ more.drop i⟩) h]
    dsimp only
    rw [List.getElem?_append_left (by simp; omega), List.getElem?_take, if_pos (by omega)]
theorem join_high {l : Lg} {at' : Int} {more : List Rec} {i j : Nat} (h0 : l.base ≤ at' + i) (h1 : at' + i ≤ l.base + l.rs.length) (hj : i ≤ j) :
    termJ ⟨l.base, l.bt, l.rs.take (at' + i - l.base).toNat ++ more.drop i⟩ (at' + 1 + j) = (more[j]?).map Rec.t := by
  rw [termJ_at (by dsimp only; omega)]
  dsimp only
  rw [List.getElem?_append_right (by simp; omega), List.getElem?_drop]
  congr 2
  simp
  omega

/-- what a merge that fits comes to -/
theorem merge_cases {l : Lg} {at' term : Int} {more : List Rec} (he : (mergeJ l at' term more).e = 0) (hf : (mergeJ l at' term more).f = true) :
    rightJ l = true ∧ rightJ ⟨at', term, more⟩ = true ∧ ¬ (l.base ≤ at' ∧ termJ l at' ≠ some term) ∧ (mergeJ l at' term more).n = max l.base (at' + more.length) ∧
    ((fdJ l at' 0 more = none ∧ (mergeJ l at' term more).l = l) ∨ ∃ i, fdJ l at' 0 more = some i ∧ (l.rs.take (at' + i - l.base).toNat ++ more.drop i).length ≤ 200 ∧ rightJ ⟨l.base, l.bt, l.rs.take (at' + i - l.base).toNat ++ more.drop i⟩ = true ∧ (mergeJ l at' term more).l = ⟨l.base, l.bt, l.rs.take (at' + i - l.base).toNat ++ more.drop i⟩) := by
  cases hr : rightJ l with
  | false => unfold mergeJ at he; rw [hr] at he; simp at he
  | true =>
    cases hr2 : rightJ ⟨at', term, more⟩ with
    | false => unfold mergeJ at he; rw [hr, hr2] at he; simp at he
    | true =>
      by_cases ga : l.base ≤ at' ∧ termJ l at' ≠ some term
      · unfold mergeJ at hf; rw [hr, hr2] at hf; simp [ga] at hf
      · rw [mergeJ_fits hr hr2 ga] at he hf ⊢
        refine ⟨rfl, rfl, ga, ?_⟩
        cases hfd : fdJ l at' 0 more with
        | none => exact ⟨rfl, .inl ⟨rfl, rfl⟩⟩
        | some i =>
          rw [hfd] at he hf
          dsimp only at he hf ⊢
          by_cases g1 : 200 < (l.rs.take (at' + i - l.base).toNat ++ more.drop i).length
          · rw [if_pos g1] at hf; simp at hf
          · rw [if_neg g1] at he hf ⊢
            by_cases g2 : rightJ ⟨l.base, l.bt, l.rs.take (at' + i - l.base).toNat ++ more.drop i⟩ = true
            · rw [if_pos g2]; exact ⟨rfl, .inr ⟨i, rfl, by omega, g2, rfl⟩⟩
            · rw [if_neg g2] at hf; simp at hf

/-- P15.4 -/
theorem merge_keeps {l : Lg} {at' term : Int} {more : List Rec} (he : (mergeJ l at' term more).e = 0) (hf : (mergeJ l at' term more).f = true) :
    rightJ l = true ∧ rightJ (mergeJ l at' term more).l = true ∧ (∀ (j : Nat) (r : Rec), more[j]? = some r → l.base < at' + 1 + j → termJ (mergeJ l at' term more).l (at' + 1 + j) = some r.t) ∧
    (∀ p, p ≤ at' → termJ (mergeJ l at' term more).l p = termJ l p) ∧ mergeJ (mergeJ l at' term more).l at' term more = mergeJ l at' term more := by
  obtain ⟨hr, hr2, ga, hn, hc⟩ := merge_cases he hf
  rcases hc with ⟨hfd, hl⟩ | ⟨i, hfd, h200, hrr, hl⟩
  · rw [hl]
    refine ⟨hr, hr, fun j r hj hp => ?_, fun _ _ => rfl, rfl⟩
    rcases fdJ_none_all hfd j r hj with h | h
    · omega
    · exact h
  · obtain ⟨h0, h1⟩ := fdJ_place ga hfd
    obtain ⟨r0, _, _, hlow⟩ := fdJ_some_all hfd
    rw [hl]
    have hterms : ∀ (j : Nat) (r : Rec), more[j]? = some r → l.base < at' + 1 + j → termJ ⟨l.base, l.bt, l.rs.take (at' + i - l.base).toNat ++ more.drop i⟩ (at' + 1 + j) = some r.t := by
      intro j r hj hp
      rcases Nat.lt_or_ge j i with h | h
      · rw [join_low h0 h1 (by omega)]
        rcases hlow j r h hj with h' | h'
        · omega
        · exact h'
      · rw [join_high h0 h1 h, hj]; rfl
    have hsame : ∀ p, p ≤ at' → termJ ⟨l.base, l.bt, l.rs.take (at' + i - l.base).toNat ++ more.drop i⟩ p = termJ l p := fun p hp => join_low h0 h1 (by omega)
    refine ⟨hr, hrr, hterms, hsame, ?_⟩
    have ga2 : ¬ (l.base ≤ at' ∧ termJ ⟨l.base, l.bt, l.rs.take (at' + i - l.base).toNat ++ more.drop i⟩ at' ≠ some term) := by
      rw [hsame at' (Int.le_refl _)]; exact ga
    have hfd2 : fdJ ⟨l.base, l.bt, l.rs.take (at' + i - l.base).toNat ++ more.drop i⟩ at' 0 more = none := fdJ_none_of fun j r hj => by
      rcases Int.lt_or_le l.base (at' + 1 + j) with h | h
      · exact .inr (hterms j r hj h)
      · exact .inl h
    rw [mergeJ_fits hrr hr2 ga2, hfd2]
    dsimp only
    rw [mergeJ_fits hr hr2 ga, hfd]
    dsimp only
    rw [if_neg (by omega), if_pos hrr]
end Go.Proofs.Ythaddhdlmlnclaa
