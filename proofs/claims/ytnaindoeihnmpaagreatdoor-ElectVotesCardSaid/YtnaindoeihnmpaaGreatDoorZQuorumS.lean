/-
  WHAT IS PROVED HERE: the place that a majority has: the middle of what the voters have, sorted, is the greatest place that more than half of them have. No program in sight. No condition.
-/
import Derived.Lib.Hide
namespace Go.Proofs.YtnaindoeihnmpaaGreatDoor
open Go.RowKit

structure Pr where
  id : Int
  nx : Int
  mt : Int
/-- the greatest place that is told of a voter -/
def mostF (v : Int) : List Pr → Int → Int
  | [], acc => acc
  | p :: ps, acc => mostF v ps (if p.id = v then max acc p.mt else acc)
/-- what a voter has -/
def haveV (self last : Int) (ps : List Pr) (v : Int) : Int := min (if v = self then last else mostF v ps 0) last
/-- has a voter a place? (the reference) -/
def hasF (v p : Int) : List Pr → Bool
  | [] => decide (p ≤ 0)
  | x :: ps => if x.id = v ∧ p ≤ x.mt then true else hasF v p ps
def hasB (v p self last : Int) (ps : List Pr) : Bool := if v = self then decide (p ≤ last) else hasF v p ps
def cnt (p self last : Int) (ps : List Pr) (l : List Int) : Nat := l.countP fun v => hasB v p self last ps
/-- the reference: from a place down -/
def sureF (self last : Int) (ps : List Pr) (l : List Int) : Nat → Int
  | 0 => 0
  | k + 1 => if l.length - cnt ((k + 1 : Nat) : Int) self last ps l < cnt ((k + 1 : Nat) : Int) self last ps l then ((k + 1 : Nat) : Int) else sureF self last ps l k
def sorted (l : List Int) : List Int := l.mergeSort fun x y => decide (x ≤ y)

theorem most_ge (v : Int) : ∀ (ps : List Pr) (acc : Int), acc ≤ mostF v ps acc
  | [], _ => Int.le_refl _
  | p :: ps, acc => by
    unfold mostF
    have := most_ge v ps (if p.id = v then max acc p.mt else acc)
    split at this <;> split <;> omega
theorem has_most (v p : Int) : ∀ (ps : List Pr) (acc : Int), (p ≤ mostF v ps acc) ↔ (hasF v p ps = true ∧ 0 < p ∨ p ≤ acc ∨ (hasF v p ps = true ∧ p ≤ mostF v ps acc))
  | _, _ => by
    rename_i ps acc
    constructor
    · intro h
      by_cases hf : hasF v p ps = true
      · exact .inr (.inr ⟨hf, h⟩)
      · right; left
        induction ps generalizing acc with
        | nil => exact h
        | cons x ps ih =>
          unfold mostF at h
          unfold hasF at hf
          split at hf
          · simp at hf
          · rename_i hx
            have h1 := ih _ h hf
            split at h1
            · rename_i hid
              have : ¬ p ≤ x.mt := fun e => hx ⟨hid, e⟩
              omega
            · exact h1
    · rintro (⟨hf, hp⟩ | h | ⟨_, h⟩)
      · induction ps generalizing acc with
        | nil => simp [hasF] at hf; omega
        | cons x ps ih =>
          unfold mostF
          unfold hasF at hf
          split at hf
          · rename_i hx
            rw [if_pos hx.1]
            have := most_ge v ps (max acc x.mt)
            omega
          · exact ih _ hf
      · exact Int.le_trans h (most_ge v ps acc)
      · exact h
theorem has_have {p self last : Int} (ps : List Pr) (v : Int) (h1 : 0 < p) (h2 : p ≤ last) : hasB v p self last ps = decide (p ≤ haveV self last ps v) := by
  unfold hasB haveV
  split
  · rw [Int.min_self]
  · rw [Bool.eq_iff_iff, decide_eq_true_eq]
    have h := has_most v p ps 0
    constructor
    · intro hf
      have := h.2 (.inl ⟨hf, h1⟩)
      omega
    · intro hp
      rcases h.1 (by omega) with ⟨hf, _⟩ | h3 | ⟨hf, _⟩
      · exact hf
      · omega
      · exact hf
/-- of a list that rises: how many are at least p -/
theorem count_high {p : Int} : ∀ (l : List Int) (j : Nat), l.Pairwise (· ≤ ·) → (x : Int) → l[j]? = some x → p ≤ x → l.length - j ≤ l.countP fun v => decide (p ≤ v)
  | [], _, _, _, h, _ => by simp at h
  | y :: l, 0, hp, x, h, hx => by
    rw [List.getElem?_cons_zero] at h
    injection h with h
    subst h
    have hall : ∀ v ∈ y :: l, decide (p ≤ v) = true := by
      intro v hv
      rcases List.mem_cons.1 hv with rfl | hv
      · exact decide_eq_true hx
      · have := (List.pairwise_cons.1 hp).1 v hv
        exact decide_eq_true (by omega)
    rw [List.countP_eq_length.2 hall]
    omega
  | y :: l, j + 1, hp, x, h, hx => by
    have ih := count_high l j (List.pairwise_cons.1 hp).2 x (by simpa using h) hx
    rw [List.countP_cons, List.length_cons]
    omega
theorem count_low {p : Int} : ∀ (l : List Int) (j : Nat), l.Pairwise (· ≤ ·) → (x : Int) → l[j]? = some x → x < p → (l.countP fun v => decide (p ≤ v)) ≤ l.length - (j + 1)
  | [], _, _, _, h, _ => by simp at h
  | y :: l, 0, hp, x, h, hx => by
    rw [List.getElem?_cons_zero] at h
    injection h with h
    subst h
    rw [List.countP_cons, if_neg (by simp; omega), List.length_cons]
    have := List.countP_le_length (p := fun v => decide (p ≤ v)) (l := l)
    omega
  | y :: l, j + 1, hp, x, h, hx => by
    have ih := count_low l j (List.pairwise_cons.1 hp).2 x (by simpa using h) hx
    have hl : j < l.length := by
      rw [List.getElem?_cons_succ] at h
      exact (List.getElem?_eq_some_iff.1 h).1
    have hyx : y ≤ x := (List.pairwise_cons.1 hp).1 x (List.mem_of_getElem? (by simpa using h))
    rw [List.countP_cons, if_neg (by simp; omega), List.length_cons]
    omega
theorem sorted_perm (l : List Int) : (sorted l).Perm l := List.mergeSort_perm l _
theorem sorted_pair (l : List Int) : (sorted l).Pairwise (· ≤ ·) := by
  have h := List.pairwise_mergeSort (le := fun x y : Int => decide (x ≤ y)) (fun a b c h1 h2 => by simp at *; omega) (fun a b => by simp; omega) l
  exact h.imp (by intro a b h; simpa using h)
theorem sure_eq (self last : Int) (ps : List Pr) (l : List Int) (m : Int) (hm : (sorted (l.map (haveV self last ps)))[(l.length - 1) / 2]? = some m) (h0 : 0 ≤ m) (hml : m ≤ last) :
    ∀ k : Nat, (k : Int) ≤ last → m ≤ k → sureF self last ps l k = m
  | 0, _, hk => by show (0 : Int) = m; omega
  | k + 1, hl, hk => by
    have hlen : (sorted (l.map (haveV self last ps))).length = l.length := by rw [(sorted_perm _).length_eq, List.length_map]
    have hcnt : cnt ((k + 1 : Nat) : Int) self last ps l = (sorted (l.map (haveV self last ps))).countP fun v => decide (((k + 1 : Nat) : Int) ≤ v) := by
      rw [(sorted_perm _).countP_eq, List.countP_map]
      unfold cnt
      congr 1
      funext v
      exact has_have ps v (by omega) hl
    have hpos : 0 < l.length := by
      rw [← hlen]
      have := (List.getElem?_eq_some_iff.1 hm).1
      omega
    unfold sureF
    by_cases hp : ((k + 1 : Nat) : Int) ≤ m
    · have hc := count_high _ _ (sorted_pair _) m hm hp
      rw [hlen] at hc
      rw [if_pos (by rw [hcnt]; omega)]
      omega
    · have hc := count_low (p := ((k + 1 : Nat) : Int)) _ _ (sorted_pair _) m hm (by omega)
      rw [hlen] at hc
      rw [if_neg (by rw [hcnt]; omega)]
      exact sure_eq self last ps l m hm h0 hml k (by omega) (by omega)
end Go.Proofs.YtnaindoeihnmpaaGreatDoor
