/-
  WHAT IS PROVED HERE: plain laws on lists of ints: the members that two ascending lists have in common are as many from either side; two majorities of the same voters, or of voters and of those that may follow them, have a voter in common. No condition.
-/
import Derived.Test.YtnaindoeihnmpaaDoorZGJrn
namespace Go.Proofs.YtnaindoeihnmpaaDoor

def cntP (p : Int → Bool) : List Int → Nat
  | [] => 0
  | x :: xs => (p x).toNat + cntP p xs
theorem cntL_eq (b : List Int) : ∀ a, cntL b a = cntP (fun x => inL x b) a
  | [] => rfl
  | x :: xs => by simp only [cntL, cntP, cntL_eq b xs]; cases inL x b <;> rfl
theorem inL_iff (x : Int) : ∀ l, inL x l = true ↔ x ∈ l
  | [] => by simp [inL]
  | y :: ys => by
    unfold inL
    by_cases h : x = y <;> simp [h, inL_iff x ys]
theorem inL_false {x : Int} {l : List Int} : inL x l = false ↔ x ∉ l := by
  rw [← inL_iff]; simp
theorem cntP_le (p : Int → Bool) : ∀ l, cntP p l ≤ l.length
  | [] => by simp [cntP]
  | x :: xs => by have := cntP_le p xs; unfold cntP; cases p x <;> simp <;> omega
theorem cntP_congr {p q : Int → Bool} : ∀ {l : List Int}, (∀ x ∈ l, p x = q x) → cntP p l = cntP q l
  | [], _ => rfl
  | x :: xs, h => by
    unfold cntP
    rw [h x (by simp), cntP_congr (l := xs) fun y hy => h y (by simp [hy])]
theorem cntP_add {p q r : Int → Bool} : ∀ {l : List Int}, (∀ x ∈ l, (p x).toNat + (q x).toNat ≤ (r x).toNat) → cntP p l + cntP q l ≤ cntP r l
  | [], _ => by simp [cntP]
  | x :: xs, h => by
    have h1 := h x (by simp)
    have h2 := cntP_add (l := xs) (p := p) (q := q) (r := r) fun y hy => h y (by simp [hy])
    unfold cntP
    omega
theorem cntP_split {p q r : Int → Bool} : ∀ {l : List Int}, (∀ x ∈ l, (p x).toNat ≤ (q x).toNat + (r x).toNat) → cntP p l ≤ cntP q l + cntP r l
  | [], _ => by simp [cntP]
  | x :: xs, h => by
    have h1 := h x (by simp)
    have h2 := cntP_split (l := xs) (p := p) (q := q) (r := r) fun y hy => h y (by simp [hy])
    unfold cntP
    omega
theorem cntP_not (p : Int → Bool) : ∀ l, cntP (fun x => !p x) l + cntP p l = l.length
  | [] => rfl
  | x :: xs => by
    have := cntP_not p xs
    simp only [cntP, List.length_cons]
    cases p x <;> simp <;> omega

/-- no member twice -/
def ones : List Int → Prop
  | [] => True
  | x :: xs => x ∉ xs ∧ ones xs
theorem cnt_one {p : Int → Bool} {x : Int} {xs : List Int} (hx : x ∉ xs) : ∀ {ys : List Int}, ones ys → cntP (fun y => p y && inL y (x :: xs)) ys = (p x && inL x ys).toNat + cntP (fun y => p y && inL y xs) ys
  | [], _ => by simp [cntP, inL]
  | y :: ys, h => by
    have ih := cnt_one (p := p) hx (ys := ys) h.2
    simp only [cntP]
    rw [ih]
    by_cases e : y = x
    · subst e
      have h1 : inL y ys = false := inL_false.2 h.1
      have h2 : inL y xs = false := inL_false.2 hx
      simp [inL, h1, h2]
    · have e' : ¬ x = y := fun h => e h.symm
      have a1 : inL y (x :: xs) = inL y xs := by simp [inL, e]
      have a2 : inL x (y :: ys) = inL x ys := by simp [inL, e']
      rw [a1, a2]
      omega
theorem cnt_symm (p : Int → Bool) : ∀ {xs ys : List Int}, ones xs → ones ys → cntP (fun x => p x && inL x ys) xs = cntP (fun y => p y && inL y xs) ys
  | [], ys, _, _ => by
    simp only [cntP]
    have : ∀ l : List Int, cntP (fun y => p y && inL y []) l = 0 := by
      intro l
      induction l with
      | nil => rfl
      | cons y l ih => simp only [cntP, ih]; simp [inL]
    rw [this]
  | x :: xs, ys, h, h' => by
    rw [cnt_one h.1 h']
    simp only [cntP]
    rw [cnt_symm p h.2 h']
theorem asc_lt : ∀ {l : List Int} {u : Int}, ascL (some u) l = true → ∀ x ∈ l, u < x
  | [], _, _ => by simp
  | v :: vs, u, h => by
    unfold ascL at h
    split at h
    · cases h
    · intro x hx
      have hv : u < v := by omega
      rcases List.mem_cons.1 hx with rfl | hx
      · exact hv
      · exact Int.lt_trans hv (asc_lt h x hx)
theorem asc_ones' : ∀ {l : List Int} {u : Int}, ascL (some u) l = true → ones l
  | [], _, _ => trivial
  | v :: vs, u, h => by
    unfold ascL at h
    split at h
    · cases h
    · exact ⟨fun hm => Int.lt_irrefl v (asc_lt h v hm), asc_ones' h⟩
theorem asc_ones {l : List Int} (h : ascL none l = true) : ones l := by
  cases l with
  | nil => trivial
  | cons v vs =>
    unfold ascL at h
    split at h
    · cases h
    · exact ⟨fun hm => Int.lt_irrefl v (asc_lt h v hm), asc_ones' h⟩
theorem right_ones {l : List Int} (h : rightL l = true) : ones l := by
  unfold rightL at h
  simp only [Bool.and_eq_true] at h
  exact asc_ones h.1
theorem cntL_symm {xs ys : List Int} (h : ones xs) (h' : ones ys) : cntL ys xs = cntL xs ys := by
  have := cnt_symm (fun _ => true) h h'
  simpa [cntL_eq] using this

/-- quorum.Next's reckoning is the reference's. -/
theorem next_eq (xs ys : List Int) : (rightL xs && rightL ys && decide ((xs.length : Int) - cntL ys xs + ys.length - cntL ys xs = 1)) = nextL xs ys := by
  unfold nextL
  cases hx : rightL xs
  · simp
  cases hy : rightL ys
  · simp
  have hs := cntL_symm (right_ones hx) (right_ones hy)
  have h1 := cnt_le ys xs
  have h2 := cnt_le xs ys
  rw [Bool.true_and, Bool.eq_iff_iff]
  simp only [Bool.true_and, decide_eq_true_eq]
  omega

/-- two majorities meet -/
theorem majorities_meet {V N a b : List Int} (hV : ones V) (hN : ones N) (hd : (V.length - cntL N V) + (N.length - cntL V N) ≤ 1) (ha : V.length < 2 * cntL a V) (hb : N.length < 2 * cntL b N) :
    ∃ v, v ∈ V ∧ v ∈ a ∧ v ∈ b := by
  apply Classical.byContradiction
  intro hno
  have hno' : ∀ v ∈ V, inL v a = true → inL v b = true → False := fun v hv h1 h2 => hno ⟨v, hv, (inL_iff _ _).1 h1, (inL_iff _ _).1 h2⟩
  rw [cntL_eq] at ha hb hd
  rw [cntL_eq] at hd
  have s0 := cnt_symm (fun _ => true) hV hN
  simp only [Bool.true_and] at s0
  have s1 := cnt_symm (fun v => inL v b) hV hN
  have l1 := cntP_le (fun v => inL v N) V
  have l2 := cntP_le (fun v => inL v V) N
  have n1 := cntP_not (fun v => inL v N) V
  have n2 := cntP_not (fun v => inL v V) N
  have d1 : cntP (fun v => inL v a) V ≤ cntP (fun v => inL v a && inL v N) V + cntP (fun v => !inL v N) V :=
    cntP_split fun x _ => by cases inL x a <;> cases inL x N <;> simp
  have d2 : cntP (fun v => inL v b) N ≤ cntP (fun v => inL v b && inL v V) N + cntP (fun v => !inL v V) N :=
    cntP_split fun x _ => by cases inL x b <;> cases inL x V <;> simp
  have d3 : cntP (fun v => inL v a && inL v N) V + cntP (fun v => inL v b && inL v N) V ≤ cntP (fun v => inL v N) V :=
    cntP_add fun x hx => by
      have := hno' x hx
      cases h1 : inL x a <;> cases h2 : inL x b <;> cases h3 : inL x N <;> simp_all
  omega
end Go.Proofs.YtnaindoeihnmpaaDoor
