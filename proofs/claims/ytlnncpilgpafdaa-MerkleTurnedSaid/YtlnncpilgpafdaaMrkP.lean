/-
  WHAT IS PROVED HERE: plain laws of trees of digests: rows, tops, proofs, what a shown leaf must be if no two unlike texts have one digest. No condition.
-/
import Derived.Lib.Hide
namespace Go.Proofs.Ytlnncpilgpafdaa

def pairT (a b : ByteArray) : ByteArray := (⟨#[1]⟩ : ByteArray) ++ a ++ b
def crownT (n : Nat) (top : ByteArray) : ByteArray := (⟨#[2, UInt8.ofNat (n / 16777216), UInt8.ofNat (n / 65536), UInt8.ofNat (n / 256), UInt8.ofNat n]⟩ : ByteArray) ++ top
/-- has place i of m a neighbour? -/
def sib (m i : Nat) : Prop := i % 2 = 1 ∨ i + 1 < m
instance (m i : Nat) : Decidable (sib m i) := inferInstanceAs (Decidable (_ ∨ _))
/-- the neighbour's place -/
def beside (i : Nat) : Nat := if i % 2 = 0 then i + 1 else i - 1
section
variable (D : ByteArray → ByteArray)
def aboveL : List ByteArray → List ByteArray
  | a :: b :: r => D (pairT a b) :: aboveL r
  | l => l
def aboveTs : List ByteArray → List ByteArray
  | a :: b :: r => pairT a b :: aboveTs r
  | _ => []
theorem aboveL_len : ∀ l : List ByteArray, (aboveL D l).length = (l.length + 1) / 2
  | [] => by simp [aboveL]
  | [_] => by simp [aboveL]
  | _ :: _ :: r => by
    have ih := aboveL_len r
    simp only [aboveL, List.length_cons, ih]; omega
theorem aboveL_dec {l : List ByteArray} (h : 1 < l.length) : (aboveL D l).length < l.length := by rw [aboveL_len]; omega
/-- the row of one -/
def topW (l : List ByteArray) : List ByteArray := if _h : 1 < l.length then topW (aboveL D l) else l
  termination_by l.length
  decreasing_by exact aboveL_dec D _h
/-- the texts that the rows above are made of -/
def rootTs (l : List ByteArray) : List ByteArray := if _h : 1 < l.length then aboveTs l ++ rootTs (aboveL D l) else []
  termination_by l.length
  decreasing_by exact aboveL_dec D _h
def proofW (l : List ByteArray) (i : Nat) : List ByteArray := if _h : 1 < l.length then (if sib l.length i then [l.getD (beside i) ByteArray.empty] else []) ++ proofW (aboveL D l) (i / 2) else []
  termination_by l.length
  decreasing_by exact aboveL_dec D _h
/-- two texts, in their order -/
def duo (i : Nat) (x p : ByteArray) : ByteArray := if i % 2 = 0 then pairT x p else pairT p x
def climb (m i : Nat) (x : ByteArray) (proof : List ByteArray) : Option ByteArray :=
  if _h : 1 < m then
    if sib m i then match proof with
      | [] => none
      | p :: r => climb ((m + 1) / 2) (i / 2) (D (duo i x p)) r
    else climb ((m + 1) / 2) (i / 2) x proof
  else if proof = [] then some x else none
  termination_by m
  decreasing_by all_goals omega
def climbTs (m i : Nat) (x : ByteArray) (proof : List ByteArray) : List ByteArray :=
  if _h : 1 < m then
    if sib m i then match proof with
      | [] => []
      | p :: r => duo i x p :: climbTs ((m + 1) / 2) (i / 2) (D (duo i x p)) r
    else climbTs ((m + 1) / 2) (i / 2) x proof
  else []
  termination_by m
  decreasing_by all_goals omega
theorem topW_step {l : List ByteArray} (h : 1 < l.length) : topW D l = topW D (aboveL D l) := by rw [topW, dif_pos h]
theorem topW_done {l : List ByteArray} (h : ¬ 1 < l.length) : topW D l = l := by rw [topW, dif_neg h]
theorem rootTs_step {l : List ByteArray} (h : 1 < l.length) : rootTs D l = aboveTs l ++ rootTs D (aboveL D l) := by rw [rootTs, dif_pos h]
theorem rootTs_done {l : List ByteArray} (h : ¬ 1 < l.length) : rootTs D l = [] := by rw [rootTs, dif_neg h]
theorem proofW_sib {l : List ByteArray} {i : Nat} (h : 1 < l.length) (hs : sib l.length i) : proofW D l i = l.getD (beside i) ByteArray.empty :: proofW D (aboveL D l) (i / 2) := by rw [proofW, dif_pos h, if_pos hs]; rfl
theorem proofW_lone {l : List ByteArray} {i : Nat} (h : 1 < l.length) (hs : ¬ sib l.length i) : proofW D l i = proofW D (aboveL D l) (i / 2) := by rw [proofW, dif_pos h, if_neg hs]; rfl
theorem proofW_done {l : List ByteArray} {i : Nat} (h : ¬ 1 < l.length) : proofW D l i = [] := by rw [proofW, dif_neg h]
theorem climb_sib {m i : Nat} {x p : ByteArray} {r : List ByteArray} (h : 1 < m) (hs : sib m i) : climb D m i x (p :: r) = climb D ((m + 1) / 2) (i / 2) (D (duo i x p)) r := by rw [climb.eq_def, dif_pos h, if_pos hs]
theorem climb_short {m i : Nat} {x : ByteArray} (h : 1 < m) (hs : sib m i) : climb D m i x [] = none := by rw [climb.eq_def, dif_pos h, if_pos hs]
theorem climb_lone {m i : Nat} {x : ByteArray} {r : List ByteArray} (h : 1 < m) (hs : ¬ sib m i) : climb D m i x r = climb D ((m + 1) / 2) (i / 2) x r := by rw [climb.eq_def, dif_pos h, if_neg hs]
theorem climb_done {m i : Nat} {x : ByteArray} {r : List ByteArray} (h : ¬ 1 < m) : climb D m i x r = if r = [] then some x else none := by rw [climb.eq_def, dif_neg h]
theorem climbTs_sib {m i : Nat} {x p : ByteArray} {r : List ByteArray} (h : 1 < m) (hs : sib m i) : climbTs D m i x (p :: r) = duo i x p :: climbTs D ((m + 1) / 2) (i / 2) (D (duo i x p)) r := by rw [climbTs.eq_def, dif_pos h, if_pos hs]
theorem climbTs_short {m i : Nat} {x : ByteArray} (h : 1 < m) (hs : sib m i) : climbTs D m i x [] = [] := by rw [climbTs.eq_def, dif_pos h, if_pos hs]
theorem climbTs_lone {m i : Nat} {x : ByteArray} {r : List ByteArray} (h : 1 < m) (hs : ¬ sib m i) : climbTs D m i x r = climbTs D ((m + 1) / 2) (i / 2) x r := by rw [climbTs.eq_def, dif_pos h, if_neg hs]
theorem climbTs_done {m i : Nat} {x : ByteArray} {r : List ByteArray} (h : ¬ 1 < m) : climbTs D m i x r = [] := by rw [climbTs.eq_def, dif_neg h]

/-! ### a row's places -/
theorem aboveL_pair : ∀ (l : List ByteArray) (j : Nat), 2 * j + 1 < l.length → ∃ a b, l[2 * j]? = some a ∧ l[2 * j + 1]? = some b ∧ (aboveL D l)[j]? = some (D (pairT a b)) ∧ pairT a b ∈ aboveTs l
  | [], _, h => by simp at h
  | [_], _, h => by simp at h
  | a :: b :: r, 0, _ => ⟨a, b, rfl, rfl, rfl, by simp [aboveTs]⟩
  | a :: b :: r, j + 1, h => by
    obtain ⟨x, y, h1, h2, h3, h4⟩ := aboveL_pair r j (by simp at h; omega)
    refine ⟨x, y, ?_, ?_, ?_, ?_⟩
    · rw [show 2 * (j + 1) = 2 * j + 1 + 1 from by omega, List.getElem?_cons_succ, List.getElem?_cons_succ]; exact h1
    · rw [show 2 * (j + 1) + 1 = 2 * j + 1 + 1 + 1 from by omega, List.getElem?_cons_succ, List.getElem?_cons_succ]; exact h2
    · rw [aboveL, List.getElem?_cons_succ]; exact h3
    · rw [aboveTs]; exact List.mem_cons_of_mem _ h4
theorem aboveL_last : ∀ (l : List ByteArray) (j : Nat), 2 * j + 1 = l.length → (aboveL D l)[j]? = l[2 * j]?
  | [], _, h => by simp at h
  | [_], 0, _ => rfl
  | [_], j + 1, h => by simp at h
  | a :: b :: r, 0, h => by simp at h
  | a :: b :: r, j + 1, h => by
    have ih := aboveL_last r j (by simp at h; omega)
    rw [aboveL, List.getElem?_cons_succ, ih, show 2 * (j + 1) = 2 * j + 1 + 1 from by omega, List.getElem?_cons_succ, List.getElem?_cons_succ]
theorem aboveL_32 (hD : ∀ s, (D s).size = 32) : ∀ l : List ByteArray, (∀ s ∈ l, s.size = 32) → ∀ s ∈ aboveL D l, s.size = 32
  | [], _, s, hs => by simp [aboveL] at hs
  | [a], h, s, hs => by simp only [aboveL] at hs; exact h s hs
  | a :: b :: r, h, s, hs => by
    simp only [aboveL, List.mem_cons] at hs
    rcases hs with rfl | hs
    · exact hD _
    · exact aboveL_32 hD r (fun x hx => h x (by simp [hx])) s hs

/-! ### texts that are alike -/
theorem ba_eq {a b : ByteArray} (h : a.data.toList = b.data.toList) : a = b := by
  cases a; cases b
  simp at h
  rw [h]
theorem ba_cat (a b : ByteArray) : (a ++ b).data.toList = a.data.toList ++ b.data.toList := by simp
theorem ba_inj {a b c d : ByteArray} (h : a ++ b = c ++ d) (hs : a.size = c.size) : a = c ∧ b = d := by
  have h2 := congrArg (fun x : ByteArray => x.data.toList) h
  simp only [ba_cat] at h2
  obtain ⟨h3, h4⟩ := List.append_inj h2 hs
  exact ⟨ba_eq h3, ba_eq h4⟩
theorem pairT_inj {a b c d : ByteArray} (h : pairT a b = pairT c d) (hs : a.size = c.size) : a = c ∧ b = d := by
  unfold pairT at h
  obtain ⟨h1, h2⟩ := ba_inj h (by rw [ByteArray.size_append, ByteArray.size_append, hs])
  exact ⟨(ba_inj h1 rfl).2, h2⟩
theorem ofNat_inj {a b : Nat} (ha : a < 256) (hb : b < 256) (h : UInt8.ofNat a = UInt8.ofNat b) : a = b := by
  have := congrArg UInt8.toNat h
  simp [UInt8.toNat_ofNat'] at this
  omega
theorem ofNat_mod {a b : Nat} (h : UInt8.ofNat a = UInt8.ofNat b) : a % 256 = b % 256 := by
  have := congrArg UInt8.toNat h
  simpa [UInt8.toNat_ofNat'] using this
theorem crownT_inj {n m : Nat} {a b : ByteArray} (hn : n < 4294967296) (hm : m < 4294967296) (h : crownT n a = crownT m b) : n = m ∧ a = b := by
  unfold crownT at h
  obtain ⟨h1, h2⟩ := ba_inj h rfl
  injection h1 with h1
  injection h1 with h1
  simp only [List.cons.injEq, true_and, and_true] at h1
  obtain ⟨e1, e2, e3, e4⟩ := h1
  have e1 := ofNat_mod e1
  have e2 := ofNat_mod e2
  have e3 := ofNat_mod e3
  have e4 := ofNat_mod e4
  exact ⟨by omega, h2⟩

/-! ### what a proof shows -/
theorem climb_shows : ∀ (k : Nat) (l : List ByteArray) (i : Nat) (x : ByteArray), l.length ≤ k → i < l.length → l[i]? = some x → ∃ t, climb D l.length i x (proofW D l i) = some t ∧ topW D l = [t]
  | 0, l, i, x, hk, hi, _ => by omega
  | k + 1, l, i, x, hk, hi, hx => by
    by_cases h : 1 < l.length
    · have hl := aboveL_len D l
      by_cases hs : sib l.length i
      · have hi2 : 2 * (i / 2) + 1 < l.length := by rcases hs with hs | hs <;> omega
        obtain ⟨a, b, h1, h2, h3, _⟩ := aboveL_pair D l (i / 2) hi2
        rw [proofW_sib D h hs, climb_sib D h hs, ← hl, topW_step D h]
        refine climb_shows k (aboveL D l) (i / 2) _ (by omega) (by omega) ?_
        rw [h3]
        unfold duo
        by_cases he : i % 2 = 0
        · rw [if_pos he]
          have e1 : 2 * (i / 2) = i := by omega
          rw [e1] at h1 h2
          rw [hx] at h1
          injection h1 with h1
          have hb : beside i = i + 1 := by unfold beside; rw [if_pos he]
          rw [hb, List.getD_eq_getElem?_getD, h2, h1]; rfl
        · rw [if_neg he]
          have e1 : 2 * (i / 2) + 1 = i := by omega
          rw [e1] at h2
          rw [hx] at h2
          injection h2 with h2
          have hb : beside i = 2 * (i / 2) := by unfold beside; rw [if_neg he]; omega
          rw [hb, List.getD_eq_getElem?_getD, h1, h2]; rfl
      · have hi2 : 2 * (i / 2) + 1 = l.length := by unfold sib at hs; omega
        have e1 : 2 * (i / 2) = i := by unfold sib at hs; omega
        rw [proofW_lone D h hs, climb_lone D h hs, ← hl, topW_step D h]
        refine climb_shows k (aboveL D l) (i / 2) _ (by omega) (by omega) ?_
        rw [aboveL_last D l _ hi2, e1, hx]
    · have hl : l.length = 1 := by omega
      have hi0 : i = 0 := by omega
      subst hi0
      rw [proofW_done D h, climb_done D h, if_pos rfl, topW_done D h]
      match l, hl, hx with
      | [y], _, hx => simp at hx; subst hx; exact ⟨_, rfl, rfl⟩
theorem proofW_32 (hD : ∀ s, (D s).size = 32) : ∀ (k : Nat) (l : List ByteArray) (i : Nat), l.length ≤ k → i < l.length → (∀ s ∈ l, s.size = 32) → ∀ s ∈ proofW D l i, s.size = 32
  | 0, l, i, hk, hi, _, _, _ => by omega
  | k + 1, l, i, hk, hi, h32, s, hs => by
    by_cases h : 1 < l.length
    · have hl := aboveL_len D l
      have h32' := aboveL_32 D hD l h32
      have hi2 : i / 2 < (aboveL D l).length := by omega
      by_cases hb : sib l.length i
      · rw [proofW_sib D h hb] at hs
        rcases List.mem_cons.1 hs with hs | hs
        · have hbs : beside i < l.length := by unfold sib at hb; unfold beside; split <;> omega
          rw [List.getD_eq_getElem?_getD, List.getElem?_eq_getElem hbs] at hs
          rw [hs]
          exact h32 _ (List.getElem_mem hbs)
        · exact proofW_32 hD k _ _ (by omega) hi2 h32' s hs
      · rw [proofW_lone D h hb] at hs
        exact proofW_32 hD k _ _ (by omega) hi2 h32' s hs
    · rw [proofW_done D h] at hs; cases hs
/-- two unlike texts have one digest -/
def Clash (a b : List ByteArray) : Prop := ∃ x, x ∈ a ∧ ∃ y, y ∈ b ∧ x ≠ y ∧ D x = D y
theorem Clash.mono {a b a' b' : List ByteArray} (h : Clash D a b) (ha : ∀ x ∈ a, x ∈ a') (hb : ∀ x ∈ b, x ∈ b') : Clash D a' b' := by
  obtain ⟨x, hx, y, hy, h⟩ := h
  exact ⟨x, ha x hx, y, hb y hy, h⟩
theorem climb_sound (hD : ∀ s, (D s).size = 32) : ∀ (k : Nat) (l : List ByteArray) (i : Nat) (x : ByteArray) (proof : List ByteArray) (t : ByteArray), l.length ≤ k → i < l.length → (∀ s ∈ l, s.size = 32) → x.size = 32 → (∀ s ∈ proof, s.size = 32) →
    climb D l.length i x proof = some t → topW D l = [t] → (l[i]? = some x ∧ proof = proofW D l i) ∨ Clash D (rootTs D l) (climbTs D l.length i x proof)
  | 0, l, i, x, proof, t, hk, hi, _, _, _, _, _ => by omega
  | k + 1, l, i, x, proof, t, hk, hi, h32, hx, hp, hc, ht => by
    by_cases h : 1 < l.length
    · have hl := aboveL_len D l
      have h32' := aboveL_32 D hD l h32
      rw [topW_step D h] at ht
      by_cases hs : sib l.length i
      · have hi2 : 2 * (i / 2) + 1 < l.length := by rcases hs with hs | hs <;> omega
        obtain ⟨a, b, h1, h2, h3, h4⟩ := aboveL_pair D l (i / 2) hi2
        have ha : a.size = 32 := h32 a (List.mem_of_getElem? h1)
        have hb : b.size = 32 := h32 b (List.mem_of_getElem? h2)
        match proof, hp, hc with
        | [], _, hc => rw [climb_short D h hs] at hc; cases hc
        | p :: r, hp, hc =>
          have hp1 : p.size = 32 := hp p (by simp)
          rw [climb_sib D h hs, ← hl] at hc
          rw [climbTs_sib D h hs, ← hl, rootTs_step D h, proofW_sib D h hs]
          rcases climb_sound hD k (aboveL D l) (i / 2) _ r t (by omega) (by omega) h32' (hD _) (fun s hs => hp s (by simp [hs])) hc ht with ⟨e1, e2⟩ | hcl
          · rw [h3] at e1
            injection e1 with e1
            by_cases he : pairT a b = duo i x p
            · left
              unfold duo at he
              by_cases hi0 : i % 2 = 0
              · rw [if_pos hi0] at he
                obtain ⟨r1, r2⟩ := pairT_inj he (by omega)
                have e3 : 2 * (i / 2) = i := by omega
                rw [e3] at h1 h2
                have hbs : beside i = i + 1 := by unfold beside; rw [if_pos hi0]
                refine ⟨by rw [h1, r1], ?_⟩
                rw [hbs, List.getD_eq_getElem?_getD, h2, ← e2, r2]; rfl
              · rw [if_neg hi0] at he
                obtain ⟨r1, r2⟩ := pairT_inj he (by omega)
                have e3 : 2 * (i / 2) + 1 = i := by omega
                rw [e3] at h2
                have hbs : beside i = 2 * (i / 2) := by unfold beside; rw [if_neg hi0]; omega
                refine ⟨by rw [h2, r2], ?_⟩
                rw [hbs, List.getD_eq_getElem?_getD, h1, ← e2, r1]; rfl
            · right
              exact ⟨pairT a b, List.mem_append_left _ h4, duo i x p, by simp, he, e1⟩
          · right
            exact hcl.mono D (fun x hx => List.mem_append_right _ hx) (fun x hx => List.mem_cons_of_mem _ hx)
      · have hi2 : 2 * (i / 2) + 1 = l.length := by unfold sib at hs; omega
        have e1 : 2 * (i / 2) = i := by unfold sib at hs; omega
        rw [climb_lone D h hs, ← hl] at hc
        rw [climbTs_lone D h hs, ← hl, rootTs_step D h, proofW_lone D h hs]
        rcases climb_sound hD k (aboveL D l) (i / 2) x proof t (by omega) (by omega) h32' hx hp hc ht with ⟨e2, e3⟩ | hcl
        · left
          rw [aboveL_last D l _ hi2, e1] at e2
          exact ⟨e2, e3⟩
        · right
          exact hcl.mono D (fun x hx => List.mem_append_right _ hx) (fun x hx => hx)
    · have hl : l.length = 1 := by omega
      have hi0 : i = 0 := by omega
      subst hi0
      rw [climb_done D h] at hc
      rw [topW_done D h] at ht
      subst ht
      by_cases hp0 : proof = []
      · rw [if_pos hp0] at hc
        injection hc with hc
        subst hc
        left
        exact ⟨rfl, by rw [proofW_done D h, hp0]⟩
      · rw [if_neg hp0] at hc; cases hc
end
end Go.Proofs.Ytlnncpilgpafdaa
