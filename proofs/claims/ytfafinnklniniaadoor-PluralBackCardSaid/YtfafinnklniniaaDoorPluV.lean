/-
  WHAT IS PROVED HERE: a rule's text is read as that rule; what is read of a text has that text (plain Lean, no program in sight). No condition.
-/
import Derived.Test.YtfafinnklniniaaDoorPluQ
import Derived.Lib.AppendIntMem
import Derived.Lib.Join
namespace Go.Proofs.YtfafinnklniniaaDoor
open Go.RowKit

def spanT (s : Int × Option Int) : List UInt8 := match s.2 with
  | none => Lib.itoa s.1
  | some h => Lib.itoa s.1 ++ (46 :: 46 :: Lib.itoa h)
def modT : Option Int → List UInt8
  | none => []
  | some m => 37 :: 32 :: (Lib.itoa m ++ [32])
def headT (m : Option Int) (nt : Bool) : List UInt8 := 105 :: 32 :: (modT m ++ ((if nt then [33] else []) ++ [61, 32]))
def spansT (l : List (Int × Option Int)) : List UInt8 := Lib.join (l.map spanT) [44]
def relT (r : Raw) : List UInt8 := headT r.mod r.not ++ spansT r.spans
def rowT (r : List Raw) : List UInt8 := Lib.join (r.map relT) [32, 97, 110, 100, 32]
def rulT (l : List (List Raw)) : List UInt8 := Lib.join (l.map rowT) [32, 111, 114, 32]
def numIn (n : Int) : Prop := 0 ≤ n ∧ n ≤ 1000000
def spanIn (s : Int × Option Int) : Prop := numIn s.1 ∧ ∀ h, s.2 = some h → numIn h
def rawIn (r : Raw) : Prop := (∀ m, r.mod = some m → numIn m) ∧ r.spans ≠ [] ∧ ∀ s ∈ r.spans, spanIn s
/-- what may stand behind a number, a span, a relation -/
def ndig (l : List UInt8) : Prop := ∀ c, l.head? = some c → ¬ (48 ≤ c.toNat ∧ c.toNat ≤ 57)
def spEnd (l : List UInt8) : Prop := ∀ c, l.head? = some c → c = 32 ∨ c = 44
def relEnd (l : List UInt8) : Prop := ∀ c, l.head? = some c → c = 32
theorem relEnd.sp {l : List UInt8} (h : relEnd l) : spEnd l := fun c hc => .inl (h c hc)
theorem spEnd.nd {l : List UInt8} (h : spEnd l) : ndig l := by
  intro c hc
  rcases h c hc with rfl | rfl <;> decide
theorem spEnd.dot {l : List UInt8} (h : spEnd l) : l.head? ≠ some 46 := by
  intro e
  rcases h _ e with h | h <;> exact absurd h (by decide)
theorem dec_one {d : Nat} (h : d < 10) : Lib.decDigits d = [UInt8.ofNat (48 + d)] := Lib.decDigits_one h
theorem dec_step {n d : Nat} (hn : 0 < n) (hd : d < 10) : Lib.decDigits (10 * n + d) = Lib.decDigits n ++ [UInt8.ofNat (48 + d)] := by
  rw [Lib.decDigits, dif_neg (by omega), show (10 * n + d) / 10 = n by omega, show (10 * n + d) % 10 = d by omega]
theorem dig_nat {d : Nat} (h : d < 10) : (UInt8.ofNat (48 + d)).toNat = 48 + d := by
  rw [UInt8.toNat_ofNat']
  exact Nat.mod_eq_of_lt (by omega)
theorem itoa_nn {n : Int} (h : 0 ≤ n) : Lib.itoa n = Lib.decDigits n.toNat := if_neg (by omega)
theorem dec_ne (u : Nat) : Lib.decDigits u ≠ [] := by
  rw [Lib.decDigits]
  split
  · simp
  · simp
theorem itoa_ne (n : Int) : Lib.itoa n ≠ [] := by
  unfold Lib.itoa
  split
  · simp
  · exact dec_ne _
section
variable (sl : List UInt8)
theorem numL_step {c : UInt8} {d : Nat} (hc : c.toNat = 48 + d) (hd : d < 10) (first : Bool) (n : Int) (a : Nat) (l : List UInt8) (h1 : ¬ (first = false ∧ n = 0)) (h2 : 10 * n + d ≤ 1000000) :
    numL sl first n a (c :: l) = numL sl false (10 * n + d) (a + 1) l := by
  rw [numL, if_pos (by omega)]
  have e : 10 * n + ((c.toNat : Int) - 48) = 10 * n + d := by omega
  rw [e, if_neg (by rintro (h | h); exact h1 h; omega)]
theorem numL_end (n : Int) (a : Nat) {rest : List UInt8} (h : ndig rest) : numL sl false n a rest = (n, ⟨a, 0⟩) := by
  cases rest with
  | nil => rw [numL]; rfl
  | cons c l => rw [numL, if_neg (h c rfl)]; rfl
theorem numL_digits : ∀ (m : Nat), m ≤ 1000000 → ∀ (a : Nat) (rest : List UInt8), numL sl true 0 a (Lib.decDigits m ++ rest) = numL sl false m (a + (Lib.decDigits m).length) rest := by
  intro m
  induction m using Nat.strongRecOn with
  | _ m ih =>
    intro hm a rest
    by_cases h : m < 10
    · rw [dec_one h, List.singleton_append, numL_step sl (dig_nat h) h true 0 a rest (by simp) (by omega)]
      simp
    · have e : m = 10 * (m / 10) + m % 10 := by omega
      have hd : m % 10 < 10 := by omega
      have hs := dec_step (n := m / 10) (d := m % 10) (by omega) hd
      rw [← e] at hs
      rw [hs, List.append_assoc, ih (m / 10) (by omega) (by omega), List.singleton_append, numL_step sl (dig_nat hd) hd false _ _ rest (by omega) (by omega), List.length_append, List.length_singleton, Nat.add_assoc]
      congr 1
      omega
theorem drop_more {t rest : List UInt8} {a : Nat} (h : sl.drop a = t ++ rest) : sl.drop (a + t.length) = rest := by rw [← List.drop_drop, h, List.drop_left]
theorem get_of {c : UInt8} {r : List UInt8} {a : Nat} (h : sl.drop a = c :: r) : sl[a]? = some c := by
  have := congrArg (·[0]?) h
  simpa using this
theorem head_of (a : Nat) : sl[a]? = (sl.drop a).head? := by
  rw [List.head?_drop]
theorem numS_yes {a : Nat} {n : Int} {rest : List UInt8} (hn : numIn n) (h : sl.drop a = Lib.itoa n ++ rest) (hr : ndig rest) : numS sl ⟨a, 0⟩ = (n, ⟨a + (Lib.itoa n).length, 0⟩) := by
  obtain ⟨h0, h1⟩ := hn
  unfold numS
  rw [if_pos rfl]
  dsimp only
  rw [h, itoa_nn h0, numL_digits sl n.toNat (by omega), numL_end sl _ _ hr, Int.toNat_of_nonneg h0]
theorem mustS_yes : ∀ (t : List UInt8) (a : Nat) (rest : List UInt8), sl.drop a = t ++ rest → mustS sl t ⟨a, 0⟩ = ⟨a + t.length, 0⟩
  | [], _, _, _ => rfl
  | c :: t, a, rest, h => by
    rw [mustS, if_neg (by simp), if_pos (get_of sl h), mustS_yes t (a + 1) rest (drop_more sl (t := [c]) h), List.length_cons]
    congr 1
    omega
theorem isS_yes {c : UInt8} {r : List UInt8} {a : Nat} (h : sl.drop a = c :: r) : isS sl c ⟨a, 0⟩ = true := by
  unfold isS
  rw [get_of sl h]
  simp
theorem isS_not {c : UInt8} {a : Nat} (h : (sl.drop a).head? ≠ some c) : isS sl c ⟨a, 0⟩ = false := by
  unfold isS
  rw [head_of]
  simp only [decide_true, Bool.true_and]
  exact beq_eq_false_iff_ne.2 h
theorem oneSpan_yes {a : Nat} {s : Int × Option Int} {rest : List UInt8} (hs : spanIn s) (h : sl.drop a = spanT s ++ rest) (hr : spEnd rest) : oneSpan sl ⟨a, 0⟩ = (s, ⟨a + (spanT s).length, 0⟩) := by
  obtain ⟨lo, hi⟩ := s
  obtain ⟨h1, h2⟩ := hs
  cases hi with
  | none =>
    have e := numS_yes sl h1 h hr.nd
    unfold oneSpan
    rw [e]
    dsimp only
    have h4 : sl.drop (a + (Lib.itoa lo).length) = rest := drop_more sl h
    rw [isS_not sl (by rw [h4]; exact hr.dot)]
    rfl
  | some h' =>
    have h3 : sl.drop a = Lib.itoa lo ++ (46 :: 46 :: (Lib.itoa h' ++ rest)) := by rw [h]; unfold spanT; simp
    have e := numS_yes sl h1 h3 (by intro c hc; simp at hc; subst hc; decide)
    have h4 := drop_more sl h3
    have e2 := mustS_yes sl [46, 46] _ _ h4
    have h5 := drop_more sl (t := [46, 46]) h4
    have e3 := numS_yes sl (h2 h' rfl) h5 hr.nd
    unfold oneSpan
    rw [e]
    dsimp only
    rw [isS_yes sl h4, if_pos rfl, e2, e3]
    unfold spanT
    dsimp only
    congr 2
    simp
    omega
theorem join_two (x y : List UInt8) (r : List (List UInt8)) (sep : List UInt8) : Lib.join (x :: y :: r) sep = x ++ (sep ++ Lib.join (y :: r) sep) := by
  rw [Lib.join_cons, Lib.join_cons]
  unfold Lib.joinTail
  simp
theorem spanT_ne (s : Int × Option Int) : spanT s ≠ [] := by
  unfold spanT
  split
  · exact itoa_ne _
  · simp
theorem spans_len : ∀ l : List (Int × Option Int), l.length ≤ (spansT l).length
  | [] => Nat.zero_le _
  | [s] => by
    unfold spansT
    rw [List.map_cons, List.map_nil, Lib.join_one]
    exact List.length_pos_iff.2 (spanT_ne s)
  | s :: t :: r => by
    have ih := spans_len (t :: r)
    unfold spansT at *
    rw [List.map_cons, List.map_cons, join_two]
    rw [List.map_cons] at ih
    simp only [List.length_append, List.length_cons, List.length_nil] at *
    omega
theorem spansF_yes : ∀ (l : List (Int × Option Int)) (f a : Nat) (rest : List UInt8), l ≠ [] → l.length ≤ f → (∀ s ∈ l, spanIn s) → sl.drop a = spansT l ++ rest → relEnd rest → spansF sl f ⟨a, 0⟩ = (l, ⟨a + (spansT l).length, 0⟩)
  | [], _, _, _, h, _, _, _, _ => absurd rfl h
  | [s], 0, _, _, _, h, _, _, _ => by simp at h
  | s :: t :: r, 0, _, _, _, h, _, _, _ => by simp at h
  | [s], f + 1, a, rest, _, _, hs, h, hr => by
    have e1 : spansT [s] = spanT s := Lib.join_one _ _
    rw [e1] at h ⊢
    have e := oneSpan_yes sl (hs s (List.mem_cons_self ..)) h hr.sp
    rw [spansF, e]
    dsimp only
    rw [isS_not sl (by rw [drop_more sl h]; intro e2; have := hr _ e2; exact absurd this (by decide))]
    rfl
  | s :: t :: r, f + 1, a, rest, _, hl, hs, h, hr => by
    have e1 : spansT (s :: t :: r) = spanT s ++ (44 :: spansT (t :: r)) := join_two _ _ _ _
    rw [e1] at h ⊢
    have h2 : sl.drop a = spanT s ++ (44 :: (spansT (t :: r) ++ rest)) := by rw [h]; simp
    have e := oneSpan_yes sl (hs s (List.mem_cons_self ..)) h2 (by intro c hc; simp at hc; exact .inr hc.symm)
    have h3 := drop_more sl h2
    have h4 := drop_more sl (t := [44]) h3
    have ih := spansF_yes (t :: r) f (a + (spanT s).length + 1) rest (by simp) (by simpa using hl) (fun x hx => hs x (List.mem_cons_of_mem _ hx)) h4 hr
    rw [spansF, e]
    dsimp only
    rw [isS_yes sl h3, if_pos rfl, ih]
    simp
    omega
theorem headS_yes {a : Nat} {m : Option Int} {nt : Bool} {rest : List UInt8} (hm : ∀ k, m = some k → numIn k) (h : sl.drop a = headT m nt ++ rest) : headS sl ⟨a, 0⟩ = (m, nt, ⟨a + (headT m nt).length, 0⟩) := by
  have h1 : sl.drop a = [105, 32] ++ (modT m ++ ((if nt then [33] else []) ++ ([61, 32] ++ rest))) := by rw [h]; unfold headT; simp
  have e1 := mustS_yes sl [105, 32] a _ h1
  have h2 := drop_more sl h1
  have eM : modS sl ⟨a + 2, 0⟩ = (m, ⟨a + 2 + (modT m).length, 0⟩) := by
    cases m with
    | none =>
      unfold modS
      have : isS sl 37 ⟨a + 2, 0⟩ = false := by
        apply isS_not
        rw [show a + 2 = a + ([105, 32] : List UInt8).length from rfl, h2]
        cases nt <;> simp [modT]
      rw [this]
      rfl
    | some k =>
      have h3 : sl.drop (a + 2) = [37, 32] ++ (Lib.itoa k ++ ([32] ++ ((if nt then [33] else []) ++ ([61, 32] ++ rest)))) := by
        rw [show a + 2 = a + ([105, 32] : List UInt8).length from rfl, h2]
        simp [modT]
      have f1 := mustS_yes sl [37, 32] _ _ h3
      have h4 := drop_more sl h3
      have f2 := numS_yes sl (hm k rfl) h4 (by intro c hc; simp at hc; subst hc; decide)
      have h5 := drop_more sl h4
      have f3 := mustS_yes sl [32] _ _ h5
      unfold modS
      rw [isS_yes sl h3, if_pos rfl, f1, f2]
      dsimp only
      rw [f3]
      unfold modT
      simp
      omega
  have h6 := drop_more sl h2
  have eN : notS sl ⟨a + 2 + (modT m).length, 0⟩ = (nt, ⟨a + 2 + (modT m).length + (if nt then 1 else 0), 0⟩) := by
    have h6' : sl.drop (a + 2 + (modT m).length) = (if nt then [33] else []) ++ ([61, 32] ++ rest) := h6
    cases nt
    · unfold notS
      rw [isS_not sl (by rw [h6']; simp)]
      rfl
    · unfold notS
      have h7 : sl.drop (a + 2 + (modT m).length) = [33] ++ ([61, 32] ++ rest) := h6'
      rw [isS_yes sl h7, if_pos rfl, mustS_yes sl [33] _ _ h7]
      rfl
  have h8 : sl.drop (a + 2 + (modT m).length + (if nt then 1 else 0)) = [61, 32] ++ rest := by
    have := drop_more sl h6
    cases nt <;> exact this
  have eL := mustS_yes sl [61, 32] _ _ h8
  unfold headS
  rw [e1]
  rw [show a + ([105, 32] : List UInt8).length = a + 2 from rfl, eM]
  dsimp only
  rw [eN]
  dsimp only
  rw [eL]
  unfold headT
  cases nt <;> (simp; omega)
theorem relS_yes {a : Nat} {r : Raw} {rest : List UInt8} (hr : rawIn r) (h : sl.drop a = relT r ++ rest) (he : relEnd rest) : relS sl ⟨a, 0⟩ = (r, ⟨a + (relT r).length, 0⟩) := by
  obtain ⟨m, nt, sp⟩ := r
  obtain ⟨h1, h2, h3⟩ := hr
  dsimp only at *
  have hh : sl.drop a = headT m nt ++ (spansT sp ++ rest) := by rw [h]; unfold relT; simp
  have e := headS_yes sl h1 hh
  have hd := drop_more sl hh
  have hl : sp.length ≤ sl.length + 1 := by
    have a1 := spans_len sp
    have a2 := congrArg List.length hd
    rw [List.length_drop, List.length_append] at a2
    omega
  have es := spansF_yes sl sp (sl.length + 1) _ rest h2 hl h3 hd he
  unfold relS
  rw [e]
  dsimp only
  rw [es]
  unfold relT
  simp
  omega
theorem tail_end (xs : List Raw) (rows : List (List Raw)) : relEnd (Lib.joinTail [32, 97, 110, 100, 32] (xs.map relT) ++ Lib.joinTail [32, 111, 114, 32] (rows.map rowT)) := by
  intro c hc
  cases xs with
  | cons x xs => simp [Lib.joinTail] at hc; exact hc.symm
  | nil =>
    cases rows with
    | cons r rows => simp [Lib.joinTail] at hc; exact hc.symm
    | nil => simp [Lib.joinTail] at hc
theorem parseLoop_done (f : Nat) (out : List (List Raw)) (row : List Raw) (st : St) (h : ¬ (st.bad = 0 ∧ st.at_ < sl.length)) : parseLoop sl f out row st = (out ++ [row], st) := by
  cases f with
  | zero => rfl
  | succ f => rw [parseLoop, if_neg h]
theorem tail_and (x : Raw) (xs : List Raw) (t : List UInt8) : Lib.joinTail [32, 97, 110, 100, 32] ((x :: xs).map relT) ++ t = [32] ++ ([97, 110, 100, 32] ++ (relT x ++ (Lib.joinTail [32, 97, 110, 100, 32] (xs.map relT) ++ t))) := by simp [Lib.joinTail]
theorem tail_or (y : Raw) (ys : List Raw) (rows : List (List Raw)) : Lib.joinTail [32, 111, 114, 32] (((y :: ys) :: rows).map rowT) = [32] ++ ([111, 114, 32] ++ (relT y ++ (Lib.joinTail [32, 97, 110, 100, 32] (ys.map relT) ++ Lib.joinTail [32, 111, 114, 32] (rows.map rowT)))) := by
  unfold rowT
  simp only [List.map_cons, Lib.join_cons]
  simp [Lib.joinTail]
theorem parseLoop_yes : ∀ (f : Nat) (out : List (List Raw)) (row xs : List Raw) (rows : List (List Raw)) (a : Nat), (∀ x ∈ xs, rawIn x) → (∀ r ∈ rows, r ≠ [] ∧ ∀ x ∈ r, rawIn x) →
    sl.drop a = Lib.joinTail [32, 97, 110, 100, 32] (xs.map relT) ++ Lib.joinTail [32, 111, 114, 32] (rows.map rowT) → sl.length - a < f → (parseLoop sl f out row ⟨a, 0⟩).1 = out ++ ((row ++ xs) :: rows) ∧ (parseLoop sl f out row ⟨a, 0⟩).2.bad = 0
  | 0, _, _, _, _, _, _, _, _, hf => by omega
  | f + 1, out, row, x :: xs, rows, a, hx, hr, h, hf => by
    rw [tail_and] at h
    have hlt : a < sl.length := by
      rcases Nat.lt_or_ge a sl.length with h1 | h1
      · exact h1
      · rw [List.drop_eq_nil_of_le h1] at h; simp at h
    have e1 := mustS_yes sl [32] a _ h
    have h2 := drop_more sl h
    have e2 := isS_yes sl (a := a + 1) h2
    have e3 := mustS_yes sl [97, 110, 100, 32] _ _ h2
    have h3 := drop_more sl h2
    have e4 := relS_yes sl (hx x (List.mem_cons_self ..)) h3 (tail_end xs rows)
    have h4 := drop_more sl h3
    rw [parseLoop, if_pos ⟨rfl, hlt⟩, e1]
    rw [show a + ([32] : List UInt8).length = a + 1 from rfl] at *
    rw [e2, if_pos rfl, e3, e4]
    dsimp only
    have ih := parseLoop_yes f out (row ++ [x]) xs rows _ (fun y hy => hx y (List.mem_cons_of_mem _ hy)) hr h4 (by omega)
    rw [List.append_assoc, List.singleton_append] at ih
    exact ih
  | f + 1, out, row, [], [] :: rows, a, hx, hr, h, hf => absurd rfl (hr [] (List.mem_cons_self ..)).1
  | f + 1, out, row, [], (y :: ys) :: rows, a, hx, hr, h, hf => by
    rw [tail_or, List.map_nil, show Lib.joinTail [32, 97, 110, 100, 32] [] = [] from rfl, List.nil_append] at h
    have hlt : a < sl.length := by
      rcases Nat.lt_or_ge a sl.length with h1 | h1
      · exact h1
      · rw [List.drop_eq_nil_of_le h1] at h; simp at h
    have hy := (hr _ (List.mem_cons_self ..)).2
    have e1 := mustS_yes sl [32] a _ h
    have h2 := drop_more sl h
    have e2 : isS sl 97 ⟨a + 1, 0⟩ = false := isS_not sl (by rw [show a + 1 = a + ([32] : List UInt8).length from rfl, h2]; simp)
    have e3 := mustS_yes sl [111, 114, 32] _ _ h2
    have h3 := drop_more sl h2
    have e4 := relS_yes sl (hy y (List.mem_cons_self ..)) h3 (tail_end ys rows)
    have h4 := drop_more sl h3
    rw [parseLoop, if_pos ⟨rfl, hlt⟩, e1]
    rw [show a + ([32] : List UInt8).length = a + 1 from rfl] at *
    rw [e2]
    rw [if_neg (by simp), e3, e4]
    dsimp only
    have ih := parseLoop_yes f (out ++ [row]) [y] ys rows _ (fun z hz => hy z (List.mem_cons_of_mem _ hz)) (fun r hr' => hr r (List.mem_cons_of_mem _ hr')) h4 (by omega)
    rw [List.append_assoc, List.singleton_append, List.singleton_append] at ih
    rw [List.append_nil]
    exact ih
  | f + 1, out, row, [], [], a, hx, hr, h, hf => by
    have hge : ¬ a < sl.length := by
      intro hlt
      have := congrArg List.length h
      rw [List.length_drop] at this
      simp [Lib.joinTail] at this
      omega
    rw [parseLoop_done sl _ _ _ _ (fun hc => hge hc.2)]
    simp
theorem rul_head (x : Raw) (xs : List Raw) (rows : List (List Raw)) : rulT ((x :: xs) :: rows) = relT x ++ (Lib.joinTail [32, 97, 110, 100, 32] (xs.map relT) ++ Lib.joinTail [32, 111, 114, 32] (rows.map rowT)) := by
  unfold rulT
  rw [List.map_cons, Lib.join_cons]
  conv => lhs; arg 1; unfold rowT
  rw [List.map_cons, Lib.join_cons, List.append_assoc]
end
theorem raws_yes (l : List (List Raw)) (h0 : l ≠ []) (h : ∀ r ∈ l, r ≠ [] ∧ ∀ x ∈ r, rawIn x) : (rawsS (rulT l)).1 = l ∧ (rawsS (rulT l)).2.bad = 0 := by
  obtain ⟨r, rows, rfl⟩ := List.exists_cons_of_ne_nil h0
  obtain ⟨hr0, hr⟩ := h r (List.mem_cons_self ..)
  obtain ⟨x, xs, rfl⟩ := List.exists_cons_of_ne_nil hr0
  obtain ⟨sl, hsl⟩ : ∃ sl, rulT ((x :: xs) :: rows) = sl := ⟨_, rfl⟩
  have h1 := rul_head x xs rows
  rw [hsl] at h1 ⊢
  have h2 : sl.drop 0 = relT x ++ (Lib.joinTail [32, 97, 110, 100, 32] (xs.map relT) ++ Lib.joinTail [32, 111, 114, 32] (rows.map rowT)) := by rw [List.drop_zero]; exact h1
  have e := relS_yes sl (hr x (List.mem_cons_self ..)) h2 (tail_end xs rows)
  have h3 := drop_more sl h2
  have := parseLoop_yes sl (sl.length + 1) [] [x] xs rows _ (fun y hy => hr y (List.mem_cons_of_mem _ hy)) (fun r hr' => h r (List.mem_cons_of_mem _ hr')) h3 (by omega)
  unfold rawsS
  rw [e]
  exact this
end Go.Proofs.YtfafinnklniniaaDoor
