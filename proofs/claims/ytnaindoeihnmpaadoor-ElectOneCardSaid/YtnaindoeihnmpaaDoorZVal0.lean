/-
  WHAT IS PROVED HERE: values (api.Val) as data: a number, a text or a list of values that lie in rows; how many there are, and their bytes; plain lemmas, no program's function. No condition.
-/
import Derived.Test.YtnaindoeihnmpaaDoorZGJrn
import Derived.Lib.AppendIntMem
namespace Go.Proofs.YtnaindoeihnmpaaDoor
open Go.RowKit

theorem Blk.cast_ {w : World} {g : Nat} {t : TypeId} {cs cs' : Array Value} (h : Blk w g t cs) (e : cs = cs') : Blk w g t cs' := e ▸ h
theorem Blk.new_ {w : World} {t : TypeId} {cs : Array Value} {g : Nat} (hg : g = w.heap.size) : Blk (w.alloc (.cells cs t)) g t cs := hg ▸ Blk.new w t cs
/-- a value's cells: kind, number, text, the list's slice -/
structure Vl where
  k : Int
  n : Int
  s : ByteArray
  A : Option Addr
  m : Nat
  c : Nat
def valCells (v : Vl) : List Value := [.int .i64 v.k, .int .i64 v.n, .string v.s, .slice v.A v.m v.c]
def valV (v : Vl) : Value := .agg #[.int .i64 v.k, .int .i64 v.n, .string v.s, .slice v.A v.m v.c]
def numV (n : Int) : Vl := ⟨1, n, ⟨#[]⟩, none, 0, 0⟩
def txtV (s : ByteArray) : Vl := ⟨2, 0, s, none, 0, 0⟩
def lstV (A : Option Addr) (m c : Nat) : Vl := ⟨3, 0, ⟨#[]⟩, A, m, c⟩

/-- a row that lies in a block of S -/
def VRow (w : World) (S : Nat → Prop) (A : Option Addr) (n : Nat) (xs : List Value) : Prop :=
  xs.length = n * 4 ∧ (0 < n → ∃ b o, A = some ⟨b, o, none⟩ ∧ S b ∧ b < w.heap.size ∧ ∀ j u, xs[j]? = some u → w.cell? ⟨b, o + j, none⟩ = some u)
/-- a value, how many there are of it, and its bytes -/
structure Vn where
  v : Vl
  cnt : Nat
  enc : List UInt8
def vnCells (x : Vn) : List Value := valCells x.v
def cellsN (xs : List Vn) : List Value := xs.flatMap vnCells
def cntN (xs : List Vn) : Nat := (xs.map (·.cnt)).sum
def encN (xs : List Vn) : List UInt8 := xs.flatMap (·.enc)
/-- such a value, of at most so many within one another -/
def VOk (w : World) (S : Nat → Prop) : Nat → Vl → Nat → List UInt8 → Prop
  | 0, _, _, _ => False
  | d + 1, v, cnt, enc =>
    (∃ n, v = numV n ∧ 0 ≤ n ∧ n ≤ 1073741824 ∧ cnt = 1 ∧ enc = 105 :: (Lib.itoa n ++ [101])) ∨
    (∃ s, v = txtV s ∧ s.size ≤ 131072 ∧ cnt = 1 ∧ enc = Lib.itoa s.size ++ 58 :: s.data.toList) ∨
    (∃ A m c xs, v = lstV A m c ∧ m ≤ 4000 ∧ VRow w S A m (cellsN xs) ∧ (∀ x ∈ xs, VOk w S d x.v x.cnt x.enc) ∧ cnt = 1 + cntN xs ∧ enc = 108 :: (encN xs ++ [101]))

section
variable {w w' : World} {S S' : Nat → Prop} {A : Option Addr} {n : Nat}
theorem VRow.none_ : VRow w S A 0 [] := ⟨by simp, fun h => absurd h (by omega)⟩
theorem VRow.to {xs : List Value} (h : VRow w S A n xs) (hs : w.heap.size ≤ w'.heap.size) (hk : ∀ b, S b → b < w.heap.size → w'.heap[b]? = w.heap[b]?) (hS : ∀ b, S b → b < w.heap.size → S' b) : VRow w' S' A n xs := by
  refine ⟨h.1, fun hn => ?_⟩
  obtain ⟨b, o, ea, hb, hlt, hc⟩ := h.2 hn
  refine ⟨b, o, ea, hS b hb hlt, Nat.lt_of_lt_of_le hlt hs, fun j u hu => ?_⟩
  have := hc j u hu
  rw [← this]
  unfold World.cell?
  rw [hk b hb hlt]
theorem VOk.to (hs : w.heap.size ≤ w'.heap.size) (hk : ∀ b, S b → b < w.heap.size → w'.heap[b]? = w.heap[b]?) (hS : ∀ b, S b → b < w.heap.size → S' b) : ∀ {d : Nat} {v : Vl} {c : Nat} {e : List UInt8}, VOk w S d v c e → VOk w' S' d v c e
  | 0, _, _, _, h => h.elim
  | d + 1, v, c, e, h => by
    rcases h with h | h | ⟨A, m, cp, xs, e1, e0, e2, e3, e4, e5⟩
    · exact .inl h
    · exact .inr (.inl h)
    · exact .inr (.inr ⟨A, m, cp, xs, e1, e0, e2.to hs hk hS, fun x hx => VOk.to hs hk hS (e3 x hx), e4, e5⟩)
/-- all in old memory -/
def Lows (B : Nat) : Nat → Prop := fun b => b < B
theorem VOk.below {B : Nat} {d : Nat} {v : Vl} {c : Nat} {e : List UInt8} (h : VOk w (Lows B) d v c e) (hb : Below B w w') : VOk w' (Lows B) d v c e :=
  VOk.to hb.size (fun b hB _ => hb.block b hB) (fun _ h _ => h) h
theorem VOk.deep : ∀ {d : Nat} {v : Vl} {c : Nat} {e : List UInt8}, VOk w S d v c e → ∀ k, VOk w S (d + k) v c e
  | 0, _, _, _, h, _ => h.elim
  | d + 1, v, c, e, h, k => by
    rw [show d + 1 + k = d + k + 1 from by omega]
    rcases h with h | h | ⟨A, m, cp, xs, e1, e0, e2, e3, e4, e5⟩
    · exact .inl h
    · exact .inr (.inl h)
    · exact .inr (.inr ⟨A, m, cp, xs, e1, e0, e2, fun x hx => VOk.deep (e3 x hx) k, e4, e5⟩)
end
theorem cellsN_len : ∀ xs : List Vn, (cellsN xs).length = xs.length * 4
  | [] => rfl
  | x :: xs => by
    have := cellsN_len xs
    unfold cellsN at *
    simp only [List.flatMap_cons, List.length_append, List.length_cons, this, vnCells, valCells, List.length_nil]
    omega
theorem cellsN_at : ∀ (xs : List Vn) (k : Nat) (x : Vn), xs[k]? = some x → (cellsN xs)[k * 4]? = some (.int .i64 x.v.k) ∧ (cellsN xs)[k * 4 + 1]? = some (.int .i64 x.v.n) ∧ (cellsN xs)[k * 4 + 2]? = some (.string x.v.s) ∧ (cellsN xs)[k * 4 + 3]? = some (.slice x.v.A x.v.m x.v.c)
  | x :: xs, 0, r', h => by
    simp only [List.getElem?_cons_zero, Option.some.injEq] at h
    subst h
    simp [cellsN, vnCells, valCells]
  | x :: xs, k + 1, r', h => by
    have ih := cellsN_at xs k r' (by simpa using h)
    have e : ∀ j, (cellsN (x :: xs))[j + 4]? = (cellsN xs)[j]? := by
      intro j
      simp [cellsN, vnCells, valCells]
    rw [show (k + 1) * 4 = k * 4 + 4 from by omega, show k * 4 + 4 + 1 = k * 4 + 1 + 4 from by omega, show k * 4 + 4 + 2 = k * 4 + 2 + 4 from by omega, show k * 4 + 4 + 3 = k * 4 + 3 + 4 from by omega, e, e, e, e]
    exact ih
theorem VRow.len {w : World} {S : Nat → Prop} {A : Option Addr} {n : Nat} {xs : List Vn} (h : VRow w S A n (cellsN xs)) : xs.length = n := by
  have := h.1
  rw [cellsN_len] at this
  omega
theorem VRow.at_ {w : World} {S : Nat → Prop} {A : Option Addr} {n k : Nat} {xs : List Vn} (h : VRow w S A n (cellsN xs)) (hk : k < n) :
    ∃ b o x, A = some ⟨b, o, none⟩ ∧ S b ∧ b < w.heap.size ∧ x ∈ xs ∧ Hid (xs.drop k = x :: xs.drop (k + 1)) ∧ w.cell? ⟨b, o + k * 4, none⟩ = some (.int .i64 x.v.k) ∧ w.cell? ⟨b, o + k * 4 + 1, none⟩ = some (.int .i64 x.v.n) ∧ w.cell? ⟨b, o + k * 4 + 2, none⟩ = some (.string x.v.s) ∧ w.cell? ⟨b, o + k * 4 + 3, none⟩ = some (.slice x.v.A x.v.m x.v.c) := by
  obtain ⟨b, o, e, hS, hb, hc⟩ := h.2 (by omega)
  have hl : k < xs.length := by have := h.len; omega
  obtain ⟨c0, c1, c2, c3⟩ := cellsN_at xs k xs[k] (List.getElem?_eq_getElem hl)
  exact ⟨b, o, xs[k], e, hS, hb, List.getElem_mem hl, List.drop_eq_getElem_cons hl, hc _ _ c0, hc _ _ c1, hc _ _ c2, hc _ _ c3⟩
theorem cntN_take {xs : List Vn} {k : Nat} {x : Vn} (h : xs.drop k = x :: xs.drop (k + 1)) : cntN (xs.take (k + 1)) = cntN (xs.take k) + x.cnt := by
  have hk : k < xs.length := by
    rcases Nat.lt_or_ge k xs.length with h' | h'
    · exact h'
    · rw [List.drop_eq_nil_of_le h'] at h; cases h
  have h2 : xs[k]'hk = x := by rw [List.drop_eq_getElem_cons hk] at h; injection h
  rw [List.take_succ_eq_append_getElem hk, h2]
  unfold cntN
  rw [List.map_append, List.sum_append_nat]
  simp
theorem encN_take {xs : List Vn} {k : Nat} {x : Vn} (h : xs.drop k = x :: xs.drop (k + 1)) : encN (xs.take (k + 1)) = encN (xs.take k) ++ x.enc := by
  have hk : k < xs.length := by
    rcases Nat.lt_or_ge k xs.length with h' | h'
    · exact h'
    · rw [List.drop_eq_nil_of_le h'] at h; cases h
  have h2 : xs[k]'hk = x := by rw [List.drop_eq_getElem_cons hk] at h; injection h
  rw [List.take_succ_eq_append_getElem hk, h2]
  unfold encN
  rw [List.flatMap_append]
  simp
theorem cntN_le {xs : List Vn} (k : Nat) : cntN (xs.take k) ≤ cntN xs := by
  have : cntN xs = cntN (xs.take k) + cntN (xs.drop k) := by
    unfold cntN
    rw [← List.sum_append_nat, ← List.map_append, List.take_append_drop]
  omega
theorem encN_le {xs : List Vn} (k : Nat) : (encN (xs.take k)).length ≤ (encN xs).length := by
  have : encN xs = encN (xs.take k) ++ encN (xs.drop k) := by
    unfold encN
    rw [← List.flatMap_append, List.take_append_drop]
  rw [this, List.length_append]
  omega
theorem VOk.cnt_pos {w : World} {S : Nat → Prop} : ∀ {d : Nat} {v : Vl} {c : Nat} {e : List UInt8}, VOk w S d v c e → 1 ≤ c
  | 0, _, _, _, h => h.elim
  | d + 1, v, c, e, h => by
    rcases h with ⟨_, _, _, _, h, _⟩ | ⟨_, _, _, h, _⟩ | ⟨A, m, cp, xs, e1, e0, e2, e3, e4, e5⟩ <;> omega
/-- a number's digits -/
theorem dec_len10 : ∀ (k u : Nat), u < 10 ^ (k + 1) → (Lib.decDigits u).length ≤ k + 1
  | 0, u, h => by
    rw [Lib.decDigits]
    rw [dif_pos (by omega)]
    simp
  | k + 1, u, h => by
    rw [Lib.decDigits]
    split
    · simp
    · have hd : u / 10 < 10 ^ (k + 1) := by
        rw [Nat.div_lt_iff_lt_mul (by omega)]
        rw [Nat.pow_succ] at h
        exact h
      have := dec_len10 k (u / 10) hd
      rw [List.length_append, List.length_singleton]
      omega
theorem itoa_len {n : Int} (h0 : 0 ≤ n) {k : Nat} (h1 : n < (10 ^ (k + 1) : Nat)) : (Lib.itoa n).length ≤ k + 1 := by
  unfold Lib.itoa
  rw [if_neg (by omega)]
  exact dec_len10 k _ (by omega)
end Go.Proofs.YtnaindoeihnmpaaDoor
