/-
  WHAT IS PROVED HERE: values (api.Val) as data: a number, a text or a list of values that lie in rows; how many there are, and their bytes; plain lemmas, no program's function. No condition.
  WHAT IS PROVED HERE: what code.Right hands back at a value of at most 4000 values, 30 within one another, whose parts are of their kinds: it may be. Conditions: those.
-/
import Derived.Test.YtncdjmpdbinanaaGreatDoorZGJrn
import Derived.Lib.AppendIntMem
import Derived.Laws.EntriesVeiled
namespace Go.Proofs.YtncdjmpdbinanaaGreatDoor
open Go.RowKit

theorem Blk.cast_ {w : World} {g : Nat} {t : TypeId} {cs cs' : Array Value} (h : Blk w g t cs) (e : cs = cs') : Blk w g t cs' := e ▸ h
theorem Blk.new_ {w : World} {t : TypeId} {cs : Array Value} {g : Nat} (hg : g = w.heap.size) : Blk (w.alloc (.cells cs t)) g t cs := hg ▸ Blk.new w t cs
/-- a value's cells: kind, number, text, the list's slice -/
structure Vl where
  k : Int
  n : Int
  s : ByteArray
  A : Option Addr
  m : Nat
  c : Nat
def valCells (v : Vl) : List Value := [.int .i64 v.k, .int .i64 v.n, .string v.s, .slice v.A v.m v.c]
def valV (v : Vl) : Value := .agg #[.int .i64 v.k, .int .i64 v.n, .string v.s, .slice v.A v.m v.c]
def numV (n : Int) : Vl := ⟨1, n, ⟨#[]⟩, none, 0, 0⟩
def txtV (s : ByteArray) : Vl := ⟨2, 0, s, none, 0, 0⟩
def lstV (A : Option Addr) (m c : Nat) : Vl := ⟨3, 0, ⟨#[]⟩, A, m, c⟩

/-- a row that lies in a block of S -/
def VRow (w : World) (S : Nat → Prop) (A : Option Addr) (n : Nat) (xs : List Value) : Prop :=
  xs.length = n * 4 ∧ (0 < n → ∃ b o, A = some ⟨b, o, none⟩ ∧ S b ∧ b < w.heap.size ∧ ∀ j u, xs[j]? = some u → w.cell? ⟨b, o + j, none⟩ = some u)
/-- a value, how many there are of it, and its bytes -/
structure Vn where
  v : Vl
  cnt : Nat
  enc : List UInt8
def vnCells (x : Vn) : List Value := valCells x.v
def cellsN (xs : List Vn) : List Value := xs.flatMap vnCells
def cntN (xs : List Vn) : Nat := (xs.map (·.cnt)).sum
def encN (xs : List Vn) : List UInt8 := xs.flatMap (·.enc)
/-- such a value, of at most so many within one another -/
def VOk (w : World) (S : Nat → Prop) : Nat → Vl → Nat → List UInt8 → Prop
  | 0, _, _, _ => False
  | d + 1, v, cnt, enc =>
    (∃ n, v = numV n ∧ 0 ≤ n ∧ n ≤ 1073741824 ∧ cnt = 1 ∧ enc = 105 :: (Lib.itoa n ++ [101])) ∨
    (∃ s, v = txtV s ∧ s.size ≤ 131072 ∧ cnt = 1 ∧ enc = Lib.itoa s.size ++ 58 :: s.data.toList) ∨
    (∃ A m c xs, v = lstV A m c ∧ m ≤ 4000 ∧ VRow w S A m (cellsN xs) ∧ (∀ x ∈ xs, VOk w S d x.v x.cnt x.enc) ∧ cnt = 1 + cntN xs ∧ enc = 108 :: (encN xs ++ [101]))

section
variable {w w' : World} {S S' : Nat → Prop} {A : Option Addr} {n : Nat}
theorem VRow.none_ : VRow w S A 0 [] := ⟨by simp, fun h => absurd h (by omega)⟩
theorem VRow.to {xs : List Value} (h : VRow w S A n xs) (hs : w.heap.size ≤ w'.heap.size) (hk : ∀ b, S b → b < w.heap.size → w'.heap[b]? = w.heap[b]?) (hS : ∀ b, S b → b < w.heap.size → S' b) : VRow w' S' A n xs := by
  refine ⟨h.1, fun hn => ?_⟩
  obtain ⟨b, o, ea, hb, hlt, hc⟩ := h.2 hn
  refine ⟨b, o, ea, hS b hb hlt, Nat.lt_of_lt_of_le hlt hs, fun j u hu => ?_⟩
  have := hc j u hu
  rw [← this]
  unfold World.cell?
  rw [hk b hb hlt]
theorem VOk.to (hs : w.heap.size ≤ w'.heap.size) (hk : ∀ b, S b → b < w.heap.size → w'.heap[b]? = w.heap[b]?) (hS : ∀ b, S b → b < w.heap.size → S' b) : ∀ {d : Nat} {v : Vl} {c : Nat} {e : List UInt8}, VOk w S d v c e → VOk w' S' d v c e
  | 0, _, _, _, h => h.elim
  | d + 1, v, c, e, h => by
    rcases h with h | h | ⟨A, m, cp, xs, e1, e0, e2, e3, e4, e5⟩
    · exact .inl h
    · exact .inr (.inl h)
    · exact .inr (.inr ⟨A, m, cp, xs, e1, e0, e2.to hs hk hS, fun x hx => VOk.to hs hk hS (e3 x hx), e4, e5⟩)
/-- all in old memory -/
def Lows (B : Nat) : Nat → Prop := fun b => b < B
theorem VOk.below {B : Nat} {d : Nat} {v : Vl} {c : Nat} {e : List UInt8} (h : VOk w (Lows B) d v c e) (hb : Below B w w') : VOk w' (Lows B) d v c e :=
  VOk.to hb.size (fun b hB _ => hb.block b hB) (fun _ h _ => h) h
theorem VOk.deep : ∀ {d : Nat} {v : Vl} {c : Nat} {e : List UInt8}, VOk w S d v c e → ∀ k, VOk w S (d + k) v c e
  | 0, _, _, _, h, _ => h.elim
  | d + 1, v, c, e, h, k => by
    rw [show d + 1 + k = d + k + 1 from by omega]
    rcases h with h | h | ⟨A, m, cp, xs, e1, e0, e2, e3, e4, e5⟩
    · exact .inl h
    · exact .inr (.inl h)
    · exact .inr (.inr ⟨A, m, cp, xs, e1, e0, e2, fun x hx => VOk.deep (e3 x hx) k, e4, e5⟩)
end
theorem cellsN_len : ∀ xs : List Vn, (cellsN xs).length = xs.length * 4
  | [] => rfl
  | x :: xs => by
    have := cellsN_len xs
    unfold cellsN at *
    simp only [List.flatMap_cons, List.length_append, List.length_cons, this, vnCells, valCells, List.length_nil]
    omega
theorem cellsN_at : ∀ (xs : List Vn) (k : Nat) (x : Vn), xs[k]? = some x → (cellsN xs)[k * 4]? = some (.int .i64 x.v.k) ∧ (cellsN xs)[k * 4 + 1]? = some (.int .i64 x.v.n) ∧ (cellsN xs)[k * 4 + 2]? = some (.string x.v.s) ∧ (cellsN xs)[k * 4 + 3]? = some (.slice x.v.A x.v.m x.v.c)
  | x :: xs, 0, r', h => by
    simp only [List.getElem?_cons_zero, Option.some.injEq] at h
    subst h
    simp [cellsN, vnCells, valCells]
  | x :: xs, k + 1, r', h => by
    have ih := cellsN_at xs k r' (by simpa using h)
    have e : ∀ j, (cellsN (x :: xs))[j + 4]? = (cellsN xs)[j]? := by
      intro j
      simp [cellsN, vnCells, valCells]
    rw [show (k + 1) * 4 = k * 4 + 4 from by omega, show k * 4 + 4 + 1 = k * 4 + 1 + 4 from by omega, show k * 4 + 4 + 2 = k * 4 + 2 + 4 from by omega, show k * 4 + 4 + 3 = k * 4 + 3 + 4 from by omega, e, e, e, e]
    exact ih
theorem VRow.len {w : World} {S : Nat → Prop} {A : Option Addr} {n : Nat} {xs : List Vn} (h : VRow w S A n (cellsN xs)) : xs.length = n := by
  have := h.1
  rw [cellsN_len] at this
  omega
theorem VRow.at_ {w : World} {S : Nat → Prop} {A : Option Addr} {n k : Nat} {xs : List Vn} (h : VRow w S A n (cellsN xs)) (hk : k < n) :
    ∃ b o x, A = some ⟨b, o, none⟩ ∧ S b ∧ b < w.heap.size ∧ x ∈ xs ∧ Hid (xs.drop k = x :: xs.drop (k + 1)) ∧ w.cell? ⟨b, o + k * 4, none⟩ = some (.int .i64 x.v.k) ∧ w.cell? ⟨b, o + k * 4 + 1, none⟩ = some (.int .i64 x.v.n) ∧ w.cell? ⟨b, o + k * 4 + 2, none⟩ = some (.string x.v.s) ∧ w.cell? ⟨b, o + k * 4 + 3, none⟩ = some (.slice x.v.A x.v.m x.v.c) := by
  obtain ⟨b, o, e, hS, hb, hc⟩ := h.2 (by omega)
  have hl : k < xs.length := by have := h.len; omega
  obtain ⟨c0, c1, c2, c3⟩ := cellsN_at xs k xs[k] (List.getElem?_eq_getElem hl)
  exact ⟨b, o, xs[k], e, hS, hb, List.getElem_mem hl, List.drop_eq_getElem_cons hl, hc _ _ c0, hc _ _ c1, hc _ _ c2, hc _ _ c3⟩
theorem cntN_take {xs : List Vn} {k : Nat} {x : Vn} (h : xs.drop k = x :: xs.drop (k + 1)) : cntN (xs.take (k + 1)) = cntN (xs.take k) + x.cnt := by
  have hk : k < xs.length := by
    rcases Nat.lt_or_ge k xs.length with h' | h'
    · exact h'
    · rw [List.drop_eq_nil_of_le h'] at h; cases h
  have h2 : xs[k]'hk = x := by rw [List.drop_eq_getElem_cons hk] at h; injection h
  rw [List.take_succ_eq_append_getElem hk, h2]
  unfold cntN
  rw [List.map_append, List.sum_append_nat]
  simp
theorem encN_take {xs : List Vn} {k : Nat} {x : Vn} (h : xs.drop k = x :: xs.drop (k + 1)) : encN (xs.take (k + 1)) = encN (xs.take k) ++ x.enc := by
  have hk : k < xs.length := by
    rcases Nat.lt_or_ge k xs.length with h' | h'
    · exact h'
    · rw [List.drop_eq_nil_of_le h'] at h; cases h
  have h2 : xs[k]'hk = x := by rw [List.drop_eq_getElem_cons hk] at h; injection h
  rw [List.take_succ_eq_append_getElem hk, h2]
  unfold encN
  rw [List.flatMap_append]
  simp
theorem cntN_le {xs : List Vn} (k : Nat) : cntN (xs.take k) ≤ cntN xs := by
  have : cntN xs = cntN (xs.take k) + cntN (xs.drop k) := by
    unfold cntN
    rw [← List.sum_append_nat, ← List.map_append, List.take_append_drop]
  omega
theorem encN_le {xs : List Vn} (k : Nat) : (encN (xs.take k)).length ≤ (encN xs).length := by
  have : encN xs = encN (xs.take k) ++ encN (xs.drop k) := by
    unfold encN
    rw [← List.flatMap_append, List.take_append_drop]
  rw [this, List.length_append]
  omega
theorem VOk.cnt_pos {w : World} {S : Nat → Prop} : ∀ {d : Nat} {v : Vl} {c : Nat} {e : List UInt8}, VOk w S d v c e → 1 ≤ c
  | 0, _, _, _, h => h.elim
  | d + 1, v, c, e, h => by
    rcases h with ⟨_, _, _, _, h, _⟩ | ⟨_, _, _, h, _⟩ | ⟨A, m, cp, xs, e1, e0, e2, e3, e4, e5⟩ <;> omega
/-- a number's digits -/
theorem dec_len10 : ∀ (k u : Nat), u < 10 ^ (k + 1) → (Lib.decDigits u).length ≤ k + 1
  | 0, u, h => by
    rw [Lib.decDigits]
    rw [dif_pos (by omega)]
    simp
  | k + 1, u, h => by
    rw [Lib.decDigits]
    split
    · simp
    · have hd : u / 10 < 10 ^ (k + 1) := by
        rw [Nat.div_lt_iff_lt_mul (by omega)]
        rw [Nat.pow_succ] at h
        exact h
      have := dec_len10 k (u / 10) hd
      rw [List.length_append, List.length_singleton]
      omega
theorem itoa_len {n : Int} (h0 : 0 ≤ n) {k : Nat} (h1 : n < (10 ^ (k + 1) : Nat)) : (Lib.itoa n).length ≤ k + 1 := by
  unfold Lib.itoa
  rw [if_neg (by omega)]
  exact dec_len10 k _ (by omega)
end Go.Proofs.YtncdjmpdbinanaaGreatDoor
namespace Go.Proofs.YtncdjmpdbinanaaGreatDoor
open Go.RowKit

/-- what all values have in common -/
theorem VOk.parts {w : World} {S : Nat → Prop} {d : Nat} {v : Vl} {c : Nat} {e : List UInt8} (h : VOk w S (d + 1) v c e) :
    ∃ xs, VRow w S v.A v.m (cellsN xs) ∧ v.m ≤ 4000 ∧ (∀ x ∈ xs, VOk w S d x.v x.cnt x.enc) ∧ c = 1 + cntN xs ∧ ((v.k = 1 ∧ v.s = ⟨#[]⟩ ∧ v.m = 0) ∨ (v.k = 2 ∧ v.n = 0 ∧ v.m = 0) ∨ (v.k = 3 ∧ v.n = 0 ∧ v.s = ⟨#[]⟩)) := by
  rcases h with ⟨n, rfl, _, _, rfl, _⟩ | ⟨s, rfl, _, rfl, _⟩ | ⟨A, m, cp, xs, rfl, e0, e2, e3, e4, e5⟩
  · exact ⟨[], VRow.none_, by simp [numV], by simp, rfl, .inl ⟨rfl, rfl, rfl⟩⟩
  · exact ⟨[], VRow.none_, by simp [txtV], by simp, rfl, .inr (.inl ⟨rfl, rfl, rfl⟩)⟩
  · exact ⟨xs, e2, e0, e3, e4, .inr (.inr ⟨rfl, rfl, rfl⟩)⟩
/-- what stands in the variables that the closure captured -/
structure Walked (w : World) (gm gd gk gw : Nat) (many : Int) : Prop where
  m : Blk w gm 3 #[.int .i64 many]
  d : ∃ dp : Int, 0 ≤ dp ∧ dp ≤ 30 ∧ Blk w gd 3 #[.int .i64 dp]
  k : Blk w gk 4 #[.bool true]
  w : Blk w gw 195 #[.func (.func 188) #[] #[.pointer (some ⟨gm, 0, none⟩), .pointer (some ⟨gd, 0, none⟩), .pointer (some ⟨gk, 0, none⟩), .pointer (some ⟨gw, 0, none⟩)]]
theorem Walked.keep {w w' : World} {gm gd gk gw : Nat} {many : Int} (h : Walked w gm gd gk gw many) (hb : Below w.heap.size w w') : Walked w' gm gd gk gw many := by
  obtain ⟨dp, h1, h2, h3⟩ := h.d
  exact ⟨h.m.keep hb, ⟨dp, h1, h2, h3.keep hb⟩, h.k.keep hb, h.w.keep hb⟩
set_option maxRecDepth 100000 in
set_option maxHeartbeats 3200000 in
theorem walk_any : ∀ (d : Nat) (v : Vl) (cnt : Nat) (enc : List UInt8) (many deep : Int) (gm gd gk gw B : Nat) (w : World), VOk w (Lows B) d v cnt enc → B ≤ gm → B ≤ gd → B ≤ gk → B ≤ gw → gm ≠ gd →
    Walked w gm gd gk gw many → 0 ≤ many → many + cnt ≤ 4000 → 1 ≤ deep → deep + d ≤ 31 →
    Calls Tryz.prog 188 #[valV v, .int .i64 deep, .pointer (some ⟨gm, 0, none⟩), .pointer (some ⟨gd, 0, none⟩), .pointer (some ⟨gk, 0, none⟩), .pointer (some ⟨gw, 0, none⟩)] w fun e w' => e = .returned (.tuple #[]) ∧ Below B w w' ∧ Walked w' gm gd gk gw (many + cnt)
  | 0, _, _, _, _, _, _, _, _, _, _, _, h => h.elim
  | d + 1, v, cnt, enc, many, deep, gm, gd, gk, gw, B, w, h => by
    intro b1 b2 b3 b4 hne hW m0 m1 p0 p1
    obtain ⟨xs, hrow, hm4, hxs, rfl, hsh⟩ := h.parts
    have hcl := hid_mk (fun k => cntN_le (xs := xs) k)
    clear h
    obtain ⟨dp, dp0, dp1, hD⟩ := hW.d
    obtain ⟨hM, _, hK, hF⟩ := hW
    have nmk : gm ≠ gk := hM.ne_ hK (by decide)
    have nmw : gm ≠ gw := hM.ne_ hF (by decide)
    have ndk : gd ≠ gk := hD.ne_ hK (by decide)
    have ndw : gd ≠ gw := hD.ne_ hF (by decide)
    have nkw : gk ≠ gw := hK.ne_ hF (by decide)
    obtain ⟨vk, vn, vs, vA, vm, vc⟩ := v
    dsimp only at hrow hm4 hsh
    unfold valV
    dsimp only
    have hmlt := hM.lt
    have hdlt := hD.lt
    have hklt := hK.lt
    have hwlt := hF.lt
    have cm : w.cell? ⟨gm, 0, none⟩ = some (.int .i64 many) := hM.cell 0
    have cd : w.cell? ⟨gd, 0, none⟩ = some (.int .i64 dp) := hD.cell 0
    have ck : w.cell? ⟨gk, 0, none⟩ = some (.bool true) := hK.cell 0
    have fm : w.frozen? ⟨gm, 0, none⟩ = false := hM.frozen 0
    have fd : w.frozen? ⟨gd, 0, none⟩ = false := hD.frozen 0
    have fk : w.frozen? ⟨gk, 0, none⟩ = false := hK.frozen 0
    have nmd := hne
    have r1 : ¬ gd = gm := fun e => hne e.symm
    have r2 : ¬ gk = gm := fun e => nmk e.symm
    have r3 : ¬ gk = gd := fun e => ndk e.symm
    have hcp := hid_mk (show cntN (xs.take 0) = 0 from rfl)
    have hlt4 : ¬ 4000 < many + 1 := by omega
    have hmx : 0 ≤ max dp deep ∧ max dp deep ≤ 30 := by omega
    have hwrap : IntKind.i64.wrap (many + 1) = many + 1 := IntWalk.i64_in _ (by omega)
    obtain ⟨wa, hwa⟩ : ∃ wa, ((((w.setCell ⟨gm, 0, none⟩ (.int .i64 (many + 1))).setCell ⟨gd, 0, none⟩ (.int .i64 (max dp deep))).setCell ⟨gk, 0, none⟩ (.bool true)).alloc (.cells #[.int .i64 vk, .int .i64 vn, .string vs, .slice vA vm vc] 163)) = wa := ⟨_, rfl⟩
    have q0 : Below B w wa := by
      rw [← hwa]
      exact ((((Below.refl B w).setCell (p := ⟨gm, 0, none⟩) b1 _).setCell (p := ⟨gd, 0, none⟩) b2 _).setCell (p := ⟨gk, 0, none⟩) b3 _).alloc (by simp [World.setCell]; omega) _
    have hM1 : Blk wa gm 3 #[.int .i64 (many + 1 + (cntN (xs.take 0) : Nat))] := by
      rw [← hwa, hcp.out]
      exact ((((hM.set_ 0 _).far (p := ⟨gd, 0, none⟩) hne _).far (p := ⟨gk, 0, none⟩) nmk _).alloc _).cast_ (by simp)
    have hD1 : Blk wa gd 3 #[.int .i64 (max dp deep)] := by
      rw [← hwa]
      exact ((((hD.far (p := ⟨gm, 0, none⟩) r1 _).set_ 0 _).far (p := ⟨gk, 0, none⟩) ndk _).alloc _)
    have hK1 : Blk wa gk 4 #[.bool true] := by
      rw [← hwa]
      exact ((((hK.far (p := ⟨gm, 0, none⟩) r2 _).far (p := ⟨gd, 0, none⟩) r3 _).set_ 0 _).alloc _)
    have hF1 : Blk wa gw 195 #[.func (.func 188) #[] #[.pointer (some ⟨gm, 0, none⟩), .pointer (some ⟨gd, 0, none⟩), .pointer (some ⟨gk, 0, none⟩), .pointer (some ⟨gw, 0, none⟩)]] := by
      rw [← hwa]
      exact ((((hF.far (p := ⟨gm, 0, none⟩) (fun e => nmw e.symm) _).far (p := ⟨gd, 0, none⟩) (fun e => ndw e.symm) _).far (p := ⟨gk, 0, none⟩) (fun e => nkw e.symm) _).alloc _)
    replace hW := hid_mk (show Walked wa gm gd gk gw (many + 1 + (cntN (xs.take 0) : Nat)) from ⟨hM1, ⟨_, hmx.1, hmx.2, hD1⟩, hK1, hF1⟩)
    clear hM hD hK hF hM1 hD1 hK1 hF1
    replace hwa := hid_mk hwa
    rcases hsh with ⟨rfl, rfl, rfl⟩ | ⟨rfl, rfl, rfl⟩ | ⟨rfl, rfl, rfl⟩
    · go_enter Tryz.func188, Tryz.ntmps188
      go_wp2
      go_loopw [63] (fun i wr => ∃ (k : Nat), k ≤ 0 ∧ i = .int .i64 k ∧ Below B w wr ∧ Hid (Walked wr gm gd gk gw (many + 1 + (cntN (xs.take k) : Nat)))) (fun i _ => 0 - (intOf i).toNat)
      case atStart => exact ⟨0, Nat.zero_le _, rfl, by have := q0; rw [← hwa.out] at this; exact this, by have := hW; rw [← hwa.out] at this; exact this⟩
      case round =>
        obtain ⟨k, hk, rfl, hb, hWk⟩ := hrel
        by_cases hlt : k < 0
        · exact absurd hlt (by omega)
        · have hke := hid_mk (show xs.take k = xs from List.take_of_length_le (by have := hrow.len; omega))
          go_wp2
          go_end0
          exact ⟨rfl, hb, by have := hWk.out; rw [hke.out] at this; rw [show many + ((1 + cntN xs : Nat) : Int) = many + 1 + (cntN xs : Nat) by omega]; exact this⟩
    · go_enter Tryz.func188, Tryz.ntmps188
      go_wp2
      go_loopw [63] (fun i wr => ∃ (k : Nat), k ≤ 0 ∧ i = .int .i64 k ∧ Below B w wr ∧ Hid (Walked wr gm gd gk gw (many + 1 + (cntN (xs.take k) : Nat)))) (fun i _ => 0 - (intOf i).toNat)
      case atStart => exact ⟨0, Nat.zero_le _, rfl, by have := q0; rw [← hwa.out] at this; exact this, by have := hW; rw [← hwa.out] at this; exact this⟩
      case round =>
        obtain ⟨k, hk, rfl, hb, hWk⟩ := hrel
        by_cases hlt : k < 0
        · exact absurd hlt (by omega)
        · have hke := hid_mk (show xs.take k = xs from List.take_of_length_le (by have := hrow.len; omega))
          go_wp2
          go_end0
          exact ⟨rfl, hb, by have := hWk.out; rw [hke.out] at this; rw [show many + ((1 + cntN xs : Nat) : Int) = many + 1 + (cntN xs : Nat) by omega]; exact this⟩
    · go_enter Tryz.func188, Tryz.ntmps188
      go_wp2
      go_loopw [63] (fun i wr => ∃ (k : Nat), k ≤ vm ∧ i = .int .i64 k ∧ Below B w wr ∧ Hid (Walked wr gm gd gk gw (many + 1 + (cntN (xs.take k) : Nat)))) (fun i _ => vm - (intOf i).toNat)
      case atStart => exact ⟨0, Nat.zero_le _, rfl, by have := q0; rw [← hwa.out] at this; exact this, by have := hW; rw [← hwa.out] at this; exact this⟩
      case round =>
        obtain ⟨k, hk, rfl, hb, hWk⟩ := hrel
        by_cases hlt : k < vm
        · obtain ⟨b, o, x, rfl, hS, hbb, hmem, hd, c0, c1, c2, c3⟩ := (hrow.to hb.size (fun b h1 _ => hb.block b h1) (fun _ h _ => h)).at_ hlt
          obtain ⟨cn, hcn⟩ : ∃ cn : Int, many + 1 + (cntN (xs.take k) : Nat) = cn := ⟨_, rfl⟩
          rw [hcn] at hWk
          have hx := hid_mk ((hxs x hmem).below hb)
          have hnx := hid_mk (cntN_take hd.out)
          have hle := hid_mk (show cn + x.cnt ≤ 4000 from by have h1 := hcl.out (k + 1); rw [hnx.out] at h1; omega)
          have hcn0 : Hid (0 ≤ cn) := (show 0 ≤ cn from by omega)
          replace hcn := hid_mk hcn
          have hF := hWk.out.w
          have cw : wr.cell? ⟨gw, 0, none⟩ = some (.func (.func 188) #[] #[.pointer (some ⟨gm, 0, none⟩), .pointer (some ⟨gd, 0, none⟩), .pointer (some ⟨gk, 0, none⟩), .pointer (some ⟨gw, 0, none⟩)]) := hF.cell 0
          have gwl := hF.lt
          clear hF
          have hdw : IntKind.i64.wrap (deep + 1) = deep + 1 := IntWalk.i64_in _ (by omega)
          obtain ⟨xv, xc, xe⟩ := x
          obtain ⟨xk, xn, xs', xA, xm, xcp⟩ := xv
          dsimp only at c0 c1 c2 c3
          go_wp2_with (go_at_call 188; refine (walk_any d ⟨xk, xn, xs', xA, xm, xcp⟩ xc xe cn (deep + 1) gm gd gk gw B _ (hx.out.below (by go_grown)) b1 b2 b3 b4 hne (hWk.out.keep (by go_grown)) hcn0.out hle.out (by omega) (by omega)).mono ?_; rintro e w1 ⟨rfl, hb1, hW1⟩; replace hW1 := hid_mk hW1)
          go_roundw
          case rel => exact ⟨k + 1, by omega, by go_num, hb.trans (Below.trans (by go_grown) hb1), by have := hW1.out; rw [← hcn.out] at this; rw [hnx.out]; rw [show many + 1 + ((cntN (xs.take k) + xc : Nat) : Int) = many + 1 + (cntN (xs.take k) : Nat) + (xc : Int) by omega]; exact this⟩
          case measure => simp [intOf]; omega
        · have hke := hid_mk (show xs.take k = xs from List.take_of_length_le (by have := hrow.len; omega))
          go_wp2
          go_end0
          exact ⟨rfl, hb, by have := hWk.out; rw [hke.out] at this; rw [show many + ((1 + cntN xs : Nat) : Int) = many + 1 + (cntN xs : Nat) by omega]; exact this⟩
set_option maxRecDepth 100000 in
set_option maxHeartbeats 3200000 in
theorem VRight_any (d : Nat) (v : Vl) (cnt : Nat) (enc : List UInt8) (w : World) (h : VOk w (Lows w.heap.size) d v cnt enc) (hc : cnt ≤ 4000) (hd : d ≤ 30) :
    Calls Tryz.prog 168 #[valV v] w fun e w' => e = .returned (.int .i64 0) ∧ Below w.heap.size w w' := by
  have hmf : ∀ (fn : Fn) (first cap : Array Value) (w : World), (Instr.makeFunc fn first cap).run Tryz.prog w = .ok (.func fn first cap) w := fun _ _ _ _ => rfl
  obtain ⟨vk, vn, vs, vA, vm, vc⟩ := v
  unfold valV
  dsimp only
  go_enter Tryz.func168, Tryz.ntmps168
  go_wp2_with (go_at_call 188; refine (walk_any d ⟨vk, vn, vs, vA, vm, vc⟩ cnt enc 0 1 (w.heap.size + 1) (w.heap.size + 1 + 1) (w.heap.size + 1 + 1 + 1) (w.heap.size + 1 + 1 + 1 + 1) w.heap.size _ (h.below (by go_grown)) (by omega) (by omega) (by omega) (by omega) (by omega) ⟨(((Blk.new_ (by simp)).alloc _).alloc _).alloc _, ⟨0, by omega, by omega, ((Blk.new_ (by simp)).alloc _).alloc _⟩, (Blk.new_ (by simp)).alloc _, Blk.new_ (by simp)⟩ (by omega) (by omega) (by omega) (by omega)).mono ?_; rintro e w1 ⟨rfl, hb, ⟨hM, ⟨dp, dp0, dp1, hD⟩, hK, _⟩⟩; have cm := hM.cell 0; have cd := hD.cell 0; have ck := hK.cell 0; change _ = some (Value.int .i64 (0 + cnt)) at cm; change _ = some (Value.int .i64 dp) at cd; change _ = some (Value.bool true) at ck; have gm := hM.lt; have gd := hD.lt; have gk := hK.lt; have x1 : ¬ (4000 : Int) < 0 + (cnt : Int) := (by omega); have x2 : ¬ (30 : Int) < dp := (by omega); have hbb := hid_mk (show Below w.heap.size w w1 from Below.trans (by go_grown) hb); clear hb hM hD hK)
  go_ret
  exact ⟨rfl, hbb.out⟩
end Go.Proofs.YtncdjmpdbinanaaGreatDoor
