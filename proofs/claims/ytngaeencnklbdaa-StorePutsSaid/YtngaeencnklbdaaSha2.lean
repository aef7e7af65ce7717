/-
  WHAT IS PROVED HERE: what digest's block hands back.
-/
import Derived.Test.YtngaeencnklbdaaSha1
import Derived.Laws.BitsLemmas
import Derived.Laws.CopyOwn
namespace Go.Proofs.Ytngaeencnklbdaa
open Go.RowKit

section
variable {a w w' : World} {row : Option Nat}
theorem gb_trans (h : a.grownBy w row) (k : w.grownBy w' row) : a.grownBy w' row :=
  ⟨k.os.trans h.os, k.tape.trans h.tape, k.output.trans h.output, Nat.le_trans h.size k.size, fun i hi hr => (k.block i (Nat.lt_of_lt_of_le hi h.size) hr).trans (h.block i hi hr)⟩
theorem gb_below (hb : Below w.heap.size w w') : w.grownBy w' row := ⟨hb.os, hb.tape, hb.output, hb.size, fun i hi _ => hb.block i hi⟩
theorem gb_drew (h : w.grownBy w' row) : w.grownBy w'.drew row := ⟨h.os, h.tape, h.output, h.size, h.block⟩
theorem gb_set {g : Nat} (h : w.grownBy w' (some g)) (i : Nat) (v : Value) : w.grownBy (w'.setCell ⟨g, i, none⟩ v) (some g) :=
  ⟨h.os, h.tape, h.output, by simpa [World.setCell] using h.size, fun k hk hne => (Below.heap_setCell _ _ _ _ (by intro e; exact hne (by rw [e]))).trans (h.block k hk hne)⟩
end

/-! ### plain: SHA-256's step over one block -/
def wordB (l : List UInt8) (i : Nat) : Int := ((l.getD (4 * i) 0).toNat * 16777216 + (l.getD (4 * i + 1) 0).toNat * 65536 + (l.getD (4 * i + 2) 0).toNat * 256 + (l.getD (4 * i + 3) 0).toNat : Nat)
def sg1 (x : Int) : Int := bits BinOp.xor IntKind.u32 (bits BinOp.xor IntKind.u32 (rU x 17) (rU x 19)) (x / 1024)
def sg0 (x : Int) : Int := bits BinOp.xor IntKind.u32 (bits BinOp.xor IntKind.u32 (rU x 7) (rU x 18)) (x / 8)
def wNext (ws : List Int) (t : Nat) : Int := (sg1 (ws.getD (t - 2) 0) + ws.getD (t - 7) 0 + sg0 (ws.getD (t - 15) 0) + ws.getD (t - 16) 0) % 4294967296
def wList (l : List UInt8) : Nat → List Int
  | 0 => []
  | n + 1 => wList l n ++ [if n < 16 then wordB l n else wNext (wList l n) n]
def zeros (n : Nat) : List Int := List.replicate n 0
def wCells (l : List UInt8) (k : Nat) : Array Value := ((wList l k ++ zeros (64 - k)).map v32).toArray
theorem wList_len (l : List UInt8) : ∀ n, (wList l n).length = n
  | 0 => rfl
  | n + 1 => by rw [wList, List.length_append, wList_len l n]; rfl
structure S8 where
  a : Int
  b : Int
  c : Int
  d : Int
  e : Int
  f : Int
  g : Int
  h : Int
def bx (x y : Int) : Int := bits BinOp.xor IntKind.u32 x y
def bn (x y : Int) : Int := bits BinOp.and IntKind.u32 x y
def uMax : Int := if IntKind.u32.signed = true then -1 else IntKind.u32.max
def un (x : Int) : Int := bits BinOp.xor IntKind.u32 uMax x
def tOne (s : S8) (k w : Int) : Int := (s.h + bx (bx (rU s.e 6) (rU s.e 11)) (rU s.e 25) + bx (bn s.e s.f) (bn (un s.e) s.g) + k + w) % 4294967296
def tTwo (s : S8) : Int := (bx (bx (rU s.a 2) (rU s.a 13)) (rU s.a 22) + bx (bx (bn s.a s.b) (bn s.a s.c)) (bn s.b s.c)) % 4294967296
def rnd (s : S8) (k w : Int) : S8 := ⟨(tOne s k w + tTwo s) % 4294967296, s.a, s.b, s.c, (s.d + tOne s k w) % 4294967296, s.e, s.f, s.g⟩
def run8 (ws : List Int) (s : S8) : Nat → S8
  | 0 => s
  | n + 1 => rnd (run8 ws s n) (kK.getD n 0) (ws.getD n 0)
def s8V (s : S8) : Array Value := #[.int .u32 s.a, .int .u32 s.b, .int .u32 s.c, .int .u32 s.d, .int .u32 s.e, .int .u32 s.f, .int .u32 s.g, .int .u32 s.h]
def s8L (s : S8) : List Int := [s.a, s.b, s.c, s.d, s.e, s.f, s.g, s.h]
def mixL (a b : List Int) (k : Nat) : List Int := (List.range 8).map fun j => if j < k then (a.getD j 0 + b.getD j 0) % 4294967296 else a.getD j 0
def mixV (a b : List Int) (k : Nat) (others : List Value) : Array Value := ((mixL a b k).map v32 ++ others).toArray
def add8 (x y : S8) : S8 := ⟨(x.a + y.a) % 4294967296, (x.b + y.b) % 4294967296, (x.c + y.c) % 4294967296, (x.d + y.d) % 4294967296, (x.e + y.e) % 4294967296, (x.f + y.f) % 4294967296, (x.g + y.g) % 4294967296, (x.h + y.h) % 4294967296⟩
/-- what one block of the text makes of the eight words -/
def over8 (l : List UInt8) (s : S8) : S8 := add8 s (run8 (wList l 64) s 64)
theorem mixV_0 (s : S8) (b : List Int) (others : List Value) : s8V s ++ others.toArray = mixV (s8L s) b 0 others := by
  unfold mixV mixL s8V s8L v32
  simp [List.range, List.range.loop]
theorem mixV_8 (s v : S8) (others : List Value) : mixV (s8L s) (s8L v) 8 others = s8V (add8 s v) ++ others.toArray := by
  unfold mixV mixL s8V s8L v32 add8
  simp [List.range, List.range.loop]
theorem mixV_at (a b : List Int) {k : Nat} (hk : k < 8) (others : List Value) : (mixV a b k others)[k]? = some (v32 (a.getD k 0)) := by
  unfold mixV mixL
  rw [List.getElem?_toArray, List.getElem?_append_left (by simpa using hk)]
  simp [hk]
theorem mixV_set (a b : List Int) {k : Nat} (hk : k < 8) (others : List Value) : (mixV a b k others).setIfInBounds k (v32 ((a.getD k 0 + b.getD k 0) % 4294967296)) = mixV a b (k + 1) others := by
  unfold mixV
  rw [List.setIfInBounds_toArray, List.set_append_left _ _ (by simpa [mixL] using hk)]
  congr 2
  apply List.ext_getElem?
  intro j
  unfold mixL
  simp only [List.getElem?_set, List.length_map, List.length_range, List.getElem?_map]
  by_cases hj : j < 8
  · rw [List.getElem?_range hj]
    by_cases e : k = j
    · subst e; simp [hk]
    · have : (j < k + 1) = (j < k) := by apply propext; omega
      simp [e, this]
  · have : (List.range 8)[j]? = none := by rw [List.getElem?_eq_none]; simp; omega
    rw [this]
    have e : k ≠ j := by omega
    simp [e]
theorem s8V_at (s : S8) {k : Nat} (hk : k < 8) : (s8V s)[k]? = some (.int .u32 ((s8L s).getD k 0)) := by
  rcases k with _ | _ | _ | _ | _ | _ | _ | _ | k <;> first | rfl | omega
theorem wraps_u32 (n : Int) (h₀ : 0 ≤ n) (h₁ : n < 2 ^ 32) : IntKind.u32.wrap n = n := by rw [IntKind.wrap_u32]; omega
theorem u32_join (i : Nat) (x y : Int) (hx₀ : 0 ≤ x) (hx : x % 2 ^ i = 0) (hx₁ : x < 2 ^ 32) (hy₀ : 0 ≤ y) (hy : y < 2 ^ i) (hy₁ : y < 2 ^ 32) : bits .or .u32 x y = x + y := bits_join .u32 32 (by decide) wraps_u32 i x y hx₀ hx hx₁ hy₀ hy hy₁
theorem word_or (x0 x1 x2 x3 : Nat) (z0 : x0 < 256) (z1 : x1 < 256) (z2 : x2 < 256) (z3 : x3 < 256) :
    bits BinOp.or IntKind.u32 (bits BinOp.or IntKind.u32 (bits BinOp.or IntKind.u32 (IntKind.u32.wrap (IntKind.u32.wrap (x0 : Int) * 16777216)) (IntKind.u32.wrap (IntKind.u32.wrap (x1 : Int) * 65536))) (IntKind.u32.wrap (IntKind.u32.wrap (x2 : Int) * 256))) (IntKind.u32.wrap (x3 : Int)) = ((x0 * 16777216 + x1 * 65536 + x2 * 256 + x3 : Nat) : Int) := by
  rw [wraps_u32 (x0 : Int) (by omega) (by omega), wraps_u32 (x1 : Int) (by omega) (by omega), wraps_u32 (x2 : Int) (by omega) (by omega), wraps_u32 (x3 : Int) (by omega) (by omega), wraps_u32 ((x0 : Int) * 16777216) (by omega) (by omega), wraps_u32 ((x1 : Int) * 65536) (by omega) (by omega), wraps_u32 ((x2 : Int) * 256) (by omega) (by omega)]
  rw [u32_join 24 ((x0 : Int) * 16777216) ((x1 : Int) * 65536) (by omega) (by omega) (by omega) (by omega) (by omega) (by omega), u32_join 16 ((x0 : Int) * 16777216 + (x1 : Int) * 65536) ((x2 : Int) * 256) (by omega) (by omega) (by omega) (by omega) (by omega) (by omega), u32_join 8 ((x0 : Int) * 16777216 + (x1 : Int) * 65536 + (x2 : Int) * 256) (x3 : Int) (by omega) (by omega) (by omega) (by omega) (by omega) (by omega)]
  omega
theorem wCells_len (l : List UInt8) (k : Nat) (hk : k ≤ 64) : (wCells l k).size = 64 := by
  unfold wCells zeros
  simp [wList_len]; omega
theorem wCells_at (l : List UInt8) {k j : Nat} (hj : j < k) : (wCells l k)[j]? = some (v32 ((wList l k).getD j 0)) := by
  unfold wCells
  have h1 : j < (wList l k).length := by rw [wList_len]; exact hj
  simp only [List.getElem?_toArray, List.map_append]
  rw [List.getElem?_append_left (by simpa using h1)]
  simp [h1]
theorem wCells_next (l : List UInt8) {k : Nat} (hk : k < 64) : (wCells l k)[k]? = some (v32 0) := by
  unfold wCells zeros
  have h1 : ¬ k < (wList l k).length := by rw [wList_len]; omega
  have h2 : 0 < 64 - k := by omega
  simp [wList_len, h2]
theorem wCells_set (l : List UInt8) {k : Nat} (hk : k < 64) : (wCells l k).setIfInBounds k (v32 (if k < 16 then wordB l k else wNext (wList l k) k)) = wCells l (k + 1) := by
  unfold wCells
  rw [List.setIfInBounds_toArray, wList]
  congr 1
  obtain ⟨x, hx⟩ : ∃ x, (if k < 16 then wordB l k else wNext (wList l k) k) = x := ⟨_, rfl⟩
  rw [hx]
  unfold zeros
  rw [show 64 - k = (64 - (k + 1)) + 1 from by omega, List.replicate_succ, List.map_append, List.set_append_right _ _ (by rw [List.length_map, wList_len]; exact Nat.le_refl _), List.length_map, wList_len, Nat.sub_self]
  simp
theorem w_step (x2 x7 x15 x16 : Int) : IntKind.u32.wrap (IntKind.u32.wrap (IntKind.u32.wrap (bits BinOp.xor IntKind.u32 (bits BinOp.xor IntKind.u32 (rU x2 17) (rU x2 19)) (x2 / 1024) + x7) + bits BinOp.xor IntKind.u32 (bits BinOp.xor IntKind.u32 (rU x15 7) (rU x15 18)) (x15 / 8)) + x16) = (sg1 x2 + x7 + sg0 x15 + x16) % 4294967296 := by
  unfold sg1 sg0
  simp only [IntKind.wrap_u32]
  omega
theorem t_one (a b c d e f g h k w : Int) : IntKind.u32.wrap (IntKind.u32.wrap (IntKind.u32.wrap (IntKind.u32.wrap (h + bits BinOp.xor IntKind.u32 (bits BinOp.xor IntKind.u32 (rU e 6) (rU e 11)) (rU e 25)) + bits BinOp.xor IntKind.u32 (bits BinOp.and IntKind.u32 e f) (bits BinOp.and IntKind.u32 (bits BinOp.xor IntKind.u32 uMax e) g)) + k) + w) = tOne ⟨a, b, c, d, e, f, g, h⟩ k w := by
  unfold tOne bx bn un
  simp only [IntKind.wrap_u32]
  omega
theorem t_two (a b c d e f g h : Int) : IntKind.u32.wrap (bits BinOp.xor IntKind.u32 (bits BinOp.xor IntKind.u32 (rU a 2) (rU a 13)) (rU a 22) + bits BinOp.xor IntKind.u32 (bits BinOp.xor IntKind.u32 (bits BinOp.and IntKind.u32 a b) (bits BinOp.and IntKind.u32 a c)) (bits BinOp.and IntKind.u32 b c)) = tTwo ⟨a, b, c, d, e, f, g, h⟩ := by
  unfold tTwo bx bn
  simp only [IntKind.wrap_u32]
theorem blk_setRow {w : World} {g : Nat} {t : TypeId} {cs : Array Value} (h : Blk w g t cs) (cs' : Array Value) : Blk (w.setRow g cs') g t cs' := by
  unfold Blk at h ⊢
  simp [World.setRow, Array.getElem?_modify, h]
theorem blk_setRow_far {w : World} {g g' : Nat} {t : TypeId} {cs : Array Value} (h : Blk w g t cs) (hne : g ≠ g') (cs' : Array Value) : Blk (w.setRow g' cs') g t cs := by
  unfold Blk at h ⊢
  have h2 : ¬ g' = g := fun e => hne e.symm
  simp [World.setRow, Array.getElem?_modify, h, h2]
theorem kK_at {k : Nat} (hk : k < 64) : ((kK.map v32).toArray)[k]? = some (.int .u32 (kK.getD k 0)) := by
  have h1 : k < kK.length := hk
  simp [h1, v32]
set_option maxRecDepth 100000 in
set_option maxHeartbeats 8000000 in
theorem block_any (g : Nat) (T : TypeId) (s0 : S8) (others : List Value) (A : Option Addr) (n cap : Nat) (l : List UInt8) (w : World) {B : Nat} (hg : Blk w g T (s8V s0 ++ others.toArray)) (hn : 64 ≤ n) (hn2 : n ≤ 1099511627776) (h : Reads w B 5 1 A n (Lib.byteCells l)) :
    Calls Try.prog 46 #[.pointer (some ⟨g, 0, none⟩), .slice A n cap] w fun e w' => e = .returned (.tuple #[]) ∧ w.grownBy w' (some g) ∧ Blk w' g T (s8V (over8 l s0) ++ others.toArray) := by
  replace hg := hid_mk hg
  have hz64 : Hid (((zeros 64).map v32).toArray = wCells l 0) := rfl
  refine calls_of_wpQ Try.func46 rfl ?_
  intro Q hQ
  simp only [Try.ntmps46, List.size_toArray, List.length_cons, List.length_nil, Nat.reduceAdd, Nat.reduceSub, Array.replicate_succ, Array.replicate_zero, List.push_toArray, List.append_toArray, List.nil_append, List.cons_append]
  go_wp2_with (first | (go_at_call 50; refine (rounds_any _).mono ?_; rintro e w1 ⟨rfl, hb⟩; unfold kKV) | (refine wpList_store_new rfl 77 (.tmp 4) (.tmp 18) rfl _ (kK.map v32).toArray rfl rfl rfl (by kernel_rfl) (by kernel_rfl) (by kernel_rfl) ?_))
  have hK0 := hid_mk ((Blk.new w1 77 (kK.map v32).toArray).alloc (.cells (wCells l 0) 77))
  have hW0 := Blk.new (w1.alloc (.cells (kK.map v32).toArray 77)) 77 (wCells l 0)
  rw [World.size_alloc] at hW0
  replace hW0 := hid_mk hW0
  have hs1 := hb.size
  have hb0 : Below w1.heap.size w1 ((w1.alloc (.cells (kK.map v32).toArray 77)).alloc (.cells (wCells l 0) 77)) := by go_grown
  replace hb := hid_mk hb
  go_loopw [19] (fun i wr => ∃ k : Nat, k ≤ 16 ∧ i = .int .i64 k ∧ Below w1.heap.size w1 wr ∧ Hid (Blk wr w1.heap.size 77 (kK.map v32).toArray) ∧ Hid (Blk wr (w1.heap.size + 1) 77 (wCells l k))) (fun i _ => 16 - (intOf i).toNat)
  case atStart => exact ⟨0, by omega, rfl, hb0, hK0, hW0⟩
  case round =>
    obtain ⟨k, hk, rfl, hb1, hK, hW⟩ := hrel
    have hwz := hb1.size
    have qr : Below w.heap.size w wr := hb.out.trans (hb1.mono hs1)
    by_cases hlt : k < 16
    · obtain ⟨b, o, rfl, _, _, hc⟩ := (h.to qr).2 (by omega)
      have hl := h.1
      rw [Lib.byteCells_length] at hl
      obtain ⟨m, hm⟩ : ∃ m, 4 * k = m := ⟨_, rfl⟩
      have ce : ∀ j, m + j < l.length → wr.cell? ⟨b, o + (m + j), none⟩ = some (.int .u8 ((l.getD (m + j) 0).toNat : Int)) := fun j hj => hc _ _ (by simp [Lib.byteCells, hj])
      have c0 := ce 0 (by omega)
      have c1 := ce 1 (by omega)
      have c2 := ce 2 (by omega)
      have c3 := ce 3 (by omega)
      clear ce hc
      rw [Nat.add_zero] at c0
      obtain ⟨x0, hx0⟩ : ∃ x, l.getD m 0 = x := ⟨_, rfl⟩
      obtain ⟨x1, hx1⟩ : ∃ x, l.getD (m + 1) 0 = x := ⟨_, rfl⟩
      obtain ⟨x2, hx2⟩ : ∃ x, l.getD (m + 2) 0 = x := ⟨_, rfl⟩
      obtain ⟨x3, hx3⟩ : ∃ x, l.getD (m + 3) 0 = x := ⟨_, rfl⟩
      rw [hx0] at c0
      rw [hx1] at c1
      rw [hx2] at c2
      rw [hx3] at c3
      have hwd : Hid (wordB l k = (x0.toNat * 16777216 + x1.toNat * 65536 + x2.toNat * 256 + x3.toNat : Nat)) := by unfold Hid wordB; rw [hm, hx0, hx1, hx2, hx3]
      clear hx0 hx1 hx2 hx3
      have z0 := x0.toNat_lt
      have z1 := x1.toNat_lt
      have z2 := x2.toNat_lt
      have z3 := x3.toNat_lt
      have i0 : (0 : Int) ≤ m := by omega
      have i1 : (m : Int) < n := by omega
      have i2 : (m : Int) + 1 < n := by omega
      have i3 : (m : Int) + 2 < n := by omega
      have i4 : (m : Int) + 3 < n := by omega
      have i5 : (0 : Int) ≤ (m : Int) + 1 := by omega
      have i6 : (0 : Int) ≤ (m : Int) + 2 := by omega
      have i7 : (0 : Int) ≤ (m : Int) + 3 := by omega
      have i8 : (0 : Int) ≤ k := by omega
      have i9 : (k : Int) < 64 := by omega
      have j0 : IntKind.i64.wrap (4 * (k : Int)) = (m : Int) := by rw [IntWalk.i64_in _ (by omega)]; omega
      have j1 : IntKind.i64.wrap ((m : Int) + 1) = (m : Int) + 1 := IntWalk.i64_in _ (by omega)
      have j2 : IntKind.i64.wrap ((m : Int) + 2) = (m : Int) + 2 := IntWalk.i64_in _ (by omega)
      have j3 : IntKind.i64.wrap ((m : Int) + 3) = (m : Int) + 3 := IntWalk.i64_in _ (by omega)
      have t1 : ((m : Int) + 1).toNat = m + 1 := by omega
      have t2 : ((m : Int) + 2).toNat = m + 2 := by omega
      have t3 : ((m : Int) + 3).toNat = m + 3 := by omega
      replace hm := hid_mk hm
      clear hl
      go_wp2_with fail
      go_still_tail 34, (by kernel_rfl)
      change wpList _ _ _ _ _ wr.drew
      have wc : wr.cell? ⟨w1.heap.size + 1, k, none⟩ = some (v32 0) := (hW.out.cell k).trans (wCells_next l (by omega))
      have wf := hW.out.frozen k
      unfold v32 at wc
      have hor := word_or x0.toNat x1.toNat x2.toNat x3.toNat z0 z1 z2 z3
      rw [← hwd.out] at hor
      go_wp2
      go_roundw
      case rel =>
        have hset := wCells_set l (k := k) (by omega)
        rw [if_pos hlt] at hset
        refine ⟨k + 1, by omega, by go_num, (hb1.setCell (p := ⟨w1.heap.size + 1, k, none⟩) (by simp) _).drew, hK.out.far (p := ⟨w1.heap.size + 1, k, none⟩) (by simp) _, ?_⟩
        have := hW.out.set_ k (.int .u32 (wordB l k))
        unfold v32 at hset
        rw [hset] at this
        exact this
      case measure => simp [intOf]; omega
    · obtain rfl : 16 = k := by omega
      clear hlt hk
      obtain ⟨wo, rfl⟩ : ∃ wo : World, wo = wr := ⟨_, rfl⟩
      have qo := hb1
      go_wp2
      rw [show ((16 : Nat) : Int) = (16 : Int) from rfl]
      go_loopw [8] (fun i wr => ∃ k : Nat, 16 ≤ k ∧ k ≤ 64 ∧ i = .int .i64 k ∧ Below w1.heap.size w1 wr ∧ Hid (Blk wr w1.heap.size 77 (kK.map v32).toArray) ∧ Hid (Blk wr (w1.heap.size + 1) 77 (wCells l k))) (fun i _ => 64 - (intOf i).toNat)
      case atStart => exact ⟨16, by omega, by omega, rfl, qo, hK, hW⟩
      case round =>
        clear hK hW hb1 hwz qr
        obtain ⟨k, hk0, hk, rfl, hb1, hK, hW⟩ := hrel
        have hwz := hb1.size
        have qr : Below w.heap.size w wr := hb.out.trans (hb1.mono hs1)
        by_cases hlt : k < 64
        · have r2 := wCells_at l (k := k) (j := k - 2) (by omega)
          have r15 := wCells_at l (k := k) (j := k - 15) (by omega)
          have r7 := wCells_at l (k := k) (j := k - 7) (by omega)
          have r16 := wCells_at l (k := k) (j := k - 16) (by omega)
          have c2 : wr.cell? ⟨w1.heap.size + 1, k - 2, none⟩ = some (v32 ((wList l k).getD (k - 2) 0)) := (hW.out.cell _).trans r2
          have c15 : wr.cell? ⟨w1.heap.size + 1, k - 15, none⟩ = some (v32 ((wList l k).getD (k - 15) 0)) := (hW.out.cell _).trans r15
          have c7 : wr.cell? ⟨w1.heap.size + 1, k - 7, none⟩ = some (v32 ((wList l k).getD (k - 7) 0)) := (hW.out.cell _).trans r7
          have c16 : wr.cell? ⟨w1.heap.size + 1, k - 16, none⟩ = some (v32 ((wList l k).getD (k - 16) 0)) := (hW.out.cell _).trans r16
          have wc : wr.cell? ⟨w1.heap.size + 1, k, none⟩ = some (v32 0) := (hW.out.cell k).trans (wCells_next l hlt)
          have wf := hW.out.frozen k
          obtain ⟨x2, hx2⟩ : ∃ x, (wList l k).getD (k - 2) 0 = x := ⟨_, rfl⟩
          obtain ⟨x15, hx15⟩ : ∃ x, (wList l k).getD (k - 15) 0 = x := ⟨_, rfl⟩
          obtain ⟨x7, hx7⟩ : ∃ x, (wList l k).getD (k - 7) 0 = x := ⟨_, rfl⟩
          obtain ⟨x16, hx16⟩ : ∃ x, (wList l k).getD (k - 16) 0 = x := ⟨_, rfl⟩
          have hwn := w_step x2 x7 x15 x16
          rw [show (sg1 x2 + x7 + sg0 x15 + x16) % 4294967296 = wNext (wList l k) k from by unfold wNext; rw [hx2, hx7, hx15, hx16]] at hwn
          rw [hx2] at c2
          rw [hx15] at c15
          rw [hx7] at c7
          rw [hx16] at c16
          unfold v32 at c2 c15 c7 c16 wc
          clear r2 r15 r7 r16 hx2 hx15 hx7 hx16
          have i0 : (0 : Int) ≤ (k : Int) - 2 := by omega
          have i1 : (0 : Int) ≤ (k : Int) - 15 := by omega
          have i2 : (0 : Int) ≤ (k : Int) - 7 := by omega
          have i3 : (0 : Int) ≤ (k : Int) - 16 := by omega
          have i4 : (k : Int) < 64 := by omega
          have b2 : (2 : Int) ≤ k := by omega
          have b2' : (k : Int) - 2 < 64 := by omega
          have b15 : (15 : Int) ≤ k := by omega
          have b15' : (k : Int) - 15 < 64 := by omega
          have b7 : (7 : Int) ≤ k := by omega
          have b7' : (k : Int) - 7 < 64 := by omega
          have b16 : (16 : Int) ≤ k := by omega
          have b16' : (k : Int) - 16 < 64 := by omega
          have j0 : IntKind.i64.wrap ((k : Int) - 2) = (k : Int) - 2 := IntWalk.i64_in _ (by omega)
          have j1 : IntKind.i64.wrap ((k : Int) - 15) = (k : Int) - 15 := IntWalk.i64_in _ (by omega)
          have j2 : IntKind.i64.wrap ((k : Int) - 7) = (k : Int) - 7 := IntWalk.i64_in _ (by omega)
          have j3 : IntKind.i64.wrap ((k : Int) - 16) = (k : Int) - 16 := IntWalk.i64_in _ (by omega)
          have t0 : ((k : Int) - 2).toNat = k - 2 := by omega
          have t1 : ((k : Int) - 15).toNat = k - 15 := by omega
          have t2 : ((k : Int) - 7).toNat = k - 7 := by omega
          have t3 : ((k : Int) - 16).toNat = k - 16 := by omega
          go_wp2_with fail
          go_quiet (fail)
          go_wp2_with fail
          generalize hwq : wr.drewN _ = wq
          have keyc : ∀ p, wq.cell? p = wr.cell? p := fun p => by rw [← hwq]; rfl
          have keyf : ∀ p, wq.frozen? p = wr.frozen? p := fun p => by rw [← hwq]; rfl
          have hbq : Below w1.heap.size w1 wq := by rw [← hwq]; exact below_drewN hb1 _
          have hKq : Hid (Blk wq w1.heap.size 77 (kK.map v32).toArray) := by rw [← hwq]; exact hK
          have hWq : Hid (Blk wq (w1.heap.size + 1) 77 (wCells l k)) := by rw [← hwq]; exact hW
          replace c7 := (keyc _).trans c7
          replace c16 := (keyc _).trans c16
          replace wc := (keyc _).trans wc
          replace wf := (keyf _).trans wf
          clear hwq keyc keyf c2 c15 hb1 hK hW
          go_still_tail 32, (by kernel_rfl)
          still_call (still_17 _ _)
          repeat still_step
          still_call (still_19 _ _)
          repeat still_step
          still_call (still_7 _ _)
          repeat still_step
          still_call (still_18 _ _)
          repeat still_step
          refine wpStill_nil ?_
          change wpList _ _ _ _ _ wq.drew
          go_wp2
          go_roundw
          case rel =>
            have hset := wCells_set l (k := k) (by omega)
            rw [if_neg (by omega)] at hset
            refine ⟨k + 1, by omega, by omega, by go_num, (hbq.setCell (p := ⟨w1.heap.size + 1, k, none⟩) (by simp) _).drew, hKq.out.far (p := ⟨w1.heap.size + 1, k, none⟩) (by simp) _, ?_⟩
            have := hWq.out.set_ k (.int .u32 (wNext (wList l k) k))
            unfold v32 at hset
            rw [hset] at this
            exact this
          case measure => simp [intOf]; omega
        · obtain rfl : 64 = k := by omega
          clear hlt hk hk0
          obtain ⟨wp, rfl⟩ : ∃ wp : World, wp = wr := ⟨_, rfl⟩
          have qp := hb1
          have hgp : Blk wp g T (s8V s0 ++ others.toArray) := hg.out.keep qr
          have e0 : wp.cell? ⟨g, 0, none⟩ = some (.int .u32 s0.a) := (hgp.cell 0).trans (by simp [s8V])
          have e1 : wp.cell? ⟨g, 1, none⟩ = some (.int .u32 s0.b) := (hgp.cell 1).trans (by simp [s8V])
          have e2 : wp.cell? ⟨g, 2, none⟩ = some (.int .u32 s0.c) := (hgp.cell 2).trans (by simp [s8V])
          have e3 : wp.cell? ⟨g, 3, none⟩ = some (.int .u32 s0.d) := (hgp.cell 3).trans (by simp [s8V])
          have e4 : wp.cell? ⟨g, 4, none⟩ = some (.int .u32 s0.e) := (hgp.cell 4).trans (by simp [s8V])
          have e5 : wp.cell? ⟨g, 5, none⟩ = some (.int .u32 s0.f) := (hgp.cell 5).trans (by simp [s8V])
          have e6 : wp.cell? ⟨g, 6, none⟩ = some (.int .u32 s0.g) := (hgp.cell 6).trans (by simp [s8V])
          have e7 : wp.cell? ⟨g, 7, none⟩ = some (.int .u32 s0.h) := (hgp.cell 7).trans (by simp [s8V])
          have hgl := hgp.lt
          replace hgp := hid_mk hgp
          go_wp2
          rw [show ((64 : Nat) : Int) = (64 : Int) from rfl]
          have hV0 := hid_mk (Blk.new wp 65 (s8V s0))
          go_loopw [106] (fun i wr => ∃ (k : Nat) (s : S8), k ≤ 64 ∧ i = .int .i64 k ∧ Below wp.heap.size wp wr ∧ Hid (Blk wr wp.heap.size 65 (s8V s)) ∧ Hid (s = run8 (wList l 64) s0 k)) (fun i _ => 64 - (intOf i).toNat)
          case atStart => exact ⟨0, s0, by omega, rfl, by go_grown, hV0, rfl⟩
          case round =>
            clear e0 e1 e2 e3 e4 e5 e6 e7
            obtain ⟨k, s, hk, rfl, hb3, hV, hs⟩ := hrel
            have hwz3 := hb3.size
            have hK3 := hid_mk (hK.out.keep hb3)
            have hW3 := hid_mk (hW.out.keep hb3)
            have hg3 := hid_mk (hgp.out.keep hb3)
            by_cases hlt : k < 64
            · obtain ⟨va, vb, vc, vd, ve, vf, vg, vh⟩ := s
              have v0 : wr.cell? ⟨wp.heap.size, 0, none⟩ = some (.int .u32 va) := hV.out.cell 0
              have v1 : wr.cell? ⟨wp.heap.size, 1, none⟩ = some (.int .u32 vb) := hV.out.cell 1
              have v2 : wr.cell? ⟨wp.heap.size, 2, none⟩ = some (.int .u32 vc) := hV.out.cell 2
              have v3 : wr.cell? ⟨wp.heap.size, 3, none⟩ = some (.int .u32 vd) := hV.out.cell 3
              have v4 : wr.cell? ⟨wp.heap.size, 4, none⟩ = some (.int .u32 ve) := hV.out.cell 4
              have v5 : wr.cell? ⟨wp.heap.size, 5, none⟩ = some (.int .u32 vf) := hV.out.cell 5
              have v6 : wr.cell? ⟨wp.heap.size, 6, none⟩ = some (.int .u32 vg) := hV.out.cell 6
              have v7 : wr.cell? ⟨wp.heap.size, 7, none⟩ = some (.int .u32 vh) := hV.out.cell 7
              obtain ⟨kk, hkk⟩ : ∃ x, kK.getD k 0 = x := ⟨_, rfl⟩
              obtain ⟨ww, hww⟩ : ∃ x, (wList l 64).getD k 0 = x := ⟨_, rfl⟩
              have ck : wr.cell? ⟨w1.heap.size, k, none⟩ = some (.int .u32 kk) := (hK3.out.cell k).trans (by rw [← hkk]; exact kK_at hlt)
              have cw : wr.cell? ⟨w1.heap.size + 1, k, none⟩ = some (.int .u32 ww) := (hW3.out.cell k).trans (by rw [← hww]; exact wCells_at l hlt)
              have i0 : (0 : Int) ≤ k := by omega
              have i1 : (k : Int) < 64 := by omega
              replace hkk := hid_mk hkk
              replace hww := hid_mk hww
              obtain ⟨T1, hT1⟩ : ∃ T, tOne ⟨va, vb, vc, vd, ve, vf, vg, vh⟩ kk ww = T := ⟨_, rfl⟩
              obtain ⟨T2, hT2⟩ : ∃ T, tTwo ⟨va, vb, vc, vd, ve, vf, vg, vh⟩ = T := ⟨_, rfl⟩
              have hUM : (if IntKind.u32.signed = true then (-1 : Int) else IntKind.u32.max) = uMax := rfl
              have eT1 := t_one va vb vc vd ve vf vg vh kk ww
              have eT2 := t_two va vb vc vd ve vf vg vh
              rw [hT1] at eT1
              rw [hT2] at eT2
              replace hT1 := hid_mk hT1
              replace hT2 := hid_mk hT2
              go_wp2_with fail
              go_quiet (fail)
              go_wp2_with fail
              generalize hwq : wr.drewN _ = wq
              have keyc : ∀ p, wq.cell? p = wr.cell? p := fun p => by rw [← hwq]; rfl
              replace v0 := (keyc _).trans v0
              replace v1 := (keyc _).trans v1
              replace v2 := (keyc _).trans v2
              replace v3 := (keyc _).trans v3
              replace v4 := (keyc _).trans v4
              replace v5 := (keyc _).trans v5
              replace v6 := (keyc _).trans v6
              replace v7 := (keyc _).trans v7
              replace ck := (keyc _).trans ck
              replace cw := (keyc _).trans cw
              have hb3' : Below wp.heap.size wp wq := by rw [← hwq]; exact below_drewN hb3 _
              have hV' : Hid (Blk wq wp.heap.size 65 (s8V ⟨va, vb, vc, vd, ve, vf, vg, vh⟩)) := by rw [← hwq]; exact hV
              clear hwq keyc hb3 hV
              rename Below wp.heap.size wp wq => hb3
              rename Hid (Blk wq wp.heap.size 65 (s8V ⟨va, vb, vc, vd, ve, vf, vg, vh⟩)) => hV
              refine wp_region_still_lit (by kernel_rfl) (by kernel_rfl) ?_
              repeat still_step
              still_call (still_6 _ _)
              repeat still_step
              still_call (still_11 _ _)
              repeat still_step
              still_call (still_25 _ _)
              repeat still_step
              refine wpStill_nil ?_
              change Exit.then _ _ _ _ wq.drew
              generalize hwq : wq.drew = wu
              have keyc : ∀ p, wu.cell? p = wq.cell? p := fun p => by rw [← hwq]; rfl
              replace v0 := (keyc _).trans v0
              replace v1 := (keyc _).trans v1
              replace v2 := (keyc _).trans v2
              replace v3 := (keyc _).trans v3
              replace v4 := (keyc _).trans v4
              replace v5 := (keyc _).trans v5
              replace v6 := (keyc _).trans v6
              replace v7 := (keyc _).trans v7
              replace ck := (keyc _).trans ck
              replace cw := (keyc _).trans cw
              have hb3' : Below wp.heap.size wp wu := by rw [← hwq]; exact hb3.drew
              have hV' : Hid (Blk wu wp.heap.size 65 (s8V ⟨va, vb, vc, vd, ve, vf, vg, vh⟩)) := by rw [← hwq]; exact hV
              clear hwq keyc hb3 hV
              rename Below wp.heap.size wp wu => hb3
              rename Hid (Blk wu wp.heap.size 65 (s8V ⟨va, vb, vc, vd, ve, vf, vg, vh⟩)) => hV
              go_wp2_with fail
              refine wp_region_still_lit (by kernel_rfl) (by kernel_rfl) ?_
              repeat still_step
              still_call (still_2 _ _)
              repeat still_step
              still_call (still_13 _ _)
              repeat still_step
              still_call (still_22 _ _)
              repeat still_step
              refine wpStill_nil ?_
              change Exit.then _ _ _ _ wu.drew
              generalize hwq : wu.drew = wv
              have keyc : ∀ p, wv.cell? p = wu.cell? p := fun p => by rw [← hwq]; rfl
              replace v0 := (keyc _).trans v0
              replace v1 := (keyc _).trans v1
              replace v2 := (keyc _).trans v2
              replace v3 := (keyc _).trans v3
              replace v4 := (keyc _).trans v4
              replace v5 := (keyc _).trans v5
              replace v6 := (keyc _).trans v6
              replace v7 := (keyc _).trans v7
              replace ck := (keyc _).trans ck
              replace cw := (keyc _).trans cw
              have hb3' : Below wp.heap.size wp wv := by rw [← hwq]; exact hb3.drew
              have hV' : Hid (Blk wv wp.heap.size 65 (s8V ⟨va, vb, vc, vd, ve, vf, vg, vh⟩)) := by rw [← hwq]; exact hV
              clear hwq keyc hb3 hV
              rename Below wp.heap.size wp wv => hb3
              rename Hid (Blk wv wp.heap.size 65 (s8V ⟨va, vb, vc, vd, ve, vf, vg, vh⟩)) => hV
              go_wp2_with fail
              go_still_tail 2, (by kernel_rfl)
              change wpList _ _ _ _ _ wv.drew
              have hVd : Blk wv.drew wp.heap.size 65 #[.int .u32 va, .int .u32 vb, .int .u32 vc, .int .u32 vd, .int .u32 ve, .int .u32 vf, .int .u32 vg, .int .u32 vh] := hV
              refine wpList_copy_own rfl (.tmp 173) (.tmp 174) 63 63 rfl 62 Try.underlying63 (by kernel_rfl) wp.heap.size 1 7 7 ⟨wp.heap.size, 0, none⟩ 7 8 rfl rfl _ 65 hVd [.int .u32 va, .int .u32 vb, .int .u32 vc, .int .u32 vd, .int .u32 ve, .int .u32 vf, .int .u32 vg] rfl (fun j v hj => ?_) (by simp) (fun v hv => by simp at hv; rcases hv with rfl | rfl | rfl | rfl | rfl | rfl | rfl <;> rfl) ?_
              · rw [add_plain, Nat.zero_add, hVd.cell j]
                rcases j with _ | _ | _ | _ | _ | _ | _ | j <;> simp at hj ⊢ <;> exact hj
              have hVn : Blk (wv.drew.setRow wp.heap.size #[.int .u32 va, .int .u32 va, .int .u32 vb, .int .u32 vc, .int .u32 vd, .int .u32 ve, .int .u32 vf, .int .u32 vg]) wp.heap.size 65 #[.int .u32 va, .int .u32 va, .int .u32 vb, .int .u32 vc, .int .u32 vd, .int .u32 ve, .int .u32 vf, .int .u32 vg] := blk_setRow hVd _
              have hbn : Below wp.heap.size wp (wv.drew.setRow wp.heap.size #[.int .u32 va, .int .u32 va, .int .u32 vb, .int .u32 vc, .int .u32 vd, .int .u32 ve, .int .u32 vf, .int .u32 vg]) := below_setRow hb3.drew (Nat.le_refl _) _
              change wpList _ _ _ _ _ (wv.drew.setRow wp.heap.size #[.int .u32 va, .int .u32 va, .int .u32 vb, .int .u32 vc, .int .u32 vd, .int .u32 ve, .int .u32 vf, .int .u32 vg])
              generalize wv.drew.setRow wp.heap.size #[.int .u32 va, .int .u32 va, .int .u32 vb, .int .u32 vc, .int .u32 vd, .int .u32 ve, .int .u32 vf, .int .u32 vg] = wn at hVn hbn ⊢
              clear hVd hV hb3 v0 v1 v2 v3 v4 v5 v6 v7 ck cw
              have n0 : wn.cell? ⟨wp.heap.size, 0, none⟩ = some (.int .u32 va) := hVn.cell 0
              have n4 : wn.cell? ⟨wp.heap.size, 4, none⟩ = some (.int .u32 vd) := hVn.cell 4
              have f0 := hVn.frozen 0
              have f4 := hVn.frozen 4
              replace hVn := hid_mk hVn
              go_wp2
              go_roundw
              case rel =>
                refine ⟨k + 1, rnd ⟨va, vb, vc, vd, ve, vf, vg, vh⟩ kk ww, by omega, by go_num, (hbn.setCell (p := ⟨wp.heap.size, 4, none⟩) (Nat.le_refl _) _).setCell (p := ⟨wp.heap.size, 0, none⟩) (Nat.le_refl _) _, ?_, ?_⟩
                · have := (hVn.out.set_ 4 (.int .u32 ((vd + T1) % 4294967296))).set_ 0 (.int .u32 ((T1 + T2) % 4294967296))
                  unfold rnd s8V
                  rw [hT1.out, hT2.out]
                  exact this
                · rw [Hid, run8, ← hs.out, hkk.out, hww.out]
              case measure => simp [intOf]; omega
            · obtain rfl : 64 = k := by omega
              clear hlt hk
              obtain ⟨w4, rfl⟩ : ∃ w4 : World, w4 = wr := ⟨_, rfl⟩
              have q4 := hb3
              have gne : g ≠ wp.heap.size := by omega
              have h40 : wp.heap.size < w4.heap.size := hV.out.lt
              have hg0 : Hid (Blk w4 g T (mixV (s8L s0) (s8L s) 0 others)) := by have := hg3.out; rw [mixV_0 s0 (s8L s) others] at this; exact this
              have hV4 := hV
              have g40 : w4.grownBy w4 (some g) := World.grownBy.refl _ _
              replace g40 := hid_mk g40
              replace q4 := hid_mk q4
              go_wp2
              rw [show ((64 : Nat) : Int) = (64 : Int) from rfl]
              go_loopw [186] (fun i wr => ∃ k : Nat, k ≤ 8 ∧ i = .int .i64 k ∧ Hid (w4.grownBy wr (some g)) ∧ Hid (Blk wr wp.heap.size 65 (s8V s)) ∧ Hid (Blk wr g T (mixV (s8L s0) (s8L s) k others))) (fun i _ => 8 - (intOf i).toNat)
              case atStart => exact ⟨0, by omega, rfl, g40, hV4, hg0⟩
              case round =>
                clear hV hb3 hK3 hW3 hg3 hg0 g40 hV4
                obtain ⟨k, hk, rfl, g5, hV, hG⟩ := hrel
                have hl5 : g < wr.heap.size := hG.out.lt
                by_cases hlt : k < 8
                · have c1 : wr.cell? ⟨g, k, none⟩ = some (v32 ((s8L s0).getD k 0)) := (hG.out.cell k).trans (mixV_at _ _ hlt _)
                  have c2 : wr.cell? ⟨wp.heap.size, k, none⟩ = some (.int .u32 ((s8L s).getD k 0)) := (hV.out.cell k).trans (s8V_at _ hlt)
                  have f1 := hG.out.frozen k
                  have i0 : (0 : Int) ≤ k := by omega
                  have i1 : (k : Int) < 8 := by omega
                  unfold v32 at c1
                  obtain ⟨x, hx⟩ : ∃ x, (s8L s0).getD k 0 = x := ⟨_, rfl⟩
                  obtain ⟨y, hy⟩ : ∃ x, (s8L s).getD k 0 = x := ⟨_, rfl⟩
                  rw [hx] at c1
                  rw [hy] at c2
                  replace hx := hid_mk hx
                  replace hy := hid_mk hy
                  go_wp2_with fail
                  go_still_tail 11, (by kernel_rfl)
                  change wpList _ _ _ _ _ wr.drew
                  go_wp2
                  go_roundw
                  case rel =>
                    have hset := mixV_set (s8L s0) (s8L s) hlt others
                    rw [hx.out, hy.out] at hset
                    refine ⟨k + 1, by omega, by go_num, gb_drew (gb_set g5.out k _), hV.out.far (p := ⟨g, k, none⟩) (fun e => gne e.symm) _, ?_⟩
                    have := hG.out.set_ k (v32 ((x + y) % 4294967296))
                    rw [hset] at this
                    exact this
                  case measure => simp [intOf]; omega
                · obtain rfl : 8 = k := by omega
                  go_wp2
                  refine ends_end hQ (results_none rfl _ _ _) rfl ?_
                  refine ⟨rfl, ?_, ?_⟩
                  · exact gb_trans (gb_below (qr.trans (q4.out.mono qr.size))) g5.out
                  · have := hG.out
                    rw [mixV_8, hs.out] at this
                    exact this
end Go.Proofs.Ytngaeencnklbdaa
