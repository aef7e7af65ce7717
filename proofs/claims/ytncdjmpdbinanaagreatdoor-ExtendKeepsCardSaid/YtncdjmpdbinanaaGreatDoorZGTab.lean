/-
  WHAT IS PROVED HERE: the place that a majority has: the middle of what the voters have, sorted, is the greatest place that more than half of them have. No program in sight. No condition.
  WHAT IS PROVED HERE: a number's text, as strconv's Itoa and FormatInt hand it back; sums of texts. Condition: the variable internal/strconv.uint64pow10 holds the powers of ten.
  WHAT IS PROVED HERE: a map with int keys that the call makes, whatever its elements: what it holds is told by a function; its laws at the operations. No condition.
-/
import Derived.Lib.Hide
import Derived.Test.YtncdjmpdbinanaaGreatDoorZGJrn
import Derived.Test.YtncdjmpdbinanaaGreatDoorZShelf
import Derived.Lib.AppendIntMem
import Derived.Laws.Concat
import Derived.Maps.Own
import Derived.Maps.OwnOps
import Derived.Maps.OwnSet
import Derived.Maps.Views
namespace Go.Proofs.YtncdjmpdbinanaaGreatDoor
open Go.RowKit

structure Pr where
  id : Int
  nx : Int
  mt : Int
/-- the greatest place that is told of a voter -/
def mostF (v : Int) : List Pr → Int → Int
  | [], acc => acc
  | p :: ps, acc => mostF v ps (if p.id = v then max acc p.mt else acc)
/-- what a voter has -/
def haveV (self last : Int) (ps : List Pr) (v : Int) : Int := min (if v = self then last else mostF v ps 0) last
/-- has a voter a place? (the reference) -/
def hasF (v p : Int) : List Pr → Bool
  | [] => decide (p ≤ 0)
  | x :: ps => if x.id = v ∧ p ≤ x.mt then true else hasF v p ps
def hasB (v p self last : Int) (ps : List Pr) : Bool := if v = self then decide (p ≤ last) else hasF v p ps
def cnt (p self last : Int) (ps : List Pr) (l : List Int) : Nat := l.countP fun v => hasB v p self last ps
/-- the reference: from a place down -/
def sureF (self last : Int) (ps : List Pr) (l : List Int) : Nat → Int
  | 0 => 0
  | k + 1 => if l.length - cnt ((k + 1 : Nat) : Int) self last ps l < cnt ((k + 1 : Nat) : Int) self last ps l then ((k + 1 : Nat) : Int) else sureF self last ps l k
def sorted (l : List Int) : List Int := l.mergeSort fun x y => decide (x ≤ y)

theorem most_ge (v : Int) : ∀ (ps : List Pr) (acc : Int), acc ≤ mostF v ps acc
  | [], _ => Int.le_refl _
  | p :: ps, acc => by
    unfold mostF
    have := most_ge v ps (if p.id = v then max acc p.mt else acc)
    split at this <;> split <;> omega
theorem has_most (v p : Int) : ∀ (ps : List Pr) (acc : Int), (p ≤ mostF v ps acc) ↔ (hasF v p ps = true ∧ 0 < p ∨ p ≤ acc ∨ (hasF v p ps = true ∧ p ≤ mostF v ps acc))
  | _, _ => by
    rename_i ps acc
    constructor
    · intro h
      by_cases hf : hasF v p ps = true
      · exact .inr (.inr ⟨hf, h⟩)
      · right; left
        induction ps generalizing acc with
        | nil => exact h
        | cons x ps ih =>
          unfold mostF at h
          unfold hasF at hf
          split at hf
          · simp at hf
          · rename_i hx
            have h1 := ih _ h hf
            split at h1
            · rename_i hid
              have : ¬ p ≤ x.mt := fun e => hx ⟨hid, e⟩
              omega
            · exact h1
    · rintro (⟨hf, hp⟩ | h | ⟨_, h⟩)
      · induction ps generalizing acc with
        | nil => simp [hasF] at hf; omega
        | cons x ps ih =>
          unfold mostF
          unfold hasF at hf
          split at hf
          · rename_i hx
            rw [if_pos hx.1]
            have := most_ge v ps (max acc x.mt)
            omega
          · exact ih _ hf
      · exact Int.le_trans h (most_ge v ps acc)
      · exact h
theorem has_have {p self last : Int} (ps : List Pr) (v : Int) (h1 : 0 < p) (h2 : p ≤ last) : hasB v p self last ps = decide (p ≤ haveV self last ps v) := by
  unfold hasB haveV
  split
  · rw [Int.min_self]
  · rw [Bool.eq_iff_iff, decide_eq_true_eq]
    have h := has_most v p ps 0
    constructor
    · intro hf
      have := h.2 (.inl ⟨hf, h1⟩)
      omega
    · intro hp
      rcases h.1 (by omega) with ⟨hf, _⟩ | h3 | ⟨hf, _⟩
      · exact hf
      · omega
      · exact hf
/-- of a list that rises: how many are at least p -/
theorem count_high {p : Int} : ∀ (l : List Int) (j : Nat), l.Pairwise (· ≤ ·) → (x : Int) → l[j]? = some x → p ≤ x → l.length - j ≤ l.countP fun v => decide (p ≤ v)
  | [], _, _, _, h, _ => by simp at h
  | y :: l, 0, hp, x, h, hx => by
    rw [List.getElem?_cons_zero] at h
    injection h with h
    subst h
    have hall : ∀ v ∈ y :: l, decide (p ≤ v) = true := by
      intro v hv
      rcases List.mem_cons.1 hv with rfl | hv
      · exact decide_eq_true hx
      · have := (List.pairwise_cons.1 hp).1 v hv
        exact decide_eq_true (by omega)
    rw [List.countP_eq_length.2 hall]
    omega
  | y :: l, j + 1, hp, x, h, hx => by
    have ih := count_high l j (List.pairwise_cons.1 hp).2 x (by simpa using h) hx
    rw [List.countP_cons, List.length_cons]
    omega
theorem count_low {p : Int} : ∀ (l : List Int) (j : Nat), l.Pairwise (· ≤ ·) → (x : Int) → l[j]? = some x → x < p → (l.countP fun v => decide (p ≤ v)) ≤ l.length - (j + 1)
  | [], _, _, _, h, _ => by simp at h
  | y :: l, 0, hp, x, h, hx => by
    rw [List.getElem?_cons_zero] at h
    injection h with h
    subst h
    rw [List.countP_cons, if_neg (by simp; omega), List.length_cons]
    have := List.countP_le_length (p := fun v => decide (p ≤ v)) (l := l)
    omega
  | y :: l, j + 1, hp, x, h, hx => by
    have ih := count_low l j (List.pairwise_cons.1 hp).2 x (by simpa using h) hx
    have hl : j < l.length := by
      rw [List.getElem?_cons_succ] at h
      exact (List.getElem?_eq_some_iff.1 h).1
    have hyx : y ≤ x := (List.pairwise_cons.1 hp).1 x (List.mem_of_getElem? (by simpa using h))
    rw [List.countP_cons, if_neg (by simp; omega), List.length_cons]
    omega
theorem sorted_perm (l : List Int) : (sorted l).Perm l := List.mergeSort_perm l _
theorem sorted_pair (l : List Int) : (sorted l).Pairwise (· ≤ ·) := by
  have h := List.pairwise_mergeSort (le := fun x y : Int => decide (x ≤ y)) (fun a b c h1 h2 => by simp at *; omega) (fun a b => by simp; omega) l
  exact h.imp (by intro a b h; simpa using h)
theorem sure_eq (self last : Int) (ps : List Pr) (l : List Int) (m : Int) (hm : (sorted (l.map (haveV self last ps)))[(l.length - 1) / 2]? = some m) (h0 : 0 ≤ m) (hml : m ≤ last) :
    ∀ k : Nat, (k : Int) ≤ last → m ≤ k → sureF self last ps l k = m
  | 0, _, hk => by show (0 : Int) = m; omega
  | k + 1, hl, hk => by
    have hlen : (sorted (l.map (haveV self last ps))).length = l.length := by rw [(sorted_perm _).length_eq, List.length_map]
    have hcnt : cnt ((k + 1 : Nat) : Int) self last ps l = (sorted (l.map (haveV self last ps))).countP fun v => decide (((k + 1 : Nat) : Int) ≤ v) := by
      rw [(sorted_perm _).countP_eq, List.countP_map]
      unfold cnt
      congr 1
      funext v
      exact has_have ps v (by omega) hl
    have hpos : 0 < l.length := by
      rw [← hlen]
      have := (List.getElem?_eq_some_iff.1 hm).1
      omega
    unfold sureF
    by_cases hp : ((k + 1 : Nat) : Int) ≤ m
    · have hc := count_high _ _ (sorted_pair _) m hm hp
      rw [hlen] at hc
      rw [if_pos (by rw [hcnt]; omega)]
      omega
    · have hc := count_low (p := ((k + 1 : Nat) : Int)) _ _ (sorted_pair _) m hm (by omega)
      rw [hlen] at hc
      rw [if_neg (by rw [hcnt]; omega)]
      exact sure_eq self last ps l m hm h0 hml k (by omega) (by omega)
end Go.Proofs.YtncdjmpdbinanaaGreatDoor
namespace Go.Proofs.YtncdjmpdbinanaaGreatDoor
open Go.RowKit

/-- the library's table stands, now and behind whatever turns nothing below B -/
def TabB (B : Nat) (w : World) : Prop := ∀ w', Below B w w' → Lib.TabIs Tryz.prog w' "internal/strconv.uint64pow10" .u64 Lib.pow10Tab
/-- the library's table stands, now and behind any call that turns nothing -/
def Tab (w : World) : Prop := TabB w.heap.size w
theorem TabB.to {B : Nat} {w w' : World} (h : TabB B w) (hb : Below B w w') : TabB B w' := fun x hx => h x (hb.trans hx)
theorem TabB.more {B B' : Nat} {w : World} (h : TabB B w) (hB : B ≤ B') : TabB B' w := fun x hx => h x (hx.mono hB)
theorem Tab.to {w w' : World} (h : Tab w) (hb : Below w.heap.size w w') : Tab w' := fun x hx => h x (hb.trans (hx.mono hb.size))
theorem Tab.bel {w w' : World} (h : Tab w) (hb : Below w.heap.size w w') : TabB w.heap.size w' := fun x hx => h x (hb.trans hx)
theorem tab_of {w : World} (h : Lib.TabIs Tryz.prog w "internal/strconv.uint64pow10" .u64 Lib.pow10Tab) : Tab w := by
  intro w' hb
  unfold Lib.TabIs World.var? at *
  cases hg : (Tryz.prog.globalNamed "internal/strconv.uint64pow10") with
  | none => rw [hg] at h; cases h
  | some g =>
    rw [hg] at h
    simp only [Option.bind_some] at h ⊢
    have hlt : g < w.heap.size := by
      rcases Nat.lt_or_ge g w.heap.size with hlt | hge
      · exact hlt
      · rw [Array.getElem?_eq_none hge] at h; cases h
    rw [hb.block g hlt]
    exact h
def itB (n : Int) : ByteArray := ⟨(Lib.itoa n).toArray⟩
theorem ba_size (l : List UInt8) : (⟨l.toArray⟩ : ByteArray).size = l.length := by simp [ByteArray.size]
theorem it_size (n : Int) : (itB n).size = (Lib.itoa n).length := ba_size _
theorem cat_to {a b c : ByteArray} (he : a ++ b = c) (h : a.size + b.size ≤ 9223372036854775807) : ∀ w : World, (Op.stringOp .add a b).run Tryz.prog w = .ok (.string c) w := fun w => by rw [← he]; exact run_string_add_sum w a b h
theorem Itoa_any (n : Int) (w : World) (h0 : 0 ≤ n) (h1 : n ≤ 1073741824) (ht : Lib.TabIs Tryz.prog w "internal/strconv.uint64pow10" .u64 Lib.pow10Tab) : Calls Tryz.prog 172 #[.int .i64 n] w fun e w' => e = .returned (.string (itB n)) ∧ Below w.heap.size w w' := by
  refine (Tryz.strconv_Itoa n (by omega) (by omega) w ht).mono ?_
  rintro e w' ⟨rfl, k, os, rfl⟩
  exact ⟨rfl, Lib.below_grow _ w (Nat.le_refl _) k os⟩
theorem FormatInt_any (n : Int) (w : World) (h0 : 0 ≤ n) (h1 : n ≤ 1073741824) (ht : Lib.TabIs Tryz.prog w "internal/strconv.uint64pow10" .u64 Lib.pow10Tab) : Calls Tryz.prog 171 #[.int .i64 n, .int .i64 10] w fun e w' => e = .returned (.string (itB n)) ∧ Below w.heap.size w w' := by
  refine (Tryz.strconv_FormatInt_10 n (by omega) (by omega) w ht).mono ?_
  rintro e w' ⟨rfl, k, os, rfl⟩
  exact ⟨rfl, Lib.below_grow _ w (Nat.le_refl _) k os⟩
end Go.Proofs.YtncdjmpdbinanaaGreatDoor
namespace Go.Proofs.YtncdjmpdbinanaaGreatDoor
open Go.RowKit Go.Maps Go

/-- every value reads as itself -/
def readV (v : Value) : Option (DataW Value × List MemPlace) := some (.held v, [])
/-- block b is a map of at most n entries, keyed by ints, which holds f -/
def MapI (P : Program) (w : World) (k : TypeId) (b n : Nat) (f : Int → Option Value) : Prop :=
  ∃ D : DataW Value, w.ownsMap P k readV b n D ∧ IsMap D ∧ ∀ i, Maps.has D (.int .i64 i) = (f i).isSome ∧ ∀ z, D.atKey (.int .i64 i) z = (match f i with | some v => .held v | none => z)
def updI (f : Int → Option Value) (i : Int) (v : Value) : Int → Option Value := fun j => if j = i then some v else f j
section
variable {P : Program} {w w' : World} {k e t : TypeId} {b n : Nat} {f : Int → Option Value}
theorem MapI.made (w : World) (P : Program) (k : TypeId) : MapI P (w.alloc (.map #[] 0)) k w.heap.size 0 (fun _ => none) :=
  ⟨_, World.ownsMap_made w P k readV, ⟨_, rfl⟩, fun _ => ⟨rfl, fun _ => rfl⟩⟩
theorem MapI.mono (h : MapI P w k b n f) {n' : Nat} (hn : n ≤ n') : MapI P w k b n' f := by
  obtain ⟨D, h1, h2⟩ := h
  exact ⟨D, h1.mono hn, h2⟩
theorem MapI.lt (h : MapI P w k b n f) : b < w.heap.size := by
  obtain ⟨D, h1, _⟩ := h
  exact h1.lt
theorem MapI.to (h : MapI P w k b n f) (hb : Below w.heap.size w w') : MapI P w' k b n f := by
  obtain ⟨D, h1, h2⟩ := h
  have hlt := h1.lt
  obtain ⟨es, clock, hh, r⟩ := h1
  exact ⟨D, ⟨es, clock, (hb.block b hlt).trans hh, r⟩, h2⟩
theorem MapI.far (h : MapI P w k b n f) {a : Addr} (ha : b ≠ a.block) (u : Value) : MapI P (w.setCell a u) k b n f := by
  obtain ⟨D, h1, h2⟩ := h
  exact ⟨D, h1.setCell ha u, h2⟩
theorem MapI.alloc (h : MapI P w k b n f) (o : Obj) : MapI P (w.alloc o) k b n f := by
  obtain ⟨D, h1, h2⟩ := h
  exact ⟨D, h1.alloc o, h2⟩
theorem MapI.drew (h : MapI P w k b n f) : MapI P w.drew k b n f := h
theorem MapI.ne_blk (h : MapI P w k b n f) {g : Nat} {t' : TypeId} {cs : Array Value} (hg : Blk w g t' cs) : b ≠ g := by
  rintro rfl
  obtain ⟨D, ⟨es, clock, hh, _⟩, _⟩ := h
  unfold Blk at hg
  rw [hg] at hh
  cases hh
end
section
variable {P : Program} {w : World} {k e t : TypeId} {b n : Nat} {f : Int → Option Value} {ops : Array Oper} {rest : List Oper} {o : Oper} {a : Act} {Q : Exit → Act → World → Prop}
theorem key_of {i : Int} (hk : P.underlying k = some (.int .i64)) (hw : (Lit.int .i64 i).wf = true) : keyOf P k (.int .i64 i) = some (.int .i64 i) := keyOf_int_mk hk hw
theorem key_lit (i : Int) : WideAt.IsKeyLit (.int .i64 i) := by first | trivial | exact .inl ⟨_, _, rfl⟩ | (unfold WideAt.IsKeyLit; simp)
theorem held_of {D : DataW Value} {v z : Value} {i : Int} {ps : List MemPlace} (hD : ∀ z, D.atKey (.int .i64 i) z = (match f i with | some v => .held v | none => z)) (h : readV v = some (D.atKey (.int .i64 i) (.held z), ps)) : v = (f i).getD z := by
  unfold readV at h
  rw [hD] at h
  simp only [Option.some.injEq, Prod.mk.injEq] at h
  cases hf : f i with
  | none => rw [hf] at h; simpa using h.1
  | some u => rw [hf] at h; simpa using h.1
theorem mapI_lookup_ok (hg : o.guard = none) (m x : Operand) (t : TypeId) (hop : o.op = Op.lookup t m x true) (k e : TypeId) (hk : P.underlying k = some (.int .i64)) (ht : P.underlying t = some (.map k e))
    {z : Value} (hz : (zeroValue e).run P w = .ok z w) (b n : Nat) (f : Int → Option Value) (hm : a.eval m = .map (some b)) (h : MapI P w k b n f) (i : Int) (hx : a.eval x = .int .i64 i) (hw : (Lit.int .i64 i).wf = true)
    (u : Value) (y : Bool) (hu : (f i).getD z = u) (hy : (f i).isSome = y) (hK : wpList P ops Q rest (a.put o.dst (.tuple #[u, .bool y])) w) : wpList P ops Q (o :: rest) a w := by
  obtain ⟨D, h1, _, hD⟩ := h
  refine wpList_lookup_own_ok w hg m x t hop k e (int_keyed hk) ht readV hz (.held z) [] rfl b n D hm h1 _ _ hx (key_of hk hw) (fun v ps hv => ?_)
  rw [held_of (hD i).2 hv, (hD i).1, hu, hy]
  exact hK
theorem mapI_lookup (hg : o.guard = none) (m x : Operand) (t : TypeId) (hop : o.op = Op.lookup t m x false) (k e : TypeId) (hk : P.underlying k = some (.int .i64)) (ht : P.underlying t = some (.map k e))
    {z : Value} (hz : (zeroValue e).run P w = .ok z w) (b n : Nat) (f : Int → Option Value) (hm : a.eval m = .map (some b)) (h : MapI P w k b n f) (i : Int) (hx : a.eval x = .int .i64 i) (hw : (Lit.int .i64 i).wf = true)
    (u : Value) (hu : (f i).getD z = u) (hK : wpList P ops Q rest (a.put o.dst u) w) : wpList P ops Q (o :: rest) a w := by
  obtain ⟨D, h1, _, hD⟩ := h
  refine wpList_plain hg fun K' hK' => ?_
  obtain ⟨v, ps, hrun, hv⟩ := h1.lookup (int_keyed hk) ht hz (zd := .held z) (zp := []) rfl (key_of hk hw)
  unfold Oper.wp
  simp [execOp, hop, hm, hx, hrun, Result.andThen]
  rw [held_of (hD i).2 hv, hu]
  exact hK' _ _ hK
theorem mapI_update (hg : o.guard = none) (m x v : Operand) (t : TypeId) (hop : o.op = Op.mapUpdate t m x v) (k e : TypeId) (hk : P.underlying k = some (.int .i64)) (ht : P.underlying t = some (.map k e))
    (b n : Nat) (f : Int → Option Value) (hm : a.eval m = .map (some b)) (h : MapI P w k b n f) (hn : n < maxLen) (i : Int) (hx : a.eval x = .int .i64 i) (hw : (Lit.int .i64 i).wf = true) (u : Value) (hv : a.eval v = u)
    (hK : ∀ w', MapI P w' k b (n + 1) (updI f i u) → w.grownBy w' (some b) → wpList P ops Q rest (a.put o.dst undef) w') : wpList P ops Q (o :: rest) a w := by
  obtain ⟨D, h1, hM, hD⟩ := h
  refine wpList_mapUpdate_own w hg m x v t hop k e (int_keyed hk) ht readV b n D hm h1 hn _ _ _ hx hv (key_of hk hw) _ [] rfl (fun w' h2 h3 => hK w' ⟨_, h2, hM.put _ _, fun j => ?_⟩ h3)
  by_cases hj : j = i
  · subst hj
    unfold updI
    rw [if_pos rfl]
    exact ⟨Maps.has_put_same hM (key_lit _) _, fun z => Maps.atKey_put_same hM (key_lit _) _ _⟩
  · have hne : (Lit.int .i64 j) ≠ (Lit.int .i64 i) := fun e => hj (by injection e)
    unfold updI
    rw [if_neg hj]
    exact ⟨(Maps.has_put_other hne _).trans (hD j).1, fun z => (Maps.atKey_put_other hne _ _).trans ((hD j).2 z)⟩
end
end Go.Proofs.YtncdjmpdbinanaaGreatDoor
