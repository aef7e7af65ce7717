/-
  WHAT IS PROVED HERE: the plain function that journal.Merge computes, what upTo hands back, small lemmas on readings. Conditions: slices of at most 2^47 records.
-/
import Derived.Test.YthaddhdlmlnclaaJrn5
import Derived.Deep.RegionLawGrows
namespace Go.Proofs.Ythaddhdlmlnclaa
open Go.RowKit

/-- what a body's post asks at a return: the post itself under a name that the walk does not open -/
def Ends (P : Program) (fn : Func) (R : Ending → World → Prop) (Q : Exit → Act → World → Prop) : Prop :=
  ∀ (a : Act) (w : World) (v : Value), a.defers = [] → (results fn a.tmps).run P w = .ok v w → R (.returned v) w → Q .ret a w ∧ Q .normal a w
section
variable {P : Program} {fn : Func} {R : Ending → World → Prop} {Q : Exit → Act → World → Prop} {a : Act} {w : World} {v : Value}
theorem ends_ret (hQ : Hid (Ends P fn R Q)) (hr : (results fn a.tmps).run P w = .ok v w) (hd : a.defers = []) (hR : R (.returned v) w) : Q .ret a w := (hQ.out a w v hd hr hR).1
theorem ends_end (hQ : Hid (Ends P fn R Q)) (hr : (results fn a.tmps).run P w = .ok v w) (hd : a.defers = []) (hR : R (.returned v) w) : Q .normal a w := (hQ.out a w v hd hr hR).2
theorem calls_of_wpQ {f : FuncId} {c : Code} {args : Array Value}
    (hf : P.funcs[f]? = some fn) (hb : fn.body = some c)
    (h : ∀ Q, Hid (Ends P fn R Q) → c.wp P Q { tmps := args ++ Array.replicate (fn.ntmps - args.size) undef, defers := [] } w) :
    Calls P f args w R := calls_of_wp hf hb (h _ (fun _ _ v hd hr hR => ⟨⟨hd, v, hr, hR⟩, ⟨hd, v, hr, hR⟩⟩))
end
/-- the first that is not there -/
def fdJ (l : Lg) (at' : Int) (i : Nat) : List Rec → Option Nat
  | [] => none
  | r :: rs => if at' + 1 + i ≤ l.base ∨ termJ l (at' + 1 + i) = some r.t then fdJ l at' (i + 1) rs else some i
structure Mg where
  l : Lg
  n : Int
  f : Bool
  e : Int
def mergeJ (l : Lg) (at' term : Int) (more : List Rec) : Mg :=
  if rightJ l && rightJ ⟨at', term, more⟩ then
    if l.base ≤ at' ∧ termJ l at' ≠ some term then ⟨l, min (lastJ l) (at' - 1), false, 0⟩
    else match fdJ l at' 0 more with
      | none => ⟨l, max l.base (at' + more.length), true, 0⟩
      | some i =>
        let rs := l.rs.take (at' + i - l.base).toNat ++ more.drop i
        if 200 < rs.length then ⟨zeroL, 0, false, 130⟩
        else if rightJ ⟨l.base, l.bt, rs⟩ then ⟨⟨l.base, l.bt, rs⟩, max l.base (at' + more.length), true, 0⟩
        else ⟨zeroL, 0, false, 1⟩
  else ⟨zeroL, 0, false, 1⟩
theorem mergeJ_fits {l : Lg} {at' term : Int} {more : List Rec} (hr : rightJ l = true) (hr2 : rightJ ⟨at', term, more⟩ = true) (ga : ¬ (l.base ≤ at' ∧ termJ l at' ≠ some term)) :
    mergeJ l at' term more = (match fdJ l at' 0 more with
      | none => ⟨l, max l.base (at' + more.length), true, 0⟩
      | some i =>
        let rs := l.rs.take (at' + i - l.base).toNat ++ more.drop i
        if 200 < rs.length then ⟨zeroL, 0, false, 130⟩
        else if rightJ ⟨l.base, l.bt, rs⟩ then ⟨⟨l.base, l.bt, rs⟩, max l.base (at' + more.length), true, 0⟩
        else ⟨zeroL, 0, false, 1⟩ : Mg) := by unfold mergeJ; rw [hr, hr2]; simp only [Bool.and_self, if_true]; rw [if_neg ga]
theorem reads_cells {w : World} {B size n : Nat} {e : TypeId} {A : Option Addr} {xs : List Value} (h : Reads w B e size A n xs) : ∀ b, A = some b → ∀ j u, xs[j]? = some u → w.cell? (b.add j) = some u := by
  intro b hb j u hu
  rcases Nat.eq_zero_or_pos n with h0 | h0
  · subst h0
    have hx : xs = [] := List.eq_nil_of_length_eq_zero (by simpa using h.1)
    subst hx
    simp at hu
  · obtain ⟨b', o, e, _, _, hc⟩ := h.2 h0
    rw [hb] at e
    injection e with e
    subst e
    rw [add_plain]
    exact hc j u hu
theorem reads_none {w : World} {B size n : Nat} {e : TypeId} {A : Option Addr} {xs : List Value} (h : Reads w B e size A n xs) : A = none → n = 0 := by
  rintro rfl
  rcases Nat.eq_zero_or_pos n with h0 | h0
  · exact h0
  · obtain ⟨_, _, e, _⟩ := h.2 h0
    cases e
def RetMg (B : Nat) (w : World) (m : Mg) (e : Ending) (w' : World) : Prop :=
  ∃ A n cap, e = .returned (.tuple #[logV m.l A n cap, .int .i64 m.n, .bool m.f, .int .i64 m.e]) ∧ Recs w' B A n m.l.rs ∧ n ≤ cap ∧ cap ≤ maxLen ∧ Below w.heap.size w w'
theorem run_slice_upto3 {P : Program} (w : World) (t e : TypeId) (ht : P.underlying t = some (.slice e)) (i : TypeInfo) (hi : P.info? e = some i) (A : Option Addr) (n cap : Nat) (x : Int) (h0 : 0 ≤ x) (h1 : x ≤ cap) :
    (Instr.slice t (.slice A n cap) none (some (.int .i64 x)) (some (.int .i64 x))).run P w = .ok (.slice A x.toNat x.toNat) w := by
  simp [Instr.slice, Instr.sliceBounds, run_underlying ht, sizeOf, typeInfo, hi, go_sem, h0, h1]
  intro h; omega
set_option maxHeartbeats 400000 in
theorem upTo_any (l : Lg) (at' : Int) (A : Option Addr) (n cap : Nat) (w : World) (hm : n ≤ 140737488355328) (hcap : n ≤ cap) (h0 : 0 ≤ l.base) (hb : l.base ≤ 1073741824) (h1 : l.base ≤ at') (h2 : at' ≤ l.base + n) :
    Calls Try.prog 34 #[logV l A n cap, .int .i64 at'] w fun e w' => e = .returned (.slice A (at' - l.base).toNat (at' - l.base).toNat) ∧ Below w.heap.size w w' := by
  obtain ⟨i0, hi0, hz0, hz1, hz2⟩ := info_parts recInfo
  have e1 := fun w => run_slice_upto3 (P := Try.prog) w 22 47 Try.underlying22 i0 hi0 A n cap (at' - l.base) (by omega) (by omega)
  obtain ⟨base, bt, rs⟩ := l
  unfold logV
  dsimp only at *
  clear hi0 hz0 hz1 hz2
  go_enter Try.func34, Try.ntmps34
  go_wp2
  go_ret
  exact ⟨rfl, by go_grown⟩
theorem recs_append {w : World} {B n : Nat} {A : Option Addr} {xs ys : List Rec} (h : Reads w B 47 3 A n (cellsOf xs ++ cellsOf ys)) : Recs w B A n (xs ++ ys) := by
  unfold Recs cellsOf at *
  rw [List.flatMap_append]
  exact h
end Go.Proofs.Ythaddhdlmlnclaa
