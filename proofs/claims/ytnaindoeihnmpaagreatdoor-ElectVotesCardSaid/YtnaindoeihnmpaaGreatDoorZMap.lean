/-
  WHAT IS PROVED HERE: a map with int keys that the call makes, whatever its elements: what it holds is told by a function; its laws at the operations. No condition.
-/
import Derived.Test.YtnaindoeihnmpaaGreatDoorZGJrn
import Derived.Maps.Own
import Derived.Maps.OwnOps
import Derived.Maps.OwnSet
import Derived.Maps.Views
namespace Go.Proofs.YtnaindoeihnmpaaGreatDoor
open Go.RowKit Go.Maps Go

/-- every value reads as itself -/
def readV (v : Value) : Option (DataW Value × List MemPlace) := some (.held v, [])
/-- block b is a map of at most n entries, keyed by ints, which holds f -/
def MapI (P : Program) (w : World) (k : TypeId) (b n : Nat) (f : Int → Option Value) : Prop :=
  ∃ D : DataW Value, w.ownsMap P k readV b n D ∧ IsMap D ∧ ∀ i, Maps.has D (.int .i64 i) = (f i).isSome ∧ ∀ z, D.atKey (.int .i64 i) z = (match f i with | some v => .held v | none => z)
def updI (f : Int → Option Value) (i : Int) (v : Value) : Int → Option Value := fun j => if j = i then some v else f j
section
variable {P : Program} {w w' : World} {k e t : TypeId} {b n : Nat} {f : Int → Option Value}
theorem MapI.made (w : World) (P : Program) (k : TypeId) : MapI P (w.alloc (.map #[] 0)) k w.heap.size 0 (fun _ => none) :=
  ⟨_, World.ownsMap_made w P k readV, ⟨_, rfl⟩, fun _ => ⟨rfl, fun _ => rfl⟩⟩
theorem MapI.mono (h : MapI P w k b n f) {n' : Nat} (hn : n ≤ n') : MapI P w k b n' f := by
  obtain ⟨D, h1, h2⟩ := h
  exact ⟨D, h1.mono hn, h2⟩
theorem MapI.lt (h : MapI P w k b n f) : b < w.heap.size := by
  obtain ⟨D, h1, _⟩ := h
  exact h1.lt
theorem MapI.to (h : MapI P w k b n f) (hb : Below w.heap.size w w') : MapI P w' k b n f := by
  obtain ⟨D, h1, h2⟩ := h
  have hlt := h1.lt
  obtain ⟨es, clock, hh, r⟩ := h1
  exact ⟨D, ⟨es, clock, (hb.block b hlt).trans hh, r⟩, h2⟩
theorem MapI.far (h : MapI P w k b n f) {a : Addr} (ha : b ≠ a.block) (u : Value) : MapI P (w.setCell a u) k b n f := by
  obtain ⟨D, h1, h2⟩ := h
  exact ⟨D, h1.setCell ha u, h2⟩
theorem MapI.alloc (h : MapI P w k b n f) (o : Obj) : MapI P (w.alloc o) k b n f := by
  obtain ⟨D, h1, h2⟩ := h
  exact ⟨D, h1.alloc o, h2⟩
theorem MapI.drew (h : MapI P w k b n f) : MapI P w.drew k b n f := h
theorem MapI.ne_blk (h : MapI P w k b n f) {g : Nat} {t' : TypeId} {cs : Array Value} (hg : Blk w g t' cs) : b ≠ g := by
  rintro rfl
  obtain ⟨D, ⟨es, clock, hh, _⟩, _⟩ := h
  unfold Blk at hg
  rw [hg] at hh
  cases hh
end
section
variable {P : Program} {w : World} {k e t : TypeId} {b n : Nat} {f : Int → Option Value} {ops : Array Oper} {rest : List Oper} {o : Oper} {a : Act} {Q : Exit → Act → World → Prop}
theorem key_of {i : Int} (hk : P.underlying k = some (.int .i64)) (hw : (Lit.int .i64 i).wf = true) : keyOf P k (.int .i64 i) = some (.int .i64 i) := keyOf_int_mk hk hw
theorem key_lit (i : Int) : WideAt.IsKeyLit (.int .i64 i) := by first | trivial | exact .inl ⟨_, _, rfl⟩ | (unfold WideAt.IsKeyLit; simp)
theorem held_of {D : DataW Value} {v z : Value} {i : Int} {ps : List MemPlace} (hD : ∀ z, D.atKey (.int .i64 i) z = (match f i with | some v => .held v | none => z)) (h : readV v = some (D.atKey (.int .i64 i) (.held z), ps)) : v = (f i).getD z := by
  unfold readV at h
  rw [hD] at h
  simp only [Option.some.injEq, Prod.mk.injEq] at h
  cases hf : f i with
  | none => rw [hf] at h; simpa using h.1
  | some u => rw [hf] at h; simpa using h.1
theorem mapI_lookup_ok (hg : o.guard = none) (m x : Operand) (t : TypeId) (hop : o.op = Op.lookup t m x true) (k e : TypeId) (hk : P.underlying k = some (.int .i64)) (ht : P.underlying t = some (.map k e))
    {z : Value} (hz : (zeroValue e).run P w = .ok z w) (b n : Nat) (f : Int → Option Value) (hm : a.eval m = .map (some b)) (h : MapI P w k b n f) (i : Int) (hx : a.eval x = .int .i64 i) (hw : (Lit.int .i64 i).wf = true)
    (u : Value) (y : Bool) (hu : (f i).getD z = u) (hy : (f i).isSome = y) (hK : wpList P ops Q rest (a.put o.dst (.tuple #[u, .bool y])) w) : wpList P ops Q (o :: rest) a w := by
  obtain ⟨D, h1, _, hD⟩ := h
  refine wpList_lookup_own_ok w hg m x t hop k e (int_keyed hk) ht readV hz (.held z) [] rfl b n D hm h1 _ _ hx (key_of hk hw) (fun v ps hv => ?_)
  rw [held_of (hD i).2 hv, (hD i).1, hu, hy]
  exact hK
theorem mapI_lookup (hg : o.guard = none) (m x : Operand) (t : TypeId) (hop : o.op = Op.lookup t m x false) (k e : TypeId) (hk : P.underlying k = some (.int .i64)) (ht : P.underlying t = some (.map k e))
    {z : Value} (hz : (zeroValue e).run P w = .ok z w) (b n : Nat) (f : Int → Option Value) (hm : a.eval m = .map (some b)) (h : MapI P w k b n f) (i : Int) (hx : a.eval x = .int .i64 i) (hw : (Lit.int .i64 i).wf = true)
    (u : Value) (hu : (f i).getD z = u) (hK : wpList P ops Q rest (a.put o.dst u) w) : wpList P ops Q (o :: rest) a w := by
  obtain ⟨D, h1, _, hD⟩ := h
  refine wpList_plain hg fun K' hK' => ?_
  obtain ⟨v, ps, hrun, hv⟩ := h1.lookup (int_keyed hk) ht hz (zd := .held z) (zp := []) rfl (key_of hk hw)
  unfold Oper.wp
  simp [execOp, hop, hm, hx, hrun, Result.andThen]
  rw [held_of (hD i).2 hv, hu]
  exact hK' _ _ hK
theorem mapI_update (hg : o.guard = none) (m x v : Operand) (t : TypeId) (hop : o.op = Op.mapUpdate t m x v) (k e : TypeId) (hk : P.underlying k = some (.int .i64)) (ht : P.underlying t = some (.map k e))
    (b n : Nat) (f : Int → Option Value) (hm : a.eval m = .map (some b)) (h : MapI P w k b n f) (hn : n < maxLen) (i : Int) (hx : a.eval x = .int .i64 i) (hw : (Lit.int .i64 i).wf = true) (u : Value) (hv : a.eval v = u)
    (hK : ∀ w', MapI P w' k b (n + 1) (updI f i u) → w.grownBy w' (some b) → wpList P ops Q rest (a.put o.dst undef) w') : wpList P ops Q (o :: rest) a w := by
  obtain ⟨D, h1, hM, hD⟩ := h
  refine wpList_mapUpdate_own w hg m x v t hop k e (int_keyed hk) ht readV b n D hm h1 hn _ _ _ hx hv (key_of hk hw) _ [] rfl (fun w' h2 h3 => hK w' ⟨_, h2, hM.put _ _, fun j => ?_⟩ h3)
  by_cases hj : j = i
  · subst hj
    unfold updI
    rw [if_pos rfl]
    exact ⟨Maps.has_put_same hM (key_lit _) _, fun z => Maps.atKey_put_same hM (key_lit _) _ _⟩
  · have hne : (Lit.int .i64 j) ≠ (Lit.int .i64 i) := fun e => hj (by injection e)
    unfold updI
    rw [if_neg hj]
    exact ⟨(Maps.has_put_other hne _).trans (hD j).1, fun z => (Maps.atKey_put_other hne _ _).trans ((hD j).2 z)⟩
end
end Go.Proofs.YtnaindoeihnmpaaGreatDoor
