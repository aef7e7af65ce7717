/-
  WHAT IS PROVED HERE: append to a byte row of the call's own, for walks: bytes written out, another row, a string. Condition: the sizes that the laws name.
-/
import Derived.Test.YtngaeencnklbdaaMem
import Derived.Lib.AppendStr
namespace Go.Proofs.Ytngaeencnklbdaa
open Go.RowKit

theorem byteI : (Try.prog.info? 5).map (fun i => (i.zero, i.size, i.bytes)) = some (some (.int .u8 0), 1, 1) := by kernel_rfl
theorem byte_one1 (l : List UInt8) : ∀ u ∈ Lib.byteCells l, u.oneCell' = true := by
  intro u hu
  unfold Lib.byteCells at hu
  simp only [List.mem_map] at hu
  obtain ⟨c, _, rfl⟩ := hu
  rfl
theorem bc_drop (l : List UInt8) (k : Nat) : Lib.byteCells (l.drop k) = (Lib.byteCells l).drop k := by unfold Lib.byteCells; rw [List.map_drop]
theorem bc_len (l : List UInt8) : (Lib.byteCells l).length = l.length := by unfold Lib.byteCells; rw [List.length_map]
/-- the boxes of other types stay -/
def BoxesStay (e : TypeId) (w w' : World) : Prop := ∀ g t cs, Blk w g t cs → e ≠ t → Blk w' g t cs
theorem BoxesStay.of_grown {e : TypeId} {base size n : Nat} {v : Value} {xs : List Value} {w w' : World} (h : w.ownsRow base e size v n xs) (hg : w.grownBy w' v.ownBlock) : BoxesStay e w w' :=
  fun _ _ _ hk hne => hk.grown hg (own_ne h hk hne)
theorem BoxesStay.alloc (e : TypeId) (w : World) (o : Obj) : BoxesStay e w (w.alloc o) := fun _ _ _ hk _ => hk.alloc o
theorem BoxesStay.trans {e : TypeId} {a b c : World} (h : BoxesStay e a b) (k : BoxesStay e b c) : BoxesStay e a c := fun g t cs hk hne => k g t cs (h g t cs hk hne) hne
/-- a byte row of the call's own (its blocks from where the heap of W ended) -/
def Own (W w : World) (v : Value) (n : Nat) (l : List UInt8) : Prop := w.ownsRow W.heap.size 5 1 v n (Lib.byteCells l)
section
variable {W w w' : World} {v : Value} {n : Nat} {l : List UInt8}
theorem Own.slice (h : Own W w v n l) : ∃ A c, v = .slice A n c ∧ n ≤ c ∧ c ≤ maxLen := own_slice h
theorem Own.len (h : Own W w v n l) : l.length = n := by have := h.1; rw [bc_len] at this; omega
theorem Own.nil : Own W w (.slice none 0 0) 0 [] := World.ownsRow_nil _ _ _ _
theorem Own.reads {A : Option Addr} {c B : Nat} (h : Own W w (.slice A n c) n l) : Reads w B 5 1 A n (Lib.byteCells l) := Reads.of_own h
theorem Own.alloc (h : Own W w v n l) (o : Obj) : Own W (w.alloc o) v n l := World.ownsRow.alloc h o
theorem Own.drew (h : Own W w v n l) : Own W w.drew v n l := World.ownsRow.drew h
end
section
variable {P : Program} {ops : Array Oper} {rest : List Oper} {o : Oper} {a : Act} {Q : Exit → Act → World → Prop}
theorem wpList_append_row (hgd : o.guard = none) (s x : Operand) (t : TypeId)
    (ho : o.op = .call { callee := .builtin .append, args := #[s, x], argTypes := #[t, t] })
    (i : TypeInfo) (ht : P.underlying t = some (.slice 5)) (hi : P.info? 5 = some i) (hz : i.zero = some (.int .u8 0)) (hsize : i.size = 1) (hby : i.bytes = 1)
    {W w : World} (hb : Below W.heap.size W w) (v : Value) (n : Nat) (l : List UInt8) (hs : a.eval s = v) (hown : Own W w v n l)
    (B : Nat) (A : Option Addr) (m c : Nat) (news : List UInt8) (hx : a.eval x = .slice A m c) (hr : Reads w B 5 1 A m (Lib.byteCells news)) (hlen : n + m ≤ 4398046511104)
    (h : ∀ A' c' w', Own W w' (.slice A' (n + m) c') (n + m) (l ++ news) → n + m ≤ c' → Below W.heap.size W w' → BoxesStay 5 w w' → w.heap.size ≤ w'.heap.size → wpList P ops Q rest (a.put o.dst (.slice A' (n + m) c')) w') : wpList P ops Q (o :: rest) a w := by
  refine wpList_append_any w hgd s x t ho W.heap.size 5 i (.int .u8 0) 1 1 ht hi hz hsize hby rfl (by omega) v n _ hs hown B A m c _ hx hr (byte_one1 _) (by unfold maxLen; omega) (by omega) hb.size ?_
  intro v' w' hown' hg hat
  obtain ⟨A', c', rfl, h1, h2⟩ := own_slice hown'
  exact h A' c' w' (by unfold Own; rw [Lib.byteCells_append]; exact hown') h1 (hb.grown hg hb.size (fun k hk => (World.ownsRow.lt hown k hk).1)) (BoxesStay.of_grown hown hg) hg.size
theorem wpList_append_bytes (hgd : o.guard = none) (s x : Operand) (t : TypeId)
    (ho : o.op = .call { callee := .builtin .append, args := #[s, x], argTypes := #[t, t] })
    (i : TypeInfo) (ht : P.underlying t = some (.slice 5)) (hi : P.info? 5 = some i) (hz : i.zero = some (.int .u8 0)) (hsize : i.size = 1) (hby : i.bytes = 1)
    {W w : World} (hb : Below W.heap.size W w) (v : Value) (n : Nat) (l : List UInt8) (hs : a.eval s = v) (hown : Own W w v n l)
    (news : List UInt8) (m c : Nat) (hm : news.length = m) (cs : Array Value) (hcs : cs = (Lib.byteCells news).toArray) (hx : a.eval x = .slice (some ⟨w.heap.size, 0, none⟩) m c) (hlen : n + m ≤ 4398046511104)
    (h : ∀ A' c' w', Own W w' (.slice A' (n + m) c') (n + m) (l ++ news) → n + m ≤ c' → Below W.heap.size W w' → BoxesStay 5 w w' → w.heap.size ≤ w'.heap.size → wpList P ops Q rest (a.put o.dst (.slice A' (n + m) c')) w') : wpList P ops Q (o :: rest) a (w.alloc (.cells cs 5)) := by
  subst hcs
  have hr := reads_new w (Lib.byteCells news).toArray 5 m 1 W.heap.size (by rw [List.size_toArray, bc_len]; omega)
  refine wpList_append_row hgd s x t ho i ht hi hz hsize hby (hb.alloc hb.size _) v n l hs (hown.alloc _) W.heap.size _ m c news hx hr hlen ?_
  intro A' c' w' h1 h2 h3 h4 h5
  exact h A' c' w' h1 h2 h3 ((BoxesStay.alloc _ w _).trans h4) (by rw [World.size_alloc] at h5; omega)
theorem wpList_append_str (hgd : o.guard = none) (s x : Operand) (t u : TypeId)
    (ho : o.op = .call { callee := .builtin .append, args := #[s, x], argTypes := #[t, u] })
    (i : TypeInfo) (ht : P.underlying t = some (.slice 5)) (hu : P.underlying u = some .string) (hi : P.info? 5 = some i) (hz : i.zero = some (.int .u8 0)) (hsize : i.size = 1) (hby : i.bytes = 1)
    {W w : World} (hb : Below W.heap.size W w) (v : Value) (n : Nat) (l : List UInt8) (hs : a.eval s = v) (hown : Own W w v n l)
    (b : ByteArray) (hx : a.eval x = .string b) (hlen : n + b.size ≤ 4398046511104)
    (h : ∀ A' c' w', Own W w' (.slice A' (n + b.size) c') (n + b.size) (l ++ b.data.toList) → n + b.size ≤ c' → Below W.heap.size W w' → BoxesStay 5 w w' → w.heap.size ≤ w'.heap.size → wpList P ops Q rest (a.put o.dst (.slice A' (n + b.size) c')) w') : wpList P ops Q (o :: rest) a w := by
  refine Lib.wpList_append_own_string w hgd s x t u ho W.heap.size 5 i ht hu hi hz hsize hby v n _ hs hown b hx (by unfold maxLen; omega) (by omega) hb.size ?_
  intro v' w' hown' hg _
  obtain ⟨A', c', rfl, h1, h2⟩ := own_slice hown'
  exact h A' c' w' (by unfold Own; rw [Lib.byteCells_append]; exact hown') h1 (hb.grown hg hb.size (fun k hk => (World.ownsRow.lt hown k hk).1)) (BoxesStay.of_grown hown hg) hg.size
end
end Go.Proofs.Ytngaeencnklbdaa
