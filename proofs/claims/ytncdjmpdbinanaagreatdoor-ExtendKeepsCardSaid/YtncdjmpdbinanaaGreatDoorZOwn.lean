/-
  WHAT IS PROVED HERE: rows of the call's own whose elements are one cell each, a mark behind the last cell allowed ('[]byte(s)' lays one): append onto them, for walks. Condition: the sizes that the laws name.
-/
import Derived.Test.YtncdjmpdbinanaaGreatDoorZGMem
import Derived.Laws.IdiomStrings
import Derived.Lib.FrozenHead
namespace Go.Proofs.YtncdjmpdbinanaaGreatDoor
open Go.RowKit

/-- the boxes of other types stay -/
def Stay (e : TypeId) (w w' : World) : Prop := ∀ g t cs, Blk w g t cs → e ≠ t → Blk w' g t cs
/-- the slice v of n elements of type e owns the cells xs, in a row from block B on; a mark may stand behind its last cell -/
def OwnM (w : World) (B : Nat) (e : TypeId) (v : Value) (n : Nat) (xs : List Value) : Prop :=
  xs.length = n ∧ ((v = .slice none 0 0 ∧ n = 0) ∨ ∃ g cap cur fz, v = .slice (some ⟨g, 0, none⟩) n cap ∧ B ≤ g ∧ w.heap[g]? = some (.cells cur e fz) ∧ (fz.2 = 0 ∨ cur.size ≤ fz.1) ∧ n ≤ cap ∧ cap ≤ maxLen ∧ cur.size = cap ∧ cur.toList.take n = xs)
section
variable {w w' : World} {B : Nat} {e : TypeId} {v : Value} {n : Nat} {xs : List Value}
theorem OwnM.of (h : w.ownsRow B e 1 v n xs) : OwnM w B e v n xs := by
  refine ⟨by have := h.1; omega, ?_⟩
  rcases h.2 with hn | ⟨g, cap, cur, hv, hb, hg, h1, h2, h3, h4⟩
  · exact .inl hn
  · exact .inr ⟨g, cap, cur, (0, 0), hv, hb, hg, .inl rfl, h1, h2, by simpa using h3, by simpa using h4⟩
theorem OwnM.nil : OwnM w B e (.slice none 0 0) 0 [] := ⟨rfl, .inl ⟨rfl, rfl⟩⟩
theorem OwnM.lt (h : OwnM w B e v n xs) : ∀ k, v.ownBlock = some k → B ≤ k ∧ k < w.heap.size := by
  intro k hk
  rcases h.2 with ⟨rfl, _⟩ | ⟨g, cap, cur, fz, rfl, hb, hg, _⟩
  · simp [Value.ownBlock] at hk
  · simp [Value.ownBlock] at hk
    subst hk
    exact ⟨hb, (Array.getElem?_eq_some_iff.1 hg).1⟩
theorem OwnM.slice (h : OwnM w B e v n xs) : ∃ A c, v = .slice A n c ∧ n ≤ c ∧ c ≤ maxLen := by
  rcases h.2 with ⟨rfl, rfl⟩ | ⟨g, cap, cur, fz, rfl, _, _, _, h1, h2, _⟩
  · exact ⟨none, 0, rfl, Nat.le_refl _, by unfold maxLen; omega⟩
  · exact ⟨_, cap, rfl, h1, h2⟩
theorem OwnM.low {B' : Nat} (h : OwnM w B e v n xs) (hB : B' ≤ B) : OwnM w B' e v n xs := by
  refine ⟨h.1, ?_⟩
  rcases h.2 with hn | ⟨g, cap, cur, fz, rfl, hb, rest⟩
  · exact .inl hn
  · exact .inr ⟨g, cap, cur, fz, rfl, Nat.le_trans hB hb, rest⟩
theorem OwnM.kept {row : Option Nat} (h : OwnM w B e v n xs) (hg : w.grownBy w' row) (hne : v.ownBlock = none ∨ v.ownBlock ≠ row) : OwnM w' B e v n xs := by
  refine ⟨h.1, ?_⟩
  rcases h.2 with hn | ⟨g, cap, cur, fz, rfl, hb, hgg, rest⟩
  · exact .inl hn
  · refine .inr ⟨g, cap, cur, fz, rfl, hb, ?_, rest⟩
    rw [hg.block g (Array.getElem?_eq_some_iff.1 hgg).1 (by simpa [Value.ownBlock] using hne)]
    exact hgg
theorem OwnM.below (h : OwnM w B e v n xs) (hb : Below w.heap.size w w') : OwnM w' B e v n xs := by
  refine ⟨h.1, ?_⟩
  rcases h.2 with hn | ⟨g, cap, cur, fz, rfl, hB, hgg, rest⟩
  · exact .inl hn
  · exact .inr ⟨g, cap, cur, fz, rfl, hB, (hb.block g (Array.getElem?_eq_some_iff.1 hgg).1).trans hgg, rest⟩
theorem OwnM.alloc (h : OwnM w B e v n xs) (o : Obj) : OwnM (w.alloc o) B e v n xs := h.below ((Below.refl _ _).alloc (Nat.le_refl _) o)
theorem OwnM.drew (h : OwnM w B e v n xs) : OwnM w.drew B e v n xs := h
theorem OwnM.cells (h : OwnM w B e v n xs) {g : Nat} (hg : v.ownBlock = some g) : ∀ j u, xs[j]? = some u → w.cell? ((⟨g, 0, none⟩ : Addr).add j) = some u := by
  intro j u hu
  rcases h.2 with ⟨rfl, _⟩ | ⟨g', cap, cur, fz, rfl, _, hgg, _, _, _, _, htake⟩
  · simp [Value.ownBlock] at hg
  · simp [Value.ownBlock] at hg
    subst hg
    rw [add_plain, Nat.zero_add, cell_of_row w g' j cur e fz hgg]
    rw [← htake, List.getElem?_take] at hu
    split at hu
    · simpa using hu
    · cases hu
theorem OwnM.reads {A : Option Addr} {c B' : Nat} (h : OwnM w B e (.slice A n c) n xs) : Reads w B' e 1 A n xs := by
  refine ⟨by rw [h.1, Nat.mul_one], fun hn => ?_⟩
  rcases h.2 with ⟨hv, h0⟩ | ⟨g, cap, cur, fz, hv, _, hh, _⟩
  · omega
  · have hA : A = some ⟨g, 0, none⟩ := by injection hv
    subst hA
    exact ⟨g, 0, rfl, (Array.getElem?_eq_some_iff.1 hh).1, .inr ⟨cur, _, hh⟩, fun j u hu => by have := h.cells (g := g) rfl j u hu; rwa [add_plain] at this⟩
theorem OwnM.row {A : Option Addr} {c : Nat} (h : OwnM w B e (.slice A n c) n xs) (hn : 0 < n) : ∃ g, A = some ⟨g, 0, none⟩ ∧ g < w.heap.size ∧ ∀ j u, xs[j]? = some u → w.cell? ⟨g, j, none⟩ = some u := by
  rcases h.2 with ⟨hv, h0⟩ | ⟨g, cap, cur, fz, hv, _, hh, _⟩
  · omega
  · have hA : A = some ⟨g, 0, none⟩ := by injection hv
    subst hA
    exact ⟨g, rfl, (Array.getElem?_eq_some_iff.1 hh).1, fun j u hu => by have := h.cells (g := g) rfl j u hu; rwa [add_plain, Nat.zero_add] at this⟩
theorem OwnM.ne_ {g : Nat} {t : TypeId} {cs : Array Value} (h : OwnM w B e v n xs) (hg : Blk w g t cs) (hne : e ≠ t) : some g ≠ v.ownBlock := by
  rcases h.2 with ⟨rfl, _⟩ | ⟨g', cap, cur, fz, rfl, _, hh, _⟩
  · simp [Value.ownBlock]
  · intro he
    have : g = g' := by simpa [Value.ownBlock] using he
    subst this
    unfold Blk at hg
    rw [hg] at hh
    injection hh with hh
    injection hh with _ ht
    exact hne ht.symm
theorem OwnM.far {g : Nat} {t : TypeId} {cs : Array Value} (h : OwnM w B e v n xs) (hg : Blk w g t cs) (hne : e ≠ t) (i : Nat) (u : Value) : OwnM (w.setCell ⟨g, i, none⟩ u) B e v n xs := by
  have hn := h.ne_ hg hne
  refine ⟨h.1, ?_⟩
  rcases h.2 with h2 | ⟨g', cap, cur, fz, rfl, hb, hh, r⟩
  · exact .inl h2
  · exact .inr ⟨g', cap, cur, fz, rfl, hb, (Below.heap_setCell w ⟨g, i, none⟩ u g' (fun e => hn (by simp [Value.ownBlock, e]))).trans hh, r⟩
theorem Stay.of_grown (h : OwnM w B e v n xs) (hg : w.grownBy w' v.ownBlock) : Stay e w w' := fun _ _ _ hk hne => hk.grown hg (h.ne_ hk hne)
theorem Stay.alloc (e : TypeId) (w : World) (o : Obj) : Stay e w (w.alloc o) := fun _ _ _ hk _ => hk.alloc o
theorem Stay.trans {a b c : World} (h : Stay e a b) (k : Stay e b c) : Stay e a c := fun g t cs hk hne => k g t cs (h g t cs hk hne) hne
end
/-- what an append to the slice v of the call's own leaves: v' -/
structure Grew (e : TypeId) (w w' : World) (v v' : Value) : Prop where
  stay : Stay e w w'
  grown : w.grownBy w' v.ownBlock
  at_ : v'.ownBlock = v.ownBlock ∨ ∃ k, v'.ownBlock = some k ∧ w.heap.size ≤ k
theorem Grew.gt {a w w' : World} {row : Option Nat} (h : a.grownBy w row) (k : w.grownBy w' row) : a.grownBy w' row :=
  ⟨k.os.trans h.os, k.tape.trans h.tape, k.output.trans h.output, Nat.le_trans h.size k.size, fun i hi hr => (k.block i (Nat.lt_of_lt_of_le hi h.size) hr).trans (h.block i hi hr)⟩
theorem Grew.gd {a w : World} {row : Option Nat} (h : a.grownBy w row) : a.grownBy w.drew row := ⟨h.os, h.tape, h.output, h.size, h.block⟩
theorem run_storeCells_atM (P : Program) (g o : Nat) (t : TypeId) (fz : Nat × Nat) : ∀ (vs : List Value) (i : Nat) (cur : Array Value) (w : World), w.heap[g]? = some (.cells cur t fz) → (fz.2 = 0 ∨ cur.size ≤ fz.1) → o + i + vs.length ≤ cur.size → (∀ v ∈ vs, v.oneCell' = true) →
    (storeCells ⟨g, o, none⟩ vs i).run P w = .ok () (w.setRow g (cur.toList.take (o + i) ++ vs ++ cur.toList.drop (o + i + vs.length)).toArray)
  | [], i, cur, w, hg, _, _, _ => by
    simp only [storeCells, List.append_nil, List.length_nil, Nat.add_zero, List.take_append_drop, Array.toArray_toList]
    rw [setRow_self w g cur t fz hg]
    rfl
  | v :: rest, i, cur, w, hg, hfz, hl, h1 => by
    have hi : o + i < cur.size := by simp at hl; omega
    have hadd : (⟨g, o, none⟩ : Addr).add i = ⟨g, o + i, none⟩ := add_plain g o i
    have hcell : w.cell? ⟨g, o + i, none⟩ = some cur[o + i] := by simp [World.cell?, hg, hi]
    have hfro : w.frozen? ⟨g, o + i, none⟩ = false := by
      obtain ⟨lo, hi'⟩ := fz
      simp only [World.frozen?, hg, Bool.and_eq_false_iff, decide_eq_false_iff_not]
      simp only at hfz
      rcases hfz with h | h
      · right; omega
      · left; omega
    have hst : (store ((⟨g, o, none⟩ : Addr).add i) v).run P w = .ok () (w.setRow g (cur.setIfInBounds (o + i) v)) := by
      rw [hadd, run_store P w _ v _ (h1 v (by simp)), hcell]
      simp [hfro, setCell_eq_setRow w g (o + i) cur t fz v hg]
    have ih := run_storeCells_atM P g o t fz rest (i + 1) (cur.setIfInBounds (o + i) v) (w.setRow g (cur.setIfInBounds (o + i) v)) (setRow_heap w g cur _ t _ hg) (by simpa using hfz) (by simp at hl ⊢; omega) (fun x hx => h1 x (by simp [hx]))
    simp only [storeCells, Sem.run_bind, hst, Result.andThen_ok, ih, setRow_setRow]
    congr 3
    have e := list_seg_step cur.toList (o + i) v rest (by simp at hl ⊢; omega)
    simpa [Array.toList_setIfInBounds, Nat.add_assoc] using e
section
variable {P : Program} (w : World)
theorem run_append_m (base : Nat) (t ty e : TypeId) (i : TypeInfo) (z : Value) (bytes : Nat) (ht : P.underlying t = some (.slice e)) (hi : P.info? e = some i) (hz : i.zero = some z)
    (hsize : i.size = 1) (hby : i.bytes = bytes) (hzs : z.cells.size = 1)
    (v : Value) (n : Nat) (xs : List Value) (hown : OwnM w base e v n xs)
    (B : Nat) (A : Option Addr) (m c : Nat) (news : List Value) (hr : Reads w B e 1 A m news) (h1 : ∀ u ∈ news, u.oneCell' = true)
    (h63 : n + m ≤ maxLen) (hbytes : (n + m) * bytes ≤ 140737488355328) (hbase : base ≤ w.heap.size) :
    ∃ v' w', (Builtin.append_ #[t, t] ty #[v, .slice A m c]).run P w = .ok v' w' ∧ OwnM w' base e v' (n + m) (xs ++ news) ∧ w.grownBy w' v.ownBlock ∧ (∀ g, v.ownBlock = some g → ∀ j u, xs[j]? = some u → w'.cell? ⟨g, j, none⟩ = some u) ∧ (v'.ownBlock = v.ownBlock ∨ v'.ownBlock = some w.heap.size) := by
  have hl : news.length = m := by have := hr.1; omega
  rcases hown.2 with ⟨rfl, rfl⟩ | ⟨g, cap, cur, fz, rfl, hbg, hg, hfz, hnc, hcm, hcs, htake⟩
  · obtain ⟨v', w', hrun, h2, h3, h4⟩ := run_append_any (P := P) w base t ty e i z 1 bytes ht hi hz hsize hby hzs (by omega) (.slice none 0 0) 0 xs ⟨by have := hown.1; omega, .inl ⟨rfl, rfl⟩⟩ B A m c news hr h1 h63 hbytes hbase
    exact ⟨v', w', hrun, OwnM.of h2, h3, (fun g hg => by simp [Value.ownBlock] at hg), h4⟩
  · rcases Nat.eq_zero_or_pos m with h0 | hm
    · subst h0
      have hn : news = [] := List.eq_nil_of_length_eq_zero hl
      subst hn
      have hrun : (Builtin.append_ #[t, t] ty #[.slice (some ⟨g, 0, none⟩) n cap, .slice A 0 c]).run P w = .ok (.slice (some ⟨g, 0, none⟩) n cap) w := by
        rcases A with _ | ad
        · simp [Builtin.append_, run_underlying ht, sizeOf, typeInfo, hi, Builtin.lenOf, Builtin.firstCells, hnc, storeCells]
        · simp [Builtin.append_, run_underlying ht, sizeOf, typeInfo, hi, Builtin.lenOf, Builtin.firstCells, hnc, storeCells, loadCells, loadCellsFrom]
      exact ⟨_, w, hrun, by simpa using hown, World.grownBy.refl w _, (fun g' hg' j u hu => by have := hown.cells hg' j u hu; rwa [add_plain, Nat.zero_add] at this), .inl rfl⟩
    · obtain ⟨b, o, rfl, hblt, _, hc⟩ := hr.2 hm
      have hnews : ∀ j u, news[j]? = some u → w.cell? ((⟨b, o, none⟩ : Addr).add j) = some u := fun j u hu => by rw [add_plain]; exact hc j u hu
      have hsmall : n + m ≤ 9223372036854775807 := by simp only [maxLen] at h63; omega
      have hxl : xs.length = n := hown.1
      have hlen : (xs ++ news).length = n + m := by rw [List.length_append, hxl, hl]
      by_cases hroom : n + m ≤ cap
      · have hf := run_firstCells_some (P := P) w 1 m ⟨b, o, none⟩ m c news (by omega) hnews
        have hst := run_storeCells_atM P g n e fz news 0 cur w hg hfz (by omega) h1
        simp only [Nat.add_zero, hl] at hst
        have hrun : (Builtin.append_ #[t, t] ty #[.slice (some ⟨g, 0, none⟩) n cap, .slice (some ⟨b, o, none⟩) m c]).run P w =
            .ok (.slice (some ⟨g, 0, none⟩) (n + m) cap) (w.setRow g (cur.toList.take n ++ news ++ cur.toList.drop (n + m)).toArray) := by
          simp [Builtin.append_, run_underlying ht, sizeOf, typeInfo, hi, hsize, Builtin.lenOf, hroom, hf, Addr.add_lit, hst]
        have hnew : OwnM (w.setRow g (cur.toList.take n ++ news ++ cur.toList.drop (n + m)).toArray) base e (.slice (some ⟨g, 0, none⟩) (n + m) cap) (n + m) (xs ++ news) := by
          refine ⟨hlen, .inr ⟨g, cap, _, fz, rfl, hbg, setRow_heap w g cur _ e _ hg, ?_, hroom, hcm, ?_, ?_⟩⟩
          · simp only [List.size_toArray, List.length_append, List.length_take, List.length_drop, Array.length_toList, hl]
            omega
          · simp only [List.size_toArray, List.length_append, List.length_take, List.length_drop, Array.length_toList, hl]
            omega
          · rw [htake, ← hlen]
            exact List.take_left
        refine ⟨_, _, hrun, hnew, ⟨rfl, rfl, rfl, by simp, fun k _ hk => setRow_other w g k _ (fun e => hk (by simp [Value.ownBlock, e]))⟩, (fun g' hg' j u hu => ?_), .inl rfl⟩
        have hj : j < xs.length := by
          rcases Nat.lt_or_ge j xs.length with h' | h'
          · exact h'
          · rw [List.getElem?_eq_none h'] at hu; cases hu
        have := hnew.cells hg' j u (by rw [List.getElem?_append_left hj]; exact hu)
        rwa [add_plain, Nat.zero_add] at this
      · have holds : ∀ j u, xs[j]? = some u → w.cell? ((⟨g, 0, none⟩ : Addr).add j) = some u := hown.cells (g := g) rfl
        have hrun := run_append_grow (P := P) w t ty e i z ht hi hz ⟨g, 0, none⟩ n cap xs (by rw [hsize]; omega) holds ⟨b, o, none⟩ m c news (by rw [hsize]; omega) hnews (by omega) (by omega) (growslice_fits (by omega) (by rw [hby]; exact hbytes))
        have hge := grownCap_ge w (n + m) cap e
        have hcm2 : grownCap w (n + m) cap e ≤ maxLen := grownCap_le_maxLen w (n + m) cap e h63
        refine ⟨_, _, hrun, ⟨hlen, .inr ⟨w.heap.size, _, _, (0, 0), rfl, hbase, heap_alloc_new w.drew _, .inl rfl, hge, hcm2, ?_, ?_⟩⟩, ⟨rfl, rfl, rfl, by simp, fun k hk _ => Below.heap_alloc w.drew _ k hk⟩, (fun g' hg' j u hu => ?_), .inr rfl⟩
        · simp only [Array.size_append, List.size_toArray, size_zeroCells, hzs, hxl, hl]
          omega
        · simp only [Array.toList_append, List.append_assoc]
          rw [← List.append_assoc, ← hlen]
          exact List.take_left
        · have h1 := hown.cells hg' j u hu
          rw [add_plain, Nat.zero_add] at h1
          have hgl := (hown.lt g' hg').2
          exact (World.cell?_of_block (a := ⟨g', j, none⟩) (Below.heap_alloc w.drew _ g' hgl)).trans h1
end
section
variable {P : Program}
/-- append of a slice that reads as cells, onto a row of the call's own -/
theorem wp_append_m {o : Oper} {a : Act} {K : Act → World → Prop} {Q : Exit → Act → World → Prop} (s x : Operand) (t : TypeId)
    (ho : o.op = .call { callee := .builtin .append, args := #[s, x], argTypes := #[t, t] })
    (e : TypeId) (i : TypeInfo) (z : Value) (bytes : Nat) (ht : P.underlying t = some (.slice e)) (hi : P.info? e = some i) (hz : i.zero = some z) (hsize : i.size = 1) (hby : i.bytes = bytes) (hzs : z.cells.size = 1)
    {W w : World} (hb : Below W.heap.size W w) (v : Value) (n : Nat) (xs : List Value) (hs : a.eval s = v) (hown : OwnM w W.heap.size e v n xs)
    (B : Nat) (A : Option Addr) (m c : Nat) (news : List Value) (hx : a.eval x = .slice A m c) (hr : Reads w B e 1 A m news) (h1 : ∀ u ∈ news, u.oneCell' = true) (hlen : (n + m) * bytes ≤ 140737488355328) (hmax : n + m ≤ 140737488355328)
    (h : ∀ A' c' w', OwnM w' W.heap.size e (.slice A' (n + m) c') (n + m) (xs ++ news) → n + m ≤ c' → Below W.heap.size W w' → Grew e w w' v (.slice A' (n + m) c') → w.heap.size ≤ w'.heap.size → (∀ g, v.ownBlock = some g → ∀ j u, xs[j]? = some u → w'.cell? ⟨g, j, none⟩ = some u) → K (a.put o.dst (.slice A' (n + m) c')) w') : o.wp P a w K Q := by
  obtain ⟨v', w', hrun, h2, h3, h7, h8⟩ := run_append_m (P := P) w W.heap.size t o.type e i z bytes ht hi hz hsize hby hzs v n xs hown B A m c news hr h1 (by unfold maxLen; omega) hlen hb.size
  unfold Oper.wp execOp
  simp only [ho, resolve, invoke, builtin, Sem.run_bind, Sem.run_pure, Result.andThen_ok, List.map_toArray, List.map_cons, List.map_nil, hs, hx, hrun]
  obtain ⟨A', c', rfl, h4, _⟩ := h2.slice
  exact h A' c' w' h2 h4 (hb.grown h3 hb.size (fun k hk => (hown.lt k hk).1)) ⟨Stay.of_grown hown h3, h3, h8.imp id fun h => ⟨_, h, Nat.le_refl _⟩⟩ h3.size h7
theorem wpl_append {ops : Array Oper} {rest : List Oper} {o : Oper} {a : Act} {Q : Exit → Act → World → Prop} (hgd : o.guard = none) (s x : Operand) (t : TypeId)
    (ho : o.op = .call { callee := .builtin .append, args := #[s, x], argTypes := #[t, t] })
    (e : TypeId) (i : TypeInfo) (z : Value) (bytes : Nat) (ht : P.underlying t = some (.slice e)) (hi : P.info? e = some i) (hz : i.zero = some z) (hsize : i.size = 1) (hby : i.bytes = bytes) (hzs : z.cells.size = 1)
    {W w : World} (hb : Below W.heap.size W w) (v : Value) (n : Nat) (xs : List Value) (hs : a.eval s = v) (hown : OwnM w W.heap.size e v n xs)
    (B : Nat) (A : Option Addr) (m c : Nat) (news : List Value) (hx : a.eval x = .slice A m c) (hr : Reads w B e 1 A m news) (h1 : ∀ u ∈ news, u.oneCell' = true) (hlen : (n + m) * bytes ≤ 140737488355328) (hmax : n + m ≤ 140737488355328)
    (h : ∀ A' c' w', OwnM w' W.heap.size e (.slice A' (n + m) c') (n + m) (xs ++ news) → n + m ≤ c' → Below W.heap.size W w' → Grew e w w' v (.slice A' (n + m) c') → w.heap.size ≤ w'.heap.size → wpList P ops Q rest (a.put o.dst (.slice A' (n + m) c')) w') : wpList P ops Q (o :: rest) a w :=
  wpList_plain hgd fun _ hK => wp_append_m s x t ho e i z bytes ht hi hz hsize hby hzs hb v n xs hs hown B A m c news hx hr h1 hlen hmax fun A' c' w' a1 a2 a3 a4 a5 _ => hK _ _ (h A' c' w' a1 a2 a3 a4 a5)
/-- append of elements that were just laid in a new block -/
theorem wpl_append_new {ops : Array Oper} {rest : List Oper} {o : Oper} {a : Act} {Q : Exit → Act → World → Prop} (hgd : o.guard = none) (s x : Operand) (t : TypeId)
    (ho : o.op = .call { callee := .builtin .append, args := #[s, x], argTypes := #[t, t] })
    (e : TypeId) (i : TypeInfo) (z : Value) (bytes : Nat) (ht : P.underlying t = some (.slice e)) (hi : P.info? e = some i) (hz : i.zero = some z) (hsize : i.size = 1) (hby : i.bytes = bytes) (hzs : z.cells.size = 1)
    {W w : World} (hb : Below W.heap.size W w) (v : Value) (n : Nat) (xs : List Value) (hs : a.eval s = v) (hown : OwnM w W.heap.size e v n xs)
    (news : List Value) (m c : Nat) (hm : news.length = m) (cs : Array Value) (hcs : cs = news.toArray) (hx : a.eval x = .slice (some ⟨w.heap.size, 0, none⟩) m c) (h1 : ∀ u ∈ news, u.oneCell' = true) (hlen : (n + m) * bytes ≤ 140737488355328) (hmax : n + m ≤ 140737488355328)
    (h : ∀ A' c' w', OwnM w' W.heap.size e (.slice A' (n + m) c') (n + m) (xs ++ news) → n + m ≤ c' → Below W.heap.size W w' → Grew e w w' v (.slice A' (n + m) c') → w.heap.size ≤ w'.heap.size → wpList P ops Q rest (a.put o.dst (.slice A' (n + m) c')) w') : wpList P ops Q (o :: rest) a (w.alloc (.cells cs e)) := by
  subst hcs
  have hr := reads_new w news.toArray e m 1 W.heap.size (by rw [List.size_toArray]; omega)
  refine wpl_append hgd s x t ho e i z bytes ht hi hz hsize hby hzs (hb.alloc hb.size _) v n xs hs (hown.alloc _) W.heap.size _ m c news hx hr h1 hlen hmax ?_
  intro A' c' w' h1 h2 h3 h4 h5
  exact h A' c' w' h1 h2 h3 ⟨(Stay.alloc _ w _).trans h4.stay, Grew.gt (World.grownBy_alloc w _ _) h4.grown, h4.at_.imp id fun ⟨k, hk, hl⟩ => ⟨k, hk, by rw [World.size_alloc] at hl; omega⟩⟩ (by rw [World.size_alloc] at h5; omega)
end
end Go.Proofs.YtncdjmpdbinanaaGreatDoor
