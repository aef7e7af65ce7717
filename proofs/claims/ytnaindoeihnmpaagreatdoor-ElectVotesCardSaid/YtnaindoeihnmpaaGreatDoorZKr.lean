/-
  WHAT IS PROVED HERE: nodes stay what they are while boxes, maps and rows of messages of the call's own are written; a row of the call's own of which one element is laid anew. No condition.
-/
import Derived.Test.YtnaindoeihnmpaaGreatDoorZMap
import Derived.Test.YtnaindoeihnmpaaGreatDoorZStd0
namespace Go.Proofs.YtnaindoeihnmpaaGreatDoor
open Go.RowKit Go.Maps

/-- blocks below B, and rows of ints, records, peers, stay as they are -/
def KR (w w' : World) (B : Nat) : Prop := w.heap.size ≤ w'.heap.size ∧ ∀ (k : Nat) (o : Obj), w.heap[k]? = some o → (k < B ∨ ∃ cs e fr, o = .cells cs e fr ∧ (e = 3 ∨ e = 49 ∨ e = 62)) → w'.heap[k]? = some o
section
variable {w w' w'' : World} {B : Nat}
theorem KR.refl (w : World) (B : Nat) : KR w w B := ⟨Nat.le_refl _, fun _ _ h _ => h⟩
theorem KR.trans (h : KR w w' B) (h' : KR w' w'' B) : KR w w'' B := ⟨Nat.le_trans h.1 h'.1, fun k o ho hc => h'.2 k o (h.2 k o ho hc) hc⟩
theorem KR.low {B' : Nat} (h : KR w w' B) (hB : B' ≤ B) : KR w w' B' := ⟨h.1, fun k o ho hc => h.2 k o ho (by rcases hc with hc | hc; exact .inl (by omega); exact .inr hc)⟩
theorem KR.below (h : Below w.heap.size w w') : KR w w' B := ⟨h.size, fun k o ho _ => (h.block k (by
  rcases Nat.lt_or_ge k w.heap.size with h1 | h1
  · exact h1
  · rw [Array.getElem?_eq_none h1] at ho; cases ho)).trans ho⟩
theorem KR.alloc (w : World) (o : Obj) : KR w (w.alloc o) B := .below ((Below.refl _ _).alloc (Nat.le_refl _) o)
theorem KR.grown {row : Option Nat} (h : w.grownBy w' row) (hr : ∀ k, row = some k → B ≤ k ∧ ∀ cs e fr, w.heap[k]? = some (.cells cs e fr) → e ≠ 3 ∧ e ≠ 49 ∧ e ≠ 62) : KR w w' B := by
  refine ⟨h.size, fun k o ho hc => (h.block k ?_ ?_).trans ho⟩
  · rcases Nat.lt_or_ge k w.heap.size with h1 | h1
    · exact h1
    · rw [Array.getElem?_eq_none h1] at ho; cases ho
  · intro e
    obtain ⟨h1, h2⟩ := hr k e.symm
    rcases hc with hc | ⟨cs, e', fr, rfl, he⟩
    · omega
    · have := h2 cs e' fr ho
      rcases he with he | he | he
      · exact this.1 he
      · exact this.2.1 he
      · exact this.2.2 he
theorem KR.map {P : Program} {k : TypeId} {b n : Nat} {f : Int → Option Value} (hm : MapI P w k b n f) (hb : B ≤ b) (h : w.grownBy w' (some b)) : KR w w' B := by
  refine KR.grown h (fun k' e => ?_)
  cases e
  refine ⟨hb, fun cs e fr hh => ?_⟩
  obtain ⟨D, ⟨es, clock, hh', _⟩, _⟩ := hm
  rw [hh'] at hh
  cases hh
theorem KR.own {n : Nat} {v : Value} {xs : List Value} (ho : w.ownsRow B 33 11 v n xs) (h : w.grownBy w' v.ownBlock) : KR w w' B := by
  refine KR.grown h (fun k e => ⟨(World.ownsRow.lt ho k e).1, fun cs e' fr hh => ?_⟩)
  obtain ⟨cs', fr', h2⟩ := own_typedS ho k e
  rw [h2] at hh
  cases hh
  exact ⟨by decide, by decide, by decide⟩
theorem KR.st14 {g : Nat} {a0 a1 a2 a3 a4 a5 a6 a7 a8 a9 a10 a11 a12 a13 : Value} (h : Blk w g 30 #[a0, a1, a2, a3, a4, a5, a6, a7, a8, a9, a10, a11, a12, a13]) (hg : B ≤ g) (b0 b1 b2 b3 b4 b5 b6 b7 b8 b9 b10 b11 b12 b13 : Value) : KR w (set14 w g b0 b1 b2 b3 b4 b5 b6 b7 b8 b9 b10 b11 b12 b13) B := by
  have hs : (set14 w g b0 b1 b2 b3 b4 b5 b6 b7 b8 b9 b10 b11 b12 b13).heap.size = w.heap.size := by simp [set14, World.setCell]
  refine ⟨by rw [hs]; exact Nat.le_refl _, fun k o ho hc => ?_⟩
  have hne : k ≠ g := by
    rintro rfl
    rcases hc with hc | ⟨cs, e', fr, rfl, he⟩
    · omega
    · unfold Blk at h
      rw [h] at ho
      cases ho
      revert he
      decide
  unfold set14
  repeat rw [Below.heap_setCell _ _ _ _ (by exact hne)]
  exact ho
theorem Reads.kr {e : TypeId} {size n : Nat} {A : Option Addr} {xs : List Value} (h : Reads w B e size A n xs) (he : e = 3 ∨ e = 49 ∨ e = 62) (hk : KR w w' B) : Reads w' B e size A n xs :=
  ⟨h.1, fun hn => by
    obtain ⟨b, o, ea, hlt, ht, hc⟩ := h.2 hn
    have hbk : w'.heap[b]? = w.heap[b]? := by
      obtain ⟨ob, hob⟩ : ∃ o, w.heap[b]? = some o := ⟨_, Array.getElem?_eq_getElem hlt⟩
      rw [hob]
      refine hk.2 b ob hob ?_
      rcases ht with ht | ⟨cs, fr, ht⟩
      · exact .inl ht
      · rw [ht] at hob
        cases hob
        exact .inr ⟨cs, e, fr, rfl, he⟩
    refine ⟨b, o, ea, Nat.lt_of_lt_of_le hlt hk.1, ?_, fun j u hu => (World.cell?_of_block (a := ⟨b, o + j, none⟩) hbk).trans (hc j u hu)⟩
    rcases ht with ht | ⟨cs, fr, ht⟩
    · exact .inl ht
    · exact .inr ⟨cs, fr, hbk.trans ht⟩⟩
theorem NdOk.kr {N : Nd} {a : NdA} (h : NdOk w B N a) (hk : KR w w' B) : NdOk w' B N a :=
  ⟨h.recs.kr (.inr (.inl rfl)) hk, h.rc, h.rb, h.vs.kr (.inl rfl) hk, h.vc, h.vb, h.sb, h.got.kr (.inl rfl) hk, h.gc, h.gb, h.ps.kr (.inr (.inr rfl)) hk, h.pc, h.pb⟩
end
theorem MsOk.kr' {w w' : World} {B : Nat} {M : Ms} {a : MsA} (h : MsOk w B M a) (hk : KR w w' B) : MsOk w' B M a :=
  ⟨h.recs.kr (.inr (.inl rfl)) hk, h.rc, h.rb, h.vs.kr (.inl rfl) hk, h.vc, h.vb, h.sb⟩
theorem mgs_set14K {w : World} {g n : Nat} {A : Option Addr} {L : List Ms} {t : TypeId} {a0 a1 a2 a3 a4 a5 a6 a7 a8 a9 a10 a11 a12 a13 : Value} (h : Mgs w 0 A n (L.map fun M => (M, nilMA))) (k : Blk w g t #[a0, a1, a2, a3, a4, a5, a6, a7, a8, a9, a10, a11, a12, a13]) (hne : 33 ≠ t) (hs : ∀ M ∈ L, M.rs = [] ∧ M.vs = [] ∧ M.s.size = 0) (b0 b1 b2 b3 b4 b5 b6 b7 b8 b9 b10 b11 b12 b13 : Value) : Mgs (set14 w g b0 b1 b2 b3 b4 b5 b6 b7 b8 b9 b10 b11 b12 b13) 0 A n (L.map fun M => (M, nilMA)) := by
  refine ⟨set14_reads k b0 b1 b2 b3 b4 b5 b6 b7 b8 b9 b10 b11 b12 b13 (Nat.zero_le _) hne h.1, fun p hp => ?_⟩
  obtain ⟨M, hM, rfl⟩ := List.mem_map.1 hp
  obtain ⟨h1, h2, h3⟩ := hs M hM
  exact nilMA_ok h1 h2 h3
theorem grown_neK {w w' : World} {gm g : Nat} {f : Int → Option Value} {n : Nat} {k : TypeId} {t : TypeId} {cs : Array Value} (hm : MapI Tryz.prog w k gm n f) (hg : w.grownBy w' (some gm)) (h : Blk w g t cs) : Blk w' g t cs :=
  h.grown hg (fun e => hm.ne_blk h (by cases e; rfl))
theorem map_set14K {w : World} {gm g : Nat} {f : Int → Option Value} {n : Nat} {k : TypeId} (h : MapI Tryz.prog w k gm n f) (hg : gm ≠ g) (b0 b1 b2 b3 b4 b5 b6 b7 b8 b9 b10 b11 b12 b13 : Value) : MapI Tryz.prog (set14 w g b0 b1 b2 b3 b4 b5 b6 b7 b8 b9 b10 b11 b12 b13) k gm n f := by
  unfold set14
  exact (((((((((((((h.far (by exact hg) _).far (by exact hg) _).far (by exact hg) _).far (by exact hg) _).far (by exact hg) _).far (by exact hg) _).far (by exact hg) _).far (by exact hg) _).far (by exact hg) _).far (by exact hg) _).far (by exact hg) _).far (by exact hg) _).far (by exact hg) _).far (by exact hg) _
/-- a map behind what grows another block -/
theorem MapI.grown {P : Program} {w w' : World} {k : TypeId} {b n : Nat} {f : Int → Option Value} {row : Option Nat} (h : MapI P w k b n f) (hg : w.grownBy w' row) (hne : some b ≠ row) : MapI P w' k b n f := by
  obtain ⟨D, h1, h2⟩ := h
  have hlt := h1.lt
  obtain ⟨es, clock, hh, r⟩ := h1
  exact ⟨D, ⟨es, clock, (hg.block b hlt hne).trans hh, r⟩, h2⟩
theorem map_ne_own {P : Program} {w : World} {k : TypeId} {b n m base e size : Nat} {f : Int → Option Value} {v : Value} {xs : List Value} (h : MapI P w k b n f) (ho : w.ownsRow base e size v m xs) : some b ≠ v.ownBlock := by
  intro e1
  obtain ⟨cs, fr, hh⟩ := own_typedS ho b e1.symm
  obtain ⟨D, ⟨es, clock, hh', _⟩, _⟩ := h
  rw [hh'] at hh
  cases hh
theorem map_neK {P : Program} {w : World} {k : TypeId} {b n m base e size g c : Nat} {f : Int → Option Value} {xs : List Value} (h : MapI P w k b n f) (ho : w.ownsRow base e size (.slice (some ⟨g, 0, none⟩) m c) m xs) : b ≠ g := fun e1 => map_ne_own h ho (by rw [e1]; rfl)
/-- a row of the call's own behind what grows a map -/
theorem own_map {P : Program} {w w' : World} {k : TypeId} {b n m base e size : Nat} {f : Int → Option Value} {v : Value} {xs : List Value} (h : MapI P w k b n f) (hg : w.grownBy w' (some b)) (ho : w.ownsRow base e size v m xs) : w'.ownsRow base e size v m xs := by
  obtain ⟨h1, h2⟩ := ho
  refine ⟨h1, ?_⟩
  rcases h2 with h2 | ⟨g, cap, cur, rfl, hb, hh, r⟩
  · exact .inl h2
  · refine .inr ⟨g, cap, cur, rfl, hb, (hg.block g (Array.getElem?_eq_some_iff.1 hh).1 ?_).trans hh, r⟩
    intro e1
    cases e1
    obtain ⟨D, ⟨es, clock, hh', _⟩, _⟩ := h
    rw [hh'] at hh
    cases hh
/-- what reads a row behind what grows a map -/
theorem reads_map {P : Program} {w w' : World} {k e : TypeId} {b n m B size : Nat} {f : Int → Option Value} {A : Option Addr} {xs : List Value} (hm : MapI P w k b n f) (hg : w.grownBy w' (some b)) (hB : B ≤ b) (h : Reads w B e size A m xs) : Reads w' B e size A m xs :=
  ⟨h.1, fun hn => by
    obtain ⟨c, o, ea, hlt, ht, hc⟩ := h.2 hn
    have hne : some c ≠ some b := by
      intro e1
      cases e1
      rcases ht with ht | ⟨cs, fr, ht⟩
      · omega
      · obtain ⟨D, ⟨es, clock, hh', _⟩, _⟩ := hm
        rw [hh'] at ht
        cases ht
    have hbk := hg.block c hlt hne
    refine ⟨c, o, ea, Nat.lt_of_lt_of_le hlt hg.size, ?_, fun j u hu => (World.cell?_of_block (a := ⟨c, o + j, none⟩) hbk).trans (hc j u hu)⟩
    rcases ht with ht | ⟨cs, fr, ht⟩
    · exact .inl ht
    · exact .inr ⟨cs, fr, hbk.trans ht⟩⟩
theorem mgs_map {P : Program} {w w' : World} {k : TypeId} {b n m : Nat} {f : Int → Option Value} {A : Option Addr} {L : List Ms} (hm : MapI P w k b n f) (hg : w.grownBy w' (some b)) (h : Mgs w 0 A m (L.map fun M => (M, nilMA))) (hs : ∀ M ∈ L, M.rs = [] ∧ M.vs = [] ∧ M.s.size = 0) : Mgs w' 0 A m (L.map fun M => (M, nilMA)) := by
  refine ⟨reads_map hm hg (Nat.zero_le _) h.1, fun p hp => ?_⟩
  obtain ⟨M, hM, rfl⟩ := List.mem_map.1 hp
  obtain ⟨h1, h2, h3⟩ := hs M hM
  exact nilMA_ok h1 h2 h3
theorem ints_two {w : World} {g : Nat} {x y : Int} (h : Blk w g 3 #[.int .i64 x, .int .i64 y]) : Ints w 0 (some ⟨g, 0, none⟩) 2 [x, y] := by
  refine ⟨rfl, fun _ => ⟨g, 0, rfl, h.lt, .inr ⟨_, _, h⟩, fun j u hu => ?_⟩⟩
  rw [Nat.zero_add, h.cell j]
  simpa [vint] using hu
/-- cells laid one behind another -/
def setL (w : World) (g o : Nat) : List Value → World
  | [] => w
  | c :: cs => setL (w.setCell ⟨g, o, none⟩ c) g (o + 1) cs
theorem setL_far (g : Nat) : ∀ (cs : List Value) (w : World) (o k : Nat), k ≠ g → (setL w g o cs).heap[k]? = w.heap[k]?
  | [], _, _, _, _ => rfl
  | c :: cs, w, o, k, h => (setL_far g cs _ (o + 1) k h).trans (Below.heap_setCell w ⟨g, o, none⟩ c k h)
theorem setL_size (g : Nat) : ∀ (cs : List Value) (w : World) (o : Nat), (setL w g o cs).heap.size = w.heap.size
  | [], _, _ => rfl
  | c :: cs, w, o => (setL_size g cs _ (o + 1)).trans (by simp [World.setCell])
theorem setL_at (g : Nat) (t : TypeId) : ∀ (cs : List Value) (w : World) (o : Nat) (cur : Array Value), w.heap[g]? = some (.cells cur t (0, 0)) → o + cs.length ≤ cur.size →
    ∃ cur' : Array Value, (setL w g o cs).heap[g]? = some (.cells cur' t (0, 0)) ∧ cur'.toList = cur.toList.take o ++ (cs ++ cur.toList.drop (o + cs.length))
  | [], w, o, cur, h, _ => ⟨cur, h, by simp⟩
  | c :: cs, w, o, cur, h, hl => by
    rw [List.length_cons] at hl
    have h1 : (w.setCell ⟨g, o, none⟩ c).heap[g]? = some (.cells (cur.setIfInBounds o c) t (0, 0)) := by
      simp [World.setCell, Array.getElem?_modify, h]
    obtain ⟨cur', h2, h3⟩ := setL_at g t cs (w.setCell ⟨g, o, none⟩ c) (o + 1) (cur.setIfInBounds o c) h1 (by simp; omega)
    refine ⟨cur', h2, ?_⟩
    rw [h3]
    have ho : o < cur.toList.length := by simp; omega
    rw [Array.toList_setIfInBounds, List.take_set, List.drop_set, if_pos (by omega), List.take_succ_eq_append_getElem ho, List.length_cons]
    rw [List.set_append_right _ _ (by simp; omega)]
    have : o - (cur.toList.take o).length = 0 := by simp; omega
    rw [this]
    simp [Nat.add_assoc, Nat.add_comm 1]
theorem setL_below {W : World} {g : Nat} (hg : W.heap.size ≤ g) : ∀ (cs : List Value) (w : World) (o : Nat), Below W.heap.size W w → Below W.heap.size W (setL w g o cs)
  | [], _, _, h => h
  | c :: cs, _, o, h => setL_below hg cs _ (o + 1) (h.setCell (p := ⟨g, o, none⟩) hg c)
theorem own_setL {w : World} {base e K n c g k : Nat} {xs cs : List Value} (h : w.ownsRow base e K (.slice (some ⟨g, 0, none⟩) n c) n xs) (hk : k < n) (hcs : cs.length = K) :
    (setL w g (k * K) cs).ownsRow base e K (.slice (some ⟨g, 0, none⟩) n c) n (xs.take (k * K) ++ (cs ++ xs.drop (k * K + K))) := by
  have hkn : k * K + K ≤ n * K := by
    have := Nat.mul_le_mul_right K (show k + 1 ≤ n from hk)
    rw [Nat.add_mul, Nat.one_mul] at this
    exact this
  have hl := h.1
  refine ⟨by rw [List.length_append, List.length_append, List.length_take, List.length_drop, hcs, hl]; omega, ?_⟩
  rcases h.2 with ⟨hv, _⟩ | ⟨g', cap, cur, hv, hb, hh, h1, h2, h3, h4⟩
  · cases hv
  · cases hv
    have hnc : n * K ≤ c * K := Nat.mul_le_mul_right K h1
    obtain ⟨cur', a1, a2⟩ := setL_at g e cs w (k * K) cur hh (by rw [hcs, h3]; omega)
    have hcl : cur.toList.length = c * K := by simpa using h3
    have e1 : (cur.toList.take (k * K)).length = k * K := by rw [List.length_take, hcl]; omega
    have hsz : cur'.size = c * K := by
      have : cur'.toList.length = c * K := by
        rw [a2, List.length_append, List.length_append, e1, List.length_drop, hcs, hcl]
        omega
      simpa using this
    have f1 : ∀ (A D : List Value), A.length = k * K → (A ++ (cs ++ D)).take (n * K) = A ++ (cs ++ D.take (n * K - (k * K + K))) := by
      intro A D hA
      rw [List.take_append, hA, List.take_of_length_le (by omega), List.take_append, hcs, List.take_of_length_le (by omega)]
      congr 3
      omega
    refine .inr ⟨g, c, cur', rfl, hb, a1, h1, h2, hsz, ?_⟩
    rw [a2, hcs, f1 _ _ e1, ← h4, List.take_take, Nat.min_eq_left (by omega), List.drop_take]
theorem blk_setL {w : World} {g g' o : Nat} {t : TypeId} {cs xs : _} (h : Blk w g t cs) (hne : g ≠ g') : Blk (setL w g' o xs) g t cs := (setL_far g' xs w o g hne).trans h
theorem map_setL {P : Program} {w : World} {k : TypeId} {b n g o : Nat} {f : Int → Option Value} {cs : List Value} (h : MapI P w k b n f) (hne : b ≠ g) : MapI P (setL w g o cs) k b n f := by
  obtain ⟨D, ⟨es, clock, hh, r⟩, h2⟩ := h
  exact ⟨D, ⟨es, clock, (setL_far g cs w o b hne).trans hh, r⟩, h2⟩
theorem KR.stL {w : World} {B g o n c : Nat} {xs cs : List Value} (h : w.ownsRow B 33 11 (.slice (some ⟨g, 0, none⟩) n c) n xs) : KR w (setL w g o cs) B := by
  refine ⟨by rw [setL_size]; exact Nat.le_refl _, fun k ob ho hc => (setL_far g cs w o k ?_).trans ho⟩
  rintro rfl
  obtain ⟨cs', fr', h2⟩ := own_typedS h k rfl
  rw [h2] at ho
  cases ho
  rcases hc with hc | ⟨cs, e', fr, he', he⟩
  · have := (World.ownsRow.lt h k rfl).1
    omega
  · cases he'
    revert he
    decide
theorem mgsL_set : ∀ (ms : List (Ms × MsA)) (k : Nat) (p : Ms × MsA), k < ms.length → (mgsL ms).take (k * 11) ++ (msgCells p ++ (mgsL ms).drop (k * 11 + 11)) = mgsL (ms.set k p)
  | [], k, p, h => absurd h (by simp)
  | m :: ms, 0, p, _ => by
    unfold mgsL
    simp only [Nat.zero_mul, List.take_zero, List.nil_append, Nat.zero_add, List.set_cons_zero, List.flatMap_cons]
    rw [List.drop_append]
    simp [msgCells]
  | m :: ms, k + 1, p, h => by
    have ih := mgsL_set ms k p (by simpa using h)
    unfold mgsL at ih ⊢
    simp only [List.set_cons_succ, List.flatMap_cons]
    rw [← ih]
    have e : (msgCells m).length = 11 := rfl
    rw [List.take_append, List.drop_append, e, List.take_of_length_le (by rw [e]; omega), List.drop_eq_nil_of_le (by rw [e]; omega), show (k + 1) * 11 - 11 = k * 11 from by omega, show (k + 1) * 11 + 11 - 11 = k * 11 + 11 from by omega]
    simp
theorem pairM_set (ms : List Ms) (k : Nat) (m : Ms) : (pairM ms).set k (m, nilMA) = pairM (ms.set k m) := by
  unfold pairM
  rw [List.map_set]
/-- two swapped -/
def swapM (ms : List Ms) (i j : Nat) (x y : Ms) : List Ms := (ms.set i y).set j x
theorem swap_mem {ms : List Ms} {i j : Nat} {x y m : Ms} (hx : x ∈ ms) (hy : y ∈ ms) (h : m ∈ swapM ms i j x y) : m ∈ ms := by
  unfold swapM at h
  rcases List.mem_or_eq_of_mem_set h with h | rfl
  · rcases List.mem_or_eq_of_mem_set h with h | rfl
    · exact h
    · exact hy
  · exact hx
theorem swap_len (ms : List Ms) (i j : Nat) (x y : Ms) : (swapM ms i j x y).length = ms.length := by simp [swapM]
/-- eleven cells laid one behind another -/
def set11 (w : World) (g o : Nat) (b0 b1 b2 b3 b4 b5 b6 b7 b8 b9 b10 : Value) : World := ((((((((((w.setCell ⟨g, o, none⟩ b0).setCell ⟨g, o + 1, none⟩ b1).setCell ⟨g, o + 2, none⟩ b2).setCell ⟨g, o + 3, none⟩ b3).setCell ⟨g, o + 4, none⟩ b4).setCell ⟨g, o + 5, none⟩ b5).setCell ⟨g, o + 6, none⟩ b6).setCell ⟨g, o + 7, none⟩ b7).setCell ⟨g, o + 8, none⟩ b8).setCell ⟨g, o + 9, none⟩ b9).setCell ⟨g, o + 10, none⟩ b10
theorem set11_eq (w : World) (g o : Nat) (b0 b1 b2 b3 b4 b5 b6 b7 b8 b9 b10 : Value) : set11 w g o b0 b1 b2 b3 b4 b5 b6 b7 b8 b9 b10 = setL w g o [b0, b1, b2, b3, b4, b5, b6, b7, b8, b9, b10] := rfl
/-- the row's block -/
theorem own_blk {w : World} {B e size n c : Nat} {A : Option Addr} {xs : List Value} (h : w.ownsRow B e size (.slice A n c) n xs) (hn : 0 < n) : ∃ g, A = some ⟨g, 0, none⟩ ∧ B ≤ g ∧ g < w.heap.size ∧ ∀ o, w.frozen? ⟨g, o, none⟩ = false := by
  rcases h.2 with ⟨_, h0⟩ | ⟨g, cap, cur, hv, hb, hh, _⟩
  · omega
  · cases hv
    exact ⟨g, rfl, hb, (Array.getElem?_eq_some_iff.1 hh).1, fun o => by simp [World.frozen?, hh]⟩
theorem own_len {w : World} {B n : Nat} {v : Value} {ms : List Ms} (h : w.ownsRow B 33 11 v n (mgsL (pairM ms))) : ms.length = n := by
  have := h.1
  rw [mgsL_len] at this
  unfold pairM at this
  rw [List.length_map] at this
  omega
/-- the cells of a message in the row -/
theorem own_msg {w : World} {B n c g k : Nat} {ms : List Ms} {m : Ms} (h : w.ownsRow B 33 11 (.slice (some ⟨g, 0, none⟩) n c) n (mgsL (pairM ms))) (hk : ms[k]? = some m) :
    w.cell? ⟨g, k * 11, none⟩ = some (.int .i64 m.kind) ∧ w.cell? ⟨g, k * 11 + 1, none⟩ = some (.int .i64 m.fr) ∧ w.cell? ⟨g, k * 11 + 2, none⟩ = some (.int .i64 m.to) ∧ w.cell? ⟨g, k * 11 + 3, none⟩ = some (.int .i64 m.term) ∧ w.cell? ⟨g, k * 11 + 4, none⟩ = some (.bool m.ok) ∧ w.cell? ⟨g, k * 11 + 5, none⟩ = some (.int .i64 m.index) ∧ w.cell? ⟨g, k * 11 + 6, none⟩ = some (.int .i64 m.lterm) ∧ w.cell? ⟨g, k * 11 + 7, none⟩ = some (.slice none 0 0) ∧ w.cell? ⟨g, k * 11 + 8, none⟩ = some (.int .i64 m.commit) ∧ w.cell? ⟨g, k * 11 + 9, none⟩ = some (.string m.s) ∧ w.cell? ⟨g, k * 11 + 10, none⟩ = some (.slice none 0 0) := by
  have hg := mgsL_at (pairM ms) k (m, nilMA) (by unfold pairM; rw [List.getElem?_map, hk]; rfl)
  have hr : Reads w 0 33 11 (some ⟨g, 0, none⟩) n (mgsL (pairM ms)) := Reads.of_own h
  have hn : 0 < n := by
    have := own_len h
    have := (List.getElem?_eq_some_iff.1 hk).1
    omega
  obtain ⟨b, o, e, _, _, hc⟩ := hr.2 hn
  injection e with e
  injection e with e1 e2
  subst e1
  subst e2
  have hq : ∀ j, j < 11 → ∀ u, (msgCells (m, nilMA))[j]? = some u → w.cell? ⟨g, k * 11 + j, none⟩ = some u := fun j hj u hu => by
    have := hc (k * 11 + j) u (by rw [hg j hj]; exact hu)
    rw [Nat.zero_add] at this
    exact this
  exact ⟨hq 0 (by omega) _ rfl, hq 1 (by omega) _ rfl, hq 2 (by omega) _ rfl, hq 3 (by omega) _ rfl, hq 4 (by omega) _ rfl, hq 5 (by omega) _ rfl, hq 6 (by omega) _ rfl, hq 7 (by omega) _ rfl, hq 8 (by omega) _ rfl, hq 9 (by omega) _ rfl, hq 10 (by omega) _ rfl⟩
/-- one message of the row laid anew -/
theorem own_set11 {w : World} {B n c g k : Nat} {ms : List Ms} {m : Ms} (h : w.ownsRow B 33 11 (.slice (some ⟨g, 0, none⟩) n c) n (mgsL (pairM ms))) (hk : k < n) :
    (set11 w g (k * 11) (.int .i64 m.kind) (.int .i64 m.fr) (.int .i64 m.to) (.int .i64 m.term) (.bool m.ok) (.int .i64 m.index) (.int .i64 m.lterm) (.slice none 0 0) (.int .i64 m.commit) (.string m.s) (.slice none 0 0)).ownsRow B 33 11 (.slice (some ⟨g, 0, none⟩) n c) n (mgsL (pairM (ms.set k m))) := by
  have hl := own_len h
  have := own_setL h hk (cs := msgCells (m, nilMA)) rfl
  rw [mgsL_set _ k (m, nilMA) (by unfold pairM; rw [List.length_map]; omega), pairM_set] at this
  rw [set11_eq]
  exact this
theorem mgs_head {w : World} {b o : Nat} {m : Ms} (h : Mgs w 0 (some ⟨b, o, none⟩) 1 ([m].map fun M => (M, nilMA))) :
    w.cell? ⟨b, o, none⟩ = some (.int .i64 m.kind) ∧ w.cell? ⟨b, o + 1, none⟩ = some (.int .i64 m.fr) ∧ w.cell? ⟨b, o + 2, none⟩ = some (.int .i64 m.to) ∧ w.cell? ⟨b, o + 3, none⟩ = some (.int .i64 m.term) ∧ w.cell? ⟨b, o + 4, none⟩ = some (.bool m.ok) ∧ w.cell? ⟨b, o + 5, none⟩ = some (.int .i64 m.index) ∧ w.cell? ⟨b, o + 6, none⟩ = some (.int .i64 m.lterm) ∧ w.cell? ⟨b, o + 7, none⟩ = some (.slice none 0 0) ∧ w.cell? ⟨b, o + 8, none⟩ = some (.int .i64 m.commit) ∧ w.cell? ⟨b, o + 9, none⟩ = some (.string m.s) ∧ w.cell? ⟨b, o + 10, none⟩ = some (.slice none 0 0) := by
  obtain ⟨b', o', p, e, _, hd, _, c0, c1, c2, c3, c4, c5, c6, c7, c8, c9, c10⟩ := h.at_ (show 0 < 1 by omega)
  injection e with e
  injection e with e1 e2
  subst e1
  subst e2
  have ep : p = (m, nilMA) := by simpa using hd.symm
  subst ep
  simp only [Nat.zero_mul, Nat.add_zero] at c0 c1 c2 c3 c4 c5 c6 c7 c8 c9 c10
  exact ⟨c0, c1, c2, c3, c4, c5, c6, c7, c8, c9, c10⟩
/-- a map read, as an equation that the walk takes -/
theorem mapI_eq {P : Program} {w : World} {k e : TypeId} {b n : Nat} {f : Int → Option Value} (h : MapI P w k b n f) (t : TypeId) (hk : P.underlying k = some (.int .i64)) (ht : P.underlying t = some (.map k e))
    {z : Value} (hz : (zeroValue e).run P w = .ok z w) (i : Int) (hw : (Lit.int .i64 i).wf = true) (u : Value) (hu : (f i).getD z = u) : (Instr.lookup t (.map (some b)) (.int .i64 i) false).run P w = .ok u w := by
  obtain ⟨D, h1, _, hD⟩ := h
  obtain ⟨v, ps, hrun, hv⟩ := h1.lookup (int_keyed hk) ht hz (zd := .held z) (zp := []) rfl (key_of hk hw)
  rw [held_of (hD i).2 hv, hu] at hrun
  exact hrun
/-- a map read at an operation -/
theorem mapI_run {P : Program} {w : World} {k e : TypeId} {b n : Nat} {f : Int → Option Value} {o : Oper} {a : Act} (m x : Operand) (t : TypeId) (hop : o.op = Op.lookup t m x false) (hk : P.underlying k = some (.int .i64)) (ht : P.underlying t = some (.map k e))
    {z : Value} (hz : (zeroValue e).run P w = .ok z w) (hm : a.eval m = .map (some b)) (h : MapI P w k b n f) (i : Int) (hx : a.eval x = .int .i64 i) (hw : (Lit.int .i64 i).wf = true)
    (u : Value) (hu : (f i).getD z = u) : (execOp a.eval o).run P w = .ok (.value u) w := by
  obtain ⟨D, h1, _, hD⟩ := h
  obtain ⟨v, ps, hrun, hv⟩ := h1.lookup (int_keyed hk) ht hz (zd := .held z) (zp := []) rfl (key_of hk hw)
  simp [execOp, hop, hm, hx, hrun, Result.andThen]
  rw [held_of (hD i).2 hv, hu]
end Go.Proofs.YtnaindoeihnmpaaGreatDoor
