/-
  WHAT IS PROVED HERE: what a node is when it stands up, and whom it asks, as data; what the closure that asks hands back. No condition.
  WHAT IS PROVED HERE: nodes stay what they are while boxes, maps and rows of messages of the call's own are written; a row of the call's own of which one element is laid anew. No condition.
  WHAT IS PROVED HERE: a message and a state stored whole into a box of the call's own. No condition.
-/
import Derived.Test.YtncdjmpdbinanaaGreatDoorZGEl1
import Derived.Test.YtncdjmpdbinanaaGreatDoorZGMem
import Derived.Test.YtncdjmpdbinanaaGreatDoorZGQv
import Derived.Test.YtncdjmpdbinanaaGreatDoorZQrm2
import Derived.Test.YtncdjmpdbinanaaGreatDoorZGReg
import Derived.Test.YtncdjmpdbinanaaGreatDoorZGTab
import Derived.Test.YtncdjmpdbinanaaGreatDoorZGJrn
namespace Go.Proofs.YtncdjmpdbinanaaGreatDoor
open Go.RowKit

def votersN (N : Nd) : List Int := (ofF N.h.l.base 0 (N.h.vs, N.h.l.base) N.h.l.rs).1
def askM (id t at' term v : Int) : Ms := ⟨1, id, v, t, false, at', term, [], 0, ⟨#[]⟩, []⟩
def asks (id t at' term : Int) (vs : List Int) : List Ms := (vs.filter (fun v => !(v == id))).map (askM id t at' term)
theorem right_n {N : Nd} (h : rightN N = true) : rightJ N.h.l = true ∧ rightL N.h.vs = true ∧ 0 ≤ N.h.t ∧ N.h.t ≤ 1073741824 ∧ 1 ≤ N.id ∧ N.id ≤ 9 := by
  unfold rightN at h
  simp only [Bool.and_eq_true] at h
  have hs := right_shaped h.2.1
  have hb := shaped_bounds hs
  have hi := h.1
  simp only [inB, Bool.and_eq_true, decide_eq_true_eq] at hi
  exact ⟨shaped_J hs, h.2.2.1, hb.1.1, hb.1.2, hi.1, hi.2⟩
theorem set14_farS {w : World} {g g' : Nat} {t : TypeId} {cs : Array Value} (h : Blk w g t cs) (hg : g ≠ g') (b0 b1 b2 b3 b4 b5 b6 b7 b8 b9 b10 b11 b12 b13 : Value) : Blk (set14 w g' b0 b1 b2 b3 b4 b5 b6 b7 b8 b9 b10 b11 b12 b13) g t cs := by
  unfold set14
  exact (((((((((((((h.far (by exact hg) _).far (by exact hg) _).far (by exact hg) _).far (by exact hg) _).far (by exact hg) _).far (by exact hg) _).far (by exact hg) _).far (by exact hg) _).far (by exact hg) _).far (by exact hg) _).far (by exact hg) _).far (by exact hg) _).far (by exact hg) _).far (by exact hg) _
theorem reads_stay {w w' : World} {e : TypeId} {size n : Nat} {A : Option Addr} {xs : List Value} {row : Option Nat} (h : Reads w 0 e size A n xs) (hg : w.grownBy w' row) (hr : ∀ k, row = some k → ∃ t cs fr, w.heap[k]? = some (.cells cs t fr) ∧ t ≠ e) : Reads w' 0 e size A n xs :=
  ⟨h.1, fun hn => by
    obtain ⟨b, o, ea, hlt, ht, hc⟩ := h.2 hn
    rcases ht with ht | ⟨cs, fr, ht⟩
    · omega
    have hne : some b ≠ row := by
      intro e1
      obtain ⟨t, cs', fr', h1, h2⟩ := hr b e1.symm
      rw [h1] at ht
      injection ht with ht
      injection ht with _ h3
      exact h2 h3
    have hbk := hg.block b hlt hne
    exact ⟨b, o, ea, Nat.lt_of_lt_of_le hlt hg.size, .inr ⟨cs, fr, hbk.trans ht⟩, fun j u hu => (World.cell?_of_block (a := ⟨b, o + j, none⟩) hbk).trans (hc j u hu)⟩⟩
theorem own_typedS {w : World} {B : Nat} {e : TypeId} {size n : Nat} {v : Value} {xs : List Value} (h : w.ownsRow B e size v n xs) : ∀ k, v.ownBlock = some k → ∃ cs fr, w.heap[k]? = some (.cells cs e fr) := by
  intro k hk
  rcases h.2 with ⟨rfl, _⟩ | ⟨g, cap, cur, rfl, hb, hg, _⟩
  · simp [Value.ownBlock] at hk
  · simp [Value.ownBlock] at hk
    subst hk
    exact ⟨cur, _, hg⟩
theorem msg_one (ms : List (Ms × MsA)) : ∀ u ∈ mgsL ms, u.oneCell' = true := by
  intro u hu
  obtain ⟨p, _, hp⟩ := List.mem_flatMap.1 hu
  simp [msgCells] at hp
  rcases hp with rfl | rfl | rfl | rfl | rfl | rfl | rfl | rfl | rfl | rfl | rfl <;> rfl
theorem msgInfo : (Tryz.prog.info? 32).map (fun i => (i.zero, i.size, i.bytes)) = some (some (.agg #[.int .i64 0, .int .i64 0, .int .i64 0, .int .i64 0, .bool false, .int .i64 0, .int .i64 0, .slice none 0 0, .int .i64 0, .string ByteArray.empty, .slice none 0 0]), 11, 128) := by kernel_rfl
theorem of_right (base : Int) {zs : List Int} (rs : List Rec) (h : rightL zs = true) : rightL (ofF base 0 (zs, base) rs).1 = true := by
  have go : ∀ (rs : List Rec) (i : Nat) (cur : List Int × Int), rightL cur.1 = true → rightL (ofF base i cur rs).1 = true := by
    intro rs
    induction rs with
    | nil => intro i cur hc; exact hc
    | cons r rs ih =>
      intro i cur hc
      rw [ofF]
      apply ih
      cases hq : qual r with
      | none => exact hc
      | some x =>
        unfold qual at hq
        split at hq
        · exact parse_right hq
        · cases hq
  exact go rs 0 (zs, base) h
end Go.Proofs.YtncdjmpdbinanaaGreatDoor
namespace Go.Proofs.YtncdjmpdbinanaaGreatDoor
open Go.RowKit Go.Maps

/-- blocks below B, and rows of ints, records, peers, stay as they are -/
def KR (w w' : World) (B : Nat) : Prop := w.heap.size ≤ w'.heap.size ∧ ∀ (k : Nat) (o : Obj), w.heap[k]? = some o → (k < B ∨ ∃ cs e fr, o = .cells cs e fr ∧ (e = 3 ∨ e = 51 ∨ e = 53)) → w'.heap[k]? = some o
section
variable {w w' w'' : World} {B : Nat}
theorem KR.refl (w : World) (B : Nat) : KR w w B := ⟨Nat.le_refl _, fun _ _ h _ => h⟩
theorem KR.trans (h : KR w w' B) (h' : KR w' w'' B) : KR w w'' B := ⟨Nat.le_trans h.1 h'.1, fun k o ho hc => h'.2 k o (h.2 k o ho hc) hc⟩
theorem KR.low {B' : Nat} (h : KR w w' B) (hB : B' ≤ B) : KR w w' B' := ⟨h.1, fun k o ho hc => h.2 k o ho (by rcases hc with hc | hc; exact .inl (by omega); exact .inr hc)⟩
theorem KR.below (h : Below w.heap.size w w') : KR w w' B := ⟨h.size, fun k o ho _ => (h.block k (by
  rcases Nat.lt_or_ge k w.heap.size with h1 | h1
  · exact h1
  · rw [Array.getElem?_eq_none h1] at ho; cases ho)).trans ho⟩
theorem KR.alloc (w : World) (o : Obj) : KR w (w.alloc o) B := .below ((Below.refl _ _).alloc (Nat.le_refl _) o)
theorem KR.grown {row : Option Nat} (h : w.grownBy w' row) (hr : ∀ k, row = some k → B ≤ k ∧ ∀ cs e fr, w.heap[k]? = some (.cells cs e fr) → e ≠ 3 ∧ e ≠ 51 ∧ e ≠ 53) : KR w w' B := by
  refine ⟨h.size, fun k o ho hc => (h.block k ?_ ?_).trans ho⟩
  · rcases Nat.lt_or_ge k w.heap.size with h1 | h1
    · exact h1
    · rw [Array.getElem?_eq_none h1] at ho; cases ho
  · intro e
    obtain ⟨h1, h2⟩ := hr k e.symm
    rcases hc with hc | ⟨cs, e', fr, rfl, he⟩
    · omega
    · have := h2 cs e' fr ho
      rcases he with he | he | he
      · exact this.1 he
      · exact this.2.1 he
      · exact this.2.2 he
theorem KR.map {P : Program} {k : TypeId} {b n : Nat} {f : Int → Option Value} (hm : MapI P w k b n f) (hb : B ≤ b) (h : w.grownBy w' (some b)) : KR w w' B := by
  refine KR.grown h (fun k' e => ?_)
  cases e
  refine ⟨hb, fun cs e fr hh => ?_⟩
  obtain ⟨D, ⟨es, clock, hh', _⟩, _⟩ := hm
  rw [hh'] at hh
  cases hh
theorem KR.own {n : Nat} {v : Value} {xs : List Value} (ho : w.ownsRow B 32 11 v n xs) (h : w.grownBy w' v.ownBlock) : KR w w' B := by
  refine KR.grown h (fun k e => ⟨(World.ownsRow.lt ho k e).1, fun cs e' fr hh => ?_⟩)
  obtain ⟨cs', fr', h2⟩ := own_typedS ho k e
  rw [h2] at hh
  cases hh
  exact ⟨by decide, by decide, by decide⟩
theorem KR.st14 {g : Nat} {a0 a1 a2 a3 a4 a5 a6 a7 a8 a9 a10 a11 a12 a13 : Value} (h : Blk w g 30 #[a0, a1, a2, a3, a4, a5, a6, a7, a8, a9, a10, a11, a12, a13]) (hg : B ≤ g) (b0 b1 b2 b3 b4 b5 b6 b7 b8 b9 b10 b11 b12 b13 : Value) : KR w (set14 w g b0 b1 b2 b3 b4 b5 b6 b7 b8 b9 b10 b11 b12 b13) B := by
  have hs : (set14 w g b0 b1 b2 b3 b4 b5 b6 b7 b8 b9 b10 b11 b12 b13).heap.size = w.heap.size := by simp [set14, World.setCell]
  refine ⟨by rw [hs]; exact Nat.le_refl _, fun k o ho hc => ?_⟩
  have hne : k ≠ g := by
    rintro rfl
    rcases hc with hc | ⟨cs, e', fr, rfl, he⟩
    · omega
    · unfold Blk at h
      rw [h] at ho
      cases ho
      revert he
      decide
  unfold set14
  repeat rw [Below.heap_setCell _ _ _ _ (by exact hne)]
  exact ho
theorem Reads.kr {e : TypeId} {size n : Nat} {A : Option Addr} {xs : List Value} (h : Reads w B e size A n xs) (he : e = 3 ∨ e = 51 ∨ e = 53) (hk : KR w w' B) : Reads w' B e size A n xs :=
  ⟨h.1, fun hn => by
    obtain ⟨b, o, ea, hlt, ht, hc⟩ := h.2 hn
    have hbk : w'.heap[b]? = w.heap[b]? := by
      obtain ⟨ob, hob⟩ : ∃ o, w.heap[b]? = some o := ⟨_, Array.getElem?_eq_getElem hlt⟩
      rw [hob]
      refine hk.2 b ob hob ?_
      rcases ht with ht | ⟨cs, fr, ht⟩
      · exact .inl ht
      · rw [ht] at hob
        cases hob
        exact .inr ⟨cs, e, fr, rfl, he⟩
    refine ⟨b, o, ea, Nat.lt_of_lt_of_le hlt hk.1, ?_, fun j u hu => (World.cell?_of_block (a := ⟨b, o + j, none⟩) hbk).trans (hc j u hu)⟩
    rcases ht with ht | ⟨cs, fr, ht⟩
    · exact .inl ht
    · exact .inr ⟨cs, fr, hbk.trans ht⟩⟩
theorem NdOk.kr {N : Nd} {a : NdA} (h : NdOk w B N a) (hk : KR w w' B) : NdOk w' B N a :=
  ⟨h.recs.kr (.inr (.inl rfl)) hk, h.rc, h.rb, h.vs.kr (.inl rfl) hk, h.vc, h.vb, h.sb, h.got.kr (.inl rfl) hk, h.gc, h.gb, h.ps.kr (.inr (.inr rfl)) hk, h.pc, h.pb⟩
end
theorem MsOk.kr' {w w' : World} {B : Nat} {M : Ms} {a : MsA} (h : MsOk w B M a) (hk : KR w w' B) : MsOk w' B M a :=
  ⟨h.recs.kr (.inr (.inl rfl)) hk, h.rc, h.rb, h.vs.kr (.inl rfl) hk, h.vc, h.vb, h.sb⟩
/-- a map behind what grows another block -/
theorem MapI.grown {P : Program} {w w' : World} {k : TypeId} {b n : Nat} {f : Int → Option Value} {row : Option Nat} (h : MapI P w k b n f) (hg : w.grownBy w' row) (hne : some b ≠ row) : MapI P w' k b n f := by
  obtain ⟨D, h1, h2⟩ := h
  have hlt := h1.lt
  obtain ⟨es, clock, hh, r⟩ := h1
  exact ⟨D, ⟨es, clock, (hg.block b hlt hne).trans hh, r⟩, h2⟩
theorem map_ne_own {P : Program} {w : World} {k : TypeId} {b n m base e size : Nat} {f : Int → Option Value} {v : Value} {xs : List Value} (h : MapI P w k b n f) (ho : w.ownsRow base e size v m xs) : some b ≠ v.ownBlock := by
  intro e1
  obtain ⟨cs, fr, hh⟩ := own_typedS ho b e1.symm
  obtain ⟨D, ⟨es, clock, hh', _⟩, _⟩ := h
  rw [hh'] at hh
  cases hh
end Go.Proofs.YtncdjmpdbinanaaGreatDoor
namespace Go.Proofs.YtncdjmpdbinanaaGreatDoor
open Go.RowKit

/-- 11 cells stored into a box of the call's own -/
def st11 (w : World) (g : Nat) (b0 b1 b2 b3 b4 b5 b6 b7 b8 b9 b10 : Value) : World := ((((((((((w.setCell ⟨g, 0, none⟩ b0).setCell ⟨g, 1, none⟩ b1).setCell ⟨g, 2, none⟩ b2).setCell ⟨g, 3, none⟩ b3).setCell ⟨g, 4, none⟩ b4).setCell ⟨g, 5, none⟩ b5).setCell ⟨g, 6, none⟩ b6).setCell ⟨g, 7, none⟩ b7).setCell ⟨g, 8, none⟩ b8).setCell ⟨g, 9, none⟩ b9).setCell ⟨g, 10, none⟩ b10
theorem st11_blk {w : World} {g : Nat} {t : TypeId} {a0 a1 a2 a3 a4 a5 a6 a7 a8 a9 a10 : Value} (h : Blk w g t #[a0, a1, a2, a3, a4, a5, a6, a7, a8, a9, a10]) (b0 b1 b2 b3 b4 b5 b6 b7 b8 b9 b10 : Value) : Blk (st11 w g b0 b1 b2 b3 b4 b5 b6 b7 b8 b9 b10) g t #[b0, b1, b2, b3, b4, b5, b6, b7, b8, b9, b10] := by
  unfold st11
  have k0 : Blk (w.setCell ⟨g, 0, none⟩ b0) g t #[b0, a1, a2, a3, a4, a5, a6, a7, a8, a9, a10] := h.set_ 0 b0
  have k1 : Blk ((w.setCell ⟨g, 0, none⟩ b0).setCell ⟨g, 1, none⟩ b1) g t #[b0, b1, a2, a3, a4, a5, a6, a7, a8, a9, a10] := k0.set_ 1 b1
  have k2 : Blk (((w.setCell ⟨g, 0, none⟩ b0).setCell ⟨g, 1, none⟩ b1).setCell ⟨g, 2, none⟩ b2) g t #[b0, b1, b2, a3, a4, a5, a6, a7, a8, a9, a10] := k1.set_ 2 b2
  have k3 : Blk ((((w.setCell ⟨g, 0, none⟩ b0).setCell ⟨g, 1, none⟩ b1).setCell ⟨g, 2, none⟩ b2).setCell ⟨g, 3, none⟩ b3) g t #[b0, b1, b2, b3, a4, a5, a6, a7, a8, a9, a10] := k2.set_ 3 b3
  have k4 : Blk (((((w.setCell ⟨g, 0, none⟩ b0).setCell ⟨g, 1, none⟩ b1).setCell ⟨g, 2, none⟩ b2).setCell ⟨g, 3, none⟩ b3).setCell ⟨g, 4, none⟩ b4) g t #[b0, b1, b2, b3, b4, a5, a6, a7, a8, a9, a10] := k3.set_ 4 b4
  have k5 : Blk ((((((w.setCell ⟨g, 0, none⟩ b0).setCell ⟨g, 1, none⟩ b1).setCell ⟨g, 2, none⟩ b2).setCell ⟨g, 3, none⟩ b3).setCell ⟨g, 4, none⟩ b4).setCell ⟨g, 5, none⟩ b5) g t #[b0, b1, b2, b3, b4, b5, a6, a7, a8, a9, a10] := k4.set_ 5 b5
  have k6 : Blk (((((((w.setCell ⟨g, 0, none⟩ b0).setCell ⟨g, 1, none⟩ b1).setCell ⟨g, 2, none⟩ b2).setCell ⟨g, 3, none⟩ b3).setCell ⟨g, 4, none⟩ b4).setCell ⟨g, 5, none⟩ b5).setCell ⟨g, 6, none⟩ b6) g t #[b0, b1, b2, b3, b4, b5, b6, a7, a8, a9, a10] := k5.set_ 6 b6
  have k7 : Blk ((((((((w.setCell ⟨g, 0, none⟩ b0).setCell ⟨g, 1, none⟩ b1).setCell ⟨g, 2, none⟩ b2).setCell ⟨g, 3, none⟩ b3).setCell ⟨g, 4, none⟩ b4).setCell ⟨g, 5, none⟩ b5).setCell ⟨g, 6, none⟩ b6).setCell ⟨g, 7, none⟩ b7) g t #[b0, b1, b2, b3, b4, b5, b6, b7, a8, a9, a10] := k6.set_ 7 b7
  have k8 : Blk (((((((((w.setCell ⟨g, 0, none⟩ b0).setCell ⟨g, 1, none⟩ b1).setCell ⟨g, 2, none⟩ b2).setCell ⟨g, 3, none⟩ b3).setCell ⟨g, 4, none⟩ b4).setCell ⟨g, 5, none⟩ b5).setCell ⟨g, 6, none⟩ b6).setCell ⟨g, 7, none⟩ b7).setCell ⟨g, 8, none⟩ b8) g t #[b0, b1, b2, b3, b4, b5, b6, b7, b8, a9, a10] := k7.set_ 8 b8
  have k9 : Blk ((((((((((w.setCell ⟨g, 0, none⟩ b0).setCell ⟨g, 1, none⟩ b1).setCell ⟨g, 2, none⟩ b2).setCell ⟨g, 3, none⟩ b3).setCell ⟨g, 4, none⟩ b4).setCell ⟨g, 5, none⟩ b5).setCell ⟨g, 6, none⟩ b6).setCell ⟨g, 7, none⟩ b7).setCell ⟨g, 8, none⟩ b8).setCell ⟨g, 9, none⟩ b9) g t #[b0, b1, b2, b3, b4, b5, b6, b7, b8, b9, a10] := k8.set_ 9 b9
  have k10 : Blk (((((((((((w.setCell ⟨g, 0, none⟩ b0).setCell ⟨g, 1, none⟩ b1).setCell ⟨g, 2, none⟩ b2).setCell ⟨g, 3, none⟩ b3).setCell ⟨g, 4, none⟩ b4).setCell ⟨g, 5, none⟩ b5).setCell ⟨g, 6, none⟩ b6).setCell ⟨g, 7, none⟩ b7).setCell ⟨g, 8, none⟩ b8).setCell ⟨g, 9, none⟩ b9).setCell ⟨g, 10, none⟩ b10) g t #[b0, b1, b2, b3, b4, b5, b6, b7, b8, b9, b10] := k9.set_ 10 b10
  exact k10
theorem st11_below {w W : World} {g : Nat} (b0 b1 b2 b3 b4 b5 b6 b7 b8 b9 b10 : Value) (h : Below W.heap.size W w) (hg : W.heap.size ≤ g) : Below W.heap.size W (st11 w g b0 b1 b2 b3 b4 b5 b6 b7 b8 b9 b10) :=
  (((((((((((h.setCell (p := ⟨g, 0, none⟩) hg _).setCell (p := ⟨g, 1, none⟩) hg _).setCell (p := ⟨g, 2, none⟩) hg _).setCell (p := ⟨g, 3, none⟩) hg _).setCell (p := ⟨g, 4, none⟩) hg _).setCell (p := ⟨g, 5, none⟩) hg _).setCell (p := ⟨g, 6, none⟩) hg _).setCell (p := ⟨g, 7, none⟩) hg _).setCell (p := ⟨g, 8, none⟩) hg _).setCell (p := ⟨g, 9, none⟩) hg _).setCell (p := ⟨g, 10, none⟩) hg _)
theorem st11_reads {w : World} {g : Nat} {t : TypeId} {cs : Array Value} (h : Blk w g t cs) (b0 b1 b2 b3 b4 b5 b6 b7 b8 b9 b10 : Value) {B : Nat} (hg : B ≤ g) {e : TypeId} (hne : e ≠ t) {size n : Nat} {A : Option Addr} {xs : List Value} (hr : Reads w B e size A n xs) :
    Reads (st11 w g b0 b1 b2 b3 b4 b5 b6 b7 b8 b9 b10) B e size A n xs := by
  unfold st11
  have r0 := Reads.far hr h hg hne 0 b0
  have k0 := h.set_ 0 b0
  have r1 := Reads.far r0 k0 hg hne 1 b1
  have k1 := k0.set_ 1 b1
  have r2 := Reads.far r1 k1 hg hne 2 b2
  have k2 := k1.set_ 2 b2
  have r3 := Reads.far r2 k2 hg hne 3 b3
  have k3 := k2.set_ 3 b3
  have r4 := Reads.far r3 k3 hg hne 4 b4
  have k4 := k3.set_ 4 b4
  have r5 := Reads.far r4 k4 hg hne 5 b5
  have k5 := k4.set_ 5 b5
  have r6 := Reads.far r5 k5 hg hne 6 b6
  have k6 := k5.set_ 6 b6
  have r7 := Reads.far r6 k6 hg hne 7 b7
  have k7 := k6.set_ 7 b7
  have r8 := Reads.far r7 k7 hg hne 8 b8
  have k8 := k7.set_ 8 b8
  have r9 := Reads.far r8 k8 hg hne 9 b9
  have k9 := k8.set_ 9 b9
  have r10 := Reads.far r9 k9 hg hne 10 b10
  exact r10
theorem st11_far {w : World} {g g' : Nat} {t : TypeId} {cs : Array Value} (h : Blk w g t cs) (hg : g ≠ g') (b0 b1 b2 b3 b4 b5 b6 b7 b8 b9 b10 : Value) : Blk (st11 w g' b0 b1 b2 b3 b4 b5 b6 b7 b8 b9 b10) g t cs := by
  unfold st11
  exact (((((((((((h.far (by exact hg) _).far (by exact hg) _).far (by exact hg) _).far (by exact hg) _).far (by exact hg) _).far (by exact hg) _).far (by exact hg) _).far (by exact hg) _).far (by exact hg) _).far (by exact hg) _).far (by exact hg) _)
theorem blk11f {w : World} {g : Nat} {t : TypeId} {a0 a1 a2 a3 a4 a5 a6 a7 a8 a9 a10 : Value} (h : Blk w g t #[a0, a1, a2, a3, a4, a5, a6, a7, a8, a9, a10]) :
    g < w.heap.size ∧ w.cell? ⟨g, 0, none⟩ = some a0 ∧ w.cell? ⟨g, 1, none⟩ = some a1 ∧ w.cell? ⟨g, 2, none⟩ = some a2 ∧ w.cell? ⟨g, 3, none⟩ = some a3 ∧ w.cell? ⟨g, 4, none⟩ = some a4 ∧ w.cell? ⟨g, 5, none⟩ = some a5 ∧ w.cell? ⟨g, 6, none⟩ = some a6 ∧ w.cell? ⟨g, 7, none⟩ = some a7 ∧ w.cell? ⟨g, 8, none⟩ = some a8 ∧ w.cell? ⟨g, 9, none⟩ = some a9 ∧ w.cell? ⟨g, 10, none⟩ = some a10 ∧ w.frozen? ⟨g, 0, none⟩ = false ∧ w.frozen? ⟨g, 1, none⟩ = false ∧ w.frozen? ⟨g, 2, none⟩ = false ∧ w.frozen? ⟨g, 3, none⟩ = false ∧ w.frozen? ⟨g, 4, none⟩ = false ∧ w.frozen? ⟨g, 5, none⟩ = false ∧ w.frozen? ⟨g, 6, none⟩ = false ∧ w.frozen? ⟨g, 7, none⟩ = false ∧ w.frozen? ⟨g, 8, none⟩ = false ∧ w.frozen? ⟨g, 9, none⟩ = false ∧ w.frozen? ⟨g, 10, none⟩ = false :=
  ⟨h.lt, h.cell 0, h.cell 1, h.cell 2, h.cell 3, h.cell 4, h.cell 5, h.cell 6, h.cell 7, h.cell 8, h.cell 9, h.cell 10, h.frozen 0, h.frozen 1, h.frozen 2, h.frozen 3, h.frozen 4, h.frozen 5, h.frozen 6, h.frozen 7, h.frozen 8, h.frozen 9, h.frozen 10⟩
end Go.Proofs.YtncdjmpdbinanaaGreatDoor
