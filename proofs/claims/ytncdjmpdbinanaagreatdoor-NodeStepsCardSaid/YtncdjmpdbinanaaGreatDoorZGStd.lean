/-
  WHAT IS PROVED HERE: what a node is when it stands up, and whom it asks, as data; what the closure that asks hands back. No condition.
  WHAT IS PROVED HERE: nodes stay what they are while boxes, maps and rows of messages of the call's own are written; a row of the call's own of which one element is laid anew. No condition.
  WHAT IS PROVED HERE: a message and a state stored whole into a box of the call's own. No condition.
-/
import Derived.Test.YtncdjmpdbinanaaGreatDoorZGEl1
import Derived.Test.YtncdjmpdbinanaaGreatDoorZGMem
import Derived.Test.YtncdjmpdbinanaaGreatDoorZQrmV
import Derived.Test.YtncdjmpdbinanaaGreatDoorZQrm2
import Derived.Test.YtncdjmpdbinanaaGreatDoorZGReg
import Derived.Test.YtncdjmpdbinanaaGreatDoorZGTab
import Derived.Test.YtncdjmpdbinanaaGreatDoorZGJrn
namespace Go.Proofs.YtncdjmpdbinanaaGreatDoor
open Go.RowKit

def votersN (N : Nd) : List Int := (ofF N.h.l.base 0 (N.h.vs, N.h.l.base) N.h.l.rs).1
def timN (N : Nd) (d : Int) : Nd := ⟨N.id, N.h, N.role, N.lead, min (max d 0) 1048576, N.commit, N.got, N.ps⟩
/-- does the node stand up? -/
def standC (N : Nd) : Bool := rightN N && (decide (N.h.t < 1073741824) && inL N.id (votersN N))
def upN (N : Nd) (d : Int) : Nd := ⟨N.id, ⟨N.h.t + 1, N.id, N.h.l, N.h.s, N.h.vs⟩, 1, 0, min (max d 0) 1048576, N.commit, [N.id], []⟩
def standN (N : Nd) (d : Int) : Nd := if rightN N then (if standC N then upN N d else timN N d) else N
def askM (id t at' term v : Int) : Ms := ⟨1, id, v, t, false, at', term, [], 0, ⟨#[]⟩, []⟩
def asks (id t at' term : Int) (vs : List Int) : List Ms := (vs.filter (fun v => !(v == id))).map (askM id t at' term)
def standL (N : Nd) : List Ms := if standC N then asks N.id (N.h.t + 1) (lastJ N.h.l) ((termJ N.h.l (lastJ N.h.l)).getD 0) (votersN N) else []
def standW (N : Nd) : Bool := standC N && winsL (votersN N) [N.id]
theorem tim_right {N : Nd} (d : Int) (h : rightN N = true) : rightN (timN N d) = true := by
  unfold rightN timN at *
  simp only [Bool.and_eq_true] at h ⊢
  refine ⟨h.1, h.2.1, h.2.2.1, h.2.2.2.1, h.2.2.2.2.1, h.2.2.2.2.2.1, ?_, h.2.2.2.2.2.2.2⟩
  simp [inB]
  omega
theorem tim_ok {w : World} {B : Nat} {N : Nd} {a : NdA} (h : NdOk w B N a) (d : Int) : NdOk w B (timN N d) a := ⟨h.recs, h.rc, h.rb, h.vs, h.vc, h.vb, h.sb, h.got, h.gc, h.gb, h.ps, h.pc, h.pb⟩
theorem later_up {N : Nd} {a : NdA} (d : Int) (h : rightN N = true) (ht : N.h.t < 1073741824) : laterN (timN N d) (N.h.t + 1) = ⟨N.id, ⟨N.h.t + 1, 0, N.h.l, N.h.s, N.h.vs⟩, 0, 0, min (max d 0) 1048576, N.commit, [], []⟩ ∧ laterA (timN N d) (N.h.t + 1) a = ⟨a.R, a.V, ⟨none, 0, 0⟩, ⟨none, 0, 0⟩⟩ := by
  have hc : laterC (timN N d) (N.h.t + 1) = true := by
    unfold laterC
    rw [tim_right d h, Bool.true_and, Bool.and_eq_true, decide_eq_true_eq, decide_eq_true_eq]
    exact ⟨by show N.h.t < N.h.t + 1; omega, by omega⟩
  unfold laterN laterA
  rw [hc]
  exact ⟨rfl, rfl⟩
theorem right_n {N : Nd} (h : rightN N = true) : rightJ N.h.l = true ∧ rightL N.h.vs = true ∧ 0 ≤ N.h.t ∧ N.h.t ≤ 1073741824 ∧ 1 ≤ N.id ∧ N.id ≤ 9 := by
  unfold rightN at h
  simp only [Bool.and_eq_true] at h
  have hs := right_shaped h.2.1
  have hb := shaped_bounds hs
  have hi := h.1
  simp only [inB, Bool.and_eq_true, decide_eq_true_eq] at hi
  exact ⟨shaped_J hs, h.2.2.1, hb.1.1, hb.1.2, hi.1, hi.2⟩
theorem blk11s {w : World} {g : Nat} {t : TypeId} {a0 a1 a2 a3 a4 a5 a6 a7 a8 a9 a10 : Value} (h : Blk w g t #[a0, a1, a2, a3, a4, a5, a6, a7, a8, a9, a10]) : g < w.heap.size ∧ w.cell? ⟨g, 0, none⟩ = some a0 ∧ w.cell? ⟨g, 1, none⟩ = some a1 ∧ w.cell? ⟨g, 2, none⟩ = some a2 ∧ w.cell? ⟨g, 3, none⟩ = some a3 ∧ w.cell? ⟨g, 4, none⟩ = some a4 ∧ w.cell? ⟨g, 5, none⟩ = some a5 ∧ w.cell? ⟨g, 6, none⟩ = some a6 ∧ w.cell? ⟨g, 7, none⟩ = some a7 ∧ w.cell? ⟨g, 8, none⟩ = some a8 ∧ w.cell? ⟨g, 9, none⟩ = some a9 ∧ w.cell? ⟨g, 10, none⟩ = some a10 := ⟨h.lt, h.cell 0, h.cell 1, h.cell 2, h.cell 3, h.cell 4, h.cell 5, h.cell 6, h.cell 7, h.cell 8, h.cell 9, h.cell 10⟩
theorem set14_farS {w : World} {g g' : Nat} {t : TypeId} {cs : Array Value} (h : Blk w g t cs) (hg : g ≠ g') (b0 b1 b2 b3 b4 b5 b6 b7 b8 b9 b10 b11 b12 b13 : Value) : Blk (set14 w g' b0 b1 b2 b3 b4 b5 b6 b7 b8 b9 b10 b11 b12 b13) g t cs := by
  unfold set14
  exact (((((((((((((h.far (by exact hg) _).far (by exact hg) _).far (by exact hg) _).far (by exact hg) _).far (by exact hg) _).far (by exact hg) _).far (by exact hg) _).far (by exact hg) _).far (by exact hg) _).far (by exact hg) _).far (by exact hg) _).far (by exact hg) _).far (by exact hg) _).far (by exact hg) _
theorem reads_stay {w w' : World} {e : TypeId} {size n : Nat} {A : Option Addr} {xs : List Value} {row : Option Nat} (h : Reads w 0 e size A n xs) (hg : w.grownBy w' row) (hr : ∀ k, row = some k → ∃ t cs fr, w.heap[k]? = some (.cells cs t fr) ∧ t ≠ e) : Reads w' 0 e size A n xs :=
  ⟨h.1, fun hn => by
    obtain ⟨b, o, ea, hlt, ht, hc⟩ := h.2 hn
    rcases ht with ht | ⟨cs, fr, ht⟩
    · omega
    have hne : some b ≠ row := by
      intro e1
      obtain ⟨t, cs', fr', h1, h2⟩ := hr b e1.symm
      rw [h1] at ht
      injection ht with ht
      injection ht with _ h3
      exact h2 h3
    have hbk := hg.block b hlt hne
    exact ⟨b, o, ea, Nat.lt_of_lt_of_le hlt hg.size, .inr ⟨cs, fr, hbk.trans ht⟩, fun j u hu => (World.cell?_of_block (a := ⟨b, o + j, none⟩) hbk).trans (hc j u hu)⟩⟩
theorem own_typedS {w : World} {B : Nat} {e : TypeId} {size n : Nat} {v : Value} {xs : List Value} (h : w.ownsRow B e size v n xs) : ∀ k, v.ownBlock = some k → ∃ cs fr, w.heap[k]? = some (.cells cs e fr) := by
  intro k hk
  rcases h.2 with ⟨rfl, _⟩ | ⟨g, cap, cur, rfl, hb, hg, _⟩
  · simp [Value.ownBlock] at hk
  · simp [Value.ownBlock] at hk
    subst hk
    exact ⟨cur, _, hg⟩
theorem msg_one (ms : List (Ms × MsA)) : ∀ u ∈ mgsL ms, u.oneCell' = true := by
  intro u hu
  obtain ⟨p, _, hp⟩ := List.mem_flatMap.1 hu
  simp [msgCells] at hp
  rcases hp with rfl | rfl | rfl | rfl | rfl | rfl | rfl | rfl | rfl | rfl | rfl <;> rfl
theorem msgInfo : (Tryz.prog.info? 32).map (fun i => (i.zero, i.size, i.bytes)) = some (some (.agg #[.int .i64 0, .int .i64 0, .int .i64 0, .int .i64 0, .bool false, .int .i64 0, .int .i64 0, .slice none 0 0, .int .i64 0, .string ByteArray.empty, .slice none 0 0]), 11, 128) := by kernel_rfl
theorem ints_one {w : World} {g : Nat} {x : Int} (h : Blk w g 3 #[.int .i64 x]) : Ints w 0 (some ⟨g, 0, none⟩) 1 [x] := by
  refine ⟨rfl, fun _ => ⟨g, 0, rfl, h.lt, .inr ⟨_, _, h⟩, fun j u hu => ?_⟩⟩
  rw [Nat.zero_add, h.cell j]
  simpa [vint] using hu
theorem own14 {w : World} {g n size base : Nat} {e : TypeId} {v : Value} {xs : List Value} {t : TypeId} {a0 a1 a2 a3 a4 a5 a6 a7 a8 a9 a10 a11 a12 a13 : Value} (h : w.ownsRow base e size v n xs) (k : Blk w g t #[a0, a1, a2, a3, a4, a5, a6, a7, a8, a9, a10, a11, a12, a13]) (hne : e ≠ t) (b0 b1 b2 b3 b4 b5 b6 b7 b8 b9 b10 b11 b12 b13 : Value) : (set14 w g b0 b1 b2 b3 b4 b5 b6 b7 b8 b9 b10 b11 b12 b13).ownsRow base e size v n xs := by
  unfold set14
  have r0 := own_far h k hne 0 b0
  have k0 := Blk.set_ k 0 b0
  have r1 := own_far r0 k0 hne 1 b1
  have k1 := Blk.set_ k0 1 b1
  have r2 := own_far r1 k1 hne 2 b2
  have k2 := Blk.set_ k1 2 b2
  have r3 := own_far r2 k2 hne 3 b3
  have k3 := Blk.set_ k2 3 b3
  have r4 := own_far r3 k3 hne 4 b4
  have k4 := Blk.set_ k3 4 b4
  have r5 := own_far r4 k4 hne 5 b5
  have k5 := Blk.set_ k4 5 b5
  have r6 := own_far r5 k5 hne 6 b6
  have k6 := Blk.set_ k5 6 b6
  have r7 := own_far r6 k6 hne 7 b7
  have k7 := Blk.set_ k6 7 b7
  have r8 := own_far r7 k7 hne 8 b8
  have k8 := Blk.set_ k7 8 b8
  have r9 := own_far r8 k8 hne 9 b9
  have k9 := Blk.set_ k8 9 b9
  have r10 := own_far r9 k9 hne 10 b10
  have k10 := Blk.set_ k9 10 b10
  have r11 := own_far r10 k10 hne 11 b11
  have k11 := Blk.set_ k10 11 b11
  have r12 := own_far r11 k11 hne 12 b12
  have k12 := Blk.set_ k11 12 b12
  have r13 := own_far r12 k12 hne 13 b13
  exact r13
def pairM (l : List Ms) : List (Ms × MsA) := l.map fun M => (M, nilMA)
theorem asks_no {id t at' term : Int} {xs : List Int} {k : Nat} {x : Int} (hd : xs.drop k = x :: xs.drop (k + 1)) (hx : x = id) : asks id t at' term (xs.take (k + 1)) = asks id t at' term (xs.take k) := by
  unfold asks
  rw [take_snoc hd, List.filter_append]
  simp [hx]
theorem asks_yes {id t at' term : Int} {xs : List Int} {k : Nat} {x : Int} (hd : xs.drop k = x :: xs.drop (k + 1)) (hx : ¬ x = id) : asks id t at' term (xs.take (k + 1)) = asks id t at' term (xs.take k) ++ [askM id t at' term x] := by
  unfold asks
  rw [take_snoc hd, List.filter_append, List.map_append]
  simp [hx]
theorem asks_len (id t at' term : Int) (xs : List Int) : (asks id t at' term xs).length ≤ xs.length := by
  unfold asks
  rw [List.length_map]
  exact List.length_filter_le _ _
theorem mgs_of_own {w : World} {B n c : Nat} {A : Option Addr} {l : List Ms} (h : w.ownsRow B 32 11 (.slice A n c) n (mgsL (pairM l))) (hs : ∀ M ∈ l, M.rs = [] ∧ M.vs = [] ∧ M.s.size = 0) : Mgs w 0 A n (l.map fun M => (M, nilMA)) := by
  refine ⟨Reads.of_own h, fun p hp => ?_⟩
  · obtain ⟨M, hM, rfl⟩ := List.mem_map.1 hp
    obtain ⟨h1, h2, h3⟩ := hs M hM
    exact nilMA_ok h1 h2 h3
theorem of_right (base : Int) {zs : List Int} (rs : List Rec) (h : rightL zs = true) : rightL (ofF base 0 (zs, base) rs).1 = true := by
  have go : ∀ (rs : List Rec) (i : Nat) (cur : List Int × Int), rightL cur.1 = true → rightL (ofF base i cur rs).1 = true := by
    intro rs
    induction rs with
    | nil => intro i cur hc; exact hc
    | cons r rs ih =>
      intro i cur hc
      rw [ofF]
      apply ih
      cases hq : qual r with
      | none => exact hc
      | some x =>
        unfold qual at hq
        split at hq
        · exact parse_right hq
        · cases hq
  exact go rs 0 (zs, base) h
theorem asks_nil {id t at' term : Int} {xs : List Int} : ∀ M ∈ asks id t at' term xs, M.rs = [] ∧ M.vs = [] ∧ M.s.size = 0 := by
  intro M hM
  unfold asks at hM
  obtain ⟨v, _, rfl⟩ := List.mem_map.1 hM
  exact ⟨rfl, rfl, rfl⟩
set_option maxRecDepth 100000 in
theorem Stand1_any (id t at' term v : Int) (g2 g9 g10 : Nat) (w : World) (h0 : w.cell? ⟨g2, 0, none⟩ = some (.int .i64 id)) (h1 : w.cell? ⟨g2, 1, none⟩ = some (.int .i64 t)) (h2 : w.cell? ⟨g9, 0, none⟩ = some (.int .i64 at')) (h3 : w.cell? ⟨g10, 0, none⟩ = some (.int .i64 term)) :
    Calls Tryz.prog 139 #[.int .i64 v, .pointer (some ⟨g2, 0, none⟩), .pointer (some ⟨g9, 0, none⟩), .pointer (some ⟨g10, 0, none⟩)] w fun e w' => e = .returned (.agg #[.int .i64 1, .int .i64 id, .int .i64 v, .int .i64 t, .bool false, .int .i64 at', .int .i64 term, .slice none 0 0, .int .i64 0, .string ⟨#[]⟩, .slice none 0 0]) ∧ Below w.heap.size w w' := by
  have n2 := cell_lt h0
  have n9 := cell_lt h2
  have n10 := cell_lt h3
  have q0 : Below w.heap.size w (w.alloc (.cells #[.int .i64 1, .int .i64 id, .int .i64 v, .int .i64 t, .bool false, .int .i64 at', .int .i64 term, .slice none 0 0, .int .i64 0, .string ⟨#[]⟩, .slice none 0 0] 32)) := by go_grown
  have kB : Blk (w.alloc (.cells #[.int .i64 1, .int .i64 id, .int .i64 v, .int .i64 t, .bool false, .int .i64 at', .int .i64 term, .slice none 0 0, .int .i64 0, .string ⟨#[]⟩, .slice none 0 0] 32)) w.heap.size 32 #[.int .i64 1, .int .i64 id, .int .i64 v, .int .i64 t, .bool false, .int .i64 at', .int .i64 term, .slice none 0 0, .int .i64 0, .string ⟨#[]⟩, .slice none 0 0] := Blk.new _ _ _
  obtain ⟨wz, hwz⟩ : ∃ wz, w.alloc (.cells #[.int .i64 1, .int .i64 id, .int .i64 v, .int .i64 t, .bool false, .int .i64 at', .int .i64 term, .slice none 0 0, .int .i64 0, .string ⟨#[]⟩, .slice none 0 0] 32) = wz := ⟨_, rfl⟩
  rw [hwz] at q0 kB
  replace hwz := hid_mk hwz
  refine calls_of_wpQ Tryz.func139 rfl ?_
  intro Q hQ
  simp only [Tryz.ntmps139, List.size_toArray, List.length_cons, List.length_nil, Nat.reduceAdd, Nat.reduceSub, Array.replicate_succ, Array.replicate_zero, List.push_toArray, List.append_toArray, List.nil_append, List.cons_append]
  go_wp2
  rw [hwz.out]
  obtain ⟨_, r0, r1, r2, r3, r4, r5, r6, r7, r8, r9, r10⟩ := blk11s kB
  refine ends_ret hQ (v := .agg #[.int .i64 1, .int .i64 id, .int .i64 v, .int .i64 t, .bool false, .int .i64 at', .int .i64 term, .slice none 0 0, .int .i64 0, .string ⟨#[]⟩, .slice none 0 0]) (by simp [results, Tryz.results139, go_sem, r0, r1, r2, r3, r4, r5, r6, r7, r8, r9, r10]) rfl ?_
  exact ⟨rfl, q0⟩
end Go.Proofs.YtncdjmpdbinanaaGreatDoor
namespace Go.Proofs.YtncdjmpdbinanaaGreatDoor
open Go.RowKit Go.Maps

/-- blocks below B, and rows of ints, records, peers, stay as they are -/
def KR (w w' : World) (B : Nat) : Prop := w.heap.size ≤ w'.heap.size ∧ ∀ (k : Nat) (o : Obj), w.heap[k]? = some o → (k < B ∨ ∃ cs e fr, o = .cells cs e fr ∧ (e = 3 ∨ e = 51 ∨ e = 53)) → w'.heap[k]? = some o
section
variable {w w' w'' : World} {B : Nat}
theorem KR.refl (w : World) (B : Nat) : KR w w B := ⟨Nat.le_refl _, fun _ _ h _ => h⟩
theorem KR.trans (h : KR w w' B) (h' : KR w' w'' B) : KR w w'' B := ⟨Nat.le_trans h.1 h'.1, fun k o ho hc => h'.2 k o (h.2 k o ho hc) hc⟩
theorem KR.low {B' : Nat} (h : KR w w' B) (hB : B' ≤ B) : KR w w' B' := ⟨h.1, fun k o ho hc => h.2 k o ho (by rcases hc with hc | hc; exact .inl (by omega); exact .inr hc)⟩
theorem KR.below (h : Below w.heap.size w w') : KR w w' B := ⟨h.size, fun k o ho _ => (h.block k (by
  rcases Nat.lt_or_ge k w.heap.size with h1 | h1
  · exact h1
  · rw [Array.getElem?_eq_none h1] at ho; cases ho)).trans ho⟩
theorem KR.alloc (w : World) (o : Obj) : KR w (w.alloc o) B := .below ((Below.refl _ _).alloc (Nat.le_refl _) o)
theorem KR.grown {row : Option Nat} (h : w.grownBy w' row) (hr : ∀ k, row = some k → B ≤ k ∧ ∀ cs e fr, w.heap[k]? = some (.cells cs e fr) → e ≠ 3 ∧ e ≠ 51 ∧ e ≠ 53) : KR w w' B := by
  refine ⟨h.size, fun k o ho hc => (h.block k ?_ ?_).trans ho⟩
  · rcases Nat.lt_or_ge k w.heap.size with h1 | h1
    · exact h1
    · rw [Array.getElem?_eq_none h1] at ho; cases ho
  · intro e
    obtain ⟨h1, h2⟩ := hr k e.symm
    rcases hc with hc | ⟨cs, e', fr, rfl, he⟩
    · omega
    · have := h2 cs e' fr ho
      rcases he with he | he | he
      · exact this.1 he
      · exact this.2.1 he
      · exact this.2.2 he
theorem KR.map {P : Program} {k : TypeId} {b n : Nat} {f : Int → Option Value} (hm : MapI P w k b n f) (hb : B ≤ b) (h : w.grownBy w' (some b)) : KR w w' B := by
  refine KR.grown h (fun k' e => ?_)
  cases e
  refine ⟨hb, fun cs e fr hh => ?_⟩
  obtain ⟨D, ⟨es, clock, hh', _⟩, _⟩ := hm
  rw [hh'] at hh
  cases hh
theorem KR.own {n : Nat} {v : Value} {xs : List Value} (ho : w.ownsRow B 32 11 v n xs) (h : w.grownBy w' v.ownBlock) : KR w w' B := by
  refine KR.grown h (fun k e => ⟨(World.ownsRow.lt ho k e).1, fun cs e' fr hh => ?_⟩)
  obtain ⟨cs', fr', h2⟩ := own_typedS ho k e
  rw [h2] at hh
  cases hh
  exact ⟨by decide, by decide, by decide⟩
theorem KR.st14 {g : Nat} {a0 a1 a2 a3 a4 a5 a6 a7 a8 a9 a10 a11 a12 a13 : Value} (h : Blk w g 30 #[a0, a1, a2, a3, a4, a5, a6, a7, a8, a9, a10, a11, a12, a13]) (hg : B ≤ g) (b0 b1 b2 b3 b4 b5 b6 b7 b8 b9 b10 b11 b12 b13 : Value) : KR w (set14 w g b0 b1 b2 b3 b4 b5 b6 b7 b8 b9 b10 b11 b12 b13) B := by
  have hs : (set14 w g b0 b1 b2 b3 b4 b5 b6 b7 b8 b9 b10 b11 b12 b13).heap.size = w.heap.size := by simp [set14, World.setCell]
  refine ⟨by rw [hs]; exact Nat.le_refl _, fun k o ho hc => ?_⟩
  have hne : k ≠ g := by
    rintro rfl
    rcases hc with hc | ⟨cs, e', fr, rfl, he⟩
    · omega
    · unfold Blk at h
      rw [h] at ho
      cases ho
      revert he
      decide
  unfold set14
  repeat rw [Below.heap_setCell _ _ _ _ (by exact hne)]
  exact ho
theorem Reads.kr {e : TypeId} {size n : Nat} {A : Option Addr} {xs : List Value} (h : Reads w B e size A n xs) (he : e = 3 ∨ e = 51 ∨ e = 53) (hk : KR w w' B) : Reads w' B e size A n xs :=
  ⟨h.1, fun hn => by
    obtain ⟨b, o, ea, hlt, ht, hc⟩ := h.2 hn
    have hbk : w'.heap[b]? = w.heap[b]? := by
      obtain ⟨ob, hob⟩ : ∃ o, w.heap[b]? = some o := ⟨_, Array.getElem?_eq_getElem hlt⟩
      rw [hob]
      refine hk.2 b ob hob ?_
      rcases ht with ht | ⟨cs, fr, ht⟩
      · exact .inl ht
      · rw [ht] at hob
        cases hob
        exact .inr ⟨cs, e, fr, rfl, he⟩
    refine ⟨b, o, ea, Nat.lt_of_lt_of_le hlt hk.1, ?_, fun j u hu => (World.cell?_of_block (a := ⟨b, o + j, none⟩) hbk).trans (hc j u hu)⟩
    rcases ht with ht | ⟨cs, fr, ht⟩
    · exact .inl ht
    · exact .inr ⟨cs, fr, hbk.trans ht⟩⟩
theorem NdOk.kr {N : Nd} {a : NdA} (h : NdOk w B N a) (hk : KR w w' B) : NdOk w' B N a :=
  ⟨h.recs.kr (.inr (.inl rfl)) hk, h.rc, h.rb, h.vs.kr (.inl rfl) hk, h.vc, h.vb, h.sb, h.got.kr (.inl rfl) hk, h.gc, h.gb, h.ps.kr (.inr (.inr rfl)) hk, h.pc, h.pb⟩
end
theorem MsOk.kr' {w w' : World} {B : Nat} {M : Ms} {a : MsA} (h : MsOk w B M a) (hk : KR w w' B) : MsOk w' B M a :=
  ⟨h.recs.kr (.inr (.inl rfl)) hk, h.rc, h.rb, h.vs.kr (.inl rfl) hk, h.vc, h.vb, h.sb⟩
/-- a map behind what grows another block -/
theorem MapI.grown {P : Program} {w w' : World} {k : TypeId} {b n : Nat} {f : Int → Option Value} {row : Option Nat} (h : MapI P w k b n f) (hg : w.grownBy w' row) (hne : some b ≠ row) : MapI P w' k b n f := by
  obtain ⟨D, h1, h2⟩ := h
  have hlt := h1.lt
  obtain ⟨es, clock, hh, r⟩ := h1
  exact ⟨D, ⟨es, clock, (hg.block b hlt hne).trans hh, r⟩, h2⟩
theorem map_ne_own {P : Program} {w : World} {k : TypeId} {b n m base e size : Nat} {f : Int → Option Value} {v : Value} {xs : List Value} (h : MapI P w k b n f) (ho : w.ownsRow base e size v m xs) : some b ≠ v.ownBlock := by
  intro e1
  obtain ⟨cs, fr, hh⟩ := own_typedS ho b e1.symm
  obtain ⟨D, ⟨es, clock, hh', _⟩, _⟩ := h
  rw [hh'] at hh
  cases hh
end Go.Proofs.YtncdjmpdbinanaaGreatDoor
namespace Go.Proofs.YtncdjmpdbinanaaGreatDoor
open Go.RowKit

/-- 11 cells stored into a box of the call's own -/
def st11 (w : World) (g : Nat) (b0 b1 b2 b3 b4 b5 b6 b7 b8 b9 b10 : Value) : World := ((((((((((w.setCell ⟨g, 0, none⟩ b0).setCell ⟨g, 1, none⟩ b1).setCell ⟨g, 2, none⟩ b2).setCell ⟨g, 3, none⟩ b3).setCell ⟨g, 4, none⟩ b4).setCell ⟨g, 5, none⟩ b5).setCell ⟨g, 6, none⟩ b6).setCell ⟨g, 7, none⟩ b7).setCell ⟨g, 8, none⟩ b8).setCell ⟨g, 9, none⟩ b9).setCell ⟨g, 10, none⟩ b10
theorem st11_blk {w : World} {g : Nat} {t : TypeId} {a0 a1 a2 a3 a4 a5 a6 a7 a8 a9 a10 : Value} (h : Blk w g t #[a0, a1, a2, a3, a4, a5, a6, a7, a8, a9, a10]) (b0 b1 b2 b3 b4 b5 b6 b7 b8 b9 b10 : Value) : Blk (st11 w g b0 b1 b2 b3 b4 b5 b6 b7 b8 b9 b10) g t #[b0, b1, b2, b3, b4, b5, b6, b7, b8, b9, b10] := by
  unfold st11
  have k0 : Blk (w.setCell ⟨g, 0, none⟩ b0) g t #[b0, a1, a2, a3, a4, a5, a6, a7, a8, a9, a10] := h.set_ 0 b0
  have k1 : Blk ((w.setCell ⟨g, 0, none⟩ b0).setCell ⟨g, 1, none⟩ b1) g t #[b0, b1, a2, a3, a4, a5, a6, a7, a8, a9, a10] := k0.set_ 1 b1
  have k2 : Blk (((w.setCell ⟨g, 0, none⟩ b0).setCell ⟨g, 1, none⟩ b1).setCell ⟨g, 2, none⟩ b2) g t #[b0, b1, b2, a3, a4, a5, a6, a7, a8, a9, a10] := k1.set_ 2 b2
  have k3 : Blk ((((w.setCell ⟨g, 0, none⟩ b0).setCell ⟨g, 1, none⟩ b1).setCell ⟨g, 2, none⟩ b2).setCell ⟨g, 3, none⟩ b3) g t #[b0, b1, b2, b3, a4, a5, a6, a7, a8, a9, a10] := k2.set_ 3 b3
  have k4 : Blk (((((w.setCell ⟨g, 0, none⟩ b0).setCell ⟨g, 1, none⟩ b1).setCell ⟨g, 2, none⟩ b2).setCell ⟨g, 3, none⟩ b3).setCell ⟨g, 4, none⟩ b4) g t #[b0, b1, b2, b3, b4, a5, a6, a7, a8, a9, a10] := k3.set_ 4 b4
  have k5 : Blk ((((((w.setCell ⟨g, 0, none⟩ b0).setCell ⟨g, 1, none⟩ b1).setCell ⟨g, 2, none⟩ b2).setCell ⟨g, 3, none⟩ b3).setCell ⟨g, 4, none⟩ b4).setCell ⟨g, 5, none⟩ b5) g t #[b0, b1, b2, b3, b4, b5, a6, a7, a8, a9, a10] := k4.set_ 5 b5
  have k6 : Blk (((((((w.setCell ⟨g, 0, none⟩ b0).setCell ⟨g, 1, none⟩ b1).setCell ⟨g, 2, none⟩ b2).setCell ⟨g, 3, none⟩ b3).setCell ⟨g, 4, none⟩ b4).setCell ⟨g, 5, none⟩ b5).setCell ⟨g, 6, none⟩ b6) g t #[b0, b1, b2, b3, b4, b5, b6, a7, a8, a9, a10] := k5.set_ 6 b6
  have k7 : Blk ((((((((w.setCell ⟨g, 0, none⟩ b0).setCell ⟨g, 1, none⟩ b1).setCell ⟨g, 2, none⟩ b2).setCell ⟨g, 3, none⟩ b3).setCell ⟨g, 4, none⟩ b4).setCell ⟨g, 5, none⟩ b5).setCell ⟨g, 6, none⟩ b6).setCell ⟨g, 7, none⟩ b7) g t #[b0, b1, b2, b3, b4, b5, b6, b7, a8, a9, a10] := k6.set_ 7 b7
  have k8 : Blk (((((((((w.setCell ⟨g, 0, none⟩ b0).setCell ⟨g, 1, none⟩ b1).setCell ⟨g, 2, none⟩ b2).setCell ⟨g, 3, none⟩ b3).setCell ⟨g, 4, none⟩ b4).setCell ⟨g, 5, none⟩ b5).setCell ⟨g, 6, none⟩ b6).setCell ⟨g, 7, none⟩ b7).setCell ⟨g, 8, none⟩ b8) g t #[b0, b1, b2, b3, b4, b5, b6, b7, b8, a9, a10] := k7.set_ 8 b8
  have k9 : Blk ((((((((((w.setCell ⟨g, 0, none⟩ b0).setCell ⟨g, 1, none⟩ b1).setCell ⟨g, 2, none⟩ b2).setCell ⟨g, 3, none⟩ b3).setCell ⟨g, 4, none⟩ b4).setCell ⟨g, 5, none⟩ b5).setCell ⟨g, 6, none⟩ b6).setCell ⟨g, 7, none⟩ b7).setCell ⟨g, 8, none⟩ b8).setCell ⟨g, 9, none⟩ b9) g t #[b0, b1, b2, b3, b4, b5, b6, b7, b8, b9, a10] := k8.set_ 9 b9
  have k10 : Blk (((((((((((w.setCell ⟨g, 0, none⟩ b0).setCell ⟨g, 1, none⟩ b1).setCell ⟨g, 2, none⟩ b2).setCell ⟨g, 3, none⟩ b3).setCell ⟨g, 4, none⟩ b4).setCell ⟨g, 5, none⟩ b5).setCell ⟨g, 6, none⟩ b6).setCell ⟨g, 7, none⟩ b7).setCell ⟨g, 8, none⟩ b8).setCell ⟨g, 9, none⟩ b9).setCell ⟨g, 10, none⟩ b10) g t #[b0, b1, b2, b3, b4, b5, b6, b7, b8, b9, b10] := k9.set_ 10 b10
  exact k10
theorem st11_below {w W : World} {g : Nat} (b0 b1 b2 b3 b4 b5 b6 b7 b8 b9 b10 : Value) (h : Below W.heap.size W w) (hg : W.heap.size ≤ g) : Below W.heap.size W (st11 w g b0 b1 b2 b3 b4 b5 b6 b7 b8 b9 b10) :=
  (((((((((((h.setCell (p := ⟨g, 0, none⟩) hg _).setCell (p := ⟨g, 1, none⟩) hg _).setCell (p := ⟨g, 2, none⟩) hg _).setCell (p := ⟨g, 3, none⟩) hg _).setCell (p := ⟨g, 4, none⟩) hg _).setCell (p := ⟨g, 5, none⟩) hg _).setCell (p := ⟨g, 6, none⟩) hg _).setCell (p := ⟨g, 7, none⟩) hg _).setCell (p := ⟨g, 8, none⟩) hg _).setCell (p := ⟨g, 9, none⟩) hg _).setCell (p := ⟨g, 10, none⟩) hg _)
theorem st11_reads {w : World} {g : Nat} {t : TypeId} {cs : Array Value} (h : Blk w g t cs) (b0 b1 b2 b3 b4 b5 b6 b7 b8 b9 b10 : Value) {B : Nat} (hg : B ≤ g) {e : TypeId} (hne : e ≠ t) {size n : Nat} {A : Option Addr} {xs : List Value} (hr : Reads w B e size A n xs) :
    Reads (st11 w g b0 b1 b2 b3 b4 b5 b6 b7 b8 b9 b10) B e size A n xs := by
  unfold st11
  have r0 := Reads.far hr h hg hne 0 b0
  have k0 := h.set_ 0 b0
  have r1 := Reads.far r0 k0 hg hne 1 b1
  have k1 := k0.set_ 1 b1
  have r2 := Reads.far r1 k1 hg hne 2 b2
  have k2 := k1.set_ 2 b2
  have r3 := Reads.far r2 k2 hg hne 3 b3
  have k3 := k2.set_ 3 b3
  have r4 := Reads.far r3 k3 hg hne 4 b4
  have k4 := k3.set_ 4 b4
  have r5 := Reads.far r4 k4 hg hne 5 b5
  have k5 := k4.set_ 5 b5
  have r6 := Reads.far r5 k5 hg hne 6 b6
  have k6 := k5.set_ 6 b6
  have r7 := Reads.far r6 k6 hg hne 7 b7
  have k7 := k6.set_ 7 b7
  have r8 := Reads.far r7 k7 hg hne 8 b8
  have k8 := k7.set_ 8 b8
  have r9 := Reads.far r8 k8 hg hne 9 b9
  have k9 := k8.set_ 9 b9
  have r10 := Reads.far r9 k9 hg hne 10 b10
  exact r10
theorem st11_far {w : World} {g g' : Nat} {t : TypeId} {cs : Array Value} (h : Blk w g t cs) (hg : g ≠ g') (b0 b1 b2 b3 b4 b5 b6 b7 b8 b9 b10 : Value) : Blk (st11 w g' b0 b1 b2 b3 b4 b5 b6 b7 b8 b9 b10) g t cs := by
  unfold st11
  exact (((((((((((h.far (by exact hg) _).far (by exact hg) _).far (by exact hg) _).far (by exact hg) _).far (by exact hg) _).far (by exact hg) _).far (by exact hg) _).far (by exact hg) _).far (by exact hg) _).far (by exact hg) _).far (by exact hg) _)
theorem blk11f {w : World} {g : Nat} {t : TypeId} {a0 a1 a2 a3 a4 a5 a6 a7 a8 a9 a10 : Value} (h : Blk w g t #[a0, a1, a2, a3, a4, a5, a6, a7, a8, a9, a10]) :
    g < w.heap.size ∧ w.cell? ⟨g, 0, none⟩ = some a0 ∧ w.cell? ⟨g, 1, none⟩ = some a1 ∧ w.cell? ⟨g, 2, none⟩ = some a2 ∧ w.cell? ⟨g, 3, none⟩ = some a3 ∧ w.cell? ⟨g, 4, none⟩ = some a4 ∧ w.cell? ⟨g, 5, none⟩ = some a5 ∧ w.cell? ⟨g, 6, none⟩ = some a6 ∧ w.cell? ⟨g, 7, none⟩ = some a7 ∧ w.cell? ⟨g, 8, none⟩ = some a8 ∧ w.cell? ⟨g, 9, none⟩ = some a9 ∧ w.cell? ⟨g, 10, none⟩ = some a10 ∧ w.frozen? ⟨g, 0, none⟩ = false ∧ w.frozen? ⟨g, 1, none⟩ = false ∧ w.frozen? ⟨g, 2, none⟩ = false ∧ w.frozen? ⟨g, 3, none⟩ = false ∧ w.frozen? ⟨g, 4, none⟩ = false ∧ w.frozen? ⟨g, 5, none⟩ = false ∧ w.frozen? ⟨g, 6, none⟩ = false ∧ w.frozen? ⟨g, 7, none⟩ = false ∧ w.frozen? ⟨g, 8, none⟩ = false ∧ w.frozen? ⟨g, 9, none⟩ = false ∧ w.frozen? ⟨g, 10, none⟩ = false :=
  ⟨h.lt, h.cell 0, h.cell 1, h.cell 2, h.cell 3, h.cell 4, h.cell 5, h.cell 6, h.cell 7, h.cell 8, h.cell 9, h.cell 10, h.frozen 0, h.frozen 1, h.frozen 2, h.frozen 3, h.frozen 4, h.frozen 5, h.frozen 6, h.frozen 7, h.frozen 8, h.frozen 9, h.frozen 10⟩
/-- 7 cells stored into a box of the call's own -/
def st7 (w : World) (g : Nat) (b0 b1 b2 b3 b4 b5 b6 : Value) : World := ((((((w.setCell ⟨g, 0, none⟩ b0).setCell ⟨g, 1, none⟩ b1).setCell ⟨g, 2, none⟩ b2).setCell ⟨g, 3, none⟩ b3).setCell ⟨g, 4, none⟩ b4).setCell ⟨g, 5, none⟩ b5).setCell ⟨g, 6, none⟩ b6
theorem st7_blk {w : World} {g : Nat} {t : TypeId} {a0 a1 a2 a3 a4 a5 a6 : Value} (h : Blk w g t #[a0, a1, a2, a3, a4, a5, a6]) (b0 b1 b2 b3 b4 b5 b6 : Value) : Blk (st7 w g b0 b1 b2 b3 b4 b5 b6) g t #[b0, b1, b2, b3, b4, b5, b6] := by
  unfold st7
  have k0 : Blk (w.setCell ⟨g, 0, none⟩ b0) g t #[b0, a1, a2, a3, a4, a5, a6] := h.set_ 0 b0
  have k1 : Blk ((w.setCell ⟨g, 0, none⟩ b0).setCell ⟨g, 1, none⟩ b1) g t #[b0, b1, a2, a3, a4, a5, a6] := k0.set_ 1 b1
  have k2 : Blk (((w.setCell ⟨g, 0, none⟩ b0).setCell ⟨g, 1, none⟩ b1).setCell ⟨g, 2, none⟩ b2) g t #[b0, b1, b2, a3, a4, a5, a6] := k1.set_ 2 b2
  have k3 : Blk ((((w.setCell ⟨g, 0, none⟩ b0).setCell ⟨g, 1, none⟩ b1).setCell ⟨g, 2, none⟩ b2).setCell ⟨g, 3, none⟩ b3) g t #[b0, b1, b2, b3, a4, a5, a6] := k2.set_ 3 b3
  have k4 : Blk (((((w.setCell ⟨g, 0, none⟩ b0).setCell ⟨g, 1, none⟩ b1).setCell ⟨g, 2, none⟩ b2).setCell ⟨g, 3, none⟩ b3).setCell ⟨g, 4, none⟩ b4) g t #[b0, b1, b2, b3, b4, a5, a6] := k3.set_ 4 b4
  have k5 : Blk ((((((w.setCell ⟨g, 0, none⟩ b0).setCell ⟨g, 1, none⟩ b1).setCell ⟨g, 2, none⟩ b2).setCell ⟨g, 3, none⟩ b3).setCell ⟨g, 4, none⟩ b4).setCell ⟨g, 5, none⟩ b5) g t #[b0, b1, b2, b3, b4, b5, a6] := k4.set_ 5 b5
  have k6 : Blk (((((((w.setCell ⟨g, 0, none⟩ b0).setCell ⟨g, 1, none⟩ b1).setCell ⟨g, 2, none⟩ b2).setCell ⟨g, 3, none⟩ b3).setCell ⟨g, 4, none⟩ b4).setCell ⟨g, 5, none⟩ b5).setCell ⟨g, 6, none⟩ b6) g t #[b0, b1, b2, b3, b4, b5, b6] := k5.set_ 6 b6
  exact k6
theorem st7_below {w W : World} {g : Nat} (b0 b1 b2 b3 b4 b5 b6 : Value) (h : Below W.heap.size W w) (hg : W.heap.size ≤ g) : Below W.heap.size W (st7 w g b0 b1 b2 b3 b4 b5 b6) :=
  (((((((h.setCell (p := ⟨g, 0, none⟩) hg _).setCell (p := ⟨g, 1, none⟩) hg _).setCell (p := ⟨g, 2, none⟩) hg _).setCell (p := ⟨g, 3, none⟩) hg _).setCell (p := ⟨g, 4, none⟩) hg _).setCell (p := ⟨g, 5, none⟩) hg _).setCell (p := ⟨g, 6, none⟩) hg _)
theorem st7_reads {w : World} {g : Nat} {t : TypeId} {cs : Array Value} (h : Blk w g t cs) (b0 b1 b2 b3 b4 b5 b6 : Value) {B : Nat} (hg : B ≤ g) {e : TypeId} (hne : e ≠ t) {size n : Nat} {A : Option Addr} {xs : List Value} (hr : Reads w B e size A n xs) :
    Reads (st7 w g b0 b1 b2 b3 b4 b5 b6) B e size A n xs := by
  unfold st7
  have r0 := Reads.far hr h hg hne 0 b0
  have k0 := h.set_ 0 b0
  have r1 := Reads.far r0 k0 hg hne 1 b1
  have k1 := k0.set_ 1 b1
  have r2 := Reads.far r1 k1 hg hne 2 b2
  have k2 := k1.set_ 2 b2
  have r3 := Reads.far r2 k2 hg hne 3 b3
  have k3 := k2.set_ 3 b3
  have r4 := Reads.far r3 k3 hg hne 4 b4
  have k4 := k3.set_ 4 b4
  have r5 := Reads.far r4 k4 hg hne 5 b5
  have k5 := k4.set_ 5 b5
  have r6 := Reads.far r5 k5 hg hne 6 b6
  exact r6
theorem st7_far {w : World} {g g' : Nat} {t : TypeId} {cs : Array Value} (h : Blk w g t cs) (hg : g ≠ g') (b0 b1 b2 b3 b4 b5 b6 : Value) : Blk (st7 w g' b0 b1 b2 b3 b4 b5 b6) g t cs := by
  unfold st7
  exact (((((((h.far (by exact hg) _).far (by exact hg) _).far (by exact hg) _).far (by exact hg) _).far (by exact hg) _).far (by exact hg) _).far (by exact hg) _)
theorem blk7f {w : World} {g : Nat} {t : TypeId} {a0 a1 a2 a3 a4 a5 a6 : Value} (h : Blk w g t #[a0, a1, a2, a3, a4, a5, a6]) :
    g < w.heap.size ∧ w.cell? ⟨g, 0, none⟩ = some a0 ∧ w.cell? ⟨g, 1, none⟩ = some a1 ∧ w.cell? ⟨g, 2, none⟩ = some a2 ∧ w.cell? ⟨g, 3, none⟩ = some a3 ∧ w.cell? ⟨g, 4, none⟩ = some a4 ∧ w.cell? ⟨g, 5, none⟩ = some a5 ∧ w.cell? ⟨g, 6, none⟩ = some a6 ∧ w.frozen? ⟨g, 0, none⟩ = false ∧ w.frozen? ⟨g, 1, none⟩ = false ∧ w.frozen? ⟨g, 2, none⟩ = false ∧ w.frozen? ⟨g, 3, none⟩ = false ∧ w.frozen? ⟨g, 4, none⟩ = false ∧ w.frozen? ⟨g, 5, none⟩ = false ∧ w.frozen? ⟨g, 6, none⟩ = false :=
  ⟨h.lt, h.cell 0, h.cell 1, h.cell 2, h.cell 3, h.cell 4, h.cell 5, h.cell 6, h.frozen 0, h.frozen 1, h.frozen 2, h.frozen 3, h.frozen 4, h.frozen 5, h.frozen 6⟩
end Go.Proofs.YtncdjmpdbinanaaGreatDoor
