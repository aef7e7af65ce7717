/-
  WHAT IS PROVED HERE: a region that draws its order, what has come up kept as the bits of a number, and what may come up read off a table that is reckoned once. No condition.
  WHAT IS PROVED HERE: nodes and messages in boxes of the call's own: what they hold, and what stays behind a store. No condition.
  WHAT IS PROVED HERE: a node and messages that are handed back; what stays behind a store of a node. No condition.
-/
import Derived.Test.YtncdjmpdbinanaaGreatDoorZGReg
import Derived.NoCompilerSame
import Derived.Test.YtncdjmpdbinanaaGreatDoorZGStd
import Derived.Test.YtncdjmpdbinanaaGreatDoorZGEx
namespace Go.Proofs.YtncdjmpdbinanaaGreatDoor
open Go.RowKit Go

def bitsM : List Nat → Nat
  | [] => 0
  | i :: l => (1 <<< i) ||| bitsM l
theorem bit_one (i j : Nat) : (1 <<< i).testBit j = decide (i = j) := by
  rw [Nat.one_shiftLeft, Nat.testBit_two_pow]
theorem bits_mem : ∀ {l : List Nat} {j : Nat}, (bitsM l).testBit j = decide (j ∈ l)
  | [], j => by simp [bitsM]
  | i :: l, j => by
    rw [bitsM, Nat.testBit_or, bit_one, bits_mem]
    by_cases h : i = j
    · subst h; simp
    · have h' : ¬ j = i := fun e => h e.symm
      simp [h, h']
theorem bits_sub {l : List Nat} {m : Nat} (h : bitsM l &&& m = bitsM l) {j : Nat} (hj : j ∈ l) : m.testBit j = true := by
  have h1 : (bitsM l &&& m).testBit j = true := by rw [h, bits_mem]; simpa using hj
  rw [Nat.testBit_and, Bool.and_eq_true] at h1
  exact h1.2
theorem sub_bits {l : List Nat} {m : Nat} (h : ∀ j ∈ l, m.testBit j = true) : bitsM l &&& m = bitsM l := by
  apply Nat.eq_of_testBit_eq
  intro j
  rw [Nat.testBit_and, bits_mem]
  by_cases hj : j ∈ l
  · rw [h j hj]; simp
  · simp [hj]
/-- on what each one waits, and what must have come up before it is taken ahead -/
def tabW (ops : Array Oper) (i : Nat) : List Nat := (RegionTabs.of .any ops).after.getD i []
def tabC (ops : Array Oper) (i : Nat) : List Nat := (List.range ops.size).filter fun j => !(j == i || (tabW ops j).contains i || (RegionTabs.of .any ops).apart i j)
def tabsM (ops : Array Oper) : List (Nat × Nat) := (List.range ops.size).map fun i => (bitsM (tabW ops i), bitsM (tabC ops i))
structure RG (ops : Array Oper) (L : List (Nat × Nat)) : Prop where
  tab : tabsM ops = L
  sel : Region.noSelect ops = true
theorem RG.of {ops : Array Oper} {L : List (Nat × Nat)} (h : (tabsM ops == L && Region.noSelect ops) = true) : RG ops L := by
  simp only [Bool.and_eq_true, beq_iff_eq] at h
  exact ⟨h.1, h.2⟩
def LM (n : Nat) (listed : Array Bool) (m : Nat) : Prop := listed.size = n ∧ ∀ j, listed.getD j false = m.testBit j
def rdyM (L : List (Nat × Nat)) (m i : Nat) : Bool := !m.testBit i && ((L.getD i (0, 0)).1 &&& m == (L.getD i (0, 0)).1)
def okM (L : List (Nat × Nat)) (k m i : Nat) : Bool := decide (i < L.length) && rdyM L m i && ((L.getD i (0, 0)).2 &&& m == (L.getD i (0, 0)).2) && decide (i < k) && (decide (L.length ≤ k) || (List.range L.length).all fun j => decide (j < k) || (L.getD j (0, 0)).1.testBit i)
section
variable {ops : Array Oper} {L : List (Nat × Nat)} {listed : Array Bool} {m i n k : Nat}
theorem LM.start (n : Nat) : LM n (Array.replicate n false) 0 := by
  refine ⟨by simp, fun j => ?_⟩
  rw [Nat.zero_testBit]
  simp [Array.getElem?_replicate]
  split <;> rfl
theorem LM.set (h : LM n listed m) (hi : i < n) : LM n (listed.setIfInBounds i true) (m ||| 1 <<< i) := by
  refine ⟨by simp [h.1], fun j => ?_⟩
  rw [Nat.testBit_or, bit_one, ← h.2 j]
  by_cases e : i = j
  · subst e
    simp [h.1, hi]
  · simp [e]
theorem LM.lt (h : LM n listed m) {j : Nat} (hj : m.testBit j = true) : j < n := by
  rw [← h.2 j] at hj
  rw [← h.1]
  rcases Nat.lt_or_ge j listed.size with h1 | h1
  · exact h1
  · simp [Array.getElem?_eq_none h1] at hj
theorem LM.top (h : LM n listed m) {j : Nat} (hj : j < n) : listed.getD j true = m.testBit j := by
  rw [← h.2 j]
  rw [← h.1] at hj
  simp [hj]
theorem RG.len (h : RG ops L) : L.length = ops.size := by rw [← h.tab]; simp [tabsM]
theorem RG.at_ (h : RG ops L) (hi : i < ops.size) : L.getD i (0, 0) = (bitsM (tabW ops i), bitsM (tabC ops i)) := by
  rw [← h.tab]
  simp [tabsM, hi]
theorem tabs_size : (RegionTabs.of .any ops).after.size = ops.size := by simp [RegionTabs.of, Region.tabAfter]
theorem RG.ready (h : RG ops L) (hm : LM ops.size listed m) : Region.ready .any ops listed = (List.range L.length).filter (rdyM L m) := by
  rw [← RegionTabs.ready_eq, RegionTabs.ready, tabs_size, h.len]
  apply List.filter_congr
  intro j hj
  have hj' : j < ops.size := List.mem_range.1 hj
  unfold rdyM
  rw [h.at_ hj', hm.top hj']
  congr 1
  have e : (RegionTabs.of .any ops).after[j]? = some (tabW ops j) := by
    unfold tabW
    have hs : j < (RegionTabs.of .any ops).after.size := by rw [tabs_size]; exact hj'
    simp [hs]
  rw [e, Option.map_some, Option.getD_some]
  rw [Bool.eq_iff_iff, beq_iff_eq, List.all_eq_true]
  constructor
  · intro hall
    exact sub_bits (fun x hx => by rw [← hm.2 x]; exact hall x hx)
  · intro hb x hx
    rw [hm.2 x]
    exact bits_sub hb hx
theorem RG.free (h : RG ops L) (hm : LM ops.size listed m) (hi : i < ops.size) (hc : ((L.getD i (0, 0)).2 &&& m == (L.getD i (0, 0)).2) = true) : Region.free .any ops listed i = true := by
  rw [← RegionTabs.free_eq, RegionTabs.free, tabs_size]
  rw [h.at_ hi] at hc
  simp only [beq_iff_eq] at hc
  simp only [Bool.and_eq_true, decide_eq_true_eq, List.all_eq_true, List.mem_range]
  refine ⟨hi, fun j hj => ?_⟩
  rw [hm.top hj]
  cases hd : (j == i || (tabW ops j).contains i || (RegionTabs.of .any ops).apart i j) with
  | true =>
    unfold tabW at hd
    simp only [Bool.or_eq_true] at hd ⊢
    rcases hd with (hd | hd) | hd
    · exact .inl (.inl (.inl hd))
    · exact .inl (.inr hd)
    · exact .inr hd
  | false =>
    have hj2 : j ∈ tabC ops i := by
      unfold tabC
      rw [List.mem_filter, hd]
      exact ⟨List.mem_range.2 hj, rfl⟩
    rw [bits_sub hc hj2]
    simp
theorem RG.waits (h : RG ops L) (hw : (decide (L.length ≤ k) || (List.range L.length).all fun j => decide (j < k) || (L.getD j (0, 0)).1.testBit i) = true) : waitsB .any ops (fun j => decide (j < k)) i = true := by
  unfold waitsB
  rw [List.all_eq_true]
  intro j hj
  have hj' : j < ops.size := List.mem_range.1 hj
  rw [Bool.or_eq_true] at hw ⊢
  rcases hw with hw | hw
  · left
    rw [h.len] at hw
    simp only [decide_eq_true_eq] at hw ⊢
    omega
  · rw [List.all_eq_true] at hw
    have := hw j (by rw [h.len]; exact hj)
    rw [Bool.or_eq_true] at this
    rcases this with h1 | h1
    · exact .inl h1
    · right
      rw [h.at_ hj', bits_mem] at h1
      have hs : ops[j]? = some ops[j] := Array.getElem?_eq_getElem hj'
      rw [hs, Option.map_some, Option.getD_some]
      have h2 : i ∈ tabW ops j := by simpa using h1
      unfold tabW at h2
      rw [RegionTabs.after_at .any ops j _ hs] at h2
      obtain ⟨e, he, rfl⟩ := List.mem_map.1 h2
      rw [List.mem_filter] at he
      rw [Array.any_eq_true']
      exact ⟨e, by simpa using he.1, by rw [he.2]; simp⟩
end
section
variable {P : Program} {ops : Array Oper} {Q : Exit → Act → World → Prop} {S : World → Prop} {L : List (Nat × Nat)} {k fuel m i j : Nat} {a : Act} {w : World} {o o' : Oper} {v : Value}
def wpM (P : Program) (ops : Array Oper) (Q : Exit → Act → World → Prop) (S : World → Prop) (k fuel m : Nat) (a : Act) (w : World) : Prop :=
  ∀ listed, LM ops.size listed m → wpAnyT P .any ops Q S (fun j => decide (j < k)) fuel listed a w
theorem ok_parts (h : okM L k m i = true) : i < L.length ∧ rdyM L m i = true ∧ ((L.getD i (0, 0)).2 &&& m == (L.getD i (0, 0)).2) = true ∧ decide (i < k) = true ∧ (decide (L.length ≤ k) || (List.range L.length).all fun j => decide (j < k) || (L.getD j (0, 0)).1.testBit i) = true := by
  unfold okM at h
  simp only [Bool.and_eq_true] at h
  exact ⟨by simpa using h.1.1.1.1, h.1.1.1.2, h.1.1.2, h.1.2, h.2⟩
theorem RG.has (hR : RG ops L) {listed : Array Bool} (hm : LM ops.size listed m) (hi : i < L.length) (hr : rdyM L m i = true) : (Region.ready .any ops listed).contains i = true := by
  rw [hR.ready hm, List.contains_iff_mem, List.mem_filter]
  exact ⟨List.mem_range.2 hi, hr⟩
/-- take number i first -/
theorem tkm (hR : RG ops L) (hS : S w) (hi : ops[i]? = some o := by rfl) (hc : okM L k m i = true := by kernel_rfl)
    (hQ : ∀ c a w, Q (.panic c) (a.put o.dst v) w → Q (.panic c) a w := by exact fun _ _ _ h => h) (hg : Region.wanted o (yielded ops a.tmps) = true := by kernel_rfl) (hy : ∀ w, S w → (execOp a.eval o).run P w = .ok (.value v) w)
    (h : wpM P ops Q S k fuel (m ||| 1 <<< i) (a.put o.dst v) w) : wpM P ops Q S k (fuel + 1) m a w := by
  obtain ⟨h1, h2, h3, h4, h5⟩ := ok_parts hc
  intro listed hm
  have hlt : i < ops.size := by rw [← hR.len]; exact h1
  exact wpAnyT_take hi hR.sel (hR.free hm hlt h3) (hR.has hm h1 h2) h4 (hR.waits h5) hQ hg hy hS (h _ (hm.set hlt))
/-- one that is not wanted -/
theorem skm (hR : RG ops L) (hS : S w) (hi : ops[i]? = some o := by rfl) (hc : okM L k m i = true := by kernel_rfl)
    (hQ : ∀ c a w, Q (.panic c) (a.put o.dst undef) w → Q (.panic c) a w := by exact fun _ _ _ h => h) (hg : Region.wanted o (yielded ops a.tmps) = false := by kernel_rfl)
    (h : wpM P ops Q S k fuel (m ||| 1 <<< i) (a.put o.dst undef) w) : wpM P ops Q S k (fuel + 1) m a w := by
  obtain ⟨h1, h2, h3, h4, h5⟩ := ok_parts hc
  intro listed hm
  have hlt : i < ops.size := by rw [← hR.len]; exact h1
  exact wpAnyT_skip hi hR.sel (hR.free hm hlt h3) (hR.has hm h1 h2) h4 (hR.waits h5) hQ hg hS (h _ (hm.set hlt))
/-- the one that may come up -/
theorem onem (hR : RG ops L) (hi : ops[i]? = some o := by rfl) (hc : ((List.range L.length).filter (rdyM L m) == [i]) = true := by kernel_rfl)
    (h : ∀ K' : Act → World → Prop, Shut (∀ a w, (decide (i < k) = true → S w) → wpM P ops Q S k fuel (m ||| 1 <<< i) a w → K' a w) → if Region.wanted o (yielded ops a.tmps) = true then Oper.wp P o a w K' Q else K' (a.put o.dst undef) w) :
    wpM P ops Q S k (fuel + 1) m a w := by
  intro listed hm
  have hlt : i < ops.size := (Array.getElem?_eq_some_iff.1 hi).1
  refine wpAnyT_one (i := i) (by rw [hR.ready hm]; simpa using hc) hi (fun K' hK => h K' fun a w h1 h2 => hK.out a w h1 (h2 _ (hm.set hlt)))
/-- the two that may come up -/
theorem twom (hR : RG ops L) (hi : ops[i]? = some o := by rfl) (hj : ops[j]? = some o' := by rfl) (hc : ((List.range L.length).filter (rdyM L m) == [i, j]) = true := by kernel_rfl)
    (h : ∀ K' : Act → World → Prop, Shut (∀ a w, (decide (i < k) = true → S w) → wpM P ops Q S k fuel (m ||| 1 <<< i) a w → K' a w) → if Region.wanted o (yielded ops a.tmps) = true then Oper.wp P o a w K' Q else K' (a.put o.dst undef) w)
    (h' : ∀ K' : Act → World → Prop, Shut (∀ a w, (decide (j < k) = true → S w) → wpM P ops Q S k fuel (m ||| 1 <<< j) a w → K' a w) → if Region.wanted o' (yielded ops a.tmps) = true then Oper.wp P o' a w K' Q else K' (a.put o'.dst undef) w) :
    wpM P ops Q S k (fuel + 1) m a w := by
  intro listed hm
  have hlt : i < ops.size := (Array.getElem?_eq_some_iff.1 hi).1
  have hlj : j < ops.size := (Array.getElem?_eq_some_iff.1 hj).1
  exact wpAnyT_two (i := i) (j := j) (by rw [hR.ready hm]; simpa using hc) hi hj (fun K' hK => h K' fun a w h1 h2 => hK.out a w h1 (h2 _ (hm.set hlt))) (fun K' hK => h' K' fun a w h1 h2 => hK.out a w h1 (h2 _ (hm.set hlj)))
theorem donem (hR : RG ops L) (hc : ((List.range L.length).filter (rdyM L m) == []) = true := by kernel_rfl) (h : Q .normal a w) : wpM P ops Q S k fuel m a w :=
  fun _ hm => wpAnyT_done (by rw [hR.ready hm]; simpa using hc) h fuel
theorem regm {id : Nat} (S : World → Prop) (k n : Nat) (L : List (Nat × Nat)) (hS : S w.drew) (h : S w.drew → RG ops L → wpM P ops Q S k n 0 a w.drew) (hR : (tabsM ops == L && Region.noSelect ops) = true := by kernel_rfl) (hm : P.follows .mixedOrders = true := by kernel_rfl) (hn : ops.size = n := by kernel_rfl) : (Code.region id ops true).wp P Q a w := by
  subst hn
  exact wp_region_T S (fun j => decide (j < k)) _ hm rfl (h hS (RG.of hR) _ (LM.start _))
end
end Go.Proofs.YtncdjmpdbinanaaGreatDoor
namespace Go.Proofs.YtncdjmpdbinanaaGreatDoor
open Go.RowKit

def ndC (N : Nd) (a : NdA) : Array Value := #[.int .i64 N.id, .int .i64 N.h.t, .int .i64 N.h.v, .int .i64 N.h.l.base, .int .i64 N.h.l.bt, .slice a.R.A a.R.n a.R.c, .string N.h.s, .slice a.V.A a.V.n a.V.c, .int .i64 N.role, .int .i64 N.lead, .int .i64 N.timer, .int .i64 N.commit, .slice a.G.A a.G.n a.G.c, .slice a.P.A a.P.n a.P.c]
def msC (M : Ms) (b : MsA) : Array Value := #[.int .i64 M.kind, .int .i64 M.fr, .int .i64 M.to, .int .i64 M.term, .bool M.ok, .int .i64 M.index, .int .i64 M.lterm, .slice b.R.A b.R.n b.R.c, .int .i64 M.commit, .string M.s, .slice b.V.A b.V.n b.V.c]
def nilA : NdA := ⟨⟨none, 0, 0⟩, ⟨none, 0, 0⟩, ⟨none, 0, 0⟩, ⟨none, 0, 0⟩⟩
def zeroM : Ms := ⟨0, 0, 0, 0, false, 0, 0, [], 0, ⟨#[]⟩, []⟩
/-- boxes of the call's own: number, type, cells; none below B, no two the same -/
structure Bx where
  g : Nat
  t : TypeId
  cs : Array Value
def Bxs (B : Nat) (w : World) (l : List Bx) : Prop := (∀ b ∈ l, Blk w b.g b.t b.cs ∧ B ≤ b.g) ∧ l.Pairwise (fun a b => a.g ≠ b.g)
section
variable {w w' : World} {B : Nat} {l : List Bx} {b : Bx}
theorem Bxs.nil (B : Nat) (w : World) : Bxs B w [] := ⟨fun _ h => (nomatch h), List.Pairwise.nil⟩
theorem Bxs.at_ (h : Bxs B w l) (i : Nat) (hi : l[i]? = some b) : Blk w b.g b.t b.cs := (h.1 b (List.mem_of_getElem? hi)).1
theorem Bxs.ge (h : Bxs B w l) (i : Nat) (hi : l[i]? = some b) : B ≤ b.g := (h.1 b (List.mem_of_getElem? hi)).2
theorem Bxs.keep (h : Bxs B w l) (hb : Below w.heap.size w w') : Bxs B w' l := ⟨fun b hm => ⟨(h.1 b hm).1.keep hb, (h.1 b hm).2⟩, h.2⟩
theorem Bxs.drew (h : Bxs B w l) : Bxs B w.drew l := h
theorem Bxs.other (h : Bxs B w l) (o : Obj) : Bxs B (w.alloc o) l := ⟨fun b hm => ⟨(h.1 b hm).1.alloc o, (h.1 b hm).2⟩, h.2⟩
theorem Bxs.add (h : Bxs B w l) (hB : B ≤ w.heap.size) (t : TypeId) (cs : Array Value) : Bxs B (w.alloc (.cells cs t)) (⟨w.heap.size, t, cs⟩ :: l) := by
  refine ⟨fun b hm => ?_, List.Pairwise.cons (fun b hm => ?_) h.2⟩
  · rcases List.mem_cons.1 hm with rfl | hm
    · exact ⟨Blk.new _ _ _, hB⟩
    · exact ⟨(h.1 b hm).1.alloc _, (h.1 b hm).2⟩
  · have := (h.1 b hm).1.lt
    show w.heap.size ≠ b.g
    omega
theorem Bxs.add_ {g : Nat} (h : Bxs B w l) (e : w.heap.size = g) (hB : B ≤ g) (t : TypeId) (cs : Array Value) : Bxs B (w.alloc (.cells cs t)) (⟨g, t, cs⟩ :: l) := by
  subst e
  exact h.add hB t cs
theorem Bxs.one (h : Bxs B w l) (hk : Blk w b.g b.t b.cs) (hB : B ≤ b.g) (hn : ∀ x ∈ l, b.g ≠ x.g) : Bxs B w (b :: l) :=
  ⟨fun x hm => by
    rcases List.mem_cons.1 hm with rfl | hm
    · exact ⟨hk, hB⟩
    · exact h.1 x hm, List.Pairwise.cons hn h.2⟩
theorem Bxs.tail {x : Bx} (h : Bxs B w (x :: l)) : Bxs B w l := ⟨fun b hm => h.1 b (.tail _ hm), (List.pairwise_cons.1 h.2).2⟩
theorem pw_ne : ∀ {l : List Bx} {i j : Nat} {a b : Bx}, l.Pairwise (fun a b => a.g ≠ b.g) → l[i]? = some a → l[j]? = some b → i ≠ j → a.g ≠ b.g
  | [], i, j, a, b, _, h, _, _ => by simp at h
  | x :: l, 0, 0, a, b, _, _, _, hn => absurd rfl hn
  | x :: l, 0, j + 1, a, b, hp, ha, hb, _ => by
    have ha : x = a := by simpa using ha
    have hb : l[j]? = some b := by simpa using hb
    subst ha
    exact (List.pairwise_cons.1 hp).1 b (List.mem_of_getElem? hb)
  | x :: l, i + 1, 0, a, b, hp, ha, hb, _ => by
    have hb : x = b := by simpa using hb
    have ha : l[i]? = some a := by simpa using ha
    subst hb
    exact fun e => (List.pairwise_cons.1 hp).1 a (List.mem_of_getElem? ha) e.symm
  | x :: l, i + 1, j + 1, a, b, hp, ha, hb, hn => pw_ne (List.pairwise_cons.1 hp).2 (by simpa using ha) (by simpa using hb) (by omega)
/-- a step that turns one box: all others stay -/
theorem Bxs.put (h : Bxs B w l) (i : Nat) (hi : l[i]? = some b) (cs : Array Value) (hk : Blk w' b.g b.t cs) (hf : ∀ (g : Nat) (t : TypeId) (c : Array Value), g ≠ b.g → Blk w g t c → Blk w' g t c) : Bxs B w' (l.set i ⟨b.g, b.t, cs⟩) := by
  have hlt : i < l.length := (List.getElem?_eq_some_iff.1 hi).1
  refine ⟨fun x hx => ?_, ?_⟩
  · obtain ⟨j, hj⟩ := List.mem_iff_getElem?.1 hx
    rw [List.getElem?_set] at hj
    split at hj
    · rename_i e
      subst e
      injection hj with hj
      subst hj
      exact ⟨hk, (h.ge (b := b) i hi : B ≤ b.g)⟩
    · rename_i e
      exact ⟨hf _ _ _ (pw_ne h.2 hj hi (fun h => e h.symm)) (h.at_ j hj), h.ge j hj⟩
  · have e : (l.set i ⟨b.g, b.t, cs⟩).map Bx.g = l.map Bx.g := by
      apply List.ext_getElem?
      intro j
      rw [List.getElem?_map, List.getElem?_map, List.getElem?_set]
      split
      · rename_i e
        subst e
        rw [hi]
        rfl
      · rfl
    have h2 : (l.map Bx.g).Pairwise (· ≠ ·) := List.pairwise_map.2 h.2
    rw [← e] at h2
    exact List.pairwise_map.1 h2
theorem Bxs.set (h : Bxs B w l) (i : Nat) (hi : l[i]? = some b) (j : Nat) (u : Value) : Bxs B (w.setCell ⟨b.g, j, none⟩ u) (l.set i ⟨b.g, b.t, b.cs.setIfInBounds j u⟩) :=
  h.put i hi _ ((h.at_ i hi).set_ j u) (fun _ _ _ hg k => k.far (by exact hg) u)
theorem Bxs.grown {row : Option Nat} (h : Bxs B w l) (hb : w.grownBy w' row) (hg : ∀ b ∈ l, some b.g ≠ row) : Bxs B w' l := ⟨fun b hm => ⟨(h.1 b hm).1.grown hb (hg b hm), (h.1 b hm).2⟩, h.2⟩
end
section
variable {w w' W : World} {B g : Nat} {l : List Bx} {N N' : Nd} {a a' : NdA} {M M' : Ms} {b b' : MsA} {t : TypeId}
def setN (w : World) (g : Nat) (N : Nd) (a : NdA) : World := set14 w g (.int .i64 N.id) (.int .i64 N.h.t) (.int .i64 N.h.v) (.int .i64 N.h.l.base) (.int .i64 N.h.l.bt) (.slice a.R.A a.R.n a.R.c) (.string N.h.s) (.slice a.V.A a.V.n a.V.c) (.int .i64 N.role) (.int .i64 N.lead) (.int .i64 N.timer) (.int .i64 N.commit) (.slice a.G.A a.G.n a.G.c) (.slice a.P.A a.P.n a.P.c)
def setM (w : World) (g : Nat) (M : Ms) (b : MsA) : World := st11 w g (.int .i64 M.kind) (.int .i64 M.fr) (.int .i64 M.to) (.int .i64 M.term) (.bool M.ok) (.int .i64 M.index) (.int .i64 M.lterm) (.slice b.R.A b.R.n b.R.c) (.int .i64 M.commit) (.string M.s) (.slice b.V.A b.V.n b.V.c)
/-- what a node's box, a message's box holds -/
def AtN (w : World) (g : Nat) (N : Nd) (a : NdA) : Prop := w.cell? ⟨g, 0, none⟩ = some (.int .i64 N.id) ∧ w.cell? ⟨g, 1, none⟩ = some (.int .i64 N.h.t) ∧ w.cell? ⟨g, 2, none⟩ = some (.int .i64 N.h.v) ∧ w.cell? ⟨g, 3, none⟩ = some (.int .i64 N.h.l.base) ∧ w.cell? ⟨g, 4, none⟩ = some (.int .i64 N.h.l.bt) ∧ w.cell? ⟨g, 5, none⟩ = some (.slice a.R.A a.R.n a.R.c) ∧ w.cell? ⟨g, 6, none⟩ = some (.string N.h.s) ∧ w.cell? ⟨g, 7, none⟩ = some (.slice a.V.A a.V.n a.V.c) ∧ w.cell? ⟨g, 8, none⟩ = some (.int .i64 N.role) ∧ w.cell? ⟨g, 9, none⟩ = some (.int .i64 N.lead) ∧ w.cell? ⟨g, 10, none⟩ = some (.int .i64 N.timer) ∧ w.cell? ⟨g, 11, none⟩ = some (.int .i64 N.commit) ∧ w.cell? ⟨g, 12, none⟩ = some (.slice a.G.A a.G.n a.G.c) ∧ w.cell? ⟨g, 13, none⟩ = some (.slice a.P.A a.P.n a.P.c)
def AtM (w : World) (g : Nat) (M : Ms) (b : MsA) : Prop := w.cell? ⟨g, 0, none⟩ = some (.int .i64 M.kind) ∧ w.cell? ⟨g, 1, none⟩ = some (.int .i64 M.fr) ∧ w.cell? ⟨g, 2, none⟩ = some (.int .i64 M.to) ∧ w.cell? ⟨g, 3, none⟩ = some (.int .i64 M.term) ∧ w.cell? ⟨g, 4, none⟩ = some (.bool M.ok) ∧ w.cell? ⟨g, 5, none⟩ = some (.int .i64 M.index) ∧ w.cell? ⟨g, 6, none⟩ = some (.int .i64 M.lterm) ∧ w.cell? ⟨g, 7, none⟩ = some (.slice b.R.A b.R.n b.R.c) ∧ w.cell? ⟨g, 8, none⟩ = some (.int .i64 M.commit) ∧ w.cell? ⟨g, 9, none⟩ = some (.string M.s) ∧ w.cell? ⟨g, 10, none⟩ = some (.slice b.V.A b.V.n b.V.c)
theorem Blk.atN (h : Blk w g t (ndC N a)) : AtN w g N a := (blk14c h).2
theorem Blk.atM (h : Blk w g t (msC M b)) : AtM w g M b := (blk11v h).2
theorem setN_blk (h : Blk w g t (ndC N' a')) : Blk (setN w g N a) g t (ndC N a) := set14_blk h _ _ _ _ _ _ _ _ _ _ _ _ _ _
theorem setM_blk (h : Blk w g t (msC M' b')) : Blk (setM w g M b) g t (msC M b) := st11_blk h _ _ _ _ _ _ _ _ _ _ _
theorem Bxs.setN (h : Bxs B w l) (i : Nat) (hi : l[i]? = some ⟨g, t, ndC N' a'⟩) (N : Nd) (a : NdA) : Bxs B (setN w g N a) (l.set i ⟨g, t, ndC N a⟩) :=
  h.put i hi _ (setN_blk (h.at_ i hi)) (fun _ _ _ hg k => set14_farS k hg _ _ _ _ _ _ _ _ _ _ _ _ _ _)
theorem Bxs.setM (h : Bxs B w l) (i : Nat) (hi : l[i]? = some ⟨g, t, msC M' b'⟩) (M : Ms) (b : MsA) : Bxs B (setM w g M b) (l.set i ⟨g, t, msC M b⟩) :=
  h.put i hi _ (setM_blk (h.at_ i hi)) (fun _ _ _ hg k => st11_far k hg _ _ _ _ _ _ _ _ _ _ _)
theorem setN_below (N : Nd) (a : NdA) (h : Below W.heap.size W w) (hg : W.heap.size ≤ g) : Below W.heap.size W (setN w g N a) := set14_below _ _ _ _ _ _ _ _ _ _ _ _ _ _ h hg
theorem setM_below (M : Ms) (b : MsA) (h : Below W.heap.size W w) (hg : W.heap.size ≤ g) : Below W.heap.size W (setM w g M b) := st11_below _ _ _ _ _ _ _ _ _ _ _ h hg
theorem setN_kr (N : Nd) (a : NdA) (h : Blk w g 30 (ndC N' a')) (hg : B ≤ g) : KR w (setN w g N a) B := KR.st14 h hg _ _ _ _ _ _ _ _ _ _ _ _ _ _
/-- a store into a box that is no row of ints, records, peers -/
theorem KR.cell {cs : Array Value} (h : Blk w g t cs) (hg : B ≤ g) (ht : t ≠ 3 ∧ t ≠ 51 ∧ t ≠ 53) (i : Nat) (u : Value) : KR w (w.setCell ⟨g, i, none⟩ u) B := by
  refine ⟨by simp [World.setCell], fun k o ho hc => ?_⟩
  have hne : k ≠ g := by
    rintro rfl
    rcases hc with hc | ⟨cs', e, fr, rfl, he⟩
    · omega
    · unfold Blk at h
      rw [h] at ho
      injection ho with ho
      injection ho with _ h2 _
      subst h2
      rcases he with he | he | he
      · exact ht.1 he
      · exact ht.2.1 he
      · exact ht.2.2 he
  exact (Below.heap_setCell w ⟨g, i, none⟩ u k hne).trans ho
theorem setM_kr (M : Ms) (b : MsA) (h : Blk w g 32 (msC M' b')) (hg : B ≤ g) : KR w (setM w g M b) B := by
  have step : ∀ {w : World} {cs : Array Value} (h : Blk w g 32 cs) (i : Nat) (u : Value), KR w (w.setCell ⟨g, i, none⟩ u) B ∧ Blk (w.setCell ⟨g, i, none⟩ u) g 32 (cs.setIfInBounds i u) := fun h i u => ⟨KR.cell h hg (by decide) i u, h.set_ i u⟩
  unfold setM st11
  obtain ⟨k0, h⟩ := step h 0 (.int .i64 M.kind)
  obtain ⟨k1, h⟩ := step h 1 (.int .i64 M.fr)
  obtain ⟨k2, h⟩ := step h 2 (.int .i64 M.to)
  obtain ⟨k3, h⟩ := step h 3 (.int .i64 M.term)
  obtain ⟨k4, h⟩ := step h 4 (.bool M.ok)
  obtain ⟨k5, h⟩ := step h 5 (.int .i64 M.index)
  obtain ⟨k6, h⟩ := step h 6 (.int .i64 M.lterm)
  obtain ⟨k7, h⟩ := step h 7 (.slice b.R.A b.R.n b.R.c)
  obtain ⟨k8, h⟩ := step h 8 (.int .i64 M.commit)
  obtain ⟨k9, h⟩ := step h 9 (.string M.s)
  obtain ⟨k10, _⟩ := step h 10 (.slice b.V.A b.V.n b.V.c)
  exact ((((((((((k0.trans k1).trans k2).trans k3).trans k4).trans k5).trans k6).trans k7).trans k8).trans k9).trans k10)
theorem mgs_setN {n : Nat} {A : Option Addr} {pm : List (Ms × MsA)} (h : Mgs w B A n pm) (k : Blk w g 30 (ndC N' a')) (hg : B ≤ g) (N : Nd) (a : NdA) : Mgs (setN w g N a) B A n pm :=
  ⟨set14_reads k _ _ _ _ _ _ _ _ _ _ _ _ _ _ hg (by decide) h.1, fun p hp => (h.2 p hp).kr' (setN_kr N a k hg)⟩
theorem mgs_box {g : Nat} (h : Blk w g 32 (msC M b)) (hok : MsOk w B M b) : Mgs w B (some ⟨g, 0, none⟩) 1 [(M, b)] := by
  refine ⟨⟨rfl, fun _ => ⟨g, 0, rfl, h.lt, .inr ⟨_, _, h⟩, fun j u hu => ?_⟩⟩, fun p hp => ?_⟩
  · rw [Nat.zero_add, h.cell j]
    simpa [mgsL, msgCells, msC] using hu
  · rw [List.mem_singleton] at hp
    subst hp
    exact hok
end
section
variable {P : Program} {ops : Array Oper} {Q : Exit → Act → World → Prop} {S : World → Prop} {L : List (Nat × Nat)} {k fuel m i : Nat} {a : Act} {w : World} {o : Oper} {v : Value}
/-- take number i first: what it yields is seen from what lies in the boxes -/
theorem tkn (hR : RG ops L) (hS : S w) (hi : ops[i]? = some o := by rfl) (hc : okM L k m i = true := by kernel_rfl)
    (hQ : ∀ c a w, Q (.panic c) (a.put o.dst v) w → Q (.panic c) a w := by exact fun _ _ _ h => h) (hg : Region.wanted o (yielded ops a.tmps) = true := by kernel_rfl) (hy : ∀ w, S w → (execOp a.eval o).run P w = .ok (.value v) w := by intro w' hS; (try unfold AtN at hS); (try unfold AtM at hS); go_simp; try with_reducible rfl)
    (h : wpM P ops Q S k fuel (m ||| 1 <<< i) (a.put o.dst v) w) : wpM P ops Q S k (fuel + 1) m a w := tkm hR hS hi hc hQ hg hy h
end
end Go.Proofs.YtncdjmpdbinanaaGreatDoor
namespace Go.Proofs.YtncdjmpdbinanaaGreatDoor
open Go.RowKit

/-- a node and messages are handed back -/
def RetNMs (w : World) (B : Nat) (N : Nd) (ms : List Ms) (e : Ending) (w' : World) : Prop :=
  ∃ a A n c pm, e = .returned (.tuple #[nodeV N a, .slice A n c]) ∧ NdOk w' B N a ∧ Mgs w' B A n pm ∧ pm.map Prod.fst = ms ∧ n ≤ c ∧ Below w.heap.size w w'
theorem mgs_st14 {w : World} {B g n : Nat} {A : Option Addr} {pm : List (Ms × MsA)} {a0 a1 a2 a3 a4 a5 a6 a7 a8 a9 a10 a11 a12 a13 : Value} (h : Mgs w B A n pm) (k : Blk w g 30 #[a0, a1, a2, a3, a4, a5, a6, a7, a8, a9, a10, a11, a12, a13]) (hg : B ≤ g) (b0 b1 b2 b3 b4 b5 b6 b7 b8 b9 b10 b11 b12 b13 : Value) : Mgs (set14 w g b0 b1 b2 b3 b4 b5 b6 b7 b8 b9 b10 b11 b12 b13) B A n pm :=
  ⟨set14_reads k b0 b1 b2 b3 b4 b5 b6 b7 b8 b9 b10 b11 b12 b13 hg (by decide) h.1, fun p hp => (h.2 p hp).kr' (KR.st14 k hg b0 b1 b2 b3 b4 b5 b6 b7 b8 b9 b10 b11 b12 b13)⟩
theorem nd_st14 {w : World} {B g : Nat} {N : Nd} {a : NdA} {a0 a1 a2 a3 a4 a5 a6 a7 a8 a9 a10 a11 a12 a13 : Value} (h : NdOk w B N a) (k : Blk w g 30 #[a0, a1, a2, a3, a4, a5, a6, a7, a8, a9, a10, a11, a12, a13]) (hg : B ≤ g) (b0 b1 b2 b3 b4 b5 b6 b7 b8 b9 b10 b11 b12 b13 : Value) : NdOk (set14 w g b0 b1 b2 b3 b4 b5 b6 b7 b8 b9 b10 b11 b12 b13) B N a := h.kr (KR.st14 k hg b0 b1 b2 b3 b4 b5 b6 b7 b8 b9 b10 b11 b12 b13)
/-- a node and messages without slices are handed back -/
def RetNL (w : World) (B : Nat) (N : Nd) (ms : List Ms) (e : Ending) (w' : World) : Prop :=
  ∃ a A n c, e = .returned (.tuple #[nodeV N a, .slice A n c]) ∧ NdOk w' B N a ∧ Mgs w' 0 A n (ms.map fun M => (M, nilMA)) ∧ n ≤ c ∧ Below w.heap.size w w'
theorem inst_say {N : Nd} {M : Ms} {d : Int} (h : toldC N M 5 = true) :
    (M.term < N.h.t → instN N M d = N ∧ instL N M = [fitM N.id M.fr N.h.t false (lastJ N.h.l)]) ∧
    (N.h.t ≤ M.term → N.role = 2 → instN N M d = N ∧ instL N M = []) ∧
    (N.h.t ≤ M.term → ¬ N.role = 2 → M.index ≤ N.commit → instN N M d = followN N M.fr d ∧ instL N M = [fitM N.id M.fr N.h.t true N.commit]) ∧
    (N.h.t ≤ M.term → ¬ N.role = 2 → N.commit < M.index → rightH (instH N M) = false → instN N M d = followN N M.fr d ∧ instL N M = [fitM N.id M.fr N.h.t false (lastJ N.h.l)]) ∧
    (N.h.t ≤ M.term → ¬ N.role = 2 → N.commit < M.index → rightH (instH N M) = true → instN N M d = ⟨N.id, instH N M, 0, M.fr, min (max d 0) 1048576, M.index, [], []⟩ ∧ instL N M = [fitM N.id M.fr N.h.t true M.index]) := by
  refine ⟨fun h1 => ?_, fun h1 h2 => ?_, fun h1 h2 h3 => ?_, fun h1 h2 h3 h4 => ?_, fun h1 h2 h3 h4 => ?_⟩ <;> unfold instN instL <;> rw [h]
  · simp [h1, show ¬ N.h.t ≤ M.term by omega]
  · simp [h1, h2, show ¬ M.term < N.h.t by omega]
  · simp [h1, h2, show ¬ M.term < N.h.t by omega, show ¬ N.commit < M.index by omega]
  · simp [h1, h2, show ¬ M.term < N.h.t by omega, h3, h4]
  · simp [h1, h2, show ¬ M.term < N.h.t by omega, h3, h4]
theorem compact_lenK (l : Lg) (p : Int) : (compactJ l p).1.rs.length ≤ l.rs.length := by
  unfold compactJ
  split
  · split
    · simp [zeroL]
    · simp
  · simp [zeroL]
theorem adopt_lenK (l : Lg) (p term : Int) : (adoptJ l p term).rs.length ≤ l.rs.length := by
  unfold adoptJ
  split
  · split
    · exact Nat.le_refl _
    · split
      · split
        · exact compact_lenK l p
        · simp
      · simp
  · simp [zeroL]
theorem told_not {N : Nd} {M : Ms} {d : Int} (h : toldC N M 5 = false) : instN N M d = N ∧ instL N M = [] := by
  unfold instN instL
  rw [h]
  simp
theorem fitM_ok {w : World} {B : Nat} (id fr t : Int) (ok : Bool) (p : Int) : MsOk w B (fitM id fr t ok p) nilMA := nilMA_ok rfl rfl rfl
end Go.Proofs.YtncdjmpdbinanaaGreatDoor
