/-
  WHAT IS PROVED HERE: what slices.Insert hands back of a list of ints of the call's own and one more. Condition: at most 64 of them.
  WHAT IS PROVED HERE: what a node is that has counted an answer, as data; BinarySearch and Clone of lists of ints. Condition: at most 2^43 of them.
-/
import Derived.Test.YtncdjmpdbinanaaGreatDoorZGMem
import Derived.Shelf.Spec.SlicesInsert
import Derived.Shelf.Spec.SlicesInsertGrow
import Derived.Test.YtncdjmpdbinanaaGreatDoorZGStd
import Derived.Test.YtncdjmpdbinanaaGreatDoorZMay0
namespace Go.Proofs.YtncdjmpdbinanaaGreatDoor
open Go.RowKit

def insRen : Go.Shelf.Ren := ⟨fun | 21 => 145 | 27 => 165 | 28 => 166 | 35 => 187 | 39 => 209 | n => n, fun | 22 => 25 | 3 => 3 | 4 => 4 | 0 => 0 | n => n, fun | n => n⟩
theorem insLays : Go.Proofs.Lays2.n21 Tryz.prog insRen := {
  mixed := by kernel_rfl
  f21 := Tryz.func145.trans (congrArg some (by kernel_rfl))
  f27 := Tryz.func165.trans (congrArg some (by kernel_rfl))
  f28 := Tryz.func166.trans (congrArg some (by kernel_rfl))
  f35 := Tryz.func187.trans (congrArg some (by kernel_rfl))
  f39 := Tryz.func209.trans (congrArg some (by kernel_rfl))
  t0 := Tryz.underlying0
  a0 := Tryz.isAgg0
  z0 := Tryz.sizeOf0
  v0 := Tryz.zeroValue0
  t3 := Tryz.underlying3
  a3 := Tryz.isAgg3
  z3 := Tryz.sizeOf3
  v3 := Tryz.zeroValue3
  t4 := Tryz.underlying4
  a4 := Tryz.isAgg4
  z4 := Tryz.sizeOf4
  v4 := Tryz.zeroValue4
  t22 := Tryz.underlying25
  a22 := Tryz.isAgg25
  z22 := Tryz.sizeOf25
  v22 := Tryz.zeroValue25
  i3 := by kernel_rfl }
theorem blk_setCells {g : Nat} {t : TypeId} : ∀ (vs : List Value) (o : Nat) (w : World) (cs : Array Value), Blk w g t cs → o + vs.length ≤ cs.size →
    ∃ cs', Blk (w.setCells g o vs) g t cs' ∧ cs'.toList = cs.toList.take o ++ vs ++ cs.toList.drop (o + vs.length)
  | [], _, _, cs, h, _ => ⟨cs, h, by simp⟩
  | v :: vs, o, w, cs, h, ho => by
    simp only [List.length_cons] at ho
    obtain ⟨cs', h1, h2⟩ := blk_setCells vs (o + 1) (w.setCell ⟨g, o, none⟩ v) (cs.setIfInBounds o v) (h.set_ o v) (by rw [Array.size_setIfInBounds]; omega)
    refine ⟨cs', h1, ?_⟩
    have hl : o < cs.toList.length := by rw [Array.length_toList]; omega
    rw [h2, Array.toList_setIfInBounds, List.drop_set_of_lt (by omega), List.take_succ_eq_append_getElem (by rw [List.length_set]; exact hl), List.take_set_of_le (Nat.le_refl _), List.getElem_set_self]
    simp only [List.length_cons, List.append_assoc, List.cons_append, List.nil_append]
    rw [show o + 1 + vs.length = o + (vs.length + 1) from by omega]
theorem below_setCells {W : World} {g : Nat} (hg : W.heap.size ≤ g) : ∀ (vs : List Value) (o : Nat) (w : World), Below W.heap.size W w → Below W.heap.size W (w.setCells g o vs)
  | [], _, _, h => h
  | v :: vs, o, _, h => below_setCells hg vs (o + 1) _ (h.setCell (p := ⟨g, o, none⟩) hg v)
theorem ints_blk {w : World} {g n : Nat} {cs : Array Value} {xs : List Int} (h : Blk w g 3 cs) (hx : xs.length = n) (hc : cs.toList.take n = xs.map vint) : Ints w 0 (some ⟨g, 0, none⟩) n xs := by
  refine ⟨by rw [List.length_map]; omega, fun _ => ⟨g, 0, rfl, h.lt, .inr ⟨_, _, h⟩, fun j u hu => ?_⟩⟩
  rw [Nat.zero_add, h.cell j]
  rw [← hc, List.getElem?_take] at hu
  split at hu
  · simpa using hu
  · cases hu
theorem Insert_any {W w : World} (hb : Below W.heap.size W w) {A : Option Addr} {n c : Nat} {xs : List Int} (own : w.ownsRow W.heap.size 3 1 (.slice A n c) n (xs.map vint)) {gx : Nat} {x : Int} (hx : Blk w gx 3 #[.int .i64 x])
    (hgx : (Value.slice A n c).ownBlock ≠ some gx) {p : Nat} (hp : p ≤ n) (hn : n ≤ 64) (cx : Nat) :
    Calls Tryz.prog 145 #[.slice A n c, .int .i64 (p : Int), .slice (some ⟨gx, 0, none⟩) 1 cx] w fun e w' => ∃ A' c', e = .returned (.slice A' (n + 1) c') ∧ Ints w' 0 A' (n + 1) (xs.take p ++ x :: xs.drop p) ∧ n + 1 ≤ c' ∧ Below W.heap.size W w' := by
  have hxl : xs.length = n := by have := own.1; rw [List.length_map] at this; omega
  have hx0 : w.cell? ⟨gx, 0, none⟩ = some (.int .i64 x) := hx.cell 0
  have hvs : ∀ (j : Nat) (v : Value), ([Value.int .i64 x] : List Value)[j]? = some v → w.cell? ⟨gx, 0 + j, none⟩ = some v := by
    intro j v hv
    rcases j with _ | j
    · simp at hv; subst hv; exact hx0
    · simp at hv
  have h1v : ∀ v ∈ ([Value.int .i64 x] : List Value), v.oneCell' = true := by intro v hv; simp at hv; subst hv; rfl
  have h1c : ∀ v ∈ xs.map vint, v.oneCell' = true := by intro v hv; obtain ⟨i, _, rfl⟩ := List.mem_map.1 hv; rfl
  have hml : (xs.map vint).length = n := by rw [List.length_map, hxl]
  have hge := grownCap_ge w (n + 1) c 3
  have zlen : (xs.take p ++ x :: xs.drop p).length = n + 1 := by simp [hxl]; omega
  have zmap : (xs.take p ++ x :: xs.drop p).map vint = (xs.map vint).take p ++ [vint x] ++ (xs.map vint).drop p := by simp [List.map_take, List.map_drop]
  have z0 : p = n → (xs.take p ++ x :: xs.drop p).map vint = xs.map vint ++ [vint x] := fun e => by
    rw [List.take_of_length_le (by omega), List.drop_eq_nil_of_le (by omega)]
    simp
  by_cases hpn : p = n
  · subst hpn
    by_cases hroom : p + 1 ≤ c
    · obtain ⟨g, cap, cur, hv, hBg, hh, h1, h2, h3, h4⟩ : ∃ g cap cur, Value.slice A p c = .slice (some ⟨g, 0, none⟩) p cap ∧ W.heap.size ≤ g ∧ w.heap[g]? = some (.cells cur 3 (0, 0)) ∧ p ≤ cap ∧ cap ≤ maxLen ∧ cur.size = cap * 1 ∧ cur.toList.take (p * 1) = xs.map vint := by
        rcases own.2 with ⟨h, h0⟩ | h
        · injection h with _ h _; omega
        · exact h
      injection hv with e1 _ e2
      subst e1; subst e2
      have hk : Blk w g 3 cur := hh
      refine (Go.Proofs.Any2.slices_Insert_int_end_room insLays g 0 p c gx 0 1 cx [.int .i64 x] w (by omega) hroom (by have := h2; simp only [maxLen] at this; omega) rfl (fun j hj => ?_) (fun j hj => ?_) hvs h1v).mono ?_
      · rw [hk.cell, Array.getElem?_eq_getElem (by omega)]; rfl
      · exact hk.frozen _
      · rintro e w' ⟨rfl, rfl⟩
        obtain ⟨cs', hb1, hb2⟩ := blk_setCells [.int .i64 x] (0 + p) w cur hk (by simp; omega)
        refine ⟨_, _, rfl, ints_blk hb1 zlen ?_, hroom, below_setCells hBg _ _ _ hb⟩
        have e0 : cur.toList.take p = xs.map vint := by rw [← h4, Nat.mul_one]
        rw [hb2, z0 rfl, Nat.zero_add, e0]
        exact List.take_left' (by simp [hxl])
    · refine (Go.Proofs.Any2.slices_Insert_int_end_grow insLays A p c gx 0 1 cx (xs.map vint) [.int .i64 x] w (by omega) ?_ (by omega) (by omega) hml rfl (fun hA => ?_) (fun a ha j v hv => ?_) hvs h1v).mono ?_
      · rcases own.2 with ⟨h, h0⟩ | ⟨g, cap, cur, h, _, _, h1, _⟩
        · injection h with _ _ h; omega
        · injection h with _ _ h; omega
      · rcases own.2 with ⟨h, h0⟩ | ⟨g, cap, cur, h, _⟩
        · exact h0
        · injection h with h _ _; rw [hA] at h; cases h
      · subst ha
        have hr := Reads.of_own (B := 0) own
        obtain ⟨b', o', ea, _, _, hc⟩ := hr.2 (by have := (List.getElem?_eq_some_iff.1 hv).1; rw [hml] at this; omega)
        injection ea with ea
        subst ea
        rw [add_plain]
        exact hc j v hv
      · rintro e w' ⟨rfl, rfl⟩
        have hk := (Blk.new w.drew 3 ((xs.map vint ++ [Value.int .i64 x]).toArray ++ Builtin.zeroCells (Value.int .i64 0).cells (grownCap w (p + 1) c 3 - (p + 1))))
        refine ⟨_, _, rfl, ints_blk hk zlen ?_, hge, hb.drew.alloc hb.size _⟩
        rw [z0 rfl, Array.toList_append, List.toList_toArray]
        exact List.take_left' (by simp [hxl])
  · have hlt : p < n := by omega
    obtain ⟨g, cap, cur, hv, hBg, hh, h1, h2, h3, h4⟩ : ∃ g cap cur, Value.slice A n c = .slice (some ⟨g, 0, none⟩) n cap ∧ W.heap.size ≤ g ∧ w.heap[g]? = some (.cells cur 3 (0, 0)) ∧ n ≤ cap ∧ cap ≤ maxLen ∧ cur.size = cap * 1 ∧ cur.toList.take (n * 1) = xs.map vint := by
      rcases own.2 with ⟨h, h0⟩ | h
      · omega
      · exact h
    injection hv with e1 _ e2
    subst e1; subst e2
    rw [Nat.mul_one] at h3 h4
    have hk : Blk w g 3 cur := hh
    have hgne : gx ≠ g := fun e => hgx (by rw [e]; rfl)
    have hcs : ∀ (j : Nat) (v : Value), (xs.map vint)[j]? = some v → w.cell? ⟨g, 0 + j, none⟩ = some v := by
      intro j v hv
      rw [Nat.zero_add, hk.cell]
      rw [← h4, List.getElem?_take] at hv
      split at hv
      · simpa using hv
      · cases hv
    by_cases hroom : n + 1 ≤ c
    · refine (Go.Proofs.Any2.slices_Insert_int_shift insLays g 0 n c p gx 0 1 cx (xs.map vint) [.int .i64 x] w hlt (by omega) hroom (by have := h2; simp only [maxLen] at this; omega) hgne hml rfl hcs (fun j hj => ?_) (fun j hj => ?_) hvs h1c h1v 3 3 1 c (by unfold Blk at hx; simp [World.shape?, hx]) (by simp [World.shape?, hh, h3]) (by omega) (hx.frozen 0) (hx.frozen 1)).mono ?_
      · rw [hk.cell, Array.getElem?_eq_getElem (by omega)]; rfl
      · exact hk.frozen _
      · rintro e w' ⟨rfl, rfl⟩
        have hdl : ((xs.map vint).drop p).length = n - p := by rw [List.length_drop, hml]
        obtain ⟨cs1, k1, k2⟩ := blk_setCells ((xs.map vint).drop p) (0 + (p + 1)) w.drew cur hk.drew (by rw [hdl, h3]; omega)
        have l1 : cs1.toList.length = cur.size := by rw [k2]; simp only [List.length_append, List.length_take, List.length_drop, Array.length_toList, hml]; omega
        obtain ⟨cs2, k3, k4⟩ := blk_setCells [.int .i64 x] (0 + p) _ cs1 k1 (by rw [← Array.length_toList, l1]; simp; omega)
        refine ⟨_, _, rfl, ints_blk k3 zlen ?_, hroom, below_setCells hBg _ _ _ (below_setCells hBg _ _ _ hb.drew)⟩
        have t1 : cs1.toList.take p = (xs.map vint).take p := by
          rw [k2, Nat.zero_add, List.append_assoc, List.take_append_of_le_length (by rw [List.length_take, Array.length_toList]; omega), List.take_take, Nat.min_eq_left (by omega), ← h4, List.take_take, Nat.min_eq_left (by omega)]
        have t2 : (cs1.toList.drop (p + 1)).take (n - p) = (xs.map vint).drop p := by
          rw [k2, Nat.zero_add, List.append_assoc, List.drop_append, List.drop_eq_nil_of_le (by rw [List.length_take]; omega), List.nil_append]
          have : (cur.toList.take (p + 1)).length = p + 1 := by rw [List.length_take, Array.length_toList]; omega
          rw [this, Nat.sub_self, List.drop_zero, List.take_append_of_le_length (by rw [hdl]; exact Nat.le_refl _), List.take_of_length_le (by rw [hdl]; exact Nat.le_refl _)]
        rw [k4, Nat.zero_add, t1, zmap, List.length_singleton, List.append_assoc, List.append_assoc, List.take_append, List.take_of_length_le (by rw [List.length_take]; omega)]
        have e5 : ((xs.map vint).take p).length = p := by rw [List.length_take, hml]; omega
        rw [e5, show n + 1 - p = (n - p) + 1 from by omega, List.singleton_append, List.take_succ_cons, t2]
        rfl
    · refine (Go.Proofs.Any2.slices_Insert_int_grow insLays g 0 n c p gx 0 1 cx (xs.map vint) [.int .i64 x] w hlt (by omega) h1 (by omega) (by omega) hml rfl hcs hvs h1c h1v).mono ?_
      rintro e w' ⟨rfl, rfl⟩
      obtain ⟨Z1, hZ1⟩ : ∃ Z, Builtin.zeroCells (Value.int .i64 0).cells (n + 1 - p) = Z := ⟨_, rfl⟩
      obtain ⟨Z2, hZ2⟩ : ∃ Z, Builtin.zeroCells (Value.int .i64 0).cells (grownCap w (n + 1) c 3 - (n + 1)) = Z := ⟨_, rfl⟩
      have lz1 : Z1.size = n + 1 - p := by rw [← hZ1, size_zeroCells]; simp [Value.cells]
      obtain ⟨C0, hC0⟩ : ∃ C, ((xs.map vint).take p).toArray ++ Z1 ++ Z2 = C := ⟨_, rfl⟩
      have htp : ((xs.map vint).take p).length = p := by rw [List.length_take, hml]; omega
      have hdl : ((xs.map vint).drop p).length = n - p := by rw [List.length_drop, hml]
      have lC0 : n + 1 ≤ C0.size := by
        rw [← hC0, Array.size_append, Array.size_append, List.size_toArray, htp, lz1]
        omega
      have tC0 : C0.toList.take p = (xs.map vint).take p := by
        rw [← hC0, Array.toList_append, Array.toList_append, List.toList_toArray, List.append_assoc]
        exact List.take_left' htp
      have hk0 : Blk (w.alloc (.cells C0 3)).drew w.heap.size 3 C0 := (Blk.new w 3 C0).drew
      obtain ⟨cs1, k1, k2⟩ := blk_setCells [Value.int .i64 x] p _ C0 hk0 (by simp; omega)
      have l1 : cs1.toList.length = C0.size := by rw [k2]; simp only [List.length_append, List.length_take, List.length_drop, Array.length_toList, List.length_singleton]; omega
      obtain ⟨cs2, k3, k4⟩ := blk_setCells ((xs.map vint).drop p) (p + 1) _ cs1 k1.drew (by rw [hdl, ← Array.length_toList, l1]; omega)
      have hw1 : Below W.heap.size W (w.alloc (.cells C0 3)).drew := (hb.alloc hb.size _).drew
      change ∃ A' c', (Ending.returned (.slice (some ⟨w.heap.size, 0, none⟩) (n + 1) (grownCap w (n + 1) c 3)) = .returned (.slice A' (n + 1) c')) ∧ Ints (((((w.alloc (.cells (((xs.map vint).take p).toArray ++ Builtin.zeroCells (Value.int .i64 0).cells (n + 1 - p) ++ Builtin.zeroCells (Value.int .i64 0).cells (grownCap w (n + 1) c 3 - (n + 1))) 3)).drew.setCells w.heap.size p [Value.int .i64 x]).drew).setCells w.heap.size (p + 1) ((xs.map vint).drop p))) 0 A' (n + 1) _ ∧ _ ∧ Below W.heap.size W (((((w.alloc (.cells (((xs.map vint).take p).toArray ++ Builtin.zeroCells (Value.int .i64 0).cells (n + 1 - p) ++ Builtin.zeroCells (Value.int .i64 0).cells (grownCap w (n + 1) c 3 - (n + 1))) 3)).drew.setCells w.heap.size p [Value.int .i64 x]).drew).setCells w.heap.size (p + 1) ((xs.map vint).drop p)))
      rw [hZ1, hZ2, hC0]
      refine ⟨_, _, rfl, ints_blk k3 zlen ?_, hge, below_setCells hb.size _ _ _ (below_setCells hb.size _ _ _ hw1).drew⟩
      have t1 : cs1.toList.take (p + 1) = (xs.map vint).take p ++ [vint x] := by
        rw [k2, tC0]
        exact List.take_left' (by rw [List.length_append, htp]; rfl)
      rw [k4, t1, zmap]
      exact List.take_left' (by rw [List.length_append, List.length_append, htp, hdl, List.length_singleton]; omega)
end Go.Proofs.YtncdjmpdbinanaaGreatDoor
namespace Go.Proofs.YtncdjmpdbinanaaGreatDoor
open Go.RowKit

/-- is the message an answer that counts? -/
def countC (N : Nd) (M : Ms) : Bool := rightN N && (mayM M && (M.kind == 2 && (M.to == N.id && (M.term == N.h.t && (M.ok && N.role == 1)))))
def posL (x : Int) (l : List Int) : Nat := l.countP (fun y => decide (y < x))
/-- who voted for it, the answer counted -/
def gotM (g : List Int) (x : Int) : List Int := if g.contains x then g else g.take (posL x g) ++ x :: g.drop (posL x g)
def countN (N : Nd) (M : Ms) : Nd := if countC N M then ⟨N.id, N.h, N.role, N.lead, N.timer, N.commit, gotM N.got M.fr, N.ps⟩ else N
def countW (N : Nd) (M : Ms) : Bool := countC N M && winsL (votersN N) (gotM N.got M.fr)
theorem asc_some : ∀ (l : List Int) (u : Int), 0 ≤ u → u ≤ 9 → ascL (some u) l = true → l.Pairwise (· < ·) ∧ (∀ v ∈ l, u < v ∧ v ≤ 9) ∧ (l.length : Int) ≤ 9 - u
  | [], u, _, _, _ => ⟨List.Pairwise.nil, by simp, by simp; omega⟩
  | v :: l, u, h0, h9, h => by
    rw [ascL] at h
    by_cases hc : v < 1 ∨ 9 < v ∨ v ≤ u
    · rw [if_pos hc] at h; cases h
    rw [if_neg hc] at h
    have hv : u < v ∧ v ≤ 9 := by omega
    obtain ⟨p1, p2, p3⟩ := asc_some l v (by omega) hv.2 h
    refine ⟨List.Pairwise.cons (fun z hz => (p2 z hz).1) p1, fun z hz => ?_, by simp; omega⟩
    rcases List.mem_cons.1 hz with rfl | hz
    · exact hv
    · have := p2 z hz; omega
theorem asc_none {l : List Int} (h : ascL none l = true) : l.Pairwise (· < ·) ∧ l.length ≤ 9 := by
  cases l with
  | nil => exact ⟨List.Pairwise.nil, by simp⟩
  | cons v l =>
    rw [ascL] at h
    by_cases hc : v < 1 ∨ 9 < v
    · rw [if_pos hc] at h; cases h
    rw [if_neg hc] at h
    have hv : 1 ≤ v ∧ v ≤ 9 := by omega
    obtain ⟨p1, p2, p3⟩ := asc_some l v (by omega) hv.2 h
    exact ⟨List.Pairwise.cons (fun z hz => (p2 z hz).1) p1, by simp; omega⟩
theorem got_right {N : Nd} (h : rightN N = true) : ascL none N.got = true := by
  unfold rightN at h
  simp only [Bool.and_eq_true] at h
  exact h.2.2.2.2.2.2.2.2.1
theorem posL_le (x : Int) (l : List Int) : posL x l ≤ l.length := List.countP_le_length
theorem Search_any (A : Option Addr) (n c : Nat) (xs : List Int) (x : Int) (w : World) {B : Nat} (hn : n ≤ 8796093022208) (h : Ints w B A n xs) (hs : xs.Pairwise (· < ·)) :
    Calls Tryz.prog 144 #[.slice A n c, .int .i64 x] w fun e w' => e = .returned (.tuple #[.int .i64 (posL x xs : Nat), .bool (xs.contains x)]) ∧ Below w.heap.size w w' := by
  have hl := h.len
  rcases Nat.eq_zero_or_pos n with h0 | h0
  · subst h0
    obtain rfl : xs = [] := List.length_eq_zero_iff.1 hl
    exact (Tryz.slices_BinarySearch_int_empty A c x w).mono fun e w' ⟨h1, h2⟩ => ⟨by rw [h1]; rfl, by rw [h2]; exact Below.refl _ _⟩
  · obtain ⟨b, o, rfl, _, _, hc⟩ := h.2 h0
    refine (Tryz.slices_BinarySearch_int b o n c xs x w (by omega) (by omega) (fun j hj => hc j _ (by simp [List.getElem?_eq_getElem hj, vint, List.getD_eq_getElem?_getD])) ?_).mono ?_
    · rw [List.take_of_length_le (by omega)]
      exact hs.imp (fun h => Int.le_of_lt h)
    · rintro e w' ⟨rfl, q, rfl⟩
      rw [List.take_of_length_le (by omega)]
      exact ⟨rfl, below_drewN_ (Below.refl _ _) q⟩
theorem Clone_own (A : Option Addr) (n c : Nat) (xs : List Int) (w : World) {B : Nat} (hn : n * 8 ≤ 140737488355328) (h : Ints w B A n xs) :
    Calls Tryz.prog 56 #[.slice A n c] w fun e w' => ∃ A' c', e = .returned (.slice A' n c') ∧ w'.ownsRow w.heap.size 3 1 (.slice A' n c') n (xs.map vint) ∧ Below w.heap.size w w' := by
  have hl := h.len
  rcases Nat.eq_zero_or_pos n with h0 | h0
  · subst h0
    obtain rfl : xs = [] := List.length_eq_zero_iff.1 hl
    cases A with
    | none => exact (Tryz.slices_Clone_int_nil 0 c w).mono fun e w' ⟨h1, h2⟩ => ⟨none, 0, h1, by rw [h2]; exact World.ownsRow_nil _ _ _ _, by rw [h2]; exact Below.refl _ _⟩
    | some a =>
      refine (Tryz.slices_Clone_int_zero a c w).mono ?_
      rintro e w' ⟨v', rfl, ho, _, hb⟩
      obtain ⟨A', c', rfl, _, _⟩ := own_slice ho
      exact ⟨A', c', rfl, ho, hb⟩
  · obtain ⟨b, o, rfl, _, _, hc⟩ := h.2 h0
    refine (Tryz.slices_Clone_int b o n c xs w (by omega) hn (fun j hj => hc j _ (by simp [List.getElem?_eq_getElem hj, vint, List.getD_eq_getElem?_getD]))).mono ?_
    rintro e w' ⟨v', rfl, ho, _, hb⟩
    rw [List.take_of_length_le (by omega)] at ho
    obtain ⟨A', c', rfl, _, _⟩ := own_slice ho
    exact ⟨A', c', rfl, ho, hb⟩
end Go.Proofs.YtncdjmpdbinanaaGreatDoor
