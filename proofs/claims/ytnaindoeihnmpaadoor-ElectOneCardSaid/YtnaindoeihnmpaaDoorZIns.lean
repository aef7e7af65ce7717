/-
  WHAT IS PROVED HERE: what slices.Insert hands back of a list of ints of the call's own and one more. Condition: at most 64 of them.
-/
import Derived.Test.YtnaindoeihnmpaaDoorZGMem
import Derived.Shelf.Spec.SlicesInsert
import Derived.Shelf.Spec.SlicesInsertGrow
namespace Go.Proofs.YtnaindoeihnmpaaDoor
open Go.RowKit

def insRen : Go.Shelf.Ren := ⟨fun | 21 => 35 | 27 => 49 | 28 => 50 | 35 => 63 | 39 => 78 | n => n, fun | 22 => 25 | 3 => 3 | 4 => 4 | 0 => 0 | n => n, fun | n => n⟩
theorem insLays : Go.Proofs.Lays2.n21 Tryd.prog insRen := {
  mixed := by kernel_rfl
  f21 := Tryd.func35.trans (congrArg some (by kernel_rfl))
  f27 := Tryd.func49.trans (congrArg some (by kernel_rfl))
  f28 := Tryd.func50.trans (congrArg some (by kernel_rfl))
  f35 := Tryd.func63.trans (congrArg some (by kernel_rfl))
  f39 := Tryd.func78.trans (congrArg some (by kernel_rfl))
  t0 := Tryd.underlying0
  a0 := Tryd.isAgg0
  z0 := Tryd.sizeOf0
  v0 := Tryd.zeroValue0
  t3 := Tryd.underlying3
  a3 := Tryd.isAgg3
  z3 := Tryd.sizeOf3
  v3 := Tryd.zeroValue3
  t4 := Tryd.underlying4
  a4 := Tryd.isAgg4
  z4 := Tryd.sizeOf4
  v4 := Tryd.zeroValue4
  t22 := Tryd.underlying25
  a22 := Tryd.isAgg25
  z22 := Tryd.sizeOf25
  v22 := Tryd.zeroValue25
  i3 := by kernel_rfl }
theorem blk_setCells {g : Nat} {t : TypeId} : ∀ (vs : List Value) (o : Nat) (w : World) (cs : Array Value), Blk w g t cs → o + vs.length ≤ cs.size →
    ∃ cs', Blk (w.setCells g o vs) g t cs' ∧ cs'.toList = cs.toList.take o ++ vs ++ cs.toList.drop (o + vs.length)
  | [], _, _, cs, h, _ => ⟨cs, h, by simp⟩
  | v :: vs, o, w, cs, h, ho => by
    simp only [List.length_cons] at ho
    obtain ⟨cs', h1, h2⟩ := blk_setCells vs (o + 1) (w.setCell ⟨g, o, none⟩ v) (cs.setIfInBounds o v) (h.set_ o v) (by rw [Array.size_setIfInBounds]; omega)
    refine ⟨cs', h1, ?_⟩
    have hl : o < cs.toList.length := by rw [Array.length_toList]; omega
    rw [h2, Array.toList_setIfInBounds, List.drop_set_of_lt (by omega), List.take_succ_eq_append_getElem (by rw [List.length_set]; exact hl), List.take_set_of_le (Nat.le_refl _), List.getElem_set_self]
    simp only [List.length_cons, List.append_assoc, List.cons_append, List.nil_append]
    rw [show o + 1 + vs.length = o + (vs.length + 1) from by omega]
theorem below_setCells {W : World} {g : Nat} (hg : W.heap.size ≤ g) : ∀ (vs : List Value) (o : Nat) (w : World), Below W.heap.size W w → Below W.heap.size W (w.setCells g o vs)
  | [], _, _, h => h
  | v :: vs, o, _, h => below_setCells hg vs (o + 1) _ (h.setCell (p := ⟨g, o, none⟩) hg v)
theorem ints_blk {w : World} {g n : Nat} {cs : Array Value} {xs : List Int} (h : Blk w g 3 cs) (hx : xs.length = n) (hc : cs.toList.take n = xs.map vint) : Ints w 0 (some ⟨g, 0, none⟩) n xs := by
  refine ⟨by rw [List.length_map]; omega, fun _ => ⟨g, 0, rfl, h.lt, .inr ⟨_, _, h⟩, fun j u hu => ?_⟩⟩
  rw [Nat.zero_add, h.cell j]
  rw [← hc, List.getElem?_take] at hu
  split at hu
  · simpa using hu
  · cases hu
theorem Insert_any {W w : World} (hb : Below W.heap.size W w) {A : Option Addr} {n c : Nat} {xs : List Int} (own : w.ownsRow W.heap.size 3 1 (.slice A n c) n (xs.map vint)) {gx : Nat} {x : Int} (hx : Blk w gx 3 #[.int .i64 x])
    (hgx : (Value.slice A n c).ownBlock ≠ some gx) {p : Nat} (hp : p ≤ n) (hn : n ≤ 64) (cx : Nat) :
    Calls Tryd.prog 35 #[.slice A n c, .int .i64 (p : Int), .slice (some ⟨gx, 0, none⟩) 1 cx] w fun e w' => ∃ A' c', e = .returned (.slice A' (n + 1) c') ∧ Ints w' 0 A' (n + 1) (xs.take p ++ x :: xs.drop p) ∧ n + 1 ≤ c' ∧ Below W.heap.size W w' := by
  have hxl : xs.length = n := by have := own.1; rw [List.length_map] at this; omega
  have hx0 : w.cell? ⟨gx, 0, none⟩ = some (.int .i64 x) := hx.cell 0
  have hvs : ∀ (j : Nat) (v : Value), ([Value.int .i64 x] : List Value)[j]? = some v → w.cell? ⟨gx, 0 + j, none⟩ = some v := by
    intro j v hv
    rcases j with _ | j
    · simp at hv; subst hv; exact hx0
    · simp at hv
  have h1v : ∀ v ∈ ([Value.int .i64 x] : List Value), v.oneCell' = true := by intro v hv; simp at hv; subst hv; rfl
  have h1c : ∀ v ∈ xs.map vint, v.oneCell' = true := by intro v hv; obtain ⟨i, _, rfl⟩ := List.mem_map.1 hv; rfl
  have hml : (xs.map vint).length = n := by rw [List.length_map, hxl]
  have hge := grownCap_ge w (n + 1) c 3
  have zlen : (xs.take p ++ x :: xs.drop p).length = n + 1 := by simp [hxl]; omega
  have zmap : (xs.take p ++ x :: xs.drop p).map vint = (xs.map vint).take p ++ [vint x] ++ (xs.map vint).drop p := by simp [List.map_take, List.map_drop]
  have z0 : p = n → (xs.take p ++ x :: xs.drop p).map vint = xs.map vint ++ [vint x] := fun e => by
    rw [List.take_of_length_le (by omega), List.drop_eq_nil_of_le (by omega)]
    simp
  by_cases hpn : p = n
  · subst hpn
    by_cases hroom : p + 1 ≤ c
    · obtain ⟨g, cap, cur, hv, hBg, hh, h1, h2, h3, h4⟩ : ∃ g cap cur, Value.slice A p c = .slice (some ⟨g, 0, none⟩) p cap ∧ W.heap.size ≤ g ∧ w.heap[g]? = some (.cells cur 3 (0, 0)) ∧ p ≤ cap ∧ cap ≤ maxLen ∧ cur.size = cap * 1 ∧ cur.toList.take (p * 1) = xs.map vint := by
        rcases own.2 with ⟨h, h0⟩ | h
        · injection h with _ h _; omega
        · exact h
      injection hv with e1 _ e2
      subst e1; subst e2
      have hk : Blk w g 3 cur := hh
      refine (Go.Proofs.Any2.slices_Insert_int_end_room insLays g 0 p c gx 0 1 cx [.int .i64 x] w (by omega) hroom (by have := h2; simp only [maxLen] at this; omega) rfl (fun j hj => ?_) (fun j hj => ?_) hvs h1v).mono ?_
      · rw [hk.cell, Array.getElem?_eq_getElem (by omega)]; rfl
      · exact hk.frozen _
      · rintro e w' ⟨rfl, rfl⟩
        obtain ⟨cs', hb1, hb2⟩ := blk_setCells [.int .i64 x] (0 + p) w cur hk (by simp; omega)
        refine ⟨_, _, rfl, ints_blk hb1 zlen ?_, hroom, below_setCells hBg _ _ _ hb⟩
        have e0 : cur.toList.take p = xs.map vint := by rw [← h4, Nat.mul_one]
        rw [hb2, z0 rfl, Nat.zero_add, e0]
        exact List.take_left' (by simp [hxl])
    · refine (Go.Proofs.Any2.slices_Insert_int_end_grow insLays A p c gx 0 1 cx (xs.map vint) [.int .i64 x] w (by omega) ?_ (by omega) (by omega) hml rfl (fun hA => ?_) (fun a ha j v hv => ?_) hvs h1v).mono ?_
      · rcases own.2 with ⟨h, h0⟩ | ⟨g, cap, cur, h, _, _, h1, _⟩
        · injection h with _ _ h; omega
        · injection h with _ _ h; omega
      · rcases own.2 with ⟨h, h0⟩ | ⟨g, cap, cur, h, _⟩
        · exact h0
        · injection h with h _ _; rw [hA] at h; cases h
      · subst ha
        have hr := Reads.of_own (B := 0) own
        obtain ⟨b', o', ea, _, _, hc⟩ := hr.2 (by have := (List.getElem?_eq_some_iff.1 hv).1; rw [hml] at this; omega)
        injection ea with ea
        subst ea
        rw [add_plain]
        exact hc j v hv
      · rintro e w' ⟨rfl, rfl⟩
        have hk := (Blk.new w.drew 3 ((xs.map vint ++ [Value.int .i64 x]).toArray ++ Builtin.zeroCells (Value.int .i64 0).cells (grownCap w (p + 1) c 3 - (p + 1))))
        refine ⟨_, _, rfl, ints_blk hk zlen ?_, hge, hb.drew.alloc hb.size _⟩
        rw [z0 rfl, Array.toList_append, List.toList_toArray]
        exact List.take_left' (by simp [hxl])
  · have hlt : p < n := by omega
    obtain ⟨g, cap, cur, hv, hBg, hh, h1, h2, h3, h4⟩ : ∃ g cap cur, Value.slice A n c = .slice (some ⟨g, 0, none⟩) n cap ∧ W.heap.size ≤ g ∧ w.heap[g]? = some (.cells cur 3 (0, 0)) ∧ n ≤ cap ∧ cap ≤ maxLen ∧ cur.size = cap * 1 ∧ cur.toList.take (n * 1) = xs.map vint := by
      rcases own.2 with ⟨h, h0⟩ | h
      · omega
      · exact h
    injection hv with e1 _ e2
    subst e1; subst e2
    rw [Nat.mul_one] at h3 h4
    have hk : Blk w g 3 cur := hh
    have hgne : gx ≠ g := fun e => hgx (by rw [e]; rfl)
    have hcs : ∀ (j : Nat) (v : Value), (xs.map vint)[j]? = some v → w.cell? ⟨g, 0 + j, none⟩ = some v := by
      intro j v hv
      rw [Nat.zero_add, hk.cell]
      rw [← h4, List.getElem?_take] at hv
      split at hv
      · simpa using hv
      · cases hv
    by_cases hroom : n + 1 ≤ c
    · refine (Go.Proofs.Any2.slices_Insert_int_shift insLays g 0 n c p gx 0 1 cx (xs.map vint) [.int .i64 x] w hlt (by omega) hroom (by have := h2; simp only [maxLen] at this; omega) hgne hml rfl hcs (fun j hj => ?_) (fun j hj => ?_) hvs h1c h1v 3 3 1 c (by unfold Blk at hx; simp [World.shape?, hx]) (by simp [World.shape?, hh, h3]) (by omega) (hx.frozen 0) (hx.frozen 1)).mono ?_
      · rw [hk.cell, Array.getElem?_eq_getElem (by omega)]; rfl
      · exact hk.frozen _
      · rintro e w' ⟨rfl, rfl⟩
        have hdl : ((xs.map vint).drop p).length = n - p := by rw [List.length_drop, hml]
        obtain ⟨cs1, k1, k2⟩ := blk_setCells ((xs.map vint).drop p) (0 + (p + 1)) w.drew cur hk.drew (by rw [hdl, h3]; omega)
        have l1 : cs1.toList.length = cur.size := by rw [k2]; simp only [List.length_append, List.length_take, List.length_drop, Array.length_toList, hml]; omega
        obtain ⟨cs2, k3, k4⟩ := blk_setCells [.int .i64 x] (0 + p) _ cs1 k1 (by rw [← Array.length_toList, l1]; simp; omega)
        refine ⟨_, _, rfl, ints_blk k3 zlen ?_, hroom, below_setCells hBg _ _ _ (below_setCells hBg _ _ _ hb.drew)⟩
        have t1 : cs1.toList.take p = (xs.map vint).take p := by
          rw [k2, Nat.zero_add, List.append_assoc, List.take_append_of_le_length (by rw [List.length_take, Array.length_toList]; omega), List.take_take, Nat.min_eq_left (by omega), ← h4, List.take_take, Nat.min_eq_left (by omega)]
        have t2 : (cs1.toList.drop (p + 1)).take (n - p) = (xs.map vint).drop p := by
          rw [k2, Nat.zero_add, List.append_assoc, List.drop_append, List.drop_eq_nil_of_le (by rw [List.length_take]; omega), List.nil_append]
          have : (cur.toList.take (p + 1)).length = p + 1 := by rw [List.length_take, Array.length_toList]; omega
          rw [this, Nat.sub_self, List.drop_zero, List.take_append_of_le_length (by rw [hdl]; exact Nat.le_refl _), List.take_of_length_le (by rw [hdl]; exact Nat.le_refl _)]
        rw [k4, Nat.zero_add, t1, zmap, List.length_singleton, List.append_assoc, List.append_assoc, List.take_append, List.take_of_length_le (by rw [List.length_take]; omega)]
        have e5 : ((xs.map vint).take p).length = p := by rw [List.length_take, hml]; omega
        rw [e5, show n + 1 - p = (n - p) + 1 from by omega, List.singleton_append, List.take_succ_cons, t2]
        rfl
    · refine (Go.Proofs.Any2.slices_Insert_int_grow insLays g 0 n c p gx 0 1 cx (xs.map vint) [.int .i64 x] w hlt (by omega) h1 (by omega) (by omega) hml rfl hcs hvs h1c h1v).mono ?_
      rintro e w' ⟨rfl, rfl⟩
      obtain ⟨Z1, hZ1⟩ : ∃ Z, Builtin.zeroCells (Value.int .i64 0).cells (n + 1 - p) = Z := ⟨_, rfl⟩
      obtain ⟨Z2, hZ2⟩ : ∃ Z, Builtin.zeroCells (Value.int .i64 0).cells (grownCap w (n + 1) c 3 - (n + 1)) = Z := ⟨_, rfl⟩
      have lz1 : Z1.size = n + 1 - p := by rw [← hZ1, size_zeroCells]; simp [Value.cells]
      obtain ⟨C0, hC0⟩ : ∃ C, ((xs.map vint).take p).toArray ++ Z1 ++ Z2 = C := ⟨_, rfl⟩
      have htp : ((xs.map vint).take p).length = p := by rw [List.length_take, hml]; omega
      have hdl : ((xs.map vint).drop p).length = n - p := by rw [List.length_drop, hml]
      have lC0 : n + 1 ≤ C0.size := by
        rw [← hC0, Array.size_append, Array.size_append, List.size_toArray, htp, lz1]
        omega
      have tC0 : C0.toList.take p = (xs.map vint).take p := by
        rw [← hC0, Array.toList_append, Array.toList_append, List.toList_toArray, List.append_assoc]
        exact List.take_left' htp
      have hk0 : Blk (w.alloc (.cells C0 3)).drew w.heap.size 3 C0 := (Blk.new w 3 C0).drew
      obtain ⟨cs1, k1, k2⟩ := blk_setCells [Value.int .i64 x] p _ C0 hk0 (by simp; omega)
      have l1 : cs1.toList.length = C0.size := by rw [k2]; simp only [List.length_append, List.length_take, List.length_drop, Array.length_toList, List.length_singleton]; omega
      obtain ⟨cs2, k3, k4⟩ := blk_setCells ((xs.map vint).drop p) (p + 1) _ cs1 k1.drew (by rw [hdl, ← Array.length_toList, l1]; omega)
      have hw1 : Below W.heap.size W (w.alloc (.cells C0 3)).drew := (hb.alloc hb.size _).drew
      change ∃ A' c', (Ending.returned (.slice (some ⟨w.heap.size, 0, none⟩) (n + 1) (grownCap w (n + 1) c 3)) = .returned (.slice A' (n + 1) c')) ∧ Ints (((((w.alloc (.cells (((xs.map vint).take p).toArray ++ Builtin.zeroCells (Value.int .i64 0).cells (n + 1 - p) ++ Builtin.zeroCells (Value.int .i64 0).cells (grownCap w (n + 1) c 3 - (n + 1))) 3)).drew.setCells w.heap.size p [Value.int .i64 x]).drew).setCells w.heap.size (p + 1) ((xs.map vint).drop p))) 0 A' (n + 1) _ ∧ _ ∧ Below W.heap.size W (((((w.alloc (.cells (((xs.map vint).take p).toArray ++ Builtin.zeroCells (Value.int .i64 0).cells (n + 1 - p) ++ Builtin.zeroCells (Value.int .i64 0).cells (grownCap w (n + 1) c 3 - (n + 1))) 3)).drew.setCells w.heap.size p [Value.int .i64 x]).drew).setCells w.heap.size (p + 1) ((xs.map vint).drop p)))
      rw [hZ1, hZ2, hC0]
      refine ⟨_, _, rfl, ints_blk k3 zlen ?_, hge, below_setCells hb.size _ _ _ (below_setCells hb.size _ _ _ hw1).drew⟩
      have t1 : cs1.toList.take (p + 1) = (xs.map vint).take p ++ [vint x] := by
        rw [k2, tC0]
        exact List.take_left' (by rw [List.length_append, htp]; rfl)
      rw [k4, t1, zmap]
      exact List.take_left' (by rw [List.length_append, List.length_append, htp, hdl, List.length_singleton]; omega)
end Go.Proofs.YtnaindoeihnmpaaDoor
