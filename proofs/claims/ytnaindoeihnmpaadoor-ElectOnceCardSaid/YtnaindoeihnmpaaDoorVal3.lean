/-
  WHAT IS PROVED HERE: what code.Put hands back of a value: its bytes, if they are at most 131072. Conditions: the value's parts are of their kinds, it has at most 4000 values, 30 within one another; the library's table stands.
-/
import Derived.Test.YtnaindoeihnmpaaDoorVal1
import Derived.Test.YtnaindoeihnmpaaDoorVal2
namespace Go.Proofs.YtnaindoeihnmpaaDoor
open Go.RowKit

theorem isbf_new {w : World} {B : Nat} (hB : B ≤ w.heap.size) (o : Obj) : Lib.IsBuilderF 107 5 B w.heap.size (Lib.byteCells []) ((w.alloc (.cells #[.pointer none, .slice none 0 0] 107)).alloc o) :=
  .inl ⟨hB, .slice none 0 0, (Blk.new w 107 _).alloc o, World.ownsRowF_nil _ _ _ _, by simp [Value.ownBlock]⟩
theorem blk4 {w : World} {g : Nat} {t : TypeId} {a b c d : Value} (h : Blk w g t #[a, b, c, d]) :
    g < w.heap.size ∧ w.cell? ⟨g, 0, none⟩ = some a ∧ w.cell? ⟨g, 1, none⟩ = some b ∧ w.cell? ⟨g, 2, none⟩ = some c ∧ w.cell? ⟨g, 3, none⟩ = some d := ⟨h.lt, h.cell 0, h.cell 1, h.cell 2, h.cell 3⟩
set_option maxRecDepth 100000 in
set_option maxHeartbeats 3200000 in
theorem VPut_any (d : Nat) (v : Vl) (cnt : Nat) (enc : List UInt8) (w : World) (h : VOk w (Lows w.heap.size) d v cnt enc) (hc : cnt ≤ 4000) (hd : d ≤ 30) (ht : Tab w) (hl : enc.length ≤ 70368744177664) :
    Calls Tryd.prog 52 #[valV v] w fun e w' => e = .returned (if enc.length ≤ 131072 then .tuple #[.string ⟨enc.toArray⟩, .int .i64 0] else .tuple #[.string ⟨#[]⟩, .int .i64 2]) ∧ Below w.heap.size w w' := by
  have hmf : ∀ (fn : Fn) (first cap : Array Value) (w : World), (Instr.makeFunc fn first cap).run Tryd.prog w = .ok (.func fn first cap) w := fun _ _ _ _ => rfl
  obtain ⟨vk, vn, vs, vA, vm, vc⟩ := v
  obtain ⟨L, hL⟩ : ∃ L, enc.length = L := ⟨_, rfl⟩
  rw [hL] at hl ⊢
  have hX0 := hid_mk (Blk.new w 96 #[.int .i64 vk, .int .i64 vn, .string vs, .slice vA vm vc])
  have h0 := hid_mk ((h.below (w' := w.alloc (.cells #[.int .i64 vk, .int .i64 vn, .string vs, .slice vA vm vc] 96)) (by go_grown)).to (S' := Lows (w.alloc (.cells #[.int .i64 vk, .int .i64 vn, .string vs, .slice vA vm vc] 96)).heap.size) (w' := w.alloc (.cells #[.int .i64 vk, .int .i64 vn, .string vs, .slice vA vm vc] 96)) (Nat.le_refl _) (fun _ _ _ => rfl) (fun _ _ h => h))
  replace hL := hid_mk hL
  unfold valV
  dsimp only
  have hE : Hid ((Lib.byteCells ([] ++ enc)).length = L) := by rw [Hid, Lib.byteCells_length]; exact hL.out
  by_cases hLe : L ≤ 131072
  · refine calls_of_wpQ Tryd.func52 rfl ?_
    intro Q hQ
    simp only [Tryd.ntmps52, List.size_toArray, List.length_cons, List.length_nil, Nat.reduceAdd, Nat.reduceSub, Array.replicate_succ, Array.replicate_zero, List.push_toArray, List.append_toArray, List.nil_append, List.cons_append]
    go_wp2_with (first | (go_at_call 65; refine (VRight_any d ⟨vk, vn, vs, vA, vm, vc⟩ cnt enc _ h0.out hc hd).mono ?_; rintro e w1 ⟨rfl, hb1⟩; have q1 := (after (w := w) hb1 (by go_grown)).1; have hX1 := hid_mk (hX0.out.keep hb1); obtain ⟨xl, x0, x1, x2, x3⟩ := blk4 hX1.out; clear hb1) | (go_at_call 66; refine (put_any d ⟨vk, vn, vs, vA, vm, vc⟩ cnt enc [] w1.heap.size (w1.heap.size + 1) w.heap.size _ (h.below (by go_grown)) (by omega) (by omega) (by simp; omega) ⟨isbf_new (by omega) _, Blk.new_ (by simp)⟩ (ht.bel (by go_grown)) (by rw [hL.out]; simpa using hl)).mono ?_; rintro e w2 ⟨rfl, hb2, hP2, _⟩; have q2 : Hid (Below w.heap.size w w2) := (show Below w.heap.size w w2 from Below.trans (by go_grown) hb2); replace hP2 := hid_mk hP2; clear hb2) | (go_at_call 71; refine (Tryd.Builder_Len_f w.heap.size w1.heap.size (Lib.byteCells ([] ++ enc)) _ hP2.out.b).mono ?_; rw [hE.out]; rintro e w3 ⟨rfl, rfl⟩) | (go_at_call 72; refine (Tryd.Builder_String_any_k w.heap.size w1.heap.size ([] ++ enc) _ hP2.out.b q2.out.size).mono ?_; rintro e w4 ⟨rfl, _, hb4, _⟩; have q4 := hid_mk (q2.out.trans hb4); clear hb4))
    refine ends_ret hQ (results_tmp2 rfl _ _ _) rfl ?_
    exact ⟨by rw [if_pos hLe]; rfl, q4.out⟩
  · have hLg : 131072 < L := by omega
    refine calls_of_wpQ Tryd.func52 rfl ?_
    intro Q hQ
    simp only [Tryd.ntmps52, List.size_toArray, List.length_cons, List.length_nil, Nat.reduceAdd, Nat.reduceSub, Array.replicate_succ, Array.replicate_zero, List.push_toArray, List.append_toArray, List.nil_append, List.cons_append]
    go_wp2_with (first | (go_at_call 65; refine (VRight_any d ⟨vk, vn, vs, vA, vm, vc⟩ cnt enc _ h0.out hc hd).mono ?_; rintro e w1 ⟨rfl, hb1⟩; have q1 := (after (w := w) hb1 (by go_grown)).1; have hX1 := hid_mk (hX0.out.keep hb1); obtain ⟨xl, x0, x1, x2, x3⟩ := blk4 hX1.out; clear hb1) | (go_at_call 66; refine (put_any d ⟨vk, vn, vs, vA, vm, vc⟩ cnt enc [] w1.heap.size (w1.heap.size + 1) w.heap.size _ (h.below (by go_grown)) (by omega) (by omega) (by simp; omega) ⟨isbf_new (by omega) _, Blk.new_ (by simp)⟩ (ht.bel (by go_grown)) (by rw [hL.out]; simpa using hl)).mono ?_; rintro e w2 ⟨rfl, hb2, hP2, _⟩; have q2 : Hid (Below w.heap.size w w2) := (show Below w.heap.size w w2 from Below.trans (by go_grown) hb2); replace hP2 := hid_mk hP2; clear hb2) | (go_at_call 71; refine (Tryd.Builder_Len_f w.heap.size w1.heap.size (Lib.byteCells ([] ++ enc)) _ hP2.out.b).mono ?_; rw [hE.out]; rintro e w3 ⟨rfl, rfl⟩) | (go_at_call 72; refine (Tryd.Builder_String_any_k w.heap.size w1.heap.size ([] ++ enc) _ hP2.out.b q2.out.size).mono ?_; rintro e w4 ⟨rfl, _, hb4, _⟩; have q4 := hid_mk (q2.out.trans hb4); clear hb4))
    refine ends_ret hQ (results_tmp2 rfl _ _ _) rfl ?_
    exact ⟨by rw [if_neg hLe]; rfl, q2.out⟩
end Go.Proofs.YtnaindoeihnmpaaDoor
