/-
  WHAT IS PROVED HERE: what the law's small and alive hand back. Conditions: the slices are of at most 2^47 elements; the library's table stands.
-/
import Derived.Test.YtnaindoeihnmpaaGreatDoorZEl1
namespace Go.Proofs.YtnaindoeihnmpaaGreatDoor
open Go.RowKit

def smallK : Int → Nat → List Rec → Option Int
  | c, _, [] => some c
  | c, i, r :: rs => if 30000 < wrap64 (c + r.d.size) ∨ 300 < i then none else smallK (wrap64 (c + r.d.size)) (i + 1) rs
def smallE (o : Option Int) (n : Nat) : Bool := match o with | none => false | some c => decide (c ≤ 30000) && decide (n ≤ 300)
def smallB (N : Nd) (M : Ms) : Bool := smallE (smallK N.h.s.size 0 N.h.l.rs) M.rs.length
set_option maxRecDepth 100000 in
set_option maxHeartbeats 3200000 in
theorem small_any (N : Nd) (a : NdA) (M : Ms) (b : MsA) (w : World) {B : Nat} (hN : NdOk w B N a) (hM : MsOk w B M b) :
    Calls Tryz.prog 5 #[nodeV N a, msgV M b] w fun e w' => e = .returned (.bool (smallB N M)) ∧ Below w.heap.size w w' := by
  obtain ⟨hr, hrc, hrb, hi, hvc, hvb, hsb, hg, hgc, hgb, hps, hpc, hpb⟩ := hN
  obtain ⟨mr, mrc, mrb, _, _, _, _⟩ := hM
  obtain ⟨Z, hZ⟩ : ∃ Z, smallB N M = Z := ⟨_, rfl⟩
  rw [hZ]
  unfold smallB at hZ
  obtain ⟨id, ⟨t, v, ⟨base, bt, rs⟩, s, vs⟩, role, lead, timer, commit, got, ps⟩ := N
  obtain ⟨⟨RA, n, Rc⟩, ⟨VA, m, Vc⟩, ⟨GA, gn, Gc⟩, ⟨PA, pn, Pc⟩⟩ := a
  obtain ⟨kind, fr, to, term, ok, index, lterm, mrs, mcommit, ms, mvs⟩ := M
  obtain ⟨⟨QA, qn, Qc⟩, ⟨UA, un, Uc⟩⟩ := b
  dsimp only at hr hrc hrb mr mrc mrb hZ
  have hlm := hid_mk mr.len
  unfold nodeV msgV
  dsimp only
  have hM0 : Hid (Blk ((w.alloc (.cells #[.int .i64 id, .int .i64 t, .int .i64 v, .int .i64 base, .int .i64 bt, .slice RA n Rc, .string s, .slice VA m Vc, .int .i64 role, .int .i64 lead, .int .i64 timer, .int .i64 commit, .slice GA gn Gc, .slice PA pn Pc] 30)).alloc (.cells #[.int .i64 kind, .int .i64 fr, .int .i64 to, .int .i64 term, .bool ok, .int .i64 index, .int .i64 lterm, .slice QA qn Qc, .int .i64 mcommit, .string ms, .slice UA un Uc] 33)) (w.heap.size + 1) 33 #[.int .i64 kind, .int .i64 fr, .int .i64 to, .int .i64 term, .bool ok, .int .i64 index, .int .i64 lterm, .slice QA qn Qc, .int .i64 mcommit, .string ms, .slice UA un Uc]) := Blk.new_ (by simp)
  have q0 : Below w.heap.size w ((w.alloc (.cells #[.int .i64 id, .int .i64 t, .int .i64 v, .int .i64 base, .int .i64 bt, .slice RA n Rc, .string s, .slice VA m Vc, .int .i64 role, .int .i64 lead, .int .i64 timer, .int .i64 commit, .slice GA gn Gc, .slice PA pn Pc] 30)).alloc (.cells #[.int .i64 kind, .int .i64 fr, .int .i64 to, .int .i64 term, .bool ok, .int .i64 index, .int .i64 lterm, .slice QA qn Qc, .int .i64 mcommit, .string ms, .slice UA un Uc] 33)) := by go_grown
  have hz0 : Hid (smallE (smallK s.size 0 (rs.drop 0)) mrs.length = Z) := hZ
  clear hZ
  refine calls_of_wpQ Tryz.func5 rfl ?_
  intro Q hQ
  simp only [Tryz.ntmps5, List.size_toArray, List.length_cons, List.length_nil, Nat.reduceAdd, Nat.reduceSub, Array.replicate_succ, Array.replicate_zero, List.push_toArray, List.append_toArray, List.nil_append, List.cons_append]
  go_wp2
  go_loopw [5, 17] (fun cc i wr => ∃ (k : Nat) (c : Int), k ≤ n ∧ i = .int .i64 k ∧ cc = .int .i64 c ∧ Below w.heap.size w wr ∧ Hid (smallE (smallK c k (rs.drop k)) mrs.length = Z) ∧ Hid (Blk wr (w.heap.size + 1) 33 #[.int .i64 kind, .int .i64 fr, .int .i64 to, .int .i64 term, .bool ok, .int .i64 index, .int .i64 lterm, .slice QA qn Qc, .int .i64 mcommit, .string ms, .slice UA un Uc])) (fun _ i _ => n - (intOf i).toNat)
  case atStart => exact ⟨0, _, Nat.zero_le _, rfl, rfl, q0, hz0, hM0⟩
  case round =>
    clear hz0 q0 hM0
    obtain ⟨k, c, hk, rfl, rfl, hb, hn, hX⟩ := hrel
    by_cases hlt : k < n
    · obtain ⟨b, o, r, rfl, hbb, hd, ct, ck, cd⟩ := (hr.below hb).at_ hlt
      have hb2 : Below w.heap.size w (wr.alloc (.cells #[.int .i64 r.t, .int .i64 r.k, .string r.d] 49)) := hb.alloc hb.size _
      have hX2 := hid_mk (hX.out.alloc (.cells #[.int .i64 r.t, .int .i64 r.k, .string r.d] 49))
      obtain ⟨rt, rk, rd⟩ := r
      dsimp only at ct ck cd hb2 hX2
      obtain ⟨q, hq⟩ : ∃ q, wrap64 (c + rd.size) = q := ⟨_, rfl⟩
      by_cases h1 : 30000 < q
      · have he : Hid (Z = false) := by rw [Hid, ← hn.out, hd.out, smallK, if_pos (.inl (by rw [hq]; exact h1))]; rfl
        go_wp2
        refine ends_ret hQ (results_tmp rfl _ _ _) rfl ?_
        exact ⟨ret_bool he.out.symm, hb2⟩
      by_cases h2 : 300 < k
      · have he : Hid (Z = false) := by rw [Hid, ← hn.out, hd.out, smallK, if_pos (.inr h2)]; rfl
        go_wp2
        refine ends_ret hQ (results_tmp rfl _ _ _) rfl ?_
        exact ⟨ret_bool he.out.symm, hb2⟩
      have hn2 : Hid (smallE (smallK (wrap64 (c + rd.size)) (k + 1) (rs.drop (k + 1))) mrs.length = Z) := by
        have := hn.out
        rw [hd.out, smallK, if_neg (by rw [hq]; rintro (h | h) <;> omega)] at this
        exact this
      go_wp2
      go_roundw
      case rel => exact ⟨k + 1, _, by omega, by go_num, rfl, hb2, hn2, hX2⟩
      case measure => simp [intOf]; omega
    · have hz : Hid ((decide (c ≤ 30000) && decide (qn ≤ 300)) = Z) := by
        have := hn.out
        rw [hr.end_ hlt, smallK, hlm.out] at this
        exact this
      have x7 := hX.out.cell 7
      have xl := hX.out.lt
      change _ = some (Value.slice QA qn Qc) at x7
      clear hn
      by_cases h1 : c ≤ 30000
      · have c1 := hid_mk (show decide (c ≤ 30000) = true from by simpa using h1)
        by_cases h2 : qn ≤ 300
        · have c2 := hid_mk (show decide (qn ≤ 300) = true from by simpa using h2)
          go_wp2
          refine ends_ret hQ (results_tmp rfl _ _ _) rfl ?_
          exact ⟨ret_bool (by rw [← hz.out, c1.out, c2.out]; simp; omega), hb⟩
        · have c2 := hid_mk (show decide (qn ≤ 300) = false from by simpa using h2)
          go_wp2
          refine ends_ret hQ (results_tmp rfl _ _ _) rfl ?_
          exact ⟨ret_bool (by rw [← hz.out, c1.out, c2.out]; simp; omega), hb⟩
      · have c1 := hid_mk (show decide (c ≤ 30000) = false from by simpa using h1)
        go_wp2
        refine ends_ret hQ (results_tmp rfl _ _ _) rfl ?_
        exact ⟨ret_bool (by rw [← hz.out, c1.out]; rfl), hb⟩
def liveN : Nd := ⟨1, ⟨0, 0, ⟨0, 0, []⟩, ⟨#[]⟩, [1]⟩, 0, 0, 0, 0, [], []⟩
theorem live_right : rightN liveN = true := by
  have h0 := num_len (n := 0) (by omega) (by omega)
  have h1 := num_len (n := 1) (by omega) (by omega)
  have ht := itoa_len (n := (0 : Int)) (by omega) (k := 9) (by omega)
  have hl : (encH liveN.h).length ≤ 131072 := by
    have e : (txtN (⟨#[]⟩ : ByteArray)).enc.length ≤ 11 := by
      show (Lib.itoa ((⟨#[]⟩ : ByteArray).size : Int) ++ [58]).length ≤ 11
      rw [List.length_append]
      exact Nat.succ_le_succ ht
    have e2 : (votEnc [1]).length ≤ 14 := by
      unfold votEnc votN encN
      simp only [List.map_cons, List.map_nil, List.flatMap_cons, List.flatMap_nil, List.length_append, List.length_cons, List.length_nil]
      omega
    have e3 : (recsEnc []).length = 2 := rfl
    unfold encH liveN
    simp only [List.length_append, List.length_cons, List.length_nil]
    omega
  unfold rightN rightH
  rw [show decide ((encH liveN.h).length ≤ 131072) = true from by simpa using hl]
  rfl
set_option maxRecDepth 100000 in
theorem alive_any (w : World) (ht : Tab w) : Calls Tryz.prog 9 #[] w fun e w' => e = .returned (.bool true) ∧ Below w.heap.size w w' := by
  have hI : Ints (w.alloc (.cells #[.int .i64 1] 3)) w.heap.size (some ⟨w.heap.size, 0, none⟩) 1 [1] := reads_new w #[.int .i64 1] 3 1 1 w.heap.size rfl
  have hN : NdOk (w.alloc (.cells #[.int .i64 1] 3)) w.heap.size liveN ⟨⟨none, 0, 0⟩, ⟨some ⟨w.heap.size, 0, none⟩, 1, 1⟩, ⟨none, 0, 0⟩, ⟨none, 0, 0⟩⟩ :=
    ⟨Reads.none_, Nat.le_refl _, by dsimp only; omega, hI, Nat.le_refl _, by dsimp only; omega, by show 0 ≤ _; omega, Reads.none_, Nat.le_refl _, by dsimp only; omega, Reads.none_, Nat.le_refl _, by dsimp only; omega⟩
  have ht' : Tab (w.alloc (.cells #[.int .i64 1] 3)) := ht.to (by go_grown)
  have hlv := hid_mk live_right
  go_enter Tryz.func9, Tryz.ntmps9
  go_wp2_with (go_at_call 18; refine (ERight_any liveN _ _ hN ht').mono ?_; rw [hlv.out]; rintro e w1 ⟨rfl, hb1⟩; have q1 := (after (w := w) hb1 (by go_grown)).1; clear hb1)
  go_ret
  exact ⟨rfl, q1⟩
end Go.Proofs.YtnaindoeihnmpaaGreatDoor
