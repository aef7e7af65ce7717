/-
  WHAT IS PROVED HERE: what quorum.Of and the reference's Of hand back: the voters that the last record of its kind that can be read says, and its place; else the state's own. Conditions: the slices are of at most 2^43 elements; the variable internal/bytealg.MaxLen holds a number.
  WHAT IS PROVED HERE: what the closure of extend.Take that makes an answer hands back. No condition.
-/
import Derived.Test.YtncdjmpdbinanaaGreatDoorZGQrm
import Derived.Test.YtncdjmpdbinanaaGreatDoorZGOpn
import Derived.Test.YtncdjmpdbinanaaGreatDoorZGMem
namespace Go.Proofs.YtncdjmpdbinanaaGreatDoor
open Go.RowKit

theorem blk7q {w : World} {g : Nat} {t : TypeId} {a b c d e f k : Value} (h : Blk w g t #[a, b, c, d, e, f, k]) :
    g < w.heap.size ∧ w.cell? ⟨g, 2, none⟩ = some c ∧ w.cell? ⟨g, 4, none⟩ = some e ∧ w.cell? ⟨g, 6, none⟩ = some k := ⟨h.lt, h.cell 2, h.cell 4, h.cell 6⟩
/-- the voters that a record says -/
def qual (r : Rec) : Option (List Int) := if r.k = 2 then parseQ r.d.data.toList else none
def ofF (base : Int) : Nat → List Int × Int → List Rec → List Int × Int
  | _, cur, [] => cur
  | i, cur, r :: rs => ofF base (i + 1) (match qual r with
    | some x => (x, wrap64 (wrap64 (base + 1) + i))
    | none => cur) rs
theorem ofF_snoc (base : Int) (r : Rec) : ∀ (rs : List Rec) (i : Nat) (cur : List Int × Int), ofF base i cur (rs ++ [r]) = match qual r with
    | some x => (x, wrap64 (wrap64 (base + 1) + ((i + rs.length : Nat) : Int)))
    | none => ofF base i cur rs
  | [], i, cur => by
    simp only [List.nil_append, ofF, List.length_nil, Nat.add_zero]
  | q :: rs, i, cur => by
    rw [List.cons_append, ofF, ofF_snoc base r rs]
    rw [show i + 1 + rs.length = i + (q :: rs).length from by simp; omega]
    cases qual r <;> simp [ofF]
theorem qual_other {r : Rec} (h : r.k ≠ 2) : qual r = none := by unfold qual; rw [if_neg h]
theorem qual_two {r : Rec} (h : r.k = 2) : qual r = parseQ r.d.data.toList := by unfold qual; rw [if_pos h]
/-- what is handed back -/
def RetOf (w : World) (B : Nat) (R : List Int × Int) (e : Ending) (w' : World) : Prop :=
  ∃ A n c, e = .returned (.tuple #[.slice A n c, .int .i64 R.2]) ∧ Ints w' B A n R.1 ∧ n ≤ 140737488355328 ∧ Below w.heap.size w w'
/-- as RetOf; the slice has its cells' room, if K -/
def RetOfC (w : World) (B : Nat) (K : Prop) (R : List Int × Int) (e : Ending) (w' : World) : Prop :=
  ∃ A n c, e = .returned (.tuple #[.slice A n c, .int .i64 R.2]) ∧ Ints w' B A n R.1 ∧ n ≤ 140737488355328 ∧ (K → n ≤ c) ∧ Below w.heap.size w w'
theorem RetOfC.of {w : World} {B : Nat} {K : Prop} {R : List Int × Int} {e : Ending} {w' : World} (h : RetOfC w B K R e w') : RetOf w B R e w' := by
  obtain ⟨A, n, c, h1, h2, h3, _, h4⟩ := h
  exact ⟨A, n, c, h1, h2, h3, h4⟩
set_option maxRecDepth 100000 in
theorem CloneC_any (A : Option Addr) (n c : Nat) (zs : List Int) (w : World) (B : Nat) (hbig : n * 8 ≤ 140737488355328) (h : Ints w B A n zs) :
    Calls Tryz.prog 56 #[.slice A n c] w fun e w' => ∃ A' c', e = .returned (.slice A' n c') ∧ Ints w' 0 A' n zs ∧ n ≤ c' ∧ Below w.heap.size w w' := by
  rcases Nat.eq_zero_or_pos n with h0 | h0
  · subst h0
    have hz : zs = [] := List.eq_nil_of_length_eq_zero h.len
    subst hz
    rcases A with _ | a
    · refine (Tryz.slices_Clone_int_nil 0 c w).mono ?_
      rintro e w' ⟨rfl, rfl⟩
      exact ⟨none, 0, rfl, Reads.none_, Nat.le_refl _, Below.refl _ _⟩
    · refine (Tryz.slices_Clone_int_zero a c w).mono ?_
      rintro e w' ⟨v', rfl, ho, _, hb⟩
      obtain ⟨A', c', rfl, _, _⟩ := (OwnM.of ho).slice
      exact ⟨A', c', rfl, Reads.none_, Nat.zero_le _, hb⟩
  · obtain ⟨b, o, rfl, hb, _, hc⟩ := h.2 h0
    have hlen := h.len
    refine (Tryz.slices_Clone_int b o n c zs w (by omega) hbig (fun j hj => ?_)).mono ?_
    · exact hc j _ (by simp [List.getElem?_eq_getElem hj, vint])
    · rintro e w' ⟨v', rfl, ho, _, hb⟩
      obtain ⟨A', c', rfl, hnc, _⟩ := (OwnM.of ho).slice
      refine ⟨A', c', rfl, ?_, hnc, hb⟩
      have := (OwnM.of ho).reads (B' := 0)
      rw [List.take_of_length_le (by omega)] at this
      exact this
set_option maxRecDepth 100000 in
set_option maxHeartbeats 1600000 in
theorem Of_anyC (t v : Int) (l : Lg) (A : Option Addr) (n cap : Nat) (s : ByteArray) (A1 : Option Addr) (n1 cap1 : Nat) (zs : List Int) (w : World) (B B1 : Nat) (m : Int) (hm : w.cell? ⟨0, 0, none⟩ = some (.int .i64 m))
    (hn : n ≤ 8796093022208) (hn1 : n1 * 8 ≤ 140737488355328) (h : Recs w B A n l.rs) (hz : Ints w B1 A1 n1 zs) :
    Calls Tryz.prog 69 #[hardV t v l A n cap s A1 n1 cap1] w (RetOfC w 0 True (ofF l.base 0 (zs, l.base) l.rs)) := by
  obtain ⟨base, bt, rs⟩ := l
  have hlen := hid_mk h.len
  unfold hardV
  dsimp only at *
  obtain ⟨R, hR⟩ : ∃ R, ofF base 0 (zs, base) rs = R := ⟨_, rfl⟩
  have hR0 : Hid (R = ofF base 0 (zs, base) (rs.take n)) := by rw [Hid, List.take_of_length_le (by rw [hlen.out]; exact Nat.le_refl _), hR]
  rw [hR]
  replace hR := hid_mk hR
  have hm2 : Hid (∀ w', Below w.heap.size w w' → w'.cell? ⟨0, 0, none⟩ = some (.int .i64 m)) := fun w' hb => (hb.cell (p := ⟨0, 0, none⟩) (cell_lt hm)).trans hm
  clear hm
  have hb1 : Below w.heap.size w (w.alloc (.cells #[.int .i64 t, .int .i64 v, .int .i64 base, .int .i64 bt, .slice A n cap, .string s, .slice A1 n1 cap1] 27)) := (Below.refl _ w).alloc (Nat.le_refl _) _
  have hX := Blk.new w 27 #[.int .i64 t, .int .i64 v, .int .i64 base, .int .i64 bt, .slice A n cap, .string s, .slice A1 n1 cap1]
  obtain ⟨w1, hw1⟩ : ∃ w1, w.alloc (.cells #[.int .i64 t, .int .i64 v, .int .i64 base, .int .i64 bt, .slice A n cap, .string s, .slice A1 n1 cap1] 27) = w1 := ⟨_, rfl⟩
  have hX0 := blk7q hX
  obtain ⟨x0, x2, x4, x6⟩ := hX0
  have hwrap : n = 0 → IntKind.i64.wrap ((n : Int) - 1) = -1 := fun h => by subst h; rfl
  have hwr2 : IntKind.i64.wrap ((n : Int) - 1) = (n : Int) - 1 := IntWalk.i64_in _ (by omega)
  clear hwrap
  have hsz1 : w1.heap.size = w.heap.size + 1 := by rw [← hw1]; simp
  replace hw1 := hid_mk hw1
  replace hsz1 := hid_mk hsz1
  refine calls_of_wpQ Tryz.func69 rfl ?_
  intro Q hQ
  simp only [Tryz.ntmps69, List.size_toArray, List.length_cons, List.length_nil, Nat.reduceAdd, Nat.reduceSub, Array.replicate_succ, Array.replicate_zero, List.push_toArray, List.append_toArray, List.nil_append, List.cons_append]
  go_wp2
  rw [hw1.out] at hb1 hX ⊢
  replace hX := hid_mk hX
  replace hb1 := hid_mk hb1
  clear x0 x2 x4 x6
  go_loopw [4] (fun iv wr => ∃ j : Nat, iv = .int .i64 ((j : Int) - 1) ∧ j ≤ n ∧ Hid (R = ofF base 0 (zs, base) (rs.take j)) ∧ Hid (Below w1.heap.size w1 wr)) (fun iv _ => (intOf iv + 1).toNat)
  case atStart => exact ⟨n, rfl, Nat.le_refl _, hR0, hid_mk (Below.refl _ _)⟩
  case round =>
    obtain ⟨j, rfl, hj, hRj, hb⟩ := hrel
    have q := hid_mk (after (w := w) hb.out hb1.out).1
    have hXr := hid_mk (hX.out.keep hb.out)
    have hXb := blk7q hXr.out
    obtain ⟨x0, x2, x4, x6⟩ := hXb
    rcases Nat.eq_zero_or_pos j with h0 | h0
    · subst h0
      have hRz : Hid (R = (zs, base)) := by rw [Hid, hRj.out]; rfl
      have hneg : ¬ (0 : Int) ≤ ((0 : Nat) : Int) - 1 := by omega
      have hng2 : decide ((0 : Int) ≤ ((0 : Nat) : Int) - 1) = false := by decide
      have hzr := hid_mk (hz.to q.out)
      go_wp2_with fail
      go_region_held3 (fun w' => w'.cell? ⟨w.heap.size, 2, none⟩ = some (.int .i64 base) ∧ w'.cell? ⟨w.heap.size, 6, none⟩ = some (.slice A1 n1 cap1)) ((first | (refine ⟨?_, ?_⟩ <;> assumption) | go_keep)) (first | (go_at_call 56; refine (CloneC_any A1 n1 cap1 zs _ B1 hn1 (hzr.out.to (by go_grown))).mono ?_; rintro e w2 ⟨A2, c2, rfl, hI, hc2, hb2⟩; have q2 := hid_mk (after (w := w) (after hb2 (by go_grown)).1 q.out).1; replace hI := hid_mk hI; have hX2 := hid_mk (hXr.out.keep (after hb2 (by go_grown)).1); clear x0 x2 x4 x6; obtain ⟨x0, x2, x4, x6⟩ := blk7q hX2.out; clear hb2))
      all_goals
        go_wp2
        refine ends_ret hQ (results_tmp2 rfl _ _ _) rfl ?_
        exact ⟨A2, n1, c2, by rw [hRz.out]; rfl, by rw [hRz.out]; exact hI.out, by omega, fun _ => hc2, q2.out⟩
    · obtain ⟨k, rfl⟩ : ∃ k, j = k + 1 := ⟨j - 1, by omega⟩
      have hk : ((k + 1 : Nat) : Int) - 1 = (k : Int) := by omega
      rw [hk]
      replace hk := hid_mk hk
      obtain ⟨b, o, r, hA, hbb, hd, ct, ck, cd⟩ := (h.to q.out).at_ (show k < n by omega)
      subst hA
      have hRk : Hid (R = match qual r with
          | some x => (x, wrap64 (wrap64 (base + 1) + (k : Int)))
          | none => ofF base 0 (zs, base) (rs.take k)) := by
        rw [Hid, hRj.out, take_snoc hd.out, ofF_snoc]
        rw [List.length_take, Nat.min_eq_left (by rw [hlen.out]; omega), Nat.zero_add]
      obtain ⟨rt, rk, rd⟩ := r
      dsimp only at *
      have k0 : (0 : Int) ≤ k := by omega
      have k1 : (k : Int) < n := by omega
      have hwk : IntKind.i64.wrap ((k : Int) - 1) = (k : Int) - 1 := IntWalk.i64_in _ (by omega)
      have qn : Below w1.heap.size w1 (wr.alloc (.cells #[.int .i64 rt, .int .i64 rk, .string rd] 51)) := hb.out.alloc hb.out.size _
      have qw := hid_mk (after (w := w) qn hb1.out).1
      replace qn := hid_mk qn
      by_cases h2 : rk = 2
      · subst h2
        have hq2 := qual_two (r := ⟨rt, 2, rd⟩) rfl
        have hXn := hid_mk (hX.out.keep qn.out)
        have hrb := Blk.new wr 51 #[.int .i64 rt, .int .i64 2, .string rd]
        have r2 := hrb.cell 2
        have r1 := hrb.cell 1
        clear hrb
        rcases hp : parseQ rd.data.toList with _ | x
        · have hRn : Hid (R = ofF base 0 (zs, base) (rs.take k)) := by rw [Hid, hRk.out, hq2, hp]
          replace hp := hid_mk hp
          clear hq2
          go_wp2_with fail
          refine (Parse_no rd _ m (hm2.out _ qw.out) hp.out).mono ?_
          rintro e w3 ⟨A3, c3, rfl, hb3⟩
          have q3 := hid_mk (after (w := w1) hb3 qn.out).1
          clear hb3 r1 r2
          go_wp2
          go_roundw
          case rel => exact ⟨k, rfl, by omega, hRn, q3⟩
          case measure => simp [intOf]
        · have hRn : Hid (R = (x, wrap64 (wrap64 (base + 1) + (k : Int)))) := by rw [Hid, hRk.out, hq2, hp]
          replace hp := hid_mk hp
          clear hq2
          go_wp2_with fail
          refine (Parse_yes rd _ m (hm2.out _ qw.out) hp.out).mono ?_
          rintro e w3 ⟨A3, n3, c3, rfl, hI3, hc3, hn3, hb3⟩
          have q3 := hid_mk (after (w := w) hb3 qw.out).1
          have hX3 := hid_mk (hXn.out.keep hb3)
          replace hI3 := hid_mk hI3
          clear hb3 r1 r2 x0 x2 x4 x6
          obtain ⟨x0, x2, x4, x6⟩ := blk7q hX3.out
          go_wp2
          go_quiet (fail)
          all_goals go_wp2
          all_goals
            refine ends_ret hQ (results_tmp2 rfl _ _ _) rfl ?_
            exact ⟨A3, n3, c3, by rw [hRn.out]; rfl, by rw [hRn.out]; exact hI3.out, by omega, fun _ => hc3, below_drewN q3.out _⟩
      · have hRn : Hid (R = ofF base 0 (zs, base) (rs.take k)) := by rw [Hid, hRk.out, qual_other (r := ⟨rt, rk, rd⟩) h2]
        have h2b : (rk == 2) = false := by simpa using h2
        have hrb := Blk.new wr 51 #[.int .i64 rt, .int .i64 rk, .string rd]
        have r2 := hrb.cell 2
        have r1 := hrb.cell 1
        clear hrb
        go_wp2
        go_roundw
        case rel => exact ⟨k, rfl, by omega, hRn, qn⟩
        case measure => simp [intOf]
theorem Of_any (t v : Int) (l : Lg) (A : Option Addr) (n cap : Nat) (s : ByteArray) (A1 : Option Addr) (n1 cap1 : Nat) (zs : List Int) (w : World) (B B1 : Nat) (m : Int) (hm : w.cell? ⟨0, 0, none⟩ = some (.int .i64 m))
    (hn : n ≤ 8796093022208) (hn1 : n1 * 8 ≤ 140737488355328) (h : Recs w B A n l.rs) (hz : Ints w B1 A1 n1 zs) :
    Calls Tryz.prog 69 #[hardV t v l A n cap s A1 n1 cap1] w (RetOf w 0 (ofF l.base 0 (zs, l.base) l.rs)) :=
  (Of_anyC t v l A n cap s A1 n1 cap1 zs w B B1 m hm hn hn1 h hz).mono fun _ _ h => h.of
end Go.Proofs.YtncdjmpdbinanaaGreatDoor
namespace Go.Proofs.YtncdjmpdbinanaaGreatDoor
open Go.RowKit

set_option maxRecDepth 100000 in
theorem AnsT_any (ok : Bool) (p id fr t : Int) (gX gM : Nat) (w : World) (h0 : w.cell? ⟨gX, 0, none⟩ = some (.int .i64 id)) (h1 : w.cell? ⟨gX, 1, none⟩ = some (.int .i64 t)) (h2 : w.cell? ⟨gM, 1, none⟩ = some (.int .i64 fr)) :
    Calls Tryz.prog 96 #[.bool ok, .int .i64 p, .pointer (some ⟨gX, 0, none⟩), .pointer (some ⟨gM, 0, none⟩)] w fun e w' => ∃ g, e = .returned (.slice (some ⟨g, 0, none⟩) 1 1) ∧ Blk w' g 32 #[.int .i64 4, .int .i64 id, .int .i64 fr, .int .i64 t, .bool ok, .int .i64 p, .int .i64 0, .slice none 0 0, .int .i64 0, .string ⟨#[]⟩, .slice none 0 0] ∧ Below w.heap.size w w' := by
  have nX := cell_lt h0
  have nM := cell_lt h2
  have q0 : Below w.heap.size w (w.alloc (.cells #[.int .i64 4, .int .i64 id, .int .i64 fr, .int .i64 t, .bool ok, .int .i64 p, .int .i64 0, .slice none 0 0, .int .i64 0, .string ⟨#[]⟩, .slice none 0 0] 32)) := by go_grown
  have kB : Blk (w.alloc (.cells #[.int .i64 4, .int .i64 id, .int .i64 fr, .int .i64 t, .bool ok, .int .i64 p, .int .i64 0, .slice none 0 0, .int .i64 0, .string ⟨#[]⟩, .slice none 0 0] 32)) w.heap.size 32 #[.int .i64 4, .int .i64 id, .int .i64 fr, .int .i64 t, .bool ok, .int .i64 p, .int .i64 0, .slice none 0 0, .int .i64 0, .string ⟨#[]⟩, .slice none 0 0] := Blk.new _ _ _
  obtain ⟨wz, hwz⟩ : ∃ wz, w.alloc (.cells #[.int .i64 4, .int .i64 id, .int .i64 fr, .int .i64 t, .bool ok, .int .i64 p, .int .i64 0, .slice none 0 0, .int .i64 0, .string ⟨#[]⟩, .slice none 0 0] 32) = wz := ⟨_, rfl⟩
  rw [hwz] at q0 kB
  replace hwz := hid_mk hwz
  refine calls_of_wpQ Tryz.func96 rfl ?_
  intro Q hQ
  simp only [Tryz.ntmps96, List.size_toArray, List.length_cons, List.length_nil, Nat.reduceAdd, Nat.reduceSub, Array.replicate_succ, Array.replicate_zero, List.push_toArray, List.append_toArray, List.nil_append, List.cons_append]
  go_wp2
  rw [hwz.out]
  refine ends_ret hQ (results_tmp rfl _ _ _) rfl ?_
  exact ⟨w.heap.size, rfl, kB, q0⟩
end Go.Proofs.YtncdjmpdbinanaaGreatDoor
