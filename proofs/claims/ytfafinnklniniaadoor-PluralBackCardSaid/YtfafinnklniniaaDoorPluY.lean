/-
  WHAT IS PROVED HERE: a rule's text, as plural.Print hands it back. Conditions: at most 2^43 elements a slice; the variable internal/strconv.uint64pow10 holds the powers of ten.
-/
import Derived.Test.YtfafinnklniniaaDoorPluX
namespace Go.Proofs.YtfafinnklniniaaDoor
open Go.RowKit

def rowB (l : List Rl) : ByteArray := jnB ⟨#[32, 97, 110, 100, 32]⟩ (l.map relB)
def ruleB (l : List (List Rl)) : ByteArray := jnB ⟨#[32, 111, 114, 32]⟩ (l.map rowB)
def printF (l : List (List Rl)) : ByteArray × Int := if ruleOk l = true then (if 400 < (ruleB l).size then (⟨#[]⟩, 2) else (ruleB l, 0)) else (⟨#[]⟩, 1)
theorem rel_lens {x : Rl} (h : relOk x = true) : 1 ≤ x.spans.length ∧ x.spans.length ≤ 10 := by
  unfold relOk at h
  simp only [Bool.and_eq_true, decide_eq_true_eq] at h
  exact h.1.2
theorem row_lens {x : List Rl} (h : rowOk x = true) : 1 ≤ x.length ∧ x.length ≤ 10 := by
  unfold rowOk at h
  simp only [Bool.and_eq_true, decide_eq_true_eq] at h
  exact h.1
theorem rule_lens {x : List (List Rl)} (h : ruleOk x = true) : 1 ≤ x.length ∧ x.length ≤ 10 := by
  unfold ruleOk at h
  simp only [Bool.and_eq_true, decide_eq_true_eq] at h
  exact h.1
theorem rel_len {x : Rl} (h : relOk x = true) : (relB x).size ≤ 21100000 := by
  have hl := rel_lens h
  obtain ⟨hm, hs⟩ := rel_ok h
  have h1 := jn_len (sep := ⟨#[44]⟩) (l := x.spans.map spanB) 2000004 (by
    intro p hp
    obtain ⟨s, hs', rfl⟩ := List.mem_map.1 hp
    exact span_len (hs s hs'))
  rw [← jn_size, List.length_map] at h1
  have e1 : (⟨#[44]⟩ : ByteArray).size = 1 := rfl
  rw [e1] at h1
  have e2 : (⟨#[61, 32]⟩ : ByteArray).size = 2 := rfl
  have e3 : (⟨#[105]⟩ : ByteArray).size = 1 := rfl
  have e4 : (⟨#[32, 37, 32]⟩ : ByteArray).size = 3 := rfl
  have e5 : (⟨#[32, 33]⟩ : ByteArray).size = 2 := rfl
  have e6 : (⟨#[32]⟩ : ByteArray).size = 1 := rfl
  have h2 : (headB x.mod x.not).size ≤ 1000007 := by
    unfold headB
    rw [ByteArray.size_append]
    have a : (if 0 < x.mod then (⟨#[105]⟩ : ByteArray) ++ ((⟨#[32, 37, 32]⟩ : ByteArray) ++ itB x.mod) else ⟨#[105]⟩).size ≤ 1000005 := by
      split
      · have := it_len (n := x.mod) (by omega) (by omega)
        rw [ByteArray.size_append, ByteArray.size_append]
        omega
      · omega
    have b : (if x.not then (⟨#[32, 33]⟩ : ByteArray) else ⟨#[32]⟩).size ≤ 2 := by split <;> omega
    omega
  unfold relB
  rw [ByteArray.size_append, ByteArray.size_append]
  omega
theorem row_len {x : List Rl} (h : rowOk x = true) : (rowB x).size ≤ 211000050 := by
  have hl := row_lens h
  have hs := row_ok h
  have h1 := jn_len (sep := ⟨#[32, 97, 110, 100, 32]⟩) (l := x.map relB) 21100000 (by
    intro p hp
    obtain ⟨s, hs', rfl⟩ := List.mem_map.1 hp
    exact rel_len (hs s hs'))
  rw [← jn_size, List.length_map] at h1
  have e1 : (⟨#[32, 97, 110, 100, 32]⟩ : ByteArray).size = 5 := rfl
  rw [e1] at h1
  unfold rowB
  omega
theorem rule_len {x : List (List Rl)} (h : ruleOk x = true) : (ruleB x).size ≤ 2110000540 := by
  have hl := rule_lens h
  have hs := rule_ok h
  have h1 := jn_len (sep := ⟨#[32, 111, 114, 32]⟩) (l := x.map rowB) 211000050 (by
    intro p hp
    obtain ⟨s, hs', rfl⟩ := List.mem_map.1 hp
    exact row_len (hs s hs'))
  rw [← jn_size, List.length_map] at h1
  have e1 : (⟨#[32, 111, 114, 32]⟩ : ByteArray).size = 4 := rfl
  rw [e1] at h1
  unfold ruleB
  omega
theorem blk3p {w : World} {g : Nat} {t : TypeId} {a b c : Value} (h : Blk w g t #[a, b, c]) : g < w.heap.size ∧ w.cell? ⟨g, 0, none⟩ = some a ∧ w.cell? ⟨g, 1, none⟩ = some b ∧ w.cell? ⟨g, 2, none⟩ = some c := ⟨h.lt, h.cell 0, h.cell 1, h.cell 2⟩
set_option maxRecDepth 100000 in
set_option maxHeartbeats 6400000 in
theorem Print_any (l : List (List Rl)) (A : Option Addr) (n c : Nat) (w : World) (B : Nat) (hn : n ≤ 8796093022208) (h : Rule w B A n l) (ht : Tab w) :
    Calls Tryd.prog 5 #[.slice A n c] w fun e w' => e = .returned (.tuple #[.string (printF l).1, .int .i64 (printF l).2]) ∧ Below w.heap.size w w' := by
  cases hok : ruleOk l
  · have hpf : printF l = (⟨#[]⟩, 1) := by unfold printF; rw [hok]; rfl
    rw [hpf]
    replace hok := hid_mk hok
    clear hpf
    refine calls_of_wpQ Tryd.func5 rfl ?_
    intro Q hQ
    simp only [Tryd.ntmps5, List.size_toArray, List.length_cons, List.length_nil, Nat.reduceAdd, Nat.reduceSub, Array.replicate_succ, Array.replicate_zero, List.push_toArray, List.append_toArray, List.nil_append, List.cons_append]
    go_wp2_with fail
    refine (Right_any l A n c w B hn h).mono ?_
    rw [hok.out]
    rintro e w1 ⟨rfl, hb1⟩
    go_wp2
    refine ends_ret hQ (v := .tuple #[.string ⟨#[]⟩, .int .i64 1]) (by simp [results, Tryd.results5, go_sem]) rfl ?_
    exact ⟨rfl, hb1⟩
  have hpf : printF l = (if 400 < (ruleB l).size then (⟨#[]⟩, 2) else (ruleB l, 0)) := by unfold printF; rw [if_pos hok]
  have hrl := hid_mk (rule_ok hok)
  have hl10 := rule_lens hok
  have hrlen := rule_len hok
  have hlen := hid_mk h.len
  have hn1 : 1 ≤ n := by have := hlen.out; omega
  have hn10 : n ≤ 10 := by have := hlen.out; omega
  clear hl10 hn
  obtain ⟨i0, hi0, hz0, hz1, hz2⟩ := info_partsN strJ
  obtain ⟨V, hV⟩ : ∃ V, ruleB l = V := ⟨_, rfl⟩
  rw [hV] at hrlen hpf
  have hjl : Hid ((Lib.join ((l.map rowB).map (·.data.toList)) (⟨#[32, 111, 114, 32]⟩ : ByteArray).data.toList).length ≤ 140737488355328) := by
    rw [Hid, ← jn_size]
    have := rule_len hok
    unfold ruleB at this
    omega
  have hsl : Hid ((l.map rowB).length = n) := by rw [Hid, List.length_map, hlen.out]
  replace hok := hid_mk hok
  replace hV := hid_mk hV
  replace ht := hid_mk ht
  replace h := hid_mk h
  obtain ⟨pr, hpr⟩ : ∃ pr, printF l = pr := ⟨_, rfl⟩
  rw [hpr] at hpf ⊢
  clear hpr
  refine calls_of_wpQ Tryd.func5 rfl ?_
  intro Q hQ
  simp only [Tryd.ntmps5, List.size_toArray, List.length_cons, List.length_nil, Nat.reduceAdd, Nat.reduceSub, Array.replicate_succ, Array.replicate_zero, List.push_toArray, List.append_toArray, List.nil_append, List.cons_append]
  go_wp2_with fail
  refine (Right_any l A n c w B (by omega) h.out).mono ?_
  rw [hok.out]
  rintro e wb ⟨rfl, hb1⟩
  replace hb1 := hid_mk hb1
  go_wp2_with fail
  go_loopw [4, 16] (fun rv iv wr => ∃ (k co : Nat) (Ao : Option Addr), iv = .int .i64 k ∧ k ≤ n ∧ rv = .slice Ao k co ∧ k ≤ co ∧ OwnM wr wb.heap.size 9 (.slice Ao k co) k (((l.take k).map rowB).map vstr) ∧ Hid (Below wb.heap.size wb wr)) (fun _ iv _ => n - (intOf iv).toNat)
  case atStart => exact ⟨0, 0, none, rfl, Nat.zero_le _, rfl, Nat.le_refl _, OwnM.nil, hid_mk (Below.refl _ _)⟩
  case round =>
    obtain ⟨k, co, Ao, rfl, hk, rfl, hkc, hown, hb⟩ := hrel
    have q1 := hid_mk (after (w := w) hb.out hb1.out).1
    by_cases hlt : k < n
    · obtain ⟨wo, hwo⟩ : ∃ wo : World, wo = wr := ⟨_, rfl⟩
      subst hwo
      obtain ⟨b, o, r, vr, heq, hbl, hd, c0, hRl, _⟩ := (h.out.to q1.out).at_ hlt
      subst heq
      have hrow := hrl.out r (mem_drop' hd.out)
      obtain ⟨Ar, nr, cr⟩ := vr
      unfold slV at c0
      dsimp only at c0 hRl
      have hnr := hRl.len
      have hr10 := row_lens hrow
      have hnr1 : 1 ≤ nr := by omega
      have hnr10 : nr ≤ 10 := by omega
      have hrok := hid_mk (row_ok hrow)
      have hjr : Hid ((Lib.join ((r.map relB).map (·.data.toList)) (⟨#[32, 97, 110, 100, 32]⟩ : ByteArray).data.toList).length ≤ 140737488355328) := by
        rw [Hid, ← jn_size]
        have := row_len hrow
        unfold rowB at this
        omega
      have hslr : Hid ((r.map relB).length = nr) := by rw [Hid, List.length_map, hnr]
      have hnx : Hid ((l.take (k + 1)).map rowB = (l.take k).map rowB ++ [rowB r]) := by rw [Hid, take_snoc hd.out]; simp
      have k0 : (0 : Int) ≤ k := by omega
      have k1 : (k : Int) < n := by omega
      replace hnr := hid_mk hnr
      replace hRl := hid_mk hRl
      replace hown := hid_mk hown
      replace hd := hid_mk hd
      replace hrow := hid_mk hrow
      clear hr10
      go_wp2_with fail
      go_loopw [7, 22] (fun rv2 jv wr => ∃ (j ci : Nat) (Ai : Option Addr), jv = .int .i64 j ∧ j ≤ nr ∧ rv2 = .slice Ai j ci ∧ j ≤ ci ∧ OwnM wr wo.heap.size 9 (.slice Ai j ci) j (((r.take j).map relB).map vstr) ∧ Hid (Below wo.heap.size wo wr)) (fun _ jv _ => nr - (intOf jv).toNat)
      case atStart => exact ⟨0, 0, none, rfl, Nat.zero_le _, rfl, Nat.le_refl _, OwnM.nil, hid_mk (Below.refl _ _)⟩
      case round =>
        obtain ⟨j, ci, Ai, rfl, hj, rfl, hjc, howi, hbi⟩ := hrel
        have p1 := hid_mk (after (w := w) hbi.out q1.out).1
        by_cases hlj : j < nr
        · obtain ⟨b2, o2, x, vx, heq2, hbl2, hd2, d0, d1, d2, hSp, _⟩ := (hRl.out.to hbi.out).at_ hlj
          subst heq2
          obtain ⟨Ax, nx, cx⟩ := vx
          unfold slV at d2
          dsimp only at d2 hSp
          have hxo := hid_mk (hrok.out x (mem_drop' hd2.out))
          have hnx2 : Hid ((r.take (j + 1)).map relB = (r.take j).map relB ++ [relB x]) := by rw [Hid, take_snoc hd2.out]; simp
          have j0 : (0 : Int) ≤ j := by omega
          have j1 : (j : Int) < nr := by omega
          have qx : Below wr.heap.size wr (wr.alloc (.cells #[.int .i64 x.mod, .bool x.not, .slice Ax nx cx] 37)) := (Below.refl _ _).alloc (Nat.le_refl _) _
          have hb2 := hid_mk (after (w := wo) qx hbi.out).1
          have q2 := hid_mk (after (w := w) qx p1.out).1
          have hS := hid_mk (Blk.new wr 37 #[.int .i64 x.mod, .bool x.not, .slice Ax nx cx])
          have howi2 := hid_mk (howi.below qx)
          have hSp2 := hid_mk (hSp.to qx)
          replace hd2 := hid_mk hd2
          clear howi qx hSp
          obtain ⟨xs, hxs⟩ : ∃ xs, relB x = xs := ⟨_, rfl⟩
          rw [hxs] at hnx2
          replace hxs := hid_mk hxs
          go_wp2_with fail
          refine (text_any x (Ax, nx, cx) _ B hxo.out hSp2.out (ht.out.to q2.out)).mono ?_
          rw [hxs.out]
          rintro e w4 ⟨rfl, hbN⟩
          have hb4 := hid_mk (after (w := wo) hbN hb2.out).1
          have own4 := howi2.out.below hbN
          clear hbN hS howi2 hSp2
          go_wp2_with (at_builtin; refine wpl_append_new rfl (.tmp 26) (.tmp 29) 33 rfl 9 i0 _ 16 Tryd.underlying33 hi0 hz0 hz1 hz2 rfl hb4.out (.slice Ai j ci) j _ rfl own4 ([xs].map vstr) 1 1 rfl _ rfl (by simp [Act.eval]) (vstr_one _) (by omega) (by omega) ?_; intro A5 c5 w6 hown5 hc5 q5 st hs5; rw [← List.map_append, ← hnx2.out] at hown5)
          go_roundw
          case rel => exact ⟨j + 1, c5, A5, by go_num, by omega, rfl, hc5, hown5, hid_mk q5⟩
          case measure => simp [intOf]; omega
        · obtain rfl : j = nr := by omega
          have hts : r.take j = r := List.take_of_length_le (by have := hnr.out; omega)
          rw [hts] at howi
          obtain ⟨g, rfl, hgl, hcs⟩ := howi.row (by omega)
          have hcs2 : Hid (∀ (i : Nat) (y : ByteArray), (r.map relB)[i]? = some y → wr.cell? ⟨g, 0 + i, none⟩ = some (.string y)) := by
            intro i y hy
            rw [Nat.zero_add]
            exact hcs i _ (by rw [List.getElem?_map, hy]; rfl)
          have own3 := hid_mk (hown.out.below hbi.out)
          have hbw := hid_mk (after (w := wb) hbi.out hb.out).1
          clear hcs howi
          replace hts := hid_mk hts
          obtain ⟨rs, hrs⟩ : ∃ rs, rowB r = rs := ⟨_, rfl⟩
          rw [hrs] at hnx
          replace hrs := hid_mk hrs
          replace hgl := hid_mk hgl
          go_wp2_with fail
          rw [← hslr.out]
          refine (Tryd.strings_Join g 0 ci (r.map relB) ⟨#[32, 97, 110, 100, 32]⟩ _ hcs2.out hgl.out (by rw [hslr.out]; omega) (by rw [hslr.out]; omega) hjr.out).mono ?_
          rw [show (⟨(Lib.join ((r.map relB).map (·.data.toList)) (⟨#[32, 97, 110, 100, 32]⟩ : ByteArray).data.toList).toArray⟩ : ByteArray) = rs from hrs.out]
          rintro e w3 ⟨rfl, hb3⟩
          have hb5 := hid_mk (after (w := wb) hb3 hbw.out).1
          have own4 := own3.out.below hb3
          clear hb3 hcs2 own3
          go_wp2_with (at_builtin; refine wpl_append_new rfl (.tmp 32) (.tmp 35) 33 rfl 9 i0 _ 16 Tryd.underlying33 hi0 hz0 hz1 hz2 rfl hb5.out (.slice Ao k co) k _ rfl own4 ([rs].map vstr) 1 1 rfl _ rfl (by simp [Act.eval]) (vstr_one _) (by omega) (by omega) ?_; intro A5 c5 w6 hown5 hc5 q5 st hs5; rw [← List.map_append, ← hnx.out] at hown5)
          go_roundw
          case rel => exact ⟨k + 1, c5, A5, by go_num, by omega, rfl, hc5, hown5, hid_mk q5⟩
          case measure => simp [intOf]; omega
    · obtain rfl : k = n := by omega
      have hts : l.take k = l := List.take_of_length_le (by have := hlen.out; omega)
      rw [hts] at hown
      obtain ⟨g, rfl, hgl, hcs⟩ := hown.row (by omega)
      have hcs2 : Hid (∀ (j : Nat) (y : ByteArray), (l.map rowB)[j]? = some y → wr.cell? ⟨g, 0 + j, none⟩ = some (.string y)) := by
        intro j y hy
        rw [Nat.zero_add]
        exact hcs j _ (by rw [List.getElem?_map, hy]; rfl)
      clear hcs
      replace hts := hid_mk hts
      replace hgl := hid_mk hgl
      go_wp2_with fail
      rw [← hsl.out]
      refine (Tryd.strings_Join g 0 co (l.map rowB) ⟨#[32, 111, 114, 32]⟩ _ hcs2.out hgl.out (by rw [hsl.out]; omega) (by rw [hsl.out]; omega) hjl.out).mono ?_
      rw [show (⟨(Lib.join ((l.map rowB).map (·.data.toList)) (⟨#[32, 111, 114, 32]⟩ : ByteArray).data.toList).toArray⟩ : ByteArray) = V from hV.out]
      rintro e w3 ⟨rfl, hb3⟩
      have q3 := hid_mk (after (w := w) hb3 q1.out).1
      clear hb3
      by_cases hbig : 400 < V.size
      · rw [if_pos hbig] at hpf
        subst hpf
        have hi1 : (400 : Int) < (V.size : Int) := by omega
        go_wp2
        refine ends_ret hQ (v := .tuple #[.string ⟨#[]⟩, .int .i64 2]) (by simp [results, Tryd.results5, go_sem]) rfl ?_
        exact ⟨rfl, q3.out⟩
      · rw [if_neg hbig] at hpf
        subst hpf
        have hi1 : ¬ (400 : Int) < (V.size : Int) := by omega
        go_wp2
        refine ends_ret hQ (v := .tuple #[.string V, .int .i64 0]) (by simp [results, Tryd.results5, go_sem]) rfl ?_
        exact ⟨rfl, q3.out⟩
end Go.Proofs.YtfafinnklniniaaDoor
