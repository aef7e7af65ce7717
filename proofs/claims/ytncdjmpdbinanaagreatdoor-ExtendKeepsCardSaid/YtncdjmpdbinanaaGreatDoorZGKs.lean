/-
  WHAT IS PROVED HERE: what the reference's Sure hands back. Conditions: at most 2^43 peers, the last place is no more than 2^40.
  WHAT IS PROVED HERE: what slices.Sort leaves in a row of ints of the call's own. Condition: the row is not empty.
  WHAT IS PROVED HERE: what quorum.Sure hands back. Conditions: at most 2^43 peers.
-/
import Derived.Test.YtncdjmpdbinanaaGreatDoorZGMem
import Derived.Test.YtncdjmpdbinanaaGreatDoorZGJrn
import Derived.Test.YtncdjmpdbinanaaGreatDoorZGQrm
import Derived.Test.YtncdjmpdbinanaaGreatDoorZOwn
import Derived.Test.YtncdjmpdbinanaaGreatDoorZShelfC
import Derived.Sort.OwnSortedInts
namespace Go.Proofs.YtncdjmpdbinanaaGreatDoor
open Go.RowKit

def refSureL (self last : Int) (ps : List Pr) (l : List Int) : Int := if rightL l then sureF self last ps l last.toNat else 0

end Go.Proofs.YtncdjmpdbinanaaGreatDoor
namespace Go.Proofs.YtncdjmpdbinanaaGreatDoor
open Go.RowKit

set_option maxRecDepth 100000 in
theorem Sort_any {W w : World} (hb : Below W.heap.size W w) {A : Option Addr} {n c : Nat} {xs : List Int} (hn : 0 < n) (hn2 : n ≤ 140737488355328) (h : OwnM w W.heap.size 3 (.slice A n c) n (xs.map vint)) :
    Calls Tryz.prog 157 #[.slice A n c] w fun e w' => e = .returned (.tuple #[]) ∧ Below W.heap.size W w' ∧ ∃ g, A = some ⟨g, 0, none⟩ ∧ g < w'.heap.size ∧ ∀ j x, (sorted xs)[j]? = some x → w'.cell? ⟨g, j, none⟩ = some (.int .i64 x) := by
  have hl : xs.length = n := by have := h.1; simpa using this
  rcases h.2 with ⟨_, h0⟩ | ⟨g, cap, cur, fz, hv, hB, hg, hfz, hnc, hcm, hcs, ht⟩
  · omega
  · injection hv with hA _ hc
    subst hA; subst hc
    have hlt : g < w.heap.size := (Array.getElem?_eq_some_iff.1 hg).1
    have hH : Go.Sort.Holds (Value.int .i64) w g 0 xs.toArray := by
      intro j hj
      have hj' : j < xs.length := by simpa using hj
      refine ⟨?_, ?_⟩
      · have h1 := h.cells (g := g) rfl j (vint xs[j]) (by simp [hj'])
        rw [add_plain] at h1
        simpa [hj', vint] using h1
      · simp only [World.frozen?, hg, Nat.zero_add, Bool.and_eq_false_iff, decide_eq_false_iff_not]
        rcases hfz with h | h
        · right; omega
        · left; omega
    subst hl
    refine (Tryz.slices_Sort_int g 0 c xs w hH hlt (by omega)).mono ?_
    rintro e w' ⟨rfl, m, os, rfl⟩
    refine ⟨rfl, ?_, g, rfl, ?_, ?_⟩
    · exact hb.grown (grownBy_sortedI _) hb.size (fun k hk => by injection hk with hk; omega)
    · rw [Go.Sort.size_grow, Go.Sort.size_putRow]
      show g < w.heap.size + os.size
      omega
    · intro j x hx
      have hsz : (sorted xs).length = xs.length := (sorted_perm xs).length_eq
      obtain ⟨hj, hjx⟩ := List.getElem?_eq_some_iff.1 hx
      have hH2 := Go.Sort.holds_grow (Value.int .i64) _ os g 0 _ (by rw [Go.Sort.size_putRow]; exact hlt) (Go.Sort.holds_putRow (Value.int .i64) (Go.Sort.ahead w m) g 0 xs.toArray (sorted xs).toArray hH (by simpa using hsz))
      have h2 := (hH2 j (by simpa using hj)).1
      rw [Nat.zero_add] at h2
      have h3 : (sorted xs).toArray[j]! = x := by simp [hj, hjx]
      rw [h3] at h2
      exact h2
end Go.Proofs.YtncdjmpdbinanaaGreatDoor
namespace Go.Proofs.YtncdjmpdbinanaaGreatDoor
open Go.RowKit

set_option maxRecDepth 100000 in
theorem map_take_succ (f : Int → Int) {xs : List Int} {k : Nat} {v : Int} (h : xs.drop k = v :: xs.drop (k + 1)) : (xs.take (k + 1)).map f = (xs.take k).map f ++ [f v] := by
  have hk : k < xs.length := by
    rcases Nat.lt_or_ge k xs.length with h' | h'
    · exact h'
    · rw [List.drop_eq_nil_of_le h'] at h; cases h
  have h2 : xs[k]'hk = v := by rw [List.drop_eq_getElem_cons hk] at h; injection h
  rw [List.take_succ_eq_append_getElem hk, h2, List.map_append]
  rfl
set_option maxRecDepth 100000 in
set_option maxHeartbeats 1600000 in
theorem Sure_none (a : Option Addr) (len cap : Nat) (xs : List Int) (self last : Int) (A : Option Addr) (n pc : Nat) (w : World) {B : Nat} (hl : len ≤ 140737488355328) (h0 : Ints w B a len xs) (hz : rightL xs = false ∨ last < 0) :
    Calls Tryz.prog 128 #[.slice a len cap, .int .i64 self, .int .i64 last, .slice A n pc] w fun e w' => e = .returned (.int .i64 0) ∧ Below w.heap.size w w' := by
  cases hr : rightL xs
  · refine calls_of_wpQ Tryz.func128 rfl ?_
    intro Q hQ
    simp only [Tryz.ntmps128, List.size_toArray, List.length_cons, List.length_nil, Nat.reduceAdd, Nat.reduceSub, Array.replicate_succ, Array.replicate_zero, List.push_toArray, List.append_toArray, List.nil_append, List.cons_append]
    go_wp2_with (go_at_call 101; refine (qRight_any _ _ _ xs _ _ hl h0).mono ?_; rw [hr]; rintro e w' ⟨rfl, rfl⟩)
    refine ends_ret hQ (results_tmp rfl _ _ _) rfl ?_
    exact ⟨rfl, Below.refl _ _⟩
  · rcases hz with hz | hz
    · rw [hr] at hz; cases hz
    · refine calls_of_wpQ Tryz.func128 rfl ?_
      intro Q hQ
      simp only [Tryz.ntmps128, List.size_toArray, List.length_cons, List.length_nil, Nat.reduceAdd, Nat.reduceSub, Array.replicate_succ, Array.replicate_zero, List.push_toArray, List.append_toArray, List.nil_append, List.cons_append]
      go_wp2_with (go_at_call 101; refine (qRight_any _ _ _ xs _ _ hl h0).mono ?_; rw [hr]; rintro e w' ⟨rfl, rfl⟩)
      refine ends_ret hQ (results_tmp rfl _ _ _) rfl ?_
      exact ⟨rfl, Below.refl _ _⟩
set_option maxRecDepth 100000 in
set_option maxHeartbeats 3200000 in
theorem Sure_any (a : Option Addr) (len cap : Nat) (xs : List Int) (self last : Int) (A : Option Addr) (n pc : Nat) (ps : List Pr) (w : World) {B : Nat} (hl : len ≤ 140737488355328) (hm : n ≤ 8796093022208) (h0 : Ints w B a len xs) (k0 : Prs w B A n ps)
    (hr : rightL xs = true) (hlast : 0 ≤ last) :
    Calls Tryz.prog 128 #[.slice a len cap, .int .i64 self, .int .i64 last, .slice A n pc] w fun e w' => (∃ m, e = .returned (.int .i64 m) ∧ (sorted (xs.map (haveV self last ps)))[(xs.length - 1) / 2]? = some m) ∧ Below w.heap.size w w' := by
  have hI : Hid (Ints w w.heap.size a len xs) := ⟨h0.1, fun hn => by obtain ⟨b, o, e1, e2, _, e3⟩ := h0.2 hn; exact ⟨b, o, e1, e2, .inl e2, e3⟩⟩
  have hK := hid_mk k0.top
  have hlen := hid_mk h0.len
  clear h0 k0
  have hl7 : 1 ≤ len ∧ len ≤ 7 := by rw [← hlen.out]; unfold rightL at hr; simp at hr; omega
  obtain ⟨hl1, hl7⟩ := hl7
  obtain ⟨j0, hj0, hjz, hj1, hj2⟩ := info_parts8 intJ
  have own0 : OwnM w w.heap.size 3 (.slice none 0 0) 0 ((([] : List Int)).map vint) := OwnM.nil
  replace hr := hid_mk hr
  refine calls_of_wpQ Tryz.func128 rfl ?_
  intro Q hQ
  simp only [Tryz.ntmps128, List.size_toArray, List.length_cons, List.length_nil, Nat.reduceAdd, Nat.reduceSub, Array.replicate_succ, Array.replicate_zero, List.push_toArray, List.append_toArray, List.nil_append, List.cons_append]
  go_wp2_with (go_at_call 101; refine (qRight_any _ _ _ xs _ _ hl hI.out).mono ?_; rw [hr.out]; rintro e w' ⟨rfl, rfl⟩)
  go_loopw [9, 24] (fun hv iv wr => ∃ (k co : Nat) (Ao : Option Addr), iv = .int .i64 k ∧ k ≤ len ∧ hv = .slice Ao k co ∧ OwnM wr w.heap.size 3 (.slice Ao k co) k (((xs.take k).map (haveV self last ps)).map vint) ∧ Hid (Below w.heap.size w wr)) (fun _ iv _ => len - (intOf iv).toNat)
  case atStart => exact ⟨0, 0, none, rfl, Nat.zero_le _, rfl, by simpa using own0, hid_mk (Below.refl _ _)⟩
  case round =>
    clear own0
    obtain ⟨k, co, Ao, rfl, hk, rfl, hown, hb⟩ := hrel
    obtain ⟨wo, hwo⟩ : ∃ wo : World, wo = wr := ⟨_, rfl⟩
    subst hwo
    by_cases hlt : k < len
    · have hI2 := hI.out.to hb.out
      obtain ⟨b, o, v, rfl, hbl, hd, hc⟩ := hI2.at_ hlt
      have hV : Hid (((xs.take (k + 1)).map (haveV self last ps)) = (xs.take k).map (haveV self last ps) ++ [haveV self last ps v]) := map_take_succ _ hd.out
      obtain ⟨M, hM⟩ : ∃ M, mostF v ps 0 = M := ⟨_, rfl⟩
      obtain ⟨H, hH⟩ : ∃ H, haveV self last ps v = H := ⟨_, rfl⟩
      rw [hH] at hV
      have hHM : Hid (H = min (if v = self then last else M) last) := by rw [Hid, ← hH, ← hM]; rfl
      replace hM := hid_mk hM
      replace hH := hid_mk hH
      replace hown := hid_mk hown
      clear hI2
      go_wp2
      go_loopw [12, 30] (fun mv iv wq => ∃ (m : Int) (j : Nat), mv = .int .i64 m ∧ iv = .int .i64 j ∧ j ≤ n ∧ Hid (M = mostF v (ps.drop j) m) ∧ Hid (Below wo.heap.size wo wq)) (fun _ iv _ => n - (intOf iv).toNat)
      case atStart => exact ⟨0, 0, rfl, rfl, Nat.zero_le _, hM.out.symm, hid_mk (Below.refl _ _)⟩
      case round =>
        obtain ⟨m, j, rfl, rfl, hj, hMj, hbq⟩ := hrel
        by_cases hltj : j < n
        · have q2 := (after (w := w) hbq.out hb.out).1
          obtain ⟨b2, o2, i, rfl, hbl2, hdr, c0, c1, c2⟩ := (hK.out.to q2).at_ hltj
          obtain ⟨I, N, T⟩ := i
          dsimp only at c0 c1 c2
          have hb2 : Hid (Below wo.heap.size wo (wr.alloc (.cells #[.int .i64 I, .int .i64 N, .int .i64 T] 53))) := hbq.out.alloc hbq.out.size _
          have hMs : Hid (M = mostF v (ps.drop (j + 1)) (if I = v then max m T else m)) := by rw [Hid, hMj.out, hdr, mostF]
          replace hdr := hid_mk hdr
          clear q2 hMj
          by_cases hIv : I = v
          · have hMs2 : Hid (M = mostF v (ps.drop (j + 1)) (max m T)) := by rw [Hid, hMs.out, if_pos hIv]
            subst hIv
            go_wp2
            go_roundw
            case rel => exact ⟨max m T, j + 1, rfl, by go_num, by omega, hMs2, hb2⟩
            case measure => simp [intOf]; omega
          · have hMs2 : Hid (M = mostF v (ps.drop (j + 1)) m) := by rw [Hid, hMs.out, if_neg hIv]
            have hI2 : (I == v) = false := by simpa using hIv
            replace hIv := hid_mk hIv
            go_wp2
            go_roundw
            case rel => exact ⟨m, j + 1, rfl, by go_num, by omega, hMs2, hb2⟩
            case measure => simp [intOf]; omega
        · have hMm : M = m := by
            have h1 := hMj.out
            rw [List.drop_eq_nil_of_le (by have h := hK.out.len; omega)] at h1
            exact h1
          subst hMm
          have q2 := hid_mk (after (w := w) hbq.out hb.out).1
          have hown2 := hown.out.below hbq.out
          obtain ⟨cs, hcs⟩ : ∃ l, (xs.take k).map (haveV self last ps) = l := ⟨_, rfl⟩
          rw [hcs] at hV hown2
          replace hcs := hid_mk hcs
          clear hMj hbq
          by_cases hvs : v = self
          · subst hvs
            have hHl : last = H := by rw [hHM.out, if_pos rfl, Int.min_self]
            subst hHl
            go_wp2_with (at_builtin; refine wpl_append_new rfl (.tmp 47) (.tmp 51) 25 rfl 3 j0 _ 8 Tryz.underlying25 hj0 hjz hj1 hj2 rfl q2.out (.slice Ao k co) k _ rfl hown2 ([last].map vint) 1 1 rfl _ rfl (by simp [Act.eval]) (vint_one _) (by omega) (by omega) ?_; intro A5 c5 w5 hown5 hc5 q5 st hs5; rw [← List.map_append] at hown5)
            go_roundw
            case rel => exact ⟨k + 1, c5, A5, by go_num, by omega, rfl, by rw [hV.out]; exact hown5, hid_mk q5⟩
            case measure => simp [intOf]; omega
          · have hHl : H = min M last := by rw [hHM.out, if_neg hvs]
            subst hHl
            have hvs2 : (v == self) = false := by simpa using hvs
            replace hvs := hid_mk hvs
            go_wp2_with (at_builtin; refine wpl_append_new rfl (.tmp 47) (.tmp 51) 25 rfl 3 j0 _ 8 Tryz.underlying25 hj0 hjz hj1 hj2 rfl q2.out (.slice Ao k co) k _ rfl hown2 ([min M last].map vint) 1 1 rfl _ rfl (by simp [Act.eval]) (vint_one _) (by omega) (by omega) ?_; intro A5 c5 w5 hown5 hc5 q5 st hs5; rw [← List.map_append] at hown5)
            go_roundw
            case rel => exact ⟨k + 1, c5, A5, by go_num, by omega, rfl, by rw [hV.out]; exact hown5, hid_mk q5⟩
            case measure => simp [intOf]; omega
    · obtain rfl : len = k := by omega
      rw [List.take_of_length_le (by rw [hlen.out]; exact Nat.le_refl _)] at hown
      obtain ⟨p, hp⟩ : ∃ p, (len - 1) / 2 = p := ⟨_, rfl⟩
      have hpl : p < len := by omega
      have hp1 : ((len : Int) - 1).tdiv 2 = (p : Int) := by
        rw [show (len : Int) - 1 = ((len - 1 : Nat) : Int) by omega]
        rw [← hp]; rfl
      have hp2 : ((len : Int) - 1) / 2 = (p : Int) := by omega
      have hsl : (sorted (xs.map (haveV self last ps))).length = len := by rw [(sorted_perm _).length_eq, List.length_map]; exact hlen.out
      obtain ⟨m, hmm⟩ : ∃ m, (sorted (xs.map (haveV self last ps)))[p]? = some m := ⟨_, List.getElem?_eq_getElem (by omega)⟩
      have hmm2 : Hid ((sorted (xs.map (haveV self last ps)))[(xs.length - 1) / 2]? = some m) := by rw [Hid, hlen.out, hp]; exact hmm
      replace hmm := hid_mk hmm
      replace hp := hid_mk hp
      clear hsl
      go_wp2_with fail
      refine (Sort_any hb.out (by omega) (by omega) hown).mono ?_
      rintro e w3 ⟨rfl, hb3, g, rfl, hg3, hcell⟩
      have hc3 := hcell p m hmm.out
      replace hcell := hid_mk hcell
      replace hb3 := hid_mk hb3
      clear hown hb
      go_wp2
      refine ends_ret hQ (results_tmp rfl _ _ _) rfl ?_
      exact ⟨⟨m, rfl, hmm2.out⟩, hb3.out⟩
end Go.Proofs.YtncdjmpdbinanaaGreatDoor
