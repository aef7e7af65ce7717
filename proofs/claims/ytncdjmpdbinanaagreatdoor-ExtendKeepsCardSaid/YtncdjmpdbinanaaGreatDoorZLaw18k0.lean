/-
  WHAT IS PROVED HERE: the law ExtendKeeps returns true: a node that may be may be behind anything that it does. Conditions: the slices are of at most 2^47 bytes; the library's table and MaxLen stand.
-/
import Derived.Test.YtncdjmpdbinanaaGreatDoorZKee
import Derived.Test.YtncdjmpdbinanaaGreatDoorZEld
import Derived.Test.YtncdjmpdbinanaaGreatDoorZEtk
import Derived.Test.YtncdjmpdbinanaaGreatDoorZEfi
import Derived.Test.YtncdjmpdbinanaaGreatDoorZEad
import Derived.Test.YtncdjmpdbinanaaGreatDoorZGMem
import Derived.Test.YtncdjmpdbinanaaGreatDoorZGEad
import Derived.Test.YtncdjmpdbinanaaGreatDoorZLaw18s
namespace Go.Proofs.YtncdjmpdbinanaaGreatDoor
open Go.RowKit

theorem mgsk_app {xs ys : List (Ms × MsA)} : mgsL (xs ++ ys) = mgsL xs ++ mgsL ys := by unfold mgsL; rw [List.flatMap_append]
theorem ndsk_app {xs ys : List (Nd × NdA)} : ndsL (xs ++ ys) = ndsL xs ++ ndsL ys := by unfold ndsL; rw [List.flatMap_append]
theorem nd_one (xs : List (Nd × NdA)) : ∀ u ∈ ndsL xs, u.oneCell' = true := by
  intro u hu
  unfold ndsL at hu
  obtain ⟨p, _, hu⟩ := List.mem_flatMap.1 hu
  simp only [ndCells, List.mem_cons, List.mem_nil_iff, or_false] at hu
  rcases hu with rfl | rfl | rfl | rfl | rfl | rfl | rfl | rfl | rfl | rfl | rfl | rfl | rfl | rfl <;> rfl
theorem ndInfo : (Tryz.prog.info? 30).map (fun i => (i.zero, i.size, i.bytes)) = some (some (.agg (ndC zeroN nilA)), 14, 184) := by kernel_rfl
theorem KR.ownN {w w' : World} {B n : Nat} {v : Value} {xs : List Value} (ho : w.ownsRow B 30 14 v n xs) (h : w.grownBy w' v.ownBlock) : KR w w' B := by
  refine KR.grown h (fun k e => ⟨(World.ownsRow.lt ho k e).1, fun cs e' fr hh => ?_⟩)
  obtain ⟨cs', fr', h2⟩ := own_typedS ho k e
  rw [h2] at hh
  cases hh
  exact ⟨by decide, by decide, by decide⟩
/-- what is read stays where a row of another type grows -/
theorem reads_grown {w w' : World} {B e e' size n sz m : Nat} {A : Option Addr} {xs ys : List Value} {v : Value} (h : Reads w B e size A n xs) (ho : w.ownsRow B e' sz v m ys) (hne : e' ≠ e) (hg : w.grownBy w' v.ownBlock) : Reads w' B e size A n xs :=
  ⟨h.1, fun hn => by
    obtain ⟨b, o, ea, hlt, ht, hc⟩ := h.2 hn
    have hne2 : some b ≠ v.ownBlock := by
      intro e1
      have h0 := (World.ownsRow.lt ho b e1.symm).1
      obtain ⟨cs', fr', h1⟩ := own_typedS ho b e1.symm
      rcases ht with ht | ⟨cs, fr, ht⟩
      · omega
      · rw [h1] at ht
        injection ht with ht
        injection ht with _ h3
        exact hne h3
    have hbk := hg.block b hlt hne2
    refine ⟨b, o, ea, Nat.lt_of_lt_of_le hlt hg.size, ?_, fun j u hu => (World.cell?_of_block (a := ⟨b, o + j, none⟩) hbk).trans (hc j u hu)⟩
    rcases ht with ht | ⟨cs, fr, ht⟩
    · exact .inl ht
    · exact .inr ⟨cs, fr, hbk.trans ht⟩⟩
theorem own_apart {w : World} {B B' e e' sz sz' n m : Nat} {v v' : Value} {xs ys : List Value} (h : w.ownsRow B e sz v n xs) (h' : w.ownsRow B' e' sz' v' m ys) (hne : e ≠ e') : v.ownBlock = none ∨ v.ownBlock ≠ v'.ownBlock := by
  cases hv : v.ownBlock with
  | none => exact .inl rfl
  | some k =>
    refine .inr fun e1 => ?_
    obtain ⟨cs, fr, h1⟩ := own_typedS h k hv
    obtain ⟨cs', fr', h2⟩ := own_typedS h' k e1.symm
    rw [h1] at h2
    injection h2 with h2
    injection h2 with _ h3
    exact hne h3
theorem own_boxN {w : World} {B n sz : Nat} {e : TypeId} {v : Value} {xs : List Value} (h : w.ownsRow B e sz v n xs) (hn : 0 < n) : ∃ g c, v = .slice (some ⟨g, 0, none⟩) n c := by
  rcases h.2 with ⟨_, e⟩ | ⟨g, cap, cur, e, _⟩
  · omega
  · exact ⟨g, cap, e⟩
theorem Bxs.sub {w : World} {B : Nat} {l l' : List Bx} (h : Bxs B w l) (hs : l'.Sublist l) : Bxs B w l' := ⟨fun b hb => h.1 b (hs.subset hb), h.2.sublist hs⟩
/-- a row of the call's own, kept behind calls -/
def OwnK (w : World) (B : Nat) (e : TypeId) (size : Nat) (v : Value) (n : Nat) (xs : List Value) : Prop := w.ownsRow B e size v n xs
theorem OwnK.to {w w' : World} {B size n : Nat} {e : TypeId} {v : Value} {xs : List Value} (h : OwnK w B e size v n xs) (hb : Below w.heap.size w w') : OwnK w' B e size v n xs := own_keep h hb
def LeSz (w : World) (n : Nat) : Prop := n ≤ w.heap.size
theorem LeSz.to {w w' : World} {n : Nat} (h : LeSz w n) (hb : Below w.heap.size w w') : LeSz w' n := Nat.le_trans h hb.size
theorem nds_box {w : World} {B g : Nat} {N : Nd} {a : NdA} (h : Blk w g 30 (ndC N a)) : Reads w B 30 14 (some ⟨g, 0, none⟩) 1 (ndsL [(N, a)]) := by
  refine ⟨rfl, fun _ => ⟨g, 0, rfl, h.lt, .inr ⟨_, _, h⟩, fun j u hu => ?_⟩⟩
  rw [Nat.zero_add, h.cell j]
  simpa [ndsL, ndCells, ndC] using hu
theorem allk_len {N : Nd} (hr : rightN N = true) : (allM N).length ≤ 9 := by
  unfold allM
  rw [List.length_map]
  exact prs_len (right_parts hr).2.2.2.2.2.2.2.2.2
theorem leadk_len (N : Nd) (hr : rightN N = true) : (leadL N).length ≤ 9 := by
  unfold leadL
  split
  · rename_i hc
    unfold leadC at hc
    simp only [Bool.and_eq_true, beq_iff_eq] at hc
    exact allk_len (sure_right (lead_right hr hc.2).1)
  · simp
theorem addk_len (N : Nd) (k : Int) (d : ByteArray) : (addL N k d).length ≤ 9 := by
  unfold addL
  split
  · rename_i h
    have hr := (add_base h).1
    have hs := (sure_same (addB N k d)).2.2.2.2.2.2.1
    unfold allM
    rw [List.length_map, hs]
    exact prs_len (right_parts hr).2.2.2.2.2.2.2.2.2
  · simp
set_option maxHeartbeats 800000 in
theorem LikeRec_q (A : Option Addr) (n c : Nat) (A' : Option Addr) (n' c' : Nat) (rs : List Rec) (w : World) {B B' : Nat} (hm : n ≤ 8796093022208) (h : Recs w B A n rs) (h' : Recs w B' A' n' rs) :
    Calls Tryz.prog 37 #[.slice A n c, .slice A' n' c'] w fun e w' => e = .returned (.bool true) ∧ ∃ m, w' = w.drewN m := by
  obtain rfl : n = n' := by rw [← h.len, ← h'.len]
  refine calls_of_wpQ Tryz.func37 rfl ?_
  intro Q hQ
  simp only [Tryz.ntmps37, List.size_toArray, List.length_cons, List.length_nil, Nat.reduceAdd, Nat.reduceSub, Array.replicate_succ, Array.replicate_zero, List.push_toArray, List.append_toArray, List.nil_append, List.cons_append]
  go_wp2
  go_loopw [13] (fun iv wr => ∃ (k m : Nat), iv = .int .i64 k ∧ k ≤ n ∧ Hid (wr = w.drewN m)) (fun iv _ => n - (intOf iv).toNat)
  case atStart => exact ⟨0, 0, rfl, Nat.zero_le _, rfl⟩
  case round =>
    obtain ⟨k, m, rfl, hk, hb⟩ := hrel
    have hbb : Below w.heap.size w wr := by rw [hb.out]; exact below_drewN_ (Below.refl _ _) m
    by_cases hlt : k < n
    · obtain ⟨b, o, r, rfl, hbl, hik, c0, c1, c2⟩ := (h.to hbb).at_ hlt
      obtain ⟨b', o', r', rfl, hbl', hik', d0, d1, d2⟩ := (h'.to hbb).at_ hlt
      obtain rfl : r = r' := by
        have e := hik.out.symm.trans hik'.out
        injection e
      obtain ⟨rt, rk, rd⟩ := r
      dsimp only at c0 c1 c2 d0 d1 d2
      have hne := fun w => run_neq_recK rt rk rd w
      have k0 : (0 : Int) ≤ k := by omega
      have k1 : (k : Int) < n := by omega
      clear hik hik'
      go_wp2_with fail
      go_quiet (fail)
      obtain ⟨wq, hwq⟩ : ∃ u, wr.drewN nq = u := ⟨_, rfl⟩
      have hbq : Hid (wq = w.drewN (m + nq)) := by rw [Hid, ← hwq, hb.out, World.drewN_drewN]
      rw [hwq]
      replace hwq := hid_mk hwq
      go_wp2
      go_roundw
      case rel => exact ⟨k + 1, m + nq, by go_num, by omega, hbq⟩
      case measure => simp [intOf]; omega
    · go_wp2
      refine ends_ret hQ (results_tmp rfl _ _ _) rfl ?_
      exact ⟨rfl, m, hb.out⟩
end Go.Proofs.YtncdjmpdbinanaaGreatDoor
