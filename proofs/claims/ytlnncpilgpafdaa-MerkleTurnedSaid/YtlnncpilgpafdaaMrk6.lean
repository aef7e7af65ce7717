/-
  WHAT IS PROVED HERE: what the reference's Made.Above hands back. Condition: at most 4096 leaves.
-/
import Derived.Test.YtlnncpilgpafdaaMrk5
namespace Go.Proofs.Ytlnncpilgpafdaa
open Go.RowKit

def RetMAbove (B g : Nat) (v : Value) (ts ss : List ByteArray) (w : World) (e : Ending) (w' : World) : Prop :=
  ∃ A' n' c' v', e = .returned (.slice A' n' c') ∧ n' ≤ c' ∧ Strs w' w'.heap.size A' n' (aboveL dB ss) ∧ Away A' g v'.ownBlock ∧ MadeIs w' B g v' (ts ++ aboveTs ss) ∧ TwoM w w' g v.ownBlock ∧ Moved w v.ownBlock v'.ownBlock ∧ ∀ b o, A' = some ⟨b, o, none⟩ → w.heap.size ≤ b
theorem aboveTs_len : ∀ l : List ByteArray, (aboveTs l).length ≤ l.length
  | [] => Nat.le_refl _
  | [_] => by simp [aboveTs]
  | _ :: _ :: r => by
    have ih := aboveTs_len r
    simp only [aboveTs, List.length_cons]; omega
set_option maxHeartbeats 3200000 in
theorem MAbove_any {W w : World} (hb : Below W.heap.size W w) (g : Nat) (v : Value) (ts : List ByteArray) (hM : MadeIs w W.heap.size g v ts) (A : Option Addr) (n cap : Nat) (ss : List ByteArray) {B : Nat} (h : Strs w B A n ss) (haw : Away A g v.ownBlock) (hn : n ≤ 4096) (h32 : ∀ s ∈ ss, s.size = 32) (hts : ts.length ≤ 500000) :
    Calls Try.prog 32 #[.pointer (some ⟨g, 0, none⟩), .slice A n cap] w (RetMAbove W.heap.size g v ts ss w) := by
  obtain ⟨j0, hj0, hjz, hj1, hj2⟩ := info_parts16 strJ
  have hR : Hid (Strs w w.heap.size A n ss) := Reads.topS h
  have hlen := hid_mk h.len
  have own0 : OwnM (w.alloc (.cells #[] 9)) W.heap.size 9 (.slice (some ⟨w.heap.size, 0, none⟩) 0 0) 0 (([] : List ByteArray).map vstr) := (OwnM.of (World.ownsRow_lit (base := W.heap.size) (e := 9) (size := 1) w #[] 0 hb.size (by unfold maxLen; omega) (by simp)))
  have hM0 : Hid (MadeIs (w.alloc (.cells #[] 9)) W.heap.size g v (ts ++ [])) := by rw [List.append_nil]; exact hM.keep (by go_grown)
  have hT0 : Hid (TwoM w (w.alloc (.cells #[] 9)) g v.ownBlock) := TwoM.of_below (by go_grown)
  have hf0 : Hid (∀ k, (Value.slice (some ⟨w.heap.size, 0, none⟩) 0 0).ownBlock = some k → w.heap.size ≤ k) := by intro k hk; simp [Value.ownBlock] at hk; omega
  have ha0 : Hid (∀ k, (Value.slice (some ⟨w.heap.size, 0, none⟩) 0 0).ownBlock = some k → v.ownBlock ≠ some k) := by
    intro k hk e
    simp [Value.ownBlock] at hk
    have := (hM.2.2.lt k e).2
    omega
  have hb0 : Hid (Below W.heap.size W (w.alloc (.cells #[] 9))) := hb.alloc hb.size _
  have hgB := hM.1
  have hvl := hid_mk hM.low
  replace haw := hid_mk haw
  replace h32 := hid_mk h32
  clear h hb hM
  refine calls_of_wpQ Try.func32 rfl ?_
  intro Q hQ
  simp only [Try.ntmps32, List.size_toArray, List.length_cons, List.length_nil, Nat.reduceAdd, Nat.reduceSub, Array.replicate_succ, Array.replicate_zero, List.push_toArray, List.append_toArray, List.nil_append, List.cons_append]
  go_wp2
  go_loopw [5, 6] (fun o iv wr => ∃ (i m co : Nat) (Ao : Option Addr) (outs txs : List ByteArray) (v1 : Value), o = .slice Ao m co ∧ m ≤ co ∧ iv = .int .i64 i ∧ i ≤ n + 1 ∧ m ≤ i ∧ txs.length ≤ i ∧ OwnM wr W.heap.size 9 (.slice Ao m co) m (outs.map vstr) ∧ Hid (aboveL dB ss = outs ++ aboveL dB (ss.drop i)) ∧ Hid (aboveTs ss = txs ++ aboveTs (ss.drop i)) ∧ Hid (MadeIs wr W.heap.size g v1 (ts ++ txs)) ∧ Hid (TwoM w wr g v.ownBlock) ∧ Hid (Moved w v.ownBlock v1.ownBlock) ∧ Hid (∀ k, (Value.slice Ao m co).ownBlock = some k → w.heap.size ≤ k) ∧ Hid (∀ k, (Value.slice Ao m co).ownBlock = some k → v1.ownBlock ≠ some k) ∧ Hid (Below W.heap.size W wr)) (fun _ iv _ => n + 1 - (intOf iv).toNat)
  case atStart => exact ⟨0, 0, 0, _, [], [], v, rfl, Nat.le_refl _, rfl, by omega, by omega, by simp, own0, rfl, rfl, hM0, hT0, Moved.refl _ _, hf0, ha0, hb0⟩
  case round =>
    clear own0 hM0 hT0 hf0 ha0 hb0
    obtain ⟨i, m, co, Ao, outs, txs, v1, rfl, hmc, rfl, hin, hmi, htl, hown, hab, hat, hM, hT, hmv, hfr, hap, hb⟩ := hrel
    by_cases hlt : i < n
    · obtain ⟨b0, o0, rfl, hbl, _, hcell⟩ := hR.out.2 (by omega)
      have hbne := haw.out b0 o0 rfl
      have hTs := hT.out.size
      have hblr : b0 < wr.heap.size := Nat.lt_of_lt_of_le hbl hTs
      have hl := hlen.out
      by_cases hlt2 : i + 1 < n
      · obtain ⟨a, ha⟩ : ∃ a, ss[i]? = some a := ⟨ss[i], List.getElem?_eq_getElem (by omega)⟩
        obtain ⟨b, hb'⟩ : ∃ b, ss[i + 1]? = some b := ⟨ss[i + 1], List.getElem?_eq_getElem (by omega)⟩
        have c0 : wr.cell? ⟨b0, o0 + i, none⟩ = some (.string a) := (hT.out.cell hbl hbne.1 hbne.2 _).trans (hcell i _ (by rw [List.getElem?_map, ha]; rfl))
        have c1 : wr.cell? ⟨b0, o0 + (i + 1), none⟩ = some (.string b) := (hT.out.cell hbl hbne.1 hbne.2 _).trans (hcell (i + 1) _ (by rw [List.getElem?_map, hb']; rfl))
        have hdr : ss.drop i = a :: b :: ss.drop (i + 2) := by
          rw [List.drop_eq_getElem_cons (by omega), List.drop_eq_getElem_cons (by omega)]
          rw [List.getElem?_eq_getElem (by omega)] at ha hb'
          injection ha with ha
          injection hb' with hb'
          rw [ha, hb']
        have has : a.size ≤ 32 := Nat.le_of_eq (h32.out a (List.mem_of_getElem? ha))
        have hbs : b.size ≤ 32 := Nat.le_of_eq (h32.out b (List.mem_of_getElem? hb'))
        obtain ⟨p, hp⟩ : ∃ p, dB (pairT a b) = p := ⟨_, rfl⟩
        have hab2 : Hid (aboveL dB ss = (outs ++ [p]) ++ aboveL dB (ss.drop (i + 2))) := by rw [Hid, hab.out, hdr, aboveL, hp, List.append_assoc]; rfl
        have hat2 : Hid (aboveTs ss = (txs ++ [pairT a b]) ++ aboveTs (ss.drop (i + 2))) := by rw [Hid, hat.out, hdr, aboveTs, List.append_assoc]; rfl
        have hTx : Hid ((⟨#[1]⟩ : ByteArray) ++ a ++ b = pairT a b) := rfl
        have hps : (pairT a b).size ≤ 140737488351232 := by
          unfold pairT
          rw [ByteArray.size_append, ByteArray.size_append]
          have : (⟨#[1]⟩ : ByteArray).size = 1 := rfl
          omega
        have htsl : (ts ++ txs).length ≤ 1000000 := by rw [List.length_append]; omega
        have i0 : (0 : Int) ≤ i := by omega
        have i1 : (i : Int) < n := by omega
        have i2 : (0 : Int) ≤ (i : Int) + 1 := by omega
        have i3 : (i : Int) + 1 < n := by omega
        have i4 : IntKind.i64.wrap ((i : Int) + 1) = (i : Int) + 1 := IntWalk.i64_in _ (by omega)
        have i5 : ((i : Int) + 1).toNat = i + 1 := by omega
        replace ha := hid_mk ha
        replace hb' := hid_mk hb'
        replace hp := hid_mk hp
        replace hdr := hid_mk hdr
        clear hcell hl
        have x1 : ¬ (9223372036854775807 < 1 + a.size) := by omega
        have x2 : ¬ (9223372036854775807 < 1 + a.size + b.size) := by omega
        go_wp2_with fail
        go_still_tail 12, (by kernel_rfl)
        change wpList _ _ _ _ _ wr.drew
        go_wp2_with fail
        rw [hTx.out]
        refine (MOf_any (W := W) (w := wr.drew) hb.out.drew g v1 (ts ++ txs) (pairT a b) hM.out hps htsl).mono ?_
        rw [hp.out]
        rintro e w2 ⟨v2, rfl, hM2, hT2, hm2⟩
        replace hT2 := hT2.undrew
        have own2 := hown.two hM.out.2.1 (by decide) hT2 hap.out
        have hTc : Hid (TwoM w w2 g v.ownBlock) := hT.out.trans hmv.out hT2
        have hmv2 : Hid (Moved w v.ownBlock v2.ownBlock) := hmv.out.trans hTs hm2
        have hap2 : Hid (∀ k, (Value.slice Ao m co).ownBlock = some k → v2.ownBlock ≠ some k) := apart_moved hap.out (fun k hk => (hown.lt k hk).2) (show Moved wr v1.ownBlock v2.ownBlock from hm2)
        have q2 : Hid (Below W.heap.size W w2) := TwoM.below hT2 hb.out hb.out.size hgB hM.out.low
        have hs2 : w.heap.size ≤ w2.heap.size := hTc.out.size
        replace hM2 := hid_mk hM2
        clear hT2 hm2 hown
        go_wp2_with (at_builtin; refine wpl_append_new rfl (.tmp 33) (.tmp 35) 22 rfl 9 j0 _ 16 Try.underlying22 hj0 hjz hj1 hj2 rfl q2.out (.slice Ao m co) m _ rfl own2 ([p].map vstr) 1 1 rfl _ rfl (by simp [Act.eval]) (vstr_one _) (by omega) (by omega) ?_; intro A5 c5 w5 hown5 hc5 q5 st hs5; rw [← List.map_append] at hown5)
        have M5 := hM2.out.grow st.stay st.grown (fun k hk e => hap2.out k e hk)
        rw [List.append_assoc] at M5
        have hT5 : TwoM w w5 g v.ownBlock := hTc.out.fresh hfr.out st.grown
        have hfr5 : ∀ k, (Value.slice A5 (m + 1) c5).ownBlock = some k → w.heap.size ≤ k := by
          intro k hk
          rcases st.at_ with e | ⟨j, hj, hl⟩
          · exact hfr.out k (e ▸ hk)
          · rw [hj] at hk; injection hk with hk; omega
        have hap5 := apart_grown (v' := .slice A5 (m + 1) c5) hap2.out (fun k hk => (hM2.out.2.2.lt k hk).2) st.at_
        go_roundw
        case rel => exact ⟨i + 2, m + 1, c5, A5, outs ++ [p], txs ++ [pairT a b], v2, rfl, hc5, by go_num, by omega, by omega, by rw [List.length_append, List.length_singleton]; omega, hown5, hab2, hat2, M5, hT5, hmv2, hfr5, hap5, hid_mk q5⟩
        case measure => simp [intOf]; omega
      · obtain rfl : n = i + 1 := by omega
        obtain ⟨a, ha⟩ : ∃ a, ss[i]? = some a := ⟨ss[i], List.getElem?_eq_getElem (by omega)⟩
        have c0 : wr.cell? ⟨b0, o0 + i, none⟩ = some (.string a) := (hT.out.cell hbl hbne.1 hbne.2 _).trans (hcell i _ (by rw [List.getElem?_map, ha]; rfl))
        have hdr : ss.drop i = [a] := by
          rw [List.drop_eq_getElem_cons (by omega), List.drop_eq_nil_of_le (by omega)]
          rw [List.getElem?_eq_getElem (by omega)] at ha
          injection ha with ha
          rw [ha]
        have hdr2 : ss.drop (i + 2) = [] := List.drop_eq_nil_of_le (by omega)
        have hab2 : Hid (aboveL dB ss = (outs ++ [a]) ++ aboveL dB (ss.drop (i + 2))) := by rw [Hid, hab.out, hdr, hdr2]; simp [aboveL]
        have hat2 : Hid (aboveTs ss = txs ++ aboveTs (ss.drop (i + 2))) := by rw [Hid, hat.out, hdr, hdr2]; simp [aboveTs]
        have i0 : (0 : Int) ≤ i := by omega
        have i1 : (i : Int) < (i + 1 : Nat) := by omega
        have hTs' := hTs
        replace ha := hid_mk ha
        replace hdr := hid_mk hdr
        replace hdr2 := hid_mk hdr2
        clear hcell hl
        go_wp2_with (at_builtin; refine wpl_append_new rfl (.tmp 37) (.tmp 42) 22 rfl 9 j0 _ 16 Try.underlying22 hj0 hjz hj1 hj2 rfl hb.out (.slice Ao m co) m _ rfl hown ([a].map vstr) 1 1 rfl _ rfl (by simp [Act.eval]) (vstr_one _) (by omega) (by omega) ?_; intro A5 c5 w5 hown5 hc5 q5 st hs5; rw [← List.map_append] at hown5)
        have M5 := hM.out.grow st.stay st.grown (fun k hk e => hap.out k e hk)
        have hT5 : TwoM w w5 g v.ownBlock := hT.out.fresh hfr.out st.grown
        have hfr5 : ∀ k, (Value.slice A5 (m + 1) c5).ownBlock = some k → w.heap.size ≤ k := by
          intro k hk
          rcases st.at_ with e | ⟨j, hj, hl⟩
          · exact hfr.out k (e ▸ hk)
          · rw [hj] at hk; injection hk with hk; omega
        have hap5 := apart_grown (v' := .slice A5 (m + 1) c5) hap.out (fun k hk => (hM.out.2.2.lt k hk).2) st.at_
        go_roundw
        case rel => exact ⟨i + 2, m + 1, c5, A5, outs ++ [a], txs, v1, rfl, hc5, by go_num, by omega, by omega, by omega, hown5, hab2, hat2, M5, hT5, hmv, hfr5, hap5, hid_mk q5⟩
        case measure => simp [intOf]; omega
    · have hdr : ss.drop i = [] := List.drop_eq_nil_of_le (by have := hlen.out; omega)
      have hab2 : aboveL dB ss = outs := by rw [hab.out, hdr]; simp [aboveL]
      have hat2 : aboveTs ss = txs := by rw [hat.out, hdr]; simp [aboveTs]
      have hi0 : ¬ (i : Int) < n := by omega
      replace hdr := hid_mk hdr
      replace hab2 := hid_mk hab2
      replace hat2 := hid_mk hat2
      go_wp2
      refine ends_ret hQ (results_tmp rfl _ _ _) rfl ?_
      refine ⟨Ao, m, co, v1, rfl, hmc, by rw [hab2.out]; exact hown.reads, ?_, by rw [hat2.out]; exact hM.out, hT.out, hmv.out, fun b o hbo => hfr.out b (by rw [hbo]; rfl)⟩
      intro b o hbo
      subst hbo
      refine ⟨?_, hap.out b rfl⟩
      rintro rfl
      exact hown.ne_ hM.out.2.1 (by decide) rfl
end Go.Proofs.Ytlnncpilgpafdaa
