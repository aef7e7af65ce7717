/-
  WHAT IS PROVED HERE: what the reference's Made.Shown hands back. Condition: a proof of at most 4096 texts.
-/
import Derived.Test.YtlnncpilgpafdaaMrk5
import Derived.Test.YtlnncpilgpafdaaMrk4
namespace Go.Proofs.Ytlnncpilgpafdaa
open Go.RowKit

/-- the texts that what is shown is made of -/
def shownTs (n i : Nat) (leaf : ByteArray) (ps : List ByteArray) : List ByteArray := climbTs dB n i leaf ps ++ (match climb dB n i leaf ps with | some t => [crownT n t] | none => [])
def shownV (n i : Nat) (leaf : ByteArray) (ps : List ByteArray) : Value := match climb dB n i leaf ps with | some t => .tuple #[.string (dB (crownT n t)), .bool true] | none => .tuple #[.string ⟨#[]⟩, .bool false]
def RetShown (B g : Nat) (v : Value) (ts : List ByteArray) (V : Value) (w : World) (e : Ending) (w' : World) : Prop :=
  ∃ v', e = .returned V ∧ MadeIs w' B g v' ts ∧ TwoM w w' g v.ownBlock ∧ Moved w v.ownBlock v'.ownBlock
theorem rightS_small {ps : List ByteArray} (h : ps.length ≤ 4096) : rightS ps = if ps.any bad32 = true then 1 else 0 := by
  unfold rightS
  rw [if_neg (by omega)]
theorem MShown_no (g : Nat) (n i : Int) (leaf : ByteArray) (A : Option Addr) (np cap : Nat) (ps : List ByteArray) (w : World) {B : Nat} (h : Strs w B A np ps) (hn : np ≤ 4096) (ha : ¬ askB n i leaf ps) :
    Calls Try.prog 9 #[.pointer (some ⟨g, 0, none⟩), .int .i64 n, .int .i64 i, .string leaf, .slice A np cap] w fun e w' => e = .returned (.tuple #[.string ⟨#[]⟩, .bool false]) ∧ w = w' := by
  have hs : (leaf.size ≠ 32 → ((leaf.size : Int) != 32) = true) := by intro h; simp; omega
  have hs2 : (leaf.size = 32 → ((leaf.size : Int) != 32) = false) := by intro h; simp; omega
  have hrs := rightS_small (ps := ps) (by rw [h.len]; exact hn)
  rcases (by
    unfold askB at ha
    rcases Classical.em (n < 1) with h1 | h1
    · exact .inl h1
    rcases Classical.em (4096 < n) with h2 | h2
    · exact .inr (.inl ⟨by omega, h2⟩)
    rcases Classical.em (i < 0) with h3 | h3
    · exact .inr (.inr (.inl ⟨by omega, by omega, h3⟩))
    rcases Classical.em (n ≤ i) with h4 | h4
    · exact .inr (.inr (.inr (.inl ⟨by omega, by omega, by omega, h4⟩)))
    rcases Classical.em (leaf.size = 32) with h5 | h5
    · right; right; right; right; right
      refine ⟨by omega, by omega, by omega, by omega, h5, ?_⟩
      cases hb : ps.any bad32
      · exact absurd ⟨by omega, by omega, by omega, by omega, h5, hb⟩ ha
      · rfl
    · exact .inr (.inr (.inr (.inr (.inl ⟨by omega, by omega, by omega, by omega, h5⟩)))) :
      n < 1 ∨ (1 ≤ n ∧ 4096 < n) ∨ (1 ≤ n ∧ n ≤ 4096 ∧ i < 0) ∨ (1 ≤ n ∧ n ≤ 4096 ∧ 0 ≤ i ∧ n ≤ i) ∨ (1 ≤ n ∧ n ≤ 4096 ∧ 0 ≤ i ∧ i < n ∧ leaf.size ≠ 32) ∨ (1 ≤ n ∧ n ≤ 4096 ∧ 0 ≤ i ∧ i < n ∧ leaf.size = 32 ∧ ps.any bad32 = true))
    with h1 | ⟨h1, h2⟩ | ⟨h1, h2, h3⟩ | ⟨h1, h2, h3, h4⟩ | ⟨h1, h2, h3, h4, h5⟩ | ⟨h1, h2, h3, h4, h5, h6⟩
  case' inr.inr.inr.inr.inl => have h7 := hs h5
  case' inr.inr.inr.inr.inr => (have h7 := hs2 h5; rw [h6, if_pos rfl] at hrs; replace h5 := hid_mk h5; replace h6 := hid_mk h6; replace hrs := hid_mk hrs)
  all_goals
    clear ha hs hs2
    refine calls_of_wpQ Try.func9 rfl ?_
    intro Q hQ
    simp only [Try.ntmps9, List.size_toArray, List.length_cons, List.length_nil, Nat.reduceAdd, Nat.reduceSub, Array.replicate_succ, Array.replicate_zero, List.push_toArray, List.append_toArray, List.nil_append, List.cons_append]
    go_wp2_with (go_at_call 14; refine (RRight_any A np cap ps _ h (by omega)).mono ?_; rw [hrs.out]; rintro e w1 ⟨rfl, rfl⟩)
    refine ends_ret hQ (results_tmp2 rfl _ _ _) rfl ?_
    exact ⟨rfl, rfl⟩
set_option maxHeartbeats 6400000 in
theorem MShown_yes {W w : World} (hb : Below W.heap.size W w) (g : Nat) (v : Value) (ts : List ByteArray) (hM : MadeIs w W.heap.size g v ts) (n i : Nat) (leaf : ByteArray) (A : Option Addr) (np cap : Nat) (ps : List ByteArray) {B : Nat} (h : Strs w B A np ps) (haw : 0 < np → Away A g v.ownBlock) (hn : np ≤ 4096) (hts : ts.length ≤ 400000)
    (hn1 : 1 ≤ n) (hn2 : n ≤ 4096) (hi : i < n) (hl : leaf.size = 32) (hp : ps.any bad32 = false) :
    Calls Try.prog 9 #[.pointer (some ⟨g, 0, none⟩), .int .i64 n, .int .i64 i, .string leaf, .slice A np cap] w (RetShown W.heap.size g v (ts ++ shownTs n i leaf ps) (shownV n i leaf ps) w) := by
  obtain ⟨j0, hj0, hjz, hj1, hj2⟩ := info_parts16 strJ
  have hrs : Hid (rightS ps = 0) := by rw [Hid, rightS_small (by rw [h.len]; exact hn), hp]; rfl
  have hls : ((leaf.size : Int) != 32) = false := by simp; omega
  have hR : Hid (Strs w w.heap.size A np ps) := Reads.topS h
  have h32 : Hid (∀ s ∈ ps, s.size = 32) := by
    intro s hs
    have := List.any_eq_false.1 hp s hs
    unfold bad32 at this
    simpa using this
  have hd1 : decide ((n : Int) < 1) = false := decide_eq_false (by omega)
  have hd2 : decide ((4096 : Int) < n) = false := decide_eq_false (by omega)
  have hd2' : decide (4096 < n) = false := decide_eq_false (by omega)
  have hd3 : decide ((i : Int) < 0) = false := decide_eq_false (by omega)
  have hd4 : decide ((n : Int) ≤ i) = false := decide_eq_false (by omega)
  have hd4' : decide (n ≤ i) = false := decide_eq_false (by omega)
  have hd1' : decide (n < 1) = false := decide_eq_false (by omega)
  have hd0 : decide (n = 0) = false := decide_eq_false (by omega)
  have hM0 : Hid (MadeIs w W.heap.size g v (ts ++ [])) := by rw [List.append_nil]; exact hM
  have hb0 := hid_mk hb
  have hT0 : Hid (TwoM w w g v.ownBlock) := TwoM.refl _ _ _
  have hgB := hM.1
  have hvt : Hid (∀ t, climb dB n i leaf ps = some t → shownV n i leaf ps = .tuple #[.string (dB (crownT n t)), .bool true] ∧ shownTs n i leaf ps = climbTs dB n i leaf ps ++ [crownT n t]) := by
    intro t ht
    unfold shownV shownTs
    rw [ht]
    exact ⟨rfl, rfl⟩
  have hvn : Hid (climb dB n i leaf ps = none → shownV n i leaf ps = .tuple #[.string ⟨#[]⟩, .bool false] ∧ shownTs n i leaf ps = climbTs dB n i leaf ps) := by
    intro ht
    unfold shownV shownTs
    rw [ht]
    exact ⟨rfl, List.append_nil _⟩
  obtain ⟨VV, hVV⟩ : ∃ V, shownV n i leaf ps = V := ⟨_, rfl⟩
  obtain ⟨TT, hTT⟩ : ∃ T, shownTs n i leaf ps = T := ⟨_, rfl⟩
  rw [hVV, hTT] at hvt hvn ⊢
  replace haw := hid_mk haw
  replace hp := hid_mk hp
  replace hl := hid_mk hl
  replace hVV := hid_mk hVV
  replace hTT := hid_mk hTT
  clear hM hb
  refine calls_of_wpQ Try.func9 rfl ?_
  intro Q hQ
  simp only [Try.ntmps9, List.size_toArray, List.length_cons, List.length_nil, Nat.reduceAdd, Nat.reduceSub, Array.replicate_succ, Array.replicate_zero, List.push_toArray, List.append_toArray, List.nil_append, List.cons_append]
  go_wp2_with (go_at_call 14; refine (RRight_any A np cap ps _ h (by omega)).mono ?_; rw [hrs.out]; rintro e w1 ⟨rfl, rfl⟩)
  go_loopw [2, 12, 13, 14] (fun iv xv mv uv wr => ∃ (j m u : Nat) (x : ByteArray) (txs : List ByteArray) (v1 : Value), iv = .int .i64 j ∧ j < m ∧ m ≤ 4096 ∧ xv = .string x ∧ mv = .int .i64 m ∧ uv = .int .i64 u ∧ u ≤ np ∧ txs.length + m ≤ 8192 ∧ Hid (x.size = 32) ∧ Hid (climb dB n i leaf ps = climb dB m j x (ps.drop u)) ∧ Hid (climbTs dB n i leaf ps = txs ++ climbTs dB m j x (ps.drop u)) ∧ Hid (MadeIs wr W.heap.size g v1 (ts ++ txs)) ∧ Hid (TwoM w wr g v.ownBlock) ∧ Hid (Moved w v.ownBlock v1.ownBlock) ∧ Hid (Below W.heap.size W wr)) (fun _ _ mv _ _ => (intOf mv).toNat)
  case atStart => exact ⟨i, n, 0, leaf, [], v, rfl, hi, hn2, rfl, rfl, rfl, Nat.zero_le _, (by simp; omega), hl, rfl, rfl, hM0, hT0, Moved.refl _ _, hb0⟩
  case round =>
    clear hM0 hb0 hT0 h
    obtain ⟨j, m, u, x, txs, v1, rfl, hj, hm, rfl, rfl, rfl, hu, htx, hx, hcl, hct, hM, hT, hmv, hb⟩ := hrel
    have hlen := hid_mk hR.out.len
    by_cases hlt : 1 < m
    · obtain ⟨jh, hjhe⟩ : ∃ q, j / 2 = q := ⟨_, rfl⟩
      have hjh : (j : Int) / 2 = (jh : Int) := by omega
      obtain ⟨mh, hmhe⟩ : ∃ q, (m + 1) / 2 = q := ⟨_, rfl⟩
      have hmh : ((m : Int) + 1) / 2 = (mh : Int) := by omega
      have hjm : jh < mh := by omega
      have hmm : mh ≤ 4096 := by omega
      have hml : mh < m := by omega
      by_cases hod : j % 2 = 1
      · have hdm : True := trivial
        have hsib : sib m j := .inl hod
        have hpar : ((j : Int) % 2 == 1) = true := by simp; omega
        have hod3 := hod
        by_cases hup : u < np
        · obtain ⟨b0, o0, p, rfl, hbl, hdr, hsk, hcell⟩ := hR.out.at_ hup
          have hbne := haw.out (by omega) b0 o0 rfl
          have c0 : wr.cell? ⟨b0, o0 + u, none⟩ = some (.string p) := (hT.out.cell hbl hbne.1 hbne.2 _).trans hcell
          have hblr : b0 < wr.heap.size := Nat.lt_of_lt_of_le hbl hT.out.size
          have hps : p.size ≤ 32 := Nat.le_of_eq (h32.out p (List.mem_of_getElem? hsk))
          have hxs : x.size ≤ 32 := Nat.le_of_eq hx.out
          have hduo : duo j x p = pairT p x := by unfold duo; rw [if_neg (by omega)]
          have hcl2 : Hid (climb dB n i leaf ps = climb dB mh jh (dB (pairT p x)) (ps.drop (u + 1))) := by rw [Hid, hcl.out, hdr.out, climb_sib dB hlt hsib, ← hmhe, ← hjhe, hduo]
          have hct2 : Hid (climbTs dB n i leaf ps = (txs ++ [pairT p x]) ++ climbTs dB mh jh (dB (pairT p x)) (ps.drop (u + 1))) := by rw [Hid, hct.out, hdr.out, climbTs_sib dB hlt hsib, ← hmhe, ← hjhe, hduo, List.append_assoc]; rfl
          have hTx : Hid ((⟨#[1]⟩ : ByteArray) ++ p ++ x = pairT p x) := rfl
          have hTs : (pairT p x).size ≤ 140737488351232 := by
            unfold pairT
            rw [ByteArray.size_append, ByteArray.size_append]
            have : (⟨#[1]⟩ : ByteArray).size = 1 := rfl
            omega
          obtain ⟨T, hTe⟩ : ∃ T, pairT p x = T := ⟨_, rfl⟩
          rw [hTe] at hcl2 hct2 hTx hTs
          obtain ⟨y, hy⟩ : ∃ y, dB T = y := ⟨_, rfl⟩
          rw [hy] at hcl2 hct2
          have hy32 : Hid (y.size = 32) := by rw [← hy]; exact dB_32 _
          have htsl : (ts ++ txs).length ≤ 1000000 := by rw [List.length_append]; omega
          have hu0 : (0 : Int) ≤ u := by omega
          have hu1 : (u : Int) < np := by omega
          have hu2 : decide (np ≤ u) = false := decide_eq_false (by omega)
          replace hy := hid_mk hy
          replace hTe := hid_mk hTe
          replace hduo := hid_mk hduo
          replace hsk := hid_mk hsk
          replace hsib := hid_mk hsib
          replace hmhe := hid_mk hmhe
          replace hjhe := hid_mk hjhe
          clear hcell hod
          go_wp2_with fail
          rw [hTx.out]
          refine (MOf_any hb.out g v1 (ts ++ txs) T hM.out hTs htsl).mono ?_
          rw [hy.out]
          rintro e w2 ⟨v2, rfl, hM2, hT2, hm2⟩
          have hTc : Hid (TwoM w w2 g v.ownBlock) := hT.out.trans hmv.out hT2
          have hmv2 : Hid (Moved w v.ownBlock v2.ownBlock) := hmv.out.trans hT.out.size hm2
          have q2 : Hid (Below W.heap.size W w2) := TwoM.below hT2 hb.out hb.out.size hgB hM.out.low
          rw [List.append_assoc] at hM2
          replace hM2 := hid_mk hM2
          have htx2 : (txs ++ [T]).length + mh ≤ 8192 := by rw [List.length_append, List.length_singleton]; omega
          clear hT2 hm2
          go_wp2
          go_roundw
          case rel => exact ⟨jh, mh, u + 1, y, txs ++ [T], v2, rfl, hjm, hmm, rfl, by rw [← hmh], by go_num, by omega, htx2, hy32, hcl2, hct2, hM2, hTc, hmv2, q2⟩
          case measure => simp [intOf]; omega
        · have hu2 : decide (np ≤ u) = true := decide_eq_true (by omega)
          have hdr : ps.drop u = [] := List.drop_eq_nil_of_le (by rw [hlen.out]; omega)
          have hno := hvn.out (by rw [hcl.out, hdr, climb_short dB hlt hsib])
          have hV := hid_mk hno.1
          have hTT2 : Hid (TT = txs) := by rw [Hid, hno.2, hct.out, hdr, climbTs_short dB hlt hsib, List.append_nil]
          replace hdr := hid_mk hdr
          replace hsib := hid_mk hsib
          replace hmhe := hid_mk hmhe
          replace hjhe := hid_mk hjhe
          clear hno hod
          go_wp2
          refine ends_ret hQ (results_tmp2 rfl _ _ _) rfl ?_
          exact ⟨v1, by rw [hV.out]; rfl, by rw [hTT2.out]; exact hM.out, hT.out, hmv.out⟩
      · by_cases hod2 : j + 1 < m
        · have hdm : True := trivial
          have hsib : sib m j := .inr hod2
          have hpar : ((j : Int) % 2 == 1) = false := by simp; omega
          have hod3 : (j : Int) + 1 < m := by omega
          by_cases hup : u < np
          · obtain ⟨b0, o0, p, rfl, hbl, hdr, hsk, hcell⟩ := hR.out.at_ hup
            have hbne := haw.out (by omega) b0 o0 rfl
            have c0 : wr.cell? ⟨b0, o0 + u, none⟩ = some (.string p) := (hT.out.cell hbl hbne.1 hbne.2 _).trans hcell
            have hblr : b0 < wr.heap.size := Nat.lt_of_lt_of_le hbl hT.out.size
            have hps : p.size ≤ 32 := Nat.le_of_eq (h32.out p (List.mem_of_getElem? hsk))
            have hxs : x.size ≤ 32 := Nat.le_of_eq hx.out
            have hduo : duo j x p = pairT x p := by unfold duo; rw [if_pos (by omega)]
            have hcl2 : Hid (climb dB n i leaf ps = climb dB mh jh (dB (pairT x p)) (ps.drop (u + 1))) := by rw [Hid, hcl.out, hdr.out, climb_sib dB hlt hsib, ← hmhe, ← hjhe, hduo]
            have hct2 : Hid (climbTs dB n i leaf ps = (txs ++ [pairT x p]) ++ climbTs dB mh jh (dB (pairT x p)) (ps.drop (u + 1))) := by rw [Hid, hct.out, hdr.out, climbTs_sib dB hlt hsib, ← hmhe, ← hjhe, hduo, List.append_assoc]; rfl
            have hTx : Hid ((⟨#[1]⟩ : ByteArray) ++ x ++ p = pairT x p) := rfl
            have hTs : (pairT x p).size ≤ 140737488351232 := by
              unfold pairT
              rw [ByteArray.size_append, ByteArray.size_append]
              have : (⟨#[1]⟩ : ByteArray).size = 1 := rfl
              omega
            obtain ⟨T, hTe⟩ : ∃ T, pairT x p = T := ⟨_, rfl⟩
            rw [hTe] at hcl2 hct2 hTx hTs
            obtain ⟨y, hy⟩ : ∃ y, dB T = y := ⟨_, rfl⟩
            rw [hy] at hcl2 hct2
            have hy32 : Hid (y.size = 32) := by rw [← hy]; exact dB_32 _
            have htsl : (ts ++ txs).length ≤ 1000000 := by rw [List.length_append]; omega
            have hu0 : (0 : Int) ≤ u := by omega
            have hu1 : (u : Int) < np := by omega
            have hu2 : decide (np ≤ u) = false := decide_eq_false (by omega)
            replace hy := hid_mk hy
            replace hTe := hid_mk hTe
            replace hduo := hid_mk hduo
            replace hsk := hid_mk hsk
            replace hsib := hid_mk hsib
            replace hmhe := hid_mk hmhe
            replace hjhe := hid_mk hjhe
            clear hcell hod
            go_wp2_with fail
            rw [hTx.out]
            refine (MOf_any hb.out g v1 (ts ++ txs) T hM.out hTs htsl).mono ?_
            rw [hy.out]
            rintro e w2 ⟨v2, rfl, hM2, hT2, hm2⟩
            have hTc : Hid (TwoM w w2 g v.ownBlock) := hT.out.trans hmv.out hT2
            have hmv2 : Hid (Moved w v.ownBlock v2.ownBlock) := hmv.out.trans hT.out.size hm2
            have q2 : Hid (Below W.heap.size W w2) := TwoM.below hT2 hb.out hb.out.size hgB hM.out.low
            rw [List.append_assoc] at hM2
            replace hM2 := hid_mk hM2
            have htx2 : (txs ++ [T]).length + mh ≤ 8192 := by rw [List.length_append, List.length_singleton]; omega
            clear hT2 hm2
            go_wp2
            go_roundw
            case rel => exact ⟨jh, mh, u + 1, y, txs ++ [T], v2, rfl, hjm, hmm, rfl, by rw [← hmh], by go_num, by omega, htx2, hy32, hcl2, hct2, hM2, hTc, hmv2, q2⟩
            case measure => simp [intOf]; omega
          · have hu2 : decide (np ≤ u) = true := decide_eq_true (by omega)
            have hdr : ps.drop u = [] := List.drop_eq_nil_of_le (by rw [hlen.out]; omega)
            have hno := hvn.out (by rw [hcl.out, hdr, climb_short dB hlt hsib])
            have hV := hid_mk hno.1
            have hTT2 : Hid (TT = txs) := by rw [Hid, hno.2, hct.out, hdr, climbTs_short dB hlt hsib, List.append_nil]
            replace hdr := hid_mk hdr
            replace hsib := hid_mk hsib
            replace hmhe := hid_mk hmhe
            replace hjhe := hid_mk hjhe
            clear hno hod
            go_wp2
            refine ends_ret hQ (results_tmp2 rfl _ _ _) rfl ?_
            exact ⟨v1, by rw [hV.out]; rfl, by rw [hTT2.out]; exact hM.out, hT.out, hmv.out⟩
        · have hsib : ¬ sib m j := by unfold sib; omega
          have hpar : ((j : Int) % 2 == 1) = false := by simp; omega
          have hod3 : ¬ (j : Int) + 1 < m := by omega
          have hcl2 : Hid (climb dB n i leaf ps = climb dB mh jh x (ps.drop u)) := by rw [Hid, hcl.out, climb_lone dB hlt hsib, ← hmhe, ← hjhe]
          have hct2 : Hid (climbTs dB n i leaf ps = txs ++ climbTs dB mh jh x (ps.drop u)) := by rw [Hid, hct.out, climbTs_lone dB hlt hsib, ← hmhe, ← hjhe]
          replace hsib := hid_mk hsib
          replace hmhe := hid_mk hmhe
          replace hjhe := hid_mk hjhe
          clear hod
          go_wp2
          go_roundw
          case rel => exact ⟨jh, mh, u, x, txs, v1, rfl, hjm, hmm, rfl, by rw [← hmh], rfl, hu, by omega, hx, hcl2, hct2, hM, hT, hmv, hb⟩
          case measure => simp [intOf]; omega
    · by_cases hup : u = np
      · have hdr : ps.drop u = [] := List.drop_eq_nil_of_le (by rw [hlen.out]; omega)
        have hun : ((u : Int) != np) = false := by simp; omega
        have hyes := hvt.out x (by rw [hcl.out, hdr, climb_done dB hlt, if_pos rfl])
        have hV := hid_mk hyes.1
        have hTT2 : Hid (TT = txs ++ [crownT n x]) := by rw [Hid, hyes.2, hct.out, hdr, climbTs_done dB hlt, List.append_nil]
        have hxs : x.size ≤ 137438953472 := by rw [hx.out]; omega
        have htsl : (ts ++ txs).length ≤ 1000000 := by rw [List.length_append]; omega
        replace hdr := hid_mk hdr
        replace hup := hid_mk hup
        clear hyes
        go_wp2_with fail
        refine (MCrown_any hb.out g v1 (ts ++ txs) n x hM.out (by omega) hxs htsl).mono ?_
        rintro e w2 ⟨v2, rfl, hM2, hT2, hm2⟩
        have hTc : TwoM w w2 g v.ownBlock := hT.out.trans hmv.out hT2
        have hmv2 : Moved w v.ownBlock v2.ownBlock := hmv.out.trans hT.out.size hm2
        rw [List.append_assoc, ← hTT2.out] at hM2
        replace hM2 := hid_mk hM2
        replace hTc := hid_mk hTc
        replace hmv2 := hid_mk hmv2
        clear hT2 hm2
        obtain ⟨D, hD⟩ : ∃ D, dB (crownT n x) = D := ⟨_, rfl⟩
        rw [hD] at hV ⊢
        replace hD := hid_mk hD
        go_wp2
        refine ends_ret hQ (results_tmp2 rfl _ _ _) rfl ?_
        exact ⟨v2, by rw [hV.out]; rfl, hM2.out, hTc.out, hmv2.out⟩
      · have hun : ((u : Int) != np) = true := by simp; omega
        have hdr : ps.drop u ≠ [] := by
          intro e
          have h1 := congrArg List.length e
          rw [List.length_drop, hlen.out] at h1
          simp at h1; omega
        have hno := hvn.out (by rw [hcl.out, climb_done dB hlt, if_neg hdr])
        have hV := hid_mk hno.1
        have hTT2 : Hid (TT = txs) := by rw [Hid, hno.2, hct.out, climbTs_done dB hlt, List.append_nil]
        replace hdr := hid_mk hdr
        clear hno
        go_wp2
        refine ends_ret hQ (results_tmp2 rfl _ _ _) rfl ?_
        exact ⟨v1, by rw [hV.out]; rfl, by rw [hTT2.out]; exact hM.out, hT.out, hmv.out⟩
end Go.Proofs.Ytlnncpilgpafdaa
