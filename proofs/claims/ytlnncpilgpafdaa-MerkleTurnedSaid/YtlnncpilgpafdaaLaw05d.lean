/-
  WHAT IS PROVED HERE: the walk of the law MerkleSound: it returns true and writes nothing that was there. No condition.
-/
import Derived.Test.YtlnncpilgpafdaaMrk9
import Derived.Test.YtlnncpilgpafdaaLaw05a
namespace Go.Proofs.Ytlnncpilgpafdaa
open Go.RowKit

theorem rootTs_len (D : ByteArray → ByteArray) : ∀ (k : Nat) (l : List ByteArray), l.length ≤ k → (rootTs D l).length ≤ l.length
  | 0, l, hk => by rw [rootTs_done D (by omega)]; simp
  | k + 1, l, hk => by
    by_cases h : 1 < l.length
    · have hl := aboveL_len D l
      have ih := rootTs_len D k (aboveL D l) (by omega)
      have hh := aboveTs_half l
      rw [rootTs_step D h, List.length_append]; omega
    · rw [rootTs_done D h]; simp
theorem climbTs_len (D : ByteArray → ByteArray) : ∀ (k m i : Nat) (x : ByteArray) (ps : List ByteArray), m ≤ k → (climbTs D m i x ps).length ≤ m
  | 0, m, i, x, ps, hk => by rw [climbTs_done D (by omega)]; simp
  | k + 1, m, i, x, ps, hk => by
    by_cases h : 1 < m
    · by_cases hb : sib m i
      · match ps with
        | [] => rw [climbTs_short D h hb]; simp
        | p :: r =>
          have ih := climbTs_len D k ((m + 1) / 2) (i / 2) (D (duo i x p)) r (by omega)
          rw [climbTs_sib D h hb, List.length_cons]; omega
      · have ih := climbTs_len D k ((m + 1) / 2) (i / 2) x ps (by omega)
        rw [climbTs_lone D h hb]; omega
    · rw [climbTs_done D h]; simp
theorem madeTs_len {ls : List ByteArray} : (madeTs ls).length ≤ ls.length + 2 := by
  unfold madeTs
  rw [List.length_append, List.length_singleton]
  have := rootTs_len dB _ (if ls = [] then [zero32] else ls) (Nat.le_refl _)
  split at this
  · simp at this; rename_i h; simp [h]; omega
  · rename_i h; rw [if_neg h]; omega
theorem shownTI_len {n i : Int} {leaf : ByteArray} {ps : List ByteArray} : (shownTI n i leaf ps).length ≤ 4097 := by
  unfold shownTI
  split
  · rename_i ha
    obtain ⟨_, h2, _⟩ := ha
    unfold shownTs
    have := climbTs_len dB _ n.toNat i.toNat leaf ps (Nat.le_refl _)
    rw [List.length_append]
    split <;> simp <;> omega
  · simp
set_option maxRecDepth 100000 in
set_option maxHeartbeats 6400000 in
theorem LawSound_any (A : Option Addr) (n0 cap : Nat) (ss : List ByteArray) (n i : Int) (leaf : ByteArray) (Ap : Option Addr) (np0 cp : Nat) (ps0 : List ByteArray) (w : World) (h : Strs w w.heap.size A n0 ss) (hsz : ∀ s ∈ ss, s.size ≤ 140737488351232) (hp0 : Strs w w.heap.size Ap np0 ps0) (hpc : np0 ≤ cp) (hpcap : cp * 16 ≤ 140737488351232) :
    Calls Try.prog 6 #[.slice A n0 cap, .int .i64 n, .int .i64 i, .string leaf, .slice Ap np0 cp] w fun e w' => e = .returned (.bool true) ∧ Below w.heap.size w w' := by
  obtain ⟨j0, hj0, hjz, hj1, hj2⟩ := info_parts16 strJ
  have hr := hid_mk (leavesD_right ss)
  have h32 := hid_mk (leavesD_32 ss)
  have hl40 := leavesD_len ss
  obtain ⟨ls, hls⟩ : ∃ ls, leavesD ss = ls := ⟨_, rfl⟩
  have hdig := digests_any A n0 cap ss w h hsz
  rw [hls] at hr h32 hl40 hdig
  have hrt : Hid ((if rightS ls = 0 then Value.tuple #[.string (rootB ls), .int .i64 0] else .tuple #[.string ⟨#[]⟩, .int .i64 (rightS ls)]) = .tuple #[.string (rootB ls), .int .i64 0]) := by rw [Hid, if_pos hr.out]
  have hr32 : (rootB ls).size = 32 := dB_32 _
  obtain ⟨rt, hrte⟩ : ∃ r, rootB ls = r := ⟨_, rfl⟩
  rw [hrte] at hrt hr32
  have hrl : ((rt.size : Int) != 32) = false := by simp; omega
  replace hr32 := hid_mk hr32
  replace hls := hid_mk hls
  clear h hsz
  by_cases hlt : 20 < np0
  · have hps0 : Strs w w.heap.size Ap 20 (ps0.take 20) := hp0.take (by omega)
    have hsl := fun W : World => run_slice_upto (P := Try.prog) (w := W) 22 9 Try.underlying22 j0 hj0 Ap np0 cp 20 (by omega) (by omega)
    obtain ⟨ps, hpe⟩ : ∃ ps, ps0.take 20 = ps := ⟨_, rfl⟩
    rw [hpe] at hps0
    clear hpe hp0
    have hmc : 20 ≤ cp := by omega
    have hps := hid_mk hps0
    replace hsl := hid_mk hsl
    clear hps0
    cases hck : checkB rt n i leaf ps
    · try dsimp only at hck
      replace hck := hid_mk hck
      replace hrte := hid_mk hrte
      refine calls_of_wpQ Try.func6 rfl ?_
      intro Q hQ
      simp only [Try.ntmps6, List.size_toArray, List.length_cons, List.length_nil, Nat.reduceAdd, Nat.reduceSub, Array.replicate_succ, Array.replicate_zero, List.push_toArray, List.append_toArray, List.nil_append, List.cons_append]
      go_wp2_with fail
      refine hdig.mono ?_
      rintro e w1 ⟨A1, m1, c1, rfl, hc1, hS1, hb1, _⟩
      have hm1 : m1 ≤ 40 := by have := hS1.len; omega
      have hm1l : Hid (ls.length = m1) := hS1.len
      have hps1 : Hid (Strs w1 w1.heap.size Ap _ ps) := Reads.topS (Strs.to hps.out hb1)
      replace hb1 := hid_mk hb1
      have hslw := hsl.out
      try replace hslw := hslw w1
      clear hdig
      go_wp2_with fail
      refine (Root_any A1 m1 c1 ls _ hS1 hc1 (by omega)).mono ?_
      rw [hrte.out, hrt.out]
      rintro e w2 ⟨rfl, hb2⟩
      have q2 := hid_mk (after (w := w) hb2 hb1.out).1
      have hS2 : Hid (Strs w2 w2.heap.size A1 m1 ls) := Reads.topS (Strs.to hS1 hb2)
      have hps2 : Hid (Strs w2 w2.heap.size Ap _ ps) := Reads.topS (Strs.to hps1.out hb2)
      clear hb2 hS1 hb1 hps1
      go_wp2_with fail
      refine (Check_any rt n i leaf Ap _ cp ps _ hps2.out (by omega) (by omega)).mono ?_
      rw [hck.out]
      rintro e w3 ⟨rfl, hb3⟩
      have q3 := hid_mk (after (w := w) hb3 q2.out).1
      have hS3 : Hid (Strs w3 w3.heap.size A1 m1 ls) := Reads.topS (Strs.to hS2.out hb3)
      have hps3 : Hid (Strs w3 w3.heap.size Ap _ ps) := Reads.topS (Strs.to hps2.out hb3)
      clear hb3 hS2 hps2 q2
      try clear hslw
      go_wp2
      refine ends_ret hQ (results_tmp rfl _ _ _) rfl ?_
      exact ⟨ret_bool rfl, q3.out⟩
    · have hsnd := check_sound h32.out (by omega) (show checkB (rootB ls) n i leaf ps = true by rw [hrte]; exact hck)
      have hask : askB n i leaf ps := by
        unfold checkB at hck
        by_cases ha : askB n i leaf ps
        · exact ha
        · rw [if_neg ha] at hck; cases hck
      obtain ⟨ha1, ha2, ha3, ha4, ha5, ha6⟩ := hask
      replace ha5 := hid_mk ha5
      replace ha6 := hid_mk ha6
      replace hsnd := hid_mk hsnd
      replace hck := hid_mk hck
      replace hrte := hid_mk hrte
      refine calls_of_wpQ Try.func6 rfl ?_
      intro Q hQ
      simp only [Try.ntmps6, List.size_toArray, List.length_cons, List.length_nil, Nat.reduceAdd, Nat.reduceSub, Array.replicate_succ, Array.replicate_zero, List.push_toArray, List.append_toArray, List.nil_append, List.cons_append]
      go_wp2_with fail
      refine hdig.mono ?_
      rintro e w1 ⟨A1, m1, c1, rfl, hc1, hS1, hb1, _⟩
      have hm1 : m1 ≤ 40 := by have := hS1.len; omega
      have hm1l : Hid (ls.length = m1) := hS1.len
      have hps1 : Hid (Strs w1 w1.heap.size Ap _ ps) := Reads.topS (Strs.to hps.out hb1)
      replace hb1 := hid_mk hb1
      have hslw := hsl.out
      try replace hslw := hslw w1
      clear hdig
      go_wp2_with fail
      refine (Root_any A1 m1 c1 ls _ hS1 hc1 (by omega)).mono ?_
      rw [hrte.out, hrt.out]
      rintro e w2 ⟨rfl, hb2⟩
      have q2 := hid_mk (after (w := w) hb2 hb1.out).1
      have hS2 : Hid (Strs w2 w2.heap.size A1 m1 ls) := Reads.topS (Strs.to hS1 hb2)
      have hps2 : Hid (Strs w2 w2.heap.size Ap _ ps) := Reads.topS (Strs.to hps1.out hb2)
      clear hb2 hS1 hb1 hps1
      go_wp2_with fail
      refine (Check_any rt n i leaf Ap _ cp ps _ hps2.out (by omega) (by omega)).mono ?_
      rw [hck.out]
      rintro e w3 ⟨rfl, hb3⟩
      have q3 := hid_mk (after (w := w) hb3 q2.out).1
      have hS3 : Hid (Strs w3 w3.heap.size A1 m1 ls) := Reads.topS (Strs.to hS2.out hb3)
      have hps3 : Hid (Strs w3 w3.heap.size Ap _ ps) := Reads.topS (Strs.to hps2.out hb3)
      clear hb3 hS2 hps2 q2
      try clear hslw
      rcases hsnd.out with ⟨s1, s2, s3, s4, _⟩ | hcoll
      · obtain ⟨k, rfl⟩ := Int.eq_ofNat_of_zero_le s2
        rw [Int.toNat_natCast] at s4
        have hn : n = (m1 : Int) := by rw [s1, hm1l.out]
        subst hn
        clear s1
        have hkm : k < m1 := by omega
        obtain ⟨b0, o0, l, rfl, hbl, _, hsk, hcell⟩ := hS3.out.at_ hkm
        have hll : l = leaf := by rw [hsk] at s4; injection s4
        subst hll
        replace hsk := hid_mk hsk
        replace s4 := hid_mk s4
        go_wp2
        refine ends_ret hQ (results_tmp rfl _ _ _) rfl ?_
        exact ⟨ret_bool rfl, q3.out⟩
      · replace hcoll := hid_mk hcoll
        by_cases hnm : n = (m1 : Int)
        · subst hnm
          obtain ⟨k, rfl⟩ := Int.eq_ofNat_of_zero_le ha3
          have hkm : k < m1 := by omega
          obtain ⟨b0, o0, l, hA1, hbl, _, hsk, hcell⟩ := hS3.out.at_ hkm
          replace hsk := hid_mk hsk
          have hq1 := str_eq leaf l
          by_cases hll : leaf = l
          · subst hll
            subst hA1
            clear hq1
            go_wp2
            refine ends_ret hQ (results_tmp rfl _ _ _) rfl ?_
            exact ⟨ret_bool rfl, q3.out⟩
          · have hq2 : (leaf.toList == l.toList) = false := by rw [hq1]; simp [hll]
            have hq3 : ¬ leaf.toList = l.toList := fun e => hll (by have h := str_eq leaf l; rw [e] at h; simpa using h.symm)
            clear hq1
            replace hll := hid_mk hll
            subst hA1
            have hbA : Hid (Below w.heap.size w (w3.alloc (.cells #[.slice none 0 0] 25))) := q3.out.alloc q3.out.size _
            have hbB : Hid (Below w.heap.size w ((w3.alloc (.cells #[.slice none 0 0] 25)).alloc (.cells #[.slice none 0 0] 25))) := hbA.out.alloc hbA.out.size _
            have hsz3 := q3.out.size
            have hMa : Hid (MadeIs ((w3.alloc (.cells #[.slice none 0 0] 25)).alloc (.cells #[.slice none 0 0] 25)) w.heap.size w3.heap.size (.slice none 0 0) []) := (made_new w3 w q3.out.size).keep (by go_grown)
            have hMb : Hid (MadeIs ((w3.alloc (.cells #[.slice none 0 0] 25)).alloc (.cells #[.slice none 0 0] 25)) w.heap.size (w3.heap.size + 1) (.slice none 0 0) []) := by
              have h1 := made_new (w3.alloc (.cells #[.slice none 0 0] 25)) w hbA.out.size
              rw [World.size_alloc] at h1
              exact h1
            have hSB : Hid (Strs ((w3.alloc (.cells #[.slice none 0 0] 25)).alloc (.cells #[.slice none 0 0] 25)) w3.heap.size (some ⟨b0, o0, none⟩) m1 ls) := Strs.to hS3.out (by go_grown)
            have hPB : Hid (Strs ((w3.alloc (.cells #[.slice none 0 0] 25)).alloc (.cells #[.slice none 0 0] 25)) w3.heap.size Ap 20 ps) := Strs.to hps3.out (by go_grown)
            have hawA : 0 < m1 → Away (some ⟨b0, o0, none⟩) w3.heap.size (Value.slice none 0 0).ownBlock := fun e => away_old hS3.out e (Nat.le_refl _) (by simp [Value.ownBlock])
            have hawP : 0 < 20 → Away Ap (w3.heap.size + 1) (Value.slice none 0 0).ownBlock := fun e => away_old hps3.out e (by omega) (by simp [Value.ownBlock])
            replace hawA := hid_mk hawA
            replace hawP := hid_mk hawP
            go_wp2_with fail
            refine (MRoot_any hbB.out w3.heap.size (.slice none 0 0) [] hMa.out (some ⟨b0, o0, none⟩) m1 c1 ls hSB.out hawA.out (by omega) hc1 h32.out (by simp)).mono ?_
            rintro e w4 ⟨va, rfl, hMa4, hT4, hm4⟩
            have q4 : Hid (Below w.heap.size w w4) := TwoM.below hT4 hbB.out hbB.out.size hsz3 (fun k hk => by simp [Value.ownBlock] at hk)
            have hMb4 : Hid (MadeIs w4 w.heap.size (w3.heap.size + 1) (.slice none 0 0) []) := hMb.out.other hMa.out (by omega) (fun k hk => by simp [Value.ownBlock] at hk) hT4
            have hP4 : Hid (Strs w4 w4.heap.size Ap 20 ps) := by
              rcases Nat.eq_zero_or_pos 20 with e | e
              · exact ⟨hPB.out.1, fun h => absurd h (by omega)⟩
              · exact Reads.two hPB.out hT4 (away_old hps3.out e (Nat.le_refl _) (by simp [Value.ownBlock]))
            have hs4 : w3.heap.size + 1 < w4.heap.size := hMb4.out.lt
            have hawP4 : 0 < 20 → Away Ap (w3.heap.size + 1) (Value.slice none 0 0).ownBlock := hawP.out
            replace hawP4 := hid_mk hawP4
            rw [List.nil_append] at hMa4
            replace hMa4 := hid_mk hMa4
            clear hT4 hm4 hMa hMb hSB hPB
            go_wp2_with fail
            refine (MShown_any q4.out (w3.heap.size + 1) (.slice none 0 0) [] hMb4.out (m1 : Int) (k : Int) leaf Ap 20 cp ps hP4.out hawP4.out (by omega) (by simp)).mono ?_
            rintro e w5 ⟨vb, hVe, hMb5, hT5, hm5⟩
            have q5 : Hid (Below w.heap.size w w5) := TwoM.below hT5 q4.out q4.out.size (by omega) (fun k hk => by simp [Value.ownBlock] at hk)
            have hMa5 : Hid (MadeIs w5 w.heap.size w3.heap.size va (madeTs ls)) := hMa4.out.other hMb4.out (by omega) (fun k _ => by simp [Value.ownBlock]) hT5
            rw [List.nil_append] at hMb5
            replace hMb5 := hid_mk hMb5
            obtain ⟨Aa, ca, rfl, hca, _⟩ := hMa5.out.2.2.slice
            obtain ⟨Ab, cb, rfl, hcb, _⟩ := hMb5.out.2.2.slice
            have hSa : Hid (Strs w5 w5.heap.size Aa (madeTs ls).length (madeTs ls)) := hMa5.out.2.2.reads
            have hSb : Hid (Strs w5 w5.heap.size Ab (shownTI (m1 : Int) (k : Int) leaf ps).length (shownTI (m1 : Int) (k : Int) leaf ps)) := hMb5.out.2.2.reads
            have ca0 : w5.cell? ⟨w3.heap.size, 0, none⟩ = some (.slice Aa (madeTs ls).length ca) := hMa5.out.2.1.cell 0
            have cb0 : w5.cell? ⟨w3.heap.size + 1, 0, none⟩ = some (.slice Ab (shownTI (m1 : Int) (k : Int) leaf ps).length cb) := hMb5.out.2.1.cell 0
            have hla := hMa5.out.lt
            have hlb := hMb5.out.lt
            have hna := madeTs_len (ls := ls)
            have hnb := shownTI_len (n := (m1 : Int)) (i := (k : Int)) (leaf := leaf) (ps := ps)
            have hza := madeTs_size h32.out
            have hzb := shownTI_size (n := (m1 : Int)) (i := (k : Int)) (leaf := leaf) (ps := ps)
            obtain ⟨TA, hTA⟩ : ∃ T, madeTs ls = T := ⟨_, rfl⟩
            obtain ⟨TB, hTB⟩ : ∃ T, shownTI (m1 : Int) (k : Int) leaf ps = T := ⟨_, rfl⟩
            rw [hTA] at hSa ca0 hna hza
            rw [hTB] at hSb cb0 hnb hzb
            have hcoll2 : Hid (collB TA TB = true) := by rw [Hid, ← hTA, ← hTB]; exact hcoll.out
            obtain ⟨na, hnae⟩ : ∃ n, TA.length = n := ⟨_, rfl⟩
            obtain ⟨nb, hnbe⟩ : ∃ n, TB.length = n := ⟨_, rfl⟩
            rw [hnae] at hSa ca0 hna
            rw [hnbe] at hSb cb0 hnb
            replace hTA := hid_mk hTA
            replace hTB := hid_mk hTB
            replace hnae := hid_mk hnae
            replace hnbe := hid_mk hnbe
            replace hza := hid_mk hza
            replace hzb := hid_mk hzb
            have hnab : na ≤ 8796093022208 := by omega
            have hnbb : nb ≤ 8796093022208 := by omega
            clear hMa5 hMb5 hT5 hm5 hMb4 hMa4 hP4
            try obtain ⟨V, hV⟩ : ∃ V, shownVI (m1 : Int) (k : Int) leaf ps = V := ⟨_, rfl⟩
            try rw [hV] at hVe
            try replace hV := hid_mk hV
            subst hVe
            go_wp2_with fail
            go_still_tail 8, (by kernel_rfl)
            change wpList _ _ _ _ _ w5.drew
            go_wp2_with fail
            refine (Collide_any Aa na ca TA Ab nb cb TB w5.drew hSa.out hSb.out hnab hnbb hza.out hzb.out).mono ?_
            rw [hcoll2.out]
            rintro e w6 ⟨rfl, hb6⟩
            have q6 := (after (w := w) hb6 q5.out.drew).1
            go_wp2
            refine ends_ret hQ (results_tmp rfl _ _ _) rfl ?_
            exact ⟨rfl, q6⟩
        · have hq2 : (n == (m1 : Int)) = false := by simp [hnm]
          have hbA : Hid (Below w.heap.size w (w3.alloc (.cells #[.slice none 0 0] 25))) := q3.out.alloc q3.out.size _
          have hbB : Hid (Below w.heap.size w ((w3.alloc (.cells #[.slice none 0 0] 25)).alloc (.cells #[.slice none 0 0] 25))) := hbA.out.alloc hbA.out.size _
          have hsz3 := q3.out.size
          have hMa : Hid (MadeIs ((w3.alloc (.cells #[.slice none 0 0] 25)).alloc (.cells #[.slice none 0 0] 25)) w.heap.size w3.heap.size (.slice none 0 0) []) := (made_new w3 w q3.out.size).keep (by go_grown)
          have hMb : Hid (MadeIs ((w3.alloc (.cells #[.slice none 0 0] 25)).alloc (.cells #[.slice none 0 0] 25)) w.heap.size (w3.heap.size + 1) (.slice none 0 0) []) := by
            have h1 := made_new (w3.alloc (.cells #[.slice none 0 0] 25)) w hbA.out.size
            rw [World.size_alloc] at h1
            exact h1
          have hSB : Hid (Strs ((w3.alloc (.cells #[.slice none 0 0] 25)).alloc (.cells #[.slice none 0 0] 25)) w3.heap.size A1 m1 ls) := Strs.to hS3.out (by go_grown)
          have hPB : Hid (Strs ((w3.alloc (.cells #[.slice none 0 0] 25)).alloc (.cells #[.slice none 0 0] 25)) w3.heap.size Ap 20 ps) := Strs.to hps3.out (by go_grown)
          have hawA : 0 < m1 → Away A1 w3.heap.size (Value.slice none 0 0).ownBlock := fun e => away_old hS3.out e (Nat.le_refl _) (by simp [Value.ownBlock])
          have hawP : 0 < 20 → Away Ap (w3.heap.size + 1) (Value.slice none 0 0).ownBlock := fun e => away_old hps3.out e (by omega) (by simp [Value.ownBlock])
          replace hawA := hid_mk hawA
          replace hawP := hid_mk hawP
          go_wp2_with fail
          refine (MRoot_any hbB.out w3.heap.size (.slice none 0 0) [] hMa.out A1 m1 c1 ls hSB.out hawA.out (by omega) hc1 h32.out (by simp)).mono ?_
          rintro e w4 ⟨va, rfl, hMa4, hT4, hm4⟩
          have q4 : Hid (Below w.heap.size w w4) := TwoM.below hT4 hbB.out hbB.out.size hsz3 (fun k hk => by simp [Value.ownBlock] at hk)
          have hMb4 : Hid (MadeIs w4 w.heap.size (w3.heap.size + 1) (.slice none 0 0) []) := hMb.out.other hMa.out (by omega) (fun k hk => by simp [Value.ownBlock] at hk) hT4
          have hP4 : Hid (Strs w4 w4.heap.size Ap 20 ps) := by
            rcases Nat.eq_zero_or_pos 20 with e | e
            · exact ⟨hPB.out.1, fun h => absurd h (by omega)⟩
            · exact Reads.two hPB.out hT4 (away_old hps3.out e (Nat.le_refl _) (by simp [Value.ownBlock]))
          have hs4 : w3.heap.size + 1 < w4.heap.size := hMb4.out.lt
          have hawP4 : 0 < 20 → Away Ap (w3.heap.size + 1) (Value.slice none 0 0).ownBlock := hawP.out
          replace hawP4 := hid_mk hawP4
          rw [List.nil_append] at hMa4
          replace hMa4 := hid_mk hMa4
          clear hT4 hm4 hMa hMb hSB hPB
          go_wp2_with fail
          refine (MShown_any q4.out (w3.heap.size + 1) (.slice none 0 0) [] hMb4.out n i leaf Ap 20 cp ps hP4.out hawP4.out (by omega) (by simp)).mono ?_
          rintro e w5 ⟨vb, hVe, hMb5, hT5, hm5⟩
          have q5 : Hid (Below w.heap.size w w5) := TwoM.below hT5 q4.out q4.out.size (by omega) (fun k hk => by simp [Value.ownBlock] at hk)
          have hMa5 : Hid (MadeIs w5 w.heap.size w3.heap.size va (madeTs ls)) := hMa4.out.other hMb4.out (by omega) (fun k _ => by simp [Value.ownBlock]) hT5
          rw [List.nil_append] at hMb5
          replace hMb5 := hid_mk hMb5
          obtain ⟨Aa, ca, rfl, hca, _⟩ := hMa5.out.2.2.slice
          obtain ⟨Ab, cb, rfl, hcb, _⟩ := hMb5.out.2.2.slice
          have hSa : Hid (Strs w5 w5.heap.size Aa (madeTs ls).length (madeTs ls)) := hMa5.out.2.2.reads
          have hSb : Hid (Strs w5 w5.heap.size Ab (shownTI n i leaf ps).length (shownTI n i leaf ps)) := hMb5.out.2.2.reads
          have ca0 : w5.cell? ⟨w3.heap.size, 0, none⟩ = some (.slice Aa (madeTs ls).length ca) := hMa5.out.2.1.cell 0
          have cb0 : w5.cell? ⟨w3.heap.size + 1, 0, none⟩ = some (.slice Ab (shownTI n i leaf ps).length cb) := hMb5.out.2.1.cell 0
          have hla := hMa5.out.lt
          have hlb := hMb5.out.lt
          have hna := madeTs_len (ls := ls)
          have hnb := shownTI_len (n := n) (i := i) (leaf := leaf) (ps := ps)
          have hza := madeTs_size h32.out
          have hzb := shownTI_size (n := n) (i := i) (leaf := leaf) (ps := ps)
          obtain ⟨TA, hTA⟩ : ∃ T, madeTs ls = T := ⟨_, rfl⟩
          obtain ⟨TB, hTB⟩ : ∃ T, shownTI n i leaf ps = T := ⟨_, rfl⟩
          rw [hTA] at hSa ca0 hna hza
          rw [hTB] at hSb cb0 hnb hzb
          have hcoll2 : Hid (collB TA TB = true) := by rw [Hid, ← hTA, ← hTB]; exact hcoll.out
          obtain ⟨na, hnae⟩ : ∃ n, TA.length = n := ⟨_, rfl⟩
          obtain ⟨nb, hnbe⟩ : ∃ n, TB.length = n := ⟨_, rfl⟩
          rw [hnae] at hSa ca0 hna
          rw [hnbe] at hSb cb0 hnb
          replace hTA := hid_mk hTA
          replace hTB := hid_mk hTB
          replace hnae := hid_mk hnae
          replace hnbe := hid_mk hnbe
          replace hza := hid_mk hza
          replace hzb := hid_mk hzb
          have hnab : na ≤ 8796093022208 := by omega
          have hnbb : nb ≤ 8796093022208 := by omega
          clear hMa5 hMb5 hT5 hm5 hMb4 hMa4 hP4
          try obtain ⟨V, hV⟩ : ∃ V, shownVI n i leaf ps = V := ⟨_, rfl⟩
          try rw [hV] at hVe
          try replace hV := hid_mk hV
          subst hVe
          go_wp2_with fail
          go_still_tail 8, (by kernel_rfl)
          change wpList _ _ _ _ _ w5.drew
          go_wp2_with fail
          refine (Collide_any Aa na ca TA Ab nb cb TB w5.drew hSa.out hSb.out hnab hnbb hza.out hzb.out).mono ?_
          rw [hcoll2.out]
          rintro e w6 ⟨rfl, hb6⟩
          have q6 := (after (w := w) hb6 q5.out.drew).1
          go_wp2
          refine ends_ret hQ (results_tmp rfl _ _ _) rfl ?_
          exact ⟨rfl, q6⟩
  · have hsl : True := trivial
    obtain ⟨ps, hpe⟩ : ∃ ps, ps0 = ps := ⟨_, rfl⟩
    rw [hpe] at hp0
    have hmc : np0 ≤ cp := by omega
    have hm20 : np0 ≤ 20 := by omega
    have hps := hid_mk hp0
    replace hsl := hid_mk hsl
    clear hpe hp0
    cases hck : checkB rt n i leaf ps
    · try dsimp only at hck
      replace hck := hid_mk hck
      replace hrte := hid_mk hrte
      refine calls_of_wpQ Try.func6 rfl ?_
      intro Q hQ
      simp only [Try.ntmps6, List.size_toArray, List.length_cons, List.length_nil, Nat.reduceAdd, Nat.reduceSub, Array.replicate_succ, Array.replicate_zero, List.push_toArray, List.append_toArray, List.nil_append, List.cons_append]
      go_wp2_with fail
      refine hdig.mono ?_
      rintro e w1 ⟨A1, m1, c1, rfl, hc1, hS1, hb1, _⟩
      have hm1 : m1 ≤ 40 := by have := hS1.len; omega
      have hm1l : Hid (ls.length = m1) := hS1.len
      have hps1 : Hid (Strs w1 w1.heap.size Ap _ ps) := Reads.topS (Strs.to hps.out hb1)
      replace hb1 := hid_mk hb1
      have hslw := hsl.out
      try replace hslw := hslw w1
      clear hdig
      go_wp2_with fail
      refine (Root_any A1 m1 c1 ls _ hS1 hc1 (by omega)).mono ?_
      rw [hrte.out, hrt.out]
      rintro e w2 ⟨rfl, hb2⟩
      have q2 := hid_mk (after (w := w) hb2 hb1.out).1
      have hS2 : Hid (Strs w2 w2.heap.size A1 m1 ls) := Reads.topS (Strs.to hS1 hb2)
      have hps2 : Hid (Strs w2 w2.heap.size Ap _ ps) := Reads.topS (Strs.to hps1.out hb2)
      clear hb2 hS1 hb1 hps1
      go_wp2_with fail
      refine (Check_any rt n i leaf Ap _ cp ps _ hps2.out (by omega) (by omega)).mono ?_
      rw [hck.out]
      rintro e w3 ⟨rfl, hb3⟩
      have q3 := hid_mk (after (w := w) hb3 q2.out).1
      have hS3 : Hid (Strs w3 w3.heap.size A1 m1 ls) := Reads.topS (Strs.to hS2.out hb3)
      have hps3 : Hid (Strs w3 w3.heap.size Ap _ ps) := Reads.topS (Strs.to hps2.out hb3)
      clear hb3 hS2 hps2 q2
      try clear hslw
      go_wp2
      refine ends_ret hQ (results_tmp rfl _ _ _) rfl ?_
      exact ⟨ret_bool rfl, q3.out⟩
    · have hsnd := check_sound h32.out (by omega) (show checkB (rootB ls) n i leaf ps = true by rw [hrte]; exact hck)
      have hask : askB n i leaf ps := by
        unfold checkB at hck
        by_cases ha : askB n i leaf ps
        · exact ha
        · rw [if_neg ha] at hck; cases hck
      obtain ⟨ha1, ha2, ha3, ha4, ha5, ha6⟩ := hask
      replace ha5 := hid_mk ha5
      replace ha6 := hid_mk ha6
      replace hsnd := hid_mk hsnd
      replace hck := hid_mk hck
      replace hrte := hid_mk hrte
      refine calls_of_wpQ Try.func6 rfl ?_
      intro Q hQ
      simp only [Try.ntmps6, List.size_toArray, List.length_cons, List.length_nil, Nat.reduceAdd, Nat.reduceSub, Array.replicate_succ, Array.replicate_zero, List.push_toArray, List.append_toArray, List.nil_append, List.cons_append]
      go_wp2_with fail
      refine hdig.mono ?_
      rintro e w1 ⟨A1, m1, c1, rfl, hc1, hS1, hb1, _⟩
      have hm1 : m1 ≤ 40 := by have := hS1.len; omega
      have hm1l : Hid (ls.length = m1) := hS1.len
      have hps1 : Hid (Strs w1 w1.heap.size Ap _ ps) := Reads.topS (Strs.to hps.out hb1)
      replace hb1 := hid_mk hb1
      have hslw := hsl.out
      try replace hslw := hslw w1
      clear hdig
      go_wp2_with fail
      refine (Root_any A1 m1 c1 ls _ hS1 hc1 (by omega)).mono ?_
      rw [hrte.out, hrt.out]
      rintro e w2 ⟨rfl, hb2⟩
      have q2 := hid_mk (after (w := w) hb2 hb1.out).1
      have hS2 : Hid (Strs w2 w2.heap.size A1 m1 ls) := Reads.topS (Strs.to hS1 hb2)
      have hps2 : Hid (Strs w2 w2.heap.size Ap _ ps) := Reads.topS (Strs.to hps1.out hb2)
      clear hb2 hS1 hb1 hps1
      go_wp2_with fail
      refine (Check_any rt n i leaf Ap _ cp ps _ hps2.out (by omega) (by omega)).mono ?_
      rw [hck.out]
      rintro e w3 ⟨rfl, hb3⟩
      have q3 := hid_mk (after (w := w) hb3 q2.out).1
      have hS3 : Hid (Strs w3 w3.heap.size A1 m1 ls) := Reads.topS (Strs.to hS2.out hb3)
      have hps3 : Hid (Strs w3 w3.heap.size Ap _ ps) := Reads.topS (Strs.to hps2.out hb3)
      clear hb3 hS2 hps2 q2
      try clear hslw
      rcases hsnd.out with ⟨s1, s2, s3, s4, _⟩ | hcoll
      · obtain ⟨k, rfl⟩ := Int.eq_ofNat_of_zero_le s2
        rw [Int.toNat_natCast] at s4
        have hn : n = (m1 : Int) := by rw [s1, hm1l.out]
        subst hn
        clear s1
        have hkm : k < m1 := by omega
        obtain ⟨b0, o0, l, rfl, hbl, _, hsk, hcell⟩ := hS3.out.at_ hkm
        have hll : l = leaf := by rw [hsk] at s4; injection s4
        subst hll
        replace hsk := hid_mk hsk
        replace s4 := hid_mk s4
        go_wp2
        refine ends_ret hQ (results_tmp rfl _ _ _) rfl ?_
        exact ⟨ret_bool rfl, q3.out⟩
      · replace hcoll := hid_mk hcoll
        by_cases hnm : n = (m1 : Int)
        · subst hnm
          obtain ⟨k, rfl⟩ := Int.eq_ofNat_of_zero_le ha3
          have hkm : k < m1 := by omega
          obtain ⟨b0, o0, l, hA1, hbl, _, hsk, hcell⟩ := hS3.out.at_ hkm
          replace hsk := hid_mk hsk
          have hq1 := str_eq leaf l
          by_cases hll : leaf = l
          · subst hll
            subst hA1
            clear hq1
            go_wp2
            refine ends_ret hQ (results_tmp rfl _ _ _) rfl ?_
            exact ⟨ret_bool rfl, q3.out⟩
          · have hq2 : (leaf.toList == l.toList) = false := by rw [hq1]; simp [hll]
            have hq3 : ¬ leaf.toList = l.toList := fun e => hll (by have h := str_eq leaf l; rw [e] at h; simpa using h.symm)
            clear hq1
            replace hll := hid_mk hll
            subst hA1
            have hbA : Hid (Below w.heap.size w (w3.alloc (.cells #[.slice none 0 0] 25))) := q3.out.alloc q3.out.size _
            have hbB : Hid (Below w.heap.size w ((w3.alloc (.cells #[.slice none 0 0] 25)).alloc (.cells #[.slice none 0 0] 25))) := hbA.out.alloc hbA.out.size _
            have hsz3 := q3.out.size
            have hMa : Hid (MadeIs ((w3.alloc (.cells #[.slice none 0 0] 25)).alloc (.cells #[.slice none 0 0] 25)) w.heap.size w3.heap.size (.slice none 0 0) []) := (made_new w3 w q3.out.size).keep (by go_grown)
            have hMb : Hid (MadeIs ((w3.alloc (.cells #[.slice none 0 0] 25)).alloc (.cells #[.slice none 0 0] 25)) w.heap.size (w3.heap.size + 1) (.slice none 0 0) []) := by
              have h1 := made_new (w3.alloc (.cells #[.slice none 0 0] 25)) w hbA.out.size
              rw [World.size_alloc] at h1
              exact h1
            have hSB : Hid (Strs ((w3.alloc (.cells #[.slice none 0 0] 25)).alloc (.cells #[.slice none 0 0] 25)) w3.heap.size (some ⟨b0, o0, none⟩) m1 ls) := Strs.to hS3.out (by go_grown)
            have hPB : Hid (Strs ((w3.alloc (.cells #[.slice none 0 0] 25)).alloc (.cells #[.slice none 0 0] 25)) w3.heap.size Ap np0 ps) := Strs.to hps3.out (by go_grown)
            have hawA : 0 < m1 → Away (some ⟨b0, o0, none⟩) w3.heap.size (Value.slice none 0 0).ownBlock := fun e => away_old hS3.out e (Nat.le_refl _) (by simp [Value.ownBlock])
            have hawP : 0 < np0 → Away Ap (w3.heap.size + 1) (Value.slice none 0 0).ownBlock := fun e => away_old hps3.out e (by omega) (by simp [Value.ownBlock])
            replace hawA := hid_mk hawA
            replace hawP := hid_mk hawP
            go_wp2_with fail
            refine (MRoot_any hbB.out w3.heap.size (.slice none 0 0) [] hMa.out (some ⟨b0, o0, none⟩) m1 c1 ls hSB.out hawA.out (by omega) hc1 h32.out (by simp)).mono ?_
            rintro e w4 ⟨va, rfl, hMa4, hT4, hm4⟩
            have q4 : Hid (Below w.heap.size w w4) := TwoM.below hT4 hbB.out hbB.out.size hsz3 (fun k hk => by simp [Value.ownBlock] at hk)
            have hMb4 : Hid (MadeIs w4 w.heap.size (w3.heap.size + 1) (.slice none 0 0) []) := hMb.out.other hMa.out (by omega) (fun k hk => by simp [Value.ownBlock] at hk) hT4
            have hP4 : Hid (Strs w4 w4.heap.size Ap np0 ps) := by
              rcases Nat.eq_zero_or_pos np0 with e | e
              · exact ⟨hPB.out.1, fun h => absurd h (by omega)⟩
              · exact Reads.two hPB.out hT4 (away_old hps3.out e (Nat.le_refl _) (by simp [Value.ownBlock]))
            have hs4 : w3.heap.size + 1 < w4.heap.size := hMb4.out.lt
            have hawP4 : 0 < np0 → Away Ap (w3.heap.size + 1) (Value.slice none 0 0).ownBlock := hawP.out
            replace hawP4 := hid_mk hawP4
            rw [List.nil_append] at hMa4
            replace hMa4 := hid_mk hMa4
            clear hT4 hm4 hMa hMb hSB hPB
            go_wp2_with fail
            refine (MShown_any q4.out (w3.heap.size + 1) (.slice none 0 0) [] hMb4.out (m1 : Int) (k : Int) leaf Ap np0 cp ps hP4.out hawP4.out (by omega) (by simp)).mono ?_
            rintro e w5 ⟨vb, hVe, hMb5, hT5, hm5⟩
            have q5 : Hid (Below w.heap.size w w5) := TwoM.below hT5 q4.out q4.out.size (by omega) (fun k hk => by simp [Value.ownBlock] at hk)
            have hMa5 : Hid (MadeIs w5 w.heap.size w3.heap.size va (madeTs ls)) := hMa4.out.other hMb4.out (by omega) (fun k _ => by simp [Value.ownBlock]) hT5
            rw [List.nil_append] at hMb5
            replace hMb5 := hid_mk hMb5
            obtain ⟨Aa, ca, rfl, hca, _⟩ := hMa5.out.2.2.slice
            obtain ⟨Ab, cb, rfl, hcb, _⟩ := hMb5.out.2.2.slice
            have hSa : Hid (Strs w5 w5.heap.size Aa (madeTs ls).length (madeTs ls)) := hMa5.out.2.2.reads
            have hSb : Hid (Strs w5 w5.heap.size Ab (shownTI (m1 : Int) (k : Int) leaf ps).length (shownTI (m1 : Int) (k : Int) leaf ps)) := hMb5.out.2.2.reads
            have ca0 : w5.cell? ⟨w3.heap.size, 0, none⟩ = some (.slice Aa (madeTs ls).length ca) := hMa5.out.2.1.cell 0
            have cb0 : w5.cell? ⟨w3.heap.size + 1, 0, none⟩ = some (.slice Ab (shownTI (m1 : Int) (k : Int) leaf ps).length cb) := hMb5.out.2.1.cell 0
            have hla := hMa5.out.lt
            have hlb := hMb5.out.lt
            have hna := madeTs_len (ls := ls)
            have hnb := shownTI_len (n := (m1 : Int)) (i := (k : Int)) (leaf := leaf) (ps := ps)
            have hza := madeTs_size h32.out
            have hzb := shownTI_size (n := (m1 : Int)) (i := (k : Int)) (leaf := leaf) (ps := ps)
            obtain ⟨TA, hTA⟩ : ∃ T, madeTs ls = T := ⟨_, rfl⟩
            obtain ⟨TB, hTB⟩ : ∃ T, shownTI (m1 : Int) (k : Int) leaf ps = T := ⟨_, rfl⟩
            rw [hTA] at hSa ca0 hna hza
            rw [hTB] at hSb cb0 hnb hzb
            have hcoll2 : Hid (collB TA TB = true) := by rw [Hid, ← hTA, ← hTB]; exact hcoll.out
            obtain ⟨na, hnae⟩ : ∃ n, TA.length = n := ⟨_, rfl⟩
            obtain ⟨nb, hnbe⟩ : ∃ n, TB.length = n := ⟨_, rfl⟩
            rw [hnae] at hSa ca0 hna
            rw [hnbe] at hSb cb0 hnb
            replace hTA := hid_mk hTA
            replace hTB := hid_mk hTB
            replace hnae := hid_mk hnae
            replace hnbe := hid_mk hnbe
            replace hza := hid_mk hza
            replace hzb := hid_mk hzb
            have hnab : na ≤ 8796093022208 := by omega
            have hnbb : nb ≤ 8796093022208 := by omega
            clear hMa5 hMb5 hT5 hm5 hMb4 hMa4 hP4
            try obtain ⟨V, hV⟩ : ∃ V, shownVI (m1 : Int) (k : Int) leaf ps = V := ⟨_, rfl⟩
            try rw [hV] at hVe
            try replace hV := hid_mk hV
            subst hVe
            go_wp2_with fail
            go_still_tail 8, (by kernel_rfl)
            change wpList _ _ _ _ _ w5.drew
            go_wp2_with fail
            refine (Collide_any Aa na ca TA Ab nb cb TB w5.drew hSa.out hSb.out hnab hnbb hza.out hzb.out).mono ?_
            rw [hcoll2.out]
            rintro e w6 ⟨rfl, hb6⟩
            have q6 := (after (w := w) hb6 q5.out.drew).1
            go_wp2
            refine ends_ret hQ (results_tmp rfl _ _ _) rfl ?_
            exact ⟨rfl, q6⟩
        · have hq2 : (n == (m1 : Int)) = false := by simp [hnm]
          have hbA : Hid (Below w.heap.size w (w3.alloc (.cells #[.slice none 0 0] 25))) := q3.out.alloc q3.out.size _
          have hbB : Hid (Below w.heap.size w ((w3.alloc (.cells #[.slice none 0 0] 25)).alloc (.cells #[.slice none 0 0] 25))) := hbA.out.alloc hbA.out.size _
          have hsz3 := q3.out.size
          have hMa : Hid (MadeIs ((w3.alloc (.cells #[.slice none 0 0] 25)).alloc (.cells #[.slice none 0 0] 25)) w.heap.size w3.heap.size (.slice none 0 0) []) := (made_new w3 w q3.out.size).keep (by go_grown)
          have hMb : Hid (MadeIs ((w3.alloc (.cells #[.slice none 0 0] 25)).alloc (.cells #[.slice none 0 0] 25)) w.heap.size (w3.heap.size + 1) (.slice none 0 0) []) := by
            have h1 := made_new (w3.alloc (.cells #[.slice none 0 0] 25)) w hbA.out.size
            rw [World.size_alloc] at h1
            exact h1
          have hSB : Hid (Strs ((w3.alloc (.cells #[.slice none 0 0] 25)).alloc (.cells #[.slice none 0 0] 25)) w3.heap.size A1 m1 ls) := Strs.to hS3.out (by go_grown)
          have hPB : Hid (Strs ((w3.alloc (.cells #[.slice none 0 0] 25)).alloc (.cells #[.slice none 0 0] 25)) w3.heap.size Ap np0 ps) := Strs.to hps3.out (by go_grown)
          have hawA : 0 < m1 → Away A1 w3.heap.size (Value.slice none 0 0).ownBlock := fun e => away_old hS3.out e (Nat.le_refl _) (by simp [Value.ownBlock])
          have hawP : 0 < np0 → Away Ap (w3.heap.size + 1) (Value.slice none 0 0).ownBlock := fun e => away_old hps3.out e (by omega) (by simp [Value.ownBlock])
          replace hawA := hid_mk hawA
          replace hawP := hid_mk hawP
          go_wp2_with fail
          refine (MRoot_any hbB.out w3.heap.size (.slice none 0 0) [] hMa.out A1 m1 c1 ls hSB.out hawA.out (by omega) hc1 h32.out (by simp)).mono ?_
          rintro e w4 ⟨va, rfl, hMa4, hT4, hm4⟩
          have q4 : Hid (Below w.heap.size w w4) := TwoM.below hT4 hbB.out hbB.out.size hsz3 (fun k hk => by simp [Value.ownBlock] at hk)
          have hMb4 : Hid (MadeIs w4 w.heap.size (w3.heap.size + 1) (.slice none 0 0) []) := hMb.out.other hMa.out (by omega) (fun k hk => by simp [Value.ownBlock] at hk) hT4
          have hP4 : Hid (Strs w4 w4.heap.size Ap np0 ps) := by
            rcases Nat.eq_zero_or_pos np0 with e | e
            · exact ⟨hPB.out.1, fun h => absurd h (by omega)⟩
            · exact Reads.two hPB.out hT4 (away_old hps3.out e (Nat.le_refl _) (by simp [Value.ownBlock]))
          have hs4 : w3.heap.size + 1 < w4.heap.size := hMb4.out.lt
          have hawP4 : 0 < np0 → Away Ap (w3.heap.size + 1) (Value.slice none 0 0).ownBlock := hawP.out
          replace hawP4 := hid_mk hawP4
          rw [List.nil_append] at hMa4
          replace hMa4 := hid_mk hMa4
          clear hT4 hm4 hMa hMb hSB hPB
          go_wp2_with fail
          refine (MShown_any q4.out (w3.heap.size + 1) (.slice none 0 0) [] hMb4.out n i leaf Ap np0 cp ps hP4.out hawP4.out (by omega) (by simp)).mono ?_
          rintro e w5 ⟨vb, hVe, hMb5, hT5, hm5⟩
          have q5 : Hid (Below w.heap.size w w5) := TwoM.below hT5 q4.out q4.out.size (by omega) (fun k hk => by simp [Value.ownBlock] at hk)
          have hMa5 : Hid (MadeIs w5 w.heap.size w3.heap.size va (madeTs ls)) := hMa4.out.other hMb4.out (by omega) (fun k _ => by simp [Value.ownBlock]) hT5
          rw [List.nil_append] at hMb5
          replace hMb5 := hid_mk hMb5
          obtain ⟨Aa, ca, rfl, hca, _⟩ := hMa5.out.2.2.slice
          obtain ⟨Ab, cb, rfl, hcb, _⟩ := hMb5.out.2.2.slice
          have hSa : Hid (Strs w5 w5.heap.size Aa (madeTs ls).length (madeTs ls)) := hMa5.out.2.2.reads
          have hSb : Hid (Strs w5 w5.heap.size Ab (shownTI n i leaf ps).length (shownTI n i leaf ps)) := hMb5.out.2.2.reads
          have ca0 : w5.cell? ⟨w3.heap.size, 0, none⟩ = some (.slice Aa (madeTs ls).length ca) := hMa5.out.2.1.cell 0
          have cb0 : w5.cell? ⟨w3.heap.size + 1, 0, none⟩ = some (.slice Ab (shownTI n i leaf ps).length cb) := hMb5.out.2.1.cell 0
          have hla := hMa5.out.lt
          have hlb := hMb5.out.lt
          have hna := madeTs_len (ls := ls)
          have hnb := shownTI_len (n := n) (i := i) (leaf := leaf) (ps := ps)
          have hza := madeTs_size h32.out
          have hzb := shownTI_size (n := n) (i := i) (leaf := leaf) (ps := ps)
          obtain ⟨TA, hTA⟩ : ∃ T, madeTs ls = T := ⟨_, rfl⟩
          obtain ⟨TB, hTB⟩ : ∃ T, shownTI n i leaf ps = T := ⟨_, rfl⟩
          rw [hTA] at hSa ca0 hna hza
          rw [hTB] at hSb cb0 hnb hzb
          have hcoll2 : Hid (collB TA TB = true) := by rw [Hid, ← hTA, ← hTB]; exact hcoll.out
          obtain ⟨na, hnae⟩ : ∃ n, TA.length = n := ⟨_, rfl⟩
          obtain ⟨nb, hnbe⟩ : ∃ n, TB.length = n := ⟨_, rfl⟩
          rw [hnae] at hSa ca0 hna
          rw [hnbe] at hSb cb0 hnb
          replace hTA := hid_mk hTA
          replace hTB := hid_mk hTB
          replace hnae := hid_mk hnae
          replace hnbe := hid_mk hnbe
          replace hza := hid_mk hza
          replace hzb := hid_mk hzb
          have hnab : na ≤ 8796093022208 := by omega
          have hnbb : nb ≤ 8796093022208 := by omega
          clear hMa5 hMb5 hT5 hm5 hMb4 hMa4 hP4
          try obtain ⟨V, hV⟩ : ∃ V, shownVI n i leaf ps = V := ⟨_, rfl⟩
          try rw [hV] at hVe
          try replace hV := hid_mk hV
          subst hVe
          go_wp2_with fail
          go_still_tail 8, (by kernel_rfl)
          change wpList _ _ _ _ _ w5.drew
          go_wp2_with fail
          refine (Collide_any Aa na ca TA Ab nb cb TB w5.drew hSa.out hSb.out hnab hnbb hza.out hzb.out).mono ?_
          rw [hcoll2.out]
          rintro e w6 ⟨rfl, hb6⟩
          have q6 := (after (w := w) hb6 q5.out.drew).1
          go_wp2
          refine ends_ret hQ (results_tmp rfl _ _ _) rfl ?_
          exact ⟨rfl, q6⟩
theorem LawSound_walk {w : World} (a0 : Option Addr) (len0 cap0 : Nat) (ss0 : List ByteArray) (i0 : Strs w w.heap.size a0 len0 ss0) (_lc0 : len0 ≤ cap0) (_hs0 : cap0 * 16 ≤ 140737488351232) (b0 : ∀ s ∈ ss0, s.size ≤ 140737488351232) (a1 : Int) (_lo1 : -9223372036854775808 ≤ a1) (_hi1 : a1 ≤ 9223372036854775807) (a2 : Int) (_lo2 : -9223372036854775808 ≤ a2) (_hi2 : a2 ≤ 9223372036854775807) (s3 : ByteArray) (_hs3 : s3.size ≤ 140737488351232) (a4 : Option Addr) (len4 cap4 : Nat) (ss4 : List ByteArray) (i4 : Strs w w.heap.size a4 len4 ss4) (lc4 : len4 ≤ cap4) (hs4 : cap4 * 16 ≤ 140737488351232) (_b4 : ∀ s ∈ ss4, s.size ≤ 140737488351232) :
    Calls Try.prog 6 #[.slice a0 len0 cap0, .int .i64 a1, .int .i64 a2, .string s3, .slice a4 len4 cap4] w fun e w' => e = .returned (.bool true) ∧ Below w.heap.size w w' := LawSound_any a0 len0 cap0 ss0 a1 a2 s3 a4 len4 cap4 ss4 w i0 b0 i4 lc4 hs4
end Go.Proofs.Ytlnncpilgpafdaa
