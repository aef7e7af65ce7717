/-
  WHAT IS PROVED HERE: what the reference's Slow hands back; the walk of the law DigestRoots. No condition.
-/
import Derived.Test.YtpfjfihfnplhfaaRoot3
namespace Go.Proofs.Ytpfjfihfnplhfaa
open Go.RowKit

theorem grow0 {w w' : World} {size n : Nat} {e : TypeId} {A : Option Addr} {xs : List Value} {row : Option Nat} (h : Reads w 0 e size A n xs) (hg : w.grownBy w' row) (hne : ∀ b o, A = some ⟨b, o, none⟩ → row ≠ some b) : Reads w' 0 e size A n xs := by
  refine ⟨h.1, fun hn => ?_⟩
  obtain ⟨b, o, ea, hlt, ht, hc⟩ := h.2 hn
  have hbk := hg.block b hlt (fun e => hne b o ea e.symm)
  refine ⟨b, o, ea, Nat.lt_of_lt_of_le hlt hg.size, ?_, fun j u hj => ?_⟩
  · rcases ht with ht | ⟨cs, fr, hh⟩
    · omega
    · exact .inr ⟨cs, fr, hbk.trans hh⟩
  · rw [← hc j u hj]
    unfold World.cell?
    simp [hbk]
theorem own_ne_reads {w : World} {B n m size : Nat} {e e' : TypeId} {v : Value} {A : Option Addr} {xs ys : List Value} (h : OwnM w B e v n xs) (hr : Reads w 0 e' size A m ys) (hne : e ≠ e') (hm : 0 < m) : ∀ b o, A = some ⟨b, o, none⟩ → v.ownBlock ≠ some b := by
  intro b o ea he
  obtain ⟨b2, o2, ea2, hlt, ht, hc⟩ := hr.2 hm
  rw [ea] at ea2
  injection ea2 with ea2
  injection ea2 with ea2
  subst ea2
  rcases ht with ht | ⟨cs, fr, hh⟩
  · omega
  · rcases h.2 with ⟨rfl, _⟩ | ⟨g, cap, cur, fz, rfl, _, hg, _⟩
    · simp [Value.ownBlock] at he
    · simp [Value.ownBlock] at he
      subst he
      rw [hh] at hg
      injection hg with hg
      injection hg with _ hg
      exact hne hg.symm
def rk (cube : Bool) (l : List Nat) : List Value := (l.map fun p => (rootP p cube : Int)).map v32
theorem rk_take {l : List Nat} {j p : Nat} (h : l[j]? = some p) (cube : Bool) : rk cube (l.take (j + 1)) = rk cube (l.take j) ++ [v32 (rootP p cube)] := by
  unfold rk
  rw [List.take_add_one, h]
  simp
theorem primes_64c (w : World) : Calls Try.prog 25 #[.int .i64 64] w (fun e w' => ∃ A c, e = .returned (.slice A 64 c) ∧ 64 ≤ c ∧ Reads w' 0 3 1 A 64 (p64.map vnat) ∧ Below w.heap.size w w') := primes_any 64 p64 primes_64 w (by omega)
theorem primes_8c (w : World) : Calls Try.prog 25 #[.int .i64 8] w (fun e w' => ∃ A c, e = .returned (.slice A 8 c) ∧ 8 ≤ c ∧ Reads w' 0 3 1 A 8 (p8.map vnat) ∧ Below w.heap.size w w') := primes_any 8 p8 primes_8 w (by omega)
theorem p64_le : ∀ p ∈ p64, p ≤ 1000 := by decide
theorem p8_le : ∀ p ∈ p8, p ≤ 1000 := by decide
theorem len64 : p64.length = 64 := rfl
theorem len8 : p8.length = 8 := rfl
theorem RSlow_dig (s : ByteArray) (D : ByteArray) (hD : (⟨(digL s.data.toList).toArray⟩ : ByteArray) = D) (w : World) (hs : s.size ≤ 140737488351232) :
    Calls Try.prog 16 #[.string s] w fun e w' => e = .returned (.string D) ∧ Below w.heap.size w w' := by
  obtain ⟨j0, hj0, hjz, hj1, hj2⟩ := info_parts4 u32J
  have own0 : OwnM (w.alloc (.cells #[] 46)) w.heap.size 46 (.slice (some ⟨w.heap.size, 0, none⟩) 0 0) 0 (rk true (p64.take 0)) := (OwnM.of (World.ownsRow_lit (base := w.heap.size) (e := 46) (size := 1) w #[] 0 (Nat.le_refl _) (by unfold maxLen; omega) (by simp)))
  have hb0 : Hid (Below w.heap.size w (w.alloc (.cells #[] 46))) := (Below.refl _ _).alloc (Nat.le_refl _) _
  have h3 := hid_mk roots_3
  have h2 := hid_mk roots_2
  have hpc := primes_64c
  have hpc8 := primes_8c
  have ple := hid_mk p64_le
  have ple8 := hid_mk p8_le
  have hl64 := hid_mk len64
  have hl8 := hid_mk len8
  obtain ⟨P3, hP3⟩ : ∃ l, p64 = l := ⟨_, rfl⟩
  obtain ⟨P2, hP2⟩ : ∃ l, p8 = l := ⟨_, rfl⟩
  rw [hP3] at h3 hpc ple hl64 own0
  rw [hP2] at h2 hpc8 ple8 hl8
  replace hP3 := hid_mk hP3
  replace hP2 := hid_mk hP2
  replace hD := hid_mk hD
  refine calls_of_wpQ Try.func16 rfl ?_
  intro Q hQ
  simp only [Try.ntmps16, List.size_toArray, List.length_cons, List.length_nil, Nat.reduceAdd, Nat.reduceSub, Array.replicate_succ, Array.replicate_zero, List.push_toArray, List.append_toArray, List.nil_append, List.cons_append]
  go_wp2_with fail
  refine (hpc _).mono ?_
  rintro e w1 ⟨A1, c1, rfl, hc1, hr1, hb1⟩
  have q1 := hid_mk (after (w := w) hb1 hb0.out).1
  have own1 := own0.below hb1
  replace hr1 := hid_mk hr1
  clear own0 hb0 hb1 hpc
  go_wp2
  go_loopw [3, 12] (fun o iv wr => ∃ (j co : Nat) (Ao : Option Addr), o = .slice Ao j co ∧ iv = .int .i64 j ∧ j ≤ 64 ∧ j ≤ co ∧ OwnM wr w.heap.size 46 (.slice Ao j co) j (rk true (P3.take j)) ∧ Hid (Reads wr 0 3 1 A1 64 (P3.map vnat)) ∧ Hid (Below w.heap.size w wr)) (fun _ iv _ => 64 - (intOf iv).toNat)
  case atStart => exact ⟨0, 0, _, rfl, rfl, by omega, by omega, own1, hr1, q1⟩
  case round =>
    clear own1 hr1 q1
    obtain ⟨j, co, Ao, rfl, rfl, hj, hjc, hown, hr1, hb⟩ := hrel
    by_cases hlt : j < 64
    · obtain ⟨ba, oa, p, rfl, hba, hsp, hcp⟩ := reads_at hr1.out hlt
      have hp : p ≤ 1000 := ple.out p (List.mem_of_getElem? hsp)
      have htk := rk_take hsp true
      obtain ⟨R, hR⟩ : ∃ R : Int, (rootP p true : Int) = R := ⟨_, rfl⟩
      rw [hR] at htk
      replace hR := hid_mk hR
      replace htk := hid_mk htk
      replace hsp := hid_mk hsp
      go_wp2_with (first | (go_at_call 26; refine (root_any p true 3 rfl _ hp).mono ?_; rw [hR.out]; rintro e w2 ⟨rfl, hb2⟩; have q2 := hid_mk (after (w := w) hb2 hb.out).1; have own2 := hown.below hb2; have hr2 : Hid (Reads w2 0 3 1 (some ⟨ba, oa, none⟩) 64 (P3.map vnat)) := hr1.out.to hb2; clear hb2) | (at_builtin; refine wpl_append_new rfl (.tmp 16) (.tmp 19) 47 rfl 46 j0 _ 4 Try.underlying47 hj0 hjz hj1 hj2 rfl q2.out (.slice Ao j co) j _ rfl own2 ([R].map v32) 1 1 rfl _ rfl (by simp [Act.eval]) (v32_one _) (by omega) (by omega) ?_; intro A5 c5 w5 hown5 hc5 q5 st hs5))
      have hr5 : Hid (Reads w5 0 3 1 (some ⟨ba, oa, none⟩) 64 (P3.map vnat)) := grow0 hr2.out st.grown (own_ne_reads own2 hr2.out (by decide) (by omega))
      have hown6 : OwnM w5 w.heap.size 46 (.slice A5 (j + 1) c5) (j + 1) (rk true (P3.take (j + 1))) := by rw [htk.out]; exact hown5
      go_roundw
      case rel => exact ⟨j + 1, c5, A5, rfl, by go_num, by omega, hc5, hown6, hr5, hid_mk q5⟩
      case measure => simp [intOf]; omega
    · obtain rfl : 64 = j := by omega
      have hK : Hid (Reads wr 0 46 1 Ao 64 (kK.map v32)) := by
        have h1 := hown.reads (B' := 0)
        rw [List.take_of_length_le (by rw [hl64.out]; omega)] at h1
        unfold rk at h1
        rw [h3.out] at h1
        exact h1
      have own8 : OwnM (wr.alloc (.cells #[] 46)) w.heap.size 46 (.slice (some ⟨wr.heap.size, 0, none⟩) 0 0) 0 (rk false (P2.take 0)) := (OwnM.of (World.ownsRow_lit (base := w.heap.size) (e := 46) (size := 1) wr #[] 0 hb.out.size (by unfold maxLen; omega) (by simp)))
      have hb8 : Hid (Below w.heap.size w (wr.alloc (.cells #[] 46))) := hb.out.alloc hb.out.size _
      have hK8 : Hid (Reads (wr.alloc (.cells #[] 46)) 0 46 1 Ao 64 (kK.map v32)) := hK.out.to (by go_grown)
      have hKa : Hid (∀ b o, Ao = some ⟨b, o, none⟩ → b < wr.heap.size) := by
        intro b o e
        obtain ⟨b2, o2, e2, h2, _⟩ := hK.out.2 (by omega)
        rw [e] at e2; injection e2 with e2; injection e2 with e2; omega
      obtain ⟨sz, hsz⟩ : ∃ n, wr.heap.size = n := ⟨_, rfl⟩
      rw [hsz] at hKa
      replace hsz := hid_mk hsz
      clear hown hr1 hK
      go_wp2_with fail
      refine (hpc8 _).mono ?_
      rintro e w3 ⟨A3, c3, rfl, hc3, hr3, hb3⟩
      have q3 := hid_mk (after (w := w) hb3 hb8.out).1
      have own9 := own8.below hb3
      have hK9 : Hid (Reads w3 0 46 1 Ao 64 (kK.map v32)) := hK8.out.to hb3
      have hfr9 : Hid (∀ k, (Value.slice (some ⟨wr.heap.size, 0, none⟩) 0 0).ownBlock = some k → sz ≤ k) := by
        intro k hk
        simp [Value.ownBlock] at hk
        have := hsz.out
        omega
      have hsz9 : Hid (sz ≤ w3.heap.size) := by have h1 := hb3.size; rw [World.size_alloc] at h1; have := hsz.out; rw [Hid]; omega
      replace hr3 := hid_mk hr3
      clear own8 hb8 hb3 hpc8 hK8 hb
      go_wp2
      go_loopw [6, 25] (fun o iv wr => ∃ (j co : Nat) (Ah : Option Addr), o = .slice Ah j co ∧ iv = .int .i64 j ∧ j ≤ 8 ∧ j ≤ co ∧ OwnM wr w.heap.size 46 (.slice Ah j co) j (rk false (P2.take j)) ∧ Hid (∀ k, (Value.slice Ah j co).ownBlock = some k → sz ≤ k) ∧ Hid (sz ≤ wr.heap.size) ∧ Hid (Reads wr 0 3 1 A3 8 (P2.map vnat)) ∧ Hid (Reads wr 0 46 1 Ao 64 (kK.map v32)) ∧ Hid (Below w.heap.size w wr)) (fun _ iv _ => 8 - (intOf iv).toNat)
      case atStart => exact ⟨0, 0, _, rfl, rfl, by omega, by omega, own9, hfr9, hsz9, hr3, hK9, q3⟩
      case round =>
        clear own9 hr3 q3 hK9 hfr9
        obtain ⟨j, co, Ah, rfl, rfl, hj, hjc, hown, hfr, hszw, hr3, hK, hb⟩ := hrel
        by_cases hlt : j < 8
        · obtain ⟨ba, oa, p, rfl, hba, hsp, hcp⟩ := reads_at hr3.out hlt
          have hp : p ≤ 1000 := ple8.out p (List.mem_of_getElem? hsp)
          have htk := rk_take hsp false
          obtain ⟨R, hR⟩ : ∃ R : Int, (rootP p false : Int) = R := ⟨_, rfl⟩
          rw [hR] at htk
          replace hR := hid_mk hR
          replace htk := hid_mk htk
          replace hsp := hid_mk hsp
          go_wp2_with (first | (go_at_call 26; refine (root_any p false 2 rfl _ hp).mono ?_; rw [hR.out]; rintro e w4 ⟨rfl, hb4⟩; have q4 := hid_mk (after (w := w) hb4 hb.out).1; have own4 := hown.below hb4; have hr4 : Hid (Reads w4 0 3 1 (some ⟨ba, oa, none⟩) 8 (P2.map vnat)) := hr3.out.to hb4; have hK4 : Hid (Reads w4 0 46 1 Ao 64 (kK.map v32)) := hK.out.to hb4; have hsz4 : Hid (sz ≤ w4.heap.size) := Nat.le_trans hszw.out hb4.size; clear hb4) | (at_builtin; refine wpl_append_new rfl (.tmp 29) (.tmp 32) 47 rfl 46 j0 _ 4 Try.underlying47 hj0 hjz hj1 hj2 rfl q4.out (.slice Ah j co) j _ rfl own4 ([R].map v32) 1 1 rfl _ rfl (by simp [Act.eval]) (v32_one _) (by omega) (by omega) ?_; intro A5 c5 w5 hown5 hc5 q5 st hs5))
          have hr5 : Hid (Reads w5 0 3 1 (some ⟨ba, oa, none⟩) 8 (P2.map vnat)) := grow0 hr4.out st.grown (own_ne_reads own4 hr4.out (by decide) (by omega))
          have hK5 : Hid (Reads w5 0 46 1 Ao 64 (kK.map v32)) := grow0 hK4.out st.grown (fun b o e he => by have h1 := hfr.out b he; have h2 := hKa.out b o e; omega)
          have hfr5 : Hid (∀ k, (Value.slice A5 (j + 1) c5).ownBlock = some k → sz ≤ k) := by
            intro k hk
            rcases st.at_ with e | ⟨k2, e, h2⟩
            · exact hfr.out k (by rw [← e]; exact hk)
            · rw [e] at hk; injection hk with hk; have := hsz4.out; omega
          have hown6 : OwnM w5 w.heap.size 46 (.slice A5 (j + 1) c5) (j + 1) (rk false (P2.take (j + 1))) := by rw [htk.out]; exact hown5
          have hsz5 : Hid (sz ≤ w5.heap.size) := Nat.le_trans hsz4.out hs5
          go_roundw
          case rel => exact ⟨j + 1, c5, A5, rfl, by go_num, by omega, hc5, hown6, hfr5, hsz5, hr5, hK5, hid_mk q5⟩
          case measure => simp [intOf]; omega
        · obtain rfl : 8 = j := by omega
          have hH : Hid (Reads wr 0 46 1 Ah 8 ((s8L iv8).map v32)) := by
            have h1 := hown.reads (B' := 0)
            rw [List.take_of_length_le (by rw [hl8.out]; omega)] at h1
            unfold rk at h1
            rw [h2.out] at h1
            exact h1
          clear hown
          go_wp2_with fail
          refine (over_dig s D hD.out _ _ _ _ _ hs hH.out hK.out).mono ?_
          rintro e w6 ⟨rfl, hb6⟩
          have q6 := (after (w := w) hb6 hb.out).1
          go_wp2
          refine ends_ret hQ (results_tmp rfl _ _ _) rfl ?_
          exact ⟨rfl, q6⟩
theorem LawRoots_any (s : ByteArray) (w : World) :
    Calls Try.prog 5 #[.string s] w fun e w' => e = .returned (.bool true) ∧ Below w.heap.size w w' := by
  have hts := short_size s 300
  obtain ⟨t, ht⟩ : ∃ t, (if 300 < s.size then s.extract 0 300 else s) = t := ⟨_, rfl⟩
  rw [ht] at hts
  replace ht := hid_mk ht
  obtain ⟨D, hD⟩ : ∃ D : ByteArray, (⟨(digL t.data.toList).toArray⟩ : ByteArray) = D := ⟨_, rfl⟩
  replace hD := hid_mk hD
  refine calls_of_wpQ Try.func5 rfl ?_
  intro Q hQ
  simp only [Try.ntmps5, List.size_toArray, List.length_cons, List.length_nil, Nat.reduceAdd, Nat.reduceSub, Array.replicate_succ, Array.replicate_zero, List.push_toArray, List.append_toArray, List.nil_append, List.cons_append]
  go_wp2_with fail
  refine (short_any s 300 _ (by omega)).mono ?_
  rw [ht.out]
  rintro e w1 ⟨rfl, rfl⟩
  go_wp2_with fail
  refine (Of_any t _ (by omega)).mono ?_
  rw [hD.out]
  rintro e w1 ⟨rfl, hb1⟩
  go_wp2_with fail
  refine (RSlow_dig t D hD.out _ (by omega)).mono ?_
  rintro e w2 ⟨rfl, hb2⟩
  have q2 := (after (w := w) hb2 hb1).1
  go_wp2
  refine ends_ret hQ (results_tmp rfl _ _ _) rfl ?_
  exact ⟨ret_bool (by simp), q2⟩
theorem LawRoots_walk (s0 : ByteArray) {w : World} (_hs0 : s0.size ≤ 140737488351232) :
    Calls Try.prog 5 #[.string s0] w fun e w' => e = .returned (.bool true) ∧ Below w.heap.size w w' := LawRoots_any s0 w
end Go.Proofs.Ytpfjfihfnplhfaa
