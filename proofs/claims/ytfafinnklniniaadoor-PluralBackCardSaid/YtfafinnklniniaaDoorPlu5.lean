/-
  WHAT IS PROVED HERE: what the reader's number does. Condition: the text is of at most 400 bytes.
-/
import Derived.Test.YtfafinnklniniaaDoorPlu4
namespace Go.Proofs.YtfafinnklniniaaDoor
open Go.RowKit

theorem numL_digit (sl : List UInt8) (first : Bool) (n : Int) (a : Nat) (c : UInt8) (l : List UInt8) (hd : 48 ≤ c.toNat ∧ c.toNat ≤ 57) :
    numL sl first n a (c :: l) = if (first = false ∧ n = 0) ∨ 1000000 < 10 * n + ((c.toNat : Int) - 48) then (0, wrongS sl ⟨a, 0⟩) else numL sl false (10 * n + ((c.toNat : Int) - 48)) (a + 1) l := by
  rw [numL, if_pos hd]
theorem numL_other (sl : List UInt8) (first : Bool) (n : Int) (a : Nat) (c : UInt8) (l : List UInt8) (hd : ¬ (48 ≤ c.toNat ∧ c.toNat ≤ 57)) :
    numL sl first n a (c :: l) = if first then (0, wrongS sl ⟨a, 0⟩) else (n, ⟨a, 0⟩) := by
  rw [numL, if_neg hd]
def RetN (w : World) (g : Nat) (s : ByteArray) (R : Int × St) (e : Ending) (w' : World) : Prop := e = .returned (.int .i64 R.1) ∧ w.grownBy w' (some g) ∧ Rdr w' g s R.2
set_option maxRecDepth 100000 in
set_option maxHeartbeats 6400000 in
theorem number_any (s : ByteArray) (st : St) (g : Nat) (w : World) (hs : s.size ≤ 400) (h : Rdr w g s st) :
    Calls Tryd.prog 35 #[.pointer (some ⟨g, 0, none⟩)] w (RetN w g s (numS s.data.toList st)) := by
  obtain ⟨at0, b0⟩ := st
  by_cases hb : b0 = 0
  case neg =>
    have hw : numS s.data.toList ⟨at0, b0⟩ = (0, ⟨at0, b0⟩) := by unfold numS; rw [if_neg hb]
    rw [hw]
    clear hw
    obtain ⟨x0, c0, c1, c2, f1, f2⟩ := h.cells_
    have hbb : (b0 == 0) = false := by simpa using hb
    dsimp only at *
    refine calls_of_wpQ Tryd.func35 rfl ?_
    intro Q hQ
    simp only [Tryd.ntmps35, List.size_toArray, List.length_cons, List.length_nil, Nat.reduceAdd, Nat.reduceSub, Array.replicate_succ, Array.replicate_zero, List.push_toArray, List.append_toArray, List.nil_append, List.cons_append]
    go_wp2
    go_quiet (fail)
    all_goals go_wp2
    all_goals
      go_loopw [3] (fun nv wr => nv = .int .i64 0 ∧ w.grownBy wr (some g) ∧ Rdr wr g s ⟨at0, b0⟩) (fun _ _ => 0)
      case atStart => exact ⟨rfl, gb_drewN (gb_refl _ _) _, h.drewN _⟩
      case round =>
        obtain ⟨rfl, hg, hX⟩ := hrel
        obtain ⟨x0, c0, c1, c2, f1, f2⟩ := hX.cells_
        dsimp only at c1 c2
        go_wp2
        go_quiet (fail)
        all_goals go_wp2_with fail
        all_goals
          refine (wrong_any s ⟨at0, b0⟩ g _ hs (hX.drewN _)).mono ?_
          rintro e w2 ⟨rfl, g2, hX2⟩
          go_wp2
          refine ends_ret hQ (results_tmp rfl _ _ _) rfl ?_
          exact ⟨rfl, gb_trans (gb_drewN hg _) g2, by rw [show wrongS s.data.toList ⟨at0, b0⟩ = ⟨at0, b0⟩ from if_neg hb] at hX2; exact hX2⟩
  subst hb
  obtain ⟨R, hR⟩ : ∃ R, numS s.data.toList ⟨at0, 0⟩ = R := ⟨_, rfl⟩
  have hR0 : Hid (R = numL s.data.toList true 0 at0 (s.data.toList.drop at0)) := by rw [Hid, ← hR]; unfold numS; simp
  rw [hR]
  replace hR := hid_mk hR
  obtain ⟨x0, c0, c1, c2, f1, f2⟩ := h.cells_
  dsimp only at c1 c2
  refine calls_of_wpQ Tryd.func35 rfl ?_
  intro Q hQ
  simp only [Tryd.ntmps35, List.size_toArray, List.length_cons, List.length_nil, Nat.reduceAdd, Nat.reduceSub, Array.replicate_succ, Array.replicate_zero, List.push_toArray, List.append_toArray, List.nil_append, List.cons_append]
  go_wp2
  go_quiet (fail)
  all_goals go_wp2
  all_goals
    clear x0 c0 c1 c2 f1 f2
    go_loopw [3] (fun nv wr => ∃ (n : Int) (a : Nat), nv = .int .i64 n ∧ 0 ≤ n ∧ n ≤ 1000000 ∧ at0 ≤ a ∧ Hid (Rdr wr g s ⟨a, 0⟩) ∧ Hid (R = numL s.data.toList (decide (a = at0)) n a (s.data.toList.drop a)) ∧ Hid (a = at0 → n = 0) ∧ Hid (w.grownBy wr (some g)) ∧ (a ≤ s.size ∨ a = at0)) (fun _ wr => s.size - (match wr.cell? ⟨g, 1, none⟩ with | some (.int _ a) => a.toNat | _ => 0))
    case atStart => exact ⟨0, at0, rfl, Int.le_refl _, by omega, Nat.le_refl _, h.drewN _, (by rw [Hid, hR0.out]; simp), (fun _ => rfl), gb_drewN (gb_refl _ _) _, .inr rfl⟩
    case round =>
      obtain ⟨n, a, rfl, hn0, hn1, hat, hX, hRn, hz, hg, hsz⟩ := hrel
      obtain ⟨x0, c0, c1, c2, f1, f2⟩ := hX.out.cells_
      dsimp only at c1 c2
      by_cases hend : a < s.size
      · have k0 : (0 : Int) ≤ a := by omega
        have k1 : (a : Int) < s.size := by omega
        obtain ⟨c, hc⟩ : ∃ c, s[a] = c := ⟨_, rfl⟩
        have hdr := drop_of_get (byte_at hend)
        rw [hc] at hdr
        have hcn := c.toNat_lt
        by_cases hdg : 48 ≤ c.toNat ∧ c.toNat ≤ 57
        · have hRd : Hid (R = if (decide (a = at0) = false ∧ n = 0) ∨ 1000000 < 10 * n + ((c.toNat : Int) - 48) then (0, wrongS s.data.toList ⟨a, 0⟩) else numL s.data.toList false (10 * n + ((c.toNat : Int) - 48)) (a + 1) (s.data.toList.drop (a + 1))) := by
            rw [Hid, hRn.out, hdr, numL_digit _ _ _ _ _ _ hdg]
          replace hdr := hid_mk hdr
          have wa : IntKind.i64.wrap ((a : Int) + 1) = (a : Int) + 1 := IntWalk.i64_in _ (by omega)
          obtain ⟨D, hD⟩ : ∃ D : Int, (c.toNat : Int) - 48 = D := ⟨_, rfl⟩
          have hD0 : 0 ≤ D ∧ D ≤ 9 := by omega
          have u1 : IntKind.u8.wrap ((c.toNat : Int) - 48) = D := by rw [hD]; exact IntWalk.u8_in _ (by omega)
          have u2 : IntKind.i64.wrap D = D := IntWalk.i64_in _ (by omega)
          have u3 : IntKind.i64.wrap (10 * n) = 10 * n := IntWalk.i64_in _ (by omega)
          have u4 : IntKind.i64.wrap (10 * n + D) = 10 * n + D := IntWalk.i64_in _ (by omega)
          rw [hD] at hRd
          by_cases hlead : decide (a = at0) = false ∧ n = 0
          · have hRw : Hid (R = (0, wrongS s.data.toList ⟨a, 0⟩)) := by rw [Hid, hRd.out, if_pos (.inl hlead)]
            have l1 : (at0 : Int) < a := by have := hlead.1; simp at this; omega
            obtain ⟨_, rfl⟩ := hlead
            rcases (by omega : c.toNat = 48 ∨ c.toNat = 49 ∨ c.toNat = 50 ∨ c.toNat = 51 ∨ c.toNat = 52 ∨ c.toNat = 53 ∨ c.toNat = 54 ∨ c.toNat = 55 ∨ c.toNat = 56 ∨ c.toNat = 57) with hv | hv | hv | hv | hv | hv | hv | hv | hv | hv
            · have hv0 := hv
              have e48 : ((c.toNat : Int) == 48) = true := by simp; omega
              replace hv := hid_mk hv
              clear hv0
              clear hdg; try clear hlead
              replace hD := hid_mk hD
              go_wp2
              go_quiet (fail)
              all_goals go_wp2
              all_goals go_quiet (fail)
              all_goals go_wp2_with fail
              all_goals
                refine (wrong_any s ⟨a, 0⟩ g _ hs (hX.out.drewN _)).mono ?_
                rintro e w2 ⟨rfl, g2, hX2⟩
                go_wp2
                refine ends_ret hQ (results_tmp rfl _ _ _) rfl ?_
                exact ⟨by rw [hRw.out]; rfl, gb_trans (gb_drewN hg.out _) g2, by rw [hRw.out]; exact hX2⟩
            · have hv0 := hv
              have e48 : ((c.toNat : Int) == 48) = false := by simp; omega
              have e49 : ((c.toNat : Int) == 49) = true := by simp; omega
              replace hv := hid_mk hv
              clear hv0
              clear hdg; try clear hlead
              replace hD := hid_mk hD
              go_wp2
              go_quiet (fail)
              all_goals go_wp2
              all_goals go_quiet (fail)
              all_goals go_wp2_with fail
              all_goals
                refine (wrong_any s ⟨a, 0⟩ g _ hs (hX.out.drewN _)).mono ?_
                rintro e w2 ⟨rfl, g2, hX2⟩
                go_wp2
                refine ends_ret hQ (results_tmp rfl _ _ _) rfl ?_
                exact ⟨by rw [hRw.out]; rfl, gb_trans (gb_drewN hg.out _) g2, by rw [hRw.out]; exact hX2⟩
            · have hv0 := hv
              have e48 : ((c.toNat : Int) == 48) = false := by simp; omega
              have e49 : ((c.toNat : Int) == 49) = false := by simp; omega
              have e50 : ((c.toNat : Int) == 50) = true := by simp; omega
              replace hv := hid_mk hv
              clear hv0
              clear hdg; try clear hlead
              replace hD := hid_mk hD
              go_wp2
              go_quiet (fail)
              all_goals go_wp2
              all_goals go_quiet (fail)
              all_goals go_wp2_with fail
              all_goals
                refine (wrong_any s ⟨a, 0⟩ g _ hs (hX.out.drewN _)).mono ?_
                rintro e w2 ⟨rfl, g2, hX2⟩
                go_wp2
                refine ends_ret hQ (results_tmp rfl _ _ _) rfl ?_
                exact ⟨by rw [hRw.out]; rfl, gb_trans (gb_drewN hg.out _) g2, by rw [hRw.out]; exact hX2⟩
            · have hv0 := hv
              have e48 : ((c.toNat : Int) == 48) = false := by simp; omega
              have e49 : ((c.toNat : Int) == 49) = false := by simp; omega
              have e50 : ((c.toNat : Int) == 50) = false := by simp; omega
              have e51 : ((c.toNat : Int) == 51) = true := by simp; omega
              replace hv := hid_mk hv
              clear hv0
              clear hdg; try clear hlead
              replace hD := hid_mk hD
              go_wp2
              go_quiet (fail)
              all_goals go_wp2
              all_goals go_quiet (fail)
              all_goals go_wp2_with fail
              all_goals
                refine (wrong_any s ⟨a, 0⟩ g _ hs (hX.out.drewN _)).mono ?_
                rintro e w2 ⟨rfl, g2, hX2⟩
                go_wp2
                refine ends_ret hQ (results_tmp rfl _ _ _) rfl ?_
                exact ⟨by rw [hRw.out]; rfl, gb_trans (gb_drewN hg.out _) g2, by rw [hRw.out]; exact hX2⟩
            · have hv0 := hv
              have e48 : ((c.toNat : Int) == 48) = false := by simp; omega
              have e49 : ((c.toNat : Int) == 49) = false := by simp; omega
              have e50 : ((c.toNat : Int) == 50) = false := by simp; omega
              have e51 : ((c.toNat : Int) == 51) = false := by simp; omega
              have e52 : ((c.toNat : Int) == 52) = true := by simp; omega
              replace hv := hid_mk hv
              clear hv0
              clear hdg; try clear hlead
              replace hD := hid_mk hD
              go_wp2
              go_quiet (fail)
              all_goals go_wp2
              all_goals go_quiet (fail)
              all_goals go_wp2_with fail
              all_goals
                refine (wrong_any s ⟨a, 0⟩ g _ hs (hX.out.drewN _)).mono ?_
                rintro e w2 ⟨rfl, g2, hX2⟩
                go_wp2
                refine ends_ret hQ (results_tmp rfl _ _ _) rfl ?_
                exact ⟨by rw [hRw.out]; rfl, gb_trans (gb_drewN hg.out _) g2, by rw [hRw.out]; exact hX2⟩
            · have hv0 := hv
              have e48 : ((c.toNat : Int) == 48) = false := by simp; omega
              have e49 : ((c.toNat : Int) == 49) = false := by simp; omega
              have e50 : ((c.toNat : Int) == 50) = false := by simp; omega
              have e51 : ((c.toNat : Int) == 51) = false := by simp; omega
              have e52 : ((c.toNat : Int) == 52) = false := by simp; omega
              have e53 : ((c.toNat : Int) == 53) = true := by simp; omega
              replace hv := hid_mk hv
              clear hv0
              clear hdg; try clear hlead
              replace hD := hid_mk hD
              go_wp2
              go_quiet (fail)
              all_goals go_wp2
              all_goals go_quiet (fail)
              all_goals go_wp2_with fail
              all_goals
                refine (wrong_any s ⟨a, 0⟩ g _ hs (hX.out.drewN _)).mono ?_
                rintro e w2 ⟨rfl, g2, hX2⟩
                go_wp2
                refine ends_ret hQ (results_tmp rfl _ _ _) rfl ?_
                exact ⟨by rw [hRw.out]; rfl, gb_trans (gb_drewN hg.out _) g2, by rw [hRw.out]; exact hX2⟩
            · have hv0 := hv
              have e48 : ((c.toNat : Int) == 48) = false := by simp; omega
              have e49 : ((c.toNat : Int) == 49) = false := by simp; omega
              have e50 : ((c.toNat : Int) == 50) = false := by simp; omega
              have e51 : ((c.toNat : Int) == 51) = false := by simp; omega
              have e52 : ((c.toNat : Int) == 52) = false := by simp; omega
              have e53 : ((c.toNat : Int) == 53) = false := by simp; omega
              have e54 : ((c.toNat : Int) == 54) = true := by simp; omega
              replace hv := hid_mk hv
              clear hv0
              clear hdg; try clear hlead
              replace hD := hid_mk hD
              go_wp2
              go_quiet (fail)
              all_goals go_wp2
              all_goals go_quiet (fail)
              all_goals go_wp2_with fail
              all_goals
                refine (wrong_any s ⟨a, 0⟩ g _ hs (hX.out.drewN _)).mono ?_
                rintro e w2 ⟨rfl, g2, hX2⟩
                go_wp2
                refine ends_ret hQ (results_tmp rfl _ _ _) rfl ?_
                exact ⟨by rw [hRw.out]; rfl, gb_trans (gb_drewN hg.out _) g2, by rw [hRw.out]; exact hX2⟩
            · have hv0 := hv
              have e48 : ((c.toNat : Int) == 48) = false := by simp; omega
              have e49 : ((c.toNat : Int) == 49) = false := by simp; omega
              have e50 : ((c.toNat : Int) == 50) = false := by simp; omega
              have e51 : ((c.toNat : Int) == 51) = false := by simp; omega
              have e52 : ((c.toNat : Int) == 52) = false := by simp; omega
              have e53 : ((c.toNat : Int) == 53) = false := by simp; omega
              have e54 : ((c.toNat : Int) == 54) = false := by simp; omega
              have e55 : ((c.toNat : Int) == 55) = true := by simp; omega
              replace hv := hid_mk hv
              clear hv0
              clear hdg; try clear hlead
              replace hD := hid_mk hD
              go_wp2
              go_quiet (fail)
              all_goals go_wp2
              all_goals go_quiet (fail)
              all_goals go_wp2_with fail
              all_goals
                refine (wrong_any s ⟨a, 0⟩ g _ hs (hX.out.drewN _)).mono ?_
                rintro e w2 ⟨rfl, g2, hX2⟩
                go_wp2
                refine ends_ret hQ (results_tmp rfl _ _ _) rfl ?_
                exact ⟨by rw [hRw.out]; rfl, gb_trans (gb_drewN hg.out _) g2, by rw [hRw.out]; exact hX2⟩
            · have hv0 := hv
              have e48 : ((c.toNat : Int) == 48) = false := by simp; omega
              have e49 : ((c.toNat : Int) == 49) = false := by simp; omega
              have e50 : ((c.toNat : Int) == 50) = false := by simp; omega
              have e51 : ((c.toNat : Int) == 51) = false := by simp; omega
              have e52 : ((c.toNat : Int) == 52) = false := by simp; omega
              have e53 : ((c.toNat : Int) == 53) = false := by simp; omega
              have e54 : ((c.toNat : Int) == 54) = false := by simp; omega
              have e55 : ((c.toNat : Int) == 55) = false := by simp; omega
              have e56 : ((c.toNat : Int) == 56) = true := by simp; omega
              replace hv := hid_mk hv
              clear hv0
              clear hdg; try clear hlead
              replace hD := hid_mk hD
              go_wp2
              go_quiet (fail)
              all_goals go_wp2
              all_goals go_quiet (fail)
              all_goals go_wp2_with fail
              all_goals
                refine (wrong_any s ⟨a, 0⟩ g _ hs (hX.out.drewN _)).mono ?_
                rintro e w2 ⟨rfl, g2, hX2⟩
                go_wp2
                refine ends_ret hQ (results_tmp rfl _ _ _) rfl ?_
                exact ⟨by rw [hRw.out]; rfl, gb_trans (gb_drewN hg.out _) g2, by rw [hRw.out]; exact hX2⟩
            · have hv0 := hv
              have e48 : ((c.toNat : Int) == 48) = false := by simp; omega
              have e49 : ((c.toNat : Int) == 49) = false := by simp; omega
              have e50 : ((c.toNat : Int) == 50) = false := by simp; omega
              have e51 : ((c.toNat : Int) == 51) = false := by simp; omega
              have e52 : ((c.toNat : Int) == 52) = false := by simp; omega
              have e53 : ((c.toNat : Int) == 53) = false := by simp; omega
              have e54 : ((c.toNat : Int) == 54) = false := by simp; omega
              have e55 : ((c.toNat : Int) == 55) = false := by simp; omega
              have e56 : ((c.toNat : Int) == 56) = false := by simp; omega
              have e57 : ((c.toNat : Int) == 57) = true := by simp; omega
              replace hv := hid_mk hv
              clear hv0
              clear hdg; try clear hlead
              replace hD := hid_mk hD
              go_wp2
              go_quiet (fail)
              all_goals go_wp2
              all_goals go_quiet (fail)
              all_goals go_wp2_with fail
              all_goals
                refine (wrong_any s ⟨a, 0⟩ g _ hs (hX.out.drewN _)).mono ?_
                rintro e w2 ⟨rfl, g2, hX2⟩
                go_wp2
                refine ends_ret hQ (results_tmp rfl _ _ _) rfl ?_
                exact ⟨by rw [hRw.out]; rfl, gb_trans (gb_drewN hg.out _) g2, by rw [hRw.out]; exact hX2⟩
          by_cases hfirst : a = at0
          · subst hfirst
            have hnz : n = 0 := hz.out rfl
            subst hnz
            have l1 : ¬ (a : Int) < a := by omega
            have hbig : ¬ 1000000 < 10 * (0 : Int) + D := by omega
            have hRm : Hid (R = numL s.data.toList false (10 * (0 : Int) + D) (a + 1) (s.data.toList.drop (a + 1))) := by rw [Hid, hRd.out, if_neg (by rintro (h1 | h1); exact absurd h1.1 (by simp); omega)]
            have hRm2 : Hid (R = numL s.data.toList (decide (a + 1 = a)) (10 * (0 : Int) + D) (a + 1) (s.data.toList.drop (a + 1))) := by rw [Hid, hRm.out, decide_eq_false (by omega : ¬ a + 1 = a)]
            have kb : ¬ 1000000 < 10 * (0 : Int) + D := hbig
            have kb2 : 10 * (0 : Int) + D ≤ 1000000 := by omega
            rcases (by omega : c.toNat = 48 ∨ c.toNat = 49 ∨ c.toNat = 50 ∨ c.toNat = 51 ∨ c.toNat = 52 ∨ c.toNat = 53 ∨ c.toNat = 54 ∨ c.toNat = 55 ∨ c.toNat = 56 ∨ c.toNat = 57) with hv | hv | hv | hv | hv | hv | hv | hv | hv | hv
            · have hv0 := hv
              have e48 : ((c.toNat : Int) == 48) = true := by simp; omega
              replace hv := hid_mk hv
              clear hv0
              clear hdg; try clear hlead
              replace hD := hid_mk hD
              go_wp2
              go_quiet (fail)
              all_goals go_wp2
              all_goals (try go_quiet (fail))
              all_goals (try go_wp2)
              all_goals
                go_roundw
                case rel => exact ⟨10 * (0 : Int) + D, a + 1, by first | rfl | (have h1 := hD.out; congr 1; omega), by omega, kb2, by omega, (hX.out.drewN _).next, hRm2, (fun e => absurd e (by omega)), gb_trans (gb_drewN hg.out _) (gb_set _ g 1 _), .inl (by omega)⟩
                case measure => first | (simp [World.cell?_setCell_same', c1]; exact Nat.sub_lt_sub_left hend (Nat.lt_succ_self a)) | (simp [World.cell?_setCell_same', c1]; done) | (simp [World.cell?_setCell_same', c1]; omega)
            · have hv0 := hv
              have e48 : ((c.toNat : Int) == 48) = false := by simp; omega
              have e49 : ((c.toNat : Int) == 49) = true := by simp; omega
              replace hv := hid_mk hv
              clear hv0
              clear hdg; try clear hlead
              replace hD := hid_mk hD
              go_wp2
              go_quiet (fail)
              all_goals go_wp2
              all_goals (try go_quiet (fail))
              all_goals (try go_wp2)
              all_goals
                go_roundw
                case rel => exact ⟨10 * (0 : Int) + D, a + 1, by first | rfl | (have h1 := hD.out; congr 1; omega), by omega, kb2, by omega, (hX.out.drewN _).next, hRm2, (fun e => absurd e (by omega)), gb_trans (gb_drewN hg.out _) (gb_set _ g 1 _), .inl (by omega)⟩
                case measure => first | (simp [World.cell?_setCell_same', c1]; exact Nat.sub_lt_sub_left hend (Nat.lt_succ_self a)) | (simp [World.cell?_setCell_same', c1]; done) | (simp [World.cell?_setCell_same', c1]; omega)
            · have hv0 := hv
              have e48 : ((c.toNat : Int) == 48) = false := by simp; omega
              have e49 : ((c.toNat : Int) == 49) = false := by simp; omega
              have e50 : ((c.toNat : Int) == 50) = true := by simp; omega
              replace hv := hid_mk hv
              clear hv0
              clear hdg; try clear hlead
              replace hD := hid_mk hD
              go_wp2
              go_quiet (fail)
              all_goals go_wp2
              all_goals (try go_quiet (fail))
              all_goals (try go_wp2)
              all_goals
                go_roundw
                case rel => exact ⟨10 * (0 : Int) + D, a + 1, by first | rfl | (have h1 := hD.out; congr 1; omega), by omega, kb2, by omega, (hX.out.drewN _).next, hRm2, (fun e => absurd e (by omega)), gb_trans (gb_drewN hg.out _) (gb_set _ g 1 _), .inl (by omega)⟩
                case measure => first | (simp [World.cell?_setCell_same', c1]; exact Nat.sub_lt_sub_left hend (Nat.lt_succ_self a)) | (simp [World.cell?_setCell_same', c1]; done) | (simp [World.cell?_setCell_same', c1]; omega)
            · have hv0 := hv
              have e48 : ((c.toNat : Int) == 48) = false := by simp; omega
              have e49 : ((c.toNat : Int) == 49) = false := by simp; omega
              have e50 : ((c.toNat : Int) == 50) = false := by simp; omega
              have e51 : ((c.toNat : Int) == 51) = true := by simp; omega
              replace hv := hid_mk hv
              clear hv0
              clear hdg; try clear hlead
              replace hD := hid_mk hD
              go_wp2
              go_quiet (fail)
              all_goals go_wp2
              all_goals (try go_quiet (fail))
              all_goals (try go_wp2)
              all_goals
                go_roundw
                case rel => exact ⟨10 * (0 : Int) + D, a + 1, by first | rfl | (have h1 := hD.out; congr 1; omega), by omega, kb2, by omega, (hX.out.drewN _).next, hRm2, (fun e => absurd e (by omega)), gb_trans (gb_drewN hg.out _) (gb_set _ g 1 _), .inl (by omega)⟩
                case measure => first | (simp [World.cell?_setCell_same', c1]; exact Nat.sub_lt_sub_left hend (Nat.lt_succ_self a)) | (simp [World.cell?_setCell_same', c1]; done) | (simp [World.cell?_setCell_same', c1]; omega)
            · have hv0 := hv
              have e48 : ((c.toNat : Int) == 48) = false := by simp; omega
              have e49 : ((c.toNat : Int) == 49) = false := by simp; omega
              have e50 : ((c.toNat : Int) == 50) = false := by simp; omega
              have e51 : ((c.toNat : Int) == 51) = false := by simp; omega
              have e52 : ((c.toNat : Int) == 52) = true := by simp; omega
              replace hv := hid_mk hv
              clear hv0
              clear hdg; try clear hlead
              replace hD := hid_mk hD
              go_wp2
              go_quiet (fail)
              all_goals go_wp2
              all_goals (try go_quiet (fail))
              all_goals (try go_wp2)
              all_goals
                go_roundw
                case rel => exact ⟨10 * (0 : Int) + D, a + 1, by first | rfl | (have h1 := hD.out; congr 1; omega), by omega, kb2, by omega, (hX.out.drewN _).next, hRm2, (fun e => absurd e (by omega)), gb_trans (gb_drewN hg.out _) (gb_set _ g 1 _), .inl (by omega)⟩
                case measure => first | (simp [World.cell?_setCell_same', c1]; exact Nat.sub_lt_sub_left hend (Nat.lt_succ_self a)) | (simp [World.cell?_setCell_same', c1]; done) | (simp [World.cell?_setCell_same', c1]; omega)
            · have hv0 := hv
              have e48 : ((c.toNat : Int) == 48) = false := by simp; omega
              have e49 : ((c.toNat : Int) == 49) = false := by simp; omega
              have e50 : ((c.toNat : Int) == 50) = false := by simp; omega
              have e51 : ((c.toNat : Int) == 51) = false := by simp; omega
              have e52 : ((c.toNat : Int) == 52) = false := by simp; omega
              have e53 : ((c.toNat : Int) == 53) = true := by simp; omega
              replace hv := hid_mk hv
              clear hv0
              clear hdg; try clear hlead
              replace hD := hid_mk hD
              go_wp2
              go_quiet (fail)
              all_goals go_wp2
              all_goals (try go_quiet (fail))
              all_goals (try go_wp2)
              all_goals
                go_roundw
                case rel => exact ⟨10 * (0 : Int) + D, a + 1, by first | rfl | (have h1 := hD.out; congr 1; omega), by omega, kb2, by omega, (hX.out.drewN _).next, hRm2, (fun e => absurd e (by omega)), gb_trans (gb_drewN hg.out _) (gb_set _ g 1 _), .inl (by omega)⟩
                case measure => first | (simp [World.cell?_setCell_same', c1]; exact Nat.sub_lt_sub_left hend (Nat.lt_succ_self a)) | (simp [World.cell?_setCell_same', c1]; done) | (simp [World.cell?_setCell_same', c1]; omega)
            · have hv0 := hv
              have e48 : ((c.toNat : Int) == 48) = false := by simp; omega
              have e49 : ((c.toNat : Int) == 49) = false := by simp; omega
              have e50 : ((c.toNat : Int) == 50) = false := by simp; omega
              have e51 : ((c.toNat : Int) == 51) = false := by simp; omega
              have e52 : ((c.toNat : Int) == 52) = false := by simp; omega
              have e53 : ((c.toNat : Int) == 53) = false := by simp; omega
              have e54 : ((c.toNat : Int) == 54) = true := by simp; omega
              replace hv := hid_mk hv
              clear hv0
              clear hdg; try clear hlead
              replace hD := hid_mk hD
              go_wp2
              go_quiet (fail)
              all_goals go_wp2
              all_goals (try go_quiet (fail))
              all_goals (try go_wp2)
              all_goals
                go_roundw
                case rel => exact ⟨10 * (0 : Int) + D, a + 1, by first | rfl | (have h1 := hD.out; congr 1; omega), by omega, kb2, by omega, (hX.out.drewN _).next, hRm2, (fun e => absurd e (by omega)), gb_trans (gb_drewN hg.out _) (gb_set _ g 1 _), .inl (by omega)⟩
                case measure => first | (simp [World.cell?_setCell_same', c1]; exact Nat.sub_lt_sub_left hend (Nat.lt_succ_self a)) | (simp [World.cell?_setCell_same', c1]; done) | (simp [World.cell?_setCell_same', c1]; omega)
            · have hv0 := hv
              have e48 : ((c.toNat : Int) == 48) = false := by simp; omega
              have e49 : ((c.toNat : Int) == 49) = false := by simp; omega
              have e50 : ((c.toNat : Int) == 50) = false := by simp; omega
              have e51 : ((c.toNat : Int) == 51) = false := by simp; omega
              have e52 : ((c.toNat : Int) == 52) = false := by simp; omega
              have e53 : ((c.toNat : Int) == 53) = false := by simp; omega
              have e54 : ((c.toNat : Int) == 54) = false := by simp; omega
              have e55 : ((c.toNat : Int) == 55) = true := by simp; omega
              replace hv := hid_mk hv
              clear hv0
              clear hdg; try clear hlead
              replace hD := hid_mk hD
              go_wp2
              go_quiet (fail)
              all_goals go_wp2
              all_goals (try go_quiet (fail))
              all_goals (try go_wp2)
              all_goals
                go_roundw
                case rel => exact ⟨10 * (0 : Int) + D, a + 1, by first | rfl | (have h1 := hD.out; congr 1; omega), by omega, kb2, by omega, (hX.out.drewN _).next, hRm2, (fun e => absurd e (by omega)), gb_trans (gb_drewN hg.out _) (gb_set _ g 1 _), .inl (by omega)⟩
                case measure => first | (simp [World.cell?_setCell_same', c1]; exact Nat.sub_lt_sub_left hend (Nat.lt_succ_self a)) | (simp [World.cell?_setCell_same', c1]; done) | (simp [World.cell?_setCell_same', c1]; omega)
            · have hv0 := hv
              have e48 : ((c.toNat : Int) == 48) = false := by simp; omega
              have e49 : ((c.toNat : Int) == 49) = false := by simp; omega
              have e50 : ((c.toNat : Int) == 50) = false := by simp; omega
              have e51 : ((c.toNat : Int) == 51) = false := by simp; omega
              have e52 : ((c.toNat : Int) == 52) = false := by simp; omega
              have e53 : ((c.toNat : Int) == 53) = false := by simp; omega
              have e54 : ((c.toNat : Int) == 54) = false := by simp; omega
              have e55 : ((c.toNat : Int) == 55) = false := by simp; omega
              have e56 : ((c.toNat : Int) == 56) = true := by simp; omega
              replace hv := hid_mk hv
              clear hv0
              clear hdg; try clear hlead
              replace hD := hid_mk hD
              go_wp2
              go_quiet (fail)
              all_goals go_wp2
              all_goals (try go_quiet (fail))
              all_goals (try go_wp2)
              all_goals
                go_roundw
                case rel => exact ⟨10 * (0 : Int) + D, a + 1, by first | rfl | (have h1 := hD.out; congr 1; omega), by omega, kb2, by omega, (hX.out.drewN _).next, hRm2, (fun e => absurd e (by omega)), gb_trans (gb_drewN hg.out _) (gb_set _ g 1 _), .inl (by omega)⟩
                case measure => first | (simp [World.cell?_setCell_same', c1]; exact Nat.sub_lt_sub_left hend (Nat.lt_succ_self a)) | (simp [World.cell?_setCell_same', c1]; done) | (simp [World.cell?_setCell_same', c1]; omega)
            · have hv0 := hv
              have e48 : ((c.toNat : Int) == 48) = false := by simp; omega
              have e49 : ((c.toNat : Int) == 49) = false := by simp; omega
              have e50 : ((c.toNat : Int) == 50) = false := by simp; omega
              have e51 : ((c.toNat : Int) == 51) = false := by simp; omega
              have e52 : ((c.toNat : Int) == 52) = false := by simp; omega
              have e53 : ((c.toNat : Int) == 53) = false := by simp; omega
              have e54 : ((c.toNat : Int) == 54) = false := by simp; omega
              have e55 : ((c.toNat : Int) == 55) = false := by simp; omega
              have e56 : ((c.toNat : Int) == 56) = false := by simp; omega
              have e57 : ((c.toNat : Int) == 57) = true := by simp; omega
              replace hv := hid_mk hv
              clear hv0
              clear hdg; try clear hlead
              replace hD := hid_mk hD
              go_wp2
              go_quiet (fail)
              all_goals go_wp2
              all_goals (try go_quiet (fail))
              all_goals (try go_wp2)
              all_goals
                go_roundw
                case rel => exact ⟨10 * (0 : Int) + D, a + 1, by first | rfl | (have h1 := hD.out; congr 1; omega), by omega, kb2, by omega, (hX.out.drewN _).next, hRm2, (fun e => absurd e (by omega)), gb_trans (gb_drewN hg.out _) (gb_set _ g 1 _), .inl (by omega)⟩
                case measure => first | (simp [World.cell?_setCell_same', c1]; exact Nat.sub_lt_sub_left hend (Nat.lt_succ_self a)) | (simp [World.cell?_setCell_same', c1]; done) | (simp [World.cell?_setCell_same', c1]; omega)
          · have l1 : (at0 : Int) < a := by omega
            have hn9 : ¬ n = 0 := fun e => hlead ⟨decide_eq_false hfirst, e⟩
            have hn9b : (n == 0) = false := by simpa using hn9
            by_cases hbig : 1000000 < 10 * n + D
            · have hRw : Hid (R = (0, wrongS s.data.toList ⟨a, 0⟩)) := by rw [Hid, hRd.out, if_pos (.inr hbig)]
              rcases (by omega : c.toNat = 48 ∨ c.toNat = 49 ∨ c.toNat = 50 ∨ c.toNat = 51 ∨ c.toNat = 52 ∨ c.toNat = 53 ∨ c.toNat = 54 ∨ c.toNat = 55 ∨ c.toNat = 56 ∨ c.toNat = 57) with hv | hv | hv | hv | hv | hv | hv | hv | hv | hv
              · have hv0 := hv
                have e48 : ((c.toNat : Int) == 48) = true := by simp; omega
                replace hv := hid_mk hv
                clear hv0
                clear hdg; try clear hlead
                replace hD := hid_mk hD
                go_wp2
                go_quiet (fail)
                all_goals go_wp2_with fail
                all_goals (try go_quiet (fail))
                all_goals (try go_wp2_with fail)
                all_goals
                  refine (wrong_any s ⟨a, 0⟩ g _ hs (hX.out.drewN _)).mono ?_
                  rintro e w2 ⟨rfl, g2, hX2⟩
                  go_wp2
                  refine ends_ret hQ (results_tmp rfl _ _ _) rfl ?_
                  exact ⟨by rw [hRw.out]; rfl, gb_trans (gb_drewN hg.out _) g2, by rw [hRw.out]; exact hX2⟩
              · have hv0 := hv
                have e48 : ((c.toNat : Int) == 48) = false := by simp; omega
                have e49 : ((c.toNat : Int) == 49) = true := by simp; omega
                replace hv := hid_mk hv
                clear hv0
                clear hdg; try clear hlead
                replace hD := hid_mk hD
                go_wp2
                go_quiet (fail)
                all_goals go_wp2_with fail
                all_goals (try go_quiet (fail))
                all_goals (try go_wp2_with fail)
                all_goals
                  refine (wrong_any s ⟨a, 0⟩ g _ hs (hX.out.drewN _)).mono ?_
                  rintro e w2 ⟨rfl, g2, hX2⟩
                  go_wp2
                  refine ends_ret hQ (results_tmp rfl _ _ _) rfl ?_
                  exact ⟨by rw [hRw.out]; rfl, gb_trans (gb_drewN hg.out _) g2, by rw [hRw.out]; exact hX2⟩
              · have hv0 := hv
                have e48 : ((c.toNat : Int) == 48) = false := by simp; omega
                have e49 : ((c.toNat : Int) == 49) = false := by simp; omega
                have e50 : ((c.toNat : Int) == 50) = true := by simp; omega
                replace hv := hid_mk hv
                clear hv0
                clear hdg; try clear hlead
                replace hD := hid_mk hD
                go_wp2
                go_quiet (fail)
                all_goals go_wp2_with fail
                all_goals (try go_quiet (fail))
                all_goals (try go_wp2_with fail)
                all_goals
                  refine (wrong_any s ⟨a, 0⟩ g _ hs (hX.out.drewN _)).mono ?_
                  rintro e w2 ⟨rfl, g2, hX2⟩
                  go_wp2
                  refine ends_ret hQ (results_tmp rfl _ _ _) rfl ?_
                  exact ⟨by rw [hRw.out]; rfl, gb_trans (gb_drewN hg.out _) g2, by rw [hRw.out]; exact hX2⟩
              · have hv0 := hv
                have e48 : ((c.toNat : Int) == 48) = false := by simp; omega
                have e49 : ((c.toNat : Int) == 49) = false := by simp; omega
                have e50 : ((c.toNat : Int) == 50) = false := by simp; omega
                have e51 : ((c.toNat : Int) == 51) = true := by simp; omega
                replace hv := hid_mk hv
                clear hv0
                clear hdg; try clear hlead
                replace hD := hid_mk hD
                go_wp2
                go_quiet (fail)
                all_goals go_wp2_with fail
                all_goals (try go_quiet (fail))
                all_goals (try go_wp2_with fail)
                all_goals
                  refine (wrong_any s ⟨a, 0⟩ g _ hs (hX.out.drewN _)).mono ?_
                  rintro e w2 ⟨rfl, g2, hX2⟩
                  go_wp2
                  refine ends_ret hQ (results_tmp rfl _ _ _) rfl ?_
                  exact ⟨by rw [hRw.out]; rfl, gb_trans (gb_drewN hg.out _) g2, by rw [hRw.out]; exact hX2⟩
              · have hv0 := hv
                have e48 : ((c.toNat : Int) == 48) = false := by simp; omega
                have e49 : ((c.toNat : Int) == 49) = false := by simp; omega
                have e50 : ((c.toNat : Int) == 50) = false := by simp; omega
                have e51 : ((c.toNat : Int) == 51) = false := by simp; omega
                have e52 : ((c.toNat : Int) == 52) = true := by simp; omega
                replace hv := hid_mk hv
                clear hv0
                clear hdg; try clear hlead
                replace hD := hid_mk hD
                go_wp2
                go_quiet (fail)
                all_goals go_wp2_with fail
                all_goals (try go_quiet (fail))
                all_goals (try go_wp2_with fail)
                all_goals
                  refine (wrong_any s ⟨a, 0⟩ g _ hs (hX.out.drewN _)).mono ?_
                  rintro e w2 ⟨rfl, g2, hX2⟩
                  go_wp2
                  refine ends_ret hQ (results_tmp rfl _ _ _) rfl ?_
                  exact ⟨by rw [hRw.out]; rfl, gb_trans (gb_drewN hg.out _) g2, by rw [hRw.out]; exact hX2⟩
              · have hv0 := hv
                have e48 : ((c.toNat : Int) == 48) = false := by simp; omega
                have e49 : ((c.toNat : Int) == 49) = false := by simp; omega
                have e50 : ((c.toNat : Int) == 50) = false := by simp; omega
                have e51 : ((c.toNat : Int) == 51) = false := by simp; omega
                have e52 : ((c.toNat : Int) == 52) = false := by simp; omega
                have e53 : ((c.toNat : Int) == 53) = true := by simp; omega
                replace hv := hid_mk hv
                clear hv0
                clear hdg; try clear hlead
                replace hD := hid_mk hD
                go_wp2
                go_quiet (fail)
                all_goals go_wp2_with fail
                all_goals (try go_quiet (fail))
                all_goals (try go_wp2_with fail)
                all_goals
                  refine (wrong_any s ⟨a, 0⟩ g _ hs (hX.out.drewN _)).mono ?_
                  rintro e w2 ⟨rfl, g2, hX2⟩
                  go_wp2
                  refine ends_ret hQ (results_tmp rfl _ _ _) rfl ?_
                  exact ⟨by rw [hRw.out]; rfl, gb_trans (gb_drewN hg.out _) g2, by rw [hRw.out]; exact hX2⟩
              · have hv0 := hv
                have e48 : ((c.toNat : Int) == 48) = false := by simp; omega
                have e49 : ((c.toNat : Int) == 49) = false := by simp; omega
                have e50 : ((c.toNat : Int) == 50) = false := by simp; omega
                have e51 : ((c.toNat : Int) == 51) = false := by simp; omega
                have e52 : ((c.toNat : Int) == 52) = false := by simp; omega
                have e53 : ((c.toNat : Int) == 53) = false := by simp; omega
                have e54 : ((c.toNat : Int) == 54) = true := by simp; omega
                replace hv := hid_mk hv
                clear hv0
                clear hdg; try clear hlead
                replace hD := hid_mk hD
                go_wp2
                go_quiet (fail)
                all_goals go_wp2_with fail
                all_goals (try go_quiet (fail))
                all_goals (try go_wp2_with fail)
                all_goals
                  refine (wrong_any s ⟨a, 0⟩ g _ hs (hX.out.drewN _)).mono ?_
                  rintro e w2 ⟨rfl, g2, hX2⟩
                  go_wp2
                  refine ends_ret hQ (results_tmp rfl _ _ _) rfl ?_
                  exact ⟨by rw [hRw.out]; rfl, gb_trans (gb_drewN hg.out _) g2, by rw [hRw.out]; exact hX2⟩
              · have hv0 := hv
                have e48 : ((c.toNat : Int) == 48) = false := by simp; omega
                have e49 : ((c.toNat : Int) == 49) = false := by simp; omega
                have e50 : ((c.toNat : Int) == 50) = false := by simp; omega
                have e51 : ((c.toNat : Int) == 51) = false := by simp; omega
                have e52 : ((c.toNat : Int) == 52) = false := by simp; omega
                have e53 : ((c.toNat : Int) == 53) = false := by simp; omega
                have e54 : ((c.toNat : Int) == 54) = false := by simp; omega
                have e55 : ((c.toNat : Int) == 55) = true := by simp; omega
                replace hv := hid_mk hv
                clear hv0
                clear hdg; try clear hlead
                replace hD := hid_mk hD
                go_wp2
                go_quiet (fail)
                all_goals go_wp2_with fail
                all_goals (try go_quiet (fail))
                all_goals (try go_wp2_with fail)
                all_goals
                  refine (wrong_any s ⟨a, 0⟩ g _ hs (hX.out.drewN _)).mono ?_
                  rintro e w2 ⟨rfl, g2, hX2⟩
                  go_wp2
                  refine ends_ret hQ (results_tmp rfl _ _ _) rfl ?_
                  exact ⟨by rw [hRw.out]; rfl, gb_trans (gb_drewN hg.out _) g2, by rw [hRw.out]; exact hX2⟩
              · have hv0 := hv
                have e48 : ((c.toNat : Int) == 48) = false := by simp; omega
                have e49 : ((c.toNat : Int) == 49) = false := by simp; omega
                have e50 : ((c.toNat : Int) == 50) = false := by simp; omega
                have e51 : ((c.toNat : Int) == 51) = false := by simp; omega
                have e52 : ((c.toNat : Int) == 52) = false := by simp; omega
                have e53 : ((c.toNat : Int) == 53) = false := by simp; omega
                have e54 : ((c.toNat : Int) == 54) = false := by simp; omega
                have e55 : ((c.toNat : Int) == 55) = false := by simp; omega
                have e56 : ((c.toNat : Int) == 56) = true := by simp; omega
                replace hv := hid_mk hv
                clear hv0
                clear hdg; try clear hlead
                replace hD := hid_mk hD
                go_wp2
                go_quiet (fail)
                all_goals go_wp2_with fail
                all_goals (try go_quiet (fail))
                all_goals (try go_wp2_with fail)
                all_goals
                  refine (wrong_any s ⟨a, 0⟩ g _ hs (hX.out.drewN _)).mono ?_
                  rintro e w2 ⟨rfl, g2, hX2⟩
                  go_wp2
                  refine ends_ret hQ (results_tmp rfl _ _ _) rfl ?_
                  exact ⟨by rw [hRw.out]; rfl, gb_trans (gb_drewN hg.out _) g2, by rw [hRw.out]; exact hX2⟩
              · have hv0 := hv
                have e48 : ((c.toNat : Int) == 48) = false := by simp; omega
                have e49 : ((c.toNat : Int) == 49) = false := by simp; omega
                have e50 : ((c.toNat : Int) == 50) = false := by simp; omega
                have e51 : ((c.toNat : Int) == 51) = false := by simp; omega
                have e52 : ((c.toNat : Int) == 52) = false := by simp; omega
                have e53 : ((c.toNat : Int) == 53) = false := by simp; omega
                have e54 : ((c.toNat : Int) == 54) = false := by simp; omega
                have e55 : ((c.toNat : Int) == 55) = false := by simp; omega
                have e56 : ((c.toNat : Int) == 56) = false := by simp; omega
                have e57 : ((c.toNat : Int) == 57) = true := by simp; omega
                replace hv := hid_mk hv
                clear hv0
                clear hdg; try clear hlead
                replace hD := hid_mk hD
                go_wp2
                go_quiet (fail)
                all_goals go_wp2_with fail
                all_goals (try go_quiet (fail))
                all_goals (try go_wp2_with fail)
                all_goals
                  refine (wrong_any s ⟨a, 0⟩ g _ hs (hX.out.drewN _)).mono ?_
                  rintro e w2 ⟨rfl, g2, hX2⟩
                  go_wp2
                  refine ends_ret hQ (results_tmp rfl _ _ _) rfl ?_
                  exact ⟨by rw [hRw.out]; rfl, gb_trans (gb_drewN hg.out _) g2, by rw [hRw.out]; exact hX2⟩
            · have hRm : Hid (R = numL s.data.toList false (10 * n + D) (a + 1) (s.data.toList.drop (a + 1))) := by rw [Hid, hRd.out, if_neg (by rintro (h1 | h1); exact hlead h1; omega)]
              have hRm2 : Hid (R = numL s.data.toList (decide (a + 1 = at0)) (10 * n + D) (a + 1) (s.data.toList.drop (a + 1))) := by rw [Hid, hRm.out, decide_eq_false (by omega)]
              have kb : ¬ 1000000 < 10 * n + D := hbig
              have kb2 : 10 * n + D ≤ 1000000 := by omega
              rcases (by omega : c.toNat = 48 ∨ c.toNat = 49 ∨ c.toNat = 50 ∨ c.toNat = 51 ∨ c.toNat = 52 ∨ c.toNat = 53 ∨ c.toNat = 54 ∨ c.toNat = 55 ∨ c.toNat = 56 ∨ c.toNat = 57) with hv | hv | hv | hv | hv | hv | hv | hv | hv | hv
              · have hv0 := hv
                have e48 : ((c.toNat : Int) == 48) = true := by simp; omega
                replace hv := hid_mk hv
                clear hv0
                clear hdg; try clear hlead
                replace hD := hid_mk hD
                go_wp2
                go_quiet (fail)
                all_goals go_wp2
                all_goals (try go_quiet (fail))
                all_goals (try go_wp2)
                all_goals
                  go_roundw
                  case rel => exact ⟨10 * n + D, a + 1, by first | rfl | (have h1 := hD.out; congr 1; omega), by omega, kb2, by omega, (hX.out.drewN _).next, hRm2, (fun e => absurd e (by omega)), gb_trans (gb_drewN hg.out _) (gb_set _ g 1 _), .inl (by omega)⟩
                  case measure => first | (simp [World.cell?_setCell_same', c1]; exact Nat.sub_lt_sub_left hend (Nat.lt_succ_self a)) | (simp [World.cell?_setCell_same', c1]; done) | (simp [World.cell?_setCell_same', c1]; omega)
              · have hv0 := hv
                have e48 : ((c.toNat : Int) == 48) = false := by simp; omega
                have e49 : ((c.toNat : Int) == 49) = true := by simp; omega
                replace hv := hid_mk hv
                clear hv0
                clear hdg; try clear hlead
                replace hD := hid_mk hD
                go_wp2
                go_quiet (fail)
                all_goals go_wp2
                all_goals (try go_quiet (fail))
                all_goals (try go_wp2)
                all_goals
                  go_roundw
                  case rel => exact ⟨10 * n + D, a + 1, by first | rfl | (have h1 := hD.out; congr 1; omega), by omega, kb2, by omega, (hX.out.drewN _).next, hRm2, (fun e => absurd e (by omega)), gb_trans (gb_drewN hg.out _) (gb_set _ g 1 _), .inl (by omega)⟩
                  case measure => first | (simp [World.cell?_setCell_same', c1]; exact Nat.sub_lt_sub_left hend (Nat.lt_succ_self a)) | (simp [World.cell?_setCell_same', c1]; done) | (simp [World.cell?_setCell_same', c1]; omega)
              · have hv0 := hv
                have e48 : ((c.toNat : Int) == 48) = false := by simp; omega
                have e49 : ((c.toNat : Int) == 49) = false := by simp; omega
                have e50 : ((c.toNat : Int) == 50) = true := by simp; omega
                replace hv := hid_mk hv
                clear hv0
                clear hdg; try clear hlead
                replace hD := hid_mk hD
                go_wp2
                go_quiet (fail)
                all_goals go_wp2
                all_goals (try go_quiet (fail))
                all_goals (try go_wp2)
                all_goals
                  go_roundw
                  case rel => exact ⟨10 * n + D, a + 1, by first | rfl | (have h1 := hD.out; congr 1; omega), by omega, kb2, by omega, (hX.out.drewN _).next, hRm2, (fun e => absurd e (by omega)), gb_trans (gb_drewN hg.out _) (gb_set _ g 1 _), .inl (by omega)⟩
                  case measure => first | (simp [World.cell?_setCell_same', c1]; exact Nat.sub_lt_sub_left hend (Nat.lt_succ_self a)) | (simp [World.cell?_setCell_same', c1]; done) | (simp [World.cell?_setCell_same', c1]; omega)
              · have hv0 := hv
                have e48 : ((c.toNat : Int) == 48) = false := by simp; omega
                have e49 : ((c.toNat : Int) == 49) = false := by simp; omega
                have e50 : ((c.toNat : Int) == 50) = false := by simp; omega
                have e51 : ((c.toNat : Int) == 51) = true := by simp; omega
                replace hv := hid_mk hv
                clear hv0
                clear hdg; try clear hlead
                replace hD := hid_mk hD
                go_wp2
                go_quiet (fail)
                all_goals go_wp2
                all_goals (try go_quiet (fail))
                all_goals (try go_wp2)
                all_goals
                  go_roundw
                  case rel => exact ⟨10 * n + D, a + 1, by first | rfl | (have h1 := hD.out; congr 1; omega), by omega, kb2, by omega, (hX.out.drewN _).next, hRm2, (fun e => absurd e (by omega)), gb_trans (gb_drewN hg.out _) (gb_set _ g 1 _), .inl (by omega)⟩
                  case measure => first | (simp [World.cell?_setCell_same', c1]; exact Nat.sub_lt_sub_left hend (Nat.lt_succ_self a)) | (simp [World.cell?_setCell_same', c1]; done) | (simp [World.cell?_setCell_same', c1]; omega)
              · have hv0 := hv
                have e48 : ((c.toNat : Int) == 48) = false := by simp; omega
                have e49 : ((c.toNat : Int) == 49) = false := by simp; omega
                have e50 : ((c.toNat : Int) == 50) = false := by simp; omega
                have e51 : ((c.toNat : Int) == 51) = false := by simp; omega
                have e52 : ((c.toNat : Int) == 52) = true := by simp; omega
                replace hv := hid_mk hv
                clear hv0
                clear hdg; try clear hlead
                replace hD := hid_mk hD
                go_wp2
                go_quiet (fail)
                all_goals go_wp2
                all_goals (try go_quiet (fail))
                all_goals (try go_wp2)
                all_goals
                  go_roundw
                  case rel => exact ⟨10 * n + D, a + 1, by first | rfl | (have h1 := hD.out; congr 1; omega), by omega, kb2, by omega, (hX.out.drewN _).next, hRm2, (fun e => absurd e (by omega)), gb_trans (gb_drewN hg.out _) (gb_set _ g 1 _), .inl (by omega)⟩
                  case measure => first | (simp [World.cell?_setCell_same', c1]; exact Nat.sub_lt_sub_left hend (Nat.lt_succ_self a)) | (simp [World.cell?_setCell_same', c1]; done) | (simp [World.cell?_setCell_same', c1]; omega)
              · have hv0 := hv
                have e48 : ((c.toNat : Int) == 48) = false := by simp; omega
                have e49 : ((c.toNat : Int) == 49) = false := by simp; omega
                have e50 : ((c.toNat : Int) == 50) = false := by simp; omega
                have e51 : ((c.toNat : Int) == 51) = false := by simp; omega
                have e52 : ((c.toNat : Int) == 52) = false := by simp; omega
                have e53 : ((c.toNat : Int) == 53) = true := by simp; omega
                replace hv := hid_mk hv
                clear hv0
                clear hdg; try clear hlead
                replace hD := hid_mk hD
                go_wp2
                go_quiet (fail)
                all_goals go_wp2
                all_goals (try go_quiet (fail))
                all_goals (try go_wp2)
                all_goals
                  go_roundw
                  case rel => exact ⟨10 * n + D, a + 1, by first | rfl | (have h1 := hD.out; congr 1; omega), by omega, kb2, by omega, (hX.out.drewN _).next, hRm2, (fun e => absurd e (by omega)), gb_trans (gb_drewN hg.out _) (gb_set _ g 1 _), .inl (by omega)⟩
                  case measure => first | (simp [World.cell?_setCell_same', c1]; exact Nat.sub_lt_sub_left hend (Nat.lt_succ_self a)) | (simp [World.cell?_setCell_same', c1]; done) | (simp [World.cell?_setCell_same', c1]; omega)
              · have hv0 := hv
                have e48 : ((c.toNat : Int) == 48) = false := by simp; omega
                have e49 : ((c.toNat : Int) == 49) = false := by simp; omega
                have e50 : ((c.toNat : Int) == 50) = false := by simp; omega
                have e51 : ((c.toNat : Int) == 51) = false := by simp; omega
                have e52 : ((c.toNat : Int) == 52) = false := by simp; omega
                have e53 : ((c.toNat : Int) == 53) = false := by simp; omega
                have e54 : ((c.toNat : Int) == 54) = true := by simp; omega
                replace hv := hid_mk hv
                clear hv0
                clear hdg; try clear hlead
                replace hD := hid_mk hD
                go_wp2
                go_quiet (fail)
                all_goals go_wp2
                all_goals (try go_quiet (fail))
                all_goals (try go_wp2)
                all_goals
                  go_roundw
                  case rel => exact ⟨10 * n + D, a + 1, by first | rfl | (have h1 := hD.out; congr 1; omega), by omega, kb2, by omega, (hX.out.drewN _).next, hRm2, (fun e => absurd e (by omega)), gb_trans (gb_drewN hg.out _) (gb_set _ g 1 _), .inl (by omega)⟩
                  case measure => first | (simp [World.cell?_setCell_same', c1]; exact Nat.sub_lt_sub_left hend (Nat.lt_succ_self a)) | (simp [World.cell?_setCell_same', c1]; done) | (simp [World.cell?_setCell_same', c1]; omega)
              · have hv0 := hv
                have e48 : ((c.toNat : Int) == 48) = false := by simp; omega
                have e49 : ((c.toNat : Int) == 49) = false := by simp; omega
                have e50 : ((c.toNat : Int) == 50) = false := by simp; omega
                have e51 : ((c.toNat : Int) == 51) = false := by simp; omega
                have e52 : ((c.toNat : Int) == 52) = false := by simp; omega
                have e53 : ((c.toNat : Int) == 53) = false := by simp; omega
                have e54 : ((c.toNat : Int) == 54) = false := by simp; omega
                have e55 : ((c.toNat : Int) == 55) = true := by simp; omega
                replace hv := hid_mk hv
                clear hv0
                clear hdg; try clear hlead
                replace hD := hid_mk hD
                go_wp2
                go_quiet (fail)
                all_goals go_wp2
                all_goals (try go_quiet (fail))
                all_goals (try go_wp2)
                all_goals
                  go_roundw
                  case rel => exact ⟨10 * n + D, a + 1, by first | rfl | (have h1 := hD.out; congr 1; omega), by omega, kb2, by omega, (hX.out.drewN _).next, hRm2, (fun e => absurd e (by omega)), gb_trans (gb_drewN hg.out _) (gb_set _ g 1 _), .inl (by omega)⟩
                  case measure => first | (simp [World.cell?_setCell_same', c1]; exact Nat.sub_lt_sub_left hend (Nat.lt_succ_self a)) | (simp [World.cell?_setCell_same', c1]; done) | (simp [World.cell?_setCell_same', c1]; omega)
              · have hv0 := hv
                have e48 : ((c.toNat : Int) == 48) = false := by simp; omega
                have e49 : ((c.toNat : Int) == 49) = false := by simp; omega
                have e50 : ((c.toNat : Int) == 50) = false := by simp; omega
                have e51 : ((c.toNat : Int) == 51) = false := by simp; omega
                have e52 : ((c.toNat : Int) == 52) = false := by simp; omega
                have e53 : ((c.toNat : Int) == 53) = false := by simp; omega
                have e54 : ((c.toNat : Int) == 54) = false := by simp; omega
                have e55 : ((c.toNat : Int) == 55) = false := by simp; omega
                have e56 : ((c.toNat : Int) == 56) = true := by simp; omega
                replace hv := hid_mk hv
                clear hv0
                clear hdg; try clear hlead
                replace hD := hid_mk hD
                go_wp2
                go_quiet (fail)
                all_goals go_wp2
                all_goals (try go_quiet (fail))
                all_goals (try go_wp2)
                all_goals
                  go_roundw
                  case rel => exact ⟨10 * n + D, a + 1, by first | rfl | (have h1 := hD.out; congr 1; omega), by omega, kb2, by omega, (hX.out.drewN _).next, hRm2, (fun e => absurd e (by omega)), gb_trans (gb_drewN hg.out _) (gb_set _ g 1 _), .inl (by omega)⟩
                  case measure => first | (simp [World.cell?_setCell_same', c1]; exact Nat.sub_lt_sub_left hend (Nat.lt_succ_self a)) | (simp [World.cell?_setCell_same', c1]; done) | (simp [World.cell?_setCell_same', c1]; omega)
              · have hv0 := hv
                have e48 : ((c.toNat : Int) == 48) = false := by simp; omega
                have e49 : ((c.toNat : Int) == 49) = false := by simp; omega
                have e50 : ((c.toNat : Int) == 50) = false := by simp; omega
                have e51 : ((c.toNat : Int) == 51) = false := by simp; omega
                have e52 : ((c.toNat : Int) == 52) = false := by simp; omega
                have e53 : ((c.toNat : Int) == 53) = false := by simp; omega
                have e54 : ((c.toNat : Int) == 54) = false := by simp; omega
                have e55 : ((c.toNat : Int) == 55) = false := by simp; omega
                have e56 : ((c.toNat : Int) == 56) = false := by simp; omega
                have e57 : ((c.toNat : Int) == 57) = true := by simp; omega
                replace hv := hid_mk hv
                clear hv0
                clear hdg; try clear hlead
                replace hD := hid_mk hD
                go_wp2
                go_quiet (fail)
                all_goals go_wp2
                all_goals (try go_quiet (fail))
                all_goals (try go_wp2)
                all_goals
                  go_roundw
                  case rel => exact ⟨10 * n + D, a + 1, by first | rfl | (have h1 := hD.out; congr 1; omega), by omega, kb2, by omega, (hX.out.drewN _).next, hRm2, (fun e => absurd e (by omega)), gb_trans (gb_drewN hg.out _) (gb_set _ g 1 _), .inl (by omega)⟩
                  case measure => first | (simp [World.cell?_setCell_same', c1]; exact Nat.sub_lt_sub_left hend (Nat.lt_succ_self a)) | (simp [World.cell?_setCell_same', c1]; done) | (simp [World.cell?_setCell_same', c1]; omega)
        · have hRd : Hid (R = if (decide (a = at0)) then (0, wrongS s.data.toList ⟨a, 0⟩) else (n, ⟨a, 0⟩)) := by
            rw [Hid, hRn.out, hdr, numL_other _ _ _ _ _ _ hdg]
          replace hdr := hid_mk hdr
          have f48 : ((c.toNat : Int) == 48) = false := by simp; omega
          have f49 : ((c.toNat : Int) == 49) = false := by simp; omega
          have f50 : ((c.toNat : Int) == 50) = false := by simp; omega
          have f51 : ((c.toNat : Int) == 51) = false := by simp; omega
          have f52 : ((c.toNat : Int) == 52) = false := by simp; omega
          have f53 : ((c.toNat : Int) == 53) = false := by simp; omega
          have f54 : ((c.toNat : Int) == 54) = false := by simp; omega
          have f55 : ((c.toNat : Int) == 55) = false := by simp; omega
          have f56 : ((c.toNat : Int) == 56) = false := by simp; omega
          have f57 : ((c.toNat : Int) == 57) = false := by simp; omega
          by_cases hfirst : a = at0
          · subst hfirst
            have hnz : n = 0 := hz.out rfl
            subst hnz
            have hRw : Hid (R = (0, wrongS s.data.toList ⟨a, 0⟩)) := by rw [Hid, hRd.out]; simp
            clear hdg
            go_wp2
            go_quiet (fail)
            all_goals go_wp2
            all_goals (try go_quiet (fail))
            all_goals go_wp2_with fail
            all_goals
              refine (wrong_any s ⟨a, 0⟩ g _ hs (hX.out.drewN _)).mono ?_
              rintro e w2 ⟨rfl, g2, hX2⟩
              go_wp2
              refine ends_ret hQ (results_tmp rfl _ _ _) rfl ?_
              exact ⟨by rw [hRw.out]; rfl, gb_trans (gb_drewN hg.out _) g2, by rw [hRw.out]; exact hX2⟩
          · have hRw : Hid (R = (n, ⟨a, 0⟩)) := by rw [Hid, hRd.out, decide_eq_false hfirst]; rfl
            have hne : ((a : Int) == (at0 : Int)) = false := by simp; omega
            clear hdg
            go_wp2
            go_quiet (fail)
            all_goals go_wp2
            all_goals (try go_quiet (fail))
            all_goals (try go_wp2)
            all_goals
              refine ends_ret hQ (results_tmp rfl _ _ _) rfl ?_
              exact ⟨by rw [hRw.out]; rfl, gb_drewN hg.out _, by rw [hRw.out]; exact hX.out.drewN _⟩
      · have k1 : ¬ (a : Int) < s.size := by omega
        have hdr : s.data.toList.drop a = [] := List.drop_eq_nil_of_le (by simp; omega)
        by_cases hfirst : a = at0
        · subst hfirst
          have hRw : Hid (R = (0, wrongS s.data.toList ⟨a, 0⟩)) := by rw [Hid, hRn.out, hdr, numL]; simp
          have hnz : n = 0 := hz.out rfl
          subst hnz
          clear hdr
          go_wp2
          go_quiet (fail)
          all_goals go_wp2_with fail
          all_goals
            refine (wrong_any s ⟨a, 0⟩ g _ hs (hX.out.drewN _)).mono ?_
            rintro e w2 ⟨rfl, g2, hX2⟩
            go_wp2
            refine ends_ret hQ (results_tmp rfl _ _ _) rfl ?_
            exact ⟨by rw [hRw.out]; rfl, gb_trans (gb_drewN hg.out _) g2, by rw [hRw.out]; exact hX2⟩
        · have hRw : Hid (R = (n, ⟨a, 0⟩)) := by rw [Hid, hRn.out, hdr, numL, decide_eq_false hfirst]; rfl
          have hne : ((a : Int) == (at0 : Int)) = false := by simp; omega
          clear hdr
          go_wp2
          go_quiet (fail)
          all_goals go_wp2
          all_goals (try go_quiet (fail))
          all_goals (try go_wp2)
          all_goals
            refine ends_ret hQ (results_tmp rfl _ _ _) rfl ?_
            exact ⟨by rw [hRw.out]; rfl, gb_drewN hg.out _, by rw [hRw.out]; exact hX.out.drewN _⟩
end Go.Proofs.YtfafinnklniniaaDoor
