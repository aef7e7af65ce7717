/-
  WHAT IS PROVED HERE: what code.Right hands back at a value of at most 4000 values, 30 within one another, whose parts are of their kinds: it may be. Conditions: those.
-/
import Derived.Test.YtnaindoeihnmpaaDoorZVal0
import Derived.Laws.EntriesVeiled
namespace Go.Proofs.YtnaindoeihnmpaaDoor
open Go.RowKit

/-- what all values have in common -/
theorem VOk.parts {w : World} {S : Nat → Prop} {d : Nat} {v : Vl} {c : Nat} {e : List UInt8} (h : VOk w S (d + 1) v c e) :
    ∃ xs, VRow w S v.A v.m (cellsN xs) ∧ v.m ≤ 4000 ∧ (∀ x ∈ xs, VOk w S d x.v x.cnt x.enc) ∧ c = 1 + cntN xs ∧ ((v.k = 1 ∧ v.s = ⟨#[]⟩ ∧ v.m = 0) ∨ (v.k = 2 ∧ v.n = 0 ∧ v.m = 0) ∨ (v.k = 3 ∧ v.n = 0 ∧ v.s = ⟨#[]⟩)) := by
  rcases h with ⟨n, rfl, _, _, rfl, _⟩ | ⟨s, rfl, _, rfl, _⟩ | ⟨A, m, cp, xs, rfl, e0, e2, e3, e4, e5⟩
  · exact ⟨[], VRow.none_, by simp [numV], by simp, rfl, .inl ⟨rfl, rfl, rfl⟩⟩
  · exact ⟨[], VRow.none_, by simp [txtV], by simp, rfl, .inr (.inl ⟨rfl, rfl, rfl⟩)⟩
  · exact ⟨xs, e2, e0, e3, e4, .inr (.inr ⟨rfl, rfl, rfl⟩)⟩
/-- what stands in the variables that the closure captured -/
structure Walked (w : World) (gm gd gk gw : Nat) (many : Int) : Prop where
  m : Blk w gm 3 #[.int .i64 many]
  d : ∃ dp : Int, 0 ≤ dp ∧ dp ≤ 30 ∧ Blk w gd 3 #[.int .i64 dp]
  k : Blk w gk 4 #[.bool true]
  w : Blk w gw 120 #[.func (.func 79) #[] #[.pointer (some ⟨gm, 0, none⟩), .pointer (some ⟨gd, 0, none⟩), .pointer (some ⟨gk, 0, none⟩), .pointer (some ⟨gw, 0, none⟩)]]
theorem Walked.keep {w w' : World} {gm gd gk gw : Nat} {many : Int} (h : Walked w gm gd gk gw many) (hb : Below w.heap.size w w') : Walked w' gm gd gk gw many := by
  obtain ⟨dp, h1, h2, h3⟩ := h.d
  exact ⟨h.m.keep hb, ⟨dp, h1, h2, h3.keep hb⟩, h.k.keep hb, h.w.keep hb⟩
set_option maxRecDepth 100000 in
set_option maxHeartbeats 3200000 in
theorem walk_any : ∀ (d : Nat) (v : Vl) (cnt : Nat) (enc : List UInt8) (many deep : Int) (gm gd gk gw B : Nat) (w : World), VOk w (Lows B) d v cnt enc → B ≤ gm → B ≤ gd → B ≤ gk → B ≤ gw → gm ≠ gd →
    Walked w gm gd gk gw many → 0 ≤ many → many + cnt ≤ 4000 → 1 ≤ deep → deep + d ≤ 31 →
    Calls Tryd.prog 79 #[valV v, .int .i64 deep, .pointer (some ⟨gm, 0, none⟩), .pointer (some ⟨gd, 0, none⟩), .pointer (some ⟨gk, 0, none⟩), .pointer (some ⟨gw, 0, none⟩)] w fun e w' => e = .returned (.tuple #[]) ∧ Below B w w' ∧ Walked w' gm gd gk gw (many + cnt)
  | 0, _, _, _, _, _, _, _, _, _, _, _, h => h.elim
  | d + 1, v, cnt, enc, many, deep, gm, gd, gk, gw, B, w, h => by
    intro b1 b2 b3 b4 hne hW m0 m1 p0 p1
    obtain ⟨xs, hrow, hm4, hxs, rfl, hsh⟩ := h.parts
    have hcl := hid_mk (fun k => cntN_le (xs := xs) k)
    clear h
    obtain ⟨dp, dp0, dp1, hD⟩ := hW.d
    obtain ⟨hM, _, hK, hF⟩ := hW
    have nmk : gm ≠ gk := hM.ne_ hK (by decide)
    have nmw : gm ≠ gw := hM.ne_ hF (by decide)
    have ndk : gd ≠ gk := hD.ne_ hK (by decide)
    have ndw : gd ≠ gw := hD.ne_ hF (by decide)
    have nkw : gk ≠ gw := hK.ne_ hF (by decide)
    obtain ⟨vk, vn, vs, vA, vm, vc⟩ := v
    dsimp only at hrow hm4 hsh
    unfold valV
    dsimp only
    have hmlt := hM.lt
    have hdlt := hD.lt
    have hklt := hK.lt
    have hwlt := hF.lt
    have cm : w.cell? ⟨gm, 0, none⟩ = some (.int .i64 many) := hM.cell 0
    have cd : w.cell? ⟨gd, 0, none⟩ = some (.int .i64 dp) := hD.cell 0
    have ck : w.cell? ⟨gk, 0, none⟩ = some (.bool true) := hK.cell 0
    have fm : w.frozen? ⟨gm, 0, none⟩ = false := hM.frozen 0
    have fd : w.frozen? ⟨gd, 0, none⟩ = false := hD.frozen 0
    have fk : w.frozen? ⟨gk, 0, none⟩ = false := hK.frozen 0
    have nmd := hne
    have r1 : ¬ gd = gm := fun e => hne e.symm
    have r2 : ¬ gk = gm := fun e => nmk e.symm
    have r3 : ¬ gk = gd := fun e => ndk e.symm
    have hcp := hid_mk (show cntN (xs.take 0) = 0 from rfl)
    have hlt4 : ¬ 4000 < many + 1 := by omega
    have hmx : 0 ≤ max dp deep ∧ max dp deep ≤ 30 := by omega
    have hwrap : IntKind.i64.wrap (many + 1) = many + 1 := IntWalk.i64_in _ (by omega)
    obtain ⟨wa, hwa⟩ : ∃ wa, ((((w.setCell ⟨gm, 0, none⟩ (.int .i64 (many + 1))).setCell ⟨gd, 0, none⟩ (.int .i64 (max dp deep))).setCell ⟨gk, 0, none⟩ (.bool true)).alloc (.cells #[.int .i64 vk, .int .i64 vn, .string vs, .slice vA vm vc] 96)) = wa := ⟨_, rfl⟩
    have q0 : Below B w wa := by
      rw [← hwa]
      exact ((((Below.refl B w).setCell (p := ⟨gm, 0, none⟩) b1 _).setCell (p := ⟨gd, 0, none⟩) b2 _).setCell (p := ⟨gk, 0, none⟩) b3 _).alloc (by simp [World.setCell]; omega) _
    have hM1 : Blk wa gm 3 #[.int .i64 (many + 1 + (cntN (xs.take 0) : Nat))] := by
      rw [← hwa, hcp.out]
      exact ((((hM.set_ 0 _).far (p := ⟨gd, 0, none⟩) hne _).far (p := ⟨gk, 0, none⟩) nmk _).alloc _).cast_ (by simp)
    have hD1 : Blk wa gd 3 #[.int .i64 (max dp deep)] := by
      rw [← hwa]
      exact ((((hD.far (p := ⟨gm, 0, none⟩) r1 _).set_ 0 _).far (p := ⟨gk, 0, none⟩) ndk _).alloc _)
    have hK1 : Blk wa gk 4 #[.bool true] := by
      rw [← hwa]
      exact ((((hK.far (p := ⟨gm, 0, none⟩) r2 _).far (p := ⟨gd, 0, none⟩) r3 _).set_ 0 _).alloc _)
    have hF1 : Blk wa gw 120 #[.func (.func 79) #[] #[.pointer (some ⟨gm, 0, none⟩), .pointer (some ⟨gd, 0, none⟩), .pointer (some ⟨gk, 0, none⟩), .pointer (some ⟨gw, 0, none⟩)]] := by
      rw [← hwa]
      exact ((((hF.far (p := ⟨gm, 0, none⟩) (fun e => nmw e.symm) _).far (p := ⟨gd, 0, none⟩) (fun e => ndw e.symm) _).far (p := ⟨gk, 0, none⟩) (fun e => nkw e.symm) _).alloc _)
    replace hW := hid_mk (show Walked wa gm gd gk gw (many + 1 + (cntN (xs.take 0) : Nat)) from ⟨hM1, ⟨_, hmx.1, hmx.2, hD1⟩, hK1, hF1⟩)
    clear hM hD hK hF hM1 hD1 hK1 hF1
    replace hwa := hid_mk hwa
    rcases hsh with ⟨rfl, rfl, rfl⟩ | ⟨rfl, rfl, rfl⟩ | ⟨rfl, rfl, rfl⟩
    · go_enter Tryd.func79, Tryd.ntmps79
      go_wp2
      go_loopw [63] (fun i wr => ∃ (k : Nat), k ≤ 0 ∧ i = .int .i64 k ∧ Below B w wr ∧ Hid (Walked wr gm gd gk gw (many + 1 + (cntN (xs.take k) : Nat)))) (fun i _ => 0 - (intOf i).toNat)
      case atStart => exact ⟨0, Nat.zero_le _, rfl, by have := q0; rw [← hwa.out] at this; exact this, by have := hW; rw [← hwa.out] at this; exact this⟩
      case round =>
        obtain ⟨k, hk, rfl, hb, hWk⟩ := hrel
        by_cases hlt : k < 0
        · exact absurd hlt (by omega)
        · have hke := hid_mk (show xs.take k = xs from List.take_of_length_le (by have := hrow.len; omega))
          go_wp2
          go_end0
          exact ⟨rfl, hb, by have := hWk.out; rw [hke.out] at this; rw [show many + ((1 + cntN xs : Nat) : Int) = many + 1 + (cntN xs : Nat) by omega]; exact this⟩
    · go_enter Tryd.func79, Tryd.ntmps79
      go_wp2
      go_loopw [63] (fun i wr => ∃ (k : Nat), k ≤ 0 ∧ i = .int .i64 k ∧ Below B w wr ∧ Hid (Walked wr gm gd gk gw (many + 1 + (cntN (xs.take k) : Nat)))) (fun i _ => 0 - (intOf i).toNat)
      case atStart => exact ⟨0, Nat.zero_le _, rfl, by have := q0; rw [← hwa.out] at this; exact this, by have := hW; rw [← hwa.out] at this; exact this⟩
      case round =>
        obtain ⟨k, hk, rfl, hb, hWk⟩ := hrel
        by_cases hlt : k < 0
        · exact absurd hlt (by omega)
        · have hke := hid_mk (show xs.take k = xs from List.take_of_length_le (by have := hrow.len; omega))
          go_wp2
          go_end0
          exact ⟨rfl, hb, by have := hWk.out; rw [hke.out] at this; rw [show many + ((1 + cntN xs : Nat) : Int) = many + 1 + (cntN xs : Nat) by omega]; exact this⟩
    · go_enter Tryd.func79, Tryd.ntmps79
      go_wp2
      go_loopw [63] (fun i wr => ∃ (k : Nat), k ≤ vm ∧ i = .int .i64 k ∧ Below B w wr ∧ Hid (Walked wr gm gd gk gw (many + 1 + (cntN (xs.take k) : Nat)))) (fun i _ => vm - (intOf i).toNat)
      case atStart => exact ⟨0, Nat.zero_le _, rfl, by have := q0; rw [← hwa.out] at this; exact this, by have := hW; rw [← hwa.out] at this; exact this⟩
      case round =>
        obtain ⟨k, hk, rfl, hb, hWk⟩ := hrel
        by_cases hlt : k < vm
        · obtain ⟨b, o, x, rfl, hS, hbb, hmem, hd, c0, c1, c2, c3⟩ := (hrow.to hb.size (fun b h1 _ => hb.block b h1) (fun _ h _ => h)).at_ hlt
          obtain ⟨cn, hcn⟩ : ∃ cn : Int, many + 1 + (cntN (xs.take k) : Nat) = cn := ⟨_, rfl⟩
          rw [hcn] at hWk
          have hx := hid_mk ((hxs x hmem).below hb)
          have hnx := hid_mk (cntN_take hd.out)
          have hle := hid_mk (show cn + x.cnt ≤ 4000 from by have h1 := hcl.out (k + 1); rw [hnx.out] at h1; omega)
          have hcn0 : Hid (0 ≤ cn) := (show 0 ≤ cn from by omega)
          replace hcn := hid_mk hcn
          have hF := hWk.out.w
          have cw : wr.cell? ⟨gw, 0, none⟩ = some (.func (.func 79) #[] #[.pointer (some ⟨gm, 0, none⟩), .pointer (some ⟨gd, 0, none⟩), .pointer (some ⟨gk, 0, none⟩), .pointer (some ⟨gw, 0, none⟩)]) := hF.cell 0
          have gwl := hF.lt
          clear hF
          have hdw : IntKind.i64.wrap (deep + 1) = deep + 1 := IntWalk.i64_in _ (by omega)
          obtain ⟨xv, xc, xe⟩ := x
          obtain ⟨xk, xn, xs', xA, xm, xcp⟩ := xv
          dsimp only at c0 c1 c2 c3
          go_wp2_with (go_at_call 79; refine (walk_any d ⟨xk, xn, xs', xA, xm, xcp⟩ xc xe cn (deep + 1) gm gd gk gw B _ (hx.out.below (by go_grown)) b1 b2 b3 b4 hne (hWk.out.keep (by go_grown)) hcn0.out hle.out (by omega) (by omega)).mono ?_; rintro e w1 ⟨rfl, hb1, hW1⟩; replace hW1 := hid_mk hW1)
          go_roundw
          case rel => exact ⟨k + 1, by omega, by go_num, hb.trans (Below.trans (by go_grown) hb1), by have := hW1.out; rw [← hcn.out] at this; rw [hnx.out]; rw [show many + 1 + ((cntN (xs.take k) + xc : Nat) : Int) = many + 1 + (cntN (xs.take k) : Nat) + (xc : Int) by omega]; exact this⟩
          case measure => simp [intOf]; omega
        · have hke := hid_mk (show xs.take k = xs from List.take_of_length_le (by have := hrow.len; omega))
          go_wp2
          go_end0
          exact ⟨rfl, hb, by have := hWk.out; rw [hke.out] at this; rw [show many + ((1 + cntN xs : Nat) : Int) = many + 1 + (cntN xs : Nat) by omega]; exact this⟩
set_option maxRecDepth 100000 in
set_option maxHeartbeats 3200000 in
theorem VRight_any (d : Nat) (v : Vl) (cnt : Nat) (enc : List UInt8) (w : World) (h : VOk w (Lows w.heap.size) d v cnt enc) (hc : cnt ≤ 4000) (hd : d ≤ 30) :
    Calls Tryd.prog 65 #[valV v] w fun e w' => e = .returned (.int .i64 0) ∧ Below w.heap.size w w' := by
  have hmf : ∀ (fn : Fn) (first cap : Array Value) (w : World), (Instr.makeFunc fn first cap).run Tryd.prog w = .ok (.func fn first cap) w := fun _ _ _ _ => rfl
  obtain ⟨vk, vn, vs, vA, vm, vc⟩ := v
  unfold valV
  dsimp only
  go_enter Tryd.func65, Tryd.ntmps65
  go_wp2_with (go_at_call 79; refine (walk_any d ⟨vk, vn, vs, vA, vm, vc⟩ cnt enc 0 1 (w.heap.size + 1) (w.heap.size + 1 + 1) (w.heap.size + 1 + 1 + 1) (w.heap.size + 1 + 1 + 1 + 1) w.heap.size _ (h.below (by go_grown)) (by omega) (by omega) (by omega) (by omega) (by omega) ⟨(((Blk.new_ (by simp)).alloc _).alloc _).alloc _, ⟨0, by omega, by omega, ((Blk.new_ (by simp)).alloc _).alloc _⟩, (Blk.new_ (by simp)).alloc _, Blk.new_ (by simp)⟩ (by omega) (by omega) (by omega) (by omega)).mono ?_; rintro e w1 ⟨rfl, hb, ⟨hM, ⟨dp, dp0, dp1, hD⟩, hK, _⟩⟩; have cm := hM.cell 0; have cd := hD.cell 0; have ck := hK.cell 0; change _ = some (Value.int .i64 (0 + cnt)) at cm; change _ = some (Value.int .i64 dp) at cd; change _ = some (Value.bool true) at ck; have gm := hM.lt; have gd := hD.lt; have gk := hK.lt; have x1 : ¬ (4000 : Int) < 0 + (cnt : Int) := (by omega); have x2 : ¬ (30 : Int) < dp := (by omega); have hbb := hid_mk (show Below w.heap.size w w1 from Below.trans (by go_grown) hb); clear hb hM hD hK)
  go_ret
  exact ⟨rfl, hbb.out⟩
end Go.Proofs.YtnaindoeihnmpaaDoor
