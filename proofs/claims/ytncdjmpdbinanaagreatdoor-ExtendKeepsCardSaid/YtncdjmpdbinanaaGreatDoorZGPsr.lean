/-
  WHAT IS PROVED HERE: what maps.Keys and slices.Sorted hand back of a map with int keys that the call made: its keys, rising. Condition: at most 2^43 keys.
  WHAT IS PROVED HERE: what extend.peers hands back of voters and peers whose numbers rise. Conditions: at most 7 voters and 9 peers, their numbers 1 to 9.
-/
import Derived.Test.YtncdjmpdbinanaaGreatDoorZGTab
import Derived.Test.YtncdjmpdbinanaaGreatDoorZIter
import Derived.Test.YtncdjmpdbinanaaGreatDoorZGMem
import Derived.Test.YtncdjmpdbinanaaGreatDoorZGSd
import Derived.Test.YtncdjmpdbinanaaGreatDoorZGKj1
namespace Go.Proofs.YtncdjmpdbinanaaGreatDoor
open Go.RowKit Go.Maps Go.Sort Go.Shelf

theorem merge_asc {l : List Int} (h : l.Pairwise (· < ·)) : l.mergeSort (fun x y => decide (x ≤ y)) = l := by
  apply List.mergeSort_of_pairwise
  exact h.imp (fun h => by simpa using Int.le_of_lt h)
set_option maxRecDepth 100000 in
theorem Keys_any (b : Nat) (W : World) : Calls Tryz.prog 126 #[.map (some b)] W fun e w' => e = .returned (.func (.func 158) #[] #[.pointer (some ⟨W.heap.size, 0, none⟩)]) ∧ w' = W.alloc (.cells #[.map (some b)] 139) :=
  (callsIn_wide (n := 5)).1 (AnyZI.keys_in Tryz.keysA Fence.wide 5 trivial rfl (some b) W)
theorem sortsA (m : Nat) : AnyZI.SortsIn Tryz.prog Tryz.sortedA_ren Fence.wide m :=
  ⟨fun blk off cap ss W hH hblk hsz => callsIn_wide.2 (AnyM.slices_Sort_int Tryz.sortA blk off cap ss W hH hblk hsz),
   fun p cap W => callsIn_wide.2 (AnyM.slices_Sort_int_none Tryz.sortA p cap W)⟩
set_option maxRecDepth 100000 in
set_option maxHeartbeats 1000000 in
theorem Sorted_any (g b nn : Nat) (f : Int → Option Value) (ks : List Int) (w : World) (hg : w.cell? ⟨g, 0, none⟩ = some (.map (some b))) (hM : MapI Tryz.prog w 3 b nn f) (hnn : nn ≤ 8796093022208) (hs : ks.Pairwise (· < ·)) (hk : ∀ x, x ∈ ks ↔ (f x).isSome = true) :
    Calls Tryz.prog 125 #[.func (.func 158) #[] #[.pointer (some ⟨g, 0, none⟩)]] w fun e w' => ∃ v, e = .returned v ∧ w'.ownsRow w.heap.size 3 1 v ks.length (ks.map vint) ∧ Below w.heap.size w w' := by
  obtain ⟨D, hown, _, hD⟩ := hM
  have hsz : Maps.size D ≤ nn := hown.size_le
  have hcol : CollectedI D (fun _ => false) ks := ⟨hs.imp (fun h => Int.ne_of_lt h), fun x => by rw [hk x, (hD x).1]; simp⟩
  have hper := hcol.perm hown (int_keyed Tryz.underlying3) Tryz.underlying3 (fun _ => rfl)
  have hseq : SeqGives Fence.wide 2 Tryz.prog 158 #[.pointer (some ⟨g, 0, none⟩)] encZ (fun ss => ss.Perm (intKeys D)) (Maps.size D) w :=
    AnyZI.keys_gives (ρ := Tryz.keysA_ren) { Tryz.keysA with } Fence.wide _ trivial rfl (by omega) g b nn D _ (by rcases Nat.lt_or_ge g w.heap.size with h | h; exact h; simp [World.cell?, Array.getElem?_eq_none h] at hg) hg hown
  have cS := AnyZI.sorted_in Tryz.sortedA Fence.wide 5 trivial trivial trivial trivial rfl (by omega) (sortsA _) (enters_of Tryz.func157 (by kernel_rfl) rfl) 158 #[.pointer (some ⟨g, 0, none⟩)] trivial (enters_of Tryz.func158 (by kernel_rfl) rfl) _ _ (by unfold maxLen; omega) (by omega) _ hseq
  refine (callsIn_wide (n := 5)).1 (cS.mono ?_)
  rintro e w' ⟨v, ss, rfl, hS, hrow, _, hb⟩
  have he : ss.mergeSort (fun x y => decide (x ≤ y)) = ks := by
    rw [mergeSort_of_perm_i (hS.trans hper.symm)]
    exact merge_asc hs
  rw [he] at hrow
  have hl : ss.length = ks.length := (hS.trans hper.symm).length_eq
  rw [hl] at hrow
  exact ⟨v, rfl, hrow, hb⟩
end Go.Proofs.YtncdjmpdbinanaaGreatDoor
namespace Go.Proofs.YtncdjmpdbinanaaGreatDoor
open Go.RowKit Go.Maps

def prVal (p : Pr) : Value := .agg #[.int .i64 p.id, .int .i64 p.nx, .int .i64 p.mt]
/-- what the map holds: the voters up to a place, the peers up to a place -/
def mapP (ks : List Int) (next : Int) (old : List Pr) : Int → Option Value := fun i => if i ∈ ks then some (prVal ((findP i old).getD ⟨i, next, 0⟩)) else none
theorem mapP_nil (next : Int) : (fun _ => none : Int → Option Value) = mapP [] next [] := by
  funext i
  simp [mapP]
theorem filt_take {self x : Int} {vs : List Int} {k : Nat} (hd : vs.drop k = x :: vs.drop (k + 1)) : (vs.take (k + 1)).filter (fun v => !(v == self)) = (vs.take k).filter (fun v => !(v == self)) ++ (if x = self then [] else [x]) := by
  rw [take_snoc hd, List.filter_append]
  by_cases h : x = self
  · simp [h]
  · simp [h]
theorem mapP_put {ks : List Int} {next x : Int} : updI (mapP ks next []) x (prVal ⟨x, next, 0⟩) = mapP (ks ++ [x]) next [] := by
  funext j
  unfold updI mapP
  by_cases h : j = x
  · subst h
    simp [findP]
  · simp [h]
theorem findP_snoc {i : Int} {p : Pr} : ∀ {l : List Pr}, (∀ q ∈ l, q.id ≠ p.id) → findP i (l ++ [p]) = if i = p.id then some p else findP i l
  | [], _ => by
    rw [List.nil_append]
    unfold findP
    by_cases h : p.id = i
    · rw [if_pos h, if_pos h.symm]
    · rw [if_neg h, if_neg (fun e => h e.symm)]
      rfl
  | q :: l, h => by
    rw [List.cons_append, findP, findP]
    have hq := h q (.head _)
    by_cases hi : q.id = i
    · rw [if_pos hi, if_pos hi, if_neg (fun e => hq (by rw [hi, e]))]
    · rw [if_neg hi, if_neg hi, findP_snoc (fun r hr => h r (.tail _ hr))]
theorem mapP_old_in {ks : List Int} {next : Int} {l : List Pr} {p : Pr} (h : ∀ q ∈ l, q.id ≠ p.id) (hk : p.id ∈ ks) : updI (mapP ks next l) p.id (prVal p) = mapP ks next (l ++ [p]) := by
  funext j
  unfold updI mapP
  rw [findP_snoc h]
  by_cases hj : j = p.id
  · rw [if_pos hj, if_pos (by rw [hj]; exact hk), if_pos hj]
    rfl
  · rw [if_neg hj, if_neg hj]
theorem mapP_old_out {ks : List Int} {next : Int} {l : List Pr} {p : Pr} (h : ∀ q ∈ l, q.id ≠ p.id) (hk : p.id ∉ ks) : mapP ks next l = mapP ks next (l ++ [p]) := by
  funext j
  unfold mapP
  rw [findP_snoc h]
  by_cases hj : j ∈ ks
  · rw [if_pos hj, if_pos hj, if_neg (fun e => hk (by rw [← e]; exact hj))]
  · rw [if_neg hj, if_neg hj]
theorem wf9 {x : Int} (h : 1 ≤ x ∧ x ≤ 9) : (Lit.int .i64 x).wf = true := by
  exact WalkArith.wf_i64 (by omega)
/-- peers are handed back -/
def RetPrs (w : World) (ps : List Pr) (e : Ending) (w' : World) : Prop := ∃ A n c, e = .returned (.slice A n c) ∧ Prs w' 0 A n ps ∧ n ≤ c ∧ Below w.heap.size w w'
theorem zeroPr (w : World) : (zeroValue 53).run Tryz.prog w = .ok (.agg #[.int .i64 0, .int .i64 0, .int .i64 0]) w := by
  obtain ⟨i0, hi0, hz0, _, _⟩ := info_parts prInfo
  simp [zeroValue, typeInfo, hi0, hz0]
set_option maxRecDepth 100000 in
set_option maxHeartbeats 12800000 in
theorem EPeers_any (vs : List Int) (self next : Int) (old : List Pr) (A : Option Addr) (n c : Nat) (A2 : Option Addr) (n2 c2 : Nat) (w : World) {B : Nat} (hv : Ints w B A n vs) (ho : Prs w B A2 n2 old)
    (hn : n ≤ 7) (hn2 : n2 ≤ 9) (hs : vs.Pairwise (· < ·)) (h9 : ∀ v ∈ vs, 1 ≤ v ∧ v ≤ 9) (hos : old.Pairwise (fun p q => p.id < q.id)) (ho9 : ∀ p ∈ old, 1 ≤ p.id ∧ p.id ≤ 9) :
    Calls Tryz.prog 70 #[.slice A n c, .int .i64 self, .int .i64 next, .slice A2 n2 c2] w (RetPrs w (peersF vs self next old)) := by
  have hmk := @run_makeMap Tryz.prog
  have hvlen := hv.len
  have holen := ho.len
  obtain ⟨X, hX⟩ : ∃ X, peersF vs self next old = X := ⟨_, rfl⟩
  rw [hX]
  replace hX := hid_mk hX
  obtain ⟨KS, hKS⟩ : ∃ KS, vs.filter (fun v => !(v == self)) = KS := ⟨_, rfl⟩
  have hKa : Hid (KS.Pairwise (· < ·)) := by rw [← hKS]; exact hs.filter _
  have hK9 : Hid (∀ v ∈ KS, 1 ≤ v ∧ v ≤ 9) := by rw [← hKS]; exact fun v hv => h9 v (List.mem_filter.1 hv).1
  have hKl : KS.length ≤ 7 := by rw [← hKS]; exact Nat.le_trans (List.length_filter_le _ _) (by omega)
  replace hKS := hid_mk hKS
  replace h9 := hid_mk h9
  replace ho9 := hid_mk ho9
  replace hos := hid_mk hos
  clear hs
  obtain ⟨gm, hgm⟩ : ∃ g, w.heap.size = g := ⟨_, rfl⟩
  have hM0 : Hid (MapI Tryz.prog (w.alloc (.map #[] 0)) 3 gm 0 (mapP [] next [])) := by rw [← hgm, ← mapP_nil]; exact MapI.made w Tryz.prog 3
  have hgw : w.heap.size ≤ gm := by omega
  have q0 : Below w.heap.size w (w.alloc (.map #[] 0)) := by go_grown
  obtain ⟨w0, hw0⟩ : ∃ x, w.alloc (.map #[] 0) = x := ⟨_, rfl⟩
  rw [hw0] at hM0 q0
  refine calls_of_wpQ Tryz.func70 rfl ?_
  intro Q hQ
  simp only [Tryz.ntmps70, List.size_toArray, List.length_cons, List.length_nil, Nat.reduceAdd, Nat.reduceSub, Array.replicate_succ, Array.replicate_zero, List.push_toArray, List.append_toArray, List.nil_append, List.cons_append]
  go_upto_region 2 with fail
  replace hw0 := hid_mk hw0
  replace hgm := hid_mk hgm
  go_wp2
  go_loopw [22] (fun iv wr => ∃ k : Nat, iv = .int .i64 k ∧ k ≤ n ∧ Below w.heap.size w wr ∧ Hid (MapI Tryz.prog wr 3 gm k (mapP ((vs.take k).filter (fun v => !(v == self))) next []))) (fun iv _ => n - (intOf iv).toNat)
  case atStart => exact ⟨0, rfl, Nat.zero_le _, q0, by simpa using hM0⟩
  case round =>
    clear hM0 q0
    obtain ⟨k, rfl, hk, hb, hM⟩ := hrel
    have zr := hb.size
    by_cases hkn : k < n
    · obtain ⟨bv, ov, x, hA, hbv, hdx, cx⟩ := (hv.to hb).at_ hkn
      subst hA
      have hx9 := h9.out x (List.mem_of_mem_drop (by rw [hdx.out]; exact .head _))
      have hft := hid_mk (filt_take (self := self) hdx.out)
      by_cases hx : x = self
      · have hxb : (x != self) = false := by simpa using hx
        have hM2 : Hid (MapI Tryz.prog wr 3 gm (k + 1) (mapP ((vs.take (k + 1)).filter (fun v => !(v == self))) next [])) := by
          rw [hft.out, if_pos hx, List.append_nil]
          exact hM.out.mono (by omega)
        replace hx := hid_mk hx
        go_wp2
        go_roundw
        case rel => exact ⟨k + 1, by go_num, by omega, hb, hM2⟩
        case measure => simp [intOf]; omega
      · have hxb : (x != self) = true := by simpa using hx
        have hwf := wf9 hx9
        rw [if_neg hx] at hft
        replace hx := hid_mk hx
        obtain ⟨fo, hfo⟩ : ∃ f, mapP ((vs.take k).filter (fun v => !(v == self))) next [] = f := ⟨_, rfl⟩
        have hup : Hid (updI fo x (.agg #[.int .i64 x, .int .i64 next, .int .i64 0]) = mapP ((vs.take (k + 1)).filter (fun v => !(v == self))) next []) := by
          rw [hft.out, ← hfo]
          exact mapP_put
        rw [hfo] at hM
        replace hfo := hid_mk hfo
        go_wp2_with (at_mapUpdate; refine mapI_update rfl _ _ _ 139 rfl 3 53 Tryz.underlying3 Tryz.underlying139 gm _ fo rfl hM.out (by unfold maxLen; omega) _ rfl hwf (.agg #[.int .i64 x, .int .i64 next, .int .i64 0]) rfl ?_; intro w6 hM6 hg6; have q6 : Below w.heap.size w w6 := grown_below hb hg6 (fun k hk => by cases hk; exact hgw); rw [hup.out] at hM6; replace hM6 := hid_mk hM6; clear hg6)
        go_roundw
        case rel => exact ⟨k + 1, by go_num, by omega, q6, hM6⟩
        case measure => simp [intOf]; omega
    · obtain rfl : n = k := by omega
      have hM1 : Hid (MapI Tryz.prog wr 3 gm n (mapP KS next (old.take 0))) := by
        have h := hM.out
        rw [List.take_of_length_le (by omega), hKS.out] at h
        exact h
      clear hM
      go_wp2
      go_loopw [37] (fun iv ws => ∃ k : Nat, iv = .int .i64 k ∧ k ≤ n2 ∧ Below w.heap.size w ws ∧ Hid (MapI Tryz.prog ws 3 gm (n + k) (mapP KS next (old.take k)))) (fun iv _ => n2 - (intOf iv).toNat)
      case atStart => exact ⟨0, rfl, Nat.zero_le _, hb, hM1⟩
      case round =>
        clear hM1 hb zr
        obtain ⟨k, rfl, hk2, hb, hM⟩ := hrel
        have zr := hb.size
        by_cases hkn2 : k < n2
        · obtain ⟨bv, ov, p, hA, hbv, hdx, c0, c1, c2'⟩ := (ho.to hb).at_ hkn2
          subst hA
          have hp9 := ho9.out p (List.mem_of_mem_drop (by rw [hdx]; exact .head _))
          have hwf := wf9 hp9
          have hdis : ∀ q ∈ old.take k, q.id ≠ p.id := fun q hq => by
            have h := hos.out
            rw [← List.take_append_drop k old, hdx] at h
            have := (List.pairwise_append.1 h).2.2 q hq p (.head _)
            omega
          have hnf : findP p.id (old.take k) = none := by
            cases hf : findP p.id (old.take k) with
            | none => rfl
            | some q => exact absurd (findP_mem hf).2 (hdis q (findP_mem hf).1)
          have hts : old.take (k + 1) = old.take k ++ [p] := take_snoc hdx
          obtain ⟨fo, hfo⟩ : ∃ f, mapP KS next (old.take k) = f := ⟨_, rfl⟩
          rw [hfo] at hM
          by_cases hin : p.id ∈ KS
          · have hf : Hid (fo p.id = some (.agg #[.int .i64 p.id, .int .i64 next, .int .i64 0])) := by
              rw [← hfo]
              unfold mapP
              rw [Hid, if_pos hin, hnf]
              rfl
            have hup : Hid (updI fo p.id (.agg #[.int .i64 p.id, .int .i64 p.nx, .int .i64 p.mt]) = mapP KS next (old.take (k + 1))) := by
              rw [Hid, ← hfo, hts]
              exact mapP_old_in hdis hin
            replace hfo := hid_mk hfo
            replace hdx := hid_mk hdx
            clear hin hdis hnf hts
            go_wp2_with (first | (at_lookup; refine mapI_lookup_ok rfl _ _ 139 rfl 3 53 Tryz.underlying3 Tryz.underlying139 (zeroPr _) gm _ fo rfl (hM.out.alloc _) _ rfl hwf (.agg #[.int .i64 p.id, .int .i64 next, .int .i64 0]) true (by rw [hf.out]; rfl) (by rw [hf.out]; rfl) ?_) | (at_mapUpdate; refine mapI_update rfl _ _ _ 139 rfl 3 53 Tryz.underlying3 Tryz.underlying139 gm _ fo rfl ((hM.out.alloc _).alloc _) (by unfold maxLen; omega) _ rfl hwf (.agg #[.int .i64 p.id, .int .i64 p.nx, .int .i64 p.mt]) rfl ?_; intro w6 hM6 hg6; have q6 : Below w.heap.size w w6 := grown_below (by go_grown) hg6 (fun k hk => by cases hk; exact hgw); rw [hup.out] at hM6; replace hM6 := hid_mk hM6; clear hg6))
            go_roundw
            case rel => exact ⟨k + 1, by go_num, by omega, q6, hM6⟩
            case measure => simp [intOf]; omega
          · have hf : Hid (fo p.id = none) := by
              rw [← hfo]
              unfold mapP
              rw [Hid, if_neg hin]
            have hM2 : Hid (MapI Tryz.prog wr 3 gm (n + k) (mapP KS next (old.take (k + 1)))) := by
              rw [hts, ← mapP_old_out hdis hin, hfo]
              exact hM.out
            replace hfo := hid_mk hfo
            replace hdx := hid_mk hdx
            clear hin hdis hnf hts
            go_wp2_with (at_lookup; refine mapI_lookup_ok rfl _ _ 139 rfl 3 53 Tryz.underlying3 Tryz.underlying139 (zeroPr _) gm _ fo rfl (hM.out.alloc _) _ rfl hwf (.agg #[.int .i64 0, .int .i64 0, .int .i64 0]) false (by rw [hf.out]; rfl) (by rw [hf.out]; rfl) ?_)
            go_roundw
            case rel => exact ⟨k + 1, by go_num, by omega, by go_grown, (((hM2.out.alloc _).alloc _).mono (by omega))⟩
            case measure => simp [intOf]; omega
        · obtain rfl : n2 = k := by omega
          have hM1 : Hid (MapI Tryz.prog wr 3 gm (n + n2) (mapP KS next old)) := by
            have h := hM.out
            rw [List.take_of_length_le (by omega)] at h
            exact h
          have hXv : Hid (X = KS.map (fun v => (findP v old).getD ⟨v, next, 0⟩)) := by
            rw [Hid, ← hX.out, ← hKS.out]
            rfl
          obtain ⟨fo, hfo⟩ : ∃ f, mapP KS next old = f := ⟨_, rfl⟩
          rw [hfo] at hM1
          have hfk : Hid (∀ x, x ∈ KS ↔ (fo x).isSome = true) := fun x => by
            rw [← hfo]
            unfold mapP
            by_cases h : x ∈ KS <;> simp [h]
          have hfv : Hid (∀ x, x ∈ KS → fo x = some (prVal ((findP x old).getD ⟨x, next, 0⟩))) := fun x hx => by
            rw [← hfo]
            unfold mapP
            rw [if_pos hx]
          replace hfo := hid_mk hfo
          clear hM
          go_wp2_with fail
          refine (Keys_any gm _).mono ?_
          rintro e w7 ⟨rfl, hw7⟩
          have hM7 : Hid (MapI Tryz.prog w7 3 gm (n + n2) fo) := by rw [hw7]; exact hM1.out.alloc _
          have hc7 : w7.cell? ⟨wr.heap.size, 0, none⟩ = some (.map (some gm)) := by rw [hw7]; simp
          have q7 : Below w.heap.size w w7 := by rw [hw7]; go_grown
          clear hw7 hM1
          go_wp2_with fail
          refine (Sorted_any _ gm _ fo KS _ hc7 hM7.out (by omega) hKa.out hfk.out).mono ?_
          rintro e w8 ⟨v8, rfl, hk8, hb8⟩
          have q8 := (after (w := w) hb8 q7).1
          replace hM7 := hid_mk (hM7.out.to hb8)
          obtain ⟨A8, c8, rfl, _, _⟩ := own_slice hk8
          have hI8 : Hid (Ints w8 0 A8 KS.length KS) := Reads.of_own hk8
          clear hk8 hb8 q7 hc7
          obtain ⟨i0, hi0, hz0, hz1, hz2⟩ := info_parts prInfo
          obtain ⟨F, hF⟩ : ∃ F, (fun v => (findP v old).getD ⟨v, next, 0⟩ : Int → Pr) = F := ⟨_, rfl⟩
          have hfv2 : Hid (∀ x, x ∈ KS → fo x = some (.agg #[.int .i64 (F x).id, .int .i64 (F x).nx, .int .i64 (F x).mt])) := fun x hx => by
            rw [hfv.out x hx, ← hF]
            rfl
          have hXv2 : Hid (X = KS.map F) := by rw [Hid, hXv.out, ← hF]
          replace hF := hid_mk hF
          clear hfv hXv hfk
          obtain ⟨kn, hkn'⟩ : ∃ x, KS.length = x := ⟨_, rfl⟩
          rw [hkn'] at hKl hI8 ⊢
          replace hkn' := hid_mk hkn'
          go_wp2
          go_loopw [16, 58] (fun o iv wt => ∃ k : Nat, iv = .int .i64 k ∧ k ≤ kn ∧ Below w.heap.size w wt ∧ Hid (MapI Tryz.prog wt 3 gm (n + n2) fo) ∧ Hid (wt.ownsRow w.heap.size 53 3 o k (prsL ((KS.take k).map F))) ∧ Hid (Ints wt 0 A8 kn KS)) (fun _ iv _ => kn - (intOf iv).toNat)
          case atStart => exact ⟨0, rfl, Nat.zero_le _, q8, hM7, World.ownsRow_nil _ _ _ _, hI8⟩
          case round =>
            clear hM7 hI8 q8
            obtain ⟨k, rfl, hk, hb, hM, hown, hI⟩ := hrel
            have zr := hb.size
            obtain ⟨Ao, co, rfl, ho1, ho2⟩ := own_slice hown.out
            by_cases hkn3 : k < kn
            · obtain ⟨bv, ov, x, hA, hbv, hdx, cx⟩ := hI.out.at_ hkn3
              subst hA
              have hxK : x ∈ KS := List.mem_of_mem_drop (by rw [hdx.out]; exact .head _)
              have hwf := wf9 (hK9.out x hxK)
              have hf := hid_mk (hfv2.out x hxK)
              have hts : Hid ((KS.take (k + 1)).map F = (KS.take k).map F ++ [F x]) := by
                rw [Hid, take_snoc hdx.out, List.map_append]
                rfl
              obtain ⟨⟨fi, fn, fm⟩, hFx⟩ : ∃ p, F x = p := ⟨_, rfl⟩
              rw [hFx] at hf hts
              dsimp only at hf
              clear hFx hxK
              replace hdx := hid_mk hdx
              have hnB : Blk (wr.alloc (.cells #[.int .i64 fi, .int .i64 fn, .int .i64 fm] 53)) wr.heap.size 53 #[.int .i64 fi, .int .i64 fn, .int .i64 fm] := Blk.new _ _ _
              have hnew : Hid (Reads (wr.alloc (.cells #[.int .i64 fi, .int .i64 fn, .int .i64 fm] 53)) 0 53 3 (some ⟨wr.heap.size, 0, none⟩) 1 (prsL [⟨fi, fn, fm⟩])) := reads_new wr #[.int .i64 fi, .int .i64 fn, .int .i64 fm] 53 1 3 0 rfl
              have hown2 := hid_mk (hown.out.alloc (.cells #[.int .i64 fi, .int .i64 fn, .int .i64 fm] 53))
              have hM2 := hid_mk (hM.out.alloc (.cells #[.int .i64 fi, .int .i64 fn, .int .i64 fm] 53))
              have hI2 : Hid (Ints (wr.alloc (.cells #[.int .i64 fi, .int .i64 fn, .int .i64 fm] 53)) 0 (some ⟨bv, ov, none⟩) kn KS) := hI.out.to (by go_grown)
              clear hnB
              go_wp2_with (first | (at_lookup; refine mapI_lookup rfl _ _ 139 rfl 3 53 Tryz.underlying3 Tryz.underlying139 (zeroPr _) gm _ fo rfl hM.out _ rfl hwf (.agg #[.int .i64 fi, .int .i64 fn, .int .i64 fm]) (by rw [hf.out]; rfl) ?_) | (at_builtin; refine wpList_append_any _ rfl (.tmp 62) (.tmp 66) _ rfl w.heap.size 53 i0 _ 3 24 Tryz.underlying28 hi0 hz0 hz1 hz2 rfl (by omega) _ k _ rfl hown2.out 0 (some ⟨wr.heap.size, 0, none⟩) 1 1 _ rfl hnew.out (pr_one _) (by simp only [maxLen]; omega) (by omega) (by simp only [World.size_alloc]; omega) ?_; intro v1 wa hown3 hga hat3))
              have qa : Below w.heap.size w wa := grown_below (by go_grown) hga (fun k hk => (World.ownsRow.lt hown2.out k hk).1)
              have hMa := hid_mk (hM2.out.grown hga (map_ne_own hM2.out hown2.out))
              have hIa : Hid (Ints wa 0 (some ⟨bv, ov, none⟩) kn KS) := reads_stay hI2.out hga (fun k hk => by
                obtain ⟨cs, fr, h⟩ := own_typedS hown2.out k hk
                exact ⟨_, cs, fr, h, by decide⟩)
              have hrow : Hid (wa.ownsRow w.heap.size 53 3 v1 (k + 1) (prsL ((KS.take (k + 1)).map F))) := by
                rw [hts.out]
                unfold prsL at hown3 ⊢
                rw [List.flatMap_append]
                exact hown3
              clear hown3 hga hat3 hnew hown2 hM2 hI2
              go_roundw
              case rel => exact ⟨k + 1, by go_num, by omega, qa, hMa, hrow, hIa⟩
              case measure => simp [intOf]; omega
            · obtain rfl : kn = k := by omega
              have hP : Hid (Prs wr 0 Ao kn X) := by
                have h := Reads.of_own (B := 0) hown.out
                rw [List.take_of_length_le (by rw [hkn'.out]; exact Nat.le_refl _), ← hXv2.out] at h
                exact h
              clear hown hM hI
              go_wp2
              refine ends_ret hQ (results_tmp rfl _ _ _) rfl ?_
              exact ⟨Ao, kn, co, rfl, hP.out, ho1, hb⟩
end Go.Proofs.YtncdjmpdbinanaaGreatDoor
