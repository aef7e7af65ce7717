/-
  WHAT IS PROVED HERE: what the reference's Made.of, Made.crown, Leaf and Right hand back. Conditions: texts of at most 2^47 - 4096 bytes.
-/
import Derived.Test.YtlnncpilgpafdaaMrk2
import Derived.Test.YtlnncpilgpafdaaRef4
namespace Go.Proofs.Ytlnncpilgpafdaa
open Go.RowKit

/-- all but block g and row r are as they were -/
structure TwoM (w w' : World) (g : Nat) (r : Option Nat) : Prop where
  os : w'.os = w.os
  tape : w'.tape = w.tape
  output : w'.output = w.output
  size : w.heap.size ≤ w'.heap.size
  block : ∀ k, k < w.heap.size → k ≠ g → some k ≠ r → w'.heap[k]? = w.heap[k]?
/-- where an own row has come to lie -/
def Moved (w : World) (r r' : Option Nat) : Prop := r' = r ∨ ∃ k, r' = some k ∧ w.heap.size ≤ k
section
variable {w w' w'' : World} {g : Nat} {r r' r'' : Option Nat}
theorem TwoM.refl (w : World) (g : Nat) (r : Option Nat) : TwoM w w g r := ⟨rfl, rfl, rfl, Nat.le_refl _, fun _ _ _ _ => rfl⟩
theorem TwoM.trans (h : TwoM w w' g r) (hm : Moved w r r') (k : TwoM w' w'' g r') : TwoM w w'' g r :=
  ⟨k.os.trans h.os, k.tape.trans h.tape, k.output.trans h.output, Nat.le_trans h.size k.size, fun i hi h1 h2 => (k.block i (Nat.lt_of_lt_of_le hi h.size) h1 (fun e => by
    rcases hm with hm | ⟨j, hj, hl⟩
    · exact h2 (e.trans hm)
    · rw [hj] at e; injection e with e; omega)).trans (h.block i hi h1 h2)⟩
theorem Moved.refl (w : World) (r : Option Nat) : Moved w r r := .inl rfl
theorem Moved.trans (h : Moved w r r') (hs : w.heap.size ≤ w'.heap.size) (k : Moved w' r' r'') : Moved w r r'' := by
  rcases k with k | ⟨j, hj, hl⟩
  · rw [k]; exact h
  · exact .inr ⟨j, hj, by omega⟩
theorem TwoM.of_row (h : w.grownBy w' r) : TwoM w w' g r := ⟨h.os, h.tape, h.output, h.size, fun i hi _ h2 => h.block i hi h2⟩
theorem TwoM.of_below (h : Below w.heap.size w w') : TwoM w w' g r := ⟨h.os, h.tape, h.output, h.size, fun i hi _ _ => h.block i hi⟩
theorem TwoM.set_ (h : TwoM w w' g r) (i : Nat) (v : Value) : TwoM w (w'.setCell ⟨g, i, none⟩ v) g r :=
  ⟨h.os, h.tape, h.output, by simpa [World.setCell] using h.size, fun k hk h1 h2 => (Below.heap_setCell _ _ _ _ h1).trans (h.block k hk h1 h2)⟩
theorem TwoM.drew (h : TwoM w w' g r) : TwoM w w'.drew g r := ⟨h.os, h.tape, h.output, h.size, h.block⟩
theorem TwoM.undrew (h : TwoM w.drew w' g r) : TwoM w w' g r := ⟨h.os, h.tape, h.output, h.size, h.block⟩
theorem TwoM.below {W : World} {B : Nat} (h : TwoM w w' g r) (hb : Below B W w) (hB : B ≤ w.heap.size) (hg : B ≤ g) (hr : ∀ k, r = some k → B ≤ k) : Below B W w' :=
  hb.trans ⟨h.os, h.tape, h.output, h.size, fun k hk => h.block k (by omega) (by omega) (fun e => by have := hr k e.symm; omega)⟩
theorem TwoM.cell (h : TwoM w w' g r) {b : Nat} (hb : b < w.heap.size) (h1 : b ≠ g) (h2 : r ≠ some b) (o : Nat) : w'.cell? ⟨b, o, none⟩ = w.cell? ⟨b, o, none⟩ :=
  World.cell?_of_block (a := ⟨b, o, none⟩) (h.block b hb h1 (fun e => h2 e.symm))
theorem TwoM.fresh (h : TwoM w w' g r) (hr : ∀ k, r' = some k → w.heap.size ≤ k) (k : w'.grownBy w'' r') : TwoM w w'' g r :=
  ⟨k.os.trans h.os, k.tape.trans h.tape, k.output.trans h.output, Nat.le_trans h.size k.size, fun i hi h1 h2 => (k.block i (Nat.lt_of_lt_of_le hi h.size) (fun e => by have := hr i e.symm; omega)).trans (h.block i hi h1 h2)⟩
/-- a slice away from block g and row r -/
def Away (A : Option Addr) (g : Nat) (r : Option Nat) : Prop := ∀ b o, A = some ⟨b, o, none⟩ → b ≠ g ∧ r ≠ some b
theorem Reads.two {B size n : Nat} {e : TypeId} {A : Option Addr} {xs : List Value} (h : Reads w B e size A n xs) (hT : TwoM w w' g r) (ha : Away A g r) : Reads w' w'.heap.size e size A n xs :=
  ⟨h.1, fun hn => by
    obtain ⟨b, o, ea, hlt, _, hc⟩ := h.2 hn
    have hlt2 : b < w'.heap.size := Nat.lt_of_lt_of_le hlt hT.size
    exact ⟨b, o, ea, hlt2, .inl hlt2, fun j u hu => (hT.cell hlt (ha b o ea).1 (ha b o ea).2 _).trans (hc j u hu)⟩⟩
theorem Away.move {B size n : Nat} {e : TypeId} {A : Option Addr} {xs : List Value} (ha : Away A g r) (h : Reads w B e size A n xs) (hn : 0 < n) (hm : Moved w r r') : Away A g r' := by
  intro b o hbo
  refine ⟨(ha b o hbo).1, fun e2 => ?_⟩
  rcases hm with hm | ⟨k, hk, hl⟩
  · exact (ha b o hbo).2 (hm ▸ e2)
  · obtain ⟨b2, o2, ea, hlt, _⟩ := h.2 hn
    rw [hbo] at ea
    injection ea with ea
    injection ea with ea
    rw [hk] at e2
    injection e2 with e2
    omega
/-- another row of the call's own stays -/
theorem OwnM.two {B n : Nat} {e t : TypeId} {v : Value} {xs : List Value} {cs : Array Value} (h : OwnM w B e v n xs) (hg : Blk w g t cs) (hne : e ≠ t) (hT : TwoM w w' g r) (hr : ∀ k, v.ownBlock = some k → r ≠ some k) : OwnM w' B e v n xs := by
  have h1 := h.ne_ hg hne
  refine ⟨h.1, ?_⟩
  rcases h.2 with h2 | ⟨b, cap, cur, fz, rfl, hB, hh, rest⟩
  · exact .inl h2
  · refine .inr ⟨b, cap, cur, fz, rfl, hB, (hT.block b (Array.getElem?_eq_some_iff.1 hh).1 (fun e => h1 (by rw [e]; rfl)) (fun e => hr b rfl e.symm)).trans hh, rest⟩
end

/-- two rows of the call's own stay apart when one has moved -/
theorem apart_moved {w : World} {r r' : Option Nat} {v : Value} (hap : ∀ k, v.ownBlock = some k → r ≠ some k) (hlt : ∀ k, v.ownBlock = some k → k < w.heap.size) (hm : Moved w r r') : ∀ k, v.ownBlock = some k → r' ≠ some k := by
  intro k hk e
  rcases hm with hm | ⟨j, hj, hl⟩
  · exact hap k hk (hm ▸ e)
  · have := hlt k hk
    rw [hj] at e
    injection e with e
    omega
theorem apart_grown {w : World} {r : Option Nat} {v v' : Value} (hap : ∀ k, v.ownBlock = some k → r ≠ some k) (hlt : ∀ k, r = some k → k < w.heap.size) (hm : v'.ownBlock = v.ownBlock ∨ ∃ k, v'.ownBlock = some k ∧ w.heap.size ≤ k) : ∀ k, v'.ownBlock = some k → r ≠ some k := by
  intro k hk e
  rcases hm with hm | ⟨j, hj, hl⟩
  · exact hap k (hm ▸ hk) e
  · have := hlt k e
    rw [hj] at hk
    injection hk with hk
    omega
/-- A Made in block g that has had the texts ts; v: its slice. -/
def MadeIs (w : World) (B g : Nat) (v : Value) (ts : List ByteArray) : Prop := B ≤ g ∧ Blk w g 25 #[v] ∧ OwnM w B 9 v ts.length (ts.map vstr)
section
variable {w w' : World} {B g : Nat} {v : Value} {ts : List ByteArray}
theorem MadeIs.keep (h : MadeIs w B g v ts) (hb : Below w.heap.size w w') : MadeIs w' B g v ts := ⟨h.1, h.2.1.keep hb, h.2.2.below hb⟩
theorem MadeIs.low (h : MadeIs w B g v ts) : ∀ k, v.ownBlock = some k → B ≤ k := fun k hk => (h.2.2.lt k hk).1
theorem MadeIs.lt (h : MadeIs w B g v ts) : g < w.heap.size := h.2.1.lt
/-- another row of the call's own has grown -/
theorem MadeIs.grow {row : Option Nat} (h : MadeIs w B g v ts) (hs : Stay 9 w w') (hg : w.grownBy w' row) (hne : ∀ k, v.ownBlock = some k → row ≠ some k) : MadeIs w' B g v ts := by
  refine ⟨h.1, hs g _ _ h.2.1 (by decide), h.2.2.kept hg ?_⟩
  rcases hv : v.ownBlock with _ | k
  · exact .inl rfl
  · exact .inr (fun e => hne k hv e.symm)
/-- another Made has had texts -/
theorem MadeIs.other {g2 : Nat} {v2 : Value} {ts2 : List ByteArray} (h2 : MadeIs w B g2 v2 ts2) (h : MadeIs w B g v ts) (hne : g2 ≠ g) (hv : ∀ k, v2.ownBlock = some k → v.ownBlock ≠ some k) (k : TwoM w w' g v.ownBlock) : MadeIs w' B g2 v2 ts2 := by
  have e1 : some g2 ≠ v.ownBlock := h.2.2.ne_ h2.2.1 (by decide)
  exact ⟨h2.1, (k.block g2 h2.2.1.lt hne e1).trans h2.2.1, h2.2.2.two h.2.1 (by decide) k hv⟩
end
def RetMOf (B g : Nat) (v : Value) (ts : List ByteArray) (D : ByteArray) (w : World) (e : Ending) (w' : World) : Prop :=
  ∃ v', e = .returned (.string D) ∧ MadeIs w' B g v' ts ∧ TwoM w w' g v.ownBlock ∧ Moved w v.ownBlock v'.ownBlock
set_option maxHeartbeats 800000 in
theorem MOf_any {W w : World} (hb : Below W.heap.size W w) (g : Nat) (v : Value) (ts : List ByteArray) (s : ByteArray) (h : MadeIs w W.heap.size g v ts) (hs : s.size ≤ 140737488351232) (hts : ts.length ≤ 1000000) :
    Calls Try.prog 23 #[.pointer (some ⟨g, 0, none⟩), .string s] w (RetMOf W.heap.size g v (ts ++ [s]) (dB s) w) := by
  obtain ⟨j0, hj0, hjz, hj1, hj2⟩ := info_parts16 strJ
  obtain ⟨hBg, hg, hown⟩ := h
  obtain ⟨A, c, rfl, hc, _⟩ := hown.slice
  have c0 : w.cell? ⟨g, 0, none⟩ = some (.slice A ts.length c) := hg.cell 0
  have f0 := hg.frozen 0
  have hgl := hg.lt
  have hgne := hown.ne_ hg (by decide)
  obtain ⟨n, hn⟩ : ∃ n, ts.length = n := ⟨_, rfl⟩
  rw [hn] at hown c0 hg hgne hts ⊢
  replace hn := hid_mk hn
  replace hg := hid_mk hg
  replace hgne := hid_mk hgne
  refine calls_of_wpQ Try.func23 rfl ?_
  intro Q hQ
  simp only [Try.ntmps23, List.size_toArray, List.length_cons, List.length_nil, Nat.reduceAdd, Nat.reduceSub, Array.replicate_succ, Array.replicate_zero, List.push_toArray, List.append_toArray, List.nil_append, List.cons_append]
  go_wp2_with (at_builtin; refine wpl_append_new rfl (.tmp 9) (.tmp 11) 22 rfl 9 j0 _ 16 Try.underlying22 hj0 hjz hj1 hj2 rfl hb (.slice A n c) n _ rfl hown ([s].map vstr) 1 1 rfl _ rfl (by simp [Act.eval]) (vstr_one _) (by omega) (by omega) ?_; intro A5 c5 w5 hown5 hc5 q5 st hs5; rw [← List.map_append] at hown5; have hg5 := st.stay _ _ _ hg.out (by decide); have d0 : w5.cell? ⟨g, 0, none⟩ = some (.slice A n c) := hg5.cell 0; have e0 := hg5.frozen 0; have hgl5 := hg5.lt; replace hg5 := hid_mk hg5; clear c0 f0)
  have hM : Hid (MadeIs (w5.setCell ⟨g, 0, none⟩ (.slice A5 (n + 1) c5)) W.heap.size g (.slice A5 (n + 1) c5) (ts ++ [s])) := by
    refine ⟨hBg, hg5.out.set_ 0 _, ?_⟩
    rw [List.length_append, hn.out]
    exact hown5.far hg5.out (by decide) 0 _
  have hT : Hid (TwoM w (w5.setCell ⟨g, 0, none⟩ (.slice A5 (n + 1) c5)) g (Value.slice A n c).ownBlock) := (TwoM.of_row st.grown).set_ 0 _
  have hmv : Hid (Moved w (Value.slice A n c).ownBlock (Value.slice A5 (n + 1) c5).ownBlock) := st.at_
  clear hown5 st hown d0 e0
  refine (ROf_any s _ hs).mono ?_
  rintro e w2 ⟨rfl, hb2⟩
  have hM2 := hM.out.keep hb2
  have hT2 := hT.out.trans hmv.out (TwoM.of_below hb2)
  go_wp2
  refine ends_ret hQ (results_tmp rfl _ _ _) rfl ?_
  exact ⟨_, rfl, hM2, hT2, hmv.out⟩
theorem MCrown_any {W w : World} (hb : Below W.heap.size W w) (g : Nat) (v : Value) (ts : List ByteArray) (n : Nat) (top : ByteArray) (h : MadeIs w W.heap.size g v ts) (hn : n ≤ 1000000) (ht : top.size ≤ 137438953472) (hts : ts.length ≤ 1000000) :
    Calls Try.prog 24 #[.pointer (some ⟨g, 0, none⟩), .int .i64 n, .string top] w (RetMOf W.heap.size g v (ts ++ [crownT n top]) (dB (crownT n top)) w) := by
  have hC : (Lib.byteCells [2, UInt8.ofNat (n / 16777216), UInt8.ofNat (n / 65536), UInt8.ofNat (n / 256), UInt8.ofNat n]).toArray = #[.int .u8 2, .int .u8 ((n : Int) / 16777216), .int .u8 ((n : Int) / 65536 % 256), .int .u8 ((n : Int) / 256 % 256), .int .u8 ((n : Int) % 256)] := by
    unfold Lib.byteCells
    simp [UInt8.toNat_ofNat']
    omega
  have hrow := reads_new w (Lib.byteCells [2, UInt8.ofNat (n / 16777216), UInt8.ofNat (n / 65536), UInt8.ofNat (n / 256), UInt8.ofNat n]).toArray 5 5 1 w.heap.size rfl
  have hcv := conv_row (c := 5) hrow
  rw [hC] at hcv
  have hT : Hid ((⟨[2, UInt8.ofNat (n / 16777216), UInt8.ofNat (n / 65536), UInt8.ofNat (n / 256), UInt8.ofNat n].toArray⟩ : ByteArray) ++ top = crownT n top) := rfl
  obtain ⟨hd, hhd⟩ : ∃ hd : ByteArray, (⟨[2, UInt8.ofNat (n / 16777216), UInt8.ofNat (n / 65536), UInt8.ofNat (n / 256), UInt8.ofNat n].toArray⟩ : ByteArray) = hd := ⟨_, rfl⟩
  rw [hhd] at hT hcv
  have hs5 : hd.size = 5 := by rw [← hhd]; rfl
  have hs : (crownT n top).size ≤ 140737488351232 := by rw [← hT.out, ByteArray.size_append]; omega
  have hs6 : hd.size ≤ 5 := by omega
  replace h := hid_mk h
  clear hC hrow hhd hs5
  refine calls_of_wpQ Try.func24 rfl ?_
  intro Q hQ
  simp only [Try.ntmps24, List.size_toArray, List.length_cons, List.length_nil, Nat.reduceAdd, Nat.reduceSub, Array.replicate_succ, Array.replicate_zero, List.push_toArray, List.append_toArray, List.nil_append, List.cons_append]
  go_wp2_with fail
  rw [hT.out]
  have hM := h.out.keep (w' := w.alloc (.cells #[.int .u8 2, .int .u8 ((n : Int) / 16777216), .int .u8 ((n : Int) / 65536 % 256), .int .u8 ((n : Int) / 256 % 256), .int .u8 ((n : Int) % 256)] 5)) (by go_grown)
  refine (MOf_any (hb.alloc hb.size _) g v ts (crownT n top) hM hs hts).mono ?_
  rintro e w1 ⟨v', rfl, hM1, hT1, hm1⟩
  have hT2 : TwoM w w1 g v.ownBlock := TwoM.trans (TwoM.of_below (by go_grown)) (Moved.refl _ _) hT1
  have hm2 : Moved w v.ownBlock v'.ownBlock := Moved.trans (Moved.refl _ _) (by simp) hm1
  go_wp2
  refine ends_ret hQ (results_tmp rfl _ _ _) rfl ?_
  exact ⟨v', rfl, hM1, hT2, hm2⟩
theorem RLeaf_any (c : ByteArray) (w : World) (hc : c.size ≤ 137438953472) :
    Calls Try.prog 18 #[.string c] w fun e w' => e = .returned (.string (dB (leafT c))) ∧ Below w.heap.size w w' := by
  have hT : Hid ((⟨#[0]⟩ : ByteArray) ++ c = leafT c) := rfl
  have hs : (leafT c).size ≤ 140737488351232 := by
    unfold leafT
    rw [ByteArray.size_append]
    have : (⟨#[0]⟩ : ByteArray).size = 1 := rfl
    omega
  refine calls_of_wpQ Try.func18 rfl ?_
  intro Q hQ
  simp only [Try.ntmps18, List.size_toArray, List.length_cons, List.length_nil, Nat.reduceAdd, Nat.reduceSub, Array.replicate_succ, Array.replicate_zero, List.push_toArray, List.append_toArray, List.nil_append, List.cons_append]
  go_wp2_with fail
  rw [hT.out]
  refine (ROf_any (leafT c) _ hs).mono ?_
  rintro e w1 ⟨rfl, hb1⟩
  go_wp2
  refine ends_ret hQ (results_tmp rfl _ _ _) rfl ?_
  exact ⟨rfl, hb1⟩
theorem RRight_any (A : Option Addr) (n cap : Nat) (ss : List ByteArray) (w : World) {B : Nat} (h : Strs w B A n ss) (hn : n ≤ 8796093022208) :
    Calls Try.prog 14 #[.slice A n cap] w fun e w' => e = .returned (.int .i64 (rightS ss)) ∧ w = w' := by
  have hl := hid_mk h.len
  by_cases hlen : 4096 < n
  · have hr : Hid (rightS ss = 2) := by unfold Hid rightS; rw [if_pos (by rw [hl.out]; exact hlen)]
    refine calls_of_wpQ Try.func14 rfl ?_
    intro Q hQ
    simp only [Try.ntmps14, List.size_toArray, List.length_cons, List.length_nil, Nat.reduceAdd, Nat.reduceSub, Array.replicate_succ, Array.replicate_zero, List.push_toArray, List.append_toArray, List.nil_append, List.cons_append]
    go_wp2
    refine ends_ret hQ (results_tmp rfl _ _ _) rfl ?_
    exact ⟨by rw [hr.out]; rfl, rfl⟩
  · have hr : Hid (rightS ss = if ss.any bad32 = true then 1 else 0) := by unfold Hid rightS; rw [if_neg (by rw [hl.out]; exact hlen)]
    refine calls_of_wpQ Try.func14 rfl ?_
    intro Q hQ
    simp only [Try.ntmps14, List.size_toArray, List.length_cons, List.length_nil, Nat.reduceAdd, Nat.reduceSub, Array.replicate_succ, Array.replicate_zero, List.push_toArray, List.append_toArray, List.nil_append, List.cons_append]
    go_wp2
    go_loop [10] (fun i => ∃ k : Nat, k ≤ n ∧ i = .int .i64 k ∧ Hid (ss.any bad32 = (ss.drop k).any bad32)) (fun i => n - (intOf i).toNat)
    case atStart => exact ⟨0, Nat.zero_le _, rfl, rfl⟩
    case round =>
      obtain ⟨k, hk, rfl, hany⟩ := hrel
      by_cases hlt : k < n
      · obtain ⟨b, o, s, rfl, _, hdr, hsk, hcell⟩ := h.at_ hlt
        replace hsk := hid_mk hsk
        by_cases h32 : s.size = 32
        · have hd : ((s.size : Int) != 32) = false := by simp; omega
          have hb0 : bad32 s = false := by unfold bad32; simp [h32]
          have hany2 : Hid (ss.any bad32 = (ss.drop (k + 1)).any bad32) := by rw [Hid, hany.out, hdr.out, List.any_cons, hb0, Bool.false_or]
          replace h32 := hid_mk h32
          replace hb0 := hid_mk hb0
          go_wp2
          go_round
          case rel => exact ⟨k + 1, by omega, by go_num, hany2⟩
          case measure => simp [intOf]; omega
        · have hd : ((s.size : Int) != 32) = true := by simp; omega
          have hb0 : bad32 s = true := by unfold bad32; simp [h32]
          have hany2 : Hid (ss.any bad32 = true) := by rw [Hid, hany.out, hdr.out, List.any_cons, hb0, Bool.true_or]
          replace h32 := hid_mk h32
          replace hb0 := hid_mk hb0
          go_wp2
          refine ends_ret hQ (results_tmp rfl _ _ _) rfl ?_
          exact ⟨by rw [hr.out, hany2.out]; rfl, rfl⟩
      · have hend := h.end_ hk hlt
        have hany2 : Hid (ss.any bad32 = false) := by rw [Hid, hany.out, hend]; rfl
        replace hend := hid_mk hend
        go_wp2
        refine ends_ret hQ (results_tmp rfl _ _ _) rfl ?_
        exact ⟨by rw [hr.out, hany2.out]; rfl, rfl⟩
end Go.Proofs.Ytlnncpilgpafdaa
