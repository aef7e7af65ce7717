/-
  WHAT IS PROVED HERE: what digest's New and Add hand back. Conditions: texts of at most 2^40 bytes.
-/
import Derived.Test.YtngaeencnklbdaaShaP
import Derived.Test.YtngaeencnklbdaaByt
namespace Go.Proofs.Ytngaeencnklbdaa
open Go.RowKit

/-- all but block g and row r are as they were -/
structure Two (w w' : World) (g : Nat) (r : Option Nat) : Prop where
  os : w'.os = w.os
  tape : w'.tape = w.tape
  output : w'.output = w.output
  size : w.heap.size ≤ w'.heap.size
  block : ∀ k, k < w.heap.size → k ≠ g → some k ≠ r → w'.heap[k]? = w.heap[k]?
section
variable {w w' w'' : World} {g : Nat} {r : Option Nat}
theorem Two.refl (w : World) (g : Nat) (r : Option Nat) : Two w w g r := ⟨rfl, rfl, rfl, Nat.le_refl _, fun _ _ _ _ => rfl⟩
theorem Two.trans (h : Two w w' g r) (k : Two w' w'' g r) : Two w w'' g r :=
  ⟨k.os.trans h.os, k.tape.trans h.tape, k.output.trans h.output, Nat.le_trans h.size k.size, fun i hi h1 h2 => (k.block i (Nat.lt_of_lt_of_le hi h.size) h1 h2).trans (h.block i hi h1 h2)⟩
theorem Two.of_g (h : w.grownBy w' (some g)) : Two w w' g r := ⟨h.os, h.tape, h.output, h.size, fun i hi h1 _ => h.block i hi (fun e => h1 (Option.some.inj e))⟩
theorem Two.of_r (h : w.grownBy w' r) : Two w w' g r := ⟨h.os, h.tape, h.output, h.size, fun i hi _ h2 => h.block i hi h2⟩
theorem Two.of_none (h : w.grownBy w' none) : Two w w' g r := ⟨h.os, h.tape, h.output, h.size, fun i hi _ _ => h.block i hi (by simp)⟩
theorem Two.of_below (h : Below w.heap.size w w') : Two w w' g r := ⟨h.os, h.tape, h.output, h.size, fun i hi _ _ => h.block i hi⟩
theorem Two.set_ (h : Two w w' g r) (i : Nat) (v : Value) : Two w (w'.setCell ⟨g, i, none⟩ v) g r :=
  ⟨h.os, h.tape, h.output, by simpa [World.setCell] using h.size, fun k hk h1 h2 => (Below.heap_setCell _ _ _ _ h1).trans (h.block k hk h1 h2)⟩
theorem Two.drew (h : Two w w' g r) : Two w w'.drew g r := ⟨h.os, h.tape, h.output, h.size, h.block⟩
theorem Two.below {W : World} {B : Nat} (h : Two w w' g r) (hb : Below B W w) (hB : B ≤ w.heap.size) (hg : B ≤ g) (hr : ∀ k, r = some k → B ≤ k) : Below B W w' :=
  hb.trans ⟨h.os, h.tape, h.output, h.size, fun k hk => h.block k (by omega) (by omega) (fun e => by have := hr k e.symm; omega)⟩
theorem Reads.gb {B size n : Nat} {e : TypeId} {A : Option Addr} {xs : List Value} {t : TypeId} {cs : Array Value} (h : Reads w B e size A n xs) (k : Blk w g t cs) (hg : B ≤ g) (hne : e ≠ t) (hb : w.grownBy w' (some g)) : Reads w' B e size A n xs :=
  ⟨h.1, fun hn => by
    obtain ⟨b, o, ea, hlt, ht, hc⟩ := h.2 hn
    have hbg : b ≠ g := by
      rintro rfl
      rcases ht with ht | ⟨cs', fr, ht⟩
      · omega
      · unfold Blk at k; rw [k] at ht; injection ht with ht; injection ht with _ h2; exact hne h2.symm
    have hblk := hb.block b hlt (fun e => hbg (Option.some.inj e))
    refine ⟨b, o, ea, Nat.lt_of_lt_of_le hlt hb.size, ?_, fun j u' hu => (World.cell?_of_block (a := ⟨b, o + j, none⟩) hblk).trans (hc j u' hu)⟩
    rcases ht with ht | ⟨cs', fr, ht⟩
    · exact .inl ht
    · exact .inr ⟨cs', fr, hblk.trans ht⟩⟩
end

/-- A Hash in block g that has had the text t; v: its slice of the rest. -/
def HashIs (w : World) (B g : Nat) (v : Value) (t : List UInt8) : Prop :=
  B ≤ g ∧ Blk w g 70 (s8V (hw t) ++ #[v, .int .u64 (t.length : Int)]) ∧ w.ownsRow B 5 1 v (t.length % 64) (Lib.byteCells (hr t))
theorem own_keepB {w w' : World} {base e size n : Nat} {v : Value} {xs : List Value} (h : w.ownsRow base e size v n xs) (hb : Below w.heap.size w w') : w'.ownsRow base e size v n xs := by
  obtain ⟨g1, g2⟩ := h
  refine ⟨g1, ?_⟩
  rcases g2 with g2 | ⟨g, cap, cur, r1, r2, r3, r4⟩
  · exact .inl g2
  · have hg : g < w.heap.size := by
      rcases Nat.lt_or_ge g w.heap.size with h' | h'
      · exact h'
      · simp [Array.getElem?_eq_none h'] at r3
    exact .inr ⟨g, cap, cur, r1, r2, (hb.block g hg).trans r3, r4⟩
theorem HashIs.keep {w w' : World} {B g : Nat} {v : Value} {t : List UInt8} (h : HashIs w B g v t) (hb : Below w.heap.size w w') : HashIs w' B g v t :=
  ⟨h.1, h.2.1.keep hb, own_keepB h.2.2 hb⟩
theorem HashIs.other {w w' : World} {B g g2 : Nat} {v v2 : Value} {t t2 : List UInt8} (h2 : HashIs w B g2 v2 t2) (h : HashIs w B g v t) (hne : g2 ≠ g) (hv : ∀ k, v2.ownBlock = some k → v.ownBlock ≠ some k) (k : Two w w' g v.ownBlock) : HashIs w' B g2 v2 t2 := by
  have e1 : some g2 ≠ v.ownBlock := own_ne h.2.2 h2.2.1 (by decide)
  have e2 : some g ≠ v2.ownBlock := own_ne h2.2.2 h.2.1 (by decide)
  refine ⟨h2.1, (k.block g2 h2.2.1.lt hne e1).trans h2.2.1, ?_⟩
  obtain ⟨g1, g3⟩ := h2.2.2
  refine ⟨g1, ?_⟩
  rcases g3 with g3 | ⟨b, cap, cur, r1, r2, r3, r4⟩
  · exact .inl g3
  · have hb : b < w.heap.size := by
      rcases Nat.lt_or_ge b w.heap.size with h' | h'
      · exact h'
      · simp [Array.getElem?_eq_none h'] at r3
    have ev : v2.ownBlock = some b := by rw [r1]; rfl
    exact .inr ⟨b, cap, cur, r1, r2, (k.block b hb (fun e => e2 (by rw [ev, e])) (fun e => hv b ev e.symm)).trans r3, r4⟩
theorem HashIs.size {w : World} {B g : Nat} {v : Value} {t : List UInt8} (h : HashIs w B g v t) : g < w.heap.size := h.2.1.lt

def RetNew (B : Nat) (w : World) (e : Ending) (w' : World) : Prop := ∃ g, e = .returned (.pointer (some ⟨g, 0, none⟩)) ∧ w.heap.size ≤ g ∧ HashIs w' B g (.slice none 0 0) [] ∧ Below w.heap.size w w'
def RetAdd (B g : Nat) (v : Value) (t : List UInt8) (w : World) (e : Ending) (w' : World) : Prop :=
  ∃ v', e = .returned (.tuple #[]) ∧ HashIs w' B g v' t ∧ Two w w' g v.ownBlock ∧ ∀ r, v'.ownBlock = some r → w.heap.size ≤ r
def lenV : Value → Nat
  | .slice _ n _ => n
  | _ => 0
theorem New_any (w : World) {B : Nat} (hB : B ≤ w.heap.size) : Calls Try.prog 39 #[] w (RetNew B w) := by
  refine calls_of_wpQ Try.func39 rfl ?_
  intro Q hQ
  simp only [Try.ntmps39, List.size_toArray, List.length_nil, Nat.reduceSub, Array.replicate_succ, Array.replicate_zero, List.push_toArray, List.append_toArray, List.nil_append, List.cons_append]
  go_wp2_with fail
  refine (beginning_any _).mono ?_
  rintro e w1 ⟨rfl, hb⟩
  have hs := hb.size
  unfold kHV
  go_wp2
  refine ends_ret hQ (results_tmp rfl _ _ _) rfl ?_
  refine ⟨w1.heap.size, rfl, hs, ⟨by omega, ?_, World.ownsRow_nil _ _ _ _⟩, by go_grown⟩
  exact Blk.new _ _ _
theorem Add_nil (u : ByteArray) (w : World) : Calls Try.prog 40 #[.pointer none, .string u] w fun e w' => e = .returned (.tuple #[]) ∧ w = w' := by
  refine calls_of_wpQ Try.func40 rfl ?_
  intro Q hQ
  simp only [Try.ntmps40, List.size_toArray, List.length_cons, List.length_nil, Nat.reduceAdd, Nat.reduceSub, Array.replicate_succ, Array.replicate_zero, List.push_toArray, List.append_toArray, List.nil_append, List.cons_append]
  go_wp2
  refine ends_ret hQ (results_none rfl _ _ _) rfl ?_
  exact ⟨rfl, rfl⟩
set_option maxRecDepth 100000 in
set_option maxHeartbeats 1600000 in
theorem Add_any (B g : Nat) (v : Value) (t : List UInt8) (u : ByteArray) (w : World) (h : HashIs w B g v t) (hB : B ≤ w.heap.size) (ht : t.length ≤ 549755813888) (hu : u.size ≤ 549755813888) :
    Calls Try.prog 40 #[.pointer (some ⟨g, 0, none⟩), .string u] w (RetAdd B g v (t ++ u.data.toList) w) := by
  obtain ⟨i0, hi0, hz0, hz1, hz2⟩ := info_parts byteI
  obtain ⟨hBg, hg, hown⟩ := h
  have hul : u.data.toList.length = u.size := rfl
  obtain ⟨A0, cap0, rfl, hc01, hc02⟩ := own_slice hown
  have c8 : w.cell? ⟨g, 8, none⟩ = some (.slice A0 (t.length % 64) cap0) := hg.cell 8
  have c9 : w.cell? ⟨g, 9, none⟩ = some (.int .u64 (t.length : Int)) := hg.cell 9
  have f9 := hg.frozen 9
  have hgl := hg.lt
  have hz0' : u.size < 18446744073709551616 := by omega
  have hown1 := own_far hown hg (by decide) 9 (.int .u64 ((t.length : Int) + u.size))
  have hg1 := hg.set_ 9 (.int .u64 ((t.length : Int) + u.size))
  have hg1' : Blk (w.setCell ⟨g, 9, none⟩ (.int .u64 ((t.length : Int) + u.size))) g 70 (s8V (hw t) ++ #[.slice A0 (t.length % 64) cap0, .int .u64 ((t.length : Int) + u.size)]) := hg1
  have hT1 : Two w (w.setCell ⟨g, 9, none⟩ (.int .u64 ((t.length : Int) + u.size))) g (Value.slice A0 (t.length % 64) cap0).ownBlock := (Two.refl w g _).set_ 9 _
  replace hg := hid_mk hg
  replace hg1 := hid_mk hg1'
  replace hT1 := hid_mk hT1
  clear hg1'
  replace hul := hid_mk hul
  refine calls_of_wpQ Try.func40 rfl ?_
  intro Q hQ
  simp only [Try.ntmps40, List.size_toArray, List.length_cons, List.length_nil, Nat.reduceAdd, Nat.reduceSub, Array.replicate_succ, Array.replicate_zero, List.push_toArray, List.append_toArray, List.nil_append, List.cons_append]
  go_wp2_with (at_builtin; refine Lib.wpList_append_own_string _ rfl (.tmp 20) (.tmp 21) 67 9 rfl B 5 i0 Try.underlying67 Try.underlying9 hi0 hz0 hz1 hz2 _ (t.length % 64) _ rfl hown1 u rfl (by unfold maxLen; omega) (by omega) (by simp [World.setCell]; omega) ?_; intro v2 w2 hown2 hg2 hat2)
  have hT2 := hid_mk (hT1.out.trans (Two.of_r hg2))
  have hne2 := own_ne hown1 hg1.out (by decide)
  have hG2 := hid_mk (hg1.out.grown hg2 hne2)
  have hlow : ∀ k, (Value.slice A0 (t.length % 64) cap0).ownBlock = some k → B ≤ k := fun k hk => (hown1.lt k hk).1
  clear c8 c9 f9 hT1 hg1 hg2 hat2 hne2
  obtain ⟨n1, hn1⟩ : ∃ n, t.length % 64 + u.size = n := ⟨_, rfl⟩
  rw [hn1] at hown2
  have hn1b : n1 ≤ 1099511627776 := by omega
  replace hn1 := hid_mk hn1
  obtain ⟨A1, cap1, rfl, hc11, hc12⟩ := own_slice hown2
  have hR1 := hid_mk (Reads.of_own (B := B) hown2)
  rw [show Lib.byteCells (hr t) ++ Lib.strCells u = Lib.byteCells ((hr t ++ u.data.toList).drop (64 * 0)) from by rw [Nat.mul_zero, List.drop_zero, Lib.byteCells_append]; rfl] at hR1
  clear hown hown1 hown2
  go_loopw [4] (fun s wr => ∃ (m n cap : Nat) (A : Option Addr), s = .slice A n cap ∧ n ≤ cap ∧ Hid (n + 64 * m = n1) ∧ Hid (Reads wr B 5 1 A n (Lib.byteCells ((hr t ++ u.data.toList).drop (64 * m)))) ∧ Hid (Blk wr g 70 (s8V (eatN (hw t) (hr t ++ u.data.toList) m) ++ #[.slice A0 (t.length % 64) cap0, .int .u64 ((t.length : Int) + u.size)])) ∧ Hid (Two w wr g (Value.slice A0 (t.length % 64) cap0).ownBlock)) (fun s _ => lenV s)
  case atStart => exact ⟨0, n1, cap1, A1, rfl, hc11, by rw [Hid]; omega, hR1, hG2, hT2⟩
  case round =>
    clear hR1 hG2 hT2
    obtain ⟨m, n, cap, A, rfl, hcap, hm, hR, hG, hT⟩ := hrel
    have hml := hm.out
    have hgl := hG.out.lt
    by_cases hlt : 64 ≤ n
    · have hsl := run_slice_from (P := Try.prog) (w := wr) 67 5 Try.underlying67 i0 hi0 1 hz1 A n cap 64 (by omega) (by omega)
      have hnb : n ≤ 1099511627776 := by omega
      go_wp2_with fail
      refine (block_any g _ _ _ A n cap _ _ hG.out hlt hnb hR.out).mono ?_
      rintro e w3 ⟨rfl, hb3, hG3⟩
      have hsl := run_slice_from (P := Try.prog) (w := w3) 67 5 Try.underlying67 i0 hi0 1 hz1 A n cap 64 (by omega) (by omega)
      go_wp2
      go_roundw
      case rel =>
        refine ⟨m + 1, n - 64, cap - 64, _, rfl, by omega, by rw [Hid]; omega, ?_, hG3, hid_mk (hT.out.trans (Two.of_g hb3))⟩
        have := ((hR.out.gb hG.out hBg (by decide) hb3).cutA (k := 64) (cap := cap) hlt hcap)
        rw [Nat.mul_one, ← bc_drop, List.drop_drop] at this
        exact this
      case measure => simp [lenV]; omega
    · have hcut := hr_append t u.data.toList
      have hwd := hw_append t u.data.toList
      have hpl : (hr t ++ u.data.toList).length = n1 := by rw [List.length_append, hr_len, hul.out, hn1.out]
      rw [hpl, show n1 / 64 = m from by omega] at hcut hwd
      have hmod : (t ++ u.data.toList).length % 64 = n := by rw [List.length_append, hul.out]; have := hn1.out; omega
      have hlen : ((t.length : Int) + u.size) = ((t ++ u.data.toList).length : Int) := by rw [List.length_append, hul.out]; omega
      rw [hcut] at hR
      rw [hwd] at hG
      replace hcut := hid_mk hcut
      replace hwd := hid_mk hwd
      replace hmod := hid_mk hmod
      replace hlen := hid_mk hlen
      replace hpl := hid_mk hpl
      have hTs := hT.out.size
      clear hml
      go_wp2_with (at_builtin; refine wpList_append_any _ rfl (.const (.slice none 0 0)) (.tmp 34) 67 rfl B 5 i0 _ 1 1 Try.underlying67 hi0 hz0 hz1 hz2 rfl (by omega) (.slice none 0 0) 0 [] rfl (World.ownsRow_nil _ _ _ _) B A n cap _ rfl hR.out (byte_one1 _) (by unfold maxLen; omega) (by omega) (by omega) ?_; intro v3 w3 hown3 hg3 hat3; rw [Nat.zero_add, List.nil_append] at hown3; obtain ⟨A3, cap3, rfl, _, _⟩ := own_slice hown3; have hne3 : some g ≠ (Value.slice none 0 0).ownBlock := (by simp [Value.ownBlock]); have hG3 := hG.out.grown hg3 hne3; have hT3 := hT.out.trans (Two.of_none hg3); have c8 : w3.cell? ⟨g, 8, none⟩ = some (.slice A0 (t.length % 64) cap0) := hG3.cell 8; have f8 := hG3.frozen 8; have hgl3 := hG3.lt; replace hG3 := hid_mk hG3; replace hT3 := hid_mk hT3)
      refine ends_end hQ (results_none rfl _ _ _) rfl ?_
      refine ⟨.slice A3 n cap3, rfl, ⟨hBg, ?_, ?_⟩, hT3.out.set_ 8 _, ?_⟩
      · have := hG3.out.set_ 8 (.slice A3 n cap3)
        rw [← hlen.out]
        exact this
      · rw [hmod.out]
        exact own_far hown3 hG3.out (by decide) 8 _
      · intro r hr
        rcases hat3 with e | e
        · rw [e] at hr; simp [Value.ownBlock] at hr
        · rw [e] at hr; injection hr with hr; omega
end Go.Proofs.Ytngaeencnklbdaa
