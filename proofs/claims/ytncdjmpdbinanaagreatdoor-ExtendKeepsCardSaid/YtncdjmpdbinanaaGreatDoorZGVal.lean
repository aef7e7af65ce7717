/-
  WHAT IS PROVED HERE: what code.Put's closure writes of a value: its bytes. Conditions: the value's parts are of their kinds; the library's table stands.
  WHAT IS PROVED HERE: what code.Put hands back of a value: its bytes, if they are at most 131072. Conditions: the value's parts are of their kinds, it has at most 4000 values, 30 within one another; the library's table stands.
-/
import Derived.Test.YtncdjmpdbinanaaGreatDoorZGVl0
import Derived.Test.YtncdjmpdbinanaaGreatDoorZBld
import Derived.Test.YtncdjmpdbinanaaGreatDoorZGTab
import Derived.Laws.EntriesVeiled
namespace Go.Proofs.YtncdjmpdbinanaaGreatDoor
open Go.RowKit

theorem isbf_keep {T e : TypeId} {B b : Nat} {bs : List Value} {w w' : World} (h : Lib.IsBuilderF T e B b bs w) (hb : Below w.heap.size w w') : Lib.IsBuilderF T e B b bs w' := by
  have k : ∀ p, Lib.BuilderAtF T e B b p bs w → Lib.BuilderAtF T e B b p bs w' := by
    rintro p ⟨h1, v, h2, h3, h4⟩
    have hlt : b < w.heap.size := Lib.BuilderAtF.lt ⟨h1, v, h2, h3, h4⟩
    refine ⟨h1, v, (hb.block b hlt).trans h2, ?_, h4⟩
    obtain ⟨g1, g2⟩ := h3
    refine ⟨g1, ?_⟩
    rcases g2 with g2 | ⟨g, cap, cur, fz, r1, r2, r3, r4⟩
    · exact .inl g2
    · have hg : g < w.heap.size := by
        rcases Nat.lt_or_ge g w.heap.size with h' | h'
        · exact h'
        · simp [Array.getElem?_eq_none h'] at r3
      exact .inr ⟨g, cap, cur, fz, r1, r2, (hb.block g hg).trans r3, r4⟩
  rcases h with h | h
  · exact .inl (k _ h)
  · exact .inr (k _ h)
theorem Blk.other {w w' : World} {g gb : Nat} {t : TypeId} {cs : Array Value} (h : Blk w g t cs) (hk : Lib.OthersKept 5 (some gb) w w') (hg : g ≠ gb) (ht : t ≠ 5) : Blk w' g t cs :=
  hk g _ h (fun e => hg (by injection e)) (fun c fz e => ht (by injection e))
theorem cells_str (bs : List UInt8) (s : ByteArray) {l : List UInt8} (h : s.data.toList = l) : Lib.byteCells bs ++ Lib.strCells s = Lib.byteCells (bs ++ l) := by
  rw [Lib.byteCells_append, ← h]; rfl
theorem dl_app (a b : ByteArray) : (a ++ b).data.toList = a.data.toList ++ b.data.toList := by simp
/-- what stands in the variables that the closure captured -/
structure Puts (w : World) (B gb gw : Nat) (bs : List UInt8) : Prop where
  b : Lib.IsBuilderF 179 5 B gb (Lib.byteCells bs) w
  w : Blk w gw 180 #[.func (.func 169) #[] #[.pointer (some ⟨gb, 0, none⟩), .pointer (some ⟨gw, 0, none⟩)]]
theorem Puts.keep {w w' : World} {B gb gw : Nat} {bs : List UInt8} (h : Puts w B gb gw bs) (hb : Below w.heap.size w w') : Puts w' B gb gw bs := ⟨isbf_keep h.b hb, h.w.keep hb⟩
theorem Puts.lt {w : World} {B gb gw : Nat} {bs : List UInt8} (h : Puts w B gb gw bs) : gb < w.heap.size := h.b.elim Lib.BuilderAtF.lt Lib.BuilderAtF.lt
theorem Puts.ne {w : World} {B gb gw : Nat} {bs : List UInt8} (h : Puts w B gb gw bs) : gw ≠ gb := by
  rintro rfl
  have hw := h.w
  unfold Blk at hw
  rcases h.b with ⟨_, v, h2, _⟩ | ⟨_, v, h2, _⟩ <;> (rw [hw] at h2; injection h2 with h2; injection h2 with _ h3; exact absurd h3 (by decide))
theorem encN_len : ∀ xs : List Vn, (encN xs).length = (xs.map (·.enc.length)).sum
  | [] => rfl
  | x :: xs => by
    have := encN_len xs
    unfold encN at *
    simp [this]
set_option maxRecDepth 100000 in
set_option maxHeartbeats 3200000 in
theorem put_any : ∀ (d : Nat) (v : Vl) (cnt : Nat) (enc bs : List UInt8) (gb gw B : Nat) (w : World), VOk w (Lows B) d v cnt enc → B ≤ gb → B ≤ gw → B ≤ w.heap.size →
    Puts w B gb gw bs → TabB B w → bs.length + enc.length ≤ 70368744177664 →
    Calls Tryz.prog 169 #[valV v, .pointer (some ⟨gb, 0, none⟩), .pointer (some ⟨gw, 0, none⟩)] w fun e w' => e = .returned (.tuple #[]) ∧ Below B w w' ∧ Puts w' B gb gw (bs ++ enc) ∧ Lib.OthersKept 5 (some gb) w w'
  | 0, _, _, _, _, _, _, _, _, h => h.elim
  | d + 1, v, cnt, enc, bs, gb, gw, B, w, h => by
    intro b1 b2 b3 hP ht hlen
    have hne := hP.ne
    rcases h with ⟨n, rfl, n0, n1, rfl, rfl⟩ | ⟨s, rfl, hs, rfl, rfl⟩ | ⟨A, m, cp, xs, rfl, hm4, hrow, hxs, rfl, rfl⟩
    · have hl := it_size n
      obtain ⟨c1, hc1⟩ : ∃ c, (⟨#[105]⟩ : ByteArray) ++ itB n = c := ⟨_, rfl⟩
      obtain ⟨c2, hc2⟩ : ∃ c, c1 ++ (⟨#[101]⟩ : ByteArray) = c := ⟨_, rfl⟩
      have hd2 : c2.data.toList = 105 :: (Lib.itoa n ++ [101]) := by rw [← hc2, ← hc1, dl_app, dl_app]; rfl
      have hsz2 : c2.size = (105 :: (Lib.itoa n ++ [101]) : List UInt8).length := by rw [← hd2]; rfl
      have k1 := cat_to hc1 (by have : (⟨#[105]⟩ : ByteArray).size = 1 := rfl; simp at hlen; omega)
      have k2 := cat_to hc2 (by rw [← hc1, ByteArray.size_append]; have : (⟨#[105]⟩ : ByteArray).size = 1 := rfl; have : (⟨#[101]⟩ : ByteArray).size = 1 := rfl; simp at hlen; omega)
      replace hc1 := hid_mk hc1
      replace hc2 := hid_mk hc2
      replace hl := hid_mk hl
      unfold valV numV
      dsimp only
      go_enter Tryz.func169, Tryz.ntmps169
      go_wp2_with (first | (go_at_call 171; refine (FormatInt_any n _ n0 n1 (ht _ (by first | exact (Below.refl B w).alloc b3 _ | go_grown))).mono ?_; rintro e w1 ⟨rfl, hb1⟩; have hb1' := hid_mk (after (w := w) hb1 (by go_grown)).1; clear hb1) | (go_at_call 170; refine (WriteString_any B gb (Lib.byteCells bs) c2 _ (isbf_keep hP.b hb1'.out) (by rw [Lib.byteCells_length]; omega) (by have := hb1'.out.size; omega)).mono ?_; rintro e w2 ⟨rfl, hbl, hb2, ho2⟩; replace hbl := hid_mk hbl; replace hb2 := hid_mk hb2; replace ho2 := hid_mk ho2))
      go_end0
      have o1 : Lib.OthersKept 5 (some gb) w w1 := fun k o hk _ _ => by
        have hlt : k < w.heap.size := (Array.getElem?_eq_some_iff.1 hk).1
        exact (hb1'.out.block k hlt).trans hk
      exact ⟨rfl, (hb1'.out.mono b3).trans hb2.out, ⟨.inr (by have := hbl.out; rw [cells_str bs c2 hd2] at this; exact this), (hP.w.keep hb1'.out).other ho2.out hne (by decide)⟩, o1.trans ho2.out⟩
    · have hl := it_size s.size
      obtain ⟨c1, hc1⟩ : ∃ c, itB s.size ++ (⟨#[58]⟩ : ByteArray) = c := ⟨_, rfl⟩
      obtain ⟨c2, hc2⟩ : ∃ c, c1 ++ s = c := ⟨_, rfl⟩
      have hd2 : c2.data.toList = Lib.itoa s.size ++ 58 :: s.data.toList := by rw [← hc2, ← hc1, dl_app, dl_app, List.append_assoc]; rfl
      have hsz2 : c2.size = (Lib.itoa s.size ++ 58 :: s.data.toList : List UInt8).length := by rw [← hd2]; rfl
      have hlen' := hlen
      rw [← hsz2, ← hc2, ← hc1, ByteArray.size_append, ByteArray.size_append] at hlen'
      have k1 := cat_to hc1 (by have : (⟨#[58]⟩ : ByteArray).size = 1 := rfl; omega)
      have k2 := cat_to hc2 (by rw [← hc1, ByteArray.size_append]; omega)
      replace hc1 := hid_mk hc1
      replace hc2 := hid_mk hc2
      replace hl := hid_mk hl
      replace hlen' := hid_mk hlen'
      unfold valV txtV
      dsimp only
      go_enter Tryz.func169, Tryz.ntmps169
      have x2 : (w.alloc (.cells #[.int .i64 2, .int .i64 0, .string s, .slice none 0 0] 163)).cell? ⟨w.heap.size, 2, none⟩ = some (.string s) := (Blk.new w 163 _).cell 2
      have hX := hid_mk (Blk.new w 163 #[.int .i64 2, .int .i64 0, .string s, .slice none 0 0])
      have q0 := hid_mk (show Below w.heap.size w w from Below.refl _ _)
      have gbl := hP.lt
      have htw : TabB w.heap.size w := ht.more b3
      go_wp2_with fail
      go_region_held3 (fun w' => w'.cell? ⟨w.heap.size, 2, none⟩ = some (.string s)) ((first | assumption | go_keep)) (first | (go_at_call 172; refine (Itoa_any s.size _ (by omega) (by omega) (htw _ (by go_grown))).mono ?_; rintro e w1 ⟨rfl, hb1⟩; have q1 := (after (w := w) hb1 (by go_grown)).1; have hX1 := hid_mk (hX.out.keep (after hb1 (by go_grown)).1); clear hb1 x2; have x2 := hX1.out.cell 2; have xl := hX1.out.lt; change _ = some (Value.string s) at x2) | (go_at_call 170; refine (WriteString_any B gb (Lib.byteCells bs) c2 _ (isbf_keep hP.b (by go_grown)) (by rw [Lib.byteCells_length]; omega) (by have := q1.size; simp; omega)).mono ?_; rintro e w2 ⟨rfl, hbl, hb2, ho2⟩; replace hbl := hid_mk hbl; replace hb2 := hid_mk hb2; replace ho2 := hid_mk ho2; have hX2 := hid_mk (Blk.other (gb := gb) hX1.out ho2.out (by omega) (by decide)); clear x2; have x2 := hX2.out.cell 2; have xl2 := hX2.out.lt; change _ = some (Value.string s) at x2))
      go_end0
      have o1 : Lib.OthersKept 5 (some gb) w w1 := fun k o hk _ _ => by
        have hlt : k < w.heap.size := (Array.getElem?_eq_some_iff.1 hk).1
        exact (q1.block k hlt).trans hk
      exact ⟨rfl, (q1.mono b3).trans hb2.out, ⟨.inr (by have := hbl.out; rw [cells_str bs c2 hd2] at this; exact this), (hP.w.keep q1).other ho2.out hne (by decide)⟩, o1.trans ho2.out⟩
    · have hX0 := hid_mk (Blk.new w 163 #[.int .i64 3, .int .i64 0, .string ⟨#[]⟩, .slice A m cp])
      have x0 : (w.alloc (.cells #[.int .i64 3, .int .i64 0, .string ⟨#[]⟩, .slice A m cp] 163)).cell? ⟨w.heap.size, 0, none⟩ = some (.int .i64 3) := hX0.out.cell 0
      have gbl := hP.lt
      have hen : (108 :: (encN xs ++ [101]) : List UInt8).length = (encN xs).length + 2 := by simp
      rw [hen] at hlen
      have hP0 := hid_mk (hP.keep (show Below w.heap.size w (w.alloc (.cells #[.int .i64 3, .int .i64 0, .string ⟨#[]⟩, .slice A m cp] 163)) from by go_grown))
      unfold valV lstV
      dsimp only
      go_enter Tryz.func169, Tryz.ntmps169
      go_wp2_with (go_at_call 173; refine (WriteByte_any B gb (Lib.byteCells bs) 108 _ hP0.out.b (by rw [Lib.byteCells_length]; omega) (by simp; omega)).mono ?_; rintro e w1 ⟨rfl, hbl, hb1, ho1⟩; have hX1 := hid_mk (Blk.other (gb := gb) hX0.out ho1 (by omega) (by decide)); have x3 := hX1.out.cell 3; have xl := hX1.out.lt; change _ = some (Value.slice A m cp) at x3)
      have q1 : Below B w w1 := ((Below.refl B w).alloc b3 _).trans hb1
      have o1 : Lib.OthersKept 5 (some gb) w w1 := ((Lib.OthersKept.refl _ _ w).alloc _).trans ho1
      have hP1 : Hid (Puts w1 B gb gw (bs ++ 108 :: encN (xs.take 0))) := by
        refine ⟨.inr ?_, hP0.out.w.other ho1 hne (by decide)⟩
        have := hbl
        rw [show Lib.byteCells bs ++ [Value.int .u8 108] = Lib.byteCells (bs ++ 108 :: encN (xs.take 0)) from by rw [Lib.byteCells_append]; rfl] at this
        exact this
      clear hbl hb1 ho1
      have hel := hid_mk (fun k => encN_le (xs := xs) k)
      go_loopw [12] (fun i wr => ∃ (k : Nat), k ≤ m ∧ i = .int .i64 k ∧ Below B w wr ∧ Hid (Puts wr B gb gw (bs ++ 108 :: encN (xs.take k))) ∧ Lib.OthersKept 5 (some gb) w wr) (fun i _ => m - (intOf i).toNat)
      case atStart => exact ⟨0, Nat.zero_le _, rfl, q1, hP1, o1⟩
      case round =>
        obtain ⟨k, hk, rfl, hb, hPk, ok⟩ := hrel
        have gwk := hPk.out.lt
        by_cases hlt : k < m
        · obtain ⟨b, o, x, rfl, hS, hbb, hmem, hd, c0, c1, c2, c3⟩ := (hrow.to hb.size (fun b h1 _ => hb.block b h1) (fun _ h _ => h)).at_ hlt
          have hx := hid_mk ((hxs x hmem).below hb)
          have hnx := hid_mk (encN_take hd.out)
          have hle : Hid ((bs ++ 108 :: encN (xs.take k)).length + x.enc.length ≤ 70368744177664) := by
            have h1 := hel.out (k + 1)
            rw [hnx.out, List.length_append] at h1
            rw [Hid, List.length_append, List.length_cons]
            omega
          have hF := hPk.out.w
          have cw : wr.cell? ⟨gw, 0, none⟩ = some (.func (.func 169) #[] #[.pointer (some ⟨gb, 0, none⟩), .pointer (some ⟨gw, 0, none⟩)]) := hF.cell 0
          have gwl := hF.lt
          clear hF
          obtain ⟨xv, xc, xe⟩ := x
          obtain ⟨xk, xn, xs', xA, xm, xcp⟩ := xv
          dsimp only at c0 c1 c2 c3
          have hbs := hb.size
          go_wp2_with (go_at_call 169; refine (put_any d ⟨xk, xn, xs', xA, xm, xcp⟩ xc xe (bs ++ 108 :: encN (xs.take k)) gb gw B _ (hx.out.below (Below.mono (show Below wr.heap.size wr _ from by go_grown) (by omega))) b1 b2 (by simp; omega) (hPk.out.keep (by go_grown)) ((ht.to hb).to (Below.mono (show Below wr.heap.size wr _ from by go_grown) (by omega))) hle.out).mono ?_; rintro e w2 ⟨rfl, hb2, hP2, ho2⟩; replace hP2 := hid_mk hP2)
          go_roundw
          case rel =>
            refine ⟨k + 1, by omega, by go_num, hb.trans (((Below.refl B wr).alloc (by omega) _).trans hb2), ?_, ok.trans (((Lib.OthersKept.refl _ _ wr).alloc _).trans ho2)⟩
            have := hP2.out
            rw [Hid, hnx.out]
            rw [List.append_assoc, List.cons_append] at this
            exact this
          case measure => simp [intOf]; omega
        · have hke := hid_mk (show xs.take k = xs from List.take_of_length_le (by have := hrow.len; omega))
          have hbs := hb.size
          have hlE : Hid ((bs ++ 108 :: encN (xs.take k)).length + 1 ≤ 140737488355328) := by
            have h1 := hel.out k
            rw [Hid, List.length_append, List.length_cons]
            omega
          go_wp2_with (go_at_call 173; refine (WriteByte_any B gb (Lib.byteCells (bs ++ 108 :: encN (xs.take k))) 101 _ hPk.out.b (by rw [Lib.byteCells_length]; exact hlE.out) (by omega)).mono ?_; rintro e w2 ⟨rfl, hbl, hb2, ho2⟩)
          go_end0
          refine ⟨rfl, hb.trans hb2, ⟨.inr ?_, hPk.out.w.other ho2 hne (by decide)⟩, ok.trans ho2⟩
          have := hbl
          rw [show Lib.byteCells (bs ++ 108 :: encN (xs.take k)) ++ [Value.int .u8 101] = Lib.byteCells (bs ++ 108 :: (encN xs ++ [101])) from by rw [hke.out, ← List.cons_append, ← List.append_assoc, Lib.byteCells_append (bs ++ 108 :: encN xs)]; rfl] at this
          exact this
end Go.Proofs.YtncdjmpdbinanaaGreatDoor
namespace Go.Proofs.YtncdjmpdbinanaaGreatDoor
open Go.RowKit

theorem isbf_new {w : World} {B : Nat} (hB : B ≤ w.heap.size) (o : Obj) : Lib.IsBuilderF 179 5 B w.heap.size (Lib.byteCells []) ((w.alloc (.cells #[.pointer none, .slice none 0 0] 179)).alloc o) :=
  .inl ⟨hB, .slice none 0 0, (Blk.new w 179 _).alloc o, World.ownsRowF_nil _ _ _ _, by simp [Value.ownBlock]⟩
theorem blk4 {w : World} {g : Nat} {t : TypeId} {a b c d : Value} (h : Blk w g t #[a, b, c, d]) :
    g < w.heap.size ∧ w.cell? ⟨g, 0, none⟩ = some a ∧ w.cell? ⟨g, 1, none⟩ = some b ∧ w.cell? ⟨g, 2, none⟩ = some c ∧ w.cell? ⟨g, 3, none⟩ = some d := ⟨h.lt, h.cell 0, h.cell 1, h.cell 2, h.cell 3⟩
set_option maxRecDepth 100000 in
set_option maxHeartbeats 3200000 in
theorem VPut_any (d : Nat) (v : Vl) (cnt : Nat) (enc : List UInt8) (w : World) (h : VOk w (Lows w.heap.size) d v cnt enc) (hc : cnt ≤ 4000) (hd : d ≤ 30) (ht : Tab w) (hl : enc.length ≤ 70368744177664) :
    Calls Tryz.prog 148 #[valV v] w fun e w' => e = .returned (if enc.length ≤ 131072 then .tuple #[.string ⟨enc.toArray⟩, .int .i64 0] else .tuple #[.string ⟨#[]⟩, .int .i64 2]) ∧ Below w.heap.size w w' := by
  have hmf : ∀ (fn : Fn) (first cap : Array Value) (w : World), (Instr.makeFunc fn first cap).run Tryz.prog w = .ok (.func fn first cap) w := fun _ _ _ _ => rfl
  obtain ⟨vk, vn, vs, vA, vm, vc⟩ := v
  obtain ⟨L, hL⟩ : ∃ L, enc.length = L := ⟨_, rfl⟩
  rw [hL] at hl ⊢
  have hX0 := hid_mk (Blk.new w 163 #[.int .i64 vk, .int .i64 vn, .string vs, .slice vA vm vc])
  have h0 := hid_mk ((h.below (w' := w.alloc (.cells #[.int .i64 vk, .int .i64 vn, .string vs, .slice vA vm vc] 163)) (by go_grown)).to (S' := Lows (w.alloc (.cells #[.int .i64 vk, .int .i64 vn, .string vs, .slice vA vm vc] 163)).heap.size) (w' := w.alloc (.cells #[.int .i64 vk, .int .i64 vn, .string vs, .slice vA vm vc] 163)) (Nat.le_refl _) (fun _ _ _ => rfl) (fun _ _ h => h))
  replace hL := hid_mk hL
  unfold valV
  dsimp only
  have hE : Hid ((Lib.byteCells ([] ++ enc)).length = L) := by rw [Hid, Lib.byteCells_length]; exact hL.out
  by_cases hLe : L ≤ 131072
  · refine calls_of_wpQ Tryz.func148 rfl ?_
    intro Q hQ
    simp only [Tryz.ntmps148, List.size_toArray, List.length_cons, List.length_nil, Nat.reduceAdd, Nat.reduceSub, Array.replicate_succ, Array.replicate_zero, List.push_toArray, List.append_toArray, List.nil_append, List.cons_append]
    go_wp2_with (first | (go_at_call 168; refine (VRight_any d ⟨vk, vn, vs, vA, vm, vc⟩ cnt enc _ h0.out hc hd).mono ?_; rintro e w1 ⟨rfl, hb1⟩; have q1 := (after (w := w) hb1 (by go_grown)).1; have hX1 := hid_mk (hX0.out.keep hb1); obtain ⟨xl, x0, x1, x2, x3⟩ := blk4 hX1.out; clear hb1) | (go_at_call 169; refine (put_any d ⟨vk, vn, vs, vA, vm, vc⟩ cnt enc [] w1.heap.size (w1.heap.size + 1) w.heap.size _ (h.below (by go_grown)) (by omega) (by omega) (by simp; omega) ⟨isbf_new (by omega) _, Blk.new_ (by simp)⟩ (ht.bel (by go_grown)) (by rw [hL.out]; simpa using hl)).mono ?_; rintro e w2 ⟨rfl, hb2, hP2, _⟩; have q2 : Hid (Below w.heap.size w w2) := (show Below w.heap.size w w2 from Below.trans (by go_grown) hb2); replace hP2 := hid_mk hP2; clear hb2) | (go_at_call 174; refine (Tryz.Builder_Len_f w.heap.size w1.heap.size (Lib.byteCells ([] ++ enc)) _ hP2.out.b).mono ?_; rw [hE.out]; rintro e w3 ⟨rfl, rfl⟩) | (go_at_call 175; refine (Tryz.Builder_String_any_k w.heap.size w1.heap.size ([] ++ enc) _ hP2.out.b q2.out.size).mono ?_; rintro e w4 ⟨rfl, _, hb4, _⟩; have q4 := hid_mk (q2.out.trans hb4); clear hb4))
    refine ends_ret hQ (results_tmp2 rfl _ _ _) rfl ?_
    exact ⟨by rw [if_pos hLe]; rfl, q4.out⟩
  · have hLg : 131072 < L := by omega
    refine calls_of_wpQ Tryz.func148 rfl ?_
    intro Q hQ
    simp only [Tryz.ntmps148, List.size_toArray, List.length_cons, List.length_nil, Nat.reduceAdd, Nat.reduceSub, Array.replicate_succ, Array.replicate_zero, List.push_toArray, List.append_toArray, List.nil_append, List.cons_append]
    go_wp2_with (first | (go_at_call 168; refine (VRight_any d ⟨vk, vn, vs, vA, vm, vc⟩ cnt enc _ h0.out hc hd).mono ?_; rintro e w1 ⟨rfl, hb1⟩; have q1 := (after (w := w) hb1 (by go_grown)).1; have hX1 := hid_mk (hX0.out.keep hb1); obtain ⟨xl, x0, x1, x2, x3⟩ := blk4 hX1.out; clear hb1) | (go_at_call 169; refine (put_any d ⟨vk, vn, vs, vA, vm, vc⟩ cnt enc [] w1.heap.size (w1.heap.size + 1) w.heap.size _ (h.below (by go_grown)) (by omega) (by omega) (by simp; omega) ⟨isbf_new (by omega) _, Blk.new_ (by simp)⟩ (ht.bel (by go_grown)) (by rw [hL.out]; simpa using hl)).mono ?_; rintro e w2 ⟨rfl, hb2, hP2, _⟩; have q2 : Hid (Below w.heap.size w w2) := (show Below w.heap.size w w2 from Below.trans (by go_grown) hb2); replace hP2 := hid_mk hP2; clear hb2) | (go_at_call 174; refine (Tryz.Builder_Len_f w.heap.size w1.heap.size (Lib.byteCells ([] ++ enc)) _ hP2.out.b).mono ?_; rw [hE.out]; rintro e w3 ⟨rfl, rfl⟩) | (go_at_call 175; refine (Tryz.Builder_String_any_k w.heap.size w1.heap.size ([] ++ enc) _ hP2.out.b q2.out.size).mono ?_; rintro e w4 ⟨rfl, _, hb4, _⟩; have q4 := hid_mk (q2.out.trans hb4); clear hb4))
    refine ends_ret hQ (results_tmp2 rfl _ _ _) rfl ?_
    exact ⟨by rw [if_neg hLe]; rfl, q2.out⟩
end Go.Proofs.YtncdjmpdbinanaaGreatDoor
