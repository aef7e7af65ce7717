/-
  DERIVED: THE SHELF's CONTRACTS AT THIS DUMP, IN PLAIN WORDS (tools/lay-plain.mjs out of 'TryzShelf.lean', which tools/lay-shelf.mjs wrote): THE SAME DECLARATIONS UNDER THE SAME NAMES: 'import', 'namespace', 'open', 'def', 'theorem' AND NOTHING ELSE: no command of the shelf's: FOR A HAND-IN. Each laying: the table of numbers ('.._ren') and one theorem, a field a fact of the dump's own or the kernel's comparison; each contract: ONE APPLICATION.
  WHAT IS PROVED HERE: the contracts of the library functions that this seat uses, laid at its program by the tool lay-shelf (pruned). No condition.
  WHAT IS PROVED HERE: the contracts of slices.Sort that this seat uses, laid at its program by the tool lay-shelf (pruned). No condition.
  WHAT IS PROVED HERE: the contracts of maps.Keys, slices.Sorted and slices.Sort at ints, laid at this program by the tool lay-plain. No condition.
-/
import Derived.Shelf.Strings.Builder1
import Derived.Shelf.Small.Bits
import Derived.Shelf.Small.Wraps
import Derived.Shelf.Strings.BuilderF
import Derived.Shelf.Strings.BuilderK
import Derived.Shelf.Utf8.RuneCount
import Derived.Shelf.Strconv.Itoa0
import Derived.Shelf.Strconv.Itoa1
import Derived.Shelf.LaysM
import Derived.Shelf.Strconv.Itoa2
import Derived.Shelf.Strconv.Itoa3
import Derived.Shelf.Strconv.Itoa4
import Derived.Shelf.Strings.Search1
import Derived.Shelf.Strings.Search2
import Derived.Shelf.Strings.Search3
import Derived.Shelf.Strings.Count
import Derived.Shelf.Strings.Shaped
import Derived.Shelf.Strings.Split
import Derived.Shelf.Strings.SplitShaped
import Derived.Shelf.Unicode.Decode
import Derived.Shelf.Strings.RuneCount
import Derived.Shelf.Strings.Explode
import Derived.Shelf.Unicode.DecodeSlow
import Derived.Shelf.Unicode.DecodeAny
import Derived.Shelf.Slices.Reverse
import Derived.Ground.Names2Prog
import Derived.Shelf.Slices.Clone
import Derived.Shelf.Slices.SearchI
import Derived.Shelf.Slices.Cells
import Derived.Shelf.Slices.Empties
import Derived.Ground.SlgnProg
import Derived.Shelf.SlicesE.Clone
import Derived.Ground.SlgmProg
import Derived.Shelf.SortM.Plain
import Derived.Shelf.SortM.SortNone
import Derived.Test.YtncdjmpdbinanaaGreatDoorProg
import Derived.Shelf.Sort.Plain
import Derived.Shelf.Slices.Turned
import Derived.Shelf.Slices.In.SortNone
import Derived.Shelf.SlIterI.Nil
import Derived.Ground.GgzProg
namespace Go.Proofs
open Go.Shelf
def Tryz.lays146_ren : Go.Shelf.Ren := ⟨fun | 146 => 132 | 221 => 160 | 268 => 183 | 138 => 184 | 143 => 185 | 195 => 205 | 197 => 206 | 218 => 207 | 219 => 208 | 260 => 220 | 217 => 221 | 225 => 222 | 224 => 223 | 267 => 224 | 266 => 230 | 314 => 231 | n => n, fun | 9 => 9 | 31 => 148 | 3 => 3 | 4 => 4 | 0 => 0 | 105 => 211 | 21 => 21 | 5 => 5 | 46 => 172 | 119 => 231 | 139 => 234 | 138 => 233 | 146 => 235 | 51 => 207 | n => n, fun | 1 => 0 | 3 => 2 | 4 => 3 | n => n⟩
theorem Tryz.lays146 : Go.Proofs.Lays.n146 Tryz.prog Tryz.lays146_ren := {
  mixed := by kernel_rfl
  f138 := Tryz.func184.trans (congrArg some (by kernel_rfl))
  f143 := Tryz.func185.trans (congrArg some (by kernel_rfl))
  f146 := Tryz.func132.trans (congrArg some (by kernel_rfl))
  f195 := Tryz.func205.trans (congrArg some (by kernel_rfl))
  f197 := Tryz.func206.trans (congrArg some (by kernel_rfl))
  f217 := Tryz.func221.trans (congrArg some (by kernel_rfl))
  f218 := Tryz.func207.trans (congrArg some (by kernel_rfl))
  f219 := Tryz.func208.trans (congrArg some (by kernel_rfl))
  f221 := Tryz.func160.trans (congrArg some (by kernel_rfl))
  f224 := Tryz.func223.trans (congrArg some (by kernel_rfl))
  f225 := Tryz.func222.trans (congrArg some (by kernel_rfl))
  f260 := Tryz.func220.trans (congrArg some (by kernel_rfl))
  f266 := Tryz.func230.trans (congrArg some (by kernel_rfl))
  f267 := Tryz.func224.trans (congrArg some (by kernel_rfl))
  f268 := Tryz.func183.trans (congrArg some (by kernel_rfl))
  f314 := Tryz.func231.trans (congrArg some (by kernel_rfl))
  t0 := Tryz.underlying0
  a0 := Tryz.isAgg0
  z0 := Tryz.sizeOf0
  v0 := Tryz.zeroValue0
  t3 := Tryz.underlying3
  a3 := Tryz.isAgg3
  z3 := Tryz.sizeOf3
  v3 := Tryz.zeroValue3
  t4 := Tryz.underlying4
  a4 := Tryz.isAgg4
  z4 := Tryz.sizeOf4
  v4 := Tryz.zeroValue4
  t5 := Tryz.underlying5
  a5 := Tryz.isAgg5
  z5 := Tryz.sizeOf5
  v5 := Tryz.zeroValue5
  t9 := Tryz.underlying9
  a9 := Tryz.isAgg9
  z9 := Tryz.sizeOf9
  v9 := Tryz.zeroValue9
  t21 := Tryz.underlying21
  a21 := Tryz.isAgg21
  z21 := Tryz.sizeOf21
  v21 := Tryz.zeroValue21
  t31 := Tryz.underlying148
  a31 := Tryz.isAgg148
  z31 := Tryz.sizeOf148
  v31 := Tryz.zeroValue148
  t46 := Tryz.underlying172
  a46 := Tryz.isAgg172
  z46 := Tryz.sizeOf172
  v46 := Tryz.zeroValue172
  t51 := Tryz.underlying207
  a51 := Tryz.isAgg207
  z51 := Tryz.sizeOf207
  v51 := Tryz.zeroValue207
  t105 := Tryz.underlying211
  a105 := Tryz.isAgg211
  z105 := Tryz.sizeOf211
  v105 := Tryz.zeroValue211
  t119 := Tryz.underlying231
  a119 := Tryz.isAgg231
  z119 := Tryz.sizeOf231
  t138 := Tryz.underlying233
  a138 := Tryz.isAgg233
  z138 := Tryz.sizeOf233
  v138 := Tryz.zeroValue233
  t139 := Tryz.underlying234
  a139 := Tryz.isAgg234
  z139 := Tryz.sizeOf234
  v139 := Tryz.zeroValue234
  t146 := Tryz.underlying235
  a146 := Tryz.isAgg235
  z146 := Tryz.sizeOf235
  v146 := Tryz.zeroValue235
  g1 := by kernel_rfl
  g3 := by kernel_rfl
  g4 := by kernel_rfl }
open Go.RowKit Go.Lib in
/-- strings.Split. (LAID: no walk: one application.) -/
theorem Tryz.strings_Split (s sep : ByteArray) (m : Int) (w : World) (hs : s.size < 4294967281) (hm : w.cell? ⟨0, 0, none⟩ = some (.int .i64 m)) (h1 : 1 ≤ sep.size) :
    Calls Tryz.prog 132 #[.string s, .string sep] w fun e w' =>
      e = .returned (.slice (some ⟨w.heap.size, 0, none⟩) (Lib.countB s sep + 1) (Lib.countB s sep + 1)) ∧ w' = w.alloc (.cells ((Lib.splitB sep 0 (Lib.countB s sep) s).map Value.string).toArray 9) := Any.strings_Split Tryz.lays146 (by kernel_rfl) s sep m w hs hm h1
def Tryz.laysNm215_ren : Go.Shelf.Ren := ⟨fun | 15 => 56 | n => n, fun | 22 => 25 | 3 => 3 | 4 => 4 | n => n, fun | n => n⟩
theorem Tryz.laysNm215 : Go.Proofs.Lays2.n15 Tryz.prog Tryz.laysNm215_ren := {
  mixed := by kernel_rfl
  f15 := Tryz.func56.trans (congrArg some (by kernel_rfl))
  t3 := Tryz.underlying3
  a3 := Tryz.isAgg3
  z3 := Tryz.sizeOf3
  v3 := Tryz.zeroValue3
  t4 := Tryz.underlying4
  a4 := Tryz.isAgg4
  z4 := Tryz.sizeOf4
  v4 := Tryz.zeroValue4
  t22 := Tryz.underlying25
  a22 := Tryz.isAgg25
  z22 := Tryz.sizeOf25
  v22 := Tryz.zeroValue25
  i3 := by kernel_rfl }
open Go.RowKit Go.Lib in
/-- slices.Clone at []int: "Clone returns a copy of the slice. The elements are copied using assignment, so this is a shallow clone. The result may have additional unused capacity. The result preserves the nilness of s.": OF A SLICE THAT IS NOT nil IT RETURNS A SLICE THAT IS NOT nil, OF THE SAME ELEMENTS, IN MEMORY OF THE CALL's OWN: in the how-to's words (6f): 'w'.ownsRow B e 1 v' n cells': v' begins at the head of a row among the blocks from B on (B: the heap's size at the call), not frozen, whose first cells are the elements · 'Below B w w'': below B all is as it was. The capacity is whatever the run-time gives. 'zs': what the cells behind the slice's address hold; 'zs.take n': its elements. (LAID: no walk: one application.) -/
theorem Tryz.slices_Clone_int (b off n c : Nat) (zs : List Int) (w : World) (hz : n ≤ zs.length) (hbig : n * 8 ≤ 140737488355328) (hc : ∀ j, j < zs.length → w.cell? ⟨b, off + j, none⟩ = some (.int .i64 (zs.getD j 0))) :
    Calls Tryz.prog 56 #[.slice (some ⟨b, off, none⟩) n c] w fun e w' => ∃ v', e = .returned v' ∧ w'.ownsRow w.heap.size 3 1 v' n ((zs.take n).map (Value.int .i64)) ∧ v' ≠ .slice none 0 0 ∧ Below w.heap.size w w' := Any.slices_Clone_int Tryz.laysNm215 b off n c zs w hz hbig hc
open Go.RowKit Go.Lib in
/-- The same at nil: nil comes back; the world is as it was. (LAID: no walk: one application.) -/
theorem Tryz.slices_Clone_int_nil (n c : Nat) (w : World) :
    Calls Tryz.prog 56 #[.slice none n c] w fun e w' => e = .returned (.slice none 0 0) ∧ w' = w := Any.slices_Clone_int_nil Tryz.laysNm215 n c w
open Go.RowKit Go.Lib in
/-- The same at a slice of length 0 that is not nil, WHATEVER ITS ADDRESS (no cell is asked for): a slice that is not nil and owns nothing comes back. (LAID: no walk: one application.) -/
theorem Tryz.slices_Clone_int_zero (a : Addr) (c : Nat) (w : World) :
    Calls Tryz.prog 56 #[.slice (some a) 0 c] w fun e w' => ∃ v', e = .returned v' ∧ w'.ownsRow w.heap.size 3 1 v' 0 [] ∧ v' ≠ .slice none 0 0 ∧ Below w.heap.size w w' := Any.slices_Clone_int_zero Tryz.laysNm215 a c w
def Tryz.laysNm225_ren : Go.Shelf.Ren := ⟨fun | 25 => 144 | 31 => 163 | 32 => 164 | 37 => 186 | n => n, fun | 22 => 25 | 3 => 3 | 4 => 4 | 40 => 172 | 0 => 0 | n => n, fun | n => n⟩
theorem Tryz.laysNm225 : Go.Proofs.Lays2.n25 Tryz.prog Tryz.laysNm225_ren := {
  mixed := by kernel_rfl
  f25 := Tryz.func144.trans (congrArg some (by kernel_rfl))
  f31 := Tryz.func163.trans (congrArg some (by kernel_rfl))
  f32 := Tryz.func164.trans (congrArg some (by kernel_rfl))
  f37 := Tryz.func186.trans (congrArg some (by kernel_rfl))
  t0 := Tryz.underlying0
  a0 := Tryz.isAgg0
  z0 := Tryz.sizeOf0
  v0 := Tryz.zeroValue0
  t3 := Tryz.underlying3
  a3 := Tryz.isAgg3
  z3 := Tryz.sizeOf3
  v3 := Tryz.zeroValue3
  t4 := Tryz.underlying4
  a4 := Tryz.isAgg4
  z4 := Tryz.sizeOf4
  v4 := Tryz.zeroValue4
  t22 := Tryz.underlying25
  a22 := Tryz.isAgg25
  z22 := Tryz.sizeOf25
  v22 := Tryz.zeroValue25
  t40 := Tryz.underlying172
  a40 := Tryz.isAgg172
  z40 := Tryz.sizeOf172
  v40 := Tryz.zeroValue172 }
open Go.RowKit Go.Lib in
/-- slices.BinarySearch at []int: "BinarySearch searches for target in a sorted slice and returns the earliest position where target is found, or the position where target would appear in the sort order; it also returns a bool saying whether the target is really found in the slice. The slice must be sorted in increasing order.": OF A SORTED SLICE IT RETURNS how many elements are less than the target, and whether the target is among the elements; the world is as it was but for the count of draws. 'zs': what the cells behind the slice's address hold; 'zs.take n': its elements. (Of a slice that is not sorted: no contract here.) (LAID: no walk: one application.) -/
theorem Tryz.slices_BinarySearch_int (b off n c : Nat) (zs : List Int) (x : Int) (w : World) (hz : n ≤ zs.length) (hbig : n < 4611686018427387904) (hc : ∀ j, j < zs.length → w.cell? ⟨b, off + j, none⟩ = some (.int .i64 (zs.getD j 0))) (hs : (zs.take n).Pairwise (· ≤ ·)) :
    Calls Tryz.prog 144 #[.slice (some ⟨b, off, none⟩) n c, .int .i64 x] w fun e w' => e = .returned (.tuple #[.int .i64 ((zs.take n).countP (· < x) : Nat), .bool ((zs.take n).contains x)]) ∧ ∃ q, w' = w.drewN q := Any.slices_BinarySearch_int Tryz.laysNm225 b off n c zs x w hz hbig hc hs
open Go.RowKit Go.Lib in
/-- slices.BinarySearch at []int of no element: position 0, not found; the world is as it was. (LAID: no walk: one application.) -/
theorem Tryz.slices_BinarySearch_int_empty (a : Option Addr) (c : Nat) (x : Int) (w : World) :
    Calls Tryz.prog 144 #[.slice a 0 c, .int .i64 x] w fun e w' => e = .returned (.tuple #[.int .i64 0, .bool false]) ∧ w' = w := Any.slices_BinarySearch_int_empty Tryz.laysNm225 a c x w
def Tryz.laysSlE041_f56_ren : Go.Shelf.Ren := ⟨fun | 41 => 56 | n => n, fun | 22 => 25 | 23 => 3 | 4 => 4 | n => n, fun | n => n⟩
theorem Tryz.laysSlE041_f56 : Go.Proofs.SlLaysE0.n41 Tryz.prog Tryz.laysSlE041_f56_ren := {
  mixed := by kernel_rfl
  f41 := ⟨Tryz.f56.name, by decide, Tryz.func56.trans (congrArg some (by kernel_rfl))⟩
  t4 := Tryz.underlying4
  a4 := Tryz.isAgg4
  z4 := Tryz.sizeOf4
  v4 := Tryz.zeroValue4
  t22 := Tryz.underlying25
  a22 := Tryz.isAgg25
  z22 := Tryz.sizeOf25
  v22 := Tryz.zeroValue25 }
open Go.RowKit Go.Lib in
/-- slices.Clone: "Clone returns a copy of the slice. The elements are copied using assignment, so this is a shallow clone. The result may have additional unused capacity. The result preserves the nilness of s.": OF A SLICE THAT IS NOT nil IT RETURNS A SLICE THAT IS NOT nil, OF THE SAME CELLS, IN MEMORY OF THE CALL's OWN ('ownsRow': the how-to's 6f); below the heap's size at the call all is as it was. (LAID AT THE INSTANCE 'slices.Clone[[]int,int]': no walk: one application.) -/
theorem Tryz.slices_Clone (i0 : TypeInfo) (z : Value) (size bytes : Nat) (hi : Tryz.prog.info? 3 = some i0) (hz0 : i0.zero = some z) (hz1 : i0.size = size) (hz2 : i0.bytes = bytes) (hzs : z.cells.size = size) (hsz : 0 < size) (z23 : ∀ w, (Go.sizeOf 3).run Tryz.prog w = .ok size w) (b off n c : Nat) (news : List Value) (w : World) (hl : news.length = n * size) (hn : n ≤ maxLen) (hbig : n * bytes ≤ 140737488355328) (hc : ∀ j u, news[j]? = some u → w.cell? ⟨b, off + j, none⟩ = some u) (h1 : ∀ u ∈ news, u.oneCell' = true) :
    Calls Tryz.prog 56 #[.slice (some ⟨b, off, none⟩) n c] w fun e w' => ∃ v', e = .returned v' ∧ w'.ownsRow w.heap.size 3 size v' n news ∧ v' ≠ .slice none 0 0 ∧ Below w.heap.size w w' := AnyE.slices_Clone Tryz.laysSlE041_f56 i0 z size bytes hi hz0 hz1 hz2 hzs hsz z23 b off n c news w hl hn hbig hc h1
open Go.RowKit Go.Lib in
/-- The same at nil: nil comes back; the world is as it was; nothing is asked of the element's type. (LAID AT THE INSTANCE 'slices.Clone[[]int,int]': no walk: one application.) -/
theorem Tryz.slices_Clone_nil (n c : Nat) (w : World) :
    Calls Tryz.prog 56 #[.slice none n c] w fun e w' => e = .returned (.slice none 0 0) ∧ w' = w := AnyE.slices_Clone_nil Tryz.laysSlE041_f56 n c w
end Go.Proofs
namespace Go.Proofs
open Go.Shelf
def Tryz.lays170_ren : Go.Shelf.Ren := ⟨fun | 170 => 174 | n => n, fun | 70 => 176 | 3 => 3 | 0 => 0 | 72 => 179 | 37 => 177 | 5 => 5 | n => n, fun | n => n⟩
theorem Tryz.lays170 : Go.Proofs.Lays.n170 Tryz.prog Tryz.lays170_ren := {
  mixed := by kernel_rfl
  f170 := Tryz.func174.trans (congrArg some (by kernel_rfl))
  t0 := Tryz.underlying0
  a0 := Tryz.isAgg0
  z0 := Tryz.sizeOf0
  v0 := Tryz.zeroValue0
  t3 := Tryz.underlying3
  a3 := Tryz.isAgg3
  z3 := Tryz.sizeOf3
  v3 := Tryz.zeroValue3
  t37 := Tryz.underlying177
  a37 := Tryz.isAgg177
  z37 := Tryz.sizeOf177
  v37 := Tryz.zeroValue177
  t70 := Tryz.underlying176
  a70 := Tryz.isAgg176
  z70 := Tryz.sizeOf176
  v70 := Tryz.zeroValue176
  t72 := Tryz.underlying179
  a72 := Tryz.isAgg179
  z72 := Tryz.sizeOf179
  v72 := Tryz.zeroValue179 }
def Tryz.lays169_ren : Go.Shelf.Ren := ⟨fun | 169 => 175 | n => n, fun | 70 => 176 | 9 => 9 | 0 => 0 | 72 => 179 | 37 => 177 | 127 => 196 | 3 => 3 | 5 => 5 | n => n, fun | n => n⟩
theorem Tryz.lays169 : Go.Proofs.Lays.n169 Tryz.prog Tryz.lays169_ren := {
  mixed := by kernel_rfl
  f169 := Tryz.func175.trans (congrArg some (by kernel_rfl))
  t0 := Tryz.underlying0
  a0 := Tryz.isAgg0
  z0 := Tryz.sizeOf0
  v0 := Tryz.zeroValue0
  t3 := Tryz.underlying3
  a3 := Tryz.isAgg3
  z3 := Tryz.sizeOf3
  v3 := Tryz.zeroValue3
  t9 := Tryz.underlying9
  a9 := Tryz.isAgg9
  z9 := Tryz.sizeOf9
  v9 := Tryz.zeroValue9
  t37 := Tryz.underlying177
  a37 := Tryz.isAgg177
  z37 := Tryz.sizeOf177
  v37 := Tryz.zeroValue177
  t70 := Tryz.underlying176
  a70 := Tryz.isAgg176
  z70 := Tryz.sizeOf176
  v70 := Tryz.zeroValue176
  t72 := Tryz.underlying179
  a72 := Tryz.isAgg179
  z72 := Tryz.sizeOf179
  v72 := Tryz.zeroValue179
  t127 := Tryz.underlying196
  a127 := Tryz.isAgg196
  z127 := Tryz.sizeOf196
  v127 := Tryz.zeroValue196 }
theorem Tryz.Builder_Extra_169 : Builder.Extra Tryz.prog Tryz.lays169_ren := {
  sizeBuilder := by kernel_rfl
  liesBuilder := by kernel_rfl
  t5 := Tryz.underlying5
  a5 := Tryz.isAgg5
  z5 := Tryz.sizeOf5
  v5 := Tryz.zeroValue5
  infoByte := by kernel_rfl
  cellsByte := by kernel_rfl
  sizeByte := by kernel_rfl
  neB5 := by decide }
open Go.RowKit in
/-- (*strings.Builder).Len: "Len returns the number of accumulated bytes; b.Len() == len(b.String()).": the world is as it was. (THE FORM '_f': 'Lib.IsBuilderF'.) (LAID: no walk: one application.) -/
theorem Tryz.Builder_Len_f (B b : Nat) (bs : List Value) (w : World) (h : Lib.IsBuilderF 179 5 B b bs w) :
    Calls Tryz.prog 174 #[.pointer (some ⟨b, 0, none⟩)] w fun e w' => e = .returned (.int .i64 bs.length) ∧ w' = w := Any.Builder_Len_f Tryz.lays170 B b bs w h
open Go.RowKit in
/-- (*strings.Builder).String: "String returns the accumulated string.": WHATEVER THE BUILDER HOLDS; THE FORM '_k': OVER 'Lib.IsBuilderF' (a builder that 'String()' may have read), AND WITH THE FRAME THAT REACHES ABOVE THE BUILDER: 'Lib.OthersKept': every block that is not b and is no row of uint8's stands as it stood: the iterator of a range among them. (LAID: no walk: one application.) -/
theorem Tryz.Builder_String_any_k (B b : Nat) (l : List UInt8) (w : World) (h : Lib.IsBuilderF 179 5 B b (Lib.byteCells l) w) (hBw : B ≤ w.heap.size) :
    Calls Tryz.prog 175 #[.pointer (some ⟨b, 0, none⟩)] w fun e w' => e = .returned (.string ⟨l.toArray⟩) ∧ (Lib.IsBuilderF 179 5 B b (Lib.byteCells l) w' ∧ Below B w w' ∧ Lib.OthersKept 5 (some b) w w') := Any.Builder_String_any_k Tryz.lays169 Tryz.Builder_Extra_169 B b l w h hBw
def Tryz.laysM171_ren : Go.Shelf.Ren := ⟨fun | 171 => 172 | 243 => 191 | 246 => 190 | 283 => 211 | 284 => 212 | 285 => 213 | 286 => 214 | 129 => 204 | 317 => 225 | 318 => 226 | 319 => 227 | 320 => 228 | 337 => 232 | 338 => 233 | n => n, fun | 3 => 3 | 9 => 9 | 2 => 2 | 4 => 4 | 171 => 216 | 0 => 0 | 53 => 209 | 37 => 177 | 5 => 5 | 173 => 218 | 212 => 227 | 51 => 207 | 20 => 20 | 213 => 228 | 46 => 172 | 232 => 237 | 233 => 238 | n => n, fun | 17 => 1 | 18 => 4 | 19 => 5 | n => n⟩
theorem Tryz.laysM171 : Go.Proofs.LaysM.n171 Tryz.prog Tryz.laysM171_ren := {
  mixed := by kernel_rfl
  f129 := Tryz.func204.trans (congrArg some (by kernel_rfl))
  f171 := Tryz.func172.trans (congrArg some (by kernel_rfl))
  f243 := Tryz.func191.trans (congrArg some (by kernel_rfl))
  f246 := Tryz.func190.trans (congrArg some (by kernel_rfl))
  f283 := Tryz.func211.trans (congrArg some (by kernel_rfl))
  f284 := Tryz.func212.trans (congrArg some (by kernel_rfl))
  f285 := Tryz.func213.trans (congrArg some (by kernel_rfl))
  f286 := Tryz.func214.trans (congrArg some (by kernel_rfl))
  f317 := Tryz.func225.trans (congrArg some (by kernel_rfl))
  f318 := Tryz.func226.trans (congrArg some (by kernel_rfl))
  f319 := Tryz.func227.trans (congrArg some (by kernel_rfl))
  f320 := Tryz.func228.trans (congrArg some (by kernel_rfl))
  f337 := Tryz.func232.trans (congrArg some (by kernel_rfl))
  f338 := Tryz.func233.trans (congrArg some (by kernel_rfl))
  t0 := Tryz.underlying0
  a0 := Tryz.isAgg0
  z0 := Tryz.sizeOf0
  v0 := Tryz.zeroValue0
  t2 := Tryz.underlying2
  a2 := Tryz.isAgg2
  z2 := Tryz.sizeOf2
  v2 := Tryz.zeroValue2
  t3 := Tryz.underlying3
  a3 := Tryz.isAgg3
  z3 := Tryz.sizeOf3
  v3 := Tryz.zeroValue3
  t4 := Tryz.underlying4
  a4 := Tryz.isAgg4
  z4 := Tryz.sizeOf4
  v4 := Tryz.zeroValue4
  t5 := Tryz.underlying5
  a5 := Tryz.isAgg5
  z5 := Tryz.sizeOf5
  v5 := Tryz.zeroValue5
  t9 := Tryz.underlying9
  a9 := Tryz.isAgg9
  z9 := Tryz.sizeOf9
  v9 := Tryz.zeroValue9
  t20 := Tryz.underlying20
  a20 := Tryz.isAgg20
  z20 := Tryz.sizeOf20
  v20 := Tryz.zeroValue20
  t37 := Tryz.underlying177
  a37 := Tryz.isAgg177
  z37 := Tryz.sizeOf177
  v37 := Tryz.zeroValue177
  t46 := Tryz.underlying172
  a46 := Tryz.isAgg172
  z46 := Tryz.sizeOf172
  v46 := Tryz.zeroValue172
  t51 := Tryz.underlying207
  a51 := Tryz.isAgg207
  z51 := Tryz.sizeOf207
  v51 := Tryz.zeroValue207
  t53 := Tryz.underlying209
  a53 := Tryz.isAgg209
  z53 := Tryz.sizeOf209
  v53 := Tryz.zeroValue209
  t171 := Tryz.underlying216
  a171 := Tryz.isAgg216
  z171 := Tryz.sizeOf216
  v171 := Tryz.zeroValue216
  t173 := Tryz.underlying218
  a173 := Tryz.isAgg218
  z173 := Tryz.sizeOf218
  v173 := Tryz.zeroValue218
  t212 := Tryz.underlying227
  a212 := Tryz.isAgg227
  z212 := Tryz.sizeOf227
  v212 := Tryz.zeroValue227
  t213 := Tryz.underlying228
  a213 := Tryz.isAgg228
  z213 := Tryz.sizeOf228
  t232 := Tryz.underlying237
  a232 := Tryz.isAgg237
  z232 := Tryz.sizeOf237
  v232 := Tryz.zeroValue237
  t233 := Tryz.underlying238
  a233 := Tryz.isAgg238
  z233 := Tryz.sizeOf238
  v233 := Tryz.zeroValue238
  g17 := by kernel_rfl
  g18 := by kernel_rfl
  g19 := by kernel_rfl
  i0 := by kernel_rfl
  i2 := by kernel_rfl
  i3 := by kernel_rfl
  i4 := by kernel_rfl
  i5 := by kernel_rfl
  i9 := by kernel_rfl
  i20 := by kernel_rfl
  i37 := by kernel_rfl
  i46 := by kernel_rfl
  i51 := by kernel_rfl
  i53 := by kernel_rfl
  i171 := by kernel_rfl
  i173 := by kernel_rfl
  i212 := by kernel_rfl
  i232 := by kernel_rfl
  i233 := by kernel_rfl
  m17 := by kernel_rfl
  m18 := by kernel_rfl
  m19 := by kernel_rfl }
open Go.RowKit Go.Sort Go.Lib in
/-- strconv.Itoa: "Itoa is equivalent to FormatInt(int64(i), 10).": i's DECIMAL NUMERAL ('Lib.itoa': a '-' where i is negative, then the digits), FOR EVERY int. The world behind the call: the world before it, new blocks behind the heap (the library's 'var a [24]byte'), draws. (LAID: no walk: one application.) -/
theorem Tryz.strconv_Itoa (n : Int) (h0 : -9223372036854775808 ≤ n) (h1 : n ≤ 9223372036854775807) (w : World) (htab : Lib.TabIs Tryz.prog w "internal/strconv.uint64pow10" .u64 Lib.pow10Tab) :
    Calls Tryz.prog 172 #[.int .i64 n] w fun e w' => e = .returned (.string ⟨(Lib.itoa n).toArray⟩) ∧ ∃ k os, w' = grow (w.drewN k) os := Any.strconv_Itoa Tryz.laysM171 n h0 h1 w htab
def Tryz.laysM173_ren : Go.Shelf.Ren := ⟨fun | 173 => 171 | 246 => 190 | 283 => 211 | 284 => 212 | 285 => 213 | 286 => 214 | 129 => 204 | 317 => 225 | 318 => 226 | 319 => 227 | 320 => 228 | 337 => 232 | 338 => 233 | n => n, fun | 2 => 2 | 3 => 3 | 9 => 9 | 4 => 4 | 171 => 216 | 0 => 0 | 53 => 209 | 37 => 177 | 5 => 5 | 173 => 218 | 212 => 227 | 51 => 207 | 20 => 20 | 213 => 228 | 46 => 172 | 232 => 237 | 233 => 238 | n => n, fun | 17 => 1 | 18 => 4 | 19 => 5 | n => n⟩
theorem Tryz.laysM173 : Go.Proofs.LaysM.n173 Tryz.prog Tryz.laysM173_ren := {
  mixed := by kernel_rfl
  f129 := Tryz.func204.trans (congrArg some (by kernel_rfl))
  f173 := Tryz.func171.trans (congrArg some (by kernel_rfl))
  f246 := Tryz.func190.trans (congrArg some (by kernel_rfl))
  f283 := Tryz.func211.trans (congrArg some (by kernel_rfl))
  f284 := Tryz.func212.trans (congrArg some (by kernel_rfl))
  f285 := Tryz.func213.trans (congrArg some (by kernel_rfl))
  f286 := Tryz.func214.trans (congrArg some (by kernel_rfl))
  f317 := Tryz.func225.trans (congrArg some (by kernel_rfl))
  f318 := Tryz.func226.trans (congrArg some (by kernel_rfl))
  f319 := Tryz.func227.trans (congrArg some (by kernel_rfl))
  f320 := Tryz.func228.trans (congrArg some (by kernel_rfl))
  f337 := Tryz.func232.trans (congrArg some (by kernel_rfl))
  f338 := Tryz.func233.trans (congrArg some (by kernel_rfl))
  t0 := Tryz.underlying0
  a0 := Tryz.isAgg0
  z0 := Tryz.sizeOf0
  v0 := Tryz.zeroValue0
  t2 := Tryz.underlying2
  a2 := Tryz.isAgg2
  z2 := Tryz.sizeOf2
  v2 := Tryz.zeroValue2
  t3 := Tryz.underlying3
  a3 := Tryz.isAgg3
  z3 := Tryz.sizeOf3
  v3 := Tryz.zeroValue3
  t4 := Tryz.underlying4
  a4 := Tryz.isAgg4
  z4 := Tryz.sizeOf4
  v4 := Tryz.zeroValue4
  t5 := Tryz.underlying5
  a5 := Tryz.isAgg5
  z5 := Tryz.sizeOf5
  v5 := Tryz.zeroValue5
  t9 := Tryz.underlying9
  a9 := Tryz.isAgg9
  z9 := Tryz.sizeOf9
  v9 := Tryz.zeroValue9
  t20 := Tryz.underlying20
  a20 := Tryz.isAgg20
  z20 := Tryz.sizeOf20
  v20 := Tryz.zeroValue20
  t37 := Tryz.underlying177
  a37 := Tryz.isAgg177
  z37 := Tryz.sizeOf177
  v37 := Tryz.zeroValue177
  t46 := Tryz.underlying172
  a46 := Tryz.isAgg172
  z46 := Tryz.sizeOf172
  v46 := Tryz.zeroValue172
  t51 := Tryz.underlying207
  a51 := Tryz.isAgg207
  z51 := Tryz.sizeOf207
  v51 := Tryz.zeroValue207
  t53 := Tryz.underlying209
  a53 := Tryz.isAgg209
  z53 := Tryz.sizeOf209
  v53 := Tryz.zeroValue209
  t171 := Tryz.underlying216
  a171 := Tryz.isAgg216
  z171 := Tryz.sizeOf216
  v171 := Tryz.zeroValue216
  t173 := Tryz.underlying218
  a173 := Tryz.isAgg218
  z173 := Tryz.sizeOf218
  v173 := Tryz.zeroValue218
  t212 := Tryz.underlying227
  a212 := Tryz.isAgg227
  z212 := Tryz.sizeOf227
  v212 := Tryz.zeroValue227
  t213 := Tryz.underlying228
  a213 := Tryz.isAgg228
  z213 := Tryz.sizeOf228
  t232 := Tryz.underlying237
  a232 := Tryz.isAgg237
  z232 := Tryz.sizeOf237
  v232 := Tryz.zeroValue237
  t233 := Tryz.underlying238
  a233 := Tryz.isAgg238
  z233 := Tryz.sizeOf238
  v233 := Tryz.zeroValue238
  g17 := by kernel_rfl
  g18 := by kernel_rfl
  g19 := by kernel_rfl
  i0 := by kernel_rfl
  i2 := by kernel_rfl
  i3 := by kernel_rfl
  i4 := by kernel_rfl
  i5 := by kernel_rfl
  i9 := by kernel_rfl
  i20 := by kernel_rfl
  i37 := by kernel_rfl
  i46 := by kernel_rfl
  i51 := by kernel_rfl
  i53 := by kernel_rfl
  i171 := by kernel_rfl
  i173 := by kernel_rfl
  i212 := by kernel_rfl
  i232 := by kernel_rfl
  i233 := by kernel_rfl
  m17 := by kernel_rfl
  m18 := by kernel_rfl
  m19 := by kernel_rfl }
open Go.RowKit Go.Sort Go.Lib in
/-- strconv.FormatInt: "FormatInt returns the string representation of i in the given base": AT BASE 10: i's decimal numeral, for every int64. (LAID: no walk: one application.) -/
theorem Tryz.strconv_FormatInt_10 (n : Int) (h0 : -9223372036854775808 ≤ n) (h1 : n ≤ 9223372036854775807) (w : World) (htab : Lib.TabIs Tryz.prog w "internal/strconv.uint64pow10" .u64 Lib.pow10Tab) :
    Calls Tryz.prog 171 #[.int .i64 n, .int .i64 10] w fun e w' => e = .returned (.string ⟨(Lib.itoa n).toArray⟩) ∧ ∃ k os, w' = grow (w.drewN k) os := Any.strconv_FormatInt_10 Tryz.laysM173 n h0 h1 w htab
end Go.Proofs
namespace Go.Proofs
open Go.Shelf
def Tryz.lays189_ren : Go.Shelf.Ren := ⟨fun | 189 => 157 | 125 => 182 | 257 => 181 | 128 => 203 | 129 => 204 | 294 => 195 | 295 => 196 | 296 => 197 | 297 => 198 | 298 => 199 | 299 => 200 | 216 => 163 | 300 => 201 | 301 => 202 | 328 => 215 | 329 => 216 | 330 => 217 | 331 => 218 | 332 => 219 | 215 => 186 | 343 => 229 | n => n, fun | 28 => 25 | 3 => 3 | 46 => 172 | 0 => 0 | 51 => 207 | 53 => 209 | 4 => 4 | 183 => 201 | 182 => 200 | 131 => 105 | 5 => 5 | 9 => 9 | 218 => 220 | 222 => 224 | 228 => 229 | 229 => 54 | n => n, fun | n => n⟩
theorem Tryz.lays189 : Go.Proofs.Lays.n189 Tryz.prog Tryz.lays189_ren := {
  mixed := by kernel_rfl
  f125 := Tryz.func182.trans (congrArg some (by kernel_rfl))
  f128 := Tryz.func203.trans (congrArg some (by kernel_rfl))
  f129 := Tryz.func204.trans (congrArg some (by kernel_rfl))
  f189 := Tryz.func157.trans (congrArg some (by kernel_rfl))
  f215 := Tryz.func186.trans (congrArg some (by kernel_rfl))
  f216 := Tryz.func163.trans (congrArg some (by kernel_rfl))
  f257 := Tryz.func181.trans (congrArg some (by kernel_rfl))
  f294 := Tryz.func195.trans (congrArg some (by kernel_rfl))
  f295 := Tryz.func196.trans (congrArg some (by kernel_rfl))
  f296 := Tryz.func197.trans (congrArg some (by kernel_rfl))
  f297 := Tryz.func198.trans (congrArg some (by kernel_rfl))
  f298 := Tryz.func199.trans (congrArg some (by kernel_rfl))
  f299 := Tryz.func200.trans (congrArg some (by kernel_rfl))
  f300 := Tryz.func201.trans (congrArg some (by kernel_rfl))
  f301 := Tryz.func202.trans (congrArg some (by kernel_rfl))
  f328 := Tryz.func215.trans (congrArg some (by kernel_rfl))
  f329 := Tryz.func216.trans (congrArg some (by kernel_rfl))
  f330 := Tryz.func217.trans (congrArg some (by kernel_rfl))
  f331 := Tryz.func218.trans (congrArg some (by kernel_rfl))
  f332 := Tryz.func219.trans (congrArg some (by kernel_rfl))
  f343 := Tryz.func229.trans (congrArg some (by kernel_rfl))
  t0 := Tryz.underlying0
  a0 := Tryz.isAgg0
  z0 := Tryz.sizeOf0
  v0 := Tryz.zeroValue0
  t3 := Tryz.underlying3
  a3 := Tryz.isAgg3
  z3 := Tryz.sizeOf3
  v3 := Tryz.zeroValue3
  t4 := Tryz.underlying4
  a4 := Tryz.isAgg4
  z4 := Tryz.sizeOf4
  v4 := Tryz.zeroValue4
  t5 := Tryz.underlying5
  a5 := Tryz.isAgg5
  z5 := Tryz.sizeOf5
  v5 := Tryz.zeroValue5
  t9 := Tryz.underlying9
  a9 := Tryz.isAgg9
  z9 := Tryz.sizeOf9
  v9 := Tryz.zeroValue9
  t28 := Tryz.underlying25
  a28 := Tryz.isAgg25
  z28 := Tryz.sizeOf25
  v28 := Tryz.zeroValue25
  t46 := Tryz.underlying172
  a46 := Tryz.isAgg172
  z46 := Tryz.sizeOf172
  v46 := Tryz.zeroValue172
  t51 := Tryz.underlying207
  a51 := Tryz.isAgg207
  z51 := Tryz.sizeOf207
  v51 := Tryz.zeroValue207
  t53 := Tryz.underlying209
  a53 := Tryz.isAgg209
  z53 := Tryz.sizeOf209
  v53 := Tryz.zeroValue209
  t131 := Tryz.underlying105
  a131 := Tryz.isAgg105
  z131 := Tryz.sizeOf105
  v131 := Tryz.zeroValue105
  t182 := Tryz.underlying200
  a182 := Tryz.isAgg200
  z182 := Tryz.sizeOf200
  v182 := Tryz.zeroValue200
  t183 := Tryz.underlying201
  a183 := Tryz.isAgg201
  z183 := Tryz.sizeOf201
  v183 := Tryz.zeroValue201
  t218 := Tryz.underlying220
  a218 := Tryz.isAgg220
  z218 := Tryz.sizeOf220
  v218 := Tryz.zeroValue220
  t222 := Tryz.underlying224
  a222 := Tryz.isAgg224
  z222 := Tryz.sizeOf224
  v222 := Tryz.zeroValue224
  t228 := Tryz.underlying229
  a228 := Tryz.isAgg229
  z228 := Tryz.sizeOf229
  v228 := Tryz.zeroValue229
  t229 := Tryz.underlying54
  a229 := Tryz.isAgg54
  z229 := Tryz.sizeOf54
  v229 := Tryz.zeroValue54 }
open Go.Sort Go.RowKit in
theorem Tryz.slices_Sort_int (blk off cap : Nat) (zs : List Int) (w : World) (hH : Holds (Value.int .i64) w blk off zs.toArray) (hblk : blk < w.heap.size) (hsz : zs.length < 4611686018427387904) :
    Calls Tryz.prog 157 #[.slice (some ⟨blk, off, none⟩) zs.length cap] w fun e w' =>
      e = .returned (.tuple #[]) ∧ ∃ n os, w' = grow (putRow (Value.int .i64) (Sort.ahead w n) blk off (zs.mergeSort fun x y => decide (x ≤ y)).toArray) os := Any.slices_Sort_int Tryz.lays189 blk off cap zs w hH hblk hsz
open Go.RowKit Go.Sort in
/-- .. and plain. (LAID: no walk: one application.) -/
theorem Tryz.slices_Sort_int_none (p : Option Addr) (cap : Nat) (w : World) :
    Calls Tryz.prog 157 #[.slice p 0 cap] w fun e w' => e = .returned (.tuple #[]) ∧ w' = w := Any.slices_Sort_int_none Tryz.lays189 p cap w
end Go.Proofs
namespace Go.Proofs
open Go.Shelf
def Tryz.keysA_ren : Go.Shelf.Ren := ⟨fun | 7 => 126 | 10 => 158 | n => n, fun | 23 => 139 | 26 => 3 | 3 => 53 | 28 => 143 | 0 => 0 | 27 => 142 | 33 => 169 | 4 => 4 | n => n, fun | n => n⟩
theorem Tryz.keysA : Go.Proofs.SlLaysZI.n7 Tryz.prog Tryz.keysA_ren := {
  mixed := by kernel_rfl
  f7 := ⟨Tryz.f126.name, by decide, Tryz.func126.trans (congrArg some (by kernel_rfl))⟩
  f10 := ⟨Tryz.f158.name, by decide, Tryz.func158.trans (congrArg some (by kernel_rfl))⟩
  t0 := Tryz.underlying0
  a0 := Tryz.isAgg0
  z0 := Tryz.sizeOf0
  v0 := Tryz.zeroValue0
  t4 := Tryz.underlying4
  a4 := Tryz.isAgg4
  z4 := Tryz.sizeOf4
  v4 := Tryz.zeroValue4
  t23 := Tryz.underlying139
  a23 := Tryz.isAgg139
  z23 := Tryz.sizeOf139
  v23 := Tryz.zeroValue139
  t26 := Tryz.underlying3
  a26 := Tryz.isAgg3
  z26 := Tryz.sizeOf3
  v26 := Tryz.zeroValue3
  t27 := Tryz.underlying142
  a27 := Tryz.isAgg142
  z27 := Tryz.sizeOf142
  v27 := Tryz.zeroValue142
  t28 := Tryz.underlying143
  a28 := Tryz.isAgg143
  z28 := Tryz.sizeOf143
  v28 := Tryz.zeroValue143
  t33 := Tryz.underlying169
  a33 := Tryz.isAgg169
  z33 := Tryz.sizeOf169
  v33 := Tryz.zeroValue169 }
def Tryz.sortedA_ren : Go.Shelf.Ren := ⟨fun | 6 => 125 | 8 => 156 | 9 => 157 | 11 => 180 | 13 => 182 | 12 => 181 | 23 => 203 | 24 => 204 | 14 => 195 | 15 => 196 | 16 => 197 | 17 => 198 | 18 => 199 | 19 => 200 | 20 => 163 | 21 => 201 | 22 => 202 | 25 => 215 | 26 => 216 | 27 => 217 | 28 => 218 | 29 => 219 | 30 => 186 | 31 => 229 | n => n, fun | 26 => 3 | 28 => 143 | 24 => 25 | 0 => 0 | 3 => 3 | 37 => 172 | 48 => 207 | 50 => 209 | 4 => 4 | 40 => 201 | 39 => 200 | 45 => 105 | 5 => 5 | 9 => 9 | 51 => 220 | 55 => 224 | 57 => 229 | 58 => 54 | 33 => 169 | n => n, fun | n => n⟩
theorem Tryz.sortedA : Go.Proofs.SlLaysZI.n6 Tryz.prog Tryz.sortedA_ren := {
  mixed := by kernel_rfl
  f6 := ⟨Tryz.f125.name, by decide, Tryz.func125.trans (congrArg some (by kernel_rfl))⟩
  f8 := ⟨Tryz.f156.name, by decide, Tryz.func156.trans (congrArg some (by kernel_rfl))⟩
  f11 := ⟨Tryz.f180.name, by decide, Tryz.func180.trans (congrArg some (by kernel_rfl))⟩
  t0 := Tryz.underlying0
  a0 := Tryz.isAgg0
  z0 := Tryz.sizeOf0
  v0 := Tryz.zeroValue0
  t24 := Tryz.underlying25
  a24 := Tryz.isAgg25
  z24 := Tryz.sizeOf25
  v24 := Tryz.zeroValue25
  t26 := Tryz.underlying3
  a26 := Tryz.isAgg3
  z26 := Tryz.sizeOf3
  v26 := Tryz.zeroValue3
  t28 := Tryz.underlying143
  a28 := Tryz.isAgg143
  z28 := Tryz.sizeOf143
  v28 := Tryz.zeroValue143
  i26 := by kernel_rfl }
def Tryz.sortA_ren : Go.Shelf.Ren := ⟨fun | 5 => 157 | 8 => 182 | 7 => 181 | 19 => 203 | 20 => 204 | 10 => 195 | 11 => 196 | 12 => 197 | 13 => 198 | 14 => 199 | 15 => 200 | 16 => 163 | 17 => 201 | 18 => 202 | 30 => 215 | 31 => 216 | 32 => 217 | 33 => 218 | 34 => 219 | 35 => 186 | 40 => 229 | n => n, fun | 23 => 25 | 25 => 3 | 3 => 3 | 32 => 172 | 22 => 25 | 0 => 0 | 44 => 207 | 46 => 209 | 4 => 4 | 36 => 201 | 35 => 200 | 41 => 105 | 5 => 5 | 9 => 9 | 53 => 220 | 57 => 224 | 63 => 229 | 64 => 54 | n => n, fun | n => n⟩
theorem Tryz.sortA : Go.Proofs.SlLaysM.n5 Tryz.prog Tryz.sortA_ren := {
  mixed := by kernel_rfl
  f5 := ⟨Tryz.f157.name, by decide, Tryz.func157.trans (congrArg some (by kernel_rfl))⟩
  f7 := ⟨Tryz.f181.name, by decide, Tryz.func181.trans (congrArg some (by kernel_rfl))⟩
  f8 := Tryz.func182.trans (congrArg some (by kernel_rfl))
  f10 := ⟨Tryz.f195.name, by decide, Tryz.func195.trans (congrArg some (by kernel_rfl))⟩
  f11 := ⟨Tryz.f196.name, by decide, Tryz.func196.trans (congrArg some (by kernel_rfl))⟩
  f12 := ⟨Tryz.f197.name, by decide, Tryz.func197.trans (congrArg some (by kernel_rfl))⟩
  f13 := ⟨Tryz.f198.name, by decide, Tryz.func198.trans (congrArg some (by kernel_rfl))⟩
  f14 := ⟨Tryz.f199.name, by decide, Tryz.func199.trans (congrArg some (by kernel_rfl))⟩
  f15 := ⟨Tryz.f200.name, by decide, Tryz.func200.trans (congrArg some (by kernel_rfl))⟩
  f16 := ⟨Tryz.f163.name, by decide, Tryz.func163.trans (congrArg some (by kernel_rfl))⟩
  f17 := ⟨Tryz.f201.name, by decide, Tryz.func201.trans (congrArg some (by kernel_rfl))⟩
  f18 := ⟨Tryz.f202.name, by decide, Tryz.func202.trans (congrArg some (by kernel_rfl))⟩
  f19 := Tryz.func203.trans (congrArg some (by kernel_rfl))
  f20 := Tryz.func204.trans (congrArg some (by kernel_rfl))
  f30 := ⟨Tryz.f215.name, by decide, Tryz.func215.trans (congrArg some (by kernel_rfl))⟩
  f31 := Tryz.func216.trans (congrArg some (by kernel_rfl))
  f32 := Tryz.func217.trans (congrArg some (by kernel_rfl))
  f33 := ⟨Tryz.f218.name, by decide, Tryz.func218.trans (congrArg some (by kernel_rfl))⟩
  f34 := ⟨Tryz.f219.name, by decide, Tryz.func219.trans (congrArg some (by kernel_rfl))⟩
  f35 := ⟨Tryz.f186.name, by decide, Tryz.func186.trans (congrArg some (by kernel_rfl))⟩
  f40 := ⟨Tryz.f229.name, by decide, Tryz.func229.trans (congrArg some (by kernel_rfl))⟩
  t0 := Tryz.underlying0
  a0 := Tryz.isAgg0
  z0 := Tryz.sizeOf0
  v0 := Tryz.zeroValue0
  t3 := Tryz.underlying3
  a3 := Tryz.isAgg3
  z3 := Tryz.sizeOf3
  v3 := Tryz.zeroValue3
  t4 := Tryz.underlying4
  a4 := Tryz.isAgg4
  z4 := Tryz.sizeOf4
  v4 := Tryz.zeroValue4
  t5 := Tryz.underlying5
  a5 := Tryz.isAgg5
  z5 := Tryz.sizeOf5
  v5 := Tryz.zeroValue5
  t9 := Tryz.underlying9
  a9 := Tryz.isAgg9
  z9 := Tryz.sizeOf9
  v9 := Tryz.zeroValue9
  t22 := Tryz.underlying25
  a22 := Tryz.isAgg25
  z22 := Tryz.sizeOf25
  v22 := Tryz.zeroValue25
  t23 := Tryz.underlying25
  a23 := Tryz.isAgg25
  z23 := Tryz.sizeOf25
  v23 := Tryz.zeroValue25
  t25 := Tryz.underlying3
  a25 := Tryz.isAgg3
  z25 := Tryz.sizeOf3
  v25 := Tryz.zeroValue3
  t32 := Tryz.underlying172
  a32 := Tryz.isAgg172
  z32 := Tryz.sizeOf172
  v32 := Tryz.zeroValue172
  t35 := Tryz.underlying200
  a35 := Tryz.isAgg200
  z35 := Tryz.sizeOf200
  v35 := Tryz.zeroValue200
  t36 := Tryz.underlying201
  a36 := Tryz.isAgg201
  z36 := Tryz.sizeOf201
  v36 := Tryz.zeroValue201
  t41 := Tryz.underlying105
  a41 := Tryz.isAgg105
  z41 := Tryz.sizeOf105
  v41 := Tryz.zeroValue105
  t44 := Tryz.underlying207
  a44 := Tryz.isAgg207
  z44 := Tryz.sizeOf207
  v44 := Tryz.zeroValue207
  t46 := Tryz.underlying209
  a46 := Tryz.isAgg209
  z46 := Tryz.sizeOf209
  v46 := Tryz.zeroValue209
  t53 := Tryz.underlying220
  a53 := Tryz.isAgg220
  z53 := Tryz.sizeOf220
  v53 := Tryz.zeroValue220
  t57 := Tryz.underlying224
  a57 := Tryz.isAgg224
  z57 := Tryz.sizeOf224
  v57 := Tryz.zeroValue224
  t63 := Tryz.underlying229
  a63 := Tryz.isAgg229
  z63 := Tryz.sizeOf229
  v63 := Tryz.zeroValue229
  t64 := Tryz.underlying54
  a64 := Tryz.isAgg54
  z64 := Tryz.sizeOf54
  v64 := Tryz.zeroValue54 }
end Go.Proofs
