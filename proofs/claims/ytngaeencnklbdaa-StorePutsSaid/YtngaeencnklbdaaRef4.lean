/-
  WHAT IS PROVED HERE: what the reference's Of hands back. Conditions: texts of at most 2^47 - 4096 bytes.
-/
import Derived.Test.YtngaeencnklbdaaRef3
namespace Go.Proofs.Ytngaeencnklbdaa
open Go.RowKit

theorem over_dig (s : ByteArray) (D : ByteArray) (hD : (⟨(digL s.data.toList).toArray⟩ : ByteArray) = D) (Ah : Option Addr) (ch : Nat) (Ak : Option Addr) (ck : Nat) (w : World) {B B' : Nat} (hs : s.size ≤ 140737488351232)
    (hh : Reads w B 62 1 Ah 8 ((s8L iv8).map v32)) (hk : Reads w B' 62 1 Ak 64 (kK.map v32)) :
    Calls Try.prog 44 #[.string s, .slice Ah 8 ch, .slice Ak 64 ck] w fun e w' => e = .returned (.string D) ∧ Below w.heap.size w w' := by
  subst hD
  exact over_any s iv8 Ah ch Ak ck w hs okS_iv8 _ rfl hh hk
set_option maxRecDepth 100000 in
set_option maxHeartbeats 1600000 in
theorem ROf_any (s : ByteArray) (w : World) (hs : s.size ≤ 140737488351232) :
    Calls Try.prog 37 #[.string s] w fun e w' => e = .returned (.string ⟨(digL s.data.toList).toArray⟩) ∧ Below w.heap.size w w' := by
  have hKe : (kK.map v32).toArray = #[.int .u32 1116352408, .int .u32 1899447441, .int .u32 3049323471, .int .u32 3921009573, .int .u32 961987163, .int .u32 1508970993, .int .u32 2453635748, .int .u32 2870763221, .int .u32 3624381080, .int .u32 310598401, .int .u32 607225278, .int .u32 1426881987, .int .u32 1925078388, .int .u32 2162078206, .int .u32 2614888103, .int .u32 3248222580, .int .u32 3835390401, .int .u32 4022224774, .int .u32 264347078, .int .u32 604807628, .int .u32 770255983, .int .u32 1249150122, .int .u32 1555081692, .int .u32 1996064986, .int .u32 2554220882, .int .u32 2821834349, .int .u32 2952996808, .int .u32 3210313671, .int .u32 3336571891, .int .u32 3584528711, .int .u32 113926993, .int .u32 338241895, .int .u32 666307205, .int .u32 773529912, .int .u32 1294757372, .int .u32 1396182291, .int .u32 1695183700, .int .u32 1986661051, .int .u32 2177026350, .int .u32 2456956037, .int .u32 2730485921, .int .u32 2820302411, .int .u32 3259730800, .int .u32 3345764771, .int .u32 3516065817, .int .u32 3600352804, .int .u32 4094571909, .int .u32 275423344, .int .u32 430227734, .int .u32 506948616, .int .u32 659060556, .int .u32 883997877, .int .u32 958139571, .int .u32 1322822218, .int .u32 1537002063, .int .u32 1747873779, .int .u32 1955562222, .int .u32 2024104815, .int .u32 2227730452, .int .u32 2361852424, .int .u32 2428436474, .int .u32 2756734187, .int .u32 3204031479, .int .u32 3329325298] := by kernel_rfl
  have hHe : ((s8L iv8).map v32).toArray = #[.int .u32 1779033703, .int .u32 3144134277, .int .u32 1013904242, .int .u32 2773480762, .int .u32 1359893119, .int .u32 2600822924, .int .u32 528734635, .int .u32 1541459225] := by kernel_rfl
  have hk := reads_new w (kK.map v32).toArray 62 64 1 w.heap.size (by kernel_rfl)
  have hh := reads_new (w.alloc (.cells (kK.map v32).toArray 62)) ((s8L iv8).map v32).toArray 62 8 1 w.heap.size (by kernel_rfl)
  have hk2 := hk.to (w' := (w.alloc (.cells (kK.map v32).toArray 62)).alloc (.cells ((s8L iv8).map v32).toArray 62)) (by go_grown)
  rw [List.toList_toArray] at hh hk2
  rw [World.size_alloc] at hh
  rw [hKe, hHe] at hh hk2
  replace hh := hid_mk hh
  replace hk2 := hid_mk hk2
  clear hKe hHe hk
  obtain ⟨D, hD⟩ : ∃ D : ByteArray, (⟨(digL s.data.toList).toArray⟩ : ByteArray) = D := ⟨_, rfl⟩
  rw [hD]
  replace hD := hid_mk hD
  refine calls_of_wpQ Try.func37 rfl ?_
  intro Q hQ
  simp only [Try.ntmps37, List.size_toArray, List.length_cons, List.length_nil, Nat.reduceAdd, Nat.reduceSub, Array.replicate_succ, Array.replicate_zero, List.push_toArray, List.append_toArray, List.nil_append, List.cons_append]
  go_wp2_with fail
  refine (over_dig s D hD.out _ _ _ _ _ hs hh.out hk2.out).mono ?_
  rintro e w1 ⟨rfl, hb⟩
  have q1 := (after (w := w) hb (by go_grown)).1
  go_wp2
  refine ends_ret hQ (results_tmp rfl _ _ _) rfl ?_
  exact ⟨rfl, q1⟩
end Go.Proofs.Ytngaeencnklbdaa
