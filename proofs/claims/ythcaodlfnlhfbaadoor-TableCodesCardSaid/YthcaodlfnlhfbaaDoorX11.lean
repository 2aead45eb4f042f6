/- The layings of slices.Sorted(maps.Keys(m)) at this dump (what the kit's program writes, in plain text); expr.Refs. -/
import Derived.Shelf.SlIter.Nil
import Derived.Shelf.SortM.Plain
import Derived.Shelf.SortM.SortNone
import Derived.Test.YthcaodlfnlhfbaaDoorX10
namespace Go.Proofs
open Go.RowKit Go.Maps Go.Sort Go.Shelf
def YthcaodlfnlhfbaaDoorT.keys68_ren : Go.Shelf.Ren := ⟨fun | 7 => 68 | 10 => 97 | n => n, fun | 23 => 121 | 26 => 9 | 3 => 4 | 28 => 127 | 0 => 0 | 27 => 126 | 33 => 31 | 4 => 4 | n => n, fun | n => n⟩
theorem YthcaodlfnlhfbaaDoorT.keys68 : Go.Proofs.SlLaysZ.n7 Tryd.prog YthcaodlfnlhfbaaDoorT.keys68_ren where
  mixed := by kernel_rfl
  f7 := ⟨"maps.Keys[map[string]bool,string,bool]", by decide, Tryd.func68.trans (congrArg some (by kernel_rfl))⟩
  f10 := ⟨"maps.Keys[map[string]bool,string,bool]$1", by decide, Tryd.func97.trans (congrArg some (by kernel_rfl))⟩
  t0 := Tryd.underlying0
  a0 := Tryd.isAgg0
  z0 := Tryd.sizeOf0
  v0 := Tryd.zeroValue0
  t4 := Tryd.underlying4
  a4 := Tryd.isAgg4
  z4 := Tryd.sizeOf4
  v4 := Tryd.zeroValue4
  t23 := Tryd.underlying121
  a23 := Tryd.isAgg121
  z23 := Tryd.sizeOf121
  v23 := Tryd.zeroValue121
  t26 := Tryd.underlying9
  a26 := Tryd.isAgg9
  z26 := Tryd.sizeOf9
  v26 := Tryd.zeroValue9
  t27 := Tryd.underlying126
  a27 := Tryd.isAgg126
  z27 := Tryd.sizeOf126
  v27 := Tryd.zeroValue126
  t28 := Tryd.underlying127
  a28 := Tryd.isAgg127
  z28 := Tryd.sizeOf127
  v28 := Tryd.zeroValue127
  t33 := Tryd.underlying31
  a33 := Tryd.isAgg31
  z33 := Tryd.sizeOf31
  v33 := Tryd.zeroValue31
def YthcaodlfnlhfbaaDoorT.sorted67_ren : Go.Shelf.Ren := ⟨fun | 6 => 67 | 8 => 95 | 9 => 96 | 11 => 110 | 13 => 112 | 12 => 111 | 23 => 126 | 24 => 127 | 14 => 117 | 15 => 118 | 16 => 119 | 17 => 120 | 18 => 121 | 19 => 122 | 20 => 123 | 21 => 124 | 22 => 125 | 25 => 138 | 26 => 139 | 27 => 140 | 28 => 141 | 29 => 142 | 30 => 143 | 31 => 151 | n => n, fun | 26 => 9 | 28 => 127 | 24 => 90 | 0 => 0 | 3 => 3 | 37 => 155 | 48 => 183 | 50 => 164 | 4 => 4 | 40 => 176 | 39 => 175 | 45 => 180 | 5 => 5 | 9 => 9 | 51 => 196 | 55 => 200 | 57 => 210 | 58 => 78 | 33 => 31 | n => n, fun | n => n⟩
theorem YthcaodlfnlhfbaaDoorT.sorted67 : Go.Proofs.SlLaysZ.n6 Tryd.prog YthcaodlfnlhfbaaDoorT.sorted67_ren where
  mixed := by kernel_rfl
  f6 := ⟨"slices.Sorted[string]", by decide, Tryd.func67.trans (congrArg some (by kernel_rfl))⟩
  f8 := ⟨"slices.Collect[string]", by decide, Tryd.func95.trans (congrArg some (by kernel_rfl))⟩
  f11 := ⟨"slices.AppendSeq[[]string,string]", by decide, Tryd.func110.trans (congrArg some (by kernel_rfl))⟩
  t0 := Tryd.underlying0
  a0 := Tryd.isAgg0
  z0 := Tryd.sizeOf0
  v0 := Tryd.zeroValue0
  t24 := Tryd.underlying90
  a24 := Tryd.isAgg90
  z24 := Tryd.sizeOf90
  v24 := Tryd.zeroValue90
  t26 := Tryd.underlying9
  a26 := Tryd.isAgg9
  z26 := Tryd.sizeOf9
  v26 := Tryd.zeroValue9
  t28 := Tryd.underlying127
  a28 := Tryd.isAgg127
  z28 := Tryd.sizeOf127
  v28 := Tryd.zeroValue127
  i26 := by kernel_rfl
def YthcaodlfnlhfbaaDoorT.sort96_ren : Go.Shelf.Ren := ⟨fun | 6 => 96 | 8 => 112 | 9 => 111 | 19 => 126 | 20 => 127 | 21 => 117 | 22 => 118 | 23 => 119 | 24 => 120 | 25 => 121 | 26 => 122 | 27 => 123 | 28 => 124 | 29 => 125 | 36 => 138 | 31 => 139 | 32 => 140 | 37 => 141 | 38 => 142 | 39 => 143 | 41 => 151 | n => n, fun | 27 => 90 | 29 => 9 | 3 => 3 | 32 => 155 | 26 => 90 | 0 => 0 | 44 => 183 | 46 => 164 | 4 => 4 | 36 => 176 | 35 => 175 | 41 => 180 | 5 => 5 | 9 => 9 | 53 => 196 | 57 => 200 | 63 => 210 | 64 => 78 | n => n, fun | n => n⟩
theorem YthcaodlfnlhfbaaDoorT.sort96 : Go.Proofs.SlLaysM.n6 Tryd.prog YthcaodlfnlhfbaaDoorT.sort96_ren where
  mixed := by kernel_rfl
  f6 := ⟨"slices.Sort[[]string,string]", by decide, Tryd.func96.trans (congrArg some (by kernel_rfl))⟩
  f8 := Tryd.func112.trans (congrArg some (by kernel_rfl))
  f9 := ⟨"slices.pdqsortOrdered[string]", by decide, Tryd.func111.trans (congrArg some (by kernel_rfl))⟩
  f19 := Tryd.func126.trans (congrArg some (by kernel_rfl))
  f20 := Tryd.func127.trans (congrArg some (by kernel_rfl))
  f21 := ⟨"slices.insertionSortOrdered[string]", by decide, Tryd.func117.trans (congrArg some (by kernel_rfl))⟩
  f22 := ⟨"slices.heapSortOrdered[string]", by decide, Tryd.func118.trans (congrArg some (by kernel_rfl))⟩
  f23 := ⟨"slices.breakPatternsOrdered[string]", by decide, Tryd.func119.trans (congrArg some (by kernel_rfl))⟩
  f24 := ⟨"slices.choosePivotOrdered[string]", by decide, Tryd.func120.trans (congrArg some (by kernel_rfl))⟩
  f25 := ⟨"slices.reverseRangeOrdered[string]", by decide, Tryd.func121.trans (congrArg some (by kernel_rfl))⟩
  f26 := ⟨"slices.partialInsertionSortOrdered[string]", by decide, Tryd.func122.trans (congrArg some (by kernel_rfl))⟩
  f27 := ⟨"cmp.Less[string]", by decide, Tryd.func123.trans (congrArg some (by kernel_rfl))⟩
  f28 := ⟨"slices.partitionEqualOrdered[string]", by decide, Tryd.func124.trans (congrArg some (by kernel_rfl))⟩
  f29 := ⟨"slices.partitionOrdered[string]", by decide, Tryd.func125.trans (congrArg some (by kernel_rfl))⟩
  f31 := Tryd.func139.trans (congrArg some (by kernel_rfl))
  f32 := Tryd.func140.trans (congrArg some (by kernel_rfl))
  f36 := ⟨"slices.siftDownOrdered[string]", by decide, Tryd.func138.trans (congrArg some (by kernel_rfl))⟩
  f37 := ⟨"slices.medianAdjacentOrdered[string]", by decide, Tryd.func141.trans (congrArg some (by kernel_rfl))⟩
  f38 := ⟨"slices.medianOrdered[string]", by decide, Tryd.func142.trans (congrArg some (by kernel_rfl))⟩
  f39 := ⟨"cmp.isNaN[string]", by decide, Tryd.func143.trans (congrArg some (by kernel_rfl))⟩
  f41 := ⟨"slices.order2Ordered[string]", by decide, Tryd.func151.trans (congrArg some (by kernel_rfl))⟩
  t0 := Tryd.underlying0
  a0 := Tryd.isAgg0
  z0 := Tryd.sizeOf0
  v0 := Tryd.zeroValue0
  t3 := Tryd.underlying3
  a3 := Tryd.isAgg3
  z3 := Tryd.sizeOf3
  v3 := Tryd.zeroValue3
  t4 := Tryd.underlying4
  a4 := Tryd.isAgg4
  z4 := Tryd.sizeOf4
  v4 := Tryd.zeroValue4
  t5 := Tryd.underlying5
  a5 := Tryd.isAgg5
  z5 := Tryd.sizeOf5
  v5 := Tryd.zeroValue5
  t9 := Tryd.underlying9
  a9 := Tryd.isAgg9
  z9 := Tryd.sizeOf9
  v9 := Tryd.zeroValue9
  t26 := Tryd.underlying90
  a26 := Tryd.isAgg90
  z26 := Tryd.sizeOf90
  v26 := Tryd.zeroValue90
  t27 := Tryd.underlying90
  a27 := Tryd.isAgg90
  z27 := Tryd.sizeOf90
  v27 := Tryd.zeroValue90
  t29 := Tryd.underlying9
  a29 := Tryd.isAgg9
  z29 := Tryd.sizeOf9
  v29 := Tryd.zeroValue9
  t32 := Tryd.underlying155
  a32 := Tryd.isAgg155
  z32 := Tryd.sizeOf155
  v32 := Tryd.zeroValue155
  t35 := Tryd.underlying175
  a35 := Tryd.isAgg175
  z35 := Tryd.sizeOf175
  v35 := Tryd.zeroValue175
  t36 := Tryd.underlying176
  a36 := Tryd.isAgg176
  z36 := Tryd.sizeOf176
  v36 := Tryd.zeroValue176
  t41 := Tryd.underlying180
  a41 := Tryd.isAgg180
  z41 := Tryd.sizeOf180
  v41 := Tryd.zeroValue180
  t44 := Tryd.underlying183
  a44 := Tryd.isAgg183
  z44 := Tryd.sizeOf183
  v44 := Tryd.zeroValue183
  t46 := Tryd.underlying164
  a46 := Tryd.isAgg164
  z46 := Tryd.sizeOf164
  v46 := Tryd.zeroValue164
  t53 := Tryd.underlying196
  a53 := Tryd.isAgg196
  z53 := Tryd.sizeOf196
  v53 := Tryd.zeroValue196
  t57 := Tryd.underlying200
  a57 := Tryd.isAgg200
  z57 := Tryd.sizeOf200
  v57 := Tryd.zeroValue200
  t63 := Tryd.underlying210
  a63 := Tryd.isAgg210
  z63 := Tryd.sizeOf210
  v63 := Tryd.zeroValue210
  t64 := Tryd.underlying78
  a64 := Tryd.isAgg78
  z64 := Tryd.sizeOf78
  v64 := Tryd.zeroValue78
theorem YthcaodlfnlhfbaaDoorT.sorts67 (m : Nat) : AnyZ.SortsIn Tryd.prog YthcaodlfnlhfbaaDoorT.sorted67_ren Fence.wide m :=
  ⟨fun blk off cap ss W hH hblk hsz => callsIn_wide.2 (AnyM.slices_Sort_string YthcaodlfnlhfbaaDoorT.sort96 blk off cap ss W hH hblk hsz),
   fun p cap W => callsIn_wide.2 (AnyM.slices_Sort_string_none YthcaodlfnlhfbaaDoorT.sort96 p cap W)⟩

theorem YthcaodlfnlhfbaaDoorT.maps_Keys_68 (mb : Option Nat) (W : World) : CallsIn Fence.wide 5 Tryd.prog 68 #[.map mb] W fun e w' => e = .returned (.func (.func 97) #[] #[.pointer (some ⟨W.heap.size, 0, none⟩)]) ∧ w' = W.alloc (.cells #[.map mb] 121) :=
  AnyZ.keys_in YthcaodlfnlhfbaaDoorT.keys68 Fence.wide 5 trivial rfl mb W

set_option maxHeartbeats 1000000 in
theorem YthcaodlfnlhfbaaDoorT.slices_Sorted_keys_67_68 {H : Type} (b nn : Nat) (D0 : DataW H) (R : Value → Option (DataW H × List MemPlace)) (w : World) (hown : w.ownsMap Tryd.prog 9 R b nn D0) (hmax : Maps.size D0 ≤ maxLen) (hbytes : Maps.size D0 * 16 ≤ 140737488355328) :
    CallsIn Fence.wide 5 Tryd.prog 67 #[.func (.func 97) #[] #[.pointer (some ⟨w.heap.size, 0, none⟩)]] (w.alloc (.cells #[.map (some b)] 121)) fun e w' => ∃ (v : Value) (ss : List (List UInt8)), e = .returned v ∧ ss.Perm (strKeys D0) ∧
      w'.ownsRow (w.alloc (.cells #[.map (some b)] 121)).heap.size 9 1 v ss.length ((ss.mergeSort (fun x y => decide (x ≤ y))).map encStr) ∧ (v = .slice none 0 0 ↔ ss = []) ∧ Below (w.alloc (.cells #[.map (some b)] 121)).heap.size (w.alloc (.cells #[.map (some b)] 121)) w' := by
  have hbl := hown.lt
  have hseq : SeqGives Fence.wide 2 Tryd.prog 97 #[.pointer (some ⟨w.heap.size, 0, none⟩)] encStr (fun ss => ss.Perm (strKeys D0)) (Maps.size D0) (w.alloc (.cells #[.map (some b)] 121)) :=
    AnyZ.keys_gives (ρ := YthcaodlfnlhfbaaDoorT.keys68_ren) { YthcaodlfnlhfbaaDoorT.keys68 with } Fence.wide _ trivial rfl (by omega) w.heap.size b nn D0 _ (by simp) (by simp) (by
      obtain ⟨es, clock, hb, Ft, hs, hD⟩ := hown
      exact ⟨es, clock, (Below.heap_alloc _ _ b hbl).trans hb, Ft, hs, hD⟩)
  exact AnyZ.sorted_in YthcaodlfnlhfbaaDoorT.sorted67 Fence.wide 5 trivial trivial trivial trivial rfl (by omega) (YthcaodlfnlhfbaaDoorT.sorts67 _) (enters_of Tryd.func96 (by kernel_rfl) rfl) 97 #[.pointer (some ⟨w.heap.size, 0, none⟩)] trivial (enters_of Tryd.func97 (by kernel_rfl) rfl) _ _ hmax hbytes _ hseq

end Go.Proofs
