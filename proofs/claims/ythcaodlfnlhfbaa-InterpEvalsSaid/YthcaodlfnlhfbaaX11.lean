/- The layings of slices.Sorted(maps.Keys(m)) at this dump (what the kit's program writes, in plain text); expr.Refs. -/
import Derived.Shelf.SlIter.Nil
import Derived.Shelf.SortM.Plain
import Derived.Shelf.SortM.SortNone
import Derived.Test.YthcaodlfnlhfbaaX10
namespace Go.Proofs
open Go.RowKit Go.Maps Go.Sort Go.Shelf
def YthcaodlfnlhfbaaT.keys68_ren : Go.Shelf.Ren := ⟨fun | 7 => 44 | 10 => 66 | n => n, fun | 23 => 113 | 26 => 9 | 3 => 4 | 28 => 119 | 0 => 0 | 27 => 118 | 33 => 86 | 4 => 4 | n => n, fun | n => n⟩
theorem YthcaodlfnlhfbaaT.keys68 : Go.Proofs.SlLaysZ.n7 Try.prog YthcaodlfnlhfbaaT.keys68_ren where
  mixed := by kernel_rfl
  f7 := ⟨"maps.Keys[map[string]bool,string,bool]", by decide, Try.func44.trans (congrArg some (by kernel_rfl))⟩
  f10 := ⟨"maps.Keys[map[string]bool,string,bool]$1", by decide, Try.func66.trans (congrArg some (by kernel_rfl))⟩
  t0 := Try.underlying0
  a0 := Try.isAgg0
  z0 := Try.sizeOf0
  v0 := Try.zeroValue0
  t4 := Try.underlying4
  a4 := Try.isAgg4
  z4 := Try.sizeOf4
  v4 := Try.zeroValue4
  t23 := Try.underlying113
  a23 := Try.isAgg113
  z23 := Try.sizeOf113
  v23 := Try.zeroValue113
  t26 := Try.underlying9
  a26 := Try.isAgg9
  z26 := Try.sizeOf9
  v26 := Try.zeroValue9
  t27 := Try.underlying118
  a27 := Try.isAgg118
  z27 := Try.sizeOf118
  v27 := Try.zeroValue118
  t28 := Try.underlying119
  a28 := Try.isAgg119
  z28 := Try.sizeOf119
  v28 := Try.zeroValue119
  t33 := Try.underlying86
  a33 := Try.isAgg86
  z33 := Try.sizeOf86
  v33 := Try.zeroValue86
def YthcaodlfnlhfbaaT.sorted67_ren : Go.Shelf.Ren := ⟨fun | 6 => 43 | 8 => 64 | 9 => 65 | 11 => 73 | 13 => 75 | 12 => 74 | 23 => 86 | 24 => 87 | 14 => 77 | 15 => 78 | 16 => 79 | 17 => 80 | 18 => 81 | 19 => 82 | 20 => 83 | 21 => 84 | 22 => 85 | 25 => 88 | 26 => 89 | 27 => 90 | 28 => 91 | 29 => 92 | 30 => 93 | 31 => 94 | n => n, fun | 26 => 9 | 28 => 119 | 24 => 83 | 0 => 0 | 3 => 3 | 37 => 157 | 48 => 168 | 50 => 170 | 4 => 4 | 40 => 160 | 39 => 159 | 45 => 165 | 5 => 5 | 9 => 9 | 51 => 171 | 55 => 175 | 57 => 177 | 58 => 178 | 33 => 86 | n => n, fun | n => n⟩
theorem YthcaodlfnlhfbaaT.sorted67 : Go.Proofs.SlLaysZ.n6 Try.prog YthcaodlfnlhfbaaT.sorted67_ren where
  mixed := by kernel_rfl
  f6 := ⟨"slices.Sorted[string]", by decide, Try.func43.trans (congrArg some (by kernel_rfl))⟩
  f8 := ⟨"slices.Collect[string]", by decide, Try.func64.trans (congrArg some (by kernel_rfl))⟩
  f11 := ⟨"slices.AppendSeq[[]string,string]", by decide, Try.func73.trans (congrArg some (by kernel_rfl))⟩
  t0 := Try.underlying0
  a0 := Try.isAgg0
  z0 := Try.sizeOf0
  v0 := Try.zeroValue0
  t24 := Try.underlying83
  a24 := Try.isAgg83
  z24 := Try.sizeOf83
  v24 := Try.zeroValue83
  t26 := Try.underlying9
  a26 := Try.isAgg9
  z26 := Try.sizeOf9
  v26 := Try.zeroValue9
  t28 := Try.underlying119
  a28 := Try.isAgg119
  z28 := Try.sizeOf119
  v28 := Try.zeroValue119
  i26 := by kernel_rfl
def YthcaodlfnlhfbaaT.sort96_ren : Go.Shelf.Ren := ⟨fun | 6 => 65 | 8 => 75 | 9 => 74 | 19 => 86 | 20 => 87 | 21 => 77 | 22 => 78 | 23 => 79 | 24 => 80 | 25 => 81 | 26 => 82 | 27 => 83 | 28 => 84 | 29 => 85 | 36 => 88 | 31 => 89 | 32 => 90 | 37 => 91 | 38 => 92 | 39 => 93 | 41 => 94 | n => n, fun | 27 => 83 | 29 => 9 | 3 => 3 | 32 => 157 | 26 => 83 | 0 => 0 | 44 => 168 | 46 => 170 | 4 => 4 | 36 => 160 | 35 => 159 | 41 => 165 | 5 => 5 | 9 => 9 | 53 => 171 | 57 => 175 | 63 => 177 | 64 => 178 | n => n, fun | n => n⟩
theorem YthcaodlfnlhfbaaT.sort96 : Go.Proofs.SlLaysM.n6 Try.prog YthcaodlfnlhfbaaT.sort96_ren where
  mixed := by kernel_rfl
  f6 := ⟨"slices.Sort[[]string,string]", by decide, Try.func65.trans (congrArg some (by kernel_rfl))⟩
  f8 := Try.func75.trans (congrArg some (by kernel_rfl))
  f9 := ⟨"slices.pdqsortOrdered[string]", by decide, Try.func74.trans (congrArg some (by kernel_rfl))⟩
  f19 := Try.func86.trans (congrArg some (by kernel_rfl))
  f20 := Try.func87.trans (congrArg some (by kernel_rfl))
  f21 := ⟨"slices.insertionSortOrdered[string]", by decide, Try.func77.trans (congrArg some (by kernel_rfl))⟩
  f22 := ⟨"slices.heapSortOrdered[string]", by decide, Try.func78.trans (congrArg some (by kernel_rfl))⟩
  f23 := ⟨"slices.breakPatternsOrdered[string]", by decide, Try.func79.trans (congrArg some (by kernel_rfl))⟩
  f24 := ⟨"slices.choosePivotOrdered[string]", by decide, Try.func80.trans (congrArg some (by kernel_rfl))⟩
  f25 := ⟨"slices.reverseRangeOrdered[string]", by decide, Try.func81.trans (congrArg some (by kernel_rfl))⟩
  f26 := ⟨"slices.partialInsertionSortOrdered[string]", by decide, Try.func82.trans (congrArg some (by kernel_rfl))⟩
  f27 := ⟨"cmp.Less[string]", by decide, Try.func83.trans (congrArg some (by kernel_rfl))⟩
  f28 := ⟨"slices.partitionEqualOrdered[string]", by decide, Try.func84.trans (congrArg some (by kernel_rfl))⟩
  f29 := ⟨"slices.partitionOrdered[string]", by decide, Try.func85.trans (congrArg some (by kernel_rfl))⟩
  f31 := Try.func89.trans (congrArg some (by kernel_rfl))
  f32 := Try.func90.trans (congrArg some (by kernel_rfl))
  f36 := ⟨"slices.siftDownOrdered[string]", by decide, Try.func88.trans (congrArg some (by kernel_rfl))⟩
  f37 := ⟨"slices.medianAdjacentOrdered[string]", by decide, Try.func91.trans (congrArg some (by kernel_rfl))⟩
  f38 := ⟨"slices.medianOrdered[string]", by decide, Try.func92.trans (congrArg some (by kernel_rfl))⟩
  f39 := ⟨"cmp.isNaN[string]", by decide, Try.func93.trans (congrArg some (by kernel_rfl))⟩
  f41 := ⟨"slices.order2Ordered[string]", by decide, Try.func94.trans (congrArg some (by kernel_rfl))⟩
  t0 := Try.underlying0
  a0 := Try.isAgg0
  z0 := Try.sizeOf0
  v0 := Try.zeroValue0
  t3 := Try.underlying3
  a3 := Try.isAgg3
  z3 := Try.sizeOf3
  v3 := Try.zeroValue3
  t4 := Try.underlying4
  a4 := Try.isAgg4
  z4 := Try.sizeOf4
  v4 := Try.zeroValue4
  t5 := Try.underlying5
  a5 := Try.isAgg5
  z5 := Try.sizeOf5
  v5 := Try.zeroValue5
  t9 := Try.underlying9
  a9 := Try.isAgg9
  z9 := Try.sizeOf9
  v9 := Try.zeroValue9
  t26 := Try.underlying83
  a26 := Try.isAgg83
  z26 := Try.sizeOf83
  v26 := Try.zeroValue83
  t27 := Try.underlying83
  a27 := Try.isAgg83
  z27 := Try.sizeOf83
  v27 := Try.zeroValue83
  t29 := Try.underlying9
  a29 := Try.isAgg9
  z29 := Try.sizeOf9
  v29 := Try.zeroValue9
  t32 := Try.underlying157
  a32 := Try.isAgg157
  z32 := Try.sizeOf157
  v32 := Try.zeroValue157
  t35 := Try.underlying159
  a35 := Try.isAgg159
  z35 := Try.sizeOf159
  v35 := Try.zeroValue159
  t36 := Try.underlying160
  a36 := Try.isAgg160
  z36 := Try.sizeOf160
  v36 := Try.zeroValue160
  t41 := Try.underlying165
  a41 := Try.isAgg165
  z41 := Try.sizeOf165
  v41 := Try.zeroValue165
  t44 := Try.underlying168
  a44 := Try.isAgg168
  z44 := Try.sizeOf168
  v44 := Try.zeroValue168
  t46 := Try.underlying170
  a46 := Try.isAgg170
  z46 := Try.sizeOf170
  v46 := Try.zeroValue170
  t53 := Try.underlying171
  a53 := Try.isAgg171
  z53 := Try.sizeOf171
  v53 := Try.zeroValue171
  t57 := Try.underlying175
  a57 := Try.isAgg175
  z57 := Try.sizeOf175
  v57 := Try.zeroValue175
  t63 := Try.underlying177
  a63 := Try.isAgg177
  z63 := Try.sizeOf177
  v63 := Try.zeroValue177
  t64 := Try.underlying178
  a64 := Try.isAgg178
  z64 := Try.sizeOf178
  v64 := Try.zeroValue178
theorem YthcaodlfnlhfbaaT.sorts67 (m : Nat) : AnyZ.SortsIn Try.prog YthcaodlfnlhfbaaT.sorted67_ren Fence.wide m :=
  ⟨fun blk off cap ss W hH hblk hsz => callsIn_wide.2 (AnyM.slices_Sort_string YthcaodlfnlhfbaaT.sort96 blk off cap ss W hH hblk hsz),
   fun p cap W => callsIn_wide.2 (AnyM.slices_Sort_string_none YthcaodlfnlhfbaaT.sort96 p cap W)⟩

theorem YthcaodlfnlhfbaaT.maps_Keys_68 (mb : Option Nat) (W : World) : CallsIn Fence.wide 5 Try.prog 44 #[.map mb] W fun e w' => e = .returned (.func (.func 66) #[] #[.pointer (some ⟨W.heap.size, 0, none⟩)]) ∧ w' = W.alloc (.cells #[.map mb] 113) :=
  AnyZ.keys_in YthcaodlfnlhfbaaT.keys68 Fence.wide 5 trivial rfl mb W

set_option maxHeartbeats 1000000 in
theorem YthcaodlfnlhfbaaT.slices_Sorted_keys_67_68 {H : Type} (b nn : Nat) (D0 : DataW H) (R : Value → Option (DataW H × List MemPlace)) (w : World) (hown : w.ownsMap Try.prog 9 R b nn D0) (hmax : Maps.size D0 ≤ maxLen) (hbytes : Maps.size D0 * 16 ≤ 140737488355328) :
    CallsIn Fence.wide 5 Try.prog 43 #[.func (.func 66) #[] #[.pointer (some ⟨w.heap.size, 0, none⟩)]] (w.alloc (.cells #[.map (some b)] 113)) fun e w' => ∃ (v : Value) (ss : List (List UInt8)), e = .returned v ∧ ss.Perm (strKeys D0) ∧
      w'.ownsRow (w.alloc (.cells #[.map (some b)] 113)).heap.size 9 1 v ss.length ((ss.mergeSort (fun x y => decide (x ≤ y))).map encStr) ∧ (v = .slice none 0 0 ↔ ss = []) ∧ Below (w.alloc (.cells #[.map (some b)] 113)).heap.size (w.alloc (.cells #[.map (some b)] 113)) w' := by
  have hbl := hown.lt
  have hseq : SeqGives Fence.wide 2 Try.prog 66 #[.pointer (some ⟨w.heap.size, 0, none⟩)] encStr (fun ss => ss.Perm (strKeys D0)) (Maps.size D0) (w.alloc (.cells #[.map (some b)] 113)) :=
    AnyZ.keys_gives (ρ := YthcaodlfnlhfbaaT.keys68_ren) { YthcaodlfnlhfbaaT.keys68 with } Fence.wide _ trivial rfl (by omega) w.heap.size b nn D0 _ (by simp) (by simp) (by
      obtain ⟨es, clock, hb, Ft, hs, hD⟩ := hown
      exact ⟨es, clock, (Below.heap_alloc _ _ b hbl).trans hb, Ft, hs, hD⟩)
  exact AnyZ.sorted_in YthcaodlfnlhfbaaT.sorted67 Fence.wide 5 trivial trivial trivial trivial rfl (by omega) (YthcaodlfnlhfbaaT.sorts67 _) (enters_of Try.func65 (by kernel_rfl) rfl) 66 #[.pointer (some ⟨w.heap.size, 0, none⟩)] trivial (enters_of Try.func66 (by kernel_rfl) rfl) _ _ hmax hbytes _ hseq

end Go.Proofs
