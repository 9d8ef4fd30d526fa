/- The contracts of maps.Keys, slices.Sorted, slices.Sort and slices.Clone at this program: each one application of the library's. -/
import Derived.Shelf.SlIter.Nil
import Derived.Shelf.SortM.Plain
import Derived.Shelf.SortM.SortNone
import Derived.Ground.GgzProg
import Derived.Ground.SlgmProg
import Derived.Ground.SlgnProg
import Derived.Shelf.SlicesE.Clone
import Derived.Test.YtknkbioalohofaaProg
namespace Go.Proofs.Ytknkbioalohofaa
open Go.RowKit Go.Maps Go.Sort Go.Shelf

def Try.keys80_ren : Go.Shelf.Ren := ⟨fun | 7 => 80 | 10 => 94 | n => n, fun | 23 => 124 | 26 => 9 | 3 => 127 | 28 => 135 | 0 => 0 | 27 => 134 | 33 => 30 | 4 => 4 | n => n, fun | n => n⟩
theorem Try.keys80 : Go.Proofs.SlLaysZ.n7 Try.prog Try.keys80_ren := {
  mixed := by kernel_rfl
  f7 := ⟨Try.f80.name, by decide, Try.func80.trans (congrArg some (by kernel_rfl))⟩
  f10 := ⟨Try.f94.name, by decide, Try.func94.trans (congrArg some (by kernel_rfl))⟩
  t0 := Try.underlying0
  a0 := Try.isAgg0
  z0 := Try.sizeOf0
  v0 := Try.zeroValue0
  t4 := Try.underlying4
  a4 := Try.isAgg4
  z4 := Try.sizeOf4
  v4 := Try.zeroValue4
  t23 := Try.underlying124
  a23 := Try.isAgg124
  z23 := Try.sizeOf124
  v23 := Try.zeroValue124
  t26 := Try.underlying9
  a26 := Try.isAgg9
  z26 := Try.sizeOf9
  v26 := Try.zeroValue9
  t27 := Try.underlying134
  a27 := Try.isAgg134
  z27 := Try.sizeOf134
  v27 := Try.zeroValue134
  t28 := Try.underlying135
  a28 := Try.isAgg135
  z28 := Try.sizeOf135
  v28 := Try.zeroValue135
  t33 := Try.underlying30
  a33 := Try.isAgg30
  z33 := Try.sizeOf30
  v33 := Try.zeroValue30 }
def Try.sorted79_ren : Go.Shelf.Ren := ⟨fun | 6 => 79 | 8 => 92 | 9 => 93 | 11 => 102 | 13 => 104 | 12 => 103 | 23 => 115 | 24 => 116 | 14 => 106 | 15 => 107 | 16 => 108 | 17 => 109 | 18 => 110 | 19 => 111 | 20 => 112 | 21 => 113 | 22 => 114 | 25 => 118 | 26 => 119 | 27 => 120 | 28 => 121 | 29 => 122 | 30 => 123 | 31 => 125 | n => n, fun | 26 => 9 | 28 => 135 | 24 => 35 | 0 => 0 | 3 => 3 | 37 => 108 | 48 => 27 | 50 => 116 | 4 => 4 | 40 => 164 | 39 => 163 | 45 => 169 | 5 => 5 | 9 => 9 | 51 => 173 | 55 => 177 | 57 => 179 | 58 => 180 | 33 => 30 | n => n, fun | n => n⟩
theorem Try.sorted79 : Go.Proofs.SlLaysZ.n6 Try.prog Try.sorted79_ren := {
  mixed := by kernel_rfl
  f6 := ⟨Try.f79.name, by decide, Try.func79.trans (congrArg some (by kernel_rfl))⟩
  f8 := ⟨Try.f92.name, by decide, Try.func92.trans (congrArg some (by kernel_rfl))⟩
  f11 := ⟨Try.f102.name, by decide, Try.func102.trans (congrArg some (by kernel_rfl))⟩
  t0 := Try.underlying0
  a0 := Try.isAgg0
  z0 := Try.sizeOf0
  v0 := Try.zeroValue0
  t24 := Try.underlying35
  a24 := Try.isAgg35
  z24 := Try.sizeOf35
  v24 := Try.zeroValue35
  t26 := Try.underlying9
  a26 := Try.isAgg9
  z26 := Try.sizeOf9
  v26 := Try.zeroValue9
  t28 := Try.underlying135
  a28 := Try.isAgg135
  z28 := Try.sizeOf135
  v28 := Try.zeroValue135
  i26 := by kernel_rfl }
def Try.sort93_ren : Go.Shelf.Ren := ⟨fun | 6 => 93 | 8 => 104 | 9 => 103 | 19 => 115 | 20 => 116 | 21 => 106 | 22 => 107 | 23 => 108 | 24 => 109 | 25 => 110 | 26 => 111 | 27 => 112 | 28 => 113 | 29 => 114 | 36 => 118 | 31 => 119 | 32 => 120 | 37 => 121 | 38 => 122 | 39 => 123 | 41 => 125 | n => n, fun | 27 => 35 | 29 => 9 | 3 => 3 | 32 => 108 | 26 => 35 | 0 => 0 | 44 => 27 | 46 => 116 | 4 => 4 | 36 => 164 | 35 => 163 | 41 => 169 | 5 => 5 | 9 => 9 | 53 => 173 | 57 => 177 | 63 => 179 | 64 => 180 | n => n, fun | n => n⟩
theorem Try.sort93 : Go.Proofs.SlLaysM.n6 Try.prog Try.sort93_ren := {
  mixed := by kernel_rfl
  f6 := ⟨Try.f93.name, by decide, Try.func93.trans (congrArg some (by kernel_rfl))⟩
  f8 := Try.func104.trans (congrArg some (by kernel_rfl))
  f9 := ⟨Try.f103.name, by decide, Try.func103.trans (congrArg some (by kernel_rfl))⟩
  f19 := Try.func115.trans (congrArg some (by kernel_rfl))
  f20 := Try.func116.trans (congrArg some (by kernel_rfl))
  f21 := ⟨Try.f106.name, by decide, Try.func106.trans (congrArg some (by kernel_rfl))⟩
  f22 := ⟨Try.f107.name, by decide, Try.func107.trans (congrArg some (by kernel_rfl))⟩
  f23 := ⟨Try.f108.name, by decide, Try.func108.trans (congrArg some (by kernel_rfl))⟩
  f24 := ⟨Try.f109.name, by decide, Try.func109.trans (congrArg some (by kernel_rfl))⟩
  f25 := ⟨Try.f110.name, by decide, Try.func110.trans (congrArg some (by kernel_rfl))⟩
  f26 := ⟨Try.f111.name, by decide, Try.func111.trans (congrArg some (by kernel_rfl))⟩
  f27 := ⟨Try.f112.name, by decide, Try.func112.trans (congrArg some (by kernel_rfl))⟩
  f28 := ⟨Try.f113.name, by decide, Try.func113.trans (congrArg some (by kernel_rfl))⟩
  f29 := ⟨Try.f114.name, by decide, Try.func114.trans (congrArg some (by kernel_rfl))⟩
  f31 := Try.func119.trans (congrArg some (by kernel_rfl))
  f32 := Try.func120.trans (congrArg some (by kernel_rfl))
  f36 := ⟨Try.f118.name, by decide, Try.func118.trans (congrArg some (by kernel_rfl))⟩
  f37 := ⟨Try.f121.name, by decide, Try.func121.trans (congrArg some (by kernel_rfl))⟩
  f38 := ⟨Try.f122.name, by decide, Try.func122.trans (congrArg some (by kernel_rfl))⟩
  f39 := ⟨Try.f123.name, by decide, Try.func123.trans (congrArg some (by kernel_rfl))⟩
  f41 := ⟨Try.f125.name, by decide, Try.func125.trans (congrArg some (by kernel_rfl))⟩
  t0 := Try.underlying0
  a0 := Try.isAgg0
  z0 := Try.sizeOf0
  v0 := Try.zeroValue0
  t3 := Try.underlying3
  a3 := Try.isAgg3
  z3 := Try.sizeOf3
  v3 := Try.zeroValue3
  t4 := Try.underlying4
  a4 := Try.isAgg4
  z4 := Try.sizeOf4
  v4 := Try.zeroValue4
  t5 := Try.underlying5
  a5 := Try.isAgg5
  z5 := Try.sizeOf5
  v5 := Try.zeroValue5
  t9 := Try.underlying9
  a9 := Try.isAgg9
  z9 := Try.sizeOf9
  v9 := Try.zeroValue9
  t26 := Try.underlying35
  a26 := Try.isAgg35
  z26 := Try.sizeOf35
  v26 := Try.zeroValue35
  t27 := Try.underlying35
  a27 := Try.isAgg35
  z27 := Try.sizeOf35
  v27 := Try.zeroValue35
  t29 := Try.underlying9
  a29 := Try.isAgg9
  z29 := Try.sizeOf9
  v29 := Try.zeroValue9
  t32 := Try.underlying108
  a32 := Try.isAgg108
  z32 := Try.sizeOf108
  v32 := Try.zeroValue108
  t35 := Try.underlying163
  a35 := Try.isAgg163
  z35 := Try.sizeOf163
  v35 := Try.zeroValue163
  t36 := Try.underlying164
  a36 := Try.isAgg164
  z36 := Try.sizeOf164
  v36 := Try.zeroValue164
  t41 := Try.underlying169
  a41 := Try.isAgg169
  z41 := Try.sizeOf169
  v41 := Try.zeroValue169
  t44 := Try.underlying27
  a44 := Try.isAgg27
  z44 := Try.sizeOf27
  v44 := Try.zeroValue27
  t46 := Try.underlying116
  a46 := Try.isAgg116
  z46 := Try.sizeOf116
  v46 := Try.zeroValue116
  t53 := Try.underlying173
  a53 := Try.isAgg173
  z53 := Try.sizeOf173
  v53 := Try.zeroValue173
  t57 := Try.underlying177
  a57 := Try.isAgg177
  z57 := Try.sizeOf177
  v57 := Try.zeroValue177
  t63 := Try.underlying179
  a63 := Try.isAgg179
  z63 := Try.sizeOf179
  v63 := Try.zeroValue179
  t64 := Try.underlying180
  a64 := Try.isAgg180
  z64 := Try.sizeOf180
  v64 := Try.zeroValue180 }

def Try.clone78_ren : Go.Shelf.Ren := ⟨fun | 41 => 78 | n => n, fun | 22 => 41 | 23 => 5 | 4 => 4 | n => n, fun | n => n⟩
theorem Try.clone78 : Go.Proofs.SlLaysE0.n41 Try.prog Try.clone78_ren := {
  mixed := by kernel_rfl
  f41 := ⟨Try.f78.name, by decide, Try.func78.trans (congrArg some (by kernel_rfl))⟩
  t4 := Try.underlying4
  a4 := Try.isAgg4
  z4 := Try.sizeOf4
  v4 := Try.zeroValue4
  t22 := Try.underlying41
  a22 := Try.isAgg41
  z22 := Try.sizeOf41
  v22 := Try.zeroValue41 }
theorem Try.sorts79 (m : Nat) : AnyZ.SortsIn Try.prog Try.sorted79_ren Fence.wide m :=
  ⟨fun blk off cap ss W hH hblk hsz => callsIn_wide.2 (AnyM.slices_Sort_string Try.sort93 blk off cap ss W hH hblk hsz),
   fun p cap W => callsIn_wide.2 (AnyM.slices_Sort_string_none Try.sort93 p cap W)⟩

theorem Try.maps_Keys_80 (mb : Option Nat) (W : World) : CallsIn Fence.wide 5 Try.prog 80 #[.map mb] W fun e w' => e = .returned (.func (.func 94) #[] #[.pointer (some ⟨W.heap.size, 0, none⟩)]) ∧ w' = W.alloc (.cells #[.map mb] 124) :=
  AnyZ.keys_in Try.keys80 Fence.wide 5 trivial rfl mb W

set_option maxHeartbeats 1000000 in
theorem Try.slices_Sorted_keys_79_80 {H : Type} (b nn : Nat) (D0 : DataW H) (R : Value → Option (DataW H × List MemPlace)) (w : World) (hown : w.ownsMap Try.prog 9 R b nn D0) (hmax : Maps.size D0 ≤ maxLen) (hbytes : Maps.size D0 * 16 ≤ 140737488355328) :
    CallsIn Fence.wide 5 Try.prog 79 #[.func (.func 94) #[] #[.pointer (some ⟨w.heap.size, 0, none⟩)]] (w.alloc (.cells #[.map (some b)] 124)) fun e w' => ∃ (v : Value) (ss : List (List UInt8)), e = .returned v ∧ ss.Perm (strKeys D0) ∧
      w'.ownsRow (w.alloc (.cells #[.map (some b)] 124)).heap.size 9 1 v ss.length ((ss.mergeSort (fun x y => decide (x ≤ y))).map encStr) ∧ (v = .slice none 0 0 ↔ ss = []) ∧ Below (w.alloc (.cells #[.map (some b)] 124)).heap.size (w.alloc (.cells #[.map (some b)] 124)) w' := by
  have hbl := hown.lt
  have hseq : SeqGives Fence.wide 2 Try.prog 94 #[.pointer (some ⟨w.heap.size, 0, none⟩)] encStr (fun ss => ss.Perm (strKeys D0)) (Maps.size D0) (w.alloc (.cells #[.map (some b)] 124)) :=
    AnyZ.keys_gives (ρ := Try.keys80_ren) { Try.keys80 with } Fence.wide _ trivial rfl (by omega) w.heap.size b nn D0 _ (by simp) (by simp) (by
      obtain ⟨es, clock, hb, Ft, hs, hD⟩ := hown
      exact ⟨es, clock, (Below.heap_alloc _ _ b hbl).trans hb, Ft, hs, hD⟩)
  exact AnyZ.sorted_in Try.sorted79 Fence.wide 5 trivial trivial trivial trivial rfl (by omega) (Try.sorts79 _) (enters_of Try.func93 (by kernel_rfl) rfl) 94 #[.pointer (some ⟨w.heap.size, 0, none⟩)] trivial (enters_of Try.func94 (by kernel_rfl) rfl) _ _ hmax hbytes _ hseq

set_option maxHeartbeats 1000000 in
theorem Try.slices_Sorted_keys_nil_79_80 (w : World) :
    CallsIn Fence.wide 5 Try.prog 79 #[.func (.func 94) #[] #[.pointer (some ⟨w.heap.size, 0, none⟩)]] (w.alloc (.cells #[.map none] 124)) fun e w' => ∃ (v : Value) (ss : List (List UInt8)), e = .returned v ∧ ss = [] ∧
      w'.ownsRow (w.alloc (.cells #[.map none] 124)).heap.size 9 1 v ss.length ((ss.mergeSort (fun x y => decide (x ≤ y))).map encStr) ∧ (v = .slice none 0 0 ↔ ss = []) ∧ Below (w.alloc (.cells #[.map none] 124)).heap.size (w.alloc (.cells #[.map none] 124)) w' := by
  have hseq : SeqGives Fence.wide 2 Try.prog 94 #[.pointer (some ⟨w.heap.size, 0, none⟩)] encStr (fun ss : List (List UInt8) => ss = []) 0 (w.alloc (.cells #[.map none] 124)) :=
    AnyZ.keys_gives_nil (ρ := Try.keys80_ren) { Try.keys80 with } Fence.wide _ trivial rfl w.heap.size _ (by simp) (by simp)
  exact AnyZ.sorted_in Try.sorted79 Fence.wide 5 trivial trivial trivial trivial rfl (by omega) (Try.sorts79 _) (enters_of Try.func93 (by kernel_rfl) rfl) 94 #[.pointer (some ⟨w.heap.size, 0, none⟩)] trivial (enters_of Try.func94 (by kernel_rfl) rfl) _ 0 (Nat.zero_le _) (by omega) _ hseq



end Go.Proofs.Ytknkbioalohofaa
