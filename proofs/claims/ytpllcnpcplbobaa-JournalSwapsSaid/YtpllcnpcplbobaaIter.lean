/-
  The shelf's contracts on the keys of the files' map, sorted, laid at this dump by the kit's own program (plain words).
-/
import Derived.Shelf.SlIter.Nil
import Derived.Shelf.SortM.Plain
import Derived.Shelf.SortM.SortNone
import Derived.Ground.GgzProg
import Derived.Ground.SlgmProg
import Derived.Test.YtpllcnpcplbobaaProg
namespace Go.Proofs.Ytpllcnpcplbobaa
open Go.RowKit Go.Maps Go.Sort Go.Shelf
def keys45_ren : Go.Shelf.Ren := ⟨fun | 7 => 45 | 10 => 68 | n => n, fun | 23 => 75 | 26 => 9 | 3 => 80 | 28 => 84 | 0 => 0 | 27 => 83 | 33 => 34 | 4 => 4 | n => n, fun | n => n⟩
theorem keys45 : Go.Proofs.SlLaysZ.n7 Try.prog keys45_ren := {
  mixed := by kernel_rfl
  f7 := ⟨Try.f45.name, by decide, Try.func45.trans (congrArg some (by kernel_rfl))⟩
  f10 := ⟨Try.f68.name, by decide, Try.func68.trans (congrArg some (by kernel_rfl))⟩
  t0 := Try.underlying0
  a0 := Try.isAgg0
  z0 := Try.sizeOf0
  v0 := Try.zeroValue0
  t4 := Try.underlying4
  a4 := Try.isAgg4
  z4 := Try.sizeOf4
  v4 := Try.zeroValue4
  t23 := Try.underlying75
  a23 := Try.isAgg75
  z23 := Try.sizeOf75
  v23 := Try.zeroValue75
  t26 := Try.underlying9
  a26 := Try.isAgg9
  z26 := Try.sizeOf9
  v26 := Try.zeroValue9
  t27 := Try.underlying83
  a27 := Try.isAgg83
  z27 := Try.sizeOf83
  v27 := Try.zeroValue83
  t28 := Try.underlying84
  a28 := Try.isAgg84
  z28 := Try.sizeOf84
  v28 := Try.zeroValue84
  t33 := Try.underlying34
  a33 := Try.isAgg34
  z33 := Try.sizeOf34
  v33 := Try.zeroValue34 }
def sorted44_ren : Go.Shelf.Ren := ⟨fun | 6 => 44 | 8 => 66 | 9 => 67 | 11 => 82 | 13 => 84 | 12 => 83 | 23 => 100 | 24 => 101 | 14 => 91 | 15 => 92 | 16 => 93 | 17 => 94 | 18 => 95 | 19 => 96 | 20 => 97 | 21 => 98 | 22 => 99 | 25 => 105 | 26 => 106 | 27 => 107 | 28 => 108 | 29 => 109 | 30 => 110 | 31 => 112 | n => n, fun | 26 => 9 | 28 => 84 | 24 => 30 | 0 => 0 | 3 => 3 | 37 => 106 | 48 => 122 | 50 => 135 | 4 => 4 | 40 => 144 | 39 => 143 | 45 => 148 | 5 => 5 | 9 => 9 | 51 => 156 | 55 => 160 | 57 => 162 | 58 => 163 | 33 => 34 | n => n, fun | n => n⟩
theorem sorted44 : Go.Proofs.SlLaysZ.n6 Try.prog sorted44_ren := {
  mixed := by kernel_rfl
  f6 := ⟨Try.f44.name, by decide, Try.func44.trans (congrArg some (by kernel_rfl))⟩
  f8 := ⟨Try.f66.name, by decide, Try.func66.trans (congrArg some (by kernel_rfl))⟩
  f11 := ⟨Try.f82.name, by decide, Try.func82.trans (congrArg some (by kernel_rfl))⟩
  t0 := Try.underlying0
  a0 := Try.isAgg0
  z0 := Try.sizeOf0
  v0 := Try.zeroValue0
  t24 := Try.underlying30
  a24 := Try.isAgg30
  z24 := Try.sizeOf30
  v24 := Try.zeroValue30
  t26 := Try.underlying9
  a26 := Try.isAgg9
  z26 := Try.sizeOf9
  v26 := Try.zeroValue9
  t28 := Try.underlying84
  a28 := Try.isAgg84
  z28 := Try.sizeOf84
  v28 := Try.zeroValue84
  i26 := by kernel_rfl }
def sort67_ren : Go.Shelf.Ren := ⟨fun | 6 => 67 | 8 => 84 | 9 => 83 | 19 => 100 | 20 => 101 | 21 => 91 | 22 => 92 | 23 => 93 | 24 => 94 | 25 => 95 | 26 => 96 | 27 => 97 | 28 => 98 | 29 => 99 | 36 => 105 | 31 => 106 | 32 => 107 | 37 => 108 | 38 => 109 | 39 => 110 | 41 => 112 | n => n, fun | 27 => 30 | 29 => 9 | 3 => 3 | 32 => 106 | 26 => 30 | 0 => 0 | 44 => 122 | 46 => 135 | 4 => 4 | 36 => 144 | 35 => 143 | 41 => 148 | 5 => 5 | 9 => 9 | 53 => 156 | 57 => 160 | 63 => 162 | 64 => 163 | n => n, fun | n => n⟩
theorem sort67 : Go.Proofs.SlLaysM.n6 Try.prog sort67_ren := {
  mixed := by kernel_rfl
  f6 := ⟨Try.f67.name, by decide, Try.func67.trans (congrArg some (by kernel_rfl))⟩
  f8 := Try.func84.trans (congrArg some (by kernel_rfl))
  f9 := ⟨Try.f83.name, by decide, Try.func83.trans (congrArg some (by kernel_rfl))⟩
  f19 := Try.func100.trans (congrArg some (by kernel_rfl))
  f20 := Try.func101.trans (congrArg some (by kernel_rfl))
  f21 := ⟨Try.f91.name, by decide, Try.func91.trans (congrArg some (by kernel_rfl))⟩
  f22 := ⟨Try.f92.name, by decide, Try.func92.trans (congrArg some (by kernel_rfl))⟩
  f23 := ⟨Try.f93.name, by decide, Try.func93.trans (congrArg some (by kernel_rfl))⟩
  f24 := ⟨Try.f94.name, by decide, Try.func94.trans (congrArg some (by kernel_rfl))⟩
  f25 := ⟨Try.f95.name, by decide, Try.func95.trans (congrArg some (by kernel_rfl))⟩
  f26 := ⟨Try.f96.name, by decide, Try.func96.trans (congrArg some (by kernel_rfl))⟩
  f27 := ⟨Try.f97.name, by decide, Try.func97.trans (congrArg some (by kernel_rfl))⟩
  f28 := ⟨Try.f98.name, by decide, Try.func98.trans (congrArg some (by kernel_rfl))⟩
  f29 := ⟨Try.f99.name, by decide, Try.func99.trans (congrArg some (by kernel_rfl))⟩
  f31 := Try.func106.trans (congrArg some (by kernel_rfl))
  f32 := Try.func107.trans (congrArg some (by kernel_rfl))
  f36 := ⟨Try.f105.name, by decide, Try.func105.trans (congrArg some (by kernel_rfl))⟩
  f37 := ⟨Try.f108.name, by decide, Try.func108.trans (congrArg some (by kernel_rfl))⟩
  f38 := ⟨Try.f109.name, by decide, Try.func109.trans (congrArg some (by kernel_rfl))⟩
  f39 := ⟨Try.f110.name, by decide, Try.func110.trans (congrArg some (by kernel_rfl))⟩
  f41 := ⟨Try.f112.name, by decide, Try.func112.trans (congrArg some (by kernel_rfl))⟩
  t0 := Try.underlying0
  a0 := Try.isAgg0
  z0 := Try.sizeOf0
  v0 := Try.zeroValue0
  t3 := Try.underlying3
  a3 := Try.isAgg3
  z3 := Try.sizeOf3
  v3 := Try.zeroValue3
  t4 := Try.underlying4
  a4 := Try.isAgg4
  z4 := Try.sizeOf4
  v4 := Try.zeroValue4
  t5 := Try.underlying5
  a5 := Try.isAgg5
  z5 := Try.sizeOf5
  v5 := Try.zeroValue5
  t9 := Try.underlying9
  a9 := Try.isAgg9
  z9 := Try.sizeOf9
  v9 := Try.zeroValue9
  t26 := Try.underlying30
  a26 := Try.isAgg30
  z26 := Try.sizeOf30
  v26 := Try.zeroValue30
  t27 := Try.underlying30
  a27 := Try.isAgg30
  z27 := Try.sizeOf30
  v27 := Try.zeroValue30
  t29 := Try.underlying9
  a29 := Try.isAgg9
  z29 := Try.sizeOf9
  v29 := Try.zeroValue9
  t32 := Try.underlying106
  a32 := Try.isAgg106
  z32 := Try.sizeOf106
  v32 := Try.zeroValue106
  t35 := Try.underlying143
  a35 := Try.isAgg143
  z35 := Try.sizeOf143
  v35 := Try.zeroValue143
  t36 := Try.underlying144
  a36 := Try.isAgg144
  z36 := Try.sizeOf144
  v36 := Try.zeroValue144
  t41 := Try.underlying148
  a41 := Try.isAgg148
  z41 := Try.sizeOf148
  v41 := Try.zeroValue148
  t44 := Try.underlying122
  a44 := Try.isAgg122
  z44 := Try.sizeOf122
  v44 := Try.zeroValue122
  t46 := Try.underlying135
  a46 := Try.isAgg135
  z46 := Try.sizeOf135
  v46 := Try.zeroValue135
  t53 := Try.underlying156
  a53 := Try.isAgg156
  z53 := Try.sizeOf156
  v53 := Try.zeroValue156
  t57 := Try.underlying160
  a57 := Try.isAgg160
  z57 := Try.sizeOf160
  v57 := Try.zeroValue160
  t63 := Try.underlying162
  a63 := Try.isAgg162
  z63 := Try.sizeOf162
  v63 := Try.zeroValue162
  t64 := Try.underlying163
  a64 := Try.isAgg163
  z64 := Try.sizeOf163
  v64 := Try.zeroValue163 }
theorem sorts44 (m : Nat) : AnyZ.SortsIn Try.prog sorted44_ren Fence.wide m :=
  ⟨fun blk off cap ss W hH hblk hsz => callsIn_wide.2 (AnyM.slices_Sort_string sort67 blk off cap ss W hH hblk hsz),
   fun p cap W => callsIn_wide.2 (AnyM.slices_Sort_string_none sort67 p cap W)⟩

theorem maps_Keys_45 (mb : Option Nat) (W : World) : CallsIn Fence.wide 5 Try.prog 45 #[.map mb] W fun e w' => e = .returned (.func (.func 68) #[] #[.pointer (some ⟨W.heap.size, 0, none⟩)]) ∧ w' = W.alloc (.cells #[.map mb] 75) :=
  AnyZ.keys_in keys45 Fence.wide 5 trivial rfl mb W

set_option maxHeartbeats 1000000 in
theorem slices_Sorted_keys_44_45 {H : Type} (b nn : Nat) (D0 : DataW H) (R : Value → Option (DataW H × List MemPlace)) (w : World) (hown : w.ownsMap Try.prog 9 R b nn D0) (hmax : Maps.size D0 ≤ maxLen) (hbytes : Maps.size D0 * 16 ≤ 140737488355328) :
    CallsIn Fence.wide 5 Try.prog 44 #[.func (.func 68) #[] #[.pointer (some ⟨w.heap.size, 0, none⟩)]] (w.alloc (.cells #[.map (some b)] 75)) fun e w' => ∃ (v : Value) (ss : List (List UInt8)), e = .returned v ∧ ss.Perm (strKeys D0) ∧
      w'.ownsRow (w.alloc (.cells #[.map (some b)] 75)).heap.size 9 1 v ss.length ((ss.mergeSort (fun x y => decide (x ≤ y))).map encStr) ∧ (v = .slice none 0 0 ↔ ss = []) ∧ Below (w.alloc (.cells #[.map (some b)] 75)).heap.size (w.alloc (.cells #[.map (some b)] 75)) w' := by
  have hbl := hown.lt
  have hseq : SeqGives Fence.wide 2 Try.prog 68 #[.pointer (some ⟨w.heap.size, 0, none⟩)] encStr (fun ss => ss.Perm (strKeys D0)) (Maps.size D0) (w.alloc (.cells #[.map (some b)] 75)) :=
    AnyZ.keys_gives (ρ := keys45_ren) { keys45 with } Fence.wide _ trivial rfl (by omega) w.heap.size b nn D0 _ (by simp) (by simp) (by
      obtain ⟨es, clock, hb, Ft, hs, hD⟩ := hown
      exact ⟨es, clock, (Below.heap_alloc _ _ b hbl).trans hb, Ft, hs, hD⟩)
  exact AnyZ.sorted_in sorted44 Fence.wide 5 trivial trivial trivial trivial rfl (by omega) (sorts44 _) (enters_of Try.func67 (by kernel_rfl) rfl) 68 #[.pointer (some ⟨w.heap.size, 0, none⟩)] trivial (enters_of Try.func68 (by kernel_rfl) rfl) _ _ hmax hbytes _ hseq

set_option maxHeartbeats 1000000 in
theorem slices_Sorted_keys_nil_44_45 (w : World) :
    CallsIn Fence.wide 5 Try.prog 44 #[.func (.func 68) #[] #[.pointer (some ⟨w.heap.size, 0, none⟩)]] (w.alloc (.cells #[.map none] 75)) fun e w' => ∃ (v : Value) (ss : List (List UInt8)), e = .returned v ∧ ss = [] ∧
      w'.ownsRow (w.alloc (.cells #[.map none] 75)).heap.size 9 1 v ss.length ((ss.mergeSort (fun x y => decide (x ≤ y))).map encStr) ∧ (v = .slice none 0 0 ↔ ss = []) ∧ Below (w.alloc (.cells #[.map none] 75)).heap.size (w.alloc (.cells #[.map none] 75)) w' := by
  have hseq : SeqGives Fence.wide 2 Try.prog 68 #[.pointer (some ⟨w.heap.size, 0, none⟩)] encStr (fun ss : List (List UInt8) => ss = []) 0 (w.alloc (.cells #[.map none] 75)) :=
    AnyZ.keys_gives_nil (ρ := keys45_ren) { keys45 with } Fence.wide _ trivial rfl w.heap.size _ (by simp) (by simp)
  exact AnyZ.sorted_in sorted44 Fence.wide 5 trivial trivial trivial trivial rfl (by omega) (sorts44 _) (enters_of Try.func67 (by kernel_rfl) rfl) 68 #[.pointer (some ⟨w.heap.size, 0, none⟩)] trivial (enters_of Try.func68 (by kernel_rfl) rfl) _ 0 (Nat.zero_le _) (by omega) _ hseq

end Go.Proofs.Ytpllcnpcplbobaa
