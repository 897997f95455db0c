/- This text holds contracts of maps.Keys, slices.Sorted and slices.Sort at this program, laid by the kit's shelf (its plain mode). -/
import Derived.Shelf.SlIter.Nil
import Derived.Shelf.SortM.Plain
import Derived.Shelf.SortM.SortNone
import Derived.Test.YtggnedoblokenaaDoorProg
set_option linter.all false
namespace Go.Proofs
open Go.RowKit Go.Maps Go.Sort Go.Shelf
def Tryd.keys23_ren : Go.Shelf.Ren := ⟨fun | 7 => 23 | 10 => 30 | n => n, fun | 23 => 44 | 26 => 9 | 3 => 9 | 28 => 47 | 0 => 0 | 27 => 46 | 33 => 54 | 4 => 4 | n => n, fun | n => n⟩
theorem Tryd.keys23 : Go.Proofs.SlLaysZ.n7 Tryd.prog Tryd.keys23_ren := {
  mixed := by kernel_rfl
  f7 := ⟨Tryd.f23.name, by decide, Tryd.func23.trans (congrArg some (by kernel_rfl))⟩
  f10 := ⟨Tryd.f30.name, by decide, Tryd.func30.trans (congrArg some (by kernel_rfl))⟩
  t0 := Tryd.underlying0
  a0 := Tryd.isAgg0
  z0 := Tryd.sizeOf0
  v0 := Tryd.zeroValue0
  t4 := Tryd.underlying4
  a4 := Tryd.isAgg4
  z4 := Tryd.sizeOf4
  v4 := Tryd.zeroValue4
  t23 := Tryd.underlying44
  a23 := Tryd.isAgg44
  z23 := Tryd.sizeOf44
  v23 := Tryd.zeroValue44
  t26 := Tryd.underlying9
  a26 := Tryd.isAgg9
  z26 := Tryd.sizeOf9
  v26 := Tryd.zeroValue9
  t27 := Tryd.underlying46
  a27 := Tryd.isAgg46
  z27 := Tryd.sizeOf46
  v27 := Tryd.zeroValue46
  t28 := Tryd.underlying47
  a28 := Tryd.isAgg47
  z28 := Tryd.sizeOf47
  v28 := Tryd.zeroValue47
  t33 := Tryd.underlying54
  a33 := Tryd.isAgg54
  z33 := Tryd.sizeOf54
  v33 := Tryd.zeroValue54 }
def Tryd.sorted22_ren : Go.Shelf.Ren := ⟨fun | 6 => 22 | 8 => 28 | 9 => 29 | 11 => 39 | 13 => 41 | 12 => 40 | 23 => 59 | 24 => 60 | 14 => 50 | 15 => 51 | 16 => 52 | 17 => 53 | 18 => 54 | 19 => 55 | 20 => 56 | 21 => 57 | 22 => 58 | 25 => 68 | 26 => 69 | 27 => 70 | 28 => 71 | 29 => 72 | 30 => 73 | 31 => 80 | n => n, fun | 26 => 9 | 28 => 47 | 24 => 30 | 0 => 0 | 3 => 3 | 37 => 66 | 48 => 86 | 50 => 71 | 4 => 4 | 40 => 78 | 39 => 77 | 45 => 83 | 5 => 5 | 9 => 9 | 51 => 93 | 55 => 97 | 57 => 106 | 58 => 107 | 33 => 54 | n => n, fun | n => n⟩
theorem Tryd.sorted22 : Go.Proofs.SlLaysZ.n6 Tryd.prog Tryd.sorted22_ren := {
  mixed := by kernel_rfl
  f6 := ⟨Tryd.f22.name, by decide, Tryd.func22.trans (congrArg some (by kernel_rfl))⟩
  f8 := ⟨Tryd.f28.name, by decide, Tryd.func28.trans (congrArg some (by kernel_rfl))⟩
  f11 := ⟨Tryd.f39.name, by decide, Tryd.func39.trans (congrArg some (by kernel_rfl))⟩
  t0 := Tryd.underlying0
  a0 := Tryd.isAgg0
  z0 := Tryd.sizeOf0
  v0 := Tryd.zeroValue0
  t24 := Tryd.underlying30
  a24 := Tryd.isAgg30
  z24 := Tryd.sizeOf30
  v24 := Tryd.zeroValue30
  t26 := Tryd.underlying9
  a26 := Tryd.isAgg9
  z26 := Tryd.sizeOf9
  v26 := Tryd.zeroValue9
  t28 := Tryd.underlying47
  a28 := Tryd.isAgg47
  z28 := Tryd.sizeOf47
  v28 := Tryd.zeroValue47
  i26 := by kernel_rfl }
def Tryd.sort29_ren : Go.Shelf.Ren := ⟨fun | 6 => 29 | 8 => 41 | 9 => 40 | 19 => 59 | 20 => 60 | 21 => 50 | 22 => 51 | 23 => 52 | 24 => 53 | 25 => 54 | 26 => 55 | 27 => 56 | 28 => 57 | 29 => 58 | 36 => 68 | 31 => 69 | 32 => 70 | 37 => 71 | 38 => 72 | 39 => 73 | 41 => 80 | n => n, fun | 27 => 30 | 29 => 9 | 3 => 3 | 32 => 66 | 26 => 30 | 0 => 0 | 44 => 86 | 46 => 71 | 4 => 4 | 36 => 78 | 35 => 77 | 41 => 83 | 5 => 5 | 9 => 9 | 53 => 93 | 57 => 97 | 63 => 106 | 64 => 107 | n => n, fun | n => n⟩
theorem Tryd.sort29 : Go.Proofs.SlLaysM.n6 Tryd.prog Tryd.sort29_ren := {
  mixed := by kernel_rfl
  f6 := ⟨Tryd.f29.name, by decide, Tryd.func29.trans (congrArg some (by kernel_rfl))⟩
  f8 := Tryd.func41.trans (congrArg some (by kernel_rfl))
  f9 := ⟨Tryd.f40.name, by decide, Tryd.func40.trans (congrArg some (by kernel_rfl))⟩
  f19 := Tryd.func59.trans (congrArg some (by kernel_rfl))
  f20 := Tryd.func60.trans (congrArg some (by kernel_rfl))
  f21 := ⟨Tryd.f50.name, by decide, Tryd.func50.trans (congrArg some (by kernel_rfl))⟩
  f22 := ⟨Tryd.f51.name, by decide, Tryd.func51.trans (congrArg some (by kernel_rfl))⟩
  f23 := ⟨Tryd.f52.name, by decide, Tryd.func52.trans (congrArg some (by kernel_rfl))⟩
  f24 := ⟨Tryd.f53.name, by decide, Tryd.func53.trans (congrArg some (by kernel_rfl))⟩
  f25 := ⟨Tryd.f54.name, by decide, Tryd.func54.trans (congrArg some (by kernel_rfl))⟩
  f26 := ⟨Tryd.f55.name, by decide, Tryd.func55.trans (congrArg some (by kernel_rfl))⟩
  f27 := ⟨Tryd.f56.name, by decide, Tryd.func56.trans (congrArg some (by kernel_rfl))⟩
  f28 := ⟨Tryd.f57.name, by decide, Tryd.func57.trans (congrArg some (by kernel_rfl))⟩
  f29 := ⟨Tryd.f58.name, by decide, Tryd.func58.trans (congrArg some (by kernel_rfl))⟩
  f31 := Tryd.func69.trans (congrArg some (by kernel_rfl))
  f32 := Tryd.func70.trans (congrArg some (by kernel_rfl))
  f36 := ⟨Tryd.f68.name, by decide, Tryd.func68.trans (congrArg some (by kernel_rfl))⟩
  f37 := ⟨Tryd.f71.name, by decide, Tryd.func71.trans (congrArg some (by kernel_rfl))⟩
  f38 := ⟨Tryd.f72.name, by decide, Tryd.func72.trans (congrArg some (by kernel_rfl))⟩
  f39 := ⟨Tryd.f73.name, by decide, Tryd.func73.trans (congrArg some (by kernel_rfl))⟩
  f41 := ⟨Tryd.f80.name, by decide, Tryd.func80.trans (congrArg some (by kernel_rfl))⟩
  t0 := Tryd.underlying0
  a0 := Tryd.isAgg0
  z0 := Tryd.sizeOf0
  v0 := Tryd.zeroValue0
  t3 := Tryd.underlying3
  a3 := Tryd.isAgg3
  z3 := Tryd.sizeOf3
  v3 := Tryd.zeroValue3
  t4 := Tryd.underlying4
  a4 := Tryd.isAgg4
  z4 := Tryd.sizeOf4
  v4 := Tryd.zeroValue4
  t5 := Tryd.underlying5
  a5 := Tryd.isAgg5
  z5 := Tryd.sizeOf5
  v5 := Tryd.zeroValue5
  t9 := Tryd.underlying9
  a9 := Tryd.isAgg9
  z9 := Tryd.sizeOf9
  v9 := Tryd.zeroValue9
  t26 := Tryd.underlying30
  a26 := Tryd.isAgg30
  z26 := Tryd.sizeOf30
  v26 := Tryd.zeroValue30
  t27 := Tryd.underlying30
  a27 := Tryd.isAgg30
  z27 := Tryd.sizeOf30
  v27 := Tryd.zeroValue30
  t29 := Tryd.underlying9
  a29 := Tryd.isAgg9
  z29 := Tryd.sizeOf9
  v29 := Tryd.zeroValue9
  t32 := Tryd.underlying66
  a32 := Tryd.isAgg66
  z32 := Tryd.sizeOf66
  v32 := Tryd.zeroValue66
  t35 := Tryd.underlying77
  a35 := Tryd.isAgg77
  z35 := Tryd.sizeOf77
  v35 := Tryd.zeroValue77
  t36 := Tryd.underlying78
  a36 := Tryd.isAgg78
  z36 := Tryd.sizeOf78
  v36 := Tryd.zeroValue78
  t41 := Tryd.underlying83
  a41 := Tryd.isAgg83
  z41 := Tryd.sizeOf83
  v41 := Tryd.zeroValue83
  t44 := Tryd.underlying86
  a44 := Tryd.isAgg86
  z44 := Tryd.sizeOf86
  v44 := Tryd.zeroValue86
  t46 := Tryd.underlying71
  a46 := Tryd.isAgg71
  z46 := Tryd.sizeOf71
  v46 := Tryd.zeroValue71
  t53 := Tryd.underlying93
  a53 := Tryd.isAgg93
  z53 := Tryd.sizeOf93
  v53 := Tryd.zeroValue93
  t57 := Tryd.underlying97
  a57 := Tryd.isAgg97
  z57 := Tryd.sizeOf97
  v57 := Tryd.zeroValue97
  t63 := Tryd.underlying106
  a63 := Tryd.isAgg106
  z63 := Tryd.sizeOf106
  v63 := Tryd.zeroValue106
  t64 := Tryd.underlying107
  a64 := Tryd.isAgg107
  z64 := Tryd.sizeOf107
  v64 := Tryd.zeroValue107 }
theorem Tryd.sorts22 (m : Nat) : AnyZ.SortsIn Tryd.prog Tryd.sorted22_ren Fence.wide m :=
  ⟨fun blk off cap ss W hH hblk hsz => callsIn_wide.2 (AnyM.slices_Sort_string Tryd.sort29 blk off cap ss W hH hblk hsz),
   fun p cap W => callsIn_wide.2 (AnyM.slices_Sort_string_none Tryd.sort29 p cap W)⟩
theorem Tryd.maps_Keys_23 (mb : Option Nat) (W : World) : CallsIn Fence.wide 5 Tryd.prog 23 #[.map mb] W fun e w' => e = .returned (.func (.func 30) #[] #[.pointer (some ⟨W.heap.size, 0, none⟩)]) ∧ w' = W.alloc (.cells #[.map mb] 44) :=
  AnyZ.keys_in Tryd.keys23 Fence.wide 5 trivial rfl mb W
set_option maxHeartbeats 1000000 in
theorem Tryd.slices_Sorted_keys_22_23 {H : Type} (b nn : Nat) (D0 : DataW H) (R : Value → Option (DataW H × List MemPlace)) (w : World) (hown : w.ownsMap Tryd.prog 9 R b nn D0) (hmax : Maps.size D0 ≤ maxLen) (hbytes : Maps.size D0 * 16 ≤ 140737488355328) :
    CallsIn Fence.wide 5 Tryd.prog 22 #[.func (.func 30) #[] #[.pointer (some ⟨w.heap.size, 0, none⟩)]] (w.alloc (.cells #[.map (some b)] 44)) fun e w' => ∃ (v : Value) (ss : List (List UInt8)), e = .returned v ∧ ss.Perm (strKeys D0) ∧
      w'.ownsRow (w.alloc (.cells #[.map (some b)] 44)).heap.size 9 1 v ss.length ((ss.mergeSort (fun x y => decide (x ≤ y))).map encStr) ∧ (v = .slice none 0 0 ↔ ss = []) ∧ Below (w.alloc (.cells #[.map (some b)] 44)).heap.size (w.alloc (.cells #[.map (some b)] 44)) w' := by
  have hbl := hown.lt
  have hseq : SeqGives Fence.wide 2 Tryd.prog 30 #[.pointer (some ⟨w.heap.size, 0, none⟩)] encStr (fun ss => ss.Perm (strKeys D0)) (Maps.size D0) (w.alloc (.cells #[.map (some b)] 44)) :=
    AnyZ.keys_gives (ρ := Tryd.keys23_ren) { Tryd.keys23 with } Fence.wide _ trivial rfl (by omega) w.heap.size b nn D0 _ (by simp) (by simp) (by
      obtain ⟨es, clock, hb, Ft, hs, hD⟩ := hown
      exact ⟨es, clock, (Below.heap_alloc _ _ b hbl).trans hb, Ft, hs, hD⟩)
  exact AnyZ.sorted_in Tryd.sorted22 Fence.wide 5 trivial trivial trivial trivial rfl (by omega) (Tryd.sorts22 _) (enters_of Tryd.func29 (by kernel_rfl) rfl) 30 #[.pointer (some ⟨w.heap.size, 0, none⟩)] trivial (enters_of Tryd.func30 (by kernel_rfl) rfl) _ _ hmax hbytes _ hseq
set_option maxHeartbeats 1000000 in
theorem Tryd.slices_Sorted_keys_nil_22_23 (w : World) :
    CallsIn Fence.wide 5 Tryd.prog 22 #[.func (.func 30) #[] #[.pointer (some ⟨w.heap.size, 0, none⟩)]] (w.alloc (.cells #[.map none] 44)) fun e w' => ∃ (v : Value) (ss : List (List UInt8)), e = .returned v ∧ ss = [] ∧
      w'.ownsRow (w.alloc (.cells #[.map none] 44)).heap.size 9 1 v ss.length ((ss.mergeSort (fun x y => decide (x ≤ y))).map encStr) ∧ (v = .slice none 0 0 ↔ ss = []) ∧ Below (w.alloc (.cells #[.map none] 44)).heap.size (w.alloc (.cells #[.map none] 44)) w' := by
  have hseq : SeqGives Fence.wide 2 Tryd.prog 30 #[.pointer (some ⟨w.heap.size, 0, none⟩)] encStr (fun ss : List (List UInt8) => ss = []) 0 (w.alloc (.cells #[.map none] 44)) :=
    AnyZ.keys_gives_nil (ρ := Tryd.keys23_ren) { Tryd.keys23 with } Fence.wide _ trivial rfl w.heap.size _ (by simp) (by simp)
  exact AnyZ.sorted_in Tryd.sorted22 Fence.wide 5 trivial trivial trivial trivial rfl (by omega) (Tryd.sorts22 _) (enters_of Tryd.func29 (by kernel_rfl) rfl) 30 #[.pointer (some ⟨w.heap.size, 0, none⟩)] trivial (enters_of Tryd.func30 (by kernel_rfl) rfl) _ 0 (Nat.zero_le _) (by omega) _ hseq
end Go.Proofs
