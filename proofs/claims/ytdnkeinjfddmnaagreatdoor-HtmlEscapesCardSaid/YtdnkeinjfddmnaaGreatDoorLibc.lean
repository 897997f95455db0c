/- This text gives the contracts of Go's library functions in the form of the symbolic executor. -/
import Derived.Test.YtdnkeinjfddmnaaGreatDoorLib
import Derived.Test.YtdnkeinjfddmnaaGreatDoorStr
import Derived.Test.YtdnkeinjfddmnaaGreatDoorTypes
import Derived.Test.YtdnkeinjfddmnaaGreatDoorShelf
set_option linter.all false

namespace Go.Proofs
open Go Go.X Go.RowKit Go.Shelf

theorem size_bytes (l : List UInt8) : ByteArray.size ⟨⟨l⟩⟩ = l.length := rfl

theorem hasPrefix_ok (s p : List UInt8) : FnS Tryz.prog 30 [.c (.s s), .c (.s p)] [] [] (Is (.c (.b (p.isPrefixOf s)))) :=
  fn_pure ⟨_, Tryz.func30, by kernel_rfl, by kernel_rfl⟩ (Tryz.strings_HasPrefix ⟨⟨s⟩⟩ ⟨⟨p⟩⟩)
theorem trimSuffix_ok (s p : List UInt8) (hs : s.length ≤ 9223372036854775807) : FnS Tryz.prog 160 [.c (.s s), .c (.s p)] [] [] (Is (.c (.s (Lib.trimSuffix s p)))) :=
  fn_pure ⟨_, Tryz.func160, by kernel_rfl, by kernel_rfl⟩ (fun w => Tryz.strings_TrimSuffix ⟨⟨s⟩⟩ ⟨⟨p⟩⟩ w hs)
theorem indexByte_ok (s : List UInt8) (c : UInt8) : FnS Tryz.prog 42 [.c (.s s), .c (.i .u8 c.toNat)] [] [] (Is (.c (.i .i64 (Lib.indexByte s c)))) :=
  fn_pure ⟨_, Tryz.func42, by kernel_rfl, by kernel_rfl⟩ (fun w => by
    have := Tryz.strings_IndexByte ⟨⟨s⟩⟩ c.toNat w
    simpa [V.enc, C.enc] using this)
theorem stringsCompare_ok (a b : List UInt8) : FnS Tryz.prog 109 [.c (.s a), .c (.s b)] [] [] (Is (.c (.i .i64 (Lib.compareBytes a b)))) :=
  fn_pure ⟨_, Tryz.func109, by kernel_rfl, by kernel_rfl⟩ (Tryz.strings_Compare ⟨⟨a⟩⟩ ⟨⟨b⟩⟩)
theorem compareInt_ok (a b : Int) : FnS Tryz.prog 108 [.c (.i .i64 a), .c (.i .i64 b)] [] [] (Is (.c (.i .i64 (Lib.compareInt a b)))) :=
  fn_pure ⟨_, Tryz.func108, by kernel_rfl, by kernel_rfl⟩ (Tryz.cmp_Compare_int a b)
theorem cut_ok (s sep : List UInt8) (hs : s.length < 4294967281) : FnS Tryz.prog 158 [.c (.s s), .c (.s sep)] [] [gInt 0]
    (Is (.t3 (.c (.s (Lib.cut s sep).1)) (.c (.s (Lib.cut s sep).2.1)) (.c (.b (Lib.cut s sep).2.2)))) :=
  fn_below ⟨_, Tryz.func158, by kernel_rfl, by kernel_rfl⟩ (fun w m hd hw => by
    obtain ⟨n, hn⟩ := gInt_cell hd hw
    refine (Tryz.strings_Cut ⟨⟨s⟩⟩ ⟨⟨sep⟩⟩ n w hs hn).mono ?_
    rintro e w' ⟨rfl, k, rfl⟩
    exact ⟨rfl, below_drewN w k⟩)
theorem cutOne_ok (s : List UInt8) (c : UInt8) (hs : s.length < 4294967281) : FnS Tryz.prog 158 [.c (.s s), .c (.s [c])] [] [gInt 0]
    (Is (.t3 (.c (.s (cutAt c s).1)) (.c (.s (cutAt c s).2.1)) (.c (.b (cutAt c s).2.2)))) := by
  rw [← cut_one]; exact cut_ok s [c] hs
theorem replaceAll_ok (s old new : List UInt8) (hs : s.length < 4294967281) (h1 : 1 ≤ old.length) (hlen : s.length + Lib.count s old * new.length ≤ 140737488355328) :
    FnS Tryz.prog 34 [.c (.s s), .c (.s old), .c (.s new)] [] [gInt 0] (Is (.c (.s (Lib.replaceAll s old new)))) :=
  fn_below ⟨_, Tryz.func34, by kernel_rfl, by kernel_rfl⟩ (fun w m hd hw => by
    obtain ⟨n, hn⟩ := gInt_cell hd hw
    exact Tryz.strings_ReplaceAll ⟨⟨s⟩⟩ ⟨⟨old⟩⟩ ⟨⟨new⟩⟩ n w hs hn h1 hlen)
theorem replaceOne_ok (s : List UInt8) (a b : UInt8) (hab : a ≠ b) (hs : s.length < 4294967281) :
    FnS Tryz.prog 34 [.c (.s s), .c (.s [a]), .c (.s [b])] [] [gInt 0] (Is (.c (.s (s.map fun x => if x = a then b else x)))) := by
  rw [← replaceAll_one a b hab]
  refine replaceAll_ok s [a] [b] hs (by simp) ?_
  have : Lib.count s [a] ≤ s.length := by rw [Lib.count_one]; exact List.count_le_length
  simp; omega
theorem splitOne_ok (s : List UInt8) (c : UInt8) (hs : s.length < 4294967281) : FnS Tryz.prog 118 [.c (.s s), .c (.s [c])] [] [gInt 0]
    (fun v L D => ∃ g, v = .c (.sl (some ⟨g, 0, none⟩) (splitOn c s).length (splitOn c s).length) ∧
      L = [.row 9 1 (some ⟨g, 0, none⟩) (splitOn c s).length (splitOn c s).length ((splitOn c s).map C.s)] ∧ D = []) := by
  refine ⟨⟨_, Tryz.func118, by kernel_rfl, by kernel_rfl⟩, fun w m hh => ?_⟩
  obtain ⟨n, hn⟩ := gInt_cell hh.d (fun b o hb => (hh.im b o hb).1)
  refine (Tryz.strings_Split ⟨⟨s⟩⟩ ⟨⟨[c]⟩⟩ n w hs hn (Nat.le_refl 1)).mono ?_
  rintro e w' ⟨rfl, rfl⟩
  have hlen : (splitOn c s).length = Lib.countB ⟨⟨s⟩⟩ ⟨⟨[c]⟩⟩ + 1 := by
    have h1 := Lib.splitB_all ⟨⟨[c]⟩⟩ (Nat.le_refl 1) 0 (Lib.countB ⟨⟨s⟩⟩ ⟨⟨[c]⟩⟩) ⟨⟨s⟩⟩ rfl
    rw [← h1, ← splitK_one]
    show (Lib.splitK _ _ _ _).length = _
    rw [show Lib.splitK [c] 0 (Lib.count s [c]) s = Lib.splitK (ByteArray.mk ⟨[c]⟩).data.toList 0 (Lib.countB ⟨⟨s⟩⟩ ⟨⟨[c]⟩⟩) (ByteArray.mk ⟨s⟩).data.toList from rfl, ← Lib.splitB_data, List.length_map]
  have hcells : (Lib.splitB ⟨⟨[c]⟩⟩ 0 (Lib.countB ⟨⟨s⟩⟩ ⟨⟨[c]⟩⟩) ⟨⟨s⟩⟩).map Value.string = ((splitOn c s).map C.s).map C.enc := by
    rw [← splitK_one, show Lib.splitK [c] 0 (Lib.count s [c]) s = Lib.splitK (ByteArray.mk ⟨[c]⟩).data.toList 0 (Lib.countB ⟨⟨s⟩⟩ ⟨⟨[c]⟩⟩) (ByteArray.mk ⟨s⟩).data.toList from rfl, ← Lib.splitB_data,
      List.map_map, List.map_map]
    refine List.map_congr_left fun x _ => ?_
    obtain ⟨⟨x⟩⟩ := x
    rfl
  have h0 : Holds w m [] [] := ⟨hh.nd, hh.ok, hh.im, trivial⟩
  have hrow : Chunk.ok (w.alloc (.cells ((Lib.splitB ⟨⟨[c]⟩⟩ 0 (Lib.countB ⟨⟨s⟩⟩ ⟨⟨[c]⟩⟩) ⟨⟨s⟩⟩).map Value.string).toArray 9))
      (.row 9 1 (some ⟨w.heap.size, 0, none⟩) (splitOn c s).length (splitOn c s).length ((splitOn c s).map C.s)) := by
    refine ⟨fun x hx => ?_, .inr ⟨w.heap.size, rfl, _, 0, 0, heap_alloc_new w _, Nat.le_refl _, ?_, ?_, .inr (Nat.le_refl _), by simp, ?_⟩⟩
    · obtain ⟨y, _, rfl⟩ := List.mem_map.1 hx
      rfl
    · have := splitOn_length_le c s
      have h3 : (4294967281 : Nat) ≤ maxLen := by decide
      omega
    · rw [hcells]; simp
    · rw [hcells]; simp only [Nat.mul_one]; exact List.take_of_length_le (by simp)
  obtain ⟨h1, h2⟩ := holds_alloc h0 _ _ rfl hrow
  exact ⟨_, _, [], m, by rw [← hlen]; rfl, ⟨w.heap.size, rfl, rfl, rfl⟩, h1, h2⟩
theorem itoa_ok (i : Nat) (hi : i < 100) : FnS Tryz.prog 62 [.c (.i .i64 i)] [] [] (Is (.c (.s (Lib.decDigits i)))) :=
  fn_pure ⟨_, Tryz.func62, by kernel_rfl, by kernel_rfl⟩ (fun w => Tryz.strconv_Itoa_small i hi w)
end Go.Proofs
