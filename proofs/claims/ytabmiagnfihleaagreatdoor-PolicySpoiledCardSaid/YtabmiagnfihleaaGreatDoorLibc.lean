/- This text gives the contracts of Go's library functions in the form of the symbolic executor. -/
import Derived.Test.YtabmiagnfihleaaGreatDoorLib
import Derived.Test.YtabmiagnfihleaaGreatDoorStr
import Derived.Test.YtabmiagnfihleaaGreatDoorTypes
import Derived.Test.YtabmiagnfihleaaGreatDoorShelf
import Derived.Shelf.Strings.SlTrimAscii
import Derived.Shelf.Strings.SlTrimAscii
set_option linter.all false

namespace Go.Proofs
open Go Go.X Go.RowKit Go.Shelf

theorem size_bytes (l : List UInt8) : ByteArray.size ⟨⟨l⟩⟩ = l.length := rfl

theorem hasPrefix_ok (s p : List UInt8) : FnS Tryz.prog 87 [.c (.s s), .c (.s p)] [] [] (Is (.c (.b (p.isPrefixOf s)))) :=
  fn_pure ⟨_, Tryz.func87, by kernel_rfl, by kernel_rfl⟩ (Tryz.strings_HasPrefix ⟨⟨s⟩⟩ ⟨⟨p⟩⟩)
theorem trimPrefix_ok (s p : List UInt8) : FnS Tryz.prog 88 [.c (.s s), .c (.s p)] [] [] (Is (.c (.s (Lib.trimPrefix s p)))) :=
  fn_pure ⟨_, Tryz.func88, by kernel_rfl, by kernel_rfl⟩ (Tryz.strings_TrimPrefix ⟨⟨s⟩⟩ ⟨⟨p⟩⟩)
theorem trimSuffix_ok (s p : List UInt8) (hs : s.length ≤ 9223372036854775807) : FnS Tryz.prog 73 [.c (.s s), .c (.s p)] [] [] (Is (.c (.s (Lib.trimSuffix s p)))) :=
  fn_pure ⟨_, Tryz.func73, by kernel_rfl, by kernel_rfl⟩ (fun w => Tryz.strings_TrimSuffix ⟨⟨s⟩⟩ ⟨⟨p⟩⟩ w hs)
theorem indexByte_ok (s : List UInt8) (c : UInt8) : FnS Tryz.prog 71 [.c (.s s), .c (.i .u8 c.toNat)] [] [] (Is (.c (.i .i64 (Lib.indexByte s c)))) :=
  fn_pure ⟨_, Tryz.func71, by kernel_rfl, by kernel_rfl⟩ (fun w => by
    have := Tryz.strings_IndexByte ⟨⟨s⟩⟩ c.toNat w
    simpa [V.enc, C.enc] using this)
theorem trimLeft_ok (s : List UInt8) (c : UInt8) (hc : c.toNat < 128) : FnS Tryz.prog 101 [.c (.s s), .c (.s [c])] [] [] (Is (.c (.s (Lib.trimLeftB s c)))) :=
  fn_pure ⟨_, Tryz.func101, by kernel_rfl, by kernel_rfl⟩ (Tryz.strings_TrimLeft_one ⟨⟨s⟩⟩ c hc)
theorem trimLeftS_ok (s cs : List UInt8) (hc : cs.length < 4294967281) (ha : ∀ (j : Nat) b, cs[j]? = some b → b.toNat < 128) : FnS Tryz.prog 101 [.c (.s s), .c (.s cs)] [] [] (Is (.c (.s (Lib.trimLeftS s cs)))) :=
  fn_below ⟨_, Tryz.func101, by kernel_rfl, by kernel_rfl⟩ (fun w _ _ _ => Any.strings_TrimLeft_laid Tryz.lays161 (by kernel_rfl) ⟨⟨s⟩⟩ ⟨⟨cs⟩⟩ w hc ha)
theorem trim_ok (s cs : List UInt8) (hs : s.length ≤ 9223372036854775807) (hc : cs.length < 4294967281) (ha : ∀ (j : Nat) b, cs[j]? = some b → b.toNat < 128) : FnS Tryz.prog 32 [.c (.s s), .c (.s cs)] [] [] (Is (.c (.s (Lib.trimS s cs)))) :=
  fn_below ⟨_, Tryz.func32, by kernel_rfl, by kernel_rfl⟩ (fun w _ _ _ => Any.strings_Trim_laid Tryz.lays160 (by kernel_rfl) ⟨⟨s⟩⟩ ⟨⟨cs⟩⟩ w hs hc ha)
theorem cutPrefix_ok (s p : List UInt8) : FnS Tryz.prog 28 [.c (.s s), .c (.s p)] [] [] (Is (.t2 (.c (.s (Lib.trimPrefix s p))) (.c (.b (Lib.hasPrefix s p))))) :=
  fn_pure ⟨_, Tryz.func28, by kernel_rfl, by kernel_rfl⟩ (Tryz.strings_CutPrefix ⟨⟨s⟩⟩ ⟨⟨p⟩⟩)
theorem trimRight_ok (s : List UInt8) (c : UInt8) (hc : c.toNat < 128) (hs : s.length ≤ 9223372036854775807) : FnS Tryz.prog 102 [.c (.s s), .c (.s [c])] [] [] (Is (.c (.s (Lib.trimRightB s c)))) :=
  fn_pure ⟨_, Tryz.func102, by kernel_rfl, by kernel_rfl⟩ (fun w => Tryz.strings_TrimRight_one ⟨⟨s⟩⟩ c hc w hs)
theorem cut_ok (s sep : List UInt8) (hs : s.length < 4294967281) : FnS Tryz.prog 69 [.c (.s s), .c (.s sep)] [] [gInt 0]
    (Is (.t3 (.c (.s (Lib.cut s sep).1)) (.c (.s (Lib.cut s sep).2.1)) (.c (.b (Lib.cut s sep).2.2)))) :=
  fn_below ⟨_, Tryz.func69, by kernel_rfl, by kernel_rfl⟩ (fun w m hd hw => by
    obtain ⟨n, hn⟩ := gInt_cell hd hw
    refine (Tryz.strings_Cut ⟨⟨s⟩⟩ ⟨⟨sep⟩⟩ n w hs hn).mono ?_
    rintro e w' ⟨rfl, k, rfl⟩
    exact ⟨rfl, below_drewN w k⟩)
theorem cutOne_ok (s : List UInt8) (c : UInt8) (hs : s.length < 4294967281) : FnS Tryz.prog 69 [.c (.s s), .c (.s [c])] [] [gInt 0]
    (Is (.t3 (.c (.s (cutAt c s).1)) (.c (.s (cutAt c s).2.1)) (.c (.b (cutAt c s).2.2)))) := by
  rw [← cut_one]; exact cut_ok s [c] hs
theorem replaceAll_ok (s old new : List UInt8) (hs : s.length < 4294967281) (h1 : 1 ≤ old.length) (hlen : s.length + Lib.count s old * new.length ≤ 140737488355328) :
    FnS Tryz.prog 86 [.c (.s s), .c (.s old), .c (.s new)] [] [gInt 0] (Is (.c (.s (Lib.replaceAll s old new)))) :=
  fn_below ⟨_, Tryz.func86, by kernel_rfl, by kernel_rfl⟩ (fun w m hd hw => by
    obtain ⟨n, hn⟩ := gInt_cell hd hw
    exact Tryz.strings_ReplaceAll ⟨⟨s⟩⟩ ⟨⟨old⟩⟩ ⟨⟨new⟩⟩ n w hs hn h1 hlen)
theorem replaceOne_ok (s : List UInt8) (a b : UInt8) (hab : a ≠ b) (hs : s.length < 4294967281) :
    FnS Tryz.prog 86 [.c (.s s), .c (.s [a]), .c (.s [b])] [] [gInt 0] (Is (.c (.s (s.map fun x => if x = a then b else x)))) := by
  rw [← replaceAll_one a b hab]
  refine replaceAll_ok s [a] [b] hs (by simp) ?_
  have : Lib.count s [a] ≤ s.length := by rw [Lib.count_one]; exact List.count_le_length
  simp; omega
theorem splitOne_ok (s : List UInt8) (c : UInt8) (hs : s.length < 4294967281) : FnS Tryz.prog 23 [.c (.s s), .c (.s [c])] [] [gInt 0]
    (fun v L D => ∃ g, v = .c (.sl (some ⟨g, 0, none⟩) (splitOn c s).length (splitOn c s).length) ∧
      L = [.row 9 1 (some ⟨g, 0, none⟩) (splitOn c s).length (splitOn c s).length ((splitOn c s).map C.s)] ∧ D = []) := by
  refine ⟨⟨_, Tryz.func23, by kernel_rfl, by kernel_rfl⟩, fun w m hh => ?_⟩
  obtain ⟨n, hn⟩ := gInt_cell hh.d (fun b o hb => (hh.im b o hb).1)
  refine (Tryz.strings_Split ⟨⟨s⟩⟩ ⟨⟨[c]⟩⟩ n w hs hn (Nat.le_refl 1)).mono ?_
  rintro e w' ⟨rfl, rfl⟩
  have hlen : (splitOn c s).length = Lib.countB ⟨⟨s⟩⟩ ⟨⟨[c]⟩⟩ + 1 := by
    have h1 := Lib.splitB_all ⟨⟨[c]⟩⟩ (Nat.le_refl 1) 0 (Lib.countB ⟨⟨s⟩⟩ ⟨⟨[c]⟩⟩) ⟨⟨s⟩⟩ rfl
    rw [← h1, ← splitK_one]
    show (Lib.splitK _ _ _ _).length = _
    rw [show Lib.splitK [c] 0 (Lib.count s [c]) s = Lib.splitK (ByteArray.mk ⟨[c]⟩).data.toList 0 (Lib.countB ⟨⟨s⟩⟩ ⟨⟨[c]⟩⟩) (ByteArray.mk ⟨s⟩).data.toList from rfl, ← Lib.splitB_data, List.length_map]
  have hcells : (Lib.splitB ⟨⟨[c]⟩⟩ 0 (Lib.countB ⟨⟨s⟩⟩ ⟨⟨[c]⟩⟩) ⟨⟨s⟩⟩).map Value.string = ((splitOn c s).map C.s).map C.enc := by
    rw [← splitK_one, show Lib.splitK [c] 0 (Lib.count s [c]) s = Lib.splitK (ByteArray.mk ⟨[c]⟩).data.toList 0 (Lib.countB ⟨⟨s⟩⟩ ⟨⟨[c]⟩⟩) (ByteArray.mk ⟨s⟩).data.toList from rfl, ← Lib.splitB_data,
      List.map_map, List.map_map]
    refine List.map_congr_left fun x _ => ?_
    obtain ⟨⟨x⟩⟩ := x
    rfl
  have h0 : Holds w m [] [] := ⟨hh.nd, hh.ok, hh.im, trivial⟩
  have hrow : Chunk.ok (w.alloc (.cells ((Lib.splitB ⟨⟨[c]⟩⟩ 0 (Lib.countB ⟨⟨s⟩⟩ ⟨⟨[c]⟩⟩) ⟨⟨s⟩⟩).map Value.string).toArray 9))
      (.row 9 1 (some ⟨w.heap.size, 0, none⟩) (splitOn c s).length (splitOn c s).length ((splitOn c s).map C.s)) := by
    refine ⟨fun x hx => ?_, .inr ⟨w.heap.size, rfl, _, 0, 0, heap_alloc_new w _, Nat.le_refl _, ?_, ?_, .inr (Nat.le_refl _), by simp, ?_⟩⟩
    · obtain ⟨y, _, rfl⟩ := List.mem_map.1 hx
      rfl
    · have := splitOn_length_le c s
      have h3 : (4294967281 : Nat) ≤ maxLen := by decide
      omega
    · rw [hcells]; simp
    · rw [hcells]; simp only [Nat.mul_one]; exact List.take_of_length_le (by simp)
  obtain ⟨h1, h2⟩ := holds_alloc h0 _ _ rfl hrow
  exact ⟨_, _, [], m, by rw [← hlen]; rfl, ⟨w.heap.size, rfl, rfl, rfl⟩, h1, h2⟩
theorem joinOne_ok (a : Option Addr) (n c : Nat) (xs : List (List UInt8)) (b : UInt8) (hn : n = xs.length) (hc : n ≤ c) (hN : n ≤ 140737488355328) (hlen : (joinOn b xs).length ≤ 140737488355328) :
    FnS Tryz.prog 103 [.c (.sl a n c), .c (.s [b])] [] [slFact 9 1 a n (xs.map C.s)] (Is (.c (.s (joinOn b xs)))) :=
  fn_below ⟨_, Tryz.func103, by kernel_rfl, by kernel_rfl⟩ (fun w m hd hw => by
    subst hn
    by_cases h0 : xs = []
    · subst h0
      refine (Tryz.strings_Join_none a c ⟨⟨[b]⟩⟩ w).mono ?_
      rintro e w' ⟨rfl, rfl⟩
      exact ⟨rfl, Below.refl _ _⟩
    · obtain ⟨g, off, ha, hg, hl, hcl⟩ := slF_cells (ety := 9) hd.1 (fun h => h0 (List.eq_nil_of_length_eq_zero h)) hw
      subst ha
      have e : ((xs.map fun l => (ByteArray.mk ⟨l⟩)).map fun x => x.data.toList) = xs := by
        rw [List.map_map]; exact List.map_id'' (fun _ => rfl) xs
      have hlen' : (xs.map fun l => (ByteArray.mk ⟨l⟩)).length = xs.length := by simp
      refine (show Calls _ _ _ w _ from ?_)
      have := Tryz.strings_Join g off c (xs.map fun l => (ByteArray.mk ⟨l⟩)) ⟨⟨[b]⟩⟩ w (fun j x hx => ?_) hg (by rw [hlen']; exact hN) (by rw [hlen']; exact hc) (by rw [e, join_one_byte]; exact hlen)
      · rw [e, join_one_byte, hlen'] at this
        exact this
      · simp only [List.getElem?_map, Option.map_eq_some_iff] at hx
        obtain ⟨l, hl, rfl⟩ := hx
        exact hcl j (.s l) (by simp [hl]))
end Go.Proofs
