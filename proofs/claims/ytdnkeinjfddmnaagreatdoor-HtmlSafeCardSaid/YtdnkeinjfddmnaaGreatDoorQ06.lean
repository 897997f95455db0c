/- This text gives the contracts of Go's library functions in the form of the symbolic executor. · This text gives the contracts of strings.Builder, alone or at the head of a struct: WriteString, WriteByte, Write, Len, String. · This text proves the rules for functions that put calls off (defer), for functions without results. · This text proves, for any program, that a region that draws its order may be executed along a tree of orders: where two operations that work on memory stand in no order, both ways are looked at. No condition. · This text proves, for any program, that a region that draws its order may be executed along a tree of orders in which the quiet operations behind a branch see the facts that the branch's operation has made. No condition. -/
import Derived.Test.YtdnkeinjfddmnaaGreatDoorQ04
import Derived.Test.YtdnkeinjfddmnaaGreatDoorQ05
import Derived.Laws.Externs
import Derived.Defers
set_option linter.all false

namespace Go.Proofs
open Go Go.X Go.RowKit Go.Shelf

theorem size_bytes (l : List UInt8) : ByteArray.size ⟨⟨l⟩⟩ = l.length := rfl

theorem hasPrefix_ok (s p : List UInt8) : FnS Tryz.prog 30 [.c (.s s), .c (.s p)] [] [] (Is (.c (.b (p.isPrefixOf s)))) :=
  fn_pure ⟨_, Tryz.func30, by kernel_rfl, by kernel_rfl⟩ (Tryz.strings_HasPrefix ⟨⟨s⟩⟩ ⟨⟨p⟩⟩)
theorem trimSuffix_ok (s p : List UInt8) (hs : s.length ≤ 9223372036854775807) : FnS Tryz.prog 160 [.c (.s s), .c (.s p)] [] [] (Is (.c (.s (Lib.trimSuffix s p)))) :=
  fn_pure ⟨_, Tryz.func160, by kernel_rfl, by kernel_rfl⟩ (fun w => Tryz.strings_TrimSuffix ⟨⟨s⟩⟩ ⟨⟨p⟩⟩ w hs)
theorem indexByte_ok (s : List UInt8) (c : UInt8) : FnS Tryz.prog 42 [.c (.s s), .c (.i .u8 c.toNat)] [] [] (Is (.c (.i .i64 (Lib.indexByte s c)))) :=
  fn_pure ⟨_, Tryz.func42, by kernel_rfl, by kernel_rfl⟩ (fun w => by
    have := Tryz.strings_IndexByte ⟨⟨s⟩⟩ c.toNat w
    simpa [V.enc, C.enc] using this)
theorem stringsCompare_ok (a b : List UInt8) : FnS Tryz.prog 109 [.c (.s a), .c (.s b)] [] [] (Is (.c (.i .i64 (Lib.compareBytes a b)))) :=
  fn_pure ⟨_, Tryz.func109, by kernel_rfl, by kernel_rfl⟩ (Tryz.strings_Compare ⟨⟨a⟩⟩ ⟨⟨b⟩⟩)
theorem compareInt_ok (a b : Int) : FnS Tryz.prog 108 [.c (.i .i64 a), .c (.i .i64 b)] [] [] (Is (.c (.i .i64 (Lib.compareInt a b)))) :=
  fn_pure ⟨_, Tryz.func108, by kernel_rfl, by kernel_rfl⟩ (Tryz.cmp_Compare_int a b)
theorem cut_ok (s sep : List UInt8) (hs : s.length < 4294967281) : FnS Tryz.prog 158 [.c (.s s), .c (.s sep)] [] [gInt 0]
    (Is (.t3 (.c (.s (Lib.cut s sep).1)) (.c (.s (Lib.cut s sep).2.1)) (.c (.b (Lib.cut s sep).2.2)))) :=
  fn_below ⟨_, Tryz.func158, by kernel_rfl, by kernel_rfl⟩ (fun w m hd hw => by
    obtain ⟨n, hn⟩ := gInt_cell hd hw
    refine (Tryz.strings_Cut ⟨⟨s⟩⟩ ⟨⟨sep⟩⟩ n w hs hn).mono ?_
    rintro e w' ⟨rfl, k, rfl⟩
    exact ⟨rfl, below_drewN w k⟩)
theorem cutOne_ok (s : List UInt8) (c : UInt8) (hs : s.length < 4294967281) : FnS Tryz.prog 158 [.c (.s s), .c (.s [c])] [] [gInt 0]
    (Is (.t3 (.c (.s (cutAt c s).1)) (.c (.s (cutAt c s).2.1)) (.c (.b (cutAt c s).2.2)))) := by
  rw [← cut_one]; exact cut_ok s [c] hs
theorem replaceAll_ok (s old new : List UInt8) (hs : s.length < 4294967281) (h1 : 1 ≤ old.length) (hlen : s.length + Lib.count s old * new.length ≤ 140737488355328) :
    FnS Tryz.prog 34 [.c (.s s), .c (.s old), .c (.s new)] [] [gInt 0] (Is (.c (.s (Lib.replaceAll s old new)))) :=
  fn_below ⟨_, Tryz.func34, by kernel_rfl, by kernel_rfl⟩ (fun w m hd hw => by
    obtain ⟨n, hn⟩ := gInt_cell hd hw
    exact Tryz.strings_ReplaceAll ⟨⟨s⟩⟩ ⟨⟨old⟩⟩ ⟨⟨new⟩⟩ n w hs hn h1 hlen)
theorem replaceOne_ok (s : List UInt8) (a b : UInt8) (hab : a ≠ b) (hs : s.length < 4294967281) :
    FnS Tryz.prog 34 [.c (.s s), .c (.s [a]), .c (.s [b])] [] [gInt 0] (Is (.c (.s (s.map fun x => if x = a then b else x)))) := by
  rw [← replaceAll_one a b hab]
  refine replaceAll_ok s [a] [b] hs (by simp) ?_
  have : Lib.count s [a] ≤ s.length := by rw [Lib.count_one]; exact List.count_le_length
  simp; omega
theorem splitOne_ok (s : List UInt8) (c : UInt8) (hs : s.length < 4294967281) : FnS Tryz.prog 118 [.c (.s s), .c (.s [c])] [] [gInt 0]
    (fun v L D => ∃ g, v = .c (.sl (some ⟨g, 0, none⟩) (splitOn c s).length (splitOn c s).length) ∧
      L = [.row 9 1 (some ⟨g, 0, none⟩) (splitOn c s).length (splitOn c s).length ((splitOn c s).map C.s)] ∧ D = []) := by
  refine ⟨⟨_, Tryz.func118, by kernel_rfl, by kernel_rfl⟩, fun w m hh => ?_⟩
  obtain ⟨n, hn⟩ := gInt_cell hh.d (fun b o hb => (hh.im b o hb).1)
  refine (Tryz.strings_Split ⟨⟨s⟩⟩ ⟨⟨[c]⟩⟩ n w hs hn (Nat.le_refl 1)).mono ?_
  rintro e w' ⟨rfl, rfl⟩
  have hlen : (splitOn c s).length = Lib.countB ⟨⟨s⟩⟩ ⟨⟨[c]⟩⟩ + 1 := by
    have h1 := Lib.splitB_all ⟨⟨[c]⟩⟩ (Nat.le_refl 1) 0 (Lib.countB ⟨⟨s⟩⟩ ⟨⟨[c]⟩⟩) ⟨⟨s⟩⟩ rfl
    rw [← h1, ← splitK_one]
    show (Lib.splitK _ _ _ _).length = _
    rw [show Lib.splitK [c] 0 (Lib.count s [c]) s = Lib.splitK (ByteArray.mk ⟨[c]⟩).data.toList 0 (Lib.countB ⟨⟨s⟩⟩ ⟨⟨[c]⟩⟩) (ByteArray.mk ⟨s⟩).data.toList from rfl, ← Lib.splitB_data, List.length_map]
  have hcells : (Lib.splitB ⟨⟨[c]⟩⟩ 0 (Lib.countB ⟨⟨s⟩⟩ ⟨⟨[c]⟩⟩) ⟨⟨s⟩⟩).map Value.string = ((splitOn c s).map C.s).map C.enc := by
    rw [← splitK_one, show Lib.splitK [c] 0 (Lib.count s [c]) s = Lib.splitK (ByteArray.mk ⟨[c]⟩).data.toList 0 (Lib.countB ⟨⟨s⟩⟩ ⟨⟨[c]⟩⟩) (ByteArray.mk ⟨s⟩).data.toList from rfl, ← Lib.splitB_data,
      List.map_map, List.map_map]
    refine List.map_congr_left fun x _ => ?_
    obtain ⟨⟨x⟩⟩ := x
    rfl
  have h0 : Holds w m [] [] := ⟨hh.nd, hh.ok, hh.im, trivial⟩
  have hrow : Chunk.ok (w.alloc (.cells ((Lib.splitB ⟨⟨[c]⟩⟩ 0 (Lib.countB ⟨⟨s⟩⟩ ⟨⟨[c]⟩⟩) ⟨⟨s⟩⟩).map Value.string).toArray 9))
      (.row 9 1 (some ⟨w.heap.size, 0, none⟩) (splitOn c s).length (splitOn c s).length ((splitOn c s).map C.s)) := by
    refine ⟨fun x hx => ?_, .inr ⟨w.heap.size, rfl, _, 0, 0, heap_alloc_new w _, Nat.le_refl _, ?_, ?_, .inr (Nat.le_refl _), by simp, ?_⟩⟩
    · obtain ⟨y, _, rfl⟩ := List.mem_map.1 hx
      rfl
    · have := splitOn_length_le c s
      have h3 : (4294967281 : Nat) ≤ maxLen := by decide
      omega
    · rw [hcells]; simp
    · rw [hcells]; simp only [Nat.mul_one]; exact List.take_of_length_le (by simp)
  obtain ⟨h1, h2⟩ := holds_alloc h0 _ _ rfl hrow
  exact ⟨_, _, [], m, by rw [← hlen]; rfl, ⟨w.heap.size, rfl, rfl, rfl⟩, h1, h2⟩
theorem itoa_ok (i : Nat) (hi : i < 100) : FnS Tryz.prog 62 [.c (.i .i64 i)] [] [] (Is (.c (.s (Lib.decDigits i)))) :=
  fn_pure ⟨_, Tryz.func62, by kernel_rfl, by kernel_rfl⟩ (fun w => Tryz.strconv_Itoa_small i hi w)
end Go.Proofs

namespace Go.Proofs
open Go Go.X Go.RowKit Go.Shelf
set_option maxRecDepth 100000

/-- A builder lies at the head of a variable of this type, which has k cells more. -/
structure BTy (ty k : Nat) : Prop where
  lies : liesAt Tryz.prog Tryz.prog.depth ty ((k + 2) / Tryz.prog.cellsOf ty) 0 66 1 = true
theorem bty0 : BTy 66 0 := ⟨by kernel_rfl⟩
theorem btyW : BTy 87 5 := ⟨by kernel_rfl⟩

theorem noEscape_run (x : Value) (w : World) : (callFunc 116 #[x]).run Tryz.prog w = .ok (.value x) w := by
  rw [run_callFunc_extern Tryz.func116 (by kernel_rfl) (by kernel_rfl) (by kernel_rfl) (e := Extern.AbiNoEscape.same) (by kernel_rfl), Lib.run_noEscape]
  rfl

theorem setK_s1 {x a b : C} {r : List C} {k : List C → Prop} (h : k (a :: x :: r)) : setK (0 + 1) [x] (a :: b :: r) k := by cases r <;> exact h

theorem perm3r {α : Type} (a b c : α) : List.Perm [a, b, c] ([b] ++ [c, a]) := (List.Perm.swap _ _ _).trans (List.Perm.cons _ (List.Perm.swap _ _ _))

theorem oneCopyFresh (ab ty : Nat) (x : C) (rest : List C) (hb : BTy ty rest.length) : FnS Tryz.prog 79 [.c (.p 0 ab 0)] [.box 0 ab ty (.raw (.pointer none) :: x :: rest)] []
    (fun v L D => v = .t0 ∧ L = [.box 0 ab ty (.p 0 ab 0 :: x :: rest)] ∧ D = []) := by
  refine fn_of_J Tryz.tyOK 7000 Tryz.func79 (by kernel_rfl) (c := Tryz.f79.body.getD .skip) (by kernel_rfl) Tryz.ntmps79 (rs := Tryz.f79.results.toList) rfl (by simp) (fun G => ?_)
  repeat' first
    | refine J_seq ?_ | refine J_region Tryz.tyOK ?_ | refine J_block ?_ | refine J_cond ?_ | refine J_ret ?_ | refine J_skip ?_ | refine J_exit ?_ | refine J_scope ?_
    | refine CondP.yes (by omega) ?_ | refine CondP.no (by omega) ?_ | refine CondP.mk (fun h => ?_) (fun h => ?_) | refine EqP.mk rfl ?_ | refine NewP.mk (fun ad => ?_) | refine ArP.exact (by simp only [inR]; omega) ?_ | refine SideP.mk (by first | omega | (dsimp only; omega) | (simp; omega)) ?_
    | refine SideP.mk ⟨rfl, Nat.zero_lt_succ _⟩ ?_ | refine SideP.mk ⟨rfl, hb.lies⟩ ?_ | refine CallP.ext (.c (.p 0 ab 0)) (fun _ w _ => noEscape_run _ w) ?_ | refine FinE.mk _ [] ⟨rfl, rfl, rfl⟩ (Ents.refl _ _)
    | fail

theorem oneCopyUsed (ab ty : Nat) (x : C) (rest : List C) : FnS Tryz.prog 79 [.c (.p 0 ab 0)] [.box 0 ab ty (.p 0 ab 0 :: x :: rest)] []
    (fun v L D => v = .t0 ∧ L = [.box 0 ab ty (.p 0 ab 0 :: x :: rest)] ∧ D = []) := by
  refine fn_of_J Tryz.tyOK 7000 Tryz.func79 (by kernel_rfl) (c := Tryz.f79.body.getD .skip) (by kernel_rfl) Tryz.ntmps79 (rs := Tryz.f79.results.toList) rfl (by simp) (fun G => ?_)
  repeat' first
    | refine J_seq ?_ | refine J_region Tryz.tyOK ?_ | refine J_block ?_ | refine J_cond ?_ | refine J_ret ?_ | refine J_skip ?_ | refine J_exit ?_ | refine J_scope ?_
    | refine CondP.yes (by omega) ?_ | refine CondP.no (by omega) ?_ | refine CondP.mk (fun h => ?_) (fun h => ?_) | refine EqP.mk rfl ?_ | refine NewP.mk (fun ad => ?_) | refine ArP.exact (by simp only [inR]; omega) ?_ | refine SideP.mk (by first | omega | (dsimp only; omega) | (simp; omega)) ?_
    | refine SideP.mk ⟨rfl, rfl⟩ ?_ | refine FinE.mk _ [] ⟨rfl, rfl, rfl⟩ (Ents.refl _ _)
    | fail

/-- A builder that holds the bytes l, at the head of a box. -/
def bw (id ab ty : Nat) (a : Option Addr) (c : Nat) (l : List UInt8) (rest : List C) : List Chunk :=
  if l = [] then [.box id ab ty (.raw (.pointer none) :: .sl none 0 0 :: rest)] else [.box id ab ty (.p id ab 0 :: .sl a l.length c :: rest), .row 5 1 a l.length c (l.map byteC)]
theorem bw_nil (id ab ty : Nat) (a : Option Addr) (c : Nat) (rest : List C) : bw id ab ty a c [] rest = [.box id ab ty (.raw (.pointer none) :: .sl none 0 0 :: rest)] := rfl
theorem bw_cons (id ab ty : Nat) (a : Option Addr) (c : Nat) {l : List UInt8} (rest : List C) (h : l ≠ []) : bw id ab ty a c l rest = [.box id ab ty (.p id ab 0 :: .sl a l.length c :: rest), .row 5 1 a l.length c (l.map byteC)] := if_neg h

/-- What a writing method leaves. -/
def BwPost (r : V) (id ab ty : Nat) (l : List UInt8) (rest : List C) : V → List Chunk → List Fact → Prop := fun v L D => ∃ a c, v = r ∧ L = bw id ab ty a c l rest ∧ D = []

theorem bw_same (id id' ab ty : Nat) (a : Option Addr) (c : Nat) (l : List UInt8) (rest : List C) : Same (bw id ab ty a c l rest) (bw id' ab ty a c l rest) := by
  unfold bw; split <;> exact ⟨rfl, fun _ => by simp [allOk, Chunk.ok, C.enc, oneAll, C.one]⟩

theorem bwString0 (ab ty : Nat) (a : Option Addr) (c : Nat) (l : List UInt8) (s : List UInt8) (rest : List C) (hb : BTy ty rest.length) (hs : s ≠ []) (hl : l.length + s.length ≤ 140737488355328) :
    FnS Tryz.prog 39 [.c (.p 0 ab 0), .c (.s s)] (bw 0 ab ty a c l rest) [] (BwPost (.t2 (.c (.i .i64 s.length)) (.c (.raw .nilIface))) 0 ab ty (l ++ s) rest) := by
  have hls : l ++ s ≠ [] := by simp [hs]
  by_cases h0 : l = []
  · subst h0
    rw [bw_nil]
    have c1 := oneCopyFresh ab ty (.sl none 0 0) rest hb
    refine fn_of_J Tryz.tyOK 7000 Tryz.func39 (by kernel_rfl) (c := Tryz.f39.body.getD .skip) (by kernel_rfl) Tryz.ntmps39 (rs := Tryz.f39.results.toList) rfl (by simp) (fun G => ?_)
    repeat' first
      | refine J_seq ?_ | refine J_region Tryz.tyOK ?_ | refine J_block ?_ | refine J_cond ?_ | refine J_ret ?_ | refine J_skip ?_ | refine J_exit ?_ | refine J_scope ?_
      | refine CondP.yes (by omega) ?_ | refine CondP.no (by omega) ?_ | refine CondP.mk (fun h => ?_) (fun h => ?_) | refine EqP.mk rfl ?_ | refine NewP.mk (fun ad => ?_) | refine ArP.exact (by simp only [inR]; omega) ?_ | refine SideP.mk (by first | omega | (dsimp only; omega) | (simp; omega)) ?_
      | refine CallP.mk [_] [] [] _ c1 (List.Perm.refl _) (fun _ _ => trivial) (fun v L' D' hp => ?_); obtain ⟨rfl, rfl, rfl⟩ := hp | refine AppE.nil (s.map byteC) s.length rfl rfl rfl (SrcE.str _ s rfl rfl rfl) (by show s.length * 1 ≤ _; simp only [List.length_nil] at hl; omega) (fun a' c' => ?_) | refine setK_s1 ?_ | refine FinE.mk (bw 0 ab ty a' c' ([] ++ s) rest) [] ⟨a', c', rfl, rfl, rfl⟩ ?_
      | fail
    exact (Ents.perm (List.Perm.swap _ _ _)).trans (Ents.of (by rw [bw_cons _ _ _ _ _ _ hls]; rfl))
  · rw [bw_cons _ _ _ _ _ _ h0]
    have c1 := oneCopyUsed ab ty (.sl a l.length c) rest
    refine fn_of_J Tryz.tyOK 7000 Tryz.func39 (by kernel_rfl) (c := Tryz.f39.body.getD .skip) (by kernel_rfl) Tryz.ntmps39 (rs := Tryz.f39.results.toList) rfl (by simp) (fun G => ?_)
    repeat' first
      | refine J_seq ?_ | refine J_region Tryz.tyOK ?_ | refine J_block ?_ | refine J_cond ?_ | refine J_ret ?_ | refine J_skip ?_ | refine J_exit ?_ | refine J_scope ?_
      | refine CondP.yes (by omega) ?_ | refine CondP.no (by omega) ?_ | refine CondP.mk (fun h => ?_) (fun h => ?_) | refine EqP.mk rfl ?_ | refine NewP.mk (fun ad => ?_) | refine ArP.exact (by simp only [inR]; omega) ?_ | refine SideP.mk (by first | omega | (dsimp only; omega) | (simp; omega)) ?_
      | refine CallP.mk [_] [_] [] _ c1 (List.Perm.refl _) (fun _ _ => trivial) (fun v L' D' hp => ?_); obtain ⟨rfl, rfl, rfl⟩ := hp | refine AppE.row [_] [] (l.map byteC) (s.map byteC) s.length rfl (SrcE.str _ s rfl rfl rfl) (by show (l.length + s.length) * 1 ≤ _; omega) (fun a' c' => ?_) | refine setK_s1 ?_ | refine FinE.mk (bw 0 ab ty a' c' (l ++ s) rest) [] ⟨a', c', rfl, rfl, rfl⟩ ?_
      | fail
    exact Ents.of (by rw [bw_cons _ _ _ _ _ _ hls, List.length_append, List.map_append]; rfl)

theorem bwString_ok (id ab ty : Nat) (a : Option Addr) (c : Nat) (l : List UInt8) (s : List UInt8) (rest : List C) (hb : BTy ty rest.length) (hs : s ≠ []) (hl : l.length + s.length ≤ 140737488355328) :
    FnS Tryz.prog 39 [.c (.p id ab 0), .c (.s s)] (bw id ab ty a c l rest) [] (BwPost (.t2 (.c (.i .i64 s.length)) (.c (.raw .nilIface))) id ab ty (l ++ s) rest) :=
  (bwString0 ab ty a c l s rest hb hs hl).same rfl (bw_same _ _ _ _ _ _ _ _) fun v L1 D1 ⟨a', c', h1, h2, h3⟩ => ⟨_, h2 ▸ bw_same 0 id ab ty a' c' (l ++ s) rest, a', c', h1, rfl, h3⟩

theorem bwByte0 (ab ty : Nat) (a : Option Addr) (c : Nat) (l : List UInt8) (s : UInt8) (rest : List C) (hb : BTy ty rest.length)  (hl : l.length + 1 ≤ 140737488355328) :
    FnS Tryz.prog 41 [.c (.p 0 ab 0), .c (byteC s)] (bw 0 ab ty a c l rest) [] (BwPost (.c (.raw .nilIface)) 0 ab ty (l ++ [s]) rest) := by
  have hls : l ++ [s] ≠ [] := by simp
  by_cases h0 : l = []
  · subst h0
    rw [bw_nil]
    have c1 := oneCopyFresh ab ty (.sl none 0 0) rest hb
    refine fn_of_J Tryz.tyOK 7000 Tryz.func41 (by kernel_rfl) (c := Tryz.f41.body.getD .skip) (by kernel_rfl) Tryz.ntmps41 (rs := Tryz.f41.results.toList) rfl (by simp) (fun G => ?_)
    repeat' first
      | refine J_seq ?_ | refine J_region Tryz.tyOK ?_ | refine J_block ?_ | refine J_cond ?_ | refine J_ret ?_ | refine J_skip ?_ | refine J_exit ?_ | refine J_scope ?_
      | refine CondP.yes (by omega) ?_ | refine CondP.no (by omega) ?_ | refine CondP.mk (fun h => ?_) (fun h => ?_) | refine EqP.mk rfl ?_ | refine NewP.mk (fun ad => ?_) | refine ArP.exact (by simp only [inR]; omega) ?_ | refine SideP.mk (by first | omega | (dsimp only; omega) | (simp; omega)) ?_
      | refine CallP.mk [_] [] [] _ c1 (List.Perm.refl _) (fun _ _ => trivial) (fun v L' D' hp => ?_); obtain ⟨rfl, rfl, rfl⟩ := hp | refine AppE.nil ([s].map byteC) 1 rfl rfl rfl (SrcE.sl 5 5 _ _ _ _ [byteC s] rfl rfl (.inl ⟨1, List.Mem.head _⟩) rfl) (by show 1 * 1 ≤ _; simp only [List.length_nil] at hl; omega) (fun a' c' => ?_) | refine setK_s1 ?_ | refine FinE.mk (bw 0 ab ty a' c' ([] ++ [s]) rest) [] ⟨a', c', rfl, rfl, rfl⟩ ?_
      | fail
    exact (Ents.sub ⟨_, perm3r _ _ _⟩).trans (Ents.of (by rw [bw_cons _ _ _ _ _ _ hls]; rfl))
  · rw [bw_cons _ _ _ _ _ _ h0]
    have c1 := oneCopyUsed ab ty (.sl a l.length c) rest
    refine fn_of_J Tryz.tyOK 7000 Tryz.func41 (by kernel_rfl) (c := Tryz.f41.body.getD .skip) (by kernel_rfl) Tryz.ntmps41 (rs := Tryz.f41.results.toList) rfl (by simp) (fun G => ?_)
    repeat' first
      | refine J_seq ?_ | refine J_region Tryz.tyOK ?_ | refine J_block ?_ | refine J_cond ?_ | refine J_ret ?_ | refine J_skip ?_ | refine J_exit ?_ | refine J_scope ?_
      | refine CondP.yes (by omega) ?_ | refine CondP.no (by omega) ?_ | refine CondP.mk (fun h => ?_) (fun h => ?_) | refine EqP.mk rfl ?_ | refine NewP.mk (fun ad => ?_) | refine ArP.exact (by simp only [inR]; omega) ?_ | refine SideP.mk (by first | omega | (dsimp only; omega) | (simp; omega)) ?_
      | refine CallP.mk [_] [_] [] _ c1 (List.Perm.refl _) (fun _ _ => trivial) (fun v L' D' hp => ?_); obtain ⟨rfl, rfl, rfl⟩ := hp | refine AppE.row [_, _] [] (l.map byteC) ([s].map byteC) 1 rfl (SrcE.sl 5 5 _ _ _ _ [byteC s] rfl rfl (.inl ⟨1, List.Mem.head _⟩) rfl) (by show (l.length + 1) * 1 ≤ _; omega) (fun a' c' => ?_) | refine setK_s1 ?_ | refine FinE.mk (bw 0 ab ty a' c' (l ++ [s]) rest) [] ⟨a', c', rfl, rfl, rfl⟩ ?_
      | fail
    exact Ents.drop.trans (Ents.of (by rw [bw_cons _ _ _ _ _ _ hls, List.length_append, List.map_append]; rfl))

theorem bwByte_ok (id ab ty : Nat) (a : Option Addr) (c : Nat) (l : List UInt8) (s : UInt8) (rest : List C) (hb : BTy ty rest.length)  (hl : l.length + 1 ≤ 140737488355328) :
    FnS Tryz.prog 41 [.c (.p id ab 0), .c (byteC s)] (bw id ab ty a c l rest) [] (BwPost (.c (.raw .nilIface)) id ab ty (l ++ [s]) rest) :=
  (bwByte0 ab ty a c l s rest hb  hl).same rfl (bw_same _ _ _ _ _ _ _ _) fun v L1 D1 ⟨a', c', h1, h2, h3⟩ => ⟨_, h2 ▸ bw_same 0 id ab ty a' c' (l ++ [s]) rest, a', c', h1, rfl, h3⟩

theorem bwWrite0 (ab ty : Nat) (a : Option Addr) (c : Nat) (l : List UInt8) (s : List UInt8) (pa : Option Addr) (pc : Nat) (rest : List C) (hb : BTy ty rest.length) (hs : s ≠ []) (hl : l.length + s.length ≤ 140737488355328) :
    FnS Tryz.prog 43 [.c (.p 0 ab 0), .c (.sl pa s.length pc)] (bw 0 ab ty a c l rest) [slFact 5 1 pa s.length (s.map byteC)] (BwPost (.t2 (.c (.i .i64 s.length)) (.c (.raw .nilIface))) 0 ab ty (l ++ s) rest) := by
  have hls : l ++ s ≠ [] := by simp [hs]
  by_cases h0 : l = []
  · subst h0
    rw [bw_nil]
    have c1 := oneCopyFresh ab ty (.sl none 0 0) rest hb
    refine fn_of_J Tryz.tyOK 7000 Tryz.func43 (by kernel_rfl) (c := Tryz.f43.body.getD .skip) (by kernel_rfl) Tryz.ntmps43 (rs := Tryz.f43.results.toList) rfl (by simp) (fun G => ?_)
    repeat' first
      | refine J_seq ?_ | refine J_region Tryz.tyOK ?_ | refine J_block ?_ | refine J_cond ?_ | refine J_ret ?_ | refine J_skip ?_ | refine J_exit ?_ | refine J_scope ?_
      | refine CondP.yes (by omega) ?_ | refine CondP.no (by omega) ?_ | refine CondP.mk (fun h => ?_) (fun h => ?_) | refine EqP.mk rfl ?_ | refine NewP.mk (fun ad => ?_) | refine ArP.exact (by simp only [inR]; omega) ?_ | refine SideP.mk (by first | omega | (dsimp only; omega) | (simp; omega)) ?_
      | refine CallP.mk [_] [] [] _ c1 (List.Perm.refl _) (fun _ _ => trivial) (fun v L' D' hp => ?_); obtain ⟨rfl, rfl, rfl⟩ := hp | refine AppE.nil (s.map byteC) s.length rfl rfl rfl (SrcE.sl 5 5 _ _ _ _ (s.map byteC) rfl rfl (.inr fun _ h => h.1) (by simp)) (by show s.length * 1 ≤ _; simp only [List.length_nil] at hl; omega) (fun a' c' => ?_) | refine setK_s1 ?_ | refine FinE.mk (bw 0 ab ty a' c' ([] ++ s) rest) [] ⟨a', c', rfl, rfl, rfl⟩ ?_
      | fail
    exact (Ents.perm (List.Perm.swap _ _ _)).trans ((Ents.of (by rw [bw_cons _ _ _ _ _ _ hls]; rfl)).trans (Ents.facts fun _ _ => trivial))
  · rw [bw_cons _ _ _ _ _ _ h0]
    have c1 := oneCopyUsed ab ty (.sl a l.length c) rest
    refine fn_of_J Tryz.tyOK 7000 Tryz.func43 (by kernel_rfl) (c := Tryz.f43.body.getD .skip) (by kernel_rfl) Tryz.ntmps43 (rs := Tryz.f43.results.toList) rfl (by simp) (fun G => ?_)
    repeat' first
      | refine J_seq ?_ | refine J_region Tryz.tyOK ?_ | refine J_block ?_ | refine J_cond ?_ | refine J_ret ?_ | refine J_skip ?_ | refine J_exit ?_ | refine J_scope ?_
      | refine CondP.yes (by omega) ?_ | refine CondP.no (by omega) ?_ | refine CondP.mk (fun h => ?_) (fun h => ?_) | refine EqP.mk rfl ?_ | refine NewP.mk (fun ad => ?_) | refine ArP.exact (by simp only [inR]; omega) ?_ | refine SideP.mk (by first | omega | (dsimp only; omega) | (simp; omega)) ?_
      | refine CallP.mk [_] [_] [] _ c1 (List.Perm.refl _) (fun _ _ => trivial) (fun v L' D' hp => ?_); obtain ⟨rfl, rfl, rfl⟩ := hp | refine AppE.row [_] [] (l.map byteC) (s.map byteC) s.length rfl (SrcE.sl 5 5 _ _ _ _ (s.map byteC) rfl rfl (.inr fun _ h => h.1) (by simp)) (by show (l.length + s.length) * 1 ≤ _; omega) (fun a' c' => ?_) | refine setK_s1 ?_ | refine FinE.mk (bw 0 ab ty a' c' (l ++ s) rest) [] ⟨a', c', rfl, rfl, rfl⟩ ?_
      | fail
    exact (Ents.of (by rw [bw_cons _ _ _ _ _ _ hls, List.length_append, List.map_append]; rfl)).trans (Ents.facts fun _ _ => trivial)

theorem bwWrite_ok (id ab ty : Nat) (a : Option Addr) (c : Nat) (l : List UInt8) (s : List UInt8) (pa : Option Addr) (pc : Nat) (rest : List C) (hb : BTy ty rest.length) (hs : s ≠ []) (hl : l.length + s.length ≤ 140737488355328) :
    FnS Tryz.prog 43 [.c (.p id ab 0), .c (.sl pa s.length pc)] (bw id ab ty a c l rest) [slFact 5 1 pa s.length (s.map byteC)] (BwPost (.t2 (.c (.i .i64 s.length)) (.c (.raw .nilIface))) id ab ty (l ++ s) rest) :=
  (bwWrite0 ab ty a c l s pa pc rest hb hs hl).same rfl (bw_same _ _ _ _ _ _ _ _) fun v L1 D1 ⟨a', c', h1, h2, h3⟩ => ⟨_, h2 ▸ bw_same 0 id ab ty a' c' (l ++ s) rest, a', c', h1, rfl, h3⟩

theorem bwLen0 (ab ty : Nat) (a : Option Addr) (c : Nat) (l : List UInt8) (rest : List C) : FnS Tryz.prog 97 [.c (.p 0 ab 0)] (bw 0 ab ty a c l rest) [] (fun v L D => v = .c (.i .i64 l.length) ∧ L = bw 0 ab ty a c l rest ∧ D = []) := by
  by_cases h0 : l = []
  · subst h0
    rw [bw_nil]
    refine fn_of_J Tryz.tyOK 7000 Tryz.func97 (by kernel_rfl) (c := Tryz.f97.body.getD .skip) (by kernel_rfl) Tryz.ntmps97 (rs := Tryz.f97.results.toList) rfl (by simp) (fun G => ?_)
    repeat' first
      | refine J_seq ?_ | refine J_region Tryz.tyOK ?_ | refine J_block ?_ | refine J_cond ?_ | refine J_ret ?_ | refine J_skip ?_ | refine J_exit ?_ | refine J_scope ?_
      | refine CondP.yes (by omega) ?_ | refine CondP.no (by omega) ?_ | refine CondP.mk (fun h => ?_) (fun h => ?_) | refine EqP.mk rfl ?_ | refine NewP.mk (fun ad => ?_) | refine ArP.exact (by simp only [inR]; omega) ?_ | refine SideP.mk (by first | omega | (dsimp only; omega) | (simp; omega)) ?_
      | exact FinE.mk _ [] ⟨rfl, rfl, rfl⟩ (Ents.refl _ _)
      | fail
  · rw [bw_cons _ _ _ _ _ _ h0]
    refine fn_of_J Tryz.tyOK 7000 Tryz.func97 (by kernel_rfl) (c := Tryz.f97.body.getD .skip) (by kernel_rfl) Tryz.ntmps97 (rs := Tryz.f97.results.toList) rfl (by simp) (fun G => ?_)
    repeat' first
      | refine J_seq ?_ | refine J_region Tryz.tyOK ?_ | refine J_block ?_ | refine J_cond ?_ | refine J_ret ?_ | refine J_skip ?_ | refine J_exit ?_ | refine J_scope ?_
      | refine CondP.yes (by omega) ?_ | refine CondP.no (by omega) ?_ | refine CondP.mk (fun h => ?_) (fun h => ?_) | refine EqP.mk rfl ?_ | refine NewP.mk (fun ad => ?_) | refine ArP.exact (by simp only [inR]; omega) ?_ | refine SideP.mk (by first | omega | (dsimp only; omega) | (simp; omega)) ?_
      | exact FinE.mk _ [] ⟨rfl, rfl, rfl⟩ (Ents.refl _ _)
      | fail

/-- A row that is not empty lies somewhere. -/
theorem J_some {P : Program} {G : Ent} {N : Nat} {c0 : Code} {env : Env} {L : List Chunk} {D : List Fact} {nid : Nat} {K : Kt} {e z : Nat} {a : Option Addr} {n c : Nat} {cs : List C} (hm : .row e z a n c cs ∈ L) (hn : n ≠ 0) (k : ∀ g, a = some ⟨g, 0, none⟩ → n ≤ c → J P G N c0 env L D nid K) : J P G N c0 env L D nid K :=
  ⟨fun ac w he hs => by
    obtain ⟨m, h1, _⟩ := id hs
    have hr := (allOk_mem h1.ok hm).2
    rcases hr with ⟨_, h0, _⟩ | ⟨g, hg, cur, lo, hi, _, h2, _⟩
    · exact absurd h0 hn
    · exact (k g hg h2).run ac w he hs⟩

theorem bwText0 (ab ty : Nat) (a : Option Addr) (c : Nat) (l : List UInt8) (rest : List C) : FnS Tryz.prog 44 [.c (.p 0 ab 0)] (bw 0 ab ty a c l rest) [] (Is (.c (.s l))) := by
  by_cases h0 : l = []
  · subst h0
    rw [bw_nil]
    refine fn_of_J Tryz.tyOK 7000 Tryz.func44 (by kernel_rfl) (c := Tryz.f44.body.getD .skip) (by kernel_rfl) Tryz.ntmps44 (rs := Tryz.f44.results.toList) rfl (by simp) (fun G => ?_)
    repeat' first
      | refine J_seq ?_ | refine J_region Tryz.tyOK ?_ | refine J_block ?_ | refine J_cond ?_ | refine J_ret ?_ | refine J_skip ?_ | refine J_exit ?_ | refine J_scope ?_
      | refine CondP.yes (by omega) ?_ | refine CondP.no (by omega) ?_ | refine CondP.mk (fun h => ?_) (fun h => ?_) | refine EqP.mk rfl ?_ | refine NewP.mk (fun ad => ?_) | refine ArP.exact (by simp only [inR]; omega) ?_ | refine SideP.mk (by first | omega | (dsimp only; omega) | (simp; omega)) ?_
      | refine J_drawS (id := 1) Tryz.tyOK (by kernel_rfl) [0, 1, 3, 7, 15, 0, 32, 96, 224, 480, 1023, 2047] [0, 1, 2, 3, 5, 6, 7, 8, 9, 4, 10, 11] [4, 10] [0] false (by kernel_rfl) ?_ | refine EntP.mk (Ents.ofSub (by repeat (first | exact List.Sublist.slnil | refine List.Sublist.cons_cons _ ?_ | refine List.Sublist.cons _ ?_)) (by first | exact fun _ h => h | exact fun _ _ => trivial | exact fun _ h => h.2 | exact fun _ h => h.2.2.2.2 | exact fun _ h => h.2.2 | exact fun _ h => h.2.2.2 | exact fun _ h => h.2.2.2.2.2 | exact fun _ h => h.2.2.2.2.2.2 | exact fun _ h => h.2.2.2.2.2.2.2 | exact fun _ h => h.2.2.2.2.2.2.2.2 | exact fun _ h => h.2.2.2.2.2.2.2.2.2 | exact fun _ h => h.2.2.2.2.2.2.2.2.2.2 | exact fun _ h => ((allD_append _ _).1 h).2)) ?_ | refine SlDataE.nil rfl ?_ | refine StrDataE.nil rfl rfl ?_ | refine FinE.str ?_
      | fail
    rfl
  · rw [bw_cons _ _ _ _ _ _ h0]
    have hl0 : l.length ≠ 0 := fun h => h0 (List.eq_nil_of_length_eq_zero h)
    refine fn_of_J Tryz.tyOK 7000 Tryz.func44 (by kernel_rfl) (c := Tryz.f44.body.getD .skip) (by kernel_rfl) Tryz.ntmps44 (rs := Tryz.f44.results.toList) rfl (by simp) (fun G => ?_)
    refine J_some (List.Mem.tail _ (List.Mem.head _)) hl0 (fun g hg hlc => ?_)
    subst hg
    repeat' first
      | refine J_seq ?_ | refine J_region Tryz.tyOK ?_ | refine J_block ?_ | refine J_cond ?_ | refine J_ret ?_ | refine J_skip ?_ | refine J_exit ?_ | refine J_scope ?_
      | refine CondP.yes (by omega) ?_ | refine CondP.no (by omega) ?_ | refine CondP.mk (fun h => ?_) (fun h => ?_) | refine EqP.mk rfl ?_ | refine NewP.mk (fun ad => ?_) | refine ArP.exact (by simp only [inR]; omega) ?_ | refine SideP.mk (by first | omega | (dsimp only; omega) | (simp; omega)) ?_
      | refine J_drawS (id := 1) Tryz.tyOK (by kernel_rfl) [0, 1, 3, 7, 15, 0, 32, 96, 224, 480, 1023, 2047] [0, 1, 2, 3, 5, 6, 7, 8, 9, 4, 10, 11] [4, 10] [0] false (by kernel_rfl) ?_ | refine EntP.mk (Ents.ofSub (by repeat (first | exact List.Sublist.slnil | refine List.Sublist.cons_cons _ ?_ | refine List.Sublist.cons _ ?_)) (by first | exact fun _ h => h | exact fun _ _ => trivial | exact fun _ h => h.2 | exact fun _ h => h.2.2.2.2 | exact fun _ h => h.2.2 | exact fun _ h => h.2.2.2 | exact fun _ h => h.2.2.2.2.2 | exact fun _ h => h.2.2.2.2.2.2 | exact fun _ h => h.2.2.2.2.2.2.2 | exact fun _ h => h.2.2.2.2.2.2.2.2 | exact fun _ h => h.2.2.2.2.2.2.2.2.2 | exact fun _ h => h.2.2.2.2.2.2.2.2.2.2 | exact fun _ h => ((allD_append _ _).1 h).2)) ?_ | refine SlDataE.row g 0 rfl (by omega) ?_ | refine StrDataE.row [_] 5 g l.length c l (List.Perm.swap _ _ _) rfl rfl h0 rfl (by kernel_rfl) ?_ | refine FinE.str ?_
      | fail
    rfl

theorem bwLen_ok (id ab ty : Nat) (a : Option Addr) (c : Nat) (l : List UInt8) (rest : List C) : FnS Tryz.prog 97 [.c (.p id ab 0)] (bw id ab ty a c l rest) [] (fun v L D => v = .c (.i .i64 l.length) ∧ L = bw id ab ty a c l rest ∧ D = []) :=
  (bwLen0 ab ty a c l rest).same rfl (bw_same _ _ _ _ _ _ _ _) fun v L1 D1 ⟨h1, h2, h3⟩ => ⟨_, h2 ▸ bw_same 0 id ab ty a c l rest, h1, rfl, h3⟩
theorem bwText_ok (id ab ty : Nat) (a : Option Addr) (c : Nat) (l : List UInt8) (rest : List C) : FnS Tryz.prog 44 [.c (.p id ab 0)] (bw id ab ty a c l rest) [] (Is (.c (.s l))) :=
  (bwText0 ab ty a c l rest).same rfl (bw_same _ _ _ _ _ _ _ _) fun v L1 D1 h => ⟨L1, ⟨rfl, fun _ => Iff.rfl⟩, h⟩

end Go.Proofs

namespace Go.X
open Go
variable [Sm : Inhabited Manner]

/-- A function's contract where it is entered as a call that was put off. -/
structure FnD (P : Program) (f : FuncId) (args : List V) (L : List Chunk) (D : List Fact) (post : V → List Chunk → List Fact → Prop) : Prop where
  en : Enters P f
  run : ∀ w m u, Holds w m L D → CallsD P f (args.map V.enc).toArray u w fun e u' w' => u' = u ∧ ∃ v L' D' m', e = .returned v.enc ∧ post v L' D' ∧ Holds w' m' L' D' ∧ Fr w L m w' L' m'

theorem fnD_of_J {P : Program} {T : Ty} (hT : TyOK P T) {f : FuncId} {fn : Func} {c : Code} {args : List V} {L : List Chunk} {D : List Fact} {post : V → List Chunk → List Fact → Prop} {N : Nat} {rs : List ResultVar} (nid : Nat)
    (hf : P.funcs[f]? = some fn) (hnm : (fn.name == "runtime.NumGoroutine") = false) (hb : fn.body = some c) (hN : fn.ntmps = N) (hr : fn.results.toList = rs) (hlen : args.length ≤ N)
    (h : ∀ G, J P G N c (argEnv 0 args) L D nid (Kt.fin T rs post)) : FnD P f args L D post := by
  refine ⟨⟨fn, hf, hnm, by simp [hb]⟩, fun w m u hh => ?_⟩
  refine callsD_of_wp hf hb ?_
  have he : EnvOK N (argEnv 0 args) { tmps := (args.map V.enc).toArray ++ Array.replicate (fn.ntmps - (args.map V.enc).toArray.size) undef, defers := [] } := by
    refine ⟨rfl, by simp; omega, fun d v hl => ?_⟩
    obtain ⟨_, h2⟩ := look_argEnv _ _ _ _ hl
    simp only [Nat.sub_zero] at h2
    have hlt : d < args.length := (List.getElem?_eq_some_iff.1 h2).1
    rw [Array.getElem?_append_left (by simpa using hlt)]
    simp [h2]
  have hs : SatW ⟨w, L, m⟩ w L D := ⟨m, hh, Fr.refl _ _ _⟩
  refine wp_mono ((h ⟨w, L, m⟩).run _ _ he hs) ?_
  rintro e a' w' ⟨env', L', D', n', hk, he', hs'⟩
  subst hr
  have fin : (resK T env' L' D' fn.results.toList fun l => tupK l (FinE post L' D')) → a'.defers = [] ∧ ∃ v, (results fn a'.tmps).run P w' = .ok v w' ∧
      ∃ v' L' D' m', Ending.returned v = .returned v'.enc ∧ post v' L' D' ∧ Holds w' m' L' D' ∧ Fr w L m w' L' m' := fun hk => by
    obtain ⟨v, ⟨L2, D2, hp, hE⟩, hv⟩ := results_run (fn := fn) hT he' hs' hk
    obtain ⟨m2, h1, h2⟩ := hE ⟨w, L, m⟩ w' hs'
    exact ⟨he'.1, v.enc, hv, v, L2, D2, m2, rfl, hp, h1, h2⟩
  cases e with
  | normal => exact fin hk
  | ret => exact fin hk
  | exit id => exact hk.elim
  | goto l => exact hk.elim
  | panic ch => exact hk.elim
  | outgrown => exact hk.elim

/-- A call that was put off. -/
def encD (x : FuncId × List V) : Deferred := ⟨.fn (.func x.1) #[], (x.2.map V.enc).toArray⟩

@[reducible] def dfI (dl : List (FuncId × List V)) : Inhabited (List Deferred) := ⟨dl.map encD⟩

/-- The calls that were put off run, the last laid first. -/
inductive LvP (P : Program) (K : List Chunk → List Fact → Prop) : List (FuncId × List V) → List Chunk → List Fact → Prop where
  | nil (L : List Chunk) (D : List Fact) (k : K L D) : LvP P K [] L D
  | cons {f : FuncId} {args : List V} {ds : List (FuncId × List V)} {L : List Chunk} {D : List Fact} (L0 R : List Chunk) (D0 : List Fact) (post : V → List Chunk → List Fact → Prop) (h : FnD P f args L0 D0 post)
      (hp : L.Perm (L0 ++ R)) (hd : ∀ m, allD m D → allD m D0) (k : ∀ v L' D', post v L' D' → LvP P K ds (L' ++ R) (D' ++ D)) : LvP P K ((f, args) :: ds) L D

def EndR (G : Ent) (K : List Chunk → List Fact → Prop) : Ending → World → Prop := fun e w' => e = .returned (.tuple #[]) ∧ ∃ L' D', K L' D' ∧ SatW G w' L' D'

theorem lvP_sound {P : Program} {G : Ent} {fn : Func} {tmps : Array Value} {K : List Chunk → List Fact → Prop} (hres : ∀ w, (results fn tmps).run P w = .ok (.tuple #[]) w) : ∀ (ds : List (FuncId × List V)) (L : List Chunk) (D : List Fact) (w : World),
    LvP P K ds L D → SatW G w L D → Leaves P fn tmps (EndR G K) (ds.map encD) .returning w := by
  intro ds
  induction ds with
  | nil =>
    intro L D w h hs
    cases h with
    | nil _ _ k => exact ⟨_, hres w, rfl, L, D, k, hs⟩
  | cons d ds ih =>
    intro L D w h hs
    cases h with
    | cons L0 R D0 post hf hp hd k =>
      obtain ⟨m, h1, h2⟩ := satW_perm hp hs
      have h0 : Holds w m L0 D0 := by
        refine ⟨?_, ((allOk_append _ _).1 h1.ok).1, fun b o hb => ?_, hd m h1.d⟩
        · have := h1.nd
          rw [fps_append] at this
          exact (List.nodup_append.1 this).1
        · have h3 := h1.im b o hb
          exact ⟨h3.1, fun hc => h3.2 (by rw [fps_append]; simp [hc])⟩
      simp only [List.map_cons]
      refine leaves_cons (by simp) (f := _) (args := _) (by simp only [invoke, Array.append_empty]; exact run_callFunc hf.en _) ?_
      refine (hf.run w m .returning h0).mono ?_
      rintro e u' w' ⟨rfl, v, L', D', m', rfl, hpost, hh, hfr⟩
      obtain ⟨h3, h4⟩ := h1.frame hh hfr
      exact ih _ _ w' (k v L' D' hpost) ⟨m', h3, h2.trans h4⟩

/-- The judgement for code that puts calls off. -/
structure JD (dl : List (FuncId × List V)) (P : Program) (G : Ent) (N : Nat) (fn : Func) (c : Code) (env : Env) (L : List Chunk) (D : List Fact) (nid : Nat) (K : List Chunk → List Fact → Prop) : Prop where
  run : ∀ a w, @EnvOK (dfI dl) N env a → SatW G w L D → c.wp P (bodyPostD P fn (EndR G K)) a w

section
variable {dl : List (FuncId × List V)} {P : Program} {G : Ent} {N : Nat} {fn : Func} {env : Env} {L : List Chunk} {D : List Fact} {nid : Nat} {K : List Chunk → List Fact → Prop}

theorem JD_seq {x y : Code} (h : @J Sm (dfI dl) P G N x env L D nid (fun e env' L' D' n' => match e with | .normal => JD dl P G N fn y env' L' D' n' K | _ => False)) : JD dl P G N fn (.seq x y) env L D nid K :=
  ⟨fun a w he hs => wp_seq (wp_mono (@J.run Sm (dfI dl) _ _ _ _ _ _ _ _ _ h a w he hs) fun e a' w' hq => by
    obtain ⟨env', L', D', n', hk, he', hs'⟩ := hq
    cases e with
    | normal => exact hk.run a' w' he' hs'
    | exit id => exact hk.elim
    | goto l => exact hk.elim
    | ret => exact hk.elim
    | panic ch => exact hk.elim
    | outgrown => exact hk.elim)⟩

theorem JD_cond {c : Operand} {x y : Code} (h : withE env c fun v => match v with | .c (.b true) => JD dl P G N fn x env L D nid K | .c (.b false) => JD dl P G N fn y env L D nid K | _ => False) : JD dl P G N fn (.cond c x y) env L D nid K :=
  ⟨fun a w he hs => by
    obtain ⟨v, hv, h⟩ := withE_elim h
    split at h
    · exact wp_cond_true (by rw [EnvOK.ev (Df := dfI dl) he hv]; rfl) (h.run a w he hs)
    · exact wp_cond_false (by rw [EnvOK.ev (Df := dfI dl) he hv]; rfl) (h.run a w he hs)
    · exact h.elim⟩

theorem JD_end {c : Code} (hres : ∀ tmps w, (results fn tmps).run P w = .ok (.tuple #[]) w) (h : @J Sm (dfI dl) P G N c env L D nid (fun e env' L' D' n' => match e with | .normal => LvP P K dl L' D' | .ret => LvP P K dl L' D' | _ => False)) : JD dl P G N fn c env L D nid K :=
  ⟨fun a w he hs => wp_mono (@J.run Sm (dfI dl) _ _ _ _ _ _ _ _ _ h a w he hs) fun e a' w' hq => by
    obtain ⟨env', L', D', n', hk, he', hs'⟩ := hq
    have hd : a'.defers = dl.map encD := he'.1
    have key : LvP P K dl L' D' → Leaves P fn a'.tmps (EndR G K) a'.defers .returning w' := fun hk => by rw [hd]; exact lvP_sound (hres _) _ _ _ _ hk hs'
    cases e with
    | normal => exact key hk
    | ret => exact key hk
    | exit id => exact hk.elim
    | goto l => exact hk.elim
    | panic ch => exact hk.elim
    | outgrown => exact hk.elim⟩

theorem vcOps_app [Df : Inhabited (List Deferred)] {T : Ty} (hT : TyOK P T) (ops : List Oper) (tail : List Oper) : ∀ (l : List Oper) (env : Env) (L : List Chunk) (D : List Fact) (nid : Nat) (k : Kont), vcOps P T N ops l env L D nid k →
    ∀ (Q : Exit → Act → World → Prop), (∀ env' L' D' n' a' w', k env' L' D' n' → EnvOK N env' a' → SatW G w' L' D' → wpList P ops.toArray Q tail a' w') →
    ∀ a w, EnvOK N env a → SatW G w L D → wpList P ops.toArray Q (l ++ tail) a w
  | [], env, L, D, nid, k, h, Q, hQ, a, w, he, hs => hQ _ _ _ _ _ _ h he hs
  | o :: rest, env, L, D, nid, k, h, Q, hQ, a, w, he, hs => by
    refine wpList_step fun Kn hKn => ?_
    simp only [vcOps] at h
    rcases wantK_sound he h with ⟨hw, h⟩ | ⟨hw, h⟩
    · rw [if_pos hw]
      refine (vcOp_sound hT h he hs).wp ?_
      rintro u w' ⟨v, L', D', n', rfl, hk, hs'⟩
      refine hKn _ _ ?_
      obtain ⟨env', hk', he'⟩ := putK_sound hk he
      exact vcOps_app hT ops tail rest env' L' D' n' k hk' Q hQ _ _ he' hs'
    · rw [if_neg (by simp [hw])]
      refine hKn _ _ ?_
      obtain ⟨env', hk', he'⟩ := putK_sound h he
      exact vcOps_app hT ops tail rest env' L D nid k hk' Q hQ _ _ he' hs

def lastK : List Oper → (List Oper → Oper → Prop) → Prop
  | [], _ => False
  | [o], k => k [] o
  | o :: o' :: r, k => lastK (o' :: r) fun p l => k (o :: p) l
theorem lastK_sound : ∀ {ops : List Oper} {k : List Oper → Oper → Prop}, lastK ops k → ∃ pre o, ops = pre ++ [o] ∧ k pre o
  | [], _, h => h.elim
  | [o], k, h => ⟨[], o, rfl, h⟩
  | o :: o' :: r, k, h => by
    obtain ⟨p, l, h1, h2⟩ := lastK_sound (ops := o' :: r) h
    exact ⟨o :: p, l, by rw [h1]; rfl, h2⟩

/-- What is put off. -/
def deferK (o : Oper) (k : FuncId → List Operand → Prop) : Prop :=
  match o.op, o.guard, o.dst with
  | .defer c, none, none => match c.callee with
    | .value (.func f) => k f c.args.toList
    | _ => False
  | _, _, _ => False

theorem JD_defer {T : Ty} (hT : TyOK P T) {id : Nat} {ops : List Oper} {y : Code}
    (h : lastK ops fun pre o => deferK o fun f xs => @vcOps Sm P T N ops pre env L D nid (fun env' L' D' n' => argsK env' xs fun vs => JD ((f, vs) :: dl) P G N fn y env' L' D' n' K)) : JD dl P G N fn (.seq (.region id ops.toArray false) y) env L D nid K :=
  ⟨fun a w he hs => wp_seq (wp_region_lit (by
    obtain ⟨pre, o, hops, h⟩ := lastK_sound h
    subst hops
    unfold deferK at h
    split at h
    · rename_i c ho hg hdst
      split at h
      · rename_i f hc
        refine @vcOps_app Sm P G N (dfI dl) T hT (pre ++ [o]) [o] pre env L D nid _ h _ (fun env' L' D' n' a' w' hk he' hs' => ?_) a w he hs
        obtain ⟨vs, hk, hvs⟩ := argsK_sound (Df := dfI dl) he' hk
        refine wpList_step fun Kn hKn => ?_
        rw [if_pos (by simp [Region.wanted, hg])]
        have hargs : c.args.map a'.eval = (vs.map V.enc).toArray := by rw [← hvs, ← Array.toList_map, Array.toArray_toList]
        have hrun : (execOp a'.eval o).run P w' = .ok (.defer (encD (f, vs))) w' := by
          simp only [execOp, ho, resolve, hc, Act.eval, Deferred.ofValue, Sem.run_bind, Sem.run_pure, Result.andThen_ok, hargs, encD, Array.empty_append]
        unfold Oper.wp
        rw [hrun, Oper.upon_defer, hdst]
        refine hKn _ _ ?_
        refine wpList_nil ?_
        refine hk.run _ w' ⟨?_, he'.2⟩ hs'
        show encD (f, vs) :: a'.defers = _
        rw [he'.1]
        rfl
      · exact h.elim
    · exact h.elim))⟩

/-- A CONTRACT OUT OF THE BODY of a function without results that puts calls off. -/
theorem fn_of_JD {f : FuncId} {c : Code} {args : List V} {post : V → List Chunk → List Fact → Prop} (nid : Nat)
    (hf : P.funcs[f]? = some fn) (hnm : (fn.name == "runtime.NumGoroutine") = false) (hb : fn.body = some c) (hN : fn.ntmps = N) (hlen : args.length ≤ N)
    (h : ∀ G, JD [] P G N fn c (argEnv 0 args) L D nid (fun L' D' => ∃ L2 D2, Ents L' D' L2 D2 ∧ post .t0 L2 D2)) : FnS P f args L D post := by
  refine ⟨⟨fn, hf, hnm, by simp [hb]⟩, fun w m hh => ?_⟩
  refine calls_of_wp_defers hf hb ?_
  have he : @EnvOK (dfI []) N (argEnv 0 args) { tmps := (args.map V.enc).toArray ++ Array.replicate (fn.ntmps - (args.map V.enc).toArray.size) undef, defers := [] } := by
    refine ⟨rfl, by simp; omega, fun d v hl => ?_⟩
    obtain ⟨_, h2⟩ := look_argEnv _ _ _ _ hl
    simp only [Nat.sub_zero] at h2
    have hlt : d < args.length := (List.getElem?_eq_some_iff.1 h2).1
    rw [Array.getElem?_append_left (by simpa using hlt)]
    simp [h2]
  have hs : SatW ⟨w, L, m⟩ w L D := ⟨m, hh, Fr.refl _ _ _⟩
  refine wp_mono ((h ⟨w, L, m⟩).run _ _ he hs) ?_
  have mono : ∀ (ds : List Deferred) (u : FrameMode) (tmps : Array Value) (w0 : World), Leaves P fn tmps (EndR ⟨w, L, m⟩ (fun L' D' => ∃ L2 D2, Ents L' D' L2 D2 ∧ post .t0 L2 D2)) ds u w0 →
      Leaves P fn tmps (fun e w' => ∃ v L' D' m', e = .returned v.enc ∧ post v L' D' ∧ Holds w' m' L' D' ∧ Fr w L m w' L' m') ds u w0 := by
    intro ds
    induction ds with
    | nil =>
      intro u tmps w0 hl
      cases u with
      | run => exact hl
      | returning =>
        obtain ⟨v, hr, he, L1, D1, ⟨L2, D2, hE, hp⟩, hs1⟩ := hl
        obtain ⟨m2, h1, h2⟩ := hE _ _ hs1
        exact ⟨v, hr, .t0, L2, D2, m2, he, hp, h1, h2⟩
      | panicking chain => exact absurd hl.1 (by simp)
    | cons d ds ih =>
      intro u tmps w0 hl
      obtain ⟨hu, fv, cap, f, args, h1, h2, h3⟩ := hl
      refine ⟨hu, fv, cap, f, args, h1, h2, h3.mono ?_⟩
      rintro e u' w' hq
      cases e with
      | returned v => exact ih _ _ _ hq
      | panicked ch => exact ih _ _ _ hq
      | outgrown => exact absurd hq.1 (by simp)
  rintro e a' w' hq
  cases e with
  | normal => exact mono _ _ _ _ hq
  | ret => exact mono _ _ _ _ hq
  | panic ch => exact mono _ _ _ _ hq
  | exit id => exact hq
  | goto l => exact hq
  | outgrown => exact absurd hq.1 (by simp)
end

theorem satW_box {G : Ent} {w : World} {L : List Chunk} {D : List Fact} {id ad ty : Nat} {cs : List C} (hs : SatW G w L D) (hm : .box id ad ty cs ∈ L) : w.heap[ad]? = some (.cells (cs.map C.enc).toArray ty (0, 0)) := by
  obtain ⟨m, h1, _⟩ := hs
  exact (allOk_mem h1.ok hm).2

/-- One cell of a box is set. -/
theorem satW_setBox {G : Ent} {w : World} {B : List Chunk} {D : List Fact} {id ad ty : Nat} {cs : List C} (o : Nat) (x : C) (hx : x.one = true) (hs : SatW G w (.box id ad ty cs :: B) D) :
    SatW G (w.setCell ⟨ad, o, none⟩ x.enc) (.box id ad ty (cs.set o x) :: B) D := by
  have hb := satW_box hs (List.Mem.head _)
  have hone : oneAll cs := by
    obtain ⟨m, h1, _⟩ := hs
    exact h1.ok.1.1
  rw [setCell_blk hb]
  refine satW_replace (A := []) hs rfl rfl ⟨fun y hy => ?_, ?_⟩ (fun off => by rw [hb]; rfl)
  · rcases List.mem_or_eq_of_mem_set hy with h | h
    · exact hone y h
    · rw [h]; exact hx
  · rw [setBlk_same hb]
    simp [List.map_set]

/-- A box becomes memory that does not change any more. -/
theorem Ents.boxFact {id ad ty : Nat} {cs : List C} {L : List Chunk} {D : List Fact} (e z n : Nat) (hl : cs.length = n * z) : Ents (.box id ad ty cs :: L) D L (slFact e z (some ⟨ad, 0, none⟩) n cs :: D) := fun G w hs => by
  obtain ⟨m, h1, h2⟩ := hs
  have hbox := h1.ok.1
  have hg := hbox.2
  have hnd := h1.nd
  simp only [fps, Chunk.fp, List.cons_append, List.nil_append, List.nodup_cons] at hnd
  have hgm : ∀ o, m ad ≠ some o := fun o ho => (h1.im ad o ho).2 (by simp [fps, Chunk.fp])
  refine ⟨fun b => if b = ad then some (.cells (cs.map C.enc).toArray ty (0, 0)) else m b, ⟨hnd.2, h1.ok.2, ?_, ?_⟩, ?_⟩
  · intro b o hb
    by_cases hbg : b = ad
    · subst hbg
      simp only [if_true, Option.some.injEq] at hb
      exact ⟨by rw [hg, hb], hnd.1⟩
    · simp only [if_neg hbg] at hb
      have h3 := h1.im b o hb
      exact ⟨h3.1, fun hc => h3.2 (by simp [fps, hc])⟩
  · refine ⟨⟨hbox.1, .inr ⟨ad, 0, (cs.map C.enc).toArray, ty, 0, 0, rfl, by simp, hl, ?_⟩⟩, allD_mono (fun b o hb => ?_) h1.d⟩
    · rw [← hl]
      simp only [List.drop_zero]
      exact List.take_of_length_le (by simp)
    · by_cases hbg : b = ad
      · subst hbg; exact absurd hb (hgm o)
      · simpa [hbg] using hb
  · refine ⟨h2.size, h2.same, fun b hb => h2.own b (by simp [fps, hb]), fun b o hb => ?_, fun b o hb => ?_, h2.kept⟩
    · have h3 := h2.im b o hb
      by_cases hbg : b = ad
      · subst hbg; exact absurd h3 (hgm o)
      · simpa [hbg] using h3
    · by_cases hbg : b = ad
      · subst hbg
        rcases h2.own b (by simp [fps, Chunk.fp]) with h3 | h3
        · exact .inr (.inl h3)
        · exact .inr (.inr h3)
      · simp only [if_neg hbg] at hb
        exact h2.new b o hb

/-- The same cells, cut into elements of another size. -/
theorem slF_re {m : Im} {e z e' z' n n' : Nat} {a : Option Addr} {cs : List C} (h : SlF m e z a n cs) (hn : n ≠ 0) (hz : n * z = n' * z') : SlF m e' z' a n' cs := by
  refine ⟨h.1, ?_⟩
  rcases h.2 with ⟨h0, _⟩ | ⟨g, off, cur, ty, lo, hi, h1, h2, h3, h4⟩
  · exact absurd h0 hn
  · exact .inr ⟨g, off, cur, ty, lo, hi, h1, h2, by rw [h3, hz], by rw [← hz]; exact h4⟩

end Go.X

namespace Go.X
open Go
variable [Sm : Inhabited Manner] [Df : Inhabited (List Deferred)]
variable {P : Program} {G : Ent} {ops : Array Oper} {eff : Nat → Bool} {z : Nat} {L0 : List Chunk} {D0 : List Fact} {Te : Act → List Chunk → List Fact → Prop} {dep : Nat → Nat → Bool}

/-- A tree of orders. -/
inductive Plan where
  | leaf (r : List Nat)
  | node (pre : List Nat) (e1 : Nat) (p1 : Plan) (e2 : Nat) (p2 : Plan)
  | node3 (pre : List Nat) (e1 : Nat) (p1 : Plan) (e2 : Nat) (p2 : Plan) (e3 : Nat) (p3 : Plan)

/-- The operations of a tree, along its first branches. -/
def Plan.flat : Plan → List Nat
  | .leaf r => r
  | .node pre e1 p1 _ _ => pre ++ e1 :: p1.flat
  | .node3 pre e1 p1 _ _ _ _ => pre ++ e1 :: p1.flat

def lexP (P : Program) (G : Ent) (ops : Array Oper) (eff : Nat → Bool) (z : Nat) (L0 : List Chunk) (D0 : List Fact) (Te : Act → List Chunk → List Fact → Prop) : Plan → Act → List Chunk → List Fact → Prop
  | .leaf r => lexM P G ops eff z L0 D0 Te r
  | .node pre e1 p1 e2 p2 => lexM P G ops eff z L0 D0 (fun a L D => lexM P G ops eff z L0 D0 (lexP P G ops eff z L0 D0 Te p1) [e1] a L D ∧ lexM P G ops eff z L0 D0 (lexP P G ops eff z L0 D0 Te p2) [e2] a L D) pre
  | .node3 pre e1 p1 e2 p2 e3 p3 => lexM P G ops eff z L0 D0 (fun a L D => lexM P G ops eff z L0 D0 (lexP P G ops eff z L0 D0 Te p1) [e1] a L D ∧ lexM P G ops eff z L0 D0 (lexP P G ops eff z L0 D0 Te p2) [e2] a L D ∧ lexM P G ops eff z L0 D0 (lexP P G ops eff z L0 D0 Te p3) [e3] a L D) pre

/-- The check of a tree behind the operations 'acc'. -/
def okP (dep : Nat → Nat → Bool) (ops : Array Oper) (eff : Nat → Bool) (z : Nat) : List Nat → Plan → Prop
  | acc, .leaf r => (acc ++ r).Pairwise fun j i => pairB dep ops eff j i = true
  | acc, .node pre e1 p1 e2 p2 =>
    ((acc ++ pre) ++ [e1]).Pairwise (fun j i => pairB dep ops eff j i = true) ∧ ((acc ++ pre) ++ [e2]).Pairwise (fun j i => pairB dep ops eff j i = true) ∧
    (∀ j ∈ acc ++ pre, ∀ k ∈ e1 :: p1.flat, j ≠ k ∧ directB ops j k = false) ∧ (∀ k ∈ p1.flat, e1 ≠ k ∧ directB ops e1 k = false) ∧ (∀ k ∈ p2.flat, e2 ≠ k) ∧ e1 ≠ e2 ∧
    (∀ i ∈ p1.flat, i ≠ e2 → dep i e1 = true ∨ dep i e2 = true) ∧ (∀ i, i ∈ e1 :: p1.flat ↔ i ∈ e2 :: p2.flat) ∧ e1 ≠ z ∧ e2 ≠ z ∧ z ∉ acc ++ pre ∧ p1.flat.length = p2.flat.length ∧ ((acc ++ pre) ++ e2 :: p2.flat).Nodup ∧
    okP dep ops eff z (acc ++ pre) p1 ∧ okP dep ops eff z (acc ++ pre) p2
  | acc, .node3 pre e1 p1 e2 p2 e3 p3 =>
    ((acc ++ pre) ++ [e1]).Pairwise (fun j i => pairB dep ops eff j i = true) ∧ ((acc ++ pre) ++ [e2]).Pairwise (fun j i => pairB dep ops eff j i = true) ∧ ((acc ++ pre) ++ [e3]).Pairwise (fun j i => pairB dep ops eff j i = true) ∧
    (∀ j ∈ acc ++ pre, ∀ k ∈ e1 :: p1.flat, j ≠ k ∧ directB ops j k = false) ∧ (∀ k ∈ p1.flat, e1 ≠ k ∧ directB ops e1 k = false) ∧
    (∀ i ∈ p1.flat, i ≠ e2 → i ≠ e3 → dep i e1 = true ∨ dep i e2 = true ∨ dep i e3 = true) ∧ (∀ i, i ∈ e1 :: p1.flat ↔ i ∈ e2 :: p2.flat) ∧ (∀ i, i ∈ e1 :: p1.flat ↔ i ∈ e3 :: p3.flat) ∧ e1 ≠ z ∧ e2 ≠ z ∧ e3 ≠ z ∧ z ∉ acc ++ pre ∧ p1.flat.length = p2.flat.length ∧ p1.flat.length = p3.flat.length ∧ ((acc ++ pre) ++ e2 :: p2.flat).Nodup ∧ ((acc ++ pre) ++ e3 :: p3.flat).Nodup ∧
    okP dep ops eff z (acc ++ pre) p1 ∧ okP dep ops eff z (acc ++ pre) p2 ∧ okP dep ops eff z (acc ++ pre) p3

theorem pairB_ne {j i : Nat} (h : pairB dep ops eff j i = true) : j ≠ i := by
  simp only [pairB, Bool.and_eq_true, bne_iff_ne] at h; exact h.1.1

theorem any_of_lexP (hdep : DepOK ops dep) (hs : Region.noSelect ops = true) (hed : ∀ i o, ops[i]? = some o → ∀ e ∈ o.after, Region.binds .any e = true → e.on ≠ i ∧ e.on < ops.size) {Q' : Exit → Act → World → Prop} (hQ : ∀ a L D w, Te a L D → SatW G w L D → Q' .normal a w) :
    ∀ (p : Plan) (acc : List Nat), okP dep ops eff z acc p → ∀ (n : Nat) (acc' : List Nat) (listed : Array Bool) (a : Act) (L : List Chunk) (D : List Fact) (w : World), acc'.Sublist acc → (acc' ++ p.flat).length = n → (acc' ++ p.flat).Nodup → listed.size = ops.size → (∀ j ∈ acc' ++ p.flat, j < ops.size) → (∀ i, listed.getD i true = false ↔ i ∈ acc' ++ p.flat) → closedL ops listed →
      (z < ops.size → ∀ j ∈ acc' ++ p.flat, j ≠ z → dep z j = true) → lexM P G ops eff z L0 D0 (lexP P G ops eff z L0 D0 Te p) acc' a L D → (Ents L D L0 D0 ∨ acc' ++ p.flat = []) → SatW G w L D → wpAny P .any ops Q' n listed a w := by
  intro p
  induction p with
  | leaf r =>
    intro acc hok n acc' listed a L D w hsub hlen hnd hsz hlt hr hc hz h hE hw
    exact any_of_lexM hdep hs hed n (acc' ++ r) listed a L D w Q' hQ hlen hsz hr hc (hok.sublist (hsub.append (List.Sublist.refl _))) hz (lexM_append (fun _ _ _ h => h) acc' a L D h) hE hw
  | node pre e1 p1 e2 p2 ih1 ih2 =>
    intro acc hok n acc' listed a L D w hsub hlen hnd hsz hlt hr hc hz h hE hw
    obtain ⟨k1, k2, k3, k4, k5, k12, k6, k7, k8, k9, k10, k11, k13, o1, o2⟩ := hok
    -- all that stands ahead of the two
    have key : ∀ (m : Nat) (q : List Nat) (n : Nat) (listed : Array Bool) (a : Act) (L : List Chunk) (D : List Fact) (w : World), q.length = m → q.Sublist (acc ++ pre) → (q ++ e1 :: p1.flat).length = n → (q ++ e1 :: p1.flat).Nodup → listed.size = ops.size → (∀ j ∈ q ++ e1 :: p1.flat, j < ops.size) → (∀ i, listed.getD i true = false ↔ i ∈ q ++ e1 :: p1.flat) → closedL ops listed →
        (z < ops.size → ∀ j ∈ q ++ e1 :: p1.flat, j ≠ z → dep z j = true) → lexM P G ops eff z L0 D0 (fun a L D => lexM P G ops eff z L0 D0 (lexP P G ops eff z L0 D0 Te p1) [e1] a L D ∧ lexM P G ops eff z L0 D0 (lexP P G ops eff z L0 D0 Te p2) [e2] a L D) q a L D → Ents L D L0 D0 → SatW G w L D → wpAny P .any ops Q' n listed a w := by
      intro m
      induction m with
      | zero => ?_
      | succ m ihm => ?_
      all_goals
        intro q n listed a L D w hqm hqs hln hdu hsz hlt hr hc hz h hE hw
        have hperm : ∀ i, i ∈ q ++ e1 :: p1.flat ↔ i ∈ q ++ e2 :: p2.flat := fun i => by
          rw [List.mem_append, List.mem_append, k7 i]
        obtain ⟨n, rfl⟩ : ∃ n', n = n' + 1 := ⟨q.length + p1.flat.length, by rw [← hln]; simp; omega⟩
        have hq3 : ∀ j ∈ q, ∀ k ∈ e1 :: p1.flat, j ≠ k ∧ directB ops j k = false := fun j hj => k3 j (hqs.subset hj)
        have hp1 := k1.sublist (hqs.append (List.Sublist.refl [e1]))
        have hp2 := k2.sublist (hqs.append (List.Sublist.refl [e2]))
        have hpq := (List.pairwise_append.1 hp1).1
        have hzq : z ∉ q := fun hx => k10 (hqs.subset hx)
        have hnq : ∀ e, (e = e1 ∨ e = e2) → e ∉ q := fun e he hx => by
          rcases he with rfl | rfl
          · exact (hq3 e hx e (by simp)).1 rfl
          · exact (hq3 e hx e ((k7 e).2 (by simp))).1 rfl
        -- one of the two is taken
        have take : ∀ (e : Nat) (pp : Plan), (e = e1 ∨ e = e2) → e ≠ z → (q ++ [e]).Pairwise (fun j i => pairB dep ops eff j i = true) → (∀ i, i ∈ q ++ e1 :: p1.flat ↔ i ∈ q ++ e :: pp.flat) → (q ++ e :: pp.flat).length = n + 1 → (q ++ e :: pp.flat).Nodup →
            (∀ (n : Nat) (acc' : List Nat) (listed : Array Bool) (a : Act) (L : List Chunk) (D : List Fact) (w : World), acc'.Sublist (acc ++ pre) → (acc' ++ pp.flat).length = n → (acc' ++ pp.flat).Nodup → listed.size = ops.size → (∀ j ∈ acc' ++ pp.flat, j < ops.size) → (∀ i, listed.getD i true = false ↔ i ∈ acc' ++ pp.flat) → closedL ops listed →
              (z < ops.size → ∀ j ∈ acc' ++ pp.flat, j ≠ z → dep z j = true) → lexM P G ops eff z L0 D0 (lexP P G ops eff z L0 D0 Te pp) acc' a L D → (Ents L D L0 D0 ∨ acc' ++ pp.flat = []) → SatW G w L D → wpAny P .any ops Q' n listed a w) →
            lexM P G ops eff z L0 D0 (lexP P G ops eff z L0 D0 Te pp) (q ++ [e]) a L D → e ∈ Region.ready .any ops listed → wpOp P ops Q' e (wpAny P .any ops Q' n (listed.setIfInBounds e true)) a w := by
          intro e pp he hez hpe hpm hle hndp ihp hlex hi
          obtain ⟨hun, o, ho, hall⟩ := mem_ready.1 hi
          have hcl : clearM ops eff e o (q ++ [e]) := clear_of_pairsX hdep hc ho hall (by simp) (fun j hj => (hr j).2 ((hpm j).2 (by
            rcases List.mem_append.1 hj with hj | hj
            · simp [hj]
            · rw [List.mem_singleton.1 hj]; simp))) (hpe.imp fun {j k} (h : pairB dep ops eff j k = true) (_ : k = e) => h)
          have hst := bubble hs ho (q ++ [e]) a L D w hcl hlex hE hw
          have her : (q ++ [e]).erase e = q := by
            rw [List.erase_append_right _ (hnq e he)]; simp
          have hlte : e < listed.size := by
            rcases Nat.lt_or_ge e listed.size with h | h
            · exact h
            · simp [Array.getElem?_eq_none h] at hun
          have her2 : (q ++ e :: pp.flat).erase e = q ++ pp.flat := by
            rw [List.erase_append_right _ (hnq e he), List.erase_cons_head]
          have next : ∀ u w', (∃ L' D', SatW G w' L' D' ∧ (Ents L' D' L0 D0 ∨ e = z) ∧ lexM P G ops eff z L0 D0 (lexP P G ops eff z L0 D0 Te pp) ((q ++ [e]).erase e) (a.put o.dst u) L' D') → wpAny P .any ops Q' n (listed.setIfInBounds e true) (a.put o.dst u) w' := by
            rintro u w' ⟨L', D', hw', hE', hl⟩
            rw [her] at hl
            have hin : ∀ j ∈ q ++ pp.flat, j ∈ q ++ e1 :: p1.flat := fun j hj => (hpm j).2 (by
              rcases List.mem_append.1 hj with hj | hj
              · exact List.mem_append_left _ hj
              · exact List.mem_append_right _ (List.mem_cons_of_mem _ hj))
            refine ihp n q _ _ L' D' w' hqs (by simp at hle ⊢; omega) (hndp.sublist (List.Sublist.append (List.Sublist.refl _) (List.sublist_cons_self _ _))) (by simpa using hsz) (fun j hj => hlt j (hin j hj)) ?_ (closed_step hlte ho hall hc) (fun hzs j hj hjz => hz hzs j (hin j hj) hjz) hl (.inl (hE'.resolve_right hez)) hw'
            rw [← her2]
            exact listed_step hndp hlte fun k => (hr k).trans (hpm k)
          unfold wpOp
          simp only [ho]
          rcases hst with ⟨hwt, hg⟩ | ⟨hwt, hR⟩
          · rw [if_pos hwt]
            exact .inl (hg.wp next)
          · rw [if_neg (by simp [hwt])]
            exact next _ _ hR
        refine ⟨fun hnil => ?_, fun i hi => ?_⟩
        · exfalso
          cases q with
          | nil => exact first_ready hed hsz hr (fun k hk => (k4 k hk).2) (hlt _ (by simp)) hnil
          | cons j q =>
            refine first_ready hed hsz hr (fun k hk => ?_) (hlt _ (by simp)) hnil
            rcases List.mem_append.1 hk with hk | hk
            · have := (List.pairwise_cons.1 hpq).1 k hk
              simp only [pairB, Bool.and_eq_true, Bool.not_eq_true'] at this
              exact this.1.2
            · exact (hq3 j (by simp) k hk).2
        · by_cases hi1 : i = e1
          · subst hi1
            exact take i p1 (.inl rfl) k8 hp1 (fun _ => Iff.rfl) hln hdu (ih1 _ o1) (lexM_append (fun _ _ _ h => h.1) q a L D h) hi
          by_cases hi2 : i = e2
          · subst hi2
            have hle2 : (q ++ i :: p2.flat).length = n + 1 := by
              have h9 := hln
              simp only [List.length_append, List.length_cons] at h9 ⊢
              omega
            have hnd2 : (q ++ i :: p2.flat).Nodup := k13.sublist (hqs.append (List.Sublist.refl _))
            exact take i p2 (.inr rfl) k9 hp2 hperm hle2 hnd2 (ih2 _ o2) (lexM_append (fun _ _ _ h => h.2) q a L D h) hi
          obtain ⟨hun, o, ho, hall⟩ := mem_ready.1 hi
          have hm := (hr i).1 hun
          have hmem : i ∈ q ∨ i ∈ p1.flat := by
            simp only [List.mem_append, List.mem_cons] at hm
            rcases hm with h | h | h
            · exact .inl h
            · exact absurd h hi1
            · exact .inr h
          rcases hmem with hip | hip
          · have hcl : clearM ops eff i o q := clear_of_pairsX hdep hc ho hall hip (fun j hj => (hr j).2 (by simp [hj])) (hpq.imp fun {j k} (h : pairB dep ops eff j k = true) (_ : k = i) => h)
            have hst := bubble hs ho q a L D w hcl h hE hw
            have hltl : i < listed.size := by
              rcases Nat.lt_or_ge i listed.size with h | h
              · exact h
              · simp [Array.getElem?_eq_none h] at hun
            have her : (q ++ e1 :: p1.flat).erase i = q.erase i ++ e1 :: p1.flat := List.erase_append_left _ hip
            first
              | (exfalso; rw [List.eq_nil_of_length_eq_zero hqm] at hip; cases hip)
              | (have next : ∀ u w', (∃ L' D', SatW G w' L' D' ∧ (Ents L' D' L0 D0 ∨ i = z) ∧ lexM P G ops eff z L0 D0 (fun a L D => lexM P G ops eff z L0 D0 (lexP P G ops eff z L0 D0 Te p1) [e1] a L D ∧ lexM P G ops eff z L0 D0 (lexP P G ops eff z L0 D0 Te p2) [e2] a L D) (q.erase i) (a.put o.dst u) L' D') → wpAny P .any ops Q' n (listed.setIfInBounds i true) (a.put o.dst u) w' := by
                  rintro u w' ⟨L', D', hw', hE', hl⟩
                  have hiz : i ≠ z := fun hx => hzq (hx ▸ hip)
                  have hle : (q.erase i).length = m := by rw [List.length_erase_of_mem hip]; omega
                  have hqpos : 0 < q.length := List.length_pos_of_mem hip
                  refine ihm (q.erase i) n _ _ L' D' w' hle (List.erase_sublist.trans hqs) (by have := hln; simp only [List.length_append, List.length_cons] at this ⊢; omega) (by rw [← her]; exact hdu.sublist List.erase_sublist) (by simpa using hsz) (fun j hj => hlt j (List.mem_of_mem_erase (show j ∈ (q ++ e1 :: p1.flat).erase i by rw [her]; exact hj))) ?_ (closed_step hltl ho hall hc) (fun hzs j hj hjz => hz hzs j (List.mem_of_mem_erase (show j ∈ (q ++ e1 :: p1.flat).erase i by rw [her]; exact hj)) hjz) hl (hE'.resolve_right hiz) hw'
                  rw [← her]; exact listed_step hdu hltl hr
                 unfold wpOp
                 simp only [ho]
                 rcases hst with ⟨hwt, hg⟩ | ⟨hwt, hR⟩
                 · rw [if_pos hwt]
                   exact .inl (hg.wp next)
                 · rw [if_neg (by simp [hwt])]
                   exact next _ _ hR)
          · exfalso
            rcases k6 i hip hi2 with hd | hd
            · have := hdep _ hc i e1 (fun o' ho' => by rw [ho] at ho'; cases ho'; exact hall) hd
              rw [(hr e1).2 (by simp)] at this
              cases this
            · have := hdep _ hc i e2 (fun o' ho' => by rw [ho] at ho'; cases ho'; exact hall) hd
              rw [(hr e2).2 ((hperm e2).2 (by simp))] at this
              cases this
    have hfl : acc' ++ (Plan.node pre e1 p1 e2 p2).flat = (acc' ++ pre) ++ e1 :: p1.flat := by simp [Plan.flat]
    rw [hfl] at hlen hnd hlt hr hz hE
    exact key _ (acc' ++ pre) n listed a L D w rfl (hsub.append (List.Sublist.refl _)) hlen hnd hsz hlt hr hc hz (lexM_append (fun _ _ _ h => h) acc' a L D h) (hE.resolve_right fun h => by simp at h) hw
  | node3 pre e1 p1 e2 p2 e3 p3 ih1 ih2 ih3 =>
    intro acc hok n acc' listed a L D w hsub hlen hnd hsz hlt hr hc hz h hE hw
    obtain ⟨k1, k2, k2c, k3, k4, k6, k7, k7c, k8, k9, k9c, k10, k11, k11c, k13, k13c, o1, o2, o3⟩ := hok
    -- all that stands ahead of the two
    have key : ∀ (m : Nat) (q : List Nat) (n : Nat) (listed : Array Bool) (a : Act) (L : List Chunk) (D : List Fact) (w : World), q.length = m → q.Sublist (acc ++ pre) → (q ++ e1 :: p1.flat).length = n → (q ++ e1 :: p1.flat).Nodup → listed.size = ops.size → (∀ j ∈ q ++ e1 :: p1.flat, j < ops.size) → (∀ i, listed.getD i true = false ↔ i ∈ q ++ e1 :: p1.flat) → closedL ops listed →
        (z < ops.size → ∀ j ∈ q ++ e1 :: p1.flat, j ≠ z → dep z j = true) → lexM P G ops eff z L0 D0 (fun a L D => lexM P G ops eff z L0 D0 (lexP P G ops eff z L0 D0 Te p1) [e1] a L D ∧ lexM P G ops eff z L0 D0 (lexP P G ops eff z L0 D0 Te p2) [e2] a L D ∧ lexM P G ops eff z L0 D0 (lexP P G ops eff z L0 D0 Te p3) [e3] a L D) q a L D → Ents L D L0 D0 → SatW G w L D → wpAny P .any ops Q' n listed a w := by
      intro m
      induction m with
      | zero => ?_
      | succ m ihm => ?_
      all_goals
        intro q n listed a L D w hqm hqs hln hdu hsz hlt hr hc hz h hE hw
        have hperm : ∀ i, i ∈ q ++ e1 :: p1.flat ↔ i ∈ q ++ e2 :: p2.flat := fun i => by
          rw [List.mem_append, List.mem_append, k7 i]
        have hpermc : ∀ i, i ∈ q ++ e1 :: p1.flat ↔ i ∈ q ++ e3 :: p3.flat := fun i => by
          rw [List.mem_append, List.mem_append, k7c i]
        obtain ⟨n, rfl⟩ : ∃ n', n = n' + 1 := ⟨q.length + p1.flat.length, by rw [← hln]; simp; omega⟩
        have hq3 : ∀ j ∈ q, ∀ k ∈ e1 :: p1.flat, j ≠ k ∧ directB ops j k = false := fun j hj => k3 j (hqs.subset hj)
        have hp1 := k1.sublist (hqs.append (List.Sublist.refl [e1]))
        have hp2 := k2.sublist (hqs.append (List.Sublist.refl [e2]))
        have hp3 := k2c.sublist (hqs.append (List.Sublist.refl [e3]))
        have hpq := (List.pairwise_append.1 hp1).1
        have hzq : z ∉ q := fun hx => k10 (hqs.subset hx)
        have hnq : ∀ e, (e = e1 ∨ e = e2 ∨ e = e3) → e ∉ q := fun e he hx => by
          rcases he with rfl | rfl | rfl
          · exact (hq3 e hx e (by simp)).1 rfl
          · exact (hq3 e hx e ((k7 e).2 (by simp))).1 rfl
          · exact (hq3 e hx e ((k7c e).2 (by simp))).1 rfl
        -- one of the two is taken
        have take : ∀ (e : Nat) (pp : Plan), (e = e1 ∨ e = e2 ∨ e = e3) → e ≠ z → (q ++ [e]).Pairwise (fun j i => pairB dep ops eff j i = true) → (∀ i, i ∈ q ++ e1 :: p1.flat ↔ i ∈ q ++ e :: pp.flat) → (q ++ e :: pp.flat).length = n + 1 → (q ++ e :: pp.flat).Nodup →
            (∀ (n : Nat) (acc' : List Nat) (listed : Array Bool) (a : Act) (L : List Chunk) (D : List Fact) (w : World), acc'.Sublist (acc ++ pre) → (acc' ++ pp.flat).length = n → (acc' ++ pp.flat).Nodup → listed.size = ops.size → (∀ j ∈ acc' ++ pp.flat, j < ops.size) → (∀ i, listed.getD i true = false ↔ i ∈ acc' ++ pp.flat) → closedL ops listed →
              (z < ops.size → ∀ j ∈ acc' ++ pp.flat, j ≠ z → dep z j = true) → lexM P G ops eff z L0 D0 (lexP P G ops eff z L0 D0 Te pp) acc' a L D → (Ents L D L0 D0 ∨ acc' ++ pp.flat = []) → SatW G w L D → wpAny P .any ops Q' n listed a w) →
            lexM P G ops eff z L0 D0 (lexP P G ops eff z L0 D0 Te pp) (q ++ [e]) a L D → e ∈ Region.ready .any ops listed → wpOp P ops Q' e (wpAny P .any ops Q' n (listed.setIfInBounds e true)) a w := by
          intro e pp he hez hpe hpm hle hndp ihp hlex hi
          obtain ⟨hun, o, ho, hall⟩ := mem_ready.1 hi
          have hcl : clearM ops eff e o (q ++ [e]) := clear_of_pairsX hdep hc ho hall (by simp) (fun j hj => (hr j).2 ((hpm j).2 (by
            rcases List.mem_append.1 hj with hj | hj
            · simp [hj]
            · rw [List.mem_singleton.1 hj]; simp))) (hpe.imp fun {j k} (h : pairB dep ops eff j k = true) (_ : k = e) => h)
          have hst := bubble hs ho (q ++ [e]) a L D w hcl hlex hE hw
          have her : (q ++ [e]).erase e = q := by
            rw [List.erase_append_right _ (hnq e he)]; simp
          have hlte : e < listed.size := by
            rcases Nat.lt_or_ge e listed.size with h | h
            · exact h
            · simp [Array.getElem?_eq_none h] at hun
          have her2 : (q ++ e :: pp.flat).erase e = q ++ pp.flat := by
            rw [List.erase_append_right _ (hnq e he), List.erase_cons_head]
          have next : ∀ u w', (∃ L' D', SatW G w' L' D' ∧ (Ents L' D' L0 D0 ∨ e = z) ∧ lexM P G ops eff z L0 D0 (lexP P G ops eff z L0 D0 Te pp) ((q ++ [e]).erase e) (a.put o.dst u) L' D') → wpAny P .any ops Q' n (listed.setIfInBounds e true) (a.put o.dst u) w' := by
            rintro u w' ⟨L', D', hw', hE', hl⟩
            rw [her] at hl
            have hin : ∀ j ∈ q ++ pp.flat, j ∈ q ++ e1 :: p1.flat := fun j hj => (hpm j).2 (by
              rcases List.mem_append.1 hj with hj | hj
              · exact List.mem_append_left _ hj
              · exact List.mem_append_right _ (List.mem_cons_of_mem _ hj))
            refine ihp n q _ _ L' D' w' hqs (by simp at hle ⊢; omega) (hndp.sublist (List.Sublist.append (List.Sublist.refl _) (List.sublist_cons_self _ _))) (by simpa using hsz) (fun j hj => hlt j (hin j hj)) ?_ (closed_step hlte ho hall hc) (fun hzs j hj hjz => hz hzs j (hin j hj) hjz) hl (.inl (hE'.resolve_right hez)) hw'
            rw [← her2]
            exact listed_step hndp hlte fun k => (hr k).trans (hpm k)
          unfold wpOp
          simp only [ho]
          rcases hst with ⟨hwt, hg⟩ | ⟨hwt, hR⟩
          · rw [if_pos hwt]
            exact .inl (hg.wp next)
          · rw [if_neg (by simp [hwt])]
            exact next _ _ hR
        refine ⟨fun hnil => ?_, fun i hi => ?_⟩
        · exfalso
          cases q with
          | nil => exact first_ready hed hsz hr (fun k hk => (k4 k hk).2) (hlt _ (by simp)) hnil
          | cons j q =>
            refine first_ready hed hsz hr (fun k hk => ?_) (hlt _ (by simp)) hnil
            rcases List.mem_append.1 hk with hk | hk
            · have := (List.pairwise_cons.1 hpq).1 k hk
              simp only [pairB, Bool.and_eq_true, Bool.not_eq_true'] at this
              exact this.1.2
            · exact (hq3 j (by simp) k hk).2
        · by_cases hi1 : i = e1
          · subst hi1
            exact take i p1 (.inl rfl) k8 hp1 (fun _ => Iff.rfl) hln hdu (ih1 _ o1) (lexM_append (fun _ _ _ h => h.1) q a L D h) hi
          by_cases hi2 : i = e2
          · subst hi2
            have hle2 : (q ++ i :: p2.flat).length = n + 1 := by
              have h9 := hln
              simp only [List.length_append, List.length_cons] at h9 ⊢
              omega
            have hnd2 : (q ++ i :: p2.flat).Nodup := k13.sublist (hqs.append (List.Sublist.refl _))
            exact take i p2 (.inr (.inl rfl)) k9 hp2 hperm hle2 hnd2 (ih2 _ o2) (lexM_append (fun _ _ _ h => h.2.1) q a L D h) hi
          by_cases hi3 : i = e3
          · subst hi3
            have hle3 : (q ++ i :: p3.flat).length = n + 1 := by
              have h9 := hln
              simp only [List.length_append, List.length_cons] at h9 ⊢
              omega
            have hnd3 : (q ++ i :: p3.flat).Nodup := k13c.sublist (hqs.append (List.Sublist.refl _))
            exact take i p3 (.inr (.inr rfl)) k9c hp3 hpermc hle3 hnd3 (ih3 _ o3) (lexM_append (fun _ _ _ h => h.2.2) q a L D h) hi
          obtain ⟨hun, o, ho, hall⟩ := mem_ready.1 hi
          have hm := (hr i).1 hun
          have hmem : i ∈ q ∨ i ∈ p1.flat := by
            simp only [List.mem_append, List.mem_cons] at hm
            rcases hm with h | h | h
            · exact .inl h
            · exact absurd h hi1
            · exact .inr h
          rcases hmem with hip | hip
          · have hcl : clearM ops eff i o q := clear_of_pairsX hdep hc ho hall hip (fun j hj => (hr j).2 (by simp [hj])) (hpq.imp fun {j k} (h : pairB dep ops eff j k = true) (_ : k = i) => h)
            have hst := bubble hs ho q a L D w hcl h hE hw
            have hltl : i < listed.size := by
              rcases Nat.lt_or_ge i listed.size with h | h
              · exact h
              · simp [Array.getElem?_eq_none h] at hun
            have her : (q ++ e1 :: p1.flat).erase i = q.erase i ++ e1 :: p1.flat := List.erase_append_left _ hip
            first
              | (exfalso; rw [List.eq_nil_of_length_eq_zero hqm] at hip; cases hip)
              | (have next : ∀ u w', (∃ L' D', SatW G w' L' D' ∧ (Ents L' D' L0 D0 ∨ i = z) ∧ lexM P G ops eff z L0 D0 (fun a L D => lexM P G ops eff z L0 D0 (lexP P G ops eff z L0 D0 Te p1) [e1] a L D ∧ lexM P G ops eff z L0 D0 (lexP P G ops eff z L0 D0 Te p2) [e2] a L D ∧ lexM P G ops eff z L0 D0 (lexP P G ops eff z L0 D0 Te p3) [e3] a L D) (q.erase i) (a.put o.dst u) L' D') → wpAny P .any ops Q' n (listed.setIfInBounds i true) (a.put o.dst u) w' := by
                  rintro u w' ⟨L', D', hw', hE', hl⟩
                  have hiz : i ≠ z := fun hx => hzq (hx ▸ hip)
                  have hle : (q.erase i).length = m := by rw [List.length_erase_of_mem hip]; omega
                  have hqpos : 0 < q.length := List.length_pos_of_mem hip
                  refine ihm (q.erase i) n _ _ L' D' w' hle (List.erase_sublist.trans hqs) (by have := hln; simp only [List.length_append, List.length_cons] at this ⊢; omega) (by rw [← her]; exact hdu.sublist List.erase_sublist) (by simpa using hsz) (fun j hj => hlt j (List.mem_of_mem_erase (show j ∈ (q ++ e1 :: p1.flat).erase i by rw [her]; exact hj))) ?_ (closed_step hltl ho hall hc) (fun hzs j hj hjz => hz hzs j (List.mem_of_mem_erase (show j ∈ (q ++ e1 :: p1.flat).erase i by rw [her]; exact hj)) hjz) hl (hE'.resolve_right hiz) hw'
                  rw [← her]; exact listed_step hdu hltl hr
                 unfold wpOp
                 simp only [ho]
                 rcases hst with ⟨hwt, hg⟩ | ⟨hwt, hR⟩
                 · rw [if_pos hwt]
                   exact .inl (hg.wp next)
                 · rw [if_neg (by simp [hwt])]
                   exact next _ _ hR)
          · exfalso
            rcases k6 i hip hi2 hi3 with hd | hd | hd
            · have := hdep _ hc i e1 (fun o' ho' => by rw [ho] at ho'; cases ho'; exact hall) hd
              rw [(hr e1).2 (by simp)] at this
              cases this
            · have := hdep _ hc i e2 (fun o' ho' => by rw [ho] at ho'; cases ho'; exact hall) hd
              rw [(hr e2).2 ((hperm e2).2 (by simp))] at this
              cases this
            · have := hdep _ hc i e3 (fun o' ho' => by rw [ho] at ho'; cases ho'; exact hall) hd
              rw [(hr e3).2 ((hpermc e3).2 (by simp))] at this
              cases this
    have hfl : acc' ++ (Plan.node3 pre e1 p1 e2 p2 e3 p3).flat = (acc' ++ pre) ++ e1 :: p1.flat := by simp [Plan.flat]
    rw [hfl] at hlen hnd hlt hr hz hE
    exact key _ (acc' ++ pre) n listed a L D w rfl (hsub.append (List.Sublist.refl _)) hlen hnd hsz hlt hr hc hz (lexM_append (fun _ _ _ h => h) acc' a L D h) (hE.resolve_right fun h => by simp at h) hw

/-! ### The check -/

def ndB : List Nat → Bool
  | [] => true
  | x :: r => !r.contains x && ndB r
theorem nd_spec : ∀ {l : List Nat}, ndB l = true → l.Nodup
  | [], _ => .nil
  | x :: r, h => by
    simp only [ndB, Bool.and_eq_true, Bool.not_eq_true'] at h
    exact List.nodup_cons.2 ⟨contains_not h.1, nd_spec h.2⟩
def apartB (ops : Array Oper) (j k : Nat) : Bool := j != k && !directB ops j k
theorem apart_spec {j k : Nat} (h : apartB ops j k = true) : j ≠ k ∧ directB ops j k = false := by
  simp only [apartB, Bool.and_eq_true, bne_iff_ne, Bool.not_eq_true'] at h; exact h

def okPB (dep : Nat → Nat → Bool) (ops : Array Oper) (eff : Nat → Bool) (z : Nat) : List Nat → Plan → Bool
  | acc, .leaf r => okD.go dep ops eff (acc ++ r)
  | acc, .node pre e1 p1 e2 p2 =>
    okD.go dep ops eff ((acc ++ pre) ++ [e1]) && okD.go dep ops eff ((acc ++ pre) ++ [e2]) && (acc ++ pre).all (fun j => (e1 :: p1.flat).all (apartB ops j)) && p1.flat.all (apartB ops e1) && p2.flat.all (fun k => e2 != k) && (e1 != e2)
      && p1.flat.all (fun i => Nat.beq i e2 || dep i e1 || dep i e2) && (e1 :: p1.flat).all (fun i => (e2 :: p2.flat).contains i) && (e2 :: p2.flat).all (fun i => (e1 :: p1.flat).contains i) && (e1 != z) && (e2 != z) && !(acc ++ pre).contains z
      && Nat.beq p1.flat.length p2.flat.length && ndB ((acc ++ pre) ++ e2 :: p2.flat) && okPB dep ops eff z (acc ++ pre) p1 && okPB dep ops eff z (acc ++ pre) p2
  | acc, .node3 pre e1 p1 e2 p2 e3 p3 =>
    (okD.go dep ops eff ((acc ++ pre) ++ [e1]) && (okD.go dep ops eff ((acc ++ pre) ++ [e2]) && (okD.go dep ops eff ((acc ++ pre) ++ [e3]) && ((acc ++ pre).all (fun j => (e1 :: p1.flat).all (apartB ops j)) && (p1.flat.all (apartB ops e1) && (p1.flat.all (fun i => Nat.beq i e2 || (Nat.beq i e3 || (dep i e1 || (dep i e2 || dep i e3))))
      && ((e1 :: p1.flat).all (fun i => (e2 :: p2.flat).contains i) && ((e2 :: p2.flat).all (fun i => (e1 :: p1.flat).contains i) && ((e1 :: p1.flat).all (fun i => (e3 :: p3.flat).contains i) && ((e3 :: p3.flat).all (fun i => (e1 :: p1.flat).contains i) && ((e1 != z) && ((e2 != z) && ((e3 != z) && (!(acc ++ pre).contains z && (Nat.beq p1.flat.length p2.flat.length && (Nat.beq p1.flat.length p3.flat.length && (ndB ((acc ++ pre) ++ e2 :: p2.flat) && (ndB ((acc ++ pre) ++ e3 :: p3.flat)
      && (okPB dep ops eff z (acc ++ pre) p1 && (okPB dep ops eff z (acc ++ pre) p2 && okPB dep ops eff z (acc ++ pre) p3))))))))))))))))))))

theorem okP_of : ∀ (p : Plan) (acc : List Nat), okPB dep ops eff z acc p = true → okP dep ops eff z acc p
  | .leaf r, acc, h => go_pairwise h
  | .node pre e1 p1 e2 p2, acc, h => by
    simp only [okPB, Bool.and_eq_true] at h
    obtain ⟨⟨⟨⟨⟨⟨⟨⟨⟨⟨⟨⟨⟨⟨⟨h1, h2⟩, h3⟩, h4⟩, h5⟩, h6⟩, h7⟩, h8⟩, h9⟩, h10⟩, h11⟩, h12⟩, h13⟩, h14⟩, h15⟩, h16⟩ := h
    refine ⟨go_pairwise h1, go_pairwise h2, fun j hj k hk => apart_spec (List.all_eq_true.1 (List.all_eq_true.1 h3 j hj) k hk), fun k hk => apart_spec (List.all_eq_true.1 h4 k hk), fun k hk => bne_iff_ne.1 (List.all_eq_true.1 h5 k hk), bne_iff_ne.1 h6, fun i hi hie => ?_, fun i => ⟨fun hi => ?_, fun hi => ?_⟩, bne_iff_ne.1 h10, bne_iff_ne.1 h11, contains_not (by simpa using h12), Nat.eq_of_beq_eq_true h13, nd_spec h14, okP_of p1 _ h15, okP_of p2 _ h16⟩
    · have := List.all_eq_true.1 h7 i hi
      rcases Bool.or_eq_true_iff.1 this with hx | hx
      · rcases Bool.or_eq_true_iff.1 hx with hy | hy
        · exact absurd (Nat.eq_of_beq_eq_true hy) hie
        · exact .inl hy
      · exact .inr hx
    · exact List.contains_iff_mem.1 (List.all_eq_true.1 h8 i hi)
    · exact List.contains_iff_mem.1 (List.all_eq_true.1 h9 i hi)
  | .node3 pre e1 p1 e2 p2 e3 p3, acc, h => by
    simp only [okPB, Bool.and_eq_true] at h
    obtain ⟨h1, h2, h2c, h3, h4, h7, h8, h9, h8c, h9c, h10, h11, h11c, h12, h13, h13c, h14, h14c, h15, h16, h17⟩ := h
    refine ⟨go_pairwise h1, go_pairwise h2, go_pairwise h2c, fun j hj k hk => apart_spec (List.all_eq_true.1 (List.all_eq_true.1 h3 j hj) k hk), fun k hk => apart_spec (List.all_eq_true.1 h4 k hk), fun i hi hie hic => ?_, fun i => ⟨fun hi => ?_, fun hi => ?_⟩, fun i => ⟨fun hi => ?_, fun hi => ?_⟩, bne_iff_ne.1 h10, bne_iff_ne.1 h11, bne_iff_ne.1 h11c, contains_not (by simpa using h12), Nat.eq_of_beq_eq_true h13, Nat.eq_of_beq_eq_true h13c, nd_spec h14, nd_spec h14c, okP_of p1 _ h15, okP_of p2 _ h16, okP_of p3 _ h17⟩
    · have := List.all_eq_true.1 h7 i hi
      rcases Bool.or_eq_true_iff.1 this with hx | hx
      · exact absurd (Nat.eq_of_beq_eq_true hx) hie
      · rcases Bool.or_eq_true_iff.1 hx with hy | hy
        · exact absurd (Nat.eq_of_beq_eq_true hy) hic
        · rcases Bool.or_eq_true_iff.1 hy with hz | hz
          · exact .inl hz
          · exact .inr (Bool.or_eq_true_iff.1 hz)
    · exact List.contains_iff_mem.1 (List.all_eq_true.1 h8 i hi)
    · exact List.contains_iff_mem.1 (List.all_eq_true.1 h9 i hi)
    · exact List.contains_iff_mem.1 (List.all_eq_true.1 h8c i hi)
    · exact List.contains_iff_mem.1 (List.all_eq_true.1 h9c i hi)

/-- The check of a whole region. -/
def okT (A : List Nat) (ops : Array Oper) (eff : Nat → Bool) (z : Nat) (p : Plan) : Bool :=
  Nat.ble A.length ops.size && masksB A ops && Region.noSelect ops && edgesB ops && p.flat.all (· < ops.size) && (List.range ops.size).all (p.flat.contains ·) && ndB p.flat && (Nat.ble ops.size z || p.flat.all fun j => Nat.beq j z || (A.getD z 0).testBit j)
    && okPB (fun i j => (A.getD i 0).testBit j) ops eff z [] p

theorem region_of_lexP {A : List Nat} {id : Nat} {p : Plan} {a : Act} {L : List Chunk} {D : List Fact} {w : World} {Q' : Exit → Act → World → Prop} (hm : P.follows .mixedOrders = true) (hB : okT A ops eff z p = true) (hQ : ∀ a L D w, Te a L D → SatW G w L D → Q' .normal a w)
    (h : lexP P G ops eff z L0 D0 Te p a L D) (hE : Ents L D L0 D0) (hw : SatW G w L D) : (Code.region id ops true).wp P Q' a w := by
  simp only [okT, Bool.and_eq_true, Bool.or_eq_true] at hB
  obtain ⟨⟨⟨⟨⟨⟨⟨⟨hA, hmk⟩, hs⟩, hed⟩, hlt⟩, hall⟩, hnd⟩, hz⟩, hok⟩ := hB
  have hnd := nd_spec hnd
  have hperm : p.flat.Perm (List.range ops.size) := by
    rw [List.perm_ext_iff_of_nodup hnd List.nodup_range]
    intro i
    rw [List.mem_range]
    refine ⟨fun hi => by simpa using List.all_eq_true.1 hlt i hi, fun hi => ?_⟩
    have := List.all_eq_true.1 hall i (List.mem_range.2 hi)
    rwa [List.contains_iff_mem] at this
  have hlen : p.flat.length = ops.size := by
    have := hperm.length_eq
    simpa using this
  refine wp_region_any hm ?_
  refine any_of_lexP (depOK_masks hmk hA) hs (edgesB_spec hed) hQ p [] (okP_of p [] hok) ops.size [] _ a L D _ (List.Sublist.refl _) (by simpa using hlen) (by simpa using hnd) (by simp) (fun j hj => by rw [List.nil_append, hperm.mem_iff, List.mem_range] at hj; exact hj) (fun i => ?_) ?_ ?_ h (.inl hE) (satW_drew hw)
  · rw [List.nil_append, hperm.mem_iff, List.mem_range]
    by_cases hi : i < ops.size
    · simp [hi]
    · simp [hi]
  · intro i o ho hl
    exfalso
    have hi : i < ops.size := (Array.getElem?_eq_some_iff.1 ho).1
    simp [hi] at hl
  · intro hzs j hj hjz
    rw [List.nil_append] at hj
    rcases hz with hz | hz
    · exact absurd (Nat.le_of_ble_eq_true hz) (by omega)
    · have := List.all_eq_true.1 hz j hj
      rcases Bool.or_eq_true_iff.1 this with h1 | h1
      · exact absurd (Nat.eq_of_beq_eq_true h1) hjz
      · exact h1

/-- The execution along a tree. -/
def vcP (P : Program) (T : Ty) (N : Nat) (ops : List Oper) (eff : List Nat) (z : Nat) (L0 : List Chunk) (D0 : List Fact) : Plan → Env → List Chunk → List Fact → Nat → Kont → Prop
  | .leaf r, env, L, D, nid, k => vcM P T N ops eff z L0 D0 r env L D nid k
  | .node pre e1 p1 e2 p2, env, L, D, nid, k => vcM P T N ops eff z L0 D0 pre env L D nid fun env' L' D' n' => TwoP (vcM P T N ops eff z L0 D0 [e1] env' L' D' n' (vcP P T N ops eff z L0 D0 p1 · · · · k)) (vcM P T N ops eff z L0 D0 [e2] env' L' D' n' (vcP P T N ops eff z L0 D0 p2 · · · · k))
  | .node3 pre e1 p1 e2 p2 e3 p3, env, L, D, nid, k => vcM P T N ops eff z L0 D0 pre env L D nid fun env' L' D' n' => TwoP (vcM P T N ops eff z L0 D0 [e1] env' L' D' n' (vcP P T N ops eff z L0 D0 p1 · · · · k)) (TwoP (vcM P T N ops eff z L0 D0 [e2] env' L' D' n' (vcP P T N ops eff z L0 D0 p2 · · · · k)) (vcM P T N ops eff z L0 D0 [e3] env' L' D' n' (vcP P T N ops eff z L0 D0 p3 · · · · k)))

theorem vcP_sound {N : Nat} {T : Ty} (hT : TyOK P T) (ops : List Oper) (eff : List Nat) {k : Kont} {Te : Act → List Chunk → List Fact → Prop} (hQ : ∀ env' L' D' n' a', k env' L' D' n' → EnvOK N env' a' → Te a' L' D') :
    ∀ (p : Plan) (env : Env) (L : List Chunk) (D : List Fact) (nid : Nat) (a : Act), vcP P T N ops eff z L0 D0 p env L D nid k → EnvOK N env a → lexP P G ops.toArray (fun i => eff.contains i) z L0 D0 Te p a L D
  | .leaf r, env, L, D, nid, a, h, he => vcM_sound hT ops eff hQ r env L D nid a h he
  | .node pre e1 p1 e2 p2, env, L, D, nid, a, h, he =>
    vcM_sound (Te := fun a L D => lexM P G ops.toArray (fun i => eff.contains i) z L0 D0 (lexP P G ops.toArray (fun i => eff.contains i) z L0 D0 Te p1) [e1] a L D ∧ lexM P G ops.toArray (fun i => eff.contains i) z L0 D0 (lexP P G ops.toArray (fun i => eff.contains i) z L0 D0 Te p2) [e2] a L D)
      hT ops eff (fun env' L' D' n' a' hk he' =>
        ⟨vcM_sound (Te := lexP P G ops.toArray (fun i => eff.contains i) z L0 D0 Te p1) hT ops eff (fun env2 L2 D2 n2 a2 hk2 he2 => vcP_sound hT ops eff hQ p1 env2 L2 D2 n2 a2 hk2 he2) [e1] env' L' D' n' a' hk.l he',
         vcM_sound (Te := lexP P G ops.toArray (fun i => eff.contains i) z L0 D0 Te p2) hT ops eff (fun env2 L2 D2 n2 a2 hk2 he2 => vcP_sound hT ops eff hQ p2 env2 L2 D2 n2 a2 hk2 he2) [e2] env' L' D' n' a' hk.r he'⟩) pre env L D nid a h he
  | .node3 pre e1 p1 e2 p2 e3 p3, env, L, D, nid, a, h, he =>
    vcM_sound (Te := fun a L D => lexM P G ops.toArray (fun i => eff.contains i) z L0 D0 (lexP P G ops.toArray (fun i => eff.contains i) z L0 D0 Te p1) [e1] a L D ∧ lexM P G ops.toArray (fun i => eff.contains i) z L0 D0 (lexP P G ops.toArray (fun i => eff.contains i) z L0 D0 Te p2) [e2] a L D ∧ lexM P G ops.toArray (fun i => eff.contains i) z L0 D0 (lexP P G ops.toArray (fun i => eff.contains i) z L0 D0 Te p3) [e3] a L D)
      hT ops eff (fun env' L' D' n' a' hk he' =>
        ⟨vcM_sound (Te := lexP P G ops.toArray (fun i => eff.contains i) z L0 D0 Te p1) hT ops eff (fun env2 L2 D2 n2 a2 hk2 he2 => vcP_sound hT ops eff hQ p1 env2 L2 D2 n2 a2 hk2 he2) [e1] env' L' D' n' a' hk.l he',
         vcM_sound (Te := lexP P G ops.toArray (fun i => eff.contains i) z L0 D0 Te p2) hT ops eff (fun env2 L2 D2 n2 a2 hk2 he2 => vcP_sound hT ops eff hQ p2 env2 L2 D2 n2 a2 hk2 he2) [e2] env' L' D' n' a' hk.r.l he',
         vcM_sound (Te := lexP P G ops.toArray (fun i => eff.contains i) z L0 D0 Te p3) hT ops eff (fun env2 L2 D2 n2 a2 hk2 he2 => vcP_sound hT ops eff hQ p3 env2 L2 D2 n2 a2 hk2 he2) [e3] env' L' D' n' a' hk.r.r he'⟩) pre env L D nid a h he

/-- A region that draws its order, executed along a tree of orders; what its quiet operations look at is named by slots. -/
theorem J_drawP {N : Nat} {env : Env} {T : Ty} (hT : TyOK P T) (hm : P.follows .mixedOrders = true) {id : Nat} {ops : List Oper} {L : List Chunk} {D : List Fact} {nid : Nat} {K : Kt} (A : List Nat) (p : Plan) (eff slots : List Nat) (z : Nat) (b : Bool) (hB : okT A ops.toArray (fun i => eff.contains i) z p = true)
    (h : vcP P T N ops eff z (keepC b (slotIds env slots) L) D p env L D nid (K .normal)) : J P G N (.region id ops.toArray true) env L D nid K :=
  ⟨fun a w he hs => region_of_lexP (z := z) (Te := fun a' L' D' => ∀ w', SatW G w' L' D' → PostK G N K .normal a' w') hm hB (fun _ _ _ w' h hw => h w' hw)
    (vcP_sound hT ops eff (fun env' L' D' n' a' hk he' w' hs' => ⟨env', L', D', n', hk, he', hs'⟩) p env L D nid a h he) (Ents.ofSub (keepC_sub _ _ _) fun _ h => h) hs⟩

end Go.X

namespace Go.X
open Go
variable [Sm : Inhabited Manner] [Df : Inhabited (List Deferred)]
variable {P : Program} {G : Ent} {ops : Array Oper} {eff : Nat → Bool} {z : Nat} {L0 : List Chunk} {Te : Act → List Chunk → List Fact → Prop} {dep : Nat → Nat → Bool}

/-- A tree of orders: a list to its end; a list and then one of several operations; these. -/
inductive OTr where
  | leaf (r : List Nat)
  | fork (pre : List Nat) (t : OTr)
  | alt (e : Nat) (p : OTr) (t : OTr)
  | stop

def OTr.flat : OTr → List Nat
  | .leaf r => r
  | .fork pre t => pre ++ t.flat
  | .alt e p _ => e :: p.flat
  | .stop => []
def OTr.alts : OTr → List (Nat × OTr)
  | .alt e p t => (e, p) :: t.alts
  | _ => []
def OTr.isN : OTr → Bool
  | .leaf _ => true
  | .fork _ _ => true
  | _ => false
def OTr.headB (ops : Array Oper) : OTr → Bool
  | .alt e p _ => p.flat.all (apartB ops e)
  | _ => false

def lexU (P : Program) (G : Ent) (ops : Array Oper) (eff : Nat → Bool) (z : Nat) (L0 : List Chunk) (Te : Act → List Chunk → List Fact → Prop) : OTr → List Fact → Act → List Chunk → List Fact → Prop
  | .leaf r, D0, a, L, D => lexM P G ops eff z L0 D0 Te r a L D
  | .fork pre t, D0, a, L, D => lexM P G ops eff z L0 D0 (lexU P G ops eff z L0 Te t D0) pre a L D
  | .alt e p t, D0, a, L, D => lexM P G ops eff z L0 D0 (fun a' L' D' => (Ents L' D' L0 D' ∧ ∀ m, allD m D' → allD m D0) ∧ lexU P G ops eff z L0 Te p D' a' L' D') [e] a L D ∧ lexU P G ops eff z L0 Te t D0 a L D
  | .stop, _, _, _, _ => True

theorem lexM_end {D0 : List Fact} : ∀ (q : List Nat) (_ : ∀ j ∈ q, eff j = false) (a : Act) (L : List Chunk) (D : List Fact), lexM P G ops eff z L0 D0 Te q a L D → ∃ a', Te a' L D
  | [], _, a, _, _, h => ⟨a, h⟩
  | i :: r, hq, a, L, D, h => by
    simp only [lexM] at h
    cases hi : ops[i]? with
    | none => rw [hi] at h; exact h.elim
    | some o =>
      rw [hi] at h
      rcases h with ⟨_, ⟨_, v, _, hr⟩ | ⟨he, _⟩⟩ | ⟨_, hr⟩
      · exact lexM_end r (fun j hj => hq j (List.mem_cons_of_mem _ hj)) _ L D hr
      · rw [hq i (List.mem_cons_self ..)] at he; cases he
      · exact lexM_end r (fun j hj => hq j (List.mem_cons_of_mem _ hj)) _ L D hr
theorem lexM_q {T2 : Act → List Chunk → List Fact → Prop} {D0 D1 : List Fact} {L : List Chunk} {D : List Fact} (hD : ∀ m, allD m D1 → allD m D0) (hT : ∀ a', Te a' L D → T2 a' L D) : ∀ (q : List Nat) (_ : ∀ j ∈ q, eff j = false) (a : Act), lexM P G ops eff z L0 D0 Te q a L D → lexM P G ops eff z L0 D1 T2 q a L D
  | [], _, a, h => hT a h
  | i :: r, hq, a, h => by
    simp only [lexM] at h ⊢
    cases hi : ops[i]? with
    | none => rw [hi] at h; exact h.elim
    | some o =>
      rw [hi] at h
      simp only at h ⊢
      rcases h with ⟨hw, ⟨he, v, hv, hr⟩ | ⟨he, _⟩⟩ | ⟨hw, hr⟩
      · exact .inl ⟨hw, .inl ⟨he, v, fun L D hE w hs => hv L D (hE.trans (Ents.facts hD)) w hs, lexM_q hD hT r (fun j hj => hq j (List.mem_cons_of_mem _ hj)) _ hr⟩⟩
      · rw [hq i (List.mem_cons_self ..)] at he; cases he
      · exact .inr ⟨hw, lexM_q hD hT r (fun j hj => hq j (List.mem_cons_of_mem _ hj)) _ hr⟩
theorem lexU_pick {D0 : List Fact} {e : Nat} {p : OTr} {a : Act} {L : List Chunk} {D : List Fact} : ∀ (t : OTr), (e, p) ∈ t.alts → lexU P G ops eff z L0 Te t D0 a L D → lexM P G ops eff z L0 D0 (fun a' L' D' => (Ents L' D' L0 D' ∧ ∀ m, allD m D' → allD m D0) ∧ lexU P G ops eff z L0 Te p D' a' L' D') [e] a L D
  | .alt e' p' t, hm, h => by
    rcases List.mem_cons.1 hm with hm | hm
    · cases hm; exact h.1
    · exact lexU_pick t hm h.2
  | .leaf _, hm, _ => by cases hm
  | .fork _ _, hm, _ => by cases hm
  | .stop, hm, _ => by cases hm

/-- The check of a tree behind the operations A; F: the operations that are left. -/
def okU (dep : Nat → Nat → Bool) (ops : Array Oper) (eff : Nat → Bool) (z : Nat) : OTr → List Nat → List Nat → Bool
  | .leaf r, _, A => okD.go dep ops eff (A ++ r)
  | .fork pre t, _, A => pre.all (fun j => !eff j) && ((A ++ pre).all (fun j => t.flat.all (apartB ops j)) && (!(A ++ pre).contains z && (t.flat.all (fun i => t.alts.any fun x => Nat.beq x.1 i || dep i x.1) && (okD.go dep ops eff (A ++ pre) && (t.headB ops && okU dep ops eff z t t.flat (A ++ pre))))))
  | .alt e p t, F, A => p.isN && (okD.go dep ops eff (A ++ [e]) && (e != z && (F.all (fun i => (e :: p.flat).contains i) && ((e :: p.flat).all (fun i => F.contains i) && (Nat.beq F.length (p.flat.length + 1) && (ndB (A ++ e :: p.flat) && (okU dep ops eff z p [] A && okU dep ops eff z t F A)))))))
  | .stop, _, _ => true
theorem okU_alt {e : Nat} {p : OTr} {F A : List Nat} : ∀ (t : OTr), okU dep ops eff z t F A = true → (e, p) ∈ t.alts → p.isN = true ∧ ((A ++ [e]).Pairwise fun j i => pairB dep ops eff j i = true) ∧ e ≠ z ∧ (∀ i, i ∈ F ↔ i ∈ e :: p.flat) ∧ F.length = p.flat.length + 1 ∧ (A ++ e :: p.flat).Nodup ∧ okU dep ops eff z p [] A = true
  | .alt e' p' t, h, hm => by
    simp only [okU, Bool.and_eq_true] at h
    obtain ⟨h1, h2, h3, h4, h5, h6, h7, h8, h9⟩ := h
    rcases List.mem_cons.1 hm with hm | hm
    · cases hm
      exact ⟨h1, go_pairwise h2, bne_iff_ne.1 h3, fun i => ⟨fun hi => List.contains_iff_mem.1 (List.all_eq_true.1 h4 i hi), fun hi => List.contains_iff_mem.1 (List.all_eq_true.1 h5 i hi)⟩, Nat.eq_of_beq_eq_true h6, nd_spec h7, h8⟩
    · exact okU_alt t h9 hm
  | .leaf _, _, hm => by cases hm
  | .fork _ _, _, hm => by cases hm
  | .stop, _, hm => by cases hm

/-- What is to be shown of a tree. -/
def MU (P : Program) (G : Ent) (ops : Array Oper) (eff : Nat → Bool) (z : Nat) (L0 : List Chunk) (Te : Act → List Chunk → List Fact → Prop) (dep : Nat → Nat → Bool) (Q' : Exit → Act → World → Prop) (p : OTr) : Prop :=
  ∀ (A : List Nat), okU dep ops eff z p [] A = true → (∀ j ∈ A, eff j = false) → ∀ (D0 : List Fact) (n : Nat) (acc' : List Nat) (listed : Array Bool) (a : Act) (L : List Chunk) (D : List Fact) (w : World), acc'.Sublist A → (acc' ++ p.flat).length = n → (acc' ++ p.flat).Nodup → listed.size = ops.size → (∀ j ∈ acc' ++ p.flat, j < ops.size) → (∀ i, listed.getD i true = false ↔ i ∈ acc' ++ p.flat) → closedL ops listed →
    (z < ops.size → ∀ j ∈ acc' ++ p.flat, j ≠ z → dep z j = true) → lexM P G ops eff z L0 D0 (lexU P G ops eff z L0 Te p D0) acc' a L D → (Ents L D L0 D0 ∨ acc' ++ p.flat = []) → SatW G w L D → wpAny P .any ops Q' n listed a w

theorem any_of_lexU (hdep : DepOK ops dep) (hs : Region.noSelect ops = true) (hed : ∀ i o, ops[i]? = some o → ∀ e ∈ o.after, Region.binds .any e = true → e.on ≠ i ∧ e.on < ops.size) {Q' : Exit → Act → World → Prop} (hQ : ∀ a L D w, Te a L D → SatW G w L D → Q' .normal a w) (p : OTr) :
    (p.isN = true → MU P G ops eff z L0 Te dep Q' p) ∧ ∀ x ∈ p.alts, x.2.isN = true → MU P G ops eff z L0 Te dep Q' x.2 := by
  induction p with
  | leaf r =>
    refine ⟨fun _ => ?_, fun x hx => by cases hx⟩
    intro A hok hA D0 n acc' listed a L D w hsub hlen hnd hsz hlt hr hc hz h hE hw
    exact any_of_lexM hdep hs hed n (acc' ++ r) listed a L D w Q' hQ hlen hsz hr hc ((go_pairwise hok).sublist (hsub.append (List.Sublist.refl _))) hz (lexM_append (fun _ _ _ h => h) acc' a L D h) hE hw
  | stop => exact ⟨fun h => (by cases h), fun x hx => (by cases hx)⟩
  | alt e p t ihp iht =>
    refine ⟨fun h => (by cases h), fun x hx => ?_⟩
    rcases List.mem_cons.1 hx with rfl | hx
    · exact ihp.1
    · exact iht.2 x hx
  | fork pre t ih =>
    refine ⟨fun _ => ?_, fun x hx => by cases hx⟩
    intro A hok hA D0 n acc' listed a L D w hsub hlen hnd hsz hlt hr hc hz h hE hw
    simp only [okU, Bool.and_eq_true] at hok
    obtain ⟨k1, k2, k3, k4, k5, k6, k7⟩ := hok
    have k5 := go_pairwise k5
    have k3 : z ∉ A ++ pre := contains_not (by simpa using k3)
    have hAq : ∀ j ∈ A ++ pre, eff j = false := fun j hj => by
      rcases List.mem_append.1 hj with hj | hj
      · exact hA j hj
      · simpa using List.all_eq_true.1 k1 j hj
    obtain ⟨e1, p1, t1, ht⟩ : ∃ e1 p1 t1, t = .alt e1 p1 t1 := by
      cases t with
      | alt e p t => exact ⟨_, _, _, rfl⟩
      | leaf _ => cases k6
      | fork _ _ => cases k6
      | stop => cases k6
    have hfl1 : t.flat = e1 :: p1.flat := by rw [ht]; rfl
    have k6' : ∀ k ∈ p1.flat, e1 ≠ k ∧ directB ops e1 k = false := by
      rw [ht] at k6
      exact fun k hk => apart_spec (List.all_eq_true.1 k6 k hk)
    have key : ∀ (m : Nat) (q : List Nat) (n : Nat) (listed : Array Bool) (a : Act) (L : List Chunk) (D : List Fact) (w : World), q.length = m → q.Sublist (A ++ pre) → (q ++ t.flat).length = n → (q ++ t.flat).Nodup → listed.size = ops.size → (∀ j ∈ q ++ t.flat, j < ops.size) → (∀ i, listed.getD i true = false ↔ i ∈ q ++ t.flat) → closedL ops listed →
        (z < ops.size → ∀ j ∈ q ++ t.flat, j ≠ z → dep z j = true) → lexM P G ops eff z L0 D0 (lexU P G ops eff z L0 Te t D0) q a L D → Ents L D L0 D0 → SatW G w L D → wpAny P .any ops Q' n listed a w := by
      intro m
      induction m with
      | zero => ?_
      | succ m ihm => ?_
      all_goals
        intro q n listed a L D w hqm hqs hln hdu hsz hlt hr hc hz h hE hw
        obtain ⟨n, rfl⟩ : ∃ n', n = n' + 1 := ⟨q.length + p1.flat.length, by rw [← hln, hfl1]; simp; omega⟩
        have hq3 : ∀ j ∈ q, ∀ k ∈ t.flat, j ≠ k ∧ directB ops j k = false := fun j hj k hk => apart_spec (List.all_eq_true.1 (List.all_eq_true.1 k2 j (hqs.subset hj)) k hk)
        have hpq := k5.sublist hqs
        have hzq : z ∉ q := fun hx => k3 (hqs.subset hx)
        have hqe : ∀ j ∈ q, eff j = false := fun j hj => hAq j (hqs.subset hj)
        -- one of the operations is taken
        have take : ∀ (e : Nat) (pp : OTr), (e, pp) ∈ t.alts → e ∈ Region.ready .any ops listed → wpOp P ops Q' e (wpAny P .any ops Q' n (listed.setIfInBounds e true)) a w := by
          intro e pp hm hi
          obtain ⟨a1, a2, a3, a4, a5, a6, a7⟩ := okU_alt t k7 hm
          have hef : e ∈ t.flat := (a4 e).2 (List.mem_cons_self ..)
          have hlex := lexM_append (fun _ _ _ h => h) q a L D (lexM_q (T2 := fun a L D => lexM P G ops eff z L0 D0 (fun a' L' D' => (Ents L' D' L0 D' ∧ ∀ m, allD m D' → allD m D0) ∧ lexU P G ops eff z L0 Te pp D' a' L' D') [e] a L D) (fun _ h => h) (fun a' ha => lexU_pick t hm ha) q hqe a h)
          obtain ⟨hun, o, ho, hall⟩ := mem_ready.1 hi
          have hcl : clearM ops eff e o (q ++ [e]) := clear_of_pairsX hdep hc ho hall (by simp) (fun j hj => (hr j).2 (by
            rcases List.mem_append.1 hj with hj | hj
            · simp [hj]
            · rw [List.mem_singleton.1 hj]; simp [hef])) ((a2.sublist (hqs.append (List.Sublist.refl [e]))).imp fun {j k} (h : pairB dep ops eff j k = true) (_ : k = e) => h)
          have hst := bubble hs ho (q ++ [e]) a L D w hcl hlex hE hw
          have hnq : e ∉ q := fun hx => (hq3 e hx e hef).1 rfl
          have her : (q ++ [e]).erase e = q := by
            rw [List.erase_append_right _ hnq]; simp
          have hlte : e < listed.size := by
            rcases Nat.lt_or_ge e listed.size with h | h
            · exact h
            · simp [Array.getElem?_eq_none h] at hun
          have her2 : (q ++ e :: pp.flat).erase e = q ++ pp.flat := by
            rw [List.erase_append_right _ hnq, List.erase_cons_head]
          have hpm : ∀ i, i ∈ q ++ t.flat ↔ i ∈ q ++ e :: pp.flat := fun i => by rw [List.mem_append, List.mem_append, a4 i]
          have hndp : (q ++ e :: pp.flat).Nodup := a6.sublist (hqs.append (List.Sublist.refl _))
          have next : ∀ u w', (∃ L' D', SatW G w' L' D' ∧ (Ents L' D' L0 D0 ∨ e = z) ∧ lexM P G ops eff z L0 D0 (fun a' L' D' => (Ents L' D' L0 D' ∧ ∀ m, allD m D' → allD m D0) ∧ lexU P G ops eff z L0 Te pp D' a' L' D') ((q ++ [e]).erase e) (a.put o.dst u) L' D') → wpAny P .any ops Q' n (listed.setIfInBounds e true) (a.put o.dst u) w' := by
            rintro u w' ⟨L', D', hw', _, hl⟩
            rw [her] at hl
            obtain ⟨_, ⟨hE2, hD2⟩, _⟩ := lexM_end q hqe _ _ _ hl
            have hin : ∀ j ∈ q ++ pp.flat, j ∈ q ++ t.flat := fun j hj => (hpm j).2 (by
              rcases List.mem_append.1 hj with hj | hj
              · exact List.mem_append_left _ hj
              · exact List.mem_append_right _ (List.mem_cons_of_mem _ hj))
            refine ih.2 (e, pp) hm a1 (A ++ pre) a7 hAq D' n q _ _ L' D' w' hqs ?_ (hndp.sublist (List.Sublist.append (List.Sublist.refl _) (List.sublist_cons_self _ _))) (by simpa using hsz) (fun j hj => hlt j (hin j hj)) ?_ (closed_step hlte ho hall hc) (fun hzs j hj hjz => hz hzs j (hin j hj) hjz) (lexM_q hD2 (fun a' ha => ha.2) q hqe _ hl) (.inl hE2) hw'
            · have h9 := hln
              rw [List.length_append] at h9 ⊢
              dsimp only
              omega
            · rw [← her2]
              exact listed_step hndp hlte fun k => (hr k).trans (hpm k)
          unfold wpOp
          simp only [ho]
          rcases hst with ⟨hwt, hg⟩ | ⟨hwt, hR⟩
          · rw [if_pos hwt]
            exact .inl (hg.wp next)
          · rw [if_neg (by simp [hwt])]
            exact next _ _ hR
        refine ⟨fun hnil => ?_, fun i hi => ?_⟩
        · exfalso
          cases q with
          | nil => exact first_ready hed hsz (j := e1) (r := p1.flat) (fun i => by rw [hr i, hfl1]; rfl) (fun k hk => (k6' k hk).2) (hlt _ (by rw [hfl1]; simp)) hnil
          | cons j q =>
            refine first_ready hed hsz hr (fun k hk => ?_) (hlt _ (by simp)) hnil
            rcases List.mem_append.1 hk with hk | hk
            · have := (List.pairwise_cons.1 hpq).1 k hk
              simp only [pairB, Bool.and_eq_true, Bool.not_eq_true'] at this
              exact this.1.2
            · exact (hq3 j (by simp) k hk).2
        · obtain ⟨hun, o, ho, hall⟩ := mem_ready.1 hi
          have hm := (hr i).1 hun
          rcases List.mem_append.1 hm with hip | hip
          · have hcl : clearM ops eff i o q := clear_of_pairsX hdep hc ho hall hip (fun j hj => (hr j).2 (by simp [hj])) (hpq.imp fun {j k} (h : pairB dep ops eff j k = true) (_ : k = i) => h)
            have hst := bubble hs ho q a L D w hcl h hE hw
            have hltl : i < listed.size := by
              rcases Nat.lt_or_ge i listed.size with h | h
              · exact h
              · simp [Array.getElem?_eq_none h] at hun
            have her : (q ++ t.flat).erase i = q.erase i ++ t.flat := List.erase_append_left _ hip
            first
              | (exfalso; rw [List.eq_nil_of_length_eq_zero hqm] at hip; cases hip)
              | (have next : ∀ u w', (∃ L' D', SatW G w' L' D' ∧ (Ents L' D' L0 D0 ∨ i = z) ∧ lexM P G ops eff z L0 D0 (lexU P G ops eff z L0 Te t D0) (q.erase i) (a.put o.dst u) L' D') → wpAny P .any ops Q' n (listed.setIfInBounds i true) (a.put o.dst u) w' := by
                  rintro u w' ⟨L', D', hw', hE', hl⟩
                  have hiz : i ≠ z := fun hx => hzq (hx ▸ hip)
                  have hle : (q.erase i).length = m := by rw [List.length_erase_of_mem hip]; omega
                  have hqpos : 0 < q.length := List.length_pos_of_mem hip
                  refine ihm (q.erase i) n _ _ L' D' w' hle (List.erase_sublist.trans hqs) (by have := hln; simp only [List.length_append] at this ⊢; omega) (by rw [← her]; exact hdu.sublist List.erase_sublist) (by simpa using hsz) (fun j hj => hlt j (List.mem_of_mem_erase (show j ∈ (q ++ t.flat).erase i by rw [her]; exact hj))) ?_ (closed_step hltl ho hall hc) (fun hzs j hj hjz => hz hzs j (List.mem_of_mem_erase (show j ∈ (q ++ t.flat).erase i by rw [her]; exact hj)) hjz) hl (hE'.resolve_right hiz) hw'
                  rw [← her]; exact listed_step hdu hltl hr
                 unfold wpOp
                 simp only [ho]
                 rcases hst with ⟨hwt, hg⟩ | ⟨hwt, hR⟩
                 · rw [if_pos hwt]
                   exact .inl (hg.wp next)
                 · rw [if_neg (by simp [hwt])]
                   exact next _ _ hR)
          · obtain ⟨⟨e, pp⟩, hx, hd⟩ := List.any_eq_true.1 (List.all_eq_true.1 k4 i hip)
            rcases Bool.or_eq_true_iff.1 hd with hd | hd
            · have he := Nat.eq_of_beq_eq_true hd
              dsimp only at he
              subst he
              exact take e pp hx hi
            · exfalso
              have := hdep _ hc i e (fun o' ho' => by rw [ho] at ho'; cases ho'; exact hall) hd
              rw [(hr e).2 (List.mem_append_right _ (((okU_alt t k7 hx).2.2.2.1 e).2 (List.mem_cons_self ..)))] at this
              cases this
    have hfl : acc' ++ (OTr.fork pre t).flat = (acc' ++ pre) ++ t.flat := by simp [OTr.flat]
    rw [hfl] at hlen hnd hlt hr hz hE
    exact key _ (acc' ++ pre) n listed a L D w rfl (hsub.append (List.Sublist.refl _)) hlen hnd hsz hlt hr hc hz (lexM_append (fun _ _ _ h => h) acc' a L D h) (hE.resolve_right fun h => by rw [hfl1] at h; simp at h) hw

/-- The check of a whole region. -/
def okUT (A : List Nat) (ops : Array Oper) (eff : Nat → Bool) (z : Nat) (p : OTr) : Bool :=
  p.isN && (Nat.ble A.length ops.size && (masksB A ops && (Region.noSelect ops && (edgesB ops && (p.flat.all (· < ops.size) && ((List.range ops.size).all (p.flat.contains ·) && (ndB p.flat && ((Nat.ble ops.size z || p.flat.all fun j => Nat.beq j z || (A.getD z 0).testBit j)
    && okU (fun i j => (A.getD i 0).testBit j) ops eff z p [] []))))))))

theorem region_of_lexU {A : List Nat} {id : Nat} {p : OTr} {a : Act} {L : List Chunk} {D D0 : List Fact} {w : World} {Q' : Exit → Act → World → Prop} (hm : P.follows .mixedOrders = true) (hB : okUT A ops eff z p = true) (hQ : ∀ a L D w, Te a L D → SatW G w L D → Q' .normal a w)
    (h : lexU P G ops eff z L0 Te p D0 a L D) (hE : Ents L D L0 D0) (hw : SatW G w L D) : (Code.region id ops true).wp P Q' a w := by
  simp only [okUT, Bool.and_eq_true] at hB
  obtain ⟨hN, hA, hmk, hs, hed, hlt, hall, hnd, hz, hok⟩ := hB
  have hnd := nd_spec hnd
  have hperm : p.flat.Perm (List.range ops.size) := by
    rw [List.perm_ext_iff_of_nodup hnd List.nodup_range]
    intro i
    rw [List.mem_range]
    refine ⟨fun hi => by simpa using List.all_eq_true.1 hlt i hi, fun hi => ?_⟩
    have := List.all_eq_true.1 hall i (List.mem_range.2 hi)
    rwa [List.contains_iff_mem] at this
  have hlen : p.flat.length = ops.size := by
    have := hperm.length_eq
    simpa using this
  refine wp_region_any hm ?_
  refine (any_of_lexU (depOK_masks hmk hA) hs (edgesB_spec hed) hQ p).1 hN [] hok (fun j hj => by cases hj) D0 ops.size [] _ a L D _ (List.Sublist.refl _) (by simpa using hlen) (by simpa using hnd) (by simp) (fun j hj => by rw [List.nil_append, hperm.mem_iff, List.mem_range] at hj; exact hj) (fun i => ?_) ?_ ?_ h (.inl hE) (satW_drew hw)
  · rw [List.nil_append, hperm.mem_iff, List.mem_range]
    by_cases hi : i < ops.size
    · simp [hi]
    · simp [hi]
  · intro i o ho hl
    exfalso
    have hi : i < ops.size := (Array.getElem?_eq_some_iff.1 ho).1
    simp [hi] at hl
  · intro hzs j hj hjz
    rw [List.nil_append] at hj
    rcases Bool.or_eq_true_iff.1 hz with hz | hz
    · exact absurd (Nat.le_of_ble_eq_true hz) (by omega)
    · have := List.all_eq_true.1 hz j hj
      rcases Bool.or_eq_true_iff.1 this with h1 | h1
      · exact absurd (Nat.eq_of_beq_eq_true h1) hjz
      · exact h1

/-- Behind a branch the facts are those of the moment. -/
structure GoP (L : List Chunk) (D : List Fact) (L0 : List Chunk) (D0 : List Fact) (A : Prop) : Prop where
  hL : L0.Sublist L
  hD : ∀ m, allD m D → allD m D0
  k : A

/-- The execution along a tree. -/
def vcU (P : Program) (T : Ty) (N : Nat) (ops : List Oper) (eff : List Nat) (z : Nat) (L0 : List Chunk) : OTr → List Fact → Env → List Chunk → List Fact → Nat → Kont → Prop
  | .leaf r, D0, env, L, D, nid, k => vcM P T N ops eff z L0 D0 r env L D nid k
  | .fork pre t, D0, env, L, D, nid, k => vcM P T N ops eff z L0 D0 pre env L D nid fun env' L' D' n' => vcU P T N ops eff z L0 t D0 env' L' D' n' k
  | .alt e p t, D0, env, L, D, nid, k => TwoP (vcM P T N ops eff z L0 D0 [e] env L D nid fun env' L' D' n' => GoP L' D' L0 D0 (vcU P T N ops eff z L0 p D' env' L' D' n' k)) (vcU P T N ops eff z L0 t D0 env L D nid k)
  | .stop, _, _, _, _, _, _ => True

theorem vcU_sound {N : Nat} {T : Ty} (hT : TyOK P T) (ops : List Oper) (eff : List Nat) {k : Kont} {Te : Act → List Chunk → List Fact → Prop} (hQ : ∀ env' L' D' n' a', k env' L' D' n' → EnvOK N env' a' → Te a' L' D') :
    ∀ (p : OTr) (D0 : List Fact) (env : Env) (L : List Chunk) (D : List Fact) (nid : Nat) (a : Act), vcU P T N ops eff z L0 p D0 env L D nid k → EnvOK N env a → lexU P G ops.toArray (fun i => eff.contains i) z L0 Te p D0 a L D
  | .leaf r, D0, env, L, D, nid, a, h, he => vcM_sound hT ops eff hQ r env L D nid a h he
  | .fork pre t, D0, env, L, D, nid, a, h, he => vcM_sound (Te := lexU P G ops.toArray (fun i => eff.contains i) z L0 Te t D0) hT ops eff (fun env' L' D' n' a' hk he' => vcU_sound hT ops eff hQ t D0 env' L' D' n' a' hk he') pre env L D nid a h he
  | .alt e p t, D0, env, L, D, nid, a, h, he =>
    ⟨vcM_sound (Te := fun a' L' D' => (Ents L' D' L0 D' ∧ ∀ m, allD m D' → allD m D0) ∧ lexU P G ops.toArray (fun i => eff.contains i) z L0 Te p D' a' L' D') hT ops eff (fun env' L' D' n' a' hk he' => ⟨⟨Ents.ofSub hk.hL fun _ h => h, hk.hD⟩, vcU_sound hT ops eff hQ p D' env' L' D' n' a' hk.k he'⟩) [e] env L D nid a h.l he,
     vcU_sound hT ops eff hQ t D0 env L D nid a h.r he⟩
  | .stop, _, _, _, _, _, _, _, _ => trivial

/-- A region that draws its order, executed along a tree of orders; behind a branch the quiet operations see the facts of the moment. -/
theorem J_drawU {N : Nat} {env : Env} {T : Ty} (hT : TyOK P T) (hm : P.follows .mixedOrders = true) {id : Nat} {ops : List Oper} {L : List Chunk} {D : List Fact} {nid : Nat} {K : Kt} (A : List Nat) (p : OTr) (eff slots : List Nat) (z : Nat) (b : Bool) (hB : okUT A ops.toArray (fun i => eff.contains i) z p = true)
    (h : vcU P T N ops eff z (keepC b (slotIds env slots) L) p D env L D nid (K .normal)) : J P G N (.region id ops.toArray true) env L D nid K :=
  ⟨fun a w he hs => region_of_lexU (z := z) (Te := fun a' L' D' => ∀ w', SatW G w' L' D' → PostK G N K .normal a' w') hm hB (fun _ _ _ w' h hw => h w' hw)
    (vcU_sound hT ops eff (fun env' L' D' n' a' hk he' w' hs' => ⟨env', L', D', n', hk, he', hs'⟩) p D env L D nid a h he) (Ents.ofSub (keepC_sub _ _ _) fun _ h => h) hs⟩

end Go.X
