/- This text gives the contracts of strings.Builder, alone or at the head of a struct: WriteString, WriteByte, Write, Len, String. · This text gives the contracts of strings.Builder where any strings are written, empty ones too. · This text says what the plain text of elements is, and walks through Plain of the package inline and of the reference of chapter 17. · This text says what the path of a title is, with no program in sight. · This text walks through html.Path. · This text walks through Hex and Path of the references. · This text says what the anchor of a text is, and walks through Anchor of the package outline and of the reference of chapter 19. · This text says what the table of contents of a document is, with no program in sight. -/
import Derived.Test.YtdnkeinjfddmnaaGreatDoorV06
import Derived.Laws.Externs
import Derived.Test.YtdnkeinjfddmnaaGreatDoorV08
import Derived.Lib.IndexAny
import Derived.Test.YtdnkeinjfddmnaaGreatDoorV07
set_option linter.all false
namespace Go.Proofs
open Go Go.X Go.RowKit Go.Shelf
set_option maxRecDepth 100000
structure BTy (ty k : Nat) : Prop where
  lies : liesAt Tryz.prog Tryz.prog.depth ty ((k + 2) / Tryz.prog.cellsOf ty) 0 66 1 = true
theorem bty0 : BTy 66 0 := ⟨by kernel_rfl⟩
theorem btyW : BTy 87 5 := ⟨by kernel_rfl⟩
theorem noEscape_run (x : Value) (w : World) : (callFunc 116 #[x]).run Tryz.prog w = .ok (.value x) w := by
  rw [run_callFunc_extern Tryz.func116 (by kernel_rfl) (by kernel_rfl) (by kernel_rfl) (e := Extern.AbiNoEscape.same) (by kernel_rfl), Lib.run_noEscape]
  rfl
theorem setK_s1 {x a b : C} {r : List C} {k : List C → Prop} (h : k (a :: x :: r)) : setK (0 + 1) [x] (a :: b :: r) k := by cases r <;> exact h
theorem perm3r {α : Type} (a b c : α) : List.Perm [a, b, c] ([b] ++ [c, a]) := (List.Perm.swap _ _ _).trans (List.Perm.cons _ (List.Perm.swap _ _ _))
theorem oneCopyFresh (ab ty : Nat) (x : C) (rest : List C) (hb : BTy ty rest.length) : FnS Tryz.prog 79 [.c (.p 0 ab 0)] [.box 0 ab ty (.raw (.pointer none) :: x :: rest)] []
    (fun v L D => v = .t0 ∧ L = [.box 0 ab ty (.p 0 ab 0 :: x :: rest)] ∧ D = []) := by
  refine fn_of_J Tryz.tyOK 7000 Tryz.func79 (by kernel_rfl) (c := Tryz.f79.body.getD .skip) (by kernel_rfl) Tryz.ntmps79 (rs := Tryz.f79.results.toList) rfl (by simp) (fun G => ?_)
  repeat' first
    | refine J_seq ?_ | refine J_region Tryz.tyOK ?_ | refine J_block ?_ | refine J_cond ?_ | refine J_ret ?_ | refine J_skip ?_ | refine J_exit ?_ | refine J_scope ?_
    | refine CondP.yes (by omega) ?_ | refine CondP.no (by omega) ?_ | refine CondP.mk (fun h => ?_) (fun h => ?_) | refine EqP.mk rfl ?_ | refine NewP.mk (fun ad => ?_) | refine ArP.exact (by simp only [inR]; omega) ?_ | refine SideP.mk (by first | omega | (dsimp only; omega) | (simp; omega)) ?_
    | refine SideP.mk ⟨rfl, Nat.zero_lt_succ _⟩ ?_ | refine SideP.mk ⟨rfl, hb.lies⟩ ?_ | refine CallP.ext (.c (.p 0 ab 0)) (fun _ w _ => noEscape_run _ w) ?_ | refine FinE.mk _ [] ⟨rfl, rfl, rfl⟩ (Ents.refl _ _)
    | fail
theorem oneCopyUsed (ab ty : Nat) (x : C) (rest : List C) : FnS Tryz.prog 79 [.c (.p 0 ab 0)] [.box 0 ab ty (.p 0 ab 0 :: x :: rest)] []
    (fun v L D => v = .t0 ∧ L = [.box 0 ab ty (.p 0 ab 0 :: x :: rest)] ∧ D = []) := by
  refine fn_of_J Tryz.tyOK 7000 Tryz.func79 (by kernel_rfl) (c := Tryz.f79.body.getD .skip) (by kernel_rfl) Tryz.ntmps79 (rs := Tryz.f79.results.toList) rfl (by simp) (fun G => ?_)
  repeat' first
    | refine J_seq ?_ | refine J_region Tryz.tyOK ?_ | refine J_block ?_ | refine J_cond ?_ | refine J_ret ?_ | refine J_skip ?_ | refine J_exit ?_ | refine J_scope ?_
    | refine CondP.yes (by omega) ?_ | refine CondP.no (by omega) ?_ | refine CondP.mk (fun h => ?_) (fun h => ?_) | refine EqP.mk rfl ?_ | refine NewP.mk (fun ad => ?_) | refine ArP.exact (by simp only [inR]; omega) ?_ | refine SideP.mk (by first | omega | (dsimp only; omega) | (simp; omega)) ?_
    | refine SideP.mk ⟨rfl, rfl⟩ ?_ | refine FinE.mk _ [] ⟨rfl, rfl, rfl⟩ (Ents.refl _ _)
    | fail
def bw (id ab ty : Nat) (a : Option Addr) (c : Nat) (l : List UInt8) (rest : List C) : List Chunk :=
  if l = [] then [.box id ab ty (.raw (.pointer none) :: .sl none 0 0 :: rest)] else [.box id ab ty (.p id ab 0 :: .sl a l.length c :: rest), .row 5 1 a l.length c (l.map byteC)]
theorem bw_nil (id ab ty : Nat) (a : Option Addr) (c : Nat) (rest : List C) : bw id ab ty a c [] rest = [.box id ab ty (.raw (.pointer none) :: .sl none 0 0 :: rest)] := rfl
theorem bw_cons (id ab ty : Nat) (a : Option Addr) (c : Nat) {l : List UInt8} (rest : List C) (h : l ≠ []) : bw id ab ty a c l rest = [.box id ab ty (.p id ab 0 :: .sl a l.length c :: rest), .row 5 1 a l.length c (l.map byteC)] := if_neg h
def BwPost (r : V) (id ab ty : Nat) (l : List UInt8) (rest : List C) : V → List Chunk → List Fact → Prop := fun v L D => ∃ a c, v = r ∧ L = bw id ab ty a c l rest ∧ D = []
theorem bw_same (id id' ab ty : Nat) (a : Option Addr) (c : Nat) (l : List UInt8) (rest : List C) : Same (bw id ab ty a c l rest) (bw id' ab ty a c l rest) := by
  unfold bw; split <;> exact ⟨rfl, fun _ => by simp [allOk, Chunk.ok, C.enc, oneAll, C.one]⟩
theorem bwString0 (ab ty : Nat) (a : Option Addr) (c : Nat) (l : List UInt8) (s : List UInt8) (rest : List C) (hb : BTy ty rest.length) (hs : s ≠ []) (hl : l.length + s.length ≤ 140737488355328) :
    FnS Tryz.prog 39 [.c (.p 0 ab 0), .c (.s s)] (bw 0 ab ty a c l rest) [] (BwPost (.t2 (.c (.i .i64 s.length)) (.c (.raw .nilIface))) 0 ab ty (l ++ s) rest) := by
  have hls : l ++ s ≠ [] := by simp [hs]
  by_cases h0 : l = []
  · subst h0
    rw [bw_nil]
    have c1 := oneCopyFresh ab ty (.sl none 0 0) rest hb
    refine fn_of_J Tryz.tyOK 7000 Tryz.func39 (by kernel_rfl) (c := Tryz.f39.body.getD .skip) (by kernel_rfl) Tryz.ntmps39 (rs := Tryz.f39.results.toList) rfl (by simp) (fun G => ?_)
    repeat' first
      | refine J_seq ?_ | refine J_region Tryz.tyOK ?_ | refine J_block ?_ | refine J_cond ?_ | refine J_ret ?_ | refine J_skip ?_ | refine J_exit ?_ | refine J_scope ?_
      | refine CondP.yes (by omega) ?_ | refine CondP.no (by omega) ?_ | refine CondP.mk (fun h => ?_) (fun h => ?_) | refine EqP.mk rfl ?_ | refine NewP.mk (fun ad => ?_) | refine ArP.exact (by simp only [inR]; omega) ?_ | refine SideP.mk (by first | omega | (dsimp only; omega) | (simp; omega)) ?_
      | refine CallP.mk [_] [] [] _ c1 (List.Perm.refl _) (fun _ _ => trivial) (fun v L' D' hp => ?_); obtain ⟨rfl, rfl, rfl⟩ := hp | refine AppE.nil (s.map byteC) s.length rfl rfl rfl (SrcE.str _ s rfl rfl rfl) (by show s.length * 1 ≤ _; simp only [List.length_nil] at hl; omega) (fun a' c' => ?_) | refine setK_s1 ?_ | refine FinE.mk (bw 0 ab ty a' c' ([] ++ s) rest) [] ⟨a', c', rfl, rfl, rfl⟩ ?_
      | fail
    exact (Ents.perm (List.Perm.swap _ _ _)).trans (Ents.of (by rw [bw_cons _ _ _ _ _ _ hls]; rfl))
  · rw [bw_cons _ _ _ _ _ _ h0]
    have c1 := oneCopyUsed ab ty (.sl a l.length c) rest
    refine fn_of_J Tryz.tyOK 7000 Tryz.func39 (by kernel_rfl) (c := Tryz.f39.body.getD .skip) (by kernel_rfl) Tryz.ntmps39 (rs := Tryz.f39.results.toList) rfl (by simp) (fun G => ?_)
    repeat' first
      | refine J_seq ?_ | refine J_region Tryz.tyOK ?_ | refine J_block ?_ | refine J_cond ?_ | refine J_ret ?_ | refine J_skip ?_ | refine J_exit ?_ | refine J_scope ?_
      | refine CondP.yes (by omega) ?_ | refine CondP.no (by omega) ?_ | refine CondP.mk (fun h => ?_) (fun h => ?_) | refine EqP.mk rfl ?_ | refine NewP.mk (fun ad => ?_) | refine ArP.exact (by simp only [inR]; omega) ?_ | refine SideP.mk (by first | omega | (dsimp only; omega) | (simp; omega)) ?_
      | refine CallP.mk [_] [_] [] _ c1 (List.Perm.refl _) (fun _ _ => trivial) (fun v L' D' hp => ?_); obtain ⟨rfl, rfl, rfl⟩ := hp | refine AppE.row [_] [] (l.map byteC) (s.map byteC) s.length rfl (SrcE.str _ s rfl rfl rfl) (by show (l.length + s.length) * 1 ≤ _; omega) (fun a' c' => ?_) | refine setK_s1 ?_ | refine FinE.mk (bw 0 ab ty a' c' (l ++ s) rest) [] ⟨a', c', rfl, rfl, rfl⟩ ?_
      | fail
    exact Ents.of (by rw [bw_cons _ _ _ _ _ _ hls, List.length_append, List.map_append]; rfl)
theorem bwString_ok (id ab ty : Nat) (a : Option Addr) (c : Nat) (l : List UInt8) (s : List UInt8) (rest : List C) (hb : BTy ty rest.length) (hs : s ≠ []) (hl : l.length + s.length ≤ 140737488355328) :
    FnS Tryz.prog 39 [.c (.p id ab 0), .c (.s s)] (bw id ab ty a c l rest) [] (BwPost (.t2 (.c (.i .i64 s.length)) (.c (.raw .nilIface))) id ab ty (l ++ s) rest) :=
  (bwString0 ab ty a c l s rest hb hs hl).same rfl (bw_same _ _ _ _ _ _ _ _) fun v L1 D1 ⟨a', c', h1, h2, h3⟩ => ⟨_, h2 ▸ bw_same 0 id ab ty a' c' (l ++ s) rest, a', c', h1, rfl, h3⟩
theorem bwByte0 (ab ty : Nat) (a : Option Addr) (c : Nat) (l : List UInt8) (s : UInt8) (rest : List C) (hb : BTy ty rest.length)  (hl : l.length + 1 ≤ 140737488355328) :
    FnS Tryz.prog 41 [.c (.p 0 ab 0), .c (byteC s)] (bw 0 ab ty a c l rest) [] (BwPost (.c (.raw .nilIface)) 0 ab ty (l ++ [s]) rest) := by
  have hls : l ++ [s] ≠ [] := by simp
  by_cases h0 : l = []
  · subst h0
    rw [bw_nil]
    have c1 := oneCopyFresh ab ty (.sl none 0 0) rest hb
    refine fn_of_J Tryz.tyOK 7000 Tryz.func41 (by kernel_rfl) (c := Tryz.f41.body.getD .skip) (by kernel_rfl) Tryz.ntmps41 (rs := Tryz.f41.results.toList) rfl (by simp) (fun G => ?_)
    repeat' first
      | refine J_seq ?_ | refine J_region Tryz.tyOK ?_ | refine J_block ?_ | refine J_cond ?_ | refine J_ret ?_ | refine J_skip ?_ | refine J_exit ?_ | refine J_scope ?_
      | refine CondP.yes (by omega) ?_ | refine CondP.no (by omega) ?_ | refine CondP.mk (fun h => ?_) (fun h => ?_) | refine EqP.mk rfl ?_ | refine NewP.mk (fun ad => ?_) | refine ArP.exact (by simp only [inR]; omega) ?_ | refine SideP.mk (by first | omega | (dsimp only; omega) | (simp; omega)) ?_
      | refine CallP.mk [_] [] [] _ c1 (List.Perm.refl _) (fun _ _ => trivial) (fun v L' D' hp => ?_); obtain ⟨rfl, rfl, rfl⟩ := hp | refine AppE.nil ([s].map byteC) 1 rfl rfl rfl (SrcE.sl 5 5 _ _ _ _ [byteC s] rfl rfl (.inl ⟨1, List.Mem.head _⟩) rfl) (by show 1 * 1 ≤ _; simp only [List.length_nil] at hl; omega) (fun a' c' => ?_) | refine setK_s1 ?_ | refine FinE.mk (bw 0 ab ty a' c' ([] ++ [s]) rest) [] ⟨a', c', rfl, rfl, rfl⟩ ?_
      | fail
    exact (Ents.sub ⟨_, perm3r _ _ _⟩).trans (Ents.of (by rw [bw_cons _ _ _ _ _ _ hls]; rfl))
  · rw [bw_cons _ _ _ _ _ _ h0]
    have c1 := oneCopyUsed ab ty (.sl a l.length c) rest
    refine fn_of_J Tryz.tyOK 7000 Tryz.func41 (by kernel_rfl) (c := Tryz.f41.body.getD .skip) (by kernel_rfl) Tryz.ntmps41 (rs := Tryz.f41.results.toList) rfl (by simp) (fun G => ?_)
    repeat' first
      | refine J_seq ?_ | refine J_region Tryz.tyOK ?_ | refine J_block ?_ | refine J_cond ?_ | refine J_ret ?_ | refine J_skip ?_ | refine J_exit ?_ | refine J_scope ?_
      | refine CondP.yes (by omega) ?_ | refine CondP.no (by omega) ?_ | refine CondP.mk (fun h => ?_) (fun h => ?_) | refine EqP.mk rfl ?_ | refine NewP.mk (fun ad => ?_) | refine ArP.exact (by simp only [inR]; omega) ?_ | refine SideP.mk (by first | omega | (dsimp only; omega) | (simp; omega)) ?_
      | refine CallP.mk [_] [_] [] _ c1 (List.Perm.refl _) (fun _ _ => trivial) (fun v L' D' hp => ?_); obtain ⟨rfl, rfl, rfl⟩ := hp | refine AppE.row [_, _] [] (l.map byteC) ([s].map byteC) 1 rfl (SrcE.sl 5 5 _ _ _ _ [byteC s] rfl rfl (.inl ⟨1, List.Mem.head _⟩) rfl) (by show (l.length + 1) * 1 ≤ _; omega) (fun a' c' => ?_) | refine setK_s1 ?_ | refine FinE.mk (bw 0 ab ty a' c' (l ++ [s]) rest) [] ⟨a', c', rfl, rfl, rfl⟩ ?_
      | fail
    exact Ents.drop.trans (Ents.of (by rw [bw_cons _ _ _ _ _ _ hls, List.length_append, List.map_append]; rfl))
theorem bwByte_ok (id ab ty : Nat) (a : Option Addr) (c : Nat) (l : List UInt8) (s : UInt8) (rest : List C) (hb : BTy ty rest.length)  (hl : l.length + 1 ≤ 140737488355328) :
    FnS Tryz.prog 41 [.c (.p id ab 0), .c (byteC s)] (bw id ab ty a c l rest) [] (BwPost (.c (.raw .nilIface)) id ab ty (l ++ [s]) rest) :=
  (bwByte0 ab ty a c l s rest hb  hl).same rfl (bw_same _ _ _ _ _ _ _ _) fun v L1 D1 ⟨a', c', h1, h2, h3⟩ => ⟨_, h2 ▸ bw_same 0 id ab ty a' c' (l ++ [s]) rest, a', c', h1, rfl, h3⟩
theorem bwWrite0 (ab ty : Nat) (a : Option Addr) (c : Nat) (l : List UInt8) (s : List UInt8) (pa : Option Addr) (pc : Nat) (rest : List C) (hb : BTy ty rest.length) (hs : s ≠ []) (hl : l.length + s.length ≤ 140737488355328) :
    FnS Tryz.prog 43 [.c (.p 0 ab 0), .c (.sl pa s.length pc)] (bw 0 ab ty a c l rest) [slFact 5 1 pa s.length (s.map byteC)] (BwPost (.t2 (.c (.i .i64 s.length)) (.c (.raw .nilIface))) 0 ab ty (l ++ s) rest) := by
  have hls : l ++ s ≠ [] := by simp [hs]
  by_cases h0 : l = []
  · subst h0
    rw [bw_nil]
    have c1 := oneCopyFresh ab ty (.sl none 0 0) rest hb
    refine fn_of_J Tryz.tyOK 7000 Tryz.func43 (by kernel_rfl) (c := Tryz.f43.body.getD .skip) (by kernel_rfl) Tryz.ntmps43 (rs := Tryz.f43.results.toList) rfl (by simp) (fun G => ?_)
    repeat' first
      | refine J_seq ?_ | refine J_region Tryz.tyOK ?_ | refine J_block ?_ | refine J_cond ?_ | refine J_ret ?_ | refine J_skip ?_ | refine J_exit ?_ | refine J_scope ?_
      | refine CondP.yes (by omega) ?_ | refine CondP.no (by omega) ?_ | refine CondP.mk (fun h => ?_) (fun h => ?_) | refine EqP.mk rfl ?_ | refine NewP.mk (fun ad => ?_) | refine ArP.exact (by simp only [inR]; omega) ?_ | refine SideP.mk (by first | omega | (dsimp only; omega) | (simp; omega)) ?_
      | refine CallP.mk [_] [] [] _ c1 (List.Perm.refl _) (fun _ _ => trivial) (fun v L' D' hp => ?_); obtain ⟨rfl, rfl, rfl⟩ := hp | refine AppE.nil (s.map byteC) s.length rfl rfl rfl (SrcE.sl 5 5 _ _ _ _ (s.map byteC) rfl rfl (.inr fun _ h => h.1) (by simp)) (by show s.length * 1 ≤ _; simp only [List.length_nil] at hl; omega) (fun a' c' => ?_) | refine setK_s1 ?_ | refine FinE.mk (bw 0 ab ty a' c' ([] ++ s) rest) [] ⟨a', c', rfl, rfl, rfl⟩ ?_
      | fail
    exact (Ents.perm (List.Perm.swap _ _ _)).trans ((Ents.of (by rw [bw_cons _ _ _ _ _ _ hls]; rfl)).trans (Ents.facts fun _ _ => trivial))
  · rw [bw_cons _ _ _ _ _ _ h0]
    have c1 := oneCopyUsed ab ty (.sl a l.length c) rest
    refine fn_of_J Tryz.tyOK 7000 Tryz.func43 (by kernel_rfl) (c := Tryz.f43.body.getD .skip) (by kernel_rfl) Tryz.ntmps43 (rs := Tryz.f43.results.toList) rfl (by simp) (fun G => ?_)
    repeat' first
      | refine J_seq ?_ | refine J_region Tryz.tyOK ?_ | refine J_block ?_ | refine J_cond ?_ | refine J_ret ?_ | refine J_skip ?_ | refine J_exit ?_ | refine J_scope ?_
      | refine CondP.yes (by omega) ?_ | refine CondP.no (by omega) ?_ | refine CondP.mk (fun h => ?_) (fun h => ?_) | refine EqP.mk rfl ?_ | refine NewP.mk (fun ad => ?_) | refine ArP.exact (by simp only [inR]; omega) ?_ | refine SideP.mk (by first | omega | (dsimp only; omega) | (simp; omega)) ?_
      | refine CallP.mk [_] [_] [] _ c1 (List.Perm.refl _) (fun _ _ => trivial) (fun v L' D' hp => ?_); obtain ⟨rfl, rfl, rfl⟩ := hp | refine AppE.row [_] [] (l.map byteC) (s.map byteC) s.length rfl (SrcE.sl 5 5 _ _ _ _ (s.map byteC) rfl rfl (.inr fun _ h => h.1) (by simp)) (by show (l.length + s.length) * 1 ≤ _; omega) (fun a' c' => ?_) | refine setK_s1 ?_ | refine FinE.mk (bw 0 ab ty a' c' (l ++ s) rest) [] ⟨a', c', rfl, rfl, rfl⟩ ?_
      | fail
    exact (Ents.of (by rw [bw_cons _ _ _ _ _ _ hls, List.length_append, List.map_append]; rfl)).trans (Ents.facts fun _ _ => trivial)
theorem bwWrite_ok (id ab ty : Nat) (a : Option Addr) (c : Nat) (l : List UInt8) (s : List UInt8) (pa : Option Addr) (pc : Nat) (rest : List C) (hb : BTy ty rest.length) (hs : s ≠ []) (hl : l.length + s.length ≤ 140737488355328) :
    FnS Tryz.prog 43 [.c (.p id ab 0), .c (.sl pa s.length pc)] (bw id ab ty a c l rest) [slFact 5 1 pa s.length (s.map byteC)] (BwPost (.t2 (.c (.i .i64 s.length)) (.c (.raw .nilIface))) id ab ty (l ++ s) rest) :=
  (bwWrite0 ab ty a c l s pa pc rest hb hs hl).same rfl (bw_same _ _ _ _ _ _ _ _) fun v L1 D1 ⟨a', c', h1, h2, h3⟩ => ⟨_, h2 ▸ bw_same 0 id ab ty a' c' (l ++ s) rest, a', c', h1, rfl, h3⟩
theorem bwLen0 (ab ty : Nat) (a : Option Addr) (c : Nat) (l : List UInt8) (rest : List C) : FnS Tryz.prog 97 [.c (.p 0 ab 0)] (bw 0 ab ty a c l rest) [] (fun v L D => v = .c (.i .i64 l.length) ∧ L = bw 0 ab ty a c l rest ∧ D = []) := by
  by_cases h0 : l = []
  · subst h0
    rw [bw_nil]
    refine fn_of_J Tryz.tyOK 7000 Tryz.func97 (by kernel_rfl) (c := Tryz.f97.body.getD .skip) (by kernel_rfl) Tryz.ntmps97 (rs := Tryz.f97.results.toList) rfl (by simp) (fun G => ?_)
    repeat' first
      | refine J_seq ?_ | refine J_region Tryz.tyOK ?_ | refine J_block ?_ | refine J_cond ?_ | refine J_ret ?_ | refine J_skip ?_ | refine J_exit ?_ | refine J_scope ?_
      | refine CondP.yes (by omega) ?_ | refine CondP.no (by omega) ?_ | refine CondP.mk (fun h => ?_) (fun h => ?_) | refine EqP.mk rfl ?_ | refine NewP.mk (fun ad => ?_) | refine ArP.exact (by simp only [inR]; omega) ?_ | refine SideP.mk (by first | omega | (dsimp only; omega) | (simp; omega)) ?_
      | exact FinE.mk _ [] ⟨rfl, rfl, rfl⟩ (Ents.refl _ _)
      | fail
  · rw [bw_cons _ _ _ _ _ _ h0]
    refine fn_of_J Tryz.tyOK 7000 Tryz.func97 (by kernel_rfl) (c := Tryz.f97.body.getD .skip) (by kernel_rfl) Tryz.ntmps97 (rs := Tryz.f97.results.toList) rfl (by simp) (fun G => ?_)
    repeat' first
      | refine J_seq ?_ | refine J_region Tryz.tyOK ?_ | refine J_block ?_ | refine J_cond ?_ | refine J_ret ?_ | refine J_skip ?_ | refine J_exit ?_ | refine J_scope ?_
      | refine CondP.yes (by omega) ?_ | refine CondP.no (by omega) ?_ | refine CondP.mk (fun h => ?_) (fun h => ?_) | refine EqP.mk rfl ?_ | refine NewP.mk (fun ad => ?_) | refine ArP.exact (by simp only [inR]; omega) ?_ | refine SideP.mk (by first | omega | (dsimp only; omega) | (simp; omega)) ?_
      | exact FinE.mk _ [] ⟨rfl, rfl, rfl⟩ (Ents.refl _ _)
      | fail
theorem J_some {P : Program} {G : Ent} {N : Nat} {c0 : Code} {env : Env} {L : List Chunk} {D : List Fact} {nid : Nat} {K : Kt} {e z : Nat} {a : Option Addr} {n c : Nat} {cs : List C} (hm : .row e z a n c cs ∈ L) (hn : n ≠ 0) (k : ∀ g, a = some ⟨g, 0, none⟩ → n ≤ c → J P G N c0 env L D nid K) : J P G N c0 env L D nid K :=
  ⟨fun ac w he hs => by
    obtain ⟨m, h1, _⟩ := id hs
    have hr := (allOk_mem h1.ok hm).2
    rcases hr with ⟨_, h0, _⟩ | ⟨g, hg, cur, lo, hi, _, h2, _⟩
    · exact absurd h0 hn
    · exact (k g hg h2).run ac w he hs⟩
theorem bwText0 (ab ty : Nat) (a : Option Addr) (c : Nat) (l : List UInt8) (rest : List C) : FnS Tryz.prog 44 [.c (.p 0 ab 0)] (bw 0 ab ty a c l rest) [] (Is (.c (.s l))) := by
  by_cases h0 : l = []
  · subst h0
    rw [bw_nil]
    refine fn_of_J Tryz.tyOK 7000 Tryz.func44 (by kernel_rfl) (c := Tryz.f44.body.getD .skip) (by kernel_rfl) Tryz.ntmps44 (rs := Tryz.f44.results.toList) rfl (by simp) (fun G => ?_)
    repeat' first
      | refine J_seq ?_ | refine J_region Tryz.tyOK ?_ | refine J_block ?_ | refine J_cond ?_ | refine J_ret ?_ | refine J_skip ?_ | refine J_exit ?_ | refine J_scope ?_
      | refine CondP.yes (by omega) ?_ | refine CondP.no (by omega) ?_ | refine CondP.mk (fun h => ?_) (fun h => ?_) | refine EqP.mk rfl ?_ | refine NewP.mk (fun ad => ?_) | refine ArP.exact (by simp only [inR]; omega) ?_ | refine SideP.mk (by first | omega | (dsimp only; omega) | (simp; omega)) ?_
      | refine J_drawS (id := 1) Tryz.tyOK (by kernel_rfl) [0, 1, 3, 7, 15, 0, 32, 96, 224, 480, 1023, 2047] [0, 1, 2, 3, 5, 6, 7, 8, 9, 4, 10, 11] [4, 10] [0] false (by kernel_rfl) ?_ | refine EntP.mk (Ents.ofSub (by repeat (first | exact List.Sublist.slnil | refine List.Sublist.cons_cons _ ?_ | refine List.Sublist.cons _ ?_)) (by first | exact fun _ h => h | exact fun _ _ => trivial | exact fun _ h => h.2 | exact fun _ h => h.2.2.2.2 | exact fun _ h => h.2.2 | exact fun _ h => h.2.2.2 | exact fun _ h => h.2.2.2.2.2 | exact fun _ h => h.2.2.2.2.2.2 | exact fun _ h => h.2.2.2.2.2.2.2 | exact fun _ h => h.2.2.2.2.2.2.2.2 | exact fun _ h => h.2.2.2.2.2.2.2.2.2 | exact fun _ h => h.2.2.2.2.2.2.2.2.2.2 | exact fun _ h => ((allD_append _ _).1 h).2)) ?_ | refine SlDataE.nil rfl ?_ | refine StrDataE.nil rfl rfl ?_ | refine FinE.str ?_
      | fail
    rfl
  · rw [bw_cons _ _ _ _ _ _ h0]
    have hl0 : l.length ≠ 0 := fun h => h0 (List.eq_nil_of_length_eq_zero h)
    refine fn_of_J Tryz.tyOK 7000 Tryz.func44 (by kernel_rfl) (c := Tryz.f44.body.getD .skip) (by kernel_rfl) Tryz.ntmps44 (rs := Tryz.f44.results.toList) rfl (by simp) (fun G => ?_)
    refine J_some (List.Mem.tail _ (List.Mem.head _)) hl0 (fun g hg hlc => ?_)
    subst hg
    repeat' first
      | refine J_seq ?_ | refine J_region Tryz.tyOK ?_ | refine J_block ?_ | refine J_cond ?_ | refine J_ret ?_ | refine J_skip ?_ | refine J_exit ?_ | refine J_scope ?_
      | refine CondP.yes (by omega) ?_ | refine CondP.no (by omega) ?_ | refine CondP.mk (fun h => ?_) (fun h => ?_) | refine EqP.mk rfl ?_ | refine NewP.mk (fun ad => ?_) | refine ArP.exact (by simp only [inR]; omega) ?_ | refine SideP.mk (by first | omega | (dsimp only; omega) | (simp; omega)) ?_
      | refine J_drawS (id := 1) Tryz.tyOK (by kernel_rfl) [0, 1, 3, 7, 15, 0, 32, 96, 224, 480, 1023, 2047] [0, 1, 2, 3, 5, 6, 7, 8, 9, 4, 10, 11] [4, 10] [0] false (by kernel_rfl) ?_ | refine EntP.mk (Ents.ofSub (by repeat (first | exact List.Sublist.slnil | refine List.Sublist.cons_cons _ ?_ | refine List.Sublist.cons _ ?_)) (by first | exact fun _ h => h | exact fun _ _ => trivial | exact fun _ h => h.2 | exact fun _ h => h.2.2.2.2 | exact fun _ h => h.2.2 | exact fun _ h => h.2.2.2 | exact fun _ h => h.2.2.2.2.2 | exact fun _ h => h.2.2.2.2.2.2 | exact fun _ h => h.2.2.2.2.2.2.2 | exact fun _ h => h.2.2.2.2.2.2.2.2 | exact fun _ h => h.2.2.2.2.2.2.2.2.2 | exact fun _ h => h.2.2.2.2.2.2.2.2.2.2 | exact fun _ h => ((allD_append _ _).1 h).2)) ?_ | refine SlDataE.row g 0 rfl (by omega) ?_ | refine StrDataE.row [_] 5 g l.length c l (List.Perm.swap _ _ _) rfl rfl h0 rfl (by kernel_rfl) ?_ | refine FinE.str ?_
      | fail
    rfl
theorem bwLen_ok (id ab ty : Nat) (a : Option Addr) (c : Nat) (l : List UInt8) (rest : List C) : FnS Tryz.prog 97 [.c (.p id ab 0)] (bw id ab ty a c l rest) [] (fun v L D => v = .c (.i .i64 l.length) ∧ L = bw id ab ty a c l rest ∧ D = []) :=
  (bwLen0 ab ty a c l rest).same rfl (bw_same _ _ _ _ _ _ _ _) fun v L1 D1 ⟨h1, h2, h3⟩ => ⟨_, h2 ▸ bw_same 0 id ab ty a c l rest, h1, rfl, h3⟩
theorem bwText_ok (id ab ty : Nat) (a : Option Addr) (c : Nat) (l : List UInt8) (rest : List C) : FnS Tryz.prog 44 [.c (.p id ab 0)] (bw id ab ty a c l rest) [] (Is (.c (.s l))) :=
  (bwText0 ab ty a c l rest).same rfl (bw_same _ _ _ _ _ _ _ _) fun v L1 D1 h => ⟨L1, ⟨rfl, fun _ => Iff.rfl⟩, h⟩
end Go.Proofs
namespace Go.Proofs
open Go Go.X Go.RowKit Go.Shelf
set_option maxRecDepth 100000
theorem FnS.pre {P : Program} {f : FuncId} {args : List V} {L L' : List Chunk} {D D' : List Fact} {post : V → List Chunk → List Fact → Prop} (hE : Ents L D L' D') (h : FnS P f args L' D' post) : FnS P f args L D post :=
  ⟨h.en, fun w m hh => by
    obtain ⟨m', h1, h2⟩ := hE ⟨w, L, m⟩ w ⟨m, hh, Fr.refl _ _ _⟩
    exact (h.run w m' h1).mono fun e w' ⟨v, L1, D1, m1, e1, p1, q1, r1⟩ => ⟨v, L1, D1, m1, e1, p1, q1, h2.trans r1⟩⟩
def bx (id ab ty : Nat) (u : Bool) (a : Option Addr) (c : Nat) (l : List UInt8) (rest : List C) : List Chunk :=
  [.box id ab ty ((if u then .p id ab 0 else .raw (.pointer none)) :: .sl a l.length c :: rest), .row 5 1 a l.length c (l.map byteC)]
structure BxI (u : Bool) (a : Option Addr) (c : Nat) (l : List UInt8) : Prop where
  h1 : u = false → l = []
  h2 : l = [] → a = none ∧ c = 0
theorem bxI0 : BxI false none 0 [] := ⟨fun _ => rfl, fun _ => ⟨rfl, rfl⟩⟩
def BxP (r : V) (id ab ty : Nat) (l : List UInt8) (rest : List C) : V → List Chunk → List Fact → Prop := fun v L D => ∃ u a c, BxI u a c l ∧ v = r ∧ L = bx id ab ty u a c l rest ∧ D = []
theorem bx_same (id id' ab ty : Nat) (u : Bool) (a : Option Addr) (c : Nat) (l : List UInt8) (rest : List C) : Same (bx id ab ty u a c l rest) (bx id' ab ty u a c l rest) := by
  unfold bx; cases u <;> exact ⟨rfl, fun _ => by simp [allOk, Chunk.ok, C.enc, oneAll, C.one]⟩
theorem bx_bw (id ab ty : Nat) (a : Option Addr) (c : Nat) {l : List UInt8} (rest : List C) (h : l ≠ []) : bx id ab ty true a c l rest = bw id ab ty a c l rest := (bw_cons _ _ _ _ _ _ h).symm
theorem bxI_used {u : Bool} {a : Option Addr} {c : Nat} {l : List UInt8} (h : BxI u a c l) (hl : l ≠ []) : u = true := by
  cases u with
  | true => rfl
  | false => exact absurd (h.h1 rfl) hl
theorem bxI_ne {a : Option Addr} {c : Nat} {l : List UInt8} (h : l ≠ []) : BxI true a c l := ⟨fun e => (by cases e), fun e => absurd e h⟩
theorem bxI_nil : BxI true none 0 [] := ⟨fun e => (by cases e), fun _ => ⟨rfl, rfl⟩⟩
theorem bx_fresh (id ab ty : Nat) (rest : List C) {D : List Fact} : Ents (bx id ab ty false none 0 [] rest) D [.box id ab ty (.raw (.pointer none) :: .sl none 0 0 :: rest)] D := (Ents.perm (List.Perm.swap _ _ _)).trans Ents.drop
theorem bx_toFresh (id ab ty : Nat) (rest : List C) {D : List Fact} : Ents [.box id ab ty (.raw (.pointer none) :: .sl none 0 0 :: rest)] D (bx id ab ty false none 0 [] rest) D := (Ents.nilRow (ety := 5) (esz := 1)).trans (Ents.perm (List.Perm.swap _ _ _))
theorem bw_post {id ab ty : Nat} {l : List UInt8} {rest : List C} {r : V} (hl : l ≠ []) {v : V} {L : List Chunk} {D : List Fact} (h : BwPost r id ab ty l rest v L D) : BxP r id ab ty l rest v L D := by
  obtain ⟨a, c, h1, h2, h3⟩ := h
  exact ⟨true, a, c, bxI_ne hl, h1, by rw [h2, bx_bw _ _ _ _ _ _ hl], h3⟩
theorem bxMore0 (ab ty : Nat) (a : Option Addr) (c : Nat) (l : List UInt8) (s : List UInt8) (rest : List C) (h0 : l ≠ []) (hl : l.length + s.length ≤ 140737488355328) :
    FnS Tryz.prog 39 [.c (.p 0 ab 0), .c (.s s)] (bw 0 ab ty a c l rest) [] (BwPost (.t2 (.c (.i .i64 s.length)) (.c (.raw .nilIface))) 0 ab ty (l ++ s) rest) := by
  have hls : l ++ s ≠ [] := by simp [h0]
  rw [bw_cons _ _ _ _ _ _ h0]
  have c1 := oneCopyUsed ab ty (.sl a l.length c) rest
  refine fn_of_J Tryz.tyOK 7000 Tryz.func39 (by kernel_rfl) (c := Tryz.f39.body.getD .skip) (by kernel_rfl) Tryz.ntmps39 (rs := Tryz.f39.results.toList) rfl (by simp) (fun G => ?_)
  repeat' first
    | refine J_seq ?_ | refine J_region Tryz.tyOK ?_ | refine J_block ?_ | refine J_cond ?_ | refine J_ret ?_ | refine J_skip ?_ | refine J_exit ?_ | refine J_scope ?_
    | refine CondP.yes (by omega) ?_ | refine CondP.no (by omega) ?_ | refine CondP.mk (fun h => ?_) (fun h => ?_) | refine EqP.mk rfl ?_ | refine NewP.mk (fun ad => ?_) | refine ArP.exact (by simp only [inR]; omega) ?_ | refine SideP.mk (by first | omega | (dsimp only; omega) | (simp; omega)) ?_
    | refine CallP.mk [_] [_] [] _ c1 (List.Perm.refl _) (fun _ _ => trivial) (fun v L' D' hp => ?_); obtain ⟨rfl, rfl, rfl⟩ := hp | refine AppE.row [_] [] (l.map byteC) (s.map byteC) s.length rfl (SrcE.str _ s rfl rfl rfl) (by show (l.length + s.length) * 1 ≤ _; omega) (fun a' c' => ?_) | refine setK_s1 ?_ | refine FinE.mk (bw 0 ab ty a' c' (l ++ s) rest) [] ⟨a', c', rfl, rfl, rfl⟩ ?_
    | fail
  exact Ents.of (by rw [bw_cons _ _ _ _ _ _ hls, List.length_append, List.map_append]; rfl)
theorem bxString0 (ab ty : Nat) (u : Bool) (a : Option Addr) (c : Nat) (l : List UInt8) (s : List UInt8) (rest : List C) (hb : BTy ty rest.length) (hi : BxI u a c l) (hl : l.length + s.length ≤ 140737488355328) :
    FnS Tryz.prog 39 [.c (.p 0 ab 0), .c (.s s)] (bx 0 ab ty u a c l rest) [] (BxP (.t2 (.c (.i .i64 s.length)) (.c (.raw .nilIface))) 0 ab ty (l ++ s) rest) := by
  by_cases h0 : l = []
  · obtain ⟨rfl, rfl⟩ := hi.h2 h0
    subst h0
    by_cases hs : s = []
    · subst hs
      cases u with
      | false =>
        have c1 := oneCopyFresh ab ty (.sl none 0 0) rest hb
        unfold bx
        refine fn_of_J Tryz.tyOK 7000 Tryz.func39 (by kernel_rfl) (c := Tryz.f39.body.getD .skip) (by kernel_rfl) Tryz.ntmps39 (rs := Tryz.f39.results.toList) rfl (by simp) (fun G => ?_)
        repeat' first
          | refine J_seq ?_ | refine J_region Tryz.tyOK ?_ | refine J_block ?_ | refine J_cond ?_ | refine J_ret ?_ | refine J_skip ?_ | refine J_exit ?_ | refine J_scope ?_
          | refine CondP.yes (by omega) ?_ | refine CondP.no (by omega) ?_ | refine CondP.mk (fun h => ?_) (fun h => ?_) | refine EqP.mk rfl ?_ | refine NewP.mk (fun ad => ?_) | refine ArP.exact (by simp only [inR]; omega) ?_ | refine SideP.mk (by first | omega | (dsimp only; omega) | (simp; omega)) ?_
          | refine CallP.mk [_] [_] [] _ c1 (List.Perm.refl _) (fun _ _ => trivial) (fun v L' D' hp => ?_); obtain ⟨rfl, rfl, rfl⟩ := hp | refine AppE.pre [_] [] 0 none [] [] [] 0 rfl rfl (SrcE.str _ [] rfl rfl rfl) (Nat.le_refl 0) rfl ?_ | refine setK_s1 ?_ | exact FinE.mk _ [] ⟨true, none, 0, bxI_nil, rfl, rfl, rfl⟩ (Ents.refl _ _)
          | fail
        all_goals trace_state
      | true =>
        have c1 := oneCopyUsed ab ty (.sl none 0 0) rest
        unfold bx
        refine fn_of_J Tryz.tyOK 7000 Tryz.func39 (by kernel_rfl) (c := Tryz.f39.body.getD .skip) (by kernel_rfl) Tryz.ntmps39 (rs := Tryz.f39.results.toList) rfl (by simp) (fun G => ?_)
        repeat' first
          | refine J_seq ?_ | refine J_region Tryz.tyOK ?_ | refine J_block ?_ | refine J_cond ?_ | refine J_ret ?_ | refine J_skip ?_ | refine J_exit ?_ | refine J_scope ?_
          | refine CondP.yes (by omega) ?_ | refine CondP.no (by omega) ?_ | refine CondP.mk (fun h => ?_) (fun h => ?_) | refine EqP.mk rfl ?_ | refine NewP.mk (fun ad => ?_) | refine ArP.exact (by simp only [inR]; omega) ?_ | refine SideP.mk (by first | omega | (dsimp only; omega) | (simp; omega)) ?_
          | refine CallP.mk [_] [_] [] _ c1 (List.Perm.refl _) (fun _ _ => trivial) (fun v L' D' hp => ?_); obtain ⟨rfl, rfl, rfl⟩ := hp | refine AppE.pre [_] [] 0 none [] [] [] 0 rfl rfl (SrcE.str _ [] rfl rfl rfl) (Nat.le_refl 0) rfl ?_ | refine setK_s1 ?_ | exact FinE.mk _ [] ⟨true, none, 0, bxI_nil, rfl, rfl, rfl⟩ (Ents.refl _ _)
          | fail
        all_goals trace_state
    · cases u with
      | false =>
        have h := bwString0 ab ty none 0 [] s rest hb hs hl
        rw [bw_nil] at h
        exact ((FnS.pre (bx_fresh 0 ab ty rest) h).mono fun v L D hp => bw_post (by simpa using hs) hp)
      | true =>
        have c1 := oneCopyUsed ab ty (.sl none 0 0) rest
        have hls : [] ++ s ≠ [] := by simpa using hs
        unfold bx
        refine fn_of_J Tryz.tyOK 7000 Tryz.func39 (by kernel_rfl) (c := Tryz.f39.body.getD .skip) (by kernel_rfl) Tryz.ntmps39 (rs := Tryz.f39.results.toList) rfl (by simp) (fun G => ?_)
        repeat' first
          | refine J_seq ?_ | refine J_region Tryz.tyOK ?_ | refine J_block ?_ | refine J_cond ?_ | refine J_ret ?_ | refine J_skip ?_ | refine J_exit ?_ | refine J_scope ?_
          | refine CondP.yes (by omega) ?_ | refine CondP.no (by omega) ?_ | refine CondP.mk (fun h => ?_) (fun h => ?_) | refine EqP.mk rfl ?_ | refine NewP.mk (fun ad => ?_) | refine ArP.exact (by simp only [inR]; omega) ?_ | refine SideP.mk (by first | omega | (dsimp only; omega) | (simp; omega)) ?_
          | refine CallP.mk [_] [_] [] _ c1 (List.Perm.refl _) (fun _ _ => trivial) (fun v L' D' hp => ?_); obtain ⟨rfl, rfl, rfl⟩ := hp | refine AppE.row [_] [] [] (s.map byteC) s.length rfl (SrcE.str _ s rfl rfl rfl) (by show (0 + s.length) * 1 ≤ _; simp only [List.length_nil] at hl; omega) (fun a' c' => ?_) | refine setK_s1 ?_ | refine FinE.mk (bx 0 ab ty true a' c' ([] ++ s) rest) [] ⟨true, a', c', bxI_ne hls, rfl, rfl, rfl⟩ ?_
          | fail
        exact Ents.of (by unfold bx; simp)
  · have hu := bxI_used hi h0
    subst hu
    rw [bx_bw _ _ _ _ _ _ h0]
    exact (bxMore0 ab ty a c l s rest h0 hl).mono fun v L D hp => bw_post (by simp [h0]) hp
theorem bxString_ok (id ab ty : Nat) (u : Bool) (a : Option Addr) (c : Nat) (l : List UInt8) (s : List UInt8) (rest : List C) (hb : BTy ty rest.length) (hi : BxI u a c l) (hl : l.length + s.length ≤ 140737488355328) :
    FnS Tryz.prog 39 [.c (.p id ab 0), .c (.s s)] (bx id ab ty u a c l rest) [] (BxP (.t2 (.c (.i .i64 s.length)) (.c (.raw .nilIface))) id ab ty (l ++ s) rest) :=
  (bxString0 ab ty u a c l s rest hb hi hl).same rfl (bx_same _ _ _ _ _ _ _ _ _) fun v L1 D1 ⟨u', a', c', h0, h1, h2, h3⟩ => ⟨_, h2 ▸ bx_same 0 id ab ty u' a' c' (l ++ s) rest, u', a', c', h0, h1, rfl, h3⟩
theorem bxByte0 (ab ty : Nat) (u : Bool) (a : Option Addr) (c : Nat) (l : List UInt8) (s : UInt8) (rest : List C) (hb : BTy ty rest.length) (hi : BxI u a c l) (hl : l.length + 1 ≤ 140737488355328) :
    FnS Tryz.prog 41 [.c (.p 0 ab 0), .c (byteC s)] (bx 0 ab ty u a c l rest) [] (BxP (.c (.raw .nilIface)) 0 ab ty (l ++ [s]) rest) := by
  have hls : l ++ [s] ≠ [] := by simp
  by_cases h0 : l = []
  · obtain ⟨rfl, rfl⟩ := hi.h2 h0
    subst h0
    cases u with
    | false =>
      have h := bwByte0 ab ty none 0 [] s rest hb hl
      rw [bw_nil] at h
      exact ((FnS.pre (bx_fresh 0 ab ty rest) h).mono fun v L D hp => bw_post hls hp)
    | true =>
      have c1 := oneCopyUsed ab ty (.sl none 0 0) rest
      unfold bx
      refine fn_of_J Tryz.tyOK 7000 Tryz.func41 (by kernel_rfl) (c := Tryz.f41.body.getD .skip) (by kernel_rfl) Tryz.ntmps41 (rs := Tryz.f41.results.toList) rfl (by simp) (fun G => ?_)
      repeat' first
        | refine J_seq ?_ | refine J_region Tryz.tyOK ?_ | refine J_block ?_ | refine J_cond ?_ | refine J_ret ?_ | refine J_skip ?_ | refine J_exit ?_ | refine J_scope ?_
        | refine CondP.yes (by omega) ?_ | refine CondP.no (by omega) ?_ | refine CondP.mk (fun h => ?_) (fun h => ?_) | refine EqP.mk rfl ?_ | refine NewP.mk (fun ad => ?_) | refine ArP.exact (by simp only [inR]; omega) ?_ | refine SideP.mk (by first | omega | (dsimp only; omega) | (simp; omega)) ?_
        | refine CallP.mk [_] [_] [] _ c1 (List.Perm.refl _) (fun _ _ => trivial) (fun v L' D' hp => ?_); obtain ⟨rfl, rfl, rfl⟩ := hp | refine AppE.row [_, _] [] [] ([s].map byteC) 1 rfl (SrcE.sl 5 5 _ _ _ _ [byteC s] rfl rfl (.inl ⟨1, List.Mem.head _⟩) rfl) (by show (0 + 1) * 1 ≤ _; decide) (fun a' c' => ?_) | refine setK_s1 ?_ | refine FinE.mk (bx 0 ab ty true a' c' ([] ++ [s]) rest) [] ⟨true, a', c', bxI_ne hls, rfl, rfl, rfl⟩ ?_
        | fail
      exact Ents.drop.trans (Ents.of (by unfold bx; simp))
  · have hu := bxI_used hi h0
    subst hu
    rw [bx_bw _ _ _ _ _ _ h0]
    exact (bwByte0 ab ty a c l s rest hb hl).mono fun v L D hp => bw_post hls hp
theorem bxByte_ok (id ab ty : Nat) (u : Bool) (a : Option Addr) (c : Nat) (l : List UInt8) (s : UInt8) (rest : List C) (hb : BTy ty rest.length) (hi : BxI u a c l) (hl : l.length + 1 ≤ 140737488355328) :
    FnS Tryz.prog 41 [.c (.p id ab 0), .c (byteC s)] (bx id ab ty u a c l rest) [] (BxP (.c (.raw .nilIface)) id ab ty (l ++ [s]) rest) :=
  (bxByte0 ab ty u a c l s rest hb hi hl).same rfl (bx_same _ _ _ _ _ _ _ _ _) fun v L1 D1 ⟨u', a', c', h0, h1, h2, h3⟩ => ⟨_, h2 ▸ bx_same 0 id ab ty u' a' c' (l ++ [s]) rest, u', a', c', h0, h1, rfl, h3⟩
theorem bxText0 (ab ty : Nat) (u : Bool) (a : Option Addr) (c : Nat) (l : List UInt8) (rest : List C) (hi : BxI u a c l) : FnS Tryz.prog 44 [.c (.p 0 ab 0)] (bx 0 ab ty u a c l rest) [] (Is (.c (.s l))) := by
  by_cases h0 : l = []
  · obtain ⟨rfl, rfl⟩ := hi.h2 h0
    subst h0
    cases u with
    | false =>
      have h := bwText0 ab ty none 0 [] rest
      rw [bw_nil] at h
      exact FnS.pre (bx_fresh 0 ab ty rest) h
    | true =>
      unfold bx
      refine fn_of_J Tryz.tyOK 7000 Tryz.func44 (by kernel_rfl) (c := Tryz.f44.body.getD .skip) (by kernel_rfl) Tryz.ntmps44 (rs := Tryz.f44.results.toList) rfl (by simp) (fun G => ?_)
      repeat' first
        | refine J_seq ?_ | refine J_region Tryz.tyOK ?_ | refine J_block ?_ | refine J_cond ?_ | refine J_ret ?_ | refine J_skip ?_ | refine J_exit ?_ | refine J_scope ?_
        | refine CondP.yes (by omega) ?_ | refine CondP.no (by omega) ?_ | refine CondP.mk (fun h => ?_) (fun h => ?_) | refine EqP.mk rfl ?_ | refine NewP.mk (fun ad => ?_) | refine ArP.exact (by simp only [inR]; omega) ?_ | refine SideP.mk (by first | omega | (dsimp only; omega) | (simp; omega)) ?_
        | refine J_drawS (id := 1) Tryz.tyOK (by kernel_rfl) [0, 1, 3, 7, 15, 0, 32, 96, 224, 480, 1023, 2047] [0, 1, 2, 3, 5, 6, 7, 8, 9, 4, 10, 11] [4, 10] [0] false (by kernel_rfl) ?_ | refine EntP.mk (Ents.ofSub (by repeat (first | exact List.Sublist.slnil | refine List.Sublist.cons_cons _ ?_ | refine List.Sublist.cons _ ?_)) (by first | exact fun _ h => h | exact fun _ _ => trivial | exact fun _ h => h.2 | exact fun _ h => h.2.2.2.2 | exact fun _ h => h.2.2 | exact fun _ h => h.2.2.2 | exact fun _ h => h.2.2.2.2.2 | exact fun _ h => h.2.2.2.2.2.2 | exact fun _ h => h.2.2.2.2.2.2.2 | exact fun _ h => h.2.2.2.2.2.2.2.2 | exact fun _ h => h.2.2.2.2.2.2.2.2.2 | exact fun _ h => h.2.2.2.2.2.2.2.2.2.2 | exact fun _ h => ((allD_append _ _).1 h).2)) ?_ | refine SlDataE.nil rfl ?_ | refine StrDataE.nil rfl rfl ?_ | refine FinE.str ?_
        | fail
      rfl
  · have hu := bxI_used hi h0
    subst hu
    rw [bx_bw _ _ _ _ _ _ h0]
    exact bwText0 ab ty a c l rest
theorem bxText_ok (id ab ty : Nat) (u : Bool) (a : Option Addr) (c : Nat) (l : List UInt8) (rest : List C) (hi : BxI u a c l) : FnS Tryz.prog 44 [.c (.p id ab 0)] (bx id ab ty u a c l rest) [] (Is (.c (.s l))) :=
  (bxText0 ab ty u a c l rest hi).same rfl (bx_same _ _ _ _ _ _ _ _ _) fun v L1 D1 h => ⟨L1, ⟨rfl, fun _ => Iff.rfl⟩, h⟩
end Go.Proofs
namespace Go.Proofs
open Go Go.X
set_option maxRecDepth 100000
mutual
def Inl.plain : Inl → List UInt8
  | .mk k t _ _ _ _ _ kids => if k = 1 then t else if k = 2 ∨ k = 3 ∨ k = 4 then inlPlain kids else if k = 6 then [32] else []
def inlPlain : List Inl → List UInt8
  | [] => []
  | x :: r => x.plain ++ inlPlain r
end
theorem Inl.plain_eq (x : Inl) : x.plain = if x.kind = 1 then x.text else if x.kind = 2 ∨ x.kind = 3 ∨ x.kind = 4 then inlPlain x.kids else if x.kind = 6 then [32] else [] := by cases x; rw [Inl.plain]; rfl
theorem inlPlain_append : ∀ (l k : List Inl), inlPlain (l ++ k) = inlPlain l ++ inlPlain k
  | [], k => by simp [inlPlain]
  | x :: r, k => by simp only [List.cons_append, inlPlain, inlPlain_append r k, List.append_assoc]
theorem inlPlain_succ {l : List Inl} {i : Nat} (h : i < l.length) : inlPlain (l.take (i + 1)) = inlPlain (l.take i) ++ l[i].plain := by
  rw [List.take_succ_eq_append_getElem h, inlPlain_append]
  simp only [inlPlain, List.append_nil]
mutual
theorem Inl.plain_le : ∀ x : Inl, x.plain.length ≤ x.bulk
  | .mk k t s n a ka kc kids => by
    have := inlPlain_le kids
    rw [Inl.plain, Inl.bulk]
    split
    · omega
    split
    · omega
    split
    · simp only [List.length_singleton]; omega
    · simp
theorem inlPlain_le : ∀ l : List Inl, (inlPlain l).length ≤ inlBulk l
  | [] => Nat.le_refl _
  | x :: r => by
    have h1 := Inl.plain_le x
    have h2 := inlPlain_le r
    rw [inlPlain, inlBulk, List.length_append]; omega
end
theorem inlBulk_succ {l : List Inl} {i : Nat} (h : i < l.length) : inlBulk (l.take (i + 1)) = inlBulk (l.take i) + l[i].bulk := by
  rw [List.take_succ_eq_append_getElem h, inlBulk_append]
  simp [inlBulk]
theorem inlBulk_take_le (l : List Inl) (i : Nat) : inlBulk (l.take i) ≤ inlBulk l := by
  have := inlBulk_append (l.take i) (l.drop i)
  rw [List.take_append_drop] at this; omega
theorem Inl.bulk_eq (x : Inl) : x.bulk = 1 + x.text.length + x.name.length + x.anchor.length + inlBulk x.kids := by cases x; rw [Inl.bulk]; rfl
theorem blkBulk_succ {l : List Blk} {i : Nat} (h : i < l.length) : blkBulk (l.take (i + 1)) = blkBulk (l.take i) + l[i].bulk := by
  rw [List.take_succ_eq_append_getElem h, blkBulk_append]
  simp [blkBulk]
theorem blkBulk_take_le (l : List Blk) (i : Nat) : blkBulk (l.take i) ≤ blkBulk l := by
  have := blkBulk_append (l.take i) (l.drop i)
  rw [List.take_append_drop] at this; omega
theorem Blk.bulk_eq (x : Blk) : x.bulk = 1 + x.text.length + inlBulk x.inl + blkBulk x.kids := by cases x; rw [Blk.bulk]; rfl
theorem plain_ok (n : Nat) : ∀ (els : List Inl), inlBulk els = n → ∀ (ia : Option Addr) (ic ab : Nat) (u : Bool) (a : Option Addr) (c : Nat) (o : List UInt8), BxI u a c o → o.length + n ≤ 20000000 →
    FnS Tryz.prog 95 [.c (.p 0 ab 0), .c (.sl ia els.length ic)] (bx 0 ab 66 u a c o []) [inlF ia els] (BxP .t0 0 ab 66 (o ++ inlPlain els) []) := by
  induction n using Nat.strongRecOn with | _ n ih
  intro els hn ia ic ab u a c o hi ho
  have hel := inlNodes_len els
  have hnb := inlNodes_bulk els
  refine fn_of_J Tryz.tyOK 7000 Tryz.func95 (by kernel_rfl) (c := Tryz.f95.body.getD .skip) (by kernel_rfl) Tryz.ntmps95 (rs := Tryz.f95.results.toList) rfl (by simp) (fun G => ?_)
  repeat' first
    | refine J_seq ?_ | refine J_region Tryz.tyOK ?_ | refine J_block ?_ | refine J_cond ?_ | refine J_ret ?_ | refine J_skip ?_ | refine J_exit ?_ | refine J_scope ?_
    | refine CondP.yes (by omega) ?_ | refine CondP.no (by omega) ?_ | refine CondP.mk (fun h => ?_) (fun h => ?_) | refine EqP.mk rfl ?_ | refine NewP.mk (fun ad => ?_) | refine ArP.exact (by simp only [inR]; omega) ?_ | refine SideP.mk (by first | omega | (dsimp only; omega) | (simp; omega)) ?_
    | fail
  refine J_loop (α := Nat × List UInt8 × Bool × Option Addr × Nat) (fun x => [(0, .c (.p 0 ab 0)), (6, .c (.sl ia els.length ic)), (7, lenV els.length), (8, .c (.i .i64 x.1))])
    (fun x => bx 0 ab 66 x.2.2.1 x.2.2.2.1 x.2.2.2.2 x.2.1 []) (fun _ => [inlF ia els]) 7000 (fun x => x.1 ≤ els.length ∧ x.2.1 = o ++ inlPlain (els.take x.1) ∧ BxI x.2.2.1 x.2.2.2.1 x.2.2.2.2 x.2.1) (fun x => els.length - x.1)
    (InFam.mk (0, o, u, a, c) ⟨Nat.zero_le _, by simp [inlPlain], hi⟩ (by repeat' first | exact SubE.nil | refine SubE.cons rfl ?_ ?_ | exact VEq.refl _ | refine VEq.int (by omega) | refine VEq.sl rfl (by first | rfl | omega | (rw [List.length_append]; rfl) | (simp; omega)) rfl) (Ents.refl _ _)) (fun x hx => ?_)
  obtain ⟨i, w, u, a, c⟩ := x
  obtain ⟨hi, hw, hbi⟩ := hx
  dsimp only at hi hw hbi ⊢
  by_cases hlt : i < els.length
  · have hst := inlPlain_succ hlt
    have hbs := inlBulk_succ hlt
    have hbt := inlBulk_take_le els (i + 1)
    have hbe := Inl.bulk_eq els[i]
    have hpl := inlPlain_le (els.take i)
    have hwl : w.length ≤ o.length + inlBulk (els.take i) := by rw [hw, List.length_append]; omega
    have hstep : o ++ inlPlain (els.take (i + 1)) = w ++ els[i].plain := by rw [hst, hw, List.append_assoc]
    have hpe := Inl.plain_eq els[i]
    have hfk := inl_kids (a := ia) hlt
    have hcg : ((inlC els).drop (i * 6 + 0)).take 6 = els[i].cells := inlC_get (o := 0) (k := 6) hlt (by omega)
    have hrd : ∀ L, Reads L [inlF ia els] 102 6 ia els.length (inlC els) := fun _ => inl_reads (fun _ h => h)
    have hca := ih (inlBulk els[i].kids) (by omega) els[i].kids rfl els[i].ka els[i].kc ab u a c w hbi (by omega)
    clear ih hst hw
    generalize els[i] = x at *
    unfold Inl.cells at hcg
    have h1 : x.kind = 1 → x.plain = x.text := fun h => by rw [hpe, if_pos h]
    have h2 : ¬ x.kind = 1 → (x.kind = 2 ∨ x.kind = 3 ∨ x.kind = 4) → x.plain = inlPlain x.kids := fun h h' => by rw [hpe, if_neg h, if_pos h']
    have h3 : ¬ x.kind = 1 → ¬ (x.kind = 2 ∨ x.kind = 3 ∨ x.kind = 4) → x.kind = 6 → x.plain = [32] := fun h h' h'' => by rw [hpe, if_neg h, if_neg h', if_pos h'']
    have h4 : ¬ x.kind = 1 → ¬ (x.kind = 2 ∨ x.kind = 3 ∨ x.kind = 4) → ¬ x.kind = 6 → x.plain = [] := fun h h' h'' => by rw [hpe, if_neg h, if_neg h', if_neg h'']
    clear hpe
    have s1 := bxString_ok 0 ab 66 u a c w x.text [] bty0 hbi (by omega)
    have s2 := bxByte_ok 0 ab 66 u a c w 32 [] bty0 hbi (by omega)
    repeat' first
      | refine J_seq ?_ | refine J_region Tryz.tyOK ?_ | refine J_block ?_ | refine J_cond ?_ | refine J_ret ?_ | refine J_skip ?_ | refine J_exit ?_ | refine J_scope ?_
      | refine CondP.yes (by omega) ?_ | refine CondP.no (by omega) ?_ | refine CondP.mk (fun h => ?_) (fun h => ?_) | refine EqP.mk rfl ?_ | refine NewP.mk (fun ad => ?_) | refine ArP.exact (by simp only [inR]; omega) ?_ | refine SideP.mk (by first | omega | (dsimp only; omega) | (simp; omega)) ?_
      | refine IdxE.mk 102 6 _ (hrd _) (by omega) (by omega) ?_ | refine LoadE.mk 102 els.length _ _ (hrd _) (by omega) (by omega) (by decide) (by exact hcg) ?_ | (refine CallP.mk _ [_] [] _ s1 (List.perm_append_comm (l₁ := [_])) (fun _ _ => trivial) (fun v L' D' hp => ?_); obtain ⟨u', a', c', hi', rfl, rfl, rfl⟩ := hp) | (refine CallP.mk _ [_] [] _ s2 (List.perm_append_comm (l₁ := [_])) (fun _ _ => trivial) (fun v L' D' hp => ?_); obtain ⟨u', a', c', hi', rfl, rfl, rfl⟩ := hp) | (refine CallP.mk _ [_] [inlF x.ka x.kids] _ hca (List.perm_append_comm (l₁ := [_])) hfk (fun v L' D' hp => ?_); obtain ⟨u', a', c', hi', rfl, rfl, rfl⟩ := hp)
      | fail
    all_goals first
      | (have hxx := h1 (by assumption)
         refine Round.mk (i + 1, w ++ x.text, u', a', c') (by dsimp only; omega) ⟨by dsimp only; omega, by dsimp only; rw [hstep, hxx], hi'⟩ (by repeat' first | exact SubE.nil | refine SubE.cons rfl ?_ ?_ | exact VEq.refl _ | refine VEq.int (by omega)) (Ents.sub ⟨_, List.perm_append_comm⟩))
      | (have hxx := h2 (by assumption) (by omega)
         refine Round.mk (i + 1, w ++ inlPlain x.kids, u', a', c') (by dsimp only; omega) ⟨by dsimp only; omega, by dsimp only; rw [hstep, hxx], hi'⟩ (by repeat' first | exact SubE.nil | refine SubE.cons rfl ?_ ?_ | exact VEq.refl _ | refine VEq.int (by omega)) (Ents.sub ⟨_, List.perm_append_comm⟩))
      | (have hxx := h3 (by assumption) (by omega) (by assumption)
         refine Round.mk (i + 1, w ++ [32], u', a', c') (by dsimp only; omega) ⟨by dsimp only; omega, by dsimp only; rw [hstep, hxx], hi'⟩ (by repeat' first | exact SubE.nil | refine SubE.cons rfl ?_ ?_ | exact VEq.refl _ | refine VEq.int (by omega)) (Ents.sub ⟨_, List.perm_append_comm⟩))
      | (have hxx := h4 (by assumption) (by omega) (by assumption)
         refine Round.mk (i + 1, w, u, a, c) (by dsimp only; omega) ⟨by dsimp only; omega, by dsimp only; rw [hstep, hxx, List.append_nil], hbi⟩ (by repeat' first | exact SubE.nil | refine SubE.cons rfl ?_ ?_ | exact VEq.refl _ | refine VEq.int (by omega)) Ents.drop)
  · have hil : i = els.length := by omega
    subst hil
    rw [List.take_length] at hw
    subst hw
    repeat' first
      | refine J_seq ?_ | refine J_region Tryz.tyOK ?_ | refine J_block ?_ | refine J_cond ?_ | refine J_ret ?_ | refine J_skip ?_ | refine J_exit ?_ | refine J_scope ?_
      | refine CondP.yes (by omega) ?_ | refine CondP.no (by omega) ?_ | refine CondP.mk (fun h => ?_) (fun h => ?_) | refine EqP.mk rfl ?_ | refine NewP.mk (fun ad => ?_) | refine ArP.exact (by simp only [inR]; omega) ?_ | refine SideP.mk (by first | omega | (dsimp only; omega) | (simp; omega)) ?_
      | refine FinE.mk _ [] ⟨u, a, c, hbi, rfl, rfl, rfl⟩ (Ents.facts fun _ _ => trivial)
      | fail
theorem inlinePlain_ok (els : List Inl) (hb : inlBulk els ≤ 20000000) (ia : Option Addr) (ic : Nat) : FnS Tryz.prog 60 [.c (.sl ia els.length ic)] [] [inlF ia els] (Is (.c (.s (inlPlain els)))) := by
  have c1 := fun ab => plain_ok _ els rfl ia ic ab false none 0 [] bxI0 (by simpa using hb)
  simp only [List.nil_append] at c1
  generalize inlPlain els = o at *
  refine fn_of_J Tryz.tyOK 0 Tryz.func60 (by kernel_rfl) (c := Tryz.f60.body.getD .skip) (by kernel_rfl) Tryz.ntmps60 (rs := Tryz.f60.results.toList) rfl (by simp) (fun G => ?_)
  repeat' first
    | refine J_seq ?_ | refine J_region Tryz.tyOK ?_ | refine J_block ?_ | refine J_cond ?_ | refine J_ret ?_ | refine J_skip ?_ | refine J_exit ?_ | refine J_scope ?_
    | refine CondP.yes (by omega) ?_ | refine CondP.no (by omega) ?_ | refine CondP.mk (fun h => ?_) (fun h => ?_) | refine EqP.mk rfl ?_ | refine NewP.mk (fun ad => ?_) | refine ArP.exact (by simp only [inR]; omega) ?_ | refine SideP.mk (by first | omega | (dsimp only; omega) | (simp; omega)) ?_
    | (refine CallP.mkE _ [] [_] _ _ (c1 _) ((bx_toFresh 0 _ _ []).trans (Ents.of (List.append_nil _).symm)) (fun _ h => h) (fun v L' D' hp => ?_); obtain ⟨u, a, c, hi, rfl, rfl, rfl⟩ := hp) | (refine CallP.mk _ [] [] _ (bxText_ok 0 _ 66 u a c o [] hi) (by simp) (fun _ _ => trivial) (fun v L' D' hp => ?_); obtain ⟨rfl, rfl, rfl⟩ := hp) | refine FinE.str rfl
    | fail
  all_goals trace_state
theorem refPlain_ok (n : Nat) : ∀ (els : List Inl), inlBulk els = n → ∀ (ia : Option Addr) (ic : Nat), n ≤ 20000000 → FnS Tryz.prog 87 [.c (.sl ia els.length ic)] [] [inlF ia els] (Is (.c (.s (inlPlain els)))) := by
  induction n using Nat.strongRecOn with | _ n ih
  intro els hn ia ic ho
  have hel := inlNodes_len els
  have hnb := inlNodes_bulk els
  refine fn_of_J Tryz.tyOK 0 Tryz.func87 (by kernel_rfl) (c := Tryz.f87.body.getD .skip) (by kernel_rfl) Tryz.ntmps87 (rs := Tryz.f87.results.toList) rfl (by simp) (fun G => ?_)
  repeat' first
    | refine J_seq ?_ | refine J_region Tryz.tyOK ?_ | refine J_block ?_ | refine J_cond ?_ | refine J_ret ?_ | refine J_skip ?_ | refine J_exit ?_ | refine J_scope ?_
    | refine CondP.yes (by omega) ?_ | refine CondP.no (by omega) ?_ | refine CondP.mk (fun h => ?_) (fun h => ?_) | refine EqP.mk rfl ?_ | refine NewP.mk (fun ad => ?_) | refine ArP.exact (by simp only [inR]; omega) ?_ | refine SideP.mk (by first | omega | (dsimp only; omega) | (simp; omega)) ?_
    | fail
  refine J_loop (α := Nat × List UInt8) (fun x => [(0, .c (.sl ia els.length ic)), (3, .c (.s x.2)), (4, .c (.i .i64 x.1))]) (fun _ => []) (fun _ => [inlF ia els]) 0 (fun x => x.1 ≤ els.length ∧ x.2 = inlPlain (els.take x.1)) (fun x => els.length - x.1)
    (InFam.mk (0, []) ⟨Nat.zero_le _, by simp [inlPlain]⟩ (by repeat' first | exact SubE.nil | refine SubE.cons rfl ?_ ?_ | exact VEq.refl _ | refine VEq.int (by omega) | refine VEq.sl rfl (by first | rfl | omega | (rw [List.length_append]; rfl) | (simp; omega)) rfl) (Ents.refl _ _)) (fun x hx => ?_)
  obtain ⟨i, w⟩ := x
  obtain ⟨hi, hw⟩ := hx
  dsimp only at hi hw ⊢
  by_cases hlt : i < els.length
  · have hst := inlPlain_succ hlt
    have hbs := inlBulk_succ hlt
    have hbt := inlBulk_take_le els (i + 1)
    have hbe := Inl.bulk_eq els[i]
    have hpl := inlPlain_le (els.take i)
    have hpk := inlPlain_le els[i].kids
    have hstep : inlPlain (els.take (i + 1)) = w ++ els[i].plain := by rw [hst, hw]
    have hwl : w.length ≤ inlBulk (els.take i) := by rw [hw]; exact hpl
    have hpe := Inl.plain_eq els[i]
    have hfk := inl_kids (a := ia) hlt
    have hg0 : ((inlC els).drop (i * 6 + 0)).take 1 = [.i .i64 els[i].kind] := inlC_get (o := 0) (k := 1) hlt (by omega)
    have hg1 : ((inlC els).drop (i * 6 + 1)).take 1 = [.s els[i].text] := inlC_get (o := 1) (k := 1) hlt (by omega)
    have hg5 : ((inlC els).drop (i * 6 + 5)).take 1 = [.sl els[i].ka els[i].kids.length els[i].kc] := inlC_get (o := 5) (k := 1) hlt (by omega)
    have hrd : ∀ L, Reads L [inlF ia els] 102 6 ia els.length (inlC els) := fun _ => inl_reads (fun _ h => h)
    have hca := ih (inlBulk els[i].kids) (by omega) els[i].kids rfl els[i].ka els[i].kc (by omega)
    clear ih hst hw
    generalize els[i] = x at *
    have h1 : x.kind = 1 → x.plain = x.text := fun h => by rw [hpe, if_pos h]
    have h2 : ¬ x.kind = 1 → (x.kind = 2 ∨ x.kind = 3 ∨ x.kind = 4) → x.plain = inlPlain x.kids := fun h h' => by rw [hpe, if_neg h, if_pos h']
    have h3 : ¬ x.kind = 1 → ¬ (x.kind = 2 ∨ x.kind = 3 ∨ x.kind = 4) → x.kind = 6 → x.plain = [32] := fun h h' h'' => by rw [hpe, if_neg h, if_neg h', if_pos h'']
    have h4 : ¬ x.kind = 1 → ¬ (x.kind = 2 ∨ x.kind = 3 ∨ x.kind = 4) → ¬ x.kind = 6 → x.plain = [] := fun h h' h'' => by rw [hpe, if_neg h, if_neg h', if_neg h'']
    clear hpe
    repeat' first
      | refine J_seq ?_ | refine J_region Tryz.tyOK ?_ | refine J_block ?_ | refine J_cond ?_ | refine J_ret ?_ | refine J_skip ?_ | refine J_exit ?_ | refine J_scope ?_
      | refine CondP.yes (by omega) ?_ | refine CondP.no (by omega) ?_ | refine CondP.mk (fun h => ?_) (fun h => ?_) | refine EqP.mk rfl ?_ | refine NewP.mk (fun ad => ?_) | refine ArP.exact (by simp only [inR]; omega) ?_ | refine SideP.mk (by first | omega | (dsimp only; omega) | (simp; omega)) ?_
      | refine IdxE.mk 102 6 _ (hrd _) (by omega) (by omega) ?_ | refine FldE.mk 102 6 _ _ (hrd _) (by omega) ?_ | refine LoadE.mk 102 els.length _ _ (hrd _) (by omega) (by omega) (by decide) (by exact hg0) ?_ | refine LoadE.mk 102 els.length _ _ (hrd _) (by omega) (by omega) (by decide) (by exact hg1) ?_ | refine LoadE.mk 102 els.length _ _ (hrd _) (by omega) (by omega) (by decide) (by exact hg5) ?_ | refine CallP.is hca ?_ hfk
      | fail
    all_goals first
      | (have hxx := h1 (by assumption)
         refine Round.mk (i + 1, w ++ x.text) (by dsimp only; omega) ⟨by dsimp only; omega, by dsimp only; rw [hstep, hxx]⟩ (by repeat' first | exact SubE.nil | refine SubE.cons rfl ?_ ?_ | exact VEq.refl _ | refine VEq.int (by omega)) (Ents.refl _ _))
      | (have hxx := h2 (by assumption) (by omega)
         refine Round.mk (i + 1, w ++ inlPlain x.kids) (by dsimp only; omega) ⟨by dsimp only; omega, by dsimp only; rw [hstep, hxx]⟩ (by repeat' first | exact SubE.nil | refine SubE.cons rfl ?_ ?_ | exact VEq.refl _ | refine VEq.int (by omega)) (Ents.refl _ _))
      | (have hxx := h3 (by assumption) (by omega) (by assumption)
         refine Round.mk (i + 1, w ++ [32]) (by dsimp only; omega) ⟨by dsimp only; omega, by dsimp only; rw [hstep, hxx]⟩ (by repeat' first | exact SubE.nil | refine SubE.cons rfl ?_ ?_ | exact VEq.refl _ | refine VEq.int (by omega)) (Ents.refl _ _))
      | (have hxx := h4 (by assumption) (by omega) (by assumption)
         refine Round.mk (i + 1, w) (by dsimp only; omega) ⟨by dsimp only; omega, by dsimp only; rw [hstep, hxx, List.append_nil]⟩ (by repeat' first | exact SubE.nil | refine SubE.cons rfl ?_ ?_ | exact VEq.refl _ | refine VEq.int (by omega)) (Ents.refl _ _))
  · have hil : i = els.length := by omega
    subst hil
    rw [List.take_length] at hw
    subst hw
    repeat' first
      | refine J_seq ?_ | refine J_region Tryz.tyOK ?_ | refine J_block ?_ | refine J_cond ?_ | refine J_ret ?_ | refine J_skip ?_ | refine J_exit ?_ | refine J_scope ?_
      | refine CondP.yes (by omega) ?_ | refine CondP.no (by omega) ?_ | refine CondP.mk (fun h => ?_) (fun h => ?_) | refine EqP.mk rfl ?_ | refine NewP.mk (fun ad => ?_) | refine ArP.exact (by simp only [inR]; omega) ?_ | refine SideP.mk (by first | omega | (dsimp only; omega) | (simp; omega)) ?_
      | refine FinE.str rfl
      | fail
end Go.Proofs
namespace Go.X
def hexS : List UInt8 := [48, 49, 50, 51, 52, 53, 54, 55, 56, 57, 65, 66, 67, 68, 69, 70]
def punctS : List UInt8 := [45, 95, 46, 58, 47]
def wikiS : List UInt8 := [47, 119, 105, 107, 105, 47]
def keepP (b : UInt8) : Prop := (97 ≤ (b.toNat : Int) ∧ (b.toNat : Int) ≤ 122) ∨ (65 ≤ (b.toNat : Int) ∧ (b.toNat : Int) ≤ 90) ∨ (48 ≤ (b.toNat : Int) ∧ (b.toNat : Int) ≤ 57) ∨ 0 ≤ Lib.indexByte punctS b
instance (b : UInt8) : Decidable (keepP b) := by unfold keepP; exact inferInstance
def hexB (b : UInt8) : List UInt8 := [hexS.getD (b.toNat / 16) 0, hexS.getD (b.toNat % 16) 0]
def pathB (b : UInt8) : List UInt8 := if b = 32 then [95] else if keepP b then [b] else 37 :: hexB b
def pathS (s : List UInt8) : List UInt8 := s.flatMap pathB
def pathT (sp : Int) (n : List UInt8) : List UInt8 := wikiS ++ pathS (formatT sp n)
theorem pathS_take_succ {s : List UInt8} {i : Nat} (h : i < s.length) : pathS (s.take (i + 1)) = pathS (s.take i) ++ pathB s[i] := by
  unfold pathS
  rw [List.take_succ_eq_append_getElem h, List.flatMap_append]
  simp only [List.flatMap_cons, List.flatMap_nil, List.append_nil]
theorem pathB_len (b : UInt8) : 1 ≤ (pathB b).length ∧ (pathB b).length ≤ 3 := by
  unfold pathB
  split
  · decide
  split
  · exact ⟨Nat.le_refl 1, by show 1 ≤ 3; decide⟩
  · exact ⟨by show 1 ≤ 3; decide, Nat.le_refl 3⟩
theorem pathS_le (s : List UInt8) : (pathS s).length ≤ 3 * s.length := by
  induction s with
  | nil => exact Nat.le_refl _
  | cons b s ih =>
    have := pathB_len b
    simp only [pathS, List.flatMap_cons, List.length_append, List.length_cons] at ih ⊢
    omega
theorem pathStep32 {o r : List UInt8} {y : UInt8} (hst : r = o ++ pathB y) (h : (y.toNat : Int) = 32) : o ++ [95] = r := by
  have hy : y = 32 := UInt8.toNat_inj.1 (by have : (32 : UInt8).toNat = 32 := rfl
                                            omega)
  subst hy; rw [hst]; rfl
theorem pathStepK {o r : List UInt8} {y : UInt8} (hst : r = o ++ pathB y) (h : ¬ (y.toNat : Int) = 32) (hk : keepP y) : o ++ [y] = r := by
  have hy : ¬ y = 32 := fun hh => by subst hh; exact h rfl
  rw [hst]; simp [pathB, hy, hk]
theorem pathStepH {o r : List UInt8} {y : UInt8} (hst : r = o ++ pathB y) (h : ¬ (y.toNat : Int) = 32) (hk : ¬ keepP y) : o ++ 37 :: hexB y = r := by
  have hy : ¬ y = 32 := fun hh => by subst hh; exact h rfl
  rw [hst]; simp [pathB, hy, hk]
end Go.X
namespace Go.Proofs
open Go Go.X
set_option maxRecDepth 100000
theorem shr4 (y : UInt8) : ((y.toNat : Int).fdiv (2 ^ min (Int.toNat 4) IntKind.u8.bits)) = ((y.toNat / 16 : Nat) : Int) := by
  show (y.toNat : Int).fdiv 16 = _
  rw [Int.fdiv_eq_ediv_of_nonneg _ (by decide)]
  omega
theorem and15_all : ∀ n : Fin 256, bitsV .and .u8 ((n.val : Nat) : Int) 15 = ((n.val % 16 : Nat) : Int) := by decide
theorem and15 (y : UInt8) : bitsV .and .u8 (y.toNat : Int) 15 = ((y.toNat % 16 : Nat) : Int) := and15_all ⟨y.toNat, y.toNat_lt⟩
set_option maxHeartbeats 1000000 in
theorem path_ok (sp : Int) (nm : List UInt8) (hn : nm.length ≤ 1100000) : FnS Tryz.prog 16 [.agg [.i .i64 sp, .s nm]] [] [gInt 0] (Is (.c (.s (pathT sp nm)))) := by
  have hfl := formatT_le sp nm
  have hf := format_ok sp nm hn
  unfold pathT
  generalize formatT sp nm = s at *
  refine fn_of_J Tryz.tyOK 0 Tryz.func16 (by kernel_rfl) (c := Tryz.f16.body.getD .skip) (by kernel_rfl) Tryz.ntmps16 (rs := Tryz.f16.results.toList) rfl (by simp) (fun G => ?_)
  repeat' first
    | refine J_seq ?_ | refine J_region Tryz.tyOK ?_ | refine J_block ?_ | refine J_cond ?_ | refine J_ret ?_ | refine J_skip ?_ | refine J_exit ?_ | refine J_scope ?_
    | refine CondP.yes (by omega) ?_ | refine CondP.no (by omega) ?_ | refine CondP.mk (fun h => ?_) (fun h => ?_) | refine EqP.mk rfl ?_ | refine NewP.mk (fun ad => ?_) | refine ArP.exact (by simp only [inR]; omega) ?_ | refine SideP.mk (by first | omega | (dsimp only; omega) | (simp; omega)) ?_
    | refine CallP.is hf ?_ | (refine CallP.mk [_] [_] [] _ (bwString_ok 1 _ _ none 0 [] wikiS [] bty0 (by decide) (by decide)) (List.Perm.refl _) (fun _ _ => trivial) (fun v L' D' hp => ?_); obtain ⟨a0, c0, rfl, rfl, rfl⟩ := hp) | refine NewB.mk (fun ad2 c2 => ?_)
    | fail
  refine J_loop (α := Nat × List UInt8 × Option Addr × Nat) (fun x => [(3, .c (.p 1 ad 0)), (9, .c (.sl (some ⟨ad2, 0, none⟩) s.length c2)), (10, lenV s.length), (11, .c (.i .i64 x.1))])
    (fun x => bw 1 ad 66 x.2.2.1 x.2.2.2 x.2.1 []) (fun _ => [slFact 5 1 (some ⟨ad2, 0, none⟩) s.length (s.map byteC)]) 7000 (fun x => x.1 ≤ s.length ∧ x.2.1 = wikiS ++ pathS (s.take x.1)) (fun x => s.length - x.1)
    (InFam.mk (0, wikiS, a0, c0) ⟨Nat.zero_le _, rfl⟩ (by repeat' first | exact SubE.nil | refine SubE.cons rfl ?_ ?_ | exact VEq.refl _ | refine VEq.int (by omega) | refine VEq.sl rfl (by first | rfl | omega | (rw [List.length_append]; rfl) | (simp; omega)) rfl) (Ents.toFact.trans ((Ents.sub ⟨_, List.perm_append_comm⟩).trans (Ents.facts fun _ h => ⟨h.1, trivial⟩)))) (fun x hx => ?_)
  obtain ⟨i, o, a, c⟩ := x
  obtain ⟨hi, ho⟩ := hx
  dsimp only at hi ho ⊢
  by_cases hlt : i < s.length
  · have hst : wikiS ++ pathS (s.take (i + 1)) = o ++ pathB s[i] := by rw [pathS_take_succ hlt, ho, List.append_assoc]
    have hol : o.length ≤ 6 + 3 * 109 := by
      have := pathS_le (s.take i)
      rw [ho, List.length_append]
      simp only [List.length_take] at this
      have : wikiS.length = 6 := rfl
      omega
    have hrd : ∀ L, Reads L [slFact 5 1 (some ⟨ad2, 0, none⟩) s.length (s.map byteC)] 5 1 (some ⟨ad2, 0, none⟩) s.length (s.map byteC) := fun _ => .inr fun _ h => h.1
    have hld : ((s.map byteC).drop (Int.toNat (i : Int) * 1 + 0)).take 1 = [byteC s[i]] := by
      simp only [Int.toNat_natCast, Nat.mul_one, Nat.add_zero]
      rw [List.drop_eq_getElem_cons (by simpa using hlt)]
      simp
    generalize s[i] = y at *
    have hy := y.toNat_lt
    repeat' first
      | refine J_seq ?_ | refine J_region Tryz.tyOK ?_ | refine J_block ?_ | refine J_cond ?_ | refine J_ret ?_ | refine J_skip ?_ | refine J_exit ?_ | refine J_scope ?_
      | refine CondP.yes (by omega) ?_ | refine CondP.no (by omega) ?_ | refine CondP.mk (fun h => ?_) (fun h => ?_) | refine EqP.mk rfl ?_ | refine NewP.mk (fun ad => ?_) | refine ArP.exact (by simp only [inR]; omega) ?_ | refine SideP.mk (by first | omega | (dsimp only; omega) | (simp; omega)) ?_
      | refine IdxE.mk 5 1 _ (hrd _) (by omega) (by omega) ?_ | refine LoadE.mk 5 s.length _ [byteC y] (hrd _) (by omega) (by omega) (by decide) (by exact hld) ?_ | refine CallP.is (indexByte_ok punctS y) ?_ | refine J_drawU (id := 6) Tryz.tyOK (by kernel_rfl) [0, 1, 3, 0, 8, 24, 63, 127] (.fork [0, 1, 2, 3, 4, 5] (.alt 6 (.leaf [7]) (.stop))) [6, 7] [] 7 false (by kernel_rfl) ?_ | refine TwoP.mk ?_ ?_ | refine GoP.mk (by repeat (first | exact keepC_sub _ _ _ | exact List.Sublist.slnil | refine List.Sublist.cons_cons _ ?_ | refine List.Sublist.cons _ ?_)) (by first | exact fun _ h => h | exact fun _ h => h.2 | exact fun _ h => ((allD_append _ _).1 h).2) ?_ | exact trivial | refine EntP.mk (Ents.ofSub (by repeat (first | exact keepC_sub _ _ _ | exact List.Sublist.slnil | refine List.Sublist.cons_cons _ ?_ | refine List.Sublist.cons _ ?_)) (by first | exact fun _ h => h | exact fun _ _ => trivial | exact fun _ h => h.2 | exact fun _ h => h.2.2.2.2 | exact fun _ h => h.2.2 | exact fun _ h => h.2.2.2 | exact fun _ h => h.2.2.2.2.2 | exact fun _ h => h.2.2.2.2.2.2 | exact fun _ h => h.2.2.2.2.2.2.2 | exact fun _ h => h.2.2.2.2.2.2.2.2 | exact fun _ h => h.2.2.2.2.2.2.2.2.2 | exact fun _ h => h.2.2.2.2.2.2.2.2.2.2 | exact fun _ h => ((allD_append _ _).1 h).2)) ?_ | (refine CallP.mk _ [] [] _ (bwByte_ok 1 _ _ a c o 95 [] bty0 (by omega)) (by simp) (fun _ _ => trivial) (fun v L' D' hp => ?_); obtain ⟨a', c', rfl, rfl, rfl⟩ := hp) | (refine CallP.mk _ [] [] _ (bwByte_ok 1 _ _ a c o y [] bty0 (by omega)) (by simp) (fun _ _ => trivial) (fun v L' D' hp => ?_); obtain ⟨a', c', rfl, rfl, rfl⟩ := hp) | rw [shr4] | rw [and15] | refine SideP.mk (by show _ ∧ _ < (16 : Int); omega) ?_ | refine SideP.mk (by rw [and15]; show _ ∧ _ < (16 : Int); omega) ?_ | (refine CallP.mkE _ [] [_] _ _ (bwWrite_ok 1 _ _ a c o (37 :: hexB y) _ _ [] bty0 (by simp) (by show _ + 3 ≤ _; omega)) (Ents.toFact.trans (Ents.of (List.append_nil _).symm)) (fun _ h => ⟨h.1, trivial⟩) (fun v L' D' hp => ?_); obtain ⟨a', c', rfl, rfl, rfl⟩ := hp) | refine Round.mk (i + 1, o ++ [95], a', c') (by dsimp only; omega) ⟨by dsimp only; omega, pathStep32 hst (by omega)⟩ (by repeat' first | exact SubE.nil | refine SubE.cons rfl ?_ ?_ | exact VEq.refl _ | refine VEq.int (by omega) | refine VEq.sl rfl (by first | rfl | omega | (rw [List.length_append]; rfl) | (simp; omega)) rfl) (Ents.of (List.append_nil _)) | refine Round.mk (i + 1, o ++ [y], a', c') (by dsimp only; omega) ⟨by dsimp only; omega, pathStepK hst (by omega) (by unfold keepP; omega)⟩ (by repeat' first | exact SubE.nil | refine SubE.cons rfl ?_ ?_ | exact VEq.refl _ | refine VEq.int (by omega) | refine VEq.sl rfl (by first | rfl | omega | (rw [List.length_append]; rfl) | (simp; omega)) rfl) (Ents.of (List.append_nil _)) | refine Round.mk (i + 1, o ++ 37 :: hexB y, a', c') (by dsimp only; omega) ⟨by dsimp only; omega, pathStepH hst (by omega) (by unfold keepP; omega)⟩ (by repeat' first | exact SubE.nil | refine SubE.cons rfl ?_ ?_ | exact VEq.refl _ | refine VEq.int (by omega) | refine VEq.sl rfl (by first | rfl | omega | (rw [List.length_append]; rfl) | (simp; omega)) rfl) ((Ents.of (List.append_nil _)).trans (Ents.facts fun _ h => ⟨h.2.1, trivial⟩))
      | fail
  · have hil : i = s.length := by omega
    subst hil
    rw [List.take_length] at ho
    subst ho
    repeat' first
      | refine J_seq ?_ | refine J_region Tryz.tyOK ?_ | refine J_block ?_ | refine J_cond ?_ | refine J_ret ?_ | refine J_skip ?_ | refine J_exit ?_ | refine J_scope ?_
      | refine CondP.yes (by omega) ?_ | refine CondP.no (by omega) ?_ | refine CondP.mk (fun h => ?_) (fun h => ?_) | refine EqP.mk rfl ?_ | refine NewP.mk (fun ad => ?_) | refine ArP.exact (by simp only [inR]; omega) ?_ | refine SideP.mk (by first | omega | (dsimp only; omega) | (simp; omega)) ?_
      | refine CallP.mk _ [] [] _ (bwText_ok 1 _ 66 a c (wikiS ++ pathS s) []) (by simp) (fun _ _ => trivial) (fun v L' D' hp => ?_); obtain ⟨rfl, rfl, rfl⟩ := hp | refine FinE.str rfl
      | fail
end Go.Proofs
namespace Go.Proofs
open Go Go.X
set_option maxRecDepth 100000
theorem refHex_ok (y : UInt8) : FnS Tryz.prog 47 [.c (byteC y)] [] [] (Is (.c (.s (hexB y)))) := by
  have hy := y.toNat_lt
  have hq : (y.toNat : Int).tdiv 16 = ((y.toNat / 16 : Nat) : Int) := by
    rw [Int.tdiv_eq_ediv_of_nonneg (by omega)]; omega
  have hm : (y.toNat : Int).tmod 16 = ((y.toNat % 16 : Nat) : Int) := by
    rw [Int.tmod_eq_emod_of_nonneg (by omega)]; omega
  refine fn_of_J Tryz.tyOK 0 Tryz.func47 (by kernel_rfl) (c := Tryz.f47.body.getD .skip) (by kernel_rfl) Tryz.ntmps47 (rs := Tryz.f47.results.toList) rfl (by simp) (fun G => ?_)
  repeat' first
    | refine J_seq ?_ | refine J_region Tryz.tyOK ?_ | refine J_block ?_ | refine J_cond ?_ | refine J_ret ?_ | refine J_skip ?_ | refine J_exit ?_ | refine J_scope ?_
    | refine CondP.yes (by omega) ?_ | refine CondP.no (by omega) ?_ | refine CondP.mk (fun h => ?_) (fun h => ?_) | refine EqP.mk rfl ?_ | refine NewP.mk (fun ad => ?_) | refine ArP.exact (by simp only [inR]; omega) ?_ | refine SideP.mk (by first | omega | (dsimp only; omega) | (simp; omega)) ?_
    | refine J_drawU (id := 2) Tryz.tyOK (by kernel_rfl) [0, 0, 2, 0, 8, 24, 63, 0, 0, 256, 0, 1024, 3072, 8064, 16383, 32767] (.leaf [0, 1, 2, 3, 4, 5, 6, 7, 8, 9, 10, 11, 12, 13, 14, 15]) [] [] 16 true (by kernel_rfl) ?_ | refine TwoP.mk ?_ ?_ | refine GoP.mk (by repeat (first | exact List.Sublist.slnil | refine List.Sublist.cons_cons _ ?_ | refine List.Sublist.cons _ ?_)) (by first | exact fun _ h => h | exact fun _ h => h.2 | exact fun _ h => ((allD_append _ _).1 h).2) ?_ | exact trivial | refine EntP.mk (Ents.ofSub (by repeat (first | exact List.Sublist.slnil | refine List.Sublist.cons_cons _ ?_ | refine List.Sublist.cons _ ?_)) (by first | exact fun _ h => h | exact fun _ _ => trivial | exact fun _ h => h.2 | exact fun _ h => h.2.2.2.2 | exact fun _ h => h.2.2 | exact fun _ h => h.2.2.2 | exact fun _ h => h.2.2.2.2.2 | exact fun _ h => h.2.2.2.2.2.2 | exact fun _ h => h.2.2.2.2.2.2.2 | exact fun _ h => h.2.2.2.2.2.2.2.2 | exact fun _ h => h.2.2.2.2.2.2.2.2.2 | exact fun _ h => h.2.2.2.2.2.2.2.2.2.2 | exact fun _ h => ((allD_append _ _).1 h).2)) ?_ | refine SideP.mk (by decide) ?_ | rw [hq] | rw [hm] | refine SideP.mk (by show _ ∧ _ ∧ _ ≤ (16 : Int); omega) ?_ | refine ArP.exact (by simp only [inR]; rw [hq]; omega) ?_ | refine SideP.mk (by rw [hm]; show _ ∧ _ ∧ _ ≤ (16 : Int); omega) ?_ | refine FinE.str ?_
    | fail
  show hexB y = (hexS.take (y.toNat / 16 + 1)).drop (y.toNat / 16) ++ (hexS.take (y.toNat % 16 + 1)).drop (y.toNat % 16)
  rw [slice_one (s := hexS) (by show _ < 16; omega), slice_one (s := hexS) (by show _ < 16; omega)]
  rfl
set_option maxHeartbeats 1000000 in
theorem refPath_ok (sp : Int) (nm : List UInt8) (hn : nm.length ≤ 1100000) : FnS Tryz.prog 17 [.agg [.i .i64 sp, .s nm]] [] [] (Is (.c (.s (pathT sp nm)))) := by
  have hfl := formatT_le sp nm
  have hf := refFormat_ok sp nm hn
  unfold pathT
  generalize formatT sp nm = s at *
  refine fn_of_J Tryz.tyOK 0 Tryz.func17 (by kernel_rfl) (c := Tryz.f17.body.getD .skip) (by kernel_rfl) Tryz.ntmps17 (rs := Tryz.f17.results.toList) rfl (by simp) (fun G => ?_)
  repeat' first
    | refine J_seq ?_ | refine J_region Tryz.tyOK ?_ | refine J_block ?_ | refine J_cond ?_ | refine J_ret ?_ | refine J_skip ?_ | refine J_exit ?_ | refine J_scope ?_
    | refine CondP.yes (by omega) ?_ | refine CondP.no (by omega) ?_ | refine CondP.mk (fun h => ?_) (fun h => ?_) | refine EqP.mk rfl ?_ | refine NewP.mk (fun ad => ?_) | refine ArP.exact (by simp only [inR]; omega) ?_ | refine SideP.mk (by first | omega | (dsimp only; omega) | (simp; omega)) ?_
    | refine CallP.is hf ?_
    | fail
  refine J_loop (α := Nat × List UInt8) (fun x => [(3, .c (.s s)), (4, .c (.s x.2)), (5, .c (.i .i64 x.1))]) (fun _ => []) (fun _ => []) 0 (fun x => x.1 ≤ s.length ∧ x.2 = wikiS ++ pathS (s.take x.1)) (fun x => s.length - x.1)
    (InFam.mk (0, wikiS) ⟨Nat.zero_le _, rfl⟩ (by repeat' first | exact SubE.nil | refine SubE.cons rfl ?_ ?_ | exact VEq.refl _ | refine VEq.int (by omega) | refine VEq.sl rfl (by first | rfl | omega | (rw [List.length_append]; rfl) | (simp; omega)) rfl) Ents.dropAll) (fun x hx => ?_)
  obtain ⟨i, o⟩ := x
  obtain ⟨hi, ho⟩ := hx
  dsimp only at hi ho ⊢
  by_cases hlt : i < s.length
  · have hst : wikiS ++ pathS (s.take (i + 1)) = o ++ pathB s[i] := by rw [pathS_take_succ hlt, ho, List.append_assoc]
    have hol : o.length ≤ 6 + 3 * 109 := by
      have := pathS_le (s.take i)
      rw [ho, List.length_append]
      simp only [List.length_take] at this
      have : wikiS.length = 6 := rfl
      omega
    have hgd : (s.getD (Int.toNat (i : Int)) 0) = s[i] := by simp [hlt]
    have hgd2 : s.getD i 0 = s[i] := by simp [hlt]
    have h1 := slice_one hlt
    rw [hgd2] at h1
    have hx := refIdx_byte punctS s[i]
    have hidx := index_ok punctS [s[i]] 0 (by decide) (Nat.le_refl 1) (by show 1 ≤ 1100000; decide) (Nat.zero_le _)
    rw [hx] at hidx
    generalize s[i] = y at *
    have h1' : (s.take (Int.toNat ((i : Int) + 1))).drop (Int.toNat (i : Int)) = [y] := h1
    have hy := y.toNat_lt
    have hgn : (s.getD (Int.toNat (i : Int)) 0).toNat = y.toNat := by rw [hgd]
    repeat' first
      | refine J_seq ?_ | refine J_region Tryz.tyOK ?_ | refine J_block ?_ | refine J_cond ?_ | refine J_ret ?_ | refine J_skip ?_ | refine J_exit ?_ | refine J_scope ?_
      | refine CondP.yes (by omega) ?_ | refine CondP.no (by omega) ?_ | refine CondP.mk (fun h => ?_) (fun h => ?_) | refine EqP.mk rfl ?_ | refine NewP.mk (fun ad => ?_) | refine ArP.exact (by simp only [inR]; omega) ?_ | refine SideP.mk (by first | omega | (dsimp only; omega) | (simp; omega)) ?_
      | rw [hgd] | rw [h1'] | refine CallP.is hidx ?_ | refine CallP.is (refHex_ok y) ?_ | refine SideP.mk (by rw [List.length_append]; show _ + 1 + 2 ≤ _; omega) ?_ | refine Round.mk (i + 1, o ++ [95]) (by dsimp only; omega) ⟨by dsimp only; omega, pathStep32 hst (by omega)⟩ (by repeat' first | exact SubE.nil | refine SubE.cons rfl ?_ ?_ | exact VEq.refl _ | refine VEq.int (by omega) | refine VEq.sl rfl (by first | rfl | omega | (rw [List.length_append]; rfl) | (simp; omega)) rfl) (Ents.refl _ _) | refine Round.mk (i + 1, o ++ [y]) (by dsimp only; omega) ⟨by dsimp only; omega, pathStepK hst (by omega) (by unfold keepP; omega)⟩ (by repeat' first | exact SubE.nil | refine SubE.cons rfl ?_ ?_ | exact VEq.refl _ | refine VEq.int (by omega) | refine VEq.sl rfl (by first | rfl | omega | (rw [List.length_append]; rfl) | (simp; omega)) rfl) (Ents.refl _ _) | refine Round.mk (i + 1, o ++ [37] ++ hexB y) (by dsimp only; omega) ⟨by dsimp only; omega, (by rw [List.append_assoc]; exact pathStepH hst (by omega) (by unfold keepP; omega))⟩ (by repeat' first | exact SubE.nil | refine SubE.cons rfl ?_ ?_ | exact VEq.refl _ | refine VEq.int (by omega) | refine VEq.sl rfl (by first | rfl | omega | (rw [List.length_append]; rfl) | (simp; omega)) rfl) (Ents.refl _ _)
      | fail
  · have hil : i = s.length := by omega
    subst hil
    rw [List.take_length] at ho
    subst ho
    repeat' first
      | refine J_seq ?_ | refine J_region Tryz.tyOK ?_ | refine J_block ?_ | refine J_cond ?_ | refine J_ret ?_ | refine J_skip ?_ | refine J_exit ?_ | refine J_scope ?_
      | refine CondP.yes (by omega) ?_ | refine CondP.no (by omega) ?_ | refine CondP.mk (fun h => ?_) (fun h => ?_) | refine EqP.mk rfl ?_ | refine NewP.mk (fun ad => ?_) | refine ArP.exact (by simp only [inR]; omega) ?_ | refine SideP.mk (by first | omega | (dsimp only; omega) | (simp; omega)) ?_
      | refine FinE.str rfl
      | fail
end Go.Proofs
namespace Go.X
def keepA (b : UInt8) : Prop := (97 ≤ (b.toNat : Int) ∧ (b.toNat : Int) ≤ 122) ∨ (65 ≤ (b.toNat : Int) ∧ (b.toNat : Int) ≤ 90) ∨ (48 ≤ (b.toNat : Int) ∧ (b.toNat : Int) ≤ 57) ∨ (b.toNat : Int) = 45 ∨ (b.toNat : Int) = 95 ∨ (b.toNat : Int) = 46 ∨ 127 < (b.toNat : Int)
instance (b : UInt8) : Decidable (keepA b) := by unfold keepA; exact inferInstance
def ancB (b : UInt8) : List UInt8 := if b = 32 then [95] else if keepA b then [b] else 46 :: hexB b
def ancS (s : List UInt8) : List UInt8 := s.flatMap ancB
def ancT19 (s : List UInt8) : List UInt8 := if s = [] then [95] else ancS s
theorem ancS_take_succ {s : List UInt8} {i : Nat} (h : i < s.length) : ancS (s.take (i + 1)) = ancS (s.take i) ++ ancB s[i] := by
  unfold ancS
  rw [List.take_succ_eq_append_getElem h, List.flatMap_append]
  simp only [List.flatMap_cons, List.flatMap_nil, List.append_nil]
theorem ancB_len (b : UInt8) : 1 ≤ (ancB b).length ∧ (ancB b).length ≤ 3 := by
  unfold ancB
  split
  · decide
  split
  · exact ⟨Nat.le_refl 1, by show 1 ≤ 3; decide⟩
  · exact ⟨by show 1 ≤ 3; decide, Nat.le_refl 3⟩
theorem ancS_le (s : List UInt8) : (ancS s).length ≤ 3 * s.length ∧ s.length ≤ (ancS s).length := by
  induction s with
  | nil => exact ⟨Nat.le_refl _, Nat.le_refl _⟩
  | cons b s ih =>
    have := ancB_len b
    simp only [ancS, List.flatMap_cons, List.length_append, List.length_cons] at ih ⊢
    omega
theorem ancT19_le (s : List UInt8) : (ancT19 s).length ≤ 3 * s.length + 1 := by
  unfold ancT19
  split
  · simp
  · have := (ancS_le s).1; omega
theorem ancS_pos {s : List UInt8} (h : s ≠ []) : ¬ ((ancS s).length : Int) = 0 := by
  have := (ancS_le s).2
  have : 0 < s.length := List.length_pos_iff.2 h
  omega
theorem ancStep32 {o r : List UInt8} {y : UInt8} (hst : r = o ++ ancB y) (h : (y.toNat : Int) = 32) : o ++ [95] = r := by
  have hy : y = 32 := UInt8.toNat_inj.1 (by have : (32 : UInt8).toNat = 32 := rfl
                                            omega)
  subst hy; rw [hst]; rfl
theorem ancStepK {o r : List UInt8} {y : UInt8} (hst : r = o ++ ancB y) (h : ¬ (y.toNat : Int) = 32) (hk : keepA y) : o ++ [y] = r := by
  have hy : ¬ y = 32 := fun hh => by subst hh; exact h rfl
  rw [hst]; simp [ancB, hy, hk]
theorem ancStepH {o r : List UInt8} {y : UInt8} (hst : r = o ++ ancB y) (h : ¬ (y.toNat : Int) = 32) (hk : ¬ keepA y) : o ++ 46 :: hexB y = r := by
  have hy : ¬ y = 32 := fun hh => by subst hh; exact h rfl
  rw [hst]; simp [ancB, hy, hk]
end Go.X
namespace Go.Proofs
open Go Go.X
set_option maxRecDepth 100000
set_option maxHeartbeats 1000000 in
theorem anchor_ok (s : List UInt8) (hs : s.length ≤ 10000000) : FnS Tryz.prog 63 [.c (.s s)] [] [] (Is (.c (.s (ancT19 s)))) := by
  refine fn_of_J Tryz.tyOK 0 Tryz.func63 (by kernel_rfl) (c := Tryz.f63.body.getD .skip) (by kernel_rfl) Tryz.ntmps63 (rs := Tryz.f63.results.toList) rfl (by simp) (fun G => ?_)
  repeat' first
    | refine J_seq ?_ | refine J_region Tryz.tyOK ?_ | refine J_block ?_ | refine J_cond ?_ | refine J_ret ?_ | refine J_skip ?_ | refine J_exit ?_ | refine J_scope ?_
    | refine CondP.yes (by omega) ?_ | refine CondP.no (by omega) ?_ | refine CondP.mk (fun h => ?_) (fun h => ?_) | refine EqP.mk rfl ?_ | refine NewP.mk (fun ad => ?_) | refine ArP.exact (by simp only [inR]; omega) ?_ | refine SideP.mk (by first | omega | (dsimp only; omega) | (simp; omega)) ?_
    | fail
  refine J_loop (α := Nat × List UInt8 × Option Addr × Nat) (fun x => [(0, .c (.s s)), (3, .c (.p 0 ad 0)), (7, lenV s.length), (8, .c (.i .i64 x.1))])
    (fun x => bw 0 ad 66 x.2.2.1 x.2.2.2 x.2.1 []) (fun _ => []) 7000 (fun x => x.1 ≤ s.length ∧ x.2.1 = ancS (s.take x.1)) (fun x => s.length - x.1)
    (InFam.mk (0, [], none, 0) ⟨Nat.zero_le _, rfl⟩ (by repeat' first | exact SubE.nil | refine SubE.cons rfl ?_ ?_ | exact VEq.refl _ | refine VEq.int (by omega) | refine VEq.sl rfl (by first | rfl | omega | (rw [List.length_append]; rfl) | (simp; omega)) rfl) (Ents.of (bw_nil _ _ _ _ _ _).symm)) (fun x hx => ?_)
  obtain ⟨i, o, a, c⟩ := x
  obtain ⟨hi, ho⟩ := hx
  dsimp only at hi ho ⊢
  by_cases hlt : i < s.length
  · have hst : ancS (s.take (i + 1)) = o ++ ancB s[i] := by rw [ancS_take_succ hlt, ho]
    have hol : o.length ≤ 30000000 := by
      have := (ancS_le (s.take i)).1
      rw [ho]
      simp only [List.length_take] at this
      omega
    have hgd : (s.getD (Int.toNat (i : Int)) 0) = s[i] := by simp [hlt]
    generalize s[i] = y at *
    have hy := y.toNat_lt
    have hgn : (s.getD (Int.toNat (i : Int)) 0).toNat = y.toNat := by rw [hgd]
    repeat' first
      | rw [hgd]
      | refine J_seq ?_ | refine J_region Tryz.tyOK ?_ | refine J_block ?_ | refine J_cond ?_ | refine J_ret ?_ | refine J_skip ?_ | refine J_exit ?_ | refine J_scope ?_
      | refine CondP.yes (by omega) ?_ | refine CondP.no (by omega) ?_ | refine CondP.mk (fun h => ?_) (fun h => ?_) | refine EqP.mk rfl ?_ | refine NewP.mk (fun ad => ?_) | refine ArP.exact (by simp only [inR]; omega) ?_ | refine SideP.mk (by first | omega | (dsimp only; omega) | (simp; omega)) ?_
      | refine J_drawU (id := 6) Tryz.tyOK (by kernel_rfl) [0, 1, 3, 0, 8, 24, 63, 127] (.fork [0, 1, 2, 3, 4, 5] (.alt 6 (.leaf [7]) (.stop))) [6, 7] [] 7 false (by kernel_rfl) ?_ | refine TwoP.mk ?_ ?_ | refine GoP.mk (by repeat (first | exact keepC_sub _ _ _ | exact List.Sublist.slnil | refine List.Sublist.cons_cons _ ?_ | refine List.Sublist.cons _ ?_)) (by first | exact fun _ h => h | exact fun _ h => h.2 | exact fun _ h => ((allD_append _ _).1 h).2) ?_ | exact trivial | refine EntP.mk (Ents.ofSub (by repeat (first | exact keepC_sub _ _ _ | exact List.Sublist.slnil | refine List.Sublist.cons_cons _ ?_ | refine List.Sublist.cons _ ?_)) (by first | exact fun _ h => h | exact fun _ _ => trivial | exact fun _ h => h.2 | exact fun _ h => h.2.2.2.2 | exact fun _ h => h.2.2 | exact fun _ h => h.2.2.2 | exact fun _ h => h.2.2.2.2.2 | exact fun _ h => h.2.2.2.2.2.2 | exact fun _ h => h.2.2.2.2.2.2.2 | exact fun _ h => h.2.2.2.2.2.2.2.2 | exact fun _ h => h.2.2.2.2.2.2.2.2.2 | exact fun _ h => h.2.2.2.2.2.2.2.2.2.2 | exact fun _ h => ((allD_append _ _).1 h).2)) ?_ | (refine CallP.mk _ [] [] _ (bwByte_ok 0 _ _ a c o 95 [] bty0 (by omega)) (by simp) (fun _ _ => trivial) (fun v L' D' hp => ?_); obtain ⟨a', c', rfl, rfl, rfl⟩ := hp) | (refine CallP.mk _ [] [] _ (bwByte_ok 0 _ _ a c o y [] bty0 (by omega)) (by simp) (fun _ _ => trivial) (fun v L' D' hp => ?_); obtain ⟨a', c', rfl, rfl, rfl⟩ := hp) | rw [shr4] | rw [and15] | refine SideP.mk (by show _ ∧ _ < (16 : Int); omega) ?_ | refine SideP.mk (by rw [and15]; show _ ∧ _ < (16 : Int); omega) ?_ | (refine CallP.mkE _ [] [_] _ _ (bwWrite_ok 0 _ _ a c o (46 :: hexB y) _ _ [] bty0 (by simp) (by show _ + 3 ≤ _; omega)) (Ents.toFact.trans (Ents.of (List.append_nil _).symm)) (fun _ h => ⟨h.1, trivial⟩) (fun v L' D' hp => ?_); obtain ⟨a', c', rfl, rfl, rfl⟩ := hp) | refine Round.mk (i + 1, o ++ [95], a', c') (by dsimp only; omega) ⟨by dsimp only; omega, ancStep32 hst (by omega)⟩ (by repeat' first | exact SubE.nil | refine SubE.cons rfl ?_ ?_ | exact VEq.refl _ | refine VEq.int (by omega) | refine VEq.sl rfl (by first | rfl | omega | (rw [List.length_append]; rfl) | (simp; omega)) rfl) (Ents.of (List.append_nil _)) | refine Round.mk (i + 1, o ++ [y], a', c') (by dsimp only; omega) ⟨by dsimp only; omega, ancStepK hst (by omega) (by unfold keepA; omega)⟩ (by repeat' first | exact SubE.nil | refine SubE.cons rfl ?_ ?_ | exact VEq.refl _ | refine VEq.int (by omega) | refine VEq.sl rfl (by first | rfl | omega | (rw [List.length_append]; rfl) | (simp; omega)) rfl) (Ents.of (List.append_nil _)) | refine Round.mk (i + 1, o ++ 46 :: hexB y, a', c') (by dsimp only; omega) ⟨by dsimp only; omega, ancStepH hst (by omega) (by unfold keepA; omega)⟩ (by repeat' first | exact SubE.nil | refine SubE.cons rfl ?_ ?_ | exact VEq.refl _ | refine VEq.int (by omega) | refine VEq.sl rfl (by first | rfl | omega | (rw [List.length_append]; rfl) | (simp; omega)) rfl) ((Ents.of (List.append_nil _)).trans (Ents.facts fun _ _ => trivial))
      | fail
    all_goals trace_state
  · have hil : i = s.length := by omega
    subst hil
    rw [List.take_length] at ho
    subst ho
    by_cases h0 : s = []
    · have hT : ancT19 s = [95] := if_pos h0
      have hl0 : ((ancS s).length : Int) = 0 := by subst h0; rfl
      rw [hT]
      repeat' first
        | refine CondP.yes hl0 ?_
        | refine J_seq ?_ | refine J_region Tryz.tyOK ?_ | refine J_block ?_ | refine J_cond ?_ | refine J_ret ?_ | refine J_skip ?_ | refine J_exit ?_ | refine J_scope ?_
        | refine CondP.yes (by omega) ?_ | refine CondP.no (by omega) ?_ | refine CondP.mk (fun h => ?_) (fun h => ?_) | refine EqP.mk rfl ?_ | refine NewP.mk (fun ad => ?_) | refine ArP.exact (by simp only [inR]; omega) ?_ | refine SideP.mk (by first | omega | (dsimp only; omega) | (simp; omega)) ?_
        | (refine CallP.mk _ [] [] _ (bwLen_ok 0 _ 66 a c (ancS s) []) (by simp) (fun _ _ => trivial) (fun v L' D' hp => ?_); obtain ⟨rfl, rfl, rfl⟩ := hp) | refine FinE.str rfl
        | fail
      all_goals trace_state
    · have hT : ancT19 s = ancS s := if_neg h0
      have hl0 := ancS_pos h0
      rw [hT]
      repeat' first
        | refine CondP.no hl0 ?_
        | refine J_seq ?_ | refine J_region Tryz.tyOK ?_ | refine J_block ?_ | refine J_cond ?_ | refine J_ret ?_ | refine J_skip ?_ | refine J_exit ?_ | refine J_scope ?_
        | refine CondP.yes (by omega) ?_ | refine CondP.no (by omega) ?_ | refine CondP.mk (fun h => ?_) (fun h => ?_) | refine EqP.mk rfl ?_ | refine NewP.mk (fun ad => ?_) | refine ArP.exact (by simp only [inR]; omega) ?_ | refine SideP.mk (by first | omega | (dsimp only; omega) | (simp; omega)) ?_
        | (refine CallP.mk _ [] [] _ (bwLen_ok 0 _ 66 a c (ancS s) []) (by simp) (fun _ _ => trivial) (fun v L' D' hp => ?_); obtain ⟨rfl, rfl, rfl⟩ := hp) | (refine CallP.mk _ [] [] _ (bwText_ok 0 _ 66 a c (ancS s) []) (by simp) (fun _ _ => trivial) (fun v L' D' hp => ?_); obtain ⟨rfl, rfl, rfl⟩ := hp) | refine FinE.str rfl
        | fail
      all_goals trace_state
theorem letter_ok (y : UInt8) : FnS Tryz.prog 129 [.c (byteC y)] [] [] (fun v L D => ∃ b : Bool, v = .c (.b b) ∧ L = [] ∧ D = [] ∧ (b = true ↔ (97 ≤ (y.toNat : Int) ∧ (y.toNat : Int) ≤ 122) ∨ (65 ≤ (y.toNat : Int) ∧ (y.toNat : Int) ≤ 90) ∨ (48 ≤ (y.toNat : Int) ∧ (y.toNat : Int) ≤ 57))) := by
  have hy := y.toNat_lt
  refine fn_of_J Tryz.tyOK 0 Tryz.func129 (by kernel_rfl) (c := Tryz.f129.body.getD .skip) (by kernel_rfl) Tryz.ntmps129 (rs := Tryz.f129.results.toList) rfl (by simp) (fun G => ?_)
  repeat' first
    | refine J_seq ?_ | refine J_region Tryz.tyOK ?_ | refine J_block ?_ | refine J_cond ?_ | refine J_ret ?_ | refine J_skip ?_ | refine J_exit ?_ | refine J_scope ?_
    | refine CondP.yes (by omega) ?_ | refine CondP.no (by omega) ?_ | refine CondP.mk (fun h => ?_) (fun h => ?_) | refine EqP.mk rfl ?_ | refine NewP.mk (fun ad => ?_) | refine ArP.exact (by simp only [inR]; omega) ?_ | refine SideP.mk (by first | omega | (dsimp only; omega) | (simp; omega)) ?_
    | refine FinE.mk [] [] ⟨true, rfl, rfl, rfl, by simp only [true_iff]; omega⟩ (Ents.refl _ _) | refine FinE.mk [] [] ⟨false, rfl, rfl, rfl, by simp only [Bool.false_eq_true, false_iff]; omega⟩ (Ents.refl _ _)
    | fail
  all_goals trace_state
set_option maxHeartbeats 1000000 in
theorem refAnchor_ok (s : List UInt8) (hs : s.length ≤ 10000000) : FnS Tryz.prog 90 [.c (.s s)] [] [] (Is (.c (.s (ancT19 s)))) := by
  by_cases h0 : s = []
  · subst h0
    refine fn_of_J Tryz.tyOK 0 Tryz.func90 (by kernel_rfl) (c := Tryz.f90.body.getD .skip) (by kernel_rfl) Tryz.ntmps90 (rs := Tryz.f90.results.toList) rfl (by simp) (fun G => ?_)
    repeat' first
      | refine CondP.yes rfl ?_
      | refine J_seq ?_ | refine J_region Tryz.tyOK ?_ | refine J_block ?_ | refine J_cond ?_ | refine J_ret ?_ | refine J_skip ?_ | refine J_exit ?_ | refine J_scope ?_
      | refine CondP.yes (by omega) ?_ | refine CondP.no (by omega) ?_ | refine CondP.mk (fun h => ?_) (fun h => ?_) | refine EqP.mk rfl ?_ | refine NewP.mk (fun ad => ?_) | refine ArP.exact (by simp only [inR]; omega) ?_ | refine SideP.mk (by first | omega | (dsimp only; omega) | (simp; omega)) ?_
      | refine FinE.str rfl
      | fail
    all_goals trace_state
  rw [show ancT19 s = ancS s from if_neg h0]
  refine fn_of_J Tryz.tyOK 0 Tryz.func90 (by kernel_rfl) (c := Tryz.f90.body.getD .skip) (by kernel_rfl) Tryz.ntmps90 (rs := Tryz.f90.results.toList) rfl (by simp) (fun G => ?_)
  repeat' first
    | refine CondP.no h0 ?_
    | refine J_seq ?_ | refine J_region Tryz.tyOK ?_ | refine J_block ?_ | refine J_cond ?_ | refine J_ret ?_ | refine J_skip ?_ | refine J_exit ?_ | refine J_scope ?_
    | refine CondP.yes (by omega) ?_ | refine CondP.no (by omega) ?_ | refine CondP.mk (fun h => ?_) (fun h => ?_) | refine EqP.mk rfl ?_ | refine NewP.mk (fun ad => ?_) | refine ArP.exact (by simp only [inR]; omega) ?_ | refine SideP.mk (by first | omega | (dsimp only; omega) | (simp; omega)) ?_
    | fail
  refine J_loop (α := Nat × List UInt8) (fun x => [(0, .c (.s s)), (3, .c (.s x.2)), (4, .c (.i .i64 x.1))]) (fun _ => []) (fun _ => []) 0 (fun x => x.1 ≤ s.length ∧ x.2 = ancS (s.take x.1)) (fun x => s.length - x.1)
    (InFam.mk (0, []) ⟨Nat.zero_le _, rfl⟩ (by repeat' first | exact SubE.nil | refine SubE.cons rfl ?_ ?_ | exact VEq.refl _ | refine VEq.int (by omega) | refine VEq.sl rfl (by first | rfl | omega | (rw [List.length_append]; rfl) | (simp; omega)) rfl) (Ents.refl _ _)) (fun x hx => ?_)
  obtain ⟨i, o⟩ := x
  obtain ⟨hi, ho⟩ := hx
  dsimp only at hi ho ⊢
  by_cases hlt : i < s.length
  · have hst : ancS (s.take (i + 1)) = o ++ ancB s[i] := by rw [ancS_take_succ hlt, ho]
    have hol : o.length ≤ 30000000 := by
      have := (ancS_le (s.take i)).1
      rw [ho]
      simp only [List.length_take] at this
      omega
    have hgd : (s.getD (Int.toNat (i : Int)) 0) = s[i] := by simp [hlt]
    have hgd2 : s.getD i 0 = s[i] := by simp [hlt]
    have h1 := slice_one hlt
    rw [hgd2] at h1
    generalize s[i] = y at *
    have h1' : (s.take (Int.toNat ((i : Int) + 1))).drop (Int.toNat (i : Int)) = [y] := h1
    have hy := y.toNat_lt
    have hgn : (s.getD (Int.toNat (i : Int)) 0).toNat = y.toNat := by rw [hgd]
    have hlet := letter_ok y
    clear hgd2 h1
    repeat' first
      | rw [hgd]
      | refine J_seq ?_ | refine J_region Tryz.tyOK ?_ | refine J_block ?_ | refine J_cond ?_ | refine J_ret ?_ | refine J_skip ?_ | refine J_exit ?_ | refine J_scope ?_
      | refine CondP.yes (by omega) ?_ | refine CondP.no (by omega) ?_ | refine CondP.mk (fun h => ?_) (fun h => ?_) | refine EqP.mk rfl ?_ | refine NewP.mk (fun ad => ?_) | refine ArP.exact (by simp only [inR]; omega) ?_ | refine SideP.mk (by first | omega | (dsimp only; omega) | (simp; omega)) ?_
      | rw [h1'] | (refine CallP.mk [] [] [] _ hlet (List.Perm.refl _) (fun _ _ => trivial) (fun v L' D' hp => ?_); obtain ⟨b, rfl, rfl, rfl, hb⟩ := hp; cases b <;> simp only [Bool.false_eq_true, false_iff, true_iff] at hb) | refine CallP.is (refHex_ok y) ?_ | refine SideP.mk (by rw [List.length_append]; show _ + 1 + 2 ≤ _; omega) ?_ | refine Round.mk (i + 1, o ++ [95]) (by dsimp only; omega) ⟨by dsimp only; omega, ancStep32 hst (by omega)⟩ (by repeat' first | exact SubE.nil | refine SubE.cons rfl ?_ ?_ | exact VEq.refl _ | refine VEq.int (by omega) | refine VEq.sl rfl (by first | rfl | omega | (rw [List.length_append]; rfl) | (simp; omega)) rfl) (Ents.refl _ _) | refine Round.mk (i + 1, o ++ [y]) (by dsimp only; omega) ⟨by dsimp only; omega, ancStepK hst (by omega) (by unfold keepA; omega)⟩ (by repeat' first | exact SubE.nil | refine SubE.cons rfl ?_ ?_ | exact VEq.refl _ | refine VEq.int (by omega) | refine VEq.sl rfl (by first | rfl | omega | (rw [List.length_append]; rfl) | (simp; omega)) rfl) (Ents.refl _ _) | refine Round.mk (i + 1, o ++ [46] ++ hexB y) (by dsimp only; omega) ⟨by dsimp only; omega, (by rw [List.append_assoc]; exact ancStepH hst (by omega) (by unfold keepA; omega))⟩ (by repeat' first | exact SubE.nil | refine SubE.cons rfl ?_ ?_ | exact VEq.refl _ | refine VEq.int (by omega) | refine VEq.sl rfl (by first | rfl | omega | (rw [List.length_append]; rfl) | (simp; omega)) rfl) (Ents.refl _ _)
      | fail
    all_goals trace_state
  · have hil : i = s.length := by omega
    subst hil
    rw [List.take_length] at ho
    subst ho
    repeat' first
      | refine J_seq ?_ | refine J_region Tryz.tyOK ?_ | refine J_block ?_ | refine J_cond ?_ | refine J_ret ?_ | refine J_skip ?_ | refine J_exit ?_ | refine J_scope ?_
      | refine CondP.yes (by omega) ?_ | refine CondP.no (by omega) ?_ | refine CondP.mk (fun h => ?_) (fun h => ?_) | refine EqP.mk rfl ?_ | refine NewP.mk (fun ad => ?_) | refine ArP.exact (by simp only [inR]; omega) ?_ | refine SideP.mk (by first | omega | (dsimp only; omega) | (simp; omega)) ?_
      | refine FinE.str rfl
      | fail
end Go.Proofs
namespace Go.X
open Go Go.Proofs Go.Lib
structure EntT where
  level : Int
  number : List UInt8
  text : List UInt8
  anchor : List UInt8
def EntT.cells (e : EntT) : List C := [.i .i64 e.level, .s e.number, .s e.text, .s e.anchor]
def entC (es : List EntT) : List C := es.flatMap EntT.cells
theorem entC_get {es : List EntT} {i : Nat} (h : i < es.length) {o k : Nat} (hk : o + k ≤ 4) : ((entC es).drop (i * 4 + o)).take k = (es[i].cells.drop o).take k := flat_get (F := EntT.cells) (z := 4) (fun _ => rfl) h hk
theorem entC_one (es : List EntT) (e : EntT) : entC (es ++ [e]) = entC es ++ e.cells := by simp [entC]
def findP (ls : List Int) (v : Int) : Nat → Option Nat
  | 0 => none
  | k + 1 => if ls.getD k 0 < v then some k else findP ls v k
def parI : Option Nat → Int
  | none => -1
  | some k => k
theorem findP_lt {ls : List Int} {v : Int} : ∀ {k j : Nat}, findP ls v k = some j → j < k
  | 0, _, h => by cases h
  | k + 1, j, h => by
    rw [findP] at h
    split at h
    · cases h; omega
    · have := findP_lt h; omega
theorem findP_snoc (ls : List Int) (x v : Int) : ∀ (k : Nat), k ≤ ls.length → findP (ls ++ [x]) v k = findP ls v k
  | 0, _ => rfl
  | k + 1, h => by
    rw [findP, findP, findP_snoc ls x v k (by omega)]
    rw [List.getD_eq_getElem?_getD, List.getElem?_append_left (by omega), ← List.getD_eq_getElem?_getD]
theorem parI_inj {a b : Option Nat} (h : parI a = parI b) : a = b := by
  cases a <;> cases b <;> simp only [parI] at h
  · rfl
  · omega
  · omega
  · congr 1; omega
def cntP (ls : List Int) (p : Option Nat) : Nat → Nat
  | 0 => 0
  | n + 1 => cntP ls p n + if findP ls (ls.getD n 0) n = p then 1 else 0
theorem cntP_le (ls : List Int) (p : Option Nat) : ∀ n, cntP ls p n ≤ n
  | 0 => Nat.le_refl _
  | n + 1 => by have := cntP_le ls p n; rw [cntP]; split <;> omega
theorem cntP_snoc (ls : List Int) (x : Int) (p : Option Nat) : ∀ n, n ≤ ls.length → cntP (ls ++ [x]) p n = cntP ls p n
  | 0, _ => rfl
  | n + 1, h => by
    rw [cntP, cntP, cntP_snoc ls x p n (by omega), findP_snoc ls x _ n (by omega)]
    rw [List.getD_eq_getElem?_getD (l := ls ++ [x]), List.getElem?_append_left (by omega), ← List.getD_eq_getElem?_getD]
theorem cntP_new (ls : List Int) (x : Int) (p : Option Nat) : cntP (ls ++ [x]) p (ls.length + 1) = cntP ls p ls.length + if findP ls x ls.length = p then 1 else 0 := by
  rw [cntP, cntP_snoc ls x p _ (Nat.le_refl _), findP_snoc ls x _ _ (Nat.le_refl _)]
  simp
def decVal (l : List UInt8) : Nat := l.foldl (fun a b => a * 10 + (b.toNat - 48)) 0
theorem decVal_digits (n : Nat) : decVal (decDigits n) = n := by
  induction n using Nat.strongRecOn with | _ n ih
  rw [decDigits]
  have hb : ∀ d, d < 10 → (UInt8.ofNat (48 + d)).toNat - 48 = d := fun d hd => by rw [UInt8.toNat_ofNat', Nat.mod_eq_of_lt (by omega)]; omega
  split
  · rename_i h
    show 0 * 10 + ((UInt8.ofNat (48 + n)).toNat - 48) = n
    rw [hb n h]; omega
  · rename_i h
    have := ih (n / 10) (by omega)
    unfold decVal at this ⊢
    rw [List.foldl_append, this]
    show n / 10 * 10 + ((UInt8.ofNat (48 + n % 10)).toNat - 48) = n
    rw [hb _ (by omega)]; omega
theorem decDigits_inj {a b : Nat} (h : decDigits a = decDigits b) : a = b := by rw [← decVal_digits a, h, decVal_digits]
def cand (base : List UInt8) (n : Nat) : List UInt8 := if n ≤ 1 then base else base ++ [95] ++ decDigits n
theorem cand_inj {base : List UInt8} {a b : Nat} (ha : 1 ≤ a) (hb : 1 ≤ b) (h : cand base a = cand base b) : a = b := by
  have hl := congrArg List.length h
  unfold cand at h hl
  by_cases h1 : a ≤ 1 <;> by_cases h2 : b ≤ 1
  · omega
  · rw [if_pos h1, if_neg h2, List.length_append, List.length_append, List.length_singleton] at hl; omega
  · rw [if_neg h1, if_pos h2, List.length_append, List.length_append, List.length_singleton] at hl; omega
  · rw [if_neg h1, if_neg h2] at h
    exact decDigits_inj (List.append_cancel_left h)
theorem nodup_len {α : Type} [DecidableEq α] : ∀ {l us : List α}, l.Nodup → (∀ x ∈ l, x ∈ us) → l.length ≤ us.length
  | [], _, _, _ => Nat.zero_le _
  | x :: r, us, hn, hs => by
    have h1 := List.nodup_cons.1 hn
    have hx := hs x (by simp)
    have := nodup_len (l := r) (us := us.erase x) h1.2 fun y hy => by
      have hyx : y ≠ x := fun e => h1.1 (e ▸ hy)
      exact (List.mem_erase_of_ne hyx).2 (hs y (by simp [hy]))
    rw [List.length_erase_of_mem hx] at this
    have := List.length_pos_of_mem hx
    rw [List.length_cons]; omega
theorem cands_len {us : List (List UInt8)} {base : List UInt8} {m : Nat} (h : ∀ j, 1 ≤ j → j ≤ m → cand base j ∈ us) : m ≤ us.length := by
  have := nodup_len (l := (List.range m).map fun j => cand base (j + 1)) (us := us) ?_ fun x hx => ?_
  · simpa using this
  · refine List.pairwise_map.2 (List.Pairwise.imp ?_ List.nodup_range)
    intro a b hab he
    exact hab (by have := cand_inj (by omega) (by omega) he; omega)
  · obtain ⟨j, hj, rfl⟩ := List.mem_map.1 hx
    exact h (j + 1) (by omega) (by have := List.mem_range.1 hj; omega)
def freeF (us : List (List UInt8)) (base : List UInt8) : Nat → Nat → List UInt8
  | 0, n => cand base n
  | f + 1, n => if cand base n ∈ us then freeF us base f (n + 1) else cand base n
def freeT (us : List (List UInt8)) (base : List UInt8) : List UInt8 := freeF us base us.length 1
theorem freeF_le (us : List (List UInt8)) (base : List UInt8) : ∀ f n, f + n < 100000000000000000000 → (freeF us base f n).length ≤ base.length + 21
  | 0, n, h => by
    unfold freeF cand
    have := decDigits_le (u := n) (by omega)
    split
    · omega
    · rw [List.length_append, List.length_append, List.length_singleton]; omega
  | f + 1, n, h => by
    rw [freeF]
    split
    · exact freeF_le us base f (n + 1) (by omega)
    · unfold cand
      have := decDigits_le (u := n) (by omega)
      split
      · omega
      · rw [List.length_append, List.length_append, List.length_singleton]; omega
abbrev lvls (es : List EntT) : List Int := es.map EntT.level
abbrev ancs (es : List EntT) : List (List UInt8) := es.map EntT.anchor
def numT (es : List EntT) (p : Option Nat) (n : Nat) : List UInt8 :=
  match p with
  | none => decDigits n
  | some k => ((es.map EntT.number).getD k [] ++ [46]) ++ decDigits n
def newE (es : List EntT) (lv : Int) (t : List UInt8) : EntT :=
  ⟨lv, numT es (findP (lvls es) lv es.length) (cntP (lvls es) (findP (lvls es) lv es.length) es.length + 1), t, freeT (ancs es) (ancT19 t)⟩
def addE (es : List EntT) (b : Blk) : List EntT := if b.kind = 1 then es ++ [newE es b.level (inlPlain b.inl)] else es
def contT (bs : List Blk) : List EntT := bs.foldl addE []
theorem contT_succ {bs : List Blk} {i : Nat} (h : i < bs.length) : contT (bs.take (i + 1)) = addE (contT (bs.take i)) bs[i] := by
  unfold contT
  rw [List.take_succ_eq_append_getElem h, List.foldl_append]; rfl
structure EntB (es : List EntT) (n w : Nat) : Prop where
  len : es.length ≤ n
  num : ∀ e ∈ es, e.number.length ≤ 22 * n
  txt : ∀ e ∈ es, e.text.length ≤ w ∧ e.anchor.length ≤ 3 * w + 22
theorem numT_le {es : List EntT} {n w : Nat} (h : EntB es n w) (p : Option Nat) (c : Nat) (hc : c < 100000000000000000000) : (numT es p c).length ≤ 22 * (n + 1) := by
  have h1 := decDigits_le hc
  cases p with
  | none => simp only [numT]; omega
  | some k =>
    have h2 : ((es.map EntT.number).getD k []).length ≤ 22 * n := by
      by_cases hk : k < es.length
      · have := h.num es[k] (List.getElem_mem hk)
        simpa [hk] using this
      · rw [List.getD_eq_getElem?_getD, List.getElem?_eq_none (by simp; omega)]; simp
    simp only [numT, List.length_append, List.length_singleton]; omega
theorem addE_b {es : List EntT} {n w : Nat} {b : Blk} (h : EntB es n w) (hn : n < 10000000) (hw : (inlPlain b.inl).length ≤ w) : EntB (addE es b) (n + 1) w := by
  unfold addE
  split
  · refine ⟨by have := h.len; simp; omega, fun e he => ?_, fun e he => ?_⟩
    · rcases List.mem_append.1 he with he | he
      · have := h.num e he; omega
      · rw [List.mem_singleton.1 he]
        exact numT_le h _ _ (by have := cntP_le (lvls es) (findP (lvls es) b.level es.length) es.length; have := h.len; omega)
    · rcases List.mem_append.1 he with he | he
      · exact h.txt e he
      · rw [List.mem_singleton.1 he]
        have h1 := freeF_le (ancs es) (ancT19 (inlPlain b.inl)) (ancs es).length 1 (by have := h.len; simp; omega)
        have h2 := ancT19_le (inlPlain b.inl)
        exact ⟨hw, by show (freeF _ _ _ _).length ≤ _; omega⟩
  · exact ⟨by have := h.len; omega, fun e he => by have := h.num e he; omega, h.txt⟩
theorem contT_b (bs : List Blk) : ∀ i, i ≤ bs.length → bs.length < 10000000 → EntB (contT (bs.take i)) i (blkBulk bs)
  | 0, _, _ => ⟨by simp [contT], by simp [contT], by simp [contT]⟩
  | i + 1, h, hl => by
    rw [contT_succ (by omega)]
    refine addE_b (contT_b bs i (by omega) hl) (by omega) ?_
    have h1 := inlPlain_le bs[i].inl
    have h2 := blkBulk_succ (l := bs) (i := i) (by omega)
    have h3 := blkBulk_take_le bs (i + 1)
    have h4 := Blk.bulk_eq bs[i]
    omega
end Go.X
