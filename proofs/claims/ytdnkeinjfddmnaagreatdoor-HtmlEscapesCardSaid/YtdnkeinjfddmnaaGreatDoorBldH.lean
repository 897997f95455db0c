/- This text gives the contracts of strings.Builder, alone or at the head of a struct: WriteString, WriteByte, Write, Len, String. -/
import Derived.Test.YtdnkeinjfddmnaaGreatDoorLibc
import Derived.Laws.Externs
set_option linter.all false

namespace Go.Proofs
open Go Go.X Go.RowKit Go.Shelf
set_option maxRecDepth 100000

/-- A builder lies at the head of a variable of this type, which has k cells more. -/
structure BTy (ty k : Nat) : Prop where
  lies : liesAt Tryz.prog Tryz.prog.depth ty ((k + 2) / Tryz.prog.cellsOf ty) 0 66 1 = true
theorem bty0 : BTy 66 0 := ⟨by kernel_rfl⟩
theorem btyW : BTy 87 5 := ⟨by kernel_rfl⟩

theorem noEscape_run (x : Value) (w : World) : (callFunc 116 #[x]).run Tryz.prog w = .ok (.value x) w := by
  rw [run_callFunc_extern Tryz.func116 (by kernel_rfl) (by kernel_rfl) (by kernel_rfl) (e := Extern.AbiNoEscape.same) (by kernel_rfl), Lib.run_noEscape]
  rfl

theorem setK_s1 {x a b : C} {r : List C} {k : List C → Prop} (h : k (a :: x :: r)) : setK (0 + 1) [x] (a :: b :: r) k := by cases r <;> exact h

theorem perm3r {α : Type} (a b c : α) : List.Perm [a, b, c] ([b] ++ [c, a]) := (List.Perm.swap _ _ _).trans (List.Perm.cons _ (List.Perm.swap _ _ _))

theorem oneCopyFresh (ab ty : Nat) (x : C) (rest : List C) (hb : BTy ty rest.length) : FnS Tryz.prog 79 [.c (.p 0 ab 0)] [.box 0 ab ty (.raw (.pointer none) :: x :: rest)] []
    (fun v L D => v = .t0 ∧ L = [.box 0 ab ty (.p 0 ab 0 :: x :: rest)] ∧ D = []) := by
  refine fn_of_J Tryz.tyOK 7000 Tryz.func79 (by kernel_rfl) (c := Tryz.f79.body.getD .skip) (by kernel_rfl) Tryz.ntmps79 (rs := Tryz.f79.results.toList) rfl (by simp) (fun G => ?_)
  repeat' first
    | refine J_seq ?_ | refine J_region Tryz.tyOK ?_ | refine J_block ?_ | refine J_cond ?_ | refine J_ret ?_ | refine J_skip ?_ | refine J_exit ?_ | refine J_scope ?_
    | refine CondP.yes (by omega) ?_ | refine CondP.no (by omega) ?_ | refine CondP.mk (fun h => ?_) (fun h => ?_) | refine EqP.mk rfl ?_ | refine NewP.mk (fun ad => ?_) | refine ArP.exact (by simp only [inR]; omega) ?_ | refine SideP.mk (by first | omega | (dsimp only; omega) | (simp; omega)) ?_
    | refine SideP.mk ⟨rfl, Nat.zero_lt_succ _⟩ ?_ | refine SideP.mk ⟨rfl, hb.lies⟩ ?_ | refine CallP.ext (.c (.p 0 ab 0)) (fun _ w _ => noEscape_run _ w) ?_ | refine FinE.mk _ [] ⟨rfl, rfl, rfl⟩ (Ents.refl _ _)
    | fail

theorem oneCopyUsed (ab ty : Nat) (x : C) (rest : List C) : FnS Tryz.prog 79 [.c (.p 0 ab 0)] [.box 0 ab ty (.p 0 ab 0 :: x :: rest)] []
    (fun v L D => v = .t0 ∧ L = [.box 0 ab ty (.p 0 ab 0 :: x :: rest)] ∧ D = []) := by
  refine fn_of_J Tryz.tyOK 7000 Tryz.func79 (by kernel_rfl) (c := Tryz.f79.body.getD .skip) (by kernel_rfl) Tryz.ntmps79 (rs := Tryz.f79.results.toList) rfl (by simp) (fun G => ?_)
  repeat' first
    | refine J_seq ?_ | refine J_region Tryz.tyOK ?_ | refine J_block ?_ | refine J_cond ?_ | refine J_ret ?_ | refine J_skip ?_ | refine J_exit ?_ | refine J_scope ?_
    | refine CondP.yes (by omega) ?_ | refine CondP.no (by omega) ?_ | refine CondP.mk (fun h => ?_) (fun h => ?_) | refine EqP.mk rfl ?_ | refine NewP.mk (fun ad => ?_) | refine ArP.exact (by simp only [inR]; omega) ?_ | refine SideP.mk (by first | omega | (dsimp only; omega) | (simp; omega)) ?_
    | refine SideP.mk ⟨rfl, rfl⟩ ?_ | refine FinE.mk _ [] ⟨rfl, rfl, rfl⟩ (Ents.refl _ _)
    | fail

/-- A builder that holds the bytes l, at the head of a box. -/
def bw (id ab ty : Nat) (a : Option Addr) (c : Nat) (l : List UInt8) (rest : List C) : List Chunk :=
  if l = [] then [.box id ab ty (.raw (.pointer none) :: .sl none 0 0 :: rest)] else [.box id ab ty (.p id ab 0 :: .sl a l.length c :: rest), .row 5 1 a l.length c (l.map byteC)]
theorem bw_nil (id ab ty : Nat) (a : Option Addr) (c : Nat) (rest : List C) : bw id ab ty a c [] rest = [.box id ab ty (.raw (.pointer none) :: .sl none 0 0 :: rest)] := rfl
theorem bw_cons (id ab ty : Nat) (a : Option Addr) (c : Nat) {l : List UInt8} (rest : List C) (h : l ≠ []) : bw id ab ty a c l rest = [.box id ab ty (.p id ab 0 :: .sl a l.length c :: rest), .row 5 1 a l.length c (l.map byteC)] := if_neg h

/-- What a writing method leaves. -/
def BwPost (r : V) (id ab ty : Nat) (l : List UInt8) (rest : List C) : V → List Chunk → List Fact → Prop := fun v L D => ∃ a c, v = r ∧ L = bw id ab ty a c l rest ∧ D = []

theorem bw_same (id id' ab ty : Nat) (a : Option Addr) (c : Nat) (l : List UInt8) (rest : List C) : Same (bw id ab ty a c l rest) (bw id' ab ty a c l rest) := by
  unfold bw; split <;> exact ⟨rfl, fun _ => by simp [allOk, Chunk.ok, C.enc, oneAll, C.one]⟩

theorem bwString0 (ab ty : Nat) (a : Option Addr) (c : Nat) (l : List UInt8) (s : List UInt8) (rest : List C) (hb : BTy ty rest.length) (hs : s ≠ []) (hl : l.length + s.length ≤ 140737488355328) :
    FnS Tryz.prog 39 [.c (.p 0 ab 0), .c (.s s)] (bw 0 ab ty a c l rest) [] (BwPost (.t2 (.c (.i .i64 s.length)) (.c (.raw .nilIface))) 0 ab ty (l ++ s) rest) := by
  have hls : l ++ s ≠ [] := by simp [hs]
  by_cases h0 : l = []
  · subst h0
    rw [bw_nil]
    have c1 := oneCopyFresh ab ty (.sl none 0 0) rest hb
    refine fn_of_J Tryz.tyOK 7000 Tryz.func39 (by kernel_rfl) (c := Tryz.f39.body.getD .skip) (by kernel_rfl) Tryz.ntmps39 (rs := Tryz.f39.results.toList) rfl (by simp) (fun G => ?_)
    repeat' first
      | refine J_seq ?_ | refine J_region Tryz.tyOK ?_ | refine J_block ?_ | refine J_cond ?_ | refine J_ret ?_ | refine J_skip ?_ | refine J_exit ?_ | refine J_scope ?_
      | refine CondP.yes (by omega) ?_ | refine CondP.no (by omega) ?_ | refine CondP.mk (fun h => ?_) (fun h => ?_) | refine EqP.mk rfl ?_ | refine NewP.mk (fun ad => ?_) | refine ArP.exact (by simp only [inR]; omega) ?_ | refine SideP.mk (by first | omega | (dsimp only; omega) | (simp; omega)) ?_
      | refine CallP.mk [_] [] [] _ c1 (List.Perm.refl _) (fun _ _ => trivial) (fun v L' D' hp => ?_); obtain ⟨rfl, rfl, rfl⟩ := hp | refine AppE.nil (s.map byteC) s.length rfl rfl rfl (SrcE.str _ s rfl rfl rfl) (by show s.length * 1 ≤ _; simp only [List.length_nil] at hl; omega) (fun a' c' => ?_) | refine setK_s1 ?_ | refine FinE.mk (bw 0 ab ty a' c' ([] ++ s) rest) [] ⟨a', c', rfl, rfl, rfl⟩ ?_
      | fail
    exact (Ents.perm (List.Perm.swap _ _ _)).trans (Ents.of (by rw [bw_cons _ _ _ _ _ _ hls]; rfl))
  · rw [bw_cons _ _ _ _ _ _ h0]
    have c1 := oneCopyUsed ab ty (.sl a l.length c) rest
    refine fn_of_J Tryz.tyOK 7000 Tryz.func39 (by kernel_rfl) (c := Tryz.f39.body.getD .skip) (by kernel_rfl) Tryz.ntmps39 (rs := Tryz.f39.results.toList) rfl (by simp) (fun G => ?_)
    repeat' first
      | refine J_seq ?_ | refine J_region Tryz.tyOK ?_ | refine J_block ?_ | refine J_cond ?_ | refine J_ret ?_ | refine J_skip ?_ | refine J_exit ?_ | refine J_scope ?_
      | refine CondP.yes (by omega) ?_ | refine CondP.no (by omega) ?_ | refine CondP.mk (fun h => ?_) (fun h => ?_) | refine EqP.mk rfl ?_ | refine NewP.mk (fun ad => ?_) | refine ArP.exact (by simp only [inR]; omega) ?_ | refine SideP.mk (by first | omega | (dsimp only; omega) | (simp; omega)) ?_
      | refine CallP.mk [_] [_] [] _ c1 (List.Perm.refl _) (fun _ _ => trivial) (fun v L' D' hp => ?_); obtain ⟨rfl, rfl, rfl⟩ := hp | refine AppE.row [_] [] (l.map byteC) (s.map byteC) s.length rfl (SrcE.str _ s rfl rfl rfl) (by show (l.length + s.length) * 1 ≤ _; omega) (fun a' c' => ?_) | refine setK_s1 ?_ | refine FinE.mk (bw 0 ab ty a' c' (l ++ s) rest) [] ⟨a', c', rfl, rfl, rfl⟩ ?_
      | fail
    exact Ents.of (by rw [bw_cons _ _ _ _ _ _ hls, List.length_append, List.map_append]; rfl)

theorem bwString_ok (id ab ty : Nat) (a : Option Addr) (c : Nat) (l : List UInt8) (s : List UInt8) (rest : List C) (hb : BTy ty rest.length) (hs : s ≠ []) (hl : l.length + s.length ≤ 140737488355328) :
    FnS Tryz.prog 39 [.c (.p id ab 0), .c (.s s)] (bw id ab ty a c l rest) [] (BwPost (.t2 (.c (.i .i64 s.length)) (.c (.raw .nilIface))) id ab ty (l ++ s) rest) :=
  (bwString0 ab ty a c l s rest hb hs hl).same rfl (bw_same _ _ _ _ _ _ _ _) fun v L1 D1 ⟨a', c', h1, h2, h3⟩ => ⟨_, h2 ▸ bw_same 0 id ab ty a' c' (l ++ s) rest, a', c', h1, rfl, h3⟩

theorem bwByte0 (ab ty : Nat) (a : Option Addr) (c : Nat) (l : List UInt8) (s : UInt8) (rest : List C) (hb : BTy ty rest.length)  (hl : l.length + 1 ≤ 140737488355328) :
    FnS Tryz.prog 41 [.c (.p 0 ab 0), .c (byteC s)] (bw 0 ab ty a c l rest) [] (BwPost (.c (.raw .nilIface)) 0 ab ty (l ++ [s]) rest) := by
  have hls : l ++ [s] ≠ [] := by simp
  by_cases h0 : l = []
  · subst h0
    rw [bw_nil]
    have c1 := oneCopyFresh ab ty (.sl none 0 0) rest hb
    refine fn_of_J Tryz.tyOK 7000 Tryz.func41 (by kernel_rfl) (c := Tryz.f41.body.getD .skip) (by kernel_rfl) Tryz.ntmps41 (rs := Tryz.f41.results.toList) rfl (by simp) (fun G => ?_)
    repeat' first
      | refine J_seq ?_ | refine J_region Tryz.tyOK ?_ | refine J_block ?_ | refine J_cond ?_ | refine J_ret ?_ | refine J_skip ?_ | refine J_exit ?_ | refine J_scope ?_
      | refine CondP.yes (by omega) ?_ | refine CondP.no (by omega) ?_ | refine CondP.mk (fun h => ?_) (fun h => ?_) | refine EqP.mk rfl ?_ | refine NewP.mk (fun ad => ?_) | refine ArP.exact (by simp only [inR]; omega) ?_ | refine SideP.mk (by first | omega | (dsimp only; omega) | (simp; omega)) ?_
      | refine CallP.mk [_] [] [] _ c1 (List.Perm.refl _) (fun _ _ => trivial) (fun v L' D' hp => ?_); obtain ⟨rfl, rfl, rfl⟩ := hp | refine AppE.nil ([s].map byteC) 1 rfl rfl rfl (SrcE.sl 5 5 _ _ _ _ [byteC s] rfl rfl (.inl ⟨1, List.Mem.head _⟩) rfl) (by show 1 * 1 ≤ _; simp only [List.length_nil] at hl; omega) (fun a' c' => ?_) | refine setK_s1 ?_ | refine FinE.mk (bw 0 ab ty a' c' ([] ++ [s]) rest) [] ⟨a', c', rfl, rfl, rfl⟩ ?_
      | fail
    exact (Ents.sub ⟨_, perm3r _ _ _⟩).trans (Ents.of (by rw [bw_cons _ _ _ _ _ _ hls]; rfl))
  · rw [bw_cons _ _ _ _ _ _ h0]
    have c1 := oneCopyUsed ab ty (.sl a l.length c) rest
    refine fn_of_J Tryz.tyOK 7000 Tryz.func41 (by kernel_rfl) (c := Tryz.f41.body.getD .skip) (by kernel_rfl) Tryz.ntmps41 (rs := Tryz.f41.results.toList) rfl (by simp) (fun G => ?_)
    repeat' first
      | refine J_seq ?_ | refine J_region Tryz.tyOK ?_ | refine J_block ?_ | refine J_cond ?_ | refine J_ret ?_ | refine J_skip ?_ | refine J_exit ?_ | refine J_scope ?_
      | refine CondP.yes (by omega) ?_ | refine CondP.no (by omega) ?_ | refine CondP.mk (fun h => ?_) (fun h => ?_) | refine EqP.mk rfl ?_ | refine NewP.mk (fun ad => ?_) | refine ArP.exact (by simp only [inR]; omega) ?_ | refine SideP.mk (by first | omega | (dsimp only; omega) | (simp; omega)) ?_
      | refine CallP.mk [_] [_] [] _ c1 (List.Perm.refl _) (fun _ _ => trivial) (fun v L' D' hp => ?_); obtain ⟨rfl, rfl, rfl⟩ := hp | refine AppE.row [_, _] [] (l.map byteC) ([s].map byteC) 1 rfl (SrcE.sl 5 5 _ _ _ _ [byteC s] rfl rfl (.inl ⟨1, List.Mem.head _⟩) rfl) (by show (l.length + 1) * 1 ≤ _; omega) (fun a' c' => ?_) | refine setK_s1 ?_ | refine FinE.mk (bw 0 ab ty a' c' (l ++ [s]) rest) [] ⟨a', c', rfl, rfl, rfl⟩ ?_
      | fail
    exact Ents.drop.trans (Ents.of (by rw [bw_cons _ _ _ _ _ _ hls, List.length_append, List.map_append]; rfl))

theorem bwByte_ok (id ab ty : Nat) (a : Option Addr) (c : Nat) (l : List UInt8) (s : UInt8) (rest : List C) (hb : BTy ty rest.length)  (hl : l.length + 1 ≤ 140737488355328) :
    FnS Tryz.prog 41 [.c (.p id ab 0), .c (byteC s)] (bw id ab ty a c l rest) [] (BwPost (.c (.raw .nilIface)) id ab ty (l ++ [s]) rest) :=
  (bwByte0 ab ty a c l s rest hb  hl).same rfl (bw_same _ _ _ _ _ _ _ _) fun v L1 D1 ⟨a', c', h1, h2, h3⟩ => ⟨_, h2 ▸ bw_same 0 id ab ty a' c' (l ++ [s]) rest, a', c', h1, rfl, h3⟩

theorem bwWrite0 (ab ty : Nat) (a : Option Addr) (c : Nat) (l : List UInt8) (s : List UInt8) (pa : Option Addr) (pc : Nat) (rest : List C) (hb : BTy ty rest.length) (hs : s ≠ []) (hl : l.length + s.length ≤ 140737488355328) :
    FnS Tryz.prog 43 [.c (.p 0 ab 0), .c (.sl pa s.length pc)] (bw 0 ab ty a c l rest) [slFact 5 1 pa s.length (s.map byteC)] (BwPost (.t2 (.c (.i .i64 s.length)) (.c (.raw .nilIface))) 0 ab ty (l ++ s) rest) := by
  have hls : l ++ s ≠ [] := by simp [hs]
  by_cases h0 : l = []
  · subst h0
    rw [bw_nil]
    have c1 := oneCopyFresh ab ty (.sl none 0 0) rest hb
    refine fn_of_J Tryz.tyOK 7000 Tryz.func43 (by kernel_rfl) (c := Tryz.f43.body.getD .skip) (by kernel_rfl) Tryz.ntmps43 (rs := Tryz.f43.results.toList) rfl (by simp) (fun G => ?_)
    repeat' first
      | refine J_seq ?_ | refine J_region Tryz.tyOK ?_ | refine J_block ?_ | refine J_cond ?_ | refine J_ret ?_ | refine J_skip ?_ | refine J_exit ?_ | refine J_scope ?_
      | refine CondP.yes (by omega) ?_ | refine CondP.no (by omega) ?_ | refine CondP.mk (fun h => ?_) (fun h => ?_) | refine EqP.mk rfl ?_ | refine NewP.mk (fun ad => ?_) | refine ArP.exact (by simp only [inR]; omega) ?_ | refine SideP.mk (by first | omega | (dsimp only; omega) | (simp; omega)) ?_
      | refine CallP.mk [_] [] [] _ c1 (List.Perm.refl _) (fun _ _ => trivial) (fun v L' D' hp => ?_); obtain ⟨rfl, rfl, rfl⟩ := hp | refine AppE.nil (s.map byteC) s.length rfl rfl rfl (SrcE.sl 5 5 _ _ _ _ (s.map byteC) rfl rfl (.inr fun _ h => h.1) (by simp)) (by show s.length * 1 ≤ _; simp only [List.length_nil] at hl; omega) (fun a' c' => ?_) | refine setK_s1 ?_ | refine FinE.mk (bw 0 ab ty a' c' ([] ++ s) rest) [] ⟨a', c', rfl, rfl, rfl⟩ ?_
      | fail
    exact (Ents.perm (List.Perm.swap _ _ _)).trans ((Ents.of (by rw [bw_cons _ _ _ _ _ _ hls]; rfl)).trans (Ents.facts fun _ _ => trivial))
  · rw [bw_cons _ _ _ _ _ _ h0]
    have c1 := oneCopyUsed ab ty (.sl a l.length c) rest
    refine fn_of_J Tryz.tyOK 7000 Tryz.func43 (by kernel_rfl) (c := Tryz.f43.body.getD .skip) (by kernel_rfl) Tryz.ntmps43 (rs := Tryz.f43.results.toList) rfl (by simp) (fun G => ?_)
    repeat' first
      | refine J_seq ?_ | refine J_region Tryz.tyOK ?_ | refine J_block ?_ | refine J_cond ?_ | refine J_ret ?_ | refine J_skip ?_ | refine J_exit ?_ | refine J_scope ?_
      | refine CondP.yes (by omega) ?_ | refine CondP.no (by omega) ?_ | refine CondP.mk (fun h => ?_) (fun h => ?_) | refine EqP.mk rfl ?_ | refine NewP.mk (fun ad => ?_) | refine ArP.exact (by simp only [inR]; omega) ?_ | refine SideP.mk (by first | omega | (dsimp only; omega) | (simp; omega)) ?_
      | refine CallP.mk [_] [_] [] _ c1 (List.Perm.refl _) (fun _ _ => trivial) (fun v L' D' hp => ?_); obtain ⟨rfl, rfl, rfl⟩ := hp | refine AppE.row [_] [] (l.map byteC) (s.map byteC) s.length rfl (SrcE.sl 5 5 _ _ _ _ (s.map byteC) rfl rfl (.inr fun _ h => h.1) (by simp)) (by show (l.length + s.length) * 1 ≤ _; omega) (fun a' c' => ?_) | refine setK_s1 ?_ | refine FinE.mk (bw 0 ab ty a' c' (l ++ s) rest) [] ⟨a', c', rfl, rfl, rfl⟩ ?_
      | fail
    exact (Ents.of (by rw [bw_cons _ _ _ _ _ _ hls, List.length_append, List.map_append]; rfl)).trans (Ents.facts fun _ _ => trivial)

theorem bwWrite_ok (id ab ty : Nat) (a : Option Addr) (c : Nat) (l : List UInt8) (s : List UInt8) (pa : Option Addr) (pc : Nat) (rest : List C) (hb : BTy ty rest.length) (hs : s ≠ []) (hl : l.length + s.length ≤ 140737488355328) :
    FnS Tryz.prog 43 [.c (.p id ab 0), .c (.sl pa s.length pc)] (bw id ab ty a c l rest) [slFact 5 1 pa s.length (s.map byteC)] (BwPost (.t2 (.c (.i .i64 s.length)) (.c (.raw .nilIface))) id ab ty (l ++ s) rest) :=
  (bwWrite0 ab ty a c l s pa pc rest hb hs hl).same rfl (bw_same _ _ _ _ _ _ _ _) fun v L1 D1 ⟨a', c', h1, h2, h3⟩ => ⟨_, h2 ▸ bw_same 0 id ab ty a' c' (l ++ s) rest, a', c', h1, rfl, h3⟩

theorem bwLen0 (ab ty : Nat) (a : Option Addr) (c : Nat) (l : List UInt8) (rest : List C) : FnS Tryz.prog 97 [.c (.p 0 ab 0)] (bw 0 ab ty a c l rest) [] (fun v L D => v = .c (.i .i64 l.length) ∧ L = bw 0 ab ty a c l rest ∧ D = []) := by
  by_cases h0 : l = []
  · subst h0
    rw [bw_nil]
    refine fn_of_J Tryz.tyOK 7000 Tryz.func97 (by kernel_rfl) (c := Tryz.f97.body.getD .skip) (by kernel_rfl) Tryz.ntmps97 (rs := Tryz.f97.results.toList) rfl (by simp) (fun G => ?_)
    repeat' first
      | refine J_seq ?_ | refine J_region Tryz.tyOK ?_ | refine J_block ?_ | refine J_cond ?_ | refine J_ret ?_ | refine J_skip ?_ | refine J_exit ?_ | refine J_scope ?_
      | refine CondP.yes (by omega) ?_ | refine CondP.no (by omega) ?_ | refine CondP.mk (fun h => ?_) (fun h => ?_) | refine EqP.mk rfl ?_ | refine NewP.mk (fun ad => ?_) | refine ArP.exact (by simp only [inR]; omega) ?_ | refine SideP.mk (by first | omega | (dsimp only; omega) | (simp; omega)) ?_
      | exact FinE.mk _ [] ⟨rfl, rfl, rfl⟩ (Ents.refl _ _)
      | fail
  · rw [bw_cons _ _ _ _ _ _ h0]
    refine fn_of_J Tryz.tyOK 7000 Tryz.func97 (by kernel_rfl) (c := Tryz.f97.body.getD .skip) (by kernel_rfl) Tryz.ntmps97 (rs := Tryz.f97.results.toList) rfl (by simp) (fun G => ?_)
    repeat' first
      | refine J_seq ?_ | refine J_region Tryz.tyOK ?_ | refine J_block ?_ | refine J_cond ?_ | refine J_ret ?_ | refine J_skip ?_ | refine J_exit ?_ | refine J_scope ?_
      | refine CondP.yes (by omega) ?_ | refine CondP.no (by omega) ?_ | refine CondP.mk (fun h => ?_) (fun h => ?_) | refine EqP.mk rfl ?_ | refine NewP.mk (fun ad => ?_) | refine ArP.exact (by simp only [inR]; omega) ?_ | refine SideP.mk (by first | omega | (dsimp only; omega) | (simp; omega)) ?_
      | exact FinE.mk _ [] ⟨rfl, rfl, rfl⟩ (Ents.refl _ _)
      | fail

/-- A row that is not empty lies somewhere. -/
theorem J_some {P : Program} {G : Ent} {N : Nat} {c0 : Code} {env : Env} {L : List Chunk} {D : List Fact} {nid : Nat} {K : Kt} {e z : Nat} {a : Option Addr} {n c : Nat} {cs : List C} (hm : .row e z a n c cs ∈ L) (hn : n ≠ 0) (k : ∀ g, a = some ⟨g, 0, none⟩ → n ≤ c → J P G N c0 env L D nid K) : J P G N c0 env L D nid K :=
  ⟨fun ac w he hs => by
    obtain ⟨m, h1, _⟩ := id hs
    have hr := (allOk_mem h1.ok hm).2
    rcases hr with ⟨_, h0, _⟩ | ⟨g, hg, cur, lo, hi, _, h2, _⟩
    · exact absurd h0 hn
    · exact (k g hg h2).run ac w he hs⟩

theorem bwText0 (ab ty : Nat) (a : Option Addr) (c : Nat) (l : List UInt8) (rest : List C) : FnS Tryz.prog 44 [.c (.p 0 ab 0)] (bw 0 ab ty a c l rest) [] (Is (.c (.s l))) := by
  by_cases h0 : l = []
  · subst h0
    rw [bw_nil]
    refine fn_of_J Tryz.tyOK 7000 Tryz.func44 (by kernel_rfl) (c := Tryz.f44.body.getD .skip) (by kernel_rfl) Tryz.ntmps44 (rs := Tryz.f44.results.toList) rfl (by simp) (fun G => ?_)
    repeat' first
      | refine J_seq ?_ | refine J_region Tryz.tyOK ?_ | refine J_block ?_ | refine J_cond ?_ | refine J_ret ?_ | refine J_skip ?_ | refine J_exit ?_ | refine J_scope ?_
      | refine CondP.yes (by omega) ?_ | refine CondP.no (by omega) ?_ | refine CondP.mk (fun h => ?_) (fun h => ?_) | refine EqP.mk rfl ?_ | refine NewP.mk (fun ad => ?_) | refine ArP.exact (by simp only [inR]; omega) ?_ | refine SideP.mk (by first | omega | (dsimp only; omega) | (simp; omega)) ?_
      | refine J_drawS (id := 1) Tryz.tyOK (by kernel_rfl) [0, 1, 3, 7, 15, 0, 32, 96, 224, 480, 1023, 2047] [0, 1, 2, 3, 5, 6, 7, 8, 9, 4, 10, 11] [4, 10] [0] false (by kernel_rfl) ?_ | refine EntP.mk (Ents.ofSub (by repeat (first | exact List.Sublist.slnil | refine List.Sublist.cons_cons _ ?_ | refine List.Sublist.cons _ ?_)) (by first | exact fun _ h => h | exact fun _ _ => trivial | exact fun _ h => h.2 | exact fun _ h => h.2.2.2.2 | exact fun _ h => h.2.2 | exact fun _ h => h.2.2.2 | exact fun _ h => h.2.2.2.2.2 | exact fun _ h => h.2.2.2.2.2.2 | exact fun _ h => h.2.2.2.2.2.2.2 | exact fun _ h => h.2.2.2.2.2.2.2.2 | exact fun _ h => h.2.2.2.2.2.2.2.2.2 | exact fun _ h => h.2.2.2.2.2.2.2.2.2.2 | exact fun _ h => ((allD_append _ _).1 h).2)) ?_ | refine SlDataE.nil rfl ?_ | refine StrDataE.nil rfl rfl ?_ | refine FinE.str ?_
      | fail
    rfl
  · rw [bw_cons _ _ _ _ _ _ h0]
    have hl0 : l.length ≠ 0 := fun h => h0 (List.eq_nil_of_length_eq_zero h)
    refine fn_of_J Tryz.tyOK 7000 Tryz.func44 (by kernel_rfl) (c := Tryz.f44.body.getD .skip) (by kernel_rfl) Tryz.ntmps44 (rs := Tryz.f44.results.toList) rfl (by simp) (fun G => ?_)
    refine J_some (List.Mem.tail _ (List.Mem.head _)) hl0 (fun g hg hlc => ?_)
    subst hg
    repeat' first
      | refine J_seq ?_ | refine J_region Tryz.tyOK ?_ | refine J_block ?_ | refine J_cond ?_ | refine J_ret ?_ | refine J_skip ?_ | refine J_exit ?_ | refine J_scope ?_
      | refine CondP.yes (by omega) ?_ | refine CondP.no (by omega) ?_ | refine CondP.mk (fun h => ?_) (fun h => ?_) | refine EqP.mk rfl ?_ | refine NewP.mk (fun ad => ?_) | refine ArP.exact (by simp only [inR]; omega) ?_ | refine SideP.mk (by first | omega | (dsimp only; omega) | (simp; omega)) ?_
      | refine J_drawS (id := 1) Tryz.tyOK (by kernel_rfl) [0, 1, 3, 7, 15, 0, 32, 96, 224, 480, 1023, 2047] [0, 1, 2, 3, 5, 6, 7, 8, 9, 4, 10, 11] [4, 10] [0] false (by kernel_rfl) ?_ | refine EntP.mk (Ents.ofSub (by repeat (first | exact List.Sublist.slnil | refine List.Sublist.cons_cons _ ?_ | refine List.Sublist.cons _ ?_)) (by first | exact fun _ h => h | exact fun _ _ => trivial | exact fun _ h => h.2 | exact fun _ h => h.2.2.2.2 | exact fun _ h => h.2.2 | exact fun _ h => h.2.2.2 | exact fun _ h => h.2.2.2.2.2 | exact fun _ h => h.2.2.2.2.2.2 | exact fun _ h => h.2.2.2.2.2.2.2 | exact fun _ h => h.2.2.2.2.2.2.2.2 | exact fun _ h => h.2.2.2.2.2.2.2.2.2 | exact fun _ h => h.2.2.2.2.2.2.2.2.2.2 | exact fun _ h => ((allD_append _ _).1 h).2)) ?_ | refine SlDataE.row g 0 rfl (by omega) ?_ | refine StrDataE.row [_] 5 g l.length c l (List.Perm.swap _ _ _) rfl rfl h0 rfl (by kernel_rfl) ?_ | refine FinE.str ?_
      | fail
    rfl

theorem bwLen_ok (id ab ty : Nat) (a : Option Addr) (c : Nat) (l : List UInt8) (rest : List C) : FnS Tryz.prog 97 [.c (.p id ab 0)] (bw id ab ty a c l rest) [] (fun v L D => v = .c (.i .i64 l.length) ∧ L = bw id ab ty a c l rest ∧ D = []) :=
  (bwLen0 ab ty a c l rest).same rfl (bw_same _ _ _ _ _ _ _ _) fun v L1 D1 ⟨h1, h2, h3⟩ => ⟨_, h2 ▸ bw_same 0 id ab ty a c l rest, h1, rfl, h3⟩
theorem bwText_ok (id ab ty : Nat) (a : Option Addr) (c : Nat) (l : List UInt8) (rest : List C) : FnS Tryz.prog 44 [.c (.p id ab 0)] (bw id ab ty a c l rest) [] (Is (.c (.s l))) :=
  (bwText0 ab ty a c l rest).same rfl (bw_same _ _ _ _ _ _ _ _) fun v L1 D1 h => ⟨L1, ⟨rfl, fun _ => Iff.rfl⟩, h⟩

end Go.Proofs
