/- This text walks through html's writer on a document of one paragraph. -/
import Derived.Test.YtdnkeinjfddmnaaGreatDoorHOne
set_option linter.all false

namespace Go.Proofs
open Go Go.X
set_option maxRecDepth 100000

/-- A call, behind which what it did not get stands first. -/
theorem callF {P : Program} {f : FuncId} {args : List V} {L : List Chunk} {D : List Fact} {K : V → List Chunk → List Fact → Prop} (L0 R : List Chunk) (D0 : List Fact) (post : V → List Chunk → List Fact → Prop) (h : FnS P f args L0 D0 post)
    (hp : L.Perm (L0 ++ R)) (hd : ∀ m, allD m D → allD m D0) (k : ∀ v L' D', post v L' D' → K v (R ++ L') (D' ++ D)) : CallP P f args L D K :=
  .mkO L0 R D0 D post h (fun _ _ hs => satW_perm hp hs) hd fun v L' D' hq => ⟨_, _, Ents.perm List.perm_append_comm, k v L' D' hq⟩

/-- A builder that holds something takes any string. -/
theorem bwMore0 (ab ty : Nat) (a : Option Addr) (c : Nat) (l : List UInt8) (s : List UInt8) (rest : List C) (h0 : l ≠ []) (hl : l.length + s.length ≤ 140737488355328) :
    FnS Tryz.prog 39 [.c (.p 0 ab 0), .c (.s s)] (bw 0 ab ty a c l rest) [] (BwPost (.t2 (.c (.i .i64 s.length)) (.c (.raw .nilIface))) 0 ab ty (l ++ s) rest) := by
  have hls : l ++ s ≠ [] := by simp [h0]
  rw [bw_cons _ _ _ _ _ _ h0]
  have c1 := oneCopyUsed ab ty (.sl a l.length c) rest
  refine fn_of_J Tryz.tyOK 7000 Tryz.func39 (by kernel_rfl) (c := Tryz.f39.body.getD .skip) (by kernel_rfl) Tryz.ntmps39 (rs := Tryz.f39.results.toList) rfl (by simp) (fun G => ?_)
  repeat' first
    | refine J_seq ?_ | refine J_region Tryz.tyOK ?_ | refine J_block ?_ | refine J_cond ?_ | refine J_ret ?_ | refine J_skip ?_ | refine J_exit ?_ | refine J_scope ?_
    | refine CondP.yes (by omega) ?_ | refine CondP.no (by omega) ?_ | refine CondP.mk (fun h => ?_) (fun h => ?_) | refine EqP.mk rfl ?_ | refine NewP.mk (fun ad => ?_) | refine ArP.exact (by simp only [inR]; omega) ?_ | refine SideP.mk (by first | omega | (dsimp only; omega) | (simp; omega)) ?_
    | refine CallP.mk [_] [_] [] _ c1 (List.Perm.refl _) (fun _ _ => trivial) (fun v L' D' hp => ?_); obtain ⟨rfl, rfl, rfl⟩ := hp | refine AppE.row [_] [] (l.map byteC) (s.map byteC) s.length rfl (SrcE.str _ s rfl rfl rfl) (by show (l.length + s.length) * 1 ≤ _; omega) (fun a' c' => ?_) | refine setK_s1 ?_ | refine FinE.mk (bw 0 ab ty a' c' (l ++ s) rest) [] ⟨a', c', rfl, rfl, rfl⟩ ?_
    | fail
  exact Ents.of (by rw [bw_cons _ _ _ _ _ _ hls, List.length_append, List.map_append]; rfl)

/-- The writer's fields behind the builder. -/
def wR (mi no : C) : List C := [mi, no, .i .i64 0, .sl none 0 0, .i .i64 0]

theorem inlineText (ab : Nat) (ia : Option Addr) (ic : Nat) (s : List UInt8) (hs : s.length ≤ 1000000) (a : Option Addr) (c : Nat) (l : List UInt8) (h0 : l ≠ []) (hl : l.length ≤ 1000000) (rest : List C) :
    FnS Tryz.prog 86 [.c (.p 0 ab 0), .c (.sl ia 1 ic), .c (.b true)] (bw 0 ab 87 a c l rest) [txF ia s] (BwPost .t0 0 ab 87 (l ++ escT s) rest) := by
  have hr : ∀ L, Reads L [txF ia s] 102 6 ia 1 (txC s) := fun _ => .inr fun _ h => h.1
  have hle := escT_le s
  have he := escape_ok s (by omega)
  refine fn_of_J Tryz.tyOK 7000 Tryz.func86 (by kernel_rfl) (c := Tryz.f86.body.getD .skip) (by kernel_rfl) Tryz.ntmps86 (rs := Tryz.f86.results.toList) rfl (by simp) (fun G => ?_)
  repeat' first
    | refine CondP.yes (by decide) ?_ | refine CondP.no (by decide) ?_
    | refine J_seq ?_ | refine J_region Tryz.tyOK ?_ | refine J_block ?_ | refine J_cond ?_ | refine J_ret ?_ | refine J_skip ?_ | refine J_exit ?_ | refine J_scope ?_
    | refine CondP.yes (by omega) ?_ | refine CondP.no (by omega) ?_ | refine CondP.mk (fun h => ?_) (fun h => ?_) | refine EqP.mk rfl ?_ | refine NewP.mk (fun ad => ?_) | refine ArP.exact (by simp only [inR]; omega) ?_ | refine SideP.mk (by first | omega | (dsimp only; omega) | (simp; omega)) ?_
    | refine J_drawU (id := 5) Tryz.tyOK (by kernel_rfl) [0, 1, 3, 0, 8, 24, 63] (.leaf [0, 1, 2, 3, 4, 5, 6]) [6] [7] 6 true (by kernel_rfl) ?_ | refine TwoP.mk ?_ ?_ | refine GoP.mk (by repeat (first | exact keepC_sub _ _ _ | exact List.Sublist.slnil | refine List.Sublist.cons_cons _ ?_ | refine List.Sublist.cons _ ?_)) (by first | exact fun _ h => h | exact fun _ h => h.2 | exact fun _ h => ((allD_append _ _).1 h).2) ?_ | exact trivial | refine J_drawU (id := 21) Tryz.tyOK (by kernel_rfl) [0, 1, 3, 7, 15, 0, 32, 96, 224, 0, 512, 1536, 3584, 7680, 16352, 32736, 65535, 131071, 262143] (.leaf [0, 1, 2, 3, 4, 5, 6, 7, 8, 9, 10, 11, 12, 13, 14, 15, 16, 17, 18]) [] [0, 93] 19 true (by kernel_rfl) ?_ | refine TwoP.mk ?_ ?_ | refine GoP.mk (by repeat (first | exact keepC_sub _ _ _ | exact List.Sublist.slnil | refine List.Sublist.cons_cons _ ?_ | refine List.Sublist.cons _ ?_)) (by first | exact fun _ h => h | exact fun _ h => h.2 | exact fun _ h => ((allD_append _ _).1 h).2) ?_ | exact trivial | refine EntP.mk (Ents.ofSub (by repeat (first | exact keepC_sub _ _ _ | exact List.Sublist.slnil | refine List.Sublist.cons_cons _ ?_ | refine List.Sublist.cons _ ?_)) (by first | exact fun _ h => h | exact fun _ _ => trivial | exact fun _ h => h.2 | exact fun _ h => h.2.2.2.2 | exact fun _ h => h.2.2 | exact fun _ h => h.2.2.2 | exact fun _ h => h.2.2.2.2.2 | exact fun _ h => h.2.2.2.2.2.2 | exact fun _ h => h.2.2.2.2.2.2.2 | exact fun _ h => h.2.2.2.2.2.2.2.2 | exact fun _ h => h.2.2.2.2.2.2.2.2.2 | exact fun _ h => h.2.2.2.2.2.2.2.2.2.2 | exact fun _ h => ((allD_append _ _).1 h).2)) ?_ | refine J_rounds 2 ?_ | refine JR_succ ?_ | refine IdxE.mk 102 6 _ (hr _) (by decide) (by decide) ?_ | refine LoadE.mk 102 1 _ _ (hr _) (by decide) (by decide) (by decide) rfl ?_ | refine CallQ.mk [] _ he (fun _ _ => trivial) ?_ | refine CallP.is he ?_ | (refine CallP.mk _ [_] [] _ (bwMore0 ab _ a c l (escT s) rest h0 (by omega)) (List.perm_append_comm (l₁ := [_])) (fun _ _ => trivial) (fun v L' D' hp => ?_); obtain ⟨a', c', rfl, rfl, rfl⟩ := hp) | refine FinE.mk (bw 0 ab _ a' c' (l ++ escT s) rest) [] ⟨a', c', rfl, rfl, rfl⟩ ?_
    | fail
  exact (Ents.sub ⟨_, List.perm_append_comm⟩).trans (Ents.facts fun _ _ => trivial)

theorem skipNone (ab : Nat) (mi no : C) (a : Option Addr) (c : Nat) (l : List UInt8) (h0 : l ≠ []) (kc : Nat) :
    FnS Tryz.prog 161 [.c (.p 0 ab 0), .c (.sl none 0 kc)] (bw 0 ab 87 a c l (wR mi no)) [] (fun v L D => v = .t0 ∧ L = bw 0 ab 87 a c l (wR mi no) ∧ D = []) := by
  rw [bw_cons _ _ _ _ _ _ h0]
  unfold wR
  refine fn_of_J Tryz.tyOK 7000 Tryz.func161 (by kernel_rfl) (c := Tryz.f161.body.getD .skip) (by kernel_rfl) Tryz.ntmps161 (rs := Tryz.f161.results.toList) rfl (by simp) (fun G => ?_)
  repeat' first
    | refine J_seq ?_ | refine J_region Tryz.tyOK ?_ | refine J_block ?_ | refine J_cond ?_ | refine J_ret ?_ | refine J_skip ?_ | refine J_exit ?_ | refine J_scope ?_
    | refine CondP.yes (by omega) ?_ | refine CondP.no (by omega) ?_ | refine CondP.mk (fun h => ?_) (fun h => ?_) | refine EqP.mk rfl ?_ | refine NewP.mk (fun ad => ?_) | refine ArP.exact (by simp only [inR]; omega) ?_ | refine SideP.mk (by first | omega | (dsimp only; omega) | (simp; omega)) ?_
    | refine J_drawU (id := 0) Tryz.tyOK (by kernel_rfl) [0, 1, 3, 7, 0, 16, 48, 127, 255, 511, 1023] (.leaf [0, 1, 2, 3, 4, 5, 6, 7, 8, 9, 10]) [10] [0] 10 true (by kernel_rfl) ?_ | refine TwoP.mk ?_ ?_ | refine GoP.mk (by repeat (first | exact List.Sublist.slnil | refine List.Sublist.cons_cons _ ?_ | refine List.Sublist.cons _ ?_)) (by first | exact fun _ h => h | exact fun _ h => h.2 | exact fun _ h => ((allD_append _ _).1 h).2) ?_ | exact trivial | refine EntP.mk (Ents.ofSub (by repeat (first | exact List.Sublist.slnil | refine List.Sublist.cons_cons _ ?_ | refine List.Sublist.cons _ ?_)) (by first | exact fun _ h => h | exact fun _ _ => trivial | exact fun _ h => h.2 | exact fun _ h => h.2.2.2.2 | exact fun _ h => h.2.2 | exact fun _ h => h.2.2.2 | exact fun _ h => h.2.2.2.2.2 | exact fun _ h => h.2.2.2.2.2.2 | exact fun _ h => h.2.2.2.2.2.2.2 | exact fun _ h => h.2.2.2.2.2.2.2.2 | exact fun _ h => h.2.2.2.2.2.2.2.2.2 | exact fun _ h => h.2.2.2.2.2.2.2.2.2.2 | exact fun _ h => ((allD_append _ _).1 h).2)) ?_ | refine CallQ.mk [] _ (marksNone kc) (fun _ _ => trivial) ?_ | refine CallP.is (marksNone kc) ?_ | exact FinE.mk _ [] ⟨rfl, rfl, rfl⟩ (Ents.refl _ _)
    | fail
  all_goals trace_state

def pOpen : List UInt8 := [60, 112, 62]
def pEnd : List UInt8 := [60, 47, 112, 62, 10]

theorem linePara (ab : Nat) (ia : Option Addr) (ic : Nat) (s : List UInt8) (hs : s.length ≤ 100000) (mi no : C) :
    FnS Tryz.prog 123 [.c (.p 0 ab 0), .agg (pgC ia ic), .c (.s pOpen), .c (.s pEnd)] (bw 0 ab 87 none 0 [] (wR mi no)) [txF ia s] (BwPost .t0 0 ab 87 (pOpen ++ escT s ++ pEnd) (wR mi no)) := by
  have hle := escT_le s
  have c1 := bwString_ok 0 ab 87 none 0 [] pOpen (wR mi no) btyW (by decide) (by decide)
  unfold pgC
  refine fn_of_J Tryz.tyOK 7000 Tryz.func123 (by kernel_rfl) (c := Tryz.f123.body.getD .skip) (by kernel_rfl) Tryz.ntmps123 (rs := Tryz.f123.results.toList) rfl (by simp) (fun G => ?_)
  repeat' first
    | refine J_seq ?_ | refine J_region Tryz.tyOK ?_ | refine J_block ?_ | refine J_cond ?_ | refine J_ret ?_ | refine J_skip ?_ | refine J_exit ?_ | refine J_scope ?_
    | refine CondP.yes (by omega) ?_ | refine CondP.no (by omega) ?_ | refine CondP.mk (fun h => ?_) (fun h => ?_) | refine EqP.mk rfl ?_ | refine NewP.mk (fun ad => ?_) | refine ArP.exact (by simp only [inR]; omega) ?_ | refine SideP.mk (by first | omega | (dsimp only; omega) | (simp; omega)) ?_
    | (refine callF _ [_] [] _ c1 (List.perm_append_comm (l₁ := [_])) (fun _ _ => trivial) (fun v L' D' hp => ?_); obtain ⟨a1, c1, rfl, rfl, rfl⟩ := hp) | (refine callF _ [_] [txF ia s] _ (inlineText ab ia ic s (by omega) a1 c1 ([] ++ pOpen) (by simp [pOpen]) (by show 3 ≤ _; omega) (wR mi no)) (List.perm_append_comm (l₁ := [_])) (fun _ h => h) (fun v L' D' hp => ?_); obtain ⟨a2, c2, rfl, rfl, rfl⟩ := hp) | (refine callF _ [_] [] _ (bwMore0 ab _ a2 c2 ([] ++ pOpen ++ escT s) pEnd (wR mi no) (by simp [pOpen]) (by simp only [List.length_append]; show 0 + 3 + _ + 5 ≤ _; omega)) (List.perm_append_comm (l₁ := [_])) (fun _ _ => trivial) (fun v L' D' hp => ?_); obtain ⟨a3, c3, rfl, rfl, rfl⟩ := hp) | (refine callF _ [_] [] _ (skipNone ab mi no a3 c3 ([] ++ pOpen ++ escT s ++ pEnd) (by simp [pOpen]) _) (List.perm_append_comm (l₁ := [_])) (fun _ _ => trivial) (fun v L' D' hp => ?_); obtain ⟨rfl, rfl, rfl⟩ := hp) | refine FinE.mk (bw 0 ab _ a3 c3 (pOpen ++ escT s ++ pEnd) (wR mi no)) [] ⟨a3, c3, rfl, rfl, rfl⟩ ?_
    | fail
  exact Ents.drop.trans (Ents.facts fun _ _ => trivial)

theorem blockPara (ab : Nat) (ia : Option Addr) (ic : Nat) (s : List UInt8) (hs : s.length ≤ 100000) (mi no : C) :
    FnS Tryz.prog 85 [.c (.p 0 ab 0), .agg (pgC ia ic), .c (.b true)] (bw 0 ab 87 none 0 [] (wR mi no)) [txF ia s] (BwPost .t0 0 ab 87 (pOpen ++ escT s ++ pEnd) (wR mi no)) := by
  have c1 := linePara ab ia ic s hs mi no
  unfold pgC at c1 ⊢
  refine fn_of_J Tryz.tyOK 7000 Tryz.func85 (by kernel_rfl) (c := Tryz.f85.body.getD .skip) (by kernel_rfl) Tryz.ntmps85 (rs := Tryz.f85.results.toList) rfl (by simp) (fun G => ?_)
  repeat' first
    | refine CondP.yes (by decide) ?_ | refine CondP.no (by decide) ?_
    | refine J_seq ?_ | refine J_region Tryz.tyOK ?_ | refine J_block ?_ | refine J_cond ?_ | refine J_ret ?_ | refine J_skip ?_ | refine J_exit ?_ | refine J_scope ?_
    | refine CondP.yes (by omega) ?_ | refine CondP.no (by omega) ?_ | refine CondP.mk (fun h => ?_) (fun h => ?_) | refine EqP.mk rfl ?_ | refine NewP.mk (fun ad => ?_) | refine ArP.exact (by simp only [inR]; omega) ?_ | refine SideP.mk (by first | omega | (dsimp only; omega) | (simp; omega)) ?_
    | (refine callF _ [_] [txF ia s] _ c1 (List.perm_append_comm (l₁ := [_])) (fun _ h => h) (fun v L' D' hp => ?_); obtain ⟨a1, c1, rfl, rfl, rfl⟩ := hp) | refine FinE.mk (bw 0 ab _ a1 c1 (pOpen ++ escT s ++ pEnd) (wR mi no)) [] ⟨a1, c1, rfl, rfl, rfl⟩ ?_
    | fail
  exact Ents.drop.trans (Ents.facts fun _ _ => trivial)

theorem blocksPara (ab : Nat) (ba ia : Option Addr) (bc ic : Nat) (s : List UInt8) (hs : s.length ≤ 100000) (mi no : C) :
    FnS Tryz.prog 52 [.c (.p 0 ab 0), .c (.sl ba 1 bc), .c (.b true)] (bw 0 ab 87 none 0 [] (wR mi no)) [pgF ba ia ic, txF ia s] (BwPost .t0 0 ab 87 (pOpen ++ escT s ++ pEnd) (wR mi no)) := by
  have hr : ∀ L, Reads L [pgF ba ia ic, txF ia s] 81 5 ba 1 (pgC ia ic) := fun _ => .inr fun _ h => h.1
  have c1 := blockPara ab ia ic s hs mi no
  refine fn_of_J Tryz.tyOK 7000 Tryz.func52 (by kernel_rfl) (c := Tryz.f52.body.getD .skip) (by kernel_rfl) Tryz.ntmps52 (rs := Tryz.f52.results.toList) rfl (by simp) (fun G => ?_)
  repeat' first
    | refine CondP.yes (by decide) ?_ | refine CondP.no (by decide) ?_
    | refine J_seq ?_ | refine J_region Tryz.tyOK ?_ | refine J_block ?_ | refine J_cond ?_ | refine J_ret ?_ | refine J_skip ?_ | refine J_exit ?_ | refine J_scope ?_
    | refine CondP.yes (by omega) ?_ | refine CondP.no (by omega) ?_ | refine CondP.mk (fun h => ?_) (fun h => ?_) | refine EqP.mk rfl ?_ | refine NewP.mk (fun ad => ?_) | refine ArP.exact (by simp only [inR]; omega) ?_ | refine SideP.mk (by first | omega | (dsimp only; omega) | (simp; omega)) ?_
    | refine J_rounds 2 ?_ | refine JR_succ ?_ | refine IdxE.mk 81 5 _ (hr _) (by decide) (by decide) ?_ | refine LoadE.mk 81 1 _ _ (hr _) (by decide) (by decide) (by decide) rfl ?_ | (refine callF _ [_] [txF ia s] _ c1 (List.perm_append_comm (l₁ := [_])) (fun _ h => ⟨h.2.1, trivial⟩) (fun v L' D' hp => ?_); obtain ⟨a1, c1, rfl, rfl, rfl⟩ := hp) | refine FinE.mk (bw 0 ab _ a1 c1 (pOpen ++ escT s ++ pEnd) (wR mi no)) [] ⟨a1, c1, rfl, rfl, rfl⟩ ?_
    | fail
  exact Ents.drop.trans (Ents.facts fun _ _ => trivial)

theorem noContents (ab : Nat) (mi no : C) : FnS Tryz.prog 51 [.c (.p 0 ab 0)] (bw 0 ab 87 none 0 [] (wR mi no)) [] (fun v L D => v = .t0 ∧ L = bw 0 ab 87 none 0 [] (wR mi no) ∧ D = []) := by
  rw [bw_nil]
  unfold wR
  refine fn_of_J Tryz.tyOK 7000 Tryz.func51 (by kernel_rfl) (c := Tryz.f51.body.getD .skip) (by kernel_rfl) Tryz.ntmps51 (rs := Tryz.f51.results.toList) rfl (by simp) (fun G => ?_)
  repeat' first
    | refine CondP.yes (by decide) ?_ | refine CondP.no (by decide) ?_
    | refine J_seq ?_ | refine J_region Tryz.tyOK ?_ | refine J_block ?_ | refine J_cond ?_ | refine J_ret ?_ | refine J_skip ?_ | refine J_exit ?_ | refine J_scope ?_
    | refine CondP.yes (by omega) ?_ | refine CondP.no (by omega) ?_ | refine CondP.mk (fun h => ?_) (fun h => ?_) | refine EqP.mk rfl ?_ | refine NewP.mk (fun ad => ?_) | refine ArP.exact (by simp only [inR]; omega) ?_ | refine SideP.mk (by first | omega | (dsimp only; omega) | (simp; omega)) ?_
    | exact FinE.mk _ [] ⟨rfl, rfl, rfl⟩ (Ents.refl _ _)
    | fail

theorem noList (ab : Nat) : FnS Tryz.prog 53 [.c (.p 0 ab 0), .c (.sl none 0 0)] [] [] (Is .t0) := by
  refine fn_of_J Tryz.tyOK 7000 Tryz.func53 (by kernel_rfl) (c := Tryz.f53.body.getD .skip) (by kernel_rfl) Tryz.ntmps53 (rs := Tryz.f53.results.toList) rfl (by simp) (fun G => ?_)
  repeat' first
    | refine CondP.yes (by decide) ?_ | refine CondP.no (by decide) ?_
    | refine J_seq ?_ | refine J_region Tryz.tyOK ?_ | refine J_block ?_ | refine J_cond ?_ | refine J_ret ?_ | refine J_skip ?_ | refine J_exit ?_ | refine J_scope ?_
    | refine CondP.yes (by omega) ?_ | refine CondP.no (by omega) ?_ | refine CondP.mk (fun h => ?_) (fun h => ?_) | refine EqP.mk rfl ?_ | refine NewP.mk (fun ad => ?_) | refine ArP.exact (by simp only [inR]; omega) ?_ | refine SideP.mk (by first | omega | (dsimp only; omega) | (simp; omega)) ?_
    | exact FinE.mk _ [] ⟨rfl, rfl, rfl⟩ (Ents.refl _ _)
    | fail

end Go.Proofs
