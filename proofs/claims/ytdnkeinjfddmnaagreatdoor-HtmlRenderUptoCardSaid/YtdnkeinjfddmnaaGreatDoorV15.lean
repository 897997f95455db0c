/- This text walks through html's writer on a document of one paragraph. · This text walks through html.Render on a document of one paragraph, and through the sanity check of chapter 20. · This text proves the plain laws of the escaping: different strings have different escaped forms; these hold no brackets and no quotation marks. · This text walks through the sanity check of chapter 20 and the functions of its laws on texts and paths. · This text walks through the reference's writer of HTML: links and elements. · This text walks through the reference's writer on blocks. -/
import Derived.Test.YtdnkeinjfddmnaaGreatDoorV14
import Derived.Test.YtdnkeinjfddmnaaGreatDoorV09
import Derived.Test.YtdnkeinjfddmnaaGreatDoorV12
set_option linter.all false
namespace Go.Proofs
open Go Go.X
set_option maxRecDepth 100000
theorem callF {P : Program} {f : FuncId} {args : List V} {L : List Chunk} {D : List Fact} {K : V → List Chunk → List Fact → Prop} (L0 R : List Chunk) (D0 : List Fact) (post : V → List Chunk → List Fact → Prop) (h : FnS P f args L0 D0 post)
    (hp : L.Perm (L0 ++ R)) (hd : ∀ m, allD m D → allD m D0) (k : ∀ v L' D', post v L' D' → K v (R ++ L') (D' ++ D)) : CallP P f args L D K :=
  .mkO L0 R D0 D post h (fun _ _ hs => satW_perm hp hs) hd fun v L' D' hq => ⟨_, _, Ents.perm List.perm_append_comm, k v L' D' hq⟩
theorem bwMore0 (ab ty : Nat) (a : Option Addr) (c : Nat) (l : List UInt8) (s : List UInt8) (rest : List C) (h0 : l ≠ []) (hl : l.length + s.length ≤ 140737488355328) :
    FnS Tryz.prog 39 [.c (.p 0 ab 0), .c (.s s)] (bw 0 ab ty a c l rest) [] (BwPost (.t2 (.c (.i .i64 s.length)) (.c (.raw .nilIface))) 0 ab ty (l ++ s) rest) := by
  have hls : l ++ s ≠ [] := by simp [h0]
  rw [bw_cons _ _ _ _ _ _ h0]
  have c1 := oneCopyUsed ab ty (.sl a l.length c) rest
  refine fn_of_J Tryz.tyOK 7000 Tryz.func39 (by kernel_rfl) (c := Tryz.f39.body.getD .skip) (by kernel_rfl) Tryz.ntmps39 (rs := Tryz.f39.results.toList) rfl (by simp) (fun G => ?_)
  repeat' first
    | refine J_seq ?_ | refine J_region Tryz.tyOK ?_ | refine J_block ?_ | refine J_cond ?_ | refine J_ret ?_ | refine J_skip ?_ | refine J_exit ?_ | refine J_scope ?_
    | refine CondP.yes (by omega) ?_ | refine CondP.no (by omega) ?_ | refine CondP.mk (fun h => ?_) (fun h => ?_) | refine EqP.mk rfl ?_ | refine NewP.mk (fun ad => ?_) | refine ArP.exact (by simp only [inR]; omega) ?_ | refine SideP.mk (by first | omega | (dsimp only; omega) | (simp; omega)) ?_
    | refine CallP.mk [_] [_] [] _ c1 (List.Perm.refl _) (fun _ _ => trivial) (fun v L' D' hp => ?_); obtain ⟨rfl, rfl, rfl⟩ := hp | refine AppE.row [_] [] (l.map byteC) (s.map byteC) s.length rfl (SrcE.str _ s rfl rfl rfl) (by show (l.length + s.length) * 1 ≤ _; omega) (fun a' c' => ?_) | refine setK_s1 ?_ | refine FinE.mk (bw 0 ab ty a' c' (l ++ s) rest) [] ⟨a', c', rfl, rfl, rfl⟩ ?_
    | fail
  exact Ents.of (by rw [bw_cons _ _ _ _ _ _ hls, List.length_append, List.map_append]; rfl)
def wR (mi no : C) : List C := [mi, no, .i .i64 0, .sl none 0 0, .i .i64 0]
theorem inlineText (ab : Nat) (ia : Option Addr) (ic : Nat) (s : List UInt8) (hs : s.length ≤ 1000000) (a : Option Addr) (c : Nat) (l : List UInt8) (h0 : l ≠ []) (hl : l.length ≤ 1000000) (rest : List C) :
    FnS Tryz.prog 86 [.c (.p 0 ab 0), .c (.sl ia 1 ic), .c (.b true)] (bw 0 ab 87 a c l rest) [txF ia s] (BwPost .t0 0 ab 87 (l ++ escT s) rest) := by
  have hr : ∀ L, Reads L [txF ia s] 102 6 ia 1 (txC s) := fun _ => .inr fun _ h => h.1
  have hle := escT_le s
  have he := escape_ok s (by omega)
  refine fn_of_J Tryz.tyOK 7000 Tryz.func86 (by kernel_rfl) (c := Tryz.f86.body.getD .skip) (by kernel_rfl) Tryz.ntmps86 (rs := Tryz.f86.results.toList) rfl (by simp) (fun G => ?_)
  repeat' first
    | refine CondP.yes (by decide) ?_ | refine CondP.no (by decide) ?_
    | refine J_seq ?_ | refine J_region Tryz.tyOK ?_ | refine J_block ?_ | refine J_cond ?_ | refine J_ret ?_ | refine J_skip ?_ | refine J_exit ?_ | refine J_scope ?_
    | refine CondP.yes (by omega) ?_ | refine CondP.no (by omega) ?_ | refine CondP.mk (fun h => ?_) (fun h => ?_) | refine EqP.mk rfl ?_ | refine NewP.mk (fun ad => ?_) | refine ArP.exact (by simp only [inR]; omega) ?_ | refine SideP.mk (by first | omega | (dsimp only; omega) | (simp; omega)) ?_
    | refine J_drawU (id := 5) Tryz.tyOK (by kernel_rfl) [0, 1, 3, 0, 8, 24, 63] (.leaf [0, 1, 2, 3, 4, 5, 6]) [6] [7] 6 true (by kernel_rfl) ?_ | refine TwoP.mk ?_ ?_ | refine GoP.mk (by repeat (first | exact keepC_sub _ _ _ | exact List.Sublist.slnil | refine List.Sublist.cons_cons _ ?_ | refine List.Sublist.cons _ ?_)) (by first | exact fun _ h => h | exact fun _ h => h.2 | exact fun _ h => ((allD_append _ _).1 h).2) ?_ | exact trivial | refine J_drawU (id := 21) Tryz.tyOK (by kernel_rfl) [0, 1, 3, 7, 15, 0, 32, 96, 224, 0, 512, 1536, 3584, 7680, 16352, 32736, 65535, 131071, 262143] (.leaf [0, 1, 2, 3, 4, 5, 6, 7, 8, 9, 10, 11, 12, 13, 14, 15, 16, 17, 18]) [] [0, 93] 19 true (by kernel_rfl) ?_ | refine TwoP.mk ?_ ?_ | refine GoP.mk (by repeat (first | exact keepC_sub _ _ _ | exact List.Sublist.slnil | refine List.Sublist.cons_cons _ ?_ | refine List.Sublist.cons _ ?_)) (by first | exact fun _ h => h | exact fun _ h => h.2 | exact fun _ h => ((allD_append _ _).1 h).2) ?_ | exact trivial | refine EntP.mk (Ents.ofSub (by repeat (first | exact keepC_sub _ _ _ | exact List.Sublist.slnil | refine List.Sublist.cons_cons _ ?_ | refine List.Sublist.cons _ ?_)) (by first | exact fun _ h => h | exact fun _ _ => trivial | exact fun _ h => h.2 | exact fun _ h => h.2.2.2.2 | exact fun _ h => h.2.2 | exact fun _ h => h.2.2.2 | exact fun _ h => h.2.2.2.2.2 | exact fun _ h => h.2.2.2.2.2.2 | exact fun _ h => h.2.2.2.2.2.2.2 | exact fun _ h => h.2.2.2.2.2.2.2.2 | exact fun _ h => h.2.2.2.2.2.2.2.2.2 | exact fun _ h => h.2.2.2.2.2.2.2.2.2.2 | exact fun _ h => ((allD_append _ _).1 h).2)) ?_ | refine J_rounds 2 ?_ | refine JR_succ ?_ | refine IdxE.mk 102 6 _ (hr _) (by decide) (by decide) ?_ | refine LoadE.mk 102 1 _ _ (hr _) (by decide) (by decide) (by decide) rfl ?_ | refine CallQ.mk [] _ he (fun _ _ => trivial) ?_ | refine CallP.is he ?_ | (refine CallP.mk _ [_] [] _ (bwMore0 ab _ a c l (escT s) rest h0 (by omega)) (List.perm_append_comm (l₁ := [_])) (fun _ _ => trivial) (fun v L' D' hp => ?_); obtain ⟨a', c', rfl, rfl, rfl⟩ := hp) | refine FinE.mk (bw 0 ab _ a' c' (l ++ escT s) rest) [] ⟨a', c', rfl, rfl, rfl⟩ ?_
    | fail
  exact (Ents.sub ⟨_, List.perm_append_comm⟩).trans (Ents.facts fun _ _ => trivial)
theorem skipNone (ab : Nat) (mi no : C) (a : Option Addr) (c : Nat) (l : List UInt8) (h0 : l ≠ []) (kc : Nat) :
    FnS Tryz.prog 161 [.c (.p 0 ab 0), .c (.sl none 0 kc)] (bw 0 ab 87 a c l (wR mi no)) [] (fun v L D => v = .t0 ∧ L = bw 0 ab 87 a c l (wR mi no) ∧ D = []) := by
  rw [bw_cons _ _ _ _ _ _ h0]
  unfold wR
  refine fn_of_J Tryz.tyOK 7000 Tryz.func161 (by kernel_rfl) (c := Tryz.f161.body.getD .skip) (by kernel_rfl) Tryz.ntmps161 (rs := Tryz.f161.results.toList) rfl (by simp) (fun G => ?_)
  repeat' first
    | refine J_seq ?_ | refine J_region Tryz.tyOK ?_ | refine J_block ?_ | refine J_cond ?_ | refine J_ret ?_ | refine J_skip ?_ | refine J_exit ?_ | refine J_scope ?_
    | refine CondP.yes (by omega) ?_ | refine CondP.no (by omega) ?_ | refine CondP.mk (fun h => ?_) (fun h => ?_) | refine EqP.mk rfl ?_ | refine NewP.mk (fun ad => ?_) | refine ArP.exact (by simp only [inR]; omega) ?_ | refine SideP.mk (by first | omega | (dsimp only; omega) | (simp; omega)) ?_
    | refine J_drawU (id := 0) Tryz.tyOK (by kernel_rfl) [0, 1, 3, 7, 0, 16, 48, 127, 255, 511, 1023] (.leaf [0, 1, 2, 3, 4, 5, 6, 7, 8, 9, 10]) [10] [0] 10 true (by kernel_rfl) ?_ | refine TwoP.mk ?_ ?_ | refine GoP.mk (by repeat (first | exact List.Sublist.slnil | refine List.Sublist.cons_cons _ ?_ | refine List.Sublist.cons _ ?_)) (by first | exact fun _ h => h | exact fun _ h => h.2 | exact fun _ h => ((allD_append _ _).1 h).2) ?_ | exact trivial | refine EntP.mk (Ents.ofSub (by repeat (first | exact List.Sublist.slnil | refine List.Sublist.cons_cons _ ?_ | refine List.Sublist.cons _ ?_)) (by first | exact fun _ h => h | exact fun _ _ => trivial | exact fun _ h => h.2 | exact fun _ h => h.2.2.2.2 | exact fun _ h => h.2.2 | exact fun _ h => h.2.2.2 | exact fun _ h => h.2.2.2.2.2 | exact fun _ h => h.2.2.2.2.2.2 | exact fun _ h => h.2.2.2.2.2.2.2 | exact fun _ h => h.2.2.2.2.2.2.2.2 | exact fun _ h => h.2.2.2.2.2.2.2.2.2 | exact fun _ h => h.2.2.2.2.2.2.2.2.2.2 | exact fun _ h => ((allD_append _ _).1 h).2)) ?_ | refine CallQ.mk [] _ (marksNone kc) (fun _ _ => trivial) ?_ | refine CallP.is (marksNone kc) ?_ | exact FinE.mk _ [] ⟨rfl, rfl, rfl⟩ (Ents.refl _ _)
    | fail
  all_goals trace_state
def pOpen : List UInt8 := [60, 112, 62]
def pEnd : List UInt8 := [60, 47, 112, 62, 10]
theorem linePara (ab : Nat) (ia : Option Addr) (ic : Nat) (s : List UInt8) (hs : s.length ≤ 100000) (mi no : C) :
    FnS Tryz.prog 123 [.c (.p 0 ab 0), .agg (pgC ia ic), .c (.s pOpen), .c (.s pEnd)] (bw 0 ab 87 none 0 [] (wR mi no)) [txF ia s] (BwPost .t0 0 ab 87 (pOpen ++ escT s ++ pEnd) (wR mi no)) := by
  have hle := escT_le s
  have c1 := bwString_ok 0 ab 87 none 0 [] pOpen (wR mi no) btyW (by decide) (by decide)
  unfold pgC
  refine fn_of_J Tryz.tyOK 7000 Tryz.func123 (by kernel_rfl) (c := Tryz.f123.body.getD .skip) (by kernel_rfl) Tryz.ntmps123 (rs := Tryz.f123.results.toList) rfl (by simp) (fun G => ?_)
  repeat' first
    | refine J_seq ?_ | refine J_region Tryz.tyOK ?_ | refine J_block ?_ | refine J_cond ?_ | refine J_ret ?_ | refine J_skip ?_ | refine J_exit ?_ | refine J_scope ?_
    | refine CondP.yes (by omega) ?_ | refine CondP.no (by omega) ?_ | refine CondP.mk (fun h => ?_) (fun h => ?_) | refine EqP.mk rfl ?_ | refine NewP.mk (fun ad => ?_) | refine ArP.exact (by simp only [inR]; omega) ?_ | refine SideP.mk (by first | omega | (dsimp only; omega) | (simp; omega)) ?_
    | (refine callF _ [_] [] _ c1 (List.perm_append_comm (l₁ := [_])) (fun _ _ => trivial) (fun v L' D' hp => ?_); obtain ⟨a1, c1, rfl, rfl, rfl⟩ := hp) | (refine callF _ [_] [txF ia s] _ (inlineText ab ia ic s (by omega) a1 c1 ([] ++ pOpen) (by simp [pOpen]) (by show 3 ≤ _; omega) (wR mi no)) (List.perm_append_comm (l₁ := [_])) (fun _ h => h) (fun v L' D' hp => ?_); obtain ⟨a2, c2, rfl, rfl, rfl⟩ := hp) | (refine callF _ [_] [] _ (bwMore0 ab _ a2 c2 ([] ++ pOpen ++ escT s) pEnd (wR mi no) (by simp [pOpen]) (by simp only [List.length_append]; show 0 + 3 + _ + 5 ≤ _; omega)) (List.perm_append_comm (l₁ := [_])) (fun _ _ => trivial) (fun v L' D' hp => ?_); obtain ⟨a3, c3, rfl, rfl, rfl⟩ := hp) | (refine callF _ [_] [] _ (skipNone ab mi no a3 c3 ([] ++ pOpen ++ escT s ++ pEnd) (by simp [pOpen]) _) (List.perm_append_comm (l₁ := [_])) (fun _ _ => trivial) (fun v L' D' hp => ?_); obtain ⟨rfl, rfl, rfl⟩ := hp) | refine FinE.mk (bw 0 ab _ a3 c3 (pOpen ++ escT s ++ pEnd) (wR mi no)) [] ⟨a3, c3, rfl, rfl, rfl⟩ ?_
    | fail
  exact Ents.drop.trans (Ents.facts fun _ _ => trivial)
theorem blockPara (ab : Nat) (ia : Option Addr) (ic : Nat) (s : List UInt8) (hs : s.length ≤ 100000) (mi no : C) :
    FnS Tryz.prog 85 [.c (.p 0 ab 0), .agg (pgC ia ic), .c (.b true)] (bw 0 ab 87 none 0 [] (wR mi no)) [txF ia s] (BwPost .t0 0 ab 87 (pOpen ++ escT s ++ pEnd) (wR mi no)) := by
  have c1 := linePara ab ia ic s hs mi no
  unfold pgC at c1 ⊢
  refine fn_of_J Tryz.tyOK 7000 Tryz.func85 (by kernel_rfl) (c := Tryz.f85.body.getD .skip) (by kernel_rfl) Tryz.ntmps85 (rs := Tryz.f85.results.toList) rfl (by simp) (fun G => ?_)
  repeat' first
    | refine CondP.yes (by decide) ?_ | refine CondP.no (by decide) ?_
    | refine J_seq ?_ | refine J_region Tryz.tyOK ?_ | refine J_block ?_ | refine J_cond ?_ | refine J_ret ?_ | refine J_skip ?_ | refine J_exit ?_ | refine J_scope ?_
    | refine CondP.yes (by omega) ?_ | refine CondP.no (by omega) ?_ | refine CondP.mk (fun h => ?_) (fun h => ?_) | refine EqP.mk rfl ?_ | refine NewP.mk (fun ad => ?_) | refine ArP.exact (by simp only [inR]; omega) ?_ | refine SideP.mk (by first | omega | (dsimp only; omega) | (simp; omega)) ?_
    | (refine callF _ [_] [txF ia s] _ c1 (List.perm_append_comm (l₁ := [_])) (fun _ h => h) (fun v L' D' hp => ?_); obtain ⟨a1, c1, rfl, rfl, rfl⟩ := hp) | refine FinE.mk (bw 0 ab _ a1 c1 (pOpen ++ escT s ++ pEnd) (wR mi no)) [] ⟨a1, c1, rfl, rfl, rfl⟩ ?_
    | fail
  exact Ents.drop.trans (Ents.facts fun _ _ => trivial)
theorem blocksPara (ab : Nat) (ba ia : Option Addr) (bc ic : Nat) (s : List UInt8) (hs : s.length ≤ 100000) (mi no : C) :
    FnS Tryz.prog 52 [.c (.p 0 ab 0), .c (.sl ba 1 bc), .c (.b true)] (bw 0 ab 87 none 0 [] (wR mi no)) [pgF ba ia ic, txF ia s] (BwPost .t0 0 ab 87 (pOpen ++ escT s ++ pEnd) (wR mi no)) := by
  have hr : ∀ L, Reads L [pgF ba ia ic, txF ia s] 81 5 ba 1 (pgC ia ic) := fun _ => .inr fun _ h => h.1
  have c1 := blockPara ab ia ic s hs mi no
  refine fn_of_J Tryz.tyOK 7000 Tryz.func52 (by kernel_rfl) (c := Tryz.f52.body.getD .skip) (by kernel_rfl) Tryz.ntmps52 (rs := Tryz.f52.results.toList) rfl (by simp) (fun G => ?_)
  repeat' first
    | refine CondP.yes (by decide) ?_ | refine CondP.no (by decide) ?_
    | refine J_seq ?_ | refine J_region Tryz.tyOK ?_ | refine J_block ?_ | refine J_cond ?_ | refine J_ret ?_ | refine J_skip ?_ | refine J_exit ?_ | refine J_scope ?_
    | refine CondP.yes (by omega) ?_ | refine CondP.no (by omega) ?_ | refine CondP.mk (fun h => ?_) (fun h => ?_) | refine EqP.mk rfl ?_ | refine NewP.mk (fun ad => ?_) | refine ArP.exact (by simp only [inR]; omega) ?_ | refine SideP.mk (by first | omega | (dsimp only; omega) | (simp; omega)) ?_
    | refine J_rounds 2 ?_ | refine JR_succ ?_ | refine IdxE.mk 81 5 _ (hr _) (by decide) (by decide) ?_ | refine LoadE.mk 81 1 _ _ (hr _) (by decide) (by decide) (by decide) rfl ?_ | (refine callF _ [_] [txF ia s] _ c1 (List.perm_append_comm (l₁ := [_])) (fun _ h => ⟨h.2.1, trivial⟩) (fun v L' D' hp => ?_); obtain ⟨a1, c1, rfl, rfl, rfl⟩ := hp) | refine FinE.mk (bw 0 ab _ a1 c1 (pOpen ++ escT s ++ pEnd) (wR mi no)) [] ⟨a1, c1, rfl, rfl, rfl⟩ ?_
    | fail
  exact Ents.drop.trans (Ents.facts fun _ _ => trivial)
theorem noContents (ab : Nat) (mi no : C) : FnS Tryz.prog 51 [.c (.p 0 ab 0)] (bw 0 ab 87 none 0 [] (wR mi no)) [] (fun v L D => v = .t0 ∧ L = bw 0 ab 87 none 0 [] (wR mi no) ∧ D = []) := by
  rw [bw_nil]
  unfold wR
  refine fn_of_J Tryz.tyOK 7000 Tryz.func51 (by kernel_rfl) (c := Tryz.f51.body.getD .skip) (by kernel_rfl) Tryz.ntmps51 (rs := Tryz.f51.results.toList) rfl (by simp) (fun G => ?_)
  repeat' first
    | refine CondP.yes (by decide) ?_ | refine CondP.no (by decide) ?_
    | refine J_seq ?_ | refine J_region Tryz.tyOK ?_ | refine J_block ?_ | refine J_cond ?_ | refine J_ret ?_ | refine J_skip ?_ | refine J_exit ?_ | refine J_scope ?_
    | refine CondP.yes (by omega) ?_ | refine CondP.no (by omega) ?_ | refine CondP.mk (fun h => ?_) (fun h => ?_) | refine EqP.mk rfl ?_ | refine NewP.mk (fun ad => ?_) | refine ArP.exact (by simp only [inR]; omega) ?_ | refine SideP.mk (by first | omega | (dsimp only; omega) | (simp; omega)) ?_
    | exact FinE.mk _ [] ⟨rfl, rfl, rfl⟩ (Ents.refl _ _)
    | fail
theorem noList (ab : Nat) : FnS Tryz.prog 53 [.c (.p 0 ab 0), .c (.sl none 0 0)] [] [] (Is .t0) := by
  refine fn_of_J Tryz.tyOK 7000 Tryz.func53 (by kernel_rfl) (c := Tryz.f53.body.getD .skip) (by kernel_rfl) Tryz.ntmps53 (rs := Tryz.f53.results.toList) rfl (by simp) (fun G => ?_)
  repeat' first
    | refine CondP.yes (by decide) ?_ | refine CondP.no (by decide) ?_
    | refine J_seq ?_ | refine J_region Tryz.tyOK ?_ | refine J_block ?_ | refine J_cond ?_ | refine J_ret ?_ | refine J_skip ?_ | refine J_exit ?_ | refine J_scope ?_
    | refine CondP.yes (by omega) ?_ | refine CondP.no (by omega) ?_ | refine CondP.mk (fun h => ?_) (fun h => ?_) | refine EqP.mk rfl ?_ | refine NewP.mk (fun ad => ?_) | refine ArP.exact (by simp only [inR]; omega) ?_ | refine SideP.mk (by first | omega | (dsimp only; omega) | (simp; omega)) ?_
    | exact FinE.mk _ [] ⟨rfl, rfl, rfl⟩ (Ents.refl _ _)
    | fail
end Go.Proofs
namespace Go.Proofs
open Go Go.X
set_option maxRecDepth 100000
theorem blocksPara1 (id ab : Nat) (ba ia : Option Addr) (bc ic : Nat) (s : List UInt8) (hs : s.length ≤ 100000) (mi no : C) :
    FnS Tryz.prog 52 [.c (.p id ab 0), .c (.sl ba 1 bc), .c (.b true)] (bw id ab 87 none 0 [] (wR mi no)) [pgF ba ia ic, txF ia s] (BwPost .t0 id ab 87 (pOpen ++ escT s ++ pEnd) (wR mi no)) :=
  (blocksPara ab ba ia bc ic s hs mi no).same rfl (bw_same _ _ _ _ _ _ _ _) fun v L1 D1 ⟨a', c', h1, h2, h3⟩ => ⟨_, h2 ▸ bw_same 0 id ab _ a' c' _ _, a', c', h1, rfl, h3⟩
theorem noContents1 (id ab : Nat) (mi no : C) : FnS Tryz.prog 51 [.c (.p id ab 0)] (bw id ab 87 none 0 [] (wR mi no)) [] (fun v L D => v = .t0 ∧ L = bw id ab 87 none 0 [] (wR mi no) ∧ D = []) :=
  (noContents ab mi no).same rfl (bw_same _ _ _ _ _ _ _ _) fun v L1 D1 ⟨h1, h2, h3⟩ => ⟨_, h2 ▸ bw_same 0 id ab _ none 0 [] _, h1, rfl, h3⟩
theorem noList1 (id ab : Nat) : FnS Tryz.prog 53 [.c (.p id ab 0), .c (.sl none 0 0)] [] [] (Is .t0) :=
  (noList ab).same rfl ⟨rfl, fun _ => Iff.rfl⟩ fun v L1 D1 h => ⟨L1, ⟨rfl, fun _ => Iff.rfl⟩, h⟩
theorem renderPara (ba ia : Option Addr) (bc ic : Nat) (s : List UInt8) (hs : s.length ≤ 100000) :
    FnS Tryz.prog 20 [.c (.sl ba 1 bc), .c (.sl none 0 0)] [] [pgF ba ia ic, txF ia s] (Is (.c (.s (pOpen ++ escT s ++ pEnd)))) := by
  have hm := marksPara ba ia bc ic s
  refine fn_of_J Tryz.tyOK 0 Tryz.func20 (by kernel_rfl) (c := Tryz.f20.body.getD .skip) (by kernel_rfl) Tryz.ntmps20 (rs := Tryz.f20.results.toList) rfl (by simp) (fun G => ?_)
  repeat' first
    | refine CondP.yes (by decide) ?_ | refine CondP.no (by decide) ?_
    | refine J_seq ?_ | refine J_region Tryz.tyOK ?_ | refine J_block ?_ | refine J_cond ?_ | refine J_ret ?_ | refine J_skip ?_ | refine J_exit ?_ | refine J_scope ?_
    | refine CondP.yes (by omega) ?_ | refine CondP.no (by omega) ?_ | refine CondP.mk (fun h => ?_) (fun h => ?_) | refine EqP.mk rfl ?_ | refine NewP.mk (fun ad => ?_) | refine ArP.exact (by simp only [inR]; omega) ?_ | refine SideP.mk (by first | omega | (dsimp only; omega) | (simp; omega)) ?_
    | refine J_rounds 1 ?_ | refine JR_succ ?_ | refine CallP.is (contentsPara ba ia bc ic s) ?_ | (refine CallP.mk [] _ _ _ hm (List.Perm.refl _) (fun _ h => h) (fun v L' D' hp => ?_); obtain ⟨a1, c1, rfl, rfl, rfl⟩ := hp) | refine CallP.is (notesPara ba ia bc ic s) ?_ | refine SideP.mk (by decide) ?_ | (refine CallP.mk _ [_, _] [] _ (noContents1 _ _ _ _) (List.Perm.refl _) (fun _ _ => trivial) (fun v L' D' hp => ?_); obtain ⟨rfl, rfl, rfl⟩ := hp) | (refine CallP.mk _ [_, _] [pgF ba ia ic, txF ia s] _ (blocksPara1 _ _ ba ia bc ic s hs _ _) (List.Perm.refl _) (fun _ h => h) (fun v L' D' hp => ?_); obtain ⟨a2, c2, rfl, rfl, rfl⟩ := hp) | refine CallP.is (noList1 _ _) ?_ | (refine CallP.mk _ [_, _] [] _ (bwText_ok _ _ 87 a2 c2 (pOpen ++ escT s ++ pEnd) (wR _ _)) (List.Perm.refl _) (fun _ _ => trivial) (fun v L' D' hp => ?_); obtain ⟨rfl, rfl, rfl⟩ := hp) | exact FinE.mk [] [] ⟨rfl, rfl, rfl⟩ (Ents.dropAll.trans (Ents.facts fun _ _ => trivial))
    | fail
  all_goals trace_state
theorem paragraph_ok (s : List UInt8) : FnS Tryz.prog 28 [.c (.s s)] [] [] (fun v L D => ∃ ba ia bc ic, v = .c (.sl ba 1 bc) ∧ L = [] ∧ D = [pgF ba ia ic, txF ia s]) := by
  refine fn_of_J Tryz.tyOK 0 Tryz.func28 (by kernel_rfl) (c := Tryz.f28.body.getD .skip) (by kernel_rfl) Tryz.ntmps28 (rs := Tryz.f28.results.toList) rfl (by simp) (fun G => ?_)
  repeat' first
    | refine J_seq ?_ | refine J_region Tryz.tyOK ?_ | refine J_block ?_ | refine J_cond ?_ | refine J_ret ?_ | refine J_skip ?_ | refine J_exit ?_ | refine J_scope ?_
    | refine CondP.yes (by omega) ?_ | refine CondP.no (by omega) ?_ | refine CondP.mk (fun h => ?_) (fun h => ?_) | refine EqP.mk rfl ?_ | refine NewP.mk (fun ad => ?_) | refine ArP.exact (by simp only [inR]; omega) ?_ | refine SideP.mk (by first | omega | (dsimp only; omega) | (simp; omega)) ?_
    | fail | refine FinE.mk [] [pgF _ _ _, txF _ s] ⟨_, _, _, _, rfl, rfl, rfl⟩ (Ents.toFact.trans (Ents.toFact.trans (Ents.facts fun _ h => ⟨h.2.1, h.1, trivial⟩)))
    | fail
  all_goals trace_state
end Go.Proofs
namespace Go.X
end Go.X
namespace Go.Proofs
open Go Go.X
set_option maxRecDepth 100000
theorem known_para : pOpen ++ escT [97, 60, 98] ++ pEnd = [60, 112, 62, 97, 38, 108, 116, 59, 98, 60, 47, 112, 62, 10] := by decide
theorem known_path : pathT 0 [65, 32, 98] = [47, 119, 105, 107, 105, 47, 65, 95, 98] := by decide +kernel
theorem known_ok : FnS Tryz.prog 11 [] [] [gInt 0] (Is (.c (.b true))) := by
  have hp := paragraph_ok [97, 60, 98]
  have hpa := path_ok 0 [65, 32, 98] (by decide)
  rw [known_path] at hpa
  have he := escape_ok [38] (by decide)
  refine fn_of_J Tryz.tyOK 0 Tryz.func11 (by kernel_rfl) (c := Tryz.f11.body.getD .skip) (by kernel_rfl) Tryz.ntmps11 (rs := Tryz.f11.results.toList) rfl (by simp) (fun G => ?_)
  repeat' first
    | refine CondP.yes known_para ?_ | refine CondP.yes rfl ?_
    | refine J_seq ?_ | refine J_region Tryz.tyOK ?_ | refine J_block ?_ | refine J_cond ?_ | refine J_ret ?_ | refine J_skip ?_ | refine J_exit ?_ | refine J_scope ?_
    | refine CondP.yes (by omega) ?_ | refine CondP.no (by omega) ?_ | refine CondP.mk (fun h => ?_) (fun h => ?_) | refine EqP.mk rfl ?_ | refine NewP.mk (fun ad => ?_) | refine ArP.exact (by simp only [inR]; omega) ?_ | refine SideP.mk (by first | omega | (dsimp only; omega) | (simp; omega)) ?_
    | (refine CallP.mk [] _ _ _ hp (List.Perm.refl _) (fun _ _ => trivial) (fun v L' D' hq => ?_); obtain ⟨ba, ia, bc, ic, rfl, rfl, rfl⟩ := hq) | refine CallP.is (renderPara ba ia bc ic [97, 60, 98] (by decide)) ?_ (fun _ h => ⟨h.1, h.2.1, trivial⟩) | refine CallP.is hpa ?_ (fun _ h => ⟨h.2.2.1, trivial⟩) | refine CallP.is he ?_ | refine FinE.bool rfl
    | fail
  all_goals trace_state
end Go.Proofs
namespace Go.Proofs
open Go Go.X Go.Lib
set_option maxRecDepth 100000
structure RfK where
  ab : Nat
  ma : Option Addr
  mc : Nat
  ms : List (Int × List UInt8)
  na : Option Addr
  nc : Nat
  ea : Option Addr
  ec : Nat
  en : Nat
def rfM (K : RfK) (W : RenW) (b : Bool) (m h : Nat) : List Chunk := [.box 0 K.ab 94 [.sl K.ma K.ms.length K.mc, .sl K.na W.ns.length K.nc, .i .i64 m, .sl K.ea K.en K.ec, .i .i64 h, .b (!b)]]
def RfP (K : RfK) (W : RenW) (b : Bool) (s : List UInt8) (m h : Nat) : V → List Chunk → List Fact → Prop := fun v L D => v = .c (.s s) ∧ L = rfM K W b m h ∧ D = []
def noteG (K : RfK) (W : RenW) : Fact := slFact 3 1 K.na W.ns.length (W.ns.map (C.i .i64))
def clsT (p : Bool) : List UInt8 := if p then [99, 108, 97, 115, 115, 61, 34, 109, 105, 115, 115, 105, 110, 103, 34, 32] else []
theorem rclass_ok (K : RfK) (W : RenW) (b : Bool) (m h : Nat) (sp : Int) (nm : List UInt8) (hl : K.ms.length ≤ 100000000) : FnS Tryz.prog 93 [.c (.p 0 K.ab 0), .agg [.i .i64 sp, .s nm]] (rfM K W b m h) [misF K.ma K.ms] (RfP K W b (clsT (misP K.ms (sp, nm))) m h) := by
  unfold rfM
  refine fn_of_J Tryz.tyOK 7000 Tryz.func93 (by kernel_rfl) (c := Tryz.f93.body.getD .skip) (by kernel_rfl) Tryz.ntmps93 (rs := Tryz.f93.results.toList) rfl (by simp) (fun G => ?_)
  repeat' first
    | refine J_seq ?_ | refine J_region Tryz.tyOK ?_ | refine J_block ?_ | refine J_cond ?_ | refine J_ret ?_ | refine J_skip ?_ | refine J_exit ?_ | refine J_scope ?_
    | refine CondP.yes (by omega) ?_ | refine CondP.no (by omega) ?_ | refine CondP.mk (fun h => ?_) (fun h => ?_) | refine EqP.mk rfl ?_ | refine NewP.mk (fun ad => ?_) | refine ArP.exact (by simp only [inR]; omega) ?_ | refine SideP.mk (by first | omega | (dsimp only; omega) | (simp; omega)) ?_
    | fail
  refine J_loop (α := Nat) (fun x => [(0, .c (.p 0 K.ab 0)), (3, .c (.p 7000 ad 0)), (5, .c (.i .i64 x))]) (fun _ => [.box 7000 ad 23 [.i .i64 sp, .s nm], .box 0 K.ab 94 [.sl K.ma K.ms.length K.mc, .sl K.na W.ns.length K.nc, .i .i64 m, .sl K.ea K.en K.ec, .i .i64 h, .b (!b)]]) (fun _ => [misF K.ma K.ms]) 7001
    (fun x => x ≤ K.ms.length ∧ (sp, nm) ∉ K.ms.take x) (fun x => K.ms.length - x) (InFam.mk 0 ⟨Nat.zero_le _, by simp⟩ (by repeat' first | exact SubE.nil | refine SubE.cons rfl ?_ ?_ | exact VEq.refl _ | refine VEq.int (by omega) | refine VEq.sl rfl (by first | rfl | omega | (rw [List.length_append]; rfl) | (simp; omega)) rfl) (Ents.refl _ _)) (fun i hx => ?_)
  obtain ⟨hi, hn⟩ := hx
  by_cases hlt : i < K.ms.length
  · have hcg : ((misC K.ms).drop (i * 2 + 0)).take 2 = ttW K.ms[i] := misC_get (o := 0) (k := 2) hlt (by omega)
    have hrd : ∀ L, Reads L [misF K.ma K.ms] 23 2 K.ma K.ms.length (misC K.ms) := fun _ => .inr fun m hm => hm.1
    have hmt : (sp, nm) ∈ K.ms.take (i + 1) ↔ (sp, nm) ∈ K.ms.take i ∨ (sp, nm) = K.ms[i] := by rw [List.take_succ_eq_append_getElem hlt, List.mem_append, List.mem_singleton]
    have hmm := List.getElem_mem hlt
    generalize K.ms[i] = q at *
    obtain ⟨sp2, nm2⟩ := q
    unfold ttW at hcg
    repeat' first
      | refine J_seq ?_ | refine J_region Tryz.tyOK ?_ | refine J_block ?_ | refine J_cond ?_ | refine J_ret ?_ | refine J_skip ?_ | refine J_exit ?_ | refine J_scope ?_
      | refine CondP.yes (by omega) ?_ | refine CondP.no (by omega) ?_ | refine CondP.mk (fun h => ?_) (fun h => ?_) | refine EqP.mk rfl ?_ | refine NewP.mk (fun ad => ?_) | refine ArP.exact (by simp only [inR]; omega) ?_ | refine SideP.mk (by first | omega | (dsimp only; omega) | (simp; omega)) ?_
      | refine J_drawS (id := 4) Tryz.tyOK (by kernel_rfl) [0, 1, 3, 7, 0, 31, 63, 0, 255] [0, 1, 2, 3, 4, 5, 6, 7, 8] [] [0, 3, 20] true (by kernel_rfl) ?_ | refine EntP.mk (Ents.ofSub (by repeat (first | exact List.Sublist.slnil | refine List.Sublist.cons_cons _ ?_ | refine List.Sublist.cons _ ?_)) (by first | exact fun _ h => h | exact fun _ _ => trivial | exact fun _ h => h.2 | exact fun _ h => h.2.2.2.2 | exact fun _ h => h.2.2 | exact fun _ h => h.2.2.2 | exact fun _ h => h.2.2.2.2.2 | exact fun _ h => h.2.2.2.2.2.2 | exact fun _ h => h.2.2.2.2.2.2.2 | exact fun _ h => h.2.2.2.2.2.2.2.2 | exact fun _ h => h.2.2.2.2.2.2.2.2.2 | exact fun _ h => h.2.2.2.2.2.2.2.2.2.2 | exact fun _ h => ((allD_append _ _).1 h).2)) ?_ | refine IdxE.mk 23 2 _ (hrd _) (by omega) (by omega) ?_ | refine LoadE.mk 23 K.ms.length _ _ (hrd _) (by omega) (by omega) (by decide) (by exact hcg) ?_
      | fail
    · have e : misP K.ms (sp, nm) = true := by rw [← h.1, ← h.2.1]; exact decide_eq_true hmm
      rw [e]
      exact FinE.mk (rfM K W b m _) [] ⟨rfl, rfl, rfl⟩ ((Ents.sub ⟨[_], List.Perm.refl _⟩).trans (Ents.facts fun _ _ => trivial))
    · exact Round.mk (i + 1) (by omega) ⟨by omega, fun hc => (hmt.1 hc).elim hn (fun e => h ⟨(congrArg Prod.fst e).symm, (congrArg Prod.snd e).symm, trivial⟩)⟩ (by repeat' first | exact SubE.nil | refine SubE.cons rfl ?_ ?_ | exact VEq.refl _ | refine VEq.int (by omega)) (Ents.refl _ _)
  · have hil : i = K.ms.length := by omega
    subst hil
    rw [List.take_length] at hn
    rw [show misP K.ms (sp, nm) = false from decide_eq_false hn]
    repeat' first
      | refine J_seq ?_ | refine J_region Tryz.tyOK ?_ | refine J_block ?_ | refine J_cond ?_ | refine J_ret ?_ | refine J_skip ?_ | refine J_exit ?_ | refine J_scope ?_
      | refine CondP.yes (by omega) ?_ | refine CondP.no (by omega) ?_ | refine CondP.mk (fun h => ?_) (fun h => ?_) | refine EqP.mk rfl ?_ | refine NewP.mk (fun ad => ?_) | refine ArP.exact (by simp only [inR]; omega) ?_ | refine SideP.mk (by first | omega | (dsimp only; omega) | (simp; omega)) ?_
      | fail
    exact FinE.mk (rfM K W b m h) [] ⟨rfl, rfl, rfl⟩ ((Ents.sub ⟨[_], List.Perm.refl _⟩).trans (Ents.facts fun _ _ => trivial))
theorem rpath_ok (x : Inl) (hb : x.bulk ≤ 1100000) : FnS Tryz.prog 94 [.agg x.cells] [] [] (Is (.c (.s (lnkPath x.sp x.name x.anchor)))) := by
  have hxb := Inl.bulk_eq x
  have hpa := refPath_ok x.sp x.name (by omega)
  have han := refAnchor_ok x.anchor (by omega)
  have hal := ancT19_le x.anchor
  have hpl : (pathT x.sp x.name).length ≤ 333 := by
    have h0 := formatT_le x.sp x.name
    have h2 := pathS_le (formatT x.sp x.name)
    unfold pathT; rw [List.length_append]; have : wikiS.length = 6 := rfl; omega
  unfold lnkPath Inl.cells
  refine fn_of_J Tryz.tyOK 7000 Tryz.func94 (by kernel_rfl) (c := Tryz.f94.body.getD .skip) (by kernel_rfl) Tryz.ntmps94 (rs := Tryz.f94.results.toList) rfl (by simp) (fun G => ?_)
  by_cases hT : x.sp = 0 ∧ x.name = []
  · rw [if_pos hT]
    obtain ⟨h1, h2⟩ := hT
    repeat' first
      | refine CondP.yes ⟨h1, h2, trivial⟩ ?_
      | refine J_seq ?_ | refine J_region Tryz.tyOK ?_ | refine J_block ?_ | refine J_cond ?_ | refine J_ret ?_ | refine J_skip ?_ | refine J_exit ?_ | refine J_scope ?_
      | refine CondP.yes (by omega) ?_ | refine CondP.no (by omega) ?_ | refine CondP.mk (fun h => ?_) (fun h => ?_) | refine EqP.mk rfl ?_ | refine NewP.mk (fun ad => ?_) | refine ArP.exact (by simp only [inR]; omega) ?_ | refine SideP.mk (by first | omega | (dsimp only; omega) | (simp; omega)) ?_
      | refine CallP.is han ?_ | exact FinE.mk [] [] ⟨rfl, rfl, rfl⟩ (Ents.dropAll.trans (Ents.facts fun _ _ => trivial))
      | fail
    all_goals trace_state
  rw [if_neg hT]
  by_cases hA : x.anchor = []
  · rw [if_pos hA]
    repeat' first
      | refine CondP.no (fun hc => hT ⟨hc.1, hc.2.1⟩) ?_ | refine CondP.yes hA ?_
      | refine J_seq ?_ | refine J_region Tryz.tyOK ?_ | refine J_block ?_ | refine J_cond ?_ | refine J_ret ?_ | refine J_skip ?_ | refine J_exit ?_ | refine J_scope ?_
      | refine CondP.yes (by omega) ?_ | refine CondP.no (by omega) ?_ | refine CondP.mk (fun h => ?_) (fun h => ?_) | refine EqP.mk rfl ?_ | refine NewP.mk (fun ad => ?_) | refine ArP.exact (by simp only [inR]; omega) ?_ | refine SideP.mk (by first | omega | (dsimp only; omega) | (simp; omega)) ?_
      | refine CallP.is hpa ?_ | exact FinE.mk [] [] ⟨rfl, rfl, rfl⟩ (Ents.dropAll.trans (Ents.facts fun _ _ => trivial))
      | fail
    all_goals trace_state
  · rw [if_neg hA]
    rw [show pathT x.sp x.name ++ 35 :: ancT19 x.anchor = pathT x.sp x.name ++ [35] ++ ancT19 x.anchor by simp]
    repeat' first
      | refine CondP.no (fun hc => hT ⟨hc.1, hc.2.1⟩) ?_ | refine CondP.no hA ?_
      | refine J_seq ?_ | refine J_region Tryz.tyOK ?_ | refine J_block ?_ | refine J_cond ?_ | refine J_ret ?_ | refine J_skip ?_ | refine J_exit ?_ | refine J_scope ?_
      | refine CondP.yes (by omega) ?_ | refine CondP.no (by omega) ?_ | refine CondP.mk (fun h => ?_) (fun h => ?_) | refine EqP.mk rfl ?_ | refine NewP.mk (fun ad => ?_) | refine ArP.exact (by simp only [inR]; omega) ?_ | refine SideP.mk (by first | omega | (dsimp only; omega) | (simp; omega)) ?_
      | refine J_drawS (id := 5) Tryz.tyOK (by kernel_rfl) [0, 1, 3, 7, 0, 16, 55, 127, 255] [0, 1, 4, 5, 2, 3, 6, 7, 8] [2, 6] [1] false (by kernel_rfl) ?_ | refine EntP.mk (Ents.ofSub (by repeat (first | exact keepC_sub _ _ _ | exact List.Sublist.slnil | refine List.Sublist.cons_cons _ ?_ | refine List.Sublist.cons _ ?_)) (by first | exact fun _ h => h | exact fun _ _ => trivial | exact fun _ h => h.2 | exact fun _ h => h.2.2.2.2 | exact fun _ h => h.2.2 | exact fun _ h => h.2.2.2 | exact fun _ h => h.2.2.2.2.2 | exact fun _ h => h.2.2.2.2.2.2 | exact fun _ h => h.2.2.2.2.2.2.2 | exact fun _ h => h.2.2.2.2.2.2.2.2 | exact fun _ h => h.2.2.2.2.2.2.2.2.2 | exact fun _ h => h.2.2.2.2.2.2.2.2.2.2 | exact fun _ h => ((allD_append _ _).1 h).2)) ?_ | refine CallP.is hpa ?_ | refine CallP.is han ?_ | exact FinE.mk [] [] ⟨rfl, rfl, rfl⟩ (Ents.dropAll.trans (Ents.facts fun _ _ => trivial))
      | fail
    all_goals trace_state
set_option maxHeartbeats 4000000 in
theorem rinl_ok (K : RfK) (W : RenW) (hP : ∀ t, W.P t = misP K.ms t) (hns0 : ∀ j ∈ W.ns, 0 ≤ j ∧ j ≤ 100000000) (hnl0 : W.ns.length ≤ 100000000) (hml0 : K.ms.length ≤ 100000000) (b : Bool) (h : Nat) (n : Nat) : ∀ (els : List Inl), inlBulk els = n → ∀ (ia : Option Addr) (ic : Nat) (m : Nat), n ≤ 1100000 → m + n ≤ 100000000 → (b = true → m + (inlMarks els).length ≤ W.ns.length) →
    FnS Tryz.prog 59 [.c (.p 0 K.ab 0), .c (.sl ia els.length ic)] (rfM K W b m h) [inlF ia els, misF K.ma K.ms, noteG K W] (RfP K W b (inlRen W b m els) (mkN b m (inlMarks els).length) h) := by
  induction n using Nat.strongRecOn with | _ n ih
  intro els hn ia ic m hnb hmb hns
  have hel := inlNodes_len els
  have hnn := inlNodes_bulk els
  refine fn_of_J Tryz.tyOK 7000 Tryz.func59 (by kernel_rfl) (c := Tryz.f59.body.getD .skip) (by kernel_rfl) Tryz.ntmps59 (rs := Tryz.f59.results.toList) rfl (by simp) (fun G => ?_)
  repeat' first
    | refine J_seq ?_ | refine J_region Tryz.tyOK ?_ | refine J_block ?_ | refine J_cond ?_ | refine J_ret ?_ | refine J_skip ?_ | refine J_exit ?_ | refine J_scope ?_
    | refine CondP.yes (by omega) ?_ | refine CondP.no (by omega) ?_ | refine CondP.mk (fun h => ?_) (fun h => ?_) | refine EqP.mk rfl ?_ | refine NewP.mk (fun ad => ?_) | refine ArP.exact (by simp only [inR]; omega) ?_ | refine SideP.mk (by first | omega | (dsimp only; omega) | (simp; omega)) ?_
    | fail
  refine J_loop (α := Nat × List UInt8) (fun x => [(0, .c (.p 0 K.ab 0)), (1, .c (.sl ia els.length ic)), (5, .c (.s x.2)), (6, .c (.i .i64 x.1))])
    (fun x => rfM K W b (mkN b m (inlMarks (els.take x.1)).length) h) (fun _ => [inlF ia els, misF K.ma K.ms, noteG K W]) 7000 (fun x => x.1 ≤ els.length ∧ x.2 = inlRen W b m (els.take x.1)) (fun x => els.length - x.1)
    (InFam.mk (0, []) ⟨Nat.zero_le _, by simp [inlRen]⟩ (by repeat' first | exact SubE.nil | refine SubE.cons rfl ?_ ?_ | exact VEq.refl _ | refine VEq.int (by omega) | refine VEq.sl rfl (by first | rfl | omega | (rw [List.length_append]; rfl) | (simp; omega)) rfl) (Ents.of (by simp [inlMarks, mkN_zero]))) (fun x hx => ?_)
  obtain ⟨i, w⟩ := x
  obtain ⟨hi, hw⟩ := hx
  dsimp only at hi hw ⊢
  by_cases hlt : i < els.length
  · have hst := inlRen_succ W b m hlt
    have hms := inlMarks_succ hlt
    have hbs := inlBulk_succ hlt
    have hbt := inlBulk_take_le els (i + 1)
    have hbe := Inl.bulk_eq els[i]
    have hmt := inlMarks_bulk (els.take i)
    have hml := inl_len_bulk (inlMarks (els.take i))
    have hrt := inlRen_le W hns0 b m (els.take i) (by omega)
    have hwl : w.length ≤ 600 * inlBulk (els.take i) := by rw [hw]; omega
    rw [Inl.ren_mk] at hst
    have hmk1 : mkN b m (inlMarks (els.take (i + 1))).length = mkN b (mkN b m (inlMarks (els.take i)).length) els[i].marks.length := by rw [hms, List.length_append, mkN_add]
    have hml2 := mkN_le b m (inlMarks (els.take i)).length
    have hstep : inlRen W b m (els.take (i + 1)) = w ++ els[i].ren W b (mkN b m (inlMarks (els.take i)).length) := by rw [hst, hw]
    have hns2 : b = true → mkN b m (inlMarks (els.take i)).length + els[i].marks.length ≤ W.ns.length := fun hb => by
      have h1 := hns hb
      have h2 : (inlMarks els).length = (inlMarks (els.take (i + 1))).length + (inlMarks (els.drop (i + 1))).length := by rw [← List.length_append, ← inlMarks_append, List.take_append_drop]
      rw [hms, List.length_append] at h2
      subst hb
      simp only [mkN, if_true]; omega
    have hfk := inl_kids (a := ia) hlt
    have hcg : ((inlC els).drop (i * 6 + 0)).take 6 = els[i].cells := inlC_get (o := 0) (k := 6) hlt (by omega)
    have hrd : ∀ L, Reads L [inlF ia els, misF K.ma K.ms, noteG K W] 102 6 ia els.length (inlC els) := fun _ => inl_reads (fun _ h => ⟨h.1, trivial⟩)
    generalize mkN b m (inlMarks (els.take i)).length = mm at *
    rw [← hn] at hnb hmb
    have hkb : inlBulk els[i].kids < n := by omega
    have hcb := ih (inlBulk els[i].kids) hkb els[i].kids rfl els[i].ka els[i].kc mm (by omega) (by omega)
    clear ih hst hms
    have hre := Inl.ren_eq W b mm els[i]
    have hmq := Inl.marks_eq els[i]
    generalize els[i] = x at *
    have hpx := rpath_ok x (by omega)
    have hcx := rclass_ok K W b mm h x.sp x.name hml0
    have hlk := lnkPath_le x.sp x.name x.anchor
    unfold Inl.cells at hcg hpx
    have hrk := inlRen_le W hns0 b mm x.kids (by omega)
    have hml3 := mkN_le b mm (inlMarks x.kids).length
    unfold rfM at hcb hcx ⊢
    by_cases k1 : x.kind = 1
    · rw [if_pos k1] at hre
      rw [if_neg (by omega), if_neg (by omega)] at hmq
      have hes := refEscape_ok x.text (by omega)
      have hel2 := escT_le x.text
      repeat' first
        | refine J_seq ?_ | refine J_region Tryz.tyOK ?_ | refine J_block ?_ | refine J_cond ?_ | refine J_ret ?_ | refine J_skip ?_ | refine J_exit ?_ | refine J_scope ?_
        | refine CondP.yes (by omega) ?_ | refine CondP.no (by omega) ?_ | refine CondP.mk (fun h => ?_) (fun h => ?_) | refine EqP.mk rfl ?_ | refine NewP.mk (fun ad => ?_) | refine ArP.exact (by simp only [inR]; omega) ?_ | refine SideP.mk (by first | omega | (dsimp only; omega) | (simp; omega)) ?_
        | refine J_drawS (id := 16) Tryz.tyOK (by kernel_rfl) [0, 1, 0, 0, 8, 28, 63, 127, 0, 316, 1023, 2047, 0, 0, 8192, 29500, 65535, 131071, 262143] [0, 1, 2, 3, 4, 8, 12, 13, 14, 5, 6, 7, 9, 10, 11, 15, 16, 17, 18] [5, 9, 15] [7] false (by kernel_rfl) ?_ | refine J_drawS (id := 20) Tryz.tyOK (by kernel_rfl) [0, 1, 3, 7, 0, 16, 48, 112, 240, 511, 1023, 2047, 4095] [0, 1, 2, 3, 4, 5, 6, 7, 8, 9, 10, 11, 12] [11] [0, 95] false (by kernel_rfl) ?_ | refine EntP.mk (Ents.ofSub (by repeat (first | exact keepC_sub _ _ _ | exact List.Sublist.slnil | refine List.Sublist.cons_cons _ ?_ | refine List.Sublist.cons _ ?_)) (by first | exact fun _ h => h | exact fun _ _ => trivial | exact fun _ h => h.2 | exact fun _ h => h.2.2.2.2 | exact fun _ h => h.2.2 | exact fun _ h => h.2.2.2 | exact fun _ h => h.2.2.2.2.2 | exact fun _ h => h.2.2.2.2.2.2 | exact fun _ h => h.2.2.2.2.2.2.2 | exact fun _ h => h.2.2.2.2.2.2.2.2 | exact fun _ h => h.2.2.2.2.2.2.2.2.2 | exact fun _ h => h.2.2.2.2.2.2.2.2.2.2 | exact fun _ h => ((allD_append _ _).1 h).2)) ?_ | refine IdxE.mk 102 6 _ (hrd _) (by omega) (by omega) ?_ | refine LoadE.mk 102 els.length _ _ (hrd _) (by omega) (by omega) (by decide) (by exact hcg) ?_ | refine CallP.is hes ?_ (fun _ _ => trivial)
        | fail
      exact Round.mk (i + 1, w ++ escT x.text) (by dsimp only; omega) ⟨by dsimp only; omega, by dsimp only; rw [hstep, hre]; first | done | simp only [List.append_assoc, List.append_nil]⟩ (by repeat' first | exact SubE.nil | refine SubE.cons rfl ?_ ?_ | exact VEq.refl _ | refine VEq.int (by omega)) (by
        dsimp only; rw [hmk1, hmq]; (first | simp only [List.length_nil, mkN_zero] | skip); exact Ents.sub ⟨[_], List.Perm.refl _⟩)
    rw [if_neg k1] at hre
    by_cases k2 : x.kind = 2
    · rw [if_pos k2] at hre
      rw [if_neg (by omega), if_pos (by omega)] at hmq
      rw [hmq] at hns2
      have s1 := hcb hns2
      repeat' first
        | refine J_seq ?_ | refine J_region Tryz.tyOK ?_ | refine J_block ?_ | refine J_cond ?_ | refine J_ret ?_ | refine J_skip ?_ | refine J_exit ?_ | refine J_scope ?_
        | refine CondP.yes (by omega) ?_ | refine CondP.no (by omega) ?_ | refine CondP.mk (fun h => ?_) (fun h => ?_) | refine EqP.mk rfl ?_ | refine NewP.mk (fun ad => ?_) | refine ArP.exact (by simp only [inR]; omega) ?_ | refine SideP.mk (by first | omega | (dsimp only; omega) | (simp; omega)) ?_
        | refine J_drawS (id := 16) Tryz.tyOK (by kernel_rfl) [0, 1, 0, 0, 8, 28, 63, 127, 0, 316, 1023, 2047, 0, 0, 8192, 29500, 65535, 131071, 262143] [0, 1, 2, 3, 4, 8, 12, 13, 14, 5, 6, 7, 9, 10, 11, 15, 16, 17, 18] [5, 9, 15] [7] false (by kernel_rfl) ?_ | refine J_drawS (id := 20) Tryz.tyOK (by kernel_rfl) [0, 1, 3, 7, 0, 16, 48, 112, 240, 511, 1023, 2047, 4095] [0, 1, 2, 3, 4, 5, 6, 7, 8, 9, 10, 11, 12] [11] [0, 95] false (by kernel_rfl) ?_ | refine EntP.mk (Ents.ofSub (by repeat (first | exact keepC_sub _ _ _ | exact List.Sublist.slnil | refine List.Sublist.cons_cons _ ?_ | refine List.Sublist.cons _ ?_)) (by first | exact fun _ h => h | exact fun _ _ => trivial | exact fun _ h => h.2 | exact fun _ h => h.2.2.2.2 | exact fun _ h => h.2.2 | exact fun _ h => h.2.2.2 | exact fun _ h => h.2.2.2.2.2 | exact fun _ h => h.2.2.2.2.2.2 | exact fun _ h => h.2.2.2.2.2.2.2 | exact fun _ h => h.2.2.2.2.2.2.2.2 | exact fun _ h => h.2.2.2.2.2.2.2.2.2 | exact fun _ h => h.2.2.2.2.2.2.2.2.2.2 | exact fun _ h => ((allD_append _ _).1 h).2)) ?_ | refine IdxE.mk 102 6 _ (hrd _) (by omega) (by omega) ?_ | refine LoadE.mk 102 els.length _ _ (hrd _) (by omega) (by omega) (by decide) (by exact hcg) ?_ | (refine CallP.mk _ [_] [inlF x.ka x.kids, misF K.ma K.ms, noteG K W] _ s1 (List.perm_append_comm (l₁ := [_]) (l₂ := [_])) (fun m h => ⟨(hfk m ⟨h.1, trivial⟩).1, h.2⟩) (fun v L' D' hp => ?_); obtain ⟨rfl, rfl, rfl⟩ := hp; unfold rfM)
        | fail
      exact Round.mk (i + 1, w ++ [60, 98, 62] ++ inlRen W b mm x.kids ++ [60, 47, 98, 62]) (by dsimp only; omega) ⟨by dsimp only; omega, by dsimp only; rw [hstep, hre]; first | done | simp only [List.append_assoc, List.append_nil]⟩ (by repeat' first | exact SubE.nil | refine SubE.cons rfl ?_ ?_ | exact VEq.refl _ | refine VEq.int (by omega)) (by
        dsimp only; rw [hmk1, hmq]; (first | simp only [List.length_nil, mkN_zero] | skip); exact Ents.sub ⟨[_], List.perm_append_comm (l₁ := [_]) (l₂ := [_])⟩)
    rw [if_neg k2] at hre
    by_cases k3 : x.kind = 3
    · rw [if_pos k3] at hre
      rw [if_neg (by omega), if_pos (by omega)] at hmq
      rw [hmq] at hns2
      have s1 := hcb hns2
      repeat' first
        | refine J_seq ?_ | refine J_region Tryz.tyOK ?_ | refine J_block ?_ | refine J_cond ?_ | refine J_ret ?_ | refine J_skip ?_ | refine J_exit ?_ | refine J_scope ?_
        | refine CondP.yes (by omega) ?_ | refine CondP.no (by omega) ?_ | refine CondP.mk (fun h => ?_) (fun h => ?_) | refine EqP.mk rfl ?_ | refine NewP.mk (fun ad => ?_) | refine ArP.exact (by simp only [inR]; omega) ?_ | refine SideP.mk (by first | omega | (dsimp only; omega) | (simp; omega)) ?_
        | refine J_drawS (id := 16) Tryz.tyOK (by kernel_rfl) [0, 1, 0, 0, 8, 28, 63, 127, 0, 316, 1023, 2047, 0, 0, 8192, 29500, 65535, 131071, 262143] [0, 1, 2, 3, 4, 8, 12, 13, 14, 5, 6, 7, 9, 10, 11, 15, 16, 17, 18] [5, 9, 15] [7] false (by kernel_rfl) ?_ | refine J_drawS (id := 20) Tryz.tyOK (by kernel_rfl) [0, 1, 3, 7, 0, 16, 48, 112, 240, 511, 1023, 2047, 4095] [0, 1, 2, 3, 4, 5, 6, 7, 8, 9, 10, 11, 12] [11] [0, 95] false (by kernel_rfl) ?_ | refine EntP.mk (Ents.ofSub (by repeat (first | exact keepC_sub _ _ _ | exact List.Sublist.slnil | refine List.Sublist.cons_cons _ ?_ | refine List.Sublist.cons _ ?_)) (by first | exact fun _ h => h | exact fun _ _ => trivial | exact fun _ h => h.2 | exact fun _ h => h.2.2.2.2 | exact fun _ h => h.2.2 | exact fun _ h => h.2.2.2 | exact fun _ h => h.2.2.2.2.2 | exact fun _ h => h.2.2.2.2.2.2 | exact fun _ h => h.2.2.2.2.2.2.2 | exact fun _ h => h.2.2.2.2.2.2.2.2 | exact fun _ h => h.2.2.2.2.2.2.2.2.2 | exact fun _ h => h.2.2.2.2.2.2.2.2.2.2 | exact fun _ h => ((allD_append _ _).1 h).2)) ?_ | refine IdxE.mk 102 6 _ (hrd _) (by omega) (by omega) ?_ | refine LoadE.mk 102 els.length _ _ (hrd _) (by omega) (by omega) (by decide) (by exact hcg) ?_ | (refine CallP.mk _ [_] [inlF x.ka x.kids, misF K.ma K.ms, noteG K W] _ s1 (List.perm_append_comm (l₁ := [_]) (l₂ := [_])) (fun m h => ⟨(hfk m ⟨h.1, trivial⟩).1, h.2⟩) (fun v L' D' hp => ?_); obtain ⟨rfl, rfl, rfl⟩ := hp; unfold rfM)
        | fail
      exact Round.mk (i + 1, w ++ [60, 105, 62] ++ inlRen W b mm x.kids ++ [60, 47, 105, 62]) (by dsimp only; omega) ⟨by dsimp only; omega, by dsimp only; rw [hstep, hre]; first | done | simp only [List.append_assoc, List.append_nil]⟩ (by repeat' first | exact SubE.nil | refine SubE.cons rfl ?_ ?_ | exact VEq.refl _ | refine VEq.int (by omega)) (by
        dsimp only; rw [hmk1, hmq]; (first | simp only [List.length_nil, mkN_zero] | skip); exact Ents.sub ⟨[_], List.perm_append_comm (l₁ := [_]) (l₂ := [_])⟩)
    rw [if_neg k3] at hre
    by_cases k4 : x.kind = 4
    · rw [if_pos k4] at hre
      rw [if_neg (by omega), if_pos (by omega)] at hmq
      rw [hmq] at hns2
      have s1 := hcb hns2
      have hcl : (clsT (misP K.ms (x.sp, x.name))).length ≤ 20 := by unfold clsT; split <;> simp
      have hlo : lnkOpen (W.P (x.sp, x.name)) (lnkPath x.sp x.name x.anchor) = [60, 97, 32] ++ clsT (misP K.ms (x.sp, x.name)) ++ [104, 114, 101, 102, 61, 34] ++ lnkPath x.sp x.name x.anchor ++ [34, 62] := by
        rw [hP]; unfold lnkOpen clsT
        cases misP K.ms (x.sp, x.name) <;> simp
      rw [hlo] at hre
      generalize clsT (misP K.ms (x.sp, x.name)) = cl at *
      generalize lnkPath x.sp x.name x.anchor = lp at *
      repeat' first
        | refine J_seq ?_ | refine J_region Tryz.tyOK ?_ | refine J_block ?_ | refine J_cond ?_ | refine J_ret ?_ | refine J_skip ?_ | refine J_exit ?_ | refine J_scope ?_
        | refine CondP.yes (by omega) ?_ | refine CondP.no (by omega) ?_ | refine CondP.mk (fun h => ?_) (fun h => ?_) | refine EqP.mk rfl ?_ | refine NewP.mk (fun ad => ?_) | refine ArP.exact (by simp only [inR]; omega) ?_ | refine SideP.mk (by first | omega | (dsimp only; omega) | (simp; omega)) ?_
        | refine J_drawS (id := 16) Tryz.tyOK (by kernel_rfl) [0, 1, 0, 0, 8, 28, 63, 127, 0, 316, 1023, 2047, 0, 0, 8192, 29500, 65535, 131071, 262143] [0, 1, 2, 3, 4, 8, 12, 13, 14, 5, 6, 7, 9, 10, 11, 15, 16, 17, 18] [5, 9, 15] [7] false (by kernel_rfl) ?_ | refine J_drawS (id := 20) Tryz.tyOK (by kernel_rfl) [0, 1, 3, 7, 0, 16, 48, 112, 240, 511, 1023, 2047, 4095] [0, 1, 2, 3, 4, 5, 6, 7, 8, 9, 10, 11, 12] [11] [0, 95] false (by kernel_rfl) ?_ | refine EntP.mk (Ents.ofSub (by repeat (first | exact keepC_sub _ _ _ | exact List.Sublist.slnil | refine List.Sublist.cons_cons _ ?_ | refine List.Sublist.cons _ ?_)) (by first | exact fun _ h => h | exact fun _ _ => trivial | exact fun _ h => h.2 | exact fun _ h => h.2.2.2.2 | exact fun _ h => h.2.2 | exact fun _ h => h.2.2.2 | exact fun _ h => h.2.2.2.2.2 | exact fun _ h => h.2.2.2.2.2.2 | exact fun _ h => h.2.2.2.2.2.2.2 | exact fun _ h => h.2.2.2.2.2.2.2.2 | exact fun _ h => h.2.2.2.2.2.2.2.2.2 | exact fun _ h => h.2.2.2.2.2.2.2.2.2.2 | exact fun _ h => ((allD_append _ _).1 h).2)) ?_ | refine IdxE.mk 102 6 _ (hrd _) (by omega) (by omega) ?_ | refine LoadE.mk 102 els.length _ _ (hrd _) (by omega) (by omega) (by decide) (by exact hcg) ?_ | (refine CallP.mk _ [_] [misF K.ma K.ms] _ hcx (List.perm_append_comm (l₁ := [_]) (l₂ := [_])) (fun m h => ⟨h.2.1, trivial⟩) (fun v L' D' hp => ?_); obtain ⟨rfl, rfl, rfl⟩ := hp; unfold rfM) | refine CallP.is hpx ?_ (fun _ _ => trivial) | (refine CallP.mk _ [_] [inlF x.ka x.kids, misF K.ma K.ms, noteG K W] _ s1 (List.Perm.refl _) (fun m h => ⟨(hfk m ⟨h.1, trivial⟩).1, h.2⟩) (fun v L' D' hp => ?_); obtain ⟨rfl, rfl, rfl⟩ := hp; unfold rfM)
        | fail
      exact Round.mk (i + 1, w ++ [60, 97, 32] ++ cl ++ [104, 114, 101, 102, 61, 34] ++ lp ++ [34, 62] ++ inlRen W b mm x.kids ++ [60, 47, 97, 62]) (by dsimp only; omega) ⟨by dsimp only; omega, by dsimp only; rw [hstep, hre]; first | done | simp only [List.append_assoc, List.append_nil]⟩ (by repeat' first | exact SubE.nil | refine SubE.cons rfl ?_ ?_ | exact VEq.refl _ | refine VEq.int (by omega)) (by
        dsimp only; rw [hmk1, hmq]; (first | simp only [List.length_nil, mkN_zero] | skip); exact Ents.sub ⟨[_], List.perm_append_comm (l₁ := [_]) (l₂ := [_])⟩)
    rw [if_neg k4] at hre
    by_cases k6 : x.kind = 6
    · rw [if_neg (by omega), if_pos k6] at hre
      rw [if_neg (by omega), if_neg (by omega)] at hmq
      repeat' first
        | refine J_seq ?_ | refine J_region Tryz.tyOK ?_ | refine J_block ?_ | refine J_cond ?_ | refine J_ret ?_ | refine J_skip ?_ | refine J_exit ?_ | refine J_scope ?_
        | refine CondP.yes (by omega) ?_ | refine CondP.no (by omega) ?_ | refine CondP.mk (fun h => ?_) (fun h => ?_) | refine EqP.mk rfl ?_ | refine NewP.mk (fun ad => ?_) | refine ArP.exact (by simp only [inR]; omega) ?_ | refine SideP.mk (by first | omega | (dsimp only; omega) | (simp; omega)) ?_
        | refine J_drawS (id := 16) Tryz.tyOK (by kernel_rfl) [0, 1, 0, 0, 8, 28, 63, 127, 0, 316, 1023, 2047, 0, 0, 8192, 29500, 65535, 131071, 262143] [0, 1, 2, 3, 4, 8, 12, 13, 14, 5, 6, 7, 9, 10, 11, 15, 16, 17, 18] [5, 9, 15] [7] false (by kernel_rfl) ?_ | refine J_drawS (id := 20) Tryz.tyOK (by kernel_rfl) [0, 1, 3, 7, 0, 16, 48, 112, 240, 511, 1023, 2047, 4095] [0, 1, 2, 3, 4, 5, 6, 7, 8, 9, 10, 11, 12] [11] [0, 95] false (by kernel_rfl) ?_ | refine EntP.mk (Ents.ofSub (by repeat (first | exact keepC_sub _ _ _ | exact List.Sublist.slnil | refine List.Sublist.cons_cons _ ?_ | refine List.Sublist.cons _ ?_)) (by first | exact fun _ h => h | exact fun _ _ => trivial | exact fun _ h => h.2 | exact fun _ h => h.2.2.2.2 | exact fun _ h => h.2.2 | exact fun _ h => h.2.2.2 | exact fun _ h => h.2.2.2.2.2 | exact fun _ h => h.2.2.2.2.2.2 | exact fun _ h => h.2.2.2.2.2.2.2 | exact fun _ h => h.2.2.2.2.2.2.2.2 | exact fun _ h => h.2.2.2.2.2.2.2.2.2 | exact fun _ h => h.2.2.2.2.2.2.2.2.2.2 | exact fun _ h => ((allD_append _ _).1 h).2)) ?_ | refine IdxE.mk 102 6 _ (hrd _) (by omega) (by omega) ?_ | refine LoadE.mk 102 els.length _ _ (hrd _) (by omega) (by omega) (by decide) (by exact hcg) ?_
        | fail
      exact Round.mk (i + 1, w ++ [60, 98, 114, 62]) (by dsimp only; omega) ⟨by dsimp only; omega, by dsimp only; rw [hstep, hre]; first | done | simp only [List.append_assoc, List.append_nil]⟩ (by repeat' first | exact SubE.nil | refine SubE.cons rfl ?_ ?_ | exact VEq.refl _ | refine VEq.int (by omega)) (by
        dsimp only; rw [hmk1, hmq]; (first | simp only [List.length_nil, mkN_zero] | skip); exact Ents.sub ⟨[_], List.Perm.refl _⟩)
    by_cases k5 : x.kind = 5
    · rw [if_pos k5] at hre hmq
      cases b with
      | false =>
        rw [if_neg (by decide)] at hre
        repeat' first
          | refine J_seq ?_ | refine J_region Tryz.tyOK ?_ | refine J_block ?_ | refine J_cond ?_ | refine J_ret ?_ | refine J_skip ?_ | refine J_exit ?_ | refine J_scope ?_
          | refine CondP.yes (by omega) ?_ | refine CondP.no (by omega) ?_ | refine CondP.mk (fun h => ?_) (fun h => ?_) | refine EqP.mk rfl ?_ | refine NewP.mk (fun ad => ?_) | refine ArP.exact (by simp only [inR]; omega) ?_ | refine SideP.mk (by first | omega | (dsimp only; omega) | (simp; omega)) ?_
          | refine J_drawS (id := 16) Tryz.tyOK (by kernel_rfl) [0, 1, 0, 0, 8, 28, 63, 127, 0, 316, 1023, 2047, 0, 0, 8192, 29500, 65535, 131071, 262143] [0, 1, 2, 3, 4, 8, 12, 13, 14, 5, 6, 7, 9, 10, 11, 15, 16, 17, 18] [5, 9, 15] [7] false (by kernel_rfl) ?_ | refine J_drawS (id := 20) Tryz.tyOK (by kernel_rfl) [0, 1, 3, 7, 0, 16, 48, 112, 240, 511, 1023, 2047, 4095] [0, 1, 2, 3, 4, 5, 6, 7, 8, 9, 10, 11, 12] [11] [0, 95] false (by kernel_rfl) ?_ | refine EntP.mk (Ents.ofSub (by repeat (first | exact keepC_sub _ _ _ | exact List.Sublist.slnil | refine List.Sublist.cons_cons _ ?_ | refine List.Sublist.cons _ ?_)) (by first | exact fun _ h => h | exact fun _ _ => trivial | exact fun _ h => h.2 | exact fun _ h => h.2.2.2.2 | exact fun _ h => h.2.2 | exact fun _ h => h.2.2.2 | exact fun _ h => h.2.2.2.2.2 | exact fun _ h => h.2.2.2.2.2.2 | exact fun _ h => h.2.2.2.2.2.2.2 | exact fun _ h => h.2.2.2.2.2.2.2.2 | exact fun _ h => h.2.2.2.2.2.2.2.2.2 | exact fun _ h => h.2.2.2.2.2.2.2.2.2.2 | exact fun _ h => ((allD_append _ _).1 h).2)) ?_ | refine IdxE.mk 102 6 _ (hrd _) (by omega) (by omega) ?_ | refine LoadE.mk 102 els.length _ _ (hrd _) (by omega) (by omega) (by decide) (by exact hcg) ?_
          | fail
        exact Round.mk (i + 1, w) (by dsimp only; omega) ⟨by dsimp only; omega, by dsimp only; rw [hstep, hre]; first | done | simp only [List.append_assoc, List.append_nil]⟩ (by repeat' first | exact SubE.nil | refine SubE.cons rfl ?_ ?_ | exact VEq.refl _ | refine VEq.int (by omega)) (by
        dsimp only; rw [hmk1, hmq]; (first | simp only [List.length_nil, mkN_zero] | skip); (rw [mkN_off]); exact Ents.sub ⟨[_], List.Perm.refl _⟩)
      | true =>
        rw [if_pos rfl] at hre
        rw [hmq] at hns2
        have hnl : mm < W.ns.length := hns2 rfl
        have hjb := getD_b hns0 mm
        have hgn : ((W.ns.map (C.i .i64)).drop (((mm : Int) + 1 - 1).toNat * 1 + 0)).take 1 = [.i .i64 (W.ns.getD mm 0)] := by
          rw [show ((mm : Int) + 1 - 1).toNat * 1 + 0 = mm by omega, ← List.map_drop, ← List.map_take, List.drop_eq_getElem_cons hnl, List.getD_eq_getElem?_getD, List.getElem?_eq_getElem hnl]; rfl
        have hrn : ∀ L, Reads L [inlF ia els, misF K.ma K.ms, noteG K W] 3 1 K.na W.ns.length (W.ns.map (C.i .i64)) := fun _ => .inr fun m hm => hm.2.2.1
        generalize W.ns.getD mm 0 = j at *
        have hi1 := dec_ok ((mm : Int) + 1) (by omega) (by omega)
        have hi2 := dec_ok j (by omega) (by omega)
        have il1 := itoa_le (n := (mm : Int) + 1) (by omega) (by omega)
        have il2 := itoa_le (n := j) (by omega) (by omega)
        have hsl := supT_le (k := (mm : Int) + 1) (j := j) (by omega) (by omega) (by omega) (by omega)
        repeat' first
          | refine J_seq ?_ | refine J_region Tryz.tyOK ?_ | refine J_block ?_ | refine J_cond ?_ | refine J_ret ?_ | refine J_skip ?_ | refine J_exit ?_ | refine J_scope ?_
          | refine CondP.yes (by omega) ?_ | refine CondP.no (by omega) ?_ | refine CondP.mk (fun h => ?_) (fun h => ?_) | refine EqP.mk rfl ?_ | refine NewP.mk (fun ad => ?_) | refine ArP.exact (by simp only [inR]; omega) ?_ | refine SideP.mk (by first | omega | (dsimp only; omega) | (simp; omega)) ?_
          | refine J_drawS (id := 16) Tryz.tyOK (by kernel_rfl) [0, 1, 0, 0, 8, 28, 63, 127, 0, 316, 1023, 2047, 0, 0, 8192, 29500, 65535, 131071, 262143] [0, 1, 2, 3, 4, 8, 12, 13, 14, 5, 6, 7, 9, 10, 11, 15, 16, 17, 18] [5, 9, 15] [7] false (by kernel_rfl) ?_ | refine J_drawS (id := 20) Tryz.tyOK (by kernel_rfl) [0, 1, 3, 7, 0, 16, 48, 112, 240, 511, 1023, 2047, 4095] [0, 1, 2, 3, 4, 5, 6, 7, 8, 9, 10, 11, 12] [11] [0, 95] false (by kernel_rfl) ?_ | refine EntP.mk (Ents.ofSub (by repeat (first | exact keepC_sub _ _ _ | exact List.Sublist.slnil | refine List.Sublist.cons_cons _ ?_ | refine List.Sublist.cons _ ?_)) (by first | exact fun _ h => h | exact fun _ _ => trivial | exact fun _ h => h.2 | exact fun _ h => h.2.2.2.2 | exact fun _ h => h.2.2 | exact fun _ h => h.2.2.2 | exact fun _ h => h.2.2.2.2.2 | exact fun _ h => h.2.2.2.2.2.2 | exact fun _ h => h.2.2.2.2.2.2.2 | exact fun _ h => h.2.2.2.2.2.2.2.2 | exact fun _ h => h.2.2.2.2.2.2.2.2.2 | exact fun _ h => h.2.2.2.2.2.2.2.2.2.2 | exact fun _ h => ((allD_append _ _).1 h).2)) ?_ | refine IdxE.mk 102 6 _ (hrd _) (by omega) (by omega) ?_ | refine LoadE.mk 102 els.length _ _ (hrd _) (by omega) (by omega) (by decide) (by exact hcg) ?_ | refine IdxE.mk 3 1 _ (hrn _) (by omega) (by omega) ?_ | refine LoadE.mk 3 W.ns.length _ _ (hrn _) (by omega) (by omega) (by decide) (by exact hgn) ?_ | refine CallP.is hi1 ?_ (fun _ _ => trivial) | refine CallP.is hi2 ?_ (fun _ _ => trivial)
          | fail
        unfold supT at hre
        exact Round.mk (i + 1, w ++ [60, 115, 117, 112, 32, 105, 100, 61, 34, 109, 97, 114, 107, 45] ++ itoa ((mm : Int) + 1) ++ [34, 62, 60, 97, 32, 104, 114, 101, 102, 61, 34, 35, 110, 111, 116, 101, 45] ++ itoa j ++ [34, 62, 91] ++ itoa j ++ [93, 60, 47, 97, 62, 60, 47, 115, 117, 112, 62]) (by dsimp only; omega) ⟨by dsimp only; omega, by dsimp only; rw [hstep, hre]; first | done | simp only [List.append_assoc, List.append_nil]⟩ (by repeat' first | exact SubE.nil | refine SubE.cons rfl ?_ ?_ | exact VEq.refl _ | refine VEq.int (by omega)) (by
        dsimp only; rw [hmk1, hmq]; (first | simp only [List.length_nil, mkN_zero] | skip); (rw [List.length_singleton]; show Ents _ _ [.box _ _ _ [_, _, .i .i64 ((mkN true mm 1 : Nat) : Int), _, _, _]] _; rw [mkN_one]); exact Ents.sub ⟨[_], List.Perm.refl _⟩)
    · rw [if_neg k5, if_neg k6] at hre
      rw [if_neg k5, if_neg (by omega)] at hmq
      repeat' first
        | refine J_seq ?_ | refine J_region Tryz.tyOK ?_ | refine J_block ?_ | refine J_cond ?_ | refine J_ret ?_ | refine J_skip ?_ | refine J_exit ?_ | refine J_scope ?_
        | refine CondP.yes (by omega) ?_ | refine CondP.no (by omega) ?_ | refine CondP.mk (fun h => ?_) (fun h => ?_) | refine EqP.mk rfl ?_ | refine NewP.mk (fun ad => ?_) | refine ArP.exact (by simp only [inR]; omega) ?_ | refine SideP.mk (by first | omega | (dsimp only; omega) | (simp; omega)) ?_
        | refine J_drawS (id := 16) Tryz.tyOK (by kernel_rfl) [0, 1, 0, 0, 8, 28, 63, 127, 0, 316, 1023, 2047, 0, 0, 8192, 29500, 65535, 131071, 262143] [0, 1, 2, 3, 4, 8, 12, 13, 14, 5, 6, 7, 9, 10, 11, 15, 16, 17, 18] [5, 9, 15] [7] false (by kernel_rfl) ?_ | refine J_drawS (id := 20) Tryz.tyOK (by kernel_rfl) [0, 1, 3, 7, 0, 16, 48, 112, 240, 511, 1023, 2047, 4095] [0, 1, 2, 3, 4, 5, 6, 7, 8, 9, 10, 11, 12] [11] [0, 95] false (by kernel_rfl) ?_ | refine EntP.mk (Ents.ofSub (by repeat (first | exact keepC_sub _ _ _ | exact List.Sublist.slnil | refine List.Sublist.cons_cons _ ?_ | refine List.Sublist.cons _ ?_)) (by first | exact fun _ h => h | exact fun _ _ => trivial | exact fun _ h => h.2 | exact fun _ h => h.2.2.2.2 | exact fun _ h => h.2.2 | exact fun _ h => h.2.2.2 | exact fun _ h => h.2.2.2.2.2 | exact fun _ h => h.2.2.2.2.2.2 | exact fun _ h => h.2.2.2.2.2.2.2 | exact fun _ h => h.2.2.2.2.2.2.2.2 | exact fun _ h => h.2.2.2.2.2.2.2.2.2 | exact fun _ h => h.2.2.2.2.2.2.2.2.2.2 | exact fun _ h => ((allD_append _ _).1 h).2)) ?_ | refine IdxE.mk 102 6 _ (hrd _) (by omega) (by omega) ?_ | refine LoadE.mk 102 els.length _ _ (hrd _) (by omega) (by omega) (by decide) (by exact hcg) ?_
        | fail
      exact Round.mk (i + 1, w) (by dsimp only; omega) ⟨by dsimp only; omega, by dsimp only; rw [hstep, hre]; first | done | simp only [List.append_assoc, List.append_nil]⟩ (by repeat' first | exact SubE.nil | refine SubE.cons rfl ?_ ?_ | exact VEq.refl _ | refine VEq.int (by omega)) (by
        dsimp only; rw [hmk1, hmq]; (first | simp only [List.length_nil, mkN_zero] | skip); exact Ents.sub ⟨[_], List.Perm.refl _⟩)
  · have hil : i = els.length := by omega
    subst hil
    rw [List.take_length] at hw ⊢
    subst hw
    unfold rfM
    repeat' first
      | refine J_seq ?_ | refine J_region Tryz.tyOK ?_ | refine J_block ?_ | refine J_cond ?_ | refine J_ret ?_ | refine J_skip ?_ | refine J_exit ?_ | refine J_scope ?_
      | refine CondP.yes (by omega) ?_ | refine CondP.no (by omega) ?_ | refine CondP.mk (fun h => ?_) (fun h => ?_) | refine EqP.mk rfl ?_ | refine NewP.mk (fun ad => ?_) | refine ArP.exact (by simp only [inR]; omega) ?_ | refine SideP.mk (by first | omega | (dsimp only; omega) | (simp; omega)) ?_
      | fail
    exact FinE.mk (rfM K W b (mkN b m (inlMarks els).length) h) [] ⟨rfl, rfl, rfl⟩ (Ents.facts fun _ _ => trivial)
end Go.Proofs
namespace Go.Proofs
open Go Go.X Go.Lib
set_option maxRecDepth 100000
set_option maxHeartbeats 8000000 in
theorem rblock_ok (K : RfK) (W : RenW) (hP : ∀ t, W.P t = misP K.ms t) (hns0 : ∀ j ∈ W.ns, 0 ≤ j ∧ j ≤ 100000000) (hnl0 : W.ns.length ≤ 100000000) (hml0 : K.ms.length ≤ 100000000) (es : List EntT) (hes : K.en = es.length) (han : W.an = ancs es) (A : Nat) (hA : ∀ i, (hId W true i).length ≤ A) (hA2 : A ≤ 100000000000) (hel : es.length ≤ 100000000) (hea : ∀ e ∈ es, e.anchor.length ≤ 10000000) (x : Blk) (top : Bool) (h : Nat) (hb : x.bulk ≤ 1100000) (D : List Fact)
    (hD : ∀ mm, allD mm D → allD mm [inlF x.ia x.inl, blkF x.ka x.kids, misF K.ma K.ms, entF K.ea es, noteG K W]) (m : Nat) (hh : Nat) (hhh : hh = if top = true ∧ x.kind = 1 then h + 1 else h) (hkl : (blksRen W false (m + (inlMarks x.inl).length) hh x.kids).length ≤ 700 * blkBulk x.kids)
    (hck : FnS Tryz.prog 58 [.c (.p 0 K.ab 0), .c (.sl x.ka x.kids.length x.kc), .c (.b false)] (rfM K W true (m + (inlMarks x.inl).length) hh) [blkF x.ka x.kids, misF K.ma K.ms, entF K.ea es, noteG K W] (RfP K W true (blksRen W false (m + (inlMarks x.inl).length) hh x.kids) (m + (inlMarks x.inl).length + (blkMarks x.kids).length) hh))
    (hm : m + x.bulk ≤ 100000000) (hns : m + x.marks.length ≤ W.ns.length) (hhx : top = true → x.kind = 1 → h < es.length) :
    FnS Tryz.prog 92 [.c (.p 0 K.ab 0), .agg x.cells, .c (.b top)] (rfM K W true m h) D (RfP K W true (x.ren W top m h) (m + x.marks.length) hh) := by
  have hxb := Blk.bulk_eq x
  have hes1 := refEscape_ok x.text (by omega)
  have hes2 := escT_le x.text
  have hmq := Blk.marks_eq x
  have hml := inlMarks_bulk x.inl
  have hmn := inl_len_bulk (inlMarks x.inl)
  have hrl := inlRen_le W hns0 true m x.inl (by omega)
  have hmz : x.marks.length = (inlMarks x.inl).length + (blkMarks x.kids).length := by rw [hmq, List.length_append]
  have s1 := rinl_ok K W hP hns0 hnl0 hml0 true hh _ x.inl rfl x.ia x.ic m (by omega) (by omega) (fun _ => by omega)
  have s2 := hck
  simp only [mkN_on] at s1
  rw [hmz, ← Nat.add_assoc]
  unfold rfM at s1 s2 ⊢
  rw [hes] at s1 s2 ⊢
  unfold Blk.cells
  refine fn_of_J Tryz.tyOK 7000 Tryz.func92 (by kernel_rfl) (c := Tryz.f92.body.getD .skip) (by kernel_rfl) Tryz.ntmps92 (rs := Tryz.f92.results.toList) rfl (by simp) (fun G => ?_)
  repeat' first
    | refine J_stop (c := .seq (.seq (.region 2 _ _) _) _) ?_
    | refine J_seq ?_ | refine J_region Tryz.tyOK ?_ | refine J_block ?_ | refine J_cond ?_ | refine J_ret ?_ | refine J_skip ?_ | refine J_exit ?_ | refine J_scope ?_
    | refine CondP.yes (by omega) ?_ | refine CondP.no (by omega) ?_ | refine CondP.mk (fun h => ?_) (fun h => ?_) | refine EqP.mk rfl ?_ | refine NewP.mk (fun ad => ?_) | refine ArP.exact (by simp only [inR]; omega) ?_ | refine SideP.mk (by first | omega | (dsimp only; omega) | (simp; omega)) ?_
    | fail
  refine ⟨?_⟩
  obtain ⟨idv, hidv⟩ : ∃ idv, idv = (if top = true ∧ x.kind = 1 then hId W top h else []) := ⟨_, rfl⟩
  have hidl : idv.length ≤ A := by
    rw [hidv]
    cases top with
    | true => split; exact hA h; exact Nat.zero_le _
    | false => rw [if_neg (fun hc => by cases hc.1)]; exact Nat.zero_le _
  refine J_cut (α := Unit) (fun _ => [(0, .c (.p 0 K.ab 0)), (2, .c (.b top)), (4, .c (.p 7000 ad 0)), (7, .c (.s idv))])
    (fun _ => [.box 7000 ad 81 [.i .i64 x.kind, .i .i64 x.level, .s x.text, .sl x.ia x.inl.length x.ic, .sl x.ka x.kids.length x.kc], .box 0 K.ab 94 [.sl K.ma K.ms.length K.mc, .sl K.na W.ns.length K.nc, .i .i64 m, .sl K.ea es.length K.ec, .i .i64 hh, .b (!true)]]) (fun _ => D) 7001 (fun _ => True) ?_ (fun _ _ => ?_)
  · cases top with
    | false =>
      rw [if_neg (fun hc => by cases hc.1)] at hhh hidv
      subst hidv
      subst hhh
      repeat' first
        | refine J_seq ?_ | refine J_region Tryz.tyOK ?_ | refine J_block ?_ | refine J_cond ?_ | refine J_ret ?_ | refine J_skip ?_ | refine J_exit ?_ | refine J_scope ?_
        | refine CondP.yes (by omega) ?_ | refine CondP.no (by omega) ?_ | refine CondP.mk (fun h => ?_) (fun h => ?_) | refine EqP.mk rfl ?_ | refine NewP.mk (fun ad => ?_) | refine ArP.exact (by simp only [inR]; omega) ?_ | refine SideP.mk (by first | omega | (dsimp only; omega) | (simp; omega)) ?_
        | exact InFam.mk () trivial (by repeat' first | exact SubE.nil | refine SubE.cons rfl ?_ ?_ | exact VEq.refl _ | refine VEq.int (by omega) | refine VEq.sl rfl (by first | rfl | omega | (rw [List.length_append]; rfl) | (simp; omega)) rfl) (Ents.refl _ _)
        | fail
    | true =>
      by_cases k1 : x.kind = 1
      · rw [if_pos ⟨rfl, k1⟩] at hhh hidv
        have hlt := hhx rfl k1
        have hrd : ∀ L, Reads L D 42 4 K.ea es.length (entC es) := fun _ => .inr fun m hm => (hD m hm).2.2.2.1
        have hg3 : ((entC es).drop (h * 4 + 3)).take 1 = [.s es[h].anchor] := entC_get (o := 3) (k := 1) hlt (by omega)
        have hae : hId W true h = [32, 105, 100, 61, 34] ++ escT es[h].anchor ++ [34] := by
          unfold hId; rw [if_pos rfl, han, ancs, List.getD_eq_getElem?_getD, List.getElem?_map, List.getElem?_eq_getElem hlt]; rfl
        have hae1 := refEscape_ok es[h].anchor (hea es[h] (List.getElem_mem hlt))
        have hae2 := escT_le es[h].anchor
        have hea2 := hea es[h] (List.getElem_mem hlt)
        rw [hae] at hidv
        generalize es[h].anchor = an at *
        subst hidv
        repeat' first
          | refine J_seq ?_ | refine J_region Tryz.tyOK ?_ | refine J_block ?_ | refine J_cond ?_ | refine J_ret ?_ | refine J_skip ?_ | refine J_exit ?_ | refine J_scope ?_
          | refine CondP.yes (by omega) ?_ | refine CondP.no (by omega) ?_ | refine CondP.mk (fun h => ?_) (fun h => ?_) | refine EqP.mk rfl ?_ | refine NewP.mk (fun ad => ?_) | refine ArP.exact (by simp only [inR]; omega) ?_ | refine SideP.mk (by first | omega | (dsimp only; omega) | (simp; omega)) ?_
          | refine J_drawS (id := 3) Tryz.tyOK (by kernel_rfl) [0, 1, 3, 7, 0, 16, 48, 112, 255, 511, 1023, 2047, 4095, 8191, 16383] [0, 1, 2, 3, 4, 5, 6, 7, 8, 9, 10, 11, 12, 13, 14] [11] [0, 26] false (by kernel_rfl) ?_ | refine EntP.mk (Ents.ofSub (by repeat (first | exact keepC_sub _ _ _ | exact List.Sublist.slnil | refine List.Sublist.cons_cons _ ?_ | refine List.Sublist.cons _ ?_)) (by first | exact fun _ h => h | exact fun _ _ => trivial | exact fun _ h => h.2 | exact fun _ h => h.2.2.2.2 | exact fun _ h => h.2.2 | exact fun _ h => h.2.2.2 | exact fun _ h => h.2.2.2.2.2 | exact fun _ h => h.2.2.2.2.2.2 | exact fun _ h => h.2.2.2.2.2.2.2 | exact fun _ h => h.2.2.2.2.2.2.2.2 | exact fun _ h => h.2.2.2.2.2.2.2.2.2 | exact fun _ h => h.2.2.2.2.2.2.2.2.2.2 | exact fun _ h => ((allD_append _ _).1 h).2)) ?_ | refine IdxE.mk 42 4 _ (hrd _) (by omega) (by omega) ?_ | refine FldE.mk 42 4 _ _ (hrd _) (by omega) ?_ | refine LoadE.mk 42 es.length _ _ (hrd _) (by omega) (by omega) (by decide) (by exact hg3) ?_ | refine CallP.is hae1 ?_ (fun _ _ => trivial) | exact InFam.mk () trivial (by repeat' first | exact SubE.nil | refine SubE.cons rfl ?_ ?_ | exact VEq.refl _ | refine VEq.int (by omega) | refine VEq.sl rfl (by first | rfl | omega | (rw [List.length_append]; rfl) | (simp; omega)) rfl) (Ents.of (by rw [hhh]; rfl))
          | fail
        all_goals trace_state
      · rw [if_neg (fun hc => k1 hc.2)] at hhh hidv
        subst hidv
        subst hhh
        repeat' first
          | refine J_seq ?_ | refine J_region Tryz.tyOK ?_ | refine J_block ?_ | refine J_cond ?_ | refine J_ret ?_ | refine J_skip ?_ | refine J_exit ?_ | refine J_scope ?_
          | refine CondP.yes (by omega) ?_ | refine CondP.no (by omega) ?_ | refine CondP.mk (fun h => ?_) (fun h => ?_) | refine EqP.mk rfl ?_ | refine NewP.mk (fun ad => ?_) | refine ArP.exact (by simp only [inR]; omega) ?_ | refine SideP.mk (by first | omega | (dsimp only; omega) | (simp; omega)) ?_
          | exact InFam.mk () trivial (by repeat' first | exact SubE.nil | refine SubE.cons rfl ?_ ?_ | exact VEq.refl _ | refine VEq.int (by omega) | refine VEq.sl rfl (by first | rfl | omega | (rw [List.length_append]; rfl) | (simp; omega)) rfl) (Ents.refl _ _)
          | fail
  have hid1 : x.kind = 1 → idv = hId W top h := fun k1 => by
    rw [hidv]
    cases top with
    | true => rw [if_pos ⟨rfl, k1⟩]
    | false => rw [if_neg (fun hc => by cases hc.1)]; rfl
  have hh1 : ¬ x.kind = 1 → hh = h := fun k1 => by rw [hhh, if_neg (fun hc => k1 hc.2)]
  clear hidv hhh hck
  have hR0 : ¬ x.kind = 1 → x.ren W top m h = x.ren W top m hh := fun k1 => by rw [hh1 k1]
  obtain ⟨R, hR⟩ : ∃ R, R = blksRen W false (m + (inlMarks x.inl).length) hh x.kids := ⟨_, rfl⟩
  obtain ⟨I, hI⟩ : ∃ I, I = inlRen W true m x.inl := ⟨_, rfl⟩
  rw [← hR] at s2 hkl
  rw [← hI] at s1 hrl
  by_cases k1 : x.kind = 1
  · have hid2 := hid1 k1
    clear hR0 hh1
    by_cases l1 : x.level ≤ 1
    · have ev : hLvl x.level = 1 := by unfold hLvl; omega
      have hdc := dec_ok (1) (by omega) (by omega)
      have hdl := itoa_le (n := 1) (by omega) (by omega)
      have er : [60] ++ ([104] ++ itoa (1)) ++ idv ++ [62] ++ I ++ [60, 47] ++ ([104] ++ itoa (1)) ++ [62, 10] = x.ren W top m h := by rw [Blk.ren_eq, if_pos k1, ← hid2, ← hI, ev]; simp
      rw [← er]
      repeat' first
        | refine J_seq ?_ | refine J_region Tryz.tyOK ?_ | refine J_block ?_ | refine J_cond ?_ | refine J_ret ?_ | refine J_skip ?_ | refine J_exit ?_ | refine J_scope ?_
        | refine CondP.yes (by omega) ?_ | refine CondP.no (by omega) ?_ | refine CondP.mk (fun h => ?_) (fun h => ?_) | refine EqP.mk rfl ?_ | refine NewP.mk (fun ad => ?_) | refine ArP.exact (by simp only [inR]; omega) ?_ | refine SideP.mk (by first | omega | (dsimp only; omega) | (simp; omega)) ?_
        | (refine CallP.mk _ [_] [inlF x.ia x.inl, misF K.ma K.ms, noteG K W] _ s1 (List.perm_append_comm (l₁ := [_]) (l₂ := [_])) (fun m h => ⟨(hD m h).1, (hD m h).2.2.1, (hD m h).2.2.2.2.1, trivial⟩) (fun v L' D' hp => ?_); obtain ⟨rfl, rfl, rfl⟩ := hp; unfold rfM; rw [hes]) | (refine CallP.mk _ [_] [blkF x.ka x.kids, misF K.ma K.ms, entF K.ea es, noteG K W] _ s2 (List.Perm.refl _) (fun m h => (hD m h).2) (fun v L' D' hp => ?_); obtain ⟨rfl, rfl, rfl⟩ := hp; unfold rfM; rw [hes]) | refine CallP.is hdc ?_ (fun _ _ => trivial)
        | fail
      all_goals
        refine FinE.mk (rfM K W true (m + (inlMarks x.inl).length + (blkMarks x.kids).length) hh) [] ⟨rfl, rfl, rfl⟩ ?_
        unfold rfM
        rw [hes]
        exact (Ents.sub ⟨[_], List.perm_append_comm (l₁ := [_]) (l₂ := [_])⟩).trans (Ents.facts fun _ _ => trivial)
    by_cases l6 : 6 ≤ x.level
    · have ev : hLvl x.level = 6 := by unfold hLvl; omega
      have hdc := dec_ok (6) (by omega) (by omega)
      have hdl := itoa_le (n := 6) (by omega) (by omega)
      have er : [60] ++ ([104] ++ itoa (6)) ++ idv ++ [62] ++ I ++ [60, 47] ++ ([104] ++ itoa (6)) ++ [62, 10] = x.ren W top m h := by rw [Blk.ren_eq, if_pos k1, ← hid2, ← hI, ev]; simp
      rw [← er]
      repeat' first
        | refine J_seq ?_ | refine J_region Tryz.tyOK ?_ | refine J_block ?_ | refine J_cond ?_ | refine J_ret ?_ | refine J_skip ?_ | refine J_exit ?_ | refine J_scope ?_
        | refine CondP.yes (by omega) ?_ | refine CondP.no (by omega) ?_ | refine CondP.mk (fun h => ?_) (fun h => ?_) | refine EqP.mk rfl ?_ | refine NewP.mk (fun ad => ?_) | refine ArP.exact (by simp only [inR]; omega) ?_ | refine SideP.mk (by first | omega | (dsimp only; omega) | (simp; omega)) ?_
        | (refine CallP.mk _ [_] [inlF x.ia x.inl, misF K.ma K.ms, noteG K W] _ s1 (List.perm_append_comm (l₁ := [_]) (l₂ := [_])) (fun m h => ⟨(hD m h).1, (hD m h).2.2.1, (hD m h).2.2.2.2.1, trivial⟩) (fun v L' D' hp => ?_); obtain ⟨rfl, rfl, rfl⟩ := hp; unfold rfM; rw [hes]) | (refine CallP.mk _ [_] [blkF x.ka x.kids, misF K.ma K.ms, entF K.ea es, noteG K W] _ s2 (List.Perm.refl _) (fun m h => (hD m h).2) (fun v L' D' hp => ?_); obtain ⟨rfl, rfl, rfl⟩ := hp; unfold rfM; rw [hes]) | refine CallP.is hdc ?_ (fun _ _ => trivial)
        | fail
      all_goals
        refine FinE.mk (rfM K W true (m + (inlMarks x.inl).length + (blkMarks x.kids).length) hh) [] ⟨rfl, rfl, rfl⟩ ?_
        unfold rfM
        rw [hes]
        exact (Ents.sub ⟨[_], List.perm_append_comm (l₁ := [_]) (l₂ := [_])⟩).trans (Ents.facts fun _ _ => trivial)
    · have ev : hLvl x.level = x.level := by unfold hLvl; omega
      have hdc := dec_ok (x.level) (by omega) (by omega)
      have hdl := itoa_le (n := x.level) (by omega) (by omega)
      have er : [60] ++ ([104] ++ itoa (x.level)) ++ idv ++ [62] ++ I ++ [60, 47] ++ ([104] ++ itoa (x.level)) ++ [62, 10] = x.ren W top m h := by rw [Blk.ren_eq, if_pos k1, ← hid2, ← hI, ev]; simp
      rw [← er]
      repeat' first
        | refine J_seq ?_ | refine J_region Tryz.tyOK ?_ | refine J_block ?_ | refine J_cond ?_ | refine J_ret ?_ | refine J_skip ?_ | refine J_exit ?_ | refine J_scope ?_
        | refine CondP.yes (by omega) ?_ | refine CondP.no (by omega) ?_ | refine CondP.mk (fun h => ?_) (fun h => ?_) | refine EqP.mk rfl ?_ | refine NewP.mk (fun ad => ?_) | refine ArP.exact (by simp only [inR]; omega) ?_ | refine SideP.mk (by first | omega | (dsimp only; omega) | (simp; omega)) ?_
        | (refine CallP.mk _ [_] [inlF x.ia x.inl, misF K.ma K.ms, noteG K W] _ s1 (List.perm_append_comm (l₁ := [_]) (l₂ := [_])) (fun m h => ⟨(hD m h).1, (hD m h).2.2.1, (hD m h).2.2.2.2.1, trivial⟩) (fun v L' D' hp => ?_); obtain ⟨rfl, rfl, rfl⟩ := hp; unfold rfM; rw [hes]) | (refine CallP.mk _ [_] [blkF x.ka x.kids, misF K.ma K.ms, entF K.ea es, noteG K W] _ s2 (List.Perm.refl _) (fun m h => (hD m h).2) (fun v L' D' hp => ?_); obtain ⟨rfl, rfl, rfl⟩ := hp; unfold rfM; rw [hes]) | refine CallP.is hdc ?_ (fun _ _ => trivial)
        | fail
      all_goals
        refine FinE.mk (rfM K W true (m + (inlMarks x.inl).length + (blkMarks x.kids).length) hh) [] ⟨rfl, rfl, rfl⟩ ?_
        unfold rfM
        rw [hes]
        exact (Ents.sub ⟨[_], List.perm_append_comm (l₁ := [_]) (l₂ := [_])⟩).trans (Ents.facts fun _ _ => trivial)
  by_cases k2 : x.kind = 2
  · have er : [60, 112, 62] ++ I ++ [60, 47, 112, 62, 10] = x.ren W top m h := by rw [hR0 k1, Blk.ren_eq, if_neg k1, if_pos k2]; (first | rw [← hR, ← hI] | rw [← hR] | rw [← hI] | skip); done
    rw [← er]
    repeat' first
      | refine J_seq ?_ | refine J_region Tryz.tyOK ?_ | refine J_block ?_ | refine J_cond ?_ | refine J_ret ?_ | refine J_skip ?_ | refine J_exit ?_ | refine J_scope ?_
      | refine CondP.yes (by omega) ?_ | refine CondP.no (by omega) ?_ | refine CondP.mk (fun h => ?_) (fun h => ?_) | refine EqP.mk rfl ?_ | refine NewP.mk (fun ad => ?_) | refine ArP.exact (by simp only [inR]; omega) ?_ | refine SideP.mk (by first | omega | (dsimp only; omega) | (simp; omega)) ?_
      | (refine CallP.mk _ [_] [inlF x.ia x.inl, misF K.ma K.ms, noteG K W] _ s1 (List.perm_append_comm (l₁ := [_]) (l₂ := [_])) (fun m h => ⟨(hD m h).1, (hD m h).2.2.1, (hD m h).2.2.2.2.1, trivial⟩) (fun v L' D' hp => ?_); obtain ⟨rfl, rfl, rfl⟩ := hp; unfold rfM; rw [hes]) | (refine CallP.mk _ [_] [blkF x.ka x.kids, misF K.ma K.ms, entF K.ea es, noteG K W] _ s2 (List.Perm.refl _) (fun m h => (hD m h).2) (fun v L' D' hp => ?_); obtain ⟨rfl, rfl, rfl⟩ := hp; unfold rfM; rw [hes])
      | fail
    all_goals
      refine FinE.mk (rfM K W true (m + (inlMarks x.inl).length + (blkMarks x.kids).length) hh) [] ⟨rfl, rfl, rfl⟩ ?_
      unfold rfM
      rw [hes]
      exact (Ents.sub ⟨[_], List.perm_append_comm (l₁ := [_]) (l₂ := [_])⟩).trans (Ents.facts fun _ _ => trivial)
  by_cases k5 : x.kind = 5
  · have er : [60, 104, 114, 62, 10] = x.ren W top m h := by rw [hR0 k1, Blk.ren_eq, if_neg k1, if_neg k2, if_pos k5]; (first | rw [← hR, ← hI] | rw [← hR] | rw [← hI] | skip); done
    rw [← er]
    repeat' first
      | refine J_seq ?_ | refine J_region Tryz.tyOK ?_ | refine J_block ?_ | refine J_cond ?_ | refine J_ret ?_ | refine J_skip ?_ | refine J_exit ?_ | refine J_scope ?_
      | refine CondP.yes (by omega) ?_ | refine CondP.no (by omega) ?_ | refine CondP.mk (fun h => ?_) (fun h => ?_) | refine EqP.mk rfl ?_ | refine NewP.mk (fun ad => ?_) | refine ArP.exact (by simp only [inR]; omega) ?_ | refine SideP.mk (by first | omega | (dsimp only; omega) | (simp; omega)) ?_
      | (refine CallP.mk _ [_] [inlF x.ia x.inl, misF K.ma K.ms, noteG K W] _ s1 (List.perm_append_comm (l₁ := [_]) (l₂ := [_])) (fun m h => ⟨(hD m h).1, (hD m h).2.2.1, (hD m h).2.2.2.2.1, trivial⟩) (fun v L' D' hp => ?_); obtain ⟨rfl, rfl, rfl⟩ := hp; unfold rfM; rw [hes]) | (refine CallP.mk _ [_] [blkF x.ka x.kids, misF K.ma K.ms, entF K.ea es, noteG K W] _ s2 (List.Perm.refl _) (fun m h => (hD m h).2) (fun v L' D' hp => ?_); obtain ⟨rfl, rfl, rfl⟩ := hp; unfold rfM; rw [hes])
      | fail
    all_goals
      refine FinE.mk (rfM K W true (m + (inlMarks x.inl).length + (blkMarks x.kids).length) hh) [] ⟨rfl, rfl, rfl⟩ ?_
      unfold rfM
      rw [hes]
      exact (Ents.sub ⟨[_], List.perm_append_comm (l₁ := [_]) (l₂ := [_])⟩).trans (Ents.facts fun _ _ => trivial)
  by_cases k6 : x.kind = 6
  · have er : [60, 112, 114, 101, 62] ++ escT x.text ++ [60, 47, 112, 114, 101, 62, 10] = x.ren W top m h := by rw [hR0 k1, Blk.ren_eq, if_neg k1, if_neg k2, if_neg k5, if_pos k6]; (first | rw [← hR, ← hI] | rw [← hR] | rw [← hI] | skip); done
    rw [← er]
    repeat' first
      | refine J_seq ?_ | refine J_region Tryz.tyOK ?_ | refine J_block ?_ | refine J_cond ?_ | refine J_ret ?_ | refine J_skip ?_ | refine J_exit ?_ | refine J_scope ?_
      | refine CondP.yes (by omega) ?_ | refine CondP.no (by omega) ?_ | refine CondP.mk (fun h => ?_) (fun h => ?_) | refine EqP.mk rfl ?_ | refine NewP.mk (fun ad => ?_) | refine ArP.exact (by simp only [inR]; omega) ?_ | refine SideP.mk (by first | omega | (dsimp only; omega) | (simp; omega)) ?_
      | (refine CallP.mk _ [_] [inlF x.ia x.inl, misF K.ma K.ms, noteG K W] _ s1 (List.perm_append_comm (l₁ := [_]) (l₂ := [_])) (fun m h => ⟨(hD m h).1, (hD m h).2.2.1, (hD m h).2.2.2.2.1, trivial⟩) (fun v L' D' hp => ?_); obtain ⟨rfl, rfl, rfl⟩ := hp; unfold rfM; rw [hes]) | (refine CallP.mk _ [_] [blkF x.ka x.kids, misF K.ma K.ms, entF K.ea es, noteG K W] _ s2 (List.Perm.refl _) (fun m h => (hD m h).2) (fun v L' D' hp => ?_); obtain ⟨rfl, rfl, rfl⟩ := hp; unfold rfM; rw [hes]) | refine CallP.is hes1 ?_ (fun _ _ => trivial)
      | fail
    all_goals
      refine FinE.mk (rfM K W true (m + (inlMarks x.inl).length + (blkMarks x.kids).length) hh) [] ⟨rfl, rfl, rfl⟩ ?_
      unfold rfM
      rw [hes]
      exact (Ents.sub ⟨[_], List.perm_append_comm (l₁ := [_]) (l₂ := [_])⟩).trans (Ents.facts fun _ _ => trivial)
  by_cases k3 : x.kind = 3
  · by_cases l1 : x.level = 1
    · have er : [60] ++ [111, 108] ++ [62, 10] ++ R ++ [60, 47] ++ [111, 108] ++ [62, 10] = x.ren W top m h := by rw [hR0 k1, Blk.ren_eq, if_neg k1, if_neg k2, if_neg k5, if_neg k6, if_pos k3, if_pos l1, if_pos l1]; (first | rw [← hR, ← hI] | rw [← hR] | rw [← hI] | skip); simp
      rw [← er]
      repeat' first
        | refine J_seq ?_ | refine J_region Tryz.tyOK ?_ | refine J_block ?_ | refine J_cond ?_ | refine J_ret ?_ | refine J_skip ?_ | refine J_exit ?_ | refine J_scope ?_
        | refine CondP.yes (by omega) ?_ | refine CondP.no (by omega) ?_ | refine CondP.mk (fun h => ?_) (fun h => ?_) | refine EqP.mk rfl ?_ | refine NewP.mk (fun ad => ?_) | refine ArP.exact (by simp only [inR]; omega) ?_ | refine SideP.mk (by first | omega | (dsimp only; omega) | (simp; omega)) ?_
        | (refine CallP.mk _ [_] [inlF x.ia x.inl, misF K.ma K.ms, noteG K W] _ s1 (List.perm_append_comm (l₁ := [_]) (l₂ := [_])) (fun m h => ⟨(hD m h).1, (hD m h).2.2.1, (hD m h).2.2.2.2.1, trivial⟩) (fun v L' D' hp => ?_); obtain ⟨rfl, rfl, rfl⟩ := hp; unfold rfM; rw [hes]) | (refine CallP.mk _ [_] [blkF x.ka x.kids, misF K.ma K.ms, entF K.ea es, noteG K W] _ s2 (List.Perm.refl _) (fun m h => (hD m h).2) (fun v L' D' hp => ?_); obtain ⟨rfl, rfl, rfl⟩ := hp; unfold rfM; rw [hes]) | refine SideP.mk (by decide) ?_
        | fail
      all_goals
        refine FinE.mk (rfM K W true (m + (inlMarks x.inl).length + (blkMarks x.kids).length) hh) [] ⟨rfl, rfl, rfl⟩ ?_
        unfold rfM
        rw [hes]
        exact (Ents.sub ⟨[_], List.perm_append_comm (l₁ := [_]) (l₂ := [_])⟩).trans (Ents.facts fun _ _ => trivial)
    · have er : [60] ++ [117, 108] ++ [62, 10] ++ R ++ [60, 47] ++ [117, 108] ++ [62, 10] = x.ren W top m h := by rw [hR0 k1, Blk.ren_eq, if_neg k1, if_neg k2, if_neg k5, if_neg k6, if_pos k3, if_neg l1, if_neg l1]; (first | rw [← hR, ← hI] | rw [← hR] | rw [← hI] | skip); simp
      rw [← er]
      repeat' first
        | refine J_seq ?_ | refine J_region Tryz.tyOK ?_ | refine J_block ?_ | refine J_cond ?_ | refine J_ret ?_ | refine J_skip ?_ | refine J_exit ?_ | refine J_scope ?_
        | refine CondP.yes (by omega) ?_ | refine CondP.no (by omega) ?_ | refine CondP.mk (fun h => ?_) (fun h => ?_) | refine EqP.mk rfl ?_ | refine NewP.mk (fun ad => ?_) | refine ArP.exact (by simp only [inR]; omega) ?_ | refine SideP.mk (by first | omega | (dsimp only; omega) | (simp; omega)) ?_
        | (refine CallP.mk _ [_] [inlF x.ia x.inl, misF K.ma K.ms, noteG K W] _ s1 (List.perm_append_comm (l₁ := [_]) (l₂ := [_])) (fun m h => ⟨(hD m h).1, (hD m h).2.2.1, (hD m h).2.2.2.2.1, trivial⟩) (fun v L' D' hp => ?_); obtain ⟨rfl, rfl, rfl⟩ := hp; unfold rfM; rw [hes]) | (refine CallP.mk _ [_] [blkF x.ka x.kids, misF K.ma K.ms, entF K.ea es, noteG K W] _ s2 (List.Perm.refl _) (fun m h => (hD m h).2) (fun v L' D' hp => ?_); obtain ⟨rfl, rfl, rfl⟩ := hp; unfold rfM; rw [hes]) | refine SideP.mk (by decide) ?_
        | fail
      all_goals
        refine FinE.mk (rfM K W true (m + (inlMarks x.inl).length + (blkMarks x.kids).length) hh) [] ⟨rfl, rfl, rfl⟩ ?_
        unfold rfM
        rw [hes]
        exact (Ents.sub ⟨[_], List.perm_append_comm (l₁ := [_]) (l₂ := [_])⟩).trans (Ents.facts fun _ _ => trivial)
  by_cases k4 : x.kind = 4
  · by_cases h0 : x.kids = []
    · have hk0 : x.kids.length = 0 := by rw [h0]; rfl
      have hR2 : R = [] := by rw [hR, h0]; simp [blksRen]
      subst hR2
      have er : [60, 108, 105, 62] ++ I ++ [] ++ [60, 47, 108, 105, 62, 10] = x.ren W top m h := by rw [hR0 k1, Blk.ren_eq, if_neg k1, if_neg k2, if_neg k5, if_neg k6, if_neg k3, if_pos k4, if_pos h0]; (first | rw [← hR, ← hI] | rw [← hR] | rw [← hI] | skip); done
      rw [← er]
      repeat' first
        | refine J_seq ?_ | refine J_region Tryz.tyOK ?_ | refine J_block ?_ | refine J_cond ?_ | refine J_ret ?_ | refine J_skip ?_ | refine J_exit ?_ | refine J_scope ?_
        | refine CondP.yes (by omega) ?_ | refine CondP.no (by omega) ?_ | refine CondP.mk (fun h => ?_) (fun h => ?_) | refine EqP.mk rfl ?_ | refine NewP.mk (fun ad => ?_) | refine ArP.exact (by simp only [inR]; omega) ?_ | refine SideP.mk (by first | omega | (dsimp only; omega) | (simp; omega)) ?_
        | (refine CallP.mk _ [_] [inlF x.ia x.inl, misF K.ma K.ms, noteG K W] _ s1 (List.perm_append_comm (l₁ := [_]) (l₂ := [_])) (fun m h => ⟨(hD m h).1, (hD m h).2.2.1, (hD m h).2.2.2.2.1, trivial⟩) (fun v L' D' hp => ?_); obtain ⟨rfl, rfl, rfl⟩ := hp; unfold rfM; rw [hes]) | (refine CallP.mk _ [_] [blkF x.ka x.kids, misF K.ma K.ms, entF K.ea es, noteG K W] _ s2 (List.Perm.refl _) (fun m h => (hD m h).2) (fun v L' D' hp => ?_); obtain ⟨rfl, rfl, rfl⟩ := hp; unfold rfM; rw [hes])
        | fail
      all_goals
        refine FinE.mk (rfM K W true (m + (inlMarks x.inl).length + (blkMarks x.kids).length) hh) [] ⟨rfl, rfl, rfl⟩ ?_
        unfold rfM
        rw [hes]
        exact (Ents.sub ⟨[_], List.perm_append_comm (l₁ := [_]) (l₂ := [_])⟩).trans (Ents.facts fun _ _ => trivial)
    · have hk0 : 0 < x.kids.length := List.length_pos_iff.2 h0
      have er : [60, 108, 105, 62] ++ I ++ ([10] ++ R) ++ [60, 47, 108, 105, 62, 10] = x.ren W top m h := by rw [hR0 k1, Blk.ren_eq, if_neg k1, if_neg k2, if_neg k5, if_neg k6, if_neg k3, if_pos k4, if_neg h0]; (first | rw [← hR, ← hI] | rw [← hR] | rw [← hI] | skip); simp
      rw [← er]
      repeat' first
        | refine J_seq ?_ | refine J_region Tryz.tyOK ?_ | refine J_block ?_ | refine J_cond ?_ | refine J_ret ?_ | refine J_skip ?_ | refine J_exit ?_ | refine J_scope ?_
        | refine CondP.yes (by omega) ?_ | refine CondP.no (by omega) ?_ | refine CondP.mk (fun h => ?_) (fun h => ?_) | refine EqP.mk rfl ?_ | refine NewP.mk (fun ad => ?_) | refine ArP.exact (by simp only [inR]; omega) ?_ | refine SideP.mk (by first | omega | (dsimp only; omega) | (simp; omega)) ?_
        | (refine CallP.mk _ [_] [inlF x.ia x.inl, misF K.ma K.ms, noteG K W] _ s1 (List.perm_append_comm (l₁ := [_]) (l₂ := [_])) (fun m h => ⟨(hD m h).1, (hD m h).2.2.1, (hD m h).2.2.2.2.1, trivial⟩) (fun v L' D' hp => ?_); obtain ⟨rfl, rfl, rfl⟩ := hp; unfold rfM; rw [hes]) | (refine CallP.mk _ [_] [blkF x.ka x.kids, misF K.ma K.ms, entF K.ea es, noteG K W] _ s2 (List.Perm.refl _) (fun m h => (hD m h).2) (fun v L' D' hp => ?_); obtain ⟨rfl, rfl, rfl⟩ := hp; unfold rfM; rw [hes])
        | fail
      all_goals
        refine FinE.mk (rfM K W true (m + (inlMarks x.inl).length + (blkMarks x.kids).length) hh) [] ⟨rfl, rfl, rfl⟩ ?_
        unfold rfM
        rw [hes]
        exact (Ents.sub ⟨[_], List.perm_append_comm (l₁ := [_]) (l₂ := [_])⟩).trans (Ents.facts fun _ _ => trivial)
  by_cases k7 : x.kind = 7
  · have er : [60, 116, 97, 98, 108, 101, 62, 10] ++ R ++ [60, 47, 116, 97, 98, 108, 101, 62, 10] = x.ren W top m h := by rw [hR0 k1, Blk.ren_eq, if_neg k1, if_neg k2, if_neg k5, if_neg k6, if_neg k3, if_neg k4, if_pos k7]; (first | rw [← hR, ← hI] | rw [← hR] | rw [← hI] | skip); done
    rw [← er]
    repeat' first
      | refine J_seq ?_ | refine J_region Tryz.tyOK ?_ | refine J_block ?_ | refine J_cond ?_ | refine J_ret ?_ | refine J_skip ?_ | refine J_exit ?_ | refine J_scope ?_
      | refine CondP.yes (by omega) ?_ | refine CondP.no (by omega) ?_ | refine CondP.mk (fun h => ?_) (fun h => ?_) | refine EqP.mk rfl ?_ | refine NewP.mk (fun ad => ?_) | refine ArP.exact (by simp only [inR]; omega) ?_ | refine SideP.mk (by first | omega | (dsimp only; omega) | (simp; omega)) ?_
      | (refine CallP.mk _ [_] [inlF x.ia x.inl, misF K.ma K.ms, noteG K W] _ s1 (List.perm_append_comm (l₁ := [_]) (l₂ := [_])) (fun m h => ⟨(hD m h).1, (hD m h).2.2.1, (hD m h).2.2.2.2.1, trivial⟩) (fun v L' D' hp => ?_); obtain ⟨rfl, rfl, rfl⟩ := hp; unfold rfM; rw [hes]) | (refine CallP.mk _ [_] [blkF x.ka x.kids, misF K.ma K.ms, entF K.ea es, noteG K W] _ s2 (List.Perm.refl _) (fun m h => (hD m h).2) (fun v L' D' hp => ?_); obtain ⟨rfl, rfl, rfl⟩ := hp; unfold rfM; rw [hes])
      | fail
    all_goals
      refine FinE.mk (rfM K W true (m + (inlMarks x.inl).length + (blkMarks x.kids).length) hh) [] ⟨rfl, rfl, rfl⟩ ?_
      unfold rfM
      rw [hes]
      exact (Ents.sub ⟨[_], List.perm_append_comm (l₁ := [_]) (l₂ := [_])⟩).trans (Ents.facts fun _ _ => trivial)
  by_cases k8 : x.kind = 8
  · have er : [60, 116, 114, 62] ++ R ++ [60, 47, 116, 114, 62, 10] = x.ren W top m h := by rw [hR0 k1, Blk.ren_eq, if_neg k1, if_neg k2, if_neg k5, if_neg k6, if_neg k3, if_neg k4, if_neg k7, if_pos k8]; (first | rw [← hR, ← hI] | rw [← hR] | rw [← hI] | skip); done
    rw [← er]
    repeat' first
      | refine J_seq ?_ | refine J_region Tryz.tyOK ?_ | refine J_block ?_ | refine J_cond ?_ | refine J_ret ?_ | refine J_skip ?_ | refine J_exit ?_ | refine J_scope ?_
      | refine CondP.yes (by omega) ?_ | refine CondP.no (by omega) ?_ | refine CondP.mk (fun h => ?_) (fun h => ?_) | refine EqP.mk rfl ?_ | refine NewP.mk (fun ad => ?_) | refine ArP.exact (by simp only [inR]; omega) ?_ | refine SideP.mk (by first | omega | (dsimp only; omega) | (simp; omega)) ?_
      | (refine CallP.mk _ [_] [inlF x.ia x.inl, misF K.ma K.ms, noteG K W] _ s1 (List.perm_append_comm (l₁ := [_]) (l₂ := [_])) (fun m h => ⟨(hD m h).1, (hD m h).2.2.1, (hD m h).2.2.2.2.1, trivial⟩) (fun v L' D' hp => ?_); obtain ⟨rfl, rfl, rfl⟩ := hp; unfold rfM; rw [hes]) | (refine CallP.mk _ [_] [blkF x.ka x.kids, misF K.ma K.ms, entF K.ea es, noteG K W] _ s2 (List.Perm.refl _) (fun m h => (hD m h).2) (fun v L' D' hp => ?_); obtain ⟨rfl, rfl, rfl⟩ := hp; unfold rfM; rw [hes])
      | fail
    all_goals
      refine FinE.mk (rfM K W true (m + (inlMarks x.inl).length + (blkMarks x.kids).length) hh) [] ⟨rfl, rfl, rfl⟩ ?_
      unfold rfM
      rw [hes]
      exact (Ents.sub ⟨[_], List.perm_append_comm (l₁ := [_]) (l₂ := [_])⟩).trans (Ents.facts fun _ _ => trivial)
  by_cases k9 : x.kind = 9
  · by_cases l1 : x.level = 1
    · have er : [60] ++ [116, 104] ++ [62] ++ I ++ [60, 47] ++ [116, 104] ++ [62] = x.ren W top m h := by rw [hR0 k1, Blk.ren_eq, if_neg k1, if_neg k2, if_neg k5, if_neg k6, if_neg k3, if_neg k4, if_neg k7, if_neg k8, if_pos k9, if_pos l1, if_pos l1]; (first | rw [← hR, ← hI] | rw [← hR] | rw [← hI] | skip); simp
      rw [← er]
      repeat' first
        | refine J_seq ?_ | refine J_region Tryz.tyOK ?_ | refine J_block ?_ | refine J_cond ?_ | refine J_ret ?_ | refine J_skip ?_ | refine J_exit ?_ | refine J_scope ?_
        | refine CondP.yes (by omega) ?_ | refine CondP.no (by omega) ?_ | refine CondP.mk (fun h => ?_) (fun h => ?_) | refine EqP.mk rfl ?_ | refine NewP.mk (fun ad => ?_) | refine ArP.exact (by simp only [inR]; omega) ?_ | refine SideP.mk (by first | omega | (dsimp only; omega) | (simp; omega)) ?_
        | (refine CallP.mk _ [_] [inlF x.ia x.inl, misF K.ma K.ms, noteG K W] _ s1 (List.perm_append_comm (l₁ := [_]) (l₂ := [_])) (fun m h => ⟨(hD m h).1, (hD m h).2.2.1, (hD m h).2.2.2.2.1, trivial⟩) (fun v L' D' hp => ?_); obtain ⟨rfl, rfl, rfl⟩ := hp; unfold rfM; rw [hes]) | (refine CallP.mk _ [_] [blkF x.ka x.kids, misF K.ma K.ms, entF K.ea es, noteG K W] _ s2 (List.Perm.refl _) (fun m h => (hD m h).2) (fun v L' D' hp => ?_); obtain ⟨rfl, rfl, rfl⟩ := hp; unfold rfM; rw [hes]) | refine SideP.mk (by decide) ?_
        | fail
      all_goals
        refine FinE.mk (rfM K W true (m + (inlMarks x.inl).length + (blkMarks x.kids).length) hh) [] ⟨rfl, rfl, rfl⟩ ?_
        unfold rfM
        rw [hes]
        exact (Ents.sub ⟨[_], List.perm_append_comm (l₁ := [_]) (l₂ := [_])⟩).trans (Ents.facts fun _ _ => trivial)
    · have er : [60] ++ [116, 100] ++ [62] ++ I ++ [60, 47] ++ [116, 100] ++ [62] = x.ren W top m h := by rw [hR0 k1, Blk.ren_eq, if_neg k1, if_neg k2, if_neg k5, if_neg k6, if_neg k3, if_neg k4, if_neg k7, if_neg k8, if_pos k9, if_neg l1, if_neg l1]; (first | rw [← hR, ← hI] | rw [← hR] | rw [← hI] | skip); simp
      rw [← er]
      repeat' first
        | refine J_seq ?_ | refine J_region Tryz.tyOK ?_ | refine J_block ?_ | refine J_cond ?_ | refine J_ret ?_ | refine J_skip ?_ | refine J_exit ?_ | refine J_scope ?_
        | refine CondP.yes (by omega) ?_ | refine CondP.no (by omega) ?_ | refine CondP.mk (fun h => ?_) (fun h => ?_) | refine EqP.mk rfl ?_ | refine NewP.mk (fun ad => ?_) | refine ArP.exact (by simp only [inR]; omega) ?_ | refine SideP.mk (by first | omega | (dsimp only; omega) | (simp; omega)) ?_
        | (refine CallP.mk _ [_] [inlF x.ia x.inl, misF K.ma K.ms, noteG K W] _ s1 (List.perm_append_comm (l₁ := [_]) (l₂ := [_])) (fun m h => ⟨(hD m h).1, (hD m h).2.2.1, (hD m h).2.2.2.2.1, trivial⟩) (fun v L' D' hp => ?_); obtain ⟨rfl, rfl, rfl⟩ := hp; unfold rfM; rw [hes]) | (refine CallP.mk _ [_] [blkF x.ka x.kids, misF K.ma K.ms, entF K.ea es, noteG K W] _ s2 (List.Perm.refl _) (fun m h => (hD m h).2) (fun v L' D' hp => ?_); obtain ⟨rfl, rfl, rfl⟩ := hp; unfold rfM; rw [hes]) | refine SideP.mk (by decide) ?_
        | fail
      all_goals
        refine FinE.mk (rfM K W true (m + (inlMarks x.inl).length + (blkMarks x.kids).length) hh) [] ⟨rfl, rfl, rfl⟩ ?_
        unfold rfM
        rw [hes]
        exact (Ents.sub ⟨[_], List.perm_append_comm (l₁ := [_]) (l₂ := [_])⟩).trans (Ents.facts fun _ _ => trivial)
  have er : [] = x.ren W top m h := by rw [hR0 k1, Blk.ren_eq, if_neg k1, if_neg k2, if_neg k5, if_neg k6, if_neg k3, if_neg k4, if_neg k7, if_neg k8, if_neg k9]; (first | rw [← hR, ← hI] | rw [← hR] | rw [← hI] | skip); done
  rw [← er]
  repeat' first
    | refine J_seq ?_ | refine J_region Tryz.tyOK ?_ | refine J_block ?_ | refine J_cond ?_ | refine J_ret ?_ | refine J_skip ?_ | refine J_exit ?_ | refine J_scope ?_
    | refine CondP.yes (by omega) ?_ | refine CondP.no (by omega) ?_ | refine CondP.mk (fun h => ?_) (fun h => ?_) | refine EqP.mk rfl ?_ | refine NewP.mk (fun ad => ?_) | refine ArP.exact (by simp only [inR]; omega) ?_ | refine SideP.mk (by first | omega | (dsimp only; omega) | (simp; omega)) ?_
    | (refine CallP.mk _ [_] [inlF x.ia x.inl, misF K.ma K.ms, noteG K W] _ s1 (List.perm_append_comm (l₁ := [_]) (l₂ := [_])) (fun m h => ⟨(hD m h).1, (hD m h).2.2.1, (hD m h).2.2.2.2.1, trivial⟩) (fun v L' D' hp => ?_); obtain ⟨rfl, rfl, rfl⟩ := hp; unfold rfM; rw [hes]) | (refine CallP.mk _ [_] [blkF x.ka x.kids, misF K.ma K.ms, entF K.ea es, noteG K W] _ s2 (List.Perm.refl _) (fun m h => (hD m h).2) (fun v L' D' hp => ?_); obtain ⟨rfl, rfl, rfl⟩ := hp; unfold rfM; rw [hes])
    | fail
  all_goals
    refine FinE.mk (rfM K W true (m + (inlMarks x.inl).length + (blkMarks x.kids).length) hh) [] ⟨rfl, rfl, rfl⟩ ?_
    unfold rfM
    rw [hes]
    exact (Ents.sub ⟨[_], List.perm_append_comm (l₁ := [_]) (l₂ := [_])⟩).trans (Ents.facts fun _ _ => trivial)
set_option maxHeartbeats 4000000 in
theorem rblocks_ok (K : RfK) (W : RenW) (hP : ∀ t, W.P t = misP K.ms t) (hns0 : ∀ j ∈ W.ns, 0 ≤ j ∧ j ≤ 100000000) (hnl0 : W.ns.length ≤ 100000000) (hml0 : K.ms.length ≤ 100000000) (es : List EntT) (hes : K.en = es.length) (han : W.an = ancs es) (A : Nat) (hA : ∀ i, (hId W true i).length ≤ A) (hA2 : A ≤ 100000000000) (hel : es.length ≤ 100000000) (hea : ∀ e ∈ es, e.anchor.length ≤ 10000000) (n : Nat) : ∀ (bs : List Blk), blkBulk bs = n → ∀ (ba : Option Addr) (bc : Nat) (top : Bool) (h : Nat) (m : Nat), n ≤ 1100000 → m + n ≤ 100000000 → m + (blkMarks bs).length ≤ W.ns.length → (top = true → h + hdsN bs ≤ es.length) → (if top = true then hdsN bs * A else 0) ≤ 60000000000000 →
    FnS Tryz.prog 58 [.c (.p 0 K.ab 0), .c (.sl ba bs.length bc), .c (.b top)] (rfM K W true m h) [blkF ba bs, misF K.ma K.ms, entF K.ea es, noteG K W] (RfP K W true (blksRen W top m h bs) (m + (blkMarks bs).length) (hUp top h (hdsN bs))) := by
  induction n using Nat.strongRecOn with | _ n ih
  intro bs hn ba bc top h m hnb hmb hns hh ho
  have hel2 := Nat.le_trans (blkNodes_len bs) (blkNodes_bulk bs)
  refine fn_of_J Tryz.tyOK 7000 Tryz.func58 (by kernel_rfl) (c := Tryz.f58.body.getD .skip) (by kernel_rfl) Tryz.ntmps58 (rs := Tryz.f58.results.toList) rfl (by simp) (fun G => ?_)
  repeat' first
    | refine J_seq ?_ | refine J_region Tryz.tyOK ?_ | refine J_block ?_ | refine J_cond ?_ | refine J_ret ?_ | refine J_skip ?_ | refine J_exit ?_ | refine J_scope ?_
    | refine CondP.yes (by omega) ?_ | refine CondP.no (by omega) ?_ | refine CondP.mk (fun h => ?_) (fun h => ?_) | refine EqP.mk rfl ?_ | refine NewP.mk (fun ad => ?_) | refine ArP.exact (by simp only [inR]; omega) ?_ | refine SideP.mk (by first | omega | (dsimp only; omega) | (simp; omega)) ?_
    | fail
  refine J_loop (α := Nat × List UInt8) (fun x => [(0, .c (.p 0 K.ab 0)), (1, .c (.sl ba bs.length bc)), (2, .c (.b top)), (7, .c (.s x.2)), (8, .c (.i .i64 x.1))])
    (fun x => rfM K W true (m + (blkMarks (bs.take x.1)).length) (hUp top h (hdsN (bs.take x.1)))) (fun _ => [blkF ba bs, misF K.ma K.ms, entF K.ea es, noteG K W]) 7000 (fun x => x.1 ≤ bs.length ∧ x.2 = blksRen W top m h (bs.take x.1)) (fun x => bs.length - x.1)
    (InFam.mk (0, []) ⟨Nat.zero_le _, by simp [blksRen]⟩ (by repeat' first | exact SubE.nil | refine SubE.cons rfl ?_ ?_ | exact VEq.refl _ | refine VEq.int (by omega) | refine VEq.sl rfl (by first | rfl | omega | (rw [List.length_append]; rfl) | (simp; omega)) rfl) (Ents.of (by cases top <;> simp [blkMarks, hUp, hdsN]))) (fun x hx => ?_)
  obtain ⟨i, w⟩ := x
  obtain ⟨hi, hw⟩ := hx
  dsimp only at hi hw ⊢
  by_cases hlt : i < bs.length
  · have hst := blksRen_succ W top m h hlt
    have hms := blkMarks_succ hlt
    have hbs := blkBulk_succ hlt
    have hbt := blkBulk_take_le bs (i + 1)
    have hbe := Blk.bulk_eq bs[i]
    have hmt := blkMarks_bulk (bs.take i)
    have hml := inl_len_bulk (blkMarks (bs.take i))
    have hrt := blksRen_le W hns0 A hA top m h (bs.take i) (by omega)
    have hus := hUp_succ top h hlt
    have hds := hdsN_succ hlt
    have hdt := hdsN_take_le bs (i + 1)
    have hdt0 := hdsN_take_le bs i
    have hdm : hdsN (bs.take i) * A ≤ hdsN bs * A := Nat.mul_le_mul_right A hdt0
    have hwl : w.length ≤ 700 * blkBulk (bs.take i) + 60000000000000 := by
      rw [hw]
      refine Nat.le_trans hrt (Nat.add_le_add_left (Nat.le_trans ?_ ho) _)
      cases top with
      | true => simp only [if_true]; exact hdm
      | false => exact Nat.le_refl _
    have hxl := Blk.ren_le W hns0 A hA top (m + (blkMarks (bs.take i)).length) (hUp top h (hdsN (bs.take i))) bs[i] (by omega)
    have hxl2 : (bs[i].ren W top (m + (blkMarks (bs.take i)).length) (hUp top h (hdsN (bs.take i)))).length ≤ 700 * bs[i].bulk + A := Nat.le_trans hxl (Nat.add_le_add_left (by split <;> omega) _)
    have hmq := Blk.marks_eq bs[i]
    have hmk1 : m + (blkMarks (bs.take (i + 1))).length = m + (blkMarks (bs.take i)).length + bs[i].marks.length := by rw [hms, hmq]; simp only [List.length_append]; omega
    have hns2 : m + (blkMarks (bs.take i)).length + bs[i].marks.length ≤ W.ns.length := by
      have h2 : (blkMarks bs).length = (blkMarks (bs.take (i + 1))).length + (blkMarks (bs.drop (i + 1))).length := by rw [← List.length_append, ← blkMarks_append, List.take_append_drop]
      omega
    have hstep : blksRen W top m h (bs.take (i + 1)) = w ++ bs[i].ren W top (m + (blkMarks (bs.take i)).length) (hUp top h (hdsN (bs.take i))) := by rw [hst, hw]
    have hfi := blk_inl (a := ba) hlt
    have hfk := blk_kids (a := ba) hlt
    have hcg : ((blkC bs).drop (i * 5 + 0)).take 5 = bs[i].cells := blkC_get (o := 0) (k := 5) hlt (by omega)
    have hrd : ∀ L, Reads L [blkF ba bs, misF K.ma K.ms, entF K.ea es, noteG K W] 81 5 ba bs.length (blkC bs) := fun _ => blk_reads (fun _ h => ⟨h.1, trivial⟩)
    have hhx : top = true → bs[i].kind = 1 → hUp top h (hdsN (bs.take i)) < es.length := fun ht hk => by
      have := hh ht
      rw [if_pos hk] at hds
      rw [ht]; simp only [hUp, if_true]; omega
    have hmm : m + (blkMarks (bs.take i)).length + bs[i].bulk ≤ 100000000 := by omega
    generalize m + (blkMarks (bs.take i)).length = mm at *
    generalize hUp top h (hdsN (bs.take i)) = hv at *
    rw [← hn] at hnb hmb
    have hkb : blkBulk bs[i].kids < n := by omega
    have hil := inl_len_bulk (inlMarks bs[i].inl)
    have hib := inlMarks_bulk bs[i].inl
    obtain ⟨hx, hhx2⟩ : ∃ hx, hx = hUp top h (hdsN (bs.take (i + 1))) := ⟨_, rfl⟩
    rw [← hhx2] at hus
    have hkl := blksRen_le W hns0 A hA false (mm + (inlMarks bs[i].inl).length) hx bs[i].kids (by omega)
    simp only [Bool.false_eq_true, if_false, Nat.add_zero] at hkl
    have sB := rblock_ok K W hP hns0 hnl0 hml0 es hes han A hA hA2 hel hea bs[i] top hv (by omega) [blkF ba bs, misF K.ma K.ms, entF K.ea es, noteG K W] (fun mm hh => ⟨(hfi mm ⟨hh.1, trivial⟩).1, (hfk mm ⟨hh.1, trivial⟩).1, hh.2⟩) mm hx hus hkl
      (ih (blkBulk bs[i].kids) hkb bs[i].kids rfl bs[i].ka bs[i].kc false hx (mm + (inlMarks bs[i].inl).length) (by omega) (by omega) (by rw [hmq, List.length_append] at hns2; omega) (fun hc => by cases hc) (by simp)) hmm hns2 hhx
    clear ih hst hms hxl
    rw [← hmk1] at sB
    have hbx : bs[i].bulk ≤ 1100000 := by omega
    generalize bs[i].ren W top mm hv = X at *
    generalize bs[i] = x at *
    unfold Blk.cells at hcg sB
    unfold rfM at sB ⊢
    repeat' first
      | refine J_seq ?_ | refine J_region Tryz.tyOK ?_ | refine J_block ?_ | refine J_cond ?_ | refine J_ret ?_ | refine J_skip ?_ | refine J_exit ?_ | refine J_scope ?_
      | refine CondP.yes (by omega) ?_ | refine CondP.no (by omega) ?_ | refine CondP.mk (fun h => ?_) (fun h => ?_) | refine EqP.mk rfl ?_ | refine NewP.mk (fun ad => ?_) | refine ArP.exact (by simp only [inR]; omega) ?_ | refine SideP.mk (by first | omega | (dsimp only; omega) | (simp; omega)) ?_
      | refine IdxE.mk 81 5 _ (hrd _) (by omega) (by omega) ?_ | refine LoadE.mk 81 bs.length _ _ (hrd _) (by omega) (by omega) (by decide) (by exact hcg) ?_ | (refine CallP.mk _ [] [blkF ba bs, misF K.ma K.ms, entF K.ea es, noteG K W] _ sB (List.Perm.refl _) (fun _ h => h) (fun v L' D' hp => ?_); obtain ⟨rfl, rfl, rfl⟩ := hp; unfold rfM)
      | fail
    exact Round.mk (i + 1, w ++ X) (by dsimp only; omega) ⟨by dsimp only; omega, by dsimp only; rw [hstep]⟩ (by repeat' first | exact SubE.nil | refine SubE.cons rfl ?_ ?_ | exact VEq.refl _ | refine VEq.int (by omega)) (Ents.of (by rw [hhx2]; rfl))
  · have hil : i = bs.length := by omega
    subst hil
    rw [List.take_length] at hw ⊢
    subst hw
    unfold rfM
    repeat' first
      | refine J_seq ?_ | refine J_region Tryz.tyOK ?_ | refine J_block ?_ | refine J_cond ?_ | refine J_ret ?_ | refine J_skip ?_ | refine J_exit ?_ | refine J_scope ?_
      | refine CondP.yes (by omega) ?_ | refine CondP.no (by omega) ?_ | refine CondP.mk (fun h => ?_) (fun h => ?_) | refine EqP.mk rfl ?_ | refine NewP.mk (fun ad => ?_) | refine ArP.exact (by simp only [inR]; omega) ?_ | refine SideP.mk (by first | omega | (dsimp only; omega) | (simp; omega)) ?_
      | fail
    exact FinE.mk (rfM K W true (m + (blkMarks bs).length) (hUp top h (hdsN bs))) [] ⟨rfl, rfl, rfl⟩ (Ents.facts fun _ _ => trivial)
end Go.Proofs
