/- This text gives the contracts of strings.Builder: WriteString, Len, String. -/
import Derived.Test.YtcgagjbkfgaacaaGreatDoorLibc
set_option linter.all false

namespace Go.Proofs
open Go Go.X Go.RowKit Go.Shelf
set_option maxRecDepth 100000

theorem copyLays : Lays.n240 Tryz.prog Tryz.lays156_ren :=
  { mixed := Tryz.lays156.mixed, f240 := Tryz.lays156.f240, f276 := Tryz.lays156.f276,
    t0 := Tryz.lays156.t0, a0 := Tryz.lays156.a0, z0 := Tryz.lays156.z0, v0 := Tryz.lays156.v0,
    t4 := Tryz.lays156.t4, a4 := Tryz.lays156.a4, z4 := Tryz.lays156.z4, v4 := Tryz.lays156.v4,
    t9 := Tryz.lays156.t9, a9 := Tryz.lays156.a9, z9 := Tryz.lays156.z9, v9 := Tryz.lays156.v9,
    t20 := Tryz.lays156.t20, a20 := Tryz.lays156.a20, z20 := Tryz.lays156.z20, v20 := Tryz.lays156.v20,
    t70 := Tryz.lays156.t70, a70 := Tryz.lays156.a70, z70 := Tryz.lays156.z70, v70 := Tryz.lays156.v70,
    t72 := Tryz.lays156.t72, a72 := Tryz.lays156.a72, z72 := Tryz.lays156.z72, v72 := Tryz.lays156.v72,
    t164 := Tryz.lays156.t164, a164 := Tryz.lays156.a164, z164 := Tryz.lays156.z164, v164 := Tryz.lays156.v164 }

theorem copyFresh_ok (id ad : Nat) (x : C) (hx : x.one = true) : FnS Tryz.prog 70 [.c (.p id ad 0)] [.box id ad 80 [.raw (.pointer none), x]] []
    (fun v L D => v = .t0 ∧ L = [.box id ad 80 [.p id ad 0, x]] ∧ D = []) := by
  refine ⟨⟨_, Tryz.func70, by kernel_rfl, by kernel_rfl⟩, fun w m hh => ?_⟩
  have hb : w.heap[ad]? = some (.cells #[.pointer none, x.enc] 80 (0, 0)) := hh.ok.1.2
  refine (Any.Builder_copyCheck_fresh copyLays Tryz.Builder_Extra_156.toX72 ad w (by simp [World.cell?, hb]) (by simp [World.shape?, hb]; rfl) (by simp [World.frozen?, hb])).mono ?_
  rintro e w' ⟨rfl, rfl⟩
  have hs : SatW ⟨w, [.box id ad 80 [.raw (.pointer none), x]], m⟩ w ([] ++ [.box id ad 80 [.raw (.pointer none), x]]) [] := ⟨m, hh, Fr.refl _ _ _⟩
  rw [setCell_blk hb]
  have h2 := satW_replace (B := []) (ch' := .box id ad 80 [.p id ad 0, x]) (g := ad) hs rfl rfl ⟨by
      intro y hy
      simp only [List.mem_cons, List.not_mem_nil, or_false] at hy
      rcases hy with rfl | rfl
      · rfl
      · exact hx, setBlk_same hb⟩ (fun off => by rw [hb]; rfl)
  obtain ⟨m', h3, h4⟩ := h2
  exact ⟨.t0, _, [], m', rfl, ⟨rfl, rfl, rfl⟩, h3, h4⟩

theorem copyUsed_ok (id ad : Nat) (x : C) : FnS Tryz.prog 70 [.c (.p id ad 0)] [.box id ad 80 [.p id ad 0, x]] []
    (fun v L D => v = .t0 ∧ L = [.box id ad 80 [.p id ad 0, x]] ∧ D = []) := by
  refine ⟨⟨_, Tryz.func70, by kernel_rfl, by kernel_rfl⟩, fun w m hh => ?_⟩
  have hb : w.heap[ad]? = some (.cells #[.pointer (some ⟨ad, 0, none⟩), x.enc] 80 (0, 0)) := hh.ok.1.2
  refine (Any.Builder_copyCheck_used copyLays Tryz.Builder_Extra_156.toX72 ad w (by simp [World.cell?, hb])).mono ?_
  rintro e w' ⟨rfl, rfl⟩
  exact ⟨.t0, _, [], m, rfl, ⟨rfl, rfl, rfl⟩, hh, Fr.refl _ _ _⟩

/-- A builder that holds the bytes l. -/
def bl (id ad : Nat) (a : Option Addr) (c : Nat) (l : List UInt8) : List Chunk :=
  if l = [] then [.box id ad 80 [.raw (.pointer none), .sl none 0 0]] else [.box id ad 80 [.p id ad 0, .sl a l.length c], .row 5 1 a l.length c (l.map byteC)]
theorem bl_nil (id ad : Nat) (a : Option Addr) (c : Nat) : bl id ad a c [] = [.box id ad 80 [.raw (.pointer none), .sl none 0 0]] := rfl
theorem bl_cons (id ad : Nat) (a : Option Addr) (c : Nat) {l : List UInt8} (h : l ≠ []) : bl id ad a c l = [.box id ad 80 [.p id ad 0, .sl a l.length c], .row 5 1 a l.length c (l.map byteC)] := if_neg h

theorem writeString0 (ad : Nat) (a : Option Addr) (c : Nat) (l s : List UInt8) (hs : s ≠ []) (hl : l.length + s.length ≤ 140737488355328) :
    FnS Tryz.prog 37 [.c (.p 0 ad 0), .c (.s s)] (bl 0 ad a c l) [] (fun v L D => ∃ a' c', v = .t2 (.c (.i .i64 s.length)) (.c (.raw .nilIface)) ∧ L = bl 0 ad a' c' (l ++ s) ∧ D = []) := by
  have hls : l ++ s ≠ [] := by simp [hs]
  by_cases h0 : l = []
  · subst h0
    rw [bl_nil]
    have c1 := copyFresh_ok 0 ad (.sl none 0 0) rfl
    refine fn_of_J Tryz.tyOK 7000 Tryz.func37 (by kernel_rfl) (c := Tryz.f37.body.getD .skip) (by kernel_rfl) Tryz.ntmps37 (rs := Tryz.f37.results.toList) rfl (by simp) (fun G => ?_)
    repeat' first
      | refine J_seq ?_ | refine J_region Tryz.tyOK ?_ | refine J_block ?_ | refine J_cond ?_ | refine J_ret ?_ | refine J_skip ?_ | refine J_exit ?_ | refine J_scope ?_
      | refine CondP.yes (by omega) ?_ | refine CondP.no (by omega) ?_ | refine CondP.mk (fun h => ?_) (fun h => ?_) | refine EqP.mk rfl ?_ | refine NewP.mk (fun ad => ?_) | refine ArP.exact (by simp only [inR]; omega) ?_ | refine SideP.mk (by first | omega | (dsimp only; omega) | (simp; omega)) ?_
      | refine CallP.mk [_] [] [] _ c1 (by simp) (fun _ _ => trivial) (fun v L' D' hp => ?_); obtain ⟨rfl, rfl, rfl⟩ := hp | refine AppE.nil (s.map byteC) s.length rfl rfl rfl (SrcE.str _ s rfl rfl rfl) (by show s.length * 1 ≤ _; simp only [List.length_nil] at hl; omega) (fun a' c' => ?_) | refine FinE.mk (bl 0 ad a' c' ([] ++ s)) [] ⟨a', c', rfl, rfl, rfl⟩ ?_
      | fail
    exact (Ents.perm (List.Perm.swap _ _ _)).trans (Ents.of (by rw [bl_cons _ _ _ _ hls]; rfl))
  · rw [bl_cons _ _ _ _ h0]
    have c1 := copyUsed_ok 0 ad (.sl a l.length c)
    refine fn_of_J Tryz.tyOK 7000 Tryz.func37 (by kernel_rfl) (c := Tryz.f37.body.getD .skip) (by kernel_rfl) Tryz.ntmps37 (rs := Tryz.f37.results.toList) rfl (by simp) (fun G => ?_)
    repeat' first
      | refine J_seq ?_ | refine J_region Tryz.tyOK ?_ | refine J_block ?_ | refine J_cond ?_ | refine J_ret ?_ | refine J_skip ?_ | refine J_exit ?_ | refine J_scope ?_
      | refine CondP.yes (by omega) ?_ | refine CondP.no (by omega) ?_ | refine CondP.mk (fun h => ?_) (fun h => ?_) | refine EqP.mk rfl ?_ | refine NewP.mk (fun ad => ?_) | refine ArP.exact (by simp only [inR]; omega) ?_ | refine SideP.mk (by first | omega | (dsimp only; omega) | (simp; omega)) ?_
      | refine CallP.mk [_] [_] [] _ c1 (List.Perm.refl _) (fun _ _ => trivial) (fun v L' D' hp => ?_); obtain ⟨rfl, rfl, rfl⟩ := hp | refine AppE.row [_] [] (l.map byteC) (s.map byteC) s.length rfl (SrcE.str _ s rfl rfl rfl) (by show (l.length + s.length) * 1 ≤ _; omega) (fun a' c' => ?_) | refine FinE.mk (bl 0 ad a' c' (l ++ s)) [] ⟨a', c', rfl, rfl, rfl⟩ ?_
      | fail
    exact Ents.of (by rw [bl_cons _ _ _ _ hls, List.length_append, List.map_append]; rfl)

theorem builderLen0 (ad : Nat) (a : Option Addr) (c : Nat) (l : List UInt8) : FnS Tryz.prog 41 [.c (.p 0 ad 0)] (bl 0 ad a c l) [] (fun v L D => v = .c (.i .i64 l.length) ∧ L = bl 0 ad a c l ∧ D = []) := by
  by_cases h0 : l = []
  · subst h0
    rw [bl_nil]
    refine fn_of_J Tryz.tyOK 7000 Tryz.func41 (by kernel_rfl) (c := Tryz.f41.body.getD .skip) (by kernel_rfl) Tryz.ntmps41 (rs := Tryz.f41.results.toList) rfl (by simp) (fun G => ?_)
    repeat' first
      | refine J_seq ?_ | refine J_region Tryz.tyOK ?_ | refine J_block ?_ | refine J_cond ?_ | refine J_ret ?_ | refine J_skip ?_ | refine J_exit ?_ | refine J_scope ?_
      | refine CondP.yes (by omega) ?_ | refine CondP.no (by omega) ?_ | refine CondP.mk (fun h => ?_) (fun h => ?_) | refine EqP.mk rfl ?_ | refine NewP.mk (fun ad => ?_) | refine ArP.exact (by simp only [inR]; omega) ?_ | refine SideP.mk (by first | omega | (dsimp only; omega) | (simp; omega)) ?_
      | exact FinE.mk _ [] ⟨rfl, rfl, rfl⟩ (Ents.refl _ _)
      | fail
  · rw [bl_cons _ _ _ _ h0]
    refine fn_of_J Tryz.tyOK 7000 Tryz.func41 (by kernel_rfl) (c := Tryz.f41.body.getD .skip) (by kernel_rfl) Tryz.ntmps41 (rs := Tryz.f41.results.toList) rfl (by simp) (fun G => ?_)
    repeat' first
      | refine J_seq ?_ | refine J_region Tryz.tyOK ?_ | refine J_block ?_ | refine J_cond ?_ | refine J_ret ?_ | refine J_skip ?_ | refine J_exit ?_ | refine J_scope ?_
      | refine CondP.yes (by omega) ?_ | refine CondP.no (by omega) ?_ | refine CondP.mk (fun h => ?_) (fun h => ?_) | refine EqP.mk rfl ?_ | refine NewP.mk (fun ad => ?_) | refine ArP.exact (by simp only [inR]; omega) ?_ | refine SideP.mk (by first | omega | (dsimp only; omega) | (simp; omega)) ?_
      | exact FinE.mk _ [] ⟨rfl, rfl, rfl⟩ (Ents.refl _ _)
      | fail

/-- A row that is not empty lies somewhere. -/
theorem J_some {P : Program} {G : Ent} {N : Nat} {c0 : Code} {env : Env} {L : List Chunk} {D : List Fact} {nid : Nat} {K : Kt} {e z : Nat} {a : Option Addr} {n c : Nat} {cs : List C} (hm : .row e z a n c cs ∈ L) (hn : n ≠ 0) (k : ∀ g, a = some ⟨g, 0, none⟩ → n ≤ c → J P G N c0 env L D nid K) : J P G N c0 env L D nid K :=
  ⟨fun ac w he hs => by
    obtain ⟨m, h1, _⟩ := id hs
    have hr := (allOk_mem h1.ok hm).2
    rcases hr with ⟨_, h0, _⟩ | ⟨g, hg, cur, lo, hi, _, h2, _⟩
    · exact absurd h0 hn
    · exact (k g hg h2).run ac w he hs⟩

theorem builderString0 (ad : Nat) (a : Option Addr) (c : Nat) (l : List UInt8) : FnS Tryz.prog 42 [.c (.p 0 ad 0)] (bl 0 ad a c l) [] (Is (.c (.s l))) := by
  by_cases h0 : l = []
  · subst h0
    rw [bl_nil]
    refine fn_of_J Tryz.tyOK 7000 Tryz.func42 (by kernel_rfl) (c := Tryz.f42.body.getD .skip) (by kernel_rfl) Tryz.ntmps42 (rs := Tryz.f42.results.toList) rfl (by simp) (fun G => ?_)
    repeat' first
      | refine J_seq ?_ | refine J_region Tryz.tyOK ?_ | refine J_block ?_ | refine J_cond ?_ | refine J_ret ?_ | refine J_skip ?_ | refine J_exit ?_ | refine J_scope ?_
      | refine CondP.yes (by omega) ?_ | refine CondP.no (by omega) ?_ | refine CondP.mk (fun h => ?_) (fun h => ?_) | refine EqP.mk rfl ?_ | refine NewP.mk (fun ad => ?_) | refine ArP.exact (by simp only [inR]; omega) ?_ | refine SideP.mk (by first | omega | (dsimp only; omega) | (simp; omega)) ?_
      | refine J_drawS (id := 1) Tryz.tyOK (by kernel_rfl) [0, 1, 3, 7, 15, 0, 32, 96, 224, 480, 1023, 2047] [0, 1, 2, 3, 5, 6, 7, 8, 9, 4, 10, 11] [4, 10] [0] false (by kernel_rfl) ?_ | refine EntP.mk (Ents.ofSub (by repeat (first | exact List.Sublist.slnil | refine List.Sublist.cons_cons _ ?_ | refine List.Sublist.cons _ ?_)) (by first | exact fun _ h => h | exact fun _ _ => trivial | exact fun _ h => h.2 | exact fun _ h => h.2.2.2.2 | exact fun _ h => ((allD_append _ _).1 h).2)) ?_ | refine SlDataE.nil rfl ?_ | refine StrDataE.nil rfl rfl ?_ | refine FinE.str ?_
      | fail
    rfl
  · rw [bl_cons _ _ _ _ h0]
    have hl0 : l.length ≠ 0 := fun h => h0 (List.eq_nil_of_length_eq_zero h)
    refine fn_of_J Tryz.tyOK 7000 Tryz.func42 (by kernel_rfl) (c := Tryz.f42.body.getD .skip) (by kernel_rfl) Tryz.ntmps42 (rs := Tryz.f42.results.toList) rfl (by simp) (fun G => ?_)
    refine J_some (List.Mem.tail _ (List.Mem.head _)) hl0 (fun g hg hlc => ?_)
    subst hg
    repeat' first
      | refine J_seq ?_ | refine J_region Tryz.tyOK ?_ | refine J_block ?_ | refine J_cond ?_ | refine J_ret ?_ | refine J_skip ?_ | refine J_exit ?_ | refine J_scope ?_
      | refine CondP.yes (by omega) ?_ | refine CondP.no (by omega) ?_ | refine CondP.mk (fun h => ?_) (fun h => ?_) | refine EqP.mk rfl ?_ | refine NewP.mk (fun ad => ?_) | refine ArP.exact (by simp only [inR]; omega) ?_ | refine SideP.mk (by first | omega | (dsimp only; omega) | (simp; omega)) ?_
      | refine J_drawS (id := 1) Tryz.tyOK (by kernel_rfl) [0, 1, 3, 7, 15, 0, 32, 96, 224, 480, 1023, 2047] [0, 1, 2, 3, 5, 6, 7, 8, 9, 4, 10, 11] [4, 10] [0] false (by kernel_rfl) ?_ | refine EntP.mk (Ents.ofSub (by repeat (first | exact List.Sublist.slnil | refine List.Sublist.cons_cons _ ?_ | refine List.Sublist.cons _ ?_)) (by first | exact fun _ h => h | exact fun _ _ => trivial | exact fun _ h => h.2 | exact fun _ h => h.2.2.2.2 | exact fun _ h => ((allD_append _ _).1 h).2)) ?_ | refine SlDataE.row g 0 rfl (by omega) ?_ | refine StrDataE.row [_] 5 g l.length c l (List.Perm.swap _ _ _) rfl rfl h0 rfl (by kernel_rfl) ?_ | refine FinE.str ?_
      | fail
    rfl

theorem bl_same (id id' ad : Nat) (a : Option Addr) (c : Nat) (l : List UInt8) : Same (bl id ad a c l) (bl id' ad a c l) := by
  unfold bl; split <;> exact ⟨rfl, fun _ => by simp [allOk, Chunk.ok, C.enc, oneAll, C.one]⟩

theorem writeString_ok (id ad : Nat) (a : Option Addr) (c : Nat) (l s : List UInt8) (hs : s ≠ []) (hl : l.length + s.length ≤ 140737488355328) :
    FnS Tryz.prog 37 [.c (.p id ad 0), .c (.s s)] (bl id ad a c l) [] (fun v L D => ∃ a' c', v = .t2 (.c (.i .i64 s.length)) (.c (.raw .nilIface)) ∧ L = bl id ad a' c' (l ++ s) ∧ D = []) :=
  (writeString0 ad a c l s hs hl).same rfl (bl_same _ _ _ _ _ _) fun v L1 D1 ⟨a', c', h1, h2, h3⟩ => ⟨_, h2 ▸ bl_same 0 id ad a' c' (l ++ s), a', c', h1, rfl, h3⟩
theorem builderLen_ok (id ad : Nat) (a : Option Addr) (c : Nat) (l : List UInt8) : FnS Tryz.prog 41 [.c (.p id ad 0)] (bl id ad a c l) [] (fun v L D => v = .c (.i .i64 l.length) ∧ L = bl id ad a c l ∧ D = []) :=
  (builderLen0 ad a c l).same rfl (bl_same _ _ _ _ _ _) fun v L1 D1 ⟨h1, h2, h3⟩ => ⟨_, h2 ▸ bl_same 0 id ad a c l, h1, rfl, h3⟩
theorem builderString_ok (id ad : Nat) (a : Option Addr) (c : Nat) (l : List UInt8) : FnS Tryz.prog 42 [.c (.p id ad 0)] (bl id ad a c l) [] (Is (.c (.s l))) :=
  (builderString0 ad a c l).same rfl (bl_same _ _ _ _ _ _) fun v L1 D1 h => ⟨L1, ⟨rfl, fun _ => Iff.rfl⟩, h⟩

end Go.Proofs
