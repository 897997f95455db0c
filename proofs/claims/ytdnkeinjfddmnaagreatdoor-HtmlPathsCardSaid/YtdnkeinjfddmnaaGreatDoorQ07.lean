/- This text gives contracts of what strings.Replacer needs of the library: the Once, its lock and its word. · This text gives the contracts of the Once: doSlow and Do, where the function has not been called yet. · This text says what the escaping of HTML computes, and what it does to lengths, with no program in sight. · This text gives the contracts of strings.NewReplacer at the eight strings of the escaping, and of build. · This text gives the contract of buildOnce: the replacer's algorithm is built. · This text walks through Replace of the byte replacer: it computes the escaped string. · This text gives the contract of html.Escape. · This text walks through the functions on a document of one paragraph: its contents, marks and notes are empty. · This text walks through html's writer on a document of one paragraph. · This text says in plain Lean what the functions on titles compute. · This text says what the path of a title is, with no program in sight. -/
import Derived.Test.YtdnkeinjfddmnaaGreatDoorQ06
import Derived.Laws.LoneSync
import Derived.Test.YtdnkeinjfddmnaaGreatDoorQ01
import Derived.Test.YtdnkeinjfddmnaaGreatDoorQ05
import Derived.Lib.SlTrimSet
import Derived.Lib.IndexAny
set_option linter.all false

namespace Go.Proofs
open Go Go.X
set_option maxRecDepth 100000

/-- A replacer: the Once's word and lock, the algorithm, the strings. -/
def rb (ab : Nat) (d m : Int) (r z : C) : Chunk := .box 0 ab 130 [.i .u32 d, .i .i32 m, .i .u32 0, r, z]

theorem disable_run (w : World) : (callFunc 190 #[]).run Tryz.prog w = .ok (.value (.tuple #[])) w := run_call_mark0 Tryz.func190 (by kernel_rfl) (by kernel_rfl) (by kernel_rfl) .disable (by kernel_rfl) w
theorem enable_run (w : World) : (callFunc 192 #[]).run Tryz.prog w = .ok (.value (.tuple #[])) w := run_call_mark0 Tryz.func192 (by kernel_rfl) (by kernel_rfl) (by kernel_rfl) .enable (by kernel_rfl) w
theorem acquire_run (a : Addr) (w : World) : (callFunc 193 #[.pointer (some a)]).run Tryz.prog w = .ok (.value (.tuple #[])) w := run_call_marked Tryz.func193 (by kernel_rfl) (by kernel_rfl) (by kernel_rfl) .acquire (by kernel_rfl) a w
theorem releaseMerge_run (a : Addr) (w : World) : (callFunc 195 #[.pointer (some a)]).run Tryz.prog w = .ok (.value (.tuple #[])) w := run_call_marked Tryz.func195 (by kernel_rfl) (by kernel_rfl) (by kernel_rfl) .releaseMerge (by kernel_rfl) a w

theorem rb_cell {G : Ent} {w : World} {L : List Chunk} {D : List Fact} {ab : Nat} {d m : Int} {r z : C} (hs : SatW G w (rb ab d m r z :: L) D) : w.cell? ⟨ab, 0, none⟩ = some (.int .u32 d) ∧ w.cell? ⟨ab, 1, none⟩ = some (.int .i32 m) ∧ w.frozen? ⟨ab, 0, none⟩ = false ∧ w.frozen? ⟨ab, 1, none⟩ = false := by
  have hb := satW_box hs (List.Mem.head _)
  refine ⟨by simp [World.cell?, hb, C.enc], by simp [World.cell?, hb, C.enc], by simp [World.frozen?, hb], by simp [World.frozen?, hb]⟩

section
variable {L : List Chunk} {D : List Fact} {K : V → List Chunk → List Fact → Prop} {ab : Nat} {d m : Int} {r z : C}
theorem disableP (k : K .t0 L D) : CallP Tryz.prog 190 [] L D K := .ext .t0 (fun _ w _ => disable_run w) k
theorem enableP (k : K .t0 L D) : CallP Tryz.prog 192 [] L D K := .ext .t0 (fun _ w _ => enable_run w) k
theorem acquireP {i a o : Nat} (k : K .t0 L D) : CallP Tryz.prog 193 [.c (.p i a o)] L D K := .ext .t0 (fun _ w _ => acquire_run _ w) k
theorem releaseMergeP {i a o : Nat} (k : K .t0 L D) : CallP Tryz.prog 195 [.c (.p i a o)] L D K := .ext .t0 (fun _ w _ => releaseMerge_run _ w) k
theorem loadP (k : K (.c (.i .u32 d)) (rb ab d m r z :: L) D) : CallP Tryz.prog 151 [.c (.p 0 ab 0)] (rb ab d m r z :: L) D K :=
  .ext (.c (.i .u32 d)) (fun G w hs => by
    have h := (rb_cell hs).1
    exact run_call_load Tryz.func151 (by kernel_rfl) (by kernel_rfl) (by kernel_rfl) .u32 (by kernel_rfl) h) k
theorem casP (k : K (.c (.b true)) (rb ab d 1 r z :: L) D) : CallP Tryz.prog 191 [.c (.p 0 ab 1), .c (.i .i32 0), .c (.i .i32 1)] (rb ab d 0 r z :: L) D K :=
  .extW (.c (.b true)) (rb ab d 1 r z :: L) (fun G w hs => by
    have h := rb_cell hs
    have hr := run_call_cas_hit (P := Tryz.prog) Tryz.func191 (by kernel_rfl) (by kernel_rfl) (by kernel_rfl) .i32 (by kernel_rfl) (y := 1) h.2.1 h.2.2.2
    exact ⟨_, hr, satW_setBox 1 (.i .i32 1) rfl hs⟩) k
theorem addP (k : K (.c (.i .i32 0)) (rb ab d 0 r z :: L) D) : CallP Tryz.prog 196 [.c (.p 0 ab 1), .c (.i .i32 (-1))] (rb ab d 1 r z :: L) D K :=
  .extW (.c (.i .i32 0)) (rb ab d 0 r z :: L) (fun G w hs => by
    have h := rb_cell hs
    have hr := run_call_add (P := Tryz.prog) Tryz.func196 (by kernel_rfl) (by kernel_rfl) (by kernel_rfl) .i32 (by kernel_rfl) (y := -1) (s := 0) h.2.1 h.2.2.2 (by simp [go_sem]; rfl)
    exact ⟨_, hr, satW_setBox 1 (.i .i32 0) rfl hs⟩) k
theorem storeP (k : K .t0 (rb ab 1 m r z :: L) D) : CallP Tryz.prog 178 [.c (.p 0 ab 0), .c (.i .u32 1)] (rb ab d m r z :: L) D K :=
  .extW .t0 (rb ab 1 m r z :: L) (fun G w hs => by
    have h := rb_cell hs
    have hr := run_call_store (P := Tryz.prog) Tryz.func178 (by kernel_rfl) (by kernel_rfl) (by kernel_rfl) (by kernel_rfl) (k := .u32) (y := 1) h.1 h.2.2.1
    exact ⟨_, hr, satW_setBox 0 (.i .u32 1) rfl hs⟩) k
end

theorem boolLoad_ok (ab : Nat) (m : Int) (r z : C) : FnS Tryz.prog 113 [.c (.p 0 ab 0)] [rb ab 0 m r z] [] (fun v L D => v = .c (.b false) ∧ L = [rb ab 0 m r z] ∧ D = []) := by
  unfold rb
  refine fn_of_J Tryz.tyOK 7000 Tryz.func113 (by kernel_rfl) (c := Tryz.f113.body.getD .skip) (by kernel_rfl) Tryz.ntmps113 (rs := Tryz.f113.results.toList) rfl (by simp) (fun G => ?_)
  repeat' first
    | refine J_seq ?_ | refine J_region Tryz.tyOK ?_ | refine J_block ?_ | refine J_cond ?_ | refine J_ret ?_ | refine J_skip ?_ | refine J_exit ?_ | refine J_scope ?_
    | refine CondP.yes (by omega) ?_ | refine CondP.no (by omega) ?_ | refine CondP.mk (fun h => ?_) (fun h => ?_) | refine EqP.mk rfl ?_ | refine NewP.mk (fun ad => ?_) | refine ArP.exact (by simp only [inR]; omega) ?_ | refine SideP.mk (by first | omega | (dsimp only; omega) | (simp; omega)) ?_
    | refine loadP ?_ | refine FinE.mk _ [] ⟨rfl, rfl, rfl⟩ (Ents.refl _ _)
    | fail

theorem innerLock_ok (ab : Nat) (r z : C) : FnS Tryz.prog 176 [.c (.p 0 ab 1)] [rb ab 0 0 r z] [] (fun v L D => v = .t0 ∧ L = [rb ab 0 1 r z] ∧ D = []) := by
  unfold rb
  refine fn_of_J Tryz.tyOK 7000 Tryz.func176 (by kernel_rfl) (c := Tryz.f176.body.getD .skip) (by kernel_rfl) Tryz.ntmps176 (rs := Tryz.f176.results.toList) rfl (by simp) (fun G => ?_)
  repeat' first
    | refine J_seq ?_ | refine J_region Tryz.tyOK ?_ | refine J_block ?_ | refine J_cond ?_ | refine J_ret ?_ | refine J_skip ?_ | refine J_exit ?_ | refine J_scope ?_
    | refine CondP.yes (by omega) ?_ | refine CondP.no (by omega) ?_ | refine CondP.mk (fun h => ?_) (fun h => ?_) | refine EqP.mk rfl ?_ | refine NewP.mk (fun ad => ?_) | refine ArP.exact (by simp only [inR]; omega) ?_ | refine SideP.mk (by first | omega | (dsimp only; omega) | (simp; omega)) ?_
    | refine disableP ?_ | refine enableP ?_ | refine acquireP ?_ | refine casP ?_ | refine SideP.mk ⟨rfl, by show 1 < 5; decide⟩ ?_ | refine FinE.mk _ [] ⟨rfl, rfl, rfl⟩ (Ents.refl _ _)
    | fail

theorem lock_ok (ab : Nat) (r z : C) : FnS Tryz.prog 152 [.c (.p 0 ab 1)] [rb ab 0 0 r z] [] (fun v L D => v = .t0 ∧ L = [rb ab 0 1 r z] ∧ D = []) := by
  have c1 := innerLock_ok ab r z
  unfold rb at c1 ⊢
  refine fn_of_J Tryz.tyOK 7000 Tryz.func152 (by kernel_rfl) (c := Tryz.f152.body.getD .skip) (by kernel_rfl) Tryz.ntmps152 (rs := Tryz.f152.results.toList) rfl (by simp) (fun G => ?_)
  repeat' first
    | refine J_seq ?_ | refine J_region Tryz.tyOK ?_ | refine J_block ?_ | refine J_cond ?_ | refine J_ret ?_ | refine J_skip ?_ | refine J_exit ?_ | refine J_scope ?_
    | refine CondP.yes (by omega) ?_ | refine CondP.no (by omega) ?_ | refine CondP.mk (fun h => ?_) (fun h => ?_) | refine EqP.mk rfl ?_ | refine NewP.mk (fun ad => ?_) | refine ArP.exact (by simp only [inR]; omega) ?_ | refine SideP.mk (by first | omega | (dsimp only; omega) | (simp; omega)) ?_
    | refine CallP.mk [_] [] [] _ c1 (List.Perm.refl _) (fun _ _ => trivial) (fun v L' D' hp => ?_); obtain ⟨rfl, rfl, rfl⟩ := hp | refine FinE.mk _ [] ⟨rfl, rfl, rfl⟩ (Ents.refl _ _)
    | fail

theorem innerUnlock_ok (ab : Nat) (r z : C) : FnS Tryz.prog 177 [.c (.p 0 ab 1)] [rb ab 1 1 r z] [] (fun v L D => v = .t0 ∧ L = [rb ab 1 0 r z] ∧ D = []) := by
  unfold rb
  refine fn_of_J Tryz.tyOK 7000 Tryz.func177 (by kernel_rfl) (c := Tryz.f177.body.getD .skip) (by kernel_rfl) Tryz.ntmps177 (rs := Tryz.f177.results.toList) rfl (by simp) (fun G => ?_)
  repeat' first
    | refine J_seq ?_ | refine J_region Tryz.tyOK ?_ | refine J_block ?_ | refine J_cond ?_ | refine J_ret ?_ | refine J_skip ?_ | refine J_exit ?_ | refine J_scope ?_
    | refine CondP.yes (by omega) ?_ | refine CondP.no (by omega) ?_ | refine CondP.mk (fun h => ?_) (fun h => ?_) | refine EqP.mk rfl ?_ | refine NewP.mk (fun ad => ?_) | refine ArP.exact (by simp only [inR]; omega) ?_ | refine SideP.mk (by first | omega | (dsimp only; omega) | (simp; omega)) ?_
    | refine disableP ?_ | refine enableP ?_ | refine releaseMergeP ?_ | refine addP ?_ | refine SideP.mk ⟨rfl, by show 1 < 5; decide⟩ ?_ | refine FinE.mk _ [] ⟨rfl, rfl, rfl⟩ (Ents.refl _ _)
    | fail

theorem unlockD_ok (ab : Nat) (r z : C) : FnD Tryz.prog 153 [.c (.p 0 ab 1)] [rb ab 1 1 r z] [] (fun v L D => v = .t0 ∧ L = [rb ab 1 0 r z] ∧ D = []) := by
  have c1 := innerUnlock_ok ab r z
  unfold rb at c1 ⊢
  refine fnD_of_J Tryz.tyOK 7000 Tryz.func153 (by kernel_rfl) (c := Tryz.f153.body.getD .skip) (by kernel_rfl) Tryz.ntmps153 (rs := Tryz.f153.results.toList) rfl (by simp) (fun G => ?_)
  repeat' first
    | refine J_seq ?_ | refine J_region Tryz.tyOK ?_ | refine J_block ?_ | refine J_cond ?_ | refine J_ret ?_ | refine J_skip ?_ | refine J_exit ?_ | refine J_scope ?_
    | refine CondP.yes (by omega) ?_ | refine CondP.no (by omega) ?_ | refine CondP.mk (fun h => ?_) (fun h => ?_) | refine EqP.mk rfl ?_ | refine NewP.mk (fun ad => ?_) | refine ArP.exact (by simp only [inR]; omega) ?_ | refine SideP.mk (by first | omega | (dsimp only; omega) | (simp; omega)) ?_
    | refine CallP.mk [_] [] [] _ c1 (List.Perm.refl _) (fun _ _ => trivial) (fun v L' D' hp => ?_); obtain ⟨rfl, rfl, rfl⟩ := hp | refine FinE.mk _ [] ⟨rfl, rfl, rfl⟩ (Ents.refl _ _)
    | fail

theorem b32_ok : FnS Tryz.prog 179 [.c (.b true)] [] [] (Is (.c (.i .u32 1))) := by
  refine fn_of_J Tryz.tyOK 7000 Tryz.func179 (by kernel_rfl) (c := Tryz.f179.body.getD .skip) (by kernel_rfl) Tryz.ntmps179 (rs := Tryz.f179.results.toList) rfl (by simp) (fun G => ?_)
  repeat' first
    | refine J_seq ?_ | refine J_region Tryz.tyOK ?_ | refine J_block ?_ | refine J_cond ?_ | refine J_ret ?_ | refine J_skip ?_ | refine J_exit ?_ | refine J_scope ?_
    | refine CondP.yes (by omega) ?_ | refine CondP.no (by omega) ?_ | refine CondP.mk (fun h => ?_) (fun h => ?_) | refine EqP.mk rfl ?_ | refine NewP.mk (fun ad => ?_) | refine ArP.exact (by simp only [inR]; omega) ?_ | refine SideP.mk (by first | omega | (dsimp only; omega) | (simp; omega)) ?_
    | refine FinE.int rfl
    | fail

theorem boolStoreD_ok (ab : Nat) (r z : C) : FnD Tryz.prog 154 [.c (.p 0 ab 0), .c (.b true)] [rb ab 0 1 r z] [] (fun v L D => v = .t0 ∧ L = [rb ab 1 1 r z] ∧ D = []) := by
  unfold rb
  refine fnD_of_J Tryz.tyOK 7000 Tryz.func154 (by kernel_rfl) (c := Tryz.f154.body.getD .skip) (by kernel_rfl) Tryz.ntmps154 (rs := Tryz.f154.results.toList) rfl (by simp) (fun G => ?_)
  repeat' first
    | refine J_seq ?_ | refine J_region Tryz.tyOK ?_ | refine J_block ?_ | refine J_cond ?_ | refine J_ret ?_ | refine J_skip ?_ | refine J_exit ?_ | refine J_scope ?_
    | refine CondP.yes (by omega) ?_ | refine CondP.no (by omega) ?_ | refine CondP.mk (fun h => ?_) (fun h => ?_) | refine EqP.mk rfl ?_ | refine NewP.mk (fun ad => ?_) | refine ArP.exact (by simp only [inR]; omega) ?_ | refine SideP.mk (by first | omega | (dsimp only; omega) | (simp; omega)) ?_
    | refine J_drawU (id := 0) Tryz.tyOK (by kernel_rfl) [0, 1, 3, 0, 8, 31] (.leaf [0, 1, 2, 3, 4, 5]) [5] [] 5 true (by kernel_rfl) ?_ | refine TwoP.mk ?_ ?_ | refine GoP.mk (by repeat (first | exact List.Sublist.slnil | refine List.Sublist.cons_cons _ ?_ | refine List.Sublist.cons _ ?_)) (by first | exact fun _ h => h | exact fun _ h => h.2 | exact fun _ h => ((allD_append _ _).1 h).2) ?_ | exact trivial | refine EntP.mk (Ents.ofSub (by repeat (first | exact List.Sublist.slnil | refine List.Sublist.cons_cons _ ?_ | refine List.Sublist.cons _ ?_)) (by first | exact fun _ h => h | exact fun _ _ => trivial | exact fun _ h => h.2 | exact fun _ h => h.2.2.2.2 | exact fun _ h => h.2.2 | exact fun _ h => h.2.2.2 | exact fun _ h => h.2.2.2.2.2 | exact fun _ h => h.2.2.2.2.2.2 | exact fun _ h => h.2.2.2.2.2.2.2 | exact fun _ h => h.2.2.2.2.2.2.2.2 | exact fun _ h => h.2.2.2.2.2.2.2.2.2 | exact fun _ h => h.2.2.2.2.2.2.2.2.2.2 | exact fun _ h => ((allD_append _ _).1 h).2)) ?_ | refine CallQ.mk [] _ b32_ok (fun _ _ => trivial) ?_ | refine storeP ?_ | refine FinE.mk _ [] ⟨rfl, rfl, rfl⟩ (Ents.refl _ _)
    | fail

end Go.Proofs

namespace Go.Proofs
open Go Go.X
set_option maxRecDepth 100000

/-- The function value that the replacer hands to its Once. -/
def onceF (ab : Nat) : V := .c (.raw (.func (.func 78) #[(V.c (.p 0 ab 0)).enc] #[]))

/-- What is built: behind the call the lock is free and the word says that it was called. -/
def BuiltP (ab : Nat) (d m : Int) (Q : C → C → List Chunk → List Fact → Prop) : V → List Chunk → List Fact → Prop := fun v L D => ∃ r z R, v = .t0 ∧ L = rb ab d m r z :: R ∧ Q r z R D

theorem doSlow_ok (ab : Nat) (r z : C) (R : List Chunk) (D : List Fact) (Q : C → C → List Chunk → List Fact → Prop)
    (hf : FnS Tryz.prog 78 [.c (.p 0 ab 0)] (rb ab 0 1 r z :: R) D (BuiltP ab 0 1 Q)) (hQ : ∀ r z R D1, Q r z R D1 → Q r z R (D1 ++ D)) :
    FnS Tryz.prog 114 [.c (.p 0 ab 0), onceF ab] (rb ab 0 0 r z :: R) D (BuiltP ab 1 0 Q) := by
  have c1 := lock_ok ab r z
  have c2 := boolLoad_ok ab 1 r z
  refine fn_of_JD 7000 Tryz.func114 (by kernel_rfl) (c := Tryz.f114.body.getD .skip) (by kernel_rfl) Tryz.ntmps114 (by simp) (fun G => ?_)
  have hres : ∀ tmps w, (results Tryz.f114 tmps).run Tryz.prog w = .ok (.tuple #[]) w := fun tmps w => by simp [results, Tryz.results114]
  refine JD_seq ?_
  repeat' first
    | refine J_seq ?_ | refine J_region Tryz.tyOK ?_ | refine J_block ?_ | refine J_cond ?_ | refine J_ret ?_ | refine J_skip ?_ | refine J_exit ?_ | refine J_scope ?_
    | refine CondP.yes (by omega) ?_ | refine CondP.no (by omega) ?_ | refine CondP.mk (fun h => ?_) (fun h => ?_) | refine EqP.mk rfl ?_ | refine NewP.mk (fun ad => ?_) | refine ArP.exact (by simp only [inR]; omega) ?_ | refine SideP.mk (by first | omega | (dsimp only; omega) | (simp; omega)) ?_
    | refine CallP.mk [_] _ [] _ c1 (List.Perm.refl _) (fun _ _ => trivial) (fun v L' D' hp => ?_); obtain ⟨rfl, rfl, rfl⟩ := hp
    | fail
  refine JD_defer Tryz.tyOK ?_
  letI i1 : Inhabited (List Deferred) := dfI [(153, [.c (.p 0 ab 1)])]
  refine JD_seq ?_
  repeat' first
    | refine J_seq ?_ | refine J_region Tryz.tyOK ?_ | refine J_block ?_ | refine J_cond ?_ | refine J_ret ?_ | refine J_skip ?_ | refine J_exit ?_ | refine J_scope ?_
    | refine CondP.yes (by omega) ?_ | refine CondP.no (by omega) ?_ | refine CondP.mk (fun h => ?_) (fun h => ?_) | refine EqP.mk rfl ?_ | refine NewP.mk (fun ad => ?_) | refine ArP.exact (by simp only [inR]; omega) ?_ | refine SideP.mk (by first | omega | (dsimp only; omega) | (simp; omega)) ?_
    | refine CallP.mk [_] _ [] _ c2 (List.Perm.refl _) (fun _ _ => trivial) (fun v L' D' hp => ?_); obtain ⟨rfl, rfl, rfl⟩ := hp
    | fail
  refine JD_cond ?_
  refine JD_defer Tryz.tyOK ?_
  letI i2 : Inhabited (List Deferred) := dfI [(154, [.c (.p 0 ab 0), .c (.b true)]), (153, [.c (.p 0 ab 1)])]
  refine JD_end hres ?_
  repeat' first
    | refine J_seq ?_ | refine J_region Tryz.tyOK ?_ | refine J_block ?_ | refine J_cond ?_ | refine J_ret ?_ | refine J_skip ?_ | refine J_exit ?_ | refine J_scope ?_
    | refine CondP.yes (by omega) ?_ | refine CondP.no (by omega) ?_ | refine CondP.mk (fun h => ?_) (fun h => ?_) | refine EqP.mk rfl ?_ | refine NewP.mk (fun ad => ?_) | refine ArP.exact (by simp only [inR]; omega) ?_ | refine SideP.mk (by first | omega | (dsimp only; omega) | (simp; omega)) ?_
    | refine BoundP.mk [.c (.p 0 ab 0)] rfl rfl ?_ | refine CallP.mk _ [] _ _ hf (by simp) (fun _ h => h) (fun v L' D' hp => ?_)
    | fail
  obtain ⟨r1, z1, R1, rfl, rfl, hq⟩ := hp
  refine LvP.cons [_] _ [] _ (boolStoreD_ok ab r1 z1) (List.Perm.refl _) (fun _ _ => trivial) (fun v L' D' hp => ?_)
  obtain ⟨rfl, rfl, rfl⟩ := hp
  refine LvP.cons [_] _ [] _ (unlockD_ok ab r1 z1) (List.Perm.refl _) (fun _ _ => trivial) (fun v L' D' hp => ?_)
  obtain ⟨rfl, rfl, rfl⟩ := hp
  exact LvP.nil _ _ ⟨_, _, Ents.refl _ _, r1, z1, R1 ++ [], rfl, by simp, by simpa using hQ _ _ _ _ hq⟩

theorem onceDo_ok (ab : Nat) (r z : C) (R : List Chunk) (D : List Fact) (Q : C → C → List Chunk → List Fact → Prop)
    (hf : FnS Tryz.prog 78 [.c (.p 0 ab 0)] (rb ab 0 1 r z :: R) D (BuiltP ab 0 1 Q)) (hQ : ∀ r z R D1, Q r z R D1 → Q r z R (D1 ++ D)) :
    FnS Tryz.prog 77 [.c (.p 0 ab 0), onceF ab] (rb ab 0 0 r z :: R) D (BuiltP ab 1 0 Q) := by
  have c1 := boolLoad_ok ab 0 r z
  have c2 := doSlow_ok ab r z R D Q hf hQ
  refine fn_of_J Tryz.tyOK 7000 Tryz.func77 (by kernel_rfl) (c := Tryz.f77.body.getD .skip) (by kernel_rfl) Tryz.ntmps77 (rs := Tryz.f77.results.toList) rfl (by simp) (fun G => ?_)
  repeat' first
    | refine J_seq ?_ | refine J_region Tryz.tyOK ?_ | refine J_block ?_ | refine J_cond ?_ | refine J_ret ?_ | refine J_skip ?_ | refine J_exit ?_ | refine J_scope ?_
    | refine CondP.yes (by omega) ?_ | refine CondP.no (by omega) ?_ | refine CondP.mk (fun h => ?_) (fun h => ?_) | refine EqP.mk rfl ?_ | refine NewP.mk (fun ad => ?_) | refine ArP.exact (by simp only [inR]; omega) ?_ | refine SideP.mk (by first | omega | (dsimp only; omega) | (simp; omega)) ?_
    | refine CallP.mk [_] _ [] _ c1 (List.Perm.refl _) (fun _ _ => trivial) (fun v L' D' hp => ?_); obtain ⟨rfl, rfl, rfl⟩ := hp | refine CallP.mk _ [] _ _ c2 (by simp) (fun _ h => h) (fun v L' D' hp => ?_)
    | fail
  obtain ⟨r1, z1, R1, rfl, rfl, hq⟩ := hp
  exact FinE.mk _ _ ⟨r1, z1, R1 ++ [], rfl, by simp, by simpa using hQ _ _ _ _ hq⟩ (Ents.refl _ _)

end Go.Proofs

namespace Go.X

def eAmp : List UInt8 := [38, 97, 109, 112, 59]
def eLt : List UInt8 := [38, 108, 116, 59]
def eGt : List UInt8 := [38, 103, 116, 59]
def eQuot : List UInt8 := [38, 113, 117, 111, 116, 59]

/-- What stands for a byte. -/
def escB (b : UInt8) : List UInt8 := if b = 38 then eAmp else if b = 60 then eLt else if b = 62 then eGt else if b = 34 then eQuot else [b]
def spB (b : UInt8) : Bool := b == 38 || b == 60 || b == 62 || b == 34
def escT (s : List UInt8) : List UInt8 := s.flatMap escB

theorem escT_nil : escT [] = [] := rfl
theorem escT_cons (b : UInt8) (s : List UInt8) : escT (b :: s) = escB b ++ escT s := by simp [escT]
theorem escT_append (a b : List UInt8) : escT (a ++ b) = escT a ++ escT b := by simp [escT]

theorem escT_len : ∀ s : List UInt8, (escT s).length = s.length + s.count 34 * 5 + s.count 62 * 3 + s.count 60 * 3 + s.count 38 * 4
  | [] => rfl
  | b :: s => by
    have ih := escT_len s
    rw [escT_cons, List.length_append, ih]
    simp only [List.count_cons, List.length_cons]
    by_cases h1 : b = 38
    · subst h1; simp [escB, eAmp]; omega
    by_cases h2 : b = 60
    · subst h2; simp [escB, eLt]; omega
    by_cases h3 : b = 62
    · subst h3; simp [escB, eGt]; omega
    by_cases h4 : b = 34
    · subst h4; simp [escB, eQuot]; omega
    · simp [escB, h1, h2, h3, h4]; omega

theorem escT_id : ∀ {s : List UInt8}, s.count 34 = 0 → s.count 62 = 0 → s.count 60 = 0 → s.count 38 = 0 → escT s = s
  | [], _, _, _, _ => rfl
  | b :: s, h1, h2, h3, h4 => by
    simp only [List.count_cons, Nat.add_eq_zero_iff] at h1 h2 h3 h4
    rw [escT_cons, escT_id h1.1 h2.1 h3.1 h4.1]
    have n1 : b ≠ 34 := fun h => by simp [h] at h1
    have n2 : b ≠ 62 := fun h => by simp [h] at h2
    have n3 : b ≠ 60 := fun h => by simp [h] at h3
    have n4 : b ≠ 38 := fun h => by simp [h] at h4
    simp [escB, n1, n2, n3, n4]

theorem escB_plain {b : UInt8} (h : spB b = false) : escB b = [b] := by
  simp only [spB, Bool.or_eq_false_iff, beq_eq_false_iff_ne] at h
  simp [escB, h.1.1.1, h.1.1.2, h.1.2, h.2]

theorem escT_plain : ∀ {s : List UInt8}, s.any spB = false → escT s = s
  | [], _ => rfl
  | b :: s, h => by
    simp only [List.any_cons, Bool.or_eq_false_iff] at h
    rw [escT_cons, escT_plain h.2, escB_plain h.1]; rfl

theorem escB_len (b : UInt8) : 1 ≤ (escB b).length ∧ (escB b).length ≤ 6 := by
  unfold escB
  repeat (split; decide)
  exact ⟨Nat.le_refl 1, by show 1 ≤ 6; decide⟩

theorem escT_le (s : List UInt8) : s.length ≤ (escT s).length ∧ (escT s).length ≤ 6 * s.length := by
  induction s with
  | nil => exact ⟨Nat.le_refl _, Nat.le_refl _⟩
  | cons b s ih =>
    have := escB_len b
    rw [escT_cons, List.length_append, List.length_cons]
    omega

theorem escT_take_succ {s : List UInt8} {i : Nat} (h : i < s.length) : escT (s.take (i + 1)) = escT (s.take i) ++ escB s[i] := by
  rw [List.take_succ_eq_append_getElem h, escT_append, escT_cons, escT_nil, List.append_nil]

theorem escT_take_le (s : List UInt8) (i : Nat) : (escT (s.take i)).length ≤ (escT s).length := by
  have := congrArg List.length (congrArg escT (List.take_append_drop i s))
  rw [escT_append, List.length_append] at this
  omega

end Go.X

namespace Go.Proofs
open Go Go.X
set_option maxRecDepth 100000

/-- The strings that are handed to NewReplacer. -/
def strs8 : List C := [.s [38], .s eAmp, .s [60], .s eLt, .s [62], .s eGt, .s [34], .s eQuot]

theorem newReplacer_ok (a : Option Addr) (c : Nat) : FnS Tryz.prog 37 [.c (.sl a 8 c)] [] [slFact 9 1 a 8 strs8]
    (fun v L D => ∃ ab a' c', v = .c (.p 0 ab 0) ∧ L = [rb ab 0 0 (.raw .nilIface) (.sl a' 8 c'), .row 9 1 a' 8 c' strs8] ∧ D = []) := by
  refine fn_of_J Tryz.tyOK 0 Tryz.func37 (by kernel_rfl) (c := Tryz.f37.body.getD .skip) (by kernel_rfl) Tryz.ntmps37 (rs := Tryz.f37.results.toList) rfl (by simp) (fun G => ?_)
  repeat' first
    | refine CondP.no (by decide) ?_
    | refine J_seq ?_ | refine J_region Tryz.tyOK ?_ | refine J_block ?_ | refine J_cond ?_ | refine J_ret ?_ | refine J_skip ?_ | refine J_exit ?_ | refine J_scope ?_
    | refine CondP.yes (by omega) ?_ | refine CondP.no (by omega) ?_ | refine CondP.mk (fun h => ?_) (fun h => ?_) | refine EqP.mk rfl ?_ | refine NewP.mk (fun ad => ?_) | refine ArP.exact (by simp only [inR]; omega) ?_ | refine SideP.mk (by first | omega | (dsimp only; omega) | (simp; omega)) ?_
    | refine SideP.mk (by decide) ?_ | refine AppE.nil strs8 8 rfl rfl rfl (SrcE.sl 9 9 _ _ _ _ strs8 rfl rfl (.inr fun _ h => h.1) rfl) (by decide) (fun a' c' => ?_) | refine FinE.mk [rb ad 0 0 (.raw .nilIface) (.sl a' 8 c'), .row 9 1 a' 8 c' strs8] [] ⟨ad, a', c', rfl, rfl, rfl⟩ (Ents.facts fun _ _ => trivial)
    | fail

/-- Where the replacer's parts lie. -/
structure RT where
  g : Nat
  g38 : Nat
  c38 : Nat
  g60 : Nat
  c60 : Nat
  g62 : Nat
  c62 : Nat
  g34 : Nat
  c34 : Nat
  a : Option Addr
  c : Nat

/-- The replacement of each byte. -/
def RT.at (t : RT) (i : Nat) : C :=
  if i = 38 then .sl (some ⟨t.g38, 0, none⟩) 5 t.c38 else if i = 60 then .sl (some ⟨t.g60, 0, none⟩) 4 t.c60 else if i = 62 then .sl (some ⟨t.g62, 0, none⟩) 4 t.c62
  else if i = 34 then .sl (some ⟨t.g34, 0, none⟩) 6 t.c34 else .sl none 0 0
def RT.tab (t : RT) : List C := (List.range 256).map t.at ++ [.sl t.a 4 t.c]
/-- The bytes that are replaced. -/
def keys4 : List C := [.s [34], .s [62], .s [60], .s [38]]

/-- What is known of the replacer's memory. -/
def RT.facts (t : RT) : List Fact := [slFact 9 1 t.a 4 keys4, slFact 0 257 (some ⟨t.g, 0, none⟩) 1 t.tab, slFact 0 1 (some ⟨t.g, 0, none⟩) 257 t.tab,
  slFact 5 1 (some ⟨t.g34, 0, none⟩) 6 (eQuot.map byteC), slFact 5 1 (some ⟨t.g62, 0, none⟩) 4 (eGt.map byteC), slFact 5 1 (some ⟨t.g60, 0, none⟩) 4 (eLt.map byteC), slFact 5 1 (some ⟨t.g38, 0, none⟩) 5 (eAmp.map byteC)]

set_option maxHeartbeats 4000000 in
theorem build_ok (ab : Nat) (a0 : Option Addr) (c0 : Nat) : FnS Tryz.prog 115 [.c (.p 0 ab 0)] [rb ab 0 1 (.raw .nilIface) (.sl a0 8 c0)] [slFact 9 1 a0 8 strs8]
    (fun v L D => ∃ t : RT, v = .c (.raw (.iface 200 (.pointer (some ⟨t.g, 0, none⟩)))) ∧ L = [rb ab 0 1 (.raw .nilIface) (.sl a0 8 c0)] ∧ D = t.facts) := by
  have hrd : ∀ (L : List Chunk) (D : List Fact), Reads L (slFact 9 1 a0 8 strs8 :: D) 9 1 a0 8 strs8 := fun _ _ => .inr fun _ h => h.1
  refine fn_of_J Tryz.tyOK 0 Tryz.func115 (by kernel_rfl) (c := Tryz.f115.body.getD .skip) (by kernel_rfl) Tryz.ntmps115 (rs := Tryz.f115.results.toList) rfl (by simp) (fun G => ?_)
  repeat' first
    | refine CondP.yes (by decide) ?_ | refine CondP.no (by decide) ?_
    | refine J_seq ?_ | refine J_region Tryz.tyOK ?_ | refine J_block ?_ | refine J_cond ?_ | refine J_ret ?_ | refine J_skip ?_ | refine J_exit ?_ | refine J_scope ?_
    | refine CondP.yes (by omega) ?_ | refine CondP.no (by omega) ?_ | refine CondP.mk (fun h => ?_) (fun h => ?_) | refine EqP.mk rfl ?_ | refine NewP.mk (fun ad => ?_) | refine ArP.exact (by simp only [inR]; omega) ?_ | refine SideP.mk (by first | omega | (dsimp only; omega) | (simp; omega)) ?_
    | refine J_rounds 5 ?_ | refine JR_succ ?_ | refine IdxE.mk 9 1 strs8 (hrd _ _) (by decide) (by decide) ?_ | refine LoadE.mk 9 8 strs8 _ (hrd _ _) (by decide) (by decide) (by decide) rfl ?_ | refine ArP.exact (by simp only [inR]; decide) ?_ | refine SideP.mk (by decide) ?_ | refine NewB.mk (fun ad c => ?_) | refine BytesE.mk 5 [_] (.inl ⟨1, List.Mem.head _⟩) ?_ | refine AppE.row [_, _, _] _ _ _ 1 rfl (SrcE.sl 9 9 _ _ _ _ _ rfl rfl (.inl ⟨1, List.Mem.head _⟩) rfl) (by decide) (fun a' c' => ?_) | refine AppE.row [_, _, _, _, _, _] _ _ _ 1 rfl (SrcE.sl 9 9 _ _ _ _ _ rfl rfl (.inl ⟨1, List.Mem.head _⟩) rfl) (by decide) (fun a' c' => ?_) | refine AppE.row [_, _, _, _, _, _, _, _, _] _ _ _ 1 rfl (SrcE.sl 9 9 _ _ _ _ _ rfl rfl (.inl ⟨1, List.Mem.head _⟩) rfl) (by decide) (fun a' c' => ?_) | refine AppE.row [_, _, _, _, _, _, _, _, _, _, _, _] _ _ _ 1 rfl (SrcE.sl 9 9 _ _ _ _ _ rfl rfl (.inl ⟨1, List.Mem.head _⟩) rfl) (by decide) (fun a' c' => ?_)
    | fail
  rename_i ad12 ad11 ad10 ad9 a2 c2 g34 c34 ad7 ad6 a1 c1 g62 c62 ad4 ad3 a3 c3 g60 c60 ad1 ad0
  refine FinE.mk [rb ab 0 1 (.raw .nilIface) (.sl a0 8 c0)] (RT.facts ⟨ad11, ad, c, g60, c60, g62, c62, g34, c34, a', c'⟩) ⟨⟨ad11, ad, c, g60, c60, g62, c62, g34, c34, a', c'⟩, rfl, rfl, rfl⟩ ?_
  refine Ents.toFact.trans (Ents.drop.trans (Ents.drop.trans ?_))
  refine Ents.toFact.trans (Ents.drop.trans (Ents.drop.trans ?_))
  refine Ents.toFact.trans (Ents.drop.trans (Ents.drop.trans ?_))
  refine Ents.toFact.trans (Ents.drop.trans (Ents.drop.trans ?_))
  refine (Ents.boxFact 0 1 257 rfl).trans (Ents.toFact.trans (Ents.facts fun m h => ?_))
  have hb : SlF m 0 1 (some ⟨ad11, 0, none⟩) 257 (RT.tab ⟨ad11, ad, c, g60, c60, g62, c62, g34, c34, a', c'⟩) := h.2.1
  exact ⟨h.1, slF_re (e' := 0) hb (by decide) (by decide), hb, h.2.2.1, h.2.2.2.1, h.2.2.2.2.1, h.2.2.2.2.2.1, trivial⟩

theorem RT.tab_len (t : RT) : t.tab.length = 257 := by simp [RT.tab]
theorem RT.tab_at (t : RT) {i : Nat} (h : i < 256) : (t.tab.drop (i * 1 + 0)).take 1 = [t.at i] := by
  have hl : i * 1 + 0 < t.tab.length := by rw [RT.tab_len]; omega
  rw [List.drop_eq_getElem_cons hl, List.take_succ_cons, List.take_zero]
  congr 1
  simp only [RT.tab, Nat.mul_one, Nat.add_zero]
  rw [List.getElem_append_left (by simpa using h)]
  simp
theorem RT.tab_last (t : RT) : (t.tab.drop (0 * 257 + (0 + 256))).take 1 = [.sl t.a 4 t.c] := by
  have h : ((List.range 256).map t.at).length = 0 * 257 + (0 + 256) := by simp
  unfold RT.tab
  rw [List.drop_left' h]
  rfl

theorem RT.tab34 (t : RT) : (t.tab.drop (34 * 1 + 0)).take 1 = [.sl (some ⟨t.g34, 0, none⟩) 6 t.c34] := t.tab_at (by decide)
theorem RT.tab62 (t : RT) : (t.tab.drop (62 * 1 + 0)).take 1 = [.sl (some ⟨t.g62, 0, none⟩) 4 t.c62] := t.tab_at (by decide)
theorem RT.tab60 (t : RT) : (t.tab.drop (60 * 1 + 0)).take 1 = [.sl (some ⟨t.g60, 0, none⟩) 4 t.c60] := t.tab_at (by decide)
theorem RT.tab38 (t : RT) : (t.tab.drop (38 * 1 + 0)).take 1 = [.sl (some ⟨t.g38, 0, none⟩) 5 t.c38] := t.tab_at (by decide)

/-- What stands in the table for a byte. -/
theorem RT.tab_byte (t : RT) (b : UInt8) : ∃ a n c, (t.tab.drop (b.toNat * 1 + 0)).take 1 = [.sl a n c] ∧ ((a = none ∧ spB b = false) ∨ (a ≠ none ∧ spB b = true ∧ n = (escB b).length ∧ ∀ m, allD m t.facts → SlF m 5 1 a n ((escB b).map byteC))) := by
  by_cases h1 : b = 38
  · subst h1; exact ⟨_, _, _, t.tab38, .inr ⟨by simp, rfl, rfl, fun m h => h.2.2.2.2.2.2.1⟩⟩
  by_cases h2 : b = 60
  · subst h2; exact ⟨_, _, _, t.tab60, .inr ⟨by simp, rfl, rfl, fun m h => h.2.2.2.2.2.1⟩⟩
  by_cases h3 : b = 62
  · subst h3; exact ⟨_, _, _, t.tab62, .inr ⟨by simp, rfl, rfl, fun m h => h.2.2.2.2.1⟩⟩
  by_cases h4 : b = 34
  · subst h4; exact ⟨_, _, _, t.tab34, .inr ⟨by simp, rfl, rfl, fun m h => h.2.2.2.1⟩⟩
  · refine ⟨none, 0, 0, ?_, .inl ⟨rfl, by simp [spB, h1, h2, h3, h4]⟩⟩
    have hb : b.toNat < 256 := b.toNat_lt
    rw [t.tab_at hb]
    have n1 : b.toNat ≠ 38 := fun h => h1 (UInt8.toNat_inj.1 h)
    have n2 : b.toNat ≠ 60 := fun h => h2 (UInt8.toNat_inj.1 h)
    have n3 : b.toNat ≠ 62 := fun h => h3 (UInt8.toNat_inj.1 h)
    have n4 : b.toNat ≠ 34 := fun h => h4 (UInt8.toNat_inj.1 h)
    simp [RT.at, n1, n2, n3, n4]

attribute [irreducible] RT.tab RT.at

end Go.Proofs

namespace Go.Proofs
open Go Go.X
set_option maxRecDepth 100000

/-- The algorithm that stands for the parts t. -/
def RT.val (t : RT) : C := .raw (.iface 200 (.pointer (some ⟨t.g, 0, none⟩)))

def BuiltQ : C → C → List Chunk → List Fact → Prop := fun r z R D => R = [] ∧ z = .sl none 0 0 ∧ ∃ t : RT, r = t.val ∧ ∃ D', D = t.facts ++ D'

theorem buildOnce_ok (ab : Nat) (a0 : Option Addr) (c0 : Nat) : FnS Tryz.prog 78 [.c (.p 0 ab 0)] [rb ab 0 1 (.raw .nilIface) (.sl a0 8 c0)] [slFact 9 1 a0 8 strs8] (BuiltP ab 0 1 BuiltQ) := by
  have c1 := build_ok ab a0 c0
  refine fn_of_J Tryz.tyOK 7000 Tryz.func78 (by kernel_rfl) (c := Tryz.f78.body.getD .skip) (by kernel_rfl) Tryz.ntmps78 (rs := Tryz.f78.results.toList) rfl (by simp) (fun G => ?_)
  repeat' first
    | refine J_seq ?_ | refine J_region Tryz.tyOK ?_ | refine J_block ?_ | refine J_cond ?_ | refine J_ret ?_ | refine J_skip ?_ | refine J_exit ?_ | refine J_scope ?_
    | refine CondP.yes (by omega) ?_ | refine CondP.no (by omega) ?_ | refine CondP.mk (fun h => ?_) (fun h => ?_) | refine EqP.mk rfl ?_ | refine NewP.mk (fun ad => ?_) | refine ArP.exact (by simp only [inR]; omega) ?_ | refine SideP.mk (by first | omega | (dsimp only; omega) | (simp; omega)) ?_
    | refine CallP.mk [_] [] _ _ c1 (List.Perm.refl _) (fun _ h => h) (fun v L' D' hp => ?_); obtain ⟨t, rfl, rfl, rfl⟩ := hp | refine FinE.mk [rb ab 0 1 t.val (.sl none 0 0)] _ ⟨_, _, [], rfl, rfl, rfl, rfl, t, rfl, _, rfl⟩ (Ents.refl _ _)
    | fail

theorem onceDone_ok (ab : Nat) (a0 : Option Addr) (c0 : Nat) : FnS Tryz.prog 77 [.c (.p 0 ab 0), onceF ab] [rb ab 0 0 (.raw .nilIface) (.sl a0 8 c0)] [slFact 9 1 a0 8 strs8] (BuiltP ab 1 0 BuiltQ) :=
  onceDo_ok ab _ _ [] _ BuiltQ (buildOnce_ok ab a0 c0) fun r z R D1 ⟨h1, h2, t, h3, D', h4⟩ => ⟨h1, h2, t, h3, D' ++ [slFact 9 1 a0 8 strs8], by subst h4; exact List.append_assoc _ _ _⟩

end Go.Proofs

namespace Go.Proofs
open Go Go.X
set_option maxRecDepth 100000

theorem count_ok (s : List UInt8) (c : UInt8) : FnS Tryz.prog 25 [.c (.s s), .c (.s [c])] [] [] (Is (.c (.i .i64 (s.count c)))) :=
  fn_pure ⟨_, Tryz.func25, by kernel_rfl, by kernel_rfl⟩ (Tryz.strings_Count_one ⟨⟨s⟩⟩ c)

/-- The counts of the first k keys, in what the new string is longer. -/
def szA (s : List UInt8) : Nat → Nat
  | 0 => s.length
  | 1 => s.length + s.count 34 * 5
  | 2 => s.length + s.count 34 * 5 + s.count 62 * 3
  | 3 => s.length + s.count 34 * 5 + s.count 62 * 3 + s.count 60 * 3
  | _ => (escT s).length

/-- Nothing was found among the first k keys. -/
def noA (s : List UInt8) (k : Nat) : Prop := (0 < k → s.count 34 = 0) ∧ (1 < k → s.count 62 = 0) ∧ (2 < k → s.count 60 = 0) ∧ (3 < k → s.count 38 = 0)

theorem nzR {L : List Chunk} {D : List Fact} {x : Int} (_ : ¬ x = 0) : Ents L D L D := Ents.refl _ _
theorem zrR {L : List Chunk} {D : List Fact} {x : Int} (_ : x = 0) : Ents L D L D := Ents.refl _ _

/-- Bytes are laid behind those that are there. -/
theorem setC_ext (P xs : List C) (m j : Nat) (z : C) (hj : j = P.length) (h : xs.length ≤ m) : setC j xs (P ++ repC m [z]) = (P ++ xs) ++ repC (m - xs.length) [z] := by
  subst hj
  have h2 : ∀ (k m : Nat), k ≤ m → (repC m [z]).drop k = repC (m - k) [z] := by
    intro k
    induction k with
    | zero => intro m _; rfl
    | succ k ih =>
      intro m hm
      obtain ⟨m', rfl⟩ : ∃ m', m = m' + 1 := ⟨m - 1, by omega⟩
      rw [Nat.add_sub_add_right]
      exact ih m' (by omega)
  unfold setC
  rw [List.take_left, List.drop_append, List.drop_of_length_le (by omega), List.nil_append, Nat.add_sub_cancel_left, h2 _ _ h]

theorem escRow (s : List UInt8) (i N : Nat) (x : List UInt8) (hts : escT (s.take (i + 1)) = escT (s.take i) ++ x) (hle : (escT (s.take i)).length + x.length ≤ N) (j : Nat) (hj : j = (escT (s.take i)).length) :
    setC j (x.map byteC) ((escT (s.take i)).map byteC ++ repC (N - (escT (s.take i)).length) [.i .u8 0]) = (escT (s.take (i + 1))).map byteC ++ repC (N - (escT (s.take (i + 1))).length) [.i .u8 0] := by
  rw [setC_ext _ _ _ _ _ (by simpa using hj) (by simp; omega), hts, List.map_append, List.length_append, List.length_map]
  congr 2
  omega

def repR (t : RT) : V := .c (.e (some ⟨t.g, 0, none⟩) 257 0 0)

set_option maxHeartbeats 1000000 in
theorem repReplace_ok (t : RT) (s : List UInt8) (hs : s.length ≤ 1000000000) : FnS Tryz.prog 235 [repR t, .c (.s s)] [] t.facts (Is (.c (.s (escT s)))) := by
  have hcnt : ∀ b, s.count b ≤ s.length := fun b => List.count_le_length
  have hlen := escT_len s
  have hle := escT_le s
  have hkr : ∀ L, Reads L t.facts 9 1 t.a 4 keys4 := fun _ => .inr fun _ h => h.1
  have hbig : ∀ L, Reads L t.facts 0 257 (some ⟨t.g, 0, none⟩) 1 t.tab := fun _ => .inr fun _ h => h.2.1
  have htab : ∀ L, Reads L t.facts 0 1 (some ⟨t.g, 0, none⟩) 257 t.tab := fun _ => .inr fun _ h => h.2.2.1
  unfold repR
  refine fn_of_J Tryz.tyOK 7000 Tryz.func235 (by kernel_rfl) (c := Tryz.f235.body.getD .skip) (by kernel_rfl) Tryz.ntmps235 (rs := Tryz.f235.results.toList) rfl (by simp) (fun G => ?_)
  repeat' first
    | refine J_cut (x := .seq (.region 3 _ _) _) (α := Bool) (fun b => [(0, repR t), (1, .c (.s s)), (5, .c (.i .i64 (escT s).length)), (6, .c (.b b))]) (fun _ => []) (fun _ => t.facts) 7000 (fun b => b = false → escT s = s) ?_ (fun b hb => ?_)
    | refine J_seq ?_ | refine J_region Tryz.tyOK ?_ | refine J_block ?_ | refine J_cond ?_ | refine J_ret ?_ | refine J_skip ?_ | refine J_exit ?_ | refine J_scope ?_
    | refine CondP.yes (by omega) ?_ | refine CondP.no (by omega) ?_ | refine CondP.mk (fun h => ?_) (fun h => ?_) | refine EqP.mk rfl ?_ | refine NewP.mk (fun ad => ?_) | refine ArP.exact (by simp only [inR]; omega) ?_ | refine SideP.mk (by first | omega | (dsimp only; omega) | (simp; omega)) ?_
    | refine FldE.mk 0 257 1 _ (hbig _) (by decide) ?_ | refine LoadE.mk 0 1 _ _ (hbig _) (by decide) (by decide) (by decide) (by exact RT.tab_last t) ?_
    | fail
  · have c34 := hcnt 34
    have c62 := hcnt 62
    have c60 := hcnt 60
    have c38 := hcnt 38
    refine J_loop (α := Nat × Bool × Nat) (fun x => [(0, repR t), (1, .c (.s s)), (5, .c (.i .i64 x.2.2)), (6, .c (.b x.2.1)), (30, .c (.sl t.a 4 t.c)), (31, lenV 4), (32, .c (.i .i64 x.1))]) (fun _ => []) (fun _ => t.facts) 7000
      (fun x => x.1 ≤ 4 ∧ x.2.2 = szA s x.1 ∧ (x.2.1 = false → noA s x.1)) (fun x => 4 - x.1) (InFam.mk (0, false, s.length) ⟨Nat.zero_le _, rfl, fun _ => ⟨fun h => absurd h (Nat.not_lt_zero _), fun h => absurd h (Nat.not_lt_zero _), fun h => absurd h (Nat.not_lt_zero _), fun h => absurd h (Nat.not_lt_zero _)⟩⟩ (by repeat' first | exact SubE.nil | refine SubE.cons rfl ?_ ?_ | exact VEq.refl _ | refine VEq.int (by omega) | refine VEq.sl rfl (by omega) rfl) (Ents.refl _ _)) (fun x hx => ?_)
    obtain ⟨k, b, n⟩ := x
    obtain ⟨hk, hn, hb⟩ := hx
    dsimp only at hk hn hb
    have hk5 : k = 0 ∨ k = 1 ∨ k = 2 ∨ k = 3 ∨ k = 4 := by omega
    unfold repR
    rcases hk5 with rfl | rfl | rfl | rfl | rfl <;> simp only [szA] at hn <;> subst hn <;> dsimp only
    · repeat' first
        | refine J_seq ?_ | refine J_region Tryz.tyOK ?_ | refine J_block ?_ | refine J_cond ?_ | refine J_ret ?_ | refine J_skip ?_ | refine J_exit ?_ | refine J_scope ?_
        | refine CondP.yes (by omega) ?_ | refine CondP.no (by omega) ?_ | refine CondP.mk (fun h => ?_) (fun h => ?_) | refine EqP.mk rfl ?_ | refine NewP.mk (fun ad => ?_) | refine ArP.exact (by simp only [inR]; omega) ?_ | refine SideP.mk (by first | omega | (dsimp only; omega) | (simp; omega)) ?_
        | refine J_drawU (id := 9) Tryz.tyOK (by kernel_rfl) [0, 0, 0, 0, 8, 4, 36, 124, 252, 508, 1020, 2046, 4095, 8191] (.leaf [0, 1, 2, 3, 4, 5, 6, 7, 8, 9, 10, 11, 12, 13]) [] [48] 14 true (by kernel_rfl) ?_ | refine TwoP.mk ?_ ?_ | refine GoP.mk (by repeat (first | exact List.Sublist.slnil | refine List.Sublist.cons_cons _ ?_ | refine List.Sublist.cons _ ?_)) (by first | exact fun _ h => h | exact fun _ h => h.2 | exact fun _ h => ((allD_append _ _).1 h).2) ?_ | exact trivial | refine J_drawU (id := 28) Tryz.tyOK (by kernel_rfl) [0, 0, 0, 6, 0, 0, 16, 80, 240, 496, 1022, 2047, 4095] (.fork [0, 1, 2, 3, 4, 5, 6, 7, 8, 9] (.alt 10 (.leaf [11, 12]) (.stop))) [10] [110] 13 false (by kernel_rfl) ?_ | refine TwoP.mk ?_ ?_ | refine GoP.mk (by repeat (first | exact List.Sublist.slnil | refine List.Sublist.cons_cons _ ?_ | refine List.Sublist.cons _ ?_)) (by first | exact fun _ h => h | exact fun _ h => h.2 | exact fun _ h => ((allD_append _ _).1 h).2) ?_ | exact trivial | refine EntP.mk (Ents.ofSub (by repeat (first | exact List.Sublist.slnil | refine List.Sublist.cons_cons _ ?_ | refine List.Sublist.cons _ ?_)) (by first | exact fun _ h => h | exact fun _ _ => trivial | exact fun _ h => h.2 | exact fun _ h => h.2.2.2.2 | exact fun _ h => h.2.2 | exact fun _ h => h.2.2.2 | exact fun _ h => h.2.2.2.2.2 | exact fun _ h => h.2.2.2.2.2.2 | exact fun _ h => h.2.2.2.2.2.2.2 | exact fun _ h => h.2.2.2.2.2.2.2.2 | exact fun _ h => h.2.2.2.2.2.2.2.2.2 | exact fun _ h => h.2.2.2.2.2.2.2.2.2.2 | exact fun _ h => ((allD_append _ _).1 h).2)) ?_ | refine IdxE.mk 9 1 keys4 (hkr _) (by decide) (by decide) ?_ | refine LoadE.mk 9 4 keys4 [.s [34]] (hkr _) (by decide) (by decide) (by decide) rfl ?_ | refine CallP.is (count_ok s 34) ?_ | refine FldE.mk 0 257 1 _ (hbig _) (by decide) ?_ | refine SideP.mk (by decide) ?_ | refine LoadE.mk 0 257 _ _ (htab _) (by decide) (by decide) (by decide) (by exact t.tab34) ?_ | refine Round.mk (0 + 1, true, szA s (0 + 1)) (by dsimp only; decide) ⟨by dsimp only; decide, rfl, fun h => by cases h⟩ (by repeat' first | exact SubE.nil | refine SubE.cons rfl ?_ ?_ | exact VEq.refl _ | refine VEq.int (by simp only [szA]; omega)) (nzR h) | refine Round.mk (0 + 1, b, szA s (0 + 1)) (by dsimp only; decide) ⟨by dsimp only; decide, rfl, fun hz => ?_⟩ (by repeat' first | exact SubE.nil | refine SubE.cons rfl ?_ ?_ | exact VEq.refl _ | refine VEq.int (by simp only [szA]; omega)) (zrR h)
        | fail
      have hz2 := hb hz
      simp only [noA] at hz2 ⊢
      omega
    · repeat' first
        | refine J_seq ?_ | refine J_region Tryz.tyOK ?_ | refine J_block ?_ | refine J_cond ?_ | refine J_ret ?_ | refine J_skip ?_ | refine J_exit ?_ | refine J_scope ?_
        | refine CondP.yes (by omega) ?_ | refine CondP.no (by omega) ?_ | refine CondP.mk (fun h => ?_) (fun h => ?_) | refine EqP.mk rfl ?_ | refine NewP.mk (fun ad => ?_) | refine ArP.exact (by simp only [inR]; omega) ?_ | refine SideP.mk (by first | omega | (dsimp only; omega) | (simp; omega)) ?_
        | refine J_drawU (id := 9) Tryz.tyOK (by kernel_rfl) [0, 0, 0, 0, 8, 4, 36, 124, 252, 508, 1020, 2046, 4095, 8191] (.leaf [0, 1, 2, 3, 4, 5, 6, 7, 8, 9, 10, 11, 12, 13]) [] [48] 14 true (by kernel_rfl) ?_ | refine TwoP.mk ?_ ?_ | refine GoP.mk (by repeat (first | exact List.Sublist.slnil | refine List.Sublist.cons_cons _ ?_ | refine List.Sublist.cons _ ?_)) (by first | exact fun _ h => h | exact fun _ h => h.2 | exact fun _ h => ((allD_append _ _).1 h).2) ?_ | exact trivial | refine J_drawU (id := 28) Tryz.tyOK (by kernel_rfl) [0, 0, 0, 6, 0, 0, 16, 80, 240, 496, 1022, 2047, 4095] (.fork [0, 1, 2, 3, 4, 5, 6, 7, 8, 9] (.alt 10 (.leaf [11, 12]) (.stop))) [10] [110] 13 false (by kernel_rfl) ?_ | refine TwoP.mk ?_ ?_ | refine GoP.mk (by repeat (first | exact List.Sublist.slnil | refine List.Sublist.cons_cons _ ?_ | refine List.Sublist.cons _ ?_)) (by first | exact fun _ h => h | exact fun _ h => h.2 | exact fun _ h => ((allD_append _ _).1 h).2) ?_ | exact trivial | refine EntP.mk (Ents.ofSub (by repeat (first | exact List.Sublist.slnil | refine List.Sublist.cons_cons _ ?_ | refine List.Sublist.cons _ ?_)) (by first | exact fun _ h => h | exact fun _ _ => trivial | exact fun _ h => h.2 | exact fun _ h => h.2.2.2.2 | exact fun _ h => h.2.2 | exact fun _ h => h.2.2.2 | exact fun _ h => h.2.2.2.2.2 | exact fun _ h => h.2.2.2.2.2.2 | exact fun _ h => h.2.2.2.2.2.2.2 | exact fun _ h => h.2.2.2.2.2.2.2.2 | exact fun _ h => h.2.2.2.2.2.2.2.2.2 | exact fun _ h => h.2.2.2.2.2.2.2.2.2.2 | exact fun _ h => ((allD_append _ _).1 h).2)) ?_ | refine IdxE.mk 9 1 keys4 (hkr _) (by decide) (by decide) ?_ | refine LoadE.mk 9 4 keys4 [.s [62]] (hkr _) (by decide) (by decide) (by decide) rfl ?_ | refine CallP.is (count_ok s 62) ?_ | refine FldE.mk 0 257 1 _ (hbig _) (by decide) ?_ | refine SideP.mk (by decide) ?_ | refine LoadE.mk 0 257 _ _ (htab _) (by decide) (by decide) (by decide) (by exact t.tab62) ?_ | refine Round.mk (1 + 1, true, szA s (1 + 1)) (by dsimp only; decide) ⟨by dsimp only; decide, rfl, fun h => by cases h⟩ (by repeat' first | exact SubE.nil | refine SubE.cons rfl ?_ ?_ | exact VEq.refl _ | refine VEq.int (by simp only [szA]; omega)) (nzR h) | refine Round.mk (1 + 1, b, szA s (1 + 1)) (by dsimp only; decide) ⟨by dsimp only; decide, rfl, fun hz => ?_⟩ (by repeat' first | exact SubE.nil | refine SubE.cons rfl ?_ ?_ | exact VEq.refl _ | refine VEq.int (by simp only [szA]; omega)) (zrR h)
        | fail
      have hz2 := hb hz
      simp only [noA] at hz2 ⊢
      omega
    · repeat' first
        | refine J_seq ?_ | refine J_region Tryz.tyOK ?_ | refine J_block ?_ | refine J_cond ?_ | refine J_ret ?_ | refine J_skip ?_ | refine J_exit ?_ | refine J_scope ?_
        | refine CondP.yes (by omega) ?_ | refine CondP.no (by omega) ?_ | refine CondP.mk (fun h => ?_) (fun h => ?_) | refine EqP.mk rfl ?_ | refine NewP.mk (fun ad => ?_) | refine ArP.exact (by simp only [inR]; omega) ?_ | refine SideP.mk (by first | omega | (dsimp only; omega) | (simp; omega)) ?_
        | refine J_drawU (id := 9) Tryz.tyOK (by kernel_rfl) [0, 0, 0, 0, 8, 4, 36, 124, 252, 508, 1020, 2046, 4095, 8191] (.leaf [0, 1, 2, 3, 4, 5, 6, 7, 8, 9, 10, 11, 12, 13]) [] [48] 14 true (by kernel_rfl) ?_ | refine TwoP.mk ?_ ?_ | refine GoP.mk (by repeat (first | exact List.Sublist.slnil | refine List.Sublist.cons_cons _ ?_ | refine List.Sublist.cons _ ?_)) (by first | exact fun _ h => h | exact fun _ h => h.2 | exact fun _ h => ((allD_append _ _).1 h).2) ?_ | exact trivial | refine J_drawU (id := 28) Tryz.tyOK (by kernel_rfl) [0, 0, 0, 6, 0, 0, 16, 80, 240, 496, 1022, 2047, 4095] (.fork [0, 1, 2, 3, 4, 5, 6, 7, 8, 9] (.alt 10 (.leaf [11, 12]) (.stop))) [10] [110] 13 false (by kernel_rfl) ?_ | refine TwoP.mk ?_ ?_ | refine GoP.mk (by repeat (first | exact List.Sublist.slnil | refine List.Sublist.cons_cons _ ?_ | refine List.Sublist.cons _ ?_)) (by first | exact fun _ h => h | exact fun _ h => h.2 | exact fun _ h => ((allD_append _ _).1 h).2) ?_ | exact trivial | refine EntP.mk (Ents.ofSub (by repeat (first | exact List.Sublist.slnil | refine List.Sublist.cons_cons _ ?_ | refine List.Sublist.cons _ ?_)) (by first | exact fun _ h => h | exact fun _ _ => trivial | exact fun _ h => h.2 | exact fun _ h => h.2.2.2.2 | exact fun _ h => h.2.2 | exact fun _ h => h.2.2.2 | exact fun _ h => h.2.2.2.2.2 | exact fun _ h => h.2.2.2.2.2.2 | exact fun _ h => h.2.2.2.2.2.2.2 | exact fun _ h => h.2.2.2.2.2.2.2.2 | exact fun _ h => h.2.2.2.2.2.2.2.2.2 | exact fun _ h => h.2.2.2.2.2.2.2.2.2.2 | exact fun _ h => ((allD_append _ _).1 h).2)) ?_ | refine IdxE.mk 9 1 keys4 (hkr _) (by decide) (by decide) ?_ | refine LoadE.mk 9 4 keys4 [.s [60]] (hkr _) (by decide) (by decide) (by decide) rfl ?_ | refine CallP.is (count_ok s 60) ?_ | refine FldE.mk 0 257 1 _ (hbig _) (by decide) ?_ | refine SideP.mk (by decide) ?_ | refine LoadE.mk 0 257 _ _ (htab _) (by decide) (by decide) (by decide) (by exact t.tab60) ?_ | refine Round.mk (2 + 1, true, szA s (2 + 1)) (by dsimp only; decide) ⟨by dsimp only; decide, rfl, fun h => by cases h⟩ (by repeat' first | exact SubE.nil | refine SubE.cons rfl ?_ ?_ | exact VEq.refl _ | refine VEq.int (by simp only [szA]; omega)) (nzR h) | refine Round.mk (2 + 1, b, szA s (2 + 1)) (by dsimp only; decide) ⟨by dsimp only; decide, rfl, fun hz => ?_⟩ (by repeat' first | exact SubE.nil | refine SubE.cons rfl ?_ ?_ | exact VEq.refl _ | refine VEq.int (by simp only [szA]; omega)) (zrR h)
        | fail
      have hz2 := hb hz
      simp only [noA] at hz2 ⊢
      omega
    · repeat' first
        | refine J_seq ?_ | refine J_region Tryz.tyOK ?_ | refine J_block ?_ | refine J_cond ?_ | refine J_ret ?_ | refine J_skip ?_ | refine J_exit ?_ | refine J_scope ?_
        | refine CondP.yes (by omega) ?_ | refine CondP.no (by omega) ?_ | refine CondP.mk (fun h => ?_) (fun h => ?_) | refine EqP.mk rfl ?_ | refine NewP.mk (fun ad => ?_) | refine ArP.exact (by simp only [inR]; omega) ?_ | refine SideP.mk (by first | omega | (dsimp only; omega) | (simp; omega)) ?_
        | refine J_drawU (id := 9) Tryz.tyOK (by kernel_rfl) [0, 0, 0, 0, 8, 4, 36, 124, 252, 508, 1020, 2046, 4095, 8191] (.leaf [0, 1, 2, 3, 4, 5, 6, 7, 8, 9, 10, 11, 12, 13]) [] [48] 14 true (by kernel_rfl) ?_ | refine TwoP.mk ?_ ?_ | refine GoP.mk (by repeat (first | exact List.Sublist.slnil | refine List.Sublist.cons_cons _ ?_ | refine List.Sublist.cons _ ?_)) (by first | exact fun _ h => h | exact fun _ h => h.2 | exact fun _ h => ((allD_append _ _).1 h).2) ?_ | exact trivial | refine J_drawU (id := 28) Tryz.tyOK (by kernel_rfl) [0, 0, 0, 6, 0, 0, 16, 80, 240, 496, 1022, 2047, 4095] (.fork [0, 1, 2, 3, 4, 5, 6, 7, 8, 9] (.alt 10 (.leaf [11, 12]) (.stop))) [10] [110] 13 false (by kernel_rfl) ?_ | refine TwoP.mk ?_ ?_ | refine GoP.mk (by repeat (first | exact List.Sublist.slnil | refine List.Sublist.cons_cons _ ?_ | refine List.Sublist.cons _ ?_)) (by first | exact fun _ h => h | exact fun _ h => h.2 | exact fun _ h => ((allD_append _ _).1 h).2) ?_ | exact trivial | refine EntP.mk (Ents.ofSub (by repeat (first | exact List.Sublist.slnil | refine List.Sublist.cons_cons _ ?_ | refine List.Sublist.cons _ ?_)) (by first | exact fun _ h => h | exact fun _ _ => trivial | exact fun _ h => h.2 | exact fun _ h => h.2.2.2.2 | exact fun _ h => h.2.2 | exact fun _ h => h.2.2.2 | exact fun _ h => h.2.2.2.2.2 | exact fun _ h => h.2.2.2.2.2.2 | exact fun _ h => h.2.2.2.2.2.2.2 | exact fun _ h => h.2.2.2.2.2.2.2.2 | exact fun _ h => h.2.2.2.2.2.2.2.2.2 | exact fun _ h => h.2.2.2.2.2.2.2.2.2.2 | exact fun _ h => ((allD_append _ _).1 h).2)) ?_ | refine IdxE.mk 9 1 keys4 (hkr _) (by decide) (by decide) ?_ | refine LoadE.mk 9 4 keys4 [.s [38]] (hkr _) (by decide) (by decide) (by decide) rfl ?_ | refine CallP.is (count_ok s 38) ?_ | refine FldE.mk 0 257 1 _ (hbig _) (by decide) ?_ | refine SideP.mk (by decide) ?_ | refine LoadE.mk 0 257 _ _ (htab _) (by decide) (by decide) (by decide) (by exact t.tab38) ?_ | refine Round.mk (3 + 1, true, szA s (3 + 1)) (by dsimp only; decide) ⟨by dsimp only; decide, rfl, fun h => by cases h⟩ (by repeat' first | exact SubE.nil | refine SubE.cons rfl ?_ ?_ | exact VEq.refl _ | refine VEq.int (by simp only [szA]; omega)) (nzR h) | refine Round.mk (3 + 1, b, szA s (3 + 1)) (by dsimp only; decide) ⟨by dsimp only; decide, rfl, fun hz => ?_⟩ (by repeat' first | exact SubE.nil | refine SubE.cons rfl ?_ ?_ | exact VEq.refl _ | refine VEq.int (by simp only [szA]; omega)) (zrR h)
        | fail
      have hz2 := hb hz
      simp only [noA] at hz2 ⊢
      omega
    · repeat' first
        | refine J_seq ?_ | refine J_region Tryz.tyOK ?_ | refine J_block ?_ | refine J_cond ?_ | refine J_ret ?_ | refine J_skip ?_ | refine J_exit ?_ | refine J_scope ?_
        | refine CondP.yes (by omega) ?_ | refine CondP.no (by omega) ?_ | refine CondP.mk (fun h => ?_) (fun h => ?_) | refine EqP.mk rfl ?_ | refine NewP.mk (fun ad => ?_) | refine ArP.exact (by simp only [inR]; omega) ?_ | refine SideP.mk (by first | omega | (dsimp only; omega) | (simp; omega)) ?_
        | refine InFam.mk b (fun h => ?_) (by repeat' first | exact SubE.nil | refine SubE.cons rfl ?_ ?_ | exact VEq.refl _ | refine VEq.int (by omega) | refine VEq.sl rfl (by omega) rfl) (Ents.refl _ _)
        | fail
      have hz := hb h
      exact escT_id (hz.1 (by decide)) (hz.2.1 (by decide)) (hz.2.2.1 (by decide)) (hz.2.2.2 (by decide))
  · refine J_loop (α := Nat × Bool × Nat) (fun x => [(0, repR t), (1, .c (.s s)), (5, .c (.i .i64 x.2.2)), (6, .c (.b x.2.1)), (10, .c (.i .i64 x.1))]) (fun _ => []) (fun _ => t.facts) 7000
      (fun x => x.1 ≤ s.length ∧ x.2.2 + x.1 = s.length + (escT (s.take x.1)).length ∧ (x.2.1 = false → (s.take x.1).any spB = false)) (fun x => s.length - x.1) (InFam.mk (0, false, s.length) ⟨Nat.zero_le _, rfl, fun _ => rfl⟩ (by repeat' first | exact SubE.nil | refine SubE.cons rfl ?_ ?_ | exact VEq.refl _ | refine VEq.int (by omega) | refine VEq.sl rfl (by omega) rfl) (Ents.refl _ _)) (fun x hx => ?_)
    obtain ⟨i, b, n⟩ := x
    obtain ⟨hi, hn, hb⟩ := hx
    unfold repR
    dsimp only at hi hn hb ⊢
    have htl := escT_take_le s i
    by_cases hlt : i < s.length
    · have hgd : (s.getD (Int.toNat (i : Int)) 0) = s[i] := by simp [hlt]
      obtain ⟨ta, tn, tc, hr, hcase⟩ := t.tab_byte s[i]
      have hts := escT_take_succ hlt
      have htl2 := escT_take_le s (i + 1)
      have hany : (s.take (i + 1)).any spB = ((s.take i).any spB || spB s[i]) := by rw [List.take_succ_eq_append_getElem hlt, List.any_append]; simp
      rw [hts, List.length_append] at htl2
      have hbl := escB_len s[i]
      have hb256 : (s[i]).toNat < 256 := s[i].toNat_lt
      rcases hcase with ⟨rfl, hsp⟩ | ⟨hta, hsp, htn, _⟩
      · rw [escB_plain hsp] at hts
        have hl1 := congrArg List.length hts
        simp only [List.length_append, List.length_cons, List.length_nil] at hl1
        repeat' first
          | refine CondP.yes rfl ?_
          | refine J_seq ?_ | refine J_region Tryz.tyOK ?_ | refine J_block ?_ | refine J_cond ?_ | refine J_ret ?_ | refine J_skip ?_ | refine J_exit ?_ | refine J_scope ?_
          | refine CondP.yes (by omega) ?_ | refine CondP.no (by omega) ?_ | refine CondP.mk (fun h => ?_) (fun h => ?_) | refine EqP.mk rfl ?_ | refine NewP.mk (fun ad => ?_) | refine ArP.exact (by simp only [inR]; omega) ?_ | refine SideP.mk (by first | omega | (dsimp only; omega) | (simp; omega)) ?_
          | refine FldE.mk 0 257 1 _ (hbig _) (by decide) ?_ | rw [hgd] | refine SideP.mk ⟨by omega, by omega⟩ ?_ | refine LoadE.mk 0 257 _ _ (htab _) (by omega) (by omega) (by decide) (by exact hr) ?_ | refine Round.mk (i + 1, b, n) (by dsimp only; omega) ⟨by dsimp only; omega, by dsimp only; omega, fun hz => ?_⟩ (by repeat' first | exact SubE.nil | refine SubE.cons rfl ?_ ?_ | exact VEq.refl _ | refine VEq.int (by dsimp only; omega)) (Ents.refl _ _)
          | fail
        show (s.take (i + 1)).any spB = false
        rw [hany, hb hz, hsp]; rfl
      · have hl1 := congrArg List.length hts
        simp only [List.length_append] at hl1
        subst htn
        repeat' first
          | refine CondP.no hta ?_
          | refine J_seq ?_ | refine J_region Tryz.tyOK ?_ | refine J_block ?_ | refine J_cond ?_ | refine J_ret ?_ | refine J_skip ?_ | refine J_exit ?_ | refine J_scope ?_
          | refine CondP.yes (by omega) ?_ | refine CondP.no (by omega) ?_ | refine CondP.mk (fun h => ?_) (fun h => ?_) | refine EqP.mk rfl ?_ | refine NewP.mk (fun ad => ?_) | refine ArP.exact (by simp only [inR]; omega) ?_ | refine SideP.mk (by first | omega | (dsimp only; omega) | (simp; omega)) ?_
          | refine FldE.mk 0 257 1 _ (hbig _) (by decide) ?_ | rw [hgd] | refine SideP.mk ⟨by omega, by omega⟩ ?_ | refine LoadE.mk 0 257 _ _ (htab _) (by omega) (by omega) (by decide) (by exact hr) ?_ | refine Round.mk (i + 1, true, n + ((escB s[i]).length - 1)) (by dsimp only; omega) ⟨by dsimp only; omega, by dsimp only; omega, fun hz => by cases hz⟩ (by repeat' first | exact SubE.nil | refine SubE.cons rfl ?_ ?_ | exact VEq.refl _ | refine VEq.int (by dsimp only; omega)) (Ents.refl _ _)
          | fail
    · have : i = s.length := by omega
      subst this
      rw [List.take_length] at hb hn
      repeat' first
        | refine J_seq ?_ | refine J_region Tryz.tyOK ?_ | refine J_block ?_ | refine J_cond ?_ | refine J_ret ?_ | refine J_skip ?_ | refine J_exit ?_ | refine J_scope ?_
        | refine CondP.yes (by omega) ?_ | refine CondP.no (by omega) ?_ | refine CondP.mk (fun h => ?_) (fun h => ?_) | refine EqP.mk rfl ?_ | refine NewP.mk (fun ad => ?_) | refine ArP.exact (by simp only [inR]; omega) ?_ | refine SideP.mk (by first | omega | (dsimp only; omega) | (simp; omega)) ?_
        | refine InFam.mk b (fun h => escT_plain (hb h)) (by repeat' first | exact SubE.nil | refine SubE.cons rfl ?_ ?_ | exact VEq.refl _ | refine VEq.int (by omega)) (Ents.refl _ _)
        | fail
  · cases b
    · repeat' first
        | refine J_seq ?_ | refine J_region Tryz.tyOK ?_ | refine J_block ?_ | refine J_cond ?_ | refine J_ret ?_ | refine J_skip ?_ | refine J_exit ?_ | refine J_scope ?_
        | refine CondP.yes (by omega) ?_ | refine CondP.no (by omega) ?_ | refine CondP.mk (fun h => ?_) (fun h => ?_) | refine EqP.mk rfl ?_ | refine NewP.mk (fun ad => ?_) | refine ArP.exact (by simp only [inR]; omega) ?_ | refine SideP.mk (by first | omega | (dsimp only; omega) | (simp; omega)) ?_
        | refine FinE.str ?_
        | fail
      first | exact hb rfl | exact (hb rfl).symm
    · repeat' first
        | refine J_seq ?_ | refine J_region Tryz.tyOK ?_ | refine J_block ?_ | refine J_cond ?_ | refine J_ret ?_ | refine J_skip ?_ | refine J_exit ?_ | refine J_scope ?_
        | refine CondP.yes (by omega) ?_ | refine CondP.no (by omega) ?_ | refine CondP.mk (fun h => ?_) (fun h => ?_) | refine EqP.mk rfl ?_ | refine NewP.mk (fun ad => ?_) | refine ArP.exact (by simp only [inR]; omega) ?_ | refine SideP.mk (by first | omega | (dsimp only; omega) | (simp; omega)) ?_
        | fail
      refine J_loop (α := Nat) (fun i => [(0, repR t), (1, .c (.s s)), (12, .c (.sl (some ⟨ad, 0, none⟩) (escT s).length (escT s).length)), (13, .c (.i .i64 (escT (s.take i)).length)), (14, .c (.i .i64 i))])
        (fun i => [.row 5 1 (some ⟨ad, 0, none⟩) (escT s).length (escT s).length ((escT (s.take i)).map byteC ++ repC ((escT s).length - (escT (s.take i)).length) [.i .u8 0])]) (fun _ => t.facts) 7000
        (fun i => i ≤ s.length) (fun i => s.length - i) (InFam.mk 0 (Nat.zero_le _) (by repeat' first | exact SubE.nil | refine SubE.cons rfl ?_ ?_ | exact VEq.refl _ | refine VEq.sl rfl (by simp) (by simp)) (Ents.of (by simp [escT]))) (fun i hi => ?_)
      unfold repR
      by_cases hlt : i < s.length
      · have hgd : (s.getD (Int.toNat (i : Int)) 0) = s[i] := by simp [hlt]
        obtain ⟨ta, tn, tc, hr, hcase⟩ := t.tab_byte s[i]
        have hts := escT_take_succ hlt
        have htl2 := escT_take_le s (i + 1)
        rw [hts, List.length_append] at htl2
        have hbl := escB_len s[i]
        have hb256 : (s[i]).toNat < 256 := s[i].toNat_lt
        rcases hcase with ⟨rfl, hsp⟩ | ⟨hta, hsp, htn, hfa⟩
        · rw [escB_plain hsp] at hts htl2
          have hl1 := congrArg List.length hts
          simp only [List.length_append, List.length_cons, List.length_nil] at hl1 htl2
          repeat' first
            | refine CondP.yes rfl ?_
            | refine J_seq ?_ | refine J_region Tryz.tyOK ?_ | refine J_block ?_ | refine J_cond ?_ | refine J_ret ?_ | refine J_skip ?_ | refine J_exit ?_ | refine J_scope ?_
            | refine CondP.yes (by omega) ?_ | refine CondP.no (by omega) ?_ | refine CondP.mk (fun h => ?_) (fun h => ?_) | refine EqP.mk rfl ?_ | refine NewP.mk (fun ad => ?_) | refine ArP.exact (by simp only [inR]; omega) ?_ | refine SideP.mk (by first | omega | (dsimp only; omega) | (simp; omega)) ?_
            | refine FldE.mk 0 257 1 _ (hbig _) (by decide) ?_ | rw [hgd] | refine SideP.mk ⟨by omega, by omega⟩ ?_ | refine LoadE.mk 0 257 _ _ (htab _) (by omega) (by omega) (by decide) (by exact hr) ?_ | refine IdxE.mk 5 1 _ (.inl ⟨_, List.Mem.head _⟩) (by omega) (by omega) ?_ | refine StoreE.mk [] [] 5 _ _ _ _ rfl (by omega) (by omega) (Nat.le_refl 1) (by exact escRow s i _ [s[i]] hts (by simp only [List.length_cons, List.length_nil]; omega) _ (by simp)) ?_ | refine Round.mk (i + 1) (by omega) (by omega) (by repeat' first | exact SubE.nil | refine SubE.cons rfl ?_ ?_ | exact VEq.refl _ | refine VEq.int (by omega)) (Ents.refl _ _)
            | fail
        · subst htn
          have hl1 := congrArg List.length hts
          simp only [List.length_append] at hl1
          repeat' first
            | refine CondP.no hta ?_
            | refine J_seq ?_ | refine J_region Tryz.tyOK ?_ | refine J_block ?_ | refine J_cond ?_ | refine J_ret ?_ | refine J_skip ?_ | refine J_exit ?_ | refine J_scope ?_
            | refine CondP.yes (by omega) ?_ | refine CondP.no (by omega) ?_ | refine CondP.mk (fun h => ?_) (fun h => ?_) | refine EqP.mk rfl ?_ | refine NewP.mk (fun ad => ?_) | refine ArP.exact (by simp only [inR]; omega) ?_ | refine SideP.mk (by first | omega | (dsimp only; omega) | (simp; omega)) ?_
            | refine J_drawU (id := 9) Tryz.tyOK (by kernel_rfl) [0, 0, 0, 0, 8, 4, 36, 124, 252, 508, 1020, 2046, 4095, 8191] (.leaf [0, 1, 2, 3, 4, 5, 6, 7, 8, 9, 10, 11, 12, 13]) [] [48] 14 true (by kernel_rfl) ?_ | refine TwoP.mk ?_ ?_ | refine GoP.mk (by repeat (first | exact List.Sublist.slnil | refine List.Sublist.cons_cons _ ?_ | refine List.Sublist.cons _ ?_)) (by first | exact fun _ h => h | exact fun _ h => h.2 | exact fun _ h => ((allD_append _ _).1 h).2) ?_ | exact trivial | refine J_drawU (id := 28) Tryz.tyOK (by kernel_rfl) [0, 0, 0, 6, 0, 0, 16, 80, 240, 496, 1022, 2047, 4095] (.fork [0, 1, 2, 3, 4, 5, 6, 7, 8, 9] (.alt 10 (.leaf [11, 12]) (.stop))) [10] [110] 13 false (by kernel_rfl) ?_ | refine TwoP.mk ?_ ?_ | refine GoP.mk (by repeat (first | exact List.Sublist.slnil | refine List.Sublist.cons_cons _ ?_ | refine List.Sublist.cons _ ?_)) (by first | exact fun _ h => h | exact fun _ h => h.2 | exact fun _ h => ((allD_append _ _).1 h).2) ?_ | exact trivial | refine EntP.mk (Ents.ofSub (by repeat (first | exact List.Sublist.slnil | refine List.Sublist.cons_cons _ ?_ | refine List.Sublist.cons _ ?_)) (by first | exact fun _ h => h | exact fun _ _ => trivial | exact fun _ h => h.2 | exact fun _ h => h.2.2.2.2 | exact fun _ h => h.2.2 | exact fun _ h => h.2.2.2 | exact fun _ h => h.2.2.2.2.2 | exact fun _ h => h.2.2.2.2.2.2 | exact fun _ h => h.2.2.2.2.2.2.2 | exact fun _ h => h.2.2.2.2.2.2.2.2 | exact fun _ h => h.2.2.2.2.2.2.2.2.2 | exact fun _ h => h.2.2.2.2.2.2.2.2.2.2 | exact fun _ h => ((allD_append _ _).1 h).2)) ?_ | refine FldE.mk 0 257 1 _ (hbig _) (by decide) ?_ | rw [hgd] | refine SideP.mk ⟨by omega, by omega⟩ ?_ | refine LoadE.mk 0 257 _ _ (htab _) (by omega) (by omega) (by decide) (by exact hr) ?_ | refine CopyE.mk [] [] 5 _ _ (escT (s.take i)).length (escB s[i]).length (some ⟨ad, 0, none⟩) _ ((escB s[i]).map byteC) _ _ _ _ rfl rfl (by show _ = min _ _; omega) (by omega) (by first | rfl | simp) (.inr hfa) (by simp) (by omega) (.inl (by omega)) (by exact escRow s i _ _ hts (by omega) _ (by simp)) ?_ | refine Round.mk (i + 1) (by omega) (by omega) (by repeat' first | exact SubE.nil | refine SubE.cons rfl ?_ ?_ | exact VEq.refl _ | refine VEq.int (by omega)) (Ents.of (by rw [Nat.max_eq_left (by omega)]; rfl))
            | fail
          all_goals trace_state
      · have : i = s.length := by omega
        subst this
        rw [List.take_length, Nat.sub_self, show repC 0 [C.i .u8 0] = [] from rfl, List.append_nil]
        repeat' first
          | refine J_seq ?_ | refine J_region Tryz.tyOK ?_ | refine J_block ?_ | refine J_cond ?_ | refine J_ret ?_ | refine J_skip ?_ | refine J_exit ?_ | refine J_scope ?_
          | refine CondP.yes (by omega) ?_ | refine CondP.no (by omega) ?_ | refine CondP.mk (fun h => ?_) (fun h => ?_) | refine EqP.mk rfl ?_ | refine NewP.mk (fun ad => ?_) | refine ArP.exact (by simp only [inR]; omega) ?_ | refine SideP.mk (by first | omega | (dsimp only; omega) | (simp; omega)) ?_
          | refine BytesE.mk 5 (escT s) (.inl ⟨_, List.Mem.head _⟩) ?_ | refine FinE.str rfl
          | fail

end Go.Proofs

namespace Go.X
open Go
/-- A type's method, out of one closed fact. -/
theorem MethOK.of {P : Program} {t e : TypeId} {name : String} {f : FuncId} (h : ((P.info? t).bind fun i => (i.methods.find? (·.name == name)).map fun m => (m.path.toList.length, m.func)) = some (0, some (f, true))) (hu : P.underlying t = some (.pointer e)) : MethOK P t name f := by
  cases hi : P.info? t with
  | none => rw [hi] at h; cases h
  | some i =>
    rw [hi] at h
    cases hm : i.methods.find? (·.name == name) with
    | none => simp [hm] at h
    | some m =>
      simp only [Option.bind_some, hm, Option.map_some, Option.some.injEq, Prod.mk.injEq] at h
      exact MethOK.ptr hi hm (List.eq_nil_of_length_eq_zero h.1) h.2 hu
end Go.X

namespace Go.Proofs
open Go Go.X
set_option maxRecDepth 100000

theorem repMeth : MethOK Tryz.prog 200 "Replace" 235 :=
  MethOK.of (e := 199) (by kernel_rfl) (by kernel_rfl)

theorem RT.val_enc (t : RT) : (V.c t.val).enc = .iface 200 (repR t).enc := by
  simp [RT.val, repR, V.enc, C.enc, elemAddr]

theorem allD_app {m : Im} : ∀ {A B : List Fact}, allD m (A ++ B) → allD m A
  | [], _, _ => trivial
  | _ :: _, _, h => ⟨h.1, allD_app h.2⟩

theorem replacer_ok (ab : Nat) (a0 : Option Addr) (c0 : Nat) (s : List UInt8) (hs : s.length ≤ 1000000000) : FnS Tryz.prog 38 [.c (.p 0 ab 0), .c (.s s)] [rb ab 0 0 (.raw .nilIface) (.sl a0 8 c0)] [slFact 9 1 a0 8 strs8] (Is (.c (.s (escT s)))) := by
  have c1 := onceDone_ok ab a0 c0
  unfold rb
  refine fn_of_J Tryz.tyOK 7000 Tryz.func38 (by kernel_rfl) (c := Tryz.f38.body.getD .skip) (by kernel_rfl) Tryz.ntmps38 (rs := Tryz.f38.results.toList) rfl (by simp) (fun G => ?_)
  repeat' first
    | refine J_seq ?_ | refine J_region Tryz.tyOK ?_ | refine J_block ?_ | refine J_cond ?_ | refine J_ret ?_ | refine J_skip ?_ | refine J_exit ?_ | refine J_scope ?_
    | refine CondP.yes (by omega) ?_ | refine CondP.no (by omega) ?_ | refine CondP.mk (fun h => ?_) (fun h => ?_) | refine EqP.mk rfl ?_ | refine NewP.mk (fun ad => ?_) | refine ArP.exact (by simp only [inR]; omega) ?_ | refine SideP.mk (by first | omega | (dsimp only; omega) | (simp; omega)) ?_
    | refine CallP.mk [_] [] [_] _ c1 (List.Perm.refl _) (fun _ h => h) (fun v L' D' hp => ?_); obtain ⟨r, z, R, rfl, rfl, rfl, rfl, t, rfl, D1, rfl⟩ := hp | refine InvP.mk 200 (repR t) 235 t.val_enc repMeth ?_ | refine CallP.is (repReplace_ok t s hs) ?_ (fun _ h => allD_app (allD_app h)) | refine FinE.str rfl
    | fail

theorem escape_ok (s : List UInt8) (hs : s.length ≤ 1000000000) : FnS Tryz.prog 14 [.c (.s s)] [] [] (Is (.c (.s (escT s)))) := by
  refine fn_of_J Tryz.tyOK 7000 Tryz.func14 (by kernel_rfl) (c := Tryz.f14.body.getD .skip) (by kernel_rfl) Tryz.ntmps14 (rs := Tryz.f14.results.toList) rfl (by simp) (fun G => ?_)
  repeat' first
    | refine J_seq ?_ | refine J_region Tryz.tyOK ?_ | refine J_block ?_ | refine J_cond ?_ | refine J_ret ?_ | refine J_skip ?_ | refine J_exit ?_ | refine J_scope ?_
    | refine CondP.yes (by omega) ?_ | refine CondP.no (by omega) ?_ | refine CondP.mk (fun h => ?_) (fun h => ?_) | refine EqP.mk rfl ?_ | refine NewP.mk (fun ad => ?_) | refine ArP.exact (by simp only [inR]; omega) ?_ | refine SideP.mk (by first | omega | (dsimp only; omega) | (simp; omega)) ?_
    | (refine CallP.mkE [] _ [_] _ _ (newReplacer_ok _ _) Ents.toFact (fun _ h => ⟨h.1, trivial⟩) (fun v L' D' hp => ?_); obtain ⟨ab, a', c', rfl, rfl, rfl⟩ := hp) | (refine CallP.mkE [_] [] [_] _ _ (replacer_ok _ _ _ s hs) ((Ents.perm (List.Perm.swap _ _ _)).trans Ents.toFact) (fun _ h => ⟨h.1, trivial⟩) (fun v L' D' hp => ?_); obtain ⟨rfl, rfl, rfl⟩ := hp) | refine FinE.str rfl
    | fail

end Go.Proofs

namespace Go.Proofs
open Go Go.X
set_option maxRecDepth 100000

/-- An element that is a text. -/
def txC (s : List UInt8) : List C := [.i .i64 1, .s s, .i .i64 0, .s [], .s [], .sl none 0 0]
/-- A block that is a paragraph. -/
def pgC (ia : Option Addr) (ic : Nat) : List C := [.i .i64 2, .i .i64 0, .s [], .sl ia 1 ic, .sl none 0 0]
def txF (ia : Option Addr) (s : List UInt8) : Fact := slFact 102 6 ia 1 (txC s)
def pgF (ba ia : Option Addr) (ic : Nat) : Fact := slFact 81 5 ba 1 (pgC ia ic)

theorem readsNil {L : List Chunk} {D : List Fact} {e z : Nat} {a : Option Addr} : Reads L D e z a 0 [] := .inr fun _ _ => ⟨(fun x hx => by cases hx), .inl ⟨rfl, rfl⟩⟩

theorem marksOne (ia : Option Addr) (ic : Nat) (s : List UInt8) : FnS Tryz.prog 84 [.c (.sl ia 1 ic)] [] [txF ia s] (Is (.c (.sl none 0 0))) := by
  have hr : ∀ L, Reads L [txF ia s] 102 6 ia 1 (txC s) := fun _ => .inr fun _ h => h.1
  refine fn_of_J Tryz.tyOK 0 Tryz.func84 (by kernel_rfl) (c := Tryz.f84.body.getD .skip) (by kernel_rfl) Tryz.ntmps84 (rs := Tryz.f84.results.toList) rfl (by simp) (fun G => ?_)
  repeat' first
    | refine CondP.yes (by decide) ?_ | refine CondP.no (by decide) ?_
    | refine J_seq ?_ | refine J_region Tryz.tyOK ?_ | refine J_block ?_ | refine J_cond ?_ | refine J_ret ?_ | refine J_skip ?_ | refine J_exit ?_ | refine J_scope ?_
    | refine CondP.yes (by omega) ?_ | refine CondP.no (by omega) ?_ | refine CondP.mk (fun h => ?_) (fun h => ?_) | refine EqP.mk rfl ?_ | refine NewP.mk (fun ad => ?_) | refine ArP.exact (by simp only [inR]; omega) ?_ | refine SideP.mk (by first | omega | (dsimp only; omega) | (simp; omega)) ?_
    | refine J_rounds 2 ?_ | refine JR_succ ?_ | refine IdxE.mk 102 6 _ (hr _) (by decide) (by decide) ?_ | refine LoadE.mk 102 1 _ _ (hr _) (by decide) (by decide) (by decide) rfl ?_ | exact FinE.mk [] [] ⟨rfl, rfl, rfl⟩ (Ents.dropAll.trans (Ents.facts fun _ _ => trivial))
    | fail
  all_goals trace_state

theorem marksNone (c : Nat) : FnS Tryz.prog 50 [.c (.sl none 0 c)] [] [] (Is (.c (.sl none 0 0))) := by
  refine fn_of_J Tryz.tyOK 0 Tryz.func50 (by kernel_rfl) (c := Tryz.f50.body.getD .skip) (by kernel_rfl) Tryz.ntmps50 (rs := Tryz.f50.results.toList) rfl (by simp) (fun G => ?_)
  repeat' first
    | refine CondP.yes (by decide) ?_ | refine CondP.no (by decide) ?_
    | refine J_seq ?_ | refine J_region Tryz.tyOK ?_ | refine J_block ?_ | refine J_cond ?_ | refine J_ret ?_ | refine J_skip ?_ | refine J_exit ?_ | refine J_scope ?_
    | refine CondP.yes (by omega) ?_ | refine CondP.no (by omega) ?_ | refine CondP.mk (fun h => ?_) (fun h => ?_) | refine EqP.mk rfl ?_ | refine NewP.mk (fun ad => ?_) | refine ArP.exact (by simp only [inR]; omega) ?_ | refine SideP.mk (by first | omega | (dsimp only; omega) | (simp; omega)) ?_
    | refine J_rounds 1 ?_ | refine JR_succ ?_ | exact FinE.mk [] [] ⟨rfl, rfl, rfl⟩ (Ents.refl _ _)
    | fail
  all_goals trace_state

def EmptyP : V → List Chunk → List Fact → Prop := fun v L D => ∃ a c, v = .c (.sl a 0 c) ∧ L = [] ∧ D = []

theorem marksPara (ba ia : Option Addr) (bc ic : Nat) (s : List UInt8) : FnS Tryz.prog 50 [.c (.sl ba 1 bc)] [] [pgF ba ia ic, txF ia s] EmptyP := by
  have hr : ∀ L, Reads L [pgF ba ia ic, txF ia s] 81 5 ba 1 (pgC ia ic) := fun _ => .inr fun _ h => h.1
  refine fn_of_J Tryz.tyOK 0 Tryz.func50 (by kernel_rfl) (c := Tryz.f50.body.getD .skip) (by kernel_rfl) Tryz.ntmps50 (rs := Tryz.f50.results.toList) rfl (by simp) (fun G => ?_)
  repeat' first
    | refine CondP.yes (by decide) ?_ | refine CondP.no (by decide) ?_
    | refine J_seq ?_ | refine J_region Tryz.tyOK ?_ | refine J_block ?_ | refine J_cond ?_ | refine J_ret ?_ | refine J_skip ?_ | refine J_exit ?_ | refine J_scope ?_
    | refine CondP.yes (by omega) ?_ | refine CondP.no (by omega) ?_ | refine CondP.mk (fun h => ?_) (fun h => ?_) | refine EqP.mk rfl ?_ | refine NewP.mk (fun ad => ?_) | refine ArP.exact (by simp only [inR]; omega) ?_ | refine SideP.mk (by first | omega | (dsimp only; omega) | (simp; omega)) ?_
    | refine J_rounds 2 ?_ | refine JR_succ ?_ | refine IdxE.mk 81 5 _ (hr _) (by decide) (by decide) ?_ | refine LoadE.mk 81 1 _ _ (hr _) (by decide) (by decide) (by decide) rfl ?_ | refine CallP.is (marksOne ia ic s) ?_ (fun _ h => ⟨h.2.1, trivial⟩) | refine CallP.is (marksNone _) ?_ | refine AppE.nil [] 0 rfl rfl rfl (SrcE.sl 102 102 _ _ _ _ [] rfl rfl readsNil rfl) (by decide) (fun a' c' => ?_) | refine AppE.row [] _ [] [] 0 rfl (SrcE.sl 102 102 _ _ _ _ [] rfl rfl readsNil rfl) (by decide) (fun a' c' => ?_) | exact FinE.mk [] [] ⟨_, _, rfl, rfl, rfl⟩ (Ents.dropAll.trans (Ents.facts fun _ _ => trivial))
    | fail
  all_goals trace_state

theorem contentsPara (ba ia : Option Addr) (bc ic : Nat) (s : List UInt8) : FnS Tryz.prog 22 [.c (.sl ba 1 bc)] [] [pgF ba ia ic, txF ia s] (Is (.c (.sl none 0 0))) := by
  have hr : ∀ L, Reads L [pgF ba ia ic, txF ia s] 81 5 ba 1 (pgC ia ic) := fun _ => .inr fun _ h => h.1
  refine fn_of_J Tryz.tyOK 0 Tryz.func22 (by kernel_rfl) (c := Tryz.f22.body.getD .skip) (by kernel_rfl) Tryz.ntmps22 (rs := Tryz.f22.results.toList) rfl (by simp) (fun G => ?_)
  repeat' first
    | refine CondP.yes (by decide) ?_ | refine CondP.no (by decide) ?_
    | refine J_seq ?_ | refine J_region Tryz.tyOK ?_ | refine J_block ?_ | refine J_cond ?_ | refine J_ret ?_ | refine J_skip ?_ | refine J_exit ?_ | refine J_scope ?_
    | refine CondP.yes (by omega) ?_ | refine CondP.no (by omega) ?_ | refine CondP.mk (fun h => ?_) (fun h => ?_) | refine EqP.mk rfl ?_ | refine NewP.mk (fun ad => ?_) | refine ArP.exact (by simp only [inR]; omega) ?_ | refine SideP.mk (by first | omega | (dsimp only; omega) | (simp; omega)) ?_
    | refine J_rounds 2 ?_ | refine JR_succ ?_ | refine IdxE.mk 81 5 _ (hr _) (by decide) (by decide) ?_ | refine LoadE.mk 81 1 _ _ (hr _) (by decide) (by decide) (by decide) rfl ?_ | exact FinE.mk [] [] ⟨rfl, rfl, rfl⟩ (Ents.dropAll.trans (Ents.facts fun _ _ => trivial))
    | fail
  all_goals trace_state

theorem notesPara (ba ia : Option Addr) (bc ic : Nat) (s : List UInt8) : FnS Tryz.prog 24 [.c (.sl ba 1 bc)] [] [pgF ba ia ic, txF ia s] (Is (.c (.sl none 0 0))) := by
  have hm := marksPara ba ia bc ic s
  refine fn_of_J Tryz.tyOK 0 Tryz.func24 (by kernel_rfl) (c := Tryz.f24.body.getD .skip) (by kernel_rfl) Tryz.ntmps24 (rs := Tryz.f24.results.toList) rfl (by simp) (fun G => ?_)
  repeat' first
    | refine CondP.yes (by decide) ?_ | refine CondP.no (by decide) ?_
    | refine J_seq ?_ | refine J_region Tryz.tyOK ?_ | refine J_block ?_ | refine J_cond ?_ | refine J_ret ?_ | refine J_skip ?_ | refine J_exit ?_ | refine J_scope ?_
    | refine CondP.yes (by omega) ?_ | refine CondP.no (by omega) ?_ | refine CondP.mk (fun h => ?_) (fun h => ?_) | refine EqP.mk rfl ?_ | refine NewP.mk (fun ad => ?_) | refine ArP.exact (by simp only [inR]; omega) ?_ | refine SideP.mk (by first | omega | (dsimp only; omega) | (simp; omega)) ?_
    | refine J_rounds 1 ?_ | refine JR_succ ?_ | (refine CallP.mk [] _ _ _ hm (List.Perm.refl _) (fun _ h => h) (fun v L' D' hp => ?_); obtain ⟨a', c', rfl, rfl, rfl⟩ := hp) | exact FinE.mk [] [] ⟨rfl, rfl, rfl⟩ (Ents.dropAll.trans (Ents.facts fun _ _ => trivial))
    | fail
  all_goals trace_state

end Go.Proofs

namespace Go.Proofs
open Go Go.X
set_option maxRecDepth 100000

/-- A call, behind which what it did not get stands first. -/
theorem callF {P : Program} {f : FuncId} {args : List V} {L : List Chunk} {D : List Fact} {K : V → List Chunk → List Fact → Prop} (L0 R : List Chunk) (D0 : List Fact) (post : V → List Chunk → List Fact → Prop) (h : FnS P f args L0 D0 post)
    (hp : L.Perm (L0 ++ R)) (hd : ∀ m, allD m D → allD m D0) (k : ∀ v L' D', post v L' D' → K v (R ++ L') (D' ++ D)) : CallP P f args L D K :=
  .mkO L0 R D0 D post h (fun _ _ hs => satW_perm hp hs) hd fun v L' D' hq => ⟨_, _, Ents.perm List.perm_append_comm, k v L' D' hq⟩

/-- A builder that holds something takes any string. -/
theorem bwMore0 (ab ty : Nat) (a : Option Addr) (c : Nat) (l : List UInt8) (s : List UInt8) (rest : List C) (h0 : l ≠ []) (hl : l.length + s.length ≤ 140737488355328) :
    FnS Tryz.prog 39 [.c (.p 0 ab 0), .c (.s s)] (bw 0 ab ty a c l rest) [] (BwPost (.t2 (.c (.i .i64 s.length)) (.c (.raw .nilIface))) 0 ab ty (l ++ s) rest) := by
  have hls : l ++ s ≠ [] := by simp [h0]
  rw [bw_cons _ _ _ _ _ _ h0]
  have c1 := oneCopyUsed ab ty (.sl a l.length c) rest
  refine fn_of_J Tryz.tyOK 7000 Tryz.func39 (by kernel_rfl) (c := Tryz.f39.body.getD .skip) (by kernel_rfl) Tryz.ntmps39 (rs := Tryz.f39.results.toList) rfl (by simp) (fun G => ?_)
  repeat' first
    | refine J_seq ?_ | refine J_region Tryz.tyOK ?_ | refine J_block ?_ | refine J_cond ?_ | refine J_ret ?_ | refine J_skip ?_ | refine J_exit ?_ | refine J_scope ?_
    | refine CondP.yes (by omega) ?_ | refine CondP.no (by omega) ?_ | refine CondP.mk (fun h => ?_) (fun h => ?_) | refine EqP.mk rfl ?_ | refine NewP.mk (fun ad => ?_) | refine ArP.exact (by simp only [inR]; omega) ?_ | refine SideP.mk (by first | omega | (dsimp only; omega) | (simp; omega)) ?_
    | refine CallP.mk [_] [_] [] _ c1 (List.Perm.refl _) (fun _ _ => trivial) (fun v L' D' hp => ?_); obtain ⟨rfl, rfl, rfl⟩ := hp | refine AppE.row [_] [] (l.map byteC) (s.map byteC) s.length rfl (SrcE.str _ s rfl rfl rfl) (by show (l.length + s.length) * 1 ≤ _; omega) (fun a' c' => ?_) | refine setK_s1 ?_ | refine FinE.mk (bw 0 ab ty a' c' (l ++ s) rest) [] ⟨a', c', rfl, rfl, rfl⟩ ?_
    | fail
  exact Ents.of (by rw [bw_cons _ _ _ _ _ _ hls, List.length_append, List.map_append]; rfl)

/-- The writer's fields behind the builder. -/
def wR (mi no : C) : List C := [mi, no, .i .i64 0, .sl none 0 0, .i .i64 0]

theorem inlineText (ab : Nat) (ia : Option Addr) (ic : Nat) (s : List UInt8) (hs : s.length ≤ 1000000) (a : Option Addr) (c : Nat) (l : List UInt8) (h0 : l ≠ []) (hl : l.length ≤ 1000000) (rest : List C) :
    FnS Tryz.prog 86 [.c (.p 0 ab 0), .c (.sl ia 1 ic), .c (.b true)] (bw 0 ab 87 a c l rest) [txF ia s] (BwPost .t0 0 ab 87 (l ++ escT s) rest) := by
  have hr : ∀ L, Reads L [txF ia s] 102 6 ia 1 (txC s) := fun _ => .inr fun _ h => h.1
  have hle := escT_le s
  have he := escape_ok s (by omega)
  refine fn_of_J Tryz.tyOK 7000 Tryz.func86 (by kernel_rfl) (c := Tryz.f86.body.getD .skip) (by kernel_rfl) Tryz.ntmps86 (rs := Tryz.f86.results.toList) rfl (by simp) (fun G => ?_)
  repeat' first
    | refine CondP.yes (by decide) ?_ | refine CondP.no (by decide) ?_
    | refine J_seq ?_ | refine J_region Tryz.tyOK ?_ | refine J_block ?_ | refine J_cond ?_ | refine J_ret ?_ | refine J_skip ?_ | refine J_exit ?_ | refine J_scope ?_
    | refine CondP.yes (by omega) ?_ | refine CondP.no (by omega) ?_ | refine CondP.mk (fun h => ?_) (fun h => ?_) | refine EqP.mk rfl ?_ | refine NewP.mk (fun ad => ?_) | refine ArP.exact (by simp only [inR]; omega) ?_ | refine SideP.mk (by first | omega | (dsimp only; omega) | (simp; omega)) ?_
    | refine J_drawU (id := 5) Tryz.tyOK (by kernel_rfl) [0, 1, 3, 0, 8, 24, 63] (.leaf [0, 1, 2, 3, 4, 5, 6]) [6] [7] 6 true (by kernel_rfl) ?_ | refine TwoP.mk ?_ ?_ | refine GoP.mk (by repeat (first | exact keepC_sub _ _ _ | exact List.Sublist.slnil | refine List.Sublist.cons_cons _ ?_ | refine List.Sublist.cons _ ?_)) (by first | exact fun _ h => h | exact fun _ h => h.2 | exact fun _ h => ((allD_append _ _).1 h).2) ?_ | exact trivial | refine J_drawU (id := 21) Tryz.tyOK (by kernel_rfl) [0, 1, 3, 7, 15, 0, 32, 96, 224, 0, 512, 1536, 3584, 7680, 16352, 32736, 65535, 131071, 262143] (.leaf [0, 1, 2, 3, 4, 5, 6, 7, 8, 9, 10, 11, 12, 13, 14, 15, 16, 17, 18]) [] [0, 93] 19 true (by kernel_rfl) ?_ | refine TwoP.mk ?_ ?_ | refine GoP.mk (by repeat (first | exact keepC_sub _ _ _ | exact List.Sublist.slnil | refine List.Sublist.cons_cons _ ?_ | refine List.Sublist.cons _ ?_)) (by first | exact fun _ h => h | exact fun _ h => h.2 | exact fun _ h => ((allD_append _ _).1 h).2) ?_ | exact trivial | refine EntP.mk (Ents.ofSub (by repeat (first | exact keepC_sub _ _ _ | exact List.Sublist.slnil | refine List.Sublist.cons_cons _ ?_ | refine List.Sublist.cons _ ?_)) (by first | exact fun _ h => h | exact fun _ _ => trivial | exact fun _ h => h.2 | exact fun _ h => h.2.2.2.2 | exact fun _ h => h.2.2 | exact fun _ h => h.2.2.2 | exact fun _ h => h.2.2.2.2.2 | exact fun _ h => h.2.2.2.2.2.2 | exact fun _ h => h.2.2.2.2.2.2.2 | exact fun _ h => h.2.2.2.2.2.2.2.2 | exact fun _ h => h.2.2.2.2.2.2.2.2.2 | exact fun _ h => h.2.2.2.2.2.2.2.2.2.2 | exact fun _ h => ((allD_append _ _).1 h).2)) ?_ | refine J_rounds 2 ?_ | refine JR_succ ?_ | refine IdxE.mk 102 6 _ (hr _) (by decide) (by decide) ?_ | refine LoadE.mk 102 1 _ _ (hr _) (by decide) (by decide) (by decide) rfl ?_ | refine CallQ.mk [] _ he (fun _ _ => trivial) ?_ | refine CallP.is he ?_ | (refine CallP.mk _ [_] [] _ (bwMore0 ab _ a c l (escT s) rest h0 (by omega)) (List.perm_append_comm (l₁ := [_])) (fun _ _ => trivial) (fun v L' D' hp => ?_); obtain ⟨a', c', rfl, rfl, rfl⟩ := hp) | refine FinE.mk (bw 0 ab _ a' c' (l ++ escT s) rest) [] ⟨a', c', rfl, rfl, rfl⟩ ?_
    | fail
  exact (Ents.sub ⟨_, List.perm_append_comm⟩).trans (Ents.facts fun _ _ => trivial)

theorem skipNone (ab : Nat) (mi no : C) (a : Option Addr) (c : Nat) (l : List UInt8) (h0 : l ≠ []) (kc : Nat) :
    FnS Tryz.prog 161 [.c (.p 0 ab 0), .c (.sl none 0 kc)] (bw 0 ab 87 a c l (wR mi no)) [] (fun v L D => v = .t0 ∧ L = bw 0 ab 87 a c l (wR mi no) ∧ D = []) := by
  rw [bw_cons _ _ _ _ _ _ h0]
  unfold wR
  refine fn_of_J Tryz.tyOK 7000 Tryz.func161 (by kernel_rfl) (c := Tryz.f161.body.getD .skip) (by kernel_rfl) Tryz.ntmps161 (rs := Tryz.f161.results.toList) rfl (by simp) (fun G => ?_)
  repeat' first
    | refine J_seq ?_ | refine J_region Tryz.tyOK ?_ | refine J_block ?_ | refine J_cond ?_ | refine J_ret ?_ | refine J_skip ?_ | refine J_exit ?_ | refine J_scope ?_
    | refine CondP.yes (by omega) ?_ | refine CondP.no (by omega) ?_ | refine CondP.mk (fun h => ?_) (fun h => ?_) | refine EqP.mk rfl ?_ | refine NewP.mk (fun ad => ?_) | refine ArP.exact (by simp only [inR]; omega) ?_ | refine SideP.mk (by first | omega | (dsimp only; omega) | (simp; omega)) ?_
    | refine J_drawU (id := 0) Tryz.tyOK (by kernel_rfl) [0, 1, 3, 7, 0, 16, 48, 127, 255, 511, 1023] (.leaf [0, 1, 2, 3, 4, 5, 6, 7, 8, 9, 10]) [10] [0] 10 true (by kernel_rfl) ?_ | refine TwoP.mk ?_ ?_ | refine GoP.mk (by repeat (first | exact List.Sublist.slnil | refine List.Sublist.cons_cons _ ?_ | refine List.Sublist.cons _ ?_)) (by first | exact fun _ h => h | exact fun _ h => h.2 | exact fun _ h => ((allD_append _ _).1 h).2) ?_ | exact trivial | refine EntP.mk (Ents.ofSub (by repeat (first | exact List.Sublist.slnil | refine List.Sublist.cons_cons _ ?_ | refine List.Sublist.cons _ ?_)) (by first | exact fun _ h => h | exact fun _ _ => trivial | exact fun _ h => h.2 | exact fun _ h => h.2.2.2.2 | exact fun _ h => h.2.2 | exact fun _ h => h.2.2.2 | exact fun _ h => h.2.2.2.2.2 | exact fun _ h => h.2.2.2.2.2.2 | exact fun _ h => h.2.2.2.2.2.2.2 | exact fun _ h => h.2.2.2.2.2.2.2.2 | exact fun _ h => h.2.2.2.2.2.2.2.2.2 | exact fun _ h => h.2.2.2.2.2.2.2.2.2.2 | exact fun _ h => ((allD_append _ _).1 h).2)) ?_ | refine CallQ.mk [] _ (marksNone kc) (fun _ _ => trivial) ?_ | refine CallP.is (marksNone kc) ?_ | exact FinE.mk _ [] ⟨rfl, rfl, rfl⟩ (Ents.refl _ _)
    | fail
  all_goals trace_state

def pOpen : List UInt8 := [60, 112, 62]
def pEnd : List UInt8 := [60, 47, 112, 62, 10]

theorem linePara (ab : Nat) (ia : Option Addr) (ic : Nat) (s : List UInt8) (hs : s.length ≤ 100000) (mi no : C) :
    FnS Tryz.prog 123 [.c (.p 0 ab 0), .agg (pgC ia ic), .c (.s pOpen), .c (.s pEnd)] (bw 0 ab 87 none 0 [] (wR mi no)) [txF ia s] (BwPost .t0 0 ab 87 (pOpen ++ escT s ++ pEnd) (wR mi no)) := by
  have hle := escT_le s
  have c1 := bwString_ok 0 ab 87 none 0 [] pOpen (wR mi no) btyW (by decide) (by decide)
  unfold pgC
  refine fn_of_J Tryz.tyOK 7000 Tryz.func123 (by kernel_rfl) (c := Tryz.f123.body.getD .skip) (by kernel_rfl) Tryz.ntmps123 (rs := Tryz.f123.results.toList) rfl (by simp) (fun G => ?_)
  repeat' first
    | refine J_seq ?_ | refine J_region Tryz.tyOK ?_ | refine J_block ?_ | refine J_cond ?_ | refine J_ret ?_ | refine J_skip ?_ | refine J_exit ?_ | refine J_scope ?_
    | refine CondP.yes (by omega) ?_ | refine CondP.no (by omega) ?_ | refine CondP.mk (fun h => ?_) (fun h => ?_) | refine EqP.mk rfl ?_ | refine NewP.mk (fun ad => ?_) | refine ArP.exact (by simp only [inR]; omega) ?_ | refine SideP.mk (by first | omega | (dsimp only; omega) | (simp; omega)) ?_
    | (refine callF _ [_] [] _ c1 (List.perm_append_comm (l₁ := [_])) (fun _ _ => trivial) (fun v L' D' hp => ?_); obtain ⟨a1, c1, rfl, rfl, rfl⟩ := hp) | (refine callF _ [_] [txF ia s] _ (inlineText ab ia ic s (by omega) a1 c1 ([] ++ pOpen) (by simp [pOpen]) (by show 3 ≤ _; omega) (wR mi no)) (List.perm_append_comm (l₁ := [_])) (fun _ h => h) (fun v L' D' hp => ?_); obtain ⟨a2, c2, rfl, rfl, rfl⟩ := hp) | (refine callF _ [_] [] _ (bwMore0 ab _ a2 c2 ([] ++ pOpen ++ escT s) pEnd (wR mi no) (by simp [pOpen]) (by simp only [List.length_append]; show 0 + 3 + _ + 5 ≤ _; omega)) (List.perm_append_comm (l₁ := [_])) (fun _ _ => trivial) (fun v L' D' hp => ?_); obtain ⟨a3, c3, rfl, rfl, rfl⟩ := hp) | (refine callF _ [_] [] _ (skipNone ab mi no a3 c3 ([] ++ pOpen ++ escT s ++ pEnd) (by simp [pOpen]) _) (List.perm_append_comm (l₁ := [_])) (fun _ _ => trivial) (fun v L' D' hp => ?_); obtain ⟨rfl, rfl, rfl⟩ := hp) | refine FinE.mk (bw 0 ab _ a3 c3 (pOpen ++ escT s ++ pEnd) (wR mi no)) [] ⟨a3, c3, rfl, rfl, rfl⟩ ?_
    | fail
  exact Ents.drop.trans (Ents.facts fun _ _ => trivial)

theorem blockPara (ab : Nat) (ia : Option Addr) (ic : Nat) (s : List UInt8) (hs : s.length ≤ 100000) (mi no : C) :
    FnS Tryz.prog 85 [.c (.p 0 ab 0), .agg (pgC ia ic), .c (.b true)] (bw 0 ab 87 none 0 [] (wR mi no)) [txF ia s] (BwPost .t0 0 ab 87 (pOpen ++ escT s ++ pEnd) (wR mi no)) := by
  have c1 := linePara ab ia ic s hs mi no
  unfold pgC at c1 ⊢
  refine fn_of_J Tryz.tyOK 7000 Tryz.func85 (by kernel_rfl) (c := Tryz.f85.body.getD .skip) (by kernel_rfl) Tryz.ntmps85 (rs := Tryz.f85.results.toList) rfl (by simp) (fun G => ?_)
  repeat' first
    | refine CondP.yes (by decide) ?_ | refine CondP.no (by decide) ?_
    | refine J_seq ?_ | refine J_region Tryz.tyOK ?_ | refine J_block ?_ | refine J_cond ?_ | refine J_ret ?_ | refine J_skip ?_ | refine J_exit ?_ | refine J_scope ?_
    | refine CondP.yes (by omega) ?_ | refine CondP.no (by omega) ?_ | refine CondP.mk (fun h => ?_) (fun h => ?_) | refine EqP.mk rfl ?_ | refine NewP.mk (fun ad => ?_) | refine ArP.exact (by simp only [inR]; omega) ?_ | refine SideP.mk (by first | omega | (dsimp only; omega) | (simp; omega)) ?_
    | (refine callF _ [_] [txF ia s] _ c1 (List.perm_append_comm (l₁ := [_])) (fun _ h => h) (fun v L' D' hp => ?_); obtain ⟨a1, c1, rfl, rfl, rfl⟩ := hp) | refine FinE.mk (bw 0 ab _ a1 c1 (pOpen ++ escT s ++ pEnd) (wR mi no)) [] ⟨a1, c1, rfl, rfl, rfl⟩ ?_
    | fail
  exact Ents.drop.trans (Ents.facts fun _ _ => trivial)

theorem blocksPara (ab : Nat) (ba ia : Option Addr) (bc ic : Nat) (s : List UInt8) (hs : s.length ≤ 100000) (mi no : C) :
    FnS Tryz.prog 52 [.c (.p 0 ab 0), .c (.sl ba 1 bc), .c (.b true)] (bw 0 ab 87 none 0 [] (wR mi no)) [pgF ba ia ic, txF ia s] (BwPost .t0 0 ab 87 (pOpen ++ escT s ++ pEnd) (wR mi no)) := by
  have hr : ∀ L, Reads L [pgF ba ia ic, txF ia s] 81 5 ba 1 (pgC ia ic) := fun _ => .inr fun _ h => h.1
  have c1 := blockPara ab ia ic s hs mi no
  refine fn_of_J Tryz.tyOK 7000 Tryz.func52 (by kernel_rfl) (c := Tryz.f52.body.getD .skip) (by kernel_rfl) Tryz.ntmps52 (rs := Tryz.f52.results.toList) rfl (by simp) (fun G => ?_)
  repeat' first
    | refine CondP.yes (by decide) ?_ | refine CondP.no (by decide) ?_
    | refine J_seq ?_ | refine J_region Tryz.tyOK ?_ | refine J_block ?_ | refine J_cond ?_ | refine J_ret ?_ | refine J_skip ?_ | refine J_exit ?_ | refine J_scope ?_
    | refine CondP.yes (by omega) ?_ | refine CondP.no (by omega) ?_ | refine CondP.mk (fun h => ?_) (fun h => ?_) | refine EqP.mk rfl ?_ | refine NewP.mk (fun ad => ?_) | refine ArP.exact (by simp only [inR]; omega) ?_ | refine SideP.mk (by first | omega | (dsimp only; omega) | (simp; omega)) ?_
    | refine J_rounds 2 ?_ | refine JR_succ ?_ | refine IdxE.mk 81 5 _ (hr _) (by decide) (by decide) ?_ | refine LoadE.mk 81 1 _ _ (hr _) (by decide) (by decide) (by decide) rfl ?_ | (refine callF _ [_] [txF ia s] _ c1 (List.perm_append_comm (l₁ := [_])) (fun _ h => ⟨h.2.1, trivial⟩) (fun v L' D' hp => ?_); obtain ⟨a1, c1, rfl, rfl, rfl⟩ := hp) | refine FinE.mk (bw 0 ab _ a1 c1 (pOpen ++ escT s ++ pEnd) (wR mi no)) [] ⟨a1, c1, rfl, rfl, rfl⟩ ?_
    | fail
  exact Ents.drop.trans (Ents.facts fun _ _ => trivial)

theorem noContents (ab : Nat) (mi no : C) : FnS Tryz.prog 51 [.c (.p 0 ab 0)] (bw 0 ab 87 none 0 [] (wR mi no)) [] (fun v L D => v = .t0 ∧ L = bw 0 ab 87 none 0 [] (wR mi no) ∧ D = []) := by
  rw [bw_nil]
  unfold wR
  refine fn_of_J Tryz.tyOK 7000 Tryz.func51 (by kernel_rfl) (c := Tryz.f51.body.getD .skip) (by kernel_rfl) Tryz.ntmps51 (rs := Tryz.f51.results.toList) rfl (by simp) (fun G => ?_)
  repeat' first
    | refine CondP.yes (by decide) ?_ | refine CondP.no (by decide) ?_
    | refine J_seq ?_ | refine J_region Tryz.tyOK ?_ | refine J_block ?_ | refine J_cond ?_ | refine J_ret ?_ | refine J_skip ?_ | refine J_exit ?_ | refine J_scope ?_
    | refine CondP.yes (by omega) ?_ | refine CondP.no (by omega) ?_ | refine CondP.mk (fun h => ?_) (fun h => ?_) | refine EqP.mk rfl ?_ | refine NewP.mk (fun ad => ?_) | refine ArP.exact (by simp only [inR]; omega) ?_ | refine SideP.mk (by first | omega | (dsimp only; omega) | (simp; omega)) ?_
    | exact FinE.mk _ [] ⟨rfl, rfl, rfl⟩ (Ents.refl _ _)
    | fail

theorem noList (ab : Nat) : FnS Tryz.prog 53 [.c (.p 0 ab 0), .c (.sl none 0 0)] [] [] (Is .t0) := by
  refine fn_of_J Tryz.tyOK 7000 Tryz.func53 (by kernel_rfl) (c := Tryz.f53.body.getD .skip) (by kernel_rfl) Tryz.ntmps53 (rs := Tryz.f53.results.toList) rfl (by simp) (fun G => ?_)
  repeat' first
    | refine CondP.yes (by decide) ?_ | refine CondP.no (by decide) ?_
    | refine J_seq ?_ | refine J_region Tryz.tyOK ?_ | refine J_block ?_ | refine J_cond ?_ | refine J_ret ?_ | refine J_skip ?_ | refine J_exit ?_ | refine J_scope ?_
    | refine CondP.yes (by omega) ?_ | refine CondP.no (by omega) ?_ | refine CondP.mk (fun h => ?_) (fun h => ?_) | refine EqP.mk rfl ?_ | refine NewP.mk (fun ad => ?_) | refine ArP.exact (by simp only [inR]; omega) ?_ | refine SideP.mk (by first | omega | (dsimp only; omega) | (simp; omega)) ?_
    | exact FinE.mk _ [] ⟨rfl, rfl, rfl⟩ (Ents.refl _ _)
    | fail

end Go.Proofs

namespace Go.X

def lowB (b : UInt8) : UInt8 := if 65 ≤ b ∧ b ≤ 90 then b + 32 else b

theorem lowB_yes {b : UInt8} (h : 65 ≤ (b.toNat : Int)) (h' : (b.toNat : Int) ≤ 90) : ((lowB b).toNat : Int) = b.toNat + 32 := by
  have h1 : (65 : UInt8) ≤ b := by rw [UInt8.le_iff_toNat_le]; simp; omega
  have h2 : b ≤ (90 : UInt8) := by rw [UInt8.le_iff_toNat_le]; simp; omega
  unfold lowB
  rw [if_pos ⟨h1, h2⟩, UInt8.toNat_add]
  simp; omega
theorem lowB_no {b : UInt8} (h : ¬ (65 ≤ (b.toNat : Int) ∧ (b.toNat : Int) ≤ 90)) : lowB b = b := by
  unfold lowB
  rw [if_neg]
  rintro ⟨h1, h2⟩
  rw [UInt8.le_iff_toNat_le] at h1 h2
  simp at h1 h2
  omega

/-- The names of the namespaces. -/
def spName : Nat → List UInt8
  | 1 => [84, 97, 108, 107]
  | 2 => [85, 115, 101, 114]
  | 3 => [84, 101, 109, 112, 108, 97, 116, 101]
  | 4 => [67, 97, 116, 101, 103, 111, 114, 121]
  | 5 => [80, 114, 111, 106, 101, 99, 116]
  | _ => []

def spaceNo (p : List UInt8) : Nat :=
  if p.map lowB = (spName 1).map lowB then 1 else if p.map lowB = (spName 2).map lowB then 2 else if p.map lowB = (spName 3).map lowB then 3
  else if p.map lowB = (spName 4).map lowB then 4 else if p.map lowB = (spName 5).map lowB then 5 else 0

/-- Which namespace the front of a text names. -/
def colonNo (s : List UInt8) : Nat := if (cutAt 58 s).2.2 = true then spaceNo (Lib.trimSuffix (cutAt 58 s).1 [32]) else 0

/-- What lies behind its colon. -/
def behind (s : List UInt8) : List UInt8 := (cutAt 58 s).2.1

/-- A byte that a name must not have. -/
def badB (c : UInt8) : Bool := decide ((c.toNat : Int) < 32) || decide ((c.toNat : Int) = 127) || decide (0 ≤ Lib.indexByte [60, 62, 91, 93, 123, 125, 124, 35, 95] c)

/-- Only bytes that names may have, and no two blanks one behind the other; p: is there a blank ahead? -/
def cleanB : Bool → List UInt8 → Bool
  | _, [] => true
  | p, c :: r => !badB c && !(p && c.toNat == 32) && cleanB (c.toNat == 32) r

/-- A piece of a name. -/
def pieceOK (p : List UInt8) : Bool := !decide (p = []) && !decide (((p.getD 0 0).toNat : Int) = 32) && !decide (((p.getD ((p.length : Int) - 1).toNat 0).toNat : Int) = 32)

/-- The first byte is neither ":" nor a small letter. -/
def headOK (s : List UInt8) : Bool := !decide (((s.getD 0 0).toNat : Int) = 58) && !(decide (97 ≤ ((s.getD 0 0).toNat : Int)) && decide (((s.getD 0 0).toNat : Int) ≤ 122))

def validT (sp : Int) (s : List UInt8) : Bool :=
  !decide (sp < 0) && !decide (6 ≤ sp) && !decide ((s.length : Int) < 1) && !decide (100 < (s.length : Int)) && cleanB false s && (splitOn 47 s).all pieceOK && headOK s && (!decide (sp = 0) || !decide (colonNo s ≠ 0))

/-- One byte behind a text with single blanks. -/
def stepB (out : List UInt8) (c : UInt8) : List UInt8 :=
  if (!decide ((c.toNat : Int) = 32) || (decide (0 < (out.length : Int)) && !decide (((out.getD ((out.length : Int) - 1).toNat 0).toNat : Int) = 32))) = true then out ++ [c] else out

def outB (s : List UInt8) (i : Nat) : List UInt8 := (s.take i).foldl stepB []

theorem outB_succ {s : List UInt8} {i : Nat} (h : i < s.length) : outB s (i + 1) = stepB (outB s i) (s.getD i 0) := by
  unfold outB
  rw [List.take_succ_eq_append_getElem h, List.foldl_append]
  simp [h]
theorem outB_all (s : List UInt8) : outB s s.length = s.foldl stepB [] := by simp [outB]
theorem stepB_le (out : List UInt8) (c : UInt8) : (stepB out c).length ≤ out.length + 1 := by unfold stepB; split <;> simp
theorem outB_le {s : List UInt8} : ∀ {i : Nat}, i ≤ s.length → (outB s i).length ≤ i
  | 0, _ => by simp [outB]
  | i + 1, h => by
    have := outB_le (s := s) (i := i) (by omega)
    rw [outB_succ (by omega)]
    exact Nat.le_trans (stepB_le _ _) (by omega)

/-- Without blanks at both ends, and with one blank for each sequence of blanks. -/
def singleB (s : List UInt8) : List UInt8 := Lib.trimSuffix (s.foldl stepB []) [32]

/-- Piece i of n, without the blanks next to a "/". -/
def slP (n i : Nat) (p : List UInt8) : List UInt8 :=
  if (i : Int) < (n : Int) - 1 then Lib.trimRightB (if 0 < (i : Int) then Lib.trimLeftB p 32 else p) 32 else (if 0 < (i : Int) then Lib.trimLeftB p 32 else p)

def slashPieces (s : List UInt8) : List (List UInt8) := (splitOn 47 s).mapIdx fun i p => slP (splitOn 47 s).length i p

/-- Without the blanks directly before and after each "/". -/
def slashesB (s : List UInt8) : List UInt8 := joinOn 47 (slashPieces s)

theorem dropWhile_le {p : UInt8 → Bool} : ∀ l : List UInt8, (l.dropWhile p).length ≤ l.length
  | [] => by simp
  | x :: r => by
    have := dropWhile_le (p := p) r
    simp only [List.dropWhile_cons]; split <;> simp; omega
theorem trimLeftB_le (l : List UInt8) (c : UInt8) : (Lib.trimLeftB l c).length ≤ l.length := dropWhile_le l
theorem trimRightB_le (l : List UInt8) (c : UInt8) : (Lib.trimRightB l c).length ≤ l.length := by
  have := dropWhile_le (p := (· == c)) l.reverse
  simpa [Lib.trimRightB] using this
theorem slP_le (n i : Nat) (p : List UInt8) : (slP n i p).length ≤ p.length := by
  have h1 := trimLeftB_le p 32
  unfold slP
  split
  · split
    · exact Nat.le_trans (trimRightB_le _ _) h1
    · exact trimRightB_le _ _
  · split
    · exact h1
    · exact Nat.le_refl _
theorem slashPieces_len (s : List UInt8) : (slashPieces s).length = (splitOn 47 s).length := by simp [slashPieces]
theorem slashPieces_get (s : List UInt8) {i : Nat} (h : i < (slashPieces s).length) (h' : i < (splitOn 47 s).length) : (slashPieces s)[i] = slP (splitOn 47 s).length i (splitOn 47 s)[i] := by simp [slashPieces]
theorem slashPieces_mem (s p : List UInt8) (h : p ∈ slashPieces s) : p.length ≤ s.length := by
  obtain ⟨i, hi, rfl⟩ := List.getElem_of_mem h
  have hi' : i < (splitOn 47 s).length := by rw [← slashPieces_len]; exact hi
  rw [slashPieces_get s hi hi']
  exact Nat.le_trans (slP_le _ _ _) (mem_splitOn_le 47 s _ (List.getElem_mem hi'))
theorem slashesB_le (s : List UInt8) : (slashesB s).length ≤ (s.length + 1) * (s.length + 1) := by
  refine Nat.le_trans (joinOn_length_le 47 s.length _ (slashPieces_mem s)) (Nat.mul_le_mul_right _ ?_)
  rw [slashPieces_len]; exact splitOn_length_le 47 s

theorem slashesB_short (s : List UInt8) : (slashesB s).length ≤ s.length := by
  have h := joinOn_le 47 (slashPieces s) (splitOn 47 s) (slashPieces_len s) (fun i h h' => by rw [slashPieces_get s h h']; exact slP_le _ _ _)
  rwa [join_splitOn] at h

theorem trimSuffix_le (s p : List UInt8) : (Lib.trimSuffix s p).length ≤ s.length := by
  unfold Lib.trimSuffix; split
  · simp
  · exact Nat.le_refl _
theorem trimPrefix_le (s p : List UInt8) : (Lib.trimPrefix s p).length ≤ s.length := by
  unfold Lib.trimPrefix; split
  · simp
  · exact Nat.le_refl _
theorem cutAt_len1 (c : UInt8) : ∀ s : List UInt8, (cutAt c s).1.length ≤ s.length
  | [] => by simp [cutAt]
  | x :: r => by
    have := cutAt_len1 c r
    simp only [cutAt]; split <;> simp; omega
theorem cutAt_len2 (c : UInt8) : ∀ s : List UInt8, (cutAt c s).2.1.length ≤ s.length
  | [] => by simp [cutAt]
  | x :: r => by
    have := cutAt_len2 c r
    simp only [cutAt]; split <;> simp; omega
theorem behind_le (s : List UInt8) : (behind s).length ≤ s.length := cutAt_len2 58 s
theorem singleB_le (s : List UInt8) : (singleB s).length ≤ s.length := by
  have h := outB_le (s := s) (Nat.le_refl _)
  rw [outB_all] at h
  exact Nat.le_trans (trimSuffix_le _ _) h

/-- Each "_" as a blank. -/
def usc (s : List UInt8) : List UInt8 := s.map fun x => if x = 95 then 32 else x
/-- Without a ":" ahead. -/
def noColon (t : List UInt8) : List UInt8 := if ([58] : List UInt8).isPrefixOf t = true then Lib.trimPrefix (t.drop 1) [32] else t
/-- Without the name of a namespace ahead. -/
def noSpace (t : List UInt8) : List UInt8 := if decide (colonNo t ≠ 0) = true then Lib.trimPrefix (behind t) [32] else t
/-- With a large letter first. -/
def upB (t : List UInt8) : List UInt8 := if (!decide (t = []) && decide (97 ≤ ((t.getD 0 0).toNat : Int)) && decide (((t.getD 0 0).toNat : Int) ≤ 122)) = true then [t.getD 0 0 - 32] ++ t.drop 1 else t

def spaceP (s : List UInt8) : Nat := colonNo (noColon (singleB (usc s)))
def nameP (s : List UInt8) : List UInt8 := upB (slashesB (noSpace (noColon (singleB (usc s)))))

/-- The namespace, the name and the error that a text gives. -/
def parseT (s : List UInt8) : Int × List UInt8 × Int :=
  if decide (100 < ((nameP s).length : Int)) = true then (0, [], 3) else if validT (spaceP s) (nameP s) = true then (spaceP s, nameP s, 0) else (0, [], 1)

theorem upB_len (t : List UInt8) : (upB t).length = t.length := by
  unfold upB; split
  · rename_i h
    cases t with
    | nil => simp at h
    | cons a r => simp
  · rfl
theorem noColon_le (t : List UInt8) : (noColon t).length ≤ t.length := by
  unfold noColon; split
  · exact Nat.le_trans (trimPrefix_le _ _) (by simp)
  · exact Nat.le_refl _
theorem noSpace_le (t : List UInt8) : (noSpace t).length ≤ t.length := by
  unfold noSpace; split
  · exact Nat.le_trans (trimPrefix_le _ _) (behind_le _)
  · exact Nat.le_refl _
theorem nameP_le (s : List UInt8) : (nameP s).length ≤ s.length := by
  unfold nameP
  rw [upB_len]
  have h : (usc s).length = s.length := by simp [usc]
  exact Nat.le_trans (slashesB_short _) (Nat.le_trans (noSpace_le _) (Nat.le_trans (noColon_le _) (Nat.le_trans (singleB_le _) (by omega))))

theorem validT_bounds {sp : Int} {s : List UInt8} (h : validT sp s = true) : 0 ≤ sp ∧ sp < 6 ∧ 1 ≤ s.length ∧ s.length ≤ 100 := by
  unfold validT at h
  simp only [Bool.and_eq_true, Bool.not_eq_true', decide_eq_false_iff_not] at h
  omega

/-- The text of a valid title. -/
def formatT (sp : Int) (s : List UInt8) : List UInt8 := if validT sp s = true then (if sp = 0 then s else spName sp.toNat ++ [58] ++ s) else []

theorem spName_le (n : Nat) : (spName n).length ≤ 8 := by unfold spName; split <;> decide
theorem formatT_le (sp : Int) (s : List UInt8) : (formatT sp s).length ≤ 109 := by
  unfold formatT
  split
  · rename_i h
    have h1 := validT_bounds h
    have h2 := spName_le sp.toNat
    split <;> simp <;> omega
  · simp

/-- The order of titles. -/
def compareT (a : Int) (x : List UInt8) (b : Int) (y : List UInt8) : Int := if Lib.compareInt a b ≠ 0 then Lib.compareInt a b else Lib.compareBytes x y

/-- The title that a text names, which may begin at a base. -/
def resolveT (sp : Int) (n s : List UInt8) : Int × List UInt8 × Int :=
  if ([47] : List UInt8).isPrefixOf (Lib.trimLeftS s [32, 95]) = true then parseT (formatT sp n ++ Lib.trimLeftS s [32, 95]) else parseT s

/-- The texts ahead of each "/" among the first i bytes. -/
def ancL (s : List UInt8) : Nat → List (List UInt8)
  | 0 => []
  | i + 1 => if ((s.getD i 0).toNat : Int) = 47 then ancL s i ++ [s.take i] else ancL s i

def ancT (sp : Int) (s : List UInt8) : List (List UInt8) := if validT sp s = true then ancL s s.length else []

theorem ancL_le (s : List UInt8) : ∀ i, (ancL s i).length ≤ i
  | 0 => by simp [ancL]
  | i + 1 => by
    have := ancL_le s i
    simp only [ancL]; split
    · simp; omega
    · omega

attribute [irreducible] validT nameP spaceP parseT formatT resolveT

end Go.X

namespace Go.X

/-- The sixteen digits. -/
def hexS : List UInt8 := [48, 49, 50, 51, 52, 53, 54, 55, 56, 57, 65, 66, 67, 68, 69, 70]
def punctS : List UInt8 := [45, 95, 46, 58, 47]
def wikiS : List UInt8 := [47, 119, 105, 107, 105, 47]

/-- The bytes that a path keeps. -/
def keepP (b : UInt8) : Prop := (97 ≤ (b.toNat : Int) ∧ (b.toNat : Int) ≤ 122) ∨ (65 ≤ (b.toNat : Int) ∧ (b.toNat : Int) ≤ 90) ∨ (48 ≤ (b.toNat : Int) ∧ (b.toNat : Int) ≤ 57) ∨ 0 ≤ Lib.indexByte punctS b
instance (b : UInt8) : Decidable (keepP b) := by unfold keepP; exact inferInstance

def hexB (b : UInt8) : List UInt8 := [hexS.getD (b.toNat / 16) 0, hexS.getD (b.toNat % 16) 0]
def pathB (b : UInt8) : List UInt8 := if b = 32 then [95] else if keepP b then [b] else 37 :: hexB b
def pathS (s : List UInt8) : List UInt8 := s.flatMap pathB
/-- The path of a title. -/
def pathT (sp : Int) (n : List UInt8) : List UInt8 := wikiS ++ pathS (formatT sp n)

theorem pathS_take_succ {s : List UInt8} {i : Nat} (h : i < s.length) : pathS (s.take (i + 1)) = pathS (s.take i) ++ pathB s[i] := by
  unfold pathS
  rw [List.take_succ_eq_append_getElem h, List.flatMap_append]
  simp only [List.flatMap_cons, List.flatMap_nil, List.append_nil]

theorem pathB_len (b : UInt8) : 1 ≤ (pathB b).length ∧ (pathB b).length ≤ 3 := by
  unfold pathB
  split
  · decide
  split
  · exact ⟨Nat.le_refl 1, by show 1 ≤ 3; decide⟩
  · exact ⟨by show 1 ≤ 3; decide, Nat.le_refl 3⟩

theorem pathS_le (s : List UInt8) : (pathS s).length ≤ 3 * s.length := by
  induction s with
  | nil => exact Nat.le_refl _
  | cons b s ih =>
    have := pathB_len b
    simp only [pathS, List.flatMap_cons, List.length_append, List.length_cons] at ih ⊢
    omega

theorem pathStep32 {o r : List UInt8} {y : UInt8} (hst : r = o ++ pathB y) (h : (y.toNat : Int) = 32) : o ++ [95] = r := by
  have hy : y = 32 := UInt8.toNat_inj.1 (by have : (32 : UInt8).toNat = 32 := rfl
                                            omega)
  subst hy; rw [hst]; rfl
theorem pathStepK {o r : List UInt8} {y : UInt8} (hst : r = o ++ pathB y) (h : ¬ (y.toNat : Int) = 32) (hk : keepP y) : o ++ [y] = r := by
  have hy : ¬ y = 32 := fun hh => by subst hh; exact h rfl
  rw [hst]; simp [pathB, hy, hk]
theorem pathStepH {o r : List UInt8} {y : UInt8} (hst : r = o ++ pathB y) (h : ¬ (y.toNat : Int) = 32) (hk : ¬ keepP y) : o ++ 37 :: hexB y = r := by
  have hy : ¬ y = 32 := fun hh => by subst hh; exact h rfl
  rw [hst]; simp [pathB, hy, hk]

end Go.X
