/- This text gives contracts of what strings.Replacer needs of the library: the Once, its lock and its word. -/
import Derived.Test.YtdnkeinjfddmnaaGreatDoorLibc
import Derived.Test.YtdnkeinjfddmnaaGreatDoorDfr
import Derived.Test.YtdnkeinjfddmnaaGreatDoorDrawU
import Derived.Laws.LoneSync
set_option linter.all false

namespace Go.Proofs
open Go Go.X
set_option maxRecDepth 100000

/-- A replacer: the Once's word and lock, the algorithm, the strings. -/
def rb (ab : Nat) (d m : Int) (r z : C) : Chunk := .box 0 ab 130 [.i .u32 d, .i .i32 m, .i .u32 0, r, z]

theorem disable_run (w : World) : (callFunc 190 #[]).run Tryz.prog w = .ok (.value (.tuple #[])) w := run_call_mark0 Tryz.func190 (by kernel_rfl) (by kernel_rfl) (by kernel_rfl) .disable (by kernel_rfl) w
theorem enable_run (w : World) : (callFunc 192 #[]).run Tryz.prog w = .ok (.value (.tuple #[])) w := run_call_mark0 Tryz.func192 (by kernel_rfl) (by kernel_rfl) (by kernel_rfl) .enable (by kernel_rfl) w
theorem acquire_run (a : Addr) (w : World) : (callFunc 193 #[.pointer (some a)]).run Tryz.prog w = .ok (.value (.tuple #[])) w := run_call_marked Tryz.func193 (by kernel_rfl) (by kernel_rfl) (by kernel_rfl) .acquire (by kernel_rfl) a w
theorem releaseMerge_run (a : Addr) (w : World) : (callFunc 195 #[.pointer (some a)]).run Tryz.prog w = .ok (.value (.tuple #[])) w := run_call_marked Tryz.func195 (by kernel_rfl) (by kernel_rfl) (by kernel_rfl) .releaseMerge (by kernel_rfl) a w

theorem rb_cell {G : Ent} {w : World} {L : List Chunk} {D : List Fact} {ab : Nat} {d m : Int} {r z : C} (hs : SatW G w (rb ab d m r z :: L) D) : w.cell? ⟨ab, 0, none⟩ = some (.int .u32 d) ∧ w.cell? ⟨ab, 1, none⟩ = some (.int .i32 m) ∧ w.frozen? ⟨ab, 0, none⟩ = false ∧ w.frozen? ⟨ab, 1, none⟩ = false := by
  have hb := satW_box hs (List.Mem.head _)
  refine ⟨by simp [World.cell?, hb, C.enc], by simp [World.cell?, hb, C.enc], by simp [World.frozen?, hb], by simp [World.frozen?, hb]⟩

section
variable {L : List Chunk} {D : List Fact} {K : V → List Chunk → List Fact → Prop} {ab : Nat} {d m : Int} {r z : C}
theorem disableP (k : K .t0 L D) : CallP Tryz.prog 190 [] L D K := .ext .t0 (fun _ w _ => disable_run w) k
theorem enableP (k : K .t0 L D) : CallP Tryz.prog 192 [] L D K := .ext .t0 (fun _ w _ => enable_run w) k
theorem acquireP {i a o : Nat} (k : K .t0 L D) : CallP Tryz.prog 193 [.c (.p i a o)] L D K := .ext .t0 (fun _ w _ => acquire_run _ w) k
theorem releaseMergeP {i a o : Nat} (k : K .t0 L D) : CallP Tryz.prog 195 [.c (.p i a o)] L D K := .ext .t0 (fun _ w _ => releaseMerge_run _ w) k
theorem loadP (k : K (.c (.i .u32 d)) (rb ab d m r z :: L) D) : CallP Tryz.prog 151 [.c (.p 0 ab 0)] (rb ab d m r z :: L) D K :=
  .ext (.c (.i .u32 d)) (fun G w hs => by
    have h := (rb_cell hs).1
    exact run_call_load Tryz.func151 (by kernel_rfl) (by kernel_rfl) (by kernel_rfl) .u32 (by kernel_rfl) h) k
theorem casP (k : K (.c (.b true)) (rb ab d 1 r z :: L) D) : CallP Tryz.prog 191 [.c (.p 0 ab 1), .c (.i .i32 0), .c (.i .i32 1)] (rb ab d 0 r z :: L) D K :=
  .extW (.c (.b true)) (rb ab d 1 r z :: L) (fun G w hs => by
    have h := rb_cell hs
    have hr := run_call_cas_hit (P := Tryz.prog) Tryz.func191 (by kernel_rfl) (by kernel_rfl) (by kernel_rfl) .i32 (by kernel_rfl) (y := 1) h.2.1 h.2.2.2
    exact ⟨_, hr, satW_setBox 1 (.i .i32 1) rfl hs⟩) k
theorem addP (k : K (.c (.i .i32 0)) (rb ab d 0 r z :: L) D) : CallP Tryz.prog 196 [.c (.p 0 ab 1), .c (.i .i32 (-1))] (rb ab d 1 r z :: L) D K :=
  .extW (.c (.i .i32 0)) (rb ab d 0 r z :: L) (fun G w hs => by
    have h := rb_cell hs
    have hr := run_call_add (P := Tryz.prog) Tryz.func196 (by kernel_rfl) (by kernel_rfl) (by kernel_rfl) .i32 (by kernel_rfl) (y := -1) (s := 0) h.2.1 h.2.2.2 (by simp [go_sem]; rfl)
    exact ⟨_, hr, satW_setBox 1 (.i .i32 0) rfl hs⟩) k
theorem storeP (k : K .t0 (rb ab 1 m r z :: L) D) : CallP Tryz.prog 178 [.c (.p 0 ab 0), .c (.i .u32 1)] (rb ab d m r z :: L) D K :=
  .extW .t0 (rb ab 1 m r z :: L) (fun G w hs => by
    have h := rb_cell hs
    have hr := run_call_store (P := Tryz.prog) Tryz.func178 (by kernel_rfl) (by kernel_rfl) (by kernel_rfl) (by kernel_rfl) (k := .u32) (y := 1) h.1 h.2.2.1
    exact ⟨_, hr, satW_setBox 0 (.i .u32 1) rfl hs⟩) k
end

theorem boolLoad_ok (ab : Nat) (m : Int) (r z : C) : FnS Tryz.prog 113 [.c (.p 0 ab 0)] [rb ab 0 m r z] [] (fun v L D => v = .c (.b false) ∧ L = [rb ab 0 m r z] ∧ D = []) := by
  unfold rb
  refine fn_of_J Tryz.tyOK 7000 Tryz.func113 (by kernel_rfl) (c := Tryz.f113.body.getD .skip) (by kernel_rfl) Tryz.ntmps113 (rs := Tryz.f113.results.toList) rfl (by simp) (fun G => ?_)
  repeat' first
    | refine J_seq ?_ | refine J_region Tryz.tyOK ?_ | refine J_block ?_ | refine J_cond ?_ | refine J_ret ?_ | refine J_skip ?_ | refine J_exit ?_ | refine J_scope ?_
    | refine CondP.yes (by omega) ?_ | refine CondP.no (by omega) ?_ | refine CondP.mk (fun h => ?_) (fun h => ?_) | refine EqP.mk rfl ?_ | refine NewP.mk (fun ad => ?_) | refine ArP.exact (by simp only [inR]; omega) ?_ | refine SideP.mk (by first | omega | (dsimp only; omega) | (simp; omega)) ?_
    | refine loadP ?_ | refine FinE.mk _ [] ⟨rfl, rfl, rfl⟩ (Ents.refl _ _)
    | fail

theorem innerLock_ok (ab : Nat) (r z : C) : FnS Tryz.prog 176 [.c (.p 0 ab 1)] [rb ab 0 0 r z] [] (fun v L D => v = .t0 ∧ L = [rb ab 0 1 r z] ∧ D = []) := by
  unfold rb
  refine fn_of_J Tryz.tyOK 7000 Tryz.func176 (by kernel_rfl) (c := Tryz.f176.body.getD .skip) (by kernel_rfl) Tryz.ntmps176 (rs := Tryz.f176.results.toList) rfl (by simp) (fun G => ?_)
  repeat' first
    | refine J_seq ?_ | refine J_region Tryz.tyOK ?_ | refine J_block ?_ | refine J_cond ?_ | refine J_ret ?_ | refine J_skip ?_ | refine J_exit ?_ | refine J_scope ?_
    | refine CondP.yes (by omega) ?_ | refine CondP.no (by omega) ?_ | refine CondP.mk (fun h => ?_) (fun h => ?_) | refine EqP.mk rfl ?_ | refine NewP.mk (fun ad => ?_) | refine ArP.exact (by simp only [inR]; omega) ?_ | refine SideP.mk (by first | omega | (dsimp only; omega) | (simp; omega)) ?_
    | refine disableP ?_ | refine enableP ?_ | refine acquireP ?_ | refine casP ?_ | refine SideP.mk ⟨rfl, by show 1 < 5; decide⟩ ?_ | refine FinE.mk _ [] ⟨rfl, rfl, rfl⟩ (Ents.refl _ _)
    | fail

theorem lock_ok (ab : Nat) (r z : C) : FnS Tryz.prog 152 [.c (.p 0 ab 1)] [rb ab 0 0 r z] [] (fun v L D => v = .t0 ∧ L = [rb ab 0 1 r z] ∧ D = []) := by
  have c1 := innerLock_ok ab r z
  unfold rb at c1 ⊢
  refine fn_of_J Tryz.tyOK 7000 Tryz.func152 (by kernel_rfl) (c := Tryz.f152.body.getD .skip) (by kernel_rfl) Tryz.ntmps152 (rs := Tryz.f152.results.toList) rfl (by simp) (fun G => ?_)
  repeat' first
    | refine J_seq ?_ | refine J_region Tryz.tyOK ?_ | refine J_block ?_ | refine J_cond ?_ | refine J_ret ?_ | refine J_skip ?_ | refine J_exit ?_ | refine J_scope ?_
    | refine CondP.yes (by omega) ?_ | refine CondP.no (by omega) ?_ | refine CondP.mk (fun h => ?_) (fun h => ?_) | refine EqP.mk rfl ?_ | refine NewP.mk (fun ad => ?_) | refine ArP.exact (by simp only [inR]; omega) ?_ | refine SideP.mk (by first | omega | (dsimp only; omega) | (simp; omega)) ?_
    | refine CallP.mk [_] [] [] _ c1 (List.Perm.refl _) (fun _ _ => trivial) (fun v L' D' hp => ?_); obtain ⟨rfl, rfl, rfl⟩ := hp | refine FinE.mk _ [] ⟨rfl, rfl, rfl⟩ (Ents.refl _ _)
    | fail

theorem innerUnlock_ok (ab : Nat) (r z : C) : FnS Tryz.prog 177 [.c (.p 0 ab 1)] [rb ab 1 1 r z] [] (fun v L D => v = .t0 ∧ L = [rb ab 1 0 r z] ∧ D = []) := by
  unfold rb
  refine fn_of_J Tryz.tyOK 7000 Tryz.func177 (by kernel_rfl) (c := Tryz.f177.body.getD .skip) (by kernel_rfl) Tryz.ntmps177 (rs := Tryz.f177.results.toList) rfl (by simp) (fun G => ?_)
  repeat' first
    | refine J_seq ?_ | refine J_region Tryz.tyOK ?_ | refine J_block ?_ | refine J_cond ?_ | refine J_ret ?_ | refine J_skip ?_ | refine J_exit ?_ | refine J_scope ?_
    | refine CondP.yes (by omega) ?_ | refine CondP.no (by omega) ?_ | refine CondP.mk (fun h => ?_) (fun h => ?_) | refine EqP.mk rfl ?_ | refine NewP.mk (fun ad => ?_) | refine ArP.exact (by simp only [inR]; omega) ?_ | refine SideP.mk (by first | omega | (dsimp only; omega) | (simp; omega)) ?_
    | refine disableP ?_ | refine enableP ?_ | refine releaseMergeP ?_ | refine addP ?_ | refine SideP.mk ⟨rfl, by show 1 < 5; decide⟩ ?_ | refine FinE.mk _ [] ⟨rfl, rfl, rfl⟩ (Ents.refl _ _)
    | fail

theorem unlockD_ok (ab : Nat) (r z : C) : FnD Tryz.prog 153 [.c (.p 0 ab 1)] [rb ab 1 1 r z] [] (fun v L D => v = .t0 ∧ L = [rb ab 1 0 r z] ∧ D = []) := by
  have c1 := innerUnlock_ok ab r z
  unfold rb at c1 ⊢
  refine fnD_of_J Tryz.tyOK 7000 Tryz.func153 (by kernel_rfl) (c := Tryz.f153.body.getD .skip) (by kernel_rfl) Tryz.ntmps153 (rs := Tryz.f153.results.toList) rfl (by simp) (fun G => ?_)
  repeat' first
    | refine J_seq ?_ | refine J_region Tryz.tyOK ?_ | refine J_block ?_ | refine J_cond ?_ | refine J_ret ?_ | refine J_skip ?_ | refine J_exit ?_ | refine J_scope ?_
    | refine CondP.yes (by omega) ?_ | refine CondP.no (by omega) ?_ | refine CondP.mk (fun h => ?_) (fun h => ?_) | refine EqP.mk rfl ?_ | refine NewP.mk (fun ad => ?_) | refine ArP.exact (by simp only [inR]; omega) ?_ | refine SideP.mk (by first | omega | (dsimp only; omega) | (simp; omega)) ?_
    | refine CallP.mk [_] [] [] _ c1 (List.Perm.refl _) (fun _ _ => trivial) (fun v L' D' hp => ?_); obtain ⟨rfl, rfl, rfl⟩ := hp | refine FinE.mk _ [] ⟨rfl, rfl, rfl⟩ (Ents.refl _ _)
    | fail

theorem b32_ok : FnS Tryz.prog 179 [.c (.b true)] [] [] (Is (.c (.i .u32 1))) := by
  refine fn_of_J Tryz.tyOK 7000 Tryz.func179 (by kernel_rfl) (c := Tryz.f179.body.getD .skip) (by kernel_rfl) Tryz.ntmps179 (rs := Tryz.f179.results.toList) rfl (by simp) (fun G => ?_)
  repeat' first
    | refine J_seq ?_ | refine J_region Tryz.tyOK ?_ | refine J_block ?_ | refine J_cond ?_ | refine J_ret ?_ | refine J_skip ?_ | refine J_exit ?_ | refine J_scope ?_
    | refine CondP.yes (by omega) ?_ | refine CondP.no (by omega) ?_ | refine CondP.mk (fun h => ?_) (fun h => ?_) | refine EqP.mk rfl ?_ | refine NewP.mk (fun ad => ?_) | refine ArP.exact (by simp only [inR]; omega) ?_ | refine SideP.mk (by first | omega | (dsimp only; omega) | (simp; omega)) ?_
    | refine FinE.int rfl
    | fail

theorem boolStoreD_ok (ab : Nat) (r z : C) : FnD Tryz.prog 154 [.c (.p 0 ab 0), .c (.b true)] [rb ab 0 1 r z] [] (fun v L D => v = .t0 ∧ L = [rb ab 1 1 r z] ∧ D = []) := by
  unfold rb
  refine fnD_of_J Tryz.tyOK 7000 Tryz.func154 (by kernel_rfl) (c := Tryz.f154.body.getD .skip) (by kernel_rfl) Tryz.ntmps154 (rs := Tryz.f154.results.toList) rfl (by simp) (fun G => ?_)
  repeat' first
    | refine J_seq ?_ | refine J_region Tryz.tyOK ?_ | refine J_block ?_ | refine J_cond ?_ | refine J_ret ?_ | refine J_skip ?_ | refine J_exit ?_ | refine J_scope ?_
    | refine CondP.yes (by omega) ?_ | refine CondP.no (by omega) ?_ | refine CondP.mk (fun h => ?_) (fun h => ?_) | refine EqP.mk rfl ?_ | refine NewP.mk (fun ad => ?_) | refine ArP.exact (by simp only [inR]; omega) ?_ | refine SideP.mk (by first | omega | (dsimp only; omega) | (simp; omega)) ?_
    | refine J_drawU (id := 0) Tryz.tyOK (by kernel_rfl) [0, 1, 3, 0, 8, 31] (.leaf [0, 1, 2, 3, 4, 5]) [5] [] 5 true (by kernel_rfl) ?_ | refine TwoP.mk ?_ ?_ | refine GoP.mk (by repeat (first | exact List.Sublist.slnil | refine List.Sublist.cons_cons _ ?_ | refine List.Sublist.cons _ ?_)) (by first | exact fun _ h => h | exact fun _ h => h.2 | exact fun _ h => ((allD_append _ _).1 h).2) ?_ | exact trivial | refine EntP.mk (Ents.ofSub (by repeat (first | exact List.Sublist.slnil | refine List.Sublist.cons_cons _ ?_ | refine List.Sublist.cons _ ?_)) (by first | exact fun _ h => h | exact fun _ _ => trivial | exact fun _ h => h.2 | exact fun _ h => h.2.2.2.2 | exact fun _ h => h.2.2 | exact fun _ h => h.2.2.2 | exact fun _ h => h.2.2.2.2.2 | exact fun _ h => h.2.2.2.2.2.2 | exact fun _ h => h.2.2.2.2.2.2.2 | exact fun _ h => h.2.2.2.2.2.2.2.2 | exact fun _ h => h.2.2.2.2.2.2.2.2.2 | exact fun _ h => h.2.2.2.2.2.2.2.2.2.2 | exact fun _ h => ((allD_append _ _).1 h).2)) ?_ | refine CallQ.mk [] _ b32_ok (fun _ _ => trivial) ?_ | refine storeP ?_ | refine FinE.mk _ [] ⟨rfl, rfl, rfl⟩ (Ents.refl _ _)
    | fail

end Go.Proofs
