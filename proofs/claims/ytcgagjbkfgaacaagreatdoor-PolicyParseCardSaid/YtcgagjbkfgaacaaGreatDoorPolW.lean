/- This text walks through the reading of whole texts in the reference of chapter 12. -/
import Derived.Test.YtcgagjbkfgaacaaGreatDoorPolV
set_option linter.all false

namespace Go.Proofs
open Go Go.X
set_option maxRecDepth 100000
set_option maxHeartbeats 4000000

theorem refParse12_ok (s : Bs) (hs : s.length ≤ 1000000) : FnS Tryz.prog 11 [.c (.s s)] [] [] (parsePost (polParseT s)) := by
  unfold polParseT
  by_cases hbig : 8192 < (s.length : Int)
  · rw [if_pos hbig]
    refine fn_of_J Tryz.tyOK 0 Tryz.func11 (by kernel_rfl) (c := Tryz.f11.body.getD .skip) (by kernel_rfl) Tryz.ntmps11 (rs := Tryz.f11.results.toList) rfl (by simp) (fun G => ?_)
    repeat' first
      | refine J_seq ?_ | refine J_region Tryz.tyOK ?_ | refine J_block ?_ | refine J_cond ?_ | refine J_ret ?_ | refine J_skip ?_ | refine J_exit ?_ | refine J_scope ?_
      | refine CondP.yes (by omega) ?_ | refine CondP.no (by omega) ?_ | refine CondP.mk (fun h => ?_) (fun h => ?_) | refine EqP.mk rfl ?_ | refine NewP.mk (fun ad => ?_) | refine ArP.exact (by simp only [inR]; omega) ?_ | refine SideP.mk (by first | omega | (dsimp only; omega) | (simp; omega)) ?_
      | exact FinE.mk [] polNil.facts ⟨polNil, rfl, Nat.le_refl _, (P3B.nil _).more (by omega), rfl, rfl, rfl⟩ (Ents.dropAll.trans (Ents.facts fun m _ => polNil_facts m))
      | fail
  rw [if_neg hbig]
  have c1 := lines_ok s (by omega)
  have hsl := splitOn_length_le 10 s
  have hml := mem_splitOn_le 10 s
  generalize splitOn 10 s = ls at *
  generalize hV : finT (linesT ([], [], []) 0 ls) = res
  refine fn_of_J Tryz.tyOK 0 Tryz.func11 (by kernel_rfl) (c := Tryz.f11.body.getD .skip) (by kernel_rfl) Tryz.ntmps11 (rs := Tryz.f11.results.toList) rfl (by simp) (fun G => ?_)
  repeat' first
    | refine J_seq ?_ | refine J_region Tryz.tyOK ?_ | refine J_block ?_ | refine J_cond ?_ | refine J_ret ?_ | refine J_skip ?_ | refine J_exit ?_ | refine J_scope ?_
    | refine CondP.yes (by omega) ?_ | refine CondP.no (by omega) ?_ | refine CondP.mk (fun h => ?_) (fun h => ?_) | refine EqP.mk rfl ?_ | refine NewP.mk (fun ad => ?_) | refine ArP.exact (by simp only [inR]; omega) ?_ | refine SideP.mk (by first | omega | (dsimp only; omega) | (simp; omega)) ?_
    | refine CallP.mk [] _ [] _ c1 (List.Perm.refl _) (fun _ h => h) (fun v L' D' hp => ?_); obtain ⟨la, lc, rfl, rfl, rfl⟩ := hp
    | fail
  rename_i ad0
  refine J_loop (α := Nat × PolM) (fun x => [(2, .c (.p 0 ad0 0)), (5, .c (.p 1 ad 0)), (6, .c (.sl la ls.length lc)), (7, .c (.i .i64 x.1))]) (fun x => [.box 1 ad 27 x.2.cells, .box 0 ad0 27 polNil.cells]) (fun x => slFact 0 1 la ls.length (ls.map C.s) :: x.2.facts) 2
    (fun x => x.1 ≤ ls.length ∧ linesT ([], [], []) 0 ls = linesT x.2.p3 x.1 (ls.drop x.1) ∧ P3B 8192 x.1 x.2.p3 ∧ x.2.gs.length ≤ x.2.gc) (fun x => ls.length - x.1) (InFam.mk (0, polNil) ⟨Nat.zero_le _, rfl, P3B.nil _, Nat.le_refl _⟩ (by repeat' first | exact SubE.nil | refine SubE.cons rfl ?_ ?_ | exact VEq.refl _ | refine VEq.int (by omega) | refine VEq.sl rfl (by first | rfl | omega | (rw [List.length_append]; rfl) | (simp; omega)) rfl) ?_) (fun x hx => ?_)
  · exact Ents.toFact.trans (Ents.facts (D' := slFact 0 1 la ls.length (ls.map C.s) :: polNil.facts) fun m h => ⟨h.1, polNil_facts m⟩)
  obtain ⟨i, p⟩ := x
  dsimp only at hx ⊢
  obtain ⟨hi, he, hb, hgc⟩ := hx
  have hgl : p.gs.length ≤ i := by have := hb.gl; simpa [PolM.p3, gpOf] using this
  have hrl : p.rs.length ≤ i := hb.rl
  have hxl : p.xs.length ≤ i := hb.xl
  by_cases hlt : i < ls.length
  · have hcm := map_take1 (f := C.s) hlt
    have hle := hml _ (List.getElem_mem hlt)
    rw [List.drop_eq_getElem_cons hlt, linesT] at he
    generalize ls[i] = line at *
    have hB := hb.stmt (s := line) (by omega)
    have c2 := refStatement_ok p line (by omega) (by omega) (by omega) (by omega)
    have hrd : ∀ L, Reads L (slFact 0 1 la ls.length (ls.map C.s) :: p.facts) 0 1 la ls.length (ls.map C.s) := fun L => .inr fun m h => h.1
    generalize stmtT p.p3 line = r at *
    obtain ⟨ok, q⟩ := r
    dsimp only at *
    cases ok with
    | false =>
      rw [if_neg (by simp)] at he
      rw [he] at hV
      have hV' : res = (([], [], []), ((i + 1 : Nat) : Int), 1) := by rw [← hV]; simp [finT]
      subst hV'
      repeat' first
        | refine J_seq ?_ | refine J_region Tryz.tyOK ?_ | refine J_block ?_ | refine J_cond ?_ | refine J_ret ?_ | refine J_skip ?_ | refine J_exit ?_ | refine J_scope ?_
        | refine CondP.yes (by omega) ?_ | refine CondP.no (by omega) ?_ | refine CondP.mk (fun h => ?_) (fun h => ?_) | refine EqP.mk rfl ?_ | refine NewP.mk (fun ad => ?_) | refine ArP.exact (by simp only [inR]; omega) ?_ | refine SideP.mk (by first | omega | (dsimp only; omega) | (simp; omega)) ?_
        | refine J_drawT (id := 8) Tryz.tyOK (by kernel_rfl) [0, 0, 0, 6, 14, 31, 63, 127, 127, 0, 767, 2047] [0, 1, 2, 3, 4] 5 [6, 7, 8, 9, 10, 11] 9 [5, 6, 7, 8, 10, 11] [5, 9, 10] [5, 27] 12 true (by kernel_rfl) ?_ | refine TwoP.mk ?_ ?_ | refine EntP.mk (Ents.ofSub (by repeat (first | exact List.Sublist.slnil | refine List.Sublist.cons_cons _ ?_ | refine List.Sublist.cons _ ?_)) (by first | exact fun _ h => h | exact fun _ _ => trivial | exact fun _ h => h.2 | exact fun _ h => h.2.2.2.2 | exact fun _ h => ((allD_append _ _).1 h).2)) ?_ | refine IdxE.mk 0 1 _ (hrd _) (by omega) (by omega) ?_ | refine LoadE.mk 0 _ _ _ (hrd _) (by omega) (by omega) (by omega) hcm ?_ | refine CallP.mk [] _ p.facts _ c2 (List.Perm.refl _) (fun m h => h.2) (fun v L' D' hp => ?_); obtain ⟨p', hp3, hpc, rfl, rfl, rfl⟩ := hp | exact FinE.mk [] polNil.facts ⟨polNil, rfl, Nat.le_refl _, (P3B.nil _).more (by omega), rfl, rfl, rfl⟩ (Ents.dropAll.trans (Ents.facts fun m _ => polNil_facts m))
        | fail
    | true =>
      rw [if_pos rfl] at he
      repeat' first
        | refine J_seq ?_ | refine J_region Tryz.tyOK ?_ | refine J_block ?_ | refine J_cond ?_ | refine J_ret ?_ | refine J_skip ?_ | refine J_exit ?_ | refine J_scope ?_
        | refine CondP.yes (by omega) ?_ | refine CondP.no (by omega) ?_ | refine CondP.mk (fun h => ?_) (fun h => ?_) | refine EqP.mk rfl ?_ | refine NewP.mk (fun ad => ?_) | refine ArP.exact (by simp only [inR]; omega) ?_ | refine SideP.mk (by first | omega | (dsimp only; omega) | (simp; omega)) ?_
        | refine J_drawT (id := 8) Tryz.tyOK (by kernel_rfl) [0, 0, 0, 6, 14, 31, 63, 127, 127, 0, 767, 2047] [0, 1, 2, 3, 4] 5 [6, 7, 8, 9, 10, 11] 9 [5, 6, 7, 8, 10, 11] [5, 9, 10] [5, 27] 12 true (by kernel_rfl) ?_ | refine TwoP.mk ?_ ?_ | refine EntP.mk (Ents.ofSub (by repeat (first | exact List.Sublist.slnil | refine List.Sublist.cons_cons _ ?_ | refine List.Sublist.cons _ ?_)) (by first | exact fun _ h => h | exact fun _ _ => trivial | exact fun _ h => h.2 | exact fun _ h => h.2.2.2.2 | exact fun _ h => ((allD_append _ _).1 h).2)) ?_ | refine IdxE.mk 0 1 _ (hrd _) (by omega) (by omega) ?_ | refine LoadE.mk 0 _ _ _ (hrd _) (by omega) (by omega) (by omega) hcm ?_ | refine CallP.mk [] _ p.facts _ c2 (List.Perm.refl _) (fun m h => h.2) (fun v L' D' hp => ?_); obtain ⟨p', hp3, hpc, rfl, rfl, rfl⟩ := hp | refine Round.mk (i + 1, p') (by dsimp only; omega) ⟨by dsimp only; omega, ?_, ?_, hpc hgc⟩ (by repeat' first | exact SubE.nil | refine SubE.cons rfl ?_ ?_ | exact VEq.refl _ | refine VEq.int (by omega) | refine VEq.sl rfl (by first | rfl | omega | (rw [List.length_append]; rfl) | (simp; omega)) rfl) (Ents.drop.trans (Ents.facts fun m h => ⟨h.2.2.2.2.1, h.1, h.2.1, h.2.2.1, h.2.2.2.1, trivial⟩))
        | fail
      all_goals (dsimp only at hp3 ⊢; rw [hp3 rfl]; first | exact he | exact hB)
  · have hil : i = ls.length := by omega
    subst hil
    rw [List.drop_length, linesT] at he
    rw [he] at hV
    unfold finT at hV
    dsimp only at hV
    rw [if_neg (by simp)] at hV
    have c3 := refValidate_ok p (PolOK.of hb (by omega) (by omega) hgc)
    have hpv : validateT p.p3.1 p.p3.2.1 p.p3.2.2 = validateT (gpOf p.gs) p.rs p.xs := rfl
    rw [hpv] at hV
    have hbb := hb.more (m := 8193) (by omega)
    clear hlt he hml
    generalize validateT (gpOf p.gs) p.rs p.xs = e at *
    by_cases he0 : e = 0
    · rw [if_neg (by simpa using he0)] at hV; subst hV
      repeat' first
        | refine J_seq ?_ | refine J_region Tryz.tyOK ?_ | refine J_block ?_ | refine J_cond ?_ | refine J_ret ?_ | refine J_skip ?_ | refine J_exit ?_ | refine J_scope ?_
        | refine CondP.yes (by omega) ?_ | refine CondP.no (by omega) ?_ | refine CondP.mk (fun h => ?_) (fun h => ?_) | refine EqP.mk rfl ?_ | refine NewP.mk (fun ad => ?_) | refine ArP.exact (by simp only [inR]; omega) ?_ | refine SideP.mk (by first | omega | (dsimp only; omega) | (simp; omega)) ?_
        | refine CallP.is c3 ?_ (fun m h => h.2) | exact FinE.mk [] p.facts ⟨p, rfl, hgc, hbb, rfl, rfl, rfl⟩ (Ents.dropAll.trans (Ents.facts fun m h => h.2))
        | fail
    · rw [if_pos (by simpa using he0)] at hV; subst hV
      repeat' first
        | refine J_seq ?_ | refine J_region Tryz.tyOK ?_ | refine J_block ?_ | refine J_cond ?_ | refine J_ret ?_ | refine J_skip ?_ | refine J_exit ?_ | refine J_scope ?_
        | refine CondP.yes (by omega) ?_ | refine CondP.no (by omega) ?_ | refine CondP.mk (fun h => ?_) (fun h => ?_) | refine EqP.mk rfl ?_ | refine NewP.mk (fun ad => ?_) | refine ArP.exact (by simp only [inR]; omega) ?_ | refine SideP.mk (by first | omega | (dsimp only; omega) | (simp; omega)) ?_
        | refine CallP.is c3 ?_ (fun m h => h.2) | exact FinE.mk [] polNil.facts ⟨polNil, rfl, Nat.le_refl _, (P3B.nil _).more (by omega), rfl, rfl, rfl⟩ (Ents.dropAll.trans (Ents.facts fun m _ => polNil_facts m))
        | fail

end Go.Proofs
