/- This text walks through the program's writer on elements. · This text walks through the program's writer where marks are passed without being written. · This text says what the HTML of a whole document is, and how long it can be. · This text walks through the program's writer on one block, without its kids. · This text walks through the program's writer on blocks. -/
import Derived.Test.YtdnkeinjfddmnaaGreatDoorW12
set_option linter.all false
namespace Go.Proofs
open Go Go.X Go.Lib
set_option maxRecDepth 100000
def mkN (b : Bool) (m k : Nat) : Nat := if b then m + k else m
theorem mkN_zero (b : Bool) (m : Nat) : mkN b m 0 = m := by cases b <;> rfl
theorem mkN_add (b : Bool) (m j k : Nat) : mkN b m (j + k) = mkN b (mkN b m j) k := by cases b <;> simp [mkN, Nat.add_assoc]
theorem mkN_off (m k : Nat) : mkN false m k = m := rfl
theorem mkN_one (m : Nat) : ((mkN true m 1 : Nat) : Int) = (m : Int) + 1 := by simp [mkN]
theorem mkN_le (b : Bool) (m k : Nat) : mkN b m k ≤ m + k := by cases b <;> simp [mkN]
theorem Inl.ren_mk (W : RenW) (b : Bool) (m k : Nat) (x : Inl) : x.ren W b (m + k) = x.ren W b (mkN b m k) := by
  cases b with
  | true => rfl
  | false => exact Inl.ren_off W _ _ x
set_option maxHeartbeats 4000000 in
theorem winl_ok (K : WrK) (W : RenW) (hK : WrOk K W) (b : Bool) (h : Nat) (n : Nat) : ∀ (els : List Inl), inlBulk els = n → ∀ (ia : Option Addr) (ic : Nat) (u : Bool) (a : Option Addr) (c : Nat) (o : List UInt8) (m : Nat), BxI u a c o → n ≤ 1100000 → m + n ≤ 100000000 → (b = true → m + (inlMarks els).length ≤ W.ns.length) → o.length + 2000 * n ≤ 60000000000000 →
    FnS Tryz.prog 86 [.c (.p 0 K.ab 0), .c (.sl ia els.length ic), .c (.b b)] (wrM K W u a c o m h) [inlF ia els, noteF K W, tabF, gInt 0] (WrP K W (o ++ inlRen W b m els) (mkN b m (inlMarks els).length) h) := by
  induction n using Nat.strongRecOn with | _ n ih
  intro els hn ia ic u a c o m hi hnb hmb hns ho
  have hel := inlNodes_len els
  have hnn := inlNodes_bulk els
  have hrl := inlRen_le W hK.ns b m els (by omega)
  refine fn_of_J Tryz.tyOK 7000 Tryz.func86 (by kernel_rfl) (c := Tryz.f86.body.getD .skip) (by kernel_rfl) Tryz.ntmps86 (rs := Tryz.f86.results.toList) rfl (by simp) (fun G => ?_)
  repeat' first
    | refine J_seq ?_ | refine J_region Tryz.tyOK ?_ | refine J_block ?_ | refine J_cond ?_ | refine J_ret ?_ | refine J_skip ?_ | refine J_exit ?_ | refine J_scope ?_
    | refine CondP.yes (by omega) ?_ | refine CondP.no (by omega) ?_ | refine CondP.mk (fun h => ?_) (fun h => ?_) | refine EqP.mk rfl ?_ | refine NewP.mk (fun ad => ?_) | refine ArP.exact (by simp only [inR]; omega) ?_ | refine SideP.mk (by first | omega | (dsimp only; omega) | (simp; omega)) ?_
    | fail
  refine J_loop (α := Nat × List UInt8 × Bool × Option Addr × Nat) (fun x => [(0, .c (.p 0 K.ab 0)), (2, .c (.b b)), (10, .c (.sl ia els.length ic)), (11, lenV els.length), (12, .c (.i .i64 x.1))])
    (fun x => wrM K W x.2.2.1 x.2.2.2.1 x.2.2.2.2 x.2.1 (mkN b m (inlMarks (els.take x.1)).length) h) (fun _ => [inlF ia els, noteF K W, tabF, gInt 0]) 7000 (fun x => x.1 ≤ els.length ∧ x.2.1 = o ++ inlRen W b m (els.take x.1) ∧ BxI x.2.2.1 x.2.2.2.1 x.2.2.2.2 x.2.1) (fun x => els.length - x.1)
    (InFam.mk (0, o, u, a, c) ⟨Nat.zero_le _, by simp [inlRen], hi⟩ (by repeat' first | exact SubE.nil | refine SubE.cons rfl ?_ ?_ | exact VEq.refl _ | refine VEq.int (by omega) | refine VEq.sl rfl (by first | rfl | omega | (rw [List.length_append]; rfl) | (simp; omega)) rfl) (Ents.of (by simp [inlMarks, mkN_zero]))) (fun x hx => ?_)
  obtain ⟨i, w, u, a, c⟩ := x
  obtain ⟨hi, hw, hbi⟩ := hx
  dsimp only at hi hw hbi ⊢
  by_cases hlt : i < els.length
  · have hst := inlRen_succ W b m hlt
    have hms := inlMarks_succ hlt
    have hbs := inlBulk_succ hlt
    have hbt := inlBulk_take_le els (i + 1)
    have hbe := Inl.bulk_eq els[i]
    have hmt := inlMarks_bulk (els.take i)
    have hml := inl_len_bulk (inlMarks (els.take i))
    have hrt := inlRen_le W hK.ns b m (els.take i) (by omega)
    have hwl : w.length ≤ o.length + 600 * inlBulk (els.take i) := by rw [hw, List.length_append]; omega
    rw [Inl.ren_mk] at hst
    have hmk1 : mkN b m (inlMarks (els.take (i + 1))).length = mkN b (mkN b m (inlMarks (els.take i)).length) els[i].marks.length := by rw [hms, List.length_append, mkN_add]
    have hml2 := mkN_le b m (inlMarks (els.take i)).length
    have hstep : o ++ inlRen W b m (els.take (i + 1)) = w ++ els[i].ren W b (mkN b m (inlMarks (els.take i)).length) := by rw [hst, hw, List.append_assoc]
    have hns2 : b = true → mkN b m (inlMarks (els.take i)).length + els[i].marks.length ≤ W.ns.length := fun hb => by
      have h1 := hns hb
      have h2 : (inlMarks els).length = (inlMarks (els.take (i + 1))).length + (inlMarks (els.drop (i + 1))).length := by rw [← List.length_append, ← inlMarks_append, List.take_append_drop]
      rw [hms, List.length_append] at h2
      subst hb
      simp only [mkN, if_true]; omega
    have hfk := inl_kids (a := ia) hlt
    have hcg : ((inlC els).drop (i * 6 + 0)).take 6 = els[i].cells := inlC_get (o := 0) (k := 6) hlt (by omega)
    have hrd : ∀ L, Reads L [inlF ia els, noteF K W, tabF, gInt 0] 102 6 ia els.length (inlC els) := fun _ => inl_reads (fun _ h => ⟨h.1, trivial⟩)
    generalize mkN b m (inlMarks (els.take i)).length = mm at *
    rw [← hn] at hnb hmb ho
    have hca : els[i].kids ≠ [] ∨ True := .inr trivial
    have hkb : inlBulk els[i].kids < n := by omega
    have hcb := fun u' a' c' o' => ih (inlBulk els[i].kids) hkb els[i].kids rfl els[i].ka els[i].kc u' a' c' o' mm
    clear ih hst hms hca
    have hre := Inl.ren_eq W b mm els[i]
    have hmq := Inl.marks_eq els[i]
    generalize els[i] = x at *
    unfold Inl.cells at hcg
    have hrk := inlRen_le W hK.ns b mm x.kids (by omega)
    have hml3 := mkN_le b mm (inlMarks x.kids).length
    unfold wrM wrR
    by_cases k1 : x.kind = 1
    · rw [if_pos k1] at hre
      rw [if_neg (by omega), if_neg (by omega)] at hmq
      have hes := escape_ok x.text (by omega)
      have hel2 := escT_le x.text
      have s1 := fun u' a' c' (hi' : BxI u' a' c' (w)) => bxString_ok 0 K.ab 87 u' a' c' (w) (escT x.text) [.m 1 K.am, .sl K.na W.ns.length K.nc, .i .i64 (mm : Nat), .sl K.ea K.en K.ec, .i .i64 h] btyW hi' (by first | omega | (simp; omega))
      repeat' first
        | refine J_seq ?_ | refine J_region Tryz.tyOK ?_ | refine J_block ?_ | refine J_cond ?_ | refine J_ret ?_ | refine J_skip ?_ | refine J_exit ?_ | refine J_scope ?_
        | refine CondP.yes (by omega) ?_ | refine CondP.no (by omega) ?_ | refine CondP.mk (fun h => ?_) (fun h => ?_) | refine EqP.mk rfl ?_ | refine NewP.mk (fun ad => ?_) | refine ArP.exact (by simp only [inR]; omega) ?_ | refine SideP.mk (by first | omega | (dsimp only; omega) | (simp; omega)) ?_
        | refine J_drawS (id := 5) Tryz.tyOK (by kernel_rfl) [0, 1, 3, 0, 8, 24, 63] [0, 1, 2, 3, 4, 5, 6] [5, 6] [7] false (by kernel_rfl) ?_ | refine J_drawS (id := 21) Tryz.tyOK (by kernel_rfl) [0, 1, 3, 7, 15, 0, 32, 96, 224, 0, 512, 1536, 3584, 7680, 16352, 32736, 65535, 131071, 262143] [0, 1, 2, 3, 5, 6, 7, 8, 9, 10, 11, 12, 13, 14, 15, 4, 16, 17, 18] [4, 16] [0, 93] false (by kernel_rfl) ?_ | refine EntP.mk (Ents.ofSub (by repeat (first | exact keepC_sub _ _ _ | exact List.Sublist.slnil | refine List.Sublist.cons_cons _ ?_ | refine List.Sublist.cons _ ?_)) (by first | exact fun _ h => h | exact fun _ _ => trivial | exact fun _ h => h.2 | exact fun _ h => h.2.2.2.2 | exact fun _ h => h.2.2 | exact fun _ h => h.2.2.2 | exact fun _ h => h.2.2.2.2.2 | exact fun _ h => h.2.2.2.2.2.2 | exact fun _ h => h.2.2.2.2.2.2.2 | exact fun _ h => h.2.2.2.2.2.2.2.2 | exact fun _ h => h.2.2.2.2.2.2.2.2.2 | exact fun _ h => h.2.2.2.2.2.2.2.2.2.2 | exact fun _ h => ((allD_append _ _).1 h).2)) ?_ | refine IdxE.mk 102 6 _ (hrd _) (by omega) (by omega) ?_ | refine LoadE.mk 102 els.length _ _ (hrd _) (by omega) (by omega) (by decide) (by exact hcg) ?_ | refine CallP.is hes ?_ (fun _ _ => trivial) | (refine CallP.mk _ [_, _] [] _ (s1 _ _ _ hbi) ((List.perm_append_comm (l₁ := [_]) (l₂ := [_, _])).append_right [_]) (fun _ _ => trivial) (fun v L' D' hp => ?_); obtain ⟨u1, a1, c1, hi1, rfl, rfl, rfl⟩ := hp)
        | fail
      exact Round.mk (i + 1, w ++ escT x.text, u1, a1, c1) (by dsimp only; omega) ⟨by dsimp only; omega, by dsimp only; rw [hstep, hre]; first | done | simp only [List.append_assoc, List.append_nil], hi1⟩ (by repeat' first | exact SubE.nil | refine SubE.cons rfl ?_ ?_ | exact VEq.refl _ | refine VEq.int (by omega)) (by
        dsimp only; rw [hmk1, hmq]; (first | simp only [List.length_nil, mkN_zero] | skip); exact Ents.sub ⟨[_], (List.perm_append_comm (l₁ := [_, _]) (l₂ := [_])).append_right [_]⟩)
    rw [if_neg k1] at hre
    by_cases k2 : x.kind = 2
    · rw [if_pos k2] at hre
      rw [if_neg (by omega), if_pos (by omega)] at hmq
      rw [hmq] at hns2
      have hcc := fun u' a' c' (hi' : BxI u' a' c' (w ++ [60, 98, 62])) => hcb u' a' c' (w ++ [60, 98, 62]) hi' (by omega) (by omega) hns2 (by simp; omega)
      unfold wrM wrR at hcc
      have s2 := hcc
      have s1 := fun u' a' c' (hi' : BxI u' a' c' (w)) => bxString_ok 0 K.ab 87 u' a' c' (w) [60, 98, 62] [.m 1 K.am, .sl K.na W.ns.length K.nc, .i .i64 (mm : Nat), .sl K.ea K.en K.ec, .i .i64 h] btyW hi' (by first | omega | (simp; omega))
      have s3 := fun u' a' c' (hi' : BxI u' a' c' (w ++ [60, 98, 62] ++ inlRen W b mm x.kids)) => bxString_ok 0 K.ab 87 u' a' c' (w ++ [60, 98, 62] ++ inlRen W b mm x.kids) [60, 47, 98, 62] [.m 1 K.am, .sl K.na W.ns.length K.nc, .i .i64 (mkN b mm (inlMarks x.kids).length : Nat), .sl K.ea K.en K.ec, .i .i64 h] btyW hi' (by first | omega | (simp; omega))
      repeat' first
        | refine J_seq ?_ | refine J_region Tryz.tyOK ?_ | refine J_block ?_ | refine J_cond ?_ | refine J_ret ?_ | refine J_skip ?_ | refine J_exit ?_ | refine J_scope ?_
        | refine CondP.yes (by omega) ?_ | refine CondP.no (by omega) ?_ | refine CondP.mk (fun h => ?_) (fun h => ?_) | refine EqP.mk rfl ?_ | refine NewP.mk (fun ad => ?_) | refine ArP.exact (by simp only [inR]; omega) ?_ | refine SideP.mk (by first | omega | (dsimp only; omega) | (simp; omega)) ?_
        | refine J_drawS (id := 5) Tryz.tyOK (by kernel_rfl) [0, 1, 3, 0, 8, 24, 63] [0, 1, 2, 3, 4, 5, 6] [5, 6] [7] false (by kernel_rfl) ?_ | refine J_drawS (id := 21) Tryz.tyOK (by kernel_rfl) [0, 1, 3, 7, 15, 0, 32, 96, 224, 0, 512, 1536, 3584, 7680, 16352, 32736, 65535, 131071, 262143] [0, 1, 2, 3, 5, 6, 7, 8, 9, 10, 11, 12, 13, 14, 15, 4, 16, 17, 18] [4, 16] [0, 93] false (by kernel_rfl) ?_ | refine EntP.mk (Ents.ofSub (by repeat (first | exact keepC_sub _ _ _ | exact List.Sublist.slnil | refine List.Sublist.cons_cons _ ?_ | refine List.Sublist.cons _ ?_)) (by first | exact fun _ h => h | exact fun _ _ => trivial | exact fun _ h => h.2 | exact fun _ h => h.2.2.2.2 | exact fun _ h => h.2.2 | exact fun _ h => h.2.2.2 | exact fun _ h => h.2.2.2.2.2 | exact fun _ h => h.2.2.2.2.2.2 | exact fun _ h => h.2.2.2.2.2.2.2 | exact fun _ h => h.2.2.2.2.2.2.2.2 | exact fun _ h => h.2.2.2.2.2.2.2.2.2 | exact fun _ h => h.2.2.2.2.2.2.2.2.2.2 | exact fun _ h => ((allD_append _ _).1 h).2)) ?_ | refine IdxE.mk 102 6 _ (hrd _) (by omega) (by omega) ?_ | refine LoadE.mk 102 els.length _ _ (hrd _) (by omega) (by omega) (by decide) (by exact hcg) ?_ | (refine CallP.mk _ [_, _] [] _ (s1 _ _ _ hbi) ((List.perm_append_comm (l₁ := [_]) (l₂ := [_, _])).append_right [_]) (fun _ _ => trivial) (fun v L' D' hp => ?_); obtain ⟨u1, a1, c1, hi1, rfl, rfl, rfl⟩ := hp) | (refine CallP.mk _ [_] [inlF x.ka x.kids, noteF K W, tabF, gInt 0] _ (s2 _ _ _ hi1) ((List.Perm.swap _ _ _).append_left [_, _]) (fun m h => ⟨(hfk m ⟨h.1, trivial⟩).1, h.2⟩) (fun v L' D' hp => ?_); obtain ⟨u2, a2, c2, hi2, rfl, rfl, rfl⟩ := hp; unfold wrM wrR) | (refine CallP.mk _ [_, _] [] _ (s3 _ _ _ hi2) (List.Perm.refl _) (fun _ _ => trivial) (fun v L' D' hp => ?_); obtain ⟨u3, a3, c3, hi3, rfl, rfl, rfl⟩ := hp)
        | fail
      exact Round.mk (i + 1, w ++ [60, 98, 62] ++ inlRen W b mm x.kids ++ [60, 47, 98, 62], u3, a3, c3) (by dsimp only; omega) ⟨by dsimp only; omega, by dsimp only; rw [hstep, hre]; first | done | simp only [List.append_assoc, List.append_nil], hi3⟩ (by repeat' first | exact SubE.nil | refine SubE.cons rfl ?_ ?_ | exact VEq.refl _ | refine VEq.int (by omega)) (by
        dsimp only; rw [hmk1, hmq]; (first | simp only [List.length_nil, mkN_zero] | skip); exact Ents.sub ⟨[_], List.perm_append_comm (l₁ := [_, _, _]) (l₂ := [_])⟩)
    rw [if_neg k2] at hre
    by_cases k3 : x.kind = 3
    · rw [if_pos k3] at hre
      rw [if_neg (by omega), if_pos (by omega)] at hmq
      rw [hmq] at hns2
      have hcc := fun u' a' c' (hi' : BxI u' a' c' (w ++ [60, 105, 62])) => hcb u' a' c' (w ++ [60, 105, 62]) hi' (by omega) (by omega) hns2 (by simp; omega)
      unfold wrM wrR at hcc
      have s2 := hcc
      have s1 := fun u' a' c' (hi' : BxI u' a' c' (w)) => bxString_ok 0 K.ab 87 u' a' c' (w) [60, 105, 62] [.m 1 K.am, .sl K.na W.ns.length K.nc, .i .i64 (mm : Nat), .sl K.ea K.en K.ec, .i .i64 h] btyW hi' (by first | omega | (simp; omega))
      have s3 := fun u' a' c' (hi' : BxI u' a' c' (w ++ [60, 105, 62] ++ inlRen W b mm x.kids)) => bxString_ok 0 K.ab 87 u' a' c' (w ++ [60, 105, 62] ++ inlRen W b mm x.kids) [60, 47, 105, 62] [.m 1 K.am, .sl K.na W.ns.length K.nc, .i .i64 (mkN b mm (inlMarks x.kids).length : Nat), .sl K.ea K.en K.ec, .i .i64 h] btyW hi' (by first | omega | (simp; omega))
      repeat' first
        | refine J_seq ?_ | refine J_region Tryz.tyOK ?_ | refine J_block ?_ | refine J_cond ?_ | refine J_ret ?_ | refine J_skip ?_ | refine J_exit ?_ | refine J_scope ?_
        | refine CondP.yes (by omega) ?_ | refine CondP.no (by omega) ?_ | refine CondP.mk (fun h => ?_) (fun h => ?_) | refine EqP.mk rfl ?_ | refine NewP.mk (fun ad => ?_) | refine ArP.exact (by simp only [inR]; omega) ?_ | refine SideP.mk (by first | omega | (dsimp only; omega) | (simp; omega)) ?_
        | refine J_drawS (id := 5) Tryz.tyOK (by kernel_rfl) [0, 1, 3, 0, 8, 24, 63] [0, 1, 2, 3, 4, 5, 6] [5, 6] [7] false (by kernel_rfl) ?_ | refine J_drawS (id := 21) Tryz.tyOK (by kernel_rfl) [0, 1, 3, 7, 15, 0, 32, 96, 224, 0, 512, 1536, 3584, 7680, 16352, 32736, 65535, 131071, 262143] [0, 1, 2, 3, 5, 6, 7, 8, 9, 10, 11, 12, 13, 14, 15, 4, 16, 17, 18] [4, 16] [0, 93] false (by kernel_rfl) ?_ | refine EntP.mk (Ents.ofSub (by repeat (first | exact keepC_sub _ _ _ | exact List.Sublist.slnil | refine List.Sublist.cons_cons _ ?_ | refine List.Sublist.cons _ ?_)) (by first | exact fun _ h => h | exact fun _ _ => trivial | exact fun _ h => h.2 | exact fun _ h => h.2.2.2.2 | exact fun _ h => h.2.2 | exact fun _ h => h.2.2.2 | exact fun _ h => h.2.2.2.2.2 | exact fun _ h => h.2.2.2.2.2.2 | exact fun _ h => h.2.2.2.2.2.2.2 | exact fun _ h => h.2.2.2.2.2.2.2.2 | exact fun _ h => h.2.2.2.2.2.2.2.2.2 | exact fun _ h => h.2.2.2.2.2.2.2.2.2.2 | exact fun _ h => ((allD_append _ _).1 h).2)) ?_ | refine IdxE.mk 102 6 _ (hrd _) (by omega) (by omega) ?_ | refine LoadE.mk 102 els.length _ _ (hrd _) (by omega) (by omega) (by decide) (by exact hcg) ?_ | (refine CallP.mk _ [_, _] [] _ (s1 _ _ _ hbi) ((List.perm_append_comm (l₁ := [_]) (l₂ := [_, _])).append_right [_]) (fun _ _ => trivial) (fun v L' D' hp => ?_); obtain ⟨u1, a1, c1, hi1, rfl, rfl, rfl⟩ := hp) | (refine CallP.mk _ [_] [inlF x.ka x.kids, noteF K W, tabF, gInt 0] _ (s2 _ _ _ hi1) ((List.Perm.swap _ _ _).append_left [_, _]) (fun m h => ⟨(hfk m ⟨h.1, trivial⟩).1, h.2⟩) (fun v L' D' hp => ?_); obtain ⟨u2, a2, c2, hi2, rfl, rfl, rfl⟩ := hp; unfold wrM wrR) | (refine CallP.mk _ [_, _] [] _ (s3 _ _ _ hi2) (List.Perm.refl _) (fun _ _ => trivial) (fun v L' D' hp => ?_); obtain ⟨u3, a3, c3, hi3, rfl, rfl, rfl⟩ := hp)
        | fail
      exact Round.mk (i + 1, w ++ [60, 105, 62] ++ inlRen W b mm x.kids ++ [60, 47, 105, 62], u3, a3, c3) (by dsimp only; omega) ⟨by dsimp only; omega, by dsimp only; rw [hstep, hre]; first | done | simp only [List.append_assoc, List.append_nil], hi3⟩ (by repeat' first | exact SubE.nil | refine SubE.cons rfl ?_ ?_ | exact VEq.refl _ | refine VEq.int (by omega)) (by
        dsimp only; rw [hmk1, hmq]; (first | simp only [List.length_nil, mkN_zero] | skip); exact Ents.sub ⟨[_], List.perm_append_comm (l₁ := [_, _, _]) (l₂ := [_])⟩)
    rw [if_neg k3] at hre
    by_cases k4 : x.kind = 4
    · rw [if_pos k4] at hre
      rw [if_neg (by omega), if_pos (by omega)] at hmq
      rw [hmq] at hns2
      have hb9 : x.bulk ≤ 1100000 := by omega
      have sl := link_ok K W hK b x mm h (mkN b mm (inlMarks x.kids).length) hb9 [inlF ia els, noteF K W, tabF, gInt 0] (fun m h => ⟨(hfk m ⟨h.1, trivial⟩).1, h.2⟩) (60000000000000 - 2000 * inlBulk x.kids) (by omega)
        (fun u' a' c' o' hi' ho' => hcb u' a' c' o' hi' (by omega) (by omega) hns2 (by omega)) (by omega) u a c w hbi (by omega)
      unfold wrM wrR Inl.cells at sl
      repeat' first
        | refine J_seq ?_ | refine J_region Tryz.tyOK ?_ | refine J_block ?_ | refine J_cond ?_ | refine J_ret ?_ | refine J_skip ?_ | refine J_exit ?_ | refine J_scope ?_
        | refine CondP.yes (by omega) ?_ | refine CondP.no (by omega) ?_ | refine CondP.mk (fun h => ?_) (fun h => ?_) | refine EqP.mk rfl ?_ | refine NewP.mk (fun ad => ?_) | refine ArP.exact (by simp only [inR]; omega) ?_ | refine SideP.mk (by first | omega | (dsimp only; omega) | (simp; omega)) ?_
        | refine J_drawS (id := 5) Tryz.tyOK (by kernel_rfl) [0, 1, 3, 0, 8, 24, 63] [0, 1, 2, 3, 4, 5, 6] [5, 6] [7] false (by kernel_rfl) ?_ | refine J_drawS (id := 21) Tryz.tyOK (by kernel_rfl) [0, 1, 3, 7, 15, 0, 32, 96, 224, 0, 512, 1536, 3584, 7680, 16352, 32736, 65535, 131071, 262143] [0, 1, 2, 3, 5, 6, 7, 8, 9, 10, 11, 12, 13, 14, 15, 4, 16, 17, 18] [4, 16] [0, 93] false (by kernel_rfl) ?_ | refine EntP.mk (Ents.ofSub (by repeat (first | exact keepC_sub _ _ _ | exact List.Sublist.slnil | refine List.Sublist.cons_cons _ ?_ | refine List.Sublist.cons _ ?_)) (by first | exact fun _ h => h | exact fun _ _ => trivial | exact fun _ h => h.2 | exact fun _ h => h.2.2.2.2 | exact fun _ h => h.2.2 | exact fun _ h => h.2.2.2 | exact fun _ h => h.2.2.2.2.2 | exact fun _ h => h.2.2.2.2.2.2 | exact fun _ h => h.2.2.2.2.2.2.2 | exact fun _ h => h.2.2.2.2.2.2.2.2 | exact fun _ h => h.2.2.2.2.2.2.2.2.2 | exact fun _ h => h.2.2.2.2.2.2.2.2.2.2 | exact fun _ h => ((allD_append _ _).1 h).2)) ?_ | refine IdxE.mk 102 6 _ (hrd _) (by omega) (by omega) ?_ | refine LoadE.mk 102 els.length _ _ (hrd _) (by omega) (by omega) (by decide) (by exact hcg) ?_ | (refine CallP.mk _ [_] [inlF ia els, noteF K W, tabF, gInt 0] _ sl (List.perm_append_comm (l₁ := [_]) (l₂ := [_, _, _])) (fun _ h => h) (fun v L' D' hp => ?_); obtain ⟨u1, a1, c1, hi1, rfl, rfl, rfl⟩ := hp; unfold wrM wrR)
        | fail
      exact Round.mk (i + 1, w ++ lnkOpen (W.P (x.sp, x.name)) (lnkPath x.sp x.name x.anchor) ++ inlRen W b mm x.kids ++ [60, 47, 97, 62], u1, a1, c1) (by dsimp only; omega) ⟨by dsimp only; omega, by dsimp only; rw [hstep, hre]; first | done | simp only [List.append_assoc, List.append_nil], hi1⟩ (by repeat' first | exact SubE.nil | refine SubE.cons rfl ?_ ?_ | exact VEq.refl _ | refine VEq.int (by omega)) (by
        dsimp only; rw [hmk1, hmq]; (first | simp only [List.length_nil, mkN_zero] | skip); exact Ents.sub ⟨[_], List.perm_append_comm (l₁ := [_, _, _]) (l₂ := [_])⟩)
    rw [if_neg k4] at hre
    by_cases k6 : x.kind = 6
    · rw [if_neg (by omega), if_pos k6] at hre
      rw [if_neg (by omega), if_neg (by omega)] at hmq
      have s1 := fun u' a' c' (hi' : BxI u' a' c' (w)) => bxString_ok 0 K.ab 87 u' a' c' (w) [60, 98, 114, 62] [.m 1 K.am, .sl K.na W.ns.length K.nc, .i .i64 (mm : Nat), .sl K.ea K.en K.ec, .i .i64 h] btyW hi' (by first | omega | (simp; omega))
      repeat' first
        | refine J_seq ?_ | refine J_region Tryz.tyOK ?_ | refine J_block ?_ | refine J_cond ?_ | refine J_ret ?_ | refine J_skip ?_ | refine J_exit ?_ | refine J_scope ?_
        | refine CondP.yes (by omega) ?_ | refine CondP.no (by omega) ?_ | refine CondP.mk (fun h => ?_) (fun h => ?_) | refine EqP.mk rfl ?_ | refine NewP.mk (fun ad => ?_) | refine ArP.exact (by simp only [inR]; omega) ?_ | refine SideP.mk (by first | omega | (dsimp only; omega) | (simp; omega)) ?_
        | refine J_drawS (id := 5) Tryz.tyOK (by kernel_rfl) [0, 1, 3, 0, 8, 24, 63] [0, 1, 2, 3, 4, 5, 6] [5, 6] [7] false (by kernel_rfl) ?_ | refine J_drawS (id := 21) Tryz.tyOK (by kernel_rfl) [0, 1, 3, 7, 15, 0, 32, 96, 224, 0, 512, 1536, 3584, 7680, 16352, 32736, 65535, 131071, 262143] [0, 1, 2, 3, 5, 6, 7, 8, 9, 10, 11, 12, 13, 14, 15, 4, 16, 17, 18] [4, 16] [0, 93] false (by kernel_rfl) ?_ | refine EntP.mk (Ents.ofSub (by repeat (first | exact keepC_sub _ _ _ | exact List.Sublist.slnil | refine List.Sublist.cons_cons _ ?_ | refine List.Sublist.cons _ ?_)) (by first | exact fun _ h => h | exact fun _ _ => trivial | exact fun _ h => h.2 | exact fun _ h => h.2.2.2.2 | exact fun _ h => h.2.2 | exact fun _ h => h.2.2.2 | exact fun _ h => h.2.2.2.2.2 | exact fun _ h => h.2.2.2.2.2.2 | exact fun _ h => h.2.2.2.2.2.2.2 | exact fun _ h => h.2.2.2.2.2.2.2.2 | exact fun _ h => h.2.2.2.2.2.2.2.2.2 | exact fun _ h => h.2.2.2.2.2.2.2.2.2.2 | exact fun _ h => ((allD_append _ _).1 h).2)) ?_ | refine IdxE.mk 102 6 _ (hrd _) (by omega) (by omega) ?_ | refine LoadE.mk 102 els.length _ _ (hrd _) (by omega) (by omega) (by decide) (by exact hcg) ?_ | (refine CallP.mk _ [_, _] [] _ (s1 _ _ _ hbi) ((List.perm_append_comm (l₁ := [_]) (l₂ := [_, _])).append_right [_]) (fun _ _ => trivial) (fun v L' D' hp => ?_); obtain ⟨u1, a1, c1, hi1, rfl, rfl, rfl⟩ := hp)
        | fail
      exact Round.mk (i + 1, w ++ [60, 98, 114, 62], u1, a1, c1) (by dsimp only; omega) ⟨by dsimp only; omega, by dsimp only; rw [hstep, hre]; first | done | simp only [List.append_assoc, List.append_nil], hi1⟩ (by repeat' first | exact SubE.nil | refine SubE.cons rfl ?_ ?_ | exact VEq.refl _ | refine VEq.int (by omega)) (by
        dsimp only; rw [hmk1, hmq]; (first | simp only [List.length_nil, mkN_zero] | skip); exact Ents.sub ⟨[_], (List.perm_append_comm (l₁ := [_, _]) (l₂ := [_])).append_right [_]⟩)
    by_cases k5 : x.kind = 5
    · rw [if_pos k5] at hre hmq
      cases b with
      | false =>
        rw [if_neg (by decide)] at hre
        repeat' first
          | refine J_seq ?_ | refine J_region Tryz.tyOK ?_ | refine J_block ?_ | refine J_cond ?_ | refine J_ret ?_ | refine J_skip ?_ | refine J_exit ?_ | refine J_scope ?_
          | refine CondP.yes (by omega) ?_ | refine CondP.no (by omega) ?_ | refine CondP.mk (fun h => ?_) (fun h => ?_) | refine EqP.mk rfl ?_ | refine NewP.mk (fun ad => ?_) | refine ArP.exact (by simp only [inR]; omega) ?_ | refine SideP.mk (by first | omega | (dsimp only; omega) | (simp; omega)) ?_
          | refine J_drawS (id := 5) Tryz.tyOK (by kernel_rfl) [0, 1, 3, 0, 8, 24, 63] [0, 1, 2, 3, 4, 5, 6] [5, 6] [7] false (by kernel_rfl) ?_ | refine J_drawS (id := 21) Tryz.tyOK (by kernel_rfl) [0, 1, 3, 7, 15, 0, 32, 96, 224, 0, 512, 1536, 3584, 7680, 16352, 32736, 65535, 131071, 262143] [0, 1, 2, 3, 5, 6, 7, 8, 9, 10, 11, 12, 13, 14, 15, 4, 16, 17, 18] [4, 16] [0, 93] false (by kernel_rfl) ?_ | refine EntP.mk (Ents.ofSub (by repeat (first | exact keepC_sub _ _ _ | exact List.Sublist.slnil | refine List.Sublist.cons_cons _ ?_ | refine List.Sublist.cons _ ?_)) (by first | exact fun _ h => h | exact fun _ _ => trivial | exact fun _ h => h.2 | exact fun _ h => h.2.2.2.2 | exact fun _ h => h.2.2 | exact fun _ h => h.2.2.2 | exact fun _ h => h.2.2.2.2.2 | exact fun _ h => h.2.2.2.2.2.2 | exact fun _ h => h.2.2.2.2.2.2.2 | exact fun _ h => h.2.2.2.2.2.2.2.2 | exact fun _ h => h.2.2.2.2.2.2.2.2.2 | exact fun _ h => h.2.2.2.2.2.2.2.2.2.2 | exact fun _ h => ((allD_append _ _).1 h).2)) ?_ | refine IdxE.mk 102 6 _ (hrd _) (by omega) (by omega) ?_ | refine LoadE.mk 102 els.length _ _ (hrd _) (by omega) (by omega) (by decide) (by exact hcg) ?_
          | fail
        exact Round.mk (i + 1, w, u, a, c) (by dsimp only; omega) ⟨by dsimp only; omega, by dsimp only; rw [hstep, hre]; first | done | simp only [List.append_assoc, List.append_nil], hbi⟩ (by repeat' first | exact SubE.nil | refine SubE.cons rfl ?_ ?_ | exact VEq.refl _ | refine VEq.int (by omega)) (by
          dsimp only; rw [hmk1, hmq]; (rw [mkN_off]); exact Ents.sub ⟨[_], List.Perm.refl _⟩)
      | true =>
        rw [if_pos rfl] at hre
        rw [hmq] at hns2
        have hnl : mm < W.ns.length := hns2 rfl
        have hjb := getD_b hK.ns mm
        have hgn : ((W.ns.map (C.i .i64)).drop (((mm : Int) + 1 - 1).toNat * 1 + 0)).take 1 = [.i .i64 (W.ns.getD mm 0)] := by
          rw [show ((mm : Int) + 1 - 1).toNat * 1 + 0 = mm by omega, ← List.map_drop, ← List.map_take, List.drop_eq_getElem_cons hnl, List.getD_eq_getElem?_getD, List.getElem?_eq_getElem hnl]; rfl
        have hrn : ∀ L, Reads L [inlF ia els, noteF K W, tabF, gInt 0] 3 1 K.na W.ns.length (W.ns.map (C.i .i64)) := fun _ => .inr fun m hm => hm.2.1
        generalize W.ns.getD mm 0 = j at *
        have hi1 := itoaBig_ok ((mm : Int) + 1) (by omega) (by omega)
        have hi2 := itoaBig_ok j (by omega) (by omega)
        have il1 := itoa_le (n := (mm : Int) + 1) (by omega) (by omega)
        have il2 := itoa_le (n := j) (by omega) (by omega)
        have hsl := supT_le (k := (mm : Int) + 1) (j := j) (by omega) (by omega) (by omega) (by omega)
        have s1 := fun u' a' c' (hi' : BxI u' a' c' (w)) => bxString_ok 0 K.ab 87 u' a' c' (w) (supT ((mm : Int) + 1) j) [.m 1 K.am, .sl K.na W.ns.length K.nc, .i .i64 ((mm : Int) + 1), .sl K.ea K.en K.ec, .i .i64 h] btyW hi' (by omega)
        repeat' first
          | refine J_seq ?_ | refine J_region Tryz.tyOK ?_ | refine J_block ?_ | refine J_cond ?_ | refine J_ret ?_ | refine J_skip ?_ | refine J_exit ?_ | refine J_scope ?_
          | refine CondP.yes (by omega) ?_ | refine CondP.no (by omega) ?_ | refine CondP.mk (fun h => ?_) (fun h => ?_) | refine EqP.mk rfl ?_ | refine NewP.mk (fun ad => ?_) | refine ArP.exact (by simp only [inR]; omega) ?_ | refine SideP.mk (by first | omega | (dsimp only; omega) | (simp; omega)) ?_
          | refine J_drawS (id := 5) Tryz.tyOK (by kernel_rfl) [0, 1, 3, 0, 8, 24, 63] [0, 1, 2, 3, 4, 5, 6] [5, 6] [7] false (by kernel_rfl) ?_ | refine J_drawS (id := 21) Tryz.tyOK (by kernel_rfl) [0, 1, 3, 7, 15, 0, 32, 96, 224, 0, 512, 1536, 3584, 7680, 16352, 32736, 65535, 131071, 262143] [0, 1, 2, 3, 5, 6, 7, 8, 9, 10, 11, 12, 13, 14, 15, 4, 16, 17, 18] [4, 16] [0, 93] false (by kernel_rfl) ?_ | refine EntP.mk (Ents.ofSub (by repeat (first | exact keepC_sub _ _ _ | exact List.Sublist.slnil | refine List.Sublist.cons_cons _ ?_ | refine List.Sublist.cons _ ?_)) (by first | exact fun _ h => h | exact fun _ _ => trivial | exact fun _ h => h.2 | exact fun _ h => h.2.2.2.2 | exact fun _ h => h.2.2 | exact fun _ h => h.2.2.2 | exact fun _ h => h.2.2.2.2.2 | exact fun _ h => h.2.2.2.2.2.2 | exact fun _ h => h.2.2.2.2.2.2.2 | exact fun _ h => h.2.2.2.2.2.2.2.2 | exact fun _ h => h.2.2.2.2.2.2.2.2.2 | exact fun _ h => h.2.2.2.2.2.2.2.2.2.2 | exact fun _ h => ((allD_append _ _).1 h).2)) ?_ | refine IdxE.mk 102 6 _ (hrd _) (by omega) (by omega) ?_ | refine LoadE.mk 102 els.length _ _ (hrd _) (by omega) (by omega) (by decide) (by exact hcg) ?_ | refine IdxE.mk 3 1 _ (hrn _) (by omega) (by omega) ?_ | refine LoadE.mk 3 W.ns.length _ _ (hrn _) (by omega) (by omega) (by decide) (by exact hgn) ?_ | refine CallP.is hi1 ?_ (fun _ h => ⟨h.2.2.1, trivial⟩) | refine CallP.is hi2 ?_ (fun _ h => ⟨h.2.2.1, trivial⟩) | (refine CallP.mk _ [_, _] [] _ (s1 _ _ _ hbi) ((List.perm_append_comm (l₁ := [_]) (l₂ := [_, _])).append_right [_]) (fun _ _ => trivial) (fun v L' D' hp => ?_); obtain ⟨u1, a1, c1, hi1, rfl, rfl, rfl⟩ := hp)
          | fail
        exact Round.mk (i + 1, w ++ supT ((mm : Int) + 1) j, u1, a1, c1) (by dsimp only; omega) ⟨by dsimp only; omega, by dsimp only; rw [hstep, hre]; first | done | simp only [List.append_assoc, List.append_nil], hi1⟩ (by repeat' first | exact SubE.nil | refine SubE.cons rfl ?_ ?_ | exact VEq.refl _ | refine VEq.int (by omega)) (by
          dsimp only; rw [hmk1, hmq]; (rw [List.length_singleton]; show Ents _ _ (bx _ _ _ _ _ _ _ [_, _, .i .i64 ((mkN true mm 1 : Nat) : Int), _, _] ++ _) _; rw [mkN_one]); exact Ents.sub ⟨[_], (List.perm_append_comm (l₁ := [_, _]) (l₂ := [_])).append_right [_]⟩)
    · rw [if_neg k5, if_neg k6] at hre
      rw [if_neg k5, if_neg (by omega)] at hmq
      repeat' first
        | refine J_seq ?_ | refine J_region Tryz.tyOK ?_ | refine J_block ?_ | refine J_cond ?_ | refine J_ret ?_ | refine J_skip ?_ | refine J_exit ?_ | refine J_scope ?_
        | refine CondP.yes (by omega) ?_ | refine CondP.no (by omega) ?_ | refine CondP.mk (fun h => ?_) (fun h => ?_) | refine EqP.mk rfl ?_ | refine NewP.mk (fun ad => ?_) | refine ArP.exact (by simp only [inR]; omega) ?_ | refine SideP.mk (by first | omega | (dsimp only; omega) | (simp; omega)) ?_
        | refine J_drawS (id := 5) Tryz.tyOK (by kernel_rfl) [0, 1, 3, 0, 8, 24, 63] [0, 1, 2, 3, 4, 5, 6] [5, 6] [7] false (by kernel_rfl) ?_ | refine J_drawS (id := 21) Tryz.tyOK (by kernel_rfl) [0, 1, 3, 7, 15, 0, 32, 96, 224, 0, 512, 1536, 3584, 7680, 16352, 32736, 65535, 131071, 262143] [0, 1, 2, 3, 5, 6, 7, 8, 9, 10, 11, 12, 13, 14, 15, 4, 16, 17, 18] [4, 16] [0, 93] false (by kernel_rfl) ?_ | refine EntP.mk (Ents.ofSub (by repeat (first | exact keepC_sub _ _ _ | exact List.Sublist.slnil | refine List.Sublist.cons_cons _ ?_ | refine List.Sublist.cons _ ?_)) (by first | exact fun _ h => h | exact fun _ _ => trivial | exact fun _ h => h.2 | exact fun _ h => h.2.2.2.2 | exact fun _ h => h.2.2 | exact fun _ h => h.2.2.2 | exact fun _ h => h.2.2.2.2.2 | exact fun _ h => h.2.2.2.2.2.2 | exact fun _ h => h.2.2.2.2.2.2.2 | exact fun _ h => h.2.2.2.2.2.2.2.2 | exact fun _ h => h.2.2.2.2.2.2.2.2.2 | exact fun _ h => h.2.2.2.2.2.2.2.2.2.2 | exact fun _ h => ((allD_append _ _).1 h).2)) ?_ | refine IdxE.mk 102 6 _ (hrd _) (by omega) (by omega) ?_ | refine LoadE.mk 102 els.length _ _ (hrd _) (by omega) (by omega) (by decide) (by exact hcg) ?_
        | fail
      exact Round.mk (i + 1, w, u, a, c) (by dsimp only; omega) ⟨by dsimp only; omega, by dsimp only; rw [hstep, hre]; first | done | simp only [List.append_assoc, List.append_nil], hbi⟩ (by repeat' first | exact SubE.nil | refine SubE.cons rfl ?_ ?_ | exact VEq.refl _ | refine VEq.int (by omega)) (by
        dsimp only; rw [hmk1, hmq]; (first | simp only [List.length_nil, mkN_zero] | skip); exact Ents.sub ⟨[_], List.Perm.refl _⟩)
  · have hil : i = els.length := by omega
    subst hil
    rw [List.take_length] at hw ⊢
    subst hw
    unfold wrM wrR
    repeat' first
      | refine J_seq ?_ | refine J_region Tryz.tyOK ?_ | refine J_block ?_ | refine J_cond ?_ | refine J_ret ?_ | refine J_skip ?_ | refine J_exit ?_ | refine J_scope ?_
      | refine CondP.yes (by omega) ?_ | refine CondP.no (by omega) ?_ | refine CondP.mk (fun h => ?_) (fun h => ?_) | refine EqP.mk rfl ?_ | refine NewP.mk (fun ad => ?_) | refine ArP.exact (by simp only [inR]; omega) ?_ | refine SideP.mk (by first | omega | (dsimp only; omega) | (simp; omega)) ?_
      | fail
    exact FinE.mk (wrM K W u a c (o ++ inlRen W b m els) (mkN b m (inlMarks els).length) h) [] ⟨u, a, c, hbi, rfl, rfl, rfl⟩ (Ents.facts fun _ _ => trivial)
end Go.Proofs
namespace Go.Proofs
open Go Go.X Go.Lib
set_option maxRecDepth 100000
theorem skipB_ok (K : WrK) (W : RenW) (h : Nat) (bs : List Blk) (ba : Option Addr) (bc : Nat) (hb : blkBulk bs ≤ 2000000) (u : Bool) (a : Option Addr) (c : Nat) (o : List UInt8) (m : Nat) (hi : BxI u a c o) (hm : m ≤ 1000000000) :
    FnS Tryz.prog 161 [.c (.p 0 K.ab 0), .c (.sl ba bs.length bc)] (wrM K W u a c o m h) [blkF ba bs] (WrP K W o (m + (blkMarks bs).length) h) := by
  have h1 := blkMarks_bulk bs
  have h2 := inl_len_bulk (blkMarks bs)
  have hca := marksAll_ok _ bs rfl ba bc (by omega)
  unfold wrM wrR
  refine fn_of_J Tryz.tyOK 7000 Tryz.func161 (by kernel_rfl) (c := Tryz.f161.body.getD .skip) (by kernel_rfl) Tryz.ntmps161 (rs := Tryz.f161.results.toList) rfl (by simp) (fun G => ?_)
  repeat' first
    | refine J_seq ?_ | refine J_region Tryz.tyOK ?_ | refine J_block ?_ | refine J_cond ?_ | refine J_ret ?_ | refine J_skip ?_ | refine J_exit ?_ | refine J_scope ?_
    | refine CondP.yes (by omega) ?_ | refine CondP.no (by omega) ?_ | refine CondP.mk (fun h => ?_) (fun h => ?_) | refine EqP.mk rfl ?_ | refine NewP.mk (fun ad => ?_) | refine ArP.exact (by simp only [inR]; omega) ?_ | refine SideP.mk (by first | omega | (dsimp only; omega) | (simp; omega)) ?_
    | refine J_drawU (id := 0) Tryz.tyOK (by kernel_rfl) [0, 1, 3, 7, 0, 16, 48, 127, 255, 511, 1023] (.fork [0, 1, 2, 3, 4] (.alt 5 (.leaf [6, 7, 8, 9, 10]) (.stop))) [5, 10] [0] 10 false (by kernel_rfl) ?_ | refine TwoP.mk ?_ ?_ | refine GoP.mk (by repeat (first | exact keepC_sub _ _ _ | exact List.Sublist.slnil | refine List.Sublist.cons_cons _ ?_ | refine List.Sublist.cons _ ?_)) (by first | exact fun _ h => h | exact fun _ h => h.2 | exact fun _ h => ((allD_append _ _).1 h).2) ?_ | exact trivial | refine EntP.mk (Ents.ofSub (by repeat (first | exact keepC_sub _ _ _ | exact List.Sublist.slnil | refine List.Sublist.cons_cons _ ?_ | refine List.Sublist.cons _ ?_)) (by first | exact fun _ h => h | exact fun _ _ => trivial | exact fun _ h => h.2 | exact fun _ h => h.2.2.2.2 | exact fun _ h => h.2.2 | exact fun _ h => h.2.2.2 | exact fun _ h => h.2.2.2.2.2 | exact fun _ h => h.2.2.2.2.2.2 | exact fun _ h => h.2.2.2.2.2.2.2 | exact fun _ h => h.2.2.2.2.2.2.2.2 | exact fun _ h => h.2.2.2.2.2.2.2.2.2 | exact fun _ h => h.2.2.2.2.2.2.2.2.2.2 | exact fun _ h => ((allD_append _ _).1 h).2)) ?_ | (refine CallP.mk [] _ [blkF ba bs] _ hca (List.Perm.refl _) (fun _ h => h) (fun v L' D' hp => ?_); obtain ⟨a1, c1, es, he, rfl, rfl, rfl⟩ := hp; have hle := era_len he)
    | fail
  exact FinE.mk (wrM K W u a c o (m + (blkMarks bs).length) h) [] ⟨u, a, c, hi, rfl, rfl, rfl⟩ ((Ents.of (by rw [← hle]; rfl)).trans (Ents.facts fun _ _ => trivial))
end Go.Proofs
namespace Go.Proofs
open Go Go.X Go.Lib
set_option maxRecDepth 100000
theorem Blk.ren_eq (W : RenW) (top : Bool) (m h : Nat) (x : Blk) : x.ren W top m h =
    (if x.kind = 1 then [60, 104] ++ itoa (hLvl x.level) ++ hId W top h ++ [62] ++ inlRen W true m x.inl ++ [60, 47, 104] ++ itoa (hLvl x.level) ++ [62, 10]
    else if x.kind = 2 then [60, 112, 62] ++ inlRen W true m x.inl ++ [60, 47, 112, 62, 10]
    else if x.kind = 5 then [60, 104, 114, 62, 10]
    else if x.kind = 6 then [60, 112, 114, 101, 62] ++ escT x.text ++ [60, 47, 112, 114, 101, 62, 10]
    else if x.kind = 3 then (if x.level = 1 then [60, 111, 108, 62, 10] else [60, 117, 108, 62, 10]) ++ blksRen W false (m + (inlMarks x.inl).length) h x.kids ++ (if x.level = 1 then [60, 47, 111, 108, 62, 10] else [60, 47, 117, 108, 62, 10])
    else if x.kind = 4 then [60, 108, 105, 62] ++ inlRen W true m x.inl ++ (if x.kids = [] then [] else 10 :: blksRen W false (m + (inlMarks x.inl).length) h x.kids) ++ [60, 47, 108, 105, 62, 10]
    else if x.kind = 7 then [60, 116, 97, 98, 108, 101, 62, 10] ++ blksRen W false (m + (inlMarks x.inl).length) h x.kids ++ [60, 47, 116, 97, 98, 108, 101, 62, 10]
    else if x.kind = 8 then [60, 116, 114, 62] ++ blksRen W false (m + (inlMarks x.inl).length) h x.kids ++ [60, 47, 116, 114, 62, 10]
    else if x.kind = 9 then (if x.level = 1 then [60, 116, 104, 62] else [60, 116, 100, 62]) ++ inlRen W true m x.inl ++ (if x.level = 1 then [60, 47, 116, 104, 62] else [60, 47, 116, 100, 62])
    else []) := by
  cases x; rw [Blk.ren]; rfl
theorem hLvl_b (v : Int) : 1 ≤ hLvl v ∧ hLvl v ≤ 6 := by unfold hLvl; omega
theorem hdsN_le : ∀ bs : List Blk, hdsN bs ≤ bs.length
  | [] => Nat.le_refl _
  | x :: r => by have := hdsN_le r; rw [hdsN, List.length_cons]; split <;> omega
theorem hdsN_append : ∀ l k : List Blk, hdsN (l ++ k) = hdsN l + hdsN k
  | [], k => by simp [hdsN]
  | x :: r, k => by simp only [List.cons_append, hdsN, hdsN_append r k]; omega
theorem contT_hds (bs : List Blk) : (contT bs).length = hdsN bs := by
  have key : ∀ i, i ≤ bs.length → (contT (bs.take i)).length = hdsN (bs.take i) := fun i => by
    induction i with
    | zero => intro _; simp [contT, hdsN]
    | succ i ih =>
      intro h
      rw [contT_succ (by omega), List.take_succ_eq_append_getElem (by omega), hdsN_append]
      have := ih (by omega)
      unfold addE
      split
      · rename_i hk; simp only [List.length_append, List.length_singleton, hdsN, if_pos hk]; omega
      · rename_i hk; simp only [hdsN, if_neg hk]; omega
  have := key bs.length (Nat.le_refl _)
  rwa [List.take_length] at this
mutual
theorem Blk.ren_le (W : RenW) (hn : ∀ j ∈ W.ns, 0 ≤ j ∧ j ≤ 100000000) (A : Nat) (hA : ∀ i, (hId W true i).length ≤ A) : ∀ (top : Bool) (m h : Nat) (x : Blk), m + x.bulk ≤ 900000000 → (x.ren W top m h).length ≤ 700 * x.bulk + (if top = true ∧ x.kind = 1 then A else 0)
  | top, m, h, .mk k v t ia ic inl ka kc kids, hb => by
    rw [Blk.bulk] at hb
    have h1 := inlRen_le W hn true m inl (by omega)
    have h2 := blksRen_le W hn A hA false (m + (inlMarks inl).length) h kids (by have := inlMarks_bulk inl; have := inl_len_bulk (inlMarks inl); omega)
    have h3 := itoa_le (n := hLvl v) (by have := hLvl_b v; omega) (by have := hLvl_b v; omega)
    have h4 := escT_le t
    simp only [Bool.false_eq_true, if_false, Nat.add_zero] at h2
    rw [Blk.ren, Blk.bulk]
    by_cases k1 : k = 1
    · rw [if_pos k1]
      have hid : (hId W top h).length ≤ (if top = true ∧ (Blk.mk k v t ia ic inl ka kc kids).kind = 1 then A else 0) := by
        cases top with
        | true => rw [if_pos ⟨rfl, k1⟩]; exact hA h
        | false => exact Nat.zero_le _
      simp only [List.length_append, List.length_cons, List.length_nil]; omega
    rw [if_neg k1]
    have hz : ∀ z : Nat, z ≤ 700 * (1 + t.length + inlBulk inl + blkBulk kids) → z ≤ 700 * (1 + t.length + inlBulk inl + blkBulk kids) + (if top = true ∧ (Blk.mk k v t ia ic inl ka kc kids).kind = 1 then A else 0) := fun z hz => Nat.le_trans hz (Nat.le_add_right _ _)
    refine hz _ ?_
    clear hz
    split
    · simp only [List.length_append, List.length_cons, List.length_nil]; omega
    split
    · simp only [List.length_cons, List.length_nil]; omega
    split
    · simp only [List.length_append, List.length_cons, List.length_nil]; omega
    split
    · by_cases hv : v = 1
      · simp only [if_pos hv, List.length_append, List.length_cons, List.length_nil]; omega
      · simp only [if_neg hv, List.length_append, List.length_cons, List.length_nil]; omega
    split
    · by_cases hv : kids = []
      · simp only [if_pos hv, List.length_append, List.length_cons, List.length_nil]; omega
      · simp only [if_neg hv, List.length_append, List.length_cons, List.length_nil]; omega
    split
    · simp only [List.length_append, List.length_cons, List.length_nil]; omega
    split
    · simp only [List.length_append, List.length_cons, List.length_nil]; omega
    split
    · by_cases hv : v = 1
      · simp only [if_pos hv, List.length_append, List.length_cons, List.length_nil]; omega
      · simp only [if_neg hv, List.length_append, List.length_cons, List.length_nil]; omega
    · exact Nat.zero_le _
theorem blksRen_le (W : RenW) (hn : ∀ j ∈ W.ns, 0 ≤ j ∧ j ≤ 100000000) (A : Nat) (hA : ∀ i, (hId W true i).length ≤ A) : ∀ (top : Bool) (m h : Nat) (l : List Blk), m + blkBulk l ≤ 900000000 → (blksRen W top m h l).length ≤ 700 * blkBulk l + (if top = true then hdsN l * A else 0)
  | top, m, h, [], _ => by rw [blksRen]; exact Nat.zero_le _
  | top, m, h, x :: r, hb => by
    rw [blkBulk] at hb
    have h1 := Blk.ren_le W hn A hA top m h x (by omega)
    have hm := Blk.marks_bulk x
    have hml := inl_len_bulk x.marks
    have h2 := blksRen_le W hn A hA top (m + x.marks.length) (if top = true ∧ x.kind = 1 then h + 1 else h) r (by omega)
    rw [blksRen, List.length_append, blkBulk, hdsN]
    cases top with
    | false => simp only [Bool.false_eq_true, false_and, if_false, Nat.add_zero] at h1 h2 ⊢; omega
    | true =>
      simp only [true_and, if_true] at h1 h2 ⊢
      rw [Nat.add_mul]
      split at h1
      · rename_i hk; simp only [if_pos hk, Nat.one_mul] at h2 ⊢; omega
      · rename_i hk; simp only [if_neg hk, Nat.zero_mul] at h2 ⊢; omega
end
def entT (e : EntT) : List UInt8 := [60, 108, 105, 32, 99, 108, 97, 115, 115, 61, 34, 108, 101, 118, 101, 108, 45] ++ itoa e.level ++ [34, 62, 60, 97, 32, 104, 114, 101, 102, 61, 34, 35] ++ escT e.anchor ++ [34, 62] ++ e.number ++ [32] ++ escT e.text ++ [60, 47, 97, 62, 60, 47, 108, 105, 62, 10]
def entsT (es : List EntT) : List UInt8 := es.flatMap entT
def contsT (es : List EntT) : List UInt8 := if es.length < 2 then [] else [60, 117, 108, 32, 99, 108, 97, 115, 115, 61, 34, 99, 111, 110, 116, 101, 110, 116, 115, 34, 62, 10] ++ entsT es ++ [60, 47, 117, 108, 62, 10]
def useT (k : Int) : List UInt8 := [32, 60, 97, 32, 104, 114, 101, 102, 61, 34, 35, 109, 97, 114, 107, 45] ++ itoa k ++ [34, 62, 94, 60, 47, 97, 62]
def usesT (ks : List Int) : List UInt8 := ks.flatMap useT
def noteT (W : RenW) (i : Nat) (p : NoP) : List UInt8 := [60, 108, 105, 32, 105, 100, 61, 34, 110, 111, 116, 101, 45] ++ itoa ((i : Int) + 1) ++ [34, 62] ++ inlRen W false 0 p.inl ++ usesT p.uses ++ [60, 47, 108, 105, 62, 10]
def notesT (W : RenW) : Nat → List NoP → List UInt8
  | _, [] => []
  | i, p :: r => noteT W i p ++ notesT W (i + 1) r
def listT (W : RenW) (ps : List NoP) : List UInt8 := if ps = [] then [] else [60, 111, 108, 32, 99, 108, 97, 115, 115, 61, 34, 110, 111, 116, 101, 115, 34, 62, 10] ++ notesT W 0 ps ++ [60, 47, 111, 108, 62, 10]
def setU (i : Nat) (ns : List Int) (us : List Int) : List Int := us.foldl (fun ns k => ns.set (k - 1).toNat ((i : Int) + 1)) ns
def numsFrom : Nat → List NoP → List Int → List Int
  | _, [], ns => ns
  | i, p :: r, ns => numsFrom (i + 1) r (setU i ns p.uses)
def numsT (ps : List NoP) (n : Nat) : List Int := numsFrom 0 ps (List.replicate n 0)
def docW (P : Int × List UInt8 → Bool) (bs : List Blk) : RenW := ⟨P, numsT (notesP (inlEra (blkMarks bs))) (blkMarks bs).length, ancs (contT bs)⟩
def renT (P : Int × List UInt8 → Bool) (bs : List Blk) : List UInt8 := contsT (contT bs) ++ blksRen (docW P bs) true 0 0 bs ++ listT (docW P bs) (notesP (inlEra (blkMarks bs)))
theorem entsT_succ {es : List EntT} {i : Nat} (h : i < es.length) : entsT (es.take (i + 1)) = entsT (es.take i) ++ entT es[i] := by
  unfold entsT; rw [List.take_succ_eq_append_getElem h, List.flatMap_append]; simp only [List.flatMap_cons, List.flatMap_nil, List.append_nil]
theorem usesT_succ {es : List Int} {i : Nat} (h : i < es.length) : usesT (es.take (i + 1)) = usesT (es.take i) ++ useT es[i] := by
  unfold usesT; rw [List.take_succ_eq_append_getElem h, List.flatMap_append]; simp only [List.flatMap_cons, List.flatMap_nil, List.append_nil]
theorem notesT_snoc (W : RenW) : ∀ (ps : List NoP) (i : Nat) (p : NoP), notesT W i (ps ++ [p]) = notesT W i ps ++ noteT W (i + ps.length) p
  | [], i, p => by simp [notesT]
  | x :: r, i, p => by rw [List.cons_append, notesT, notesT, notesT_snoc W r, List.length_cons, List.append_assoc, show i + 1 + r.length = i + (r.length + 1) by omega]
theorem notesT_succ (W : RenW) {ps : List NoP} {i : Nat} (h : i < ps.length) : notesT W 0 (ps.take (i + 1)) = notesT W 0 (ps.take i) ++ noteT W i ps[i] := by
  rw [List.take_succ_eq_append_getElem h, notesT_snoc, List.length_take, Nat.min_eq_left (by omega), Nat.zero_add]
theorem setU_succ (i : Nat) (ns : List Int) {us : List Int} {j : Nat} (h : j < us.length) : setU i ns (us.take (j + 1)) = (setU i ns (us.take j)).set (us[j] - 1).toNat ((i : Int) + 1) := by
  rw [List.take_succ_eq_append_getElem h]; unfold setU; rw [List.foldl_append]; rfl
theorem numsFrom_snoc : ∀ (ps : List NoP) (i : Nat) (ns : List Int) (p : NoP), numsFrom i (ps ++ [p]) ns = setU (i + ps.length) (numsFrom i ps ns) p.uses
  | [], i, ns, p => by simp [numsFrom]
  | x :: r, i, ns, p => by rw [List.cons_append, numsFrom, numsFrom, numsFrom_snoc r, List.length_cons, show i + 1 + r.length = i + (r.length + 1) by omega]
theorem numsFrom_succ {ps : List NoP} {i : Nat} (ns : List Int) (h : i < ps.length) : numsFrom 0 (ps.take (i + 1)) ns = setU i (numsFrom 0 (ps.take i) ns) ps[i].uses := by
  rw [List.take_succ_eq_append_getElem h, numsFrom_snoc, List.length_take, Nat.min_eq_left (by omega), Nat.zero_add]
theorem setU_len (i : Nat) : ∀ (us ns : List Int), (setU i ns us).length = ns.length
  | [], _ => rfl
  | k :: r, ns => (setU_len i r (ns.set (k - 1).toNat ((i : Int) + 1))).trans (List.length_set)
theorem numsFrom_len : ∀ (ps : List NoP) (i : Nat) (ns : List Int), (numsFrom i ps ns).length = ns.length
  | [], _, _ => rfl
  | p :: r, i, ns => by rw [numsFrom, numsFrom_len r, setU_len]
theorem numsT_len (ps : List NoP) (n : Nat) : (numsT ps n).length = n := by unfold numsT; rw [numsFrom_len, List.length_replicate]
theorem setU_b {B : Int} {i : Nat} (hi : (i : Int) + 1 ≤ B) : ∀ (us ns : List Int), (∀ j ∈ ns, 0 ≤ j ∧ j ≤ B) → ∀ j ∈ setU i ns us, 0 ≤ j ∧ j ≤ B
  | [], _, h => h
  | k :: r, ns, h => setU_b hi r _ fun j hj => by
    rcases List.mem_or_eq_of_mem_set hj with hj | rfl
    · exact h j hj
    · omega
theorem numsFrom_b {B : Int} : ∀ (ps : List NoP) (i : Nat) (ns : List Int), ((i : Int) + ps.length ≤ B) → (∀ j ∈ ns, 0 ≤ j ∧ j ≤ B) → ∀ j ∈ numsFrom i ps ns, 0 ≤ j ∧ j ≤ B
  | [], _, _, _, h => h
  | p :: r, i, ns, hi, h => by
    rw [List.length_cons] at hi
    exact numsFrom_b r (i + 1) _ (by omega) (setU_b (by omega) p.uses ns h)
theorem numsT_b (ps : List NoP) (n : Nat) (h : ps.length ≤ 100000000) : ∀ j ∈ numsT ps n, 0 ≤ j ∧ j ≤ 100000000 := numsFrom_b ps 0 _ (by omega) fun j hj => by rw [List.eq_of_mem_replicate hj]; omega
theorem entT_le {e : EntT} {n w : Nat} (hl : inR .i64 e.level) (hn : e.number.length ≤ 22 * n) (ht : e.text.length ≤ w) (ha : e.anchor.length ≤ 3 * w + 22) : (entT e).length ≤ 24 * w + 22 * n + 300 := by
  have h1 := itoa_le (n := e.level) hl.1 (by have := hl.2; exact this)
  have h2 := escT_le e.anchor
  have h3 := escT_le e.text
  unfold entT
  simp only [List.length_append, List.length_cons, List.length_nil]; omega
theorem useT_le {k : Int} (h0 : 0 ≤ k) (h1 : k ≤ 1000000000) : (useT k).length ≤ 60 := by
  have h1 := itoa_le (n := k) (by omega) (by omega)
  unfold useT
  simp only [List.length_append, List.length_cons, List.length_nil]; omega
theorem usesT_le : ∀ {ks : List Int}, (∀ k ∈ ks, 0 ≤ k ∧ k ≤ 1000000000) → (usesT ks).length ≤ 60 * ks.length
  | [], _ => Nat.zero_le _
  | k :: r, h => by
    have h1 := useT_le (h k (by simp)).1 (h k (by simp)).2
    have h2 := usesT_le (ks := r) fun j hj => h j (by simp [hj])
    unfold usesT at h2 ⊢
    rw [List.flatMap_cons, List.length_append, List.length_cons]; omega
end Go.Proofs
namespace Go.Proofs
open Go Go.X Go.Lib
set_option maxRecDepth 100000
theorem mkN_on (m k : Nat) : mkN true m k = m + k := rfl
theorem skip_ok (K : WrK) (W : RenW) (h : Nat) (els : List Inl) (ia : Option Addr) (ic : Nat) (hb : inlBulk els ≤ 1100000) (u : Bool) (a : Option Addr) (c : Nat) (o : List UInt8) (m : Nat) (hi : BxI u a c o) (hm : m ≤ 1000000000) :
    FnS Tryz.prog 162 [.c (.p 0 K.ab 0), .c (.sl ia els.length ic)] (wrM K W u a c o m h) [inlF ia els] (WrP K W o (m + (inlMarks els).length) h) := by
  have s1 := fun ba bc => FnS.pre (L' := wrM K W u a c o m h) (D' := [blkF ba [Blk.mk 0 0 [] ia ic els none 0 []]]) (L := .row 81 5 ba 1 bc [.i .i64 0, .i .i64 0, .s [], .sl ia els.length ic, .sl none 0 0] :: wrM K W u a c o m h) (D := [inlF ia els]) (Ents.toFact.trans (Ents.facts fun mm hh => ⟨⟨hh.1, by
      show blksLie mm [Blk.mk 0 0 [] ia ic els none 0 []]
      unfold blksLie
      exact ⟨blk_lies hh.2.1 blkF_none, by unfold blksLie; trivial⟩⟩, trivial⟩)) (skipB_ok K W h [Blk.mk 0 0 [] ia ic els none 0 []] ba bc (by simp only [blkBulk, Blk.bulk]; simp only [List.length_nil]; omega) u a c o m hi hm)
  have hmk : (blkMarks [Blk.mk 0 0 [] ia ic els none 0 []]).length = (inlMarks els).length := by simp [blkMarks, Blk.marks]
  rw [hmk] at s1
  unfold wrM wrR at s1 ⊢
  refine fn_of_J Tryz.tyOK 7000 Tryz.func162 (by kernel_rfl) (c := Tryz.f162.body.getD .skip) (by kernel_rfl) Tryz.ntmps162 (rs := Tryz.f162.results.toList) rfl (by simp) (fun G => ?_)
  repeat' first
    | refine J_seq ?_ | refine J_region Tryz.tyOK ?_ | refine J_block ?_ | refine J_cond ?_ | refine J_ret ?_ | refine J_skip ?_ | refine J_exit ?_ | refine J_scope ?_
    | refine CondP.yes (by omega) ?_ | refine CondP.no (by omega) ?_ | refine CondP.mk (fun h => ?_) (fun h => ?_) | refine EqP.mk rfl ?_ | refine NewP.mk (fun ad => ?_) | refine ArP.exact (by simp only [inR]; omega) ?_ | refine SideP.mk (by first | omega | (dsimp only; omega) | (simp; omega)) ?_
    | (refine CallP.mk _ [] [inlF ia els] _ (s1 _ _) (List.Perm.refl _) (fun _ h => h) (fun v L' D' hp => ?_); obtain ⟨u1, a1, c1, hi1, rfl, rfl, rfl⟩ := hp)
    | fail
  exact FinE.mk (wrM K W u1 a1 c1 o (m + (inlMarks els).length) h) [] ⟨u1, a1, c1, hi1, rfl, rfl, rfl⟩ ((Ents.of (by simp)).trans (Ents.facts fun _ _ => trivial))
set_option maxHeartbeats 2000000 in
theorem line_ok (K : WrK) (W : RenW) (hK : WrOk K W) (x : Blk) (op en : List UInt8) (h : Nat) (hb : x.bulk ≤ 1100000) (D : List Fact) (hD : ∀ mm, allD mm D → allD mm [inlF x.ia x.inl, blkF x.ka x.kids, noteF K W, tabF, gInt 0])
    (u : Bool) (a : Option Addr) (c : Nat) (o : List UInt8) (m : Nat) (hi : BxI u a c o) (hm : m + x.bulk ≤ 100000000) (hns : m + x.marks.length ≤ W.ns.length) (ho : o.length + op.length + en.length + 2000 * x.bulk ≤ 60000000000000) :
    FnS Tryz.prog 123 [.c (.p 0 K.ab 0), .agg x.cells, .c (.s op), .c (.s en)] (wrM K W u a c o m h) D (WrP K W (o ++ op ++ inlRen W true m x.inl ++ en) (m + x.marks.length) h) := by
  have hxb := Blk.bulk_eq x
  have hmq := Blk.marks_eq x
  rw [hmq, List.length_append] at hns ⊢
  have hml := inlMarks_bulk x.inl
  have hmn := inl_len_bulk (inlMarks x.inl)
  have hrl := inlRen_le W hK.ns true m x.inl (by omega)
  have s1 := fun u' a' c' (hi' : BxI u' a' c' o) => bxString_ok 0 K.ab 87 u' a' c' o op [.m 1 K.am, .sl K.na W.ns.length K.nc, .i .i64 (m : Nat), .sl K.ea K.en K.ec, .i .i64 h] btyW hi' (by omega)
  have s2 := fun u' a' c' (hi' : BxI u' a' c' (o ++ op)) => winl_ok K W hK true h _ x.inl rfl x.ia x.ic u' a' c' (o ++ op) m hi' (by omega) (by omega) (fun _ => by omega) (by simp; omega)
  have s3 := fun u' a' c' (hi' : BxI u' a' c' (o ++ op ++ inlRen W true m x.inl)) => bxString_ok 0 K.ab 87 u' a' c' (o ++ op ++ inlRen W true m x.inl) en [.m 1 K.am, .sl K.na W.ns.length K.nc, .i .i64 (m + (inlMarks x.inl).length : Nat), .sl K.ea K.en K.ec, .i .i64 h] btyW hi' (by simp; omega)
  have s4 := fun u' a' c' (hi' : BxI u' a' c' (o ++ op ++ inlRen W true m x.inl ++ en)) => skipB_ok K W h x.kids x.ka x.kc (by omega) u' a' c' (o ++ op ++ inlRen W true m x.inl ++ en) (m + (inlMarks x.inl).length) hi' (by omega)
  rw [← Nat.add_assoc]
  simp only [mkN_on] at s2
  unfold wrM wrR at s2 s4 ⊢
  unfold Blk.cells
  refine fn_of_J Tryz.tyOK 7000 Tryz.func123 (by kernel_rfl) (c := Tryz.f123.body.getD .skip) (by kernel_rfl) Tryz.ntmps123 (rs := Tryz.f123.results.toList) rfl (by simp) (fun G => ?_)
  repeat' first
    | refine J_seq ?_ | refine J_region Tryz.tyOK ?_ | refine J_block ?_ | refine J_cond ?_ | refine J_ret ?_ | refine J_skip ?_ | refine J_exit ?_ | refine J_scope ?_
    | refine CondP.yes (by omega) ?_ | refine CondP.no (by omega) ?_ | refine CondP.mk (fun h => ?_) (fun h => ?_) | refine EqP.mk rfl ?_ | refine NewP.mk (fun ad => ?_) | refine ArP.exact (by simp only [inR]; omega) ?_ | refine SideP.mk (by first | omega | (dsimp only; omega) | (simp; omega)) ?_
    | (refine CallP.mk _ [_, _] [] _ (s1 _ _ _ hi) ((List.perm_append_comm (l₁ := [_]) (l₂ := [_, _])).append_right [_]) (fun _ _ => trivial) (fun v L' D' hp => ?_); obtain ⟨u1, a1, c1, hi1, rfl, rfl, rfl⟩ := hp) | (refine CallP.mk _ [_] [inlF x.ia x.inl, noteF K W, tabF, gInt 0] _ (s2 _ _ _ hi1) ((List.Perm.swap _ _ _).append_left [_, _]) (fun m h => ⟨(hD m h).1, (hD m h).2.2⟩) (fun v L' D' hp => ?_); obtain ⟨u2, a2, c2, hi2, rfl, rfl, rfl⟩ := hp; unfold wrM wrR) | (refine CallP.mk _ [_, _] [] _ (s3 _ _ _ hi2) (List.Perm.refl _) (fun _ _ => trivial) (fun v L' D' hp => ?_); obtain ⟨u3, a3, c3, hi3, rfl, rfl, rfl⟩ := hp) | (refine CallP.mk _ [_] [blkF x.ka x.kids] _ (s4 _ _ _ hi3) (List.Perm.refl _) (fun m h => ⟨(hD m h).2.1, trivial⟩) (fun v L' D' hp => ?_); obtain ⟨u4, a4, c4, hi4, rfl, rfl, rfl⟩ := hp; unfold wrM wrR)
    | fail
  exact FinE.mk (wrM K W u4 a4 c4 (o ++ op ++ inlRen W true m x.inl ++ en) (m + (inlMarks x.inl).length + (blkMarks x.kids).length) h) [] ⟨u4, a4, c4, hi4, rfl, rfl, rfl⟩ ((Ents.sub ⟨[_], List.perm_append_comm (l₁ := [_, _, _]) (l₂ := [_])⟩).trans (Ents.facts fun _ _ => trivial))
set_option maxHeartbeats 2000000 in
theorem hidden_ok (K : WrK) (W : RenW) (x : Blk) (op : List UInt8) (h : Nat) (hb : x.bulk ≤ 1100000) (D : List Fact) (hD : ∀ mm, allD mm D → allD mm [inlF x.ia x.inl, blkF x.ka x.kids])
    (u : Bool) (a : Option Addr) (c : Nat) (o : List UInt8) (m : Nat) (hi : BxI u a c o) (hm : m + x.bulk ≤ 100000000) (ho : o.length + op.length ≤ 60000000000000) :
    FnS Tryz.prog 124 [.c (.p 0 K.ab 0), .agg x.cells, .c (.s op)] (wrM K W u a c o m h) D (WrP K W (o ++ op) (m + x.marks.length) h) := by
  have hxb := Blk.bulk_eq x
  have hmq := Blk.marks_eq x
  rw [hmq, List.length_append]
  have hml := inlMarks_bulk x.inl
  have hmn := inl_len_bulk (inlMarks x.inl)
  have s1 := fun u' a' c' (hi' : BxI u' a' c' o) => bxString_ok 0 K.ab 87 u' a' c' o op [.m 1 K.am, .sl K.na W.ns.length K.nc, .i .i64 (m : Nat), .sl K.ea K.en K.ec, .i .i64 h] btyW hi' (by omega)
  have s2 := fun u' a' c' (hi' : BxI u' a' c' (o ++ op)) => skip_ok K W h x.inl x.ia x.ic (by omega) u' a' c' (o ++ op) m hi' (by omega)
  have s4 := fun u' a' c' (hi' : BxI u' a' c' (o ++ op)) => skipB_ok K W h x.kids x.ka x.kc (by omega) u' a' c' (o ++ op) (m + (inlMarks x.inl).length) hi' (by omega)
  rw [← Nat.add_assoc]
  unfold wrM wrR at s2 s4 ⊢
  unfold Blk.cells
  refine fn_of_J Tryz.tyOK 7000 Tryz.func124 (by kernel_rfl) (c := Tryz.f124.body.getD .skip) (by kernel_rfl) Tryz.ntmps124 (rs := Tryz.f124.results.toList) rfl (by simp) (fun G => ?_)
  repeat' first
    | refine J_seq ?_ | refine J_region Tryz.tyOK ?_ | refine J_block ?_ | refine J_cond ?_ | refine J_ret ?_ | refine J_skip ?_ | refine J_exit ?_ | refine J_scope ?_
    | refine CondP.yes (by omega) ?_ | refine CondP.no (by omega) ?_ | refine CondP.mk (fun h => ?_) (fun h => ?_) | refine EqP.mk rfl ?_ | refine NewP.mk (fun ad => ?_) | refine ArP.exact (by simp only [inR]; omega) ?_ | refine SideP.mk (by first | omega | (dsimp only; omega) | (simp; omega)) ?_
    | (refine CallP.mk _ [_, _] [] _ (s1 _ _ _ hi) ((List.perm_append_comm (l₁ := [_]) (l₂ := [_, _])).append_right [_]) (fun _ _ => trivial) (fun v L' D' hp => ?_); obtain ⟨u1, a1, c1, hi1, rfl, rfl, rfl⟩ := hp) | (refine CallP.mk _ [_] [inlF x.ia x.inl] _ (s2 _ _ _ hi1) ((List.Perm.swap _ _ _).append_left [_, _]) (fun m h => ⟨(hD m h).1, trivial⟩) (fun v L' D' hp => ?_); obtain ⟨u2, a2, c2, hi2, rfl, rfl, rfl⟩ := hp; unfold wrM wrR) | (refine CallP.mk _ [_] [blkF x.ka x.kids] _ (s4 _ _ _ hi2) (List.Perm.refl _) (fun m h => ⟨(hD m h).2.1, trivial⟩) (fun v L' D' hp => ?_); obtain ⟨u4, a4, c4, hi4, rfl, rfl, rfl⟩ := hp; unfold wrM wrR)
    | fail
  exact FinE.mk (wrM K W u4 a4 c4 (o ++ op) (m + (inlMarks x.inl).length + (blkMarks x.kids).length) h) [] ⟨u4, a4, c4, hi4, rfl, rfl, rfl⟩ ((Ents.sub ⟨[_], List.perm_append_comm (l₁ := [_, _, _]) (l₂ := [_])⟩).trans (Ents.facts fun _ _ => trivial))
set_option maxHeartbeats 2000000 in
theorem group_ok (K : WrK) (W : RenW) (x : Blk) (op en : List UInt8) (h : Nat) (hb : x.bulk ≤ 1100000) (D DK : List Fact) (hD : ∀ mm, allD mm D → allD mm [inlF x.ia x.inl]) (hDK : ∀ mm, allD mm D → allD mm DK)
    (m : Nat) (B : Nat) (hB : B + 2000 * blkBulk x.kids ≤ 60000000000000) (hkl : (blksRen W false (m + (inlMarks x.inl).length) h x.kids).length ≤ 700 * blkBulk x.kids)
    (hck : ∀ u a c o, BxI u a c o → o.length ≤ B → FnS Tryz.prog 52 [.c (.p 0 K.ab 0), .c (.sl x.ka x.kids.length x.kc), .c (.b false)] (wrM K W u a c o (m + (inlMarks x.inl).length) h) DK (WrP K W (o ++ blksRen W false (m + (inlMarks x.inl).length) h x.kids) (m + (inlMarks x.inl).length + (blkMarks x.kids).length) h))
    (u : Bool) (a : Option Addr) (c : Nat) (o : List UInt8) (hi : BxI u a c o) (hm : m + x.bulk ≤ 100000000) (ho : o.length + op.length ≤ B) (hen : en.length ≤ 100) :
    FnS Tryz.prog 125 [.c (.p 0 K.ab 0), .agg x.cells, .c (.s op), .c (.s en)] (wrM K W u a c o m h) D (WrP K W (o ++ op ++ blksRen W false (m + (inlMarks x.inl).length) h x.kids ++ en) (m + x.marks.length) h) := by
  have hxb := Blk.bulk_eq x
  have hmq := Blk.marks_eq x
  rw [hmq, List.length_append]
  have hml := inlMarks_bulk x.inl
  have hmn := inl_len_bulk (inlMarks x.inl)
  have s1 := fun u' a' c' (hi' : BxI u' a' c' o) => bxString_ok 0 K.ab 87 u' a' c' o op [.m 1 K.am, .sl K.na W.ns.length K.nc, .i .i64 (m : Nat), .sl K.ea K.en K.ec, .i .i64 h] btyW hi' (by omega)
  have s2 := fun u' a' c' (hi' : BxI u' a' c' (o ++ op)) => skip_ok K W h x.inl x.ia x.ic (by omega) u' a' c' (o ++ op) m hi' (by omega)
  have s3 := fun u' a' c' (hi' : BxI u' a' c' (o ++ op)) => hck u' a' c' (o ++ op) hi' (by simp; omega)
  have s4 := fun u' a' c' (hi' : BxI u' a' c' (o ++ op ++ blksRen W false (m + (inlMarks x.inl).length) h x.kids)) => bxString_ok 0 K.ab 87 u' a' c' (o ++ op ++ blksRen W false (m + (inlMarks x.inl).length) h x.kids) en [.m 1 K.am, .sl K.na W.ns.length K.nc, .i .i64 (m + (inlMarks x.inl).length + (blkMarks x.kids).length : Nat), .sl K.ea K.en K.ec, .i .i64 h] btyW hi' (by simp; omega)
  rw [← Nat.add_assoc]
  clear hck hkl
  generalize blksRen W false (m + (inlMarks x.inl).length) h x.kids = R at *
  unfold wrM wrR at s2 s3 ⊢
  unfold Blk.cells
  refine fn_of_J Tryz.tyOK 7000 Tryz.func125 (by kernel_rfl) (c := Tryz.f125.body.getD .skip) (by kernel_rfl) Tryz.ntmps125 (rs := Tryz.f125.results.toList) rfl (by simp) (fun G => ?_)
  repeat' first
    | refine J_seq ?_ | refine J_region Tryz.tyOK ?_ | refine J_block ?_ | refine J_cond ?_ | refine J_ret ?_ | refine J_skip ?_ | refine J_exit ?_ | refine J_scope ?_
    | refine CondP.yes (by omega) ?_ | refine CondP.no (by omega) ?_ | refine CondP.mk (fun h => ?_) (fun h => ?_) | refine EqP.mk rfl ?_ | refine NewP.mk (fun ad => ?_) | refine ArP.exact (by simp only [inR]; omega) ?_ | refine SideP.mk (by first | omega | (dsimp only; omega) | (simp; omega)) ?_
    | (refine CallP.mk _ [_, _] [] _ (s1 _ _ _ hi) ((List.perm_append_comm (l₁ := [_]) (l₂ := [_, _])).append_right [_]) (fun _ _ => trivial) (fun v L' D' hp => ?_); obtain ⟨u1, a1, c1, hi1, rfl, rfl, rfl⟩ := hp) | (refine CallP.mk _ [_] [inlF x.ia x.inl] _ (s2 _ _ _ hi1) ((List.Perm.swap _ _ _).append_left [_, _]) (fun m h => ⟨(hD m h).1, trivial⟩) (fun v L' D' hp => ?_); obtain ⟨u2, a2, c2, hi2, rfl, rfl, rfl⟩ := hp; unfold wrM wrR) | (refine CallP.mk _ [_] DK _ (s3 _ _ _ hi2) (List.Perm.refl _) hDK (fun v L' D' hp => ?_); obtain ⟨u3, a3, c3, hi3, rfl, rfl, rfl⟩ := hp; unfold wrM wrR) | (refine CallP.mk _ [_, _] [] _ (s4 _ _ _ hi3) (List.Perm.refl _) (fun _ _ => trivial) (fun v L' D' hp => ?_); obtain ⟨u4, a4, c4, hi4, rfl, rfl, rfl⟩ := hp)
    | fail
  exact FinE.mk (wrM K W u4 a4 c4 (o ++ op ++ R ++ en) (m + (inlMarks x.inl).length + (blkMarks x.kids).length) h) [] ⟨u4, a4, c4, hi4, rfl, rfl, rfl⟩ ((Ents.sub ⟨[_], List.perm_append_comm (l₁ := [_, _, _]) (l₂ := [_])⟩).trans (Ents.facts fun _ _ => trivial))
set_option maxHeartbeats 2000000 in
theorem title_ok (K : WrK) (W : RenW) (hK : WrOk K W) (es : List EntT) (hes : K.en = es.length) (han : W.an = ancs es) (A : Nat) (hA : ∀ i, (hId W true i).length ≤ A) (hel : es.length ≤ 100000000) (hea : ∀ e ∈ es, e.anchor.length ≤ 10000000) (x : Blk) (top : Bool) (h : Nat) (hb : x.bulk ≤ 1100000) (D : List Fact)
    (hD : ∀ mm, allD mm D → allD mm [inlF x.ia x.inl, blkF x.ka x.kids, entF K.ea es, noteF K W, tabF, gInt 0])
    (u : Bool) (a : Option Addr) (c : Nat) (o : List UInt8) (m : Nat) (hi : BxI u a c o) (hm : m + x.bulk ≤ 100000000) (hns : m + x.marks.length ≤ W.ns.length) (hh : top = true → h < es.length) (ho : o.length + (if top = true then A else 0) + 2000 * x.bulk + 200 ≤ 60000000000000) :
    FnS Tryz.prog 122 [.c (.p 0 K.ab 0), .agg x.cells, .c (.b top)] (wrM K W u a c o m h) D (WrP K W (o ++ ([60, 104] ++ itoa (hLvl x.level) ++ hId W top h ++ [62]) ++ inlRen W true m x.inl ++ ([60, 47, 104] ++ itoa (hLvl x.level) ++ [62, 10])) (m + x.marks.length) (if top = true then h + 1 else h)) := by
  have hv := hLvl_b x.level
  have hit := itoaBig_ok (hLvl x.level) (by omega) (by omega)
  have hil := itoa_le (n := hLvl x.level) (by omega) (by omega)
  have hDl : ∀ mm, allD mm D → allD mm [inlF x.ia x.inl, blkF x.ka x.kids, noteF K W, tabF, gInt 0] := fun mm hh => ⟨(hD mm hh).1, (hD mm hh).2.1, (hD mm hh).2.2.2⟩
  have hidl : (hId W top h).length ≤ (if top = true then A else 0) := by
    cases top with
    | true => rw [if_pos rfl]; exact hA h
    | false => exact Nat.zero_le _
  have sL := line_ok K W hK x ([60, 104] ++ itoa (hLvl x.level) ++ hId W top h ++ [62]) ([60, 47, 104] ++ itoa (hLvl x.level) ++ [62, 10]) (if top = true then h + 1 else h) hb D hDl u a c o m hi hm hns (by
    simp only [List.length_append, List.length_cons, List.length_nil]; omega)
  unfold wrM wrR at sL ⊢
  unfold Blk.cells at sL ⊢
  refine fn_of_J Tryz.tyOK 7000 Tryz.func122 (by kernel_rfl) (c := Tryz.f122.body.getD .skip) (by kernel_rfl) Tryz.ntmps122 (rs := Tryz.f122.results.toList) rfl (by simp) (fun G => ?_)
  refine J_seq ?_
  refine J_region Tryz.tyOK ?_
  refine NewP.mk (fun ad => ?_)
  refine J_cut (α := Unit) (fun _ => [(0, .c (.p 0 K.ab 0)), (2, .c (.b top)), (4, .c (.p 7000 ad 0)), (6, .c (.s (itoa (hLvl x.level))))])
    (fun _ => .box 7000 ad 81 [.i .i64 x.kind, .i .i64 x.level, .s x.text, .sl x.ia x.inl.length x.ic, .sl x.ka x.kids.length x.kc] :: (bx 0 K.ab 87 u a c o [.m 1 K.am, .sl K.na W.ns.length K.nc, .i .i64 m, .sl K.ea K.en K.ec, .i .i64 h] ++ [.obj 1 K.am (gO (aggV ttW) K.kv)])) (fun _ => D) 7001 (fun _ => True) ?_ (fun _ _ => ?_)
  · by_cases l1 : x.level < 1
    · have e : hLvl x.level = 1 := by unfold hLvl; omega
      rw [e] at hit ⊢
      repeat' first
        | refine J_seq ?_ | refine J_region Tryz.tyOK ?_ | refine J_block ?_ | refine J_cond ?_ | refine J_ret ?_ | refine J_skip ?_ | refine J_exit ?_ | refine J_scope ?_
        | refine CondP.yes (by omega) ?_ | refine CondP.no (by omega) ?_ | refine CondP.mk (fun h => ?_) (fun h => ?_) | refine EqP.mk rfl ?_ | refine NewP.mk (fun ad => ?_) | refine ArP.exact (by simp only [inR]; omega) ?_ | refine SideP.mk (by first | omega | (dsimp only; omega) | (simp; omega)) ?_
        | refine CallP.is hit ?_ (fun m h => ⟨(hD m h).2.2.2.2.1, trivial⟩) | exact InFam.mk () trivial (by repeat' first | exact SubE.nil | refine SubE.cons rfl ?_ ?_ | exact VEq.refl _ | refine VEq.int (by omega) | refine VEq.sl rfl (by first | rfl | omega | (rw [List.length_append]; rfl) | (simp; omega)) rfl) (Ents.refl _ _)
        | fail
      all_goals trace_state
    by_cases l6 : 6 < x.level
    · have e : hLvl x.level = 6 := by unfold hLvl; omega
      rw [e] at hit ⊢
      repeat' first
        | refine J_seq ?_ | refine J_region Tryz.tyOK ?_ | refine J_block ?_ | refine J_cond ?_ | refine J_ret ?_ | refine J_skip ?_ | refine J_exit ?_ | refine J_scope ?_
        | refine CondP.yes (by omega) ?_ | refine CondP.no (by omega) ?_ | refine CondP.mk (fun h => ?_) (fun h => ?_) | refine EqP.mk rfl ?_ | refine NewP.mk (fun ad => ?_) | refine ArP.exact (by simp only [inR]; omega) ?_ | refine SideP.mk (by first | omega | (dsimp only; omega) | (simp; omega)) ?_
        | refine CallP.is hit ?_ (fun m h => ⟨(hD m h).2.2.2.2.1, trivial⟩) | exact InFam.mk () trivial (by repeat' first | exact SubE.nil | refine SubE.cons rfl ?_ ?_ | exact VEq.refl _ | refine VEq.int (by omega) | refine VEq.sl rfl (by first | rfl | omega | (rw [List.length_append]; rfl) | (simp; omega)) rfl) (Ents.refl _ _)
        | fail
      all_goals trace_state
    · have e : hLvl x.level = x.level := by unfold hLvl; omega
      rw [e] at hit ⊢
      by_cases l2 : x.level = 1
      · rw [l2] at hit ⊢
        repeat' first
          | refine J_seq ?_ | refine J_region Tryz.tyOK ?_ | refine J_block ?_ | refine J_cond ?_ | refine J_ret ?_ | refine J_skip ?_ | refine J_exit ?_ | refine J_scope ?_
          | refine CondP.yes (by omega) ?_ | refine CondP.no (by omega) ?_ | refine CondP.mk (fun h => ?_) (fun h => ?_) | refine EqP.mk rfl ?_ | refine NewP.mk (fun ad => ?_) | refine ArP.exact (by simp only [inR]; omega) ?_ | refine SideP.mk (by first | omega | (dsimp only; omega) | (simp; omega)) ?_
          | refine CallP.is hit ?_ (fun m h => ⟨(hD m h).2.2.2.2.1, trivial⟩) | exact InFam.mk () trivial (by repeat' first | exact SubE.nil | refine SubE.cons rfl ?_ ?_ | exact VEq.refl _ | refine VEq.int (by omega) | refine VEq.sl rfl (by first | rfl | omega | (rw [List.length_append]; rfl) | (simp; omega)) rfl) (Ents.refl _ _)
          | fail
        all_goals trace_state
      · repeat' first
          | refine J_seq ?_ | refine J_region Tryz.tyOK ?_ | refine J_block ?_ | refine J_cond ?_ | refine J_ret ?_ | refine J_skip ?_ | refine J_exit ?_ | refine J_scope ?_
          | refine CondP.yes (by omega) ?_ | refine CondP.no (by omega) ?_ | refine CondP.mk (fun h => ?_) (fun h => ?_) | refine EqP.mk rfl ?_ | refine NewP.mk (fun ad => ?_) | refine ArP.exact (by simp only [inR]; omega) ?_ | refine SideP.mk (by first | omega | (dsimp only; omega) | (simp; omega)) ?_
          | refine CallP.is hit ?_ (fun m h => ⟨(hD m h).2.2.2.2.1, trivial⟩) | exact InFam.mk () trivial (by repeat' first | exact SubE.nil | refine SubE.cons rfl ?_ ?_ | exact VEq.refl _ | refine VEq.int (by omega) | refine VEq.sl rfl (by first | rfl | omega | (rw [List.length_append]; rfl) | (simp; omega)) rfl) (Ents.refl _ _)
          | fail
        all_goals trace_state
  generalize itoa (hLvl x.level) = lv at *
  clear hit
  cases top with
  | false =>
    simp only [Bool.false_eq_true, if_false] at sL ⊢
    rw [show hId W false h = [] from rfl] at sL ⊢
    repeat' first
      | refine J_seq ?_ | refine J_region Tryz.tyOK ?_ | refine J_block ?_ | refine J_cond ?_ | refine J_ret ?_ | refine J_skip ?_ | refine J_exit ?_ | refine J_scope ?_
      | refine CondP.yes (by omega) ?_ | refine CondP.no (by omega) ?_ | refine CondP.mk (fun h => ?_) (fun h => ?_) | refine EqP.mk rfl ?_ | refine NewP.mk (fun ad => ?_) | refine ArP.exact (by simp only [inR]; omega) ?_ | refine SideP.mk (by first | omega | (dsimp only; omega) | (simp; omega)) ?_
      | (refine CallP.mk _ [_] D _ sL (List.perm_append_comm (l₁ := [_]) (l₂ := [_, _, _])) (fun _ h => h) (fun v L' D' hp => ?_); obtain ⟨u4, a4, c4, hi4, rfl, rfl, rfl⟩ := hp; unfold wrM wrR)
      | fail
    exact FinE.mk (wrM K W u4 a4 c4 _ (m + x.marks.length) h) [] ⟨u4, a4, c4, hi4, rfl, rfl, rfl⟩ ((Ents.sub ⟨[_], List.perm_append_comm (l₁ := [_, _, _]) (l₂ := [_])⟩).trans (Ents.facts fun _ _ => trivial))
  | true =>
    simp only [if_true] at sL hidl ho ⊢
    have hlt := hh rfl
    have hrd : ∀ L, Reads L D 42 4 K.ea es.length (entC es) := fun _ => .inr fun m hm => (hD m hm).2.2.1
    have hg3 : ((entC es).drop (h * 4 + 3)).take 1 = [.s es[h].anchor] := entC_get (o := 3) (k := 1) hlt (by omega)
    have hae : hId W true h = [32, 105, 100, 61, 34] ++ escT es[h].anchor ++ [34] := by
      unfold hId; rw [if_pos rfl, han, ancs, List.getD_eq_getElem?_getD, List.getElem?_map, List.getElem?_eq_getElem hlt]; rfl
    have hes1 := escape_ok es[h].anchor (by have := hea es[h] (List.getElem_mem hlt); omega)
    have hes2 := escT_le es[h].anchor
    have hea2 := hea es[h] (List.getElem_mem hlt)
    rw [hae] at sL ⊢
    rw [show (((h + 1 : Nat)) : Int) = (h : Int) + 1 from rfl] at sL
    rw [hes] at sL ⊢
    generalize es[h].anchor = an at *
    repeat' first
      | refine J_seq ?_ | refine J_region Tryz.tyOK ?_ | refine J_block ?_ | refine J_cond ?_ | refine J_ret ?_ | refine J_skip ?_ | refine J_exit ?_ | refine J_scope ?_
      | refine CondP.yes (by omega) ?_ | refine CondP.no (by omega) ?_ | refine CondP.mk (fun h => ?_) (fun h => ?_) | refine EqP.mk rfl ?_ | refine NewP.mk (fun ad => ?_) | refine ArP.exact (by simp only [inR]; omega) ?_ | refine SideP.mk (by first | omega | (dsimp only; omega) | (simp; omega)) ?_
      | refine J_drawS (id := 4) Tryz.tyOK (by kernel_rfl) [0, 1, 3, 7, 0, 16, 48, 112, 255, 511, 1023, 2047, 4095, 8191, 16383] [0, 1, 2, 3, 4, 5, 6, 7, 8, 9, 10, 11, 12, 13, 14] [11] [0, 22] false (by kernel_rfl) ?_ | refine EntP.mk (Ents.ofSub (by repeat (first | exact keepC_sub _ _ _ | exact List.Sublist.slnil | refine List.Sublist.cons_cons _ ?_ | refine List.Sublist.cons _ ?_)) (by first | exact fun _ h => h | exact fun _ _ => trivial | exact fun _ h => h.2 | exact fun _ h => h.2.2.2.2 | exact fun _ h => h.2.2 | exact fun _ h => h.2.2.2 | exact fun _ h => h.2.2.2.2.2 | exact fun _ h => h.2.2.2.2.2.2 | exact fun _ h => h.2.2.2.2.2.2.2 | exact fun _ h => h.2.2.2.2.2.2.2.2 | exact fun _ h => h.2.2.2.2.2.2.2.2.2 | exact fun _ h => h.2.2.2.2.2.2.2.2.2.2 | exact fun _ h => ((allD_append _ _).1 h).2)) ?_ | refine IdxE.mk 42 4 _ (hrd _) (by omega) (by omega) ?_ | refine FldE.mk 42 4 _ _ (hrd _) (by omega) ?_ | refine LoadE.mk 42 es.length _ _ (hrd _) (by omega) (by omega) (by decide) (by exact hg3) ?_ | refine CallP.is hes1 ?_ (fun _ _ => trivial) | (refine CallP.mk _ [_] D _ sL (List.perm_append_comm (l₁ := [_]) (l₂ := [_, _, _])) (fun _ h => h) (fun v L' D' hp => ?_); obtain ⟨u4, a4, c4, hi4, rfl, rfl, rfl⟩ := hp; unfold wrM wrR)
      | fail
    refine FinE.mk (wrM K W u4 a4 c4 (o ++ ([60, 104] ++ lv ++ ([32, 105, 100, 61, 34] ++ escT an ++ [34]) ++ [62]) ++ inlRen W true m x.inl ++ ([60, 47, 104] ++ lv ++ [62, 10])) (m + x.marks.length) (h + 1)) [] ⟨u4, a4, c4, hi4, rfl, rfl, rfl⟩ ?_
    unfold wrM wrR
    rw [hes]
    exact ((Ents.sub ⟨[_], List.perm_append_comm (l₁ := [_, _, _]) (l₂ := [_])⟩).trans (Ents.facts fun _ _ => trivial))
end Go.Proofs
namespace Go.Proofs
open Go Go.X Go.Lib
set_option maxRecDepth 100000
def hUp (top : Bool) (h n : Nat) : Nat := if top then h + n else h
theorem blksRen_succ (W : RenW) (top : Bool) (m h : Nat) {bs : List Blk} {i : Nat} (hlt : i < bs.length) : blksRen W top m h (bs.take (i + 1)) = blksRen W top m h (bs.take i) ++ bs[i].ren W top (m + (blkMarks (bs.take i)).length) (hUp top h (hdsN (bs.take i))) := by
  rw [List.take_succ_eq_append_getElem hlt]
  cases top with
  | true => rw [blksRen_append_top]; simp [blksRen, hUp]
  | false => rw [blksRen_append]; simp [blksRen, hUp]
theorem hdsN_succ {bs : List Blk} {i : Nat} (hlt : i < bs.length) : hdsN (bs.take (i + 1)) = hdsN (bs.take i) + (if bs[i].kind = 1 then 1 else 0) := by
  rw [List.take_succ_eq_append_getElem hlt, hdsN_append]; simp [hdsN]
theorem hdsN_take_le (bs : List Blk) (i : Nat) : hdsN (bs.take i) ≤ hdsN bs := by
  have := hdsN_append (bs.take i) (bs.drop i)
  rw [List.take_append_drop] at this; omega
theorem hUp_succ (top : Bool) (h : Nat) {bs : List Blk} {i : Nat} (hlt : i < bs.length) : hUp top h (hdsN (bs.take (i + 1))) = if top = true ∧ bs[i].kind = 1 then hUp top h (hdsN (bs.take i)) + 1 else hUp top h (hdsN (bs.take i)) := by
  rw [hdsN_succ hlt]
  cases top with
  | true =>
    by_cases hk : bs[i].kind = 1
    · simp [hUp, hk, Nat.add_assoc]
    · simp [hUp, hk]
  | false => simp [hUp]
set_option maxHeartbeats 8000000 in
theorem block_ok (K : WrK) (W : RenW) (hK : WrOk K W) (es : List EntT) (hes : K.en = es.length) (han : W.an = ancs es) (A : Nat) (hA : ∀ i, (hId W true i).length ≤ A) (hel : es.length ≤ 100000000) (hea : ∀ e ∈ es, e.anchor.length ≤ 10000000) (x : Blk) (top : Bool) (h : Nat) (hb : x.bulk ≤ 1100000) (D : List Fact)
    (hD : ∀ mm, allD mm D → allD mm [inlF x.ia x.inl, blkF x.ka x.kids, entF K.ea es, noteF K W, tabF, gInt 0]) (m : Nat) (hkl : (blksRen W false (m + (inlMarks x.inl).length) h x.kids).length ≤ 700 * blkBulk x.kids)
    (hck : ∀ u a c o, BxI u a c o → o.length + 2000 * blkBulk x.kids + 1000 ≤ 60000000000000 → FnS Tryz.prog 52 [.c (.p 0 K.ab 0), .c (.sl x.ka x.kids.length x.kc), .c (.b false)] (wrM K W u a c o (m + (inlMarks x.inl).length) h) [blkF x.ka x.kids, entF K.ea es, noteF K W, tabF, gInt 0] (WrP K W (o ++ blksRen W false (m + (inlMarks x.inl).length) h x.kids) (m + (inlMarks x.inl).length + (blkMarks x.kids).length) h))
    (u : Bool) (a : Option Addr) (c : Nat) (o : List UInt8) (hi : BxI u a c o) (hm : m + x.bulk ≤ 100000000) (hns : m + x.marks.length ≤ W.ns.length) (hh : top = true → x.kind = 1 → h < es.length) (ho : o.length + (if top = true ∧ x.kind = 1 then A else 0) + 2000 * x.bulk + 1000 ≤ 60000000000000) :
    FnS Tryz.prog 85 [.c (.p 0 K.ab 0), .agg x.cells, .c (.b top)] (wrM K W u a c o m h) D (WrP K W (o ++ x.ren W top m h) (m + x.marks.length) (if top = true ∧ x.kind = 1 then h + 1 else h)) := by
  have hxb := Blk.bulk_eq x
  have hDl : ∀ mm, allD mm D → allD mm [inlF x.ia x.inl, blkF x.ka x.kids, noteF K W, tabF, gInt 0] := fun mm hh => ⟨(hD mm hh).1, (hD mm hh).2.1, (hD mm hh).2.2.2⟩
  have hes1 := escape_ok x.text (by omega)
  have hes2 := escT_le x.text
  have hmq := Blk.marks_eq x
  have hml := inlMarks_bulk x.inl
  have hmn := inl_len_bulk (inlMarks x.inl)
  have hrl := inlRen_le W hK.ns true m x.inl (by omega)
  by_cases k1 : x.kind = 1
  · have e : (if top = true ∧ x.kind = 1 then h + 1 else h) = (if top = true then h + 1 else h) := by simp only [k1, and_true]
    have e2 : (if top = true ∧ x.kind = 1 then A else 0) = (if top = true then A else 0) := by simp only [k1, and_true]
    rw [e2] at ho
    rw [e]
    have sL := title_ok K W hK es hes han A hA hel hea x top h hb D hD u a c o m hi hm hns (fun ht => hh ht k1) (by omega)
    rw [show o ++ ([60, 104] ++ itoa (hLvl x.level) ++ hId W top h ++ [62]) ++ inlRen W true m x.inl ++ ([60, 47, 104] ++ itoa (hLvl x.level) ++ [62, 10]) = o ++ x.ren W top m h by rw [Blk.ren_eq, if_pos k1]; simp only [List.append_assoc]] at sL
    unfold wrM wrR Blk.cells at sL ⊢
    refine fn_of_J Tryz.tyOK 7000 Tryz.func85 (by kernel_rfl) (c := Tryz.f85.body.getD .skip) (by kernel_rfl) Tryz.ntmps85 (rs := Tryz.f85.results.toList) rfl (by simp) (fun G => ?_)
    repeat' first
      | refine J_seq ?_ | refine J_region Tryz.tyOK ?_ | refine J_block ?_ | refine J_cond ?_ | refine J_ret ?_ | refine J_skip ?_ | refine J_exit ?_ | refine J_scope ?_
      | refine CondP.yes (by omega) ?_ | refine CondP.no (by omega) ?_ | refine CondP.mk (fun h => ?_) (fun h => ?_) | refine EqP.mk rfl ?_ | refine NewP.mk (fun ad => ?_) | refine ArP.exact (by simp only [inR]; omega) ?_ | refine SideP.mk (by first | omega | (dsimp only; omega) | (simp; omega)) ?_
      | (refine CallP.mk _ [_] D _ sL (List.perm_append_comm (l₁ := [_]) (l₂ := [_, _, _])) (fun _ h => h) (fun v L' D' hp => ?_); obtain ⟨u4, a4, c4, hi4, rfl, rfl, rfl⟩ := hp; unfold wrM wrR)
      | fail
    exact FinE.mk (wrM K W u4 a4 c4 (o ++ x.ren W top m h) (m + x.marks.length) (if top = true then h + 1 else h)) [] ⟨u4, a4, c4, hi4, rfl, rfl, rfl⟩ ((Ents.sub ⟨[_], List.perm_append_comm (l₁ := [_, _, _]) (l₂ := [_])⟩).trans (Ents.facts fun _ _ => trivial))
  rw [if_neg (fun hc => k1 hc.2)] at ho ⊢
  have hes := hes1
  unfold wrM wrR
  conv in (occs := *) (Blk.cells _) => all_goals unfold Blk.cells
  refine fn_of_J Tryz.tyOK 7000 Tryz.func85 (by kernel_rfl) (c := Tryz.f85.body.getD .skip) (by kernel_rfl) Tryz.ntmps85 (rs := Tryz.f85.results.toList) rfl (by simp) (fun G => ?_)
  by_cases k2 : x.kind = 2
  · have sL := line_ok K W hK x [60, 112, 62] [60, 47, 112, 62, 10] h hb D hDl u a c o m hi hm hns (by simp only [List.length_cons, List.length_nil]; omega)
    rw [show o ++ [60, 112, 62] ++ inlRen W true m x.inl ++ [60, 47, 112, 62, 10] = o ++ x.ren W top m h by rw [Blk.ren_eq, if_neg k1, if_pos k2]; simp only [List.append_assoc]] at sL
    unfold wrM wrR Blk.cells at sL
    repeat' first
      | refine J_seq ?_ | refine J_region Tryz.tyOK ?_ | refine J_block ?_ | refine J_cond ?_ | refine J_ret ?_ | refine J_skip ?_ | refine J_exit ?_ | refine J_scope ?_
      | refine CondP.yes (by omega) ?_ | refine CondP.no (by omega) ?_ | refine CondP.mk (fun h => ?_) (fun h => ?_) | refine EqP.mk rfl ?_ | refine NewP.mk (fun ad => ?_) | refine ArP.exact (by simp only [inR]; omega) ?_ | refine SideP.mk (by first | omega | (dsimp only; omega) | (simp; omega)) ?_
      | (refine CallP.mk _ [_] D _ sL (List.perm_append_comm (l₁ := [_]) (l₂ := [_, _, _])) (fun _ h => h) (fun v L' D' hp => ?_); obtain ⟨u4, a4, c4, hi4, rfl, rfl, rfl⟩ := hp; unfold wrM wrR)
      | fail
    exact FinE.mk (wrM K W u4 a4 c4 (o ++ x.ren W top m h) (m + x.marks.length) h) [] ⟨u4, a4, c4, hi4, rfl, rfl, rfl⟩ ((Ents.sub ⟨[_], List.perm_append_comm (l₁ := [_, _, _]) (l₂ := [_])⟩).trans (Ents.facts fun _ _ => trivial))
  by_cases k5 : x.kind = 5
  · have sL := hidden_ok K W x ([60, 104, 114, 62, 10]) h hb D (fun mm hh => ⟨(hD mm hh).1, (hD mm hh).2.1, trivial⟩) u a c o m hi hm (by simp only [List.length_append, List.length_cons, List.length_nil]; omega)
    rw [show o ++ ([60, 104, 114, 62, 10]) = o ++ x.ren W top m h by rw [Blk.ren_eq, if_neg k1, if_neg k2, if_pos k5]] at sL
    unfold wrM wrR Blk.cells at sL
    repeat' first
      | refine J_seq ?_ | refine J_region Tryz.tyOK ?_ | refine J_block ?_ | refine J_cond ?_ | refine J_ret ?_ | refine J_skip ?_ | refine J_exit ?_ | refine J_scope ?_
      | refine CondP.yes (by omega) ?_ | refine CondP.no (by omega) ?_ | refine CondP.mk (fun h => ?_) (fun h => ?_) | refine EqP.mk rfl ?_ | refine NewP.mk (fun ad => ?_) | refine ArP.exact (by simp only [inR]; omega) ?_ | refine SideP.mk (by first | omega | (dsimp only; omega) | (simp; omega)) ?_
      | (refine CallP.mk _ [_] D _ sL (List.perm_append_comm (l₁ := [_]) (l₂ := [_, _, _])) (fun _ h => h) (fun v L' D' hp => ?_); obtain ⟨u4, a4, c4, hi4, rfl, rfl, rfl⟩ := hp; unfold wrM wrR)
      | fail
    exact FinE.mk (wrM K W u4 a4 c4 (o ++ x.ren W top m h) (m + x.marks.length) h) [] ⟨u4, a4, c4, hi4, rfl, rfl, rfl⟩ ((Ents.sub ⟨[_], List.perm_append_comm (l₁ := [_, _, _]) (l₂ := [_])⟩).trans (Ents.facts fun _ _ => trivial))
  by_cases k6 : x.kind = 6
  · have sL := hidden_ok K W x ([60, 112, 114, 101, 62] ++ escT x.text ++ [60, 47, 112, 114, 101, 62, 10]) h hb D (fun mm hh => ⟨(hD mm hh).1, (hD mm hh).2.1, trivial⟩) u a c o m hi hm (by simp only [List.length_append, List.length_cons, List.length_nil]; omega)
    rw [show o ++ ([60, 112, 114, 101, 62] ++ escT x.text ++ [60, 47, 112, 114, 101, 62, 10]) = o ++ x.ren W top m h by rw [Blk.ren_eq, if_neg k1, if_neg k2, if_neg k5, if_pos k6]] at sL
    unfold wrM wrR Blk.cells at sL
    repeat' first
      | refine J_seq ?_ | refine J_region Tryz.tyOK ?_ | refine J_block ?_ | refine J_cond ?_ | refine J_ret ?_ | refine J_skip ?_ | refine J_exit ?_ | refine J_scope ?_
      | refine CondP.yes (by omega) ?_ | refine CondP.no (by omega) ?_ | refine CondP.mk (fun h => ?_) (fun h => ?_) | refine EqP.mk rfl ?_ | refine NewP.mk (fun ad => ?_) | refine ArP.exact (by simp only [inR]; omega) ?_ | refine SideP.mk (by first | omega | (dsimp only; omega) | (simp; omega)) ?_
      | refine J_drawS (id := 10) Tryz.tyOK (by kernel_rfl) [0, 0, 0, 4, 12, 28, 60, 127] [0, 1, 2, 3, 4, 5, 6, 7] [4, 7] [4] false (by kernel_rfl) ?_ | refine EntP.mk (Ents.ofSub (by repeat (first | exact keepC_sub _ _ _ | exact List.Sublist.slnil | refine List.Sublist.cons_cons _ ?_ | refine List.Sublist.cons _ ?_)) (by first | exact fun _ h => h | exact fun _ _ => trivial | exact fun _ h => h.2 | exact fun _ h => h.2.2.2.2 | exact fun _ h => h.2.2 | exact fun _ h => h.2.2.2 | exact fun _ h => h.2.2.2.2.2 | exact fun _ h => h.2.2.2.2.2.2 | exact fun _ h => h.2.2.2.2.2.2.2 | exact fun _ h => h.2.2.2.2.2.2.2.2 | exact fun _ h => h.2.2.2.2.2.2.2.2.2 | exact fun _ h => h.2.2.2.2.2.2.2.2.2.2 | exact fun _ h => ((allD_append _ _).1 h).2)) ?_ | refine CallP.is hes ?_ (fun _ _ => trivial) | (refine CallP.mk _ [_] D _ sL (List.perm_append_comm (l₁ := [_]) (l₂ := [_, _, _])) (fun _ h => h) (fun v L' D' hp => ?_); obtain ⟨u4, a4, c4, hi4, rfl, rfl, rfl⟩ := hp; unfold wrM wrR)
      | fail
    exact FinE.mk (wrM K W u4 a4 c4 (o ++ x.ren W top m h) (m + x.marks.length) h) [] ⟨u4, a4, c4, hi4, rfl, rfl, rfl⟩ ((Ents.sub ⟨[_], List.perm_append_comm (l₁ := [_, _, _]) (l₂ := [_])⟩).trans (Ents.facts fun _ _ => trivial))
  by_cases k3 : x.kind = 3
  · by_cases l1 : x.level = 1
    · have sL := group_ok K W x [60, 111, 108, 62, 10] [60, 47, 111, 108, 62, 10] h hb D [blkF x.ka x.kids, entF K.ea es, noteF K W, tabF, gInt 0] (fun mm hh => ⟨(hD mm hh).1, trivial⟩) (fun mm hh => (hD mm hh).2) m (60000000000000 - 2000 * blkBulk x.kids - 1000) (by omega) hkl (fun u a c o' hi' ho' => hck u a c o' hi' (by omega)) u a c o hi hm (by show o.length + (List.length [60, 111, 108, 62, 10]) ≤ _; simp only [List.length_cons, List.length_nil]; omega) (by decide)
      rw [show o ++ [60, 111, 108, 62, 10] ++ blksRen W false (m + (inlMarks x.inl).length) h x.kids ++ [60, 47, 111, 108, 62, 10] = o ++ x.ren W top m h by rw [Blk.ren_eq, if_neg k1, if_neg k2, if_neg k5, if_neg k6, if_pos k3, if_pos l1, if_pos l1]; simp only [List.append_assoc]] at sL
      unfold wrM wrR Blk.cells at sL
      repeat' first
        | refine J_seq ?_ | refine J_region Tryz.tyOK ?_ | refine J_block ?_ | refine J_cond ?_ | refine J_ret ?_ | refine J_skip ?_ | refine J_exit ?_ | refine J_scope ?_
        | refine CondP.yes (by omega) ?_ | refine CondP.no (by omega) ?_ | refine CondP.mk (fun h => ?_) (fun h => ?_) | refine EqP.mk rfl ?_ | refine NewP.mk (fun ad => ?_) | refine ArP.exact (by simp only [inR]; omega) ?_ | refine SideP.mk (by first | omega | (dsimp only; omega) | (simp; omega)) ?_
        | (refine CallP.mk _ [_] D _ sL (List.perm_append_comm (l₁ := [_]) (l₂ := [_, _, _])) (fun _ h => h) (fun v L' D' hp => ?_); obtain ⟨u4, a4, c4, hi4, rfl, rfl, rfl⟩ := hp; unfold wrM wrR)
        | fail
      exact FinE.mk (wrM K W u4 a4 c4 (o ++ x.ren W top m h) (m + x.marks.length) h) [] ⟨u4, a4, c4, hi4, rfl, rfl, rfl⟩ ((Ents.sub ⟨[_], List.perm_append_comm (l₁ := [_, _, _]) (l₂ := [_])⟩).trans (Ents.facts fun _ _ => trivial))
    · have sL := group_ok K W x [60, 117, 108, 62, 10] [60, 47, 117, 108, 62, 10] h hb D [blkF x.ka x.kids, entF K.ea es, noteF K W, tabF, gInt 0] (fun mm hh => ⟨(hD mm hh).1, trivial⟩) (fun mm hh => (hD mm hh).2) m (60000000000000 - 2000 * blkBulk x.kids - 1000) (by omega) hkl (fun u a c o' hi' ho' => hck u a c o' hi' (by omega)) u a c o hi hm (by show o.length + (List.length [60, 117, 108, 62, 10]) ≤ _; simp only [List.length_cons, List.length_nil]; omega) (by decide)
      rw [show o ++ [60, 117, 108, 62, 10] ++ blksRen W false (m + (inlMarks x.inl).length) h x.kids ++ [60, 47, 117, 108, 62, 10] = o ++ x.ren W top m h by rw [Blk.ren_eq, if_neg k1, if_neg k2, if_neg k5, if_neg k6, if_pos k3, if_neg l1, if_neg l1]; simp only [List.append_assoc]] at sL
      unfold wrM wrR Blk.cells at sL
      repeat' first
        | refine J_seq ?_ | refine J_region Tryz.tyOK ?_ | refine J_block ?_ | refine J_cond ?_ | refine J_ret ?_ | refine J_skip ?_ | refine J_exit ?_ | refine J_scope ?_
        | refine CondP.yes (by omega) ?_ | refine CondP.no (by omega) ?_ | refine CondP.mk (fun h => ?_) (fun h => ?_) | refine EqP.mk rfl ?_ | refine NewP.mk (fun ad => ?_) | refine ArP.exact (by simp only [inR]; omega) ?_ | refine SideP.mk (by first | omega | (dsimp only; omega) | (simp; omega)) ?_
        | (refine CallP.mk _ [_] D _ sL (List.perm_append_comm (l₁ := [_]) (l₂ := [_, _, _])) (fun _ h => h) (fun v L' D' hp => ?_); obtain ⟨u4, a4, c4, hi4, rfl, rfl, rfl⟩ := hp; unfold wrM wrR)
        | fail
      exact FinE.mk (wrM K W u4 a4 c4 (o ++ x.ren W top m h) (m + x.marks.length) h) [] ⟨u4, a4, c4, hi4, rfl, rfl, rfl⟩ ((Ents.sub ⟨[_], List.perm_append_comm (l₁ := [_, _, _]) (l₂ := [_])⟩).trans (Ents.facts fun _ _ => trivial))
  by_cases k4 : x.kind = 4
  · have s1 := fun u' a' c' (hi' : BxI u' a' c' o) => bxString_ok 0 K.ab 87 u' a' c' o [60, 108, 105, 62] [.m 1 K.am, .sl K.na W.ns.length K.nc, .i .i64 (m : Nat), .sl K.ea K.en K.ec, .i .i64 h] btyW hi' (by simp; omega)
    have s2 := fun u' a' c' (hi' : BxI u' a' c' (o ++ [60, 108, 105, 62])) => winl_ok K W hK true h _ x.inl rfl x.ia x.ic u' a' c' (o ++ [60, 108, 105, 62]) m hi' (by omega) (by omega) (fun _ => by rw [hmq, List.length_append] at hns; omega) (by simp; omega)
    simp only [mkN_on] at s2
    unfold wrM wrR at s2
    by_cases h0 : x.kids = []
    · have s3 := fun u' a' c' (hi' : BxI u' a' c' (o ++ [60, 108, 105, 62] ++ inlRen W true m x.inl)) => bxString_ok 0 K.ab 87 u' a' c' (o ++ [60, 108, 105, 62] ++ inlRen W true m x.inl) [60, 47, 108, 105, 62, 10] [.m 1 K.am, .sl K.na W.ns.length K.nc, .i .i64 (m + (inlMarks x.inl).length : Nat), .sl K.ea K.en K.ec, .i .i64 h] btyW hi' (by simp; omega)
      have hk0 : x.kids.length = 0 := by rw [h0]; rfl
      have hmz : x.marks.length = (inlMarks x.inl).length := by rw [hmq, h0]; simp [blkMarks]
      rw [hmz]
      have er : o ++ [60, 108, 105, 62] ++ inlRen W true m x.inl ++ [60, 47, 108, 105, 62, 10] = o ++ x.ren W top m h := by rw [Blk.ren_eq, if_neg k1, if_neg k2, if_neg k5, if_neg k6, if_neg k3, if_pos k4, if_pos h0]; simp only [List.append_assoc, List.append_nil, List.nil_append]
      rw [← er]
      repeat' first
        | refine J_seq ?_ | refine J_region Tryz.tyOK ?_ | refine J_block ?_ | refine J_cond ?_ | refine J_ret ?_ | refine J_skip ?_ | refine J_exit ?_ | refine J_scope ?_
        | refine CondP.yes (by omega) ?_ | refine CondP.no (by omega) ?_ | refine CondP.mk (fun h => ?_) (fun h => ?_) | refine EqP.mk rfl ?_ | refine NewP.mk (fun ad => ?_) | refine ArP.exact (by simp only [inR]; omega) ?_ | refine SideP.mk (by first | omega | (dsimp only; omega) | (simp; omega)) ?_
        | (refine CallP.mk _ [_, _] [] _ (s1 _ _ _ hi) ((List.perm_append_comm (l₁ := [_]) (l₂ := [_, _])).append_right [_]) (fun _ _ => trivial) (fun v L' D' hp => ?_); obtain ⟨u1, a1, c1, hi1, rfl, rfl, rfl⟩ := hp) | (refine CallP.mk _ [_] [inlF x.ia x.inl, noteF K W, tabF, gInt 0] _ (s2 _ _ _ hi1) ((List.Perm.swap _ _ _).append_left [_, _]) (fun m h => ⟨(hD m h).1, (hD m h).2.2.2⟩) (fun v L' D' hp => ?_); obtain ⟨u2, a2, c2, hi2, rfl, rfl, rfl⟩ := hp; unfold wrM wrR) | (refine CallP.mk _ [_, _] [] _ (s3 _ _ _ hi2) (List.Perm.refl _) (fun _ _ => trivial) (fun v L' D' hp => ?_); obtain ⟨u4, a4, c4, hi4, rfl, rfl, rfl⟩ := hp)
        | fail
      exact FinE.mk (wrM K W u4 a4 c4 (o ++ [60, 108, 105, 62] ++ inlRen W true m x.inl ++ [60, 47, 108, 105, 62, 10]) (m + (inlMarks x.inl).length) h) [] ⟨u4, a4, c4, hi4, rfl, rfl, rfl⟩ ((Ents.sub ⟨[_], List.perm_append_comm (l₁ := [_, _, _]) (l₂ := [_])⟩).trans (Ents.facts fun _ _ => trivial))
    · have hk0 : 0 < x.kids.length := List.length_pos_iff.2 h0
      have s3 := fun u' a' c' (hi' : BxI u' a' c' (o ++ [60, 108, 105, 62] ++ inlRen W true m x.inl)) => bxString_ok 0 K.ab 87 u' a' c' (o ++ [60, 108, 105, 62] ++ inlRen W true m x.inl) [10] [.m 1 K.am, .sl K.na W.ns.length K.nc, .i .i64 (m + (inlMarks x.inl).length : Nat), .sl K.ea K.en K.ec, .i .i64 h] btyW hi' (by simp; omega)
      have s4 := fun u' a' c' (hi' : BxI u' a' c' (o ++ [60, 108, 105, 62] ++ inlRen W true m x.inl ++ [10])) => hck u' a' c' (o ++ [60, 108, 105, 62] ++ inlRen W true m x.inl ++ [10]) hi' (by simp; omega)
      have s5 := fun u' a' c' (hi' : BxI u' a' c' (o ++ [60, 108, 105, 62] ++ inlRen W true m x.inl ++ [10] ++ blksRen W false (m + (inlMarks x.inl).length) h x.kids)) => bxString_ok 0 K.ab 87 u' a' c' (o ++ [60, 108, 105, 62] ++ inlRen W true m x.inl ++ [10] ++ blksRen W false (m + (inlMarks x.inl).length) h x.kids) [60, 47, 108, 105, 62, 10] [.m 1 K.am, .sl K.na W.ns.length K.nc, .i .i64 (m + (inlMarks x.inl).length + (blkMarks x.kids).length : Nat), .sl K.ea K.en K.ec, .i .i64 h] btyW hi' (by simp; omega)
      have hmz : x.marks.length = (inlMarks x.inl).length + (blkMarks x.kids).length := by rw [hmq, List.length_append]
      rw [hmz, ← Nat.add_assoc]
      have er : o ++ [60, 108, 105, 62] ++ inlRen W true m x.inl ++ [10] ++ blksRen W false (m + (inlMarks x.inl).length) h x.kids ++ [60, 47, 108, 105, 62, 10] = o ++ x.ren W top m h := by rw [Blk.ren_eq, if_neg k1, if_neg k2, if_neg k5, if_neg k6, if_neg k3, if_pos k4, if_neg h0]; simp only [List.append_assoc, List.append_nil, List.nil_append, List.cons_append]
      rw [← er]
      unfold wrM wrR at s4
      generalize blksRen W false (m + (inlMarks x.inl).length) h x.kids = R at *
      repeat' first
        | refine J_seq ?_ | refine J_region Tryz.tyOK ?_ | refine J_block ?_ | refine J_cond ?_ | refine J_ret ?_ | refine J_skip ?_ | refine J_exit ?_ | refine J_scope ?_
        | refine CondP.yes (by omega) ?_ | refine CondP.no (by omega) ?_ | refine CondP.mk (fun h => ?_) (fun h => ?_) | refine EqP.mk rfl ?_ | refine NewP.mk (fun ad => ?_) | refine ArP.exact (by simp only [inR]; omega) ?_ | refine SideP.mk (by first | omega | (dsimp only; omega) | (simp; omega)) ?_
        | (refine CallP.mk _ [_, _] [] _ (s1 _ _ _ hi) ((List.perm_append_comm (l₁ := [_]) (l₂ := [_, _])).append_right [_]) (fun _ _ => trivial) (fun v L' D' hp => ?_); obtain ⟨u1, a1, c1, hi1, rfl, rfl, rfl⟩ := hp) | (refine CallP.mk _ [_] [inlF x.ia x.inl, noteF K W, tabF, gInt 0] _ (s2 _ _ _ hi1) ((List.Perm.swap _ _ _).append_left [_, _]) (fun m h => ⟨(hD m h).1, (hD m h).2.2.2⟩) (fun v L' D' hp => ?_); obtain ⟨u2, a2, c2, hi2, rfl, rfl, rfl⟩ := hp; unfold wrM wrR) | (refine CallP.mk _ [_, _] [] _ (s3 _ _ _ hi2) (List.Perm.refl _) (fun _ _ => trivial) (fun v L' D' hp => ?_); obtain ⟨u3, a3, c3, hi3, rfl, rfl, rfl⟩ := hp) | (refine CallP.mk _ [_] [blkF x.ka x.kids, entF K.ea es, noteF K W, tabF, gInt 0] _ (s4 _ _ _ hi3) (List.Perm.refl _) (fun m h => (hD m h).2) (fun v L' D' hp => ?_); obtain ⟨u5, a5, c5, hi5, rfl, rfl, rfl⟩ := hp; unfold wrM wrR) | (refine CallP.mk _ [_, _] [] _ (s5 _ _ _ hi5) (List.Perm.refl _) (fun _ _ => trivial) (fun v L' D' hp => ?_); obtain ⟨u4, a4, c4, hi4, rfl, rfl, rfl⟩ := hp)
        | fail
      exact FinE.mk (wrM K W u4 a4 c4 (o ++ [60, 108, 105, 62] ++ inlRen W true m x.inl ++ [10] ++ R ++ [60, 47, 108, 105, 62, 10]) (m + (inlMarks x.inl).length + (blkMarks x.kids).length) h) [] ⟨u4, a4, c4, hi4, rfl, rfl, rfl⟩ ((Ents.sub ⟨[_], List.perm_append_comm (l₁ := [_, _, _]) (l₂ := [_])⟩).trans (Ents.facts fun _ _ => trivial))
  by_cases k7 : x.kind = 7
  · have sL := group_ok K W x [60, 116, 97, 98, 108, 101, 62, 10] [60, 47, 116, 97, 98, 108, 101, 62, 10] h hb D [blkF x.ka x.kids, entF K.ea es, noteF K W, tabF, gInt 0] (fun mm hh => ⟨(hD mm hh).1, trivial⟩) (fun mm hh => (hD mm hh).2) m (60000000000000 - 2000 * blkBulk x.kids - 1000) (by omega) hkl (fun u a c o' hi' ho' => hck u a c o' hi' (by omega)) u a c o hi hm (by show o.length + (List.length [60, 116, 97, 98, 108, 101, 62, 10]) ≤ _; simp only [List.length_cons, List.length_nil]; omega) (by decide)
    rw [show o ++ [60, 116, 97, 98, 108, 101, 62, 10] ++ blksRen W false (m + (inlMarks x.inl).length) h x.kids ++ [60, 47, 116, 97, 98, 108, 101, 62, 10] = o ++ x.ren W top m h by rw [Blk.ren_eq, if_neg k1, if_neg k2, if_neg k5, if_neg k6, if_neg k3, if_neg k4, if_pos k7]; simp only [List.append_assoc]] at sL
    unfold wrM wrR Blk.cells at sL
    repeat' first
      | refine J_seq ?_ | refine J_region Tryz.tyOK ?_ | refine J_block ?_ | refine J_cond ?_ | refine J_ret ?_ | refine J_skip ?_ | refine J_exit ?_ | refine J_scope ?_
      | refine CondP.yes (by omega) ?_ | refine CondP.no (by omega) ?_ | refine CondP.mk (fun h => ?_) (fun h => ?_) | refine EqP.mk rfl ?_ | refine NewP.mk (fun ad => ?_) | refine ArP.exact (by simp only [inR]; omega) ?_ | refine SideP.mk (by first | omega | (dsimp only; omega) | (simp; omega)) ?_
      | (refine CallP.mk _ [_] D _ sL (List.perm_append_comm (l₁ := [_]) (l₂ := [_, _, _])) (fun _ h => h) (fun v L' D' hp => ?_); obtain ⟨u4, a4, c4, hi4, rfl, rfl, rfl⟩ := hp; unfold wrM wrR)
      | fail
    exact FinE.mk (wrM K W u4 a4 c4 (o ++ x.ren W top m h) (m + x.marks.length) h) [] ⟨u4, a4, c4, hi4, rfl, rfl, rfl⟩ ((Ents.sub ⟨[_], List.perm_append_comm (l₁ := [_, _, _]) (l₂ := [_])⟩).trans (Ents.facts fun _ _ => trivial))
  by_cases k8 : x.kind = 8
  · have sL := group_ok K W x [60, 116, 114, 62] [60, 47, 116, 114, 62, 10] h hb D [blkF x.ka x.kids, entF K.ea es, noteF K W, tabF, gInt 0] (fun mm hh => ⟨(hD mm hh).1, trivial⟩) (fun mm hh => (hD mm hh).2) m (60000000000000 - 2000 * blkBulk x.kids - 1000) (by omega) hkl (fun u a c o' hi' ho' => hck u a c o' hi' (by omega)) u a c o hi hm (by show o.length + (List.length [60, 116, 114, 62]) ≤ _; simp only [List.length_cons, List.length_nil]; omega) (by decide)
    rw [show o ++ [60, 116, 114, 62] ++ blksRen W false (m + (inlMarks x.inl).length) h x.kids ++ [60, 47, 116, 114, 62, 10] = o ++ x.ren W top m h by rw [Blk.ren_eq, if_neg k1, if_neg k2, if_neg k5, if_neg k6, if_neg k3, if_neg k4, if_neg k7, if_pos k8]; simp only [List.append_assoc]] at sL
    unfold wrM wrR Blk.cells at sL
    repeat' first
      | refine J_seq ?_ | refine J_region Tryz.tyOK ?_ | refine J_block ?_ | refine J_cond ?_ | refine J_ret ?_ | refine J_skip ?_ | refine J_exit ?_ | refine J_scope ?_
      | refine CondP.yes (by omega) ?_ | refine CondP.no (by omega) ?_ | refine CondP.mk (fun h => ?_) (fun h => ?_) | refine EqP.mk rfl ?_ | refine NewP.mk (fun ad => ?_) | refine ArP.exact (by simp only [inR]; omega) ?_ | refine SideP.mk (by first | omega | (dsimp only; omega) | (simp; omega)) ?_
      | (refine CallP.mk _ [_] D _ sL (List.perm_append_comm (l₁ := [_]) (l₂ := [_, _, _])) (fun _ h => h) (fun v L' D' hp => ?_); obtain ⟨u4, a4, c4, hi4, rfl, rfl, rfl⟩ := hp; unfold wrM wrR)
      | fail
    exact FinE.mk (wrM K W u4 a4 c4 (o ++ x.ren W top m h) (m + x.marks.length) h) [] ⟨u4, a4, c4, hi4, rfl, rfl, rfl⟩ ((Ents.sub ⟨[_], List.perm_append_comm (l₁ := [_, _, _]) (l₂ := [_])⟩).trans (Ents.facts fun _ _ => trivial))
  by_cases k9 : x.kind = 9
  · by_cases l1 : x.level = 1
    · have sL := line_ok K W hK x [60, 116, 104, 62] [60, 47, 116, 104, 62] h hb D hDl u a c o m hi hm hns (by simp only [List.length_cons, List.length_nil]; omega)
      rw [show o ++ [60, 116, 104, 62] ++ inlRen W true m x.inl ++ [60, 47, 116, 104, 62] = o ++ x.ren W top m h by rw [Blk.ren_eq, if_neg k1, if_neg k2, if_neg k5, if_neg k6, if_neg k3, if_neg k4, if_neg k7, if_neg k8, if_pos k9, if_pos l1, if_pos l1]; simp only [List.append_assoc]] at sL
      unfold wrM wrR Blk.cells at sL
      repeat' first
        | refine J_seq ?_ | refine J_region Tryz.tyOK ?_ | refine J_block ?_ | refine J_cond ?_ | refine J_ret ?_ | refine J_skip ?_ | refine J_exit ?_ | refine J_scope ?_
        | refine CondP.yes (by omega) ?_ | refine CondP.no (by omega) ?_ | refine CondP.mk (fun h => ?_) (fun h => ?_) | refine EqP.mk rfl ?_ | refine NewP.mk (fun ad => ?_) | refine ArP.exact (by simp only [inR]; omega) ?_ | refine SideP.mk (by first | omega | (dsimp only; omega) | (simp; omega)) ?_
        | (refine CallP.mk _ [_] D _ sL (List.perm_append_comm (l₁ := [_]) (l₂ := [_, _, _])) (fun _ h => h) (fun v L' D' hp => ?_); obtain ⟨u4, a4, c4, hi4, rfl, rfl, rfl⟩ := hp; unfold wrM wrR)
        | fail
      exact FinE.mk (wrM K W u4 a4 c4 (o ++ x.ren W top m h) (m + x.marks.length) h) [] ⟨u4, a4, c4, hi4, rfl, rfl, rfl⟩ ((Ents.sub ⟨[_], List.perm_append_comm (l₁ := [_, _, _]) (l₂ := [_])⟩).trans (Ents.facts fun _ _ => trivial))
    · have sL := line_ok K W hK x [60, 116, 100, 62] [60, 47, 116, 100, 62] h hb D hDl u a c o m hi hm hns (by simp only [List.length_cons, List.length_nil]; omega)
      rw [show o ++ [60, 116, 100, 62] ++ inlRen W true m x.inl ++ [60, 47, 116, 100, 62] = o ++ x.ren W top m h by rw [Blk.ren_eq, if_neg k1, if_neg k2, if_neg k5, if_neg k6, if_neg k3, if_neg k4, if_neg k7, if_neg k8, if_pos k9, if_neg l1, if_neg l1]; simp only [List.append_assoc]] at sL
      unfold wrM wrR Blk.cells at sL
      repeat' first
        | refine J_seq ?_ | refine J_region Tryz.tyOK ?_ | refine J_block ?_ | refine J_cond ?_ | refine J_ret ?_ | refine J_skip ?_ | refine J_exit ?_ | refine J_scope ?_
        | refine CondP.yes (by omega) ?_ | refine CondP.no (by omega) ?_ | refine CondP.mk (fun h => ?_) (fun h => ?_) | refine EqP.mk rfl ?_ | refine NewP.mk (fun ad => ?_) | refine ArP.exact (by simp only [inR]; omega) ?_ | refine SideP.mk (by first | omega | (dsimp only; omega) | (simp; omega)) ?_
        | (refine CallP.mk _ [_] D _ sL (List.perm_append_comm (l₁ := [_]) (l₂ := [_, _, _])) (fun _ h => h) (fun v L' D' hp => ?_); obtain ⟨u4, a4, c4, hi4, rfl, rfl, rfl⟩ := hp; unfold wrM wrR)
        | fail
      exact FinE.mk (wrM K W u4 a4 c4 (o ++ x.ren W top m h) (m + x.marks.length) h) [] ⟨u4, a4, c4, hi4, rfl, rfl, rfl⟩ ((Ents.sub ⟨[_], List.perm_append_comm (l₁ := [_, _, _]) (l₂ := [_])⟩).trans (Ents.facts fun _ _ => trivial))
  have sL := hidden_ok K W x ([]) h hb D (fun mm hh => ⟨(hD mm hh).1, (hD mm hh).2.1, trivial⟩) u a c o m hi hm (by simp only [List.length_append, List.length_cons, List.length_nil]; omega)
  rw [show o ++ ([]) = o ++ x.ren W top m h by rw [Blk.ren_eq, if_neg k1, if_neg k2, if_neg k5, if_neg k6, if_neg k3, if_neg k4, if_neg k7, if_neg k8, if_neg k9]] at sL
  unfold wrM wrR Blk.cells at sL
  repeat' first
    | refine J_seq ?_ | refine J_region Tryz.tyOK ?_ | refine J_block ?_ | refine J_cond ?_ | refine J_ret ?_ | refine J_skip ?_ | refine J_exit ?_ | refine J_scope ?_
    | refine CondP.yes (by omega) ?_ | refine CondP.no (by omega) ?_ | refine CondP.mk (fun h => ?_) (fun h => ?_) | refine EqP.mk rfl ?_ | refine NewP.mk (fun ad => ?_) | refine ArP.exact (by simp only [inR]; omega) ?_ | refine SideP.mk (by first | omega | (dsimp only; omega) | (simp; omega)) ?_
    | (refine CallP.mk _ [_] D _ sL (List.perm_append_comm (l₁ := [_]) (l₂ := [_, _, _])) (fun _ h => h) (fun v L' D' hp => ?_); obtain ⟨u4, a4, c4, hi4, rfl, rfl, rfl⟩ := hp; unfold wrM wrR)
    | fail
  exact FinE.mk (wrM K W u4 a4 c4 (o ++ x.ren W top m h) (m + x.marks.length) h) [] ⟨u4, a4, c4, hi4, rfl, rfl, rfl⟩ ((Ents.sub ⟨[_], List.perm_append_comm (l₁ := [_, _, _]) (l₂ := [_])⟩).trans (Ents.facts fun _ _ => trivial))
set_option maxHeartbeats 4000000 in
theorem blocks_ok (K : WrK) (W : RenW) (hK : WrOk K W) (es : List EntT) (hes : K.en = es.length) (han : W.an = ancs es) (A : Nat) (hA : ∀ i, (hId W true i).length ≤ A) (hel : es.length ≤ 100000000) (hea : ∀ e ∈ es, e.anchor.length ≤ 10000000) (n : Nat) : ∀ (bs : List Blk), blkBulk bs = n → ∀ (ba : Option Addr) (bc : Nat) (top : Bool) (h : Nat) (u : Bool) (a : Option Addr) (c : Nat) (o : List UInt8) (m : Nat), BxI u a c o → n ≤ 1100000 → m + n ≤ 100000000 → m + (blkMarks bs).length ≤ W.ns.length → (top = true → h + hdsN bs ≤ es.length) → o.length + (if top = true then hdsN bs * A else 0) + 2000 * n + 1000 ≤ 60000000000000 →
    FnS Tryz.prog 52 [.c (.p 0 K.ab 0), .c (.sl ba bs.length bc), .c (.b top)] (wrM K W u a c o m h) [blkF ba bs, entF K.ea es, noteF K W, tabF, gInt 0] (WrP K W (o ++ blksRen W top m h bs) (m + (blkMarks bs).length) (hUp top h (hdsN bs))) := by
  induction n using Nat.strongRecOn with | _ n ih
  intro bs hn ba bc top h u a c o m hi hnb hmb hns hh ho
  have hel2 := Nat.le_trans (blkNodes_len bs) (blkNodes_bulk bs)
  refine fn_of_J Tryz.tyOK 7000 Tryz.func52 (by kernel_rfl) (c := Tryz.f52.body.getD .skip) (by kernel_rfl) Tryz.ntmps52 (rs := Tryz.f52.results.toList) rfl (by simp) (fun G => ?_)
  repeat' first
    | refine J_seq ?_ | refine J_region Tryz.tyOK ?_ | refine J_block ?_ | refine J_cond ?_ | refine J_ret ?_ | refine J_skip ?_ | refine J_exit ?_ | refine J_scope ?_
    | refine CondP.yes (by omega) ?_ | refine CondP.no (by omega) ?_ | refine CondP.mk (fun h => ?_) (fun h => ?_) | refine EqP.mk rfl ?_ | refine NewP.mk (fun ad => ?_) | refine ArP.exact (by simp only [inR]; omega) ?_ | refine SideP.mk (by first | omega | (dsimp only; omega) | (simp; omega)) ?_
    | fail
  refine J_loop (α := Nat × List UInt8 × Bool × Option Addr × Nat) (fun x => [(0, .c (.p 0 K.ab 0)), (2, .c (.b top)), (8, .c (.sl ba bs.length bc)), (9, lenV bs.length), (10, .c (.i .i64 x.1))])
    (fun x => wrM K W x.2.2.1 x.2.2.2.1 x.2.2.2.2 x.2.1 (m + (blkMarks (bs.take x.1)).length) (hUp top h (hdsN (bs.take x.1)))) (fun _ => [blkF ba bs, entF K.ea es, noteF K W, tabF, gInt 0]) 7000 (fun x => x.1 ≤ bs.length ∧ x.2.1 = o ++ blksRen W top m h (bs.take x.1) ∧ BxI x.2.2.1 x.2.2.2.1 x.2.2.2.2 x.2.1) (fun x => bs.length - x.1)
    (InFam.mk (0, o, u, a, c) ⟨Nat.zero_le _, by simp [blksRen], hi⟩ (by repeat' first | exact SubE.nil | refine SubE.cons rfl ?_ ?_ | exact VEq.refl _ | refine VEq.int (by omega) | refine VEq.sl rfl (by first | rfl | omega | (rw [List.length_append]; rfl) | (simp; omega)) rfl) (Ents.of (by cases top <;> simp [blkMarks, hUp, hdsN]))) (fun x hx => ?_)
  obtain ⟨i, w, u, a, c⟩ := x
  obtain ⟨hi, hw, hbi⟩ := hx
  dsimp only at hi hw hbi ⊢
  by_cases hlt : i < bs.length
  · have hst := blksRen_succ W top m h hlt
    have hms := blkMarks_succ hlt
    have hbs := blkBulk_succ hlt
    have hbt := blkBulk_take_le bs (i + 1)
    have hbe := Blk.bulk_eq bs[i]
    have hmt := blkMarks_bulk (bs.take i)
    have hml := inl_len_bulk (blkMarks (bs.take i))
    have hrt := blksRen_le W hK.ns A hA top m h (bs.take i) (by omega)
    have hus := hUp_succ top h hlt
    have hds := hdsN_succ hlt
    have hdt := hdsN_take_le bs (i + 1)
    have hdm : hdsN (bs.take (i + 1)) * A ≤ hdsN bs * A := Nat.mul_le_mul_right A hdt
    have hwl : w.length ≤ o.length + (700 * blkBulk (bs.take i) + (if top = true then hdsN (bs.take i) * A else 0)) := by rw [hw, List.length_append]; omega
    have hmq := Blk.marks_eq bs[i]
    have hmk1 : m + (blkMarks (bs.take (i + 1))).length = m + (blkMarks (bs.take i)).length + bs[i].marks.length := by rw [hms, hmq]; simp only [List.length_append]; omega
    have hns2 : m + (blkMarks (bs.take i)).length + bs[i].marks.length ≤ W.ns.length := by
      have h2 : (blkMarks bs).length = (blkMarks (bs.take (i + 1))).length + (blkMarks (bs.drop (i + 1))).length := by rw [← List.length_append, ← blkMarks_append, List.take_append_drop]
      omega
    have hstep : o ++ blksRen W top m h (bs.take (i + 1)) = w ++ bs[i].ren W top (m + (blkMarks (bs.take i)).length) (hUp top h (hdsN (bs.take i))) := by rw [hst, hw, List.append_assoc]
    have hfi := blk_inl (a := ba) hlt
    have hfk := blk_kids (a := ba) hlt
    have hcg : ((blkC bs).drop (i * 5 + 0)).take 5 = bs[i].cells := blkC_get (o := 0) (k := 5) hlt (by omega)
    have hrd : ∀ L, Reads L [blkF ba bs, entF K.ea es, noteF K W, tabF, gInt 0] 81 5 ba bs.length (blkC bs) := fun _ => blk_reads (fun _ h => ⟨h.1, trivial⟩)
    have hhx : top = true → bs[i].kind = 1 → hUp top h (hdsN (bs.take i)) < es.length := fun ht hk => by
      have := hh ht
      rw [if_pos hk] at hds
      rw [ht]; simp only [hUp, if_true]; omega
    have hox : w.length + (if top = true ∧ bs[i].kind = 1 then A else 0) + 2000 * bs[i].bulk + 1000 ≤ 60000000000000 := by
      cases top with
      | false => simp only [Bool.false_eq_true, false_and, if_false] at hwl ho ⊢; omega
      | true =>
        simp only [true_and, if_true] at hwl ho ⊢
        rw [hds, Nat.add_mul] at hdm
        by_cases hk : bs[i].kind = 1
        · rw [if_pos hk, Nat.one_mul] at hdm; rw [if_pos hk]; omega
        · rw [if_neg hk, Nat.zero_mul] at hdm; rw [if_neg hk]; omega
    have hmm : m + (blkMarks (bs.take i)).length + bs[i].bulk ≤ 100000000 := by omega
    generalize m + (blkMarks (bs.take i)).length = mm at *
    generalize hUp top h (hdsN (bs.take i)) = hv at *
    rw [← hn] at hnb hmb ho
    have hkb : blkBulk bs[i].kids < n := by omega
    have hil := inl_len_bulk (inlMarks bs[i].inl)
    have hib := inlMarks_bulk bs[i].inl
    have hkl := blksRen_le W hK.ns A hA false (mm + (inlMarks bs[i].inl).length) hv bs[i].kids (by omega)
    simp only [Bool.false_eq_true, if_false, Nat.add_zero] at hkl
    have sB := block_ok K W hK es hes han A hA hel hea bs[i] top hv (by omega) [blkF ba bs, entF K.ea es, noteF K W, tabF, gInt 0] (fun mm hh => ⟨(hfi mm ⟨hh.1, trivial⟩).1, (hfk mm ⟨hh.1, trivial⟩).1, hh.2⟩) mm hkl
      (fun u' a' c' o' hi' ho' => ih (blkBulk bs[i].kids) hkb bs[i].kids rfl bs[i].ka bs[i].kc false hv u' a' c' o' (mm + (inlMarks bs[i].inl).length) hi' (by omega) (by omega) (by rw [hmq, List.length_append] at hns2; omega) (fun hc => by cases hc) (by simp only [Bool.false_eq_true, if_false, Nat.add_zero]; omega)) u a c w hbi hmm hns2 hhx hox
    clear ih hst hms
    rw [← hus] at sB
    rw [← hstep, ← hmk1] at sB
    generalize bs[i] = x at *
    unfold Blk.cells at hcg sB
    unfold wrM wrR at sB ⊢
    repeat' first
      | refine J_seq ?_ | refine J_region Tryz.tyOK ?_ | refine J_block ?_ | refine J_cond ?_ | refine J_ret ?_ | refine J_skip ?_ | refine J_exit ?_ | refine J_scope ?_
      | refine CondP.yes (by omega) ?_ | refine CondP.no (by omega) ?_ | refine CondP.mk (fun h => ?_) (fun h => ?_) | refine EqP.mk rfl ?_ | refine NewP.mk (fun ad => ?_) | refine ArP.exact (by simp only [inR]; omega) ?_ | refine SideP.mk (by first | omega | (dsimp only; omega) | (simp; omega)) ?_
      | refine IdxE.mk 81 5 _ (hrd _) (by omega) (by omega) ?_ | refine LoadE.mk 81 bs.length _ _ (hrd _) (by omega) (by omega) (by decide) (by exact hcg) ?_ | (refine CallP.mk _ [_] [blkF ba bs, entF K.ea es, noteF K W, tabF, gInt 0] _ sB (List.perm_append_comm (l₁ := [_]) (l₂ := [_, _, _])) (fun _ h => h) (fun v L' D' hp => ?_); obtain ⟨u1, a1, c1, hi1, rfl, rfl, rfl⟩ := hp; unfold wrM wrR)
      | fail
    exact Round.mk (i + 1, o ++ blksRen W top m h (bs.take (i + 1)), u1, a1, c1) (by dsimp only; omega) ⟨by dsimp only; omega, rfl, hi1⟩ (by repeat' first | exact SubE.nil | refine SubE.cons rfl ?_ ?_ | exact VEq.refl _ | refine VEq.int (by omega)) (Ents.sub ⟨[_], List.perm_append_comm (l₁ := [_, _, _]) (l₂ := [_])⟩)
  · have hil : i = bs.length := by omega
    subst hil
    rw [List.take_length] at hw ⊢
    subst hw
    unfold wrM wrR
    repeat' first
      | refine J_seq ?_ | refine J_region Tryz.tyOK ?_ | refine J_block ?_ | refine J_cond ?_ | refine J_ret ?_ | refine J_skip ?_ | refine J_exit ?_ | refine J_scope ?_
      | refine CondP.yes (by omega) ?_ | refine CondP.no (by omega) ?_ | refine CondP.mk (fun h => ?_) (fun h => ?_) | refine EqP.mk rfl ?_ | refine NewP.mk (fun ad => ?_) | refine ArP.exact (by simp only [inR]; omega) ?_ | refine SideP.mk (by first | omega | (dsimp only; omega) | (simp; omega)) ?_
      | fail
    exact FinE.mk (wrM K W u a c (o ++ blksRen W top m h bs) (m + (blkMarks bs).length) (hUp top h (hdsN bs))) [] ⟨u, a, c, hbi, rfl, rfl, rfl⟩ (Ents.facts fun _ _ => trivial)
end Go.Proofs
