/- This text walks through the statements PolicyRoundTrip and PolicyComments: each answers true. -/
import Derived.Test.YtcgagjbkfgaacaaGreatDoorPolQ2
import Derived.Test.YtcgagjbkfgaacaaGreatDoorPolT2
import Derived.Test.YtcgagjbkfgaacaaGreatDoorPolF
import Derived.Test.YtcgagjbkfgaacaaGreatDoorPolX
import Derived.Test.YtcgagjbkfgaacaaGreatDoorPolK
set_option linter.all false

namespace Go.Proofs
open Go Go.X
set_option maxRecDepth 100000
set_option maxHeartbeats 4000000

theorem PolOK.ofPV {p : PolM} (h : PV p.p3) (hc : p.gs.length ≤ p.gc) : PolOK p := by
  have hgl : p.gs.length ≤ 24 := by have := h.gl; simpa [PolM.p3, gpOf] using this
  have hrl : p.rs.length ≤ 64 := h.rl
  have hxl : p.xs.length ≤ 64 := h.xl
  refine ⟨hc, by omega, by omega, by omega, fun g hg => ?_, fun r hr => ?_, fun x hx => ?_⟩
  · obtain ⟨h1, h2, h3⟩ := h.grp (g := (g.name, g.mem)) (List.mem_map_of_mem hg)
    have h4 := isName_len h1
    dsimp only at h2 h3 h4
    exact ⟨by omega, by omega, fun m hm => by have := mem_le (h3 m hm); omega⟩
  · obtain ⟨_, _, _, h4⟩ := h.rul (r := r) hr
    rcases scopeOK_cases h4 with ⟨_, _, h5⟩ | ⟨_, _, _, h5⟩ | ⟨_, hv⟩
    · rw [h5]; simp
    · rw [h5]; simp
    · have := validT_bounds hv; omega
  · obtain ⟨_, h2, h3⟩ := h.grd (x := x) hx
    have h4 := validT_bounds h2
    have h5 := sectOK_len h3
    exact ⟨by omega, by omega⟩

theorem tapeF_ok (e : Nat) (a : Option Addr) (c tad at0 : Nat) (l : List Int) (hat0 : at0 ≤ l.length) (hl : l.length ≤ maxLen) : FnS Tryz.prog 16 [.c (.p 1000 tad 0)] [tapeC tad a l.length c at0] [slFact e 1 a l.length (l.map (C.i .i64))]
    (fun v L D => ∃ (n : Nat) (p : PolM), TapeP n p.p3 ∧ p.gs.length ≤ p.gc ∧ v = .agg p.cells ∧ L = [] ∧ D = p.facts) :=
  (tapePolicy_ok e a c tad at0 l hat0 hl).entsP fun v L1 D1 ⟨n, p, at', h1, h2, h3, h4, h5, h6⟩ => ⟨[], p.facts, by
    subst h5 h6
    exact Ents.drop.trans (Ents.toFact.trans (Ents.facts fun m h => ⟨h.2.1, h.2.2.1, h.1, h.2.2.2.1, trivial⟩)), n, p, h2, h3, h4, rfl, rfl⟩

theorem policyRoundTrip_law (e0 : Nat) (a : Option Addr) (c : Nat) (l : List Int) (hl : l.length ≤ maxLen) : FnS Tryz.prog 7 [.c (.sl a l.length c)] [] [slFact e0 1 a l.length (l.map (C.i .i64)), gInt 0] (Is tt) := by
  have c0 := new_ok a l.length c
  have c1 := fun tad => tapeF_ok e0 a c tad 0 l (Nat.zero_le _) hl
  refine fn_of_J Tryz.tyOK 0 Tryz.func7 (by kernel_rfl) (c := Tryz.f7.body.getD .skip) (by kernel_rfl) Tryz.ntmps7 (rs := Tryz.f7.results.toList) rfl (by simp) (fun G => ?_)
  repeat' first
    | refine J_stop (c := .seq (.region 2 _ _) _) ?_
    | refine J_seq ?_ | refine J_region Tryz.tyOK ?_ | refine J_block ?_ | refine J_cond ?_ | refine J_ret ?_ | refine J_skip ?_ | refine J_exit ?_ | refine J_scope ?_
    | refine CondP.yes (by omega) ?_ | refine CondP.no (by omega) ?_ | refine CondP.mk (fun h => ?_) (fun h => ?_) | refine EqP.mk rfl ?_ | refine NewP.mk (fun ad => ?_) | refine ArP.exact (by simp only [inR]; omega) ?_ | refine SideP.mk (by first | omega | (dsimp only; omega) | (simp; omega)) ?_
    | refine CallP.mk [] _ [] _ c0 (List.Perm.refl _) (fun m h => trivial) (fun v L' D' hp => ?_); obtain ⟨tad, rfl, rfl, rfl⟩ := hp | refine CallP.mk [_] [] [_] _ (c1 _) (List.Perm.refl _) (fun m h => ⟨h.1, trivial⟩) (fun v L' D' hp => ?_); obtain ⟨n, p, hT, hgc, rfl, rfl, rfl⟩ := hp
    | fail
  have hPV := hT.pv
  have hok := PolOK.ofPV hPV hgc
  have hlen := hT.len
  have c2 := polFormat_ok p hok
  have c3 := polParse_ok (fmtT p.p3) (by omega)
  have c4 := polValidate_ok p hok
  have hv := (valid_iff p.p3).2 hPV
  have hft : polFormatT p.p3 = (fmtT p.p3, 0) := by
    unfold polFormatT
    rw [if_neg (by rw [hv]; simp), if_neg (by omega)]
  rw [hft] at c2
  rw [parse_fmt hPV hlen] at c3
  rw [show validateT (gpOf p.gs) p.rs p.xs = 0 from hv] at c4
  refine ⟨?_⟩
  repeat' first
    | refine CondP.yes rfl ?_ | refine J_stop (c := .seq (.region 4 _ _) _) ?_
    | refine J_seq ?_ | refine J_region Tryz.tyOK ?_ | refine J_block ?_ | refine J_cond ?_ | refine J_ret ?_ | refine J_skip ?_ | refine J_exit ?_ | refine J_scope ?_
    | refine CondP.yes (by omega) ?_ | refine CondP.no (by omega) ?_ | refine CondP.mk (fun h => ?_) (fun h => ?_) | refine EqP.mk rfl ?_ | refine NewP.mk (fun ad => ?_) | refine ArP.exact (by simp only [inR]; omega) ?_ | refine SideP.mk (by first | omega | (dsimp only; omega) | (simp; omega)) ?_
    | refine CallP.is c2 ?_ (fun m h => ⟨((allD_append _ _).1 h).2.2.1, ((allD_append _ _).1 h).1⟩) | refine CallP.mk [] _ [gInt 0] _ c3 (List.Perm.refl _) (fun m h => ⟨((allD_append _ _).1 h).2.2.1, trivial⟩) (fun v L' D' hp => ?_); obtain ⟨q, hq3, hqc, hqb, rfl, rfl, rfl⟩ := hp
    | fail
  refine ⟨?_⟩
  have c5 := samePol_ok p q hq3.symm hok.gl hok.rl hok.xl (fun g hg => (hok.gb g hg).2.1)
  refine J_seq ?_
  repeat' first
    | refine CondP.yes rfl ?_
    | refine J_seq ?_ | refine J_region Tryz.tyOK ?_ | refine J_block ?_ | refine J_cond ?_ | refine J_ret ?_ | refine J_skip ?_ | refine J_exit ?_ | refine J_scope ?_
    | refine CondP.yes (by omega) ?_ | refine CondP.no (by omega) ?_ | refine CondP.mk (fun h => ?_) (fun h => ?_) | refine EqP.mk rfl ?_ | refine NewP.mk (fun ad => ?_) | refine ArP.exact (by simp only [inR]; omega) ?_ | refine SideP.mk (by first | omega | (dsimp only; omega) | (simp; omega)) ?_
    | refine CallP.is c4 ?_ (fun m h => ⟨((allD_append _ _).1 ((allD_append _ _).1 h).2).2.2.1, ((allD_append _ _).1 ((allD_append _ _).1 h).2).1⟩) | refine CallP.is c5 ?_ (fun m h => (allD_append _ _).2 ⟨((allD_append _ _).1 ((allD_append _ _).1 h).2).1, ((allD_append _ _).1 h).1⟩) | refine CallP.is known12_ok ?_ (fun m h => ⟨((allD_append _ _).1 ((allD_append _ _).1 h).2).2.2.1, trivial⟩) | exact FinE.is rfl
    | fail

theorem policyComments_law (e0 : Nat) (a : Option Addr) (c : Nat) (l : List Int) (hl : l.length ≤ maxLen) : FnS Tryz.prog 8 [.c (.sl a l.length c)] [] [slFact e0 1 a l.length (l.map (C.i .i64)), gInt 0] (Is tt) := by
  have c0 := new_ok a l.length c
  have c1 := fun tad => tapeF_ok e0 a c tad 0 l (Nat.zero_le _) hl
  refine fn_of_J Tryz.tyOK 0 Tryz.func8 (by kernel_rfl) (c := Tryz.f8.body.getD .skip) (by kernel_rfl) Tryz.ntmps8 (rs := Tryz.f8.results.toList) rfl (by simp) (fun G => ?_)
  repeat' first
    | refine J_stop (c := .seq (.region 2 _ _) _) ?_
    | refine J_seq ?_ | refine J_region Tryz.tyOK ?_ | refine J_block ?_ | refine J_cond ?_ | refine J_ret ?_ | refine J_skip ?_ | refine J_exit ?_ | refine J_scope ?_
    | refine CondP.yes (by omega) ?_ | refine CondP.no (by omega) ?_ | refine CondP.mk (fun h => ?_) (fun h => ?_) | refine EqP.mk rfl ?_ | refine NewP.mk (fun ad => ?_) | refine ArP.exact (by simp only [inR]; omega) ?_ | refine SideP.mk (by first | omega | (dsimp only; omega) | (simp; omega)) ?_
    | refine CallP.mk [] _ [] _ c0 (List.Perm.refl _) (fun m h => trivial) (fun v L' D' hp => ?_); obtain ⟨tad, rfl, rfl, rfl⟩ := hp | refine CallP.mk [_] [] [_] _ (c1 _) (List.Perm.refl _) (fun m h => ⟨h.1, trivial⟩) (fun v L' D' hp => ?_); obtain ⟨n, p, hT, hgc, rfl, rfl, rfl⟩ := hp
    | fail
  have hPV := hT.pv
  have hok := PolOK.ofPV hPV hgc
  have hlen := hT.len
  have hclen := hT.clen
  have c2 := polFormat_ok p hok
  have c3 := polParse_ok (cmtT (fmtT p.p3)) (by omega)
  have hv := (valid_iff p.p3).2 hPV
  have hft : polFormatT p.p3 = (fmtT p.p3, 0) := by
    unfold polFormatT
    rw [if_neg (by rw [hv]; simp), if_neg (by omega)]
  rw [hft] at c2
  rw [parse_cmt hPV hclen] at c3
  generalize fmtT p.p3 = s at *
  refine ⟨?_⟩
  repeat' first
    | refine J_seq ?_ | refine J_region Tryz.tyOK ?_ | refine J_block ?_ | refine J_cond ?_ | refine J_ret ?_ | refine J_skip ?_ | refine J_exit ?_ | refine J_scope ?_
    | refine CondP.yes (by omega) ?_ | refine CondP.no (by omega) ?_ | refine CondP.mk (fun h => ?_) (fun h => ?_) | refine EqP.mk rfl ?_ | refine NewP.mk (fun ad => ?_) | refine ArP.exact (by simp only [inR]; omega) ?_ | refine SideP.mk (by first | omega | (dsimp only; omega) | (simp; omega)) ?_
    | refine CallP.is c2 ?_ (fun m h => ⟨((allD_append _ _).1 h).2.2.1, ((allD_append _ _).1 h).1⟩)
    | fail
  refine J_loop (α := Nat) (fun i => [(3, .c (.p 0 ad 0)), (4, .c (.s s)), (5, .c (.i .i64 0)), (6, .c (.s (cmtT (s.take i)))), (7, .c (.i .i64 i))]) (fun _ => [.box 0 ad 27 p.cells]) (fun _ => p.facts ++ [slFact e0 1 a l.length (l.map (C.i .i64)), gInt 0]) 1
    (fun i => i ≤ s.length) (fun i => s.length - i) (InFam.mk 0 (Nat.zero_le _) (by repeat' first | exact SubE.nil | refine SubE.cons rfl ?_ ?_ | exact VEq.refl _ | refine VEq.int (by omega) | refine VEq.sl rfl (by first | rfl | omega | (rw [List.length_append]; rfl) | (simp; omega)) rfl) (Ents.refl _ _)) (fun i hi => ?_)
  have hcl := cmt_len (s.take i)
  have htl : (s.take i).length ≤ s.length := by simp; omega
  by_cases hlt : i < s.length
  · have h1 := slice_one hlt
    have hl1 : ((s.take (i + 1)).drop i).length = 1 := by rw [h1]; rfl
    have hsn := cmtT_snoc hlt
    generalize cmtT (s.take i) = o at *
    have hol : o.length ≤ 8192 * 13 := by omega
    by_cases h10 : s.getD i 0 = 10
    · have h10' : (((s.getD (i : Int).toNat 0).toNat : Int) = 10) := by rw [Int.toNat_natCast, h10]; rfl
      rw [if_pos h10] at hsn
      repeat' first
        | refine CondP.yes h10' ?_ | refine SideP.mk (by simp only [List.length_append, List.length_cons, List.length_nil, Int.toNat_natCast]; omega) ?_ | refine SideP.mk (Nat.le_trans (Nat.add_le_add hol (Nat.le_of_eq hl1)) (by omega)) ?_
        | refine J_seq ?_ | refine J_region Tryz.tyOK ?_ | refine J_block ?_ | refine J_cond ?_ | refine J_ret ?_ | refine J_skip ?_ | refine J_exit ?_ | refine J_scope ?_
        | refine CondP.yes (by omega) ?_ | refine CondP.no (by omega) ?_ | refine CondP.mk (fun h => ?_) (fun h => ?_) | refine EqP.mk rfl ?_ | refine NewP.mk (fun ad => ?_) | refine ArP.exact (by simp only [inR]; omega) ?_ | refine SideP.mk (by first | omega | (dsimp only; omega) | (simp; omega)) ?_
        | refine Round.mk (i + 1) (by omega) (by omega) (SubE.cons rfl (VEq.refl _) (SubE.cons rfl (VEq.refl _) (SubE.cons rfl (VEq.refl _) (SubE.cons rfl (VEq.str ?_) (SubE.cons rfl (VEq.int (by omega)) SubE.nil))))) (Ents.refl _ _)
        | fail
      all_goals
        have e1 : ((i : Int) + 1).toNat = i + 1 := by omega
        rw [h10] at h1
        rw [hsn]
        simp only [Int.toNat_natCast, e1, h1]
        simp
    · have h10' : ¬ (((s.getD (i : Int).toNat 0).toNat : Int) = 10) := fun hc => h10 (by
        rw [Int.toNat_natCast] at hc
        exact (byte_iff (n := 10) (by decide)).1 hc)
      rw [if_neg h10] at hsn
      repeat' first
        | refine CondP.no h10' ?_ | refine SideP.mk (Nat.le_trans (Nat.add_le_add hol (Nat.le_of_eq hl1)) (by omega)) ?_
        | refine J_seq ?_ | refine J_region Tryz.tyOK ?_ | refine J_block ?_ | refine J_cond ?_ | refine J_ret ?_ | refine J_skip ?_ | refine J_exit ?_ | refine J_scope ?_
        | refine CondP.yes (by omega) ?_ | refine CondP.no (by omega) ?_ | refine CondP.mk (fun h => ?_) (fun h => ?_) | refine EqP.mk rfl ?_ | refine NewP.mk (fun ad => ?_) | refine ArP.exact (by simp only [inR]; omega) ?_ | refine SideP.mk (by first | omega | (dsimp only; omega) | (simp; omega)) ?_
        | refine Round.mk (i + 1) (by omega) (by omega) (SubE.cons rfl (VEq.refl _) (SubE.cons rfl (VEq.refl _) (SubE.cons rfl (VEq.refl _) (SubE.cons rfl (VEq.str ?_) (SubE.cons rfl (VEq.int (by omega)) SubE.nil))))) (Ents.refl _ _)
        | fail
      all_goals
        have e1 : ((i : Int) + 1).toNat = i + 1 := by omega
        rw [hsn]
        simp only [Int.toNat_natCast, e1, h1]
  · have hil : i = s.length := by omega
    subst hil
    rw [List.take_length] at *
    generalize cmtT s = t at *
    repeat' first
      | refine CondP.yes rfl ?_ | refine J_stop (c := .seq (.region 11 _ _) _) ?_
      | refine J_seq ?_ | refine J_region Tryz.tyOK ?_ | refine J_block ?_ | refine J_cond ?_ | refine J_ret ?_ | refine J_skip ?_ | refine J_exit ?_ | refine J_scope ?_
      | refine CondP.yes (by omega) ?_ | refine CondP.no (by omega) ?_ | refine CondP.mk (fun h => ?_) (fun h => ?_) | refine EqP.mk rfl ?_ | refine NewP.mk (fun ad => ?_) | refine ArP.exact (by simp only [inR]; omega) ?_ | refine SideP.mk (by first | omega | (dsimp only; omega) | (simp; omega)) ?_
      | refine CallP.mk [] _ [gInt 0] _ c3 (List.Perm.refl _) (fun m h => ⟨((allD_append _ _).1 h).2.2.1, trivial⟩) (fun v L' D' hp => ?_); obtain ⟨q, hq3, hqc, hqb, rfl, rfl, rfl⟩ := hp
      | fail
    refine ⟨?_⟩
    have c5 := samePol_ok p q hq3.symm hok.gl hok.rl hok.xl (fun g hg => (hok.gb g hg).2.1)
    refine J_seq ?_
    repeat' first
      | refine CondP.yes rfl ?_
      | refine J_seq ?_ | refine J_region Tryz.tyOK ?_ | refine J_block ?_ | refine J_cond ?_ | refine J_ret ?_ | refine J_skip ?_ | refine J_exit ?_ | refine J_scope ?_
      | refine CondP.yes (by omega) ?_ | refine CondP.no (by omega) ?_ | refine CondP.mk (fun h => ?_) (fun h => ?_) | refine EqP.mk rfl ?_ | refine NewP.mk (fun ad => ?_) | refine ArP.exact (by simp only [inR]; omega) ?_ | refine SideP.mk (by first | omega | (dsimp only; omega) | (simp; omega)) ?_
      | refine CallP.is c5 ?_ (fun m h => (allD_append _ _).2 ⟨((allD_append _ _).1 ((allD_append _ _).1 h).2).1, ((allD_append _ _).1 h).1⟩) | refine CallP.is known12_ok ?_ (fun m h => ⟨((allD_append _ _).1 ((allD_append _ _).1 h).2).2.2.1, trivial⟩) | exact FinE.is rfl
      | fail

end Go.Proofs
