/- This text walks through the statement StateTouched of chapter 27. -/
import Derived.Test.YtcddpbpbebkdmaaGreatDoorK16
set_option linter.all false
namespace Go.X
open Go Go.Lib
theorem Oi (a b : STM) (t : TT) : ZA a b t = ZA b a t := by
 unfold ZA
 rw [decide_eq_decide.2 (eq_comm (a := YQ a t) (b := YQ b t)), decide_eq_decide.2 (eq_comm (a := Jp a t) (b := Jp b t))]
theorem VP (a b : STM) (x : TT) : x ∈ QO a b ↔ (x ∈ a.pages.map ZS ∨ x ∈ b.pages.map ZS) ∧ ZA a b x = true := by
 have h1 := (xV Vp qw (((a.pages ++ b.pages).map ZS).filter (ZA a b)) [] List.Pairwise.nil).2 x
 unfold QO
 rw [h1, List.mem_filter, List.map_append, List.mem_append]
 simp
theorem Uy (a b : STM) : QO a b = QO b a := by
 have h1 := (xV Vp qw (((a.pages ++ b.pages).map ZS).filter (ZA a b)) [] List.Pairwise.nil).1
 have h2 := (xV Vp qw (((b.pages ++ a.pages).map ZS).filter (ZA b a)) [] List.Pairwise.nil).1
 refine UE Vp h1 h2 fun x => ?_
 have e1 := VP a b x
 have e2 := VP b a x
 rw [Oi a b x, or_comm] at e1
 exact e1.trans e2.symm
theorem Uz (a : STM) : QO a a = [] := by
 refine List.eq_nil_iff_forall_not_mem.2 fun x hx => ?_
 have h := ((VP a a x).1 hx).2
 simp [ZA] at h
theorem VQ (a b : STM) (na : a.pages.length ≤ 1000) (nb : b.pages.length ≤ 1000) : (QO a b).length ≤ 2000 := by
 unfold QO
 refine Nat.le_trans (Gf _ _) ?_
 rw [List.length_nil, Nat.zero_add]
 refine Nat.le_trans (List.length_filter_le _ _) ?_
 rw [List.length_map, List.length_append]; omega
end Go.X
namespace Go.Proofs
open Go Go.X Tryz
set_option maxRecDepth 100000
set_option maxHeartbeats 4000000
theorem KM (a b : STM) (ha : Vs a) (hb : Vs b) : FnS prog 28 [.agg a.cells, .agg b.cells] [] [QG a, QG b] (fun v L D => ∃ c d, v = .c (.sl c (QO a b).length d) ∧ L = [] ∧ D = [Qf 45 2 c (QO a b).length (Xe (QO a b))]) :=
 (wB a b ha.big hb.big ha.pages hb.pages ha.ph hb.ph).rowF
theorem VR (a b : STM) (ha : Vs a) (hb : Vs b) : FnS prog 29 [.agg a.cells, .agg b.cells] [] [QG a, QG b] (fun v L D => ∃ c d, v = .c (.sl c (QO a b).length d) ∧ L = [] ∧ D = [Qf 45 2 c (QO a b).length (Xe (QO a b))]) :=
 (UA a b ha.big hb.big ha.pages hb.pages).rowF
theorem kJ (e e2 : Nat) (a a2 : Option Addr) (c c2 : Nat) (l m : List Int) (hl : l.length ≤ maxLen) (hm : m.length ≤ maxLen) (s t : STM) (h1 : s.pages.length ≤ 9223372036854775807) (h2 : ∀ p ∈ s.pages, p.hist.length ≤ 9223372036854775807) (h3 : s.gone.length ≤ 9223372036854775807) (h4 : ∀ p ∈ s.gone, p.hist.length ≤ 9223372036854775807)
  (k1 : t.pages.length ≤ 9223372036854775807) (k2 : ∀ p ∈ t.pages, p.hist.length ≤ 9223372036854775807) (k3 : t.gone.length ≤ 9223372036854775807) (k4 : ∀ p ∈ t.gone, p.hist.length ≤ 9223372036854775807) (n : Int) :
  FnS prog 5 [.agg s.cells, .agg t.cells, .c (.sl a l.length c), .c (.sl a2 m.length c2), .c (.i .i64 n)] [] [QG s, QG t, Zj e a l, Zj e2 a2 m, gM, XH] (Is tt) := by
 have cs := YC s h1 h2 h3 h4
 have ct := YC t k1 k2 k3 k4
 have cg := KY e a c l hl
 have cf := qL e2 a2 c2 m hm
 have cr := ZG n 5 (by omega) (by omega)
 have hr := QR n (n := 5) (by omega)
 generalize ZD n 5 = R at *
 obtain ⟨N, rfl⟩ : ∃ N : Nat, R = N := ⟨R.toNat, by omega⟩
 refine FJ 0 func5 ntmps5 (fun G => ?_)
 repeat' first | refine QF (c := .seq (.region 3 _ _) _) ?_ | refine Wk ?_ | refine Qa.mk (fun h => ?_) (fun h => ?_) | refine Qd.mk (fun ad => ?_) | (refine Qc.mk [] _ [_] _ cs QW Kh (fun v L' D' hq => ?_); obtain ⟨b, rfl, hb, rfl, rfl⟩ := hq; cases b) | (refine Qc.mk [] _ [_] _ ct QW vt (fun v L' D' hq => ?_); obtain ⟨b2, rfl, hb2, rfl, rfl⟩ := hq; cases b2) | refine Qc.is Xo ?_ (fun _ h => by simp only [QI, Qs, List.cons_append, List.nil_append, and_true] at h ⊢; simp only [h, and_self]) | refine Qe.is rfl
 refine ⟨?_⟩
 have hs := hb rfl
 have ht := hb2 rfl
 clear hb hb2 cs ct h1 h2 h3 h4 k1 k2 k3 k4
 repeat' first | refine QF (c := .seq (.region 4 _ _) _) ?_ | refine Wk ?_ | refine Qa.mk (fun h => ?_) (fun h => ?_) | refine Qd.mk (fun ad => ?_) | (refine Qc.mk [] _ [_] _ cg QW (fun _ h => ⟨h.2.2.1, trivial⟩) (fun v L' D' hq => ?_); obtain ⟨u, rfl, hu, rfl, rfl⟩ := hq)
 refine ⟨?_⟩
 have hus := (XY hu.valid).1
 have ca := fun ad g hg => kr e2 a2 c2 ad m g u 15 N hu hg hm (by omega)
 clear cg
 repeat' first | refine QF (c := .seq (.region 5 _ _) _) ?_ | refine Wk ?_ | refine Qa.mk (fun h => ?_) (fun h => ?_) | refine Qd.mk (fun ad => ?_) | refine Ke (id := 4) tyOK (by kernel_rfl) [0, 0, 2, 0, 14, 31, 0, 127] (.node [0, 1, 3] 2 (.node [4] 5 (.leaf [6, 7]) 6 (.leaf [5, 7])) 6 (.leaf [2, 4, 5, 7])) [2, 5, 6, 7] [11] 7 true (by kernel_rfl) ?_ | refine X3.mk ?_ ?_ | refine Ds (id := 5) [0,1,3,3,15,3,3,127,255,511,1023,2047,2047,8191,2047,2047,65535,131071,262143,524287,1048575,1048575,4194303,1048575,1048575,33554431,67108863,134217727,268435455,536870911,536870911,2147483647,536870911,536870911,17179869183,34359738367,68719476735,137438953471,274877906943,274877906943,1099511627775,2199023255551,4398046511103,8796093022207,17592186044415] [0,1,2,3,4,5,6,7,8,9,10,11,12,13,14,15,16,17,18,19,20,21,22,23,24,25,26,27,28,29,30,31,32,33,34,35,36,37,38,39,40,41,42,43,44] [] [5,6,11,12] true ?_ | refine Qt.mk Qb.a ?_ | (refine Qc.mk [] _ [_] _ cf QW (fun _ h => by simp only [QI, Qs, List.cons_append, List.nil_append, and_true] at h ⊢; simp only [h, and_self]) (fun v L' D' hp => ?_); obtain ⟨ad0, rfl, rfl, rfl⟩ := hp) | refine Qx.mk [] _ cr QX ?_ | (refine Qc.mk [_] _ [_, _] _ (ca _ _ (qi m)) QW (fun _ h => by simp only [QI, Qs, List.cons_append, List.nil_append, and_true] at h ⊢; simp only [h, and_self]) (fun v L' D' hp => ?_); obtain ⟨w, g3, rfl, hw, hg3, rfl, rfl⟩ := hp) | (refine Qc.mk [_] _ [_, _] _ (ca _ _ (qi m)) (List.Perm.swap _ _ _) (fun _ h => by simp only [QI, Qs, List.cons_append, List.nil_append, and_true] at h ⊢; simp only [h, and_self]) (fun v L' D' hp => ?_); obtain ⟨w, g3, rfl, hw, hg3, rfl, rfl⟩ := hp)
 all_goals
  refine ⟨?_⟩
  have hwv := (XY hw.valid).1
  have cst := KM s t hs ht
  have rst := VR s t hs ht
  have cuw := KM u w hus hwv
  have ruw := VR u w hus hwv
  have cwu := KM w u hwv hus
  have csu := KM s u hs hus
  have rsu := VR s u hs hus
  have cuu := KM u u hus hus
  rw [Uy w u] at cwu
  rw [Uz u] at cuu
  have l1 := VQ s t hs.pages ht.pages
  have l2 := VQ u w hus.pages hwv.pages
  have l3 := VQ s u hs.pages hus.pages
  have s1 := fun a b c d => qF 45 45 a b c d (QO s t) (by omega)
  have s2 := fun a b c d => qF 45 45 a b c d (QO u w) (by omega)
  have s3 := fun a b c d => qF 45 45 a b c d (QO s u) (by omega)
  generalize QO s t = W1 at *
  generalize QO u w = W2 at *
  generalize QO s u = W3 at *
  clear ca cf cr
  repeat' first | refine Qa.yes rfl ?_ | refine Wk ?_ | refine Qa.mk (fun h => ?_) (fun h => ?_) | refine Qd.mk (fun ad => ?_) | refine Dz (id := 4) [0,0,2,0,14,31,0,127] [0,1,2,3,4,5,6,7] [6,7] [11] 7 true ?_ | refine Ds (id := 5) [0,1,3,3,15,3,3,127,255,511,1023,2047,2047,8191,2047,2047,65535,131071,262143,524287,1048575,1048575,4194303,1048575,1048575,33554431,67108863,134217727,268435455,536870911,536870911,2147483647,536870911,536870911,17179869183,34359738367,68719476735,137438953471,274877906943,274877906943,1099511627775,2199023255551,4398046511103,8796093022207,17592186044415] [0,1,2,3,5,6,4,7,8,9,10,11,12,14,15,13,16,17,18,19,20,21,23,24,22,25,26,27,28,29,30,32,33,31,34,35,36,37,38,39,40,41,42,43,44] [4,7,8,13,16,17,22,25,26,31,34,35,40] [5,6,11,12] true ?_ | refine Qt.mk Qb.a ?_ | refine Qx.mk [_, _] _ Xo (fun _ h => by simp only [QI, Qs, List.cons_append, List.nil_append, and_true] at h ⊢; simp only [h, and_self]) ?_ | (refine Qc.mk [] _ [QG s, QG t] _ cst QW (fun _ h => by simp only [QI, Qs, List.cons_append, List.nil_append, and_true] at h ⊢; simp only [h, and_self]) (fun v L' D' hq => ?_); obtain ⟨c1, d1, rfl, rfl, rfl⟩ := hq) | (refine Qc.mk [] _ [QG s, QG t] _ rst QW (fun _ h => by simp only [QI, Qs, List.cons_append, List.nil_append, and_true] at h ⊢; simp only [h, and_self]) (fun v L' D' hq => ?_); obtain ⟨c1', d1', rfl, rfl, rfl⟩ := hq) | (refine Qc.mk [] _ [QG u, QG w] _ cuw QW (fun _ h => by simp only [QI, Qs, List.cons_append, List.nil_append, and_true] at h ⊢; simp only [h, and_self]) (fun v L' D' hq => ?_); obtain ⟨c2, d2, rfl, rfl, rfl⟩ := hq) | (refine Qc.mk [] _ [QG u, QG w] _ ruw QW (fun _ h => by simp only [QI, Qs, List.cons_append, List.nil_append, and_true] at h ⊢; simp only [h, and_self]) (fun v L' D' hq => ?_); obtain ⟨c2', d2', rfl, rfl, rfl⟩ := hq) | (refine Qc.mk [] _ [QG w, QG u] _ cwu QW (fun _ h => by simp only [QI, Qs, List.cons_append, List.nil_append, and_true] at h ⊢; simp only [h, and_self]) (fun v L' D' hq => ?_); obtain ⟨c4, d4, rfl, rfl, rfl⟩ := hq) | (refine Qc.mk [] _ [QG s, QG u] _ csu QW (fun _ h => by simp only [QI, Qs, List.cons_append, List.nil_append, and_true] at h ⊢; simp only [h, and_self]) (fun v L' D' hq => ?_); obtain ⟨c3, d3, rfl, rfl, rfl⟩ := hq) | (refine Qc.mk [] _ [QG s, QG u] _ rsu QW (fun _ h => by simp only [QI, Qs, List.cons_append, List.nil_append, and_true] at h ⊢; simp only [h, and_self]) (fun v L' D' hq => ?_); obtain ⟨c3', d3', rfl, rfl, rfl⟩ := hq) | (refine Qc.mk [] _ [QG u, QG u] _ cuu QW (fun _ h => by simp only [QI, Qs, List.cons_append, List.nil_append, and_true] at h ⊢; simp only [h, and_self]) (fun v L' D' hq => ?_); obtain ⟨c5, d5, rfl, rfl, rfl⟩ := hq) | refine Qc.is (s1 _ _ _ _) ?_ (fun _ h => ⟨h.2.1, h.1, trivial⟩) | refine Qc.is (s2 _ _ _ _) ?_ (fun _ h => ⟨h.2.1, h.1, trivial⟩) | refine Qc.is (s3 _ _ _ _) ?_ (fun _ h => ⟨h.2.1, h.1, trivial⟩) | refine Qe.is rfl
end Go.Proofs
