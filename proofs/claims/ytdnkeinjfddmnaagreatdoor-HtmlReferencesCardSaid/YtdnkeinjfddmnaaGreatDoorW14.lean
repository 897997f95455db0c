/- This text walks through the program's writer on the table of contents and on the list of notes. · This text walks through html.Render on any document. · This text proves what the table of powers of ten holds, where the listed variables are laid, and opens lists of titles. · This text walks through the functions on a document of one paragraph: its contents, marks and notes are empty. · This text walks through html's writer on a document of one paragraph. · This text walks through html.Render on a document of one paragraph, and through the sanity check of chapter 20. · This text proves the plain laws of the escaping: different strings have different escaped forms; these hold no brackets and no quotation marks. · This text walks through the sanity check of chapter 20 and the functions of its laws on texts and paths. · This text proves that paths hold no blanks, brackets, quotation marks, numbers' signs, question marks and ampersands. · This text proves plain laws of replacing and counting in HTML: only tags can be found. -/
import Derived.Test.YtdnkeinjfddmnaaGreatDoorW13
import Derived.Test.YtdnkeinjfddmnaaGreatDoorW05
import Derived.Test.YtdnkeinjfddmnaaGreatDoorW06
import Derived.LaidSub
import Derived.Lib.LaidTab
import Derived.Test.YtdnkeinjfddmnaaGreatDoorW12
import Derived.Test.YtdnkeinjfddmnaaGreatDoorW08
import Derived.Test.YtdnkeinjfddmnaaGreatDoorW09
import Derived.Lib.Replace
set_option linter.all false
namespace Go.Proofs
open Go Go.X Go.Lib
set_option maxRecDepth 100000
set_option maxHeartbeats 4000000 in
theorem wconts_ok (K : WrK) (W : RenW) (es : List EntT) (hes : K.en = es.length) (hev : ∀ e ∈ es, inR .i64 e.level ∧ e.number.length ≤ 1000000000 ∧ e.text.length ≤ 100000000 ∧ e.anchor.length ≤ 100000000) (T : Nat) (hT : ∀ e ∈ es, (entT e).length ≤ T) (hTT : es.length * T ≤ 10000000000000) (hel : es.length ≤ 100000000)
    (u : Bool) (a : Option Addr) (c : Nat) (o : List UInt8) (m h : Nat) (hi : BxI u a c o) (ho : o.length ≤ 10000000000000) :
    FnS Tryz.prog 51 [.c (.p 0 K.ab 0)] (wrM K W u a c o m h) [entF K.ea es, tabF] (WrP K W (o ++ contsT es) m h) := by
  unfold wrM wrR
  rw [hes]
  unfold contsT
  by_cases l2 : es.length < 2
  · rw [if_pos l2, List.append_nil]
    refine fn_of_J Tryz.tyOK 7000 Tryz.func51 (by kernel_rfl) (c := Tryz.f51.body.getD .skip) (by kernel_rfl) Tryz.ntmps51 (rs := Tryz.f51.results.toList) rfl (by simp) (fun G => ?_)
    repeat' first
      | refine J_seq ?_ | refine J_region Tryz.tyOK ?_ | refine J_block ?_ | refine J_cond ?_ | refine J_ret ?_ | refine J_skip ?_ | refine J_exit ?_ | refine J_scope ?_
      | refine CondP.yes (by omega) ?_ | refine CondP.no (by omega) ?_ | refine CondP.mk (fun h => ?_) (fun h => ?_) | refine EqP.mk rfl ?_ | refine NewP.mk (fun ad => ?_) | refine ArP.exact (by simp only [inR]; omega) ?_ | refine SideP.mk (by first | omega | (dsimp only; omega) | (simp; omega)) ?_
      | fail
    refine FinE.mk (wrM K W u a c o m h) [] ⟨u, a, c, hi, rfl, rfl, rfl⟩ ?_
    unfold wrM wrR
    rw [hes]
    exact Ents.facts fun _ _ => trivial
  rw [if_neg l2]
  have s1 := fun u' a' c' (hi' : BxI u' a' c' o) => bxString_ok 0 K.ab 87 u' a' c' o [60, 117, 108, 32, 99, 108, 97, 115, 115, 61, 34, 99, 111, 110, 116, 101, 110, 116, 115, 34, 62, 10] [.m 1 K.am, .sl K.na W.ns.length K.nc, .i .i64 (m : Nat), .sl K.ea es.length K.ec, .i .i64 h] btyW hi' (by simp; omega)
  refine fn_of_J Tryz.tyOK 7000 Tryz.func51 (by kernel_rfl) (c := Tryz.f51.body.getD .skip) (by kernel_rfl) Tryz.ntmps51 (rs := Tryz.f51.results.toList) rfl (by simp) (fun G => ?_)
  repeat' first
    | refine J_seq ?_ | refine J_region Tryz.tyOK ?_ | refine J_block ?_ | refine J_cond ?_ | refine J_ret ?_ | refine J_skip ?_ | refine J_exit ?_ | refine J_scope ?_
    | refine CondP.yes (by omega) ?_ | refine CondP.no (by omega) ?_ | refine CondP.mk (fun h => ?_) (fun h => ?_) | refine EqP.mk rfl ?_ | refine NewP.mk (fun ad => ?_) | refine ArP.exact (by simp only [inR]; omega) ?_ | refine SideP.mk (by first | omega | (dsimp only; omega) | (simp; omega)) ?_
    | (refine CallP.mk _ [_] [] _ (s1 _ _ _ hi) (List.Perm.refl _) (fun _ _ => trivial) (fun v L' D' hp => ?_); obtain ⟨u1, a1, c1, hi1, rfl, rfl, rfl⟩ := hp)
    | fail
  refine J_loop (α := Nat × List UInt8 × Bool × Option Addr × Nat) (fun x => [(0, .c (.p 0 K.ab 0)), (17, .c (.sl K.ea es.length K.ec)), (18, lenV es.length), (19, .c (.i .i64 x.1))])
    (fun x => bx 0 K.ab 87 x.2.2.1 x.2.2.2.1 x.2.2.2.2 x.2.1 [.m 1 K.am, .sl K.na W.ns.length K.nc, .i .i64 (m : Nat), .sl K.ea es.length K.ec, .i .i64 h] ++ [.obj 1 K.am (gO (aggV ttW) K.kv)]) (fun _ => [entF K.ea es, tabF]) 7000
    (fun x => x.1 ≤ es.length ∧ x.2.1 = o ++ [60, 117, 108, 32, 99, 108, 97, 115, 115, 61, 34, 99, 111, 110, 116, 101, 110, 116, 115, 34, 62, 10] ++ entsT (es.take x.1) ∧ x.2.1.length ≤ o.length + 30 + x.1 * T ∧ BxI x.2.2.1 x.2.2.2.1 x.2.2.2.2 x.2.1) (fun x => es.length - x.1)
    (InFam.mk (0, o ++ [60, 117, 108, 32, 99, 108, 97, 115, 115, 61, 34, 99, 111, 110, 116, 101, 110, 116, 115, 34, 62, 10], u1, a1, c1) ⟨Nat.zero_le _, by simp [entsT], by simp, hi1⟩ (by repeat' first | exact SubE.nil | refine SubE.cons rfl ?_ ?_ | exact VEq.refl _ | refine VEq.int (by omega) | refine VEq.sl rfl (by first | rfl | omega | (rw [List.length_append]; rfl) | (simp; omega)) rfl) (Ents.refl _ _)) (fun x hx => ?_)
  obtain ⟨i, w, u2, a2, c2⟩ := x
  obtain ⟨hi2, hw, hwl, hbi⟩ := hx
  dsimp only at hi2 hw hwl hbi ⊢
  by_cases hlt : i < es.length
  · have hst := entsT_succ hlt
    have hcg : ((entC es).drop (i * 4 + 0)).take 4 = es[i].cells := entC_get (o := 0) (k := 4) hlt (by omega)
    have hrd : ∀ L, Reads L [entF K.ea es, tabF] 42 4 K.ea es.length (entC es) := fun _ => .inr fun m hm => hm.1
    have hev1 := hev es[i] (List.getElem_mem hlt)
    have hT1 := hT es[i] (List.getElem_mem hlt)
    have hm1 : (i + 1) * T ≤ es.length * T := Nat.mul_le_mul_right T hlt
    rw [Nat.add_mul, Nat.one_mul] at hm1
    have hstep : w ++ entT es[i] = o ++ [60, 117, 108, 32, 99, 108, 97, 115, 115, 61, 34, 99, 111, 110, 116, 101, 110, 116, 115, 34, 62, 10] ++ entsT (es.take (i + 1)) := by rw [hst, hw]; simp only [List.append_assoc]
    clear hst hev hT
    generalize es[i] = e at *
    have hi3 := itoaBig_ok e.level hev1.1.1 hev1.1.2
    have hil := itoa_le (n := e.level) hev1.1.1 hev1.1.2
    have he1 := escape_ok e.anchor (by omega)
    have he2 := escape_ok e.text (by omega)
    have hl1 := escT_le e.anchor
    have hl2 := escT_le e.text
    have hl3 := hev1.2.1
    have hl4 := hev1.2.2.1
    have hl5 := hev1.2.2.2
    unfold EntT.cells at hcg
    have s2 := fun u' a' c' (hi' : BxI u' a' c' w) => bxString_ok 0 K.ab 87 u' a' c' w (entT e) [.m 1 K.am, .sl K.na W.ns.length K.nc, .i .i64 (m : Nat), .sl K.ea es.length K.ec, .i .i64 h] btyW hi' (by omega)
    repeat' first
      | refine J_seq ?_ | refine J_region Tryz.tyOK ?_ | refine J_block ?_ | refine J_cond ?_ | refine J_ret ?_ | refine J_skip ?_ | refine J_exit ?_ | refine J_scope ?_
      | refine CondP.yes (by omega) ?_ | refine CondP.no (by omega) ?_ | refine CondP.mk (fun h => ?_) (fun h => ?_) | refine EqP.mk rfl ?_ | refine NewP.mk (fun ad => ?_) | refine ArP.exact (by simp only [inR]; omega) ?_ | refine SideP.mk (by first | omega | (dsimp only; omega) | (simp; omega)) ?_
      | refine J_drawS (id := 5) Tryz.tyOK (by kernel_rfl) [0, 1, 3, 0, 8, 24, 56, 120, 0, 256, 824, 2040, 4088, 0, 8192, 32760, 65528, 0, 131072, 395064, 1048568, 2097144, 4194303] [0, 1, 2, 3, 4, 8, 9, 13, 14, 17, 18, 5, 6, 7, 10, 11, 12, 15, 16, 19, 20, 21, 22] [5, 10, 19, 22] [3] false (by kernel_rfl) ?_ | refine EntP.mk (Ents.ofSub (by repeat (first | exact keepC_sub _ _ _ | exact List.Sublist.slnil | refine List.Sublist.cons_cons _ ?_ | refine List.Sublist.cons _ ?_)) (by first | exact fun _ h => h | exact fun _ _ => trivial | exact fun _ h => h.2 | exact fun _ h => h.2.2.2.2 | exact fun _ h => h.2.2 | exact fun _ h => h.2.2.2 | exact fun _ h => h.2.2.2.2.2 | exact fun _ h => h.2.2.2.2.2.2 | exact fun _ h => h.2.2.2.2.2.2.2 | exact fun _ h => h.2.2.2.2.2.2.2.2 | exact fun _ h => h.2.2.2.2.2.2.2.2.2 | exact fun _ h => h.2.2.2.2.2.2.2.2.2.2 | exact fun _ h => ((allD_append _ _).1 h).2)) ?_ | refine IdxE.mk 42 4 _ (hrd _) (by omega) (by omega) ?_ | refine LoadE.mk 42 es.length _ _ (hrd _) (by omega) (by omega) (by decide) (by exact hcg) ?_ | refine CallP.is hi3 ?_ (fun _ h => ⟨h.2.1, trivial⟩) | refine CallP.is he1 ?_ (fun _ _ => trivial) | refine CallP.is he2 ?_ (fun _ _ => trivial) | (refine CallP.mk _ [_, _] [] _ (s2 _ _ _ hbi) ((List.perm_append_comm (l₁ := [_]) (l₂ := [_, _])).append_right [_]) (fun _ _ => trivial) (fun v L' D' hp => ?_); obtain ⟨u3, a3, c3, hi3, rfl, rfl, rfl⟩ := hp)
      | fail
    exact Round.mk (i + 1, w ++ entT e, u3, a3, c3) (by dsimp only; omega) ⟨by dsimp only; omega, by dsimp only; rw [hstep], by dsimp only; rw [List.length_append, Nat.add_mul, Nat.one_mul]; omega, hi3⟩ (by repeat' first | exact SubE.nil | refine SubE.cons rfl ?_ ?_ | exact VEq.refl _ | refine VEq.int (by omega)) (Ents.sub ⟨[_], (List.perm_append_comm (l₁ := [_, _]) (l₂ := [_])).append_right [_]⟩)
  · have hil : i = es.length := by omega
    subst hil
    rw [List.take_length] at hw
    have s3 := fun u' a' c' (hi' : BxI u' a' c' w) => bxString_ok 0 K.ab 87 u' a' c' w [60, 47, 117, 108, 62, 10] [.m 1 K.am, .sl K.na W.ns.length K.nc, .i .i64 (m : Nat), .sl K.ea es.length K.ec, .i .i64 h] btyW hi' (by simp; omega)
    repeat' first
      | refine J_seq ?_ | refine J_region Tryz.tyOK ?_ | refine J_block ?_ | refine J_cond ?_ | refine J_ret ?_ | refine J_skip ?_ | refine J_exit ?_ | refine J_scope ?_
      | refine CondP.yes (by omega) ?_ | refine CondP.no (by omega) ?_ | refine CondP.mk (fun h => ?_) (fun h => ?_) | refine EqP.mk rfl ?_ | refine NewP.mk (fun ad => ?_) | refine ArP.exact (by simp only [inR]; omega) ?_ | refine SideP.mk (by first | omega | (dsimp only; omega) | (simp; omega)) ?_
      | (refine CallP.mk _ [_] [] _ (s3 _ _ _ hbi) (List.Perm.refl _) (fun _ _ => trivial) (fun v L' D' hp => ?_); obtain ⟨u3, a3, c3, hi3, rfl, rfl, rfl⟩ := hp)
      | fail
    rw [show o ++ ([60, 117, 108, 32, 99, 108, 97, 115, 115, 61, 34, 99, 111, 110, 116, 101, 110, 116, 115, 34, 62, 10] ++ entsT es ++ [60, 47, 117, 108, 62, 10]) = w ++ [60, 47, 117, 108, 62, 10] by rw [hw]; simp only [List.append_assoc]]
    refine FinE.mk (wrM K W u3 a3 c3 (w ++ [60, 47, 117, 108, 62, 10]) m h) [] ⟨u3, a3, c3, hi3, rfl, rfl, rfl⟩ ?_
    unfold wrM wrR
    rw [hes]
    exact Ents.facts fun _ _ => trivial
theorem noteT_le (W : RenW) (hn : ∀ j ∈ W.ns, 0 ≤ j ∧ j ≤ 100000000) {i : Nat} {p : NoP} (hi : i ≤ 100000000) (hb : inlBulk p.inl ≤ 100000000) (hu : ∀ k ∈ p.uses, 0 ≤ k ∧ k ≤ 1000000000) : (noteT W i p).length ≤ 600 * inlBulk p.inl + 60 * p.uses.length + 60 := by
  have h1 := itoa_le (n := (i : Int) + 1) (by omega) (by omega)
  have h2 := inlRen_le W hn false 0 p.inl (by omega)
  have h3 := usesT_le hu
  unfold noteT
  simp only [List.length_append, List.length_cons, List.length_nil]; omega
set_option maxHeartbeats 8000000 in
theorem wlist_ok (K : WrK) (W : RenW) (hK : WrOk K W) (ns : List NoM) (hnv : ∀ n ∈ ns, inlBulk n.inl ≤ 1100000 ∧ n.uses.length ≤ 100000000 ∧ ∀ k ∈ n.uses, 0 ≤ k ∧ k ≤ 1000000000) (T : Nat) (hT : ∀ n ∈ ns, 600 * inlBulk n.inl + 60 * n.uses.length + 60 ≤ T) (hTT : ns.length * T ≤ 10000000000000) (hnl : ns.length ≤ 100000000)
    (na : Option Addr) (nc : Nat) (u : Bool) (a : Option Addr) (c : Nat) (o : List UInt8) (m h : Nat) (hi : BxI u a c o) (ho : o.length ≤ 10000000000000) (hmb : m ≤ 10000000) :
    FnS Tryz.prog 53 [.c (.p 0 K.ab 0), .c (.sl na ns.length nc)] (wrM K W u a c o m h) [notesF na ns, noteF K W, tabF, gInt 0] (WrP K W (o ++ listT W (pureN ns)) m h) := by
  have hpl : (pureN ns).length = ns.length := by simp
  unfold listT
  by_cases l2 : ns = []
  · have l3 : ns.length = 0 := by rw [l2]; rfl
    rw [if_pos (by rw [l2]; rfl), List.append_nil]
    refine fn_of_J Tryz.tyOK 7000 Tryz.func53 (by kernel_rfl) (c := Tryz.f53.body.getD .skip) (by kernel_rfl) Tryz.ntmps53 (rs := Tryz.f53.results.toList) rfl (by simp) (fun G => ?_)
    repeat' first
      | refine J_seq ?_ | refine J_region Tryz.tyOK ?_ | refine J_block ?_ | refine J_cond ?_ | refine J_ret ?_ | refine J_skip ?_ | refine J_exit ?_ | refine J_scope ?_
      | refine CondP.yes (by omega) ?_ | refine CondP.no (by omega) ?_ | refine CondP.mk (fun h => ?_) (fun h => ?_) | refine EqP.mk rfl ?_ | refine NewP.mk (fun ad => ?_) | refine ArP.exact (by simp only [inR]; omega) ?_ | refine SideP.mk (by first | omega | (dsimp only; omega) | (simp; omega)) ?_
      | fail
    exact FinE.mk (wrM K W u a c o m h) [] ⟨u, a, c, hi, rfl, rfl, rfl⟩ (Ents.facts fun _ _ => trivial)
  have l3 : ¬ ns.length = 0 := fun e => l2 (List.eq_nil_of_length_eq_zero e)
  rw [if_neg (fun e => l3 (by rw [← hpl, e]; rfl))]
  have s1 := fun u' a' c' (hi' : BxI u' a' c' o) => bxString_ok 0 K.ab 87 u' a' c' o [60, 111, 108, 32, 99, 108, 97, 115, 115, 61, 34, 110, 111, 116, 101, 115, 34, 62, 10] [.m 1 K.am, .sl K.na W.ns.length K.nc, .i .i64 (m : Nat), .sl K.ea K.en K.ec, .i .i64 h] btyW hi' (by simp; omega)
  unfold wrM wrR
  refine fn_of_J Tryz.tyOK 7000 Tryz.func53 (by kernel_rfl) (c := Tryz.f53.body.getD .skip) (by kernel_rfl) Tryz.ntmps53 (rs := Tryz.f53.results.toList) rfl (by simp) (fun G => ?_)
  repeat' first
    | refine J_seq ?_ | refine J_region Tryz.tyOK ?_ | refine J_block ?_ | refine J_cond ?_ | refine J_ret ?_ | refine J_skip ?_ | refine J_exit ?_ | refine J_scope ?_
    | refine CondP.yes (by omega) ?_ | refine CondP.no (by omega) ?_ | refine CondP.mk (fun h => ?_) (fun h => ?_) | refine EqP.mk rfl ?_ | refine NewP.mk (fun ad => ?_) | refine ArP.exact (by simp only [inR]; omega) ?_ | refine SideP.mk (by first | omega | (dsimp only; omega) | (simp; omega)) ?_
    | (refine CallP.mk _ [_] [] _ (s1 _ _ _ hi) (List.Perm.refl _) (fun _ _ => trivial) (fun v L' D' hp => ?_); obtain ⟨u1, a1, c1, hi1, rfl, rfl, rfl⟩ := hp)
    | fail
  refine J_loop (α := Nat × List UInt8 × Bool × Option Addr × Nat) (fun x => [(0, .c (.p 0 K.ab 0)), (15, .c (.sl na ns.length nc)), (16, lenV ns.length), (17, .c (.i .i64 x.1))])
    (fun x => bx 0 K.ab 87 x.2.2.1 x.2.2.2.1 x.2.2.2.2 x.2.1 [.m 1 K.am, .sl K.na W.ns.length K.nc, .i .i64 (m : Nat), .sl K.ea K.en K.ec, .i .i64 h] ++ [.obj 1 K.am (gO (aggV ttW) K.kv)]) (fun _ => [notesF na ns, noteF K W, tabF, gInt 0]) 7000
    (fun x => x.1 ≤ ns.length ∧ x.2.1 = o ++ [60, 111, 108, 32, 99, 108, 97, 115, 115, 61, 34, 110, 111, 116, 101, 115, 34, 62, 10] ++ notesT W 0 ((pureN ns).take x.1) ∧ x.2.1.length ≤ o.length + 30 + x.1 * T ∧ BxI x.2.2.1 x.2.2.2.1 x.2.2.2.2 x.2.1) (fun x => ns.length - x.1)
    (InFam.mk (0, o ++ [60, 111, 108, 32, 99, 108, 97, 115, 115, 61, 34, 110, 111, 116, 101, 115, 34, 62, 10], u1, a1, c1) ⟨Nat.zero_le _, by simp [notesT], by simp, hi1⟩ (by repeat' first | exact SubE.nil | refine SubE.cons rfl ?_ ?_ | exact VEq.refl _ | refine VEq.int (by omega) | refine VEq.sl rfl (by first | rfl | omega | (rw [List.length_append]; rfl) | (simp; omega)) rfl) (Ents.refl _ _)) (fun x hx => ?_)
  obtain ⟨i, w, u2, a2, c2⟩ := x
  obtain ⟨hi2, hw, hwl, hbi⟩ := hx
  dsimp only at hi2 hw hwl hbi ⊢
  by_cases hlt : i < ns.length
  · have hst := notesT_succ W (ps := pureN ns) (i := i) (by omega)
    have hgp : (pureN ns)[i]'(by omega) = ns[i].pure := by simp
    rw [hgp] at hst
    have hcg : ((noC ns).drop (i * 3 + 0)).take 3 = ns[i].cells := noC_get (o := 0) (k := 3) hlt (by omega)
    have hrd : ∀ L, Reads L [notesF na ns, noteF K W, tabF, gInt 0] 89 3 na ns.length (noC ns) := fun _ => .inr fun m hm => hm.1.1
    have hfi : ∀ m, allD m [notesF na ns, noteF K W, tabF, gInt 0] → (inlF ns[i].ia ns[i].inl).p m := fun m hm => (hm.1.2 ns[i] (List.getElem_mem hlt)).1
    have hru : ∀ L, Reads L [notesF na ns, noteF K W, tabF, gInt 0] 3 1 ns[i].ua ns[i].uses.length (ns[i].uses.map (C.i .i64)) := fun _ => .inr fun m hm => (hm.1.2 ns[i] (List.getElem_mem hlt)).2
    have hev1 := hnv ns[i] (List.getElem_mem hlt)
    have hT1 := hT ns[i] (List.getElem_mem hlt)
    have hm1 : (i + 1) * T ≤ ns.length * T := Nat.mul_le_mul_right T hlt
    rw [Nat.add_mul, Nat.one_mul] at hm1
    have hntl := noteT_le W hK.ns (i := i) (p := ns[i].pure) (by omega) (by show inlBulk (inlEra _) ≤ _; rw [inlEra_bulk]; omega) hev1.2.2
    rw [show inlBulk ns[i].pure.inl = inlBulk ns[i].inl from inlEra_bulk _, show ns[i].pure.uses = ns[i].uses from rfl] at hntl
    have hpt : noteT W i ns[i].pure = [60, 108, 105, 32, 105, 100, 61, 34, 110, 111, 116, 101, 45] ++ itoa ((i : Int) + 1) ++ [34, 62] ++ inlRen W false m ns[i].inl ++ usesT ns[i].uses ++ [60, 47, 108, 105, 62, 10] := by
      unfold noteT
      rw [show ns[i].pure.inl = inlEra ns[i].inl from rfl, inlRen_era, inlRen_off W 0 m, show ns[i].pure.uses = ns[i].uses from rfl]
    have hstep : w ++ noteT W i ns[i].pure = o ++ [60, 111, 108, 32, 99, 108, 97, 115, 115, 61, 34, 110, 111, 116, 101, 115, 34, 62, 10] ++ notesT W 0 ((pureN ns).take (i + 1)) := by rw [hst, hw]; simp only [List.append_assoc]
    rw [hpt] at hstep hntl
    clear hst hnv hT hgp hpt
    have hrl := inlRen_le W hK.ns false m ns[i].inl (by omega)
    generalize ns[i] = n at *
    have hi3 := itoaBig_ok ((i : Int) + 1) (by omega) (by omega)
    have hil := itoa_le (n := (i : Int) + 1) (by omega) (by omega)
    have hul := usesT_le hev1.2.2
    unfold NoM.cells at hcg
    have s2 := fun u' a' c' (hi' : BxI u' a' c' w) => bxString_ok 0 K.ab 87 u' a' c' w ([60, 108, 105, 32, 105, 100, 61, 34, 110, 111, 116, 101, 45] ++ itoa ((i : Int) + 1) ++ [34, 62]) [.m 1 K.am, .sl K.na W.ns.length K.nc, .i .i64 (m : Nat), .sl K.ea K.en K.ec, .i .i64 h] btyW hi' (by simp; omega)
    obtain ⟨w1, hw1⟩ : ∃ w1, w1 = w ++ ([60, 108, 105, 32, 105, 100, 61, 34, 110, 111, 116, 101, 45] ++ itoa ((i : Int) + 1) ++ [34, 62]) := ⟨_, rfl⟩
    have hw1l : w1.length ≤ w.length + 50 := by rw [hw1]; simp; omega
    rw [← hw1] at s2
    have s3 := fun u' a' c' (hi' : BxI u' a' c' w1) => winl_ok K W hK false h _ n.inl rfl n.ia n.ic u' a' c' w1 m hi' (by omega) (by omega) (fun hc => by cases hc) (by omega)
    simp only [mkN_off] at s3
    unfold wrM wrR at s3
    repeat' first
      | refine J_stop (c := .seq (.seq (.region 7 _ _) _) _) ?_
      | refine J_seq ?_ | refine J_region Tryz.tyOK ?_ | refine J_block ?_ | refine J_cond ?_ | refine J_ret ?_ | refine J_skip ?_ | refine J_exit ?_ | refine J_scope ?_
      | refine CondP.yes (by omega) ?_ | refine CondP.no (by omega) ?_ | refine CondP.mk (fun h => ?_) (fun h => ?_) | refine EqP.mk rfl ?_ | refine NewP.mk (fun ad => ?_) | refine ArP.exact (by simp only [inR]; omega) ?_ | refine SideP.mk (by first | omega | (dsimp only; omega) | (simp; omega)) ?_
      | refine J_drawS (id := 5) Tryz.tyOK (by kernel_rfl) [0, 1, 3, 0, 8, 24, 56, 120, 255] [0, 1, 2, 3, 4, 5, 6, 7, 8] [5, 8] [] false (by kernel_rfl) ?_ | refine J_drawS (id := 10) Tryz.tyOK (by kernel_rfl) [0, 1, 3, 0, 8, 24, 56, 127] [0, 1, 2, 3, 4, 5, 6, 7] [4, 7] [] false (by kernel_rfl) ?_ | refine EntP.mk (Ents.ofSub (by repeat (first | exact keepC_sub _ _ _ | exact List.Sublist.slnil | refine List.Sublist.cons_cons _ ?_ | refine List.Sublist.cons _ ?_)) (by first | exact fun _ h => h | exact fun _ _ => trivial | exact fun _ h => h.2 | exact fun _ h => h.2.2.2.2 | exact fun _ h => h.2.2 | exact fun _ h => h.2.2.2 | exact fun _ h => h.2.2.2.2.2 | exact fun _ h => h.2.2.2.2.2.2 | exact fun _ h => h.2.2.2.2.2.2.2 | exact fun _ h => h.2.2.2.2.2.2.2.2 | exact fun _ h => h.2.2.2.2.2.2.2.2.2 | exact fun _ h => h.2.2.2.2.2.2.2.2.2.2 | exact fun _ h => ((allD_append _ _).1 h).2)) ?_ | refine IdxE.mk 89 3 _ (hrd _) (by omega) (by omega) ?_ | refine LoadE.mk 89 ns.length _ _ (hrd _) (by omega) (by omega) (by decide) (by exact hcg) ?_ | refine CallP.is hi3 ?_ (fun _ h => ⟨h.2.2.1, trivial⟩) | (refine CallP.mk _ [_, _] [] _ (s2 _ _ _ hbi) ((List.perm_append_comm (l₁ := [_]) (l₂ := [_, _])).append_right [_]) (fun _ _ => trivial) (fun v L' D' hp => ?_); obtain ⟨u3, a3, c3, hi3, rfl, rfl, rfl⟩ := hp) | (refine CallP.mk _ [_] [inlF n.ia n.inl, noteF K W, tabF, gInt 0] _ (s3 _ _ _ hi3) ((List.Perm.swap _ _ _).append_left [_, _]) (fun m h => ⟨hfi m h, h.2⟩) (fun v L' D' hp => ?_); obtain ⟨u4, a4, c4, hi4, rfl, rfl, rfl⟩ := hp; unfold wrM wrR)
      | fail
    refine ⟨?_⟩
    repeat' first
      | refine J_seq ?_ | refine J_region Tryz.tyOK ?_ | refine J_block ?_ | refine J_cond ?_ | refine J_ret ?_ | refine J_skip ?_ | refine J_exit ?_ | refine J_scope ?_
      | refine CondP.yes (by omega) ?_ | refine CondP.no (by omega) ?_ | refine CondP.mk (fun h => ?_) (fun h => ?_) | refine EqP.mk rfl ?_ | refine NewP.mk (fun ad => ?_) | refine ArP.exact (by simp only [inR]; omega) ?_ | refine SideP.mk (by first | omega | (dsimp only; omega) | (simp; omega)) ?_
      | fail
    have hrt : ∀ (j : Nat) (hj : j < n.uses.length), ((n.uses.map (C.i .i64)).drop (j * 1 + 0)).take 1 = [.i .i64 n.uses[j]] := fun j hj => by
      rw [show j * 1 + 0 = j by omega, ← List.map_drop, ← List.map_take, List.drop_eq_getElem_cons hj]; rfl
    refine J_loop (α := Nat × List UInt8 × Bool × Option Addr × Nat) (fun x => [(0, .c (.p 0 K.ab 0)), (15, .c (.sl na ns.length nc)), (16, lenV ns.length), (17, .c (.i .i64 i)), (36, .c (.sl n.ua n.uses.length n.uc)), (37, lenV n.uses.length), (38, .c (.i .i64 x.1))])
      (fun x => bx 0 K.ab 87 x.2.2.1 x.2.2.2.1 x.2.2.2.2 x.2.1 [.m 1 K.am, .sl K.na W.ns.length K.nc, .i .i64 (m : Nat), .sl K.ea K.en K.ec, .i .i64 h] ++ [.obj 1 K.am (gO (aggV ttW) K.kv)]) (fun _ => [notesF na ns, noteF K W, tabF, gInt 0]) 7001
      (fun x => x.1 ≤ n.uses.length ∧ x.2.1 = w1 ++ inlRen W false m n.inl ++ usesT (n.uses.take x.1) ∧ BxI x.2.2.1 x.2.2.2.1 x.2.2.2.2 x.2.1) (fun x => n.uses.length - x.1)
      (InFam.mk (0, w1 ++ inlRen W false m n.inl, u4, a4, c4) ⟨Nat.zero_le _, by simp [usesT], hi4⟩ (by repeat' first | exact SubE.nil | refine SubE.cons rfl ?_ ?_ | exact VEq.refl _ | refine VEq.int (by omega) | refine VEq.sl rfl (by first | rfl | omega | (rw [List.length_append]; rfl) | (simp; omega)) rfl) (by dsimp only; exact Ents.sub ⟨[_], List.perm_append_comm (l₁ := [_, _, _]) (l₂ := [_])⟩)) (fun x hx => ?_)
    obtain ⟨j, w2, u5, a5, c5⟩ := x
    obtain ⟨hj, hw2, hbj⟩ := hx
    dsimp only at hj hw2 hbj ⊢
    have htk : (usesT (n.uses.take j)).length ≤ 60 * j := by
      have := usesT_le (ks := n.uses.take j) fun k hk => hev1.2.2 k (List.mem_of_mem_take hk)
      rw [List.length_take, Nat.min_eq_left hj] at this; exact this
    have hw2l : w2.length ≤ w1.length + 600 * inlBulk n.inl + 60 * j := by rw [hw2]; simp only [List.length_append]; omega
    by_cases hjl : j < n.uses.length
    · have hsu := usesT_succ hjl
      have hgu := hrt j hjl
      have huv := hev1.2.2 n.uses[j] (List.getElem_mem hjl)
      have hw3 : w2 ++ useT n.uses[j] = w1 ++ inlRen W false m n.inl ++ usesT (n.uses.take (j + 1)) := by rw [hsu, hw2]; simp only [List.append_assoc]
      clear hsu
      generalize n.uses[j] = k at *
      have hi5 := itoaBig_ok k (by omega) (by omega)
      have hil5 := itoa_le (n := k) (by omega) (by omega)
      have hul5 := useT_le huv.1 huv.2
      have s4 := fun u' a' c' (hi' : BxI u' a' c' w2) => bxString_ok 0 K.ab 87 u' a' c' w2 (useT k) [.m 1 K.am, .sl K.na W.ns.length K.nc, .i .i64 (m : Nat), .sl K.ea K.en K.ec, .i .i64 h] btyW hi' (by omega)
      repeat' first
        | refine J_seq ?_ | refine J_region Tryz.tyOK ?_ | refine J_block ?_ | refine J_cond ?_ | refine J_ret ?_ | refine J_skip ?_ | refine J_exit ?_ | refine J_scope ?_
        | refine CondP.yes (by omega) ?_ | refine CondP.no (by omega) ?_ | refine CondP.mk (fun h => ?_) (fun h => ?_) | refine EqP.mk rfl ?_ | refine NewP.mk (fun ad => ?_) | refine ArP.exact (by simp only [inR]; omega) ?_ | refine SideP.mk (by first | omega | (dsimp only; omega) | (simp; omega)) ?_
        | refine J_drawS (id := 5) Tryz.tyOK (by kernel_rfl) [0, 1, 3, 0, 8, 24, 56, 120, 255] [0, 1, 2, 3, 4, 5, 6, 7, 8] [5, 8] [] false (by kernel_rfl) ?_ | refine J_drawS (id := 10) Tryz.tyOK (by kernel_rfl) [0, 1, 3, 0, 8, 24, 56, 127] [0, 1, 2, 3, 4, 5, 6, 7] [4, 7] [] false (by kernel_rfl) ?_ | refine EntP.mk (Ents.ofSub (by repeat (first | exact keepC_sub _ _ _ | exact List.Sublist.slnil | refine List.Sublist.cons_cons _ ?_ | refine List.Sublist.cons _ ?_)) (by first | exact fun _ h => h | exact fun _ _ => trivial | exact fun _ h => h.2 | exact fun _ h => h.2.2.2.2 | exact fun _ h => h.2.2 | exact fun _ h => h.2.2.2 | exact fun _ h => h.2.2.2.2.2 | exact fun _ h => h.2.2.2.2.2.2 | exact fun _ h => h.2.2.2.2.2.2.2 | exact fun _ h => h.2.2.2.2.2.2.2.2 | exact fun _ h => h.2.2.2.2.2.2.2.2.2 | exact fun _ h => h.2.2.2.2.2.2.2.2.2.2 | exact fun _ h => ((allD_append _ _).1 h).2)) ?_ | refine IdxE.mk 3 1 _ (hru _) (by omega) (by omega) ?_ | refine LoadE.mk 3 n.uses.length _ _ (hru _) (by omega) (by omega) (by decide) (by exact hgu) ?_ | refine CallP.is hi5 ?_ (fun _ h => ⟨h.2.2.1, trivial⟩) | (refine CallP.mk _ [_] [] _ (s4 _ _ _ hbj) (List.Perm.refl _) (fun _ _ => trivial) (fun v L' D' hp => ?_); obtain ⟨u6, a6, c6, hi6, rfl, rfl, rfl⟩ := hp)
        | fail
      exact Round.mk (j + 1, w2 ++ useT k, u6, a6, c6) (by dsimp only; omega) ⟨by dsimp only; omega, by dsimp only; rw [hw3], hi6⟩ (by repeat' first | exact SubE.nil | refine SubE.cons rfl ?_ ?_ | exact VEq.refl _ | refine VEq.int (by omega)) (Ents.refl _ _)
    · have hje : j = n.uses.length := by omega
      subst hje
      rw [List.take_length] at hw2
      have s5 := fun u' a' c' (hi' : BxI u' a' c' w2) => bxString_ok 0 K.ab 87 u' a' c' w2 [60, 47, 108, 105, 62, 10] [.m 1 K.am, .sl K.na W.ns.length K.nc, .i .i64 (m : Nat), .sl K.ea K.en K.ec, .i .i64 h] btyW hi' (by simp; omega)
      repeat' first
        | refine J_seq ?_ | refine J_region Tryz.tyOK ?_ | refine J_block ?_ | refine J_cond ?_ | refine J_ret ?_ | refine J_skip ?_ | refine J_exit ?_ | refine J_scope ?_
        | refine CondP.yes (by omega) ?_ | refine CondP.no (by omega) ?_ | refine CondP.mk (fun h => ?_) (fun h => ?_) | refine EqP.mk rfl ?_ | refine NewP.mk (fun ad => ?_) | refine ArP.exact (by simp only [inR]; omega) ?_ | refine SideP.mk (by first | omega | (dsimp only; omega) | (simp; omega)) ?_
        | (refine CallP.mk _ [_] [] _ (s5 _ _ _ hbj) (List.Perm.refl _) (fun _ _ => trivial) (fun v L' D' hp => ?_); obtain ⟨u6, a6, c6, hi6, rfl, rfl, rfl⟩ := hp)
        | fail
      have hw4 : w2 ++ [60, 47, 108, 105, 62, 10] = w ++ ([60, 108, 105, 32, 105, 100, 61, 34, 110, 111, 116, 101, 45] ++ itoa ((i : Int) + 1) ++ [34, 62] ++ inlRen W false m n.inl ++ usesT n.uses ++ [60, 47, 108, 105, 62, 10]) := by rw [hw2, hw1]; simp only [List.append_assoc]
      exact Round.mk (i + 1, w2 ++ [60, 47, 108, 105, 62, 10], u6, a6, c6) (by dsimp only; omega) ⟨by dsimp only; omega, by dsimp only; rw [hw4, hstep], by dsimp only; rw [hw4, List.length_append, Nat.add_mul, Nat.one_mul]; omega, hi6⟩ (by repeat' first | exact SubE.nil | refine SubE.cons rfl ?_ ?_ | exact VEq.refl _ | refine VEq.int (by omega)) (Ents.refl _ _)
  · have hil : i = ns.length := by omega
    subst hil
    rw [List.take_of_length_le (by omega)] at hw
    have s3 := fun u' a' c' (hi' : BxI u' a' c' w) => bxString_ok 0 K.ab 87 u' a' c' w [60, 47, 111, 108, 62, 10] [.m 1 K.am, .sl K.na W.ns.length K.nc, .i .i64 (m : Nat), .sl K.ea K.en K.ec, .i .i64 h] btyW hi' (by simp; omega)
    repeat' first
      | refine J_seq ?_ | refine J_region Tryz.tyOK ?_ | refine J_block ?_ | refine J_cond ?_ | refine J_ret ?_ | refine J_skip ?_ | refine J_exit ?_ | refine J_scope ?_
      | refine CondP.yes (by omega) ?_ | refine CondP.no (by omega) ?_ | refine CondP.mk (fun h => ?_) (fun h => ?_) | refine EqP.mk rfl ?_ | refine NewP.mk (fun ad => ?_) | refine ArP.exact (by simp only [inR]; omega) ?_ | refine SideP.mk (by first | omega | (dsimp only; omega) | (simp; omega)) ?_
      | (refine CallP.mk _ [_] [] _ (s3 _ _ _ hbi) (List.Perm.refl _) (fun _ _ => trivial) (fun v L' D' hp => ?_); obtain ⟨u3, a3, c3, hi3, rfl, rfl, rfl⟩ := hp)
      | fail
    rw [show o ++ ([60, 111, 108, 32, 99, 108, 97, 115, 115, 61, 34, 110, 111, 116, 101, 115, 34, 62, 10] ++ notesT W 0 (pureN ns) ++ [60, 47, 111, 108, 62, 10]) = w ++ [60, 47, 111, 108, 62, 10] by rw [hw]; simp only [List.append_assoc]]
    exact FinE.mk (wrM K W u3 a3 c3 (w ++ [60, 47, 111, 108, 62, 10]) m h) [] ⟨u3, a3, c3, hi3, rfl, rfl, rfl⟩ (Ents.facts fun _ _ => trivial)
end Go.Proofs
namespace Go.Proofs
open Go Go.X Go.Lib
mutual
theorem Inl.marks_nodes : ∀ x : Inl, x.marks.length ≤ x.nodes
  | .mk k t s n a ka kc kids => by
    have h := inlMarks_nodes kids
    rw [Inl.marks, Inl.nodes]
    split
    · simp
    · split
      · omega
      · exact Nat.zero_le _
theorem inlMarks_nodes : ∀ l : List Inl, (inlMarks l).length ≤ inlNodes l
  | [] => Nat.le_refl _
  | x :: r => by
    have h1 := Inl.marks_nodes x
    have h2 := inlMarks_nodes r
    rw [inlMarks, inlNodes, List.length_append]; omega
end
mutual
theorem Blk.marks_nodes : ∀ x : Blk, x.marks.length ≤ x.nodes
  | .mk k v t ia ic inl ka kc kids => by
    have h1 := inlMarks_nodes inl
    have h2 := blkMarks_nodes kids
    rw [Blk.marks, Blk.nodes, List.length_append]; omega
theorem blkMarks_nodes : ∀ l : List Blk, (blkMarks l).length ≤ blkNodes l
  | [] => Nat.le_refl _
  | x :: r => by
    have h1 := Blk.marks_nodes x
    have h2 := blkMarks_nodes r
    rw [blkMarks, blkNodes, List.length_append]; omega
end
theorem blkFit_mem : ∀ {l : List Blk} {x : Blk}, blkFit l → x ∈ l → inR .i64 x.level
  | y :: r, x, h, hx => by
    unfold blkFit at h
    rcases List.mem_cons.1 hx with rfl | hx
    · cases x; exact h.1.1
    · exact blkFit_mem h.2 hx
  | [], _, _, hx => by cases hx
theorem contT_fit (bs : List Blk) (hf : blkFit bs) : ∀ e ∈ contT bs, inR .i64 e.level := by
  have key : ∀ i, i ≤ bs.length → ∀ e ∈ contT (bs.take i), inR .i64 e.level := fun i => by
    induction i with
    | zero => intro _ e he; simp [contT] at he
    | succ i ih =>
      intro h e he
      rw [contT_succ (by omega)] at he
      unfold addE at he
      split at he
      · rcases List.mem_append.1 he with he | he
        · exact ih (by omega) e he
        · rw [List.mem_singleton.1 he]; exact blkFit_mem hf (List.getElem_mem _)
      · exact ih (by omega) e he
  have := key bs.length (Nat.le_refl _)
  rwa [List.take_length] at this
theorem addP_inl {ps : List NoP} {i b : Nat} {m : Inl} (h : ∀ p ∈ ps, inlBulk p.inl ≤ b) (hm : inlBulk m.kids ≤ b) : ∀ p ∈ Go.X.addP ps i m, inlBulk p.inl ≤ b := by
  by_cases hc : m.text = [] ∨ findL (namesP ps) m.text ps.length = none
  · rw [(addP_new hc).1]
    intro p hp
    rcases List.mem_append.1 hp with hp | hp
    · exact h p hp
    · rw [List.mem_singleton.1 hp]; exact hm
  · rw [not_or] at hc
    obtain ⟨k, hk⟩ := Option.ne_none_iff_exists'.1 hc.2
    have hkl := findL_lt hk
    rw [(addP_old hc.1 hk hkl).1]
    intro p hp
    rcases List.mem_or_eq_of_mem_set hp with hp | rfl
    · exact h p hp
    · unfold touchP
      dsimp only
      split
      · exact hm
      · exact h ps[k] (List.getElem_mem hkl)
theorem notesP_inl {b : Nat} (ms : List Inl) (hm : ∀ m ∈ ms, inlBulk m.kids ≤ b) : ∀ i, i ≤ ms.length → ∀ p ∈ notesP (ms.take i), inlBulk p.inl ≤ b
  | 0, _ => by simp [notesP, notesFrom]
  | i + 1, h => by
    rw [notesP_take_succ (by omega)]
    exact addP_inl (notesP_inl ms hm i (by omega)) (hm _ (List.getElem_mem _))
theorem inlBulk_mem : ∀ {l : List Inl} {x : Inl}, x ∈ l → inlBulk x.kids ≤ inlBulk l
  | y :: r, x, hx => by
    rw [inlBulk]
    rcases List.mem_cons.1 hx with rfl | hx
    · have := Inl.bulk_eq x; omega
    · have := inlBulk_mem hx; omega
  | [], _, hx => by cases hx
theorem docNotes (bs : List Blk) : (notesP (inlEra (blkMarks bs))).length ≤ (blkMarks bs).length ∧ ∀ p ∈ notesP (inlEra (blkMarks bs)), inlBulk p.inl ≤ blkBulk bs ∧ p.uses.length ≤ (blkMarks bs).length ∧ ∀ k ∈ p.uses, 1 ≤ k ∧ k ≤ (blkMarks bs).length := by
  have hl := inlEra_len (blkMarks bs)
  have h1 := notesP_b (inlEra (blkMarks bs)) _ (Nat.le_refl _)
  have h2 := notesP_inl (b := blkBulk bs) (inlEra (blkMarks bs)) (fun m hm => by
    have := inlBulk_mem hm
    rw [inlEra_bulk] at this
    exact Nat.le_trans this (blkMarks_bulk bs)) _ (Nat.le_refl _)
  rw [List.take_length] at h1 h2
  rw [hl] at h1
  exact ⟨h1.len, fun p hp => ⟨h2 p hp, (h1.use p hp).1, (h1.use p hp).2⟩⟩
theorem docConts (bs : List Blk) (hf : blkFit bs) (hl : bs.length < 10000000) : (contT bs).length ≤ bs.length ∧ ∀ e ∈ contT bs, inR .i64 e.level ∧ e.number.length ≤ 22 * bs.length ∧ e.text.length ≤ blkBulk bs ∧ e.anchor.length ≤ 3 * blkBulk bs + 22 := by
  have h1 := contT_b bs _ (Nat.le_refl _) hl
  rw [List.take_length] at h1
  exact ⟨h1.len, fun e he => ⟨contT_fit bs hf e he, h1.num e he, (h1.txt e he).1, (h1.txt e he).2⟩⟩
theorem hId_le (W : RenW) (es : List EntT) (han : W.an = ancs es) (b : Nat) (h : ∀ e ∈ es, e.anchor.length ≤ b) (i : Nat) : (hId W true i).length ≤ 6 * b + 20 := by
  have h1 : (W.an.getD i []).length ≤ b := by
    rw [han]
    by_cases hi : i < es.length
    · have := h es[i] (List.getElem_mem hi)
      simpa [ancs, hi] using this
    · rw [List.getD_eq_getElem?_getD, List.getElem?_eq_none (by simp [ancs]; omega)]; simp
  have h2 := escT_le (W.an.getD i [])
  unfold hId
  simp only [if_true, List.length_append, List.length_cons, List.length_nil]; omega
theorem entsT_le {es : List EntT} {T : Nat} (h : ∀ e ∈ es, (entT e).length ≤ T) : (entsT es).length ≤ es.length * T := by
  induction es with
  | nil => simp [entsT]
  | cons x r ih =>
    have h1 := h x (by simp)
    have h2 := ih fun e he => h e (by simp [he])
    unfold entsT at h2 ⊢
    rw [List.flatMap_cons, List.length_append, List.length_cons, Nat.add_mul, Nat.one_mul]; omega
theorem contsT_le {es : List EntT} {T : Nat} (h : ∀ e ∈ es, (entT e).length ≤ T) : (contsT es).length ≤ es.length * T + 60 := by
  have := entsT_le h
  unfold contsT
  split
  · exact Nat.zero_le _
  · simp only [List.length_append, List.length_cons, List.length_nil]; omega
set_option maxRecDepth 100000
def wrG (ib im : Nat) (K : WrK) (W : RenW) (u : Bool) (a : Option Addr) (c : Nat) (o : List UInt8) (m h : Nat) : List Chunk := bx ib K.ab 87 u a c o [.m im K.am, .sl K.na W.ns.length K.nc, .i .i64 m, .sl K.ea K.en K.ec, .i .i64 h] ++ [.obj im K.am (gO (aggV ttW) K.kv)]
def WrG (ib im : Nat) (K : WrK) (W : RenW) (o : List UInt8) (m h : Nat) : V → List Chunk → List Fact → Prop := fun v L D => ∃ u a c, BxI u a c o ∧ v = .t0 ∧ L = wrG ib im K W u a c o m h ∧ D = []
theorem wr_same (ib im : Nat) (K : WrK) (W : RenW) (u : Bool) (a : Option Addr) (c : Nat) (o : List UInt8) (m h : Nat) : Same (wrM K W u a c o m h) (wrG ib im K W u a c o m h) := by
  unfold wrM wrG wrR bx
  cases u <;> exact ⟨rfl, fun _ => by simp [allOk, Chunk.ok, C.enc, oneAll, C.one]⟩
theorem wr_ids (ib im : Nat) {K : WrK} {W : RenW} {f : FuncId} {args : List V} {u : Bool} {a : Option Addr} {c : Nat} {o o' : List UInt8} {m h m' h' : Nat} {D : List Fact} (hf : FnS Tryz.prog f (.c (.p 0 K.ab 0) :: args) (wrM K W u a c o m h) D (WrP K W o' m' h')) :
    FnS Tryz.prog f (.c (.p ib K.ab 0) :: args) (wrG ib im K W u a c o m h) D (WrG ib im K W o' m' h') :=
  hf.same rfl (wr_same ib im K W u a c o m h) fun v L1 D1 ⟨u', a', c', h0, h1, h2, h3⟩ => ⟨_, h2 ▸ wr_same ib im K W u' a' c' o' m' h', u', a', c', h0, h1, rfl, h3⟩
def misC (ms : List (Int × List UInt8)) : List C := ms.flatMap ttW
def misF (a : Option Addr) (ms : List (Int × List UInt8)) : Fact := slFact 23 2 a ms.length (misC ms)
theorem misC_get {ms : List (Int × List UInt8)} {i : Nat} (h : i < ms.length) {o k : Nat} (hk : o + k ≤ 2) : ((misC ms).drop (i * 2 + o)).take k = ((ttW ms[i]).drop o).take k := flat_get (F := ttW) (z := 2) (fun _ => rfl) h hk
def misP (ms : List (Int × List UInt8)) (t : Int × List UInt8) : Bool := decide (t ∈ ms)
theorem repC_ints (n : Nat) : repC n [.i .i64 0] = (List.replicate n (0 : Int)).map (C.i .i64) := by
  induction n with
  | zero => rfl
  | succ n ih => rw [repC, ih]; rfl
theorem setC_ints {ns : List Int} {k : Nat} (h : k < ns.length) (v : Int) : setC (k * 1 + 0) [.i .i64 v] (ns.map (C.i .i64)) = (ns.set k v).map (C.i .i64) := by
  have key : ∀ (ns : List Int) (k : Nat), k < ns.length → setC k [.i .i64 v] (ns.map (C.i .i64)) = (ns.set k v).map (C.i .i64) := by
    intro ns
    induction ns with
    | nil => intro k h; simp at h
    | cons x r ih =>
      intro k h
      cases k with
      | zero => simp [setC]
      | succ k =>
        have := ih k (by simpa using h)
        simp only [setC, List.map_cons, List.set_cons_succ] at this ⊢
        rw [← this]
        simp
  rw [show k * 1 + 0 = k by omega]
  exact key ns k h
set_option maxHeartbeats 8000000 in
theorem render_ok (bs : List Blk) (hb : blkBulk bs ≤ 1048576) (hq : blkNodes bs * blkBulk bs ≤ 1000000000) (hf : blkFit bs) (ms : List (Int × List UInt8)) (hml : ms.length ≤ 100000000) (ba ma : Option Addr) (bc mc : Nat) :
    FnS Tryz.prog 20 [.c (.sl ba bs.length bc), .c (.sl ma ms.length mc)] [] [blkF ba bs, misF ma ms, tabF, gInt 0] (Is (.c (.s (renT (misP ms) bs)))) := by
  have hbl := blkNodes_len bs
  have hbk := blkNodes_bulk bs
  have hmn := blkMarks_nodes bs
  have c1 := contents_ok bs (by omega) ba bc
  have c2 := marksAll_ok _ bs rfl ba bc (by omega)
  have c3 := notes_ok bs (by omega) ba bc
  have hdn := docNotes bs
  have hdc := docConts bs hf (by omega)
  refine fn_of_J Tryz.tyOK 0 Tryz.func20 (by kernel_rfl) (c := Tryz.f20.body.getD .skip) (by kernel_rfl) Tryz.ntmps20 (rs := Tryz.f20.results.toList) rfl (by simp) (fun G => ?_)
  repeat' first
    | refine J_seq ?_ | refine J_region Tryz.tyOK ?_ | refine J_block ?_ | refine J_cond ?_ | refine J_ret ?_ | refine J_skip ?_ | refine J_exit ?_ | refine J_scope ?_
    | refine CondP.yes (by omega) ?_ | refine CondP.no (by omega) ?_ | refine CondP.mk (fun h => ?_) (fun h => ?_) | refine EqP.mk rfl ?_ | refine NewP.mk (fun ad => ?_) | refine ArP.exact (by simp only [inR]; omega) ?_ | refine SideP.mk (by first | omega | (dsimp only; omega) | (simp; omega)) ?_
    | (refine CallP.mk [] _ [blkF ba bs, tabF] _ c1 (List.Perm.refl _) (fun _ h => ⟨h.1, h.2.2.1, trivial⟩) (fun v L' D' hp => ?_); obtain ⟨ea, ec, rfl, rfl, rfl⟩ := hp) | (refine CallP.mk [] _ [blkF ba bs] _ c2 (List.Perm.refl _) (fun _ h => ⟨h.2.1, trivial⟩) (fun v L' D' hp => ?_); obtain ⟨ka, kc, es', hle, rfl, rfl, rfl⟩ := hp; have hle2 := era_len hle)
    | fail
  rename_i adM adN
  obtain ⟨adB, hadB⟩ : ∃ y, y = ad := ⟨_, rfl⟩
  subst hadB
  obtain ⟨M, hM⟩ : ∃ y, y = (blkMarks bs).length := ⟨_, rfl⟩
  rw [← hM] at hle2 hmn hdn
  refine J_loop (α := Nat × List ((Int × List UInt8) × V)) (fun x => [(0, .c (.sl ba bs.length bc)), (5, .c (.p 1 adB 0)), (22, .c (.sl ma ms.length mc)), (23, lenV ms.length), (24, .c (.i .i64 x.1))])
    (fun x => [.box 1 adB 87 [.raw (.pointer none), .sl none 0 0, .m 0 adM, .sl (some ⟨adN, 0, none⟩) M M, .i .i64 0, .sl ea (contT bs).length ec, .i .i64 0], .row 3 1 (some ⟨adN, 0, none⟩) M M ((List.replicate M (0 : Int)).map (C.i .i64)), .obj 0 adM (gO (aggV ttW) x.2)]) (fun _ => [entF ea (contT bs), blkF ba bs, misF ma ms, tabF, gInt 0]) 2
    (fun x => x.1 ≤ ms.length ∧ ∀ t, gGet x.2 t = if t ∈ ms.take x.1 then some (constV (Value.bool true)) else none) (fun x => ms.length - x.1)
    (InFam.mk (0, []) ⟨Nat.zero_le _, fun t => by simp [gGet]⟩ (by repeat' first | exact SubE.nil | refine SubE.cons rfl ?_ ?_ | exact VEq.refl _ | refine VEq.int (by omega) | refine VEq.sl rfl (by first | rfl | omega | (rw [List.length_append]; rfl) | (simp; omega)) rfl) ((Ents.of (by rw [Int.toNat_natCast, hle2, repC_ints]; rfl)).trans (Ents.facts fun _ h => ⟨h.2.1, h.2.2⟩))) (fun x hx => ?_)
  obtain ⟨i, kv⟩ := x
  obtain ⟨hi, hkv⟩ := hx
  dsimp only at hi hkv ⊢
  by_cases hlt : i < ms.length
  · have hcg : ((misC ms).drop (i * 2 + 0)).take 2 = ttW ms[i] := misC_get (o := 0) (k := 2) hlt (by omega)
    have hrd : ∀ L, Reads L [entF ea (contT bs), blkF ba bs, misF ma ms, tabF, gInt 0] 23 2 ma ms.length (misC ms) := fun _ => .inr fun m hm => hm.2.2.1
    have hkv2 : ∀ t, gGet (gPut kv ms[i] (constV (Value.bool true))) t = if t ∈ ms.take (i + 1) then some (constV (Value.bool true)) else none := fun t => by
      have hmt : t ∈ ms.take (i + 1) ↔ t ∈ ms.take i ∨ t = ms[i] := by rw [List.take_succ_eq_append_getElem hlt, List.mem_append, List.mem_singleton]
      rw [gGet_put1, hkv]
      by_cases ht : t = ms[i]
      · rw [if_pos ht, if_pos (hmt.2 (.inr ht))]
      · rw [if_neg ht]
        by_cases h2 : t ∈ ms.take i
        · rw [if_pos h2, if_pos (hmt.2 (.inl h2))]
        · rw [if_neg h2, if_neg (fun hc => (hmt.1 hc).elim h2 ht)]
    clear c1 c2 c3 hdn hdc hkv
    generalize ms[i] = q at *
    obtain ⟨sp, nm⟩ := q
    unfold ttW at hcg
    repeat' first
      | refine J_seq ?_ | refine J_region Tryz.tyOK ?_ | refine J_block ?_ | refine J_cond ?_ | refine J_ret ?_ | refine J_skip ?_ | refine J_exit ?_ | refine J_scope ?_
      | refine CondP.yes (by omega) ?_ | refine CondP.no (by omega) ?_ | refine CondP.mk (fun h => ?_) (fun h => ?_) | refine EqP.mk rfl ?_ | refine NewP.mk (fun ad => ?_) | refine ArP.exact (by simp only [inR]; omega) ?_ | refine SideP.mk (by first | omega | (dsimp only; omega) | (simp; omega)) ?_
      | refine J_drawU (id := 5) Tryz.tyOK (by kernel_rfl) [0, 1, 3, 7, 0, 31] (.leaf [0, 1, 2, 3, 4, 5]) [5] [5, 7] 5 false (by kernel_rfl) ?_ | refine TwoP.mk ?_ ?_ | refine GoP.mk (by repeat (first | exact keepC_sub _ _ _ | exact List.Sublist.slnil | refine List.Sublist.cons_cons _ ?_ | refine List.Sublist.cons _ ?_)) (by first | exact fun _ h => h | exact fun _ h => h.2 | exact fun _ h => ((allD_append _ _).1 h).2) ?_ | exact trivial | refine EntP.mk (Ents.ofSub (by repeat (first | exact keepC_sub _ _ _ | exact List.Sublist.slnil | refine List.Sublist.cons_cons _ ?_ | refine List.Sublist.cons _ ?_)) (by first | exact fun _ h => h | exact fun _ _ => trivial | exact fun _ h => h.2 | exact fun _ h => h.2.2.2.2 | exact fun _ h => h.2.2 | exact fun _ h => h.2.2.2 | exact fun _ h => h.2.2.2.2.2 | exact fun _ h => h.2.2.2.2.2.2 | exact fun _ h => h.2.2.2.2.2.2.2 | exact fun _ h => h.2.2.2.2.2.2.2.2 | exact fun _ h => h.2.2.2.2.2.2.2.2.2 | exact fun _ h => h.2.2.2.2.2.2.2.2.2.2 | exact fun _ h => ((allD_append _ _).1 h).2)) ?_ | refine IdxE.mk 23 2 _ (hrd _) (by omega) (by omega) ?_ | refine LoadE.mk 23 ms.length _ _ (hrd _) (by omega) (by omega) (by decide) (by exact hcg) ?_ | refine UpdG.mk _ inferInstance ttW kv (sp, nm) rfl rfl rfl ttKey ?_
      | fail
    exact Round.mk (i + 1, gPut kv (sp, nm) (constV (Value.bool true))) (by dsimp only; omega) ⟨by dsimp only; omega, hkv2⟩ (by repeat' first | exact SubE.nil | refine SubE.cons rfl ?_ ?_ | exact VEq.refl _ | refine VEq.int (by omega)) (Ents.sub ⟨[_], List.Perm.refl _⟩)
  have hil : i = ms.length := by omega
  subst hil
  rw [List.take_length] at hkv
  repeat' first
    | refine J_seq ?_ | refine J_region Tryz.tyOK ?_ | refine J_block ?_ | refine J_cond ?_ | refine J_ret ?_ | refine J_skip ?_ | refine J_exit ?_ | refine J_scope ?_
    | refine CondP.yes (by omega) ?_ | refine CondP.no (by omega) ?_ | refine CondP.mk (fun h => ?_) (fun h => ?_) | refine EqP.mk rfl ?_ | refine NewP.mk (fun ad => ?_) | refine ArP.exact (by simp only [inR]; omega) ?_ | refine SideP.mk (by first | omega | (dsimp only; omega) | (simp; omega)) ?_
    | (refine CallP.mk [] _ [blkF ba bs] _ c3 (List.Perm.refl _) (fun _ h => ⟨h.2.1, trivial⟩) (fun v L' D' hp => ?_); obtain ⟨na, nc, ns, hps, rfl, rfl, rfl⟩ := hp)
    | fail
  have hnsl : ns.length = (notesP (inlEra (blkMarks bs))).length := by rw [← hps]; simp
  have hnM : ns.length ≤ M := by rw [hnsl]; exact hdn.1
  have hun : ∀ n ∈ ns, inlBulk n.inl ≤ blkBulk bs ∧ n.uses.length ≤ M ∧ ∀ k ∈ n.uses, 1 ≤ k ∧ k ≤ M := fun n hn => by
    have := hdn.2 n.pure (by rw [← hps]; exact List.mem_map_of_mem hn)
    rw [show n.pure.inl = inlEra n.inl from rfl, inlEra_bulk] at this
    exact this
  refine J_loop (α := Nat × List Int) (fun x => [(0, .c (.sl ba bs.length bc)), (5, .c (.p 1 adB 0)), (8, .c (.sl na ns.length nc)), (36, .c (.sl na ns.length nc)), (37, lenV ns.length), (38, .c (.i .i64 x.1))])
    (fun x => [.box 1 adB 87 [.raw (.pointer none), .sl none 0 0, .m 0 adM, .sl (some ⟨adN, 0, none⟩) M M, .i .i64 0, .sl ea (contT bs).length ec, .i .i64 0], .row 3 1 (some ⟨adN, 0, none⟩) M M (x.2.map (C.i .i64)), .obj 0 adM (gO (aggV ttW) kv)]) (fun _ => [notesF na ns, entF ea (contT bs), blkF ba bs, misF ma ms, tabF, gInt 0]) 2
    (fun x => x.1 ≤ ns.length ∧ x.2 = numsFrom 0 ((pureN ns).take x.1) (List.replicate M 0)) (fun x => ns.length - x.1)
    (InFam.mk (0, List.replicate M 0) ⟨Nat.zero_le _, by simp [numsFrom]⟩ (by repeat' first | exact SubE.nil | refine SubE.cons rfl ?_ ?_ | exact VEq.refl _ | refine VEq.int (by omega) | refine VEq.sl rfl (by first | rfl | omega | (rw [List.length_append]; rfl) | (simp; omega)) rfl) (Ents.refl _ _)) (fun x hx => ?_)
  obtain ⟨i, vs⟩ := x
  obtain ⟨hi, hvs⟩ := hx
  dsimp only at hi hvs ⊢
  have hpl : (pureN ns).length = ns.length := by simp
  by_cases hlt : i < ns.length
  · have hst := numsFrom_succ (ps := pureN ns) (i := i) (List.replicate M 0) (by omega)
    have hgp : ((pureN ns)[i]'(by omega)).uses = ns[i].uses := by simp [NoM.pure]
    rw [hgp, ← hvs] at hst
    have hvl : vs.length = M := by rw [hvs, numsFrom_len, List.length_replicate]
    have hcg : ((noC ns).drop (i * 3 + 0)).take 3 = ns[i].cells := noC_get (o := 0) (k := 3) hlt (by omega)
    have hrd : ∀ L, Reads L [notesF na ns, entF ea (contT bs), blkF ba bs, misF ma ms, tabF, gInt 0] 89 3 na ns.length (noC ns) := fun _ => .inr fun m hm => hm.1.1
    have hru : ∀ L, Reads L [notesF na ns, entF ea (contT bs), blkF ba bs, misF ma ms, tabF, gInt 0] 3 1 ns[i].ua ns[i].uses.length (ns[i].uses.map (C.i .i64)) := fun _ => .inr fun m hm => (hm.1.2 ns[i] (List.getElem_mem hlt)).2
    have hev1 := hun ns[i] (List.getElem_mem hlt)
    clear c1 c2 c3 hdn hdc hkv hgp hun hvs
    generalize ns[i] = n at *
    unfold NoM.cells at hcg
    repeat' first
      | refine J_seq ?_ | refine J_region Tryz.tyOK ?_ | refine J_block ?_ | refine J_cond ?_ | refine J_ret ?_ | refine J_skip ?_ | refine J_exit ?_ | refine J_scope ?_
      | refine CondP.yes (by omega) ?_ | refine CondP.no (by omega) ?_ | refine CondP.mk (fun h => ?_) (fun h => ?_) | refine EqP.mk rfl ?_ | refine NewP.mk (fun ad => ?_) | refine ArP.exact (by simp only [inR]; omega) ?_ | refine SideP.mk (by first | omega | (dsimp only; omega) | (simp; omega)) ?_
      | refine IdxE.mk 89 3 _ (hrd _) (by omega) (by omega) ?_ | refine LoadE.mk 89 ns.length _ _ (hrd _) (by omega) (by omega) (by decide) (by exact hcg) ?_
      | fail
    have hrt : ∀ (j : Nat) (hj : j < n.uses.length), ((n.uses.map (C.i .i64)).drop (j * 1 + 0)).take 1 = [.i .i64 n.uses[j]] := fun j hj => by
      rw [show j * 1 + 0 = j by omega, ← List.map_drop, ← List.map_take, List.drop_eq_getElem_cons hj]; rfl
    refine J_loop (α := Nat × List Int) (fun x => [(0, .c (.sl ba bs.length bc)), (5, .c (.p 1 adB 0)), (8, .c (.sl na ns.length nc)), (9, .c (.i .i64 i)), (36, .c (.sl na ns.length nc)), (37, lenV ns.length), (38, .c (.i .i64 i)), (44, .c (.sl n.ua n.uses.length n.uc)), (45, lenV n.uses.length), (46, .c (.i .i64 x.1))])
      (fun x => [.box 1 adB 87 [.raw (.pointer none), .sl none 0 0, .m 0 adM, .sl (some ⟨adN, 0, none⟩) M M, .i .i64 0, .sl ea (contT bs).length ec, .i .i64 0], .row 3 1 (some ⟨adN, 0, none⟩) M M (x.2.map (C.i .i64)), .obj 0 adM (gO (aggV ttW) kv)]) (fun _ => [notesF na ns, entF ea (contT bs), blkF ba bs, misF ma ms, tabF, gInt 0]) 3
      (fun x => x.1 ≤ n.uses.length ∧ x.2 = setU i vs (n.uses.take x.1)) (fun x => n.uses.length - x.1)
      (InFam.mk (0, vs) ⟨Nat.zero_le _, by simp [setU]⟩ (by repeat' first | exact SubE.nil | refine SubE.cons rfl ?_ ?_ | exact VEq.refl _ | refine VEq.int (by omega) | refine VEq.sl rfl (by first | rfl | omega | (rw [List.length_append]; rfl) | (simp; omega)) rfl) (by dsimp only; exact Ents.sub ⟨[_], List.Perm.refl _⟩)) (fun x hx => ?_)
    obtain ⟨j, us⟩ := x
    obtain ⟨hj, hus⟩ := hx
    dsimp only at hj hus ⊢
    by_cases hjl : j < n.uses.length
    · have hsu := setU_succ i vs hjl
      rw [← hus] at hsu
      have hgu := hrt j hjl
      have huv := hev1.2.2 n.uses[j] (List.getElem_mem hjl)
      have hul : us.length = M := by rw [hus, setU_len, hvl]
      clear hus
      generalize n.uses[j] = k at *
      have hsc := setC_ints (ns := us) (k := (k - 1).toNat) (by omega) ((i : Int) + 1)
      repeat' first
        | refine J_seq ?_ | refine J_region Tryz.tyOK ?_ | refine J_block ?_ | refine J_cond ?_ | refine J_ret ?_ | refine J_skip ?_ | refine J_exit ?_ | refine J_scope ?_
        | refine CondP.yes (by omega) ?_ | refine CondP.no (by omega) ?_ | refine CondP.mk (fun h => ?_) (fun h => ?_) | refine EqP.mk rfl ?_ | refine NewP.mk (fun ad => ?_) | refine ArP.exact (by simp only [inR]; omega) ?_ | refine SideP.mk (by first | omega | (dsimp only; omega) | (simp; omega)) ?_
        | refine IdxE.mk 3 1 _ (hru _) (by omega) (by omega) ?_ | refine LoadE.mk 3 n.uses.length _ _ (hru _) (by omega) (by omega) (by decide) (by exact hgu) ?_ | refine IdxE.mk 3 1 _ (.inl ⟨_, List.Mem.tail _ (List.Mem.head _)⟩) (by omega) (by omega) ?_ | refine StoreE.mk [_] _ _ _ _ _ ((us.set (k - 1).toNat ((i : Int) + 1)).map (C.i .i64)) rfl (by omega) (by omega) (Nat.le_refl 1) (by exact hsc) ?_
        | fail
      exact Round.mk (j + 1, us.set (k - 1).toNat ((i : Int) + 1)) (by dsimp only; omega) ⟨by dsimp only; omega, by dsimp only; rw [hsu]⟩ (by repeat' first | exact SubE.nil | refine SubE.cons rfl ?_ ?_ | exact VEq.refl _ | refine VEq.int (by omega)) (Ents.refl _ _)
    · have hje : j = n.uses.length := by omega
      subst hje
      rw [List.take_length] at hus
      repeat' first
        | refine J_seq ?_ | refine J_region Tryz.tyOK ?_ | refine J_block ?_ | refine J_cond ?_ | refine J_ret ?_ | refine J_skip ?_ | refine J_exit ?_ | refine J_scope ?_
        | refine CondP.yes (by omega) ?_ | refine CondP.no (by omega) ?_ | refine CondP.mk (fun h => ?_) (fun h => ?_) | refine EqP.mk rfl ?_ | refine NewP.mk (fun ad => ?_) | refine ArP.exact (by simp only [inR]; omega) ?_ | refine SideP.mk (by first | omega | (dsimp only; omega) | (simp; omega)) ?_
        | fail
      exact Round.mk (i + 1, us) (by dsimp only; omega) ⟨by dsimp only; omega, by dsimp only; rw [hus, hst]⟩ (by repeat' first | exact SubE.nil | refine SubE.cons rfl ?_ ?_ | exact VEq.refl _ | refine VEq.int (by omega)) (Ents.refl _ _)
  have hil : i = ns.length := by omega
  subst hil
  rw [List.take_of_length_le (by omega), hps] at hvs
  obtain ⟨W, hW⟩ : ∃ W, W = docW (misP ms) bs := ⟨_, rfl⟩
  have hWn : W.ns = vs := by rw [hW, hvs, hM]; rfl
  have hWl : W.ns.length = M := by rw [hW, hM]; exact numsT_len _ _
  have hWa : W.an = ancs (contT bs) := by rw [hW]; rfl
  have hWb : ∀ j ∈ W.ns, 0 ≤ j ∧ j ≤ 100000000 := by rw [hW]; exact numsT_b _ _ (by omega)
  obtain ⟨K, hK⟩ : ∃ K : WrK, K = ⟨adB, adM, some ⟨adN, 0, none⟩, M, ea, ec, (contT bs).length, kv⟩ := ⟨_, rfl⟩
  have hOk : WrOk K W := ⟨fun t => by
    rw [hK, hW]
    show gGet kv t = if misP ms t = true then _ else none
    rw [hkv]; simp only [misP, decide_eq_true_eq], hWb, by omega⟩
  have hT1 : ∀ e ∈ contT bs, (entT e).length ≤ 46 * blkBulk bs + 300 := fun e he => by
    obtain ⟨e1, e2, e3, e4⟩ := hdc.2 e he
    have := entT_le e1 e2 e3 e4
    omega
  have hNB : ∀ x y : Nat, x ≤ 1000 → y ≤ 1000 → blkNodes bs * (x * blkBulk bs + y) ≤ 1000000000000 + 2000000000 := fun x y hx hy => by
    rw [Nat.mul_add, Nat.mul_left_comm]
    have h1 : x * (blkNodes bs * blkBulk bs) ≤ 1000 * 1000000000 := Nat.mul_le_mul hx hq
    have h2 : blkNodes bs * y ≤ 1048576 * 1000 := Nat.mul_le_mul (by omega) hy
    omega
  have hTT1 : (contT bs).length * (46 * blkBulk bs + 300) ≤ 2000000000000 := by
    have := Nat.mul_le_mul_right (46 * blkBulk bs + 300) (Nat.le_trans hdc.1 hbl)
    have := hNB 46 300 (by omega) (by omega)
    omega
  have hcl := contsT_le hT1
  have hA := hId_le W (contT bs) hWa (3 * blkBulk bs + 22) (fun e he => (hdc.2 e he).2.2.2)
  have hdA : hdsN bs * (6 * (3 * blkBulk bs + 22) + 20) ≤ 2000000000000 := by
    have h1 := Nat.mul_le_mul_right (6 * (3 * blkBulk bs + 22) + 20) (Nat.le_trans (hdsN_le bs) hbl)
    have h2 := hNB 18 152 (by omega) (by omega)
    rw [show 6 * (3 * blkBulk bs + 22) + 20 = 18 * blkBulk bs + 152 by omega] at h1 ⊢
    omega
  have hrl := blksRen_le W hWb _ hA true 0 0 bs (by omega)
  rw [if_pos rfl] at hrl
  have hT2 : ∀ n ∈ ns, 600 * inlBulk n.inl + 60 * n.uses.length + 60 ≤ 660 * blkBulk bs + 60 := fun n hn => by
    have := hun n hn
    omega
  have hTT2 : ns.length * (660 * blkBulk bs + 60) ≤ 2000000000000 := by
    have h1 := Nat.mul_le_mul_right (660 * blkBulk bs + 60) (show ns.length ≤ blkNodes bs by omega)
    have h2 := hNB 660 60 (by omega) (by omega)
    omega
  have hen : K.en = (contT bs).length := by rw [hK]
  have hch := contT_hds bs
  have s1 := fun u a c (hi : BxI u a c []) => wr_ids 1 0 (args := []) (wconts_ok K W (contT bs) hen (fun e he => by obtain ⟨e1, e2, e3, e4⟩ := hdc.2 e he; exact ⟨e1, by omega, by omega, by omega⟩) _ hT1 (by omega) (by omega) u a c [] 0 0 hi (by simp))
  have s2 := fun u a c (hi : BxI u a c ([] ++ contsT (contT bs))) => wr_ids 1 0 (args := [_, _]) (blocks_ok K W hOk (contT bs) hen hWa _ hA (by omega) (fun e he => by have := (hdc.2 e he).2.2.2; omega) _ bs rfl ba bc true 0 u a c ([] ++ contsT (contT bs)) 0 hi (by omega) (by omega) (by rw [hWl, hM]; omega) (fun _ => by omega) (by rw [if_pos rfl]; simp only [List.nil_append]; omega))
  have s3 := fun u a c (hi : BxI u a c ([] ++ contsT (contT bs) ++ blksRen W true 0 0 bs)) => wr_ids 1 0 (args := [_]) (wlist_ok K W hOk ns (fun n hn => by have := hun n hn; exact ⟨by omega, by omega, fun k hk => by have := this.2.2 k hk; omega⟩) _ hT2 (by omega) (by omega) na nc u a c ([] ++ contsT (contT bs) ++ blksRen W true 0 0 bs) (0 + (blkMarks bs).length) (hUp true 0 (hdsN bs)) hi (by simp only [List.length_append, List.nil_append]; omega) (by omega))
  have hKa : K.ab = adB := by rw [hK]
  rw [hKa] at s1 s2 s3
  have hre : renT (misP ms) bs = [] ++ contsT (contT bs) ++ blksRen W true 0 0 bs ++ listT W (pureN ns) := by rw [hps, hW]; rfl
  rw [hre]
  refine J_mem (L' := wrG 1 0 K W false none 0 [] 0 0) (D' := [notesF na ns, entF K.ea (contT bs), blkF ba bs, noteF K W, tabF, gInt 0]) (n' := 2) ?_ ?_
  · rw [hK]
    unfold wrG bx
    dsimp only
    rw [hWl]
    refine (Ents.perm (List.Perm.swap _ _ _)).trans (Ents.toFact.trans ((Ents.nilRow (ety := 5) (esz := 1)).trans ((Ents.perm (List.Perm.swap _ _ _)).trans (Ents.facts fun m h => ?_))))
    refine ⟨h.2.1, h.2.2.1, h.2.2.2.1, ?_, h.2.2.2.2.2.1, h.2.2.2.2.2.2⟩
    have := h.1
    unfold noteF
    rw [hWl, hWn]
    exact this
  clear hkv hun hdn hdc hT1 hT2 hNB hre c1 c2 c3
  generalize contsT (contT bs) = S1 at *
  generalize blksRen W true 0 0 bs = S2 at *
  generalize listT W (pureN ns) = S3 at *
  repeat' first
    | refine J_seq ?_ | refine J_region Tryz.tyOK ?_ | refine J_block ?_ | refine J_cond ?_ | refine J_ret ?_ | refine J_skip ?_ | refine J_exit ?_ | refine J_scope ?_
    | refine CondP.yes (by omega) ?_ | refine CondP.no (by omega) ?_ | refine CondP.mk (fun h => ?_) (fun h => ?_) | refine EqP.mk rfl ?_ | refine NewP.mk (fun ad => ?_) | refine ArP.exact (by simp only [inR]; omega) ?_ | refine SideP.mk (by first | omega | (dsimp only; omega) | (simp; omega)) ?_
    | (refine CallP.mk _ [] [entF K.ea (contT bs), tabF] _ (s1 _ _ _ bxI0) (List.Perm.refl _) (fun _ h => ⟨h.2.1, h.2.2.2.2.1, trivial⟩) (fun v L' D' hp => ?_); obtain ⟨u1, a1, c1, hi1, rfl, rfl, rfl⟩ := hp) | (refine CallP.mk _ [] [blkF ba bs, entF K.ea (contT bs), noteF K W, tabF, gInt 0] _ (s2 _ _ _ hi1) (List.Perm.refl _) (fun _ h => ⟨h.2.2.1, h.2.1, h.2.2.2⟩) (fun v L' D' hp => ?_); obtain ⟨u2, a2, c2, hi2, rfl, rfl, rfl⟩ := hp) | (refine CallP.mk _ [] [notesF na ns, noteF K W, tabF, gInt 0] _ (s3 _ _ _ hi2) (List.Perm.refl _) (fun _ h => ⟨h.1, h.2.2.2⟩) (fun v L' D' hp => ?_); obtain ⟨u3, a3, c3, hi3, rfl, rfl, rfl⟩ := hp; unfold wrG; rw [hKa]) | (refine CallP.mk _ [_] [] _ (bxText_ok _ _ _ _ _ _ _ _ hi3) (List.Perm.refl _) (fun _ _ => trivial) (fun v L' D' hp => ?_); obtain ⟨rfl, rfl, rfl⟩ := hp) | exact FinE.mk [] [] ⟨rfl, rfl, rfl⟩ (Ents.dropAll.trans (Ents.facts fun _ _ => trivial))
    | fail
  all_goals trace_state
end Go.Proofs
namespace Go.Proofs.YtdnkeinjfddmnaaGreatDoor
open Go Go.X Go.Proofs Go.Lib
set_option maxRecDepth 100000
theorem tab_type : (Tryz.prog.globals[3]?).map (·.type) = some 239 := by kernel_rfl
theorem tab_fact {W : World} {laid : List (String × DataW Unit)} (h : laidMetH Tryz.prog laid W) (hin : (laid.filter fun x => x.1 == "internal/strconv.uint64pow10") = [("internal/strconv.uint64pow10", tabData .u64 pow10Tab)]) : tabF.p (fun b => W.heap[b]?) := by
  have h1 := h.filter fun x => x.1 == "internal/strconv.uint64pow10"
  rw [hin] at h1
  have h2 : laidMet Tryz.prog [("internal/strconv.uint64pow10", tabData .u64 pow10Tab)] W := h1
  have h3 := tabIs_of_head pow10_named tab_type Tryz.underlying239 Tryz.underlying184 (cellsOf_ty (okTy (t := 184) rfl)) (cellsOf_ty (okTy (t := 239) rfl)) h2
  unfold TabIs at h3
  unfold World.var? at h3
  rw [pow10_named] at h3
  simp only [Option.bind_some] at h3
  split at h3
  · rename_i c t0 fr hb
    simp only [Option.some.injEq] at h3
    subst h3
    exact ⟨t0, fr, hb⟩
  · cases h3
end Go.Proofs.YtdnkeinjfddmnaaGreatDoor
namespace Go.Proofs
open Go Go.X
set_option maxRecDepth 100000
def txC (s : List UInt8) : List C := [.i .i64 1, .s s, .i .i64 0, .s [], .s [], .sl none 0 0]
def pgC (ia : Option Addr) (ic : Nat) : List C := [.i .i64 2, .i .i64 0, .s [], .sl ia 1 ic, .sl none 0 0]
def txF (ia : Option Addr) (s : List UInt8) : Fact := slFact 102 6 ia 1 (txC s)
def pgF (ba ia : Option Addr) (ic : Nat) : Fact := slFact 81 5 ba 1 (pgC ia ic)
theorem readsNil {L : List Chunk} {D : List Fact} {e z : Nat} {a : Option Addr} : Reads L D e z a 0 [] := .inr fun _ _ => ⟨(fun x hx => by cases hx), .inl ⟨rfl, rfl⟩⟩
theorem marksOne (ia : Option Addr) (ic : Nat) (s : List UInt8) : FnS Tryz.prog 84 [.c (.sl ia 1 ic)] [] [txF ia s] (Is (.c (.sl none 0 0))) := by
  have hr : ∀ L, Reads L [txF ia s] 102 6 ia 1 (txC s) := fun _ => .inr fun _ h => h.1
  refine fn_of_J Tryz.tyOK 0 Tryz.func84 (by kernel_rfl) (c := Tryz.f84.body.getD .skip) (by kernel_rfl) Tryz.ntmps84 (rs := Tryz.f84.results.toList) rfl (by simp) (fun G => ?_)
  repeat' first
    | refine CondP.yes (by decide) ?_ | refine CondP.no (by decide) ?_
    | refine J_seq ?_ | refine J_region Tryz.tyOK ?_ | refine J_block ?_ | refine J_cond ?_ | refine J_ret ?_ | refine J_skip ?_ | refine J_exit ?_ | refine J_scope ?_
    | refine CondP.yes (by omega) ?_ | refine CondP.no (by omega) ?_ | refine CondP.mk (fun h => ?_) (fun h => ?_) | refine EqP.mk rfl ?_ | refine NewP.mk (fun ad => ?_) | refine ArP.exact (by simp only [inR]; omega) ?_ | refine SideP.mk (by first | omega | (dsimp only; omega) | (simp; omega)) ?_
    | refine J_rounds 2 ?_ | refine JR_succ ?_ | refine IdxE.mk 102 6 _ (hr _) (by decide) (by decide) ?_ | refine LoadE.mk 102 1 _ _ (hr _) (by decide) (by decide) (by decide) rfl ?_ | exact FinE.mk [] [] ⟨rfl, rfl, rfl⟩ (Ents.dropAll.trans (Ents.facts fun _ _ => trivial))
    | fail
  all_goals trace_state
theorem marksNone (c : Nat) : FnS Tryz.prog 50 [.c (.sl none 0 c)] [] [] (Is (.c (.sl none 0 0))) := by
  refine fn_of_J Tryz.tyOK 0 Tryz.func50 (by kernel_rfl) (c := Tryz.f50.body.getD .skip) (by kernel_rfl) Tryz.ntmps50 (rs := Tryz.f50.results.toList) rfl (by simp) (fun G => ?_)
  repeat' first
    | refine CondP.yes (by decide) ?_ | refine CondP.no (by decide) ?_
    | refine J_seq ?_ | refine J_region Tryz.tyOK ?_ | refine J_block ?_ | refine J_cond ?_ | refine J_ret ?_ | refine J_skip ?_ | refine J_exit ?_ | refine J_scope ?_
    | refine CondP.yes (by omega) ?_ | refine CondP.no (by omega) ?_ | refine CondP.mk (fun h => ?_) (fun h => ?_) | refine EqP.mk rfl ?_ | refine NewP.mk (fun ad => ?_) | refine ArP.exact (by simp only [inR]; omega) ?_ | refine SideP.mk (by first | omega | (dsimp only; omega) | (simp; omega)) ?_
    | refine J_rounds 1 ?_ | refine JR_succ ?_ | exact FinE.mk [] [] ⟨rfl, rfl, rfl⟩ (Ents.refl _ _)
    | fail
  all_goals trace_state
def EmptyP : V → List Chunk → List Fact → Prop := fun v L D => ∃ a c, v = .c (.sl a 0 c) ∧ L = [] ∧ D = []
theorem marksPara (ba ia : Option Addr) (bc ic : Nat) (s : List UInt8) : FnS Tryz.prog 50 [.c (.sl ba 1 bc)] [] [pgF ba ia ic, txF ia s] EmptyP := by
  have hr : ∀ L, Reads L [pgF ba ia ic, txF ia s] 81 5 ba 1 (pgC ia ic) := fun _ => .inr fun _ h => h.1
  refine fn_of_J Tryz.tyOK 0 Tryz.func50 (by kernel_rfl) (c := Tryz.f50.body.getD .skip) (by kernel_rfl) Tryz.ntmps50 (rs := Tryz.f50.results.toList) rfl (by simp) (fun G => ?_)
  repeat' first
    | refine CondP.yes (by decide) ?_ | refine CondP.no (by decide) ?_
    | refine J_seq ?_ | refine J_region Tryz.tyOK ?_ | refine J_block ?_ | refine J_cond ?_ | refine J_ret ?_ | refine J_skip ?_ | refine J_exit ?_ | refine J_scope ?_
    | refine CondP.yes (by omega) ?_ | refine CondP.no (by omega) ?_ | refine CondP.mk (fun h => ?_) (fun h => ?_) | refine EqP.mk rfl ?_ | refine NewP.mk (fun ad => ?_) | refine ArP.exact (by simp only [inR]; omega) ?_ | refine SideP.mk (by first | omega | (dsimp only; omega) | (simp; omega)) ?_
    | refine J_rounds 2 ?_ | refine JR_succ ?_ | refine IdxE.mk 81 5 _ (hr _) (by decide) (by decide) ?_ | refine LoadE.mk 81 1 _ _ (hr _) (by decide) (by decide) (by decide) rfl ?_ | refine CallP.is (marksOne ia ic s) ?_ (fun _ h => ⟨h.2.1, trivial⟩) | refine CallP.is (marksNone _) ?_ | refine AppE.nil [] 0 rfl rfl rfl (SrcE.sl 102 102 _ _ _ _ [] rfl rfl readsNil rfl) (by decide) (fun a' c' => ?_) | refine AppE.row [] _ [] [] 0 rfl (SrcE.sl 102 102 _ _ _ _ [] rfl rfl readsNil rfl) (by decide) (fun a' c' => ?_) | exact FinE.mk [] [] ⟨_, _, rfl, rfl, rfl⟩ (Ents.dropAll.trans (Ents.facts fun _ _ => trivial))
    | fail
  all_goals trace_state
theorem contentsPara (ba ia : Option Addr) (bc ic : Nat) (s : List UInt8) : FnS Tryz.prog 22 [.c (.sl ba 1 bc)] [] [pgF ba ia ic, txF ia s] (Is (.c (.sl none 0 0))) := by
  have hr : ∀ L, Reads L [pgF ba ia ic, txF ia s] 81 5 ba 1 (pgC ia ic) := fun _ => .inr fun _ h => h.1
  refine fn_of_J Tryz.tyOK 0 Tryz.func22 (by kernel_rfl) (c := Tryz.f22.body.getD .skip) (by kernel_rfl) Tryz.ntmps22 (rs := Tryz.f22.results.toList) rfl (by simp) (fun G => ?_)
  repeat' first
    | refine CondP.yes (by decide) ?_ | refine CondP.no (by decide) ?_
    | refine J_seq ?_ | refine J_region Tryz.tyOK ?_ | refine J_block ?_ | refine J_cond ?_ | refine J_ret ?_ | refine J_skip ?_ | refine J_exit ?_ | refine J_scope ?_
    | refine CondP.yes (by omega) ?_ | refine CondP.no (by omega) ?_ | refine CondP.mk (fun h => ?_) (fun h => ?_) | refine EqP.mk rfl ?_ | refine NewP.mk (fun ad => ?_) | refine ArP.exact (by simp only [inR]; omega) ?_ | refine SideP.mk (by first | omega | (dsimp only; omega) | (simp; omega)) ?_
    | refine J_rounds 2 ?_ | refine JR_succ ?_ | refine IdxE.mk 81 5 _ (hr _) (by decide) (by decide) ?_ | refine LoadE.mk 81 1 _ _ (hr _) (by decide) (by decide) (by decide) rfl ?_ | exact FinE.mk [] [] ⟨rfl, rfl, rfl⟩ (Ents.dropAll.trans (Ents.facts fun _ _ => trivial))
    | fail
  all_goals trace_state
theorem notesPara (ba ia : Option Addr) (bc ic : Nat) (s : List UInt8) : FnS Tryz.prog 24 [.c (.sl ba 1 bc)] [] [pgF ba ia ic, txF ia s] (Is (.c (.sl none 0 0))) := by
  have hm := marksPara ba ia bc ic s
  refine fn_of_J Tryz.tyOK 0 Tryz.func24 (by kernel_rfl) (c := Tryz.f24.body.getD .skip) (by kernel_rfl) Tryz.ntmps24 (rs := Tryz.f24.results.toList) rfl (by simp) (fun G => ?_)
  repeat' first
    | refine CondP.yes (by decide) ?_ | refine CondP.no (by decide) ?_
    | refine J_seq ?_ | refine J_region Tryz.tyOK ?_ | refine J_block ?_ | refine J_cond ?_ | refine J_ret ?_ | refine J_skip ?_ | refine J_exit ?_ | refine J_scope ?_
    | refine CondP.yes (by omega) ?_ | refine CondP.no (by omega) ?_ | refine CondP.mk (fun h => ?_) (fun h => ?_) | refine EqP.mk rfl ?_ | refine NewP.mk (fun ad => ?_) | refine ArP.exact (by simp only [inR]; omega) ?_ | refine SideP.mk (by first | omega | (dsimp only; omega) | (simp; omega)) ?_
    | refine J_rounds 1 ?_ | refine JR_succ ?_ | (refine CallP.mk [] _ _ _ hm (List.Perm.refl _) (fun _ h => h) (fun v L' D' hp => ?_); obtain ⟨a', c', rfl, rfl, rfl⟩ := hp) | exact FinE.mk [] [] ⟨rfl, rfl, rfl⟩ (Ents.dropAll.trans (Ents.facts fun _ _ => trivial))
    | fail
  all_goals trace_state
end Go.Proofs
namespace Go.Proofs
open Go Go.X
set_option maxRecDepth 100000
theorem callF {P : Program} {f : FuncId} {args : List V} {L : List Chunk} {D : List Fact} {K : V → List Chunk → List Fact → Prop} (L0 R : List Chunk) (D0 : List Fact) (post : V → List Chunk → List Fact → Prop) (h : FnS P f args L0 D0 post)
    (hp : L.Perm (L0 ++ R)) (hd : ∀ m, allD m D → allD m D0) (k : ∀ v L' D', post v L' D' → K v (R ++ L') (D' ++ D)) : CallP P f args L D K :=
  .mkO L0 R D0 D post h (fun _ _ hs => satW_perm hp hs) hd fun v L' D' hq => ⟨_, _, Ents.perm List.perm_append_comm, k v L' D' hq⟩
theorem bwMore0 (ab ty : Nat) (a : Option Addr) (c : Nat) (l : List UInt8) (s : List UInt8) (rest : List C) (h0 : l ≠ []) (hl : l.length + s.length ≤ 140737488355328) :
    FnS Tryz.prog 39 [.c (.p 0 ab 0), .c (.s s)] (bw 0 ab ty a c l rest) [] (BwPost (.t2 (.c (.i .i64 s.length)) (.c (.raw .nilIface))) 0 ab ty (l ++ s) rest) := by
  have hls : l ++ s ≠ [] := by simp [h0]
  rw [bw_cons _ _ _ _ _ _ h0]
  have c1 := oneCopyUsed ab ty (.sl a l.length c) rest
  refine fn_of_J Tryz.tyOK 7000 Tryz.func39 (by kernel_rfl) (c := Tryz.f39.body.getD .skip) (by kernel_rfl) Tryz.ntmps39 (rs := Tryz.f39.results.toList) rfl (by simp) (fun G => ?_)
  repeat' first
    | refine J_seq ?_ | refine J_region Tryz.tyOK ?_ | refine J_block ?_ | refine J_cond ?_ | refine J_ret ?_ | refine J_skip ?_ | refine J_exit ?_ | refine J_scope ?_
    | refine CondP.yes (by omega) ?_ | refine CondP.no (by omega) ?_ | refine CondP.mk (fun h => ?_) (fun h => ?_) | refine EqP.mk rfl ?_ | refine NewP.mk (fun ad => ?_) | refine ArP.exact (by simp only [inR]; omega) ?_ | refine SideP.mk (by first | omega | (dsimp only; omega) | (simp; omega)) ?_
    | refine CallP.mk [_] [_] [] _ c1 (List.Perm.refl _) (fun _ _ => trivial) (fun v L' D' hp => ?_); obtain ⟨rfl, rfl, rfl⟩ := hp | refine AppE.row [_] [] (l.map byteC) (s.map byteC) s.length rfl (SrcE.str _ s rfl rfl rfl) (by show (l.length + s.length) * 1 ≤ _; omega) (fun a' c' => ?_) | refine setK_s1 ?_ | refine FinE.mk (bw 0 ab ty a' c' (l ++ s) rest) [] ⟨a', c', rfl, rfl, rfl⟩ ?_
    | fail
  exact Ents.of (by rw [bw_cons _ _ _ _ _ _ hls, List.length_append, List.map_append]; rfl)
def wR (mi no : C) : List C := [mi, no, .i .i64 0, .sl none 0 0, .i .i64 0]
theorem inlineText (ab : Nat) (ia : Option Addr) (ic : Nat) (s : List UInt8) (hs : s.length ≤ 1000000) (a : Option Addr) (c : Nat) (l : List UInt8) (h0 : l ≠ []) (hl : l.length ≤ 1000000) (rest : List C) :
    FnS Tryz.prog 86 [.c (.p 0 ab 0), .c (.sl ia 1 ic), .c (.b true)] (bw 0 ab 87 a c l rest) [txF ia s] (BwPost .t0 0 ab 87 (l ++ escT s) rest) := by
  have hr : ∀ L, Reads L [txF ia s] 102 6 ia 1 (txC s) := fun _ => .inr fun _ h => h.1
  have hle := escT_le s
  have he := escape_ok s (by omega)
  refine fn_of_J Tryz.tyOK 7000 Tryz.func86 (by kernel_rfl) (c := Tryz.f86.body.getD .skip) (by kernel_rfl) Tryz.ntmps86 (rs := Tryz.f86.results.toList) rfl (by simp) (fun G => ?_)
  repeat' first
    | refine CondP.yes (by decide) ?_ | refine CondP.no (by decide) ?_
    | refine J_seq ?_ | refine J_region Tryz.tyOK ?_ | refine J_block ?_ | refine J_cond ?_ | refine J_ret ?_ | refine J_skip ?_ | refine J_exit ?_ | refine J_scope ?_
    | refine CondP.yes (by omega) ?_ | refine CondP.no (by omega) ?_ | refine CondP.mk (fun h => ?_) (fun h => ?_) | refine EqP.mk rfl ?_ | refine NewP.mk (fun ad => ?_) | refine ArP.exact (by simp only [inR]; omega) ?_ | refine SideP.mk (by first | omega | (dsimp only; omega) | (simp; omega)) ?_
    | refine J_drawU (id := 5) Tryz.tyOK (by kernel_rfl) [0, 1, 3, 0, 8, 24, 63] (.leaf [0, 1, 2, 3, 4, 5, 6]) [6] [7] 6 true (by kernel_rfl) ?_ | refine TwoP.mk ?_ ?_ | refine GoP.mk (by repeat (first | exact keepC_sub _ _ _ | exact List.Sublist.slnil | refine List.Sublist.cons_cons _ ?_ | refine List.Sublist.cons _ ?_)) (by first | exact fun _ h => h | exact fun _ h => h.2 | exact fun _ h => ((allD_append _ _).1 h).2) ?_ | exact trivial | refine J_drawU (id := 21) Tryz.tyOK (by kernel_rfl) [0, 1, 3, 7, 15, 0, 32, 96, 224, 0, 512, 1536, 3584, 7680, 16352, 32736, 65535, 131071, 262143] (.leaf [0, 1, 2, 3, 4, 5, 6, 7, 8, 9, 10, 11, 12, 13, 14, 15, 16, 17, 18]) [] [0, 93] 19 true (by kernel_rfl) ?_ | refine TwoP.mk ?_ ?_ | refine GoP.mk (by repeat (first | exact keepC_sub _ _ _ | exact List.Sublist.slnil | refine List.Sublist.cons_cons _ ?_ | refine List.Sublist.cons _ ?_)) (by first | exact fun _ h => h | exact fun _ h => h.2 | exact fun _ h => ((allD_append _ _).1 h).2) ?_ | exact trivial | refine EntP.mk (Ents.ofSub (by repeat (first | exact keepC_sub _ _ _ | exact List.Sublist.slnil | refine List.Sublist.cons_cons _ ?_ | refine List.Sublist.cons _ ?_)) (by first | exact fun _ h => h | exact fun _ _ => trivial | exact fun _ h => h.2 | exact fun _ h => h.2.2.2.2 | exact fun _ h => h.2.2 | exact fun _ h => h.2.2.2 | exact fun _ h => h.2.2.2.2.2 | exact fun _ h => h.2.2.2.2.2.2 | exact fun _ h => h.2.2.2.2.2.2.2 | exact fun _ h => h.2.2.2.2.2.2.2.2 | exact fun _ h => h.2.2.2.2.2.2.2.2.2 | exact fun _ h => h.2.2.2.2.2.2.2.2.2.2 | exact fun _ h => ((allD_append _ _).1 h).2)) ?_ | refine J_rounds 2 ?_ | refine JR_succ ?_ | refine IdxE.mk 102 6 _ (hr _) (by decide) (by decide) ?_ | refine LoadE.mk 102 1 _ _ (hr _) (by decide) (by decide) (by decide) rfl ?_ | refine CallQ.mk [] _ he (fun _ _ => trivial) ?_ | refine CallP.is he ?_ | (refine CallP.mk _ [_] [] _ (bwMore0 ab _ a c l (escT s) rest h0 (by omega)) (List.perm_append_comm (l₁ := [_])) (fun _ _ => trivial) (fun v L' D' hp => ?_); obtain ⟨a', c', rfl, rfl, rfl⟩ := hp) | refine FinE.mk (bw 0 ab _ a' c' (l ++ escT s) rest) [] ⟨a', c', rfl, rfl, rfl⟩ ?_
    | fail
  exact (Ents.sub ⟨_, List.perm_append_comm⟩).trans (Ents.facts fun _ _ => trivial)
theorem skipNone (ab : Nat) (mi no : C) (a : Option Addr) (c : Nat) (l : List UInt8) (h0 : l ≠ []) (kc : Nat) :
    FnS Tryz.prog 161 [.c (.p 0 ab 0), .c (.sl none 0 kc)] (bw 0 ab 87 a c l (wR mi no)) [] (fun v L D => v = .t0 ∧ L = bw 0 ab 87 a c l (wR mi no) ∧ D = []) := by
  rw [bw_cons _ _ _ _ _ _ h0]
  unfold wR
  refine fn_of_J Tryz.tyOK 7000 Tryz.func161 (by kernel_rfl) (c := Tryz.f161.body.getD .skip) (by kernel_rfl) Tryz.ntmps161 (rs := Tryz.f161.results.toList) rfl (by simp) (fun G => ?_)
  repeat' first
    | refine J_seq ?_ | refine J_region Tryz.tyOK ?_ | refine J_block ?_ | refine J_cond ?_ | refine J_ret ?_ | refine J_skip ?_ | refine J_exit ?_ | refine J_scope ?_
    | refine CondP.yes (by omega) ?_ | refine CondP.no (by omega) ?_ | refine CondP.mk (fun h => ?_) (fun h => ?_) | refine EqP.mk rfl ?_ | refine NewP.mk (fun ad => ?_) | refine ArP.exact (by simp only [inR]; omega) ?_ | refine SideP.mk (by first | omega | (dsimp only; omega) | (simp; omega)) ?_
    | refine J_drawU (id := 0) Tryz.tyOK (by kernel_rfl) [0, 1, 3, 7, 0, 16, 48, 127, 255, 511, 1023] (.leaf [0, 1, 2, 3, 4, 5, 6, 7, 8, 9, 10]) [10] [0] 10 true (by kernel_rfl) ?_ | refine TwoP.mk ?_ ?_ | refine GoP.mk (by repeat (first | exact List.Sublist.slnil | refine List.Sublist.cons_cons _ ?_ | refine List.Sublist.cons _ ?_)) (by first | exact fun _ h => h | exact fun _ h => h.2 | exact fun _ h => ((allD_append _ _).1 h).2) ?_ | exact trivial | refine EntP.mk (Ents.ofSub (by repeat (first | exact List.Sublist.slnil | refine List.Sublist.cons_cons _ ?_ | refine List.Sublist.cons _ ?_)) (by first | exact fun _ h => h | exact fun _ _ => trivial | exact fun _ h => h.2 | exact fun _ h => h.2.2.2.2 | exact fun _ h => h.2.2 | exact fun _ h => h.2.2.2 | exact fun _ h => h.2.2.2.2.2 | exact fun _ h => h.2.2.2.2.2.2 | exact fun _ h => h.2.2.2.2.2.2.2 | exact fun _ h => h.2.2.2.2.2.2.2.2 | exact fun _ h => h.2.2.2.2.2.2.2.2.2 | exact fun _ h => h.2.2.2.2.2.2.2.2.2.2 | exact fun _ h => ((allD_append _ _).1 h).2)) ?_ | refine CallQ.mk [] _ (marksNone kc) (fun _ _ => trivial) ?_ | refine CallP.is (marksNone kc) ?_ | exact FinE.mk _ [] ⟨rfl, rfl, rfl⟩ (Ents.refl _ _)
    | fail
  all_goals trace_state
def pOpen : List UInt8 := [60, 112, 62]
def pEnd : List UInt8 := [60, 47, 112, 62, 10]
theorem linePara (ab : Nat) (ia : Option Addr) (ic : Nat) (s : List UInt8) (hs : s.length ≤ 100000) (mi no : C) :
    FnS Tryz.prog 123 [.c (.p 0 ab 0), .agg (pgC ia ic), .c (.s pOpen), .c (.s pEnd)] (bw 0 ab 87 none 0 [] (wR mi no)) [txF ia s] (BwPost .t0 0 ab 87 (pOpen ++ escT s ++ pEnd) (wR mi no)) := by
  have hle := escT_le s
  have c1 := bwString_ok 0 ab 87 none 0 [] pOpen (wR mi no) btyW (by decide) (by decide)
  unfold pgC
  refine fn_of_J Tryz.tyOK 7000 Tryz.func123 (by kernel_rfl) (c := Tryz.f123.body.getD .skip) (by kernel_rfl) Tryz.ntmps123 (rs := Tryz.f123.results.toList) rfl (by simp) (fun G => ?_)
  repeat' first
    | refine J_seq ?_ | refine J_region Tryz.tyOK ?_ | refine J_block ?_ | refine J_cond ?_ | refine J_ret ?_ | refine J_skip ?_ | refine J_exit ?_ | refine J_scope ?_
    | refine CondP.yes (by omega) ?_ | refine CondP.no (by omega) ?_ | refine CondP.mk (fun h => ?_) (fun h => ?_) | refine EqP.mk rfl ?_ | refine NewP.mk (fun ad => ?_) | refine ArP.exact (by simp only [inR]; omega) ?_ | refine SideP.mk (by first | omega | (dsimp only; omega) | (simp; omega)) ?_
    | (refine callF _ [_] [] _ c1 (List.perm_append_comm (l₁ := [_])) (fun _ _ => trivial) (fun v L' D' hp => ?_); obtain ⟨a1, c1, rfl, rfl, rfl⟩ := hp) | (refine callF _ [_] [txF ia s] _ (inlineText ab ia ic s (by omega) a1 c1 ([] ++ pOpen) (by simp [pOpen]) (by show 3 ≤ _; omega) (wR mi no)) (List.perm_append_comm (l₁ := [_])) (fun _ h => h) (fun v L' D' hp => ?_); obtain ⟨a2, c2, rfl, rfl, rfl⟩ := hp) | (refine callF _ [_] [] _ (bwMore0 ab _ a2 c2 ([] ++ pOpen ++ escT s) pEnd (wR mi no) (by simp [pOpen]) (by simp only [List.length_append]; show 0 + 3 + _ + 5 ≤ _; omega)) (List.perm_append_comm (l₁ := [_])) (fun _ _ => trivial) (fun v L' D' hp => ?_); obtain ⟨a3, c3, rfl, rfl, rfl⟩ := hp) | (refine callF _ [_] [] _ (skipNone ab mi no a3 c3 ([] ++ pOpen ++ escT s ++ pEnd) (by simp [pOpen]) _) (List.perm_append_comm (l₁ := [_])) (fun _ _ => trivial) (fun v L' D' hp => ?_); obtain ⟨rfl, rfl, rfl⟩ := hp) | refine FinE.mk (bw 0 ab _ a3 c3 (pOpen ++ escT s ++ pEnd) (wR mi no)) [] ⟨a3, c3, rfl, rfl, rfl⟩ ?_
    | fail
  exact Ents.drop.trans (Ents.facts fun _ _ => trivial)
theorem blockPara (ab : Nat) (ia : Option Addr) (ic : Nat) (s : List UInt8) (hs : s.length ≤ 100000) (mi no : C) :
    FnS Tryz.prog 85 [.c (.p 0 ab 0), .agg (pgC ia ic), .c (.b true)] (bw 0 ab 87 none 0 [] (wR mi no)) [txF ia s] (BwPost .t0 0 ab 87 (pOpen ++ escT s ++ pEnd) (wR mi no)) := by
  have c1 := linePara ab ia ic s hs mi no
  unfold pgC at c1 ⊢
  refine fn_of_J Tryz.tyOK 7000 Tryz.func85 (by kernel_rfl) (c := Tryz.f85.body.getD .skip) (by kernel_rfl) Tryz.ntmps85 (rs := Tryz.f85.results.toList) rfl (by simp) (fun G => ?_)
  repeat' first
    | refine CondP.yes (by decide) ?_ | refine CondP.no (by decide) ?_
    | refine J_seq ?_ | refine J_region Tryz.tyOK ?_ | refine J_block ?_ | refine J_cond ?_ | refine J_ret ?_ | refine J_skip ?_ | refine J_exit ?_ | refine J_scope ?_
    | refine CondP.yes (by omega) ?_ | refine CondP.no (by omega) ?_ | refine CondP.mk (fun h => ?_) (fun h => ?_) | refine EqP.mk rfl ?_ | refine NewP.mk (fun ad => ?_) | refine ArP.exact (by simp only [inR]; omega) ?_ | refine SideP.mk (by first | omega | (dsimp only; omega) | (simp; omega)) ?_
    | (refine callF _ [_] [txF ia s] _ c1 (List.perm_append_comm (l₁ := [_])) (fun _ h => h) (fun v L' D' hp => ?_); obtain ⟨a1, c1, rfl, rfl, rfl⟩ := hp) | refine FinE.mk (bw 0 ab _ a1 c1 (pOpen ++ escT s ++ pEnd) (wR mi no)) [] ⟨a1, c1, rfl, rfl, rfl⟩ ?_
    | fail
  exact Ents.drop.trans (Ents.facts fun _ _ => trivial)
theorem blocksPara (ab : Nat) (ba ia : Option Addr) (bc ic : Nat) (s : List UInt8) (hs : s.length ≤ 100000) (mi no : C) :
    FnS Tryz.prog 52 [.c (.p 0 ab 0), .c (.sl ba 1 bc), .c (.b true)] (bw 0 ab 87 none 0 [] (wR mi no)) [pgF ba ia ic, txF ia s] (BwPost .t0 0 ab 87 (pOpen ++ escT s ++ pEnd) (wR mi no)) := by
  have hr : ∀ L, Reads L [pgF ba ia ic, txF ia s] 81 5 ba 1 (pgC ia ic) := fun _ => .inr fun _ h => h.1
  have c1 := blockPara ab ia ic s hs mi no
  refine fn_of_J Tryz.tyOK 7000 Tryz.func52 (by kernel_rfl) (c := Tryz.f52.body.getD .skip) (by kernel_rfl) Tryz.ntmps52 (rs := Tryz.f52.results.toList) rfl (by simp) (fun G => ?_)
  repeat' first
    | refine CondP.yes (by decide) ?_ | refine CondP.no (by decide) ?_
    | refine J_seq ?_ | refine J_region Tryz.tyOK ?_ | refine J_block ?_ | refine J_cond ?_ | refine J_ret ?_ | refine J_skip ?_ | refine J_exit ?_ | refine J_scope ?_
    | refine CondP.yes (by omega) ?_ | refine CondP.no (by omega) ?_ | refine CondP.mk (fun h => ?_) (fun h => ?_) | refine EqP.mk rfl ?_ | refine NewP.mk (fun ad => ?_) | refine ArP.exact (by simp only [inR]; omega) ?_ | refine SideP.mk (by first | omega | (dsimp only; omega) | (simp; omega)) ?_
    | refine J_rounds 2 ?_ | refine JR_succ ?_ | refine IdxE.mk 81 5 _ (hr _) (by decide) (by decide) ?_ | refine LoadE.mk 81 1 _ _ (hr _) (by decide) (by decide) (by decide) rfl ?_ | (refine callF _ [_] [txF ia s] _ c1 (List.perm_append_comm (l₁ := [_])) (fun _ h => ⟨h.2.1, trivial⟩) (fun v L' D' hp => ?_); obtain ⟨a1, c1, rfl, rfl, rfl⟩ := hp) | refine FinE.mk (bw 0 ab _ a1 c1 (pOpen ++ escT s ++ pEnd) (wR mi no)) [] ⟨a1, c1, rfl, rfl, rfl⟩ ?_
    | fail
  exact Ents.drop.trans (Ents.facts fun _ _ => trivial)
theorem noContents (ab : Nat) (mi no : C) : FnS Tryz.prog 51 [.c (.p 0 ab 0)] (bw 0 ab 87 none 0 [] (wR mi no)) [] (fun v L D => v = .t0 ∧ L = bw 0 ab 87 none 0 [] (wR mi no) ∧ D = []) := by
  rw [bw_nil]
  unfold wR
  refine fn_of_J Tryz.tyOK 7000 Tryz.func51 (by kernel_rfl) (c := Tryz.f51.body.getD .skip) (by kernel_rfl) Tryz.ntmps51 (rs := Tryz.f51.results.toList) rfl (by simp) (fun G => ?_)
  repeat' first
    | refine CondP.yes (by decide) ?_ | refine CondP.no (by decide) ?_
    | refine J_seq ?_ | refine J_region Tryz.tyOK ?_ | refine J_block ?_ | refine J_cond ?_ | refine J_ret ?_ | refine J_skip ?_ | refine J_exit ?_ | refine J_scope ?_
    | refine CondP.yes (by omega) ?_ | refine CondP.no (by omega) ?_ | refine CondP.mk (fun h => ?_) (fun h => ?_) | refine EqP.mk rfl ?_ | refine NewP.mk (fun ad => ?_) | refine ArP.exact (by simp only [inR]; omega) ?_ | refine SideP.mk (by first | omega | (dsimp only; omega) | (simp; omega)) ?_
    | exact FinE.mk _ [] ⟨rfl, rfl, rfl⟩ (Ents.refl _ _)
    | fail
theorem noList (ab : Nat) : FnS Tryz.prog 53 [.c (.p 0 ab 0), .c (.sl none 0 0)] [] [] (Is .t0) := by
  refine fn_of_J Tryz.tyOK 7000 Tryz.func53 (by kernel_rfl) (c := Tryz.f53.body.getD .skip) (by kernel_rfl) Tryz.ntmps53 (rs := Tryz.f53.results.toList) rfl (by simp) (fun G => ?_)
  repeat' first
    | refine CondP.yes (by decide) ?_ | refine CondP.no (by decide) ?_
    | refine J_seq ?_ | refine J_region Tryz.tyOK ?_ | refine J_block ?_ | refine J_cond ?_ | refine J_ret ?_ | refine J_skip ?_ | refine J_exit ?_ | refine J_scope ?_
    | refine CondP.yes (by omega) ?_ | refine CondP.no (by omega) ?_ | refine CondP.mk (fun h => ?_) (fun h => ?_) | refine EqP.mk rfl ?_ | refine NewP.mk (fun ad => ?_) | refine ArP.exact (by simp only [inR]; omega) ?_ | refine SideP.mk (by first | omega | (dsimp only; omega) | (simp; omega)) ?_
    | exact FinE.mk _ [] ⟨rfl, rfl, rfl⟩ (Ents.refl _ _)
    | fail
end Go.Proofs
namespace Go.Proofs
open Go Go.X
set_option maxRecDepth 100000
theorem blocksPara1 (id ab : Nat) (ba ia : Option Addr) (bc ic : Nat) (s : List UInt8) (hs : s.length ≤ 100000) (mi no : C) :
    FnS Tryz.prog 52 [.c (.p id ab 0), .c (.sl ba 1 bc), .c (.b true)] (bw id ab 87 none 0 [] (wR mi no)) [pgF ba ia ic, txF ia s] (BwPost .t0 id ab 87 (pOpen ++ escT s ++ pEnd) (wR mi no)) :=
  (blocksPara ab ba ia bc ic s hs mi no).same rfl (bw_same _ _ _ _ _ _ _ _) fun v L1 D1 ⟨a', c', h1, h2, h3⟩ => ⟨_, h2 ▸ bw_same 0 id ab _ a' c' _ _, a', c', h1, rfl, h3⟩
theorem noContents1 (id ab : Nat) (mi no : C) : FnS Tryz.prog 51 [.c (.p id ab 0)] (bw id ab 87 none 0 [] (wR mi no)) [] (fun v L D => v = .t0 ∧ L = bw id ab 87 none 0 [] (wR mi no) ∧ D = []) :=
  (noContents ab mi no).same rfl (bw_same _ _ _ _ _ _ _ _) fun v L1 D1 ⟨h1, h2, h3⟩ => ⟨_, h2 ▸ bw_same 0 id ab _ none 0 [] _, h1, rfl, h3⟩
theorem noList1 (id ab : Nat) : FnS Tryz.prog 53 [.c (.p id ab 0), .c (.sl none 0 0)] [] [] (Is .t0) :=
  (noList ab).same rfl ⟨rfl, fun _ => Iff.rfl⟩ fun v L1 D1 h => ⟨L1, ⟨rfl, fun _ => Iff.rfl⟩, h⟩
theorem renderPara (ba ia : Option Addr) (bc ic : Nat) (s : List UInt8) (hs : s.length ≤ 100000) :
    FnS Tryz.prog 20 [.c (.sl ba 1 bc), .c (.sl none 0 0)] [] [pgF ba ia ic, txF ia s] (Is (.c (.s (pOpen ++ escT s ++ pEnd)))) := by
  have hm := marksPara ba ia bc ic s
  refine fn_of_J Tryz.tyOK 0 Tryz.func20 (by kernel_rfl) (c := Tryz.f20.body.getD .skip) (by kernel_rfl) Tryz.ntmps20 (rs := Tryz.f20.results.toList) rfl (by simp) (fun G => ?_)
  repeat' first
    | refine CondP.yes (by decide) ?_ | refine CondP.no (by decide) ?_
    | refine J_seq ?_ | refine J_region Tryz.tyOK ?_ | refine J_block ?_ | refine J_cond ?_ | refine J_ret ?_ | refine J_skip ?_ | refine J_exit ?_ | refine J_scope ?_
    | refine CondP.yes (by omega) ?_ | refine CondP.no (by omega) ?_ | refine CondP.mk (fun h => ?_) (fun h => ?_) | refine EqP.mk rfl ?_ | refine NewP.mk (fun ad => ?_) | refine ArP.exact (by simp only [inR]; omega) ?_ | refine SideP.mk (by first | omega | (dsimp only; omega) | (simp; omega)) ?_
    | refine J_rounds 1 ?_ | refine JR_succ ?_ | refine CallP.is (contentsPara ba ia bc ic s) ?_ | (refine CallP.mk [] _ _ _ hm (List.Perm.refl _) (fun _ h => h) (fun v L' D' hp => ?_); obtain ⟨a1, c1, rfl, rfl, rfl⟩ := hp) | refine CallP.is (notesPara ba ia bc ic s) ?_ | refine SideP.mk (by decide) ?_ | (refine CallP.mk _ [_, _] [] _ (noContents1 _ _ _ _) (List.Perm.refl _) (fun _ _ => trivial) (fun v L' D' hp => ?_); obtain ⟨rfl, rfl, rfl⟩ := hp) | (refine CallP.mk _ [_, _] [pgF ba ia ic, txF ia s] _ (blocksPara1 _ _ ba ia bc ic s hs _ _) (List.Perm.refl _) (fun _ h => h) (fun v L' D' hp => ?_); obtain ⟨a2, c2, rfl, rfl, rfl⟩ := hp) | refine CallP.is (noList1 _ _) ?_ | (refine CallP.mk _ [_, _] [] _ (bwText_ok _ _ 87 a2 c2 (pOpen ++ escT s ++ pEnd) (wR _ _)) (List.Perm.refl _) (fun _ _ => trivial) (fun v L' D' hp => ?_); obtain ⟨rfl, rfl, rfl⟩ := hp) | exact FinE.mk [] [] ⟨rfl, rfl, rfl⟩ (Ents.dropAll.trans (Ents.facts fun _ _ => trivial))
    | fail
  all_goals trace_state
theorem paragraph_ok (s : List UInt8) : FnS Tryz.prog 28 [.c (.s s)] [] [] (fun v L D => ∃ ba ia bc ic, v = .c (.sl ba 1 bc) ∧ L = [] ∧ D = [pgF ba ia ic, txF ia s]) := by
  refine fn_of_J Tryz.tyOK 0 Tryz.func28 (by kernel_rfl) (c := Tryz.f28.body.getD .skip) (by kernel_rfl) Tryz.ntmps28 (rs := Tryz.f28.results.toList) rfl (by simp) (fun G => ?_)
  repeat' first
    | refine J_seq ?_ | refine J_region Tryz.tyOK ?_ | refine J_block ?_ | refine J_cond ?_ | refine J_ret ?_ | refine J_skip ?_ | refine J_exit ?_ | refine J_scope ?_
    | refine CondP.yes (by omega) ?_ | refine CondP.no (by omega) ?_ | refine CondP.mk (fun h => ?_) (fun h => ?_) | refine EqP.mk rfl ?_ | refine NewP.mk (fun ad => ?_) | refine ArP.exact (by simp only [inR]; omega) ?_ | refine SideP.mk (by first | omega | (dsimp only; omega) | (simp; omega)) ?_
    | fail | refine FinE.mk [] [pgF _ _ _, txF _ s] ⟨_, _, _, _, rfl, rfl, rfl⟩ (Ents.toFact.trans (Ents.toFact.trans (Ents.facts fun _ h => ⟨h.2.1, h.1, trivial⟩)))
    | fail
  all_goals trace_state
end Go.Proofs
namespace Go.X
theorem escB_safe (b : UInt8) : 60 ∉ escB b ∧ 62 ∉ escB b ∧ 34 ∉ escB b := by
  unfold escB
  split
  · decide
  split
  · decide
  split
  · decide
  split
  · decide
  · rename_i h1 h2 h3 h4
    simp only [List.mem_singleton]
    exact ⟨fun h => h2 h.symm, fun h => h3 h.symm, fun h => h4 h.symm⟩
theorem escT_safe (s : List UInt8) : 60 ∉ escT s ∧ 62 ∉ escT s ∧ 34 ∉ escT s := by
  unfold escT
  simp only [List.mem_flatMap, not_exists, not_and]
  exact ⟨fun b _ => (escB_safe b).1, fun b _ => (escB_safe b).2.1, fun b _ => (escB_safe b).2.2⟩
end Go.X
namespace Go.Proofs
open Go Go.X
set_option maxRecDepth 100000
theorem known_para : pOpen ++ escT [97, 60, 98] ++ pEnd = [60, 112, 62, 97, 38, 108, 116, 59, 98, 60, 47, 112, 62, 10] := by decide
theorem known_path : pathT 0 [65, 32, 98] = [47, 119, 105, 107, 105, 47, 65, 95, 98] := by decide +kernel
theorem known_ok : FnS Tryz.prog 11 [] [] [gInt 0] (Is (.c (.b true))) := by
  have hp := paragraph_ok [97, 60, 98]
  have hpa := path_ok 0 [65, 32, 98] (by decide)
  rw [known_path] at hpa
  have he := escape_ok [38] (by decide)
  refine fn_of_J Tryz.tyOK 0 Tryz.func11 (by kernel_rfl) (c := Tryz.f11.body.getD .skip) (by kernel_rfl) Tryz.ntmps11 (rs := Tryz.f11.results.toList) rfl (by simp) (fun G => ?_)
  repeat' first
    | refine CondP.yes known_para ?_ | refine CondP.yes rfl ?_
    | refine J_seq ?_ | refine J_region Tryz.tyOK ?_ | refine J_block ?_ | refine J_cond ?_ | refine J_ret ?_ | refine J_skip ?_ | refine J_exit ?_ | refine J_scope ?_
    | refine CondP.yes (by omega) ?_ | refine CondP.no (by omega) ?_ | refine CondP.mk (fun h => ?_) (fun h => ?_) | refine EqP.mk rfl ?_ | refine NewP.mk (fun ad => ?_) | refine ArP.exact (by simp only [inR]; omega) ?_ | refine SideP.mk (by first | omega | (dsimp only; omega) | (simp; omega)) ?_
    | (refine CallP.mk [] _ _ _ hp (List.Perm.refl _) (fun _ _ => trivial) (fun v L' D' hq => ?_); obtain ⟨ba, ia, bc, ic, rfl, rfl, rfl⟩ := hq) | refine CallP.is (renderPara ba ia bc ic [97, 60, 98] (by decide)) ?_ (fun _ h => ⟨h.1, h.2.1, trivial⟩) | refine CallP.is hpa ?_ (fun _ h => ⟨h.2.2.1, trivial⟩) | refine CallP.is he ?_ | refine FinE.bool rfl
    | fail
  all_goals trace_state
end Go.Proofs
namespace Go.X
def badS : List UInt8 := [32, 60, 62, 34, 35, 63, 38]
def okC (c : UInt8) : Bool := decide (c.toNat < 128) && !badS.contains c
theorem pathB_all : ∀ n : Fin 256, (pathB (UInt8.ofNat n.val)).all okC = true := by decide +kernel
theorem pathB_ok (b : UInt8) : (pathB b).all okC = true := by
  have h := pathB_all ⟨b.toNat, b.toNat_lt⟩
  have e : UInt8.ofNat b.toNat = b := by simp
  rwa [e] at h
theorem pathT_ok (sp : Int) (n : List UInt8) : (pathT sp n).all okC = true := by
  unfold pathT pathS
  rw [List.all_append, List.all_flatMap]
  rw [Bool.and_eq_true]
  exact ⟨by decide, List.all_eq_true.2 fun b _ => pathB_ok b⟩
end Go.X
namespace Go.X
open Go.Lib
theorem idx_miss {b : UInt8} {l p : List UInt8} (h : p.isPrefixOf (b :: l) = false) : index (b :: l) p = if index l p = -1 then -1 else index l p + 1 := by
  rw [index, h]
  by_cases h1 : index l p = -1
  · rw [if_pos h1, if_neg (by decide), h1]; rfl
  · rw [if_neg h1, if_neg (by decide), if_neg (by simpa using h1)]
theorem idx_hit {p t : List UInt8} : index (p ++ t) p = 0 := by
  have := index_first (s := p ++ t) (sub := p) (i := 0) (Nat.zero_le _) (by unfold occAt; simp) (fun j hj => by omega)
  simpa using this
theorem cnt_miss {b : UInt8} {l p : List UInt8} (hp : p ≠ []) (h : p.isPrefixOf (b :: l) = false) : count (b :: l) p = count l p := by
  have hi := idx_miss h
  by_cases h1 : index l p = -1
  · rw [if_pos h1] at hi; rw [count_miss hi, count_miss h1]
  · rw [if_neg h1] at hi
    have hg := index_ge l p
    obtain ⟨i, e⟩ : ∃ i : Nat, index l p = i := ⟨(index l p).toNat, by omega⟩
    rw [count_hit (i := i + 1) hp (by rw [hi, e]; rfl), count_hit (i := i) hp e, show i + 1 + p.length = (i + p.length) + 1 by omega, List.drop_succ_cons]
theorem cnt_hit {p t : List UInt8} (hp : p ≠ []) : count (p ++ t) p = 1 + count t p := by
  rw [count_hit (i := 0) hp (by rw [idx_hit]; rfl), Nat.zero_add, List.drop_left]
theorem cnt_nil {p : List UInt8} (hp : p ≠ []) : count [] p = 0 := by
  refine count_miss ?_
  cases p with
  | nil => exact absurd rfl hp
  | cons x r => rfl
theorem rpK_miss {b : UInt8} {p r : List UInt8} (h : ∀ l, p.isPrefixOf (b :: l) = false ∨ True) : ∀ (k : Nat) (l : List UInt8), p.isPrefixOf (b :: l) = false → replaceK p r k (b :: l) = b :: replaceK p r k l
  | 0, l, _ => rfl
  | k + 1, l, hl => by
    have hi := idx_miss hl
    by_cases h1 : index l p = -1
    · rw [if_pos h1] at hi
      rw [replaceK, replaceK, hi, h1]; rfl
    · rw [if_neg h1] at hi
      have hg := index_ge l p
      obtain ⟨i, e⟩ : ∃ i : Nat, index l p = i := ⟨(index l p).toNat, by omega⟩
      rw [replaceK_hit p r k (b :: l) (i + 1) (by rw [hi, e]; rfl), replaceK_hit p r k l i e, show i + 1 + p.length = (i + p.length) + 1 by omega, List.drop_succ_cons, List.take_succ_cons]
      rfl
theorem rpA {p r : List UInt8} (hne : p ≠ r) (s : List UInt8) : replaceAll s p r = replaceK p r (count s p) s := by
  unfold replaceAll replace replaceNum
  rw [if_neg (by simpa using hne), if_pos (.inl (by decide))]
theorem rp_miss {b : UInt8} {l p r : List UInt8} (hp : p ≠ []) (hne : p ≠ r) (h : p.isPrefixOf (b :: l) = false) : replaceAll (b :: l) p r = b :: replaceAll l p r := by
  rw [rpA hne, rpA hne, cnt_miss hp h, rpK_miss (fun _ => .inr trivial) _ _ h]
theorem rp_hit {t p r : List UInt8} (hp : p ≠ []) (hne : p ≠ r) : replaceAll (p ++ t) p r = r ++ replaceAll t p r := by
  rw [rpA hne, rpA hne, cnt_hit hp, Nat.add_comm, replaceK_hit p r _ _ 0 (by rw [idx_hit]; rfl), Nat.zero_add, List.drop_left]; rfl
theorem rp_nil {p r : List UInt8} (hp : p ≠ []) (hne : p ≠ r) : replaceAll [] p r = [] := by rw [rpA hne, cnt_nil hp]; rfl
theorem pre_cases (p s : List UInt8) : p.isPrefixOf s = false ∨ ∃ t, s = p ++ t := by
  cases h : p.isPrefixOf s with
  | false => exact .inl rfl
  | true => exact .inr (by obtain ⟨t, ht⟩ := List.isPrefixOf_iff_prefix.1 h; exact ⟨t, ht.symm⟩)
theorem pre_no {p s : List UInt8} (h : ∀ t, s ≠ p ++ t) : p.isPrefixOf s = false := (pre_cases p s).elim id fun ⟨t, ht⟩ => absurd ht (h t)
theorem rp_sep {p r : List UInt8} (hp : p ≠ []) (hne : p ≠ r) {d : UInt8} (hd : d ∉ p) (n : Nat) : ∀ (a z : List UInt8), a.length = n → replaceAll (a ++ d :: z) p r = replaceAll a p r ++ d :: replaceAll z p r := by
  induction n using Nat.strongRecOn with | _ n ih
  intro a z hn
  cases a with
  | nil =>
    rw [List.nil_append, rp_nil hp hne, rp_miss hp hne (pre_no fun t ht => ?_)]; rfl
    cases p with
    | nil => exact hp rfl
    | cons x q => simp only [List.cons_append, List.cons.injEq] at ht; exact hd (by rw [ht.1]; simp)
  | cons b a =>
    rcases pre_cases p (b :: a) with h | ⟨t, ht⟩
    · have h2 : p.isPrefixOf (b :: (a ++ d :: z)) = false := pre_no fun t ht => by
        by_cases hl : p.length ≤ (b :: a).length
        · have e := congrArg (List.take p.length) ht
          rw [List.take_left, ← List.cons_append, List.take_append_of_le_length hl] at e
          have : p.isPrefixOf (b :: a) = true := List.isPrefixOf_iff_prefix.2 (by rw [← e]; exact List.take_prefix _ _)
          rw [h] at this; cases this
        · have e : p[(b :: a).length]? = some d := by
            have := congrArg (fun l => l[(b :: a).length]?) ht
            simp only [← List.cons_append] at this
            rw [List.getElem?_append_right (Nat.le_refl _), Nat.sub_self, List.getElem?_append_left (by omega)] at this
            rw [← this]; rfl
          exact hd (List.mem_of_getElem? e)
      rw [rp_miss hp hne h, List.cons_append, rp_miss hp hne h2, ih a.length (by rw [← hn]; exact Nat.lt_succ_self _) a z rfl]; rfl
    · have hlen : t.length < n := by
        have := congrArg List.length ht
        rw [List.length_append] at this
        have : 0 < p.length := List.length_pos_iff.2 hp
        omega
      rw [ht, List.append_assoc, rp_hit hp hne, rp_hit hp hne, ih t.length hlen t z rfl, List.append_assoc]
def clsS : List UInt8 := [99, 108, 97, 115, 115, 61, 34, 109, 105, 115, 115, 105, 110, 103, 34, 32]
abbrev rpC (s : List UInt8) : List UInt8 := replaceAll s clsS []
theorem cls0 : clsS ≠ [] := by decide
theorem clsSep {d : UInt8} (hd : d ∉ clsS) (a z : List UInt8) : rpC (a ++ d :: z) = rpC a ++ d :: rpC z := rp_sep cls0 cls0 hd _ a z rfl
theorem rpC_nil : rpC [] = [] := rp_nil cls0 cls0
theorem rpC_hit (t : List UInt8) : rpC (clsS ++ t) = rpC t := by unfold rpC; rw [rp_hit cls0 cls0]; rfl
theorem rpC_noQ : ∀ (t : List UInt8), 34 ∉ t → rpC t = t
  | [], _ => rpC_nil
  | b :: l, h => by
    unfold rpC
    rw [rp_miss cls0 cls0 (pre_no fun t ht => h (by rw [ht]; exact List.mem_append_left _ (by decide)))]
    exact congrArg (b :: ·) (rpC_noQ l fun hl => h (List.mem_cons_of_mem _ hl))
theorem cls_cnt : clsS.dropLast.count 34 = 2 := by decide
theorem rpC_q1 : ∀ (q : List UInt8), q.count 34 ≤ 1 → rpC (q ++ [34]) = q ++ [34]
  | [], _ => by
    unfold rpC
    rw [List.nil_append, rp_miss cls0 cls0 (by decide)]
    exact congrArg (34 :: ·) rpC_nil
  | b :: l, h => by
    unfold rpC
    rw [List.cons_append, rp_miss cls0 cls0 (pre_no fun t ht => ?_)]
    · exact congrArg (b :: ·) (rpC_q1 l (Nat.le_trans (List.Sublist.count_le 34 (List.sublist_cons_self b l)) h))
    · have h2 : (b :: l) ++ [34] = clsS.dropLast ++ (32 :: t) := by rw [List.cons_append, ht]; rfl
      rcases List.eq_nil_or_concat t with rfl | ⟨t', x, rfl⟩
      · have e1 := congrArg List.getLast? h2
        rw [List.getLast?_concat] at e1
        have : (clsS.dropLast ++ [32]).getLast? = some 32 := by decide
        rw [this] at e1; cases e1
      · have h3 : (b :: l) ++ [34] = (clsS.dropLast ++ (32 :: t')) ++ [x] := by rw [h2]; simp
        have e := List.append_inj_left' h3 rfl
        have hc := congrArg (List.count 34) e
        rw [List.count_append, cls_cnt] at hc
        omega
theorem rpC_attr (u v : List UInt8) (hu : 34 ∉ u) (hv : 34 ∉ v) : rpC (u ++ 34 :: v ++ [34]) = u ++ 34 :: v ++ [34] := rpC_q1 (u ++ 34 :: v) (by
  rw [List.count_append, List.count_cons_self, List.count_eq_zero_of_not_mem hu, List.count_eq_zero_of_not_mem hv]; exact Nat.le_refl _)
def Hs (z w : List UInt8) : Prop := ∀ t, 34 ∉ t → rpC (t ++ z) = t ++ w
def Gs (y x : List UInt8) : Prop := ∀ z w, Hs z w → Hs (y ++ z) (x ++ w)
theorem hs_nil : Hs [] [] := fun t ht => by rw [List.append_nil]; exact rpC_noQ t ht
theorem gs_nil : Gs [] [] := fun _ _ h => h
theorem gs_app {a b c d : List UInt8} (h1 : Gs a b) (h2 : Gs c d) : Gs (a ++ c) (b ++ d) := fun z w h => by rw [List.append_assoc, List.append_assoc]; exact h1 _ _ (h2 _ _ h)
theorem gs_text {t : List UInt8} (ht : 34 ∉ t) : Gs t t := fun z w h s hs => by
  rw [← List.append_assoc, h (s ++ t) (by simp [hs, ht]), List.append_assoc]
theorem gs_tag {i j : List UInt8} (h : rpC i = j) : Gs (60 :: i ++ [62]) (60 :: j ++ [62]) := fun z w hz t ht => by
  have e : t ++ (60 :: i ++ [62] ++ z) = t ++ 60 :: (i ++ 62 :: z) := by simp
  rw [e, clsSep (by decide), clsSep (by decide), h, rpC_noQ t ht]
  have := hz [] (by simp)
  rw [List.nil_append, List.nil_append] at this
  rw [this]; simp
theorem gs_tag0 {i : List UInt8} (h : 34 ∉ i) : Gs (60 :: i ++ [62]) (60 :: i ++ [62]) := gs_tag (rpC_noQ i h)
theorem gs_attr (u v : List UInt8) (hu : 34 ∉ u) (hv : 34 ∉ v) : Gs (60 :: (u ++ 34 :: v ++ [34]) ++ [62]) (60 :: (u ++ 34 :: v ++ [34]) ++ [62]) := gs_tag (rpC_attr u v hu hv)
theorem gs_end {y x : List UInt8} (h : Gs y x) : rpC y = x := by
  have := h _ _ hs_nil [] (by simp)
  simpa using this
theorem cn_text {p' : List UInt8} : ∀ (t z : List UInt8), 60 ∉ t → count (t ++ z) (60 :: p') = count z (60 :: p')
  | [], z, _ => rfl
  | b :: l, z, h => by
    rw [List.cons_append, cnt_miss (by simp) (pre_no fun t ht => ?_)]
    · exact cn_text l z fun hl => h (List.mem_cons_of_mem _ hl)
    · simp only [List.cons_append, List.cons.injEq] at ht
      exact h (by rw [← ht.1]; simp)
theorem sep_eq : ∀ {a b u z : List UInt8}, 62 ∉ a → 62 ∉ b → a ++ 62 :: u = b ++ (62 : UInt8) :: z → a = b
  | [], [], _, _, _, _, _ => rfl
  | [], y :: b, _, _, _, hb, h => by simp only [List.nil_append, List.cons_append, List.cons.injEq] at h; exact absurd (by rw [h.1]; simp) hb
  | x :: a, [], _, _, ha, _, h => by simp only [List.nil_append, List.cons_append, List.cons.injEq] at h; exact absurd (by rw [h.1]; simp) ha
  | x :: a, y :: b, _, _, ha, hb, h => by
    simp only [List.cons_append, List.cons.injEq] at h
    rw [h.1, sep_eq (fun hh => ha (List.mem_cons_of_mem _ hh)) (fun hh => hb (List.mem_cons_of_mem _ hh)) h.2]
theorem cn_tag {p i z : List UInt8} (h1 : 62 ∉ p) (h2 : 60 ∉ i) (h3 : 62 ∉ i) : count (60 :: i ++ [62] ++ z) (60 :: p ++ [62]) = (if i = p then 1 else 0) + count z (60 :: p ++ [62]) := by
  by_cases h : i = p
  · subst h
    rw [if_pos rfl, cnt_hit (by simp)]
  · rw [if_neg h, Nat.zero_add, List.cons_append, List.cons_append, cnt_miss (by simp) (pre_no fun t ht => h ?_)]
    · rw [List.cons_append, cn_text (p' := p ++ [62]) (i ++ [62] ) z (by simp [h2])]
    · simp only [List.cons_append, List.cons.injEq, true_and, List.append_assoc] at ht
      exact sep_eq h3 h1 ht
def Cn (p : List UInt8) (n : Nat) (y : List UInt8) : Prop := ∀ z, count (y ++ z) (60 :: p ++ [62]) = n + count z (60 :: p ++ [62])
theorem cn_nil {p : List UInt8} : Cn p 0 [] := fun z => by simp
theorem cn_app {p a b : List UInt8} {n m : Nat} (h1 : Cn p n a) (h2 : Cn p m b) : Cn p (n + m) (a ++ b) := fun z => by rw [List.append_assoc, h1, h2, Nat.add_assoc]
theorem cn_txt {p t : List UInt8} (h : 60 ∉ t) : Cn p 0 t := fun z => by rw [Nat.zero_add]; exact cn_text (p' := p ++ [62]) t z h
theorem cn_tg {p i : List UInt8} (h1 : 62 ∉ p) (h2 : 60 ∉ i) (h3 : 62 ∉ i) : Cn p (if i = p then 1 else 0) (60 :: i ++ [62]) := fun z => cn_tag h1 h2 h3
theorem cn_end {p y : List UInt8} {n : Nat} (h : Cn p n y) : count y (60 :: p ++ [62]) = n := by
  have := h []
  rw [List.append_nil, cnt_nil (by simp)] at this
  omega
end Go.X
