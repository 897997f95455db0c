/- This text walks through the statements on parameters that speak of sorted names, of the last argument and of places. -/
import Derived.Test.YtggnedoblokenaaDoorParL
set_option linter.all false

namespace Go.X
open Go Go.Lib

theorem bind_keylen {l : List Vl} (hb : VlB l) (h : l.length ≤ 40) : ∀ k ∈ keysT (bindT l), k.length ≤ 9223372036854775807 := fun k hk => by
  rcases allR_keys _ _ k hk with h1 | h1
  · simp [keysT] at h1
  · exact puts_keylen l 0 hb (by omega) k h1
theorem bindV_or {l : List Vl} (hb : VlB l) : ((bindV l).2 = 0 ∧ l.length ≤ 40 ∨ (bindV l).2 = 8 ∧ ¬ l.length ≤ 40) ∧ (bindV l).1.length ≤ l.length ∧ (bindV l).1.length ≤ 40 ∧ SortedA (bindV l).1 ∧ (∀ k ∈ keysT (bindV l).1, trimT k = k) ∧ ∀ k ∈ keysT (bindV l).1, k.length ≤ 9223372036854775807 := by
  by_cases h : l.length ≤ 40
  · rw [bindV_le h]
    have := bind_len l
    exact ⟨.inl ⟨rfl, h⟩, this, by dsimp only; omega, bind_sorted l, bind_trim l, bind_keylen hb h⟩
  · rw [show bindV l = ([], 8) from if_neg h]
    exact ⟨.inr ⟨rfl, h⟩, Nat.zero_le _, Nat.zero_le _, List.Pairwise.nil, fun k hk => by simp [keysT] at hk, fun k hk => by simp [keysT] at hk⟩
theorem keysT_get {P : List KT} {i : Nat} (h : i < P.length) : (((keysT P).map C.s).drop (i * 1 + 0)).take 1 = [C.s P[i].1] := by
  have h2 : i < (keysT P).length := by unfold keysT; rw [List.length_map]; exact h
  have := map_take1 (f := C.s) h2
  rw [this]
  have e : ∀ (q : List KT) (hq : i < (keysT q).length) (hp : i < q.length), (keysT q)[i] = q[i].1 := fun q hq hp => List.getElem_map _
  rw [e P h2 h]
theorem sorted_at {P : List KT} (h : SortedA P) {i j : Nat} (hij : i < j) (hj : j < P.length) : P[i].1 < P[j].1 := by
  have h' : (P.map (·.1)).Pairwise (· < ·) := h
  rw [List.pairwise_iff_getElem] at h'
  have := h' i j (by rw [List.length_map]; omega) (by rw [List.length_map]; exact hj) hij
  simpa using this
theorem keysT_mem {P : List KT} {i : Nat} (h : i < P.length) : P[i].1 ∈ keysT P := List.mem_map.2 ⟨_, List.getElem_mem h, rfl⟩

def posV (l : List Bt) : List Vl := l.map fun t => (false, [120], t)
theorem posV_len (l : List Bt) : (posV l).length = l.length := by unfold posV; rw [List.length_map]
theorem posV_snoc {l : List Bt} {k : Nat} (h : k < l.length) : posV (l.take (k + 1)) = posV (l.take k) ++ [(false, [120], l[k])] := by
  unfold posV
  rw [← List.take_append_getElem h, List.map_append]
  rfl

end Go.X

namespace Go.Proofs
open Go Go.X Go.Lib
set_option maxRecDepth 100000
set_option maxHeartbeats 4000000

theorem parameterSorted_law (e : Nat) (a : Option Addr) (c : Nat) (l : List Vl) (hl : l.length ≤ 9223372036854775807) (hb : VlB l) : FnS Tryd.prog 4 [.c (.sl a l.length c)] [] [slFact e 3 a l.length (vlC l)] (Is (.c (.b true))) := by
  have cl := large_ok e a c l hl
  have c1 := bind_ok e a c l hb
  unfold BindP at c1
  obtain ⟨hor, hPl, hP40, hPs, hPt, hPk⟩ := bindV_or hb
  generalize (bindV l).1 = P at *
  generalize (bindV l).2 = er at *
  rcases hor with ⟨rfl, h40⟩ | ⟨rfl, h40⟩
  all_goals
    have n1 := fun a c => names_ok 33 a c P (by omega)
    unfold NamesP at n1
    refine fn_of_J Tryd.tyOK 0 Tryd.func4 (by kernel_rfl) (c := Tryd.f4.body.getD .skip) (by kernel_rfl) Tryd.ntmps4 (rs := Tryd.f4.results.toList) rfl (by simp) (fun G => ?_)
    repeat' first
      | refine CondP.yes rfl ?_
      | refine J_seq ?_ | refine J_region Tryd.tyOK ?_ | refine J_block ?_ | refine J_cond ?_ | refine J_ret ?_ | refine J_skip ?_ | refine J_exit ?_ | refine J_scope ?_
      | refine CondP.yes (by omega) ?_ | refine CondP.no (by omega) ?_ | refine CondP.mk (fun h => ?_) (fun h => ?_) | refine EqP.mk rfl ?_ | refine NewP.mk (fun ad => ?_) | refine ArP.exact (by simp only [inR]; omega) ?_ | refine SideP.mk (by first | omega | (dsimp only; omega) | (simp; omega)) ?_
      | refine CallP.isB cl (fun h => ?_) (fun h => ?_) | refine CallP.is known_ok ?_ | refine CallP.mk [] [] [_] _ c1 (List.Perm.refl _) (fun _ h => ⟨h.1, trivial⟩) (fun v L' D' hp => ?_); obtain ⟨a1, c1, rfl, rfl, rfl⟩ := hp | refine CallP.mk [] [] [_] _ (n1 _ _) (List.Perm.refl _) (fun _ h => ⟨h.1, trivial⟩) (fun v L' D' hp => ?_); obtain ⟨a2, c2, rfl, rfl, rfl⟩ := hp | refine FinE.bool rfl
      | fail
    have hr1 : ∀ L, Reads L [slFact 9 1 a2 P.length ((keysT P).map C.s), slFact 33 2 a1 P.length (ktC P), slFact e 3 a l.length (vlC l)] 9 1 a2 P.length ((keysT P).map C.s) := fun L => .inr fun m h => h.1
    have hr2 : ∀ L, Reads L [slFact 9 1 a2 P.length ((keysT P).map C.s), slFact 33 2 a1 P.length (ktC P), slFact e 3 a l.length (vlC l)] 33 2 a1 P.length (ktC P) := fun L => .inr fun m h => h.2.1
    refine J_loop (α := Nat) (fun i => [(3, .c (.sl a1 P.length c1)), (5, .c (.sl a2 P.length c2)), (6, .c (.i .i64 i))]) (fun _ => []) (fun _ => [slFact 9 1 a2 P.length ((keysT P).map C.s), slFact 33 2 a1 P.length (ktC P), slFact e 3 a l.length (vlC l)]) 0
      (fun i => i ≤ P.length) (fun i => P.length - i) (InFam.mk 0 (Nat.zero_le _) (by repeat' first | exact SubE.nil | refine SubE.cons rfl ?_ ?_ | exact VEq.refl _ | refine VEq.int (by omega) | refine VEq.sl rfl (by first | rfl | omega | (rw [List.length_append]; rfl) | (simp; omega)) rfl) (Ents.refl _ _)) (fun i hi => ?_)
    by_cases hlt : i < P.length
    · have hg0 := kt_get0 hlt
      have hgn := keysT_get hlt
      have htm := refTrim_ok P[i].1 (hPk _ (keysT_mem hlt))
      rw [hPt _ (keysT_mem hlt)] at htm
      have hk : ((i : Int) - 1).toNat = i - 1 := by omega
      by_cases h0 : 0 < i
      · have hgp : (((keysT P).map C.s).drop (((i : Int) - 1).toNat * 1 + 0)).take 1 = [C.s P[i - 1].1] := by rw [hk]; exact keysT_get (show i - 1 < P.length by omega)
        have hless := (less_iff P[i - 1].1 P[i].1).2 (sorted_at hPs (show i - 1 < i by omega) hlt)
        generalize P[i - 1] = y at *
        generalize P[i] = x at *
        obtain ⟨xn, xt⟩ := x
        obtain ⟨yn, yt⟩ := y
        repeat' first
          | refine CondP.yes rfl ?_ | refine CondP.yes hless ?_
          | refine J_seq ?_ | refine J_region Tryd.tyOK ?_ | refine J_block ?_ | refine J_cond ?_ | refine J_ret ?_ | refine J_skip ?_ | refine J_exit ?_ | refine J_scope ?_
          | refine CondP.yes (by omega) ?_ | refine CondP.no (by omega) ?_ | refine CondP.mk (fun h => ?_) (fun h => ?_) | refine EqP.mk rfl ?_ | refine NewP.mk (fun ad => ?_) | refine ArP.exact (by simp only [inR]; omega) ?_ | refine SideP.mk (by first | omega | (dsimp only; omega) | (simp; omega)) ?_
          | refine J_drawS (id := 10) Tryd.tyOK (by kernel_rfl) [0, 0, 3, 7, 0, 0, 48, 112, 240, 511, 1023, 2047, 2047, 8191, 16383, 2047, 2047, 100351, 231423, 493567, 1048575, 2097151, 4194303, 8388607, 16777215, 33554431, 67108863, 67108863, 201326591, 536870911, 1073741823, 67108863, 67108863, 6509559807, 15099494399, 34359738367, 68719476735, 137438953471] [0, 1, 2, 3, 4, 5, 6, 7, 8, 9, 10, 11, 12, 13, 14, 15, 16, 17, 18, 19, 20, 21, 22, 23, 24, 25, 26, 27, 28, 29, 30, 31, 32, 33, 34, 35, 36, 37] [] [45, 49, 56, 60, 72, 76] true (by kernel_rfl) ?_ | refine EntP.mk (Ents.ofSub (by repeat (first | exact List.Sublist.slnil | refine List.Sublist.cons_cons _ ?_ | refine List.Sublist.cons _ ?_)) (by first | exact fun _ h => h | exact fun _ _ => trivial | exact fun _ h => h.2 | exact fun _ h => h.2.2.2.2 | exact fun _ h => ((allD_append _ _).1 h).2)) ?_ | refine IdxE.mk 9 1 _ (hr1 _) (by omega) (by omega) ?_ | refine IdxE.mk 33 2 _ (hr2 _) (by omega) (by omega) ?_ | refine FldE.mk 33 2 _ _ (hr2 _) (by omega) ?_ | refine LoadE.mk 9 _ _ _ (hr1 _) (by omega) (by omega) (by first | omega | decide) hgn ?_ | refine LoadE.mk 33 _ _ _ (hr2 _) (by omega) (by omega) (by first | omega | decide) hg0 ?_ | refine CallQ.mk _ _ htm (fun _ _ => trivial) ?_ | refine LoadE.mk 9 _ _ _ (hr1 _) (by omega) (by omega) (by first | omega | decide) hgp ?_ | refine Round.mk (i + 1) (by omega) (by omega) (by repeat' first | exact SubE.nil | refine SubE.cons rfl ?_ ?_ | exact VEq.refl _ | refine VEq.int (by omega) | refine VEq.sl rfl (by first | rfl | omega | (rw [List.length_append]; rfl) | (simp; omega)) rfl) (Ents.refl _ _)
          | fail
      · generalize P[i] = x at *
        obtain ⟨xn, xt⟩ := x
        repeat' first
          | refine CondP.yes rfl ?_
          | refine J_seq ?_ | refine J_region Tryd.tyOK ?_ | refine J_block ?_ | refine J_cond ?_ | refine J_ret ?_ | refine J_skip ?_ | refine J_exit ?_ | refine J_scope ?_
          | refine CondP.yes (by omega) ?_ | refine CondP.no (by omega) ?_ | refine CondP.mk (fun h => ?_) (fun h => ?_) | refine EqP.mk rfl ?_ | refine NewP.mk (fun ad => ?_) | refine ArP.exact (by simp only [inR]; omega) ?_ | refine SideP.mk (by first | omega | (dsimp only; omega) | (simp; omega)) ?_
          | refine J_drawS (id := 10) Tryd.tyOK (by kernel_rfl) [0, 0, 3, 7, 0, 0, 48, 112, 240, 511, 1023, 2047, 2047, 8191, 16383, 2047, 2047, 100351, 231423, 493567, 1048575, 2097151, 4194303, 8388607, 16777215, 33554431, 67108863, 67108863, 201326591, 536870911, 1073741823, 67108863, 67108863, 6509559807, 15099494399, 34359738367, 68719476735, 137438953471] [0, 1, 2, 3, 4, 5, 6, 7, 8, 9, 10, 11, 12, 13, 14, 15, 16, 17, 18, 19, 20, 21, 22, 23, 24, 25, 26, 27, 28, 29, 30, 31, 32, 33, 34, 35, 36, 37] [] [45, 49, 56, 60, 72, 76] true (by kernel_rfl) ?_ | refine EntP.mk (Ents.ofSub (by repeat (first | exact List.Sublist.slnil | refine List.Sublist.cons_cons _ ?_ | refine List.Sublist.cons _ ?_)) (by first | exact fun _ h => h | exact fun _ _ => trivial | exact fun _ h => h.2 | exact fun _ h => h.2.2.2.2 | exact fun _ h => ((allD_append _ _).1 h).2)) ?_ | refine IdxE.mk 9 1 _ (hr1 _) (by omega) (by omega) ?_ | refine IdxE.mk 33 2 _ (hr2 _) (by omega) (by omega) ?_ | refine FldE.mk 33 2 _ _ (hr2 _) (by omega) ?_ | refine LoadE.mk 9 _ _ _ (hr1 _) (by omega) (by omega) (by first | omega | decide) hgn ?_ | refine LoadE.mk 33 _ _ _ (hr2 _) (by omega) (by omega) (by first | omega | decide) hg0 ?_ | refine CallQ.mk _ _ htm (fun _ _ => trivial) ?_ | refine Round.mk (i + 1) (by omega) (by omega) (by repeat' first | exact SubE.nil | refine SubE.cons rfl ?_ ?_ | exact VEq.refl _ | refine VEq.int (by omega) | refine VEq.sl rfl (by first | rfl | omega | (rw [List.length_append]; rfl) | (simp; omega)) rfl) (Ents.refl _ _)
          | fail
    · have hil : i = P.length := by omega
      subst hil
      repeat' first
        | refine J_seq ?_ | refine J_region Tryd.tyOK ?_ | refine J_block ?_ | refine J_cond ?_ | refine J_ret ?_ | refine J_skip ?_ | refine J_exit ?_ | refine J_scope ?_
        | refine CondP.yes (by omega) ?_ | refine CondP.no (by omega) ?_ | refine CondP.mk (fun h => ?_) (fun h => ?_) | refine EqP.mk rfl ?_ | refine NewP.mk (fun ad => ?_) | refine ArP.exact (by simp only [inR]; omega) ?_ | refine SideP.mk (by first | omega | (dsimp only; omega) | (simp; omega)) ?_
        | refine CallP.is known_ok ?_ | refine FinE.bool rfl
        | fail

theorem parameterLast_law (e : Nat) (a : Option Addr) (c : Nat) (l : List Vl) (nm tx ask : Bt) (hl : l.length ≤ 9223372036854775807) (hb : VlB l) (hn : nm.length ≤ 9223372036854775807) (ht : tx.length ≤ 9223372036854775807) (hk : ask.length ≤ 9223372036854775807) : FnS Tryd.prog 5 [.c (.sl a l.length c), .c (.s nm), .c (.s tx), .c (.s ask)] [] [slFact e 3 a l.length (vlC l)] (Is (.c (.b true))) := by
  have cl := large_ok e a c l hl
  by_cases h40 : l.length < 40
  · have c1 := bind40_ok e a c l hb (by omega)
    have hb2 : VlB (l ++ [(true, nm, tx)]) := fun v hv => by
      rcases List.mem_append.1 hv with h | h
      · exact hb v h
      · rw [List.mem_singleton.1 h]; exact ⟨hn, ht⟩
    have hAl := bind_len l
    have hBl := bind_len (l ++ [(true, nm, tx)])
    rw [bind_last, List.length_append, List.length_singleton] at hBl
    have c2 : ∀ a c, FnS Tryd.prog 10 [.c (.sl a (l.length + 1) c)] [] [slFact 36 3 a (l.length + 1) (vlC l ++ [.b true, .s nm, .s tx])]
        (fun v L D => ∃ a c, v = .t2 (.c (.sl a (putA (bindT l) false (trimT nm) (trimT tx)).length c)) (.c (.i .i64 0)) ∧ L = [] ∧ D = [slFact 33 2 a (putA (bindT l) false (trimT nm) (trimT tx)).length (ktC (putA (bindT l) false (trimT nm) (trimT tx)))]) := fun a c => by
      have := bind40_ok 36 a c (l ++ [(true, nm, tx)]) hb2 (by rw [List.length_append, List.length_singleton]; omega)
      rw [bind_last, vlC_snoc, List.length_append, List.length_singleton] at this
      exact this
    have hput := getA_putA (bindT l) (trimT nm) (trimT tx)
    have t1 := refTrim_ok tx ht
    have t2 := refTrim_ok ask hk
    have t3 := refTrim_ok nm hn
    generalize bindT l = A at *
    have g1 : ∀ a c, FnS Tryd.prog 15 [.c (.sl a (putA A false (trimT nm) (trimT tx)).length c), .c (.s nm)] [] [slFact 33 2 a (putA A false (trimT nm) (trimT tx)).length (ktC (putA A false (trimT nm) (trimT tx)))] (Is (.t2 (.c (.s (trimT tx))) (.c (.b true)))) := fun a c => by
      have := get_ok 33 a c (putA A false (trimT nm) (trimT tx)) nm (by omega) hn
      rw [hput, if_pos rfl] at this
      exact this
    have g2 := fun a c => get_ok 33 a c A ask (by omega) hk
    have g3 := fun a c => get_ok 33 a c (putA A false (trimT nm) (trimT tx)) ask (by omega) hk
    simp only [hput] at g3
    generalize putA A false (trimT nm) (trimT tx) = B at *
    generalize trimT ask = ka at *
    generalize trimT nm = kn at *
    generalize trimT tx = kt at *
    clear hput
    by_cases hkk : ka = kn
    · simp only [if_pos hkk] at g3
      generalize getA A ka = x at *
      refine fn_of_J Tryd.tyOK 0 Tryd.func5 (by kernel_rfl) (c := Tryd.f5.body.getD .skip) (by kernel_rfl) Tryd.ntmps5 (rs := Tryd.f5.results.toList) rfl (by simp) (fun G => ?_)
      repeat' first
        | refine CondP.yes hkk ?_ | refine CondP.yes rfl ?_
        | refine J_seq ?_ | refine J_region Tryd.tyOK ?_ | refine J_block ?_ | refine J_cond ?_ | refine J_ret ?_ | refine J_skip ?_ | refine J_exit ?_ | refine J_scope ?_
        | refine CondP.yes (by omega) ?_ | refine CondP.no (by omega) ?_ | refine CondP.mk (fun h => ?_) (fun h => ?_) | refine EqP.mk rfl ?_ | refine NewP.mk (fun ad => ?_) | refine ArP.exact (by simp only [inR]; omega) ?_ | refine SideP.mk (by first | omega | (dsimp only; omega) | (simp; omega)) ?_
        | refine CallP.isB cl (fun h => ?_) (fun h => ?_) | refine CallP.is known_ok ?_ | refine CallP.mk [] [] [_] _ c1 (List.Perm.refl _) (fun _ h => ⟨h.1, trivial⟩) (fun v L' D' hp => ?_); obtain ⟨a1, c1', rfl, rfl, rfl⟩ := hp | refine AppE.nil (vlC l) l.length rfl rfl rfl (SrcE.sl e 36 _ _ _ _ _ rfl rfl (.inr fun m h => h.2.1) (vlC_len l)) (by dsimp only; omega) (fun a' c' => ?_) | refine AppE.row [_] [] (vlC l) [C.b true, C.s nm, C.s tx] 1 rfl (SrcE.sl 36 36 _ _ 1 1 _ rfl rfl (.inl ⟨1, List.Mem.head _⟩) rfl) (by dsimp only; omega) (fun a' c' => ?_) | refine CallP.mkE [] [] [_] _ _ (c2 _ _) (Ents.drop.trans Ents.toFact) (fun _ h => ⟨h.1, trivial⟩) (fun v L' D' hp => ?_); obtain ⟨a2, c2', rfl, rfl, rfl⟩ := hp | refine CallP.is (g1 _ _) ?_ (fun _ h => ⟨h.1, trivial⟩) | refine CallP.is (g2 _ _) ?_ (fun _ h => ⟨h.2.2.1, trivial⟩) | refine CallP.is (g3 _ _) ?_ (fun _ h => ⟨h.1, trivial⟩) | refine CallP.is t1 ?_ | refine CallP.is t2 ?_ | refine CallP.is t3 ?_ | refine FinE.bool rfl
        | fail
    · simp only [if_neg hkk] at g3
      generalize getA A ka = x at *
      refine fn_of_J Tryd.tyOK 0 Tryd.func5 (by kernel_rfl) (c := Tryd.f5.body.getD .skip) (by kernel_rfl) Tryd.ntmps5 (rs := Tryd.f5.results.toList) rfl (by simp) (fun G => ?_)
      repeat' first
        | refine CondP.no hkk ?_ | refine CondP.yes rfl ?_
        | refine J_seq ?_ | refine J_region Tryd.tyOK ?_ | refine J_block ?_ | refine J_cond ?_ | refine J_ret ?_ | refine J_skip ?_ | refine J_exit ?_ | refine J_scope ?_
        | refine CondP.yes (by omega) ?_ | refine CondP.no (by omega) ?_ | refine CondP.mk (fun h => ?_) (fun h => ?_) | refine EqP.mk rfl ?_ | refine NewP.mk (fun ad => ?_) | refine ArP.exact (by simp only [inR]; omega) ?_ | refine SideP.mk (by first | omega | (dsimp only; omega) | (simp; omega)) ?_
        | refine CallP.isB cl (fun h => ?_) (fun h => ?_) | refine CallP.is known_ok ?_ | refine CallP.mk [] [] [_] _ c1 (List.Perm.refl _) (fun _ h => ⟨h.1, trivial⟩) (fun v L' D' hp => ?_); obtain ⟨a1, c1', rfl, rfl, rfl⟩ := hp | refine AppE.nil (vlC l) l.length rfl rfl rfl (SrcE.sl e 36 _ _ _ _ _ rfl rfl (.inr fun m h => h.2.1) (vlC_len l)) (by dsimp only; omega) (fun a' c' => ?_) | refine AppE.row [_] [] (vlC l) [C.b true, C.s nm, C.s tx] 1 rfl (SrcE.sl 36 36 _ _ 1 1 _ rfl rfl (.inl ⟨1, List.Mem.head _⟩) rfl) (by dsimp only; omega) (fun a' c' => ?_) | refine CallP.mkE [] [] [_] _ _ (c2 _ _) (Ents.drop.trans Ents.toFact) (fun _ h => ⟨h.1, trivial⟩) (fun v L' D' hp => ?_); obtain ⟨a2, c2', rfl, rfl, rfl⟩ := hp | refine CallP.is (g1 _ _) ?_ (fun _ h => ⟨h.1, trivial⟩) | refine CallP.is (g2 _ _) ?_ (fun _ h => ⟨h.2.2.1, trivial⟩) | refine CallP.is (g3 _ _) ?_ (fun _ h => ⟨h.1, trivial⟩) | refine CallP.is t1 ?_ | refine CallP.is t2 ?_ | refine CallP.is t3 ?_ | refine FinE.bool rfl
        | fail
  · refine fn_of_J Tryd.tyOK 0 Tryd.func5 (by kernel_rfl) (c := Tryd.f5.body.getD .skip) (by kernel_rfl) Tryd.ntmps5 (rs := Tryd.f5.results.toList) rfl (by simp) (fun G => ?_)
    repeat' first
      | refine J_seq ?_ | refine J_region Tryd.tyOK ?_ | refine J_block ?_ | refine J_cond ?_ | refine J_ret ?_ | refine J_skip ?_ | refine J_exit ?_ | refine J_scope ?_
      | refine CondP.yes (by omega) ?_ | refine CondP.no (by omega) ?_ | refine CondP.mk (fun h => ?_) (fun h => ?_) | refine EqP.mk rfl ?_ | refine NewP.mk (fun ad => ?_) | refine ArP.exact (by simp only [inR]; omega) ?_ | refine SideP.mk (by first | omega | (dsimp only; omega) | (simp; omega)) ?_
      | refine CallP.isB cl (fun h => ?_) (fun h => ?_) | refine CallP.is known_ok ?_ | refine FinE.bool rfl
      | fail

theorem parameterPlaces_law (e : Nat) (a : Option Addr) (c : Nat) (l : List Bt) (n : Int) (hl : l.length ≤ 9223372036854775807) (hb : ∀ s ∈ l, s.length ≤ 9223372036854775807) (hn : inR .i64 n) : FnS Tryd.prog 6 [.c (.sl a l.length c), .c (.i .i64 n)] [] [slFact e 1 a l.length (l.map C.s)] (Is (.c (.b true))) := by
  have hrd : ∀ L, Reads L [slFact e 1 a l.length (l.map C.s)] e 1 a l.length (l.map C.s) := fun L => .inr fun m h => h.1
  refine fn_of_J Tryd.tyOK 0 Tryd.func6 (by kernel_rfl) (c := Tryd.f6.body.getD .skip) (by kernel_rfl) Tryd.ntmps6 (rs := Tryd.f6.results.toList) rfl (by simp) (fun G => ?_)
  repeat' first
    | refine J_seq ?_ | refine J_region Tryd.tyOK ?_ | refine J_block ?_ | refine J_cond ?_ | refine J_ret ?_ | refine J_skip ?_ | refine J_exit ?_ | refine J_scope ?_
    | refine CondP.yes (by omega) ?_ | refine CondP.no (by omega) ?_ | refine CondP.mk (fun h => ?_) (fun h => ?_) | refine EqP.mk rfl ?_ | refine NewP.mk (fun ad => ?_) | refine ArP.exact (by simp only [inR]; omega) ?_ | refine SideP.mk (by first | omega | (dsimp only; omega) | (simp; omega)) ?_
    | fail
  refine J_loop (α := Nat × Option Addr × Nat) (fun x => [(0, .c (.sl a l.length c)), (1, .c (.i .i64 n)), (5, .c (.sl x.2.1 x.1 x.2.2)), (6, .c (.i .i64 x.1))]) (fun x => [.row 36 3 x.2.1 x.1 x.2.2 (vlC (posV (l.take x.1)))]) (fun _ => [slFact e 1 a l.length (l.map C.s)]) 0
    (fun x => x.1 ≤ l.length ∧ x.1 ≤ 40) (fun x => l.length - x.1) (InFam.mk (0, none, 0) ⟨Nat.zero_le _, Nat.zero_le _⟩ (by repeat' first | exact SubE.nil | refine SubE.cons rfl ?_ ?_ | exact VEq.refl _ | refine VEq.int (by omega) | refine VEq.sl rfl (by first | rfl | omega | (rw [List.length_append]; rfl) | (simp; omega)) rfl) Ents.nilRow) (fun x hi => ?_)
  obtain ⟨k, a1, c1⟩ := x
  dsimp only at hi ⊢
  obtain ⟨hi, hk⟩ := hi
  by_cases hlt : k < l.length ∧ k < 40
  · obtain ⟨hlt, hlt2⟩ := hlt
    have hcm := map_take1 (f := C.s) hlt
    have hsn := posV_snoc hlt
    generalize l[k] = s at *
    repeat' first
      | refine J_seq ?_ | refine J_region Tryd.tyOK ?_ | refine J_block ?_ | refine J_cond ?_ | refine J_ret ?_ | refine J_skip ?_ | refine J_exit ?_ | refine J_scope ?_
      | refine CondP.yes (by omega) ?_ | refine CondP.no (by omega) ?_ | refine CondP.mk (fun h => ?_) (fun h => ?_) | refine EqP.mk rfl ?_ | refine NewP.mk (fun ad => ?_) | refine ArP.exact (by simp only [inR]; omega) ?_ | refine SideP.mk (by first | omega | (dsimp only; omega) | (simp; omega)) ?_
      | refine CallP.is known_ok ?_ | refine IdxE.mk e 1 _ (hrd _) (by omega) (by omega) ?_ | refine LoadE.mk e _ _ _ (hrd _) (by omega) (by omega) (by first | omega | decide) hcm ?_ | refine AppE.row [_] [] (vlC (posV (l.take k))) [C.b false, C.s [120], C.s s] 1 rfl (SrcE.sl 36 36 _ _ 1 1 _ rfl rfl (.inl ⟨1, List.Mem.head _⟩) rfl) (by dsimp only; omega) (fun a' c' => ?_) | refine FinE.bool rfl | refine Round.mk (k + 1, a', c') (by dsimp only; omega) ⟨by dsimp only; omega, by dsimp only; omega⟩ (by repeat' first | exact SubE.nil | refine SubE.cons rfl ?_ ?_ | exact VEq.refl _ | refine VEq.int (by omega) | refine VEq.sl rfl (by first | rfl | omega | (rw [List.length_append]; rfl) | (simp; omega)) rfl) (Ents.drop.trans (Ents.of ?_))
      | fail
    all_goals (dsimp only; rw [hsn, vlC_snoc]; rfl)
  · have htl : (l.take k).length = k := by rw [List.length_take]; omega
    have hvb : VlB (posV (l.take k)) := fun v hv => by
      obtain ⟨t, ht, rfl⟩ := List.mem_map.1 hv
      exact ⟨show (1 : Nat) ≤ 9223372036854775807 by decide, hb t (List.mem_of_mem_take ht)⟩
    have hPl : (bindT (posV (l.take k))).length = k := (bind_pos_len (l.take k) [120]).trans htl
    have cb := bind40_ok 36 a1 c1 (posV (l.take k)) hvb (by rw [posV_len]; omega)
    rw [posV_len, htl, hPl] at cb
    have hget : ∀ j, getA (bindT (posV (l.take k))) (decDigits (j + 1)) = (l.take k)[j]? := fun j => bind_pos_get (l.take k) [120] j
    generalize bindT (posV (l.take k)) = P at *
    by_cases hk0 : k = 0
    · subst hk0
      repeat' first
        | refine CondP.yes rfl ?_
        | refine J_seq ?_ | refine J_region Tryd.tyOK ?_ | refine J_block ?_ | refine J_cond ?_ | refine J_ret ?_ | refine J_skip ?_ | refine J_exit ?_ | refine J_scope ?_
        | refine CondP.yes (by omega) ?_ | refine CondP.no (by omega) ?_ | refine CondP.mk (fun h => ?_) (fun h => ?_) | refine EqP.mk rfl ?_ | refine NewP.mk (fun ad => ?_) | refine ArP.exact (by simp only [inR]; omega) ?_ | refine SideP.mk (by first | omega | (dsimp only; omega) | (simp; omega)) ?_
        | refine CallP.is known_ok ?_ | refine CallP.mkE [] [] [_] _ _ cb Ents.toFact (fun _ h => ⟨h.1, trivial⟩) (fun v L' D' hp => ?_); obtain ⟨a2, c2, rfl, rfl, rfl⟩ := hp | refine FinE.bool rfl
        | fail
    · obtain ⟨j, hjk, hm⟩ : ∃ j : Nat, j < k ∧ (bitsV .and .i64 n 65535).tmod (k : Int) = (j : Int) := by
        have h := andI n
        have h1 : (bitsV .and .i64 n 65535).tmod (k : Int) = (bitsV .and .i64 n 65535) % (k : Int) := Int.tmod_eq_emod_of_nonneg h.1
        have h2 := Int.emod_nonneg (bitsV .and .i64 n 65535) (show (k : Int) ≠ 0 by omega)
        have h3 := Int.emod_lt_of_pos (bitsV .and .i64 n 65535) (show (0 : Int) < k by omega)
        exact ⟨((bitsV .and .i64 n 65535) % (k : Int)).toNat, by omega, by omega⟩
      have hjl : j < l.length := by omega
      have hd : FnS Tryd.prog 16 [.c (.i .i64 ((bitsV .and .i64 n 65535).tmod (k : Int) + 1))] [] [] (Is (.c (.s (decDigits (j + 1))))) := by
        rw [hm]
        exact decimal_ok (j + 1) (by omega)
      have hdl := dec_len (show j + 1 < 100 by omega)
      have hg : ∀ a c, FnS Tryd.prog 15 [.c (.sl a k c), .c (.s (([32] ++ decDigits (j + 1)) ++ [10]))] [] [slFact 33 2 a k (ktC P)] (Is (.t2 (.c (.s l[j])) (.c (.b true)))) := fun a c => by
        have := get_ok 33 a c P (32 :: decDigits (j + 1) ++ [10]) (by omega) (by simp; omega)
        rw [trimT_in (dec_ws _), hget, hPl, List.getElem?_take_of_lt hjk, List.getElem?_eq_getElem hjl] at this
        exact this
      have hcm : ((l.map C.s).drop (((bitsV .and .i64 n 65535).tmod (k : Int)).toNat * 1 + 0)).take 1 = [C.s l[j]] := by
        rw [hm]
        exact map_take1 hjl
      generalize l[j] = s at *
      generalize decDigits (j + 1) = d at *
      repeat' first
        | refine CondP.yes rfl ?_
        | refine J_seq ?_ | refine J_region Tryd.tyOK ?_ | refine J_block ?_ | refine J_cond ?_ | refine J_ret ?_ | refine J_skip ?_ | refine J_exit ?_ | refine J_scope ?_
        | refine CondP.yes (by omega) ?_ | refine CondP.no (by omega) ?_ | refine CondP.mk (fun h => ?_) (fun h => ?_) | refine EqP.mk rfl ?_ | refine NewP.mk (fun ad => ?_) | refine ArP.exact (by simp only [inR]; omega) ?_ | refine SideP.mk (by first | omega | (dsimp only; omega) | (simp; omega)) ?_
        | refine CallP.is known_ok ?_ | refine CallP.mkE [] [] [_] _ _ cb Ents.toFact (fun _ h => ⟨h.1, trivial⟩) (fun v L' D' hp => ?_); obtain ⟨a2, c2, rfl, rfl, rfl⟩ := hp | refine ArP.exact (by simp only [inR, hm]; omega) ?_ | refine CallP.is hd ?_ | refine CallP.is (hg _ _) ?_ (fun _ h => ⟨h.1, trivial⟩) | refine IdxE.mk e 1 _ (.inr fun m h => h.2.2.1) (by rw [hm]; omega) (by rw [hm]; omega) ?_ | refine LoadE.mk e _ _ _ (.inr fun m h => h.2.2.1) (by rw [hm]; omega) (by rw [hm]; omega) (by first | omega | decide) hcm ?_ | refine FinE.bool rfl
        | fail

end Go.Proofs
