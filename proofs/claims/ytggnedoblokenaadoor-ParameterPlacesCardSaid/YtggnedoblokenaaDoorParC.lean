/- This text walks through the binding of parameters, in the package parameter and in the reference of chapter 10. -/
import Derived.Test.YtggnedoblokenaaDoorParB
set_option linter.all false

namespace Go.X
open Go Go.Lib

def embK (ks : List KT) : Kv := ks.map fun x => (x.1, V.c (.s x.2))
theorem embK_set : ∀ (ks : List KT) (k t : Bt), kvPut (embK ks) k (.c (.s t)) = embK (setT ks k t)
  | [], _, _ => rfl
  | x :: r, k, t => by
    have ih := embK_set r k t
    simp only [embK, List.map_cons, kvPut, setT] at ih ⊢
    split
    · rfl
    · rw [ih]; rfl
theorem embK_get : ∀ (ks : List KT) (k : Bt), kvGet (embK ks) k = (getA ks k).map fun t => V.c (.s t)
  | [], _ => rfl
  | x :: r, k => by
    have ih := embK_get r k
    simp only [embK, List.map_cons, kvGet, getA] at ih ⊢
    split
    · rfl
    · exact ih
theorem embK_keys (ks : List KT) : (embK ks).map (·.1) = keysT ks := by unfold embK keysT; rw [List.map_map]; rfl
theorem LookP.is {kv : Kv} {key : List UInt8} {A : V → Prop} {B : Prop} {v : V} (h : kvGet kv key = some v) (k : A v) : LookP kv key A B :=
  ⟨fun u hu => by rw [h] at hu; cases hu; exact k, fun hn => by rw [h] at hn; cases hn⟩

theorem sortT_len (ks : List KT) : (sortT ks).length = ks.length := by
  have := congrArg List.length (keys_sortT ks)
  rw [List.length_mergeSort] at this
  simpa [keysT] using this
theorem sortT_at {ks : List KT} {i : Nat} (h : i < (sortT ks).length) : kvGet (embK ks) (sortT ks)[i].1 = some (.c (.s (sortT ks)[i].2)) := by
  have hk : (sortT ks)[i].1 ∈ keysT ks := by
    have h1 : (sortT ks)[i].1 ∈ keysT (sortT ks) := List.mem_map.2 ⟨_, List.getElem_mem h, rfl⟩
    rw [keys_sortT] at h1
    exact List.mem_mergeSort.1 h1
  have h2 : ∀ x ∈ sortT ks, x.2 = (getA ks x.1).getD [] := fun x hx => by
    obtain ⟨k, _, rfl⟩ := List.mem_map.1 hx
    rfl
  have h2 := h2 _ (List.getElem_mem h)
  rw [embK_get, h2]
  cases hg : getA ks (sortT ks)[i].1 with
  | none => exact absurd hk (getA_none.1 hg)
  | some t => rfl

theorem allR_cons (p : KT) (ps out : List KT) : allR (p :: ps) out = allR ps (putA out false p.1 p.2) := rfl
theorem allK_cons (p : KT) (ps out : List KT) : allK (p :: ps) out = allK ps (setT out p.1 p.2) := rfl

theorem allK_keys : ∀ (ps out : List KT), ∀ k ∈ keysT (allK ps out), k ∈ keysT out ∨ k ∈ keysT ps
  | [], _, k, hk => .inl hk
  | p :: ps, out, k, hk => by
    rcases allK_keys ps _ k hk with h | h
    · rw [keys_setT] at h
      split at h
      · exact .inl h
      · rcases List.mem_append.1 h with h | h
        · exact .inl h
        · exact .inr (by rw [keysT_cons, List.mem_singleton.1 h]; exact List.mem_cons_self ..)
    · exact .inr (by rw [keysT_cons]; exact List.mem_cons_of_mem _ h)
/-- What arguments have for sizes. -/
def VlB (l : List Vl) : Prop := ∀ v ∈ l, v.2.1.length ≤ 9223372036854775807 ∧ v.2.2.length ≤ 9223372036854775807
theorem dec_len {u : Nat} (h : u < 100) : (decDigits u).length ≤ 2 := by
  by_cases h1 : u < 10
  · rw [decDigits_one h1]; simp
  · rw [decDigits_two h1 h]; simp
theorem puts_keylen : ∀ (l : List Vl) (n : Nat), VlB l → n + l.length < 100 → ∀ k ∈ keysT (putsT l n), k.length ≤ 9223372036854775807
  | [], _, _, _, k, hk => by simp [putsT, keysT] at hk
  | v :: r, n, hb, hn, k, hk => by
    have hr : VlB r := fun x hx => hb x (List.mem_cons_of_mem _ hx)
    have hv := hb v (List.mem_cons_self ..)
    simp only [List.length_cons] at hn
    simp only [putsT] at hk
    split at hk
    · rcases List.mem_cons.1 hk with h | h
      · rw [h]; exact Nat.le_trans (trimT_len _) hv.1
      · exact puts_keylen r _ hr (by omega) k h
    · rcases List.mem_cons.1 hk with h | h
      · rw [h]; exact Nat.le_trans (dec_len (by omega)) (by decide)
      · exact puts_keylen r _ hr (by omega) k h

def bindV (l : List Vl) : List KT × Int := if l.length ≤ 40 then (bindT l, 0) else ([], 8)

end Go.X

namespace Go.Proofs
open Go Go.X Go.Lib
set_option maxRecDepth 100000
set_option maxHeartbeats 4000000

def BindP (l : List Vl) : V → List Chunk → List Fact → Prop := fun v L D => ∃ a c, v = .t2 (.c (.sl a (bindV l).1.length c)) (.c (.i .i64 (bindV l).2)) ∧ L = [] ∧ D = [slFact 33 2 a (bindV l).1.length (ktC (bindV l).1)]

theorem refBind_ok (e : Nat) (a : Option Addr) (c : Nat) (l : List Vl) (hb : VlB l) :
    FnS Tryd.prog 11 [.c (.sl a l.length c)] [] [slFact e 3 a l.length (vlC l)] (BindP l) := by
  unfold BindP bindV
  by_cases hbig : l.length ≤ 40
  · rw [if_pos hbig]
    dsimp only
    generalize hP : bindT l = P
    refine fn_of_J Tryd.tyOK 0 Tryd.func11 (by kernel_rfl) (c := Tryd.f11.body.getD .skip) (by kernel_rfl) Tryd.ntmps11 (rs := Tryd.f11.results.toList) rfl (by simp) (fun G => ?_)
    repeat' first
      | refine J_seq ?_ | refine J_region Tryd.tyOK ?_ | refine J_block ?_ | refine J_cond ?_ | refine J_ret ?_ | refine J_skip ?_ | refine J_exit ?_ | refine J_scope ?_
      | refine CondP.yes (by omega) ?_ | refine CondP.no (by omega) ?_ | refine CondP.mk (fun h => ?_) (fun h => ?_) | refine EqP.mk rfl ?_ | refine NewP.mk (fun ad => ?_) | refine ArP.exact (by simp only [inR]; omega) ?_ | refine SideP.mk (by first | omega | (dsimp only; omega) | (simp; omega)) ?_
      | fail
    refine J_loop (α := Nat × Nat × List KT × Option Addr × Nat) (fun x => [(0, .c (.sl a l.length c)), (4, .c (.sl x.2.2.2.1 x.2.2.1.length x.2.2.2.2)), (5, .c (.i .i64 x.2.1)), (6, .c (.i .i64 x.1))]) (fun _ => []) (fun x => [slFact 33 2 x.2.2.2.1 x.2.2.1.length (ktC x.2.2.1), slFact e 3 a l.length (vlC l)]) 0
      (fun x => x.1 ≤ l.length ∧ x.2.1 ≤ x.1 ∧ x.2.2.1.length ≤ x.1 ∧ P = allR (putsT (l.drop x.1) x.2.1) x.2.2.1) (fun x => l.length - x.1) (InFam.mk (0, 0, [], none, 0) ⟨Nat.zero_le _, Nat.zero_le _, Nat.zero_le _, hP.symm⟩ (by repeat' first | exact SubE.nil | refine SubE.cons rfl ?_ ?_ | exact VEq.refl _ | refine VEq.int (by omega) | refine VEq.sl rfl (by first | rfl | omega | (rw [List.length_append]; rfl) | (simp; omega)) rfl) (Ents.nilRow.trans Ents.toFact)) (fun x hi => ?_)
    obtain ⟨i, n, out, a1, c1⟩ := x
    dsimp only at hi ⊢
    obtain ⟨hi, hn, ho, he⟩ := hi
    have hrd : ∀ L, Reads L [slFact 33 2 a1 out.length (ktC out), slFact e 3 a l.length (vlC l)] e 3 a l.length (vlC l) := fun L => .inr fun m h => h.2.1
    by_cases hlt : i < l.length
    · have hg0 := vl_get0 hlt
      have hg1 := vl_get1 hlt
      have hg2 := vl_get2 hlt
      have hbd := hb _ (List.getElem_mem hlt)
      rw [List.drop_eq_getElem_cons hlt] at he
      generalize l[i] = x at *
      obtain ⟨nd, xn, xt⟩ := x
      dsimp only at hbd hg0 hg1 hg2
      cases nd with
      | true =>
        rw [putsT, if_pos rfl, allR_cons] at he
        dsimp only at he
        have t1 := refTrim_ok xn hbd.1
        have t2 := refTrim_ok xt hbd.2
        generalize trimT xn = kn at *
        generalize trimT xt = kt at *
        have cp := put_ok 33 a1 c1 out kn kt (by omega)
        have hlen := len_putA out kn kt
        generalize putA out false kn kt = out' at *
        repeat' first
          | refine J_seq ?_ | refine J_region Tryd.tyOK ?_ | refine J_block ?_ | refine J_cond ?_ | refine J_ret ?_ | refine J_skip ?_ | refine J_exit ?_ | refine J_scope ?_
          | refine CondP.yes (by omega) ?_ | refine CondP.no (by omega) ?_ | refine CondP.mk (fun h => ?_) (fun h => ?_) | refine EqP.mk rfl ?_ | refine NewP.mk (fun ad => ?_) | refine ArP.exact (by simp only [inR]; omega) ?_ | refine SideP.mk (by first | omega | (dsimp only; omega) | (simp; omega)) ?_
          | refine J_drawS (id := 9) Tryd.tyOK (by kernel_rfl) [0, 0, 0, 6, 14, 30, 62, 0, 0, 384, 896, 1920, 4094, 8191, 16383] [0, 1, 2, 3, 4, 5, 6, 7, 8, 9, 10, 11, 12, 13, 14] [13] [24, 30] true (by kernel_rfl) ?_ | refine J_drawS (id := 11) Tryd.tyOK (by kernel_rfl) [0, 0, 2, 0, 0, 24, 56, 120, 255, 511] [0, 1, 2, 3, 4, 5, 6, 7, 8, 9] [8] [42] true (by kernel_rfl) ?_ | refine EntP.mk (Ents.ofSub (by repeat (first | exact List.Sublist.slnil | refine List.Sublist.cons_cons _ ?_ | refine List.Sublist.cons _ ?_)) (by first | exact fun _ h => h | exact fun _ _ => trivial | exact fun _ h => h.2 | exact fun _ h => h.2.2.2.2 | exact fun _ h => ((allD_append _ _).1 h).2)) ?_ | refine IdxE.mk e 3 _ (hrd _) (by omega) (by omega) ?_ | refine FldE.mk e 3 _ _ (hrd _) (by omega) ?_ | refine LoadE.mk e _ _ _ (hrd _) (by omega) (by omega) (by first | omega | decide) hg0 ?_ | refine LoadE.mk e _ _ _ (hrd _) (by omega) (by omega) (by first | omega | decide) hg1 ?_ | refine LoadE.mk e _ _ _ (hrd _) (by omega) (by omega) (by first | omega | decide) hg2 ?_ | refine CallQ.mk _ _ t1 (fun _ _ => trivial) ?_ | refine CallQ.mk _ _ t2 (fun _ _ => trivial) ?_ | refine CallP.mk [] [] [_] _ cp (List.Perm.refl _) (fun _ h => ⟨h.1, trivial⟩) (fun v L' D' hp => ?_); obtain ⟨a', c', rfl, rfl, rfl⟩ := hp | refine Round.mk (i + 1, n, out', a', c') (by dsimp only; omega) ⟨by dsimp only; omega, by dsimp only; omega, by dsimp only; omega, he⟩ (by repeat' first | exact SubE.nil | refine SubE.cons rfl ?_ ?_ | exact VEq.refl _ | refine VEq.int (by omega) | refine VEq.sl rfl (by first | rfl | omega | (rw [List.length_append]; rfl) | (simp; omega)) rfl) (Ents.facts fun _ h => ⟨h.1, h.2.2.1, trivial⟩)
          | fail
      | false =>
        rw [putsT, if_neg (by simp), allR_cons] at he
        dsimp only at he
        have t1 : FnS Tryd.prog 16 [.c (.i .i64 ((n : Int) + 1))] [] [] (Is (.c (.s (decDigits (n + 1))))) := by
          have := decimal_ok (n + 1) (by omega)
          rwa [show ((n + 1 : Nat) : Int) = (n : Int) + 1 from by omega] at this
        generalize decDigits (n + 1) = kn at *
        have cp := put_ok 33 a1 c1 out kn xt (by omega)
        have hlen := len_putA out kn xt
        generalize putA out false kn xt = out' at *
        repeat' first
          | refine J_seq ?_ | refine J_region Tryd.tyOK ?_ | refine J_block ?_ | refine J_cond ?_ | refine J_ret ?_ | refine J_skip ?_ | refine J_exit ?_ | refine J_scope ?_
          | refine CondP.yes (by omega) ?_ | refine CondP.no (by omega) ?_ | refine CondP.mk (fun h => ?_) (fun h => ?_) | refine EqP.mk rfl ?_ | refine NewP.mk (fun ad => ?_) | refine ArP.exact (by simp only [inR]; omega) ?_ | refine SideP.mk (by first | omega | (dsimp only; omega) | (simp; omega)) ?_
          | refine J_drawS (id := 9) Tryd.tyOK (by kernel_rfl) [0, 0, 0, 6, 14, 30, 62, 0, 0, 384, 896, 1920, 4094, 8191, 16383] [0, 1, 2, 3, 4, 5, 6, 7, 8, 9, 10, 11, 12, 13, 14] [13] [24, 30] true (by kernel_rfl) ?_ | refine J_drawS (id := 11) Tryd.tyOK (by kernel_rfl) [0, 0, 2, 0, 0, 24, 56, 120, 255, 511] [0, 1, 2, 3, 4, 5, 6, 7, 8, 9] [8] [42] true (by kernel_rfl) ?_ | refine EntP.mk (Ents.ofSub (by repeat (first | exact List.Sublist.slnil | refine List.Sublist.cons_cons _ ?_ | refine List.Sublist.cons _ ?_)) (by first | exact fun _ h => h | exact fun _ _ => trivial | exact fun _ h => h.2 | exact fun _ h => h.2.2.2.2 | exact fun _ h => ((allD_append _ _).1 h).2)) ?_ | refine IdxE.mk e 3 _ (hrd _) (by omega) (by omega) ?_ | refine FldE.mk e 3 _ _ (hrd _) (by omega) ?_ | refine LoadE.mk e _ _ _ (hrd _) (by omega) (by omega) (by first | omega | decide) hg0 ?_ | refine LoadE.mk e _ _ _ (hrd _) (by omega) (by omega) (by first | omega | decide) hg2 ?_ | refine CallQ.mk _ _ t1 (fun _ _ => trivial) ?_ | refine CallP.mk [] [] [_] _ cp (List.Perm.refl _) (fun _ h => ⟨h.1, trivial⟩) (fun v L' D' hp => ?_); obtain ⟨a', c', rfl, rfl, rfl⟩ := hp | refine Round.mk (i + 1, n + 1, out', a', c') (by dsimp only; omega) ⟨by dsimp only; omega, by dsimp only; omega, by dsimp only; omega, he⟩ (by repeat' first | exact SubE.nil | refine SubE.cons rfl ?_ ?_ | exact VEq.refl _ | refine VEq.int (by omega) | refine VEq.sl rfl (by first | rfl | omega | (rw [List.length_append]; rfl) | (simp; omega)) rfl) (Ents.facts fun _ h => ⟨h.1, h.2.2.1, trivial⟩)
          | fail
    · have hil : i = l.length := by omega
      subst hil
      rw [List.drop_length] at he
      have he : P = out := he
      subst he
      repeat' first
        | refine J_seq ?_ | refine J_region Tryd.tyOK ?_ | refine J_block ?_ | refine J_cond ?_ | refine J_ret ?_ | refine J_skip ?_ | refine J_exit ?_ | refine J_scope ?_
        | refine CondP.yes (by omega) ?_ | refine CondP.no (by omega) ?_ | refine CondP.mk (fun h => ?_) (fun h => ?_) | refine EqP.mk rfl ?_ | refine NewP.mk (fun ad => ?_) | refine ArP.exact (by simp only [inR]; omega) ?_ | refine SideP.mk (by first | omega | (dsimp only; omega) | (simp; omega)) ?_
        | refine FinE.mk [] [_] ⟨a1, c1, rfl, rfl, rfl⟩ (Ents.facts fun _ h => ⟨h.1, trivial⟩)
        | fail
  · rw [if_neg hbig]
    dsimp only
    refine fn_of_J Tryd.tyOK 0 Tryd.func11 (by kernel_rfl) (c := Tryd.f11.body.getD .skip) (by kernel_rfl) Tryd.ntmps11 (rs := Tryd.f11.results.toList) rfl (by simp) (fun G => ?_)
    repeat' first
      | refine J_seq ?_ | refine J_region Tryd.tyOK ?_ | refine J_block ?_ | refine J_cond ?_ | refine J_ret ?_ | refine J_skip ?_ | refine J_exit ?_ | refine J_scope ?_
      | refine CondP.yes (by omega) ?_ | refine CondP.no (by omega) ?_ | refine CondP.mk (fun h => ?_) (fun h => ?_) | refine EqP.mk rfl ?_ | refine NewP.mk (fun ad => ?_) | refine ArP.exact (by simp only [inR]; omega) ?_ | refine SideP.mk (by first | omega | (dsimp only; omega) | (simp; omega)) ?_
      | refine FinE.mk [] [_] ⟨none, 0, rfl, rfl, rfl⟩ (Ents.nilRow.trans (Ents.toFact.trans (Ents.facts fun _ h => ⟨h.1, trivial⟩)))
      | fail

theorem bind_ok (e : Nat) (a : Option Addr) (c : Nat) (l : List Vl) (hb : VlB l) :
    FnS Tryd.prog 10 [.c (.sl a l.length c)] [] [slFact e 3 a l.length (vlC l)] (BindP l) := by
  unfold BindP bindV
  by_cases hbig : l.length ≤ 40
  · rw [if_pos hbig]
    dsimp only
    rw [← bind_law]
    have hrd : ∀ L, Reads L [slFact e 3 a l.length (vlC l)] e 3 a l.length (vlC l) := fun L => .inr fun m h => h.1
    have hall := all_law (putsT l 0) [] [] List.nodup_nil List.Pairwise.nil fun _ => rfl
    have hnd := hall.1
    have hal : (allK (putsT l 0) []).length ≤ 40 := by
      have h1 := bind_len l
      rw [← bind_law, sortT_len] at h1
      omega
    have hkl : ∀ k ∈ keysT (allK (putsT l 0) []), k.length ≤ 9223372036854775807 := fun k hk => by
      rcases allK_keys _ _ k hk with h | h
      · simp [keysT] at h
      · exact puts_keylen l 0 hb (by omega) k h
    generalize hP : allK (putsT l 0) [] = P at *
    clear hall
    refine fn_of_J Tryd.tyOK 0 Tryd.func10 (by kernel_rfl) (c := Tryd.f10.body.getD .skip) (by kernel_rfl) Tryd.ntmps10 (rs := Tryd.f10.results.toList) rfl (by simp) (fun G => ?_)
    repeat' first
      | refine J_seq ?_ | refine J_region Tryd.tyOK ?_ | refine J_block ?_ | refine J_cond ?_ | refine J_ret ?_ | refine J_skip ?_ | refine J_exit ?_ | refine J_scope ?_
      | refine CondP.yes (by omega) ?_ | refine CondP.no (by omega) ?_ | refine CondP.mk (fun h => ?_) (fun h => ?_) | refine EqP.mk rfl ?_ | refine NewP.mk (fun ad => ?_) | refine ArP.exact (by simp only [inR]; omega) ?_ | refine SideP.mk (by first | omega | (dsimp only; omega) | (simp; omega)) ?_
      | fail
    refine J_loop (α := Nat × Nat × List KT) (fun x => [(4, .c (.m 0 ad)), (5, .c (.i .i64 x.2.1)), (15, .c (.sl a l.length c)), (16, .c (.i .i64 l.length)), (17, .c (.i .i64 x.1))]) (fun x => [.obj 0 ad (mapO (embK x.2.2))]) (fun _ => [slFact e 3 a l.length (vlC l)]) 1
      (fun x => x.1 ≤ l.length ∧ x.2.1 ≤ x.1 ∧ P = allK (putsT (l.drop x.1) x.2.1) x.2.2) (fun x => l.length - x.1) (InFam.mk (0, 0, []) ⟨Nat.zero_le _, Nat.zero_le _, hP.symm⟩ (by repeat' first | exact SubE.nil | refine SubE.cons rfl ?_ ?_ | exact VEq.refl _ | refine VEq.int (by omega) | refine VEq.sl rfl (by first | rfl | omega | (rw [List.length_append]; rfl) | (simp; omega)) rfl) (Ents.refl _ _)) (fun x hi => ?_)
    obtain ⟨i, n, ks⟩ := x
    dsimp only at hi ⊢
    obtain ⟨hi, hn, he⟩ := hi
    by_cases hlt : i < l.length
    · have hg := vl_get hlt
      have hbd := hb _ (List.getElem_mem hlt)
      rw [List.drop_eq_getElem_cons hlt] at he
      generalize l[i] = x at *
      obtain ⟨nd, xn, xt⟩ := x
      dsimp only at hbd
      cases nd with
      | true =>
        rw [putsT, if_pos rfl, allK_cons] at he
        dsimp only at he
        have t1 := strTrim_ok xn hbd.1
        have t2 := strTrim_ok xt hbd.2
        generalize trimT xn = kn at *
        generalize trimT xt = kt at *
        have hset := embK_set ks kn kt
        repeat' first
          | refine J_seq ?_ | refine J_region Tryd.tyOK ?_ | refine J_block ?_ | refine J_cond ?_ | refine J_ret ?_ | refine J_skip ?_ | refine J_exit ?_ | refine J_scope ?_
          | refine CondP.yes (by omega) ?_ | refine CondP.no (by omega) ?_ | refine CondP.mk (fun h => ?_) (fun h => ?_) | refine EqP.mk rfl ?_ | refine NewP.mk (fun ad => ?_) | refine ArP.exact (by simp only [inR]; omega) ?_ | refine SideP.mk (by first | omega | (dsimp only; omega) | (simp; omega)) ?_
          | refine J_drawS (id := 9) Tryd.tyOK (by kernel_rfl) [0, 0, 2, 6, 0, 16, 62, 127] [0, 1, 2, 3, 4, 5, 6, 7] [7] [7] true (by kernel_rfl) ?_ | refine J_drawS (id := 11) Tryd.tyOK (by kernel_rfl) [0, 0, 2, 0, 8, 31] [0, 1, 2, 3, 4, 5] [5] [7] true (by kernel_rfl) ?_ | refine EntP.mk (Ents.ofSub (by repeat (first | exact List.Sublist.slnil | refine List.Sublist.cons_cons _ ?_ | refine List.Sublist.cons _ ?_)) (by first | exact fun _ h => h | exact fun _ _ => trivial | exact fun _ h => h.2 | exact fun _ h => h.2.2.2.2 | exact fun _ h => ((allD_append _ _).1 h).2)) ?_ | refine IdxE.mk e 3 _ (hrd _) (by omega) (by omega) ?_ | refine LoadE.mk e _ _ _ (hrd _) (by omega) (by omega) (by first | omega | decide) hg ?_ | refine CallQ.mk _ _ t1 (fun _ _ => trivial) ?_ | refine CallQ.mk _ _ t2 (fun _ _ => trivial) ?_ | refine MapE.mk _ rfl rfl ?_ | refine Round.mk (i + 1, n, setT ks kn kt) (by dsimp only; omega) ⟨by dsimp only; omega, by dsimp only; omega, he⟩ (by repeat' first | exact SubE.nil | refine SubE.cons rfl ?_ ?_ | exact VEq.refl _ | refine VEq.int (by omega) | refine VEq.sl rfl (by first | rfl | omega | (rw [List.length_append]; rfl) | (simp; omega)) rfl) (Ents.drop.trans (Ents.of ?_))
          | fail
        all_goals exact congrArg (fun z => [Chunk.obj 0 _ (mapO z)]) hset
      | false =>
        rw [putsT, if_neg (by simp), allK_cons] at he
        dsimp only at he
        have t1 : FnS Tryd.prog 21 [.c (.i .i64 ((n : Int) + 1))] [] [] (Is (.c (.s (decDigits (n + 1))))) := by
          have := itoa_ok (n + 1) (by omega)
          rwa [show ((n + 1 : Nat) : Int) = (n : Int) + 1 from by omega] at this
        generalize decDigits (n + 1) = kn at *
        have hset := embK_set ks kn xt
        repeat' first
          | refine J_seq ?_ | refine J_region Tryd.tyOK ?_ | refine J_block ?_ | refine J_cond ?_ | refine J_ret ?_ | refine J_skip ?_ | refine J_exit ?_ | refine J_scope ?_
          | refine CondP.yes (by omega) ?_ | refine CondP.no (by omega) ?_ | refine CondP.mk (fun h => ?_) (fun h => ?_) | refine EqP.mk rfl ?_ | refine NewP.mk (fun ad => ?_) | refine ArP.exact (by simp only [inR]; omega) ?_ | refine SideP.mk (by first | omega | (dsimp only; omega) | (simp; omega)) ?_
          | refine J_drawS (id := 9) Tryd.tyOK (by kernel_rfl) [0, 0, 2, 6, 0, 16, 62, 127] [0, 1, 2, 3, 4, 5, 6, 7] [7] [7] true (by kernel_rfl) ?_ | refine J_drawS (id := 11) Tryd.tyOK (by kernel_rfl) [0, 0, 2, 0, 8, 31] [0, 1, 2, 3, 4, 5] [5] [7] true (by kernel_rfl) ?_ | refine EntP.mk (Ents.ofSub (by repeat (first | exact List.Sublist.slnil | refine List.Sublist.cons_cons _ ?_ | refine List.Sublist.cons _ ?_)) (by first | exact fun _ h => h | exact fun _ _ => trivial | exact fun _ h => h.2 | exact fun _ h => h.2.2.2.2 | exact fun _ h => ((allD_append _ _).1 h).2)) ?_ | refine IdxE.mk e 3 _ (hrd _) (by omega) (by omega) ?_ | refine LoadE.mk e _ _ _ (hrd _) (by omega) (by omega) (by first | omega | decide) hg ?_ | refine CallQ.mk _ _ t1 (fun _ _ => trivial) ?_ | refine MapE.mk _ rfl rfl ?_ | refine Round.mk (i + 1, n + 1, setT ks kn xt) (by dsimp only; omega) ⟨by dsimp only; omega, by dsimp only; omega, he⟩ (by repeat' first | exact SubE.nil | refine SubE.cons rfl ?_ ?_ | exact VEq.refl _ | refine VEq.int (by omega) | refine VEq.sl rfl (by first | rfl | omega | (rw [List.length_append]; rfl) | (simp; omega)) rfl) (Ents.drop.trans (Ents.of ?_))
          | fail
        all_goals exact congrArg (fun z => [Chunk.obj 0 _ (mapO z)]) hset
    · have hil : i = l.length := by omega
      subst hil
      rw [List.drop_length] at he
      have he : P = ks := he
      subst he
      have hTl := sortT_len P
      have hat := @sortT_at P
      have hk1 := keys_sortT P
      generalize hT : sortT P = T at *
      have ck := keysOf_ok 0 ad
      have cs := fun b => sortedKeys_ok 9 b 0 ad (embK P) (by rw [embK_keys]; exact hnd) (fun y hy => hkl _ (by rw [← embK_keys]; exact List.mem_map.2 ⟨y, hy, rfl⟩)) (by unfold embK; rw [List.length_map]; omega)
      have hlen : (embK P).length = T.length := by unfold embK; rw [List.length_map]; omega
      rw [embK_keys, ← hk1, hlen] at cs
      have hT40 : T.length ≤ 40 := by omega
      generalize embK P = kv at *
      repeat' first
        | refine J_seq ?_ | refine J_region Tryd.tyOK ?_ | refine J_block ?_ | refine J_cond ?_ | refine J_ret ?_ | refine J_skip ?_ | refine J_exit ?_ | refine J_scope ?_
        | refine CondP.yes (by omega) ?_ | refine CondP.no (by omega) ?_ | refine CondP.mk (fun h => ?_) (fun h => ?_) | refine EqP.mk rfl ?_ | refine NewP.mk (fun ad => ?_) | refine ArP.exact (by simp only [inR]; omega) ?_ | refine SideP.mk (by first | omega | (dsimp only; omega) | (simp; omega)) ?_
        | refine CallP.mk [] [_] [] _ ck (List.Perm.refl _) (fun _ _ => trivial) (fun v L' D' hp => ?_); obtain ⟨b, rfl, rfl, rfl⟩ := hp | refine CallP.mk [_, _] [] [] _ (cs _) (List.Perm.refl _) (fun _ _ => trivial) (fun v L' D' hp => ?_); obtain ⟨a2, c2, rfl, rfl, rfl⟩ := hp
        | fail
      refine J_loop (α := Nat × Option Addr × Nat) (fun x => [(4, .c (.m 0 ad)), (8, .c (.sl x.2.1 x.1 x.2.2)), (40, .c (.sl a2 T.length c2)), (41, .c (.i .i64 T.length)), (42, .c (.i .i64 x.1))]) (fun x => [.row 33 2 x.2.1 x.1 x.2.2 (ktC (T.take x.1)), .obj 0 ad (mapO kv)]) (fun _ => [slFact 9 1 a2 T.length ((keysT T).map C.s)]) 1
        (fun x => x.1 ≤ T.length) (fun x => T.length - x.1) (InFam.mk (0, none, 0) (Nat.zero_le _) (by repeat' first | exact SubE.nil | refine SubE.cons rfl ?_ ?_ | exact VEq.refl _ | refine VEq.int (by omega) | refine VEq.sl rfl (by first | rfl | omega | (rw [List.length_append]; rfl) | (simp; omega)) rfl) ?_) (fun x hi => ?_)
      · exact Ents.toFact.trans (Ents.drop.trans (Ents.nilRow.trans (Ents.facts fun _ h => ⟨h.1, trivial⟩)))
      obtain ⟨i, a3, c3⟩ := x
      dsimp only at hi ⊢
      have hr2 : ∀ L, Reads L [slFact 9 1 a2 T.length ((keysT T).map C.s)] 9 1 a2 T.length ((keysT T).map C.s) := fun L => .inr fun m h => h.1
      by_cases hlt : i < T.length
      · have hlk : i < (keysT T).length := by unfold keysT; rw [List.length_map]; exact hlt
        have hcm := map_take1 (f := C.s) hlk
        have hgk : (keysT T)[i] = T[i].1 := by simp [keysT]
        rw [hgk] at hcm
        have hgt := hat hlt
        have hsn : ktC (T.take (i + 1)) = ktC (T.take i) ++ T[i].cells := by rw [List.take_succ_eq_append_getElem hlt, ktC_snoc]
        generalize T[i] = x at *
        obtain ⟨xn, xt⟩ := x
        dsimp only at hgt hcm
        repeat' first
          | refine LookP.is hgt ?_
          | refine J_seq ?_ | refine J_region Tryd.tyOK ?_ | refine J_block ?_ | refine J_cond ?_ | refine J_ret ?_ | refine J_skip ?_ | refine J_exit ?_ | refine J_scope ?_
          | refine CondP.yes (by omega) ?_ | refine CondP.no (by omega) ?_ | refine CondP.mk (fun h => ?_) (fun h => ?_) | refine EqP.mk rfl ?_ | refine NewP.mk (fun ad => ?_) | refine ArP.exact (by simp only [inR]; omega) ?_ | refine SideP.mk (by first | omega | (dsimp only; omega) | (simp; omega)) ?_
          | refine IdxE.mk 9 1 _ (hr2 _) (by omega) (by omega) ?_ | refine LoadE.mk 9 _ _ _ (hr2 _) (by omega) (by omega) (by first | omega | decide) hcm ?_ | refine MapE.mk _ rfl rfl ?_ | refine AppE.row [_] [_] (ktC (T.take i)) [C.s xn, C.s xt] 1 rfl (SrcE.sl 33 33 _ _ 1 1 _ rfl rfl (.inl ⟨1, List.Mem.head _⟩) rfl) (by dsimp only; omega) (fun a' c' => ?_) | refine Round.mk (i + 1, a', c') (by dsimp only; omega) (by dsimp only; omega) (by repeat' first | exact SubE.nil | refine SubE.cons rfl ?_ ?_ | exact VEq.refl _ | refine VEq.int (by omega) | refine VEq.sl rfl (by first | rfl | omega | (rw [List.length_append]; rfl) | (simp; omega)) rfl) (Ents.drop.trans (Ents.of ?_))
          | fail
        all_goals (dsimp only; rw [hsn]; rfl)
      · have hil : i = T.length := by omega
        subst hil
        rw [List.take_length]
        repeat' first
          | refine J_seq ?_ | refine J_region Tryd.tyOK ?_ | refine J_block ?_ | refine J_cond ?_ | refine J_ret ?_ | refine J_skip ?_ | refine J_exit ?_ | refine J_scope ?_
          | refine CondP.yes (by omega) ?_ | refine CondP.no (by omega) ?_ | refine CondP.mk (fun h => ?_) (fun h => ?_) | refine EqP.mk rfl ?_ | refine NewP.mk (fun ad => ?_) | refine ArP.exact (by simp only [inR]; omega) ?_ | refine SideP.mk (by first | omega | (dsimp only; omega) | (simp; omega)) ?_
          | refine FinE.mk [] [_] ⟨a3, c3, rfl, rfl, rfl⟩ (Ents.toFact.trans (Ents.drop.trans (Ents.facts fun _ h => ⟨h.1, trivial⟩)))
          | fail
  · rw [if_neg hbig]
    dsimp only
    refine fn_of_J Tryd.tyOK 0 Tryd.func10 (by kernel_rfl) (c := Tryd.f10.body.getD .skip) (by kernel_rfl) Tryd.ntmps10 (rs := Tryd.f10.results.toList) rfl (by simp) (fun G => ?_)
    repeat' first
      | refine J_seq ?_ | refine J_region Tryd.tyOK ?_ | refine J_block ?_ | refine J_cond ?_ | refine J_ret ?_ | refine J_skip ?_ | refine J_exit ?_ | refine J_scope ?_
      | refine CondP.yes (by omega) ?_ | refine CondP.no (by omega) ?_ | refine CondP.mk (fun h => ?_) (fun h => ?_) | refine EqP.mk rfl ?_ | refine NewP.mk (fun ad => ?_) | refine ArP.exact (by simp only [inR]; omega) ?_ | refine SideP.mk (by first | omega | (dsimp only; omega) | (simp; omega)) ?_
      | refine FinE.mk [] [_] ⟨none, 0, rfl, rfl, rfl⟩ (Ents.nilRow.trans (Ents.toFact.trans (Ents.facts fun _ h => ⟨h.1, trivial⟩)))
      | fail

end Go.Proofs
