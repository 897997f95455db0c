/- This text walks through the function Find of the reference of chapter 35. -/
import Derived.Test.YthknndkjnglegaaGreatG18
import Derived.Test.YthknndkjnglegaaGreatG22
set_option linter.all false

namespace Go.X
open Go Go.Lib Go.Proofs
theorem firsts_at {α : Type} [DecidableEq α] {all : List α} {i : Nat} (h : i < all.length) : firsts (all.take i) (all.drop i) = (if all[i] ∈ all.take i then [] else [all[i]]) ++ firsts (all.take (i + 1)) (all.drop (i + 1)) := by
  rw [List.drop_eq_getElem_cons h, firsts, List.take_succ_eq_append_getElem h]
theorem mem_take_succ {α : Type} [DecidableEq α] {all : List α} {w : α} {k : Nat} (h : k < all.length) : (w ∈ all.take (k + 1)) ↔ (w ∈ all.take k ∨ all[k] = w) := by
  rw [List.take_succ_eq_append_getElem h, List.mem_append, List.mem_singleton]
  exact or_congr Iff.rfl eq_comm
theorem refGo_at {l : List WR} {ws : List (List UInt8)} {ts : List TT} {i : Nat} (h : i < ts.length) (out : List HT) : refGo l ws (ts.drop i) out = refGo l ws (ts.drop (i + 1)) (if allT l ws (pgOf ts[i]) = true then insH out ⟨ts[i].1, ts[i].2, scoreT l ws (pgOf ts[i])⟩ else out) := by
  rw [List.drop_eq_getElem_cons h, refGo]
theorem firstN_pg (l : List WR) (w : List UInt8) (t : TT) : firstN l (w, (pgOf t).sp, (pgOf t).nm) = firstN l (w, t.1, t.2) := rfl
end Go.X
namespace Go.Proofs
open Go Go.X
set_option maxRecDepth 100000
set_option maxHeartbeats 4000000
theorem refFind_ok (e e' : Nat) (la pa : Option Addr) (lc pc : Nat) (l : List WR) (ps : List PG) (vt : VT) (q : List UInt8) (hl : l.length ≤ 10000000) (hb : ∀ r ∈ l, -1099511627776 ≤ r.n ∧ r.n ≤ 1099511627776) (hps : ps.length ≤ 1000) (hq : q.length ≤ 1000) :
    FnS Tryz.prog 18 [.c (.sl la l.length lc), .agg [.sl pa ps.length pc, slK vt.gs, slK vt.rs, slK vt.us, slK vt.gp, .i .i64 vt.ck, slK vt.fx], .c (.s q)] [] [slFact e 4 la l.length (wrC l), slFact e' 4 pa ps.length (pgC ps)]
      (fun v L D => ∃ a' c', v = .c (.sl a' (findT l ps q).length c') ∧ L = [.row 52 3 a' (findT l ps q).length c' (htC (findT l ps q))] ∧ D = []) := by
  rw [← refFind_is]
  have cw := refWords35_ok q (by omega)
  have hwl := wordsR_len q []
  have hF : refFindT l ps q = if firsts [] (wordsS q) = [] then [] else refGo l (firsts [] (wordsS q)) (viewTs ps) [] := rfl
  have hFl : (refFindT l ps q).length ≤ 1000 := by rw [refFind_is]; have := findT_len l ps q; omega
  change (wordsS q).length ≤ _ at hwl
  generalize refFindT l ps q = F at *
  generalize wordsS q = all at *
  refine fn_of_J Tryz.tyOK 0 Tryz.func18 (by kernel_rfl) (c := Tryz.f18.body.getD .skip) (by kernel_rfl) Tryz.ntmps18 (rs := Tryz.f18.results.toList) rfl (by simp) (fun G => ?_)
  repeat' first | refine J_seq ?_ | refine J_region Tryz.tyOK ?_ | refine J_block ?_ | refine J_cond ?_ | refine J_ret ?_ | refine J_skip ?_ | refine J_exit ?_ | refine J_scope ?_ | refine CondP.y ?_ | refine CondP.n ?_ | refine CondP.mk (fun h => ?_) (fun h => ?_) | refine EqP.mk rfl ?_ | refine NewP.mk (fun ad => ?_) | refine ArP.x ?_ | refine SideP.a ?_ | (refine CallP.mk [] [_] [] _ cw (List.Perm.refl _) (fun _ _ => trivial) (fun v L' D' hq => ?_); obtain ⟨a1, k1, rfl, rfl, rfl⟩ := hq) | fail
  have hra : ∀ L, Reads L [slFact 9 1 a1 all.length (sC all), slFact e 4 la l.length (wrC l), slFact e' 4 pa ps.length (pgC ps)] 9 1 a1 all.length (sC all) := fun L => .inr fun m h => h.1
  refine J_loop (α := Nat × List (List UInt8) × Option Addr × Nat) (fun x => [(0, .c (.sl la l.length lc)), (4, .c (.p 0 ad 0)), (7, .c (.sl a1 all.length k1)), (8, .c (.sl x.2.2.1 x.2.1.length x.2.2.2)), (9, .c (.i .i64 x.1))]) (fun x => [.row 9 1 x.2.2.1 x.2.1.length x.2.2.2 (sC x.2.1), .box 0 ad 32 [.sl pa ps.length pc, slK vt.gs, slK vt.rs, slK vt.us, slK vt.gp, .i .i64 vt.ck, slK vt.fx]]) (fun _ => [slFact 9 1 a1 all.length (sC all), slFact e 4 la l.length (wrC l), slFact e' 4 pa ps.length (pgC ps)]) 1
    (fun x => x.1 ≤ all.length ∧ x.2.1.length ≤ x.1 ∧ firsts [] all = x.2.1 ++ firsts (all.take x.1) (all.drop x.1)) (fun x => all.length - x.1) (InFam.mk (0, [], none, 0) ⟨Nat.zero_le _, Nat.le_refl _, rfl⟩ SubE.a (Ents.toFact.trans (Ents.nilRow (ety := 9) (esz := 1)))) (fun x hx => ?_)
  obtain ⟨i, ws, b1, d1⟩ := x
  dsimp only at hx ⊢
  obtain ⟨hi, hol, he⟩ := hx
  by_cases hlt : i < all.length
  · clear hF hFl
    have hg := s_get hlt
    rw [firsts_at hlt] at he
    generalize hwi : all[i] = w at *
    have hrow : sC (ws ++ [w]) = sC ws ++ [.s w] := by simp [sC]
    have hln : (ws ++ [w]).length = ws.length + 1 := by simp
    repeat' first | refine J_seq ?_ | refine J_region Tryz.tyOK ?_ | refine J_block ?_ | refine J_cond ?_ | refine J_ret ?_ | refine J_skip ?_ | refine J_exit ?_ | refine J_scope ?_ | refine CondP.y ?_ | refine CondP.n ?_ | refine CondP.mk (fun h => ?_) (fun h => ?_) | refine EqP.mk rfl ?_ | refine NewP.mk (fun ad => ?_) | refine ArP.x ?_ | refine SideP.a ?_ | fail
    refine J_loop (α := Nat × Bool) (fun x => [(0, .c (.sl la l.length lc)), (4, .c (.p 0 ad 0)), (7, .c (.sl a1 all.length k1)), (8, .c (.sl b1 ws.length d1)), (9, .c (.i .i64 i)), (10, .c (.b x.2)), (11, .c (.i .i64 x.1))]) (fun _ => [.row 9 1 b1 ws.length d1 (sC ws), .box 0 ad 32 [.sl pa ps.length pc, slK vt.gs, slK vt.rs, slK vt.us, slK vt.gp, .i .i64 vt.ck, slK vt.fx]]) (fun _ => [slFact 9 1 a1 all.length (sC all), slFact e 4 la l.length (wrC l), slFact e' 4 pa ps.length (pgC ps)]) 1
      (fun x => x.1 ≤ i ∧ x.2 = !decide (w ∈ all.take x.1)) (fun x => i - x.1) (InFam.mk (0, true) ⟨Nat.zero_le _, by simp⟩ SubE.a (Ents.refl _ _)) (fun x hx => ?_)
    obtain ⟨k, fb⟩ := x
    dsimp only at hx ⊢
    obtain ⟨hk, hfb⟩ := hx
    by_cases hki : k < i
    · have hgk := s_get (show k < all.length by omega)
      have hms := mem_take_succ (w := w) (show k < all.length by omega)
      have hyes : all[k] = w → false = !decide (w ∈ all.take (k + 1)) := fun h => by rw [decide_eq_true (hms.2 (.inr h))]; rfl
      have hno : ¬ all[k] = w → fb = !decide (w ∈ all.take (k + 1)) := fun h => by
        rw [hfb]
        by_cases hm : w ∈ all.take k
        · rw [decide_eq_true hm, decide_eq_true (hms.2 (.inl hm))]
        · rw [decide_eq_false hm, decide_eq_false fun e => (hms.1 e).elim hm h]
      have hkeep : fb = false → false = !decide (w ∈ all.take (k + 1)) := fun h => by
        rw [h] at hfb
        have : w ∈ all.take k := by simpa using hfb.symm
        rw [decide_eq_true (hms.2 (.inl this))]; rfl
      clear hms hfb he
      generalize all[k] = u at *
      cases fb
      · have hkeep := hkeep rfl
        repeat' first | refine J_seq ?_ | refine J_region Tryz.tyOK ?_ | refine J_block ?_ | refine J_cond ?_ | refine J_ret ?_ | refine J_skip ?_ | refine J_exit ?_ | refine J_scope ?_ | refine CondP.y ?_ | refine CondP.n ?_ | refine CondP.mk (fun h => ?_) (fun h => ?_) | refine EqP.mk rfl ?_ | refine NewP.mk (fun ad => ?_) | refine ArP.x ?_ | refine SideP.a ?_ | refine J_drawS (id := 10) Tryz.tyOK (by kernel_rfl) [0, 1, 3, 3, 15, 31, 3, 3, 195, 451, 1023, 2047, 4095] [0, 1, 2, 3, 4, 5, 6, 7, 8, 9, 10, 11, 12] [] [39, 43] true (by kernel_rfl) ?_ | refine J_drawS (id := 29) Tryz.tyOK (by kernel_rfl) [0, 0, 0, 6, 14, 0, 0, 96, 224, 511, 1023, 2047, 2047, 4095, 16383] [0, 1, 2, 3, 4, 5, 6, 7, 8, 9, 10, 11, 12, 13, 14] [] [94, 98] true (by kernel_rfl) ?_ | refine J_drawS (id := 34) Tryz.tyOK (by kernel_rfl) [0, 0, 2, 7, 15, 31, 31, 127, 255, 511, 31, 1055, 4095, 8191] [0, 1, 2, 3, 4, 5, 6, 7, 8, 9, 10, 11, 12, 13] [] [16, 121] true (by kernel_rfl) ?_ | refine J_drawS (id := 36) Tryz.tyOK (by kernel_rfl) [0, 0, 3, 7, 0, 16, 63, 0, 0, 384, 1023, 2047] [0, 1, 2, 4, 7, 8, 9, 3, 5, 6, 10, 11] [3, 5, 6, 10] [16] false (by kernel_rfl) ?_ | refine EntP.mk Ents.a ?_ | refine Round.mk (k + 1, false) (by dsimp only; omega) ⟨by dsimp only; omega, hkeep⟩ SubE.a Ents.a | fail
      · repeat' first | refine J_seq ?_ | refine J_region Tryz.tyOK ?_ | refine J_block ?_ | refine J_cond ?_ | refine J_ret ?_ | refine J_skip ?_ | refine J_exit ?_ | refine J_scope ?_ | refine CondP.y ?_ | refine CondP.n ?_ | refine CondP.mk (fun h => ?_) (fun h => ?_) | refine EqP.mk rfl ?_ | refine NewP.mk (fun ad => ?_) | refine ArP.x ?_ | refine SideP.a ?_ | refine J_drawS (id := 10) Tryz.tyOK (by kernel_rfl) [0, 1, 3, 3, 15, 31, 3, 3, 195, 451, 1023, 2047, 4095] [0, 1, 2, 3, 4, 5, 6, 7, 8, 9, 10, 11, 12] [] [39, 43] true (by kernel_rfl) ?_ | refine J_drawS (id := 29) Tryz.tyOK (by kernel_rfl) [0, 0, 0, 6, 14, 0, 0, 96, 224, 511, 1023, 2047, 2047, 4095, 16383] [0, 1, 2, 3, 4, 5, 6, 7, 8, 9, 10, 11, 12, 13, 14] [] [94, 98] true (by kernel_rfl) ?_ | refine J_drawS (id := 34) Tryz.tyOK (by kernel_rfl) [0, 0, 2, 7, 15, 31, 31, 127, 255, 511, 31, 1055, 4095, 8191] [0, 1, 2, 3, 4, 5, 6, 7, 8, 9, 10, 11, 12, 13] [] [16, 121] true (by kernel_rfl) ?_ | refine J_drawS (id := 36) Tryz.tyOK (by kernel_rfl) [0, 0, 3, 7, 0, 16, 63, 0, 0, 384, 1023, 2047] [0, 1, 2, 4, 7, 8, 9, 3, 5, 6, 10, 11] [3, 5, 6, 10] [16] false (by kernel_rfl) ?_ | refine EntP.mk Ents.a ?_ | refine IdxE.mk 9 1 _ (hra _) (by omega) (by omega) ?_ | refine LoadE.mk 9 _ _ [.s u] (hra _) (by omega) (by omega) (by omega) (by exact hgk) ?_ | refine LoadE.mk 9 _ _ [.s w] (hra _) (by omega) (by omega) (by omega) (by exact hg) ?_ | refine Round.mk (k + 1, false) (by dsimp only; omega) ⟨by dsimp only; omega, hyes (by assumption)⟩ SubE.a Ents.a | refine Round.mk (k + 1, true) (by dsimp only; omega) ⟨by dsimp only; omega, hno (by assumption)⟩ SubE.a Ents.a | fail
    · have hke : k = i := by omega
      subst hke
      cases fb
      · have hm : w ∈ all.take k := by simpa using hfb.symm
        rw [if_pos hm] at he
        repeat' first | refine J_seq ?_ | refine J_region Tryz.tyOK ?_ | refine J_block ?_ | refine J_cond ?_ | refine J_ret ?_ | refine J_skip ?_ | refine J_exit ?_ | refine J_scope ?_ | refine CondP.y ?_ | refine CondP.n ?_ | refine CondP.mk (fun h => ?_) (fun h => ?_) | refine EqP.mk rfl ?_ | refine NewP.mk (fun ad => ?_) | refine ArP.x ?_ | refine SideP.a ?_ | refine Round.mk (k + 1, ws, b1, d1) (by dsimp only; omega) ⟨by dsimp only; omega, by dsimp only; omega, he⟩ SubE.a Ents.a | fail
      · have hm : ¬ w ∈ all.take k := by simpa using hfb.symm
        rw [if_neg hm, ← List.append_assoc] at he
        repeat' first | refine J_seq ?_ | refine J_region Tryz.tyOK ?_ | refine J_block ?_ | refine J_cond ?_ | refine J_ret ?_ | refine J_skip ?_ | refine J_exit ?_ | refine J_scope ?_ | refine CondP.y ?_ | refine CondP.n ?_ | refine CondP.mk (fun h => ?_) (fun h => ?_) | refine EqP.mk rfl ?_ | refine NewP.mk (fun ad => ?_) | refine ArP.x ?_ | refine SideP.a ?_ | refine IdxE.mk 9 1 _ (hra _) (by omega) (by omega) ?_ | refine LoadE.mk 9 _ _ [.s w] (hra _) (by omega) (by omega) (by omega) (by exact hg) ?_ | (refine AppE.row [_] _ (sC ws) [.s w] 1 rfl (SrcE.sl 9 9 _ _ 1 1 _ rfl rfl (.inl ⟨1, List.Mem.head _⟩) rfl) (by dsimp only; omega) (fun a' c' => ?_); rw [← hrow, ← hln]) | refine Round.mk (k + 1, ws ++ [w], a', c') (by dsimp only; omega) ⟨by dsimp only; omega, by dsimp only; omega, he⟩ SubE.a Ents.a | fail
  · have hil : i = all.length := by omega
    subst hil
    rw [List.take_length, List.drop_length] at he
    have he : firsts [] all = ws ++ [] := he
    rw [List.append_nil] at he
    rw [he] at hF
    clear he
    by_cases hws : ws = []
    · rw [if_pos hws] at hF
      subst hF
      have h0 : ws.length = 0 := by rw [hws]; rfl
      clear hws
      repeat' first | refine J_seq ?_ | refine J_region Tryz.tyOK ?_ | refine J_block ?_ | refine J_cond ?_ | refine J_ret ?_ | refine J_skip ?_ | refine J_exit ?_ | refine J_scope ?_ | refine CondP.y ?_ | refine CondP.n ?_ | refine CondP.mk (fun h => ?_) (fun h => ?_) | refine EqP.mk rfl ?_ | refine NewP.mk (fun ad => ?_) | refine ArP.x ?_ | refine SideP.a ?_ | refine FinE.mk [_] [] ⟨none, 0, rfl, rfl, rfl⟩ ((Ents.dropAll.trans (Ents.facts (D' := []) fun _ _ => trivial)).trans (Ents.nilRow (ety := 52) (esz := 3))) | fail
    · rw [if_neg hws] at hF
      have hwp := List.length_pos_iff.2 hws
      repeat' first | refine J_seq ?_ | refine J_region Tryz.tyOK ?_ | refine J_block ?_ | refine J_cond ?_ | refine J_ret ?_ | refine J_skip ?_ | refine J_exit ?_ | refine J_scope ?_ | refine CondP.y ?_ | refine CondP.n ?_ | refine CondP.mk (fun h => ?_) (fun h => ?_) | refine EqP.mk rfl ?_ | refine NewP.mk (fun ad => ?_) | refine ArP.x ?_ | refine SideP.a ?_ | fail
      have hrp : ∀ L, Reads L [slFact 9 1 b1 ws.length (sC ws), slFact e 4 la l.length (wrC l), slFact e' 4 pa ps.length (pgC ps)] e' 4 pa ps.length (pgC ps) := fun L => .inr fun m h => h.2.2.1
      have hrw : ∀ L, Reads L [slFact 9 1 b1 ws.length (sC ws), slFact e 4 la l.length (wrC l), slFact e' 4 pa ps.length (pgC ps)] 9 1 b1 ws.length (sC ws) := fun L => .inr fun m h => h.1
      refine J_loop (α := Nat × List TT × Option Addr × Nat) (fun x => [(0, .c (.sl la l.length lc)), (4, .c (.p 0 ad 0)), (8, .c (.sl b1 ws.length d1)), (12, .c (.sl x.2.2.1 x.2.1.length x.2.2.2)), (13, .c (.i .i64 x.1))]) (fun x => [.row 50 2 x.2.2.1 x.2.1.length x.2.2.2 (ttC x.2.1), .box 0 ad 32 [.sl pa ps.length pc, slK vt.gs, slK vt.rs, slK vt.us, slK vt.gp, .i .i64 vt.ck, slK vt.fx]]) (fun _ => [slFact 9 1 b1 ws.length (sC ws), slFact e 4 la l.length (wrC l), slFact e' 4 pa ps.length (pgC ps)]) 1
        (fun x => x.1 ≤ ps.length ∧ x.2.1.length ≤ x.1 ∧ viewTs ps = ((ps.drop x.1).map fun p => (p.sp, p.nm)).foldl (addG cmpTT) x.2.1) (fun x => ps.length - x.1) (InFam.mk (0, [], none, 0) ⟨Nat.zero_le _, Nat.le_refl _, rfl⟩ SubE.a (Ents.toFact.trans ((Ents.facts (D := [slFact 9 1 b1 ws.length (sC ws), slFact 9 1 a1 all.length (sC all), slFact e 4 la l.length (wrC l), slFact e' 4 pa ps.length (pgC ps)]) (D' := [slFact 9 1 b1 ws.length (sC ws), slFact e 4 la l.length (wrC l), slFact e' 4 pa ps.length (pgC ps)]) fun _ h => ⟨h.1, h.2.2.1, h.2.2.2.1, trivial⟩).trans (Ents.nilRow (ety := 50) (esz := 2))))) (fun x hx => ?_)
      obtain ⟨i, ts, b2, d2⟩ := x
      dsimp only at hx ⊢
      obtain ⟨hi, htl, he⟩ := hx
      by_cases hlt : i < ps.length
      · have hg := pg_get2 hlt
        rw [List.drop_eq_getElem_cons hlt, List.map_cons, List.foldl_cons] at he
        generalize ps[i] = p at *
        have ct := fun a c => titles33_ok a c ts (p.sp, p.nm) (by omega)
        have hal := addG_len (cf := cmpTT) ts (p.sp, p.nm)
        clear hF hFl
        repeat' first | refine J_seq ?_ | refine J_region Tryz.tyOK ?_ | refine J_block ?_ | refine J_cond ?_ | refine J_ret ?_ | refine J_skip ?_ | refine J_exit ?_ | refine J_scope ?_ | refine CondP.y ?_ | refine CondP.n ?_ | refine CondP.mk (fun h => ?_) (fun h => ?_) | refine EqP.mk rfl ?_ | refine NewP.mk (fun ad => ?_) | refine ArP.x ?_ | refine SideP.a ?_ | refine J_drawS (id := 10) Tryz.tyOK (by kernel_rfl) [0, 1, 3, 3, 15, 31, 3, 3, 195, 451, 1023, 2047, 4095] [0, 1, 2, 3, 4, 5, 6, 7, 8, 9, 10, 11, 12] [] [39, 43] true (by kernel_rfl) ?_ | refine J_drawS (id := 29) Tryz.tyOK (by kernel_rfl) [0, 0, 0, 6, 14, 0, 0, 96, 224, 511, 1023, 2047, 2047, 4095, 16383] [0, 1, 2, 3, 4, 5, 6, 7, 8, 9, 10, 11, 12, 13, 14] [] [94, 98] true (by kernel_rfl) ?_ | refine J_drawS (id := 34) Tryz.tyOK (by kernel_rfl) [0, 0, 2, 7, 15, 31, 31, 127, 255, 511, 31, 1055, 4095, 8191] [0, 1, 2, 3, 4, 5, 6, 7, 8, 9, 10, 11, 12, 13] [] [16, 121] true (by kernel_rfl) ?_ | refine J_drawS (id := 36) Tryz.tyOK (by kernel_rfl) [0, 0, 3, 7, 0, 16, 63, 0, 0, 384, 1023, 2047] [0, 1, 2, 4, 7, 8, 9, 3, 5, 6, 10, 11] [3, 5, 6, 10] [16] false (by kernel_rfl) ?_ | refine EntP.mk Ents.a ?_ | refine IdxE.mk e' 4 _ (hrp _) (by omega) (by omega) ?_ | refine FldE.mk e' 4 _ _ (hrp _) (by omega) ?_ | refine LoadE.mk e' _ _ [.i .i64 p.sp, .s p.nm] (hrp _) (by omega) (by omega) (by first | omega | decide) (by exact hg) ?_ | (refine CallP.mk [_] [_] [] _ (ct _ _) (List.Perm.refl _) (fun _ _ => trivial) (fun v L' D' hq => ?_); obtain ⟨a3, k3, rfl, rfl, rfl⟩ := hq) | refine Round.mk (i + 1, addG cmpTT ts (p.sp, p.nm), a3, k3) (by dsimp only; omega) ⟨by dsimp only; omega, by dsimp only; omega, he⟩ SubE.a Ents.a | fail
      · have hil : i = ps.length := by omega
        rw [hil, List.drop_length] at he
        have he : viewTs ps = ts := he
        rw [he] at hF
        clear he
        repeat' first | refine J_seq ?_ | refine J_region Tryz.tyOK ?_ | refine J_block ?_ | refine J_cond ?_ | refine J_ret ?_ | refine J_skip ?_ | refine J_exit ?_ | refine J_scope ?_ | refine CondP.y ?_ | refine CondP.n ?_ | refine CondP.mk (fun h => ?_) (fun h => ?_) | refine EqP.mk rfl ?_ | refine NewP.mk (fun ad => ?_) | refine ArP.x ?_ | refine SideP.a ?_ | fail
        have hrt : ∀ L, Reads L [slFact 50 2 b2 ts.length (ttC ts), slFact 9 1 b1 ws.length (sC ws), slFact e 4 la l.length (wrC l)] 50 2 b2 ts.length (ttC ts) := fun L => .inr fun m h => h.1
        have hrw2 : ∀ L, Reads L [slFact 50 2 b2 ts.length (ttC ts), slFact 9 1 b1 ws.length (sC ws), slFact e 4 la l.length (wrC l)] 9 1 b1 ws.length (sC ws) := fun L => .inr fun m h => h.2.1
        clear hrp hrw
        refine J_loop (α := Nat × List HT × Option Addr × Nat) (fun x => [(0, .c (.sl la l.length lc)), (8, .c (.sl b1 ws.length d1)), (12, .c (.sl b2 ts.length d2)), (14, .c (.sl x.2.2.1 x.2.1.length x.2.2.2)), (15, .c (.i .i64 x.1))]) (fun x => [.row 52 3 x.2.2.1 x.2.1.length x.2.2.2 (htC x.2.1)]) (fun _ => [slFact 50 2 b2 ts.length (ttC ts), slFact 9 1 b1 ws.length (sC ws), slFact e 4 la l.length (wrC l)]) 1
          (fun x => x.1 ≤ ts.length ∧ x.2.1.length ≤ x.1 ∧ F = refGo l ws (ts.drop x.1) x.2.1) (fun x => ts.length - x.1) (InFam.mk (0, [], none, 0) ⟨Nat.zero_le _, Nat.le_refl _, hF⟩ SubE.a (Ents.toFact.trans ((Ents.facts (D := [slFact 50 2 b2 ts.length (ttC ts), slFact 9 1 b1 ws.length (sC ws), slFact e 4 la l.length (wrC l), slFact e' 4 pa ps.length (pgC ps)]) (D' := [slFact 50 2 b2 ts.length (ttC ts), slFact 9 1 b1 ws.length (sC ws), slFact e 4 la l.length (wrC l)]) fun _ h => ⟨h.1, h.2.1, h.2.2.1, trivial⟩).trans (Ents.drop.trans (Ents.nilRow (ety := 52) (esz := 3)))))) (fun x hx => ?_)
        clear hF
        obtain ⟨i, out, b3, d3⟩ := x
        dsimp only at hx ⊢
        obtain ⟨hi, hol3, he⟩ := hx
        by_cases hlt : i < ts.length
        · have hg := ttl_get hlt
          rw [refGo_at hlt] at he
          generalize ts[i] = t at *
          repeat' first | refine J_seq ?_ | refine J_region Tryz.tyOK ?_ | refine J_block ?_ | refine J_cond ?_ | refine J_ret ?_ | refine J_skip ?_ | refine J_exit ?_ | refine J_scope ?_ | refine CondP.y ?_ | refine CondP.n ?_ | refine CondP.mk (fun h => ?_) (fun h => ?_) | refine EqP.mk rfl ?_ | refine NewP.mk (fun ad => ?_) | refine ArP.x ?_ | refine SideP.a ?_ | refine IdxE.mk 50 2 _ (hrt _) (by omega) (by omega) ?_ | refine LoadE.mk 50 _ _ [.i .i64 t.1, .s t.2] (hrt _) (by omega) (by omega) (by first | omega | decide) (by exact hg) ?_ | fail
          refine J_loop (α := Nat × Int × Bool) (fun x => [(0, .c (.sl la l.length lc)), (8, .c (.sl b1 ws.length d1)), (12, .c (.sl b2 ts.length d2)), (14, .c (.sl b3 out.length d3)), (15, .c (.i .i64 i)), (16, .c (.p 1 ad 0)), (17, .c (.b x.2.2)), (18, .c (.i .i64 x.1))]) (fun x => [.box 1 ad 52 [.i .i64 t.1, .s t.2, .i .i64 x.2.1], .row 52 3 b3 out.length d3 (htC out)]) (fun _ => [slFact 50 2 b2 ts.length (ttC ts), slFact 9 1 b1 ws.length (sC ws), slFact e 4 la l.length (wrC l)]) 2
            (fun x => x.1 ≤ ws.length ∧ x.2.1 = scoreT l (ws.take x.1) (pgOf t) ∧ x.2.2 = allT l (ws.take x.1) (pgOf t) ∧ -((x.1 : Int) * 1099511627776) ≤ x.2.1 ∧ x.2.1 ≤ (x.1 : Int) * 1099511627776) (fun x => ws.length - x.1) (InFam.mk (0, 0, true) ⟨Nat.zero_le _, rfl, rfl, by decide, by decide⟩ SubE.a (Ents.refl _ _)) (fun x hx => ?_)
          obtain ⟨k, sc, al⟩ := x
          dsimp only at hx ⊢
          obtain ⟨hk, hsc, hal, hs1, hs2⟩ := hx
          by_cases hkw : k < ws.length
          · have hgw := s_get hkw
            have hsn := scoreT_snoc l (ws.take k) ws[k] (pgOf t)
            have han := allT_snoc l (ws.take k) ws[k] (pgOf t)
            rw [← List.take_succ_eq_append_getElem hkw, firstN_pg] at hsn han
            generalize ws[k] = w at *
            rw [← hsc] at hsn
            rw [← hal] at han
            have cn := count_ok e la lc l w t.1 t.2 hl
            have hmem := fun n h => firstN_mem (l := l) (k := (w, t.1, t.2)) (n := n) h
            clear he hFl
            cases hfn : firstN l (w, t.1, t.2) with
            | none =>
              rw [hfn] at hsn han cn
              have hsn : scoreT l (ws.take (k + 1)) (pgOf t) = sc + 0 := hsn
              have han : allT l (ws.take (k + 1)) (pgOf t) = false := by rw [han]; simp
              clear hal
              cases al
              all_goals
                repeat' first | refine J_seq ?_ | refine J_region Tryz.tyOK ?_ | refine J_block ?_ | refine J_cond ?_ | refine J_ret ?_ | refine J_skip ?_ | refine J_exit ?_ | refine J_scope ?_ | refine CondP.y ?_ | refine CondP.n ?_ | refine CondP.mk (fun h => ?_) (fun h => ?_) | refine EqP.mk rfl ?_ | refine NewP.mk (fun ad => ?_) | refine ArP.x ?_ | refine SideP.a ?_ | refine J_drawS (id := 10) Tryz.tyOK (by kernel_rfl) [0, 1, 3, 3, 15, 31, 3, 3, 195, 451, 1023, 2047, 4095] [0, 1, 2, 3, 4, 5, 6, 7, 8, 9, 10, 11, 12] [] [39, 43] true (by kernel_rfl) ?_ | refine J_drawS (id := 29) Tryz.tyOK (by kernel_rfl) [0, 0, 0, 6, 14, 0, 0, 96, 224, 511, 1023, 2047, 2047, 4095, 16383] [0, 1, 2, 3, 4, 5, 6, 7, 8, 9, 10, 11, 12, 13, 14] [] [94, 98] true (by kernel_rfl) ?_ | refine J_drawS (id := 34) Tryz.tyOK (by kernel_rfl) [0, 0, 2, 7, 15, 31, 31, 127, 255, 511, 31, 1055, 4095, 8191] [0, 1, 2, 3, 4, 5, 6, 7, 8, 9, 10, 11, 12, 13] [] [16, 121] true (by kernel_rfl) ?_ | refine J_drawS (id := 36) Tryz.tyOK (by kernel_rfl) [0, 0, 3, 7, 0, 16, 63, 0, 0, 384, 1023, 2047] [0, 1, 2, 4, 7, 8, 9, 3, 5, 6, 10, 11] [3, 5, 6, 10] [16] false (by kernel_rfl) ?_ | refine EntP.mk Ents.a ?_ | refine IdxE.mk 50 2 _ (hrt _) (by omega) (by omega) ?_ | refine LoadE.mk 50 _ _ [.i .i64 t.1, .s t.2] (hrt _) (by omega) (by omega) (by first | omega | decide) (by exact hg) ?_ | refine IdxE.mk 9 1 _ (hrw2 _) (by omega) (by omega) ?_ | refine LoadE.mk 9 _ _ [.s w] (hrw2 _) (by omega) (by omega) (by omega) (by exact hgw) ?_ | refine CallQ.mk [_] _ cn (fun _ h => ⟨h.2.2.1, trivial⟩) ?_ | refine Round.mk (k + 1, sc + 0, false) (by dsimp only; omega) ⟨by dsimp only; omega, hsn.symm, han.symm, by dsimp only; omega, by dsimp only; omega⟩ SubE.a Ents.a | fail
            | some n =>
              obtain ⟨r, hr, hrn⟩ := hmem n hfn
              have hbr := hb r hr
              rw [hrn] at hbr
              rw [hfn] at hsn han cn
              have hsn : scoreT l (ws.take (k + 1)) (pgOf t) = sc + n := hsn
              have han : allT l (ws.take (k + 1)) (pgOf t) = al := by rw [han]; simp
              clear hal
              cases al
              all_goals
                repeat' first | refine J_seq ?_ | refine J_region Tryz.tyOK ?_ | refine J_block ?_ | refine J_cond ?_ | refine J_ret ?_ | refine J_skip ?_ | refine J_exit ?_ | refine J_scope ?_ | refine CondP.y ?_ | refine CondP.n ?_ | refine CondP.mk (fun h => ?_) (fun h => ?_) | refine EqP.mk rfl ?_ | refine NewP.mk (fun ad => ?_) | refine ArP.x ?_ | refine SideP.a ?_ | refine J_drawS (id := 10) Tryz.tyOK (by kernel_rfl) [0, 1, 3, 3, 15, 31, 3, 3, 195, 451, 1023, 2047, 4095] [0, 1, 2, 3, 4, 5, 6, 7, 8, 9, 10, 11, 12] [] [39, 43] true (by kernel_rfl) ?_ | refine J_drawS (id := 29) Tryz.tyOK (by kernel_rfl) [0, 0, 0, 6, 14, 0, 0, 96, 224, 511, 1023, 2047, 2047, 4095, 16383] [0, 1, 2, 3, 4, 5, 6, 7, 8, 9, 10, 11, 12, 13, 14] [] [94, 98] true (by kernel_rfl) ?_ | refine J_drawS (id := 34) Tryz.tyOK (by kernel_rfl) [0, 0, 2, 7, 15, 31, 31, 127, 255, 511, 31, 1055, 4095, 8191] [0, 1, 2, 3, 4, 5, 6, 7, 8, 9, 10, 11, 12, 13] [] [16, 121] true (by kernel_rfl) ?_ | refine J_drawS (id := 36) Tryz.tyOK (by kernel_rfl) [0, 0, 3, 7, 0, 16, 63, 0, 0, 384, 1023, 2047] [0, 1, 2, 4, 7, 8, 9, 3, 5, 6, 10, 11] [3, 5, 6, 10] [16] false (by kernel_rfl) ?_ | refine EntP.mk Ents.a ?_ | refine IdxE.mk 50 2 _ (hrt _) (by omega) (by omega) ?_ | refine LoadE.mk 50 _ _ [.i .i64 t.1, .s t.2] (hrt _) (by omega) (by omega) (by first | omega | decide) (by exact hg) ?_ | refine IdxE.mk 9 1 _ (hrw2 _) (by omega) (by omega) ?_ | refine LoadE.mk 9 _ _ [.s w] (hrw2 _) (by omega) (by omega) (by omega) (by exact hgw) ?_ | refine CallQ.mk [_] _ cn (fun _ h => ⟨h.2.2.1, trivial⟩) ?_ | refine Round.mk (k + 1, sc + n, _) (by dsimp only; omega) ⟨by dsimp only; omega, hsn.symm, han.symm, by dsimp only; omega, by dsimp only; omega⟩ SubE.a Ents.a | fail
          · have hkl : k = ws.length := by omega
            subst hkl
            rw [List.take_length] at hsc hal
            rw [← hal, ← hsc] at he
            cases al with
            | false =>
              have he : F = refGo l ws (ts.drop (i + 1)) out := he
              repeat' first | refine J_seq ?_ | refine J_region Tryz.tyOK ?_ | refine J_block ?_ | refine J_cond ?_ | refine J_ret ?_ | refine J_skip ?_ | refine J_exit ?_ | refine J_scope ?_ | refine CondP.y ?_ | refine CondP.n ?_ | refine CondP.mk (fun h => ?_) (fun h => ?_) | refine EqP.mk rfl ?_ | refine NewP.mk (fun ad => ?_) | refine ArP.x ?_ | refine SideP.a ?_ | refine Round.mk (i + 1, out, b3, d3) (by dsimp only; omega) ⟨by dsimp only; omega, by dsimp only; omega, he⟩ SubE.a Ents.a | fail
            | true =>
              have he : F = refGo l ws (ts.drop (i + 1)) (insH out ⟨t.1, t.2, sc⟩) := he
              have hil := insH_len out ⟨t.1, t.2, sc⟩
              generalize hH : insH out ⟨t.1, t.2, sc⟩ = H at *
              clear hFl hsc hal hs1 hs2
              repeat' first | refine J_cut (x := .block 10 _) (α := Nat) (fun j => [(0, .c (.sl la l.length lc)), (8, .c (.sl b1 ws.length d1)), (12, .c (.sl b2 ts.length d2)), (14, .c (.sl b3 out.length d3)), (15, .c (.i .i64 i)), (16, .c (.p 1 ad 0)), (21, .c (.i .i64 j))]) (fun _ => [.box 1 ad 52 [.i .i64 t.1, .s t.2, .i .i64 sc], .row 52 3 b3 out.length d3 (htC out)]) (fun _ => [slFact 50 2 b2 ts.length (ttC ts), slFact 9 1 b1 ws.length (sC ws), slFact e 4 la l.length (wrC l)]) 2 (fun j => j ≤ out.length ∧ H = out.take j ++ ⟨t.1, t.2, sc⟩ :: out.drop j) ?_ (fun j hx => J_stop ?_) | refine J_seq ?_ | refine J_region Tryz.tyOK ?_ | refine J_block ?_ | refine J_cond ?_ | refine J_ret ?_ | refine J_skip ?_ | refine J_exit ?_ | refine J_scope ?_ | refine CondP.y ?_ | refine CondP.n ?_ | refine CondP.mk (fun h => ?_) (fun h => ?_) | refine EqP.mk rfl ?_ | refine NewP.mk (fun ad => ?_) | refine ArP.x ?_ | refine SideP.a ?_ | refine J_stop (c := .loop _) ?_ | fail
              · refine ⟨?_⟩
                refine J_loop (α := Nat) (fun j => [(0, .c (.sl la l.length lc)), (8, .c (.sl b1 ws.length d1)), (12, .c (.sl b2 ts.length d2)), (14, .c (.sl b3 out.length d3)), (15, .c (.i .i64 i)), (16, .c (.p 1 ad 0)), (21, .c (.i .i64 j))]) (fun _ => [.box 1 ad 52 [.i .i64 t.1, .s t.2, .i .i64 sc], .row 52 3 b3 out.length d3 (htC out)]) (fun _ => [slFact 50 2 b2 ts.length (ttC ts), slFact 9 1 b1 ws.length (sC ws), slFact e 4 la l.length (wrC l)]) 2
                  (fun j => j ≤ out.length ∧ H = out.take j ++ insH (out.drop j) ⟨t.1, t.2, sc⟩) (fun j => out.length - j) (InFam.mk 0 ⟨Nat.zero_le _, hH.symm⟩ SubE.a (Ents.refl _ _)) (fun j hx => ?_)
                obtain ⟨hj, hHj⟩ := hx
                clear hH he
                by_cases hjl : j < out.length
                · have hgj := htl_n hjl
                  have hat := insH_at (h := ⟨t.1, t.2, sc⟩) hjl
                  have htk := List.take_succ_eq_append_getElem hjl
                  generalize out[j] = y at *
                  have hstep : y.n ≥ sc → H = out.take (j + 1) ++ insH (out.drop (j + 1)) ⟨t.1, t.2, sc⟩ := fun h => by rw [hHj, hat, if_pos h, htk, List.append_assoc]; rfl
                  have hnew : ¬ y.n ≥ sc → H = out.take j ++ ⟨t.1, t.2, sc⟩ :: out.drop j := fun h => by rw [hHj, hat, if_neg h]
                  clear hat htk hHj
                  repeat' first | refine J_seq ?_ | refine J_region Tryz.tyOK ?_ | refine J_block ?_ | refine J_cond ?_ | refine J_ret ?_ | refine J_skip ?_ | refine J_exit ?_ | refine J_scope ?_ | refine CondP.y ?_ | refine CondP.n ?_ | refine CondP.mk (fun h => ?_) (fun h => ?_) | refine EqP.mk rfl ?_ | refine NewP.mk (fun ad => ?_) | refine ArP.x ?_ | refine SideP.a ?_ | refine J_drawS (id := 10) Tryz.tyOK (by kernel_rfl) [0, 1, 3, 3, 15, 31, 3, 3, 195, 451, 1023, 2047, 4095] [0, 1, 2, 3, 4, 5, 6, 7, 8, 9, 10, 11, 12] [] [39, 43] true (by kernel_rfl) ?_ | refine J_drawS (id := 29) Tryz.tyOK (by kernel_rfl) [0, 0, 0, 6, 14, 0, 0, 96, 224, 511, 1023, 2047, 2047, 4095, 16383] [0, 1, 2, 3, 4, 5, 6, 7, 8, 9, 10, 11, 12, 13, 14] [] [94, 98] true (by kernel_rfl) ?_ | refine J_drawS (id := 34) Tryz.tyOK (by kernel_rfl) [0, 0, 2, 7, 15, 31, 31, 127, 255, 511, 31, 1055, 4095, 8191] [0, 1, 2, 3, 4, 5, 6, 7, 8, 9, 10, 11, 12, 13] [] [16, 121] true (by kernel_rfl) ?_ | refine J_drawT (id := 36) Tryz.tyOK (by kernel_rfl) [0, 0, 3, 7, 0, 16, 63, 0, 0, 384, 1023, 2047] [0, 1, 2, 4, 7, 8, 9] 3 [5, 6, 10, 11] 5 [3, 6, 10, 11] [3, 5, 6, 10] [16] 12 false (by kernel_rfl) ?_ | refine TwoP.mk ?_ ?_ | refine EntP.mk Ents.a ?_ | refine IdxE.mk 52 3 _ (.inl ⟨d3, List.Mem.tail _ (List.Mem.head _)⟩) (by omega) (by omega) ?_ | refine FldE.mk 52 3 _ _ (.inl ⟨d3, List.Mem.tail _ (List.Mem.head _)⟩) (by omega) ?_ | refine LoadE.mk 52 _ _ [.i .i64 y.n] (.inl ⟨d3, List.Mem.tail _ (List.Mem.head _)⟩) (by omega) (by omega) (by first | omega | decide) (by exact hgj) ?_ | refine Round.mk (j + 1) (by omega) ⟨by omega, hstep (by assumption)⟩ SubE.a (Ents.refl _ _) | refine InFam.mk j ⟨hj, hnew (by assumption)⟩ SubE.a (Ents.refl _ _) | fail
                · have hdn : out.drop j = [] := List.drop_eq_nil_of_le (by omega)
                  have hnew : H = out.take j ++ ⟨t.1, t.2, sc⟩ :: out.drop j := by rw [hHj, hdn]; rfl
                  clear hHj
                  repeat' first | refine J_seq ?_ | refine J_region Tryz.tyOK ?_ | refine J_block ?_ | refine J_cond ?_ | refine J_ret ?_ | refine J_skip ?_ | refine J_exit ?_ | refine J_scope ?_ | refine CondP.y ?_ | refine CondP.n ?_ | refine CondP.mk (fun h => ?_) (fun h => ?_) | refine EqP.mk rfl ?_ | refine NewP.mk (fun ad => ?_) | refine ArP.x ?_ | refine SideP.a ?_ | refine J_drawS (id := 10) Tryz.tyOK (by kernel_rfl) [0, 1, 3, 3, 15, 31, 3, 3, 195, 451, 1023, 2047, 4095] [0, 1, 2, 3, 4, 5, 6, 7, 8, 9, 10, 11, 12] [] [39, 43] true (by kernel_rfl) ?_ | refine J_drawS (id := 29) Tryz.tyOK (by kernel_rfl) [0, 0, 0, 6, 14, 0, 0, 96, 224, 511, 1023, 2047, 2047, 4095, 16383] [0, 1, 2, 3, 4, 5, 6, 7, 8, 9, 10, 11, 12, 13, 14] [] [94, 98] true (by kernel_rfl) ?_ | refine J_drawS (id := 34) Tryz.tyOK (by kernel_rfl) [0, 0, 2, 7, 15, 31, 31, 127, 255, 511, 31, 1055, 4095, 8191] [0, 1, 2, 3, 4, 5, 6, 7, 8, 9, 10, 11, 12, 13] [] [16, 121] true (by kernel_rfl) ?_ | refine J_drawT (id := 36) Tryz.tyOK (by kernel_rfl) [0, 0, 3, 7, 0, 16, 63, 0, 0, 384, 1023, 2047] [0, 1, 2, 4, 7, 8, 9] 3 [5, 6, 10, 11] 5 [3, 6, 10, 11] [3, 5, 6, 10] [16] 12 false (by kernel_rfl) ?_ | refine TwoP.mk ?_ ?_ | refine EntP.mk Ents.a ?_ | refine InFam.mk j ⟨hj, hnew⟩ SubE.a (Ents.refl _ _) | fail
              · refine ⟨?_⟩
                refine J_cap (List.Mem.tail _ (List.Mem.head _)) (fun hnc _ _ => ?_)
                clear hH
                obtain ⟨hj, hnew⟩ := hx
                have h6l : H.length = j + 1 + (out.length - j) := by rw [hnew]; simp; omega
                have h6c : htC H = htC (out.take j) ++ [.i .i64 t.1, .s t.2, .i .i64 sc] ++ htC (out.drop j) := by rw [hnew]; simp [htC, HT.cells]
                clear hnew
                repeat' first | refine J_seq ?_ | refine J_region Tryz.tyOK ?_ | refine J_block ?_ | refine J_cond ?_ | refine J_ret ?_ | refine J_skip ?_ | refine J_exit ?_ | refine J_scope ?_ | refine CondP.y ?_ | refine CondP.n ?_ | refine CondP.mk (fun h => ?_) (fun h => ?_) | refine EqP.mk rfl ?_ | refine NewP.mk (fun ad => ?_) | refine ArP.x ?_ | refine SideP.a ?_ | refine J_drawS (id := 10) Tryz.tyOK (by kernel_rfl) [0, 1, 3, 3, 15, 31, 3, 3, 195, 451, 1023, 2047, 4095] [0, 1, 2, 3, 4, 5, 6, 7, 8, 9, 10, 11, 12] [] [39, 43] true (by kernel_rfl) ?_ | refine J_drawS (id := 29) Tryz.tyOK (by kernel_rfl) [0, 0, 0, 6, 14, 0, 0, 96, 224, 511, 1023, 2047, 2047, 4095, 16383] [0, 1, 2, 3, 4, 5, 6, 7, 8, 9, 10, 11, 12, 13, 14] [] [94, 98] true (by kernel_rfl) ?_ | refine J_drawS (id := 34) Tryz.tyOK (by kernel_rfl) [0, 0, 2, 7, 15, 31, 31, 127, 255, 511, 31, 1055, 4095, 8191] [0, 1, 2, 3, 4, 5, 6, 7, 8, 9, 10, 11, 12, 13] [] [16, 121] true (by kernel_rfl) ?_ | refine J_drawT (id := 36) Tryz.tyOK (by kernel_rfl) [0, 0, 3, 7, 0, 16, 63, 0, 0, 384, 1023, 2047] [0, 1, 2, 4, 7, 8, 9] 3 [5, 6, 10, 11] 5 [3, 6, 10, 11] [3, 5, 6, 10] [16] 12 false (by kernel_rfl) ?_ | refine TwoP.mk ?_ ?_ | refine EntP.mk Ents.a ?_ | refine AppE.nil (htC (out.take j)) j rfl rfl rfl (SrcE.sl 52 52 _ _ _ _ _ rfl rfl (htpre out (by first | exact List.Mem.head _ | exact List.Mem.tail _ (List.Mem.head _) | exact List.Mem.tail _ (List.Mem.tail _ (List.Mem.head _)) | exact List.Mem.tail _ (List.Mem.tail _ (List.Mem.tail _ (List.Mem.head _))) | exact List.Mem.tail _ (List.Mem.tail _ (List.Mem.tail _ (List.Mem.tail _ (List.Mem.head _))))) rfl hj) (by rw [htC_len', List.length_take, Nat.min_eq_left hj]; rfl)) (by dsimp only; omega) (fun a' c' => ?_) | refine AppE.row [_] _ (htC (out.take j)) [.i .i64 t.1, .s t.2, .i .i64 sc] 1 rfl (SrcE.sl 52 52 _ _ 1 1 _ rfl rfl (.inl ⟨1, List.Mem.head _⟩) rfl) (by dsimp only; omega) (fun a' c' => ?_) | refine AppE.row [] _ (htC (out.take j)) [.i .i64 t.1, .s t.2, .i .i64 sc] 1 rfl (SrcE.sl 52 52 _ _ 1 1 _ rfl rfl (.inl ⟨1, List.Mem.tail _ (List.Mem.head _)⟩) rfl) (by dsimp only; omega) (fun a' c' => ?_) | (refine AppE.row [_] _ (htC (out.take j) ++ [.i .i64 t.1, .s t.2, .i .i64 sc]) (htC (out.drop j)) (out.length - j) rfl (SrcE.sl 52 52 _ _ _ _ _ rfl rfl (htsuf out (by first | exact List.Mem.head _ | exact List.Mem.tail _ (List.Mem.head _) | exact List.Mem.tail _ (List.Mem.tail _ (List.Mem.head _)) | exact List.Mem.tail _ (List.Mem.tail _ (List.Mem.tail _ (List.Mem.head _))) | exact List.Mem.tail _ (List.Mem.tail _ (List.Mem.tail _ (List.Mem.tail _ (List.Mem.head _))))) rfl hj hnc) (by rw [htC_len', List.length_drop]; rfl)) (by dsimp only; omega) (fun a' c' => ?_); rw [← h6l, ← h6c]) | (refine AppE.row [] _ (htC (out.take j) ++ [.i .i64 t.1, .s t.2, .i .i64 sc]) (htC (out.drop j)) (out.length - j) rfl (SrcE.sl 52 52 _ _ _ _ _ rfl rfl (htsuf out (by first | exact List.Mem.head _ | exact List.Mem.tail _ (List.Mem.head _) | exact List.Mem.tail _ (List.Mem.tail _ (List.Mem.head _)) | exact List.Mem.tail _ (List.Mem.tail _ (List.Mem.tail _ (List.Mem.head _))) | exact List.Mem.tail _ (List.Mem.tail _ (List.Mem.tail _ (List.Mem.tail _ (List.Mem.head _))))) rfl hj hnc) (by rw [htC_len', List.length_drop]; rfl)) (by dsimp only; omega) (fun a' c' => ?_); rw [← h6l, ← h6c]) | refine Round.mk (i + 1, H, a', c') (by dsimp only; omega) ⟨by dsimp only; omega, by dsimp only; omega, he⟩ SubE.a Ents.a | fail
        · have hil : i = ts.length := by omega
          rw [hil, List.drop_length] at he
          have he : F = out := he
          subst he
          repeat' first | refine J_seq ?_ | refine J_region Tryz.tyOK ?_ | refine J_block ?_ | refine J_cond ?_ | refine J_ret ?_ | refine J_skip ?_ | refine J_exit ?_ | refine J_scope ?_ | refine CondP.y ?_ | refine CondP.n ?_ | refine CondP.mk (fun h => ?_) (fun h => ?_) | refine EqP.mk rfl ?_ | refine NewP.mk (fun ad => ?_) | refine ArP.x ?_ | refine SideP.a ?_ | refine FinE.mk [_] [] ⟨_, _, rfl, rfl, rfl⟩ (Ents.facts fun _ _ => trivial) | fail
end Go.Proofs
