/- This text walks through the functions compare, add and Put of the reference of chapter 35. This text walks through the functions Put of the package search and of the reference of chapter 35: both give the rows in order, without duplicates. -/
import Derived.Test.YtcnbkappedemeaaPut
set_option linter.all false

namespace Go.X
open Go Go.Lib

theorem rpre {e : Nat} {a : Option Addr} {n c k : Nat} {m : List WR} {L : List Chunk} {D : List Fact} (hm : Chunk.row e 4 a n c (wrC m) ∈ L) (hn : m.length = n) (hk : k ≤ n) : Reads L D e 4 (resl a 0 c 4) k (wrC (m.take k)) := by
  refine .sub a 0 n c (wrC m) hm ?_ (by omega) ?_
  · rw [resl0]; cases a <;> simp [Addr.add]
  · rw [Nat.zero_mul, List.drop_zero, wrC_take]
theorem rsuf {e : Nat} {a : Option Addr} {n c k : Nat} {m : List WR} {L : List Chunk} {D : List Fact} (hm : Chunk.row e 4 a n c (wrC m) ∈ L) (hn : m.length = n) (hk : k ≤ n) (hc : n ≤ c) : Reads L D e 4 (resl a k c 4) (n - k) (wrC (m.drop k)) := by
  by_cases h : k < n
  · exact rsub hm hn h hc
  · have h0 : m.drop k = [] := List.drop_eq_nil_of_le (by omega)
    rw [h0]
    exact .inr fun _ _ => ⟨fun x hx => (by cases hx), .inl ⟨by omega, rfl⟩⟩

end Go.X

namespace Go.Proofs
open Go Go.X
set_option maxRecDepth 100000
set_option maxHeartbeats 4000000

theorem refCompareT_ok (a : Int) (x : List UInt8) (b : Int) (y : List UInt8) : FnS Try.prog 48 [.agg [.i .i64 a, .s x], .agg [.i .i64 b, .s y]] [] [] (Is (.c (.i .i64 (compareT a x b y)))) := by
  have hl := less_cmp x y
  have he := cmpB_eq x y
  have hr := cmpB_range x y
  have hi := cmpI a b
  obtain ⟨k, hk⟩ : ∃ k, compareT a x b y = k := ⟨_, rfl⟩
  have hk' := hk
  unfold compareT at hk
  rw [hk']
  refine fn_of_J Try.tyOK 0 Try.func48 (by kernel_rfl) (c := Try.f48.body.getD .skip) (by kernel_rfl) Try.ntmps48 (rs := Try.f48.results.toList) rfl (by simp) (fun G => ?_)
  repeat' first
    | refine J_seq ?_ | refine J_region Try.tyOK ?_ | refine J_block ?_ | refine J_cond ?_ | refine J_ret ?_ | refine J_skip ?_ | refine J_exit ?_ | refine J_scope ?_
    | refine CondP.yes (by omega) ?_ | refine CondP.no (by omega) ?_ | refine CondP.mk (fun h => ?_) (fun h => ?_) | refine EqP.mk rfl ?_ | refine NewP.mk (fun ad => ?_) | refine ArP.exact (by simp only [inR]; omega) ?_ | refine SideP.mk (by first | omega | (dsimp only; omega) | (simp; omega)) ?_
    | refine FinE.int ?_
    | fail
  all_goals
    rcases hi with ⟨h0, h1⟩ | ⟨h0, h1⟩ | ⟨h0, h1⟩
    all_goals
      rw [h1] at hk
      simp at hk
      first | omega | (simp_all; done) | (simp_all; omega)

theorem refCmpRow_ok (x y : WR) : FnS Try.prog 41 [.agg [.s x.w, .i .i64 x.sp, .s x.nm, .i .i64 x.n], .agg [.s y.w, .i .i64 y.sp, .s y.nm, .i .i64 y.n]] [] [] (Is (.c (.i .i64 (cmpWR x y)))) := by
  obtain ⟨xw, xs, xm, xn⟩ := x
  obtain ⟨yw, ys, ym, yn⟩ := y
  dsimp only
  have ct := refCompareT_ok xs xm ys ym
  have hl := less_cmp xw yw
  have hg := less_cmp yw xw
  have hsw := cmp_bytes.swap xw yw
  have hr := cmpB_range xw yw
  have he := cmpB_eq xw yw
  obtain ⟨k, hk⟩ : ∃ k, cmpWR ⟨xw, xs, xm, xn⟩ ⟨yw, ys, ym, yn⟩ = k := ⟨_, rfl⟩
  rw [hk]
  unfold cmpWR Lib.compareInt at hk
  dsimp only at hk
  generalize compareT xs xm ys ym = q at *
  refine fn_of_J Try.tyOK 0 Try.func41 (by kernel_rfl) (c := Try.f41.body.getD .skip) (by kernel_rfl) Try.ntmps41 (rs := Try.f41.results.toList) rfl (by simp) (fun G => ?_)
  repeat' first
    | refine J_seq ?_ | refine J_region Try.tyOK ?_ | refine J_block ?_ | refine J_cond ?_ | refine J_ret ?_ | refine J_skip ?_ | refine J_exit ?_ | refine J_scope ?_
    | refine CondP.yes (by omega) ?_ | refine CondP.no (by omega) ?_ | refine CondP.mk (fun h => ?_) (fun h => ?_) | refine EqP.mk rfl ?_ | refine NewP.mk (fun ad => ?_) | refine ArP.exact (by simp only [inR]; omega) ?_ | refine SideP.mk (by first | omega | (dsimp only; omega) | (simp; omega)) ?_
    | refine CallP.is ct ?_ | refine FinE.int ?_
    | fail
  all_goals
    clear hg ct hsw
    simp only [hl, ← he] at *
    clear hl he
    generalize Lib.compareBytes xw yw = p at *
    first
      | omega
      | (split at hk <;> first | omega | (split at hk <;> first | omega | (split at hk <;> first | omega | (split at hk <;> omega))))

theorem addW_at {l : List WR} {r : WR} {i : Nat} (h : i < l.length) : addW (l.drop i) r = if cmpWR l[i] r < 0 then l[i] :: addW (l.drop (i + 1)) r else if l[i] = r then l.drop i else r :: l.drop i := by
  rw [List.drop_eq_getElem_cons h, addW]

theorem add_ok (a : Option Addr) (c : Nat) (l : List WR) (r : WR) (hl : l.length ≤ 100000) :
    FnS Try.prog 28 [.c (.sl a l.length c), .agg [.s r.w, .i .i64 r.sp, .s r.nm, .i .i64 r.n]] [.row 39 4 a l.length c (wrC l)] []
      (fun v L D => ∃ a' c', v = .c (.sl a' (addW l r).length c') ∧ L = [.row 39 4 a' (addW l r).length c' (wrC (addW l r))] ∧ D = []) := by
  generalize hW : addW l r = W
  refine fn_of_J Try.tyOK 0 Try.func28 (by kernel_rfl) (c := Try.f28.body.getD .skip) (by kernel_rfl) Try.ntmps28 (rs := Try.f28.results.toList) rfl (by simp) (fun G => ?_)
  refine J_cap (List.Mem.head _) (fun hnc _ _ => ?_)
  repeat' first
    | refine J_seq ?_ | refine J_region Try.tyOK ?_ | refine J_block ?_ | refine J_cond ?_ | refine J_ret ?_ | refine J_skip ?_ | refine J_exit ?_ | refine J_scope ?_
    | refine CondP.yes (by omega) ?_ | refine CondP.no (by omega) ?_ | refine CondP.mk (fun h => ?_) (fun h => ?_) | refine EqP.mk rfl ?_ | refine NewP.mk (fun ad => ?_) | refine ArP.exact (by simp only [inR]; omega) ?_ | refine SideP.mk (by first | omega | (dsimp only; omega) | (simp; omega)) ?_
    | fail
  refine J_loop (α := Nat) (fun i => [(0, .c (.sl a l.length c)), (3, .c (.p 0 ad 0)), (5, .c (.i .i64 i))]) (fun _ => [.box 0 ad 39 [.s r.w, .i .i64 r.sp, .s r.nm, .i .i64 r.n], .row 39 4 a l.length c (wrC l)]) (fun _ => []) 1
    (fun i => i ≤ l.length ∧ W = l.take i ++ addW (l.drop i) r) (fun i => l.length - i) (InFam.mk 0 ⟨Nat.zero_le _, by rw [← hW]; rfl⟩ (by repeat' first | exact SubE.nil | refine SubE.cons rfl ?_ ?_ | exact VEq.refl _ | refine VEq.int (by omega) | refine VEq.sl rfl (by first | rfl | omega | (rw [List.length_append]; rfl) | (simp; omega)) rfl) (Ents.refl _ _)) (fun i hx => ?_)
  obtain ⟨hi, he⟩ := hx
  have h6l : W = l.take i ++ r :: l.drop i → W.length = i + 1 + (l.length - i) := fun h => by rw [h]; simp; omega
  have h6c : W = l.take i ++ r :: l.drop i → wrC W = wrC (l.take i) ++ [.s r.w, .i .i64 r.sp, .s r.nm, .i .i64 r.n] ++ wrC (l.drop i) := fun h => by rw [h]; simp [wrC, WR.cells]
  by_cases hlt : i < l.length
  · have hg := wr_get hlt
    have hat := addW_at (r := r) hlt
    have cc := refCmpRow_ok l[i] r
    have hxe := wr_ext (x := l[i]) (y := r)
    have hxn := wr_ne (x := l[i]) (y := r)
    have ht := List.take_succ_eq_append_getElem hlt
    have hfull : l.take i ++ l.drop i = l := List.take_append_drop i l
    generalize hLI : l[i] = x at *
    have hstep : cmpWR x r < 0 → W = l.take (i + 1) ++ addW (l.drop (i + 1)) r := fun h => by rw [he, hat, if_pos h, ht, List.append_assoc]; rfl
    have hsame : ¬ cmpWR x r < 0 → x = r → W = l := fun h1 h2 => by rw [he, hat, if_neg h1, if_pos h2, hfull]
    have hnew : ¬ cmpWR x r < 0 → ¬ x = r → W = l.take i ++ r :: l.drop i := fun h1 h2 => by rw [he, hat, if_neg h1, if_neg h2]
    clear hat ht hfull he hW
    repeat' first
      | refine J_seq ?_ | refine J_region Try.tyOK ?_ | refine J_block ?_ | refine J_cond ?_ | refine J_ret ?_ | refine J_skip ?_ | refine J_exit ?_ | refine J_scope ?_
      | refine CondP.yes (by omega) ?_ | refine CondP.no (by omega) ?_ | refine CondP.mk (fun h => ?_) (fun h => ?_) | refine EqP.mk rfl ?_ | refine NewP.mk (fun ad => ?_) | refine ArP.exact (by simp only [inR]; omega) ?_ | refine SideP.mk (by first | omega | (dsimp only; omega) | (simp; omega)) ?_
      | refine J_drawS (id := 2) Try.tyOK (by kernel_rfl) [0, 0, 2, 7, 15, 31, 31, 127, 255, 31, 1023, 2047, 4095] [0, 1, 2, 3, 4, 5, 6, 7, 8, 9, 10, 11, 12] [] [3, 13] true (by kernel_rfl) ?_ | refine J_drawS (id := 4) Try.tyOK (by kernel_rfl) [0, 0, 2, 7, 15, 31, 31, 127, 255, 31, 1023, 2047] [0, 1, 2, 3, 4, 5, 6, 7, 8, 9, 10, 11] [] [3, 28] true (by kernel_rfl) ?_ | refine J_drawT (id := 6) Try.tyOK (by kernel_rfl) [0, 0, 3, 7, 0, 16, 63, 0, 0, 384, 1023, 2047] [0, 1, 2, 4, 7, 8, 9] 3 [5, 6, 10, 11] 5 [3, 6, 10, 11] [3, 5, 6, 10] [3] 12 false (by kernel_rfl) ?_ | refine TwoP.mk ?_ ?_ | refine EntP.mk (Ents.ofSub (by repeat (first | exact List.Sublist.slnil | refine List.Sublist.cons_cons _ ?_ | refine List.Sublist.cons _ ?_)) (by first | exact fun _ h => h | exact fun _ _ => trivial | exact fun _ h => h.2 | exact fun _ h => h.2.2.2.2 | exact fun _ h => h.2.2 | exact fun _ h => h.2.2.2 | exact fun _ h => h.2.2.2.2.2 | exact fun _ h => h.2.2.2.2.2.2 | exact fun _ h => h.2.2.2.2.2.2.2 | exact fun _ h => h.2.2.2.2.2.2.2.2 | exact fun _ h => h.2.2.2.2.2.2.2.2.2 | exact fun _ h => h.2.2.2.2.2.2.2.2.2.2 | exact fun _ h => ((allD_append _ _).1 h).2)) ?_ | refine IdxE.mk 39 4 _ (.inl ⟨c, List.Mem.tail _ (List.Mem.head _)⟩) (by omega) (by omega) ?_ | refine LoadE.mk 39 _ _ _ (.inl ⟨c, List.Mem.tail _ (List.Mem.head _)⟩) (by omega) (by omega) (by first | omega | decide) hg ?_ | refine CallQ.mk [] _ cc (fun _ _ => trivial) ?_ | refine Round.mk (i + 1) (by omega) ⟨by omega, hstep (by assumption)⟩ (by repeat' first | exact SubE.nil | refine SubE.cons rfl ?_ ?_ | exact VEq.refl _ | refine VEq.int (by omega) | refine VEq.sl rfl (by first | rfl | omega | (rw [List.length_append]; rfl) | (simp; omega)) rfl) (Ents.refl _ _) | refine AppE.nil (wrC (l.take i)) i rfl rfl rfl (SrcE.sl 39 39 _ _ _ _ _ rfl rfl (rpre (List.Mem.tail _ (List.Mem.head _)) rfl hi) (by rw [wrC_len, List.length_take, Nat.min_eq_left hi]; rfl)) (by dsimp only; omega) (fun a' c' => ?_) | refine AppE.nil (wrC (l.take i)) i rfl rfl rfl (SrcE.sl 39 39 _ _ _ _ _ rfl rfl (rpre (List.Mem.tail _ (List.Mem.tail _ (List.Mem.head _))) rfl hi) (by rw [wrC_len, List.length_take, Nat.min_eq_left hi]; rfl)) (by dsimp only; omega) (fun a' c' => ?_) | refine AppE.row [_] _ (wrC (l.take i)) [.s r.w, .i .i64 r.sp, .s r.nm, .i .i64 r.n] 1 rfl (SrcE.sl 39 39 _ _ 1 1 _ rfl rfl (.inl ⟨1, List.Mem.head _⟩) rfl) (by dsimp only; omega) (fun a' c' => ?_) | refine AppE.row [] _ (wrC (l.take i)) [.s r.w, .i .i64 r.sp, .s r.nm, .i .i64 r.n] 1 rfl (SrcE.sl 39 39 _ _ 1 1 _ rfl rfl (.inl ⟨1, List.Mem.tail _ (List.Mem.head _)⟩) rfl) (by dsimp only; omega) (fun a' c' => ?_) | refine AppE.row [_] _ (wrC (l.take i) ++ [.s r.w, .i .i64 r.sp, .s r.nm, .i .i64 r.n]) (wrC (l.drop i)) (l.length - i) rfl (SrcE.sl 39 39 _ _ _ _ _ rfl rfl (rsuf (List.Mem.tail _ (List.Mem.tail _ (List.Mem.tail _ (List.Mem.head _)))) rfl hi hnc) (by rw [wrC_len, List.length_drop]; rfl)) (by dsimp only; omega) (fun a' c' => ?_) | refine AppE.row [] _ (wrC (l.take i) ++ [.s r.w, .i .i64 r.sp, .s r.nm, .i .i64 r.n]) (wrC (l.drop i)) (l.length - i) rfl (SrcE.sl 39 39 _ _ _ _ _ rfl rfl (rsuf (List.Mem.tail _ (List.Mem.tail _ (List.Mem.tail _ (List.Mem.head _)))) rfl hi hnc) (by rw [wrC_len, List.length_drop]; rfl)) (by dsimp only; omega) (fun a' c' => ?_) | refine FinE.mk [_] [] ⟨a, c, by rw [hsame (by assumption) (hxe (by assumption))], by rw [hsame (by assumption) (hxe (by assumption))], rfl⟩ (Ents.ofSub (by repeat (first | exact List.Sublist.slnil | refine List.Sublist.cons_cons _ ?_ | refine List.Sublist.cons _ ?_)) (by first | exact fun _ h => h | exact fun _ _ => trivial | exact fun _ h => h.2 | exact fun _ h => h.2.2.2.2 | exact fun _ h => h.2.2 | exact fun _ h => h.2.2.2 | exact fun _ h => h.2.2.2.2.2 | exact fun _ h => h.2.2.2.2.2.2 | exact fun _ h => h.2.2.2.2.2.2.2 | exact fun _ h => h.2.2.2.2.2.2.2.2 | exact fun _ h => h.2.2.2.2.2.2.2.2.2 | exact fun _ h => h.2.2.2.2.2.2.2.2.2.2 | exact fun _ h => ((allD_append _ _).1 h).2)) | refine FinE.mk [.row 39 4 a' (i + 1 + (l.length - i)) c' (wrC (l.take i) ++ [.s r.w, .i .i64 r.sp, .s r.nm, .i .i64 r.n] ++ wrC (l.drop i))] [] ⟨a', c', by rw [h6l (hnew (by assumption) (hxn (by assumption)))], by rw [h6l (hnew (by assumption) (hxn (by assumption))), h6c (hnew (by assumption) (hxn (by assumption)))], rfl⟩ (Ents.ofSub (by repeat (first | exact List.Sublist.slnil | refine List.Sublist.cons_cons _ ?_ | refine List.Sublist.cons _ ?_)) (by first | exact fun _ h => h | exact fun _ _ => trivial | exact fun _ h => h.2 | exact fun _ h => h.2.2.2.2 | exact fun _ h => h.2.2 | exact fun _ h => h.2.2.2 | exact fun _ h => h.2.2.2.2.2 | exact fun _ h => h.2.2.2.2.2.2 | exact fun _ h => h.2.2.2.2.2.2.2 | exact fun _ h => h.2.2.2.2.2.2.2.2 | exact fun _ h => h.2.2.2.2.2.2.2.2.2 | exact fun _ h => h.2.2.2.2.2.2.2.2.2.2 | exact fun _ h => ((allD_append _ _).1 h).2))
      | fail
  · have hil : i = l.length := by omega
    have hdn : l.drop i = [] := List.drop_eq_nil_of_le (by omega)
    have hnew : W = l.take i ++ r :: l.drop i := by rw [he, hdn]; rfl
    repeat' first
      | refine J_seq ?_ | refine J_region Try.tyOK ?_ | refine J_block ?_ | refine J_cond ?_ | refine J_ret ?_ | refine J_skip ?_ | refine J_exit ?_ | refine J_scope ?_
      | refine CondP.yes (by omega) ?_ | refine CondP.no (by omega) ?_ | refine CondP.mk (fun h => ?_) (fun h => ?_) | refine EqP.mk rfl ?_ | refine NewP.mk (fun ad => ?_) | refine ArP.exact (by simp only [inR]; omega) ?_ | refine SideP.mk (by first | omega | (dsimp only; omega) | (simp; omega)) ?_
      | refine J_drawS (id := 2) Try.tyOK (by kernel_rfl) [0, 0, 2, 7, 15, 31, 31, 127, 255, 31, 1023, 2047, 4095] [0, 1, 2, 3, 4, 5, 6, 7, 8, 9, 10, 11, 12] [] [3, 13] true (by kernel_rfl) ?_ | refine J_drawS (id := 4) Try.tyOK (by kernel_rfl) [0, 0, 2, 7, 15, 31, 31, 127, 255, 31, 1023, 2047] [0, 1, 2, 3, 4, 5, 6, 7, 8, 9, 10, 11] [] [3, 28] true (by kernel_rfl) ?_ | refine J_drawT (id := 6) Try.tyOK (by kernel_rfl) [0, 0, 3, 7, 0, 16, 63, 0, 0, 384, 1023, 2047] [0, 1, 2, 4, 7, 8, 9] 3 [5, 6, 10, 11] 5 [3, 6, 10, 11] [3, 5, 6, 10] [3] 12 false (by kernel_rfl) ?_ | refine TwoP.mk ?_ ?_ | refine EntP.mk (Ents.ofSub (by repeat (first | exact List.Sublist.slnil | refine List.Sublist.cons_cons _ ?_ | refine List.Sublist.cons _ ?_)) (by first | exact fun _ h => h | exact fun _ _ => trivial | exact fun _ h => h.2 | exact fun _ h => h.2.2.2.2 | exact fun _ h => h.2.2 | exact fun _ h => h.2.2.2 | exact fun _ h => h.2.2.2.2.2 | exact fun _ h => h.2.2.2.2.2.2 | exact fun _ h => h.2.2.2.2.2.2.2 | exact fun _ h => h.2.2.2.2.2.2.2.2 | exact fun _ h => h.2.2.2.2.2.2.2.2.2 | exact fun _ h => h.2.2.2.2.2.2.2.2.2.2 | exact fun _ h => ((allD_append _ _).1 h).2)) ?_ | refine AppE.nil (wrC (l.take i)) i rfl rfl rfl (SrcE.sl 39 39 _ _ _ _ _ rfl rfl (rpre (List.Mem.tail _ (List.Mem.head _)) rfl hi) (by rw [wrC_len, List.length_take, Nat.min_eq_left hi]; rfl)) (by dsimp only; omega) (fun a' c' => ?_) | refine AppE.nil (wrC (l.take i)) i rfl rfl rfl (SrcE.sl 39 39 _ _ _ _ _ rfl rfl (rpre (List.Mem.tail _ (List.Mem.tail _ (List.Mem.head _))) rfl hi) (by rw [wrC_len, List.length_take, Nat.min_eq_left hi]; rfl)) (by dsimp only; omega) (fun a' c' => ?_) | refine AppE.row [_] _ (wrC (l.take i)) [.s r.w, .i .i64 r.sp, .s r.nm, .i .i64 r.n] 1 rfl (SrcE.sl 39 39 _ _ 1 1 _ rfl rfl (.inl ⟨1, List.Mem.head _⟩) rfl) (by dsimp only; omega) (fun a' c' => ?_) | refine AppE.row [] _ (wrC (l.take i)) [.s r.w, .i .i64 r.sp, .s r.nm, .i .i64 r.n] 1 rfl (SrcE.sl 39 39 _ _ 1 1 _ rfl rfl (.inl ⟨1, List.Mem.tail _ (List.Mem.head _)⟩) rfl) (by dsimp only; omega) (fun a' c' => ?_) | refine AppE.row [_] _ (wrC (l.take i) ++ [.s r.w, .i .i64 r.sp, .s r.nm, .i .i64 r.n]) (wrC (l.drop i)) (l.length - i) rfl (SrcE.sl 39 39 _ _ _ _ _ rfl rfl (rsuf (List.Mem.tail _ (List.Mem.tail _ (List.Mem.tail _ (List.Mem.head _)))) rfl hi hnc) (by rw [wrC_len, List.length_drop]; rfl)) (by dsimp only; omega) (fun a' c' => ?_) | refine AppE.row [] _ (wrC (l.take i) ++ [.s r.w, .i .i64 r.sp, .s r.nm, .i .i64 r.n]) (wrC (l.drop i)) (l.length - i) rfl (SrcE.sl 39 39 _ _ _ _ _ rfl rfl (rsuf (List.Mem.tail _ (List.Mem.tail _ (List.Mem.tail _ (List.Mem.head _)))) rfl hi hnc) (by rw [wrC_len, List.length_drop]; rfl)) (by dsimp only; omega) (fun a' c' => ?_) | refine FinE.mk [.row 39 4 a' (i + 1 + (l.length - i)) c' (wrC (l.take i) ++ [.s r.w, .i .i64 r.sp, .s r.nm, .i .i64 r.n] ++ wrC (l.drop i))] [] ⟨a', c', by rw [h6l hnew], by rw [h6l hnew, h6c hnew], rfl⟩ (Ents.ofSub (by repeat (first | exact List.Sublist.slnil | refine List.Sublist.cons_cons _ ?_ | refine List.Sublist.cons _ ?_)) (by first | exact fun _ h => h | exact fun _ _ => trivial | exact fun _ h => h.2 | exact fun _ h => h.2.2.2.2 | exact fun _ h => h.2.2 | exact fun _ h => h.2.2.2 | exact fun _ h => h.2.2.2.2.2 | exact fun _ h => h.2.2.2.2.2.2 | exact fun _ h => h.2.2.2.2.2.2.2 | exact fun _ h => h.2.2.2.2.2.2.2.2 | exact fun _ h => h.2.2.2.2.2.2.2.2.2 | exact fun _ h => h.2.2.2.2.2.2.2.2.2.2 | exact fun _ h => ((allD_append _ _).1 h).2))
      | fail

end Go.Proofs

namespace Go.X
open Go Go.Lib

theorem wr_get' {l : List WR} {i : Nat} (h : i < l.length) : l.drop i = l[i] :: l.drop (i + 1) := List.drop_eq_getElem_cons h
theorem wr_get2 {l : List WR} {i : Nat} (h : i < l.length) : ((wrC l).drop (i * 4 + 1)).take 2 = [.i .i64 l[i].sp, .s l[i].nm] := by
  rw [wrC, flat_get (F := WR.cells) (z := 4) (fun _ => rfl) h (by omega)]; rfl
theorem filter_at {l : List WR} {p : WR → Bool} {i : Nat} (h : i < l.length) : (l.drop i).filter p = if p l[i] = true then l[i] :: (l.drop (i + 1)).filter p else (l.drop (i + 1)).filter p := by
  rw [List.drop_eq_getElem_cons h, List.filter_cons]
theorem foldl_len (l m : List WR) : (l.foldl addW m).length ≤ m.length + l.length := by
  induction l generalizing m with
  | nil => exact Nat.le_refl _
  | cons x t ih =>
    have := ih (addW m x)
    have := addW_len m x
    simp only [List.foldl_cons, List.length_cons]
    omega
/-- The rows that Put gives. -/
def putT (l r : List WR) (sp : Int) (nm : List UInt8) : List WR := ordW ((l.filter fun x => !decide (x.sp = sp ∧ x.nm = nm)) ++ r)

end Go.X

namespace Go.Proofs
open Go Go.X
set_option maxRecDepth 100000
set_option maxHeartbeats 4000000

theorem refPut_ok (e e' : Nat) (a b : Option Addr) (c d : Nat) (l r : List WR) (sp : Int) (nm : List UInt8) (hl : l.length ≤ 1000) (hr : r.length ≤ 1000) :
    FnS Try.prog 15 [.c (.sl a l.length c), .agg [.i .i64 sp, .s nm], .c (.sl b r.length d)] [] [slFact e 4 a l.length (wrC l), slFact e' 4 b r.length (wrC r)]
      (fun v L D => ∃ a' c', v = .c (.sl a' (putT l r sp nm).length c') ∧ L = [.row 39 4 a' (putT l r sp nm).length c' (wrC (putT l r sp nm))] ∧ D = []) := by
  have hW : putT l r sp nm = r.foldl addW ((l.filter fun x => !decide (x.sp = sp ∧ x.nm = nm)).foldl addW []) := by
    rw [putT, ← foldAdd_is, List.foldl_append]
  generalize putT l r sp nm = W at *
  have hr1 : ∀ L, Reads L [slFact e 4 a l.length (wrC l), slFact e' 4 b r.length (wrC r)] e 4 a l.length (wrC l) := fun L => .inr fun m h => h.1
  have hr2 : ∀ L, Reads L [slFact e 4 a l.length (wrC l), slFact e' 4 b r.length (wrC r)] e' 4 b r.length (wrC r) := fun L => .inr fun m h => h.2.1
  refine fn_of_J Try.tyOK 0 Try.func15 (by kernel_rfl) (c := Try.f15.body.getD .skip) (by kernel_rfl) Try.ntmps15 (rs := Try.f15.results.toList) rfl (by simp) (fun G => ?_)
  repeat' first
    | refine J_seq ?_ | refine J_region Try.tyOK ?_ | refine J_block ?_ | refine J_cond ?_ | refine J_ret ?_ | refine J_skip ?_ | refine J_exit ?_ | refine J_scope ?_
    | refine CondP.yes (by omega) ?_ | refine CondP.no (by omega) ?_ | refine CondP.mk (fun h => ?_) (fun h => ?_) | refine EqP.mk rfl ?_ | refine NewP.mk (fun ad => ?_) | refine ArP.exact (by simp only [inR]; omega) ?_ | refine SideP.mk (by first | omega | (dsimp only; omega) | (simp; omega)) ?_
    | fail
  refine J_loop (α := Nat × List WR × Option Addr × Nat) (fun x => [(0, .c (.sl a l.length c)), (2, .c (.sl b r.length d)), (4, .c (.p 0 ad 0)), (7, .c (.sl x.2.2.1 x.2.1.length x.2.2.2)), (8, .c (.i .i64 x.1))]) (fun x => [.row 39 4 x.2.2.1 x.2.1.length x.2.2.2 (wrC x.2.1), .box 0 ad 33 [.i .i64 sp, .s nm]]) (fun _ => [slFact e 4 a l.length (wrC l), slFact e' 4 b r.length (wrC r)]) 1
    (fun x => x.1 ≤ l.length ∧ x.2.1.length ≤ x.1 ∧ W = r.foldl addW (((l.drop x.1).filter fun x => !decide (x.sp = sp ∧ x.nm = nm)).foldl addW x.2.1)) (fun x => l.length - x.1) (InFam.mk (0, [], none, 0) ⟨Nat.zero_le _, Nat.le_refl _, hW⟩ (by repeat' first | exact SubE.nil | refine SubE.cons rfl ?_ ?_ | exact VEq.refl _ | refine VEq.int (by omega) | refine VEq.sl rfl (by first | rfl | omega | (rw [List.length_append]; rfl) | (simp; omega)) rfl) (Ents.nilRow (ety := 39) (esz := 4))) (fun x hx => ?_)
  obtain ⟨i, out, b1, d1⟩ := x
  dsimp only at hx ⊢
  obtain ⟨hi, hol, he⟩ := hx
  by_cases hlt : i < l.length
  · have hg := wr_get hlt
    have hg2 := wr_get2 hlt
    have hf := filter_at (p := fun x : WR => !decide (x.sp = sp ∧ x.nm = nm)) hlt
    generalize l[i] = x at *
    have ca := fun b1 d1 => add_ok b1 d1 out x (by omega)
    have hal := addW_len out x
    have hyes : ¬ (x.sp = sp ∧ x.nm = nm ∧ True) → W = r.foldl addW (((l.drop (i + 1)).filter fun x => !decide (x.sp = sp ∧ x.nm = nm)).foldl addW (addW out x)) := fun h => by
      rw [he, hf, if_pos (by rw [decide_eq_false fun e => h ⟨e.1, e.2, trivial⟩]; rfl)]; rfl
    have hno : (x.sp = sp ∧ x.nm = nm ∧ True) → W = r.foldl addW (((l.drop (i + 1)).filter fun x => !decide (x.sp = sp ∧ x.nm = nm)).foldl addW out) := fun h => by
      rw [he, hf, if_neg (by rw [decide_eq_true ⟨h.1, h.2.1⟩]; decide)]
    repeat' first
      | refine J_seq ?_ | refine J_region Try.tyOK ?_ | refine J_block ?_ | refine J_cond ?_ | refine J_ret ?_ | refine J_skip ?_ | refine J_exit ?_ | refine J_scope ?_
      | refine CondP.yes (by omega) ?_ | refine CondP.no (by omega) ?_ | refine CondP.mk (fun h => ?_) (fun h => ?_) | refine EqP.mk rfl ?_ | refine NewP.mk (fun ad => ?_) | refine ArP.exact (by simp only [inR]; omega) ?_ | refine SideP.mk (by first | omega | (dsimp only; omega) | (simp; omega)) ?_
      | refine J_drawS (id := 5) Try.tyOK (by kernel_rfl) [0, 0, 3, 7, 15, 0, 63] [0, 1, 2, 3, 4, 5, 6] [] [4, 18] true (by kernel_rfl) ?_ | refine EntP.mk (Ents.ofSub (by repeat (first | exact List.Sublist.slnil | refine List.Sublist.cons_cons _ ?_ | refine List.Sublist.cons _ ?_)) (by first | exact fun _ h => h | exact fun _ _ => trivial | exact fun _ h => h.2 | exact fun _ h => h.2.2.2.2 | exact fun _ h => h.2.2 | exact fun _ h => h.2.2.2 | exact fun _ h => h.2.2.2.2.2 | exact fun _ h => h.2.2.2.2.2.2 | exact fun _ h => h.2.2.2.2.2.2.2 | exact fun _ h => h.2.2.2.2.2.2.2.2 | exact fun _ h => h.2.2.2.2.2.2.2.2.2 | exact fun _ h => h.2.2.2.2.2.2.2.2.2.2 | exact fun _ h => ((allD_append _ _).1 h).2)) ?_ | refine IdxE.mk e 4 _ (hr1 _) (by omega) (by omega) ?_ | refine LoadE.mk e _ _ _ (hr1 _) (by omega) (by omega) (by first | omega | decide) hg ?_ | refine LoadE.mk e _ _ [.i .i64 x.sp, .s x.nm] (hr1 _) (by omega) (by omega) (by first | omega | decide) hg2 ?_ | refine FldE.mk e 4 _ _ (hr1 _) (by omega) ?_ | refine CallP.mk [_] [_] [] _ (ca _ _) (List.Perm.refl _) (fun _ _ => trivial) (fun v L' D' hq => ?_); obtain ⟨a1, k1, rfl, rfl, rfl⟩ := hq | refine Round.mk (i + 1, addW out x, a1, k1) (by dsimp only; omega) ⟨by dsimp only; omega, by dsimp only; omega, hyes (by assumption)⟩ (by repeat' first | exact SubE.nil | refine SubE.cons rfl ?_ ?_ | exact VEq.refl _ | refine VEq.int (by omega) | refine VEq.sl rfl (by first | rfl | omega | (rw [List.length_append]; rfl) | (simp; omega)) rfl) (Ents.ofSub (by repeat (first | exact List.Sublist.slnil | refine List.Sublist.cons_cons _ ?_ | refine List.Sublist.cons _ ?_)) (by first | exact fun _ h => h | exact fun _ _ => trivial | exact fun _ h => h.2 | exact fun _ h => h.2.2.2.2 | exact fun _ h => h.2.2 | exact fun _ h => h.2.2.2 | exact fun _ h => h.2.2.2.2.2 | exact fun _ h => h.2.2.2.2.2.2 | exact fun _ h => h.2.2.2.2.2.2.2 | exact fun _ h => h.2.2.2.2.2.2.2.2 | exact fun _ h => h.2.2.2.2.2.2.2.2.2 | exact fun _ h => h.2.2.2.2.2.2.2.2.2.2 | exact fun _ h => ((allD_append _ _).1 h).2)) | refine Round.mk (i + 1, out, b1, d1) (by dsimp only; omega) ⟨by dsimp only; omega, by dsimp only; omega, hno (by assumption)⟩ (by repeat' first | exact SubE.nil | refine SubE.cons rfl ?_ ?_ | exact VEq.refl _ | refine VEq.int (by omega) | refine VEq.sl rfl (by first | rfl | omega | (rw [List.length_append]; rfl) | (simp; omega)) rfl) (Ents.ofSub (by repeat (first | exact List.Sublist.slnil | refine List.Sublist.cons_cons _ ?_ | refine List.Sublist.cons _ ?_)) (by first | exact fun _ h => h | exact fun _ _ => trivial | exact fun _ h => h.2 | exact fun _ h => h.2.2.2.2 | exact fun _ h => h.2.2 | exact fun _ h => h.2.2.2 | exact fun _ h => h.2.2.2.2.2 | exact fun _ h => h.2.2.2.2.2.2 | exact fun _ h => h.2.2.2.2.2.2.2 | exact fun _ h => h.2.2.2.2.2.2.2.2 | exact fun _ h => h.2.2.2.2.2.2.2.2.2 | exact fun _ h => h.2.2.2.2.2.2.2.2.2.2 | exact fun _ h => ((allD_append _ _).1 h).2))
      | fail
  · have hil : i = l.length := by omega
    subst hil
    rw [List.drop_length] at he
    have he : W = r.foldl addW out := he
    repeat' first
      | refine J_seq ?_ | refine J_region Try.tyOK ?_ | refine J_block ?_ | refine J_cond ?_ | refine J_ret ?_ | refine J_skip ?_ | refine J_exit ?_ | refine J_scope ?_
      | refine CondP.yes (by omega) ?_ | refine CondP.no (by omega) ?_ | refine CondP.mk (fun h => ?_) (fun h => ?_) | refine EqP.mk rfl ?_ | refine NewP.mk (fun ad => ?_) | refine ArP.exact (by simp only [inR]; omega) ?_ | refine SideP.mk (by first | omega | (dsimp only; omega) | (simp; omega)) ?_
      | fail
    refine J_loop (α := Nat × List WR × Option Addr × Nat) (fun x => [(2, .c (.sl b r.length d)), (7, .c (.sl x.2.2.1 x.2.1.length x.2.2.2)), (9, .c (.i .i64 x.1))]) (fun x => [.row 39 4 x.2.2.1 x.2.1.length x.2.2.2 (wrC x.2.1)]) (fun _ => [slFact e 4 a l.length (wrC l), slFact e' 4 b r.length (wrC r)]) 1
      (fun x => x.1 ≤ r.length ∧ x.2.1.length ≤ 1000 + x.1 ∧ W = (r.drop x.1).foldl addW x.2.1) (fun x => r.length - x.1) (InFam.mk (0, out, b1, d1) ⟨Nat.zero_le _, by dsimp only; omega, he⟩ (by repeat' first | exact SubE.nil | refine SubE.cons rfl ?_ ?_ | exact VEq.refl _ | refine VEq.int (by omega) | refine VEq.sl rfl (by first | rfl | omega | (rw [List.length_append]; rfl) | (simp; omega)) rfl) (Ents.ofSub (by repeat (first | exact List.Sublist.slnil | refine List.Sublist.cons_cons _ ?_ | refine List.Sublist.cons _ ?_)) (by first | exact fun _ h => h | exact fun _ _ => trivial | exact fun _ h => h.2 | exact fun _ h => h.2.2.2.2 | exact fun _ h => h.2.2 | exact fun _ h => h.2.2.2 | exact fun _ h => h.2.2.2.2.2 | exact fun _ h => h.2.2.2.2.2.2 | exact fun _ h => h.2.2.2.2.2.2.2 | exact fun _ h => h.2.2.2.2.2.2.2.2 | exact fun _ h => h.2.2.2.2.2.2.2.2.2 | exact fun _ h => h.2.2.2.2.2.2.2.2.2.2 | exact fun _ h => ((allD_append _ _).1 h).2))) (fun x hx => ?_)
    clear he hol
    obtain ⟨i, out, b1, d1⟩ := x
    dsimp only at hx ⊢
    obtain ⟨hi, hol, he⟩ := hx
    by_cases hlt : i < r.length
    · have hg := wr_get hlt
      rw [List.drop_eq_getElem_cons hlt, List.foldl_cons] at he
      generalize r[i] = x at *
      have ca := fun b1 d1 => add_ok b1 d1 out x (by omega)
      have hal := addW_len out x
      repeat' first
        | refine J_seq ?_ | refine J_region Try.tyOK ?_ | refine J_block ?_ | refine J_cond ?_ | refine J_ret ?_ | refine J_skip ?_ | refine J_exit ?_ | refine J_scope ?_
        | refine CondP.yes (by omega) ?_ | refine CondP.no (by omega) ?_ | refine CondP.mk (fun h => ?_) (fun h => ?_) | refine EqP.mk rfl ?_ | refine NewP.mk (fun ad => ?_) | refine ArP.exact (by simp only [inR]; omega) ?_ | refine SideP.mk (by first | omega | (dsimp only; omega) | (simp; omega)) ?_
        | refine J_drawS (id := 5) Try.tyOK (by kernel_rfl) [0, 0, 3, 7, 15, 0, 63] [0, 1, 2, 3, 4, 5, 6] [] [4, 18] true (by kernel_rfl) ?_ | refine EntP.mk (Ents.ofSub (by repeat (first | exact List.Sublist.slnil | refine List.Sublist.cons_cons _ ?_ | refine List.Sublist.cons _ ?_)) (by first | exact fun _ h => h | exact fun _ _ => trivial | exact fun _ h => h.2 | exact fun _ h => h.2.2.2.2 | exact fun _ h => h.2.2 | exact fun _ h => h.2.2.2 | exact fun _ h => h.2.2.2.2.2 | exact fun _ h => h.2.2.2.2.2.2 | exact fun _ h => h.2.2.2.2.2.2.2 | exact fun _ h => h.2.2.2.2.2.2.2.2 | exact fun _ h => h.2.2.2.2.2.2.2.2.2 | exact fun _ h => h.2.2.2.2.2.2.2.2.2.2 | exact fun _ h => ((allD_append _ _).1 h).2)) ?_ | refine IdxE.mk e' 4 _ (hr2 _) (by omega) (by omega) ?_ | refine LoadE.mk e' _ _ _ (hr2 _) (by omega) (by omega) (by first | omega | decide) hg ?_ | refine CallP.mk [_] [] [] _ (ca _ _) (List.Perm.refl _) (fun _ _ => trivial) (fun v L' D' hq => ?_); obtain ⟨a1, k1, rfl, rfl, rfl⟩ := hq | refine Round.mk (i + 1, addW out x, a1, k1) (by dsimp only; omega) ⟨by dsimp only; omega, by dsimp only; omega, he⟩ (by repeat' first | exact SubE.nil | refine SubE.cons rfl ?_ ?_ | exact VEq.refl _ | refine VEq.int (by omega) | refine VEq.sl rfl (by first | rfl | omega | (rw [List.length_append]; rfl) | (simp; omega)) rfl) (Ents.ofSub (by repeat (first | exact List.Sublist.slnil | refine List.Sublist.cons_cons _ ?_ | refine List.Sublist.cons _ ?_)) (by first | exact fun _ h => h | exact fun _ _ => trivial | exact fun _ h => h.2 | exact fun _ h => h.2.2.2.2 | exact fun _ h => h.2.2 | exact fun _ h => h.2.2.2 | exact fun _ h => h.2.2.2.2.2 | exact fun _ h => h.2.2.2.2.2.2 | exact fun _ h => h.2.2.2.2.2.2.2 | exact fun _ h => h.2.2.2.2.2.2.2.2 | exact fun _ h => h.2.2.2.2.2.2.2.2.2 | exact fun _ h => h.2.2.2.2.2.2.2.2.2.2 | exact fun _ h => ((allD_append _ _).1 h).2))
        | fail
    · have hil : i = r.length := by omega
      subst hil
      rw [List.drop_length] at he
      have he : W = out := he
      subst he
      repeat' first
        | refine J_seq ?_ | refine J_region Try.tyOK ?_ | refine J_block ?_ | refine J_cond ?_ | refine J_ret ?_ | refine J_skip ?_ | refine J_exit ?_ | refine J_scope ?_
        | refine CondP.yes (by omega) ?_ | refine CondP.no (by omega) ?_ | refine CondP.mk (fun h => ?_) (fun h => ?_) | refine EqP.mk rfl ?_ | refine NewP.mk (fun ad => ?_) | refine ArP.exact (by simp only [inR]; omega) ?_ | refine SideP.mk (by first | omega | (dsimp only; omega) | (simp; omega)) ?_
        | refine FinE.mk [_] [] ⟨_, _, rfl, rfl, rfl⟩ (Ents.ofSub (by repeat (first | exact List.Sublist.slnil | refine List.Sublist.cons_cons _ ?_ | refine List.Sublist.cons _ ?_)) (by first | exact fun _ h => h | exact fun _ _ => trivial | exact fun _ h => h.2 | exact fun _ h => h.2.2.2.2 | exact fun _ h => h.2.2 | exact fun _ h => h.2.2.2 | exact fun _ h => h.2.2.2.2.2 | exact fun _ h => h.2.2.2.2.2.2 | exact fun _ h => h.2.2.2.2.2.2.2 | exact fun _ h => h.2.2.2.2.2.2.2.2 | exact fun _ h => h.2.2.2.2.2.2.2.2.2 | exact fun _ h => h.2.2.2.2.2.2.2.2.2.2 | exact fun _ h => ((allD_append _ _).1 h).2))
        | fail

theorem put2_ok (e e' : Nat) (a b : Option Addr) (c d : Nat) (l r : List WR) (sp : Int) (nm : List UInt8) (hl : l.length ≤ 1000) (hr : r.length ≤ 1000) :
    FnS Try.prog 14 [.c (.sl a l.length c), .agg [.i .i64 sp, .s nm], .c (.sl b r.length d)] [] [slFact e 4 a l.length (wrC l), slFact e' 4 b r.length (wrC r)]
      (fun v L D => ∃ a' c', v = .c (.sl a' (putT l r sp nm).length c') ∧ L = [.row 39 4 a' (putT l r sp nm).length c' (wrC (putT l r sp nm))] ∧ D = []) :=
  put_ok e e' a b c d l r sp nm hl hr

end Go.Proofs
