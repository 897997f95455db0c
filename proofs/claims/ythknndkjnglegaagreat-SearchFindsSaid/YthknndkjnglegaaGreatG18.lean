/- This text walks through the functions Titles and In of the reference of chapter 33, and through count and Find of that of chapter 35. -/
import Derived.Test.YthknndkjnglegaaGreatG12
import Derived.Test.YthknndkjnglegaaGreatG17
import Derived.Test.YthknndkjnglegaaGreatG13
set_option linter.all false

namespace Go.X
open Go Go.Lib
theorem flat_dropL {α : Type} {F : α → List C} {z : Nat} (hz : ∀ x, (F x).length = z) (l : List α) (k : Nat) (h : k ≤ l.length) : (l.flatMap F).drop (k * z) = (l.drop k).flatMap F := by
  have h2 : l.flatMap F = (l.take k).flatMap F ++ (l.drop k).flatMap F := by rw [← List.flatMap_append, List.take_append_drop]
  rw [h2]
  refine List.drop_left' ?_
  rw [flat_len hz, List.length_take, Nat.min_eq_left h]
theorem rpreF {α : Type} {F : α → List C} {z : Nat} (hz : ∀ x, (F x).length = z) (m : List α) {e : Nat} {a : Option Addr} {n c k : Nat} {L : List Chunk} {D : List Fact} (hm : Chunk.row e z a n c (m.flatMap F) ∈ L) (hn : m.length = n) (hk : k ≤ n) : Reads L D e z (resl a 0 c z) k ((m.take k).flatMap F) := by
  refine .sub a 0 n c (m.flatMap F) hm ?_ (by omega) ?_
  · rw [resl0]; cases a <;> simp [Addr.add]
  · rw [Nat.zero_mul, List.drop_zero, flat_take hz m k (by omega)]
theorem rsufF {α : Type} {F : α → List C} {z : Nat} (hz : ∀ x, (F x).length = z) (m : List α) {e : Nat} {a : Option Addr} {n c k : Nat} {L : List Chunk} {D : List Fact} (hm : Chunk.row e z a n c (m.flatMap F) ∈ L) (hn : m.length = n) (hk : k ≤ n) (hc : n ≤ c) : Reads L D e z (resl a k c z) (n - k) ((m.drop k).flatMap F) := by
  by_cases h : k < n
  · refine .sub a k n c (m.flatMap F) hm ?_ (by omega) ?_
    · exact if_neg (by omega)
    · rw [flat_dropL hz m k (by omega), List.take_of_length_le]
      rw [flat_len hz, List.length_drop]; exact Nat.le_of_eq (by rw [hn])
  · have h0 : m.drop k = [] := List.drop_eq_nil_of_le (by omega)
    rw [h0]
    exact .inr fun _ _ => ⟨fun x hx => (by cases hx), .inl ⟨by omega, rfl⟩⟩
def ttF2 (t : Int × List UInt8) : List C := [.i .i64 t.1, .s t.2]
theorem ttC_len (l : List TT) : (ttC l).length = l.length * 2 := flat_len (F := ttF2) (z := 2) (fun _ => rfl) l
theorem ttl_get {l : List TT} {i : Nat} (h : i < l.length) : ((ttC l).drop (i * 2 + 0)).take 2 = [.i .i64 l[i].1, .s l[i].2] := by
  rw [show ttC l = l.flatMap ttF2 from rfl, flat_get (F := ttF2) (z := 2) (fun _ => rfl) h (by omega)]; rfl
theorem ttpre {e : Nat} {a : Option Addr} {n c k : Nat} {m : List TT} {L : List Chunk} {D : List Fact} (hm : Chunk.row e 2 a n c (ttC m) ∈ L) (hn : m.length = n) (hk : k ≤ n) : Reads L D e 2 (resl a 0 c 2) k (ttC (m.take k)) := rpreF (F := ttF2) (fun _ => rfl) m hm hn hk
theorem ttsuf {e : Nat} {a : Option Addr} {n c k : Nat} {m : List TT} {L : List Chunk} {D : List Fact} (hm : Chunk.row e 2 a n c (ttC m) ∈ L) (hn : m.length = n) (hk : k ≤ n) (hc : n ≤ c) : Reads L D e 2 (resl a k c 2) (n - k) (ttC (m.drop k)) := rsufF (F := ttF2) (fun _ => rfl) m hm hn hk hc
theorem htpre {e : Nat} {a : Option Addr} {n c k : Nat} (m : List HT) {L : List Chunk} {D : List Fact} (hm : Chunk.row e 3 a n c (htC m) ∈ L) (hn : m.length = n) (hk : k ≤ n) : Reads L D e 3 (resl a 0 c 3) k (htC (m.take k)) := rpreF (F := HT.cells) (fun _ => rfl) m hm hn hk
theorem htsuf {e : Nat} {a : Option Addr} {n c k : Nat} (m : List HT) {L : List Chunk} {D : List Fact} (hm : Chunk.row e 3 a n c (htC m) ∈ L) (hn : m.length = n) (hk : k ≤ n) (hc : n ≤ c) : Reads L D e 3 (resl a k c 3) (n - k) (htC (m.drop k)) := rsufF (F := HT.cells) (fun _ => rfl) m hm hn hk hc
theorem htC_len' (l : List HT) : (htC l).length = l.length * 3 := flat_len (F := HT.cells) (z := 3) (fun _ => rfl) l
theorem htl_n {l : List HT} {i : Nat} (h : i < l.length) : ((htC l).drop (i * 3 + 2)).take 1 = [.i .i64 l[i].n] := by
  rw [htC, flat_get (F := HT.cells) (z := 3) (fun _ => rfl) h (by omega)]; rfl
theorem tt_ext {x y : TT} (h : x.1 = y.1 ∧ x.2 = y.2 ∧ True) : x = y := Prod.ext h.1 h.2.1
theorem tt_ne {x y : TT} (h : ¬ (x.1 = y.1 ∧ x.2 = y.2 ∧ True)) : ¬ x = y := fun e => h (by subst e; exact ⟨rfl, rfl, trivial⟩)
def cntV : Option Int → V
  | none => .t2 (.c (.i .i64 0)) ff
  | some n => .t2 (.c (.i .i64 n)) tt
theorem wr_w {l : List WR} {i : Nat} (h : i < l.length) : ((wrC l).drop (i * 4 + 0)).take 1 = [.s l[i].w] := by
  rw [wrC, flat_get (F := WR.cells) (z := 4) (fun _ => rfl) h (by omega)]; rfl
theorem wr_n {l : List WR} {i : Nat} (h : i < l.length) : ((wrC l).drop (i * 4 + 3)).take 1 = [.i .i64 l[i].n] := by
  rw [wrC, flat_get (F := WR.cells) (z := 4) (fun _ => rfl) h (by omega)]; rfl
theorem pg_get2 {l : List PG} {i : Nat} (h : i < l.length) : ((pgC l).drop (i * 4 + 0)).take 2 = [.i .i64 l[i].sp, .s l[i].nm] := by
  rw [pgC, flat_get (F := PG.cells) (z := 4) (fun _ => rfl) h (by omega)]; rfl
end Go.X
namespace Go.Proofs
open Go Go.X
set_option maxRecDepth 100000
set_option maxHeartbeats 4000000
theorem titles33_ok (a : Option Addr) (c : Nat) (l : List TT) (r : TT) (hl : l.length ≤ 10000000) :
    FnS Tryz.prog 55 [.c (.sl a l.length c), .agg [.i .i64 r.1, .s r.2]] [.row 50 2 a l.length c (ttC l)] []
      (fun v L D => ∃ a' c', v = .c (.sl a' (addG cmpTT l r).length c') ∧ L = [.row 50 2 a' (addG cmpTT l r).length c' (ttC (addG cmpTT l r))] ∧ D = []) := by
  generalize hW : addG cmpTT l r = W
  refine fn_of_J Tryz.tyOK 0 Tryz.func55 (by kernel_rfl) (c := Tryz.f55.body.getD .skip) (by kernel_rfl) Tryz.ntmps55 (rs := Tryz.f55.results.toList) rfl (by simp) (fun G => ?_)
  refine J_cap (List.Mem.head _) (fun hnc _ _ => ?_)
  repeat' first | refine J_seq ?_ | refine J_region Tryz.tyOK ?_ | refine J_block ?_ | refine J_cond ?_ | refine J_ret ?_ | refine J_skip ?_ | refine J_exit ?_ | refine J_scope ?_ | refine CondP.y ?_ | refine CondP.n ?_ | refine CondP.mk (fun h => ?_) (fun h => ?_) | refine EqP.mk rfl ?_ | refine NewP.mk (fun ad => ?_) | refine ArP.x ?_ | refine SideP.a ?_ | fail
  refine J_loop (α := Nat) (fun i => [(0, .c (.sl a l.length c)), (3, .c (.p 0 ad 0)), (5, .c (.i .i64 i))]) (fun _ => [.box 0 ad 50 [.i .i64 r.1, .s r.2], .row 50 2 a l.length c (ttC l)]) (fun _ => []) 1
    (fun i => i ≤ l.length ∧ W = l.take i ++ addG cmpTT (l.drop i) r) (fun i => l.length - i) (InFam.mk 0 ⟨Nat.zero_le _, by rw [← hW]; rfl⟩ SubE.a (Ents.refl _ _)) (fun i hx => ?_)
  obtain ⟨hi, he⟩ := hx
  have h6l : W = l.take i ++ r :: l.drop i → W.length = i + 1 + (l.length - i) := fun h => by rw [h]; simp; omega
  have h6c : W = l.take i ++ r :: l.drop i → ttC W = ttC (l.take i) ++ [.i .i64 r.1, .s r.2] ++ ttC (l.drop i) := fun h => by rw [h]; simp [ttC]
  by_cases hlt : i < l.length
  · have hg := ttl_get hlt
    have hat := addG_at (cf := cmpTT) (r := r) hlt
    have cc : FnS Tryz.prog 65 [.agg [.i .i64 l[i].1, .s l[i].2], .agg [.i .i64 r.1, .s r.2]] [] [] (Is (.c (.i .i64 (cmpTT l[i] r)))) := refCompareT_ok l[i].1 l[i].2 r.1 r.2
    have hxe := tt_ext (x := l[i]) (y := r)
    have hxn := tt_ne (x := l[i]) (y := r)
    have ht := List.take_succ_eq_append_getElem hlt
    have hfull : l.take i ++ l.drop i = l := List.take_append_drop i l
    generalize hLI : l[i] = x at *
    have hstep : cmpTT x r < 0 → W = l.take (i + 1) ++ addG cmpTT (l.drop (i + 1)) r := fun h => by rw [he, hat, if_pos h, ht, List.append_assoc]; rfl
    have hsame : ¬ cmpTT x r < 0 → x = r → W = l := fun h1 h2 => by rw [he, hat, if_neg h1, if_pos h2, hfull]
    have hnew : ¬ cmpTT x r < 0 → ¬ x = r → W = l.take i ++ r :: l.drop i := fun h1 h2 => by rw [he, hat, if_neg h1, if_neg h2]
    clear hat ht hfull he hW
    repeat' first | refine J_seq ?_ | refine J_region Tryz.tyOK ?_ | refine J_block ?_ | refine J_cond ?_ | refine J_ret ?_ | refine J_skip ?_ | refine J_exit ?_ | refine J_scope ?_ | refine CondP.y ?_ | refine CondP.n ?_ | refine CondP.mk (fun h => ?_) (fun h => ?_) | refine EqP.mk rfl ?_ | refine NewP.mk (fun ad => ?_) | refine ArP.x ?_ | refine SideP.a ?_ | refine J_drawS (id := 2) Tryz.tyOK (by kernel_rfl) [0, 0, 2, 7, 15, 31, 31, 127, 255, 31, 1023, 2047, 4095] [0, 1, 2, 3, 4, 5, 6, 7, 8, 9, 10, 11, 12] [] [3, 13] true (by kernel_rfl) ?_ | refine J_drawS (id := 4) Tryz.tyOK (by kernel_rfl) [0, 0, 2, 7, 15, 31, 31, 127, 255, 31, 1023, 2047] [0, 1, 2, 3, 4, 5, 6, 7, 8, 9, 10, 11] [] [3, 28] true (by kernel_rfl) ?_ | refine J_drawT (id := 6) Tryz.tyOK (by kernel_rfl) [0, 0, 3, 7, 0, 16, 63, 0, 0, 384, 1023, 2047] [0, 1, 2, 4, 7, 8, 9] 3 [5, 6, 10, 11] 5 [3, 6, 10, 11] [3, 5, 6, 10] [3] 12 false (by kernel_rfl) ?_ | refine TwoP.mk ?_ ?_ | refine EntP.mk Ents.a ?_ | refine IdxE.mk 50 2 _ (.inl ⟨c, List.Mem.tail _ (List.Mem.head _)⟩) (by omega) (by omega) ?_ | refine LoadE.mk 50 _ _ [.i .i64 x.1, .s x.2] (.inl ⟨c, List.Mem.tail _ (List.Mem.head _)⟩) (by omega) (by omega) (by first | omega | decide) (by exact hg) ?_ | refine CallQ.mk [] _ cc (fun _ _ => trivial) ?_ | refine Round.mk (i + 1) (by omega) ⟨by omega, hstep (by assumption)⟩ SubE.a (Ents.refl _ _) | refine AppE.nil (ttC (l.take i)) i rfl rfl rfl (SrcE.sl 50 50 _ _ _ _ _ rfl rfl (ttpre (List.Mem.tail _ (List.Mem.head _)) rfl hi) (by rw [ttC_len, List.length_take, Nat.min_eq_left hi]; rfl)) (by dsimp only; omega) (fun a' c' => ?_) | refine AppE.nil (ttC (l.take i)) i rfl rfl rfl (SrcE.sl 50 50 _ _ _ _ _ rfl rfl (ttpre (List.Mem.tail _ (List.Mem.tail _ (List.Mem.head _))) rfl hi) (by rw [ttC_len, List.length_take, Nat.min_eq_left hi]; rfl)) (by dsimp only; omega) (fun a' c' => ?_) | refine AppE.row [_] _ (ttC (l.take i)) [.i .i64 r.1, .s r.2] 1 rfl (SrcE.sl 50 50 _ _ 1 1 _ rfl rfl (.inl ⟨1, List.Mem.head _⟩) rfl) (by dsimp only; omega) (fun a' c' => ?_) | refine AppE.row [] _ (ttC (l.take i)) [.i .i64 r.1, .s r.2] 1 rfl (SrcE.sl 50 50 _ _ 1 1 _ rfl rfl (.inl ⟨1, List.Mem.tail _ (List.Mem.head _)⟩) rfl) (by dsimp only; omega) (fun a' c' => ?_) | refine AppE.row [_] _ (ttC (l.take i) ++ [.i .i64 r.1, .s r.2]) (ttC (l.drop i)) (l.length - i) rfl (SrcE.sl 50 50 _ _ _ _ _ rfl rfl (ttsuf (List.Mem.tail _ (List.Mem.tail _ (List.Mem.tail _ (List.Mem.head _)))) rfl hi hnc) (by rw [ttC_len, List.length_drop]; rfl)) (by dsimp only; omega) (fun a' c' => ?_) | refine AppE.row [] _ (ttC (l.take i) ++ [.i .i64 r.1, .s r.2]) (ttC (l.drop i)) (l.length - i) rfl (SrcE.sl 50 50 _ _ _ _ _ rfl rfl (ttsuf (List.Mem.tail _ (List.Mem.tail _ (List.Mem.tail _ (List.Mem.head _)))) rfl hi hnc) (by rw [ttC_len, List.length_drop]; rfl)) (by dsimp only; omega) (fun a' c' => ?_) | refine FinE.mk [_] [] ⟨a, c, by rw [hsame (by assumption) (hxe (by assumption))], by rw [hsame (by assumption) (hxe (by assumption))], rfl⟩ Ents.a | refine FinE.mk [.row 50 2 a' (i + 1 + (l.length - i)) c' (ttC (l.take i) ++ [.i .i64 r.1, .s r.2] ++ ttC (l.drop i))] [] ⟨a', c', by rw [h6l (hnew (by assumption) (hxn (by assumption)))], by rw [h6l (hnew (by assumption) (hxn (by assumption))), h6c (hnew (by assumption) (hxn (by assumption)))], rfl⟩ Ents.a | fail
  · have hil : i = l.length := by omega
    have hdn : l.drop i = [] := List.drop_eq_nil_of_le (by omega)
    have hnew : W = l.take i ++ r :: l.drop i := by rw [he, hdn]; rfl
    repeat' first | refine J_seq ?_ | refine J_region Tryz.tyOK ?_ | refine J_block ?_ | refine J_cond ?_ | refine J_ret ?_ | refine J_skip ?_ | refine J_exit ?_ | refine J_scope ?_ | refine CondP.y ?_ | refine CondP.n ?_ | refine CondP.mk (fun h => ?_) (fun h => ?_) | refine EqP.mk rfl ?_ | refine NewP.mk (fun ad => ?_) | refine ArP.x ?_ | refine SideP.a ?_ | refine J_drawS (id := 2) Tryz.tyOK (by kernel_rfl) [0, 0, 2, 7, 15, 31, 31, 127, 255, 31, 1023, 2047, 4095] [0, 1, 2, 3, 4, 5, 6, 7, 8, 9, 10, 11, 12] [] [3, 13] true (by kernel_rfl) ?_ | refine J_drawS (id := 4) Tryz.tyOK (by kernel_rfl) [0, 0, 2, 7, 15, 31, 31, 127, 255, 31, 1023, 2047] [0, 1, 2, 3, 4, 5, 6, 7, 8, 9, 10, 11] [] [3, 28] true (by kernel_rfl) ?_ | refine J_drawT (id := 6) Tryz.tyOK (by kernel_rfl) [0, 0, 3, 7, 0, 16, 63, 0, 0, 384, 1023, 2047] [0, 1, 2, 4, 7, 8, 9] 3 [5, 6, 10, 11] 5 [3, 6, 10, 11] [3, 5, 6, 10] [3] 12 false (by kernel_rfl) ?_ | refine TwoP.mk ?_ ?_ | refine EntP.mk Ents.a ?_ | refine AppE.nil (ttC (l.take i)) i rfl rfl rfl (SrcE.sl 50 50 _ _ _ _ _ rfl rfl (ttpre (List.Mem.tail _ (List.Mem.head _)) rfl hi) (by rw [ttC_len, List.length_take, Nat.min_eq_left hi]; rfl)) (by dsimp only; omega) (fun a' c' => ?_) | refine AppE.nil (ttC (l.take i)) i rfl rfl rfl (SrcE.sl 50 50 _ _ _ _ _ rfl rfl (ttpre (List.Mem.tail _ (List.Mem.tail _ (List.Mem.head _))) rfl hi) (by rw [ttC_len, List.length_take, Nat.min_eq_left hi]; rfl)) (by dsimp only; omega) (fun a' c' => ?_) | refine AppE.row [_] _ (ttC (l.take i)) [.i .i64 r.1, .s r.2] 1 rfl (SrcE.sl 50 50 _ _ 1 1 _ rfl rfl (.inl ⟨1, List.Mem.head _⟩) rfl) (by dsimp only; omega) (fun a' c' => ?_) | refine AppE.row [] _ (ttC (l.take i)) [.i .i64 r.1, .s r.2] 1 rfl (SrcE.sl 50 50 _ _ 1 1 _ rfl rfl (.inl ⟨1, List.Mem.tail _ (List.Mem.head _)⟩) rfl) (by dsimp only; omega) (fun a' c' => ?_) | refine AppE.row [_] _ (ttC (l.take i) ++ [.i .i64 r.1, .s r.2]) (ttC (l.drop i)) (l.length - i) rfl (SrcE.sl 50 50 _ _ _ _ _ rfl rfl (ttsuf (List.Mem.tail _ (List.Mem.tail _ (List.Mem.tail _ (List.Mem.head _)))) rfl hi hnc) (by rw [ttC_len, List.length_drop]; rfl)) (by dsimp only; omega) (fun a' c' => ?_) | refine AppE.row [] _ (ttC (l.take i) ++ [.i .i64 r.1, .s r.2]) (ttC (l.drop i)) (l.length - i) rfl (SrcE.sl 50 50 _ _ _ _ _ rfl rfl (ttsuf (List.Mem.tail _ (List.Mem.tail _ (List.Mem.tail _ (List.Mem.head _)))) rfl hi hnc) (by rw [ttC_len, List.length_drop]; rfl)) (by dsimp only; omega) (fun a' c' => ?_) | refine FinE.mk [.row 50 2 a' (i + 1 + (l.length - i)) c' (ttC (l.take i) ++ [.i .i64 r.1, .s r.2] ++ ttC (l.drop i))] [] ⟨a', c', by rw [h6l hnew], by rw [h6l hnew, h6c hnew], rfl⟩ Ents.a | fail
theorem count_ok (e : Nat) (a : Option Addr) (c : Nat) (l : List WR) (w : List UInt8) (sp : Int) (nm : List UInt8) (hl : l.length ≤ 10000000) :
    FnS Tryz.prog 56 [.c (.sl a l.length c), .c (.s w), .agg [.i .i64 sp, .s nm]] [] [slFact e 4 a l.length (wrC l)] (Is (cntV (firstN l (w, sp, nm)))) := by
  have hrd : ∀ L, Reads L [slFact e 4 a l.length (wrC l)] e 4 a l.length (wrC l) := fun L => .inr fun m h => h.1
  obtain ⟨R, hR⟩ : ∃ R, firstN l (w, sp, nm) = R := ⟨_, rfl⟩
  rw [hR]
  refine fn_of_J Tryz.tyOK 0 Tryz.func56 (by kernel_rfl) (c := Tryz.f56.body.getD .skip) (by kernel_rfl) Tryz.ntmps56 (rs := Tryz.f56.results.toList) rfl (by simp) (fun G => ?_)
  repeat' first | refine J_seq ?_ | refine J_region Tryz.tyOK ?_ | refine J_block ?_ | refine J_cond ?_ | refine J_ret ?_ | refine J_skip ?_ | refine J_exit ?_ | refine J_scope ?_ | refine CondP.y ?_ | refine CondP.n ?_ | refine CondP.mk (fun h => ?_) (fun h => ?_) | refine EqP.mk rfl ?_ | refine NewP.mk (fun ad => ?_) | refine ArP.x ?_ | refine SideP.a ?_ | fail
  refine J_loop (α := Nat) (fun i => [(0, .c (.sl a l.length c)), (1, .c (.s w)), (5, .c (.p 0 ad 0)), (8, .c (.i .i64 i))]) (fun _ => [.box 0 ad 50 [.i .i64 sp, .s nm]]) (fun _ => [slFact e 4 a l.length (wrC l)]) 1
    (fun i => i ≤ l.length ∧ R = firstN (l.drop i) (w, sp, nm)) (fun i => l.length - i) (InFam.mk 0 ⟨Nat.zero_le _, hR.symm⟩ SubE.a (Ents.refl _ _)) (fun i hx => ?_)
  obtain ⟨hi, he⟩ := hx
  by_cases hlt : i < l.length
  · have hg := wr_w hlt
    have hg2 := wr_get2 hlt
    have hg3 := wr_n hlt
    rw [List.drop_eq_getElem_cons hlt, firstN] at he
    generalize l[i] = x at *
    have hyes : x.w = w → (x.sp = sp ∧ x.nm = nm ∧ True) → R = some x.n := fun h1 h2 => by rw [he, if_pos (by rw [h1, h2.1, h2.2.1])]
    have hno1 : ¬ x.w = w → R = firstN (l.drop (i + 1)) (w, sp, nm) := fun h1 => by rw [he, if_neg fun e => h1 (Prod.mk.inj e).1]
    have hno2 : ¬ (x.sp = sp ∧ x.nm = nm ∧ True) → R = firstN (l.drop (i + 1)) (w, sp, nm) := fun h1 => by rw [he, if_neg fun e => h1 ⟨(Prod.mk.inj (Prod.mk.inj e).2).1, (Prod.mk.inj (Prod.mk.inj e).2).2, trivial⟩]
    clear he hR
    repeat' first | refine J_seq ?_ | refine J_region Tryz.tyOK ?_ | refine J_block ?_ | refine J_cond ?_ | refine J_ret ?_ | refine J_skip ?_ | refine J_exit ?_ | refine J_scope ?_ | refine CondP.y ?_ | refine CondP.n ?_ | refine CondP.mk (fun h => ?_) (fun h => ?_) | refine EqP.mk rfl ?_ | refine NewP.mk (fun ad => ?_) | refine ArP.x ?_ | refine SideP.a ?_ | refine J_drawS (id := 4) Tryz.tyOK (by kernel_rfl) [0, 0, 3, 7, 15, 0, 63, 127, 255, 255, 1023, 2047, 4095, 255, 16383, 32767] [0, 1, 2, 3, 4, 5, 6, 7, 8, 9, 10, 11, 12, 13, 14, 15] [] [5, 17, 25] true (by kernel_rfl) ?_ | refine EntP.mk Ents.a ?_ | refine IdxE.mk e 4 _ (hrd _) (by omega) (by omega) ?_ | refine FldE.mk e 4 _ _ (hrd _) (by omega) ?_ | refine LoadE.mk e _ _ [.s x.w] (hrd _) (by omega) (by omega) (by first | omega | decide) (by exact hg) ?_ | refine LoadE.mk e _ _ [.i .i64 x.sp, .s x.nm] (hrd _) (by omega) (by omega) (by first | omega | decide) (by exact hg2) ?_ | refine LoadE.mk e _ _ [.i .i64 x.n] (hrd _) (by omega) (by omega) (by first | omega | decide) (by exact hg3) ?_ | refine Round.mk (i + 1) (by omega) ⟨by omega, hno1 (by assumption)⟩ SubE.a Ents.a | refine Round.mk (i + 1) (by omega) ⟨by omega, hno2 (by assumption)⟩ SubE.a Ents.a | refine FinE.is (by rw [hyes (by assumption) (by assumption)]; rfl) | fail
  · have hil : i = l.length := by omega
    rw [hil, List.drop_length] at he
    have he : R = none := he
    subst he
    repeat' first | refine J_seq ?_ | refine J_region Tryz.tyOK ?_ | refine J_block ?_ | refine J_cond ?_ | refine J_ret ?_ | refine J_skip ?_ | refine J_exit ?_ | refine J_scope ?_ | refine CondP.y ?_ | refine CondP.n ?_ | refine CondP.mk (fun h => ?_) (fun h => ?_) | refine EqP.mk rfl ?_ | refine NewP.mk (fun ad => ?_) | refine ArP.x ?_ | refine SideP.a ?_ | refine FinE.is rfl | fail
/-- In: whether a title is among the pages. -/
theorem in33_ok (e : Nat) (pa : Option Addr) (pc : Nat) (ps : List PG) (vt : VT) (sp : Int) (nm : List UInt8) (hl : ps.length ≤ 10000000) :
    FnS Tryz.prog 21 [.agg [.sl pa ps.length pc, slK vt.gs, slK vt.rs, slK vt.us, slK vt.gp, .i .i64 vt.ck, slK vt.fx], .agg [.i .i64 sp, .s nm]] [] [slFact e 4 pa ps.length (pgC ps)] (Is (.c (.b (ps.any fun p => decide (p.sp = sp ∧ p.nm = nm))))) := by
  have hrd : ∀ L, Reads L [slFact e 4 pa ps.length (pgC ps)] e 4 pa ps.length (pgC ps) := fun L => .inr fun m h => h.1
  obtain ⟨R, hR⟩ : ∃ R, ps.any (fun p => decide (p.sp = sp ∧ p.nm = nm)) = R := ⟨_, rfl⟩
  rw [hR]
  refine fn_of_J Tryz.tyOK 0 Tryz.func21 (by kernel_rfl) (c := Tryz.f21.body.getD .skip) (by kernel_rfl) Tryz.ntmps21 (rs := Tryz.f21.results.toList) rfl (by simp) (fun G => ?_)
  repeat' first | refine J_seq ?_ | refine J_region Tryz.tyOK ?_ | refine J_block ?_ | refine J_cond ?_ | refine J_ret ?_ | refine J_skip ?_ | refine J_exit ?_ | refine J_scope ?_ | refine CondP.y ?_ | refine CondP.n ?_ | refine CondP.mk (fun h => ?_) (fun h => ?_) | refine EqP.mk rfl ?_ | refine NewP.mk (fun ad => ?_) | refine ArP.x ?_ | refine SideP.a ?_ | fail
  rename_i ad0
  refine J_loop (α := Nat) (fun i => [(2, .c (.p 0 ad0 0)), (3, .c (.p 1 ad 0)), (5, .c (.i .i64 i))]) (fun _ => [.box 1 ad 50 [.i .i64 sp, .s nm], .box 0 ad0 32 [.sl pa ps.length pc, slK vt.gs, slK vt.rs, slK vt.us, slK vt.gp, .i .i64 vt.ck, slK vt.fx]]) (fun _ => [slFact e 4 pa ps.length (pgC ps)]) 2
    (fun i => i ≤ ps.length ∧ R = (ps.drop i).any fun p => decide (p.sp = sp ∧ p.nm = nm)) (fun i => ps.length - i) (InFam.mk 0 ⟨Nat.zero_le _, hR.symm⟩ SubE.a (Ents.refl _ _)) (fun i hx => ?_)
  obtain ⟨hi, he⟩ := hx
  by_cases hlt : i < ps.length
  · have hg := pg_get2 hlt
    rw [List.drop_eq_getElem_cons hlt, List.any_cons] at he
    generalize ps[i] = x at *
    have hyes : (x.sp = sp ∧ x.nm = nm ∧ True) → R = true := fun h2 => by rw [he, decide_eq_true ⟨h2.1, h2.2.1⟩]; rfl
    have hno : ¬ (x.sp = sp ∧ x.nm = nm ∧ True) → R = (ps.drop (i + 1)).any fun p => decide (p.sp = sp ∧ p.nm = nm) := fun h1 => by rw [he, decide_eq_false fun e => h1 ⟨e.1, e.2, trivial⟩, Bool.false_or]
    clear he hR
    repeat' first | refine J_seq ?_ | refine J_region Tryz.tyOK ?_ | refine J_block ?_ | refine J_cond ?_ | refine J_ret ?_ | refine J_skip ?_ | refine J_exit ?_ | refine J_scope ?_ | refine CondP.y ?_ | refine CondP.n ?_ | refine CondP.mk (fun h => ?_) (fun h => ?_) | refine EqP.mk rfl ?_ | refine NewP.mk (fun ad => ?_) | refine ArP.x ?_ | refine SideP.a ?_ | refine J_drawS (id := 4) Tryz.tyOK (by kernel_rfl) [0, 1, 0, 7, 15, 31, 0, 127] [0, 1, 2, 3, 4, 5, 6, 7] [] [2, 3, 16] true (by kernel_rfl) ?_ | refine EntP.mk Ents.a ?_ | refine IdxE.mk e 4 _ (hrd _) (by omega) (by omega) ?_ | refine FldE.mk e 4 _ _ (hrd _) (by omega) ?_ | refine LoadE.mk e _ _ [.i .i64 x.sp, .s x.nm] (hrd _) (by omega) (by omega) (by first | omega | decide) (by exact hg) ?_ | refine Round.mk (i + 1) (by omega) ⟨by omega, hno (by assumption)⟩ SubE.a Ents.a | refine FinE.bool (hyes (by assumption)) | fail
  · have hil : i = ps.length := by omega
    rw [hil, List.drop_length] at he
    have he : R = false := he
    subst he
    repeat' first | refine J_seq ?_ | refine J_region Tryz.tyOK ?_ | refine J_block ?_ | refine J_cond ?_ | refine J_ret ?_ | refine J_skip ?_ | refine J_exit ?_ | refine J_scope ?_ | refine CondP.y ?_ | refine CondP.n ?_ | refine CondP.mk (fun h => ?_) (fun h => ?_) | refine EqP.mk rfl ?_ | refine NewP.mk (fun ad => ?_) | refine ArP.x ?_ | refine SideP.a ?_ | refine FinE.is rfl | fail
end Go.Proofs

/- This text proves, for the plain form of states: each change that is accepted leads from a valid state to a valid one. -/
namespace Go.X
open Go Go.Lib
theorem idx_none {α : Type} {p : α → Bool} {l : List α} (h : idxG p l < 0) : ∀ x ∈ l, p x = false := by
  rcases idxG_spec p l with ⟨_, h1⟩ | ⟨i, _, h1, _⟩
  · exact h1
  · omega
theorem idx_some {α : Type} {p : α → Bool} {l : List α} (h : ¬ idxG p l < 0) : ∃ i : Nat, ∃ hi : i < l.length, idxG p l = i ∧ p l[i] = true := by
  rcases idxG_spec p l with ⟨h1, _⟩ | h1
  · omega
  · exact h1
theorem lastG_spec {α : Type} (p : α → Bool) : ∀ l : List α, (lastG p l = -1 ∧ ∀ x ∈ l, p x = false) ∨ ∃ i : Nat, ∃ h : i < l.length, lastG p l = i ∧ p l[i] = true
  | [] => .inl ⟨rfl, fun _ h => (by cases h)⟩
  | x :: r => by
    simp only [lastG]
    rcases lastG_spec p r with ⟨h1, h2⟩ | ⟨i, h1, h2, h3⟩
    · rw [h1, if_neg (by omega)]
      split
      · rename_i h
        exact .inr ⟨0, by simp, rfl, h⟩
      · rename_i h
        refine .inl ⟨rfl, fun y hy => ?_⟩
        rcases List.mem_cons.1 hy with rfl | hy
        · simpa using h
        · exact h2 y hy
    · rw [h2, if_pos (by omega)]
      exact .inr ⟨i + 1, by simpa using h1, by omega, by simpa using h3⟩
theorem getD_is {l : List SP} {i : Nat} (h : i < l.length) : l.getD i default = l[i] := by
  rw [List.getD_eq_getElem?_getD, List.getElem?_eq_getElem h]; rfl
theorem mem_erase {α : Type} {l : List α} {i : Nat} {x : α} (h : x ∈ l.eraseIdx i) : x ∈ l := (List.eraseIdx_sublist l i).subset h
theorem insP_pw {l : List SP} {x : SP} (hl : l.Pairwise fun a b => cfP a b < 0) (hn : ∀ y ∈ l, atT x.sp x.nm y = false) : (insG (befT x.sp x.nm) l x).Pairwise fun a b => cfP a b < 0 :=
  ins_pw ordP l x hl fun y hy e => by
    have h1 := (compareT_eq _ _ _ _).1 e
    have h2 := hn y hy
    rw [atT, decide_eq_false_iff_not] at h2
    exact h2 h1
theorem VK.addP {sq : Int} {s : ST} {x : SP} (h : VK sq s) (hx : pageOK s.clk sq x = true) (hn : ∀ y ∈ s.pages, atT x.sp x.nm y = false) (hl : ¬ 200 ≤ (s.pages.length : Int))
    (hr : atT 5 policyNm x = true → (polParseT (currentT x).text).2.2 = 0) : VK sq { s with pages := insG (befT x.sp x.nm) s.pages x } where
  c0 := h.c0
  c1 := h.c1
  np := by dsimp only; rw [insG_len]; omega
  ng := h.ng
  pg p hp := by
    rcases (mem_insG _ _ _ _).1 hp with rfl | hp
    · exact hx
    · exact h.pg p hp
  asc := insP_pw h.asc hn
  gn := h.gn
  rul p hp := by
    rcases (mem_insG _ _ _ _).1 hp with rfl | hp
    · exact hr
    · exact h.rul p hp
  nq := h.nq
  q0 := h.q0
  q1 := h.q1
  pp := h.pp
  nw := h.nw
  ws := h.ws
  wa := h.wa
  nl := h.nl
  ls := h.ls
  la := h.la
/-- Pages that are a part of those that were there. -/
theorem VK.subP {sq : Int} {s : ST} {l : List SP} (h : VK sq s) (hs : l.Sublist s.pages) : VK sq { s with pages := l } where
  c0 := h.c0
  c1 := h.c1
  np := by have := hs.length_le; have := h.np; dsimp only; omega
  ng := h.ng
  pg p hp := h.pg p (hs.subset hp)
  asc := h.asc.sublist hs
  gn := h.gn
  rul p hp := h.rul p (hs.subset hp)
  nq := h.nq
  q0 := h.q0
  q1 := h.q1
  pp := h.pp
  nw := h.nw
  ws := h.ws
  wa := h.wa
  nl := h.nl
  ls := h.ls
  la := h.la
theorem VK.goneP {sq : Int} {s : ST} {l : List SP} (h : VK sq s) (hl : (l.length : Int) ≤ 100) (hg : ∀ p ∈ l, pageOK s.clk sq p = true) : VK sq { s with gone := l } where
  c0 := h.c0
  c1 := h.c1
  np := h.np
  ng := hl
  pg := h.pg
  asc := h.asc
  gn := hg
  rul := h.rul
  nq := h.nq
  q0 := h.q0
  q1 := h.q1
  pp := h.pp
  nw := h.nw
  ws := h.ws
  wa := h.wa
  nl := h.nl
  ls := h.ls
  la := h.la
theorem VK.propP {sq : Int} {s : ST} (h : VK sq s) (q : PP → Bool) : VK sq { s with props := s.props.filter q } where
  c0 := h.c0
  c1 := h.c1
  np := h.np
  ng := h.ng
  pg := h.pg
  asc := h.asc
  gn := h.gn
  rul := h.rul
  nq := by have := List.length_filter_le q s.props; have := h.nq; dsimp only; omega
  q0 := h.q0
  q1 := h.q1
  pp := ppGo_filter q _ _ h.pp
  nw := h.nw
  ws := h.ws
  wa := h.wa
  nl := h.nl
  ls := h.ls
  la := h.la
/-! ### What a valid change says -/
theorem chValid_iff {c : CH} : chValidT c = 0 ↔ formT c = true ∧ withinT c = true ∧ (c.text.length : Int) ≤ 8192 ∧ (c.note.length : Int) ≤ 200 ∧ ∀ r ∈ c.hist, (r.text.length : Int) ≤ 8192 ∧ (r.note.length : Int) ≤ 200 := by
  unfold chValidT
  cases hf : formT c
  · simp
  cases hw : withinT c
  · simp
  by_cases h1 : 8192 < (c.text.length : Int) ∨ 200 < (c.note.length : Int)
  · rw [if_neg (by decide), if_neg (by decide), if_pos h1]
    refine ⟨fun h => absurd h (by decide), fun h => ?_⟩
    omega
  · rw [if_neg (by decide), if_neg (by decide), if_neg h1]
    have h2 : c.hist.any rvLong = true ↔ ∃ r ∈ c.hist, 8192 < (r.text.length : Int) ∨ 200 < (r.note.length : Int) := by
      rw [List.any_eq_true]
      constructor
      · rintro ⟨r, hr, h⟩; exact ⟨r, hr, by simpa [rvLong] using h⟩
      · rintro ⟨r, hr, h⟩; exact ⟨r, hr, by simpa [rvLong] using h⟩
    by_cases h3 : c.hist.any rvLong = true
    · rw [if_pos h3]
      refine ⟨fun h => absurd h (by decide), fun h => ?_⟩
      obtain ⟨r, hr, h4⟩ := h2.1 h3
      have := h.2.2.2.2 r hr
      omega
    · rw [if_neg h3]
      refine ⟨fun _ => ⟨rfl, rfl, by omega, by omega, fun r hr => ?_⟩, fun _ => rfl⟩
      have : ¬ (8192 < (r.text.length : Int) ∨ 200 < (r.note.length : Int)) := fun h => h3 (h2.2 ⟨r, hr, h⟩)
      omega
structure ChOK (c : CH) : Prop where
  user : userT c.user = true
  title : c.kind ≠ 6 → c.kind ≠ 10 → validT c.sp c.nm = true
  text : (c.text.length : Int) ≤ 8192
  note : (c.note.length : Int) ≤ 200
  dest : c.kind = 4 → validT c.tsp c.tnm = true
  num : c.kind = 6 → 1 ≤ c.n
  base : c.kind = 9 → 0 ≤ c.n ∧ c.n ≤ 40
  who : c.kind = 7 ∨ c.kind = 8 → c.user ≠ []
  hist : c.kind = 5 → chHistT c.hist = true
  long : ∀ r ∈ c.hist, (r.text.length : Int) ≤ 8192 ∧ (r.note.length : Int) ≤ 200
theorem chOK {c : CH} (h : chValidT c = 0) : ChOK c := by
  obtain ⟨_, hw, h1, h2, h3⟩ := chValid_iff.1 h
  unfold withinT titleK at hw
  simp only [Bool.and_eq_true, Bool.or_eq_true, Bool.not_eq_true', Bool.and_eq_false_imp, decide_eq_true_eq, decide_eq_false_iff_not] at hw
  obtain ⟨⟨ha, hb⟩, hc⟩ := hw
  refine ⟨hb, fun h6 h10 => ?_, h1, h2, fun h4 => ?_, fun h6 => ?_, fun h9 => ?_, fun h7 => ?_, fun h5 => ?_, h3⟩
  · rcases ha with ha | ha
    · exfalso
      simp [h6, h10] at ha
    · exact ha
  · rw [if_neg (by omega), if_pos h4] at hc
    simp only [Bool.and_eq_true] at hc
    exact hc.1
  · rw [if_neg (by omega), if_neg (by omega), if_pos h6] at hc
    simp only [Bool.and_eq_true, decide_eq_true_eq] at hc
    exact hc.1
  · rw [if_neg (by omega), if_neg (by omega), if_neg (by omega), if_pos h9] at hc
    simpa only [Bool.and_eq_true, decide_eq_true_eq] using hc
  · rw [if_pos h7] at hc
    simpa using hc
  · rw [if_neg (by omega), if_neg (by omega), if_neg (by omega), if_neg (by omega), if_neg (by omega), if_pos h5] at hc
    exact hc
theorem forbid_put {c : CH} (hk : c.kind = 1) (h : forbidT c = false) : c.sp = 5 ∧ c.nm = policyNm → (polParseT c.text).2.2 = 0 := fun hp => by
  unfold forbidT isPol at h
  rw [if_pos hk, decide_eq_true hp] at h
  simpa using h
theorem forbid_is {c : CH} (hk : c.kind = 2 ∨ c.kind = 3 ∨ c.kind = 5) (h : forbidT c = false) : ¬ (c.sp = 5 ∧ c.nm = policyNm) := fun hp => by
  unfold forbidT isPol at h
  rw [if_neg (by omega), if_pos hk, decide_eq_true hp] at h
  cases h
theorem forbid_move {c : CH} (hk : c.kind = 4) (h : forbidT c = false) : ¬ (c.sp = 5 ∧ c.nm = policyNm) ∧ ¬ (c.tsp = 5 ∧ c.tnm = policyNm) := by
  unfold forbidT isPol at h
  rw [if_neg (by omega), if_neg (by omega), if_pos hk] at h
  simpa only [Bool.or_eq_false_iff, decide_eq_false_iff_not] using h
theorem at_pol {p : SP} : atT 5 policyNm p = true ↔ p.sp = 5 ∧ p.nm = policyNm := atT_iff
/-! ### Each kind of change -/
theorem one_hist {clk sq : Int} {r : RV} (h0 : 0 ≤ clk) (hq : 1 ≤ sq) (h1 : r.num = 1) (h2 : (r.text.length : Int) ≤ 8192) (h3 : (r.note.length : Int) ≤ 200) (h4 : userT r.user = true) (h5 : r.min = clk) (h6 : r.seq = sq) : histT clk sq [r] = true := by
  refine histT_iff.2 ⟨by simp, by simp, ?_⟩
  simp only [histGo, Bool.and_true]
  exact rvOK_iff.2 ⟨by omega, h2, h3, h4, by omega, by omega, by omega, by omega⟩
theorem VK.put {sq : Int} {s : ST} {c : CH} (hq : 1 ≤ sq) (h : VK sq s) (hc : ChOK c) (hk : c.kind = 1) (hf : forbidT c = false) (h0 : (putT27 s c sq).2 = 0) : VK sq (putT27 s c sq).1 := by
  have hpol := forbid_put hk hf
  have hv := hc.title (by omega) (by omega)
  unfold putT27 at h0 ⊢
  split
  · rename_i hi
    rw [if_pos hi] at h0
    split
    · exact h
    · rename_i hn
      refine h.addP (x := ⟨c.sp, c.nm, [⟨1, c.user, c.note, c.text, s.clk, sq⟩]⟩) (pageOK_iff.2 ⟨hv, one_hist h.c0 hq rfl hc.text hc.note hc.user rfl rfl⟩) (idx_none hi) hn fun hp => ?_
      exact hpol (at_pol.1 hp)
  · rename_i hi
    split
    · exact h
    · rename_i hn
      obtain ⟨i, hil, hie, hip⟩ := idx_some hi
      have hat := atT_iff.1 hip
      have hpa : pageAt s (idxG (atT c.sp c.nm) s.pages) = s.pages[i] := by
        rw [pageAt, hie, Int.toNat_natCast, getD_is hil]
      rw [hpa] at hn
      rw [hie, Int.toNat_natCast]
      have hmem : ∀ p ∈ s.pages.modify i (fun p => { p with hist := p.hist ++ [⟨(p.hist.length : Int) + 1, c.user, c.note, c.text, s.clk, sq⟩] }), p ∈ s.pages ∨ p = { s.pages[i] with hist := s.pages[i].hist ++ [⟨(s.pages[i].hist.length : Int) + 1, c.user, c.note, c.text, s.clk, sq⟩] } := fun p hp => by
        obtain ⟨j, hj, rfl⟩ := List.getElem_of_mem hp
        rw [List.getElem_modify]
        split
        · rename_i e; subst e; exact .inr rfl
        · exact .inl (List.getElem_mem _)
      have hold := pageOK_iff.1 (h.pg _ (List.getElem_mem hil))
      obtain ⟨ho1, ho2, ho3⟩ := histT_iff.1 hold.2
      exact {
        c0 := h.c0
        c1 := h.c1
        np := by dsimp only; rw [List.length_modify]; exact h.np
        ng := h.ng
        pg := fun p hp => by
          rcases hmem p hp with hp | rfl
          · exact h.pg p hp
          · refine pageOK_iff.2 ⟨hold.1, histT_iff.2 ⟨?_, ?_, histGo_snoc (x := ⟨(s.pages[i].hist.length : Int) + 1, c.user, c.note, c.text, s.clk, sq⟩) hc.text hc.note hc.user rfl rfl _ _ _ _ h.c0 hq ho3 (show (s.pages[i].hist.length : Int) + 1 = 0 + (s.pages[i].hist.length : Int) + 1 by omega)⟩⟩
            · simp; omega
            · simp; omega
        asc := by
          have : (s.pages.modify i (fun p => { p with hist := p.hist ++ [⟨(p.hist.length : Int) + 1, c.user, c.note, c.text, s.clk, sq⟩] })).map (fun p => (p.sp, p.nm)) = s.pages.map fun p => (p.sp, p.nm) := by
            refine List.ext_getElem (by simp) fun j h1 h2 => ?_
            simp only [List.getElem_map, List.getElem_modify]
            split <;> rfl
          have e1 := List.pairwise_map (f := fun p : SP => (p.sp, p.nm)) (R := fun a b => compareT a.1 a.2 b.1 b.2 < 0) (l := s.pages)
          have e2 := List.pairwise_map (f := fun p : SP => (p.sp, p.nm)) (R := fun a b => compareT a.1 a.2 b.1 b.2 < 0) (l := s.pages.modify i (fun p => { p with hist := p.hist ++ [⟨(p.hist.length : Int) + 1, c.user, c.note, c.text, s.clk, sq⟩] }))
          rw [this] at e2
          exact e2.1 (e1.2 h.asc)
        gn := h.gn
        rul := fun p hp ha => by
          rcases hmem p hp with hp | rfl
          · exact h.rul p hp ha
          · have e := at_pol.1 ha
            have := hpol ⟨hat.1.symm.trans e.1, hat.2.symm.trans e.2⟩
            simpa [currentT] using this
        nq := h.nq
        q0 := h.q0
        q1 := h.q1
        pp := h.pp
        nw := h.nw
        ws := h.ws
        wa := h.wa
        nl := h.nl
        ls := h.ls
        la := h.la }
theorem VK.remove {sq : Int} {s : ST} {c : CH} (h : VK sq s) (h0 : (removeT s c).2 = 0) : VK sq (removeT s c).1 := by
  unfold removeT at h0 ⊢
  split
  · exact h
  · rename_i hi
    split
    · exact h
    · rename_i hn
      obtain ⟨i, hil, hie, _⟩ := idx_some hi
      rw [pageAt, hie, Int.toNat_natCast, getD_is hil]
      refine ((h.goneP (l := s.gone ++ [s.pages[i]]) ?_ fun p hp => ?_).subP (l := s.pages.eraseIdx i) (List.eraseIdx_sublist _ _)).propP _
      · simp; omega
      · rcases List.mem_append.1 hp with hp | hp
        · exact h.gn p hp
        · rw [List.mem_singleton.1 hp]; exact h.pg _ (List.getElem_mem hil)
theorem VK.restore {sq : Int} {s : ST} {c : CH} (h : VK sq s) (hk : c.kind = 3) (hf : forbidT c = false) (h0 : (restoreT s c).2 = 0) : VK sq (restoreT s c).1 := by
  have hpol := forbid_is (.inr (.inl hk)) hf
  unfold restoreT at h0 ⊢
  split
  · exact h
  · rename_i hi
    split
    · exact h
    · rename_i hg
      split
      · exact h
      · rename_i hn
        rcases lastG_spec (atT c.sp c.nm) s.gone with ⟨h1, _⟩ | ⟨i, h1, h2, h3⟩
        · omega
        · rw [h2, Int.toNat_natCast, getD_is h1]
          have hat := atT_iff.1 h3
          have hg1 := h.gn _ (List.getElem_mem h1)
          generalize s.gone[i] = x at *
          obtain ⟨xs, xn, xh⟩ := x
          obtain ⟨e1, e2⟩ := hat
          dsimp only at e1 e2
          subst e1 e2
          have hi' : idxG (atT c.sp c.nm) s.pages < 0 := by omega
          have h' := h.addP hg1 (idx_none hi') hn (fun hp => absurd (at_pol.1 hp) hpol)
          refine h'.goneP (l := s.gone.eraseIdx i) ?_ fun p hp => h.gn p (mem_erase hp)
          have := (List.eraseIdx_sublist s.gone i).length_le
          have := h.ng
          omega
theorem erase_at {l : List SP} (h : l.Pairwise fun a b => cfP a b < 0) {i : Nat} (hi : i < l.length) {y : SP} (hy : y ∈ l.eraseIdx i) : cfP y l[i] ≠ 0 := by
  intro e
  obtain ⟨j, hj, rfl⟩ := List.getElem_of_mem hy
  rw [List.getElem_eraseIdx] at e
  have h' := List.pairwise_iff_getElem.1 h
  have hjl : j < l.length - 1 := by rwa [List.length_eraseIdx_of_lt hi] at hj
  split at e
  · rename_i hji
    have := h' j i (by omega) hi hji
    omega
  · rename_i hji
    have := h' i (j + 1) hi (by omega) (by omega)
    have := ordP.swap l[i] l[j + 1]
    omega
theorem redir_len {sp : Int} {nm : Bs} : ((redirT sp nm).length : Int) ≤ 8192 := by
  have := formatT_le sp nm
  simp only [redirT, List.length_append, List.length_cons, List.length_nil]
  omega
theorem VK.move {sq : Int} {s : ST} {c : CH} (hq : 1 ≤ sq) (h : VK sq s) (hc : ChOK c) (hk : c.kind = 4) (hf : forbidT c = false) (h0 : (moveT s c sq).2 = 0) : VK sq (moveT s c sq).1 := by
  have hpol := forbid_move hk hf
  have hv := hc.title (by omega) (by omega)
  have hto := hc.dest hk
  unfold moveT at h0 ⊢
  split
  · exact h
  · rename_i hi
    split
    · exact h
    · rename_i hd
      split
      · exact h
      · rename_i hn
        obtain ⟨i, hil, hie, hip⟩ := idx_some hi
        have hat := atT_iff.1 hip
        have hnone := idx_none (p := atT c.tsp c.tnm) (l := s.pages) (by omega)
        have hpg := pageOK_iff.1 (h.pg _ (List.getElem_mem hil))
        have hlen : (s.pages.eraseIdx i).length = s.pages.length - 1 := List.length_eraseIdx_of_lt hil
        have hnp := h.np
        have hne : ¬ (c.tsp = c.sp ∧ c.tnm = c.nm) := fun e => by
          have := hnone _ (List.getElem_mem hil)
          rw [atT, decide_eq_false_iff_not] at this
          exact this ⟨hat.1.trans e.1.symm, hat.2.trans e.2.symm⟩
        rw [pageAt, hie, Int.toNat_natCast, getD_is hil]
        have h1 := (h.subP (List.eraseIdx_sublist s.pages i)).addP (x := ⟨c.tsp, c.tnm, s.pages[i].hist⟩) (pageOK_iff.2 ⟨hto, hpg.2⟩) (fun y hy => hnone y (mem_erase hy)) (by dsimp only; omega) (fun hp => absurd (at_pol.1 hp) hpol.2)
        dsimp only at h1 ⊢
        by_cases hn1 : c.n = 1
        · rw [if_pos hn1]
          refine (h1.addP (x := ⟨c.sp, c.nm, [⟨1, c.user, [], redirT c.tsp c.tnm, s.clk, sq⟩]⟩) (pageOK_iff.2 ⟨hv, one_hist h.c0 hq rfl redir_len (by simp) hc.user rfl rfl⟩) (fun y hy => ?_) ?_ (fun hp => absurd (at_pol.1 hp) hpol.1)).propP _
          · refine decide_eq_false fun e => ?_
            rcases (mem_insG _ _ _ _).1 hy with rfl | hy
            · exact hne e
            · refine erase_at h.asc hil hy ((compareT_eq _ _ _ _).2 ⟨e.1.trans hat.1.symm, e.2.trans hat.2.symm⟩)
          · dsimp only
            rw [insG_len]; omega
        · rw [if_neg hn1]
          exact h1.propP _
theorem histGo_take {clk sq : Int} (hq : 1 ≤ sq) : ∀ (l : List RV) (i mi se : Int), chHistGo i mi l = true → (∀ r ∈ l, (r.text.length : Int) ≤ 8192 ∧ (r.note.length : Int) ≤ 200) → (l = [] ∨ (l.getLast?.getD default).min ≤ clk) → se ≤ sq →
    (∀ r ∈ l, r.min ≤ (l.getLast?.getD default).min) ∧ histGo clk sq i mi se (l.map fun r => { r with seq := sq }) = true
  | [], _, _, _, _, _, _, _ => ⟨fun _ h => (by cases h), rfl⟩
  | r :: l, i, mi, se, h, ht, hm, hs => by
    simp only [chHistGo, Bool.and_eq_true] at h
    have h1 : r.num = i + 1 ∧ r.seq = 0 ∧ userT r.user = true ∧ 0 ≤ r.min ∧ r.min ≤ 52595999 ∧ mi ≤ r.min := by
      simpa only [chRvOK, Bool.and_eq_true, decide_eq_true_eq, and_assoc] using h.1
    cases l with
    | nil =>
      refine ⟨fun x hx => by rw [List.mem_singleton.1 hx]; exact Int.le_refl _, ?_⟩
      have hm : r.min ≤ clk := by simpa using hm
      have := ht r (List.mem_cons_self ..)
      simp only [List.map_cons, List.map_nil, histGo, Bool.and_true]
      exact rvOK_iff.2 ⟨h1.1, this.1, this.2, h1.2.2.1, h1.2.2.2.2.2, hm, hs, Int.le_refl _⟩
    | cons y t =>
      have hlast : ((r :: y :: t).getLast?.getD default) = ((y :: t).getLast?.getD default) := by simp [List.getLast?_cons_cons]
      rw [hlast] at hm ⊢
      have hm' : ((y :: t).getLast?.getD default).min ≤ clk := hm.resolve_left (by simp)
      obtain ⟨h2, h3⟩ := histGo_take hq (y :: t) (i + 1) r.min sq h.2 (fun x hx => ht x (List.mem_cons_of_mem _ hx)) (.inr hm') (Int.le_refl _)
      have hy : r.min ≤ y.min := by
        have h4 := h.2
        simp only [chHistGo, Bool.and_eq_true] at h4
        have h5 : y.num = i + 1 + 1 ∧ y.seq = 0 ∧ userT y.user = true ∧ 0 ≤ y.min ∧ y.min ≤ 52595999 ∧ r.min ≤ y.min := by
          simpa only [chRvOK, Bool.and_eq_true, decide_eq_true_eq, and_assoc] using h4.1
        exact h5.2.2.2.2.2
      have hyl := h2 y (List.mem_cons_self ..)
      refine ⟨fun x hx => ?_, ?_⟩
      · rcases List.mem_cons.1 hx with rfl | hx
        · omega
        · exact h2 x hx
      · have := ht r (List.mem_cons_self ..)
        rw [List.map_cons, histGo, h3, Bool.and_true]
        exact rvOK_iff.2 ⟨h1.1, this.1, this.2, h1.2.2.1, h1.2.2.2.2.2, by dsimp only; omega, hs, Int.le_refl _⟩
theorem VK.take {sq : Int} {s : ST} {c : CH} (hq : 1 ≤ sq) (h : VK sq s) (hc : ChOK c) (hk : c.kind = 5) (hf : forbidT c = false) (h0 : (takeT s c sq).2 = 0) : VK sq (takeT s c sq).1 := by
  have hpol := forbid_is (.inr (.inr hk)) hf
  have hv := hc.title (by omega) (by omega)
  have hh := hc.hist hk
  unfold takeT at h0 ⊢
  split
  · exact h
  · rename_i hi
    split
    · exact h
    · rename_i hm
      split
      · exact h
      · rename_i hn
        simp only [chHistT, Bool.and_eq_true, decide_eq_true_eq] at hh
        have hi' : idxG (atT c.sp c.nm) s.pages < 0 := by omega
        refine h.addP (x := ⟨c.sp, c.nm, c.hist.map fun r => { r with seq := sq }⟩) (pageOK_iff.2 ⟨hv, histT_iff.2 ⟨?_, ?_, (histGo_take hq _ _ _ _ hh.2 hc.long (.inr (by omega)) hq).2⟩⟩) (idx_none hi') hn (fun hp => absurd (at_pol.1 hp) hpol)
        · dsimp only; rw [List.length_map]; omega
        · dsimp only; rw [List.length_map]; omega
theorem VK.tick {sq : Int} {s : ST} {c : CH} (h : VK sq s) (hc : ChOK c) (hk : c.kind = 6) : VK sq (tickT s c).1 := by
  have hn := hc.num hk
  unfold tickT
  split
  · exact h
  · exact {
      c0 := by have := h.c0; dsimp only; omega
      c1 := by dsimp only; omega
      np := h.np
      ng := h.ng
      pg := fun p hp => pageOK_mono (by dsimp only; omega) (Int.le_refl _) (h.pg p hp)
      asc := h.asc
      gn := fun p hp => pageOK_mono (by dsimp only; omega) (Int.le_refl _) (h.gn p hp)
      rul := h.rul
      nq := h.nq
      q0 := h.q0
      q1 := h.q1
      pp := ppGo_mono (by dsimp only; omega) (Int.le_refl _) _ _ _ (Int.le_refl _) h.pp
      nw := h.nw
      ws := h.ws
      wa := h.wa
      nl := h.nl
      ls := h.ls
      la := h.la }
theorem drop_head {α : Type} {cf : α → α → Int} (h : OrdC cf) {x y : α} (h0 : cf y x = 0) : ∀ {l : List α}, (l.Pairwise fun a b => cf a b < 0) → y ∈ l → (l.dropWhile fun z => decide (cf z x < 0)).head? = some y
  | z :: t, hl, hy => by
    have hl' := List.pairwise_cons.1 hl
    rcases List.mem_cons.1 hy with e | hy
    · subst e
      rw [List.dropWhile_cons_of_neg (by simp; omega)]; rfl
    · have h1 := hl'.1 y hy
      have a1 := h.swap z y; have a2 := h.swap y x; have a3 := h.swap z x
      have t1 := h.trans z y x (by omega) (by omega)
      have t2 := h.trans y x z (by omega)
      rw [List.dropWhile_cons_of_pos (by simp; omega)]
      exact drop_head h h0 hl'.2 hy
theorem wt_eq {x y : WT} (h : cfW x y = 0) : x = y := by
  unfold cfW at h
  split at h
  · rename_i h1; exact absurd h h1
  · rename_i h1
    have e1 := (cmpB_eq _ _).1 (Classical.not_not.1 h1)
    have e2 := (compareT_eq _ _ _ _).1 h
    obtain ⟨a, b, c⟩ := x
    obtain ⟨a', b', c'⟩ := y
    dsimp only at e1 e2
    obtain ⟨e2, e3⟩ := e2
    subst e1 e2 e3
    rfl
theorem cfW_self (x : WT) : cfW x x = 0 := by have := ordW27.swap x x; omega
theorem tail_sub {α : Type} (q : α → Bool) (l : List α) : (l.takeWhile q ++ (l.dropWhile q).tail).Sublist l := by
  have h := List.takeWhile_append_dropWhile (p := q) (l := l)
  have h1 : (l.takeWhile q ++ (l.dropWhile q).tail).Sublist (l.takeWhile q ++ l.dropWhile q) := List.Sublist.append (List.Sublist.refl _) (List.tail_sublist _)
  rwa [h] at h1
theorem ltW_fun (w : WT) : (fun x => ltW x w) = fun x => decide (cfW x w < 0) := by funext x; exact ltW_is x w
theorem VK.watP {sq : Int} {s : ST} {l : List WT} (h : VK sq s) (hl : (l.length : Int) ≤ 100) (hw : ∀ w ∈ l, wtOK w = true) (ha : l.Pairwise fun a b => cfW a b < 0) : VK sq { s with watches := l } where
  c0 := h.c0
  c1 := h.c1
  np := h.np
  ng := h.ng
  pg := h.pg
  asc := h.asc
  gn := h.gn
  rul := h.rul
  nq := h.nq
  q0 := h.q0
  q1 := h.q1
  pp := h.pp
  nw := hl
  ws := hw
  wa := ha
  nl := h.nl
  ls := h.ls
  la := h.la
theorem VK.watch {sq : Int} {s : ST} {c : CH} (h : VK sq s) (hc : ChOK c) (hk : c.kind = 7 ∨ c.kind = 8) : VK sq (watchT s c).1 := by
  have hv := hc.title (by omega) (by omega)
  have hu := hc.user
  have hne := hc.who hk
  unfold watchT
  dsimp only
  rw [ltW_fun]
  split
  · split
    · have hs := tail_sub (fun x => decide (cfW x ⟨c.user, c.sp, c.nm⟩ < 0)) s.watches
      exact h.watP (by have := hs.length_le; have := h.nw; omega) (fun w hw => h.ws w (hs.subset hw)) (h.wa.sublist hs)
    · exact h
  · split
    · exact h
    · rename_i hb
      split
      · exact h
      · rename_i hn
        have hnm : isNameT c.user = true := by
          unfold userT at hu
          rw [decide_eq_false hne, Bool.false_or] at hu
          exact hu
        change VK sq { s with watches := insG (fun x => decide (cfW x ⟨c.user, c.sp, c.nm⟩ < 0)) s.watches ⟨c.user, c.sp, c.nm⟩ }
        refine h.watP (by rw [insG_len]; omega) (fun w hw => ?_) (ins_pw ordW27 _ _ h.wa fun y hy e => ?_)
        · rcases (mem_insG _ _ _ _).1 hw with rfl | hw
          · simp [wtOK, hv, hnm]
          · exact h.ws w hw
        · have := wt_eq e
          subst this
          exact hb (drop_head ordW27 (cfW_self _) h.wa hy)
theorem VK.propose {sq : Int} {s : ST} {c : CH} (h : VK sq s) (hc : ChOK c) (hk : c.kind = 9) : VK sq (proposeT s c).1 := by
  have hv := hc.title (by omega) (by omega)
  have hb := hc.base hk
  unfold proposeT
  split
  · exact h
  · exact {
      c0 := h.c0
      c1 := h.c1
      np := h.np
      ng := h.ng
      pg := h.pg
      asc := h.asc
      gn := h.gn
      rul := h.rul
      nq := by simp; omega
      q0 := by have := h.q0; dsimp only; omega
      q1 := by dsimp only; omega
      pp := by
        have hx : ppOK s.clk (s.proposed + 1) (s.proposed + 1 - 1) ⟨s.proposed + 1, c.user, c.note, c.sp, c.nm, c.n, c.text, s.clk⟩ = true :=
          ppOK_iff.2 ⟨by dsimp only; omega, Int.le_refl _, hc.user, hv, hb.1, hb.2, hc.text, hc.note, h.c0, Int.le_refl _⟩
        refine ppGo_snoc hx _ _ (by have := h.q0; omega) ?_
        rw [Int.add_sub_cancel]
        exact h.pp
      nw := h.nw
      ws := h.ws
      wa := h.wa
      nl := h.nl
      ls := h.ls
      la := h.la }
theorem VK.shut {sq : Int} {s : ST} {c : CH} (h : VK sq s) : VK sq (shutT s c).1 := by
  unfold shutT
  dsimp only
  split
  · exact h
  · exact h.propP _
theorem VK.kind {sq : Int} {s : ST} {c : CH} (hq : 1 ≤ sq) (h : VK sq s) (hc : ChOK c) (hf : forbidT c = false) (h0 : (kindT s c sq).2 = 0) : VK sq (kindT s c sq).1 := by
  unfold kindT at h0 ⊢
  by_cases k1 : c.kind = 1
  · rw [if_pos k1] at h0 ⊢; exact h.put hq hc k1 hf h0
  rw [if_neg k1] at h0 ⊢
  by_cases k2 : c.kind = 2
  · rw [if_pos k2] at h0 ⊢; exact h.remove h0
  rw [if_neg k2] at h0 ⊢
  by_cases k3 : c.kind = 3
  · rw [if_pos k3] at h0 ⊢; exact h.restore k3 hf h0
  rw [if_neg k3] at h0 ⊢
  by_cases k4 : c.kind = 4
  · rw [if_pos k4] at h0 ⊢; exact h.move hq hc k4 hf h0
  rw [if_neg k4] at h0 ⊢
  by_cases k5 : c.kind = 5
  · rw [if_pos k5] at h0 ⊢; exact h.take hq hc k5 hf h0
  rw [if_neg k5] at h0 ⊢
  by_cases k6 : c.kind = 6
  · rw [if_pos k6] at h0 ⊢; exact h.tick hc k6
  rw [if_neg k6] at h0 ⊢
  by_cases k7 : c.kind = 7 ∨ c.kind = 8
  · rw [if_pos k7] at h0 ⊢; exact h.watch hc k7
  rw [if_neg k7] at h0 ⊢
  by_cases k9 : c.kind = 9
  · rw [if_pos k9] at h0 ⊢; exact h.propose hc k9
  rw [if_neg k9] at h0 ⊢
  exact h.shut
theorem VK.lastP {sq : Int} {s : ST} {l : List LU} (h : VK sq s) (hl : (l.length : Int) ≤ 60) (hw : ∀ w ∈ l, ltOK sq w = true) (ha : l.Pairwise fun a b => cfL a b < 0) : VK sq { s with lasts := l } where
  c0 := h.c0
  c1 := h.c1
  np := h.np
  ng := h.ng
  pg := h.pg
  asc := h.asc
  gn := h.gn
  rul := h.rul
  nq := h.nq
  q0 := h.q0
  q1 := h.q1
  pp := h.pp
  nw := h.nw
  ws := h.ws
  wa := h.wa
  nl := hl
  ls := hw
  la := ha
theorem VK.noted {sq : Int} {s : ST} {u : Bs} (hq : 1 ≤ sq) (h : VK sq s) (hu : userT u = true) : VK sq (notedT s u sq).1 := by
  unfold notedT
  split
  · exact h
  · rename_i hne
    have hnm : isNameT u = true := by
      unfold userT at hu
      rw [decide_eq_false hne, Bool.false_or] at hu
      exact hu
    have hok : ltOK sq ⟨u, sq⟩ = true := by simp [ltOK, hnm, hq]
    have hfun : (fun x : LU => ltB x.user u) = fun x => decide (cfL x ⟨u, sq⟩ < 0) := rfl
    dsimp only
    rw [hfun]
    split
    · rename_i hb
      cases hd : s.lasts.dropWhile fun x => decide (cfL x ⟨u, sq⟩ < 0) with
      | nil => rw [hd] at hb; cases hb
      | cons y t =>
        rw [hd] at hb
        have hy : y.user = u := by simpa using hb
        have hl : s.lasts.takeWhile (fun x => decide (cfL x ⟨u, sq⟩ < 0)) ++ y :: t = s.lasts := by
          rw [← hd]; exact List.takeWhile_append_dropWhile
        generalize s.lasts.takeWhile (fun x => decide (cfL x ⟨u, sq⟩ < 0)) = a at *
        have hln := congrArg List.length hl
        rw [List.length_append, List.length_cons] at hln
        refine h.lastP ?_ (fun w hw => ?_) ?_
        · have := h.nl
          rw [List.length_append, List.length_cons, List.tail_cons]; omega
        · rcases List.mem_append.1 hw with hw | hw
          · exact h.ls w (by rw [← hl]; exact List.mem_append_left _ hw)
          · rcases List.mem_cons.1 hw with rfl | hw
            · exact hok
            · exact h.ls w (by rw [← hl]; exact List.mem_append_right _ (List.mem_cons_of_mem _ hw))
        · have e1 := List.pairwise_map (f := LU.user) (R := fun a b => Lib.compareBytes a b < 0) (l := a ++ y :: t)
          have e2 := List.pairwise_map (f := LU.user) (R := fun a b => Lib.compareBytes a b < 0) (l := a ++ ⟨u, sq⟩ :: t)
          have e3 : (a ++ ⟨u, sq⟩ :: t).map LU.user = (a ++ y :: t).map LU.user := by simp [hy]
          rw [e3] at e2
          have := h.la
          rw [← hl] at this
          exact e2.1 (e1.2 this)
    · rename_i hb
      split
      · exact h
      · rename_i hn
        change VK sq { s with lasts := insG (fun x => decide (cfL x ⟨u, sq⟩ < 0)) s.lasts ⟨u, sq⟩ }
        refine h.lastP (by rw [insG_len]; omega) (fun w hw => ?_) (ins_pw ordL27 _ _ h.la fun y hy e => ?_)
        · rcases (mem_insG _ _ _ _).1 hw with rfl | hw
          · exact hok
          · exact h.ls w hw
        · refine hb ?_
          rw [drop_head ordL27 e h.la hy]
          exact congrArg some ((cmpB_eq _ _).1 e)
theorem VK.step {sq : Int} {s : ST} {c : CH} (hq : 1 ≤ sq) (h : VK sq s) (h0 : (stepT s c sq).2 = 0) : VK sq (stepT s c sq).1 := by
  unfold stepT at h0 ⊢
  by_cases h1 : chValidT c = 0
  · rw [if_neg (by omega)] at h0 ⊢
    by_cases h2 : (kindT s c sq).2 = 0
    · rw [if_neg (by omega)] at h0 ⊢
      by_cases h3 : forbidT c = true
      · rw [if_pos h3] at h0; cases h0
      · rw [if_neg h3] at h0 ⊢
        have hk := h.kind hq (chOK h1) (by simpa using h3) h2
        split
        · rename_i h4; rw [if_pos h4] at h0; exact absurd h0 h4
        · exact hk.noted hq (chOK h1).user
    · rw [if_pos h2] at h0; exact absurd h0 h2
  · rw [if_pos h1] at h0; exact absurd h0 h1
theorem VK.steps {sq : Int} (hq : 1 ≤ sq) : ∀ {l : List CH} {s : ST}, VK sq s → (stepsT sq s l).2 = 0 → VK sq (stepsT sq s l).1
  | [], s, h, _ => h
  | c :: l, s, h, h0 => by
    simp only [stepsT] at h0 ⊢
    by_cases h1 : (stepT s c sq).2 = 0
    · rw [if_neg (by omega)] at h0 ⊢
      exact VK.steps hq (h.step hq h1) h0
    · rw [if_pos h1] at h0; exact absurd h0 h1
/-- A transaction that is accepted leads to a valid state, one number further. -/
theorem apply_valid {s : ST} {l : List CH} (h0 : (applyT s l).2 = 0) : validST (applyT s l).1 = true ∧ (applyT s l).1.seq = s.seq + 1 ∧ validST s = true := by
  unfold applyT at h0 ⊢
  cases hv : validST s with
  | false => rw [hv, if_pos rfl] at h0; cases h0
  | true =>
    rw [hv, if_neg (by decide)] at h0
    rw [if_neg (by decide)]
    obtain ⟨v1, v2, vk⟩ := valid_iff.1 hv
    split
    · rename_i h1; rw [if_pos h1] at h0; cases h0
    · rename_i h1
      rw [if_neg h1] at h0
      split
      · rename_i h2; rw [if_pos h2] at h0; exact absurd h0 h2
      · rename_i h2
        rw [if_neg h2] at h0
        split
        · rename_i h3; rw [if_pos h3] at h0; cases h0
        · rename_i h3
          refine ⟨valid_iff.2 ⟨by dsimp only; omega, by dsimp only; omega, ?_⟩, rfl, rfl⟩
          have := VK.steps (sq := s.seq + 1) (by omega) (l := l) (vk.mono (by omega)) (Classical.not_not.1 h2)
          exact { c0 := this.c0, c1 := this.c1, np := this.np, ng := this.ng, pg := this.pg, asc := this.asc, gn := this.gn, rul := this.rul, nq := this.nq, q0 := this.q0, q1 := this.q1, pp := this.pp, nw := this.nw, ws := this.ws, wa := this.wa, nl := this.nl, ls := this.ls, la := this.la }
end Go.X
