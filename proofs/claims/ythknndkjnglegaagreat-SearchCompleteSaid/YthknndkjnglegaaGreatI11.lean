/- This text walks through the function Rows of the package search. -/
import Derived.Test.YthknndkjnglegaaGreatI09
import Derived.Test.YthknndkjnglegaaGreatI10
import Derived.Test.YthknndkjnglegaaGreatI07
import Derived.Test.YthknndkjnglegaaGreatI08
import Derived.Lib.DecodeN
set_option linter.all false

namespace Go.X
open Go Go.Lib
theorem ordW_mem {l m : List WR} (h : ∀ z, z ∈ l ↔ z ∈ m) : ordW l = ordW m := by
  obtain ⟨a, b⟩ := ordW_str l
  obtain ⟨c, d⟩ := ordW_str m
  exact strL_eq cmp_WR a c fun z => by rw [b, d]; exact h z
theorem kvGet_put (kv : Kv) (k : List UInt8) (v : V) (q : List UInt8) : kvGet (kvPut kv k v) q = if q = k then some v else kvGet kv q := by
  induction kv with
  | nil =>
    simp only [kvPut, kvGet]
    by_cases h : q = k
    · rw [if_pos h, if_pos h.symm]
    · rw [if_neg h, if_neg fun e => h e.symm]
  | cons x r ih =>
    simp only [kvPut]
    split
    · rename_i hx
      simp only [kvGet]
      by_cases h : q = k
      · rw [if_pos h, if_pos (hx.trans h.symm)]
      · rw [if_neg h, if_neg fun e => h (e.symm.trans hx), if_neg fun e => h (e.symm.trans hx)]
    · rename_i hx
      simp only [kvGet]
      rw [ih]
      by_cases h : x.1 = q
      · rw [if_pos h, if_neg fun e => hx (h.trans e)]
        exact (if_pos h).symm
      · rw [if_neg h, if_neg h]
theorem kvPut_keys (kv : Kv) (k : List UInt8) (v : V) : ∀ z, z ∈ (kvPut kv k v).map (·.1) → z = k ∨ z ∈ kv.map (·.1) := by
  induction kv with
  | nil => intro z hz; simp only [kvPut, List.map_cons, List.map_nil, List.mem_singleton] at hz; exact .inl hz
  | cons x r ih =>
    intro z hz
    simp only [kvPut] at hz
    split at hz
    · exact .inr hz
    · simp only [List.map_cons, List.mem_cons] at hz ⊢
      rcases hz with hz | hz
      · exact .inr (.inl hz)
      · rcases ih z hz with h | h
        · exact .inl h
        · exact .inr (.inr h)
theorem kvPut_nodup (kv : Kv) (k : List UInt8) (v : V) (h : (kv.map (·.1)).Nodup) : ((kvPut kv k v).map (·.1)).Nodup := by
  induction kv with
  | nil => simp [kvPut]
  | cons x r ih =>
    simp only [List.map_cons, List.nodup_cons] at h
    simp only [kvPut]
    split
    · simp only [List.map_cons, List.nodup_cons]; exact h
    · rename_i hx
      simp only [List.map_cons, List.nodup_cons]
      refine ⟨fun hm => ?_, ih h.2⟩
      rcases kvPut_keys r k v _ hm with e | e
      · exact hx e
      · exact h.1 e
theorem kvPut_len (kv : Kv) (k : List UInt8) (v : V) : (kvPut kv k v).length ≤ kv.length + 1 := by
  induction kv with
  | nil => exact Nat.le_refl _
  | cons x r ih =>
    simp only [kvPut]
    split
    · simp
    · simp; exact ih
theorem kvGet_at {kv : Kv} (h : (kv.map (·.1)).Nodup) : ∀ {i : Nat} (hi : i < kv.length), kvGet kv kv[i].1 = some kv[i].2 := by
  induction kv with
  | nil => intro i hi; simp at hi
  | cons x r ih =>
    intro i hi
    simp only [List.map_cons, List.nodup_cons] at h
    cases i with
    | zero => simp [kvGet]
    | succ i =>
      simp only [List.getElem_cons_succ, kvGet]
      have hi' : i < r.length := by simpa using hi
      rw [if_neg fun e => h.1 (by rw [e]; exact List.mem_map.2 ⟨r[i], List.getElem_mem hi', rfl⟩)]
      exact ih h.2 hi'
theorem kvGet_mem {kv : Kv} {q : List UInt8} {v : V} : kvGet kv q = some v → ∃ i, ∃ h : i < kv.length, kv[i] = (q, v) := by
  induction kv with
  | nil => intro h; cases h
  | cons x r ih =>
    intro h
    simp only [kvGet] at h
    split at h
    · rename_i hx
      refine ⟨0, by simp, ?_⟩
      cases h
      rw [← hx]; rfl
    · obtain ⟨i, hi, he⟩ := ih h
      exact ⟨i + 1, by simpa using hi, by simpa using he⟩
/-- A map counts words. -/
structure CntI (kv : Kv) (d : List (List UInt8)) : Prop where
  nd : (kv.map (·.1)).Nodup
  len : kv.length ≤ d.length
  get : ∀ q, kvGet kv q = if d.count q = 0 then none else some (.c (.i .i64 (d.count q)))
theorem CntI.nil : CntI [] [] := ⟨List.nodup_nil, Nat.le_refl _, fun q => rfl⟩
theorem CntI.step {kv : Kv} {d : List (List UInt8)} (h : CntI kv d) (w : List UInt8) : CntI (kvPut kv w (.c (.i .i64 ((d.count w : Int) + 1)))) (d ++ [w]) := by
  refine ⟨kvPut_nodup _ _ _ h.nd, ?_, fun q => ?_⟩
  · have := kvPut_len kv w (.c (.i .i64 ((d.count w : Int) + 1)))
    have := h.len
    rw [List.length_append]; simp; omega
  · rw [kvGet_put, List.count_append, h.get]
    by_cases hq : q = w
    · subst hq
      rw [if_pos rfl, List.count_singleton_self, if_neg (by omega)]
      rfl
    · rw [if_neg hq, show List.count q [w] = 0 from List.count_eq_zero.2 (by simpa using hq), Nat.add_zero]
theorem CntI.at {kv : Kv} {d : List (List UInt8)} (h : CntI kv d) {i : Nat} (hi : i < kv.length) : ∃ w, w ∈ d ∧ kv[i] = (w, .c (.i .i64 (d.count w))) := by
  have h1 := kvGet_at h.nd hi
  rw [h.get] at h1
  split at h1
  · cases h1
  · rename_i hc
    refine ⟨kv[i].1, ?_, ?_⟩
    · exact List.count_pos_iff.1 (by omega)
    · cases h1' : kv[i] with
      | mk a b =>
        rw [h1'] at h1
        exact congrArg (Prod.mk a) (Option.some.inj h1).symm
theorem CntI.has {kv : Kv} {d : List (List UInt8)} (h : CntI kv d) {w : List UInt8} (hw : w ∈ d) : ∃ i, ∃ hi : i < kv.length, kv[i] = (w, .c (.i .i64 (d.count w))) := by
  have h1 := h.get w
  rw [if_neg (by have := List.count_pos_iff.2 hw; omega)] at h1
  exact kvGet_mem h1
/-- The places of a map that were not yet seen. -/
def unseen (n : Nat) (seen : Array Nat) : List Nat := (List.range n).filter fun i => decide (i ∉ seen.toList)
theorem unseen_nil (n : Nat) : (#[] : Array Nat).size + (unseen n #[]).length = n := by
  have : unseen n #[] = List.range n := List.filter_eq_self.2 (by simp)
  rw [this, List.length_range]; exact Nat.zero_add n
theorem unseen_push {n i : Nat} {seen : Array Nat} (hi : i < n) (hs : i ∉ seen.toList) : (unseen n (seen.push i)).length + 1 = (unseen n seen).length := by
  have h1 : unseen n (seen.push i) = (unseen n seen).erase i := by
    have hnd : (unseen n seen).Nodup := List.Nodup.sublist List.filter_sublist List.nodup_range
    rw [hnd.erase_eq_filter]
    unfold unseen
    rw [List.filter_filter]
    apply List.filter_congr
    intro x _
    simp only [Array.toList_push, List.mem_append, List.mem_singleton, not_or]
    by_cases h : x = i
    · subst h; simp
    · simp [h]
  have hm : i ∈ unseen n seen := List.mem_filter.2 ⟨List.mem_range.2 hi, by simpa using hs⟩
  have hp := List.length_pos_of_mem hm
  rw [h1, List.length_erase_of_mem hm]
  omega
/-- The rows of the words of a page. -/
def rowsW (sp : Int) (nm : List UInt8) (ws : List (List UInt8)) : List WR := ws.map fun w => ⟨w, sp, nm, (ws.count w : Int)⟩
def rowsT (sp : Int) (nm text : List UInt8) : List WR := ordW (rowsW sp nm (wordsS (nm ++ [10] ++ text)))
end Go.X
namespace Go.Proofs
open Go Go.X
set_option maxRecDepth 100000
set_option maxHeartbeats 4000000
theorem rows_ok (sp : Int) (nm text : List UInt8) (hn : nm.length + text.length ≤ 10000) :
    FnS Tryz.prog 26 [.agg [.i .i64 sp, .s nm], .c (.s text)] [] []
      (fun v L D => ∃ a' c', v = .c (.sl a' (rowsT sp nm text).length c') ∧ L = [.row 60 4 a' (rowsT sp nm text).length c' (wrC (rowsT sp nm text))] ∧ D = []) := by
  have hW : ∃ ws, ws = wordsS (nm ++ [10] ++ text) := ⟨_, rfl⟩
  obtain ⟨ws, hW⟩ := hW
  have hwl : ws.length ≤ 10003 := by
    have := wordsR_len (nm ++ [10] ++ text) []
    rw [hW]; unfold wordsS; simp only [List.length_append, List.length_cons, List.length_nil] at this; omega
  have cw := words_ok (nm ++ [10] ++ text) (by simp only [List.length_append, List.length_cons, List.length_nil]; omega)
  unfold rowsT
  rw [← hW] at cw ⊢
  generalize hR : rowsW sp nm ws = R0
  refine fn_of_J Tryz.tyOK 0 Tryz.func26 (by kernel_rfl) (c := Tryz.f26.body.getD .skip) (by kernel_rfl) Tryz.ntmps26 (rs := Tryz.f26.results.toList) rfl (by simp) (fun G => ?_)
  repeat' first | refine J_seq ?_ | refine J_region Tryz.tyOK ?_ | refine J_block ?_ | refine J_cond ?_ | refine J_ret ?_ | refine J_skip ?_ | refine J_exit ?_ | refine J_scope ?_ | refine CondP.y ?_ | refine CondP.n ?_ | refine CondP.mk (fun h => ?_) (fun h => ?_) | refine EqP.mk rfl ?_ | refine NewP.mk (fun ad => ?_) | refine ArP.x ?_ | refine SideP.a ?_ | refine CallP.mk [] [_, _] [] _ cw (List.Perm.refl _) (fun _ _ => trivial) (fun v L' D' hq => ?_); obtain ⟨a1, k1, rfl, rfl, rfl⟩ := hq | fail
  rename_i ad0
  refine J_loop (α := Nat × Kv) (fun x => [(2, .c (.p 0 ad0 0)), (5, .c (.m 1 ad)), (17, .c (.sl a1 ws.length k1)), (18, .c (.i .i64 ws.length)), (19, .c (.i .i64 x.1))]) (fun x => [.row 9 1 a1 ws.length k1 (ws.map C.s), .obj 1 ad (mapO x.2), .box 0 ad0 50 [.i .i64 sp, .s nm]]) (fun _ => []) 2
    (fun x => x.1 ≤ ws.length ∧ CntI x.2 (ws.take x.1)) (fun x => ws.length - x.1) (InFam.mk (0, []) ⟨Nat.zero_le _, CntI.nil⟩ SubE.a (Ents.refl _ _)) (fun x hx => ?_)
  obtain ⟨i, kv⟩ := x
  dsimp only at hx ⊢
  obtain ⟨hi, hc⟩ := hx
  by_cases hlt : i < ws.length
  · have hg : ((ws.map C.s).drop (i * 1 + 0)).take 1 = [.s ws[i]] := s_get hlt
    have hst := hc.step ws[i]
    have hG := hc.get ws[i]
    have hcl : (ws.take i).count ws[i] ≤ i := Nat.le_trans List.count_le_length (by rw [List.length_take]; omega)
    rw [← List.take_succ_eq_append_getElem hlt] at hst
    generalize hn : (ws.take i).count ws[i] = n at *
    generalize ws[i] = w at *
    by_cases hz : n = 0
    · subst hz
      rw [if_pos rfl] at hG
      repeat' first | refine J_seq ?_ | refine J_region Tryz.tyOK ?_ | refine J_block ?_ | refine J_cond ?_ | refine J_ret ?_ | refine J_skip ?_ | refine J_exit ?_ | refine J_scope ?_ | refine CondP.y ?_ | refine CondP.n ?_ | refine CondP.mk (fun h => ?_) (fun h => ?_) | refine EqP.mk rfl ?_ | refine NewP.mk (fun ad => ?_) | refine ArP.x ?_ | refine SideP.a ?_ | refine IdxE.mk 9 1 _ (.inl ⟨k1, List.Mem.head _⟩) (by omega) (by omega) ?_ | refine LoadE.mk 9 _ _ [.s w] (.inl ⟨k1, List.Mem.head _⟩) (by omega) (by omega) (by omega) hg ?_ | refine MapE.mk kv rfl rfl ?_ | refine LookP.mk (fun v hv => absurd (hG.symm.trans hv) (by simp)) (fun _ => ?_) | refine Round.mk (i + 1, kvPut kv w (.c (.i .i64 (((0 : Nat) : Int) + 1)))) (by dsimp only; omega) ⟨by dsimp only; omega, hst⟩ SubE.a (Ents.of rfl) | fail
    · rw [if_neg hz] at hG
      repeat' first | refine J_seq ?_ | refine J_region Tryz.tyOK ?_ | refine J_block ?_ | refine J_cond ?_ | refine J_ret ?_ | refine J_skip ?_ | refine J_exit ?_ | refine J_scope ?_ | refine CondP.y ?_ | refine CondP.n ?_ | refine CondP.mk (fun h => ?_) (fun h => ?_) | refine EqP.mk rfl ?_ | refine NewP.mk (fun ad => ?_) | refine ArP.x ?_ | refine SideP.a ?_ | refine IdxE.mk 9 1 _ (.inl ⟨k1, List.Mem.head _⟩) (by omega) (by omega) ?_ | refine LoadE.mk 9 _ _ [.s w] (.inl ⟨k1, List.Mem.head _⟩) (by omega) (by omega) (by omega) hg ?_ | refine MapE.mk kv rfl rfl ?_ | refine LookP.mk (fun v hv => ?_) (fun hv => absurd (hG.symm.trans hv) (by simp)); cases hG.symm.trans hv | refine Round.mk (i + 1, kvPut kv w (.c (.i .i64 ((n : Int) + 1)))) (by dsimp only; omega) ⟨by dsimp only; omega, hst⟩ SubE.a (Ents.of rfl) | fail
  · have hil : i = ws.length := by omega
    subst hil
    rw [List.take_length] at hc
    have hat := fun i hi => hc.at (i := i) hi
    have hhas := fun w hw => hc.has (w := w) hw
    have hkl := hc.len
    generalize hrw : (fun i : Nat => (⟨((kv[i]?).map (·.1)).getD [], sp, nm, (ws.count (((kv[i]?).map (·.1)).getD []) : Int)⟩ : WR)) = rw at *
    have hrow : ∀ i (hi : i < kv.length), ∃ w, kv[i] = (w, .c (.i .i64 (ws.count w))) ∧ (rw i).cells = [.s w, .i .i64 sp, .s nm, .i .i64 (ws.count w)] := fun i hi => by
      obtain ⟨w, _, he⟩ := hat i hi
      refine ⟨w, he, ?_⟩
      rw [← hrw]
      simp [WR.cells, hi, he]
    have hend : ∀ sn : Array Nat, (∀ i, i < kv.length → i ∈ sn.toList) → (∀ i ∈ sn.toList, i < kv.length) → ordW (sn.toList.map rw) = ordW R0 := fun sn h1 h2 => by
      refine ordW_mem fun z => ?_
      rw [← hR, List.mem_map, rowsW, List.mem_map]
      constructor
      · rintro ⟨i, hi, rfl⟩
        obtain ⟨w, hw, he⟩ := hat i (h2 i hi)
        refine ⟨w, hw, ?_⟩
        rw [← hrw]
        simp [h2 i hi, he]
      · rintro ⟨w, hw, rfl⟩
        obtain ⟨i, hi, he⟩ := hhas w hw
        refine ⟨i, h1 i hi, ?_⟩
        rw [← hrw]
        simp [hi, he]
    clear hat hhas hc cw hW hn hi hlt
    repeat' first | refine J_seq ?_ | refine J_region Tryz.tyOK ?_ | refine J_block ?_ | refine J_cond ?_ | refine J_ret ?_ | refine J_skip ?_ | refine J_exit ?_ | refine J_scope ?_ | refine CondP.y ?_ | refine CondP.n ?_ | refine CondP.mk (fun h => ?_) (fun h => ?_) | refine EqP.mk rfl ?_ | refine NewP.mk (fun ad => ?_) | refine ArP.x ?_ | refine SideP.a ?_ | fail
    rename_i am
    refine J_loop (α := Array Nat × Option Addr × Nat) (fun x => [(2, .c (.p 0 ad0 0)), (8, .c (.sl x.2.1 (x.1.toList.map rw).length x.2.2)), (29, .c (.p 2 ad 0))]) (fun x => [.row 60 4 x.2.1 (x.1.toList.map rw).length x.2.2 (wrC (x.1.toList.map rw)), .obj 2 ad (.mapIter (some am) kv.length x.1 kv.length), .obj 1 am (mapO kv), .box 0 ad0 50 [.i .i64 sp, .s nm]]) (fun _ => []) 3
      (fun x => x.1.size + (unseen kv.length x.1).length = kv.length ∧ ∀ i ∈ x.1.toList, i < kv.length) (fun x => (unseen kv.length x.1).length) (InFam.mk (#[], none, 0) ⟨unseen_nil _, by simp⟩ SubE.a (((Ents.perm (List.Perm.swap _ _ _)).trans Ents.drop).trans (Ents.nilRow (ety := 60) (esz := 4)))) (fun x hx => ?_)
    obtain ⟨sn, b, d⟩ := x
    dsimp only at hx ⊢
    obtain ⟨hsz, hin⟩ := hx
    have hol : (sn.toList.map rw).length ≤ 10003 := by rw [List.length_map, Array.length_toList]; omega
    have co := fun h b d => hend sn h hin ▸ ordered_ok b d (sn.toList.map rw) (by omega)
    have hmem : ∀ x y z : Chunk, Chunk.obj 1 am (gO (fun k => V.c (.s k)) kv) ∈ [x, y, .obj 1 am (mapO kv), z] := fun x y z => by
      rw [← mapO_g]; exact .tail _ (.tail _ (.head _))
    have hlen : ∀ i, ((sn.push i).toList.map rw).length = (sn.toList.map rw).length + 1 := fun i => by simp
    have hpush : ∀ i, i < kv.length → i ∉ sn.toList → (sn.push i).size + (unseen kv.length (sn.push i)).length = kv.length ∧ (∀ j ∈ (sn.push i).toList, j < kv.length) ∧ (unseen kv.length (sn.push i)).length < (unseen kv.length sn).length := fun i hi hni => by
      have := unseen_push hi hni
      refine ⟨by rw [Array.size_push]; omega, fun j hj => ?_, by omega⟩
      rw [Array.toList_push, List.mem_append, List.mem_singleton] at hj
      rcases hj with hj | hj
      · exact hin j hj
      · omega
    repeat' first | refine J_seq ?_ | refine J_region Tryz.tyOK ?_ | refine J_block ?_ | refine J_cond ?_ | refine J_ret ?_ | refine J_skip ?_ | refine J_exit ?_ | refine J_scope ?_ | refine CondP.y ?_ | refine CondP.n ?_ | refine CondP.mk (fun h => ?_) (fun h => ?_) | refine EqP.mk rfl ?_ | refine NewP.mk (fun ad => ?_) | refine ArP.x ?_ | refine SideP.a ?_ | refine NextE.mk 1 _ (fun k => V.c (.s k)) kv (hmem _ _ _) rfl rfl (fun i hi hni => ?_) (fun hall => ?_); try (obtain ⟨w, hw, hrc⟩ := hrow i hi; rw [hw]; have hln := hlen i) | refine EntE.mk 1 _ (fun k => V.c (.s k)) kv (hmem _ _ _) rfl sn i rfl hi ?_; rw [hw] | refine AppE.row [_] _ (wrC (sn.toList.map rw)) (rw i).cells 1 rfl (SrcE.sl 60 60 _ _ 1 1 _ rfl rfl (.inl ⟨1, by rw [hrc]; exact List.Mem.head _⟩) (by rw [hrc]; rfl)) (by dsimp only; omega) (fun a' c' => ?_) | refine Round.mk (sn.push i, a', c') (hpush i hi hni).2.2 ⟨(hpush i hi hni).1, (hpush i hi hni).2.1⟩ (SubE.cons rfl (VEq.refl _) (SubE.cons rfl (VEq.sl rfl (by first | exact hlen i | exact (hlen i).symm) rfl) (SubE.cons rfl (VEq.refl _) SubE.nil))) (Ents.drop.trans (Ents.of ?_)) | refine CallP.mk [_] [_, _, _] [] _ (co hall _ _) (List.Perm.refl _) (fun _ _ => trivial) (fun v L' D' hq => ?_); obtain ⟨rfl, rfl, rfl⟩ := hq | refine FinE.mk [_] [] ⟨_, _, rfl, rfl, rfl⟩ Ents.a | fail
    dsimp only
    rw [Array.toList_push, List.map_append, List.length_append, show wrC (sn.toList.map rw ++ [i].map rw) = wrC (sn.toList.map rw) ++ (rw i).cells by simp [wrC]]
    rfl
end Go.Proofs

/- This text walks through the function Find of the package search. -/
namespace Go.X
open Go Go.Lib Go.Proofs
theorem gGet_put {α : Type} [DecidableEq α] (kv : List (α × V)) (k : α) (v : V) (q : α) : gGet (gPut kv k v) q = if q = k then some v else gGet kv q := by
  induction kv with
  | nil =>
    simp only [gPut, gGet]
    by_cases h : q = k
    · rw [if_pos h, if_pos h.symm]
    · rw [if_neg h, if_neg fun e => h e.symm]
  | cons x r ih =>
    simp only [gPut]
    split
    · rename_i hx
      simp only [gGet]
      by_cases h : q = k
      · rw [if_pos h, if_pos (hx.trans h.symm)]
      · rw [if_neg h, if_neg fun e => h (e.symm.trans hx), if_neg fun e => h (e.symm.trans hx)]
    · rename_i hx
      simp only [gGet]
      rw [ih]
      by_cases h : x.1 = q
      · rw [if_pos h, if_neg fun e => hx (h.trans e)]
        exact (if_pos h).symm
      · rw [if_neg h, if_neg h]
/-- A word of a page, a title, and their cells. -/
def entF (k : List UInt8 × Int × List UInt8) : List C := [.s k.1, .i .i64 k.2.1, .s k.2.2]
def ttF (k : Int × List UInt8) : List C := [.i .i64 k.1, .s k.2]
/-- A page. -/
structure PG where
  sp : Int
  nm : List UInt8
  tx : List UInt8
  rv : Int
def PG.cells (x : PG) : List C := [.i .i64 x.sp, .s x.nm, .s x.tx, .i .i64 x.rv]
def pgC (l : List PG) : List C := l.flatMap PG.cells
theorem pg_get {l : List PG} {i : Nat} (h : i < l.length) : ((pgC l).drop (i * 4 + 0)).take 4 = [.i .i64 l[i].sp, .s l[i].nm, .s l[i].tx, .i .i64 l[i].rv] := by
  rw [pgC, flat_get (F := PG.cells) (z := 4) (fun _ => rfl) h (by omega)]; rfl
/-- What a view holds beside its pages. -/
structure VT where
  gs : Option Addr × Nat × Nat
  rs : Option Addr × Nat × Nat
  us : Option Addr × Nat × Nat
  gp : Option Addr × Nat × Nat
  ck : Int
  fx : Option Addr × Nat × Nat
def slK (x : Option Addr × Nat × Nat) : C := .sl x.1 x.2.1 x.2.2
/-- The number of the first row with a word and a page. -/
def firstN : List WR → List UInt8 × Int × List UInt8 → Option Int
  | [], _ => none
  | r :: l, k => if (r.w, r.sp, r.nm) = k then some r.n else firstN l k
theorem firstN_snoc (l : List WR) (r : WR) (k : List UInt8 × Int × List UInt8) : firstN (l ++ [r]) k = (firstN l k).or (if k = (r.w, r.sp, r.nm) then some r.n else none) := by
  induction l with
  | nil =>
    simp only [List.nil_append, firstN, Option.none_or]
    by_cases h : k = (r.w, r.sp, r.nm)
    · rw [if_pos h, if_pos h.symm]
    · rw [if_neg h, if_neg fun e => h e.symm]
  | cons x t ih =>
    simp only [List.cons_append, firstN, ih]
    split <;> simp
theorem firstN_mem {l : List WR} {k : List UInt8 × Int × List UInt8} {n : Int} (h : firstN l k = some n) : ∃ r ∈ l, r.n = n := by
  induction l with
  | nil => cases h
  | cons x t ih =>
    simp only [firstN] at h
    split at h
    · exact ⟨x, List.mem_cons_self .., Option.some.inj h⟩
    · obtain ⟨r, h1, h2⟩ := ih h
      exact ⟨r, List.mem_cons_of_mem _ h1, h2⟩
def scoreT (l : List WR) (ws : List (List UInt8)) (p : PG) : Int := (ws.map fun w => (firstN l (w, p.sp, p.nm)).getD 0).sum
def allT (l : List WR) (ws : List (List UInt8)) (p : PG) : Bool := ws.all fun w => (firstN l (w, p.sp, p.nm)).isSome
def hitsGo (l : List WR) (ws : List (List UInt8)) : List (Int × List UInt8) → List PG → List HT
  | _, [] => []
  | seen, p :: r => (if (!decide ((p.sp, p.nm) ∈ seen) && allT l ws p) = true then [⟨p.sp, p.nm, scoreT l ws p⟩] else []) ++ hitsGo l ws (seen ++ [(p.sp, p.nm)]) r
theorem hitsGo_len (l : List WR) (ws : List (List UInt8)) : ∀ (r : List PG) (seen : List (Int × List UInt8)), (hitsGo l ws seen r).length ≤ r.length
  | [], _ => Nat.le_refl _
  | p :: r, seen => by
    simp only [hitsGo, List.length_append, List.length_cons]
    have := hitsGo_len l ws r (seen ++ [(p.sp, p.nm)])
    split <;> simp <;> omega
theorem sum_snoc (l : List Int) (x : Int) : (l ++ [x]).sum = l.sum + x := by
  induction l with
  | nil => simp
  | cons y r ih => simp only [List.cons_append, List.sum_cons, ih]; omega
theorem scoreT_snoc (l : List WR) (ws : List (List UInt8)) (w : List UInt8) (p : PG) : scoreT l (ws ++ [w]) p = scoreT l ws p + (firstN l (w, p.sp, p.nm)).getD 0 := by
  unfold scoreT
  rw [List.map_append, List.map_cons, List.map_nil, sum_snoc]
theorem allT_snoc (l : List WR) (ws : List (List UInt8)) (w : List UInt8) (p : PG) : allT l (ws ++ [w]) p = (allT l ws p && (firstN l (w, p.sp, p.nm)).isSome) := by
  unfold allT
  rw [List.all_append]; simp
def leH (x y : HT) : Bool := decide (cmpHT x y ≤ 0)
theorem cmpHT_eq (x y : HT) (h : cmpHT x y = 0) : x = y := by
  unfold cmpHT at h
  split at h
  · rename_i h1; exact absurd h h1
  · rename_i h1
    have e2 := (compareT_eq _ _ _ _).1 h
    have e3 : x.n = y.n := by
      have h1 := Classical.not_not.1 h1
      unfold Lib.compareInt at h1
      split at h1
      · omega
      · split at h1
        · omega
        · omega
    obtain ⟨a, b, c⟩ := x
    obtain ⟨a', b', c'⟩ := y
    dsimp only at e2 e3
    obtain ⟨e4, e5⟩ := e2
    subst e4 e5 e3
    rfl
theorem leH_total (x y : HT) : (leH x y || leH y x) = true := by
  have := cmp_HT.swap x y
  simp only [leH, Bool.or_eq_true, decide_eq_true_eq]
  omega
theorem leH_trans (x y z : HT) (h1 : leH x y = true) (h2 : leH y z = true) : leH x z = true := by
  simp only [leH, decide_eq_true_eq] at *
  exact cmp_HT.trans x y z h1 h2
theorem sortedH_is {l l' : List HT} (hp : l'.Perm l) (hs : l'.Pairwise fun x y => ltOf cmpHT y x = false) : l' = l.mergeSort leH := by
  refine ordL_eq cmp_HT cmpHT_eq (ordL_of cmp_HT hs) ?_ (hp.trans (List.mergeSort_perm l leH).symm)
  refine (List.pairwise_mergeSort leH_trans leH_total l).imp fun {x y} h => ?_
  simpa [leH] using h
/-- The words of a query, in order. -/
def queryT (q : List UInt8) : List (List UInt8) := cmps (srtS (wordsS q))
/-- The hits. -/
def findT (l : List WR) (ps : List PG) (q : List UInt8) : List HT := if queryT q = [] then [] else (hitsGo l (queryT q) [] ps).mergeSort leH
end Go.X
namespace Go.Proofs
open Go Go.X
set_option maxRecDepth 100000
set_option maxHeartbeats 4000000
theorem entK : KeyP Tryz.tyT 105 entF := by
  refine ⟨⟨5, by omega, fun a b => ⟨_, rfl, ?_⟩⟩, fun a c hc => ?_⟩
  · obtain ⟨a1, a2, a3⟩ := a
    obtain ⟨b1, b2, b3⟩ := b
    simp [and_assoc]
  · simp only [entF, List.mem_cons, List.not_mem_nil, or_false] at hc
    rcases hc with rfl | rfl | rfl <;> rfl
theorem ttK : KeyP Tryz.tyT 50 ttF := by
  refine ⟨⟨5, by omega, fun a b => ⟨_, rfl, ?_⟩⟩, fun a c hc => ?_⟩
  · obtain ⟨a1, a2⟩ := a
    obtain ⟨b1, b2⟩ := b
    simp
  · simp only [ttF, List.mem_cons, List.not_mem_nil, or_false] at hc
    rcases hc with rfl | rfl <;> rfl
theorem cmpsGo_len : ∀ (r : List (List UInt8)) (p : List UInt8), (cmpsGo p r).length ≤ r.length
  | [], _ => Nat.le_refl _
  | y :: r, p => by
    simp only [cmpsGo]
    split
    · have := cmpsGo_len r p; simp; omega
    · have := cmpsGo_len r y; simp; omega
theorem queryT_len (q : List UInt8) : (queryT q).length ≤ q.length + 1 := by
  have h1 := wordsR_len q []
  have h2 : (srtS (wordsS q)).length = (wordsS q).length := List.length_mergeSort ..
  unfold queryT
  generalize srtS (wordsS q) = s at *
  cases s with
  | nil => exact Nat.zero_le _
  | cons x r =>
    have := cmpsGo_len r x
    simp only [cmps, List.length_cons] at *
    unfold wordsS at h2
    omega
theorem find_ok (e e' : Nat) (la pa : Option Addr) (lc pc : Nat) (l : List WR) (ps : List PG) (vt : VT) (q : List UInt8) (hl : l.length ≤ 10000000) (hb : ∀ r ∈ l, -1099511627776 ≤ r.n ∧ r.n ≤ 1099511627776) (hps : ps.length ≤ 1000) (hq : q.length ≤ 1000) :
    FnS Tryz.prog 17 [.c (.sl la l.length lc), .agg [.sl pa ps.length pc, slK vt.gs, slK vt.rs, slK vt.us, slK vt.gp, .i .i64 vt.ck, slK vt.fx], .c (.s q)] [] [slFact e 4 la l.length (wrC l), slFact e' 4 pa ps.length (pgC ps)]
      (fun v L D => ∃ a' c', v = .c (.sl a' (findT l ps q).length c') ∧ L = [.row 52 3 a' (findT l ps q).length c' (htC (findT l ps q))] ∧ D = []) := by
  have cw := words_ok q (by omega)
  have hwl := wordsR_len q []
  have hql := queryT_len q
  have cs := fun a c => sortS_ok a c (wordsS q) (by unfold wordsS; omega)
  have hsl : (srtS (wordsS q)).length = (wordsS q).length := List.length_mergeSort ..
  have cc := fun a c => cptS_ok a c (srtS (wordsS q)) (by rw [hsl]; unfold wordsS; omega)
  rw [hsl] at cc
  have hF : findT l ps q = if queryT q = [] then [] else (hitsGo l (queryT q) [] ps).mergeSort leH := rfl
  change ∀ a c, FnS _ _ _ _ _ (fun v L D => v = .c (.sl a (queryT q).length c) ∧ L = [.row _ 1 a (queryT q).length c (sC (queryT q))] ∧ D = []) at cc
  generalize findT l ps q = F at *
  generalize queryT q = ws at *
  generalize wordsS q = ws0 at *
  refine fn_of_J Tryz.tyOK 0 Tryz.func17 (by kernel_rfl) (c := Tryz.f17.body.getD .skip) (by kernel_rfl) Tryz.ntmps17 (rs := Tryz.f17.results.toList) rfl (by simp) (fun G => ?_)
  repeat' first | refine J_seq ?_ | refine J_region Tryz.tyOK ?_ | refine J_block ?_ | refine J_cond ?_ | refine J_ret ?_ | refine J_skip ?_ | refine J_exit ?_ | refine J_scope ?_ | refine CondP.y ?_ | refine CondP.n ?_ | refine CondP.mk (fun h => ?_) (fun h => ?_) | refine EqP.mk rfl ?_ | refine NewP.mk (fun ad => ?_) | refine ArP.x ?_ | refine SideP.a ?_ | refine CallP.mk [] [_] [] _ cw (List.Perm.refl _) (fun _ _ => trivial) (fun v L' D' hq => ?_); obtain ⟨a1, k1, rfl, rfl, rfl⟩ := hq | refine CallP.mk [_] [_] [] _ (cs _ _) (List.Perm.refl _) (fun _ _ => trivial) (fun v L' D' hq => ?_); obtain ⟨rfl, rfl, rfl⟩ := hq | refine CallP.mk [_] [_] [] _ (cc _ _) (List.Perm.refl _) (fun _ _ => trivial) (fun v L' D' hq => ?_); obtain ⟨rfl, rfl, rfl⟩ := hq | fail
  · rw [if_pos (List.eq_nil_of_length_eq_zero (by omega))] at hF
    subst hF
    repeat' first | refine J_seq ?_ | refine J_region Tryz.tyOK ?_ | refine J_block ?_ | refine J_cond ?_ | refine J_ret ?_ | refine J_skip ?_ | refine J_exit ?_ | refine J_scope ?_ | refine CondP.y ?_ | refine CondP.n ?_ | refine CondP.mk (fun h => ?_) (fun h => ?_) | refine EqP.mk rfl ?_ | refine NewP.mk (fun ad => ?_) | refine ArP.x ?_ | refine SideP.a ?_ | refine FinE.mk [_] [] ⟨none, 0, rfl, rfl, rfl⟩ ((Ents.drop.trans Ents.drop).trans ((Ents.nilRow (ety := 52) (esz := 3)).trans (Ents.facts fun _ _ => trivial))) | fail
  · rw [if_neg (fun e => by subst e; simp at h)] at hF
    have hwsl : ws.length ≤ 1001 := by omega
    clear cw cs cc hwl hsl hq hql
    generalize hH : hitsGo l ws [] ps = H at *
    have hHl : H.length ≤ ps.length := by rw [← hH]; exact hitsGo_len l ws ps []
    have hr1 : ∀ L, Reads L [slFact e 4 la l.length (wrC l), slFact e' 4 pa ps.length (pgC ps)] e 4 la l.length (wrC l) := fun L => .inr fun m h => h.1
    have hr2 : ∀ L, Reads L [slFact e 4 la l.length (wrC l), slFact e' 4 pa ps.length (pgC ps)] e' 4 pa ps.length (pgC ps) := fun L => .inr fun m h => h.2.1
    repeat' first | refine J_seq ?_ | refine J_region Tryz.tyOK ?_ | refine J_block ?_ | refine J_cond ?_ | refine J_ret ?_ | refine J_skip ?_ | refine J_exit ?_ | refine J_scope ?_ | refine CondP.y ?_ | refine CondP.n ?_ | refine CondP.mk (fun h => ?_) (fun h => ?_) | refine EqP.mk rfl ?_ | refine NewP.mk (fun ad => ?_) | refine ArP.x ?_ | refine SideP.a ?_ | fail
    rename_i ad0
    refine J_loop (α := Nat × List ((List UInt8 × Int × List UInt8) × V)) (fun x => [(4, .c (.p 0 ad0 0)), (7, .c (.sl a1 ws.length k1)), (8, .c (.m 1 ad)), (34, .c (.sl la l.length lc)), (35, .c (.i .i64 l.length)), (36, .c (.i .i64 x.1))]) (fun x => [.obj 1 ad (gO (aggV entF) x.2), .row 9 1 a1 ws.length k1 (sC ws), .box 0 ad0 32 [.sl pa ps.length pc, slK vt.gs, slK vt.rs, slK vt.us, slK vt.gp, .i .i64 vt.ck, slK vt.fx]]) (fun _ => [slFact e 4 la l.length (wrC l), slFact e' 4 pa ps.length (pgC ps)]) 2
      (fun x => x.1 ≤ l.length ∧ ∀ k, gGet x.2 k = (firstN (l.take x.1) k).map fun n => V.c (.i .i64 n)) (fun x => l.length - x.1) (InFam.mk (0, []) ⟨Nat.zero_le _, fun _ => rfl⟩ SubE.a (Ents.refl _ _)) (fun x hx => ?_)
    obtain ⟨i, kv⟩ := x
    dsimp only at hx ⊢
    obtain ⟨hi, hkv⟩ := hx
    by_cases hlt : i < l.length
    · have hg := wr_get hlt
      have ht := List.take_succ_eq_append_getElem hlt
      generalize l[i] = x at *
      have hG := hkv (x.w, x.sp, x.nm)
      cases hfn : firstN (l.take i) (x.w, x.sp, x.nm) with
      | none =>
        rw [hfn] at hG
        have hG : gGet kv (x.w, x.sp, x.nm) = none := hG
        have hnew : ∀ k, gGet (gPut kv (x.w, x.sp, x.nm) (.c (.i .i64 x.n))) k = (firstN (l.take (i + 1)) k).map fun n => V.c (.i .i64 n) := fun k => by
          rw [gGet_put, ht, firstN_snoc, hkv]
          by_cases hk : k = (x.w, x.sp, x.nm)
          · subst hk
            rw [if_pos rfl, hfn, if_pos rfl]; rfl
          · rw [if_neg hk, if_neg hk, Option.or_none]
        repeat' first | refine J_seq ?_ | refine J_region Tryz.tyOK ?_ | refine J_block ?_ | refine J_cond ?_ | refine J_ret ?_ | refine J_skip ?_ | refine J_exit ?_ | refine J_scope ?_ | refine CondP.y ?_ | refine CondP.n ?_ | refine CondP.mk (fun h => ?_) (fun h => ?_) | refine EqP.mk rfl ?_ | refine NewP.mk (fun ad => ?_) | refine ArP.x ?_ | refine SideP.a ?_ | refine IdxE.mk e 4 _ (hr1 _) (by omega) (by omega) ?_ | refine LoadE.mk e _ _ _ (hr1 _) (by omega) (by omega) (by first | omega | decide) hg ?_ | refine LookG.mk _ inferInstance entF kv (x.w, x.sp, x.nm) rfl rfl rfl entK (fun v hv => absurd (hG.symm.trans hv) (by simp)) (fun _ => ?_) | refine UpdG.mk _ inferInstance entF kv (x.w, x.sp, x.nm) rfl rfl rfl entK ?_ | refine Round.mk (i + 1, gPut kv (x.w, x.sp, x.nm) (.c (.i .i64 x.n))) (by dsimp only; omega) ⟨by dsimp only; omega, hnew⟩ SubE.a Ents.a | fail
      | some n =>
        rw [hfn] at hG
        have hG : gGet kv (x.w, x.sp, x.nm) = some (.c (.i .i64 n)) := hG
        have hnew : ∀ k, gGet kv k = (firstN (l.take (i + 1)) k).map fun n => V.c (.i .i64 n) := fun k => by
          rw [ht, firstN_snoc, hkv]
          by_cases hk : k = (x.w, x.sp, x.nm)
          · subst hk
            rw [hfn]; rfl
          · rw [if_neg hk, Option.or_none]
        repeat' first | refine J_seq ?_ | refine J_region Tryz.tyOK ?_ | refine J_block ?_ | refine J_cond ?_ | refine J_ret ?_ | refine J_skip ?_ | refine J_exit ?_ | refine J_scope ?_ | refine CondP.y ?_ | refine CondP.n ?_ | refine CondP.mk (fun h => ?_) (fun h => ?_) | refine EqP.mk rfl ?_ | refine NewP.mk (fun ad => ?_) | refine ArP.x ?_ | refine SideP.a ?_ | refine IdxE.mk e 4 _ (hr1 _) (by omega) (by omega) ?_ | refine LoadE.mk e _ _ _ (hr1 _) (by omega) (by omega) (by first | omega | decide) hg ?_ | refine LookG.mk _ inferInstance entF kv (x.w, x.sp, x.nm) rfl rfl rfl entK (fun v hv => ?_) (fun hn => absurd (hG.symm.trans hn) (by simp)); cases hG.symm.trans hv | refine Round.mk (i + 1, kv) (by dsimp only; omega) ⟨by dsimp only; omega, hnew⟩ SubE.a Ents.a | fail
    · have hil : i = l.length := by omega
      subst hil
      rw [List.take_length] at hkv
      clear hi hlt
      repeat' first | refine J_seq ?_ | refine J_region Tryz.tyOK ?_ | refine J_block ?_ | refine J_cond ?_ | refine J_ret ?_ | refine J_skip ?_ | refine J_exit ?_ | refine J_scope ?_ | refine CondP.y ?_ | refine CondP.n ?_ | refine CondP.mk (fun h => ?_) (fun h => ?_) | refine EqP.mk rfl ?_ | refine NewP.mk (fun ad => ?_) | refine ArP.x ?_ | refine SideP.a ?_ | fail
      rename_i am
      refine J_loop (α := Nat × List ((Int × List UInt8) × V) × List HT × Option Addr × Nat) (fun x => [(7, .c (.sl a1 ws.length k1)), (8, .c (.m 1 am)), (14, .c (.m 2 ad)), (15, .c (.sl x.2.2.2.1 x.2.2.1.length x.2.2.2.2)), (60, .c (.sl pa ps.length pc)), (61, .c (.i .i64 ps.length)), (62, .c (.i .i64 x.1))]) (fun x => [.row 52 3 x.2.2.2.1 x.2.2.1.length x.2.2.2.2 (htC x.2.2.1), .obj 2 ad (gO (aggV ttF) x.2.1), .obj 1 am (gO (aggV entF) kv), .row 9 1 a1 ws.length k1 (sC ws)]) (fun _ => [slFact e 4 la l.length (wrC l), slFact e' 4 pa ps.length (pgC ps)]) 3
        (fun x => x.1 ≤ ps.length ∧ (∀ k, gGet x.2.1 k = if k ∈ (ps.take x.1).map (fun p => (p.sp, p.nm)) then some tt else none) ∧ H = x.2.2.1 ++ hitsGo l ws ((ps.take x.1).map fun p => (p.sp, p.nm)) (ps.drop x.1)) (fun x => ps.length - x.1) (InFam.mk (0, [], [], none, 0) ⟨Nat.zero_le _, fun k => rfl, hH.symm⟩ SubE.a ((Ents.nilRow (ety := 52) (esz := 3)).trans Ents.a)) (fun x hx => ?_)
      obtain ⟨i, mv, out, b, d⟩ := x
      dsimp only at hx ⊢
      obtain ⟨hi, hmv, he⟩ := hx
      have hol : out.length ≤ 1000 := by rw [he, List.length_append] at hHl; omega
      by_cases hlt : i < ps.length
      · clear hF
        have hg := pg_get hlt
        have ht : (ps.take (i + 1)).map (fun p => (p.sp, p.nm)) = (ps.take i).map (fun p => (p.sp, p.nm)) ++ [(ps[i].sp, ps[i].nm)] := by rw [List.take_succ_eq_append_getElem hlt, List.map_append]; rfl
        rw [List.drop_eq_getElem_cons hlt, hitsGo, ← ht] at he
        generalize ps[i] = p at *
        generalize hS : (ps.take i).map (fun p => (p.sp, p.nm)) = S at *
        generalize hS' : (ps.take (i + 1)).map (fun p => (p.sp, p.nm)) = S' at *
        have hmv' : ∀ k, gGet (gPut mv (p.sp, p.nm) tt) k = if k ∈ S' then some tt else none := fun k => by
          rw [gGet_put, hmv, ht]
          by_cases hk : k = (p.sp, p.nm)
          · rw [if_pos hk, if_pos (by rw [hk]; simp)]
          · rw [if_neg hk]
            by_cases hk2 : k ∈ S
            · rw [if_pos hk2, if_pos (by simp [hk2])]
            · rw [if_neg hk2, if_neg (by simp [hk2, hk])]
        have hM := hmv (p.sp, p.nm)
        have hm : ∃ m : Bool, m = !decide ((p.sp, p.nm) ∈ S) := ⟨_, rfl⟩
        obtain ⟨m, hm⟩ := hm
        rw [← hm] at he
        have hMm : gGet mv (p.sp, p.nm) = if m = true then none else some tt := by
          rw [hM, hm]
          by_cases hk : (p.sp, p.nm) ∈ S
          · rw [if_pos hk, decide_eq_true hk]; rfl
          · rw [if_neg hk, decide_eq_false hk]; rfl
        have hrw : ∀ A B, Reads (A :: B :: .obj 2 ad (gO (aggV ttF) mv) :: .obj 1 am (gO (aggV entF) kv) :: [.row 9 1 a1 ws.length k1 (sC ws)]) [slFact e 4 la l.length (wrC l), slFact e' 4 pa ps.length (pgC ps)] 9 1 a1 ws.length (sC ws) := fun A B => .inl ⟨k1, .tail _ (.tail _ (.tail _ (.tail _ (.head _))))⟩
        clear hM hm
        cases m
        · have hG : gGet mv (p.sp, p.nm) = some tt := hMm
          clear hMm
          repeat' first | refine J_seq ?_ | refine J_region Tryz.tyOK ?_ | refine J_block ?_ | refine J_cond ?_ | refine J_ret ?_ | refine J_skip ?_ | refine J_exit ?_ | refine J_scope ?_ | refine CondP.y ?_ | refine CondP.n ?_ | refine CondP.mk (fun h => ?_) (fun h => ?_) | refine EqP.mk rfl ?_ | refine NewP.mk (fun ad => ?_) | refine ArP.x ?_ | refine SideP.a ?_ | refine J_drawS (id := 20) Tryz.tyOK (by kernel_rfl) [0, 0, 2, 7, 15, 0, 63] [0, 1, 2, 5, 3, 4, 6] [3] [17] true (by kernel_rfl) ?_ | refine EntP.mk Ents.a ?_ | refine IdxE.mk e' 4 _ (hr2 _) (by omega) (by omega) ?_ | refine LoadE.mk e' _ _ _ (hr2 _) (by omega) (by omega) (by first | omega | decide) hg ?_ | refine LookG.mk _ inferInstance ttF mv (p.sp, p.nm) rfl rfl rfl ttK (fun v hv => ?_) (fun hn => absurd (hG.symm.trans hn) (by simp)); cases hG.symm.trans hv | fail
          clear hG
          rename_i ad2
          refine J_loop (α := Nat × Int × Bool) (fun x => [(7, .c (.sl a1 ws.length k1)), (8, .c (.m 1 am)), (14, .c (.m 2 ad2)), (15, .c (.sl b out.length d)), (17, .c (.p 3 ad 0)), (18, .c (.i .i64 x.2.1)), (19, .c (.b x.2.2)), (60, .c (.sl pa ps.length pc)), (61, .c (.i .i64 ps.length)), (62, .c (.i .i64 i)), (71, .c (.sl a1 ws.length k1)), (72, .c (.i .i64 ws.length)), (73, .c (.i .i64 x.1))]) (fun x => [.box 3 ad 80 [.i .i64 p.sp, .s p.nm, .s p.tx, .i .i64 p.rv], .row 52 3 b out.length d (htC out), .obj 2 ad2 (gO (aggV ttF) mv), .obj 1 am (gO (aggV entF) kv), .row 9 1 a1 ws.length k1 (sC ws)]) (fun _ => [slFact e 4 la l.length (wrC l), slFact e' 4 pa ps.length (pgC ps)]) 4
            (fun x => x.1 ≤ ws.length ∧ x.2.1 = scoreT l (ws.take x.1) p ∧ x.2.2 = (false && allT l (ws.take x.1) p) ∧ -((x.1 : Int) * 1099511627776) ≤ x.2.1 ∧ x.2.1 ≤ (x.1 : Int) * 1099511627776) (fun x => ws.length - x.1) (InFam.mk (0, 0, false) ⟨Nat.zero_le _, rfl, rfl, by decide, by decide⟩ SubE.a (Ents.refl _ _)) (fun x hx => ?_)
          obtain ⟨k, sc, al⟩ := x
          dsimp only at hx ⊢
          obtain ⟨hk, hsc, hal, hs1, hs2⟩ := hx
          by_cases hkw : k < ws.length
          · have hgw : ((sC ws).drop (k * 1 + 0)).take 1 = [.s ws[k]] := s_get hkw
            have hsn := scoreT_snoc l (ws.take k) ws[k] p
            have han := allT_snoc l (ws.take k) ws[k] p
            rw [← List.take_succ_eq_append_getElem hkw] at hsn han
            generalize ws[k] = w at *
            rw [← hsc] at hsn
            have hG := hkv (w, p.sp, p.nm)
            have hmem := fun n h => firstN_mem (l := l) (k := (w, p.sp, p.nm)) (n := n) h
            cases hfn : firstN l (w, p.sp, p.nm) with
            | none =>
              rw [hfn] at hG hsn han
              have hG : gGet kv (w, p.sp, p.nm) = none := hG
              have hsn : scoreT l (ws.take (k + 1)) p = sc + 0 := hsn
              have han : (false && allT l (ws.take (k + 1)) p) = false := by rw [han]; simp
              clear hal
              cases al
              all_goals
                repeat' first | refine J_seq ?_ | refine J_region Tryz.tyOK ?_ | refine J_block ?_ | refine J_cond ?_ | refine J_ret ?_ | refine J_skip ?_ | refine J_exit ?_ | refine J_scope ?_ | refine CondP.y ?_ | refine CondP.n ?_ | refine CondP.mk (fun h => ?_) (fun h => ?_) | refine EqP.mk rfl ?_ | refine NewP.mk (fun ad => ?_) | refine ArP.x ?_ | refine SideP.a ?_ | refine IdxE.mk 9 1 _ (hrw _ _) (by omega) (by omega) ?_ | refine LoadE.mk 9 _ _ _ (hrw _ _) (by omega) (by omega) (by omega) hgw ?_ | refine LookG.mk _ inferInstance entF kv (w, p.sp, p.nm) rfl rfl rfl entK (fun v hv => absurd (hG.symm.trans hv) (by simp)) (fun hnn => ?_) | refine Round.mk (k + 1, sc + 0, false) (by dsimp only; omega) ⟨by dsimp only; omega, hsn.symm, han.symm, by dsimp only; omega, by dsimp only; omega⟩ SubE.a Ents.a | fail
            | some n =>
              obtain ⟨r, hr, hrn⟩ := hmem n hfn
              have hbr := hb r hr
              rw [hrn] at hbr
              rw [hfn] at hG hsn han
              have hG : gGet kv (w, p.sp, p.nm) = some (.c (.i .i64 n)) := hG
              have hsn : scoreT l (ws.take (k + 1)) p = sc + n := hsn
              have han : (false && allT l (ws.take (k + 1)) p) = al := by rw [han, hal]; simp
              clear hal
              cases al
              all_goals
                repeat' first | refine J_seq ?_ | refine J_region Tryz.tyOK ?_ | refine J_block ?_ | refine J_cond ?_ | refine J_ret ?_ | refine J_skip ?_ | refine J_exit ?_ | refine J_scope ?_ | refine CondP.y ?_ | refine CondP.n ?_ | refine CondP.mk (fun h => ?_) (fun h => ?_) | refine EqP.mk rfl ?_ | refine NewP.mk (fun ad => ?_) | refine ArP.x ?_ | refine SideP.a ?_ | refine IdxE.mk 9 1 _ (hrw _ _) (by omega) (by omega) ?_ | refine LoadE.mk 9 _ _ _ (hrw _ _) (by omega) (by omega) (by omega) hgw ?_ | refine LookG.mk _ inferInstance entF kv (w, p.sp, p.nm) rfl rfl rfl entK (fun v hv => ?_) (fun hn => absurd (hG.symm.trans hn) (by simp)); cases hG.symm.trans hv | refine Round.mk (k + 1, sc + n, _) (by dsimp only; omega) ⟨by dsimp only; omega, hsn.symm, han.symm, by dsimp only; omega, by dsimp only; omega⟩ SubE.a Ents.a | fail
          · have hkl : k = ws.length := by omega
            subst hkl
            rw [List.take_length] at hsc hal
            rw [← hal, ← hsc] at he
            cases al with
            | true =>
              have he : H = out ++ ([⟨p.sp, p.nm, sc⟩] ++ hitsGo l ws S' (ps.drop (i + 1))) := he
              rw [← List.append_assoc] at he
              repeat' first | refine J_seq ?_ | refine J_region Tryz.tyOK ?_ | refine J_block ?_ | refine J_cond ?_ | refine J_ret ?_ | refine J_skip ?_ | refine J_exit ?_ | refine J_scope ?_ | refine CondP.y ?_ | refine CondP.n ?_ | refine CondP.mk (fun h => ?_) (fun h => ?_) | refine EqP.mk rfl ?_ | refine NewP.mk (fun ad => ?_) | refine ArP.x ?_ | refine SideP.a ?_ | refine UpdG.mk _ inferInstance ttF mv (p.sp, p.nm) rfl rfl rfl ttK ?_ | refine AppE.row [_] _ (htC out) [.i .i64 p.sp, .s p.nm, .i .i64 sc] 1 rfl (SrcE.sl 52 52 _ _ 1 1 _ rfl rfl (.inl ⟨1, List.Mem.head _⟩) rfl) (by dsimp only; omega) (fun a' c' => ?_) | refine AppE.row [_, _] _ (htC out) [.i .i64 p.sp, .s p.nm, .i .i64 sc] 1 rfl (SrcE.sl 52 52 _ _ 1 1 _ rfl rfl (.inl ⟨1, List.Mem.head _⟩) rfl) (by dsimp only; omega) (fun a' c' => ?_) | refine Round.mk (i + 1, gPut mv (p.sp, p.nm) tt, out ++ [⟨p.sp, p.nm, sc⟩], a', c') (by dsimp only; omega) ⟨by dsimp only; omega, (by dsimp only; rw [hS']; exact hmv'), (by dsimp only; rw [hS']; exact he)⟩ SubE.a (Ents.drop.trans (Ents.drop.trans (Ents.of ?_))) | fail
              dsimp only
              rw [List.length_append, show htC (out ++ [⟨p.sp, p.nm, sc⟩]) = htC out ++ [.i .i64 p.sp, .s p.nm, .i .i64 sc] by simp [htC, HT.cells]]
              rfl
            | false =>
              have he : H = out ++ hitsGo l ws S' (ps.drop (i + 1)) := he
              repeat' first | refine J_seq ?_ | refine J_region Tryz.tyOK ?_ | refine J_block ?_ | refine J_cond ?_ | refine J_ret ?_ | refine J_skip ?_ | refine J_exit ?_ | refine J_scope ?_ | refine CondP.y ?_ | refine CondP.n ?_ | refine CondP.mk (fun h => ?_) (fun h => ?_) | refine EqP.mk rfl ?_ | refine NewP.mk (fun ad => ?_) | refine ArP.x ?_ | refine SideP.a ?_ | refine UpdG.mk _ inferInstance ttF mv (p.sp, p.nm) rfl rfl rfl ttK ?_ | refine Round.mk (i + 1, gPut mv (p.sp, p.nm) tt, out, b, d) (by dsimp only; omega) ⟨by dsimp only; omega, (by dsimp only; rw [hS']; exact hmv'), (by dsimp only; rw [hS']; exact he)⟩ SubE.a Ents.a | fail
        · have hG : gGet mv (p.sp, p.nm) = none := hMm
          clear hMm
          repeat' first | refine J_seq ?_ | refine J_region Tryz.tyOK ?_ | refine J_block ?_ | refine J_cond ?_ | refine J_ret ?_ | refine J_skip ?_ | refine J_exit ?_ | refine J_scope ?_ | refine CondP.y ?_ | refine CondP.n ?_ | refine CondP.mk (fun h => ?_) (fun h => ?_) | refine EqP.mk rfl ?_ | refine NewP.mk (fun ad => ?_) | refine ArP.x ?_ | refine SideP.a ?_ | refine J_drawS (id := 20) Tryz.tyOK (by kernel_rfl) [0, 0, 2, 7, 15, 0, 63] [0, 1, 2, 5, 3, 4, 6] [3] [17] true (by kernel_rfl) ?_ | refine EntP.mk Ents.a ?_ | refine IdxE.mk e' 4 _ (hr2 _) (by omega) (by omega) ?_ | refine LoadE.mk e' _ _ _ (hr2 _) (by omega) (by omega) (by first | omega | decide) hg ?_ | refine LookG.mk _ inferInstance ttF mv (p.sp, p.nm) rfl rfl rfl ttK (fun v hv => absurd (hG.symm.trans hv) (by simp)) (fun hnn => ?_) | fail
          clear hG
          rename_i ad2
          refine J_loop (α := Nat × Int × Bool) (fun x => [(7, .c (.sl a1 ws.length k1)), (8, .c (.m 1 am)), (14, .c (.m 2 ad2)), (15, .c (.sl b out.length d)), (17, .c (.p 3 ad 0)), (18, .c (.i .i64 x.2.1)), (19, .c (.b x.2.2)), (60, .c (.sl pa ps.length pc)), (61, .c (.i .i64 ps.length)), (62, .c (.i .i64 i)), (71, .c (.sl a1 ws.length k1)), (72, .c (.i .i64 ws.length)), (73, .c (.i .i64 x.1))]) (fun x => [.box 3 ad 80 [.i .i64 p.sp, .s p.nm, .s p.tx, .i .i64 p.rv], .row 52 3 b out.length d (htC out), .obj 2 ad2 (gO (aggV ttF) mv), .obj 1 am (gO (aggV entF) kv), .row 9 1 a1 ws.length k1 (sC ws)]) (fun _ => [slFact e 4 la l.length (wrC l), slFact e' 4 pa ps.length (pgC ps)]) 4
            (fun x => x.1 ≤ ws.length ∧ x.2.1 = scoreT l (ws.take x.1) p ∧ x.2.2 = (true && allT l (ws.take x.1) p) ∧ -((x.1 : Int) * 1099511627776) ≤ x.2.1 ∧ x.2.1 ≤ (x.1 : Int) * 1099511627776) (fun x => ws.length - x.1) (InFam.mk (0, 0, true) ⟨Nat.zero_le _, rfl, rfl, by decide, by decide⟩ SubE.a (Ents.refl _ _)) (fun x hx => ?_)
          obtain ⟨k, sc, al⟩ := x
          dsimp only at hx ⊢
          obtain ⟨hk, hsc, hal, hs1, hs2⟩ := hx
          by_cases hkw : k < ws.length
          · have hgw : ((sC ws).drop (k * 1 + 0)).take 1 = [.s ws[k]] := s_get hkw
            have hsn := scoreT_snoc l (ws.take k) ws[k] p
            have han := allT_snoc l (ws.take k) ws[k] p
            rw [← List.take_succ_eq_append_getElem hkw] at hsn han
            generalize ws[k] = w at *
            rw [← hsc] at hsn
            have hG := hkv (w, p.sp, p.nm)
            have hmem := fun n h => firstN_mem (l := l) (k := (w, p.sp, p.nm)) (n := n) h
            cases hfn : firstN l (w, p.sp, p.nm) with
            | none =>
              rw [hfn] at hG hsn han
              have hG : gGet kv (w, p.sp, p.nm) = none := hG
              have hsn : scoreT l (ws.take (k + 1)) p = sc + 0 := hsn
              have han : (true && allT l (ws.take (k + 1)) p) = false := by rw [han]; simp
              clear hal
              cases al
              all_goals
                repeat' first | refine J_seq ?_ | refine J_region Tryz.tyOK ?_ | refine J_block ?_ | refine J_cond ?_ | refine J_ret ?_ | refine J_skip ?_ | refine J_exit ?_ | refine J_scope ?_ | refine CondP.y ?_ | refine CondP.n ?_ | refine CondP.mk (fun h => ?_) (fun h => ?_) | refine EqP.mk rfl ?_ | refine NewP.mk (fun ad => ?_) | refine ArP.x ?_ | refine SideP.a ?_ | refine IdxE.mk 9 1 _ (hrw _ _) (by omega) (by omega) ?_ | refine LoadE.mk 9 _ _ _ (hrw _ _) (by omega) (by omega) (by omega) hgw ?_ | refine LookG.mk _ inferInstance entF kv (w, p.sp, p.nm) rfl rfl rfl entK (fun v hv => absurd (hG.symm.trans hv) (by simp)) (fun hnn => ?_) | refine Round.mk (k + 1, sc + 0, false) (by dsimp only; omega) ⟨by dsimp only; omega, hsn.symm, han.symm, by dsimp only; omega, by dsimp only; omega⟩ SubE.a Ents.a | fail
            | some n =>
              obtain ⟨r, hr, hrn⟩ := hmem n hfn
              have hbr := hb r hr
              rw [hrn] at hbr
              rw [hfn] at hG hsn han
              have hG : gGet kv (w, p.sp, p.nm) = some (.c (.i .i64 n)) := hG
              have hsn : scoreT l (ws.take (k + 1)) p = sc + n := hsn
              have han : (true && allT l (ws.take (k + 1)) p) = al := by rw [han, hal]; simp
              clear hal
              cases al
              all_goals
                repeat' first | refine J_seq ?_ | refine J_region Tryz.tyOK ?_ | refine J_block ?_ | refine J_cond ?_ | refine J_ret ?_ | refine J_skip ?_ | refine J_exit ?_ | refine J_scope ?_ | refine CondP.y ?_ | refine CondP.n ?_ | refine CondP.mk (fun h => ?_) (fun h => ?_) | refine EqP.mk rfl ?_ | refine NewP.mk (fun ad => ?_) | refine ArP.x ?_ | refine SideP.a ?_ | refine IdxE.mk 9 1 _ (hrw _ _) (by omega) (by omega) ?_ | refine LoadE.mk 9 _ _ _ (hrw _ _) (by omega) (by omega) (by omega) hgw ?_ | refine LookG.mk _ inferInstance entF kv (w, p.sp, p.nm) rfl rfl rfl entK (fun v hv => ?_) (fun hn => absurd (hG.symm.trans hn) (by simp)); cases hG.symm.trans hv | refine Round.mk (k + 1, sc + n, _) (by dsimp only; omega) ⟨by dsimp only; omega, hsn.symm, han.symm, by dsimp only; omega, by dsimp only; omega⟩ SubE.a Ents.a | fail
          · have hkl : k = ws.length := by omega
            subst hkl
            rw [List.take_length] at hsc hal
            rw [← hal, ← hsc] at he
            cases al with
            | true =>
              have he : H = out ++ ([⟨p.sp, p.nm, sc⟩] ++ hitsGo l ws S' (ps.drop (i + 1))) := he
              rw [← List.append_assoc] at he
              repeat' first | refine J_seq ?_ | refine J_region Tryz.tyOK ?_ | refine J_block ?_ | refine J_cond ?_ | refine J_ret ?_ | refine J_skip ?_ | refine J_exit ?_ | refine J_scope ?_ | refine CondP.y ?_ | refine CondP.n ?_ | refine CondP.mk (fun h => ?_) (fun h => ?_) | refine EqP.mk rfl ?_ | refine NewP.mk (fun ad => ?_) | refine ArP.x ?_ | refine SideP.a ?_ | refine UpdG.mk _ inferInstance ttF mv (p.sp, p.nm) rfl rfl rfl ttK ?_ | refine AppE.row [_] _ (htC out) [.i .i64 p.sp, .s p.nm, .i .i64 sc] 1 rfl (SrcE.sl 52 52 _ _ 1 1 _ rfl rfl (.inl ⟨1, List.Mem.head _⟩) rfl) (by dsimp only; omega) (fun a' c' => ?_) | refine AppE.row [_, _] _ (htC out) [.i .i64 p.sp, .s p.nm, .i .i64 sc] 1 rfl (SrcE.sl 52 52 _ _ 1 1 _ rfl rfl (.inl ⟨1, List.Mem.head _⟩) rfl) (by dsimp only; omega) (fun a' c' => ?_) | refine Round.mk (i + 1, gPut mv (p.sp, p.nm) tt, out ++ [⟨p.sp, p.nm, sc⟩], a', c') (by dsimp only; omega) ⟨by dsimp only; omega, (by dsimp only; rw [hS']; exact hmv'), (by dsimp only; rw [hS']; exact he)⟩ SubE.a (Ents.drop.trans (Ents.drop.trans (Ents.of ?_))) | fail
              dsimp only
              rw [List.length_append, show htC (out ++ [⟨p.sp, p.nm, sc⟩]) = htC out ++ [.i .i64 p.sp, .s p.nm, .i .i64 sc] by simp [htC, HT.cells]]
              rfl
            | false =>
              have he : H = out ++ hitsGo l ws S' (ps.drop (i + 1)) := he
              repeat' first | refine J_seq ?_ | refine J_region Tryz.tyOK ?_ | refine J_block ?_ | refine J_cond ?_ | refine J_ret ?_ | refine J_skip ?_ | refine J_exit ?_ | refine J_scope ?_ | refine CondP.y ?_ | refine CondP.n ?_ | refine CondP.mk (fun h => ?_) (fun h => ?_) | refine EqP.mk rfl ?_ | refine NewP.mk (fun ad => ?_) | refine ArP.x ?_ | refine SideP.a ?_ | refine UpdG.mk _ inferInstance ttF mv (p.sp, p.nm) rfl rfl rfl ttK ?_ | refine Round.mk (i + 1, gPut mv (p.sp, p.nm) tt, out, b, d) (by dsimp only; omega) ⟨by dsimp only; omega, (by dsimp only; rw [hS']; exact hmv'), (by dsimp only; rw [hS']; exact he)⟩ SubE.a Ents.a | fail
      · have hil : i = ps.length := by omega
        subst hil
        rw [List.drop_length] at he
        have he : H = out ++ [] := he
        rw [List.append_nil] at he
        subst he
        have ch := sortHits_ok b d H (by omega)
        have hFl : F.length = H.length := by rw [hF, List.length_mergeSort]
        repeat' first | refine J_seq ?_ | refine J_region Tryz.tyOK ?_ | refine J_block ?_ | refine J_cond ?_ | refine J_ret ?_ | refine J_skip ?_ | refine J_exit ?_ | refine J_scope ?_ | refine CondP.y ?_ | refine CondP.n ?_ | refine CondP.mk (fun h => ?_) (fun h => ?_) | refine EqP.mk rfl ?_ | refine NewP.mk (fun ad => ?_) | refine ArP.x ?_ | refine SideP.a ?_ | refine CallP.mk [_] [_, _, _] [] _ ch (List.Perm.refl _) (fun _ _ => trivial) (fun v L' D' hq => ?_); obtain ⟨l', hp, hs, rfl, rfl, rfl⟩ := hq; rw [sortedH_is hp hs, ← hF, ← hFl] | refine FinE.mk [_] [] ⟨b, d, rfl, rfl, rfl⟩ Ents.a | fail
end Go.Proofs

/- This text holds plain facts on things that are put into lists in order, and on lists of first things. -/
namespace Go.X
open Go Go.Lib
/-- A thing put into a list in order. -/
def addG {α : Type} [DecidableEq α] (cf : α → α → Int) : List α → α → List α
  | [], r => [r]
  | x :: t, r => if cf x r < 0 then x :: addG cf t r else if x = r then x :: t else r :: x :: t
section
variable {α : Type} [DecidableEq α] {cf : α → α → Int}
theorem addG_mem (l : List α) (r z : α) : z ∈ addG cf l r ↔ z ∈ l ∨ z = r := by
  induction l with
  | nil => simp [addG]
  | cons x t ih =>
    simp only [addG]
    split
    · simp [ih, or_assoc]
    · split
      · rename_i h; subst h; simp
        intro h; exact .inl h
      · simp [or_comm, or_assoc, or_left_comm]
theorem addG_str (hc : Cmp cf) (he : ∀ x y, cf x y = 0 → x = y) (l : List α) (r : α) (hl : StrL cf l) : StrL cf (addG cf l r) := by
  induction l with
  | nil => exact List.pairwise_cons.2 ⟨fun _ h => (by cases h), List.Pairwise.nil⟩
  | cons x t ih =>
    have hl' := List.pairwise_cons.1 hl
    simp only [addG]
    split
    · rename_i h
      refine List.pairwise_cons.2 ⟨fun z hz => ?_, ih hl'.2⟩
      rcases (addG_mem t r z).1 hz with hz | hz
      · exact hl'.1 z hz
      · rw [hz]; exact h
    · rename_i h
      split
      · exact hl
      · rename_i hne
        have hs := hc.swap x r
        have hrx : cf r x < 0 := by
          have : cf r x ≠ 0 := fun e => hne (he r x e).symm
          omega
        refine List.pairwise_cons.2 ⟨fun z hz => ?_, hl⟩
        rcases List.mem_cons.1 hz with hz | hz
        · rw [hz]; exact hrx
        · exact hc.lt_trans hrx (by have := hl'.1 z hz; omega)
theorem addG_at {l : List α} {r : α} {i : Nat} (h : i < l.length) : addG cf (l.drop i) r = if cf l[i] r < 0 then l[i] :: addG cf (l.drop (i + 1)) r else if l[i] = r then l.drop i else r :: l.drop i := by
  rw [List.drop_eq_getElem_cons h, addG]
theorem StrL.nodup (hc : Cmp cf) {l : List α} (h : StrL cf l) : l.Nodup := h.imp fun {x y} hxy e => by
  subst e; have := hc.refl x; omega
end
/-- A title in a list. -/
abbrev TT := Int × List UInt8
end Go.X

/- This text holds the plain form of the reference's Find of chapter 35, and proves that it gives the hits that Find of the package search gives. -/
namespace Go.X
open Go Go.Lib Go.Proofs
/-- A page with a title alone. -/
def pgOf (t : TT) : PG := ⟨t.1, t.2, [], 0⟩
/-- What is a hit. -/
def HitP (l : List WR) (ws : List (List UInt8)) (T : TT → Prop) (h : HT) : Prop := T (h.sp, h.nm) ∧ allT l ws (pgOf (h.sp, h.nm)) = true ∧ h.n = scoreT l ws (pgOf (h.sp, h.nm))
theorem hitsGo_mem (l : List WR) (ws : List (List UInt8)) : ∀ (ps : List PG) (seen : List TT) (z : HT), z ∈ hitsGo l ws seen ps ↔ HitP l ws (fun t => (∃ p ∈ ps, (p.sp, p.nm) = t) ∧ t ∉ seen) z
  | [], seen, z => by simp [hitsGo, HitP]
  | p :: r, seen, z => by
    rw [hitsGo, List.mem_append, hitsGo_mem l ws r]
    constructor
    · rintro (h | ⟨⟨⟨q, hq, hqe⟩, hn⟩, h4⟩)
      · split at h
        · rename_i hc
          rw [Bool.and_eq_true, Bool.not_eq_true', decide_eq_false_iff_not] at hc
          rw [List.mem_singleton] at h
          subst h
          exact ⟨⟨⟨p, List.mem_cons_self .., rfl⟩, hc.1⟩, hc.2, rfl⟩
        · cases h
      · exact ⟨⟨⟨q, List.mem_cons_of_mem _ hq, hqe⟩, fun e => hn (List.mem_append_left _ e)⟩, h4⟩
    · rintro ⟨⟨⟨q, hq, hqe⟩, hn⟩, h4, h5⟩
      by_cases hpz : (p.sp, p.nm) = (z.sp, z.nm)
      · refine .inl ?_
        rw [← hpz] at hn h4 h5
        rw [if_pos (by rw [Bool.and_eq_true, Bool.not_eq_true', decide_eq_false_iff_not]; exact ⟨hn, h4⟩), List.mem_singleton]
        obtain ⟨a, b, c⟩ := z
        obtain ⟨e1, e2⟩ := Prod.mk.inj hpz
        dsimp only at e1 e2 h5 ⊢
        rw [e1, e2, h5]; rfl
      · refine .inr ⟨⟨⟨q, ?_, hqe⟩, fun e => ?_⟩, h4, h5⟩
        · rcases List.mem_cons.1 hq with h | h
          · subst h; exact absurd hqe hpz
          · exact h
        · rcases List.mem_append.1 e with e | e
          · exact hn e
          · exact hpz (List.mem_singleton.1 e).symm
theorem hitsGo_nodup (l : List WR) (ws : List (List UInt8)) : ∀ (ps : List PG) (seen : List TT), (hitsGo l ws seen ps).Nodup
  | [], _ => List.nodup_nil
  | p :: r, seen => by
    rw [hitsGo]
    split
    · refine List.nodup_cons.2 ⟨fun h => ?_, hitsGo_nodup l ws r _⟩
      exact ((hitsGo_mem l ws r _ _).1 h).1.2 (by simp)
    · exact hitsGo_nodup l ws r _
theorem cmpsGo_mem : ∀ (r : List (List UInt8)) (p z : List UInt8), z ∈ p :: cmpsGo p r ↔ z ∈ p :: r
  | [], _, _ => Iff.rfl
  | y :: r, p, z => by
    simp only [cmpsGo]
    split
    · rename_i h
      subst h
      rw [cmpsGo_mem r y z]; simp
    · rw [List.mem_cons, cmpsGo_mem r y z]; exact List.mem_cons.symm
theorem queryT_mem (q z : List UInt8) : z ∈ queryT q ↔ z ∈ wordsS q := by
  have hm : z ∈ srtS (wordsS q) ↔ z ∈ wordsS q := (List.mergeSort_perm _ _).mem_iff
  rw [← hm]
  unfold queryT
  generalize srtS (wordsS q) = s
  cases s with
  | nil => exact Iff.rfl
  | cons x r => exact cmpsGo_mem r x z
theorem hits_sorted {H : List HT} (hn : H.Nodup) : StrL cmpHT (H.mergeSort leH) := by
  have h1 : (H.mergeSort leH).Pairwise fun x y => cmpHT x y ≤ 0 := (List.pairwise_mergeSort leH_trans leH_total H).imp fun {x y} h => by simpa [leH] using h
  have h2 : (H.mergeSort leH).Nodup := (List.mergeSort_perm H leH).nodup_iff.2 hn
  refine (h1.and h2).imp fun {x y} h => ?_
  have : cmpHT x y ≠ 0 := fun e => h.2 (cmpHT_eq x y e)
  have := h.1
  omega
/-- What Find gives. -/
theorem findT_str (l : List WR) (ps : List PG) (q : List UInt8) : StrL cmpHT (findT l ps q) := by
  unfold findT
  split
  · exact List.Pairwise.nil
  · exact hits_sorted (hitsGo_nodup _ _ _ _)
theorem findT_mem (l : List WR) (ps : List PG) (q : List UInt8) (z : HT) : z ∈ findT l ps q ↔ queryT q ≠ [] ∧ HitP l (queryT q) (fun t => ∃ p ∈ ps, (p.sp, p.nm) = t) z := by
  unfold findT
  split
  · rename_i h; simp [h]
  · rename_i h
    rw [(List.mergeSort_perm _ leH).mem_iff, hitsGo_mem]
    unfold HitP
    simp [h]
theorem findT_len (l : List WR) (ps : List PG) (q : List UInt8) : (findT l ps q).length ≤ ps.length := by
  unfold findT
  split
  · exact Nat.zero_le _
  · rw [List.length_mergeSort]; exact hitsGo_len _ _ _ _
end Go.X

/- This text walks through the function Compare of the reference of chapter 1. -/
namespace Go.Proofs
open Go Go.X
set_option maxRecDepth 100000
set_option maxHeartbeats 4000000
theorem refCompareT_ok (a : Int) (x : List UInt8) (b : Int) (y : List UInt8) : FnS Tryz.prog 65 [.agg [.i .i64 a, .s x], .agg [.i .i64 b, .s y]] [] [] (Is (.c (.i .i64 (compareT a x b y)))) := by
  have hl := less_cmp x y
  have he := cmpB_eq x y
  have hr := cmpB_range x y
  have hi := cmpI a b
  obtain ⟨k, hk⟩ : ∃ k, compareT a x b y = k := ⟨_, rfl⟩
  have hk' := hk
  unfold compareT at hk
  rw [hk']
  refine fn_of_J Tryz.tyOK 0 Tryz.func65 (by kernel_rfl) (c := Tryz.f65.body.getD .skip) (by kernel_rfl) Tryz.ntmps65 (rs := Tryz.f65.results.toList) rfl (by simp) (fun G => ?_)
  repeat' first | refine J_seq ?_ | refine J_region Tryz.tyOK ?_ | refine J_block ?_ | refine J_cond ?_ | refine J_ret ?_ | refine J_skip ?_ | refine J_exit ?_ | refine J_scope ?_ | refine CondP.y ?_ | refine CondP.n ?_ | refine CondP.mk (fun h => ?_) (fun h => ?_) | refine EqP.mk rfl ?_ | refine NewP.mk (fun ad => ?_) | refine ArP.x ?_ | refine SideP.a ?_ | refine FinE.int ?_ | fail
  all_goals
    rcases hi with ⟨h0, h1⟩ | ⟨h0, h1⟩ | ⟨h0, h1⟩
    all_goals
      rw [h1] at hk
      simp at hk
      first | omega | (simp_all; done) | (simp_all; omega)
end Go.Proofs

/- This text walks through the functions compare, add and Put of the reference of chapter 35. This text walks through the functions Put of the package search and of the reference of chapter 35: both give the rows in order, without duplicates. -/
namespace Go.X
open Go Go.Lib
end Go.X
namespace Go.Proofs
open Go Go.X
set_option maxRecDepth 100000
set_option maxHeartbeats 4000000
end Go.Proofs
namespace Go.X
open Go Go.Lib
end Go.X
namespace Go.Proofs
open Go Go.X
set_option maxRecDepth 100000
set_option maxHeartbeats 4000000
end Go.Proofs

/- This text gives the contracts of strings.IndexAny and strings.ContainsAny at two ASCII characters and any string, and of decoding steps. -/
namespace Go.X
open Go
end Go.X
namespace Go.Proofs
open Go Go.X Go.RowKit Go.Shelf
set_option maxRecDepth 100000
end Go.Proofs
