/- This text walks through the function Rows of the package search. -/
import Derived.Test.YtcnbkappedemeaaPut
import Derived.Test.YtcnbkappedemeaaWrd
import Derived.Test.YtcnbkappedemeaaSortS
set_option linter.all false

namespace Go.X
open Go Go.Lib

theorem ordW_mem {l m : List WR} (h : ∀ z, z ∈ l ↔ z ∈ m) : ordW l = ordW m := by
  obtain ⟨a, b⟩ := ordW_str l
  obtain ⟨c, d⟩ := ordW_str m
  exact strL_eq cmp_WR a c fun z => by rw [b, d]; exact h z

theorem kvGet_put (kv : Kv) (k : List UInt8) (v : V) (q : List UInt8) : kvGet (kvPut kv k v) q = if q = k then some v else kvGet kv q := by
  induction kv with
  | nil =>
    simp only [kvPut, kvGet]
    by_cases h : q = k
    · rw [if_pos h, if_pos h.symm]
    · rw [if_neg h, if_neg fun e => h e.symm]
  | cons x r ih =>
    simp only [kvPut]
    split
    · rename_i hx
      simp only [kvGet]
      by_cases h : q = k
      · rw [if_pos h, if_pos (hx.trans h.symm)]
      · rw [if_neg h, if_neg fun e => h (e.symm.trans hx), if_neg fun e => h (e.symm.trans hx)]
    · rename_i hx
      simp only [kvGet]
      rw [ih]
      by_cases h : x.1 = q
      · rw [if_pos h, if_neg fun e => hx (h.trans e)]
        exact (if_pos h).symm
      · rw [if_neg h, if_neg h]
theorem kvPut_keys (kv : Kv) (k : List UInt8) (v : V) : ∀ z, z ∈ (kvPut kv k v).map (·.1) → z = k ∨ z ∈ kv.map (·.1) := by
  induction kv with
  | nil => intro z hz; simp only [kvPut, List.map_cons, List.map_nil, List.mem_singleton] at hz; exact .inl hz
  | cons x r ih =>
    intro z hz
    simp only [kvPut] at hz
    split at hz
    · exact .inr hz
    · simp only [List.map_cons, List.mem_cons] at hz ⊢
      rcases hz with hz | hz
      · exact .inr (.inl hz)
      · rcases ih z hz with h | h
        · exact .inl h
        · exact .inr (.inr h)
theorem kvPut_nodup (kv : Kv) (k : List UInt8) (v : V) (h : (kv.map (·.1)).Nodup) : ((kvPut kv k v).map (·.1)).Nodup := by
  induction kv with
  | nil => simp [kvPut]
  | cons x r ih =>
    simp only [List.map_cons, List.nodup_cons] at h
    simp only [kvPut]
    split
    · simp only [List.map_cons, List.nodup_cons]; exact h
    · rename_i hx
      simp only [List.map_cons, List.nodup_cons]
      refine ⟨fun hm => ?_, ih h.2⟩
      rcases kvPut_keys r k v _ hm with e | e
      · exact hx e
      · exact h.1 e
theorem kvPut_len (kv : Kv) (k : List UInt8) (v : V) : (kvPut kv k v).length ≤ kv.length + 1 := by
  induction kv with
  | nil => exact Nat.le_refl _
  | cons x r ih =>
    simp only [kvPut]
    split
    · simp
    · simp; exact ih
theorem kvGet_at {kv : Kv} (h : (kv.map (·.1)).Nodup) : ∀ {i : Nat} (hi : i < kv.length), kvGet kv kv[i].1 = some kv[i].2 := by
  induction kv with
  | nil => intro i hi; simp at hi
  | cons x r ih =>
    intro i hi
    simp only [List.map_cons, List.nodup_cons] at h
    cases i with
    | zero => simp [kvGet]
    | succ i =>
      simp only [List.getElem_cons_succ, kvGet]
      have hi' : i < r.length := by simpa using hi
      rw [if_neg fun e => h.1 (by rw [e]; exact List.mem_map.2 ⟨r[i], List.getElem_mem hi', rfl⟩)]
      exact ih h.2 hi'
theorem kvGet_mem {kv : Kv} {q : List UInt8} {v : V} : kvGet kv q = some v → ∃ i, ∃ h : i < kv.length, kv[i] = (q, v) := by
  induction kv with
  | nil => intro h; cases h
  | cons x r ih =>
    intro h
    simp only [kvGet] at h
    split at h
    · rename_i hx
      refine ⟨0, by simp, ?_⟩
      cases h
      rw [← hx]; rfl
    · obtain ⟨i, hi, he⟩ := ih h
      exact ⟨i + 1, by simpa using hi, by simpa using he⟩

/-- A map counts words. -/
structure CntI (kv : Kv) (d : List (List UInt8)) : Prop where
  nd : (kv.map (·.1)).Nodup
  len : kv.length ≤ d.length
  get : ∀ q, kvGet kv q = if d.count q = 0 then none else some (.c (.i .i64 (d.count q)))
theorem CntI.nil : CntI [] [] := ⟨List.nodup_nil, Nat.le_refl _, fun q => rfl⟩
theorem CntI.step {kv : Kv} {d : List (List UInt8)} (h : CntI kv d) (w : List UInt8) : CntI (kvPut kv w (.c (.i .i64 ((d.count w : Int) + 1)))) (d ++ [w]) := by
  refine ⟨kvPut_nodup _ _ _ h.nd, ?_, fun q => ?_⟩
  · have := kvPut_len kv w (.c (.i .i64 ((d.count w : Int) + 1)))
    have := h.len
    rw [List.length_append]; simp; omega
  · rw [kvGet_put, List.count_append, h.get]
    by_cases hq : q = w
    · subst hq
      rw [if_pos rfl, List.count_singleton_self, if_neg (by omega)]
      rfl
    · rw [if_neg hq, show List.count q [w] = 0 from List.count_eq_zero.2 (by simpa using hq), Nat.add_zero]
theorem CntI.at {kv : Kv} {d : List (List UInt8)} (h : CntI kv d) {i : Nat} (hi : i < kv.length) : ∃ w, w ∈ d ∧ kv[i] = (w, .c (.i .i64 (d.count w))) := by
  have h1 := kvGet_at h.nd hi
  rw [h.get] at h1
  split at h1
  · cases h1
  · rename_i hc
    refine ⟨kv[i].1, ?_, ?_⟩
    · exact List.count_pos_iff.1 (by omega)
    · cases h1' : kv[i] with
      | mk a b =>
        rw [h1'] at h1
        exact congrArg (Prod.mk a) (Option.some.inj h1).symm
theorem CntI.has {kv : Kv} {d : List (List UInt8)} (h : CntI kv d) {w : List UInt8} (hw : w ∈ d) : ∃ i, ∃ hi : i < kv.length, kv[i] = (w, .c (.i .i64 (d.count w))) := by
  have h1 := h.get w
  rw [if_neg (by have := List.count_pos_iff.2 hw; omega)] at h1
  exact kvGet_mem h1

/-- The places of a map that were not yet seen. -/
def unseen (n : Nat) (seen : Array Nat) : List Nat := (List.range n).filter fun i => decide (i ∉ seen.toList)
theorem unseen_nil (n : Nat) : (#[] : Array Nat).size + (unseen n #[]).length = n := by
  have : unseen n #[] = List.range n := List.filter_eq_self.2 (by simp)
  rw [this, List.length_range]; exact Nat.zero_add n
theorem unseen_push {n i : Nat} {seen : Array Nat} (hi : i < n) (hs : i ∉ seen.toList) : (unseen n (seen.push i)).length + 1 = (unseen n seen).length := by
  have h1 : unseen n (seen.push i) = (unseen n seen).erase i := by
    have hnd : (unseen n seen).Nodup := List.Nodup.sublist List.filter_sublist List.nodup_range
    rw [hnd.erase_eq_filter]
    unfold unseen
    rw [List.filter_filter]
    apply List.filter_congr
    intro x _
    simp only [Array.toList_push, List.mem_append, List.mem_singleton, not_or]
    by_cases h : x = i
    · subst h; simp
    · simp [h]
  have hm : i ∈ unseen n seen := List.mem_filter.2 ⟨List.mem_range.2 hi, by simpa using hs⟩
  have hp := List.length_pos_of_mem hm
  rw [h1, List.length_erase_of_mem hm]
  omega

/-- The rows of the words of a page. -/
def rowsW (sp : Int) (nm : List UInt8) (ws : List (List UInt8)) : List WR := ws.map fun w => ⟨w, sp, nm, (ws.count w : Int)⟩
def rowsT (sp : Int) (nm text : List UInt8) : List WR := ordW (rowsW sp nm (wordsS (nm ++ [10] ++ text)))

end Go.X

namespace Go.Proofs
open Go Go.X
set_option maxRecDepth 100000
set_option maxHeartbeats 4000000

theorem rows_ok (sp : Int) (nm text : List UInt8) (hn : nm.length + text.length ≤ 10000) :
    FnS Try.prog 17 [.agg [.i .i64 sp, .s nm], .c (.s text)] [] []
      (fun v L D => ∃ a' c', v = .c (.sl a' (rowsT sp nm text).length c') ∧ L = [.row 39 4 a' (rowsT sp nm text).length c' (wrC (rowsT sp nm text))] ∧ D = []) := by
  have hW : ∃ ws, ws = wordsS (nm ++ [10] ++ text) := ⟨_, rfl⟩
  obtain ⟨ws, hW⟩ := hW
  have hwl : ws.length ≤ 10003 := by
    have := wordsR_len (nm ++ [10] ++ text) []
    rw [hW]; unfold wordsS; simp only [List.length_append, List.length_cons, List.length_nil] at this; omega
  have cw := words_ok (nm ++ [10] ++ text) (by simp only [List.length_append, List.length_cons, List.length_nil]; omega)
  unfold rowsT
  rw [← hW] at cw ⊢
  generalize hR : rowsW sp nm ws = R0
  refine fn_of_J Try.tyOK 0 Try.func17 (by kernel_rfl) (c := Try.f17.body.getD .skip) (by kernel_rfl) Try.ntmps17 (rs := Try.f17.results.toList) rfl (by simp) (fun G => ?_)
  repeat' first
    | refine J_seq ?_ | refine J_region Try.tyOK ?_ | refine J_block ?_ | refine J_cond ?_ | refine J_ret ?_ | refine J_skip ?_ | refine J_exit ?_ | refine J_scope ?_
    | refine CondP.yes (by omega) ?_ | refine CondP.no (by omega) ?_ | refine CondP.mk (fun h => ?_) (fun h => ?_) | refine EqP.mk rfl ?_ | refine NewP.mk (fun ad => ?_) | refine ArP.exact (by simp only [inR]; omega) ?_ | refine SideP.mk (by first | omega | (dsimp only; omega) | (simp; omega)) ?_
    | refine CallP.mk [] [_, _] [] _ cw (List.Perm.refl _) (fun _ _ => trivial) (fun v L' D' hq => ?_); obtain ⟨a1, k1, rfl, rfl, rfl⟩ := hq
    | fail
  rename_i ad0
  refine J_loop (α := Nat × Kv) (fun x => [(2, .c (.p 0 ad0 0)), (5, .c (.m 1 ad)), (17, .c (.sl a1 ws.length k1)), (18, .c (.i .i64 ws.length)), (19, .c (.i .i64 x.1))]) (fun x => [.row 9 1 a1 ws.length k1 (ws.map C.s), .obj 1 ad (mapO x.2), .box 0 ad0 33 [.i .i64 sp, .s nm]]) (fun _ => []) 2
    (fun x => x.1 ≤ ws.length ∧ CntI x.2 (ws.take x.1)) (fun x => ws.length - x.1) (InFam.mk (0, []) ⟨Nat.zero_le _, CntI.nil⟩ (by repeat' first | exact SubE.nil | refine SubE.cons rfl ?_ ?_ | exact VEq.refl _ | refine VEq.int (by omega) | refine VEq.sl rfl (by first | rfl | omega | (rw [List.length_append]; rfl) | (simp; omega)) rfl) (Ents.refl _ _)) (fun x hx => ?_)
  obtain ⟨i, kv⟩ := x
  dsimp only at hx ⊢
  obtain ⟨hi, hc⟩ := hx
  by_cases hlt : i < ws.length
  · have hg : ((ws.map C.s).drop (i * 1 + 0)).take 1 = [.s ws[i]] := s_get hlt
    have hst := hc.step ws[i]
    have hG := hc.get ws[i]
    have hcl : (ws.take i).count ws[i] ≤ i := Nat.le_trans List.count_le_length (by rw [List.length_take]; omega)
    rw [← List.take_succ_eq_append_getElem hlt] at hst
    generalize hn : (ws.take i).count ws[i] = n at *
    generalize ws[i] = w at *
    by_cases hz : n = 0
    · subst hz
      rw [if_pos rfl] at hG
      repeat' first
        | refine J_seq ?_ | refine J_region Try.tyOK ?_ | refine J_block ?_ | refine J_cond ?_ | refine J_ret ?_ | refine J_skip ?_ | refine J_exit ?_ | refine J_scope ?_
        | refine CondP.yes (by omega) ?_ | refine CondP.no (by omega) ?_ | refine CondP.mk (fun h => ?_) (fun h => ?_) | refine EqP.mk rfl ?_ | refine NewP.mk (fun ad => ?_) | refine ArP.exact (by simp only [inR]; omega) ?_ | refine SideP.mk (by first | omega | (dsimp only; omega) | (simp; omega)) ?_
        | refine IdxE.mk 9 1 _ (.inl ⟨k1, List.Mem.head _⟩) (by omega) (by omega) ?_ | refine LoadE.mk 9 _ _ [.s w] (.inl ⟨k1, List.Mem.head _⟩) (by omega) (by omega) (by omega) hg ?_ | refine MapE.mk kv rfl rfl ?_ | refine LookP.mk (fun v hv => absurd (hG.symm.trans hv) (by simp)) (fun _ => ?_) | refine Round.mk (i + 1, kvPut kv w (.c (.i .i64 (((0 : Nat) : Int) + 1)))) (by dsimp only; omega) ⟨by dsimp only; omega, hst⟩ (by repeat' first | exact SubE.nil | refine SubE.cons rfl ?_ ?_ | exact VEq.refl _ | refine VEq.int (by omega) | refine VEq.sl rfl (by first | rfl | omega | (rw [List.length_append]; rfl) | (simp; omega)) rfl) (Ents.of rfl)
        | fail
    · rw [if_neg hz] at hG
      repeat' first
        | refine J_seq ?_ | refine J_region Try.tyOK ?_ | refine J_block ?_ | refine J_cond ?_ | refine J_ret ?_ | refine J_skip ?_ | refine J_exit ?_ | refine J_scope ?_
        | refine CondP.yes (by omega) ?_ | refine CondP.no (by omega) ?_ | refine CondP.mk (fun h => ?_) (fun h => ?_) | refine EqP.mk rfl ?_ | refine NewP.mk (fun ad => ?_) | refine ArP.exact (by simp only [inR]; omega) ?_ | refine SideP.mk (by first | omega | (dsimp only; omega) | (simp; omega)) ?_
        | refine IdxE.mk 9 1 _ (.inl ⟨k1, List.Mem.head _⟩) (by omega) (by omega) ?_ | refine LoadE.mk 9 _ _ [.s w] (.inl ⟨k1, List.Mem.head _⟩) (by omega) (by omega) (by omega) hg ?_ | refine MapE.mk kv rfl rfl ?_ | refine LookP.mk (fun v hv => ?_) (fun hv => absurd (hG.symm.trans hv) (by simp)); cases hG.symm.trans hv | refine Round.mk (i + 1, kvPut kv w (.c (.i .i64 ((n : Int) + 1)))) (by dsimp only; omega) ⟨by dsimp only; omega, hst⟩ (by repeat' first | exact SubE.nil | refine SubE.cons rfl ?_ ?_ | exact VEq.refl _ | refine VEq.int (by omega) | refine VEq.sl rfl (by first | rfl | omega | (rw [List.length_append]; rfl) | (simp; omega)) rfl) (Ents.of rfl)
        | fail
  · have hil : i = ws.length := by omega
    subst hil
    rw [List.take_length] at hc
    have hat := fun i hi => hc.at (i := i) hi
    have hhas := fun w hw => hc.has (w := w) hw
    have hkl := hc.len
    generalize hrw : (fun i : Nat => (⟨((kv[i]?).map (·.1)).getD [], sp, nm, (ws.count (((kv[i]?).map (·.1)).getD []) : Int)⟩ : WR)) = rw at *
    have hrow : ∀ i (hi : i < kv.length), ∃ w, kv[i] = (w, .c (.i .i64 (ws.count w))) ∧ (rw i).cells = [.s w, .i .i64 sp, .s nm, .i .i64 (ws.count w)] := fun i hi => by
      obtain ⟨w, _, he⟩ := hat i hi
      refine ⟨w, he, ?_⟩
      rw [← hrw]
      simp [WR.cells, hi, he]
    have hend : ∀ sn : Array Nat, (∀ i, i < kv.length → i ∈ sn.toList) → (∀ i ∈ sn.toList, i < kv.length) → ordW (sn.toList.map rw) = ordW R0 := fun sn h1 h2 => by
      refine ordW_mem fun z => ?_
      rw [← hR, List.mem_map, rowsW, List.mem_map]
      constructor
      · rintro ⟨i, hi, rfl⟩
        obtain ⟨w, hw, he⟩ := hat i (h2 i hi)
        refine ⟨w, hw, ?_⟩
        rw [← hrw]
        simp [h2 i hi, he]
      · rintro ⟨w, hw, rfl⟩
        obtain ⟨i, hi, he⟩ := hhas w hw
        refine ⟨i, h1 i hi, ?_⟩
        rw [← hrw]
        simp [hi, he]
    clear hat hhas hc cw hW hn hi hlt
    repeat' first
      | refine J_seq ?_ | refine J_region Try.tyOK ?_ | refine J_block ?_ | refine J_cond ?_ | refine J_ret ?_ | refine J_skip ?_ | refine J_exit ?_ | refine J_scope ?_
      | refine CondP.yes (by omega) ?_ | refine CondP.no (by omega) ?_ | refine CondP.mk (fun h => ?_) (fun h => ?_) | refine EqP.mk rfl ?_ | refine NewP.mk (fun ad => ?_) | refine ArP.exact (by simp only [inR]; omega) ?_ | refine SideP.mk (by first | omega | (dsimp only; omega) | (simp; omega)) ?_
      | fail
    rename_i am
    refine J_loop (α := Array Nat × Option Addr × Nat) (fun x => [(2, .c (.p 0 ad0 0)), (8, .c (.sl x.2.1 (x.1.toList.map rw).length x.2.2)), (29, .c (.p 2 ad 0))]) (fun x => [.row 39 4 x.2.1 (x.1.toList.map rw).length x.2.2 (wrC (x.1.toList.map rw)), .obj 2 ad (.mapIter (some am) kv.length x.1 kv.length), .obj 1 am (mapO kv), .box 0 ad0 33 [.i .i64 sp, .s nm]]) (fun _ => []) 3
      (fun x => x.1.size + (unseen kv.length x.1).length = kv.length ∧ ∀ i ∈ x.1.toList, i < kv.length) (fun x => (unseen kv.length x.1).length) (InFam.mk (#[], none, 0) ⟨unseen_nil _, by simp⟩ (by repeat' first | exact SubE.nil | refine SubE.cons rfl ?_ ?_ | exact VEq.refl _ | refine VEq.int (by omega) | refine VEq.sl rfl (by first | rfl | omega | (rw [List.length_append]; rfl) | (simp; omega)) rfl) (((Ents.perm (List.Perm.swap _ _ _)).trans Ents.drop).trans (Ents.nilRow (ety := 39) (esz := 4)))) (fun x hx => ?_)
    obtain ⟨sn, b, d⟩ := x
    dsimp only at hx ⊢
    obtain ⟨hsz, hin⟩ := hx
    have hol : (sn.toList.map rw).length ≤ 10003 := by rw [List.length_map, Array.length_toList]; omega
    have co := fun h b d => hend sn h hin ▸ ordered_ok b d (sn.toList.map rw) (by omega)
    have hmem : ∀ x y z : Chunk, Chunk.obj 1 am (gO (fun k => V.c (.s k)) kv) ∈ [x, y, .obj 1 am (mapO kv), z] := fun x y z => by
      rw [← mapO_g]; exact .tail _ (.tail _ (.head _))
    have hlen : ∀ i, ((sn.push i).toList.map rw).length = (sn.toList.map rw).length + 1 := fun i => by simp
    have hpush : ∀ i, i < kv.length → i ∉ sn.toList → (sn.push i).size + (unseen kv.length (sn.push i)).length = kv.length ∧ (∀ j ∈ (sn.push i).toList, j < kv.length) ∧ (unseen kv.length (sn.push i)).length < (unseen kv.length sn).length := fun i hi hni => by
      have := unseen_push hi hni
      refine ⟨by rw [Array.size_push]; omega, fun j hj => ?_, by omega⟩
      rw [Array.toList_push, List.mem_append, List.mem_singleton] at hj
      rcases hj with hj | hj
      · exact hin j hj
      · omega
    repeat' first
      | refine J_seq ?_ | refine J_region Try.tyOK ?_ | refine J_block ?_ | refine J_cond ?_ | refine J_ret ?_ | refine J_skip ?_ | refine J_exit ?_ | refine J_scope ?_
      | refine CondP.yes (by omega) ?_ | refine CondP.no (by omega) ?_ | refine CondP.mk (fun h => ?_) (fun h => ?_) | refine EqP.mk rfl ?_ | refine NewP.mk (fun ad => ?_) | refine ArP.exact (by simp only [inR]; omega) ?_ | refine SideP.mk (by first | omega | (dsimp only; omega) | (simp; omega)) ?_
      | refine NextE.mk 1 _ (fun k => V.c (.s k)) kv (hmem _ _ _) rfl rfl (fun i hi hni => ?_) (fun hall => ?_); try (obtain ⟨w, hw, hrc⟩ := hrow i hi; rw [hw]; have hln := hlen i) | refine EntE.mk 1 _ (fun k => V.c (.s k)) kv (hmem _ _ _) rfl sn i rfl hi ?_; rw [hw] | refine AppE.row [_] _ (wrC (sn.toList.map rw)) (rw i).cells 1 rfl (SrcE.sl 39 39 _ _ 1 1 _ rfl rfl (.inl ⟨1, by rw [hrc]; exact List.Mem.head _⟩) (by rw [hrc]; rfl)) (by dsimp only; omega) (fun a' c' => ?_) | refine Round.mk (sn.push i, a', c') (hpush i hi hni).2.2 ⟨(hpush i hi hni).1, (hpush i hi hni).2.1⟩ (SubE.cons rfl (VEq.refl _) (SubE.cons rfl (VEq.sl rfl (by first | exact hlen i | exact (hlen i).symm) rfl) (SubE.cons rfl (VEq.refl _) SubE.nil))) (Ents.drop.trans (Ents.of ?_)) | refine CallP.mk [_] [_, _, _] [] _ (co hall _ _) (List.Perm.refl _) (fun _ _ => trivial) (fun v L' D' hq => ?_); obtain ⟨rfl, rfl, rfl⟩ := hq | refine FinE.mk [_] [] ⟨_, _, rfl, rfl, rfl⟩ (Ents.ofSub (by repeat (first | exact List.Sublist.slnil | refine List.Sublist.cons_cons _ ?_ | refine List.Sublist.cons _ ?_)) (by first | exact fun _ h => h | exact fun _ _ => trivial | exact fun _ h => h.2 | exact fun _ h => h.2.2.2.2 | exact fun _ h => h.2.2 | exact fun _ h => h.2.2.2 | exact fun _ h => h.2.2.2.2.2 | exact fun _ h => h.2.2.2.2.2.2 | exact fun _ h => h.2.2.2.2.2.2.2 | exact fun _ h => h.2.2.2.2.2.2.2.2 | exact fun _ h => h.2.2.2.2.2.2.2.2.2 | exact fun _ h => h.2.2.2.2.2.2.2.2.2.2 | exact fun _ h => ((allD_append _ _).1 h).2))
      | fail
    dsimp only
    rw [Array.toList_push, List.map_append, List.length_append, show wrC (sn.toList.map rw ++ [i].map rw) = wrC (sn.toList.map rw) ++ (rw i).cells by simp [wrC]]
    rfl

end Go.Proofs
