/- This text proves how loads and stores of whole variables run on a block of known cells. -/
import Derived.Test.YtdnkeinjfddmnaaGreatDoorOps
set_option linter.all false

namespace Go.X
open Go
variable [Sm : Inhabited Manner]

def setBlk (w : World) (g : Nat) (o : Obj) : World := { w with heap := w.heap.setIfInBounds g o }

theorem setBlk_same {w : World} {g : Nat} {o o' : Obj} (h : w.heap[g]? = some o') : (setBlk w g o).heap[g]? = some o := by
  have := (Array.getElem?_eq_some_iff.1 h).1
  simp [setBlk, this]
theorem setBlk_ne {w : World} {g b : Nat} {o : Obj} (h : b ≠ g) : (setBlk w g o).heap[b]? = w.heap[b]? := by
  simp [setBlk, Array.getElem?_setIfInBounds, Ne.symm h]
theorem setBlk_size (w : World) (g : Nat) (o : Obj) : (setBlk w g o).heap.size = w.heap.size := by simp [setBlk]

theorem addr_add (b o n : Nat) : (⟨b, o, none⟩ : Addr).add n = ⟨b, o + n, none⟩ := by
  unfold Addr.add; split <;> simp_all

theorem cell_blk {w : World} {g : Nat} {cur : Array Value} {t : TypeId} {fr : Nat × Nat} (h : w.heap[g]? = some (.cells cur t fr)) (o : Nat) : w.cell? ⟨g, o, none⟩ = cur[o]? := by
  simp [World.cell?, h]

theorem run_loadCells_blk {P : Program} {w : World} {g : Nat} {cur : Array Value} {t : TypeId} {fr : Nat × Nat} (h : w.heap[g]? = some (.cells cur t fr)) (o : Nat) (cs : List Value)
    (hcs : (cur.toList.drop o).take cs.length = cs) : (loadCells ⟨g, o, none⟩ cs.length).run P w = .ok cs.toArray w := by
  refine run_loadCells_list w _ cs fun j v hj => ?_
  rw [addr_add, cell_blk h]
  rw [← hcs, List.getElem?_take] at hj
  split at hj
  · rw [List.getElem?_drop] at hj; simpa using hj
  · cases hj

/-- A variable of a type of the table is read from a block of known cells. -/
theorem run_loadVar_blk {P : Program} {w : World} {g : Nat} {cur : Array Value} {t ty : TypeId} {fr : Nat × Nat} {i : TyI} (hok : i.ok P ty) (hd : i.d ≠ .oth) (h : w.heap[g]? = some (.cells cur t fr)) (o : Nat) (cs : List C)
    (hl : cs.length = i.size) (hcs : (cur.toList.drop o).take cs.length = cs.map C.enc) : (loadVar ty ⟨g, o, none⟩).run P w = .ok (valOf i.d cs) w := by
  unfold loadVar
  simp only [Sem.run_bind, run_isAgg hok (fun _ => .inl hd), Result.andThen_ok, Sem.run_ite]
  cases ha : isAggD i.d with
  | true =>
    simp only [if_true, Sem.run_bind, run_sizeOf hok, Result.andThen_ok]
    have := run_loadCells_blk (P := P) h o (cs.map C.enc) (by simpa using hcs)
    rw [List.length_map, hl] at this
    rw [this]
    simp only [Result.andThen_ok, Sem.run_pure]
    cases hdd : i.d <;> rw [hdd] at ha <;> simp [isAggD] at ha <;> rfl
  | false =>
    simp only [Bool.false_eq_true, if_false]
    have hs : i.size = 1 := hok.2.2.1.resolve_left (by simp [ha])
    rw [hs] at hl
    match cs, hl with
    | [x], _ =>
      have hc : w.cell? ⟨g, o, none⟩ = some x.enc := by
        rw [cell_blk h]
        simp only [List.length_cons, List.length_nil, List.map_cons, List.map_nil] at hcs
        have := congrArg (fun l => l[0]?) hcs
        simp only [Nat.zero_add, List.getElem?_take, Nat.lt_add_one, if_true, List.getElem?_drop, Nat.add_zero, List.getElem?_cons_zero] at this
        simpa using this
      simp only [run_load, hc]
      cases hdd : i.d <;> rw [hdd] at ha <;> simp [isAggD] at ha <;> rfl

theorem setCell_blk {w : World} {g : Nat} {cur : Array Value} {t : TypeId} {fr : Nat × Nat} (h : w.heap[g]? = some (.cells cur t fr)) (o : Nat) (v : Value) :
    w.setCell ⟨g, o, none⟩ v = setBlk w g (.cells (cur.setIfInBounds o v) t fr) := by
  simp only [World.setCell, setBlk]
  congr 1
  apply Array.ext_getElem?
  intro i
  simp only [Array.getElem?_modify, Array.getElem?_setIfInBounds]
  by_cases hi : g = i
  · subst hi
    obtain ⟨hlt, he⟩ := Array.getElem?_eq_some_iff.1 h
    simp [hlt, he]
  · simp [hi]

theorem setBlk_setBlk (w : World) (g : Nat) (o o' : Obj) : setBlk (setBlk w g o) g o' = setBlk w g o' := by
  simp only [setBlk]
  congr 1
  apply Array.ext_getElem?
  intro i
  simp only [Array.getElem?_setIfInBounds, Array.size_setIfInBounds]
  split <;> rfl

theorem frozen_blk {w : World} {g : Nat} {cur : Array Value} {t : TypeId} {lo hi : Nat} (h : w.heap[g]? = some (.cells cur t (lo, hi))) {o : Nat} (ho : o < cur.size) (hf : cur.size ≤ lo ∨ hi ≤ lo) :
    w.frozen? ⟨g, o, none⟩ = false := by
  simp [World.frozen?, h]
  omega

def setL : Nat → List Value → List Value → List Value
  | o, vs, l => l.take o ++ vs ++ l.drop (o + vs.length)

theorem run_storeCells_blk {P : Program} {g : Nat} {t : TypeId} {lo hi : Nat} : ∀ (vs : List Value) (o k : Nat) (cur : Array Value) (w : World), w.heap[g]? = some (.cells cur t (lo, hi)) → (cur.size ≤ lo ∨ hi ≤ lo) →
    o + k + vs.length ≤ cur.size → (∀ v ∈ vs, v.oneCell' = true) → (storeCells ⟨g, o, none⟩ vs k).run P w = .ok () (setBlk w g (.cells (setL (o + k) vs cur.toList).toArray t (lo, hi)))
  | [], o, k, cur, w, h, _, _, _ => by
    simp only [storeCells, Sem.run_pure]
    congr 1
    simp only [setL, List.append_nil, List.length_nil, Nat.add_zero, List.take_append_drop]
    have : setBlk w g (.cells cur t (lo, hi)) = w := by
      simp only [setBlk]
      have hlt := (Array.getElem?_eq_some_iff.1 h)
      obtain ⟨hlt, he⟩ := hlt
      have : w.heap.setIfInBounds g (.cells cur t (lo, hi)) = w.heap := by
        apply Array.ext_getElem?
        intro i
        simp only [Array.getElem?_setIfInBounds]
        split
        · rename_i hi; subst hi; simp [hlt, he]
        · rfl
      rw [this]
    simpa using this.symm
  | v :: vs, o, k, cur, w, h, hf, hl, h1 => by
    simp only [List.length_cons] at hl
    have ho : o + k < cur.size := by omega
    have hv := h1 v (by simp)
    simp only [storeCells, addr_add, Sem.run_bind, run_store P w _ v _ hv, cell_blk h]
    have e1 : cur[o + k]? = some cur[o + k] := by simp [ho]
    rw [e1]
    simp only [frozen_blk h ho hf]
    simp only [Bool.false_eq_true, if_false, Result.andThen_ok, setCell_blk h]
    have h2 := setBlk_same (w := w) (o := .cells (cur.setIfInBounds (o + k) v) t (lo, hi)) h
    rw [run_storeCells_blk vs o (k + 1) _ _ h2 (by simpa using hf) (by simp; omega) (fun x hx => h1 x (by simp [hx])), setBlk_setBlk]
    congr 3
    simp only [setL, Array.toList_setIfInBounds]
    congr 1
    have ho' : o + k < cur.toList.length := by simpa using ho
    rw [show o + (k + 1) = (o + k) + 1 from rfl, List.take_succ_eq_append_getElem (by simpa using ho)]
    simp only [List.getElem_set_self, List.take_set_of_le (Nat.le_refl _), List.append_assoc, List.singleton_append, List.length_cons]
    rw [List.drop_set_of_lt (by omega)]
    congr 3
    omega

/-- A variable of a type of the table is stored into a block of known cells. -/
theorem run_storeVar_blk {P : Program} {w : World} {g : Nat} {cur : Array Value} {t ty : TypeId} {lo hi : Nat} {i : TyI} (hok : i.ok P ty) (h : w.heap[g]? = some (.cells cur t (lo, hi))) (hf : cur.size ≤ lo ∨ hi ≤ lo)
    (o : Nat) (cs : List C) (v : Value) (hv : v.cells = (cs.map C.enc).toArray) (hl : cs.length = i.size) (ho : o + cs.length ≤ cur.size) (h1 : oneAll cs) :
    (storeVar ty ⟨g, o, none⟩ v).run P w = .ok () (setBlk w g (.cells (setL o (cs.map C.enc) cur.toList).toArray t (lo, hi))) := by
  unfold storeVar
  simp only [Sem.run_bind, run_sizeOf hok, Result.andThen_ok, Sem.run_ite, hv]
  simp only [List.size_toArray, List.length_map, hl, ne_eq, not_true_eq_false, if_false, Sem.run_pure, Result.andThen_ok]
  have := run_storeCells_blk (P := P) (cs.map C.enc) o 0 cur w h hf (by simpa using ho) (by
    intro v hv
    obtain ⟨x, hx, rfl⟩ := List.mem_map.1 hv
    exact C.enc_oneCell x (h1 x hx))
  simpa using this

end Go.X
