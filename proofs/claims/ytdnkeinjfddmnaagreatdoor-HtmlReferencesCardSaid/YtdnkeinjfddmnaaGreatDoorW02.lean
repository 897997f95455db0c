/- This text proves that the executor's rules for append, make, slice literals, slices of strings and conversions between strings and bytes are sound. · This text gives the rules for maps with keys of several cells, and for ranges over maps. -/
import Derived.Test.YtdnkeinjfddmnaaGreatDoorW01
import Derived.Lib.AppendZerosOnto
import Derived.Maps.RangeRun
set_option linter.all false
namespace Go.X
open Go
variable [Sm : Inhabited Manner] [Df : Inhabited (List Deferred)]
def repC : Nat → List C → List C
  | 0, _ => []
  | n + 1, z => z ++ repC n z
theorem repC_length (n : Nat) (z : List C) : (repC n z).length = n * z.length := by
  induction n with
  | zero => simp [repC]
  | succ n ih => simp [repC, ih, Nat.add_mul, Nat.add_comm]
theorem repC_one {n : Nat} {z : List C} (h : oneAll z) : oneAll (repC n z) := by
  induction n with
  | zero => intro x hx; cases hx
  | succ n ih =>
    intro x hx
    simp only [repC, List.mem_append] at hx
    rcases hx with hx | hx
    · exact h x hx
    · exact ih x hx
theorem repC_get (z : List C) (hz : z ≠ []) : ∀ (n j : Nat), j < n * z.length → (repC n z)[j]? = z[j % z.length]?
  | 0, j, h => by simp at h
  | n + 1, j, h => by
    have hpos : 0 < z.length := by cases z with | nil => exact absurd rfl hz | cons _ _ => simp
    simp only [repC]
    by_cases hj : j < z.length
    · rw [List.getElem?_append_left hj, Nat.mod_eq_of_lt hj]
    · have hj' : z.length ≤ j := by omega
      rw [List.getElem?_append_right hj', repC_get z hz n (j - z.length) (by rw [Nat.add_mul] at h; omega)]
      congr 1
      rw [Nat.mod_eq_sub_mod hj']
theorem map_range_rep (z : List C) (n : Nat) (hz : z ≠ []) : (Array.range (n * z.length)).map ((z.map C.enc).toArray[· % (z.map C.enc).toArray.size]!) = ((repC n z).map C.enc).toArray := by
  have hpos : 0 < z.length := by cases z with | nil => exact absurd rfl hz | cons _ _ => simp
  apply Array.ext_getElem?
  intro j
  simp only [List.size_toArray, List.length_map, Array.getElem?_map, Array.getElem?_range, List.getElem?_toArray, List.getElem?_map]
  by_cases hj : j < n * z.length
  · have hm : j % z.length < z.length := Nat.mod_lt _ hpos
    rw [repC_get z hz n j hj]
    simp [hj, hm]
  · have : (repC n z)[j]? = none := List.getElem?_eq_none (by rw [repC_length]; omega)
    simp [hj, this]
theorem zeroCells_rep (z : List C) (n : Nat) (hz : z ≠ []) : (Builtin.zeroCells (z.map C.enc).toArray n).toList = (repC n z).map C.enc := by
  have := map_range_rep z n hz
  unfold Builtin.zeroCells
  rw [show (z.map C.enc).toArray.size = z.length by simp]
  rw [show (z.map C.enc).toArray.size = z.length by simp] at this
  rw [this]
theorem satW_rowSet {G : Ent} {w : World} {A B : List Chunk} {D : List Fact} {ety esz n c : Nat} {a : Option Addr} {cs : List C} (hs : SatW G w (A ++ .row ety esz a n c cs :: B) D) (o : Nat) (ns : List C) (h1 : oneAll ns) (hle : o + ns.length ≤ n * esz) (hpos : 0 < ns.length) :
    ∃ g cur lo hi, a = some ⟨g, 0, none⟩ ∧ w.heap[g]? = some (.cells cur ety (lo, hi)) ∧ (cur.size ≤ lo ∨ hi ≤ lo) ∧ o + ns.length ≤ cur.size ∧
      SatW G (setBlk w g (.cells (setL (0 + o) (ns.map C.enc) cur.toList).toArray ety (lo, hi))) (A ++ .row ety esz a n c (setC o ns cs) :: B) D := by
  have hs0 := hs
  obtain ⟨m, hh, _⟩ := hs
  have hrow := allOk_mem hh.ok (ch := .row ety esz a n c cs) (by simp)
  rcases hrow.2 with ⟨_, hn, _⟩ | ⟨g, ha, cur, lo, hi, hg, hnc, hcm, hsz, hfz, hcl, htk⟩
  · rw [hn, Nat.zero_mul] at hle; omega
  · subst ha
    have hncm : n * esz ≤ c * esz := Nat.mul_le_mul_right _ hnc
    refine ⟨g, cur, lo, hi, rfl, hg, hfz.imp_left And.left, by omega, satW_replace hs0 (g := g) (by simp [Chunk.fp]) rfl ⟨oneAll_setC h1 hrow.1, .inr ⟨g, rfl, ?_⟩⟩ (fun off => by rw [hg]; rfl)⟩
    refine ⟨_, lo, hi, setBlk_same hg, hnc, hcm, ?_, ?_, ?_, ?_⟩
    · simp only [List.size_toArray, setL, List.length_append, List.length_take, List.length_map, List.length_drop, Array.length_toList]; omega
    · simp only [List.size_toArray, setL, List.length_append, List.length_take, List.length_map, List.length_drop, Array.length_toList]; omega
    · rw [setC_length (by omega)]; exact hcl
    · rw [← setL_enc, ← htk]
      simp only [setL, List.length_map, Nat.zero_add]
      have hcur : cur.toList.length = c * esz := by simpa using hsz
      generalize cur.toList = l at *
      rw [List.append_assoc, List.take_append, List.take_append, List.append_assoc]
      have e1 : List.take (n * esz) (List.take o l) = List.take o (List.take (n * esz) l) := by
        rw [List.take_take, List.take_take, Nat.min_comm]
      have e2 : List.take (n * esz - (List.take o l).length) (ns.map C.enc) = ns.map C.enc := by
        apply List.take_of_length_le; simp; omega
      rw [e1, e2, List.drop_take]
      congr 3
      simp; omega
theorem satW_rowExt {G : Ent} {w : World} {A B : List Chunk} {D : List Fact} {ety esz n c : Nat} {a : Option Addr} {cs : List C} (hs : SatW G w (A ++ .row ety esz a n c cs :: B) D) (lo k : Nat) (ns : List C) (h1 : oneAll ns) (hl : ns.length = k * esz) (hlo : lo ≤ n) (hc : lo + k ≤ c) (hpos : 0 < ns.length) :
    ∃ g cur l hi, a = some ⟨g, 0, none⟩ ∧ w.heap[g]? = some (.cells cur ety (l, hi)) ∧ (cur.size ≤ l ∨ hi ≤ l) ∧ lo * esz + ns.length ≤ cur.size ∧
      SatW G (setBlk w g (.cells (setL (0 + lo * esz) (ns.map C.enc) cur.toList).toArray ety (l, hi))) (A ++ .row ety esz a (max n (lo + k)) c (setC (lo * esz) ns cs) :: B) D := by
  have hm : lo * esz + k * esz = (lo + k) * esz := by rw [Nat.add_mul]
  by_cases hin : lo + k ≤ n
  · rw [Nat.max_eq_left hin]
    exact satW_rowSet hs _ ns h1 (by rw [hl, hm]; exact Nat.mul_le_mul_right _ hin) hpos
  · rw [Nat.max_eq_right (by omega)]
    have hs0 := hs
    obtain ⟨m, hh, _⟩ := hs
    have hrow := allOk_mem hh.ok (ch := .row ety esz a n c cs) (by simp)
    rcases hrow.2 with ⟨_, hn, hc0, _⟩ | ⟨g, ha, cur, l, hi, hg, hnc, hcm, hsz, hfz, hcl, htk⟩
    · have h0 : k = 0 := by omega
      rw [hl, h0, Nat.zero_mul] at hpos; omega
    · subst ha
      have h2 : (lo + k) * esz ≤ c * esz := Nat.mul_le_mul_right _ hc
      have h3 : lo * esz ≤ n * esz := Nat.mul_le_mul_right _ hlo
      have h4 : n * esz ≤ (lo + k) * esz := Nat.mul_le_mul_right _ (by omega)
      refine ⟨g, cur, l, hi, rfl, hg, hfz.imp_left And.left, by omega, satW_replace hs0 (g := g) (by simp [Chunk.fp]) rfl ⟨oneAll_setC h1 hrow.1, .inr ⟨g, rfl, ?_⟩⟩ (fun off => by rw [hg]; rfl)⟩
      refine ⟨_, l, hi, setBlk_same hg, hc, hcm, ?_, ?_, ?_, ?_⟩
      · simp only [List.size_toArray, setL, List.length_append, List.length_take, List.length_map, List.length_drop, Array.length_toList]; omega
      · simp only [List.size_toArray, setL, List.length_append, List.length_take, List.length_map, List.length_drop, Array.length_toList]; omega
      · simp only [setC, List.length_append, List.length_take, List.length_drop]; omega
      · have hcur : cur.toList.length = c * esz := by simpa using hsz
        have e1 : cs.drop (lo * esz + ns.length) = [] := List.drop_eq_nil_of_le (by omega)
        have e2 : (cs.take (lo * esz)).map C.enc = cur.toList.take (lo * esz) := by rw [List.map_take, ← htk, List.take_take, Nat.min_eq_left h3]
        simp only [setL, setC, Nat.zero_add, e1, List.append_nil, List.map_append, e2]
        generalize cur.toList = q at *
        rw [List.take_left' (by simp; omega)]
theorem run_append_room' {P : Program} {w w' : World} {t xt ty e : TypeId} {i : TyI} (ht : P.underlying t = some (.slice e)) (hx : ∃ d, P.underlying xt = some d ∧ ∀ k, d ≠ .int k) (hok : i.ok P e)
    (base : Option Addr) (n c m : Nat) (y : Value) (news : Array Value) (hl : ∀ w, (Builtin.lenOf y).run P w = .ok m w) (hn : (Builtin.firstCells i.size m y).run P w = .ok news w) (hroom : n + m ≤ c)
    (hst : (match base with | some a => storeCells (a.add (n * i.size)) news.toList | none => pure ()).run P w = .ok () w') :
    (Builtin.append_ #[t, xt] ty #[.slice base n c, y]).run P w = .ok (.slice base (n + m) c) w' := by
  obtain ⟨d, hd, hd'⟩ := hx
  have hz : (d matches .int _) = false := by cases d <;> first | rfl | exact absurd rfl (hd' _)
  cases base with
  | none =>
    simp only [Sem.run_pure, Result.ok.injEq, true_and] at hst
    subst hst
    simp [Builtin.append_, run_underlying ht, run_underlying hd, run_sizeOf hok, hz, hl, hroom, hn]
  | some a =>
    simp only at hst
    simp [Builtin.append_, run_underlying ht, run_underlying hd, run_sizeOf hok, hz, hl, hroom, hn, hst]
theorem run_append_grow' {P : Program} {w : World} {t xt ty e : TypeId} {i : TyI} (ht : P.underlying t = some (.slice e)) (hx : ∃ d, P.underlying xt = some d ∧ ∀ k, d ≠ .int k) (hok : i.ok P e) (hb0 : i.bytes ≠ 0)
    (base : Option Addr) (n c m : Nat) (y : Value) (olds news : Array Value) (hl : ∀ w, (Builtin.lenOf y).run P w = .ok m w) (hn : ∀ w', w'.heap = w.heap → (Builtin.firstCells i.size m y).run P w' = .ok news w')
    (ho : ∀ w', w'.heap = w.heap → (Builtin.firstCells i.size n (.slice base n c)).run P w' = .ok olds w') (hroom : ¬ n + m ≤ c) (hb : (n + m) * i.bytes ≤ 140737488355328) :
    (Builtin.append_ #[t, xt] ty #[.slice base n c, y]).run P w = .ok (.slice (some ⟨w.heap.size, 0, none⟩) (n + m) (grownCap w (n + m) c e))
      (w.drew.alloc (.cells (olds ++ news ++ Builtin.zeroCells i.zero.enc.cells (grownCap w (n + m) c e - (n + m))) e)) := by
  obtain ⟨d, hd, hd'⟩ := hx
  obtain ⟨x, hxi, hx1, hx2, hx3⟩ := tyI_info hok
  have hz : (d matches .int _) = false := by cases d <;> first | rfl | exact absurd rfl (hd' _)
  have hfit := growslice_fits (need := n + m) (old := c) (bytes := i.bytes) (by omega) hb
  have hfit' : ¬ Builtin.nextslicecap (n + m) c * i.bytes > 2 ^ 48 := by omega
  have hfit2 : ¬ (281474976710656 < Builtin.nextslicecap (n + m) c * i.bytes) := by omega
  have hn' := hn { w with drawn := w.drawn + 1 } rfl
  have ho' := ho { w with drawn := w.drawn + 1 } rfl
  simp only [Builtin.append_, Sem.run_bind, run_underlying ht, run_underlying hd, run_sizeOf hok, hz, hl, Result.andThen_ok, Sem.run_pure, List.getElem?_toArray, List.getElem?_cons_zero, List.getElem?_cons_succ, Sem.run_ite, hroom, if_false, Bool.false_eq_true,
    Sem.run_map, typeInfo, run_program, hxi, hx2, hb0, or_self, and_false, hfit', run_choose, Question.forced, run_askRoom, ho', hn', Bool.not_false, if_true, run_zeroValue hok, newRow, run_newObj, hx1]
  rfl
theorem run_append_zeros' {P : Program} {w : World} {t xt ty e : TypeId} {i : TyI} {kn kq : IntKind} (ht : P.underlying t = some (.slice e)) (hx : P.underlying xt = some (.int kn)) (hok : i.ok P e) (hs0 : i.size ≠ 0) (hb0 : i.bytes ≠ 0)
    (base : Option Addr) (n c q : Nat) (olds : List Value) (ho : (Builtin.firstCells i.size n (.slice base n c)).run P w.drew = .ok olds.toArray w.drew) (hq : 0 < q) (hroom : ¬ n + q ≤ c) (hb : (n + q) * i.bytes ≤ 140737488355328) :
    (Builtin.append_ #[t, xt] ty #[.slice base n c, .int kq q]).run P w = .ok (.slice (some ⟨w.heap.size, 0, none⟩) (n + q) (grownCap w (n + q) c e))
      (w.drew.alloc (.cells (olds.toArray ++ Builtin.zeroCells i.zero.enc.cells q ++ Builtin.zeroCells i.zero.enc.cells (grownCap w (n + q) c e - (n + q))) e)) := by
  obtain ⟨x, hxi, hx1, hx2, hx3⟩ := tyI_info hok
  have hfit := growslice_fits (need := n + q) (old := c) (bytes := i.bytes) (by omega) hb
  have h1 : (n + q) * 1 ≤ (n + q) * i.bytes := Nat.mul_le_mul_left _ (by omega)
  have h2 : q * i.bytes ≤ (n + q) * i.bytes := Nat.mul_le_mul_right _ (by omega)
  exact Lib.run_append_grow_zeros w t xt ty e x _ kq kn ht hx hxi hx3 base n c olds (by rw [hx1]; exact ho) q hq (by omega) (by omega) (by omega) (by rw [hx2]; omega) (by rw [hx2]; omega)
inductive SrcE (P : Program) (T : Ty) (L : List Chunk) (D : List Fact) (xt esz : Nat) : V → List C → Nat → Prop where
  | sl (ety : Nat) (e : Nat) (i : TyI) (a : Option Addr) (n c : Nat) (cs : List C) (ht : find T xt = some i) (hd : i.d = .sl e) (h : Reads L D ety esz a n cs) (hl : cs.length = n * esz) : SrcE P T L D xt esz (.c (.sl a n c)) cs n
  | str (i : TyI) (l : List UInt8) (ht : find T xt = some i) (hd : i.d = .str) (h1 : esz = 1) : SrcE P T L D xt esz (.c (.s l)) (l.map fun b => .i .u8 b.toNat) l.length
theorem firstCells_reads {P : Program} {G : Ent} {w w' : World} {L : List Chunk} {D : List Fact} {ety esz : Nat} {a : Option Addr} {n c : Nat} {cs : List C} (h : Reads L D ety esz a n cs) (hs : SatW G w L D) (hh : w'.heap = w.heap) :
    (Builtin.firstCells esz n (.slice a n c)).run P w' = .ok (cs.map C.enc).toArray w' := by
  rcases (reads_at h hs).2 with ⟨hn, hc⟩ | ⟨g, off, cur, ty, lo, hi, ha, hg, hl, hc⟩
  · subst hn; subst hc
    cases a <;> simp [Builtin.firstCells, loadCells, loadCellsFrom]
  · subst ha
    simp only [Builtin.firstCells]
    rw [← hl]
    have := run_loadCells_blk (P := P) (w := w') (g := g) (cur := cur) (t := ty) (fr := (lo, hi)) (by rw [hh]; exact hg) off (cs.map C.enc) (by rw [List.length_map, hl]; exact hc)
    simpa using this
theorem srcE_run {P : Program} {T : Ty} (hT : TyOK P T) {G : Ent} {w : World} {L : List Chunk} {D : List Fact} {xt esz : Nat} {y : V} {cs : List C} {m : Nat} (h : SrcE P T L D xt esz y cs m) (hs : SatW G w L D) :
    oneAll cs ∧ cs.length = m * esz ∧ (∃ d, P.underlying xt = some d ∧ ∀ k, d ≠ .int k) ∧ (∀ w', (Builtin.lenOf y.enc).run P w' = .ok m w') ∧ ∀ w', w'.heap = w.heap → (Builtin.firstCells esz m y.enc).run P w' = .ok (cs.map C.enc).toArray w' := by
  cases h with
  | sl ety e i a n c cs ht hd hr hl =>
    have hd' := (hT _ _ ht).2.2.2
    rw [hd] at hd'
    exact ⟨(reads_at hr hs).1, hl, ⟨_, hd', by simp⟩, fun _ => rfl, fun w' hw => firstCells_reads hr hs hw⟩
  | str i l ht hd h1 =>
    have hd' := (hT _ _ ht).2.2.2
    rw [hd] at hd'
    subst h1
    refine ⟨?_, by simp, ⟨_, hd', by simp⟩, fun _ => rfl, fun w' _ => ?_⟩
    · intro x hx
      obtain ⟨b, _, rfl⟩ := List.mem_map.1 hx
      rfl
    · simp only [Builtin.firstCells, V.enc, C.enc, Sem.run_pure]
      congr 1
      have : (⟨⟨l⟩⟩ : ByteArray).extract 0 l.length = ⟨⟨l⟩⟩ := by
        apply ByteArray.ext
        rw [ByteArray.data_extract]
        simp
      rw [this]
      simp [Function.comp_def, C.enc]
def isInt : Option TyI → Bool
  | some i => match i.d with | .int _ => true | _ => false
  | none => false
theorem isInt_ok {P : Program} {T : Ty} (hT : TyOK P T) {e : Nat} (h : isInt (find T e) = true) : ∃ k, P.underlying e = some (.int k) := by
  unfold isInt at h
  split at h
  · rename_i i hi
    have h1 := (hT _ _ hi).2.2.2
    split at h
    · rename_i k hd
      rw [hd] at h1
      exact ⟨k, h1⟩
    · cases h
  · cases h
inductive AppE (P : Program) (T : Ty) (L : List Chunk) (D : List Fact) (e : Nat) (i : TyI) (z : List C) (xt : Nat) (a : Option Addr) (n c : Nat) (y : V) (K : Option Addr → Nat → Nat → List Chunk → Prop) : Prop where
  | row (A B : List Chunk) (cs cs2 : List C) (m : Nat) (h : L = A ++ .row e i.size a n c cs :: B) (hs : SrcE P T L D xt i.size y cs2 m) (hb : (n + m) * i.bytes ≤ 140737488355328) (k : ∀ a' c', K a' (n + m) c' (A ++ .row e i.size a' (n + m) c' (cs ++ cs2) :: B))
  | nil (cs2 : List C) (m : Nat) (ha : a = none) (hn : n = 0) (hc : c = 0) (hs : SrcE P T L D xt i.size y cs2 m) (hb : m * i.bytes ≤ 140737488355328) (k : ∀ a' c', K a' m c' (.row e i.size a' m c' cs2 :: L))
  | pre (A B : List Chunk) (N : Nat) (b : Option Addr) (cs cs2 cs' : List C) (m : Nat) (h : L = A ++ .row e i.size b N c cs :: B) (ha : a = b) (hs : SrcE P T L D xt i.size y cs2 m) (hn : n + m ≤ N) (he : setC (n * i.size) cs2 cs = cs') (k : K b (n + m) c (A ++ .row e i.size b N c cs' :: B))
  | zero (cs : List C) (kq : IntKind) (q : Nat) (hy : y = .c (.i kq q)) (hx : isInt (find T xt) = true) (hq : 0 < q) (hroom : ¬ n + q ≤ c) (hb : (n + q) * i.bytes ≤ 140737488355328) (hr : Reads L D e i.size a n cs) (hl : cs.length = n * i.size) (k : ∀ a' c', K a' (n + q) c' (.row e i.size a' (n + q) c' (cs ++ repC q z) :: L))
def vcAppend (P : Program) (T : Ty) (t xt : Nat) (x y : V) (L : List Chunk) (D : List Fact) (nid : Nat) (k : KV) : Prop :=
  match find T t, x with
  | some ti, .c (.sl a n c) =>
    match ti.d with
    | .sl e =>
      match find T e with
      | some i => nzK i.size (nzK i.bytes (cellsK i.zero fun z => oneK z (natK z.length i.size (AppE P T L D e i z xt a n c y fun a' n' c' L' => k (.c (.sl a' n' c')) L' D nid))))
      | none => False
    | _ => False
  | _, _ => False
theorem zeroCells_size (z : Array Value) (n : Nat) : (Builtin.zeroCells z n).size = n * z.size := size_zeroCells z n
theorem kept_drew (w : World) : Kept w w.drew := ⟨rfl, rfl, Nat.le_refl _, fun _ => rfl, fun _ => Nat.le_add_right _ _⟩
theorem satW_drew {G : Ent} {w : World} {L : List Chunk} {D : List Fact} (h : SatW G w L D) : SatW G w.drew L D := by
  obtain ⟨m, h1, h2⟩ := h
  exact ⟨m, ⟨h1.nd, allOk_of_same h1.ok fun _ _ => rfl, fun b o hb => h1.im b o hb, h1.d⟩, ⟨h2.size, fun b hb hn => h2.same b hb hn, h2.own, h2.im, h2.new, h2.kept.trans (kept_drew w)⟩⟩
theorem satW_move {G : Ent} {w : World} {A B : List Chunk} {ch ch' : Chunk} {D : List Fact} {o : Obj} (h : SatW G w (A ++ ch :: B) D) (hf : ch'.fp = [w.heap.size]) (hok : ch'.ok (w.alloc o)) :
    SatW G (w.alloc o) (A ++ ch' :: B) D := by
  obtain ⟨m, h1, h2⟩ := h
  have hlt := mem_fps_lt h1.ok
  have hold : ∀ b, b < w.heap.size → (w.alloc o).heap[b]? = w.heap[b]? := fun b hb => heap_alloc_old w o hb
  have hnd := h1.nd
  simp only [fps_append, fps] at hnd hlt
  have hok1 := (allOk_append _ _).1 h1.ok
  have hndA := (List.nodup_append.1 hnd).1
  have hndB := (List.nodup_append.1 (List.nodup_append.1 hnd).2.1).2.1
  have hAB : ∀ a ∈ fps A, ∀ b ∈ fps B, a ≠ b := fun a ha b hb => (List.nodup_append.1 hnd).2.2 a ha b (by simp [hb])
  refine ⟨m, ⟨?_, (allOk_append _ _).2 ⟨allOk_of_same hok1.1 fun b hb => hold b (hlt b (by simp [hb])), hok, allOk_of_same hok1.2.2 fun b hb => hold b (hlt b (by simp [hb]))⟩, ?_, h1.d⟩, ?_⟩
  · simp only [fps_append, fps, hf]
    refine List.nodup_append.2 ⟨hndA, ?_, ?_⟩
    · simp only [List.cons_append, List.nil_append, List.nodup_cons]
      exact ⟨fun hc => Nat.lt_irrefl _ (hlt _ (by simp [hc])), hndB⟩
    · intro a ha b hb
      simp only [List.cons_append, List.nil_append, List.mem_cons] at hb
      rcases hb with rfl | hb
      · exact Nat.ne_of_lt (hlt a (by simp [ha]))
      · exact hAB a ha b hb
  · intro b ob hb
    have h3 := h1.im b ob hb
    have hlt' : b < w.heap.size := (Array.getElem?_eq_some_iff.1 h3.1).1
    refine ⟨by rw [hold b hlt']; exact h3.1, ?_⟩
    simp only [fps_append, fps, hf, List.mem_append, List.mem_cons, not_or] at h3 ⊢
    exact ⟨h3.2.1, ⟨Nat.ne_of_lt hlt', by simp⟩, h3.2.2.2⟩
  · refine h2.trans ⟨by simp, fun b hb _ => hold b hb, fun b hb => ?_, fun _ _ h => h, fun _ _ h => .inl h, kept_alloc⟩
    simp only [fps_append, fps, hf, List.mem_append, List.mem_cons] at hb ⊢
    rcases hb with hb | (rfl | hb) | hb
    · exact .inl (.inl hb)
    · exact .inr (Nat.le_refl _)
    · simp at hb
    · exact .inl (.inr (.inr hb))
theorem rowIn_grown {w : World} {e sz bytes n m c : Nat} {z : Array Value} {cs cs2 : List C} (hz : z.size = sz) (hcs : cs.length = n * sz) (hcs2 : cs2.length = m * sz) (hn : n + m ≤ 9223372036854775807) :
    RowIn (some (Obj.cells ((cs.map C.enc).toArray ++ (cs2.map C.enc).toArray ++ Builtin.zeroCells z (grownCap w (n + m) c e - (n + m))) e)) e sz (n + m) (grownCap w (n + m) c e) (cs ++ cs2) := by
  have h1 := grownCap_ge w (n + m) c e
  have h2 := grownCap_le_maxLen w (n + m) c e (by simpa [maxLen] using hn)
  refine ⟨_, 0, 0, rfl, h1, h2, ?_, .inr (Nat.le_refl _), ?_, ?_⟩
  · simp only [Array.size_append, List.size_toArray, List.length_map, hcs, hcs2, zeroCells_size, hz, ← Nat.add_mul]
    congr 1
    omega
  · simp [hcs, hcs2, Nat.add_mul]
  · simp only [Array.toList_append]
    rw [← List.map_append]
    apply List.take_left'
    simp [hcs, hcs2, Nat.add_mul]
theorem vcAppend_sound {P : Program} {T : Ty} (hT : TyOK P T) {G : Ent} {w : World} {t xt ty : Nat} {x y : V} {L : List Chunk} {D : List Fact} {nid : Nat} {k : KV} (h : vcAppend P T t xt x y L D nid k) (hs : SatW G w L D) :
    ∃ v L' w', k v L' D nid ∧ (Builtin.append_ #[t, xt] ty #[x.enc, y.enc]).run P w = .ok v.enc w' ∧ SatW G w' L' D := by
  unfold vcAppend at h
  split at h
  · rename_i ti a n c hti
    split at h
    · rename_i e hd
      have hd' := (hT _ _ hti).2.2.2
      rw [hd] at hd'
      simp only [TyD.ok] at hd'
      split at h
      · rename_i i hi
        have hok := hT _ _ hi
        obtain ⟨hsz, hA⟩ := nzK_sound h
        clear h
        obtain ⟨hbz, hB⟩ := nzK_sound hA
        clear hA
        obtain ⟨z, hA, hzv⟩ := cellsK_sound hB
        clear hB
        obtain ⟨hz1, hB⟩ := oneK_sound hA
        clear hA
        obtain ⟨hzl, h⟩ := natK_sound hB
        clear hB
        have hzs : i.zero.enc.cells.size = i.size := by rw [hzv hz1]; simp [hzl]
        have hle : ∀ q, q * i.bytes ≤ 140737488355328 → q ≤ 9223372036854775807 := fun q hq => by
          have : q * 1 ≤ q * i.bytes := Nat.mul_le_mul_left _ (by omega)
          omega
        cases h with
        | row A B cs cs2 m hL hsrc hb hk =>
          obtain ⟨hone2, hl2, hx, hlen, hfc⟩ := srcE_run hT hsrc hs
          subst hL
          have hs0 := hs
          obtain ⟨mm, hh, _⟩ := hs
          have hrow := allOk_mem hh.ok (ch := .row e i.size a n c cs) (by simp)
          have hone : oneAll (cs ++ cs2) := by
            intro q hq
            rcases List.mem_append.1 hq with hq | hq
            · exact hrow.1 q hq
            · exact hone2 q hq
          rcases hrow.2 with ⟨ha, hn0, hc0, hcs0⟩ | ⟨g, ha, cur, lo, hi', hg, hnc, hcm, hszc, hfz, hcl, htk⟩
          · subst ha; subst hn0; subst hc0; subst hcs0
            by_cases hm0 : m = 0
            · subst hm0
              have hcs2 : cs2 = [] := List.eq_nil_of_length_eq_zero (by simpa using hl2)
              subst hcs2
              refine ⟨_, _, w, hk none 0, ?_, ?_⟩
              · exact run_append_room' hd' hx hok none 0 0 0 y.enc _ hlen (hfc w rfl) (by simp) rfl
              · simpa using hs0
            · refine ⟨_, _, (w.drew.alloc (.cells (#[] ++ (cs2.map C.enc).toArray ++ Builtin.zeroCells i.zero.enc.cells (grownCap w (0 + m) 0 e - (0 + m))) e)), hk (some ⟨w.heap.size, 0, none⟩) (grownCap w (0 + m) 0 e), ?_, ?_⟩
              · exact run_append_grow' hd' hx hok hbz none 0 0 m y.enc #[] _ hlen hfc (fun w' _ => by simp [Builtin.firstCells]) (by omega) hb
              · have := rowIn_grown (w := w) (e := e) (bytes := i.bytes) (c := 0) (n := 0) (cs := []) hzs (by simp) hl2 (hle _ hb)
                simp only [List.map_nil, List.nil_append] at this ⊢
                exact satW_move (w := w.drew) (satW_drew hs0) rfl ⟨hone2, .inr ⟨w.heap.size, rfl, by rw [show w.heap.size = w.drew.heap.size from rfl, heap_alloc_new w.drew]; exact this⟩⟩
          · subst ha
            by_cases hroom : n + m ≤ c
            · refine ⟨_, _, setBlk w g (.cells (setL (0 + n * i.size + 0) (cs2.map C.enc) cur.toList).toArray e (lo, hi')), hk (some ⟨g, 0, none⟩) c, ?_, ?_⟩
              · refine run_append_room' hd' hx hok _ n c m y.enc _ hlen (hfc w rfl) hroom ?_
                simp only [addr_add]
                have hfit : n * i.size + m * i.size ≤ c * i.size := by rw [← Nat.add_mul]; exact Nat.mul_le_mul_right _ hroom
                exact run_storeCells_blk (cs2.map C.enc) _ 0 cur w hg (hfz.imp_left And.left) (by simp [hl2]; omega) (by
                  intro v hv
                  obtain ⟨q, hq, rfl⟩ := List.mem_map.1 hv
                  exact C.enc_oneCell q (hone2 q hq))
              · have hfit : n * i.size + m * i.size ≤ c * i.size := by rw [← Nat.add_mul]; exact Nat.mul_le_mul_right _ hroom
                refine satW_replace hs0 (g := g) (by simp [Chunk.fp]) rfl ⟨hone, .inr ⟨g, rfl, ?_⟩⟩ (fun off => by rw [hg]; rfl)
                refine ⟨_, lo, hi', setBlk_same hg, hroom, hcm, ?_, ?_, ?_, ?_⟩
                · simp only [List.size_toArray, setL, List.length_append, List.length_take, List.length_map, List.length_drop, Array.length_toList]; omega
                · simp only [List.size_toArray, setL, List.length_append, List.length_take, List.length_map, List.length_drop, Array.length_toList]; omega
                · simp [hcl, hl2, Nat.add_mul]
                · simp only [Nat.zero_add, Nat.add_zero, setL, htk, List.map_append]
                  apply List.take_left'
                  simp [hcl, hl2, Nat.add_mul]
            · refine ⟨_, _, (w.drew.alloc (.cells ((cs.map C.enc).toArray ++ (cs2.map C.enc).toArray ++ Builtin.zeroCells i.zero.enc.cells (grownCap w (n + m) c e - (n + m))) e)), hk (some ⟨w.heap.size, 0, none⟩) (grownCap w (n + m) c e), ?_, ?_⟩
              · refine run_append_grow' hd' hx hok hbz _ n c m y.enc (cs.map C.enc).toArray _ hlen hfc (fun w' hw => ?_) hroom hb
                have hr : Reads (A ++ .row e i.size (some ⟨g, 0, none⟩) n c cs :: B) D e i.size (some ⟨g, 0, none⟩) n cs := .inl ⟨c, by simp⟩
                exact firstCells_reads hr hs0 hw
              · have := rowIn_grown (w := w) (e := e) (bytes := i.bytes) (c := c) (n := n) (cs := cs) hzs hcl hl2 (hle _ hb)
                exact satW_move (w := w.drew) (satW_drew hs0) rfl ⟨hone, .inr ⟨w.heap.size, rfl, by rw [show w.heap.size = w.drew.heap.size from rfl, heap_alloc_new w.drew]; exact this⟩⟩
        | nil cs2 m ha hn hc hsrc hb hk =>
          obtain ⟨hone2, hl2, hx, hlen, hfc⟩ := srcE_run hT hsrc hs
          subst ha; subst hn; subst hc
          by_cases hm0 : m = 0
          · subst hm0
            have hcs2 : cs2 = [] := List.eq_nil_of_length_eq_zero (by simpa using hl2)
            subst hcs2
            refine ⟨_, _, w, hk none 0, ?_, ?_⟩
            · exact run_append_room' hd' hx hok none 0 0 0 y.enc _ hlen (hfc w rfl) (by simp) rfl
            · obtain ⟨mm, h1, h2⟩ := hs
              exact ⟨mm, ⟨by simpa [fps, Chunk.fp] using h1.nd, ⟨⟨hone2, .inl ⟨rfl, rfl, rfl, rfl⟩⟩, h1.ok⟩, fun b o hb => by simpa [fps, Chunk.fp] using h1.im b o hb, h1.d⟩,
                ⟨h2.size, h2.same, fun b hb => h2.own b (by simpa [fps, Chunk.fp] using hb), h2.im, h2.new, h2.kept⟩⟩
          · have hb' : (0 + m) * i.bytes ≤ 140737488355328 := by simpa using hb
            refine ⟨_, _, (w.drew.alloc (.cells (#[] ++ (cs2.map C.enc).toArray ++ Builtin.zeroCells i.zero.enc.cells (grownCap w (0 + m) 0 e - (0 + m))) e)), hk (some ⟨w.heap.size, 0, none⟩) (grownCap w (0 + m) 0 e), ?_, ?_⟩
            · have := run_append_grow' (w := w) (ty := ty) hd' hx hok hbz none 0 0 m y.enc #[] _ hlen hfc (fun w' _ => by simp [Builtin.firstCells]) (by omega) hb'
              simp only [Nat.zero_add] at this ⊢
              exact this
            · have := rowIn_grown (w := w) (e := e) (bytes := i.bytes) (c := 0) (n := 0) (cs := []) hzs (by simp) hl2 (hle _ hb')
              simp only [List.map_nil, List.nil_append, Nat.zero_add] at this ⊢
              refine satW_alloc (satW_drew hs) _ _ rfl ⟨hone2, .inr ⟨w.heap.size, rfl, ?_⟩⟩
              rw [show w.heap.size = w.drew.heap.size from rfl, heap_alloc_new w.drew]
              simpa using this
        | pre A B N b cs cs2 cs' m hL ha hsrc hn he hk =>
          obtain ⟨hone2, hl2, hx, hlen, hfc⟩ := srcE_run hT hsrc hs
          subst hL; subst he; subst ha
          have hs0 := hs
          obtain ⟨mm, hh, _⟩ := hs
          have hrow := allOk_mem hh.ok (ch := .row e i.size a N c cs) (by simp)
          have hNc : N ≤ c := by
            rcases hrow.2 with ⟨_, h1, h2, _⟩ | ⟨g, _, cur, lo, hi', _, h1, _⟩
            · omega
            · exact h1
          by_cases hm0 : m = 0
          · subst hm0
            have hcs2 : cs2 = [] := List.eq_nil_of_length_eq_zero (by simpa using hl2)
            subst hcs2
            refine ⟨_, _, w, hk, ?_, by simpa [setC] using hs0⟩
            exact run_append_room' hd' hx hok a n c 0 y.enc _ hlen (hfc w rfl) (by omega) (by cases a <;> simp [storeCells])
          · have hpos : 0 < cs2.length := by rw [hl2]; exact Nat.mul_pos (by omega) (by omega)
            obtain ⟨g, cur, l, h', ha, hg, hfz, hle, hs'⟩ := satW_rowSet hs0 (n * i.size) cs2 hone2 (by rw [hl2, ← Nat.add_mul]; exact Nat.mul_le_mul_right _ hn) hpos
            subst ha
            refine ⟨_, _, _, hk, ?_, hs'⟩
            refine run_append_room' hd' hx hok _ n c m y.enc _ hlen (hfc w rfl) (by omega) ?_
            simp only [addr_add]
            have := run_storeCells_blk (P := P) (cs2.map C.enc) (0 + n * i.size) 0 cur w hg hfz (by simp; omega) (by
              intro v hv
              obtain ⟨q, hq, rfl⟩ := List.mem_map.1 hv
              exact C.enc_oneCell q (hone2 q hq))
            simpa using this
        | zero cs kq q hy hx hq hroom hb hr hl hk =>
          subst hy
          obtain ⟨kn, hx⟩ := isInt_ok hT hx
          have hone := (reads_at hr hs).1
          have hzne : z ≠ [] := by intro hc; subst hc; simp at hzl; exact hsz hzl.symm
          have hzr : Builtin.zeroCells i.zero.enc.cells q = ((repC q z).map C.enc).toArray := by
            rw [hzv hz1, ← zeroCells_rep z q hzne, Array.toArray_toList]
          have hrl : (repC q z).length = q * i.size := by rw [repC_length, hzl]
          refine ⟨_, _, (w.drew.alloc (.cells ((cs.map C.enc).toArray ++ Builtin.zeroCells i.zero.enc.cells q ++ Builtin.zeroCells i.zero.enc.cells (grownCap w (n + q) c e - (n + q))) e)), hk (some ⟨w.heap.size, 0, none⟩) (grownCap w (n + q) c e), ?_, ?_⟩
          · exact run_append_zeros' hd' hx hok hsz hbz a n c q (cs.map C.enc) (firstCells_reads hr hs rfl) hq hroom hb
          · have := rowIn_grown (w := w) (e := e) (bytes := i.bytes) (c := c) (n := n) (cs := cs) hzs hl hrl (hle _ hb)
            rw [hzr]
            refine satW_alloc (satW_drew hs) _ _ rfl ⟨?_, .inr ⟨w.heap.size, rfl, ?_⟩⟩
            · intro x hx'
              rcases List.mem_append.1 hx' with h' | h'
              · exact hone x h'
              · exact repC_one hz1 x h'
            · rw [show w.heap.size = w.drew.heap.size from rfl, heap_alloc_new w.drew]
              exact this
      · exact h.elim
    · exact h.elim
  · exact h.elim
def vcBuildSlice (T : Ty) (t len : Nat) (l : List (Nat × V)) (L : List Chunk) (D : List Fact) (nid : Nat) (k : KV) : Prop :=
  match find T t with
  | none => False
  | some ti =>
    match ti.d with
    | .sl e =>
      match find T e with
      | some i => match len, l with
        | 0, [] => NewP fun ad => k (.c (.sl (some ⟨ad, 0, none⟩) 0 0)) (.row e i.size (some ⟨ad, 0, none⟩) 0 0 [] :: L) D nid
        | _, _ => nzK i.size (nzK len (cellsK i.zero fun z => oneK z (natK z.length i.size (SideP (len * i.size ≤ 16777216) (fillK (fun j => some (j * i.size, i.size)) l (repC len z) fun cs =>
          NewP fun ad => k (.c (.sl (some ⟨ad, 0, none⟩) len len)) (.row e i.size (some ⟨ad, 0, none⟩) len len cs :: L) D nid)))))
      | none => False
    | _ => False
theorem vcBuildSlice_sound {P : Program} {T : Ty} (hT : TyOK P T) {G : Ent} {w : World} {t len : Nat} {l : List (Nat × V)} {L : List Chunk} {D : List Fact} {nid : Nat} {k : KV} (h : vcBuildSlice T t len l L D nid k) (hs : SatW G w L D) :
    ∃ v L' w', k v L' D nid ∧ (Instr.buildSlice t len (l.map fun (i, v) => (i, v.enc)).toArray).run P w = .ok v.enc w' ∧ SatW G w' L' D := by
  unfold vcBuildSlice at h
  split at h
  · exact h.elim
  · rename_i ti hti
    split at h
    · rename_i e hd
      have hd' := (hT _ _ hti).2.2.2
      rw [hd] at hd'
      simp only [TyD.ok] at hd'
      split at h
      · rename_i i hi
        have hok := hT _ _ hi
        split at h
        · obtain ⟨x, hx, hx1, hx2, hx3⟩ := tyI_info hok
          refine ⟨_, _, w.alloc (.cells #[] e), h.k w.heap.size, ?_, satW_alloc hs _ _ rfl ⟨(fun y hy => (by cases hy)), .inr ⟨w.heap.size, rfl, ?_⟩⟩⟩
          · simp [Instr.buildSlice, run_underlying hd', sizeOf, typeInfo, hx, Instr.fill, newRow, V.enc, C.enc]; rw [show Array.range 0 = #[] from rfl, Array.map_empty]
          · rw [heap_alloc_new]
            exact ⟨_, 0, 0, rfl, Nat.le_refl _, Nat.zero_le _, by simp, .inr (Nat.le_refl _), by simp, by simp⟩
        · obtain ⟨hsz, hA⟩ := nzK_sound h
          clear h
          obtain ⟨hlen0, hB⟩ := nzK_sound hA
          clear hA
          obtain ⟨z, hA, hzv⟩ := cellsK_sound hB
          clear hB
          obtain ⟨hz1, hB⟩ := oneK_sound hA
          clear hA
          obtain ⟨hzl, hA⟩ := natK_sound hB
          clear hB
          have hsm := hA.h
          obtain ⟨cs, hk, hc1, hcl, hfill⟩ := fillK_sound hA.k (repC_one hz1)
          obtain ⟨x, hx, hx1, hx2, hx3⟩ := tyI_info hok
          have hzne : z ≠ [] := by intro hc; subst hc; simp at hzl; exact hsz hzl.symm
          rw [repC_length] at hcl
          refine ⟨_, _, w.alloc (.cells (cs.map C.enc).toArray e), hk.k w.heap.size, ?_, satW_alloc hs _ _ rfl ⟨hc1, .inr ⟨w.heap.size, rfl, ?_⟩⟩⟩
          · refine run_buildSlice w t e len _ _ x i.zero.enc hd' hx hx3 (by rw [hx1]; omega) (by rw [hx1]; exact Nat.mul_ne_zero hlen0 hsz) ?_
            have := map_range_rep z len hzne
            rw [hx1, hzv hz1]
            rw [← hzl] at hfill ⊢
            rw [this]
            simpa using hfill
          · rw [heap_alloc_new]
            have hlen' : len * i.size = cs.length := by rw [hcl, hzl]
            have : len ≤ len * i.size := Nat.le_mul_of_pos_right _ (by omega)
            exact ⟨_, 0, 0, rfl, Nat.le_refl _, by simp only [maxLen]; omega, by simp [hlen'], .inr (Nat.le_refl _), hlen'.symm, by rw [hlen']; exact List.take_of_length_le (by simp)⟩
      · exact h.elim
    · exact h.elim
def vcMakeSlice (T : Ty) (t : Nat) (ln cp : V) (L : List Chunk) (D : List Fact) (nid : Nat) (k : KV) : Prop :=
  match find T t, ln, cp with
  | some ti, .c (.i _ n), .c (.i _ c) =>
    match ti.d with
    | .sl e =>
      match find T e with
      | some i => nzK i.size (cellsK i.zero fun z => oneK z (natK z.length i.size (SideP (0 ≤ n ∧ n ≤ c ∧ (i.bytes : Int) * c ≤ 281474976710656 ∧ c ≤ 9223372036854775807) (
          NewP fun ad => k (.c (.sl (some ⟨ad, 0, none⟩) n.toNat c.toNat)) (.row e i.size (some ⟨ad, 0, none⟩) n.toNat c.toNat (repC n.toNat z) :: L) D nid))))
      | none => False
    | _ => False
  | _, _, _ => False
theorem repC_take (z : List C) : ∀ (n c : Nat), n ≤ c → (repC c z).take (n * z.length) = repC n z
  | 0, c, _ => by simp [repC]
  | n + 1, 0, h => by omega
  | n + 1, c + 1, h => by
    simp only [repC]
    rw [List.take_append]
    have e1 : (n + 1) * z.length - z.length = n * z.length := by rw [Nat.add_mul]; omega
    rw [e1, repC_take z n c (by omega), List.take_of_length_le (by rw [Nat.add_mul]; omega)]
theorem vcMakeSlice_sound {P : Program} {T : Ty} (hT : TyOK P T) {G : Ent} {w : World} {t : Nat} {ln cp : V} {L : List Chunk} {D : List Fact} {nid : Nat} {k : KV} (h : vcMakeSlice T t ln cp L D nid k) (hs : SatW G w L D) :
    ∃ v L' w', k v L' D nid ∧ (Instr.makeSlice t ln.enc cp.enc).run P w = .ok v.enc w' ∧ SatW G w' L' D := by
  unfold vcMakeSlice at h
  split at h
  · rename_i ti kl n kc c hti
    split at h
    · rename_i e hd
      have hd' := (hT _ _ hti).2.2.2
      rw [hd] at hd'
      simp only [TyD.ok] at hd'
      split at h
      · rename_i i hi
        have hok := hT _ _ hi
        obtain ⟨hsz, hA⟩ := nzK_sound h
        clear h
        obtain ⟨z, hB, hzv⟩ := cellsK_sound hA
        clear hA
        obtain ⟨hz1, hA⟩ := oneK_sound hB
        clear hB
        obtain ⟨hzl, hB⟩ := natK_sound hA
        clear hA
        obtain ⟨h0, hnc, hb, h63⟩ := hB.h
        obtain ⟨x, hx, hx1, hx2, hx3⟩ := tyI_info hok
        have hzne : z ≠ [] := by intro hc; subst hc; simp at hzl; exact hsz hzl.symm
        have hcells : madeCells i.zero.enc.cells (c.toNat * x.size) = ((repC c.toNat z).map C.enc).toArray := by
          have := map_range_rep z c.toNat hzne
          rw [hx1, hzv hz1, ← hzl]
          simpa [madeCells] using this
        refine ⟨_, _, w.alloc (.cells ((repC c.toNat z).map C.enc).toArray e), hB.k.k w.heap.size, ?_, satW_alloc hs _ _ rfl ⟨repC_one hz1, .inr ⟨w.heap.size, rfl, ?_⟩⟩⟩
        · have := run_make (P := P) w t e x i.zero.enc hd' hx hx3 kl kc n c h0 hnc (by rw [hx2]; exact hb) h63
          rw [hcells] at this
          exact this
        · rw [heap_alloc_new]
          refine ⟨_, 0, 0, rfl, by omega, by simp only [maxLen]; omega, ?_, .inr (Nat.le_refl _), ?_, ?_⟩
          · simp [repC_length, hzl]
          · rw [repC_length, hzl]
          · simp only [← List.map_take]
            rw [← hzl, repC_take z _ _ (by omega)]
      · exact h.elim
    · exact h.elim
  · exact h.elim
def vcSliceStr (l : List UInt8) (lo hi : Option V) (k : V → Prop) : Prop :=
  match lo, hi with
  | none, none => k (.c (.s l))
  | some (.c (.i _ a)), none => SideP (0 ≤ a ∧ a ≤ l.length) (k (.c (.s (l.drop a.toNat))))
  | none, some (.c (.i _ b)) => SideP (0 ≤ b ∧ b ≤ l.length) (k (.c (.s (l.take b.toNat))))
  | some (.c (.i _ a)), some (.c (.i _ b)) => SideP (0 ≤ a ∧ a ≤ b ∧ b ≤ l.length) (k (.c (.s ((l.take b.toNat).drop a.toNat))))
  | _, _ => False
theorem mk_extract (l : List UInt8) (a b : Nat) : (⟨⟨l⟩⟩ : ByteArray).extract a b = ⟨⟨(l.take b).drop a⟩⟩ := by
  apply ByteArray.ext
  rw [ByteArray.data_extract]
  simp [List.drop_take]
theorem vcSliceStr_sound {P : Program} {t : TypeId} (ht : P.underlying t = some .string) {l : List UInt8} {lo hi : Option V} {k : V → Prop} (h : vcSliceStr l lo hi k) :
    ∃ v, k v ∧ ∀ w, (Instr.slice t (V.c (.s l)).enc (lo.map V.enc) (hi.map V.enc) none).run P w = .ok v.enc w := by
  unfold vcSliceStr at h
  split at h
  · refine ⟨_, h, fun w => ?_⟩
    simp only [V.enc, C.enc, Option.map_none, Instr.slice, Instr.sliceBounds, Sem.run_bind, run_underlying ht, Result.andThen_ok, Option.isSome_none, Bool.false_eq_true, if_false, Sem.run_pure, mk_size, mk_extract]
    simp
  · rename_i kk a
    obtain ⟨h0, h1⟩ := h.h
    refine ⟨_, h.k, fun w => ?_⟩
    simp only [V.enc, C.enc, Option.map_some, Option.map_none, Instr.slice, Instr.sliceBounds, Instr.sliceBound, asIntOf, Sem.run_bind, run_underlying ht, Result.andThen_ok, Option.isSome_none, Bool.false_eq_true, if_false, Sem.run_pure, Sem.run_ite, mk_size, mk_extract, h0, h1, and_self, if_true]
    simp
  · rename_i kk b
    obtain ⟨h0, h1⟩ := h.h
    refine ⟨_, h.k, fun w => ?_⟩
    simp only [V.enc, C.enc, Option.map_some, Option.map_none, Instr.slice, Instr.sliceBounds, Instr.sliceBound, asIntOf, Sem.run_bind, run_underlying ht, Result.andThen_ok, Option.isSome_none, Bool.false_eq_true, if_false, Sem.run_pure, Sem.run_ite, mk_size, mk_extract, h0, h1, and_self, if_true]
    simp
  · rename_i kk a kk' b
    obtain ⟨h0, h1, h2⟩ := h.h
    have hb : 0 ≤ b := by omega
    have hab : a ≤ (b.toNat : Int) := by omega
    refine ⟨_, h.k, fun w => ?_⟩
    simp only [V.enc, C.enc, Option.map_some, Option.map_none, Instr.slice, Instr.sliceBounds, Instr.sliceBound, asIntOf, Sem.run_bind, run_underlying ht, Result.andThen_ok, Option.isSome_none, Bool.false_eq_true, if_false, Sem.run_pure, Sem.run_ite, mk_size, mk_extract, h0, h2, hb, hab, and_self, if_true]
  · exact h.elim
def byteC (b : UInt8) : C := .i .u8 b.toNat
structure NewB (n : Nat) (K : Nat → Nat → Prop) : Prop where
  k : ∀ ad c, K ad c
def vcToBytes (e : Nat) (l : List UInt8) (L : List Chunk) (D : List Fact) (nid : Nat) (k : KV) : Prop :=
  SideP (l.length ≤ 9223372036854775807) (NewB l.length fun ad c => k (.c (.sl (some ⟨ad, 0, none⟩) l.length c)) (.row e 1 (some ⟨ad, 0, none⟩) l.length c (l.map byteC) :: L) D nid)
inductive BytesE (L : List Chunk) (D : List Fact) (a : Option Addr) (n : Nat) (K : List UInt8 → Prop) : Prop where
  | mk (ety : Nat) (l : List UInt8) (h : Reads L D ety 1 a n (l.map byteC)) (k : K l)
theorem freeze_alloc (w : World) (c : Array Value) (e : TypeId) (h : 0 < 1) : (w.alloc (.cells c e)).freeze { block := w.heap.size, off := c.size } 1 = w.alloc (.cells c e (c.size, c.size + 1)) := by
  simp only [World.freeze, World.alloc, Nat.one_ne_zero, if_false]
  congr 1
  apply Array.ext_getElem?
  intro i
  simp only [Array.getElem?_modify, Array.getElem?_push]
  by_cases hi : w.heap.size = i
  · subst hi; simp
  · simp [hi, Ne.symm hi]
def byteVals (l : List UInt8) : Array Value := (⟨⟨l⟩⟩ : ByteArray).data.map fun b => .int .u8 b.toNat
theorem byteVals_eq (l : List UInt8) : byteVals l = ((l.map byteC).map C.enc).toArray := by
  simp [byteVals, byteC, C.enc, Function.comp_def]
theorem run_stringToBytes (P : Program) (w : World) (e : TypeId) (l : List UInt8) :
    (Conv.stringToBytes e ⟨⟨l⟩⟩).run P w = .ok (.slice (some ⟨w.heap.size, 0, none⟩) l.length (grownCap w l.length 0 e))
      (w.drew.alloc (.cells (byteVals l ++ Array.replicate (grownCap w l.length 0 e - l.length) (Value.int .u8 0)) e
        ((byteVals l ++ Array.replicate (grownCap w l.length 0 e - l.length) (Value.int .u8 0)).size, (byteVals l ++ Array.replicate (grownCap w l.length 0 e - l.length) (Value.int .u8 0)).size + 1))) := by
  have hsh : ∀ (w : World) (c : Array Value) (e : TypeId), (w.alloc (.cells c e)).shape? w.heap.size = some (e, c.size) := fun w c e => by
    unfold World.shape?
    rw [heap_alloc_new]
  have key : ∀ (w : World) (c : Array Value), (markStringish ⟨w.heap.size, 0, none⟩).run P (w.alloc (.cells c e)) = .ok () (w.alloc (.cells c e (c.size, c.size + 1))) := fun w c => by
    simp only [markStringish, Sem.run_bind, run_shape, Result.andThen_ok, hsh, run_freeze]
    rw [freeze_alloc w c e (by omega)]
  have key' := key w.drew (byteVals l ++ Array.replicate (grownCap w l.length 0 e - l.length) (Value.int .u8 0))
  have e1 : (Conv.stringToBytes e ⟨⟨l⟩⟩).run P w =
      ((markStringish ⟨w.drew.heap.size, 0, none⟩).run P (w.drew.alloc (.cells (byteVals l ++ Array.replicate (grownCap w l.length 0 e - l.length) (Value.int .u8 0)) e))).andThen fun _ w' =>
        .ok (.slice (some ⟨w.heap.size, 0, none⟩) l.length (grownCap w l.length 0 e)) w' := by
    simp only [Conv.stringToBytes, Sem.run_bind, run_choose, Question.forced, Bool.false_eq_true, if_false, Result.andThen_ok, newRow, run_newObj, Sem.run_pure]
    rfl
  rw [e1, key']
  rfl
theorem vcToBytes_sound {P : Program} {T : Ty} {G : Ent} {w : World} {e : Nat} {l : List UInt8} {L : List Chunk} {D : List Fact} {nid : Nat} {k : KV} (h : vcToBytes e l L D nid k) (hs : SatW G w L D) :
    ∃ v L' w', k v L' D nid ∧ (Conv.stringToBytes e ⟨⟨l⟩⟩).run P w = .ok v.enc w' ∧ SatW G w' L' D := by
  have hlen := h.h
  have h1 := grownCap_ge w l.length 0 e
  have h2 := grownCap_le_maxLen w l.length 0 e (by simpa [maxLen] using hlen)
  refine ⟨_, _, _, h.k.k w.heap.size (grownCap w l.length 0 e), run_stringToBytes P w e l, ?_⟩
  refine satW_alloc (satW_drew hs) _ _ rfl ⟨?_, .inr ⟨w.heap.size, rfl, ?_⟩⟩
  · intro x hx
    obtain ⟨b, _, rfl⟩ := List.mem_map.1 hx
    rfl
  · rw [show w.heap.size = w.drew.heap.size from rfl, heap_alloc_new w.drew]
    refine ⟨_, _, _, rfl, h1, h2, ?_, .inl ⟨Nat.le_refl _, rfl⟩, by simp, ?_⟩
    · simp [byteVals_eq]; omega
    · simp only [Array.toList_append, Nat.mul_one, byteVals_eq]
      exact List.take_left' (by simp)
theorem bytes_run {P : Program} {G : Ent} {w : World} {L : List Chunk} {D : List Fact} {ety : Nat} {a : Option Addr} {n c : Nat} {l : List UInt8} (h : Reads L D ety 1 a n (l.map byteC)) (hs : SatW G w L D) :
    (Conv.bytesToString (.slice a n c)).run P w = .ok (.string ⟨⟨l⟩⟩) w := by
  have hof : ∀ b : UInt8, UInt8.ofNat ((b.toNat : Int)).toNat = b := fun b => by simp
  rcases (reads_at h hs).2 with ⟨hn, hc⟩ | ⟨g, off, cur, ty, lo, hi, ha, hg, hl, hc⟩
  · subst hn
    have hl : l = [] := by simpa using hc
    subst hl
    cases a with
    | none => rfl
    | some a =>
      have := run_bytesToString (P := P) w a 0 c [] (by simp [loadCells, loadCellsFrom])
      rw [this]
      rfl
  · subst ha
    simp only [List.length_map, Nat.mul_one] at hl
    subst hl
    have hload : (loadCells ⟨g, off, none⟩ l.length).run P w = .ok ((l.map fun b => (b.toNat : Int)).map (Value.int .u8)).toArray w := by
      have := run_loadCells_blk (P := P) hg off ((l.map byteC).map C.enc) (by simpa using hc)
      simp only [List.length_map] at this
      rw [this]
      simp [byteC, C.enc, Function.comp_def]
    rw [run_bytesToString (P := P) w ⟨g, off, none⟩ l.length c _ hload, foldl_push_bytes]
    congr 2
    apply ByteArray.ext
    simp [Function.comp_def]
end Go.X
namespace Go.X
open Go
variable [Sm : Inhabited Manner] [Df : Inhabited (List Deferred)]
section
variable {α : Type}
def gEs (g : α → V) : List (α × V) → Nat → List MapEntry
  | [], _ => []
  | x :: r, i => { key := (g x.1).enc, val := x.2.enc, born := i } :: gEs g r (i + 1)
def gO (g : α → V) (kv : List (α × V)) : Obj := .map (gEs g kv 0).toArray kv.length
def gGet [DecidableEq α] : List (α × V) → α → Option V
  | [], _ => none
  | x :: r, k => if x.1 = k then some x.2 else gGet r k
def gPut [DecidableEq α] : List (α × V) → α → V → List (α × V)
  | [], k, v => [(k, v)]
  | x :: r, k, v => if x.1 = k then (x.1, v) :: r else x :: gPut r k v
def gIdx [DecidableEq α] : List (α × V) → α → Nat → Option (Nat × V)
  | [], _, _ => none
  | x :: r, k, i => if x.1 = k then some (i, x.2) else gIdx r k (i + 1)
theorem gEs_len (g : α → V) : ∀ (kv : List (α × V)) (n : Nat), (gEs g kv n).length = kv.length
  | [], _ => rfl
  | y :: r, n => by simp [gEs, gEs_len g r]
theorem gEs_get (g : α → V) : ∀ (kv : List (α × V)) (n i : Nat) (h : i < kv.length), (gEs g kv n)[i]? = some { key := (g kv[i].1).enc, val := kv[i].2.enc, born := n + i }
  | [], _, _, h => by simp at h
  | y :: r, n, 0, _ => by simp [gEs]
  | y :: r, n, i + 1, h => by
    have := gEs_get g r (n + 1) i (by simpa using h)
    simp only [gEs, List.getElem?_cons_succ, this, List.getElem_cons_succ]
    congr 2
    omega
theorem gEs_mem {g : α → V} : ∀ {kv : List (α × V)} {n : Nat} {x : MapEntry}, x ∈ gEs g kv n → n ≤ x.born ∧ x.born < n + kv.length
  | [], _, _, h => by simp [gEs] at h
  | y :: r, n, x, h => by
    simp only [gEs, List.mem_cons] at h
    rcases h with rfl | h
    · exact ⟨Nat.le_refl _, by simp⟩
    · obtain ⟨h1, h2⟩ := gEs_mem h
      exact ⟨by omega, by simp; omega⟩
theorem gEs_born (g : α → V) : ∀ (kv : List (α × V)) (n : Nat), ((gEs g kv n).map (·.born)).Nodup
  | [], _ => List.nodup_nil
  | y :: r, n => by
    simp only [gEs, List.map_cons]
    refine List.nodup_cons.2 ⟨fun hc => ?_, gEs_born g r (n + 1)⟩
    obtain ⟨x, hx, he⟩ := List.mem_map.1 hc
    have := (gEs_mem hx).1
    omega
theorem gIdx_get [DecidableEq α] (k : α) : ∀ (kv : List (α × V)) (i : Nat), (gIdx kv k i).map (·.2) = gGet kv k
  | [], _ => rfl
  | x :: r, i => by
    simp only [gIdx, gGet]
    by_cases h : x.1 = k
    · rw [if_pos h, if_pos h]; rfl
    · rw [if_neg h, if_neg h]; exact gIdx_get k r (i + 1)
theorem gIdx_some [DecidableEq α] {g : α → V} {k : α} : ∀ {kv : List (α × V)} {n i j : Nat} {v u : V}, gIdx kv k i = some (j, v) →
    ∃ q, j = i + q ∧ (∃ b, (gEs g kv n)[q]? = some { key := (g k).enc, val := v.enc, born := b }) ∧ (gEs g kv n).modify q (fun e => { e with key := (g k).enc, val := u.enc }) = gEs g (gPut kv k u) n ∧ (gPut kv k u).length = kv.length
  | [], _, _, _, _, _, h => by cases h
  | x :: r, n, i, j, v, u, h => by
    simp only [gIdx] at h
    by_cases hx : x.1 = k
    · rw [if_pos hx] at h
      cases h
      refine ⟨0, rfl, ⟨n, by simp [gEs, hx]⟩, ?_, ?_⟩ <;> simp [gEs, gPut, hx]
    · rw [if_neg hx] at h
      obtain ⟨q, hq, ⟨b, hb⟩, hm, hl⟩ := gIdx_some (g := g) (n := n + 1) (u := u) h
      refine ⟨q + 1, by omega, ⟨b, by simpa [gEs] using hb⟩, ?_, ?_⟩
      · simp [gEs, gPut, hx, hm]
      · simp [gPut, hx, hl]
theorem gIdx_none [DecidableEq α] {g : α → V} {k : α} : ∀ {kv : List (α × V)} {n i : Nat} {u : V}, gIdx kv k i = none →
    gEs g kv n ++ [{ key := (g k).enc, val := u.enc, born := n + kv.length }] = gEs g (gPut kv k u) n ∧ (gPut kv k u).length = kv.length + 1
  | [], n, _, u, _ => by simp [gEs, gPut]
  | x :: r, n, i, u, h => by
    simp only [gIdx] at h
    by_cases hx : x.1 = k
    · rw [if_pos hx] at h; cases h
    · rw [if_neg hx] at h
      obtain ⟨h1, h2⟩ := gIdx_none (g := g) (n := n + 1) (u := u) h
      have e : n + (r.length + 1) = n + 1 + r.length := by omega
      refine ⟨?_, by simp [gPut, hx, h2]⟩
      simp only [gEs, gPut, if_neg hx, List.cons_append, List.length_cons, e, h1]
end
def plainC : C → Bool
  | .b _ | .i _ _ | .s _ => true
  | _ => false
theorem bytesSame (a : List UInt8) : ((⟨⟨a⟩⟩ : ByteArray) == ⟨⟨a⟩⟩) = true := by
  have e : ((⟨⟨a⟩⟩ : ByteArray) == ⟨⟨a⟩⟩) = ((⟨a⟩ : Array UInt8) == ⟨a⟩) := rfl
  rw [e, beq_self_eq_true]
theorem sameBits_plain {c : C} (h : plainC c = true) (n : Nat) : Instr.sameBits n c.enc c.enc = true := by
  cases c <;> simp only [plainC] at h <;> try (cases h; done)
  all_goals (cases n <;> simp [C.enc, Instr.sameBits, bytesSame])
theorem sameBits_agg {cs : List C} (h : ∀ c ∈ cs, plainC c = true) (n : Nat) : Instr.sameBits (n + 1) (.agg (cs.map C.enc).toArray) (.agg (cs.map C.enc).toArray) = true := by
  simp only [Instr.sameBits, beq_self_eq_true, Bool.true_and]
  induction cs with
  | nil => rfl
  | cons c r ih =>
    simp only [List.map_cons, List.zip_cons_cons, List.all_cons, sameBits_plain (h c (by simp)), Bool.true_and]
    exact ih fun x hx => h x (by simp [hx])
theorem run_checkKey_eqTy {P : Program} {T : Ty} (hT : TyOK P T) (em : Bool) : ∀ (n d t : Nat) (xs ys : List C) (p : Prop) (w : World) (i : TyI), eqTy T n t xs ys = some p → find T t = some i →
    (Instr.checkKey em (d + n) t (valOf i.d xs)).run P w = .ok () w := by
  intro n
  induction n with
  | zero => intro d t xs ys p w i h; simp [eqTy] at h
  | succ n ih =>
    intro d t xs ys p w i h hi
    have hok := hT t i hi
    simp only [eqTy, hi] at h
    split at h
    · rename_i fs hd
      have hok' := hok.2.2.2
      rw [hd] at hok'
      obtain ⟨hu, hfs, hnb, hst, _⟩ := hok'
      rw [hd]
      simp only [valOf]
      rw [show d + (n + 1) = (d + n) + 1 from rfl, Instr.checkKey]
      simp only [Sem.run_bind, run_underlying hu, Result.andThen_ok]
      rw [← Array.forIn_toList]
      rw [← hfs] at h
      clear hfs hd hu
      generalize (P.fieldsOf t).toList = F at h hnb
      induction F generalizing p with
      | nil => simp
      | cons f F ihF =>
        simp only [List.map_cons, eqFs] at h
        simp only [List.all_cons, Bool.and_eq_true] at hnb
        cases hj : find T f.type with
        | none => simp [hj] at h
        | some j =>
          simp only [hj] at h
          split at h
          · rename_i p1 q1 hp1 hq1
            have hjok := hT _ _ hj
            obtain ⟨hl1, _, hoth⟩ := eqTy_lt hp1 hj
            have h2 := ih d f.type _ _ p1 w j hp1 hj
            have hnm : f.name ≠ "_" := by simpa using hnb.1
            simp only [List.forIn_cons, Sem.run_bind, hnm, ne_eq, not_false_eq_true, if_true, run_part hjok hoth _ _ hl1, Result.andThen_ok, h2, Sem.run_pure]
            exact ihF q1 hq1 hnb.2
          · cases h
    · rename_i dd hnst
      split at h
      · rename_i x y
        split at h
        · rename_i h1 h2
          have hok' := hok.2.2.2
          cases hd : i.d <;> rw [hd] at h1 hok' <;> cases x <;> simp only [isC] at h1 <;> try (cases h1; done)
          all_goals (simp only [TyD.ok] at hok'; simp [Instr.checkKey, run_underlying hok', valOf, C.enc])
        · cases h
      · cases h
structure KeyP (T : Ty) (kt : Nat) {α : Type} (f : α → List C) : Prop where
  eq : ∃ n, n < 10000 ∧ ∀ a b, ∃ p, eqTy T n kt (f a) (f b) = some p ∧ (p ↔ a = b)
  pl : ∀ a, ∀ c ∈ f a, plainC c = true
def isSt : Option TyI → Bool
  | some i => match i.d with | .st _ => true | _ => false
  | none => false
theorem isSt_ok {P : Program} {T : Ty} (hT : TyOK P T) {e : Nat} (h : isSt (find T e) = true) : ∃ i fs F, find T e = some i ∧ i.d = .st fs ∧ P.underlying e = some (.struct F) := by
  unfold isSt at h
  split at h
  · rename_i i hi
    have hd' := (hT _ _ hi).2.2.2
    split at h
    · rename_i hd; rw [hd] at hd'; exact ⟨i, _, _, hi, hd, hd'.1⟩
    · cases h
  · cases h
section
variable {P : Program} {T : Ty} {α : Type} [DecidableEq α] {kt : Nat} {f : α → List C}
abbrev aggV (f : α → List C) : α → V := fun a => .agg (f a)
theorem run_checkKey_st (hT : TyOK P T) (hk : isSt (find T kt) = true) (hK : KeyP T kt f) (a : α) (em : Bool) (w : World) : (Instr.checkKey em 10000 kt (V.agg (f a)).enc).run P w = .ok () w := by
  obtain ⟨i, fs, F, hi, hd, _⟩ := isSt_ok hT hk
  obtain ⟨n, hn, hp⟩ := hK.eq
  obtain ⟨p, hp, _⟩ := hp a a
  have := run_checkKey_eqTy hT em n (10000 - n) kt (f a) (f a) p w i hp hi
  rw [hd] at this
  rwa [show 10000 - n + n = 10000 by omega] at this
theorem run_equal_st (hT : TyOK P T) (hk : isSt (find T kt) = true) (hK : KeyP T kt f) (a b : α) (w : World) : (Op.equal kt (V.agg (f a)).enc (V.agg (f b)).enc).run P w = .ok (decide (a = b)) w := by
  obtain ⟨i, fs, F, hi, hd, _⟩ := isSt_ok hT hk
  obtain ⟨n, hn, hp⟩ := hK.eq
  obtain ⟨p, hp, hpe⟩ := hp a b
  obtain ⟨r, hr, hre⟩ := run_eqTy hT n (10000 - n) kt (f a) (f b) p w i hp hi
  rw [hd, show 10000 - n + n = 10000 by omega] at hr
  have : r = decide (a = b) := by rw [Bool.eq_iff_iff, decide_eq_true_eq]; exact hre.trans hpe
  rw [← this]
  exact hr
theorem run_findAsking_st (hT : TyOK P T) (hk : isSt (find T kt) = true) (hK : KeyP T kt f) (w : World) (q : α) : ∀ (kv : List (α × V)) (n i : Nat), (Instr.findAsking kt (V.agg (f q)).enc (gEs (aggV f) kv n) i).run P w = .ok ((gIdx kv q i).map fun x => (x.1, x.2.enc)) w
  | [], _, _ => rfl
  | x :: r, n, i => by
    simp only [gEs, Instr.findAsking, Sem.run_bind, run_equal_st hT hk hK, Result.andThen_ok, gIdx, Sem.run_ite]
    by_cases h : x.1 = q
    · rw [if_pos (by simp [h]), if_pos h]; rfl
    · rw [if_neg (by simp only [decide_eq_true_eq]; exact fun hc => h hc.symm), if_neg h]; exact run_findAsking_st hT hk hK w q r (n + 1) (i + 1)
theorem run_findKey_st (hT : TyOK P T) (hk : isSt (find T kt) = true) (hK : KeyP T kt f) (w : World) (q : α) (kv : List (α × V)) : (Instr.findKey kt (V.agg (f q)).enc (gEs (aggV f) kv 0)).run P w = .ok ((gIdx kv q 0).map fun x => (x.1, x.2.enc)) w := by
  obtain ⟨i, fs, F, hi, hd, hu⟩ := isSt_ok hT hk
  cases kv with
  | nil => simp only [Instr.findKey, Sem.run_bind, run_underlying hu, Result.andThen_ok, gEs, Instr.findNow, Sem.run_pure, gIdx, Option.map_none]
  | cons x r =>
    have h := run_findAsking_st hT hk hK w q (x :: r) 0 0
    have hn : Instr.findNow (.struct F) (V.agg (f q)).enc (gEs (aggV f) (x :: r) 0) 0 = none := by
      simp only [gEs, Instr.findNow, V.enc, Instr.sameNow]
    simp only [Instr.findKey, Sem.run_bind, run_underlying hu, Result.andThen_ok, hn]
    exact h
end
inductive LookG (T : Ty) (kt : Nat) (es : Array MapEntry) (c : Nat) (key : List C) (A : V → Prop) (B : Prop) : Prop where
  | mk (α : Type) (dec : DecidableEq α) (f : α → List C) (kv : List (α × V)) (q : α) (h : es = (gEs (aggV f) kv 0).toArray) (hc : c = kv.length) (hq : key = f q) (hk : KeyP T kt f) (t : ∀ v, gGet kv q = some v → A v) (n : gGet kv q = none → B)
inductive UpdG (T : Ty) (kt : Nat) (es : Array MapEntry) (c : Nat) (key : List C) (v : V) (K : Obj → Prop) : Prop where
  | mk (α : Type) (dec : DecidableEq α) (f : α → List C) (kv : List (α × V)) (q : α) (h : es = (gEs (aggV f) kv 0).toArray) (hc : c = kv.length) (hq : key = f q) (hk : KeyP T kt f) (k : K (gO (aggV f) (gPut kv q v)))
abbrev intV (kd : IntKind) : Int → V := fun n => .c (.i kd n)
theorem findNow_int {kd k0 : IntKind} (q : Int) : ∀ (kv : List (Int × V)) (n i : Nat), Instr.findNow (.int k0) (.int kd q) (gEs (intV kd) kv n) i = some ((gIdx kv q i).map fun x => (x.1, x.2.enc))
  | [], _, _ => rfl
  | x :: r, n, i => by
    simp only [gEs, Instr.findNow, V.enc, C.enc, Instr.sameNow, if_true, gIdx]
    by_cases h : x.1 = q
    · rw [show (q == x.1) = true by simp [h], if_pos h]; rfl
    · rw [show (q == x.1) = false by simp; exact fun hc => h hc.symm, if_neg h]; exact findNow_int q r (n + 1) (i + 1)
theorem run_findKey_int {P : Program} {w : World} {t : Nat} {kd k0 : IntKind} (h : P.underlying t = some (.int k0)) (kv : List (Int × V)) (q : Int) :
    (Instr.findKey t (.int kd q) (gEs (intV kd) kv 0)).run P w = .ok ((gIdx kv q 0).map fun x => (x.1, x.2.enc)) w := by
  simp only [Instr.findKey, Sem.run_bind, run_underlying h, Result.andThen_ok, findNow_int, Sem.run_pure]
theorem run_checkKey_int {P : Program} {w : World} {t : Nat} {k0 kd : IntKind} (h : P.underlying t = some (.int k0)) (b : Bool) (n : Nat) (q : Int) : (Instr.checkKey b (n + 1) t (.int kd q)).run P w = .ok () w := by
  simp [Instr.checkKey, run_underlying h]
inductive LookI (kd : IntKind) (es : Array MapEntry) (c : Nat) (q : Int) (A : V → Prop) (B : Prop) : Prop where
  | mk (kv : List (Int × V)) (h : es = (gEs (intV kd) kv 0).toArray) (hc : c = kv.length) (t : ∀ v, gGet kv q = some v → A v) (n : gGet kv q = none → B)
inductive UpdI (kd : IntKind) (es : Array MapEntry) (c : Nat) (q : Int) (v : V) (K : Obj → Prop) : Prop where
  | mk (kv : List (Int × V)) (h : es = (gEs (intV kd) kv 0).toArray) (hc : c = kv.length) (k : K (gO (intV kd) (gPut kv q v)))
inductive NextE (L : List Chunk) (m since : Nat) (seen : Array Nat) (last : Nat) (A : V → V → Array Nat → Nat → Prop) (B : Prop) : Prop where
  | mk (idm : Nat) (α : Type) (g : α → V) (kv : List (α × V)) (h : Chunk.obj idm m (gO g kv) ∈ L) (h1 : since = kv.length) (h2 : last = kv.length) (t : ∀ i (hi : i < kv.length), i ∉ seen.toList → A (g kv[i].1) kv[i].2 (seen.push i) kv.length) (f : (∀ i, i < kv.length → i ∈ seen.toList) → B)
inductive EntE (L : List Chunk) (m : Nat) (seen : Array Nat) (last : Nat) (K : V → V → Prop) : Prop where
  | mk (idm : Nat) (α : Type) (g : α → V) (kv : List (α × V)) (h : Chunk.obj idm m (gO g kv) ∈ L) (h2 : last = kv.length) (pre : Array Nat) (i : Nat) (hs : seen = pre.push i) (hi : i < kv.length) (k : K (g kv[i].1) kv[i].2)
theorem nextE_sound {P : Program} {G : Ent} {w : World} {L : List Chunk} {D : List Fact} {m since last r ty : Nat} {seen : Array Nat} {A : V → V → Array Nat → Nat → Prop} {B : Prop} (h : NextE L m since seen last A B) (hs : SatW G w L D)
    (hr : w.heap[r]? = some (.mapIter (some m) since seen last)) :
    (B ∧ (Instr.next (.pointer (some ⟨r, 0, none⟩)) false ty).run P w = .ok (V.t1 (.c (.b false))).enc w) ∨
    ∃ k v seen' n w1, A k v seen' n ∧ (w1 = w ∨ w1 = w.drew) ∧ (Instr.next (.pointer (some ⟨r, 0, none⟩)) false ty).run P w = .ok (V.t3 (.c (.b true)) k v).enc (setBlk w1 r (.mapIter (some m) since seen' n)) := by
  obtain ⟨idm, α, g, kv, hm, rfl, rfl, ht, hf⟩ := h
  obtain ⟨_, hh, _⟩ := hs
  have hb : w.heap[m]? = some (.map (gEs g kv 0).toArray kv.length) := allOk_mem hh.ok hm
  rcases run_next_at (P := P) w ty r m kv.length kv.length seen (gEs g kv 0).toArray kv.length hr hb (fun x hx => by have := gEs_mem (by simpa using hx : x ∈ gEs g kv 0); omega) (Nat.le_refl _) with ⟨h1, h2⟩ | ⟨e, he, w1, h1, h2⟩
  · refine .inl ⟨hf fun i hi => ?_, h2⟩
    have h3 := gEs_get g kv 0 i hi
    by_cases hc : i ∈ seen.toList
    · exact hc
    · exfalso
      have h4 := List.mem_of_getElem? h3
      unfold leftOf at h1
      have h5 : { key := (g kv[i].1).enc, val := kv[i].2.enc, born := 0 + i } ∈ ((gEs g kv 0).toArray.filter fun e => !seen.contains e.born) := by
        rw [Array.mem_filter]
        refine ⟨by simpa using h4, ?_⟩
        simpa using hc
      have := Array.eq_empty_of_size_eq_zero h1
      rw [this] at h5
      simp at h5
  · unfold leftOf at he
    have he' : e ∈ (gEs g kv 0).toArray.filter fun e => !seen.contains e.born := by simpa using he
    rw [Array.mem_filter] at he'
    obtain ⟨he1, he2⟩ := he'
    obtain ⟨i, hi0⟩ := List.getElem?_of_mem (by simpa using he1 : e ∈ gEs g kv 0)
    have hi : i < kv.length := by
      have := (List.getElem?_eq_some_iff.1 hi0).1
      rwa [gEs_len] at this
    rw [gEs_get g kv 0 i hi, Option.some.injEq] at hi0
    subst hi0
    rw [Nat.zero_add] at h2 he2
    exact .inr ⟨_, _, _, _, w1, ht i hi (by simpa using he2), h1, h2⟩
theorem entE_sound {P : Program} {G : Ent} {w : World} {L : List Chunk} {D : List Fact} {m since last r : Nat} {seen : Array Nat} {K : V → V → Prop} (h : EntE L m seen last K) (hs : SatW G w L D)
    (hr : w.heap[r]? = some (.mapIter (some m) since seen last)) : ∃ k v, K k v ∧ (Instr.entry (.pointer (some ⟨r, 0, none⟩))).run P w = .ok (V.t2 k v).enc w := by
  obtain ⟨idm, α, g, kv, hm, rfl, pre, i, rfl, hi, k⟩ := h
  obtain ⟨_, hh, _⟩ := hs
  have hb : w.heap[m]? = some (.map (gEs g kv 0).toArray kv.length) := allOk_mem hh.ok hm
  have h3 := gEs_get g kv 0 i hi
  rw [Nat.zero_add] at h3
  exact ⟨_, _, k, run_entry_at w r m since pre (gEs g kv 0).toArray kv.length { key := (g kv[i].1).enc, val := kv[i].2.enc, born := i } hr hb (by simpa using List.mem_of_getElem? h3) (by simpa using gEs_born g kv 0)⟩
end Go.X
