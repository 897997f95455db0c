/- This text turns the kit's contract of slices.SortFunc, at elements of several cells, into the form of the symbolic executor. -/
import Derived.Test.YtcnbkappedemeaaLib
import Derived.Shelf.SlSortCmp.WholeK
set_option linter.all false

namespace Go.X
open Go Go.Sort Go.Proofs

theorem flat_at {α : Type} {F : α → List C} {k : Nat} (hF : ∀ x, (F x).length = k) : ∀ {d : List α} {t : Nat} (_ : t < d.length * k), ∃ (h : t / k < d.length) (h2 : t % k < (F (d[t / k]'h)).length), (d.flatMap F)[t]? = some ((F (d[t / k]'h))[t % k]'h2)
  | [], t, h => by simp at h
  | x :: r, t, h => by
    have hk : 0 < k := by rcases Nat.eq_zero_or_pos k with h0 | h0; · subst h0; simp at h
                          · exact h0
    by_cases ht : t < k
    · have h1 : t / k = 0 := Nat.div_eq_of_lt ht
      have h2 : t % k = t := Nat.mod_eq_of_lt ht
      refine ⟨by rw [h1]; simp, by simp only [h1, h2, List.getElem_cons_zero, hF]; exact ht, ?_⟩
      simp only [h1, h2, List.getElem_cons_zero]
      rw [List.flatMap_cons, List.getElem?_append_left (by rw [hF]; exact ht), List.getElem?_eq_getElem (by rw [hF]; exact ht)]
    · obtain ⟨u, rfl⟩ : ∃ u, t = u + k := ⟨t - k, by omega⟩
      have h1 : (u + k) / k = u / k + 1 := Nat.add_div_right u hk
      have h2 : (u + k) % k = u % k := Nat.add_mod_right u k
      have hu : u < r.length * k := by simp only [List.length_cons, Nat.add_mul, Nat.one_mul] at h; omega
      obtain ⟨h3, h4, h5⟩ := flat_at hF (d := r) (t := u) hu
      refine ⟨by rw [h1]; simpa using h3, by simp only [h1, h2, List.getElem_cons_succ]; exact h4, ?_⟩
      simp only [h1, h2, List.getElem_cons_succ]
      rw [List.flatMap_cons, List.getElem?_append_right (by rw [hF]; omega), hF, Nat.add_sub_cancel, h5]

/-- The kit's encoding of an element. -/
abbrev encF {α : Type} (F : α → List C) : α → List Value := fun x => (F x).map C.enc

theorem flatK_list {α : Type} [Inhabited α] {F : α → List C} {k : Nat} (hF : ∀ x, (F x).length = k) (d : List α) : (flatK (encF F) k d.toArray).toList = (d.flatMap F).map C.enc := by
  have hlen : (d.flatMap F).length = d.length * k := flat_len hF d
  apply List.ext_getElem?
  intro t
  by_cases ht : t < d.length * k
  · obtain ⟨h1, h2, h3⟩ := flat_at hF ht
    rw [List.getElem?_map, h3]
    have h4 := get_flatK (encF F) k d.toArray t (by simpa using ht)
    rw [getElem!_pos _ t (by simpa using ht)] at h4
    rw [Array.getElem?_toList, Array.getElem?_eq_getElem (by simpa using ht), h4]
    rw [getElem!_pos d.toArray (t / k) (by simpa using h1)]
    simp only [List.getElem_toArray, Option.map_some]
    rw [getElem!_pos _ (t % k) (by simpa using h2)]
    simp
  · rw [List.getElem?_eq_none (by simp; omega), List.getElem?_eq_none (by rw [List.length_map, hlen]; omega)]

theorem holdsK_of_row {α : Type} [Inhabited α] {F : α → List C} {k : Nat} (hF : ∀ x, (F x).length = k) {w : World} {g ety c : Nat} {d : List α} (h : RowIn w.heap[g]? ety k d.length c (d.flatMap F)) : HoldsK (encF F) k w g 0 d.toArray := by
  obtain ⟨cur, lo, hi, ho, hn, hc, hs, hfr, hl, ht⟩ := h
  intro j hj
  rw [size_flatK] at hj
  have hj' : j < d.length * k := by simpa using hj
  have hcur : j < cur.size := by
    have := Nat.mul_le_mul_right k hn
    omega
  have h1 : cur[j]? = some ((flatK (encF F) k d.toArray)[j]!) := by
    have h2 : (cur.toList.take (d.length * k))[j]? = some (cur[j]'hcur) := by
      rw [List.getElem?_take, if_pos hj', Array.getElem?_toList, Array.getElem?_eq_getElem hcur]
    rw [ht, ← flatK_list hF d, Array.getElem?_toList, Array.getElem?_eq_getElem (by simpa using hj)] at h2
    rw [Array.getElem?_eq_getElem hcur, getElem!_pos _ j (by simpa using hj)]
    exact h2.symm
  refine ⟨?_, ?_⟩
  · simp only [World.cell?, ho, Nat.zero_add]
    rw [h1]; rfl
  · simp only [World.frozen?, ho, Nat.zero_add, Bool.and_eq_false_iff, decide_eq_false_iff_not]
    omega

theorem row_sorted {α : Type} [Inhabited α] {F : α → List C} {k : Nat} (hF : ∀ x, (F x).length = k) {w : World} {g ety c m : Nat} {d d' : List α} {os : Array Obj} (hl : d'.length = d.length) (h : RowIn w.heap[g]? ety k d.length c (d.flatMap F)) (hg : g < w.heap.size) :
    RowIn (sortWorldK (encF F) k w g 0 m d'.toArray os).heap[g]? ety k d'.length c (d'.flatMap F) := by
  obtain ⟨cur, lo, hi, ho, hn, hc, hs, hfr, hcl, ht⟩ := h
  have hsz : g < (putRowK (encF F) k (Sort.ahead w m) g 0 d'.toArray).heap.size := by
    show g < (mapBlock (Sort.ahead w m) g _).heap.size
    simp only [mapBlock, Array.size_modify]
    exact hg
  have hget : (sortWorldK (encF F) k w g 0 m d'.toArray os).heap[g]? = some (.cells (putCells id 0 (flatK (encF F) k d'.toArray) cur) ety (lo, hi)) := by
    unfold sortWorldK
    rw [heap_grow_old _ _ hsz]
    show (mapBlock (Sort.ahead w m) g _).heap[g]? = _
    simp only [mapBlock, Array.getElem?_modify, if_true]
    rw [show (Sort.ahead w m).heap[g]? = w.heap[g]? from rfl, ho]
    rfl
  rw [hget]
  refine ⟨_, lo, hi, rfl, by omega, hc, by simp [putCells, hs], by simpa [putCells] using hfr, by rw [flat_len hF], ?_⟩
  rw [← flatK_list hF d']
  have hle := Nat.mul_le_mul_right k hn
  apply List.ext_getElem?
  intro t
  by_cases h1 : t < d'.length * k
  · rw [List.getElem?_take, if_pos h1, Array.getElem?_toList, Array.getElem?_toList]
    have h2 : t < cur.size := by rw [hl] at h1; omega
    simp only [putCells, Array.getElem?_mapIdx, Array.getElem?_eq_getElem h2, Option.map_some, size_flatK, List.size_toArray, Nat.zero_le, true_and, Nat.zero_add, h1, if_true, Nat.sub_zero, id]
    rw [getElem!_pos _ t (by simpa using h1), Array.getElem?_eq_getElem (by simpa using h1)]
  · rw [List.getElem?_take, if_neg h1, List.getElem?_eq_none (by simp; omega)]

theorem sorted_other {α : Type} [Inhabited α] {enc : α → List Value} {k : Nat} {w : World} {g m b : Nat} {d : Array α} {os : Array Obj} (hb : b < w.heap.size) (hn : b ≠ g) : (sortWorldK enc k w g 0 m d os).heap[b]? = w.heap[b]? := by
  have hsz : b < (putRowK enc k (Sort.ahead w m) g 0 d).heap.size := by
    show b < (mapBlock (Sort.ahead w m) g _).heap.size
    simp only [mapBlock, Array.size_modify]
    exact hb
  unfold sortWorldK
  rw [heap_grow_old _ _ hsz]
  show (mapBlock (Sort.ahead w m) g _).heap[b]? = _
  simp only [mapBlock, Array.getElem?_modify]
  rw [if_neg (fun h => hn h.symm)]
  rfl

theorem perm_whole {α : Type} [Inhabited α] {d d' : Array α} (h : PermIn 0 d.size d d') : d'.toList.Perm d.toList := by
  obtain ⟨h1, _, h3⟩ := h
  rw [show d.size = d'.size from h1.symm] at h3
  rw [Array.extract_size] at h3
  rwa [h1, Array.extract_size] at h3

theorem pair_sorted {α : Type} [Inhabited α] {lt : α → α → Bool} {d : Array α} (h : SortedIn lt 0 d.size d) : d.toList.Pairwise fun x y => lt y x = false := by
  rw [List.pairwise_iff_getElem]
  intro i j hi hj hij
  have := h i j (Nat.zero_le _) hij (by simpa using hj)
  rw [getElem!_pos d j (by simpa using hj), getElem!_pos d i (by simpa using hi)] at this
  simpa using this

/-- slices.SortFunc. -/
theorem fn_sort {P : Program} {α : Type} [Inhabited α] {fS g : FuncId} {ety k : Nat} {F : α → List C} {lt : α → α → Bool} (hF : ∀ x, (F x).length = k) (hF1 : ∀ x, oneAll (F x))
    (hn : FnS P fS [.c (.sl none 0 0), .c (.fn g [])] [] [] (fun v L D => v = .t0 ∧ L = [] ∧ D = []))
    (hsort : ∀ (blk cap : Nat) (d : Array α) (w : World), HoldsK (encF F) k w blk 0 d → blk < w.heap.size → d.size < 4611686018427387904 → Calls P fS #[.slice (some ⟨blk, 0, none⟩) d.size cap, .func (.func g) #[] #[]] w fun e w' => e = .returned (.tuple #[]) ∧ ∃ d' n os, PermIn 0 d.size d d' ∧ SortedIn lt 0 d.size d' ∧ w' = sortWorldK (encF F) k w blk 0 n d' os)
    (a : Option Addr) (c : Nat) (l : List α) (hl : l.length < 4611686018427387904) :
    FnS P fS [.c (.sl a l.length c), .c (.fn g [])] [.row ety k a l.length c (l.flatMap F)] [] (fun v L D => ∃ l' : List α, l'.Perm l ∧ l'.Pairwise (fun x y => lt y x = false) ∧ v = .t0 ∧ L = [.row ety k a l.length c (l'.flatMap F)] ∧ D = []) := by
  refine ⟨hn.en, fun w m hh => ?_⟩
  rcases hh.ok.1.2 with ⟨ha, hn0, hc0, hcs⟩ | ⟨b, ha, hrow⟩
  · subst ha hc0
    have hl0 : l = [] := List.eq_nil_of_length_eq_zero hn0
    subst hl0
    refine (hn.run w m ⟨by simp [fps], trivial, fun b o hb => ⟨(hh.im b o hb).1, by simp [fps]⟩, trivial⟩).mono ?_
    rintro e w' ⟨v, L', D', m', he, ⟨rfl, rfl, rfl⟩, h1, h2⟩
    refine ⟨.t0, _, [], m', he, ⟨[], .refl _, .nil, rfl, rfl, rfl⟩, ⟨by simp [fps, Chunk.fp], ⟨⟨fun x hx => by simp at hx, .inl ⟨rfl, rfl, rfl, rfl⟩⟩, trivial⟩, fun b o hb => ⟨(h1.im b o hb).1, by simp [fps, Chunk.fp]⟩, trivial⟩, ⟨h2.size, fun b hb hx => h2.same b hb (by simp [fps]), fun b hb => by simp [fps, Chunk.fp] at hb, h2.im, fun b o ho => ?_, h2.kept⟩⟩
    rcases h2.new b o ho with h3 | h3 | h3
    · exact .inl h3
    · simp [fps] at h3
    · exact .inr (.inr h3)
  · subst ha
    have hb : b < w.heap.size := mem_fps_lt hh.ok b (by simp [fps, Chunk.fp])
    refine (hsort b c l.toArray w (holdsK_of_row hF hrow) hb (by simpa using hl)).mono ?_
    rintro e w' ⟨he, d', n, os, hp, hs, rfl⟩
    have hlen : d'.toList.length = l.length := by have := hp.1; simpa using this
    have hperm := perm_whole hp
    have hsd : SortedIn lt 0 d'.size d' := by rw [hp.1]; exact hs
    have hrow' := row_sorted hF (m := n) (d' := d'.toList) (os := os) hlen hrow hb
    rw [show d'.toList.toArray = d' from by simp, hlen] at hrow'
    have hsize : w.heap.size ≤ (sortWorldK (encF F) k w b 0 n d' os).heap.size := by
      unfold sortWorldK
      rw [size_grow]
      show w.heap.size ≤ (mapBlock (Sort.ahead w n) b _).heap.size + _
      simp only [mapBlock, Array.size_modify]
      exact Nat.le_add_right _ _
    refine ⟨.t0, _, [], m, by rw [he]; rfl, ⟨d'.toList, by simpa using hperm, pair_sorted hsd, rfl, rfl, rfl⟩, ⟨by simp [fps, Chunk.fp], ⟨⟨fun x hx => ?_, .inr ⟨b, rfl, hrow'⟩⟩, trivial⟩, fun q o hq => ?_, trivial⟩, ⟨hsize, fun q hq hx => ?_, fun q hq => .inl hq, fun _ _ h => h, fun _ _ h => .inl h, ⟨rfl, rfl, hsize⟩⟩⟩
    · obtain ⟨y, _, hy⟩ := List.mem_flatMap.1 hx
      exact hF1 y x hy
    · obtain ⟨h1, h2⟩ := hh.im q o hq
      have hne : q ≠ b := fun h => h2 (by simp [fps, Chunk.fp, h])
      refine ⟨?_, by simpa [fps, Chunk.fp] using h2⟩
      rw [sorted_other (Array.getElem?_eq_some_iff.1 h1).1 hne]; exact h1
    · exact sorted_other hq (fun h => hx (by simp [fps, Chunk.fp, h]))

end Go.X
