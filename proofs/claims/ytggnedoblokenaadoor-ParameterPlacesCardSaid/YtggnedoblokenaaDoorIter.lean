/- This text gives the contracts of maps.Keys and slices.Sorted, for maps whose keys are strings, in the form of the symbolic executor. -/
import Derived.Test.YtggnedoblokenaaDoorPar
import Derived.Test.YtggnedoblokenaaDoorIterL
import Derived.StringKeys
set_option linter.all false

namespace Go.X
open Go Go.RowKit

/-- A call that makes a new row. -/
theorem holds_row {w w' : World} {m : Im} {L : List Chunk} {D : List Fact} (h : Holds w m L D) (hb : Below w.heap.size w w') {ety esz n c : Nat} {a : Option Addr} {cs : List C} (hok : (Chunk.row ety esz a n c cs).ok w')
    (hf : ∀ g, a = some g → w.heap.size ≤ g.block) : Holds w' m (.row ety esz a n c cs :: L) D ∧ Fr w L m w' (.row ety esz a n c cs :: L) m := by
  obtain ⟨h1, f1⟩ := h.ofBelow hb
  have hlt := mem_fps_lt h.ok
  have hfp : ∀ b ∈ (Chunk.row ety esz a n c cs).fp, w.heap.size ≤ b := by
    intro b hb'
    cases a with
    | none => simp [Chunk.fp] at hb'
    | some g => simp [Chunk.fp] at hb'; subst hb'; exact hf g rfl
  refine ⟨⟨?_, ⟨hok, h1.ok⟩, fun b o ho => ⟨(h1.im b o ho).1, fun hc => ?_⟩, h1.d⟩, ⟨f1.size, f1.same, fun b hb' => ?_, f1.im, f1.new, f1.kept⟩⟩
  · refine List.nodup_append.2 ⟨?_, h1.nd, fun x hx y hy e => ?_⟩
    · cases a <;> simp [Chunk.fp]
    · have := hfp x hx; have := hlt y hy; omega
  · rcases List.mem_append.1 hc with hc | hc
    · have h2 := hfp b hc
      have h3 := (Array.getElem?_eq_some_iff.1 (h.im b o ho).1).1
      omega
    · exact (h1.im b o ho).2 hc
  · rcases List.mem_append.1 hb' with hb' | hb'
    · exact .inr (hfp b hb')
    · exact f1.own b hb'

/-! ### The kit's view of a map -/

theorem insert_perm {H : Type} (x : Lit × DataW H) : ∀ l : List (Lit × DataW H), (DataW.insert x l).Perm (x :: l)
  | [] => .refl _
  | y :: r => by
    unfold DataW.insert
    split
    · exact .refl _
    · exact ((insert_perm x r).cons y).trans (.swap x y r)
theorem sorted_perm {H : Type} : ∀ l : List (Lit × DataW H), (l.foldr DataW.insert []).Perm l
  | [] => .refl _
  | x :: r => (insert_perm x _).trans ((sorted_perm r).cons x)

def anyR (_ : Value) : Option (DataW Unit × List MemPlace) := some (.nil, [])

theorem mapEs_mem : ∀ {kv : Kv} {n : Nat} {x : MapEntry}, x ∈ mapEs kv n → n ≤ x.born ∧ x.born < n + kv.length ∧ ∃ y ∈ kv, x.key = .string ⟨⟨y.1⟩⟩
  | [], _, _, h => by simp [mapEs] at h
  | y :: r, n, x, h => by
    simp only [mapEs, List.mem_cons] at h
    rcases h with rfl | h
    · exact ⟨Nat.le_refl _, by simp, y, by simp, rfl⟩
    · obtain ⟨h1, h2, z, hz, he⟩ := mapEs_mem h
      exact ⟨by omega, by simp; omega, z, by simp [hz], he⟩
theorem mapEs_len : ∀ (kv : Kv) (n : Nat), (mapEs kv n).length = kv.length
  | [], _ => rfl
  | y :: r, n => by simp [mapEs, mapEs_len r]
theorem mapEs_born : ∀ (kv : Kv) (n : Nat), ((mapEs kv n).map (·.born)).Nodup
  | [], _ => List.nodup_nil
  | y :: r, n => by
    simp only [mapEs, List.map_cons]
    refine List.nodup_cons.2 ⟨fun hc => ?_, mapEs_born r (n + 1)⟩
    obtain ⟨x, hx, he⟩ := List.mem_map.1 hc
    have := (mapEs_mem hx).1
    omega
theorem mapEs_keys : ∀ (kv : Kv) (n : Nat), (mapEs kv n).map (·.key) = kv.map fun y => Value.string ⟨⟨y.1⟩⟩
  | [], _ => rfl
  | y :: r, n => by simp [mapEs, mapEs_keys r]

theorem map_owned {P : Program} {k : TypeId} (hk : P.underlying k = some .string) {w : World} {b : Nat} {kv : Kv} (h : w.heap[b]? = some (mapO kv)) (hn : (kv.map (·.1)).Nodup) (hl : ∀ y ∈ kv, y.1.length ≤ maxLen) (hs : kv.length ≤ maxLen) :
    ∃ D0 : DataW Unit, w.ownsMap P k anyR b kv.length D0 ∧ (strKeys D0).Perm (kv.map (·.1)) ∧ Maps.size D0 = kv.length := by
  have hrd : ∀ x ∈ mapEs kv 0, ∀ y, x.key = .string ⟨⟨y⟩⟩ → y.length ≤ maxLen → WideElems.rd P k anyR x = some (.string y, .nil) := by
    intro x _ y he hy
    unfold WideElems.rd
    rw [he, WideMaps.keyOf_string_mk hk (s := ⟨⟨y⟩⟩) hy]
    rfl
  have hfit : WideElems.Fit P k anyR (mapEs kv 0).toArray kv.length := by
    refine ⟨by simpa [mapEs_len] using hs, ⟨fun x hx => ?_, by simpa using mapEs_born kv 0, ?_⟩, fun x hx => ?_⟩
    · have := (mapEs_mem (by simpa using hx)).2.1; omega
    · simp only [mapEs_keys]
      rw [show (kv.map fun y => Value.string ⟨⟨y.1⟩⟩) = (kv.map (·.1)).map fun y => Value.string ⟨⟨y⟩⟩ from by rw [List.map_map]; rfl]
      exact (List.pairwise_map.2 (hn.imp fun {a b} hab e => hab (by simpa using e)))
    · have hx' : x ∈ mapEs kv 0 := by simpa using hx
      obtain ⟨_, _, y, hy, he⟩ := mapEs_mem hx'
      exact ⟨_, hrd x hx' y.1 he (hl y hy)⟩
  have hkeys : ∀ (r : Kv) (n : Nat), (∀ x ∈ mapEs r n, ∀ y, x.key = .string ⟨⟨y⟩⟩ → y.length ≤ maxLen → WideElems.rd P k anyR x = some (.string y, .nil)) → (∀ y ∈ r, y.1.length ≤ maxLen) →
      ((mapEs r n).map (WideElems.rg P k anyR)).map (fun p => strOf p.1) = r.map (·.1) := by
    intro r
    induction r with
    | nil => intro n _ _; rfl
    | cons y r ih =>
      intro n h1 h2
      simp only [mapEs, List.map_cons]
      rw [ih (n + 1) (fun x hx => h1 x (by simp [mapEs, hx])) (fun z hz => h2 z (by simp [hz]))]
      congr 1
      unfold WideElems.rg
      rw [h1 _ (by simp only [mapEs]; exact List.mem_cons_self ..) y.1 rfl (h2 y (by simp))]
      rfl
  refine ⟨.map (((mapEs kv 0).map (WideElems.rg P k anyR)).foldr DataW.insert []), ⟨_, _, h, hfit, by simp [mapEs_len], by simp⟩, ?_, ?_⟩
  · show ((((mapEs kv 0).map (WideElems.rg P k anyR)).foldr DataW.insert []).map fun p => strOf p.1).Perm _
    refine ((sorted_perm _).map _).trans ?_
    rw [hkeys kv 0 hrd hl]
  · show (((mapEs kv 0).map (WideElems.rg P k anyR)).foldr DataW.insert []).length = _
    rw [(sorted_perm _).length_eq, List.length_map, mapEs_len]

end Go.X

namespace Go.Proofs
open Go Go.X Go.RowKit Go.Maps Go.Sort Go.Shelf
set_option maxRecDepth 100000
set_option maxHeartbeats 4000000

theorem keysOf_ok (id ad : Nat) : FnS Tryd.prog 23 [.c (.m id ad)] [] []
    (fun v L D => ∃ b, v = .c (.fn 30 [(9, b, 0)]) ∧ L = [.box 9 b 44 [.m id ad]] ∧ D = []) := by
  refine ⟨⟨_, Tryd.func23, by kernel_rfl, by kernel_rfl⟩, fun w m hh => ?_⟩
  refine ((callsIn_wide (n := 5)).1 (Tryd.maps_Keys_23 (some ad) w)).mono ?_
  rintro e w' ⟨rfl, rfl⟩
  have h0 : Holds w m [] [] := ⟨hh.nd, hh.ok, hh.im, trivial⟩
  obtain ⟨h1, h2⟩ := holds_alloc h0 (.cells #[.map (some ad)] 44) (.box 9 w.heap.size 44 [.m id ad]) rfl
    ⟨fun x hx => by rw [List.mem_singleton] at hx; subst hx; rfl, heap_alloc_new w _⟩
  exact ⟨_, _, [], m, rfl, ⟨w.heap.size, rfl, rfl, rfl⟩, h1, h2⟩

theorem sortedKeys_ok (idb b id ad : Nat) (kv : Kv) (hn : (kv.map (·.1)).Nodup) (hl : ∀ y ∈ kv, y.1.length ≤ maxLen) (hs : kv.length ≤ 1000) :
    FnS Tryd.prog 22 [.c (.fn 30 [(idb, b, 0)])] [.box idb b 44 [.m id ad], .obj id ad (mapO kv)] []
    (fun v L D => ∃ a c, v = .c (.sl a kv.length c) ∧ L = [.row 9 1 a kv.length c (((kv.map (·.1)).mergeSort leB).map C.s), .box idb b 44 [.m id ad], .obj id ad (mapO kv)] ∧ D = []) := by
  refine ⟨⟨_, Tryd.func22, by kernel_rfl, by kernel_rfl⟩, fun w m hh => ?_⟩
  have hbox : w.heap[b]? = some (.cells #[.map (some ad)] 44 (0, 0)) := hh.ok.1.2
  have hobj : w.heap[ad]? = some (mapO kv) := hh.ok.2.1
  have hm : maxLen = 9223372036854775807 := rfl
  have hstr : Tryd.prog.underlying 9 = some .string := by show Program.underlying _ _ = _; kernel_rfl
  obtain ⟨D0, hown, hperm, hsz⟩ := map_owned (P := Tryd.prog) (k := 9) hstr hobj hn hl (by omega)
  have hcell : w.cell? ⟨b, 0, none⟩ = some (.map (some ad)) := by simp [World.cell?, hbox]
  have hseq := AnyZ.keys_gives (ρ := Tryd.keys23_ren) { Tryd.keys23 with } Fence.wide 2 trivial rfl (by omega) b ad kv.length D0 w (Array.getElem?_eq_some_iff.1 hbox).1 hcell hown
  refine ((callsIn_wide (n := 5)).1 (AnyZ.sorted_in Tryd.sorted22 Fence.wide 5 trivial trivial trivial trivial rfl (by omega) (Tryd.sorts22 _) (enters_of Tryd.func29 (by kernel_rfl) rfl)
    30 #[.pointer (some ⟨b, 0, none⟩)] trivial (enters_of Tryd.func30 (by kernel_rfl) rfl) _ _ (by rw [hsz]; omega) (by rw [hsz]; omega) _ hseq)).mono ?_
  rintro e w' ⟨v, ss, rfl, hS, hrow, _, hb⟩
  have hp2 : ss.Perm (kv.map (·.1)) := hS.trans hperm
  have hsort : (ss.mergeSort fun x y => decide (x ≤ y)) = (kv.map (·.1)).mergeSort leB := mergeSort_of_perm hp2
  have hlen : ss.length = kv.length := by rw [hp2.length_eq, List.length_map]
  rw [hsort, hlen] at hrow
  have hone : oneAll (((kv.map (·.1)).mergeSort leB).map C.s) := fun x hx => by obtain ⟨y, _, rfl⟩ := List.mem_map.1 hx; rfl
  have henc : ((kv.map (·.1)).mergeSort leB).map encStr = (((kv.map (·.1)).mergeSort leB).map C.s).map C.enc := by rw [List.map_map]; rfl
  rcases hrow.2 with ⟨rfl, hz⟩ | ⟨gb, cap, cur, rfl, hbase, hgb, r1, r2, r3, r4⟩
  · have hkv : kv = [] := List.eq_nil_of_length_eq_zero hz
    obtain ⟨h1, h2⟩ := holds_row hh hb (ety := 9) (esz := 1) (n := kv.length) (c := 0) (a := none) (cs := ((kv.map (·.1)).mergeSort leB).map C.s) ⟨hone, .inl ⟨rfl, hz, rfl, by subst hkv; simp⟩⟩ (fun g hg => by cases hg)
    exact ⟨_, _, _, m, by rw [hz]; rfl, ⟨none, 0, rfl, rfl, rfl⟩, h1, h2⟩
  · obtain ⟨h1, h2⟩ := holds_row hh hb (ety := 9) (esz := 1) (n := kv.length) (c := cap) (a := some ⟨gb, 0, none⟩) (cs := ((kv.map (·.1)).mergeSort leB).map C.s)
      ⟨hone, .inr ⟨gb, rfl, cur, 0, 0, hgb, r1, r2, r3, .inr (Nat.le_refl _), by simp, by rw [r4, henc]⟩⟩ (fun g hg => by cases hg; exact hbase)
    exact ⟨_, _, _, m, rfl, ⟨some ⟨gb, 0, none⟩, cap, rfl, rfl, rfl⟩, h1, h2⟩

end Go.Proofs
