/- This text proves the statement HtmlMissing for every input: the call returns true, and leaves its argument alone. -/
import Derived.Test.YtdnkeinjfddmnaaGreatDoorW07
import Derived.Test.YtdnkeinjfddmnaaGreatDoorW01
import Derived.Sort.Statements
import Derived.Shelf.SlSortCmp.WholeK
import Derived.Test.YtdnkeinjfddmnaaGreatDoorW09
import Derived.Test.YtdnkeinjfddmnaaGreatDoorW04
import Derived.Test.YtdnkeinjfddmnaaGreatDoorProg
import Derived.Test.YtdnkeinjfddmnaaGreatDoorW05
import Derived.Sort.Grow
import Derived.Test.YtdnkeinjfddmnaaGreatDoorW06
import Derived.Test.YtdnkeinjfddmnaaGreatDoorW08
import Derived.Test.YtdnkeinjfddmnaaGreatDoorW14
import Derived.Test.YtdnkeinjfddmnaaGreatDoorW15
set_option linter.all false
namespace Go.X
open Go.Lib
theorem u8_lt {x y : UInt8} : x < y ↔ x.toNat < y.toNat := UInt8.lt_iff_toNat_lt
theorem u8_eq {x y : UInt8} : x = y ↔ x.toNat = y.toNat := ⟨fun h => by rw [h], UInt8.toNat_inj.1⟩
theorem cmpB_eq : ∀ a b : List UInt8, compareBytes a b = 0 ↔ a = b
  | [], [] => by simp [compareBytes]
  | [], _ :: _ => by simp [compareBytes]
  | _ :: _, [] => by simp [compareBytes]
  | x :: a, y :: b => by
    have ih := cmpB_eq a b
    simp only [compareBytes, List.cons.injEq, u8_lt, u8_eq]
    split
    · constructor
      · intro h; omega
      · rintro ⟨h, _⟩; omega
    · split
      · constructor
        · intro h; omega
        · rintro ⟨h, _⟩; omega
      · rw [ih]
        exact ⟨fun h => ⟨by omega, h⟩, fun h => h.2⟩
theorem cmpB_swap : ∀ a b : List UInt8, compareBytes a b = - compareBytes b a
  | [], [] => by simp [compareBytes]
  | [], _ :: _ => by simp [compareBytes]
  | _ :: _, [] => by simp [compareBytes]
  | x :: a, y :: b => by
    have ih := cmpB_swap a b
    simp only [compareBytes, u8_lt]
    split
    · rw [if_neg (by omega)]
    · split
      · rfl
      · exact ih
theorem cmpB_trans : ∀ a b c : List UInt8, compareBytes a b ≤ 0 → compareBytes b c ≤ 0 → compareBytes a c ≤ 0
  | [], [], _, _, h => h
  | [], _ :: _, [], _, h => by simp [compareBytes] at h
  | [], _ :: _, _ :: _, _, _ => by simp [compareBytes]
  | _ :: _, [], _, h, _ => by simp [compareBytes] at h
  | _ :: _, _ :: _, [], _, h => by simp [compareBytes] at h
  | x :: a, y :: b, z :: c, h1, h2 => by
    have ih := cmpB_trans a b c
    simp only [compareBytes, u8_lt] at *
    split at h1
    · split at h2
      · rw [if_pos (by omega)]; omega
      · split at h2
        · omega
        · rw [if_pos (by omega)]; omega
    · split at h1
      · omega
      · split at h2
        · rw [if_pos (by omega)]; omega
        · split at h2
          · omega
          · rw [if_neg (by omega), if_neg (by omega)]; exact ih h1 h2
theorem cmpI (a b : Int) : (a < b ∧ compareInt a b = -1) ∨ (a = b ∧ compareInt a b = 0) ∨ (b < a ∧ compareInt a b = 1) := by
  unfold compareInt
  rcases Int.lt_trichotomy a b with h | h | h
  · rw [if_pos h]; exact .inl ⟨h, rfl⟩
  · rw [if_neg (by omega), if_neg (by omega)]; exact .inr (.inl ⟨h, rfl⟩)
  · rw [if_neg (by omega), if_pos h]; exact .inr (.inr ⟨h, rfl⟩)
theorem compareT_eq (a : Int) (x : List UInt8) (b : Int) (y : List UInt8) : compareT a x b y = 0 ↔ a = b ∧ x = y := by
  have h := cmpB_eq x y
  unfold compareT
  rcases cmpI a b with ⟨h0, h1⟩ | ⟨h0, h1⟩ | ⟨h0, h1⟩ <;> rw [h1] <;> simp
  · omega
  · rw [h]; exact ⟨fun e => ⟨h0, e⟩, fun e => e.2⟩
  · omega
theorem compareT_swap (a : Int) (x : List UInt8) (b : Int) (y : List UInt8) : compareT a x b y = - compareT b y a x := by
  have h := cmpB_swap x y
  unfold compareT
  rcases cmpI a b with ⟨h0, h1⟩ | ⟨h0, h1⟩ | ⟨h0, h1⟩ <;> rcases cmpI b a with ⟨h2, h3⟩ | ⟨h2, h3⟩ | ⟨h2, h3⟩ <;> rw [h1, h3] <;> simp <;> first | omega | exact h
theorem compareT_trans {a : Int} {x : List UInt8} {b : Int} {y : List UInt8} {c : Int} {z : List UInt8} (h1 : compareT a x b y ≤ 0) (h2 : compareT b y c z ≤ 0) : compareT a x c z ≤ 0 := by
  have h := cmpB_trans x y z
  unfold compareT at *
  rcases cmpI a b with ⟨p0, p1⟩ | ⟨p0, p1⟩ | ⟨p0, p1⟩ <;> rcases cmpI b c with ⟨q0, q1⟩ | ⟨q0, q1⟩ | ⟨q0, q1⟩ <;> rcases cmpI a c with ⟨r0, r1⟩ | ⟨r0, r1⟩ | ⟨r0, r1⟩ <;> rw [p1] at h1 <;> rw [q1] at h2 <;> rw [r1] <;> simp at * <;> first | omega | exact h h1 h2 | skip
end Go.X
namespace Go.X
open Go Go.Lib
structure WR where
  w : List UInt8
  sp : Int
  nm : List UInt8
  n : Int
  deriving DecidableEq
structure HT where
  sp : Int
  nm : List UInt8
  n : Int
  deriving DecidableEq
def WR.cells (x : WR) : List C := [.s x.w, .i .i64 x.sp, .s x.nm, .i .i64 x.n]
def HT.cells (x : HT) : List C := [.i .i64 x.sp, .s x.nm, .i .i64 x.n]
end Go.X
namespace Go.X
open Go Go.Lib Go.Proofs
structure Cmp {α : Type} (cf : α → α → Int) : Prop where
  swap : ∀ x y, cf x y = - cf y x
  trans : ∀ x y z, cf x y ≤ 0 → cf y z ≤ 0 → cf x z ≤ 0
theorem Cmp.on {α β : Type} {cf : α → α → Int} (h : Cmp cf) (f : β → α) : Cmp fun x y => cf (f x) (f y) := ⟨fun x y => h.swap _ _, fun x y z => h.trans _ _ _⟩
theorem cmp_title : Cmp fun x y : Int × List UInt8 => compareT x.1 x.2 y.1 y.2 := ⟨fun x y => compareT_swap _ _ _ _, fun x y z => compareT_trans⟩
theorem Cmp.swo {α : Type} {cf : α → α → Int} (h : Cmp cf) : Sort.SWO (ltOf cf) where
  irrefl x := by have := h.swap x x; unfold ltOf; rw [decide_eq_false_iff_not]; omega
  trans x y z h1 h2 := by
    unfold ltOf at *
    rw [decide_eq_true_eq] at *
    have a1 := h.swap x z; have a2 := h.swap y z; have a3 := h.swap x y
    have t1 := h.trans x y z (by omega) (by omega)
    have t2 := h.trans z x y
    omega
  ntrans x y z h1 h2 := by
    unfold ltOf at *
    rw [decide_eq_false_iff_not] at *
    have a1 := h.swap x z; have a2 := h.swap y z; have a3 := h.swap x y
    have t1 := h.trans z y x (by omega) (by omega)
    omega
def OrdL {α : Type} (cf : α → α → Int) (l : List α) : Prop := l.Pairwise fun x y => cf x y ≤ 0
theorem ordL_of {α : Type} {cf : α → α → Int} (h : Cmp cf) {l : List α} (hl : l.Pairwise fun x y => ltOf cf y x = false) : OrdL cf l := hl.imp fun {x y} hxy => by
  have := h.swap x y
  unfold ltOf at hxy
  rw [decide_eq_false_iff_not] at hxy
  omega
theorem Cmp.refl {α : Type} {cf : α → α → Int} (h : Cmp cf) (x : α) : cf x x = 0 := by have := h.swap x x; omega
end Go.X
namespace Go.X
open Go Go.Lib Go.Proofs
def StrL {α : Type} (cf : α → α → Int) (l : List α) : Prop := l.Pairwise fun x y => cf x y < 0
theorem strL_eq {α : Type} {cf : α → α → Int} (h : Cmp cf) : ∀ {l l' : List α}, StrL cf l → StrL cf l' → (∀ x, x ∈ l ↔ x ∈ l') → l = l'
  | [], [], _, _, _ => rfl
  | [], y :: s, _, _, hm => by have := (hm y).2 (List.mem_cons_self ..); cases this
  | x :: r, [], _, _, hm => by have := (hm x).1 (List.mem_cons_self ..); cases this
  | x :: r, y :: s, h1, h2, hm => by
    have h1' := List.pairwise_cons.1 h1
    have h2' := List.pairwise_cons.1 h2
    have hxy : x = y := by
      rcases List.mem_cons.1 ((hm x).1 (List.mem_cons_self ..)) with a | a
      · exact a
      rcases List.mem_cons.1 ((hm y).2 (List.mem_cons_self ..)) with b | b
      · exact b.symm
      have c1 := h2'.1 x a
      have c2 := h1'.1 y b
      have := h.swap x y
      omega
    subst hxy
    rw [strL_eq h h1'.2 h2'.2 (fun z => ⟨fun hz => ?_, fun hz => ?_⟩)]
    · rcases List.mem_cons.1 ((hm z).1 (List.mem_cons_of_mem _ hz)) with e | e
      · subst e; have := h1'.1 z hz; have := h.refl z; omega
      · exact e
    · rcases List.mem_cons.1 ((hm z).2 (List.mem_cons_of_mem _ hz)) with e | e
      · subst e; have := h2'.1 z hz; have := h.refl z; omega
      · exact e
theorem Cmp.lt_trans {α : Type} {cf : α → α → Int} (h : Cmp cf) {x y z : α} (h1 : cf x y < 0) (h2 : cf y z ≤ 0) : cf x z < 0 := by
  have a1 := h.swap x z; have a2 := h.swap y z; have a3 := h.swap x y
  have t1 := h.trans x y z (by omega) (by omega)
  have t2 := h.trans y z x
  omega
def addG {α : Type} [DecidableEq α] (cf : α → α → Int) : List α → α → List α
  | [], r => [r]
  | x :: t, r => if cf x r < 0 then x :: addG cf t r else if x = r then x :: t else r :: x :: t
section
variable {α : Type} [DecidableEq α] {cf : α → α → Int}
theorem addG_len (l : List α) (r : α) : (addG cf l r).length ≤ l.length + 1 := by
  induction l with
  | nil => exact Nat.le_refl _
  | cons x t ih =>
    simp only [addG]
    split
    · simp; omega
    · split <;> simp
theorem addG_mem (l : List α) (r z : α) : z ∈ addG cf l r ↔ z ∈ l ∨ z = r := by
  induction l with
  | nil => simp [addG]
  | cons x t ih =>
    simp only [addG]
    split
    · simp [ih, or_assoc]
    · split
      · rename_i h; subst h; simp
        intro h; exact .inl h
      · simp [or_comm, or_assoc, or_left_comm]
theorem addG_str (hc : Cmp cf) (he : ∀ x y, cf x y = 0 → x = y) (l : List α) (r : α) (hl : StrL cf l) : StrL cf (addG cf l r) := by
  induction l with
  | nil => exact List.pairwise_cons.2 ⟨fun _ h => (by cases h), List.Pairwise.nil⟩
  | cons x t ih =>
    have hl' := List.pairwise_cons.1 hl
    simp only [addG]
    split
    · rename_i h
      refine List.pairwise_cons.2 ⟨fun z hz => ?_, ih hl'.2⟩
      rcases (addG_mem t r z).1 hz with hz | hz
      · exact hl'.1 z hz
      · rw [hz]; exact h
    · rename_i h
      split
      · exact hl
      · rename_i hne
        have hs := hc.swap x r
        have hrx : cf r x < 0 := by
          have : cf r x ≠ 0 := fun e => hne (he r x e).symm
          omega
        refine List.pairwise_cons.2 ⟨fun z hz => ?_, hl⟩
        rcases List.mem_cons.1 hz with hz | hz
        · rw [hz]; exact hrx
        · exact hc.lt_trans hrx (by have := hl'.1 z hz; omega)
theorem foldAddG_len (l : List α) : ∀ m : List α, (l.foldl (addG cf) m).length ≤ m.length + l.length := by
  induction l with
  | nil => intro m; simp
  | cons x t ih =>
    intro m
    have := ih (addG cf m x)
    have := addG_len (cf := cf) m x
    rw [List.foldl_cons, List.length_cons]; omega
end
abbrev TT := Int × List UInt8
def cmpTT (x y : TT) : Int := compareT x.1 x.2 y.1 y.2
theorem cmp_TT : Cmp cmpTT := cmp_title
theorem cmpTT_eq (x y : TT) (h : cmpTT x y = 0) : x = y := by
  obtain ⟨h1, h2⟩ := (compareT_eq _ _ _ _).1 h
  exact Prod.ext h1 h2
def ttC (l : List (Int × List UInt8)) : List C := l.flatMap fun t => [.i .i64 t.1, .s t.2]
def ttF2 (t : Int × List UInt8) : List C := [.i .i64 t.1, .s t.2]
theorem ttC_len (l : List TT) : (ttC l).length = l.length * 2 := flat_len (F := ttF2) (z := 2) (fun _ => rfl) l
theorem ttl_get {l : List TT} {i : Nat} (h : i < l.length) : ((ttC l).drop (i * 2 + 0)).take 2 = [.i .i64 l[i].1, .s l[i].2] := by
  rw [show ttC l = l.flatMap ttF2 from rfl, flat_get (F := ttF2) (z := 2) (fun _ => rfl) h (by omega)]; rfl
theorem ttsuf {e : Nat} {a : Option Addr} {n c k : Nat} {m : List TT} {L : List Chunk} {D : List Fact} (hm : Chunk.row e 2 a n c (ttC m) ∈ L) (hn : m.length = n) (hk : k ≤ n) (hc : n ≤ c) : Reads L D e 2 (resl a k c 2) (n - k) (ttC (m.drop k)) := rsufF (F := ttF2) (fun _ => rfl) m hm hn hk hc
theorem tt_ext {x y : TT} (h : x.1 = y.1 ∧ x.2 = y.2 ∧ True) : x = y := Prod.ext h.1 h.2.1
theorem tt_ne {x y : TT} (h : ¬ (x.1 = y.1 ∧ x.2 = y.2 ∧ True)) : ¬ x = y := fun e => h (by subst e; exact ⟨rfl, rfl, trivial⟩)
theorem foldAddG_str {α : Type} [DecidableEq α] {cf : α → α → Int} (hc : Cmp cf) (he : ∀ x y, cf x y = 0 → x = y) : ∀ (l m : List α), StrL cf m → StrL cf (l.foldl (addG cf) m) ∧ ∀ z, z ∈ l.foldl (addG cf) m ↔ z ∈ m ∨ z ∈ l
  | [], m, h => ⟨h, fun z => by simp⟩
  | x :: r, m, h => by
    have h1 := foldAddG_str hc he r (addG cf m x) (addG_str hc he m x h)
    refine ⟨h1.1, fun z => ?_⟩
    rw [List.foldl_cons, h1.2, addG_mem, List.mem_cons, or_assoc]
end Go.X
namespace Go.X
open Go Go.Sort Go.Proofs
theorem flat_at {α : Type} {F : α → List C} {k : Nat} (hF : ∀ x, (F x).length = k) : ∀ {d : List α} {t : Nat} (_ : t < d.length * k), ∃ (h : t / k < d.length) (h2 : t % k < (F (d[t / k]'h)).length), (d.flatMap F)[t]? = some ((F (d[t / k]'h))[t % k]'h2)
  | [], t, h => by simp at h
  | x :: r, t, h => by
    have hk : 0 < k := by rcases Nat.eq_zero_or_pos k with h0 | h0; · subst h0; simp at h
                          · exact h0
    by_cases ht : t < k
    · have h1 : t / k = 0 := Nat.div_eq_of_lt ht
      have h2 : t % k = t := Nat.mod_eq_of_lt ht
      refine ⟨by rw [h1]; simp, by simp only [h1, h2, List.getElem_cons_zero, hF]; exact ht, ?_⟩
      simp only [h1, h2, List.getElem_cons_zero]
      rw [List.flatMap_cons, List.getElem?_append_left (by rw [hF]; exact ht), List.getElem?_eq_getElem (by rw [hF]; exact ht)]
    · obtain ⟨u, rfl⟩ : ∃ u, t = u + k := ⟨t - k, by omega⟩
      have h1 : (u + k) / k = u / k + 1 := Nat.add_div_right u hk
      have h2 : (u + k) % k = u % k := Nat.add_mod_right u k
      have hu : u < r.length * k := by simp only [List.length_cons, Nat.add_mul, Nat.one_mul] at h; omega
      obtain ⟨h3, h4, h5⟩ := flat_at hF (d := r) (t := u) hu
      refine ⟨by rw [h1]; simpa using h3, by simp only [h1, h2, List.getElem_cons_succ]; exact h4, ?_⟩
      simp only [h1, h2, List.getElem_cons_succ]
      rw [List.flatMap_cons, List.getElem?_append_right (by rw [hF]; omega), hF, Nat.add_sub_cancel, h5]
abbrev encF {α : Type} (F : α → List C) : α → List Value := fun x => (F x).map C.enc
theorem flatK_list {α : Type} [Inhabited α] {F : α → List C} {k : Nat} (hF : ∀ x, (F x).length = k) (d : List α) : (flatK (encF F) k d.toArray).toList = (d.flatMap F).map C.enc := by
  have hlen : (d.flatMap F).length = d.length * k := flat_len hF d
  apply List.ext_getElem?
  intro t
  by_cases ht : t < d.length * k
  · obtain ⟨h1, h2, h3⟩ := flat_at hF ht
    rw [List.getElem?_map, h3]
    have h4 := get_flatK (encF F) k d.toArray t (by simpa using ht)
    rw [getElem!_pos _ t (by simpa using ht)] at h4
    rw [Array.getElem?_toList, Array.getElem?_eq_getElem (by simpa using ht), h4]
    rw [getElem!_pos d.toArray (t / k) (by simpa using h1)]
    simp only [List.getElem_toArray, Option.map_some]
    rw [getElem!_pos _ (t % k) (by simpa using h2)]
    simp
  · rw [List.getElem?_eq_none (by simp; omega), List.getElem?_eq_none (by rw [List.length_map, hlen]; omega)]
theorem holdsK_of_row {α : Type} [Inhabited α] {F : α → List C} {k : Nat} (hF : ∀ x, (F x).length = k) {w : World} {g ety c : Nat} {d : List α} (h : RowIn w.heap[g]? ety k d.length c (d.flatMap F)) : HoldsK (encF F) k w g 0 d.toArray := by
  obtain ⟨cur, lo, hi, ho, hn, hc, hs, hfr, hl, ht⟩ := h
  intro j hj
  rw [size_flatK] at hj
  have hj' : j < d.length * k := by simpa using hj
  have hcur : j < cur.size := by
    have := Nat.mul_le_mul_right k hn
    omega
  have h1 : cur[j]? = some ((flatK (encF F) k d.toArray)[j]!) := by
    have h2 : (cur.toList.take (d.length * k))[j]? = some (cur[j]'hcur) := by
      rw [List.getElem?_take, if_pos hj', Array.getElem?_toList, Array.getElem?_eq_getElem hcur]
    rw [ht, ← flatK_list hF d, Array.getElem?_toList, Array.getElem?_eq_getElem (by simpa using hj)] at h2
    rw [Array.getElem?_eq_getElem hcur, getElem!_pos _ j (by simpa using hj)]
    exact h2.symm
  refine ⟨?_, ?_⟩
  · simp only [World.cell?, ho, Nat.zero_add]
    rw [h1]; rfl
  · simp only [World.frozen?, ho, Nat.zero_add, Bool.and_eq_false_iff, decide_eq_false_iff_not]
    omega
theorem row_sorted {α : Type} [Inhabited α] {F : α → List C} {k : Nat} (hF : ∀ x, (F x).length = k) {w : World} {g ety c m : Nat} {d d' : List α} {os : Array Obj} (hl : d'.length = d.length) (h : RowIn w.heap[g]? ety k d.length c (d.flatMap F)) (hg : g < w.heap.size) :
    RowIn (sortWorldK (encF F) k w g 0 m d'.toArray os).heap[g]? ety k d'.length c (d'.flatMap F) := by
  obtain ⟨cur, lo, hi, ho, hn, hc, hs, hfr, hcl, ht⟩ := h
  have hsz : g < (putRowK (encF F) k (Sort.ahead w m) g 0 d'.toArray).heap.size := by
    show g < (mapBlock (Sort.ahead w m) g _).heap.size
    simp only [mapBlock, Array.size_modify]
    exact hg
  have hget : (sortWorldK (encF F) k w g 0 m d'.toArray os).heap[g]? = some (.cells (putCells id 0 (flatK (encF F) k d'.toArray) cur) ety (lo, hi)) := by
    unfold sortWorldK
    rw [heap_grow_old _ _ hsz]
    show (mapBlock (Sort.ahead w m) g _).heap[g]? = _
    simp only [mapBlock, Array.getElem?_modify, if_true]
    rw [show (Sort.ahead w m).heap[g]? = w.heap[g]? from rfl, ho]
    rfl
  rw [hget]
  refine ⟨_, lo, hi, rfl, by omega, hc, by simp [putCells, hs], by simpa [putCells] using hfr, by rw [flat_len hF], ?_⟩
  rw [← flatK_list hF d']
  have hle := Nat.mul_le_mul_right k hn
  apply List.ext_getElem?
  intro t
  by_cases h1 : t < d'.length * k
  · rw [List.getElem?_take, if_pos h1, Array.getElem?_toList, Array.getElem?_toList]
    have h2 : t < cur.size := by rw [hl] at h1; omega
    simp only [putCells, Array.getElem?_mapIdx, Array.getElem?_eq_getElem h2, Option.map_some, size_flatK, List.size_toArray, Nat.zero_le, true_and, Nat.zero_add, h1, if_true, Nat.sub_zero, id]
    rw [getElem!_pos _ t (by simpa using h1), Array.getElem?_eq_getElem (by simpa using h1)]
  · rw [List.getElem?_take, if_neg h1, List.getElem?_eq_none (by simp; omega)]
theorem sorted_other {α : Type} [Inhabited α] {enc : α → List Value} {k : Nat} {w : World} {g m b : Nat} {d : Array α} {os : Array Obj} (hb : b < w.heap.size) (hn : b ≠ g) : (sortWorldK enc k w g 0 m d os).heap[b]? = w.heap[b]? := by
  have hsz : b < (putRowK enc k (Sort.ahead w m) g 0 d).heap.size := by
    show b < (mapBlock (Sort.ahead w m) g _).heap.size
    simp only [mapBlock, Array.size_modify]
    exact hb
  unfold sortWorldK
  rw [heap_grow_old _ _ hsz]
  show (mapBlock (Sort.ahead w m) g _).heap[b]? = _
  simp only [mapBlock, Array.getElem?_modify]
  rw [if_neg (fun h => hn h.symm)]
  rfl
theorem perm_whole {α : Type} [Inhabited α] {d d' : Array α} (h : PermIn 0 d.size d d') : d'.toList.Perm d.toList := by
  obtain ⟨h1, _, h3⟩ := h
  rw [show d.size = d'.size from h1.symm] at h3
  rw [Array.extract_size] at h3
  rwa [h1, Array.extract_size] at h3
theorem pair_sorted {α : Type} [Inhabited α] {lt : α → α → Bool} {d : Array α} (h : SortedIn lt 0 d.size d) : d.toList.Pairwise fun x y => lt y x = false := by
  rw [List.pairwise_iff_getElem]
  intro i j hi hj hij
  have := h i j (Nat.zero_le _) hij (by simpa using hj)
  rw [getElem!_pos d j (by simpa using hj), getElem!_pos d i (by simpa using hi)] at this
  simpa using this
theorem fn_sort {P : Program} {α : Type} [Inhabited α] {fS g : FuncId} {ety k : Nat} {F : α → List C} {lt : α → α → Bool} (hF : ∀ x, (F x).length = k) (hF1 : ∀ x, oneAll (F x))
    (hn : FnS P fS [.c (.sl none 0 0), .c (.fn g [])] [] [] (fun v L D => v = .t0 ∧ L = [] ∧ D = []))
    (hsort : ∀ (blk cap : Nat) (d : Array α) (w : World), HoldsK (encF F) k w blk 0 d → blk < w.heap.size → d.size < 4611686018427387904 → Calls P fS #[.slice (some ⟨blk, 0, none⟩) d.size cap, .func (.func g) #[] #[]] w fun e w' => e = .returned (.tuple #[]) ∧ ∃ d' n os, PermIn 0 d.size d d' ∧ SortedIn lt 0 d.size d' ∧ w' = sortWorldK (encF F) k w blk 0 n d' os)
    (a : Option Addr) (c : Nat) (l : List α) (hl : l.length < 4611686018427387904) :
    FnS P fS [.c (.sl a l.length c), .c (.fn g [])] [.row ety k a l.length c (l.flatMap F)] [] (fun v L D => ∃ l' : List α, l'.Perm l ∧ l'.Pairwise (fun x y => lt y x = false) ∧ v = .t0 ∧ L = [.row ety k a l.length c (l'.flatMap F)] ∧ D = []) := by
  refine ⟨hn.en, fun w m hh => ?_⟩
  rcases hh.ok.1.2 with ⟨ha, hn0, hc0, hcs⟩ | ⟨b, ha, hrow⟩
  · subst ha hc0
    have hl0 : l = [] := List.eq_nil_of_length_eq_zero hn0
    subst hl0
    refine (hn.run w m ⟨by simp [fps], trivial, fun b o hb => ⟨(hh.im b o hb).1, by simp [fps]⟩, trivial⟩).mono ?_
    rintro e w' ⟨v, L', D', m', he, ⟨rfl, rfl, rfl⟩, h1, h2⟩
    refine ⟨.t0, _, [], m', he, ⟨[], .refl _, .nil, rfl, rfl, rfl⟩, ⟨by simp [fps, Chunk.fp], ⟨⟨fun x hx => by simp at hx, .inl ⟨rfl, rfl, rfl, rfl⟩⟩, trivial⟩, fun b o hb => ⟨(h1.im b o hb).1, by simp [fps, Chunk.fp]⟩, trivial⟩, ⟨h2.size, fun b hb hx => h2.same b hb (by simp [fps]), fun b hb => by simp [fps, Chunk.fp] at hb, h2.im, fun b o ho => ?_, h2.kept⟩⟩
    rcases h2.new b o ho with h3 | h3 | h3
    · exact .inl h3
    · simp [fps] at h3
    · exact .inr (.inr h3)
  · subst ha
    have hb : b < w.heap.size := mem_fps_lt hh.ok b (by simp [fps, Chunk.fp])
    refine (hsort b c l.toArray w (holdsK_of_row hF hrow) hb (by simpa using hl)).mono ?_
    rintro e w' ⟨he, d', n, os, hp, hs, rfl⟩
    have hlen : d'.toList.length = l.length := by have := hp.1; simpa using this
    have hperm := perm_whole hp
    have hsd : SortedIn lt 0 d'.size d' := by rw [hp.1]; exact hs
    have hrow' := row_sorted hF (m := n) (d' := d'.toList) (os := os) hlen hrow hb
    rw [show d'.toList.toArray = d' from by simp, hlen] at hrow'
    have hsize : w.heap.size ≤ (sortWorldK (encF F) k w b 0 n d' os).heap.size := by
      unfold sortWorldK
      rw [size_grow]
      show w.heap.size ≤ (mapBlock (Sort.ahead w n) b _).heap.size + _
      simp only [mapBlock, Array.size_modify]
      exact Nat.le_add_right _ _
    refine ⟨.t0, _, [], m, by rw [he]; rfl, ⟨d'.toList, by simpa using hperm, pair_sorted hsd, rfl, rfl, rfl⟩, ⟨by simp [fps, Chunk.fp], ⟨⟨fun x hx => ?_, .inr ⟨b, rfl, hrow'⟩⟩, trivial⟩, fun q o hq => ?_, trivial⟩, ⟨hsize, fun q hq hx => ?_, fun q hq => .inl hq, fun _ _ h => h, fun _ _ h => .inl h, ⟨rfl, rfl, hsize, fun e => absurd e (by decide), fun e => absurd e (by decide)⟩⟩⟩
    · obtain ⟨y, _, hy⟩ := List.mem_flatMap.1 hx
      exact hF1 y x hy
    · obtain ⟨h1, h2⟩ := hh.im q o hq
      have hne : q ≠ b := fun h => h2 (by simp [fps, Chunk.fp, h])
      refine ⟨?_, by simpa [fps, Chunk.fp] using h2⟩
      rw [sorted_other (Array.getElem?_eq_some_iff.1 h1).1 hne]; exact h1
    · exact sorted_other hq (fun h => hx (by simp [fps, Chunk.fp, h]))
end Go.X
namespace Go.Proofs
open Go.Shelf
def Tryz.sortF_Title_ren : Go.Shelf.Ren := ⟨fun | 6 => 72 | 15 => 106 | 14 => 105 | 28 => 144 | 29 => 145 | 20 => 136 | 21 => 137 | 22 => 138 | 23 => 139 | 24 => 140 | 25 => 141 | 26 => 142 | 27 => 143 | 46 => 168 | 47 => 169 | 48 => 170 | 49 => 171 | 50 => 172 | 57 => 189 | n => n, fun | 22 => 33 | 24 => 23 | 25 => 111 | 3 => 3 | 39 => 74 | 0 => 0 | 53 => 118 | 55 => 184 | 4 => 4 | 46 => 177 | 45 => 176 | 50 => 103 | 5 => 5 | 9 => 9 | 66 => 213 | 70 => 217 | 76 => 241 | 77 => 107 | n => n, fun | n => n⟩
theorem Tryz.sortF_Title : Go.Proofs.SlLaysF0.n6 Tryz.prog Tryz.sortF_Title_ren := {
  mixed := by kernel_rfl
  f6 := ⟨Tryz.f72.name, by decide, Tryz.func72.trans (congrArg some (by kernel_rfl))⟩
  f14 := ⟨Tryz.f105.name, by decide, Tryz.func105.trans (congrArg some (by kernel_rfl))⟩
  f15 := Tryz.func106.trans (congrArg some (by kernel_rfl))
  f20 := ⟨Tryz.f136.name, by decide, Tryz.func136.trans (congrArg some (by kernel_rfl))⟩
  f21 := ⟨Tryz.f137.name, by decide, Tryz.func137.trans (congrArg some (by kernel_rfl))⟩
  f22 := ⟨Tryz.f138.name, by decide, Tryz.func138.trans (congrArg some (by kernel_rfl))⟩
  f23 := ⟨Tryz.f139.name, by decide, Tryz.func139.trans (congrArg some (by kernel_rfl))⟩
  f24 := ⟨Tryz.f140.name, by decide, Tryz.func140.trans (congrArg some (by kernel_rfl))⟩
  f25 := ⟨Tryz.f141.name, by decide, Tryz.func141.trans (congrArg some (by kernel_rfl))⟩
  f26 := ⟨Tryz.f142.name, by decide, Tryz.func142.trans (congrArg some (by kernel_rfl))⟩
  f27 := ⟨Tryz.f143.name, by decide, Tryz.func143.trans (congrArg some (by kernel_rfl))⟩
  f28 := Tryz.func144.trans (congrArg some (by kernel_rfl))
  f29 := Tryz.func145.trans (congrArg some (by kernel_rfl))
  f46 := ⟨Tryz.f168.name, by decide, Tryz.func168.trans (congrArg some (by kernel_rfl))⟩
  f47 := Tryz.func169.trans (congrArg some (by kernel_rfl))
  f48 := Tryz.func170.trans (congrArg some (by kernel_rfl))
  f49 := ⟨Tryz.f171.name, by decide, Tryz.func171.trans (congrArg some (by kernel_rfl))⟩
  f50 := ⟨Tryz.f172.name, by decide, Tryz.func172.trans (congrArg some (by kernel_rfl))⟩
  f57 := ⟨Tryz.f189.name, by decide, Tryz.func189.trans (congrArg some (by kernel_rfl))⟩
  t0 := Tryz.underlying0
  a0 := Tryz.isAgg0
  z0 := Tryz.sizeOf0
  v0 := Tryz.zeroValue0
  t3 := Tryz.underlying3
  a3 := Tryz.isAgg3
  z3 := Tryz.sizeOf3
  v3 := Tryz.zeroValue3
  t4 := Tryz.underlying4
  a4 := Tryz.isAgg4
  z4 := Tryz.sizeOf4
  v4 := Tryz.zeroValue4
  t5 := Tryz.underlying5
  a5 := Tryz.isAgg5
  z5 := Tryz.sizeOf5
  v5 := Tryz.zeroValue5
  t9 := Tryz.underlying9
  a9 := Tryz.isAgg9
  z9 := Tryz.sizeOf9
  v9 := Tryz.zeroValue9
  t22 := Tryz.underlying33
  a22 := Tryz.isAgg33
  z22 := Tryz.sizeOf33
  v22 := Tryz.zeroValue33
  t25 := Tryz.underlying111
  a25 := Tryz.isAgg111
  z25 := Tryz.sizeOf111
  v25 := Tryz.zeroValue111
  t39 := Tryz.underlying74
  a39 := Tryz.isAgg74
  z39 := Tryz.sizeOf74
  v39 := Tryz.zeroValue74
  t45 := Tryz.underlying176
  a45 := Tryz.isAgg176
  z45 := Tryz.sizeOf176
  v45 := Tryz.zeroValue176
  t46 := Tryz.underlying177
  a46 := Tryz.isAgg177
  z46 := Tryz.sizeOf177
  v46 := Tryz.zeroValue177
  t50 := Tryz.underlying103
  a50 := Tryz.isAgg103
  z50 := Tryz.sizeOf103
  v50 := Tryz.zeroValue103
  t53 := Tryz.underlying118
  a53 := Tryz.isAgg118
  z53 := Tryz.sizeOf118
  v53 := Tryz.zeroValue118
  t55 := Tryz.underlying184
  a55 := Tryz.isAgg184
  z55 := Tryz.sizeOf184
  v55 := Tryz.zeroValue184
  t66 := Tryz.underlying213
  a66 := Tryz.isAgg213
  z66 := Tryz.sizeOf213
  v66 := Tryz.zeroValue213
  t70 := Tryz.underlying217
  a70 := Tryz.isAgg217
  z70 := Tryz.sizeOf217
  v70 := Tryz.zeroValue217
  t76 := Tryz.underlying241
  a76 := Tryz.isAgg241
  z76 := Tryz.sizeOf241
  v76 := Tryz.zeroValue241
  t77 := Tryz.underlying107
  a77 := Tryz.isAgg107
  z77 := Tryz.sizeOf107
  v77 := Tryz.zeroValue107 }
end Go.Proofs
namespace Go.Y
open Go Go.X Go.Lib Go.Proofs
set_option maxRecDepth 100000
set_option maxHeartbeats 4000000
variable [Sm : Inhabited Manner]
theorem exact_of {P : Program} {f : FuncId} {args : List V} {v : V} (hS : Sm.default = .strict) (h : FnS P f args [] [] (Is v)) (W : World) : Calls P f (args.map V.enc).toArray W fun e w' => e = .returned v.enc ∧ ∃ q os', w' = Sort.grow (W.drewN q) os' := by
  refine (h.run W (fun _ => none) ⟨List.nodup_nil, trivial, fun b o hb => (by cases hb), trivial⟩).mono ?_
  rintro e w' ⟨v', L', D', m', he, ⟨rfl, rfl, rfl⟩, _, hfr⟩
  refine ⟨he, w'.drawn - W.drawn, w'.heap.extract W.heap.size w'.heap.size, ?_⟩
  have hk := hfr.kept
  have hheap : w'.heap = W.heap ++ w'.heap.extract W.heap.size w'.heap.size := by
    apply Array.ext_getElem?
    intro b
    rw [Array.getElem?_append]
    split
    · rename_i hb
      exact hfr.same b hb (by simp [fps])
    · rename_i hb
      rw [Array.getElem?_extract]
      have := hfr.size
      by_cases hb2 : b < w'.heap.size
      · rw [if_pos (by omega), show W.heap.size + (b - W.heap.size) = b by omega]
      · rw [if_neg (by omega), Array.getElem?_eq_none (by omega)]
  have hd : w'.drawn = W.drawn + (w'.drawn - W.drawn) := by have := hk.drawn hS; omega
  obtain ⟨h1, h2, h3, h4, h5⟩ := w'
  obtain ⟨g1, g2, g3, g4, g5⟩ := W
  have e1 := hk.os; have e2 := hk.out; have e3 := hk.tape hS
  dsimp only at *
  subst e1 e2 e3
  simp only [Sort.grow, World.drewN]
  rw [← hheap, ← hd]
theorem stringsCompare_ok (a b : List UInt8) : FnS Tryz.prog 109 [.c (.s a), .c (.s b)] [] [] (Is (.c (.i .i64 (Lib.compareBytes a b)))) :=
  fn_pure ⟨_, Tryz.func109, by kernel_rfl, by kernel_rfl⟩ (Tryz.strings_Compare ⟨⟨a⟩⟩ ⟨⟨b⟩⟩)
theorem isNaN_ok (a : Int) : FnS Tryz.prog 146 [.c (.i .i64 a)] [] [] (Is ff) := by
  refine fn_of_J Tryz.tyOK 0 Tryz.func146 (by kernel_rfl) (c := Tryz.f146.body.getD .skip) (by kernel_rfl) Tryz.ntmps146 (rs := Tryz.f146.results.toList) rfl (by simp) (fun G => ?_)
  repeat' first
    | refine J_seq ?_ | refine J_region Tryz.tyOK ?_ | refine J_block ?_ | refine J_cond ?_ | refine J_ret ?_ | refine J_skip ?_ | refine J_exit ?_ | refine J_scope ?_
    | refine CondP.yes (by omega) ?_ | refine CondP.no (by omega) ?_ | refine CondP.mk (fun h => ?_) (fun h => ?_) | refine EqP.mk rfl ?_ | refine NewP.mk (fun ad => ?_) | refine ArP.exact (by simp only [inR]; omega) ?_ | refine SideP.mk (by first | omega | (dsimp only; omega) | (simp; omega)) ?_
    | refine FinE.is rfl
    | fail
theorem compareInt_ok (a b : Int) : FnS Tryz.prog 108 [.c (.i .i64 a), .c (.i .i64 b)] [] [] (Is (.c (.i .i64 (Lib.compareInt a b)))) := by
  have hq : ∃ q, Lib.compareInt a b = q := ⟨_, rfl⟩
  obtain ⟨q, hq⟩ := hq
  rw [hq]
  unfold Lib.compareInt at hq
  refine fn_of_J Tryz.tyOK 0 Tryz.func108 (by kernel_rfl) (c := Tryz.f108.body.getD .skip) (by kernel_rfl) Tryz.ntmps108 (rs := Tryz.f108.results.toList) rfl (by simp) (fun G => ?_)
  repeat' first
    | refine J_seq ?_ | refine J_region Tryz.tyOK ?_ | refine J_block ?_ | refine J_cond ?_ | refine J_ret ?_ | refine J_skip ?_ | refine J_exit ?_ | refine J_scope ?_
    | refine CondP.yes (by omega) ?_ | refine CondP.no (by omega) ?_ | refine CondP.mk (fun h => ?_) (fun h => ?_) | refine EqP.mk rfl ?_ | refine NewP.mk (fun ad => ?_) | refine ArP.exact (by simp only [inR]; omega) ?_ | refine SideP.mk (by first | omega | (dsimp only; omega) | (simp; omega)) ?_
    | refine CallP.is (isNaN_ok a) ?_ | refine CallP.is (isNaN_ok b) ?_ | refine FinE.int ?_
    | fail
  all_goals (split at hq <;> first | omega | (split at hq <;> omega))
theorem or_ok (a : Option Addr) (c : Nat) (x y : Int) : FnS Tryz.prog 107 [.c (.sl a 2 c)] [.row 3 1 a 2 c [.i .i64 x, .i .i64 y]] [] (Is (.c (.i .i64 (if x ≠ 0 then x else y)))) := by
  have hrd : Reads [.row 3 1 a 2 c [.i .i64 x, .i .i64 y]] [] 3 1 a 2 [.i .i64 x, .i .i64 y] := .inl ⟨c, List.Mem.head _⟩
  refine fn_of_J Tryz.tyOK 0 Tryz.func107 (by kernel_rfl) (c := Tryz.f107.body.getD .skip) (by kernel_rfl) Tryz.ntmps107 (rs := Tryz.f107.results.toList) rfl (by simp) (fun G => ?_)
  repeat' first
    | refine J_seq ?_ | refine J_region Tryz.tyOK ?_ | refine J_block ?_ | refine J_cond ?_ | refine J_ret ?_ | refine J_skip ?_ | refine J_exit ?_ | refine J_scope ?_
    | refine CondP.yes (by omega) ?_ | refine CondP.no (by omega) ?_ | refine CondP.mk (fun h => ?_) (fun h => ?_) | refine EqP.mk rfl ?_ | refine NewP.mk (fun ad => ?_) | refine ArP.exact (by simp only [inR]; omega) ?_ | refine SideP.mk (by first | omega | (dsimp only; omega) | (simp; omega)) ?_
    | refine J_rounds 3 ?_ | refine JR_succ ?_ | refine IdxE.mk 3 1 _ hrd (by omega) (by omega) ?_ | refine LoadE.mk 3 _ _ _ hrd (by omega) (by omega) (by omega) rfl ?_ | refine FinE.int ?_
    | fail
  all_goals simp [*]
theorem compare_ok (a : Int) (x : List UInt8) (b : Int) (y : List UInt8) : FnS Tryz.prog 73 [.agg [.i .i64 a, .s x], .agg [.i .i64 b, .s y]] [] [] (Is (.c (.i .i64 (Go.X.compareT a x b y)))) := by
  refine fn_of_J Tryz.tyOK 0 Tryz.func73 (by kernel_rfl) (c := Tryz.f73.body.getD .skip) (by kernel_rfl) Tryz.ntmps73 (rs := Tryz.f73.results.toList) rfl (by simp) (fun G => ?_)
  repeat' first
    | refine J_seq ?_ | refine J_region Tryz.tyOK ?_ | refine J_block ?_ | refine J_cond ?_ | refine J_ret ?_ | refine J_skip ?_ | refine J_exit ?_ | refine J_scope ?_
    | refine CondP.yes (by omega) ?_ | refine CondP.no (by omega) ?_ | refine CondP.mk (fun h => ?_) (fun h => ?_) | refine EqP.mk rfl ?_ | refine NewP.mk (fun ad => ?_) | refine ArP.exact (by simp only [inR]; omega) ?_ | refine SideP.mk (by first | omega | (dsimp only; omega) | (simp; omega)) ?_
    | refine J_draw Tryz.tyOK (by kernel_rfl) [0, 1, 2, 3, 4, 5, 6, 7, 8, 9, 10, 11, 12] [10, 11] _ _ (by kernel_rfl) (Ents.refl _ _) ?_ | refine CallQ.mk [] _ (compareInt_ok a b) (fun _ _ => trivial) ?_ | refine CallQ.mk [] _ (stringsCompare_ok x y) (fun _ _ => trivial) ?_ | refine CallP.mk [_] _ [] _ (or_ok _ _ _ _) (List.Perm.refl _) (fun _ h => h) (fun v L' D' hp => ?_); obtain ⟨rfl, rfl, rfl⟩ := hp | refine EntP.mk (Ents.refl _ _) ?_ | refine EntP.mk Ents.drop ?_ | refine FinE.int ?_
    | fail
  rfl
end Go.Y
namespace Go.X
open Go Go.Lib
def cmGo {α : Type} [DecidableEq α] : α → List α → List α
  | _, [] => []
  | p, y :: r => if y = p then cmGo p r else y :: cmGo y r
def cmG {α : Type} [DecidableEq α] : List α → List α
  | [] => []
  | x :: r => x :: cmGo x r
def nthG (l : List TT) (i : Nat) : TT := l.getD i (0, [])
theorem nthG_eq {l : List TT} {i : Nat} (h : i < l.length) : nthG l i = l[i] := by
  unfold nthG; rw [List.getD_eq_getElem?_getD, List.getElem?_eq_getElem h]; rfl
theorem ttC_takeT (l : List TT) (k : Nat) : (ttC l).take (k * 2) = ttC (l.take k) := by
  by_cases h : k ≤ l.length
  · exact flat_take (F := ttF2) (z := 2) (fun _ => rfl) l k h
  · rw [List.take_of_length_le (by rw [ttC_len]; omega), List.take_of_length_le (by omega)]
theorem drop_atG {m l : List TT} {d i : Nat} (h : m.drop d = l.drop d) (hi : d ≤ i) (h1 : i < m.length) (h2 : i < l.length) : m[i] = l[i] := by
  have := congrArg (fun x => x[i - d]?) h
  simp only [List.getElem?_drop, show d + (i - d) = i by omega, List.getElem?_eq_getElem h1, List.getElem?_eq_getElem h2] at this
  exact Option.some.inj this
theorem rsubT {e : Nat} {a : Option Addr} {n c k : Nat} {m : List TT} {L : List Chunk} {D : List Fact} (hm : Chunk.row e 2 a n c (ttC m) ∈ L) (hn : m.length = n) (hk : k < n) (hc : n ≤ c) : Reads L D e 2 (resl a k c 2) (n - k) (ttC (m.drop k)) := ttsuf hm hn (by omega) hc
theorem tt_sub {m : List TT} {k i : Nat} (h : k + i < m.length) : ((ttC (m.drop k)).drop (i * 2 + 0)).take 2 = [.i .i64 m[k + i].1, .s m[k + i].2] := by
  rw [ttl_get (l := m.drop k) (i := i) (by rw [List.length_drop]; omega)]
  simp
theorem ttC_set {l : List TT} {j : Nat} (hj : j < l.length) (x : TT) : setC (j * 2 + 0) (ttF2 x) (ttC l) = ttC (l.set j x) := by
  have key : ∀ (l : List TT) (j : Nat), j < l.length → setC (j * 2) (ttF2 x) (l.flatMap ttF2) = (l.set j x).flatMap ttF2 := by
    intro l
    induction l with
    | nil => intro j h; simp at h
    | cons y r ih =>
      intro j h
      cases j with
      | zero =>
        simp only [List.flatMap_cons, List.set_cons_zero, Nat.zero_mul, setC, List.take_zero, List.nil_append, Nat.zero_add]
        rw [show (ttF2 x).length = (ttF2 y).length from rfl, List.drop_left]
      | succ j =>
        have := ih j (by simpa using h)
        simp only [List.flatMap_cons, List.set_cons_succ, ← this, setC]
        rw [show (j + 1) * 2 = (ttF2 y).length + j * 2 by show (j + 1) * 2 = 2 + j * 2; omega, List.take_append, List.take_of_length_le (by omega), Nat.add_sub_cancel_left, Nat.add_assoc, ← List.drop_drop, List.drop_left]
        simp
  exact key l j hj
theorem cmGo_len {α : Type} [DecidableEq α] : ∀ (r : List α) (p : α), (cmGo p r).length ≤ r.length
  | [], _ => Nat.le_refl _
  | y :: r, p => by
    rw [cmGo]
    split
    · exact Nat.le_succ_of_le (cmGo_len r p)
    · exact Nat.succ_le_succ (cmGo_len r y)
theorem cmGo_str {α : Type} [DecidableEq α] {cf : α → α → Int} (hc : Cmp cf) (he : ∀ x y, cf x y = 0 → x = y) : ∀ (r : List α) (p : α), (p :: r).Pairwise (fun x y => cf x y ≤ 0) → StrL cf (p :: cmGo p r) ∧ ∀ z, z ∈ p :: cmGo p r ↔ z ∈ p :: r
  | [], p, _ => ⟨List.pairwise_singleton _ _, fun z => Iff.rfl⟩
  | y :: r, p, h => by
    have h1 := List.pairwise_cons.1 h
    rw [cmGo]
    by_cases hy : y = p
    · subst hy
      rw [if_pos rfl]
      obtain ⟨i1, i2⟩ := cmGo_str hc he r y h1.2
      exact ⟨i1, fun z => by rw [i2]; simp⟩
    · rw [if_neg hy]
      obtain ⟨i1, i2⟩ := cmGo_str hc he r y h1.2
      have hpy : cf p y < 0 := by
        have h0 := h1.1 y (List.mem_cons_self ..)
        have : cf p y ≠ 0 := fun e => hy (he _ _ e).symm
        omega
      refine ⟨List.pairwise_cons.2 ⟨fun z hz => ?_, i1⟩, fun z => ?_⟩
      · rcases List.mem_cons.1 ((i2 z).1 hz) with rfl | hz'
        · exact hpy
        · have h2 := (List.pairwise_cons.1 h1.2).1 z hz'
          exact hc.lt_trans hpy h2
      · rw [List.mem_cons, i2, List.mem_cons (a := z) (b := p)]
theorem cmG_str {α : Type} [DecidableEq α] {cf : α → α → Int} (hc : Cmp cf) (he : ∀ x y, cf x y = 0 → x = y) (l : List α) (h : l.Pairwise (fun x y => cf x y ≤ 0)) : StrL cf (cmG l) ∧ ∀ z, z ∈ cmG l ↔ z ∈ l := by
  cases l with
  | nil => exact ⟨List.Pairwise.nil, fun z => Iff.rfl⟩
  | cons x r => exact cmGo_str hc he r x h
instance : Inhabited TT := ⟨(0, [])⟩
end Go.X
namespace Go.Proofs
open Go Go.X
set_option maxRecDepth 100000
set_option maxHeartbeats 8000000
theorem bitsLen0_ok : FnS Tryz.prog 106 [.c (.i .u64 0)] [] [] (Is (.c (.i .i64 0))) :=
  fn_pure ⟨_, Tryz.func106, by kernel_rfl, by kernel_rfl⟩ (fun w => Tryz.bits_Len 0 w (by omega) (by omega))
theorem insTt0 (g : Nat) : FnS Tryz.prog 136 [.c (.sl none 0 0), .c (.i .i64 0), .c (.i .i64 0), .c (.fn g [])] [] [] (Is .t0) := by
  refine fn_of_J Tryz.tyOK 0 Tryz.func136 (by kernel_rfl) (c := Tryz.f136.body.getD .skip) (by kernel_rfl) Tryz.ntmps136 (rs := Tryz.f136.results.toList) rfl (by simp) (fun G => ?_)
  repeat' first
    | refine J_seq ?_ | refine J_region Tryz.tyOK ?_ | refine J_block ?_ | refine J_cond ?_ | refine J_ret ?_ | refine J_skip ?_ | refine J_exit ?_ | refine J_scope ?_
    | refine CondP.yes (by omega) ?_ | refine CondP.no (by omega) ?_ | refine CondP.mk (fun h => ?_) (fun h => ?_) | refine EqP.mk rfl ?_ | refine NewP.mk (fun ad => ?_) | refine ArP.exact (by simp only [inR]; omega) ?_ | refine SideP.mk (by first | omega | (dsimp only; omega) | (simp; omega)) ?_
    | refine J_rounds 1 ?_ | refine JR_succ ?_ | refine FinE.is rfl
    | fail
theorem pdqTt0 (g : Nat) : FnS Tryz.prog 105 [.c (.sl none 0 0), .c (.i .i64 0), .c (.i .i64 0), .c (.i .i64 0), .c (.fn g [])] [] [] (Is .t0) := by
  refine fn_of_J Tryz.tyOK 0 Tryz.func105 (by kernel_rfl) (c := Tryz.f105.body.getD .skip) (by kernel_rfl) Tryz.ntmps105 (rs := Tryz.f105.results.toList) rfl (by simp) (fun G => ?_)
  repeat' first
    | refine J_seq ?_ | refine J_region Tryz.tyOK ?_ | refine J_block ?_ | refine J_cond ?_ | refine J_ret ?_ | refine J_skip ?_ | refine J_exit ?_ | refine J_scope ?_
    | refine CondP.yes (by omega) ?_ | refine CondP.no (by omega) ?_ | refine CondP.mk (fun h => ?_) (fun h => ?_) | refine EqP.mk rfl ?_ | refine NewP.mk (fun ad => ?_) | refine ArP.exact (by simp only [inR]; omega) ?_ | refine SideP.mk (by first | omega | (dsimp only; omega) | (simp; omega)) ?_
    | refine J_rounds 1 ?_ | refine JR_succ ?_ | refine CallP.is (insTt0 g) ?_ | refine FinE.is rfl
    | fail
theorem sortTt0 (g : Nat) : FnS Tryz.prog 72 [.c (.sl none 0 0), .c (.fn g [])] [] [] (Is .t0) := by
  refine fn_of_J Tryz.tyOK 0 Tryz.func72 (by kernel_rfl) (c := Tryz.f72.body.getD .skip) (by kernel_rfl) Tryz.ntmps72 (rs := Tryz.f72.results.toList) rfl (by simp) (fun G => ?_)
  repeat' first
    | refine J_seq ?_ | refine J_region Tryz.tyOK ?_ | refine J_block ?_ | refine J_cond ?_ | refine J_ret ?_ | refine J_skip ?_ | refine J_exit ?_ | refine J_scope ?_
    | refine CondP.yes (by omega) ?_ | refine CondP.no (by omega) ?_ | refine CondP.mk (fun h => ?_) (fun h => ?_) | refine EqP.mk rfl ?_ | refine NewP.mk (fun ad => ?_) | refine ArP.exact (by simp only [inR]; omega) ?_ | refine SideP.mk (by first | omega | (dsimp only; omega) | (simp; omega)) ?_
    | refine CallP.is (pdqTt0 g) ?_ | refine CallP.is bitsLen0_ok ?_ | refine FinE.is rfl
    | fail
theorem sortTt_ok (a : Option Addr) (c : Nat) (l : List TT) (hl : l.length < 4611686018427387904) :
    FnS Tryz.prog 72 [.c (.sl a l.length c), .c (.fn 73 [])] [.row 23 2 a l.length c (ttC l)] []
      (fun v L D => ∃ l' : List TT, l'.Perm l ∧ l'.Pairwise (fun x y => ltOf cmpTT y x = false) ∧ v = .t0 ∧ L = [.row 23 2 a l.length c (ttC l')] ∧ D = []) :=
  fn_sort (F := ttF2) (lt := ltOf cmpTT) (fun _ => rfl) (fun x y hy => by simp [ttF2] at hy; rcases hy with rfl | rfl <;> rfl) (sortTt0 _)
    (fun blk cap d w hH hblk hsz => AnyQ.slices_SortFunc Tryz.sortF_Title 2 Tryz.isAgg23 Tryz.sizeOf23 (encF ttF2) (fun _ => rfl) (fun x v hv => by simp [encF, ttF2] at hv; rcases hv with rfl | rfl <;> rfl) cmpTT cmp_TT.swo 73 #[] blk 0 cap d w
      (enters_of Tryz.func73 (by kernel_rfl) rfl) (fun m os dk hs x y => Go.Y.exact_of (Sm := ⟨Manner.strict⟩) rfl (Go.Y.compare_ok (Sm := ⟨Manner.strict⟩) x.1 x.2 y.1 y.2) _) hH hblk hsz) a c l hl
theorem cptTt_ok (a : Option Addr) (c : Nat) (l : List TT) (hl : l.length ≤ 10000000) :
    FnS Tryz.prog 74 [.c (.sl a l.length c)] [.row 23 2 a l.length c (ttC l)] []
      (fun v L D => v = .c (.sl a (cmG l).length c) ∧ L = [.row 23 2 a (cmG l).length c (ttC (cmG l))] ∧ D = []) := by
  by_cases h2 : l.length < 2
  · have he : cmG l = l := by
      match l, h2 with
      | [], _ => rfl
      | [x], _ => rfl
      | x :: y :: r, h => simp at h; omega
    rw [he]
    refine fn_of_J Tryz.tyOK 0 Tryz.func74 (by kernel_rfl) (c := Tryz.f74.body.getD .skip) (by kernel_rfl) Tryz.ntmps74 (rs := Tryz.f74.results.toList) rfl (by simp) (fun G => ?_)
    repeat' first
      | refine J_seq ?_ | refine J_region Tryz.tyOK ?_ | refine J_block ?_ | refine J_cond ?_ | refine J_ret ?_ | refine J_skip ?_ | refine J_exit ?_ | refine J_scope ?_
      | refine CondP.yes (by omega) ?_ | refine CondP.no (by omega) ?_ | refine CondP.mk (fun h => ?_) (fun h => ?_) | refine EqP.mk rfl ?_ | refine NewP.mk (fun ad => ?_) | refine ArP.exact (by simp only [inR]; omega) ?_ | refine SideP.mk (by first | omega | (dsimp only; omega) | (simp; omega)) ?_
      | refine FinE.mk [_] [] ⟨rfl, rfl, rfl⟩ (Ents.refl _ _)
      | fail
  · generalize hq : cmG l = q
    refine fn_of_J Tryz.tyOK 0 Tryz.func74 (by kernel_rfl) (c := Tryz.f74.body.getD .skip) (by kernel_rfl) Tryz.ntmps74 (rs := Tryz.f74.results.toList) rfl (by simp) (fun G => ?_)
    refine J_cap (List.Mem.head _) (fun hnc _ _ => ?_)
    repeat' first
      | refine J_seq ?_ | refine J_region Tryz.tyOK ?_ | refine J_block ?_ | refine J_cond ?_ | refine J_ret ?_ | refine J_skip ?_ | refine J_exit ?_ | refine J_scope ?_
      | refine CondP.yes (by omega) ?_ | refine CondP.no (by omega) ?_ | refine CondP.mk (fun h => ?_) (fun h => ?_) | refine EqP.mk rfl ?_ | refine NewP.mk (fun ad => ?_) | refine ArP.exact (by simp only [inR]; omega) ?_ | refine SideP.mk (by first | omega | (dsimp only; omega) | (simp; omega)) ?_
      | fail
    refine J_loop (α := Nat) (fun k => [(0, .c (.sl a l.length c)), (3, .c (.i .i64 k))]) (fun _ => [.row 23 2 a l.length c (ttC l)]) (fun _ => []) 0
      (fun k => 1 ≤ k ∧ k ≤ l.length ∧ q = l.take k ++ cmGo (nthG l (k - 1)) (l.drop k)) (fun k => l.length - k) (InFam.mk 1 ⟨Nat.le_refl _, by omega, ?_⟩ (by repeat' first | exact SubE.nil | refine SubE.cons rfl ?_ ?_ | exact VEq.refl _ | refine VEq.int (by omega) | refine VEq.sl rfl (by first | rfl | omega | (rw [List.length_append]; rfl) | (simp; omega)) rfl) (Ents.refl _ _)) (fun k hx => ?_)
    · rw [← hq]
      match l, h2 with
      | [], h => simp at h
      | x :: r, _ => rfl
    obtain ⟨hk1, hkn, he⟩ := hx
    by_cases hlt : k < l.length
    · have hg := ttl_get hlt
      have hkk : ((k : Int) - 1).toNat = k - 1 := by omega
      have hg1 : ((ttC l).drop (((k : Int) - 1).toNat * 2 + 0)).take 2 = [.i .i64 l[k - 1].1, .s l[k - 1].2] := by rw [hkk]; exact ttl_get (by omega)
      have hn1 : nthG l (k - 1) = l[k - 1] := nthG_eq (by omega)
      have hyes : l[k] = l[k - 1] → q = l.take k ++ cmGo (nthG l k) (l.drop (k + 1)) := fun h => by
        rw [he, List.drop_eq_getElem_cons hlt, cmGo, hn1, if_pos h, nthG_eq hlt, h]
      have hno : ¬ l[k] = l[k - 1] → q = l.take (k + 1) ++ cmGo (nthG l k) (l.drop (k + 1)) := fun h => by
        rw [he, List.drop_eq_getElem_cons hlt, cmGo, hn1, if_neg h, nthG_eq hlt, List.take_succ_eq_append_getElem hlt, List.append_assoc]
        rfl
      repeat' first
        | refine J_stop (c := .seq (.region 7 _ _) _) ?_
        | refine J_seq ?_ | refine J_region Tryz.tyOK ?_ | refine J_block ?_ | refine J_cond ?_ | refine J_ret ?_ | refine J_skip ?_ | refine J_exit ?_ | refine J_scope ?_
        | refine CondP.yes (by omega) ?_ | refine CondP.no (by omega) ?_ | refine CondP.mk (fun h => ?_) (fun h => ?_) | refine EqP.mk rfl ?_ | refine NewP.mk (fun ad => ?_) | refine ArP.exact (by simp only [inR]; omega) ?_ | refine SideP.mk (by first | omega | (dsimp only; omega) | (simp; omega)) ?_
        | refine J_drawS (id := 6) Tryz.tyOK (by kernel_rfl) [0, 0, 3, 7, 0, 0, 32, 112, 240, 511] [0, 1, 2, 3, 4, 5, 6, 7, 8, 9] [] [18, 23] true (by kernel_rfl) ?_ | refine J_drawS (id := 11) Tryz.tyOK (by kernel_rfl) [0, 0, 3, 7, 0, 0, 32, 112, 240, 511] [0, 1, 2, 3, 4, 5, 6, 7, 8, 9] [] [37, 42] true (by kernel_rfl) ?_ | refine EntP.mk (Ents.ofSub (by repeat (first | exact List.Sublist.slnil | refine List.Sublist.cons_cons _ ?_ | refine List.Sublist.cons _ ?_)) (by first | exact fun _ h => h | exact fun _ _ => trivial | exact fun _ h => h.2 | exact fun _ h => h.2.2.2.2 | exact fun _ h => h.2.2 | exact fun _ h => h.2.2.2 | exact fun _ h => h.2.2.2.2.2 | exact fun _ h => h.2.2.2.2.2.2 | exact fun _ h => h.2.2.2.2.2.2.2 | exact fun _ h => h.2.2.2.2.2.2.2.2 | exact fun _ h => h.2.2.2.2.2.2.2.2.2 | exact fun _ h => h.2.2.2.2.2.2.2.2.2.2 | exact fun _ h => ((allD_append _ _).1 h).2)) ?_ | refine IdxE.mk 23 2 _ (.inl ⟨c, List.Mem.head _⟩) (by omega) (by omega) ?_ | refine LoadE.mk 23 _ _ _ (.inl ⟨c, List.Mem.head _⟩) (by omega) (by omega) (by first | omega | decide) hg ?_ | refine LoadE.mk 23 _ _ _ (.inl ⟨c, List.Mem.head _⟩) (by omega) (by omega) (by first | omega | decide) hg1 ?_ | refine Round.mk (k + 1) (by omega) ⟨by omega, by omega, ?_⟩ (by repeat' first | exact SubE.nil | refine SubE.cons rfl ?_ ?_ | exact VEq.refl _ | refine VEq.int (by omega) | refine VEq.sl rfl (by first | rfl | omega | (rw [List.length_append]; rfl) | (simp; omega)) rfl) (Ents.refl _ _)
        | fail
      · have hxy := tt_ext h
        have hq0 := hyes hxy
        clear hyes hno hg hg1 hn1 hkk he
        refine ⟨?_⟩
        refine J_ent (n' := 0) (env' := [(0, .c (.sl a l.length c)), (3, .c (.i .i64 k))]) (by repeat' first | exact SubE.nil | refine SubE.cons rfl ?_ ?_ | exact VEq.refl _ | refine VEq.int (by omega) | refine VEq.sl rfl (by first | rfl | omega | (rw [List.length_append]; rfl) | (simp; omega)) rfl) (Ents.refl _ _) ?_
        repeat' first
          | refine J_seq ?_ | refine J_region Tryz.tyOK ?_ | refine J_block ?_ | refine J_cond ?_ | refine J_ret ?_ | refine J_skip ?_ | refine J_exit ?_ | refine J_scope ?_
          | refine CondP.yes (by omega) ?_ | refine CondP.no (by omega) ?_ | refine CondP.mk (fun h => ?_) (fun h => ?_) | refine EqP.mk rfl ?_ | refine NewP.mk (fun ad => ?_) | refine ArP.exact (by simp only [inR]; omega) ?_ | refine SideP.mk (by first | omega | (dsimp only; omega) | (simp; omega)) ?_
          | fail
        refine J_loop (α := Nat × Nat × List TT) (fun x => [(0, .c (.sl a l.length c)), (3, .c (.i .i64 x.2.1)), (4, .c (.sl (resl a k c 2) (l.length - k) (c - k))), (5, .c (.i .i64 x.1))]) (fun x => [.row 23 2 a l.length c (ttC x.2.2)]) (fun _ => []) 0
          (fun x => 1 ≤ x.1 ∧ x.1 ≤ l.length - k ∧ k ≤ x.2.1 ∧ x.2.1 ≤ k + x.1 - 1 ∧ x.2.2.length = l.length ∧ x.2.2.drop (k + x.1 - 1) = l.drop (k + x.1 - 1) ∧ q = x.2.2.take x.2.1 ++ cmGo (nthG l (k + x.1 - 1)) (l.drop (k + x.1))) (fun x => l.length - x.1) (InFam.mk (1, k, l) ⟨Nat.le_refl _, by dsimp only; omega, Nat.le_refl _, by dsimp only; omega, rfl, rfl, by dsimp only; exact hq0⟩ (by repeat' first | exact SubE.nil | refine SubE.cons rfl ?_ ?_ | exact VEq.refl _ | refine VEq.int (by omega) | refine VEq.sl rfl (by first | rfl | omega | (rw [List.length_append]; rfl) | (simp; omega)) rfl) (Ents.refl _ _)) (fun x hx => ?_)
        obtain ⟨j, i, m⟩ := x
        dsimp only at hx ⊢
        obtain ⟨hj1, hj2, hki, hij, hml, hdr, hq1⟩ := hx
        have hR : Reads [.row 23 2 a l.length c (ttC m)] [] 23 2 (resl a k c 2) (l.length - k) (ttC (m.drop k)) := rsubT (List.Mem.head _) hml (by omega) hnc
        by_cases hjl : j < l.length - k
        · have e1 := drop_atG hdr (i := k + j) (by omega) (by omega) (by omega)
          have e2 := drop_atG hdr (i := k + (j - 1)) (by omega) (by omega) (by omega)
          have hg := tt_sub (m := m) (k := k) (i := j) (by omega)
          rw [e1] at hg
          have hg1 : ((ttC (m.drop k)).drop (((j : Int) - 1).toNat * 2 + 0)).take 2 = [.i .i64 l[k + (j - 1)].1, .s l[k + (j - 1)].2] := by
            rw [show ((j : Int) - 1).toNat = j - 1 by omega]
            have := tt_sub (m := m) (k := k) (i := j - 1) (by omega)
            rw [e2] at this
            exact this
          have hst : setC (i * 2 + 0) (ttF2 l[k + j]) (ttC m) = ttC (m.set i l[k + j]) := ttC_set (by omega) _
          have hn1 : nthG l (k + j - 1) = l[k + (j - 1)] := by rw [nthG_eq (by omega)]; simp only [show k + j - 1 = k + (j - 1) by omega]
          have hyes : l[k + j] = l[k + (j - 1)] → q = m.take i ++ cmGo (nthG l (k + (j + 1) - 1)) (l.drop (k + (j + 1))) := fun h => by
            rw [hq1, List.drop_eq_getElem_cons (show k + j < l.length by omega), cmGo, hn1, if_pos h, show k + (j + 1) - 1 = k + j by omega, nthG_eq (by omega), h]
            rfl
          have hno : ¬ l[k + j] = l[k + (j - 1)] → q = (m.set i l[k + j]).take (i + 1) ++ cmGo (nthG l (k + (j + 1) - 1)) (l.drop (k + (j + 1))) := fun h => by
            rw [hq1, List.drop_eq_getElem_cons (show k + j < l.length by omega), cmGo, hn1, if_neg h, show k + (j + 1) - 1 = k + j by omega, nthG_eq (by omega), List.take_succ_eq_append_getElem (by rw [List.length_set]; omega), List.append_assoc]
            simp [List.take_set_of_le]
            rfl
          have hdr1 : m.drop (k + (j + 1) - 1) = l.drop (k + (j + 1) - 1) := by
            rw [show k + (j + 1) - 1 = (k + j - 1) + 1 by omega, ← List.drop_drop, hdr, List.drop_drop]
          have hdr2 : (m.set i l[k + j]).drop (k + (j + 1) - 1) = l.drop (k + (j + 1) - 1) := by
            rw [List.drop_set_of_lt (by omega)]; exact hdr1
          repeat' first
            | refine J_seq ?_ | refine J_region Tryz.tyOK ?_ | refine J_block ?_ | refine J_cond ?_ | refine J_ret ?_ | refine J_skip ?_ | refine J_exit ?_ | refine J_scope ?_
            | refine CondP.yes (by omega) ?_ | refine CondP.no (by omega) ?_ | refine CondP.mk (fun h => ?_) (fun h => ?_) | refine EqP.mk rfl ?_ | refine NewP.mk (fun ad => ?_) | refine ArP.exact (by simp only [inR]; omega) ?_ | refine SideP.mk (by first | omega | (dsimp only; omega) | (simp; omega)) ?_
            | refine J_drawS (id := 6) Tryz.tyOK (by kernel_rfl) [0, 0, 3, 7, 0, 0, 32, 112, 240, 511] [0, 1, 2, 3, 4, 5, 6, 7, 8, 9] [] [18, 23] true (by kernel_rfl) ?_ | refine J_drawS (id := 11) Tryz.tyOK (by kernel_rfl) [0, 0, 3, 7, 0, 0, 32, 112, 240, 511] [0, 1, 2, 3, 4, 5, 6, 7, 8, 9] [] [37, 42] true (by kernel_rfl) ?_ | refine EntP.mk (Ents.ofSub (by repeat (first | exact List.Sublist.slnil | refine List.Sublist.cons_cons _ ?_ | refine List.Sublist.cons _ ?_)) (by first | exact fun _ h => h | exact fun _ _ => trivial | exact fun _ h => h.2 | exact fun _ h => h.2.2.2.2 | exact fun _ h => h.2.2 | exact fun _ h => h.2.2.2 | exact fun _ h => h.2.2.2.2.2 | exact fun _ h => h.2.2.2.2.2.2 | exact fun _ h => h.2.2.2.2.2.2.2 | exact fun _ h => h.2.2.2.2.2.2.2.2 | exact fun _ h => h.2.2.2.2.2.2.2.2.2 | exact fun _ h => h.2.2.2.2.2.2.2.2.2.2 | exact fun _ h => ((allD_append _ _).1 h).2)) ?_ | refine IdxE.mk 23 2 _ hR (by omega) (by omega) ?_ | refine IdxE.mk 23 2 _ (.inl ⟨c, List.Mem.head _⟩) (by omega) (by omega) ?_ | refine LoadE.mk 23 _ _ _ hR (by omega) (by omega) (by first | omega | decide) hg ?_ | refine LoadE.mk 23 _ _ _ hR (by omega) (by omega) (by first | omega | decide) hg1 ?_ | refine StoreE.mk [] _ _ _ _ _ _ rfl (by omega) (by omega) (Nat.le_of_ble_eq_true rfl) hst ?_ | refine Round.mk (j + 1, i, m) (by dsimp only; omega) ⟨by dsimp only; omega, by dsimp only; omega, hki, by dsimp only; omega, hml, hdr1, hyes (tt_ext (by assumption))⟩ (by repeat' first | exact SubE.nil | refine SubE.cons rfl ?_ ?_ | exact VEq.refl _ | refine VEq.int (by omega) | refine VEq.sl rfl (by first | rfl | omega | (rw [List.length_append]; rfl) | (simp; omega)) rfl) (Ents.refl _ _) | refine Round.mk (j + 1, i + 1, m.set i l[k + j]) (by dsimp only; omega) ⟨by dsimp only; omega, by dsimp only; omega, by dsimp only; omega, by dsimp only; omega, by rw [List.length_set]; exact hml, hdr2, hno (tt_ne (by assumption))⟩ (by repeat' first | exact SubE.nil | refine SubE.cons rfl ?_ ?_ | exact VEq.refl _ | refine VEq.int (by omega) | refine VEq.sl rfl (by first | rfl | omega | (rw [List.length_append]; rfl) | (simp; omega)) rfl) (Ents.refl _ _)
            | fail
        · have hjn : j = l.length - k := by omega
          subst hjn
          rw [show l.drop (k + (l.length - k)) = [] from List.drop_eq_nil_of_le (by omega)] at hq1
          have hq1 : q = m.take i ++ [] := hq1
          rw [List.append_nil] at hq1
          have hql : q.length = i := by rw [hq1, List.length_take]; omega
          have hwl := ttC_len m
          repeat' first
            | refine J_seq ?_ | refine J_region Tryz.tyOK ?_ | refine J_block ?_ | refine J_cond ?_ | refine J_ret ?_ | refine J_skip ?_ | refine J_exit ?_ | refine J_scope ?_
            | refine CondP.yes (by omega) ?_ | refine CondP.no (by omega) ?_ | refine CondP.mk (fun h => ?_) (fun h => ?_) | refine EqP.mk rfl ?_ | refine NewP.mk (fun ad => ?_) | refine ArP.exact (by simp only [inR]; omega) ?_ | refine SideP.mk (by first | omega | (dsimp only; omega) | (simp; omega)) ?_
            | refine ClearE.mk [] _ _ _ _ (i : Int).toNat _ _ rfl (if_neg (by omega)) (by omega) ?_ | refine FinE.mk [_] [] ⟨?_, rfl, rfl⟩ ((Ents.rowPre (k := i) (by omega)).trans (Ents.of ?_))
            | fail
          · show V.c (C.sl (resl a 0 c 2) (i : Int).toNat c) = _
            rw [resl0, hql, Int.toNat_natCast]
          · show [Chunk.row _ 2 a i c ((setC ((i : Int).toNat * 2) (repC (l.length - (i : Int).toNat) [C.i .i64 0, C.s []]) (ttC m)).take (i * 2))] = _
            rw [Int.toNat_natCast, setC_take (by omega), ttC_takeT, ← hq1, hql]
      · exact hno (tt_ne h)
    · have hkl : k = l.length := by omega
      subst hkl
      rw [List.take_length, List.drop_length] at he
      have he : q = l ++ [] := he
      rw [List.append_nil] at he
      subst he
      repeat' first
        | refine J_seq ?_ | refine J_region Tryz.tyOK ?_ | refine J_block ?_ | refine J_cond ?_ | refine J_ret ?_ | refine J_skip ?_ | refine J_exit ?_ | refine J_scope ?_
        | refine CondP.yes (by omega) ?_ | refine CondP.no (by omega) ?_ | refine CondP.mk (fun h => ?_) (fun h => ?_) | refine EqP.mk rfl ?_ | refine NewP.mk (fun ad => ?_) | refine ArP.exact (by simp only [inR]; omega) ?_ | refine SideP.mk (by first | omega | (dsimp only; omega) | (simp; omega)) ?_
        | refine FinE.mk [_] [] ⟨rfl, rfl, rfl⟩ (Ents.refl _ _)
        | fail
end Go.Proofs
namespace Go.Proofs
open Go Go.X
set_option maxRecDepth 100000
set_option maxHeartbeats 4000000
end Go.Proofs
namespace Go.Proofs
open Go Go.X
set_option maxRecDepth 100000
def Inl.own (x : Inl) : List TT := if x.kind = 4 ∧ ¬ (x.sp = 0 ∧ x.name = [] ∧ True) then [(x.sp, x.name)] else []
mutual
def Inl.links : Inl → List TT
  | .mk k t s n a ka kc kids => (Inl.mk k t s n a ka kc kids).own ++ inlLinks kids
def inlLinks : List Inl → List TT
  | [] => []
  | x :: r => x.links ++ inlLinks r
end
mutual
def Blk.links : Blk → List TT
  | .mk _ _ _ _ _ inl _ _ kids => inlLinks inl ++ blkLinks kids
def blkLinks : List Blk → List TT
  | [] => []
  | x :: r => x.links ++ blkLinks r
end
theorem Inl.links_eq (x : Inl) : x.links = x.own ++ inlLinks x.kids := by cases x; rw [Inl.links]; rfl
theorem Blk.links_eq (x : Blk) : x.links = inlLinks x.inl ++ blkLinks x.kids := by cases x; rw [Blk.links]; rfl
theorem inlLinks_append : ∀ (l k : List Inl), inlLinks (l ++ k) = inlLinks l ++ inlLinks k
  | [], k => by simp [inlLinks]
  | x :: r, k => by simp only [List.cons_append, inlLinks, inlLinks_append r k, List.append_assoc]
theorem blkLinks_append : ∀ (l k : List Blk), blkLinks (l ++ k) = blkLinks l ++ blkLinks k
  | [], k => by simp [blkLinks]
  | x :: r, k => by simp only [List.cons_append, blkLinks, blkLinks_append r k, List.append_assoc]
theorem inlLinks_succ {l : List Inl} {i : Nat} (h : i < l.length) : inlLinks (l.take (i + 1)) = inlLinks (l.take i) ++ l[i].own ++ inlLinks l[i].kids := by
  rw [List.take_succ_eq_append_getElem h, inlLinks_append]
  simp only [inlLinks, Inl.links_eq, List.append_nil, List.append_assoc]
theorem blkLinks_succ {l : List Blk} {i : Nat} (h : i < l.length) : blkLinks (l.take (i + 1)) = blkLinks (l.take i) ++ inlLinks l[i].inl ++ blkLinks l[i].kids := by
  rw [List.take_succ_eq_append_getElem h, blkLinks_append]
  simp only [blkLinks, Blk.links_eq, List.append_nil, List.append_assoc]
theorem Inl.own_len (x : Inl) : x.own.length ≤ 1 := by unfold Inl.own; split <;> simp
mutual
theorem Inl.links_len : ∀ x : Inl, x.links.length ≤ x.nodes
  | .mk k t s n a ka kc kids => by
    have h1 := inlLinks_len kids
    have h2 := Inl.own_len (.mk k t s n a ka kc kids)
    rw [Inl.links, Inl.nodes, List.length_append]; omega
theorem inlLinks_len : ∀ l : List Inl, (inlLinks l).length ≤ inlNodes l
  | [] => Nat.le_refl _
  | x :: r => by
    have h1 := Inl.links_len x
    have h2 := inlLinks_len r
    rw [inlLinks, inlNodes, List.length_append]; omega
end
mutual
theorem Blk.links_len : ∀ x : Blk, x.links.length ≤ x.nodes
  | .mk _ _ _ _ _ inl _ _ kids => by
    have h1 := blkLinks_len kids
    have h2 := inlLinks_len inl
    rw [Blk.links, Blk.nodes, List.length_append]; omega
theorem blkLinks_len : ∀ l : List Blk, (blkLinks l).length ≤ blkNodes l
  | [] => Nat.le_refl _
  | x :: r => by
    have h1 := Blk.links_len x
    have h2 := blkLinks_len r
    rw [blkLinks, blkNodes, List.length_append]; omega
end
def TtP (ts : List TT) : V → List Chunk → List Fact → Prop := fun v L D => ∃ a c, v = .c (.sl a ts.length c) ∧ L = [.row 23 2 a ts.length c (ttC ts)] ∧ D = []
theorem linked_ok (n : Nat) : ∀ (els : List Inl), inlNodes els = n → ∀ (ia : Option Addr) (ic : Nat) (a : Option Addr) (c : Nat) (ts : List TT), ts.length + n ≤ 10000000 →
    FnS Tryz.prog 104 [.c (.sl a ts.length c), .c (.sl ia els.length ic)] [.row 23 2 a ts.length c (ttC ts)] [inlF ia els] (TtP (ts ++ inlLinks els)) := by
  induction n using Nat.strongRecOn with | _ n ih
  intro els hn ia ic a c ts hts
  have hel := inlNodes_len els
  refine fn_of_J Tryz.tyOK 0 Tryz.func104 (by kernel_rfl) (c := Tryz.f104.body.getD .skip) (by kernel_rfl) Tryz.ntmps104 (rs := Tryz.f104.results.toList) rfl (by simp) (fun G => ?_)
  repeat' first
    | refine J_seq ?_ | refine J_region Tryz.tyOK ?_ | refine J_block ?_ | refine J_cond ?_ | refine J_ret ?_ | refine J_skip ?_ | refine J_exit ?_ | refine J_scope ?_
    | refine CondP.yes (by omega) ?_ | refine CondP.no (by omega) ?_ | refine CondP.mk (fun h => ?_) (fun h => ?_) | refine EqP.mk rfl ?_ | refine NewP.mk (fun ad => ?_) | refine ArP.exact (by simp only [inR]; omega) ?_ | refine SideP.mk (by first | omega | (dsimp only; omega) | (simp; omega)) ?_
    | fail
  refine J_loop (α := Nat × List TT × Option Addr × Nat) (fun x => [(0, .c (.sl x.2.2.1 x.2.1.length x.2.2.2)), (7, .c (.sl ia els.length ic)), (8, lenV els.length), (9, .c (.i .i64 x.1))])
    (fun x => [.row 23 2 x.2.2.1 x.2.1.length x.2.2.2 (ttC x.2.1)]) (fun _ => [inlF ia els]) 5 (fun x => x.1 ≤ els.length ∧ x.2.1 = ts ++ inlLinks (els.take x.1)) (fun x => els.length - x.1)
    (InFam.mk (0, ts, a, c) ⟨Nat.zero_le _, by simp [inlLinks]⟩ (by repeat' first | exact SubE.nil | refine SubE.cons rfl ?_ ?_ | exact VEq.refl _ | refine VEq.int (by omega) | refine VEq.sl rfl (by first | rfl | omega | (rw [List.length_append]; rfl) | (simp; omega)) rfl) (Ents.refl _ _)) (fun x hx => ?_)
  obtain ⟨i, us, a, c⟩ := x
  obtain ⟨hi, hus⟩ := hx
  dsimp only at hi hus ⊢
  by_cases hlt : i < els.length
  · have hk := inlNodes_kid hlt
    have hst := inlLinks_succ hlt
    have hfk := inl_kids (a := ia) hlt
    have hcg : ((inlC els).drop (i * 6 + 0)).take 6 = els[i].cells := inlC_get (o := 0) (k := 6) hlt (by omega)
    have hll := inlLinks_len (els.take i)
    have hnt := inlNodes_succ hlt
    have hnl := inlNodes_take_le els (i + 1)
    have hul : us.length ≤ ts.length + inlNodes (els.take i) := by rw [hus, List.length_append]; omega
    have hown := Inl.own_len els[i]
    have hstep : ts ++ inlLinks (els.take (i + 1)) = us ++ els[i].own ++ inlLinks els[i].kids := by rw [hst, hus]; simp
    have hrd : ∀ L, Reads L [inlF ia els] 102 6 ia els.length (inlC els) := fun _ => inl_reads (fun _ h => h)
    have ih' := fun a' c' ts' (h : ts'.length + inlNodes els[i].kids ≤ 10000000) => ih (inlNodes els[i].kids) (by omega) els[i].kids rfl els[i].ka els[i].kc a' c' ts' h
    generalize els[i] = x at *
    have hyes : x.kind = 4 → ¬ (x.sp = 0 ∧ x.name = [] ∧ True) → x.own = [(x.sp, x.name)] := fun h1 h2 => by unfold Inl.own; exact if_pos ⟨h1, h2⟩
    have hno : ¬ (x.kind = 4 ∧ ¬ (x.sp = 0 ∧ x.name = [] ∧ True)) → x.own = [] := fun h => by unfold Inl.own; exact if_neg h
    unfold Inl.cells at hcg
    have hap : ttC us ++ [.i .i64 x.sp, .s x.name] = ttC (us ++ [(x.sp, x.name)]) := by simp [ttC]
    have hla : us.length + 1 = (us ++ [(x.sp, x.name)]).length := by simp
    have hca := fun a' c' => ih' a' c' us (by omega)
    have hcb := fun a' c' => ih' a' c' (us ++ [(x.sp, x.name)]) (by rw [← hla]; omega)
    clear ih' hst ih
    repeat' first
      | refine J_seq ?_ | refine J_region Tryz.tyOK ?_ | refine J_block ?_ | refine J_cond ?_ | refine J_ret ?_ | refine J_skip ?_ | refine J_exit ?_ | refine J_scope ?_
      | refine CondP.yes (by omega) ?_ | refine CondP.no (by omega) ?_ | refine CondP.mk (fun h => ?_) (fun h => ?_) | refine EqP.mk rfl ?_ | refine NewP.mk (fun ad => ?_) | refine ArP.exact (by simp only [inR]; omega) ?_ | refine SideP.mk (by first | omega | (dsimp only; omega) | (simp; omega)) ?_
      | refine IdxE.mk 102 6 _ (hrd _) (by omega) (by omega) ?_ | refine LoadE.mk 102 els.length _ _ (hrd _) (by omega) (by omega) (by decide) (by exact hcg) ?_ | (refine AppE.row [_, _] _ (ttC us) [.i .i64 x.sp, .s x.name] 1 rfl (SrcE.sl 23 23 _ _ 1 _ _ rfl rfl (.inl ⟨_, List.Mem.head _⟩) rfl) (by dsimp only; omega) (fun b2 d2 => ?_); rw [hap, hla]) | (refine CallP.mk _ _ [inlF x.ka x.kids] _ (hca _ _) (List.Perm.swap _ _ _) hfk (fun v L' D' hp => ?_); obtain ⟨a3, c3, rfl, rfl, rfl⟩ := hp) | (refine CallP.mk _ _ [inlF x.ka x.kids] _ (hcb _ _) (List.perm_append_comm (l₁ := [_, _]) (l₂ := [_])) hfk (fun v L' D' hp => ?_); obtain ⟨a3, c3, rfl, rfl, rfl⟩ := hp) | (have hxx := hyes (by assumption) (by assumption); refine Round.mk (i + 1, us ++ [(x.sp, x.name)] ++ inlLinks x.kids, a3, c3) (by dsimp only; omega) ⟨by dsimp only; omega, ?_⟩ (by repeat' first | exact SubE.nil | refine SubE.cons rfl ?_ ?_ | exact VEq.refl _ | refine VEq.int (by omega) | refine VEq.sl rfl (by first | rfl | omega | (rw [List.length_append]; rfl) | (simp; omega)) rfl) (Ents.ofSub (by repeat (first | exact List.Sublist.slnil | refine List.Sublist.cons_cons _ ?_ | refine List.Sublist.cons _ ?_)) (fun _ h => h))) | refine Round.mk (i + 1, us ++ inlLinks x.kids, a3, c3) (by dsimp only; omega) ⟨by dsimp only; omega, ?_⟩ (by repeat' first | exact SubE.nil | refine SubE.cons rfl ?_ ?_ | exact VEq.refl _ | refine VEq.int (by omega) | refine VEq.sl rfl (by first | rfl | omega | (rw [List.length_append]; rfl) | (simp; omega)) rfl) (Ents.ofSub (by repeat (first | exact List.Sublist.slnil | refine List.Sublist.cons_cons _ ?_ | refine List.Sublist.cons _ ?_)) (fun _ h => h))
      | fail
    all_goals (dsimp only; rw [hstep])
    · rw [hno (by intro h; simp_all), List.append_nil]
    · rw [hyes (by assumption) (by assumption)]
    · rw [hno (by intro h; simp_all), List.append_nil]
  · have hil : i = els.length := by omega
    subst hil
    rw [List.take_length] at hus
    subst hus
    repeat' first
      | refine J_seq ?_ | refine J_region Tryz.tyOK ?_ | refine J_block ?_ | refine J_cond ?_ | refine J_ret ?_ | refine J_skip ?_ | refine J_exit ?_ | refine J_scope ?_
      | refine CondP.yes (by omega) ?_ | refine CondP.no (by omega) ?_ | refine CondP.mk (fun h => ?_) (fun h => ?_) | refine EqP.mk rfl ?_ | refine NewP.mk (fun ad => ?_) | refine ArP.exact (by simp only [inR]; omega) ?_ | refine SideP.mk (by first | omega | (dsimp only; omega) | (simp; omega)) ?_
      | refine FinE.mk [_] [] ⟨a, c, rfl, rfl, rfl⟩ (Ents.facts fun _ _ => trivial)
      | fail
theorem targets_ok (n : Nat) : ∀ (bs : List Blk), blkNodes bs = n → ∀ (ba : Option Addr) (bc : Nat) (a : Option Addr) (c : Nat) (ts : List TT), ts.length + n ≤ 10000000 →
    FnS Tryz.prog 71 [.c (.sl a ts.length c), .c (.sl ba bs.length bc)] [.row 23 2 a ts.length c (ttC ts)] [blkF ba bs] (TtP (ts ++ blkLinks bs)) := by
  induction n using Nat.strongRecOn with | _ n ih
  intro bs hn ba bc a c ts hts
  have hel := blkNodes_len bs
  refine fn_of_J Tryz.tyOK 0 Tryz.func71 (by kernel_rfl) (c := Tryz.f71.body.getD .skip) (by kernel_rfl) Tryz.ntmps71 (rs := Tryz.f71.results.toList) rfl (by simp) (fun G => ?_)
  repeat' first
    | refine J_seq ?_ | refine J_region Tryz.tyOK ?_ | refine J_block ?_ | refine J_cond ?_ | refine J_ret ?_ | refine J_skip ?_ | refine J_exit ?_ | refine J_scope ?_
    | refine CondP.yes (by omega) ?_ | refine CondP.no (by omega) ?_ | refine CondP.mk (fun h => ?_) (fun h => ?_) | refine EqP.mk rfl ?_ | refine NewP.mk (fun ad => ?_) | refine ArP.exact (by simp only [inR]; omega) ?_ | refine SideP.mk (by first | omega | (dsimp only; omega) | (simp; omega)) ?_
    | fail
  refine J_loop (α := Nat × List TT × Option Addr × Nat) (fun x => [(0, .c (.sl x.2.2.1 x.2.1.length x.2.2.2)), (7, .c (.sl ba bs.length bc)), (8, lenV bs.length), (9, .c (.i .i64 x.1))])
    (fun x => [.row 23 2 x.2.2.1 x.2.1.length x.2.2.2 (ttC x.2.1)]) (fun _ => [blkF ba bs]) 5 (fun x => x.1 ≤ bs.length ∧ x.2.1 = ts ++ blkLinks (bs.take x.1)) (fun x => bs.length - x.1)
    (InFam.mk (0, ts, a, c) ⟨Nat.zero_le _, by simp [blkLinks]⟩ (by repeat' first | exact SubE.nil | refine SubE.cons rfl ?_ ?_ | exact VEq.refl _ | refine VEq.int (by omega) | refine VEq.sl rfl (by first | rfl | omega | (rw [List.length_append]; rfl) | (simp; omega)) rfl) (Ents.refl _ _)) (fun x hx => ?_)
  obtain ⟨i, us, a, c⟩ := x
  obtain ⟨hi, hus⟩ := hx
  dsimp only at hi hus ⊢
  by_cases hlt : i < bs.length
  · have hk := blkNodes_kid hlt
    have hst := blkLinks_succ hlt
    have hfi := blk_inl (a := ba) hlt
    have hfk := blk_kids (a := ba) hlt
    have hcg : ((blkC bs).drop (i * 5 + 0)).take 5 = bs[i].cells := blkC_get (o := 0) (k := 5) hlt (by omega)
    have hll := blkLinks_len (bs.take i)
    have hnt := blkNodes_succ hlt
    have hnl := blkNodes_take_le bs (i + 1)
    have hul : us.length ≤ ts.length + blkNodes (bs.take i) := by rw [hus, List.length_append]; omega
    have hil := inlLinks_len bs[i].inl
    have hstep : ts ++ blkLinks (bs.take (i + 1)) = us ++ inlLinks bs[i].inl ++ blkLinks bs[i].kids := by rw [hst, hus]; simp
    have hrd : ∀ L, Reads L [blkF ba bs] 81 5 ba bs.length (blkC bs) := fun _ => blk_reads (fun _ h => h)
    have hca := fun a' c' => linked_ok _ bs[i].inl rfl bs[i].ia bs[i].ic a' c' us (by omega)
    have hcb := fun a' c' => ih (blkNodes bs[i].kids) (by omega) bs[i].kids rfl bs[i].ka bs[i].kc a' c' (us ++ inlLinks bs[i].inl) (by rw [List.length_append]; omega)
    clear ih hst hll hus
    generalize bs[i] = x at *
    unfold Blk.cells at hcg
    repeat' first
      | refine J_seq ?_ | refine J_region Tryz.tyOK ?_ | refine J_block ?_ | refine J_cond ?_ | refine J_ret ?_ | refine J_skip ?_ | refine J_exit ?_ | refine J_scope ?_
      | refine CondP.yes (by omega) ?_ | refine CondP.no (by omega) ?_ | refine CondP.mk (fun h => ?_) (fun h => ?_) | refine EqP.mk rfl ?_ | refine NewP.mk (fun ad => ?_) | refine ArP.exact (by simp only [inR]; omega) ?_ | refine SideP.mk (by first | omega | (dsimp only; omega) | (simp; omega)) ?_
      | refine J_drawU (id := 4) Tryz.tyOK (by kernel_rfl) [0, 0, 2, 7, 0, 16, 63, 127] (.fork [0, 1, 2, 4, 5] (.alt 3 (.fork [] (.alt 6 (.leaf [7]) (.stop))) (.stop))) [3, 6] [6] 8 false (by kernel_rfl) ?_ | refine TwoP.mk ?_ ?_ | refine GoP.mk (by repeat (first | exact keepC_sub _ _ _ | exact List.Sublist.slnil | refine List.Sublist.cons_cons _ ?_ | refine List.Sublist.cons _ ?_)) (by first | exact fun _ h => h | exact fun _ h => h.2 | exact fun _ h => ((allD_append _ _).1 h).2) ?_ | exact trivial | refine EntP.mk (Ents.ofSub (by repeat (first | exact keepC_sub _ _ _ | exact List.Sublist.slnil | refine List.Sublist.cons_cons _ ?_ | refine List.Sublist.cons _ ?_)) (by first | exact fun _ h => h | exact fun _ _ => trivial | exact fun _ h => h.2 | exact fun _ h => h.2.2.2.2 | exact fun _ h => h.2.2 | exact fun _ h => h.2.2.2 | exact fun _ h => h.2.2.2.2.2 | exact fun _ h => h.2.2.2.2.2.2 | exact fun _ h => h.2.2.2.2.2.2.2 | exact fun _ h => h.2.2.2.2.2.2.2.2 | exact fun _ h => h.2.2.2.2.2.2.2.2.2 | exact fun _ h => h.2.2.2.2.2.2.2.2.2.2 | exact fun _ h => ((allD_append _ _).1 h).2)) ?_ | refine IdxE.mk 81 5 _ (hrd _) (by omega) (by omega) ?_ | refine LoadE.mk 81 bs.length _ _ (hrd _) (by omega) (by omega) (by decide) (by exact hcg) ?_ | (refine CallP.mk _ _ [inlF x.ia x.inl] _ (hca _ _) (List.Perm.swap _ _ _) hfi (fun v L' D' hp => ?_); obtain ⟨a3, c3, rfl, rfl, rfl⟩ := hp) | (refine CallP.mk _ _ [blkF x.ka x.kids] _ (hcb _ _) (List.Perm.refl _) hfk (fun v L' D' hp => ?_); obtain ⟨a4, c4, rfl, rfl, rfl⟩ := hp) | refine Round.mk (i + 1, us ++ inlLinks x.inl ++ blkLinks x.kids, a4, c4) (by dsimp only; omega) ⟨by dsimp only; omega, hstep.symm⟩ (by repeat' first | exact SubE.nil | refine SubE.cons rfl ?_ ?_ | exact VEq.refl _ | refine VEq.int (by omega) | refine VEq.sl rfl (by first | rfl | omega | (rw [List.length_append]; rfl) | (simp; omega)) rfl) (Ents.ofSub (by repeat (first | exact List.Sublist.slnil | refine List.Sublist.cons_cons _ ?_ | refine List.Sublist.cons _ ?_)) (fun _ h => h))
      | fail
    all_goals trace_state
  · have hil : i = bs.length := by omega
    subst hil
    rw [List.take_length] at hus
    subst hus
    repeat' first
      | refine J_seq ?_ | refine J_region Tryz.tyOK ?_ | refine J_block ?_ | refine J_cond ?_ | refine J_ret ?_ | refine J_skip ?_ | refine J_exit ?_ | refine J_scope ?_
      | refine CondP.yes (by omega) ?_ | refine CondP.no (by omega) ?_ | refine CondP.mk (fun h => ?_) (fun h => ?_) | refine EqP.mk rfl ?_ | refine NewP.mk (fun ad => ?_) | refine ArP.exact (by simp only [inR]; omega) ?_ | refine SideP.mk (by first | omega | (dsimp only; omega) | (simp; omega)) ?_
      | refine FinE.mk [_] [] ⟨a, c, rfl, rfl, rfl⟩ (Ents.facts fun _ _ => trivial)
      | fail
end Go.Proofs
namespace Go.Proofs
open Go Go.X
set_option maxRecDepth 100000
def tgT (bs : List Blk) : List TT := (blkLinks bs).foldl (addG cmpTT) []
theorem tgT_len (bs : List Blk) : (tgT bs).length ≤ blkNodes bs := by
  have h1 := foldAddG_len (cf := cmpTT) (blkLinks bs) []
  have h2 := blkLinks_len bs
  simp only [List.length_nil] at h1
  unfold tgT; omega
theorem sorted_is {l l' : List TT} (hp : l'.Perm l) (ho : l'.Pairwise (fun x y => ltOf cmpTT y x = false)) : cmG l' = l.foldl (addG cmpTT) [] := by
  obtain ⟨h1, h2⟩ := cmG_str cmp_TT cmpTT_eq l' (ordL_of cmp_TT ho)
  obtain ⟨h3, h4⟩ := foldAddG_str cmp_TT cmpTT_eq l [] List.Pairwise.nil
  refine strL_eq cmp_TT h1 h3 fun x => ?_
  rw [h2, h4, hp.mem_iff]
  simp
def TsF (ts : List TT) : V → List Chunk → List Fact → Prop := fun v L D => ∃ a c, ts.length ≤ c ∧ v = .c (.sl a ts.length c) ∧ L = [] ∧ D = [slFact 23 2 a ts.length (ttC ts)]
theorem targetsAll_ok (bs : List Blk) (hb : blkNodes bs ≤ 10000000) (ba : Option Addr) (bc : Nat) : FnS Tryz.prog 32 [.c (.sl ba bs.length bc)] [] [blkF ba bs] (TsF (tgT bs)) := by
  have hl := blkLinks_len bs
  have c1 := targets_ok _ bs rfl ba bc none 0 [] (by simpa using hb)
  have c2 := fun a c => sortTt_ok a c (blkLinks bs) (by omega)
  have hsi := fun (l : List TT) (hp : l.Perm (blkLinks bs)) ho => sorted_is hp ho
  rw [List.nil_append] at c1
  unfold tgT
  generalize blkLinks bs = ls at *
  refine fn_of_J Tryz.tyOK 0 Tryz.func32 (by kernel_rfl) (c := Tryz.f32.body.getD .skip) (by kernel_rfl) Tryz.ntmps32 (rs := Tryz.f32.results.toList) rfl (by simp) (fun G => ?_)
  repeat' first
    | refine J_stop (c := .seq (.region 3 _ _) _) ?_
    | refine J_seq ?_ | refine J_region Tryz.tyOK ?_ | refine J_block ?_ | refine J_cond ?_ | refine J_ret ?_ | refine J_skip ?_ | refine J_exit ?_ | refine J_scope ?_
    | refine CondP.yes (by omega) ?_ | refine CondP.no (by omega) ?_ | refine CondP.mk (fun h => ?_) (fun h => ?_) | refine EqP.mk rfl ?_ | refine NewP.mk (fun ad => ?_) | refine ArP.exact (by simp only [inR]; omega) ?_ | refine SideP.mk (by first | omega | (dsimp only; omega) | (simp; omega)) ?_
    | (refine CallP.mkE [_] [] [blkF ba bs] _ _ c1 Ents.nilRow (fun _ h => h) (fun v L' D' hp => ?_); obtain ⟨a1, k1, rfl, rfl, rfl⟩ := hp) | (refine CallP.mk [_] [] [] _ (c2 _ _) (List.Perm.refl _) (fun _ _ => trivial) (fun v L' D' hp => ?_); obtain ⟨l1, hp1, ho1, rfl, rfl, rfl⟩ := hp; have hll := hp1.length_eq; rw [← hll]; rw [← hsi l1 hp1 ho1])
    | fail
  refine ⟨?_⟩
  refine J_cap (List.Mem.head _) (fun hnc _ _ => ?_)
  have hcl : (cmG l1).length ≤ l1.length := by
    cases l1 with
    | nil => exact Nat.le_refl _
    | cons x r => exact Nat.succ_le_succ (cmGo_len r x)
  repeat' first
    | refine J_seq ?_ | refine J_region Tryz.tyOK ?_ | refine J_block ?_ | refine J_cond ?_ | refine J_ret ?_ | refine J_skip ?_ | refine J_exit ?_ | refine J_scope ?_
    | refine CondP.yes (by omega) ?_ | refine CondP.no (by omega) ?_ | refine CondP.mk (fun h => ?_) (fun h => ?_) | refine EqP.mk rfl ?_ | refine NewP.mk (fun ad => ?_) | refine ArP.exact (by simp only [inR]; omega) ?_ | refine SideP.mk (by first | omega | (dsimp only; omega) | (simp; omega)) ?_
    | (refine CallP.mk [_] [] [] _ (cptTt_ok _ _ _ (by omega)) (List.Perm.refl _) (fun _ _ => trivial) (fun v L' D' hp => ?_); obtain ⟨rfl, rfl, rfl⟩ := hp) | refine FinE.mk [] [_] ⟨a1, k1, by omega, rfl, rfl, rfl⟩ (Ents.toFact.trans (Ents.facts fun _ h => ⟨h.1, trivial⟩))
    | fail
  all_goals trace_state
end Go.Proofs
namespace Go.Proofs
open Go Go.X
set_option maxRecDepth 100000
theorem contains_ok (s t : List UInt8) (hs : s.length < 4294967281) : FnS Tryz.prog 23 [.c (.s s), .c (.s t)] [] [gInt 0] (Is (.c (.b (Lib.contains s t)))) :=
  fn_below ⟨_, Tryz.func23, by kernel_rfl, by kernel_rfl⟩ (fun w m hd hw => by
    obtain ⟨n, hn⟩ := gInt_cell hd hw
    refine (Tryz.strings_Contains ⟨⟨s⟩⟩ ⟨⟨t⟩⟩ n w hs hn).mono ?_
    rintro e w' ⟨rfl, rfl⟩
    exact ⟨rfl, rfl, rfl, rfl, Nat.le_refl _, fun _ _ => rfl⟩)
theorem genQ4 {n b : Nat} (h1 : n ≤ b) (h2 : b ≤ 21672) : n * b ≤ 1000000000 := Nat.le_trans (Nat.mul_le_mul (Nat.le_trans h1 h2) h2) (by decide)
theorem misF_none {m : Im} : (misF none []).p m := ⟨fun x hx => (by cases hx), .inl ⟨rfl, rfl⟩⟩
set_option maxHeartbeats 4000000 in
theorem htmlMissing_law (e : Nat) (a : Option Addr) (c : Nat) (l : List Int) (hl : l.length ≤ maxLen) :
    FnS Tryz.prog 10 [.c (.sl a l.length c)] [] [slFact e 1 a l.length (l.map (C.i .i64)), tabF, gInt 0] (Is (.c (.b true))) := by
  have g1 := fun tb => gen4_ok e a c tb l hl 0 (Nat.zero_le _)
  have t1 := fun ad q hq => titleE e a c ad q l hq hl
  refine fn_of_J Tryz.tyOK 0 Tryz.func10 (by kernel_rfl) (c := Tryz.f10.body.getD .skip) (by kernel_rfl) Tryz.ntmps10 (rs := Tryz.f10.results.toList) rfl (by simp) (fun G => ?_)
  repeat' first
    | refine J_stop (c := .seq (.seq (.region 4 _ _) _) _) ?_ | refine J_stop (c := .seq (.region 4 _ _) _) ?_
    | refine J_seq ?_ | refine J_region Tryz.tyOK ?_ | refine J_block ?_ | refine J_cond ?_ | refine J_ret ?_ | refine J_skip ?_ | refine J_exit ?_ | refine J_scope ?_
    | refine CondP.yes (by omega) ?_ | refine CondP.no (by omega) ?_ | refine CondP.mk (fun h => ?_) (fun h => ?_) | refine EqP.mk rfl ?_ | refine NewP.mk (fun ad => ?_) | refine ArP.exact (by simp only [inR]; omega) ?_ | refine SideP.mk (by first | omega | (dsimp only; omega) | (simp; omega)) ?_
    | (refine CallP.mk [] _ [] _ (new_ok a l.length c) (List.Perm.refl _) (fun _ _ => trivial) (fun v L' D' hp => ?_); obtain ⟨ab, rfl, rfl, rfl⟩ := hp) | (refine CallP.mk [_] _ [_] _ (g1 _) (List.Perm.refl _) (fun _ h => ⟨h.1, trivial⟩) (fun v L' D' hp => ?_); obtain ⟨ga, gc, gs, q, hq, hgb, hgf, hg4, rfl, rfl, rfl⟩ := hp) | (refine CallP.mk [_] _ [_] _ (t1 _ _ (by assumption)) (List.Perm.refl _) (fun _ h => ⟨h.2.1, trivial⟩) (fun v L' D' hp => ?_); obtain ⟨sp1, nm1, q1, hn1, hq1, rfl, rfl, rfl⟩ := hp)
    | fail
  refine ⟨?_⟩
  rename_i s0 n0 q0 hn0 hq0 s2 n2 q2 hn2 hq2
  have hgn := blkNodes_bulk gs
  have hqg := genQ4 hgn hgb
  have hml : [(s0, n0), (s2, n2), (sp1, nm1)].length ≤ 100000000 := by simp
  have htl := tgT_len gs
  have r1 := render_ok gs (by omega) hqg hgf [] (by simp) ga none gc 0
  have r2 := render_ok gs (by omega) hqg hgf [(s0, n0), (s2, n2), (sp1, nm1)] hml ga (some ⟨ad, 0, none⟩) gc 3
  have r3 := fun ta tc => render_ok gs (by omega) hqg hgf (tgT gs) (by omega) ga ta gc tc
  have k1 := targetsAll_ok gs (by omega) ga gc
  have z1 := gen_le (misP []) gs hgb hg4 hgf
  have z2 := gen_le (misP [(s0, n0), (s2, n2), (sp1, nm1)]) gs hgb hg4 hgf
  have z3 := gen_le (misP (tgT gs)) gs hgb hg4 hgf
  have p1 := rp_doc (misP []) gs
  have p2 := rp_doc (misP [(s0, n0), (s2, n2), (sp1, nm1)]) gs
  have p3 := rp_doc (misP (tgT gs)) gs
  have n1 := no_cls p1
  refine J_ent (env' := [(4, .c (.sl ga gs.length gc)), (5, .c (.sl (some ⟨ad, 0, none⟩) 3 3))]) (L' := []) (D' := [misF (some ⟨ad, 0, none⟩) [(s0, n0), (s2, n2), (sp1, nm1)], blkF ga gs, tabF, gInt 0, misF none []]) (n' := 0) (by repeat' first | exact SubE.nil | refine SubE.cons rfl ?_ ?_ | exact VEq.refl _ | refine VEq.int (by omega) | refine VEq.sl rfl (by first | rfl | omega | (rw [List.length_append]; rfl) | (simp; omega)) rfl) (Ents.toFact.trans (Ents.dropAll.trans (Ents.facts fun m h => ⟨h.1, h.2.1, h.2.2.2.1, h.2.2.2.2.1, misF_none, trivial⟩))) ?_
  generalize renT (misP []) gs = R1 at *
  generalize renT (misP [(s0, n0), (s2, n2), (sp1, nm1)]) gs = R2 at *
  generalize renT (misP (tgT gs)) gs = R3 at *
  have x1 := contains_ok R1 clsS (by omega)
  rw [n1] at x1
  have y2 := replaceAll_ok R2 clsS [] (by omega) (by decide) (by simp; omega)
  have y3 := replaceAll_ok R3 clsS [] (by omega) (by decide) (by simp; omega)
  rw [show Lib.replaceAll R2 clsS [] = R1 from p2] at y2
  rw [show Lib.replaceAll R3 clsS [] = R1 from p3] at y3
  clear g1 t1 p1 p2 p3
  unfold clsS at x1 y2 y3
  repeat' first
    | refine CondP.yes rfl ?_
    | refine J_seq ?_ | refine J_region Tryz.tyOK ?_ | refine J_block ?_ | refine J_cond ?_ | refine J_ret ?_ | refine J_skip ?_ | refine J_exit ?_ | refine J_scope ?_
    | refine CondP.yes (by omega) ?_ | refine CondP.no (by omega) ?_ | refine CondP.mk (fun h => ?_) (fun h => ?_) | refine EqP.mk rfl ?_ | refine NewP.mk (fun ad => ?_) | refine ArP.exact (by simp only [inR]; omega) ?_ | refine SideP.mk (by first | omega | (dsimp only; omega) | (simp; omega)) ?_
    | refine CallP.is r1 ?_ (fun _ h => ⟨h.2.1, h.2.2.2.2.1, h.2.2.1, h.2.2.2.1, trivial⟩) | refine CallP.is r2 ?_ (fun _ h => ⟨h.2.1, h.1, h.2.2.1, h.2.2.2.1, trivial⟩) | (refine CallP.mk [] [] [_] _ k1 (List.Perm.refl _) (fun _ h => ⟨h.2.1, trivial⟩) (fun v L' D' hp => ?_); obtain ⟨a1, c1, h1, rfl, rfl, rfl⟩ := hp) | refine CallP.is (r3 _ _) ?_ (fun _ h => ⟨h.2.2.1, h.1, h.2.2.2.1, h.2.2.2.2.1, trivial⟩) | refine CallP.is x1 ?_ (fun _ h => ⟨h.2.2.2.2.1, trivial⟩) | refine CallP.is y2 ?_ (fun _ h => ⟨h.2.2.2.2.1, trivial⟩) | refine CallP.is y3 ?_ (fun _ h => ⟨h.2.2.2.2.1, trivial⟩) | refine CallP.is known_ok ?_ (fun _ h => ⟨h.2.2.2.2.1, trivial⟩) | refine FinE.bool rfl
    | fail
  all_goals trace_state
end Go.Proofs
namespace Go.Proofs.YtdnkeinjfddmnaaGreatDoor
open Go Go.X Go.ChangeShapes Go.WideShapes Go.ChangeAt Go.RowKit
set_option maxRecDepth 100000
namespace htmlMissing
theorem reads (os : Os) {H : Type} (enc : TypeId × Value → H) : ∃ places, DataW.whole enc Tryz.prog ((laidWorld os).forCall (fun _ _ => 0) ⟨#[], #[.slice none 0 0], []⟩).memory Tryz.f10.params.toList Rows.htmlMissingSpec.vars false (#[.slice none 0 0] : Array Value).toList 8 = some ([.nil], [], places) :=
  ⟨[], by kernel_rfl⟩
theorem contract (H : Type) (enc : TypeId × Value → H) (W : World) (base : Nat) (args : Array Value) (ds gs : List (DataW H)) (before : List MemPlace) (hlm : laidMetH Tryz.prog Rows.htmlMissingRow.laid W)
    (hval : ∀ (j : Nat) t v, Tryz.f10.params[j]? = some t → args[j]? = some v → Value.okWide Tryz.prog W .any base t v)
    (hW : DataW.Whole enc Tryz.prog Tryz.f10.params.toList Rows.htmlMissingSpec.vars false W args.toList ds gs before) (hsh : W.ShapedOpen Tryz.prog) :
    Calls Tryz.prog 10 args W fun e W' => ∃ v, e = .returned v ∧ Rows.htmlMissingSpec.post enc Tryz.prog Tryz.f10 false true false false W args v W' := by
  have hW' := hW
  obtain ⟨p, q, hA0, hV, rfl, hfz, hnd⟩ := hW
  have hA : DataW.TrodAll enc Tryz.prog W 0 (fun _ => true) true Tryz.f10.params.toList args.toList ds p := hA0
  rw [Tryz.params10] at hA hval
  obtain ⟨v0, vs0, d0, ds0, p0, q0, hargs0, rfl, rfl, h0, r0⟩ := trodAll_cons hA
  obtain ⟨rfl, rfl, rfl⟩ := trodAll_nil r0
  obtain rfl : args = #[v0] := by cases args; simp_all
  obtain ⟨a, hqa, rfl⟩ := open_arg (okTy (t := 24) rfl).2.2.2 (by simp) (hval 0 _ v0 rfl rfl) h0 (openS_slice (z := 1) Tryz.underlying24 (cellsOf_ty (okTy (t := 3) rfl)) (by decide) (fun g x hx => by simp at hx; subst hx; rfl) (openS_int Tryz.underlying3))
  obtain ⟨ad, n, c, l⟩ := a
  obtain ⟨hn, hs, _⟩ := hqa
  dsimp only at hn hs
  subst hn
  obtain ⟨e, hf⟩ := hs.f
  have hf2 : (slFact e 1 ad l.length (l.map (C.i .i64))).p (fun b => W.heap[b]?) := by rw [List.map_eq_flatMap]; exact hf
  exact law_calls laidOut (by rw [Tryz.params10]; decide +kernel) rfl (by kernel_rfl) Tryz.underlying4 hW' rfl rfl (show allD _ [slFact e 1 ad l.length (l.map (C.i .i64)), tabF, gInt 0] from ⟨hf2, tab_fact hlm rfl, maxLen_fact hsh⟩) (htmlMissing_law e ad c l (Nat.le_trans hs.le hs.max))
theorem lifted (os : Os) (started : os.Started) (H : Type) (enc : TypeId × Value → H) (F : Stop.Interp) :
    ReturnsInHanded {} Tryz.checked os 10 .any ((OpenSpec.ofChange Rows.htmlMissingSpec).preRow enc Tryz.prog Tryz.f10 Rows.htmlMissingRow.domain false Rows.htmlMissingRow.laid) (((OpenSpec.ofChange Rows.htmlMissingSpec).at F).post enc Tryz.prog Tryz.f10 false true false false) := by
  obtain ⟨places, hx⟩ := reads os enc
  refine returnsInHanded_of_row (C := Tryz.checked) (s := (OpenSpec.ofChange Rows.htmlMissingSpec)) own started (by kernel_rfl) Tryz.func10
    (witness_row_at (enc := enc) (C := Tryz.checked) false (laidWorld os) #[.slice none 0 0] rfl (world_vars os _) (world_rest os _) (by kernel_rfl)
      (OpenSpec.preRow_of_cond 8 hx (by kernel_rfl) (fun k hk => by cases hk) (by kernel_rfl) (laid_met os _))) ?_
  intro W base args ds gs before hval hW _ _ _ hlm hsh _
  exact contract H enc W base args ds gs before hlm hval hW hsh
theorem said : Rows.HtmlMissingSaid :=
  OpenClaim.holds_of_cond 10 Tryz.f10 rfl rfl rfl rfl rfl rfl rfl ⟨rfl, rfl, rfl, rfl, rfl⟩ rfl rfl rfl rfl rfl (by kernel_rfl) Tryz.func10 (by kernel_rfl)
    (of_decide_eq_true (by kernel_rfl)) (by unfold Func.isWrapper; first | (rw [if_pos (by decide +kernel)]; kernel_rfl) | (rw [if_neg (by decide +kernel)]; exact ⟨rfl, rfl⟩))
    (fun os started H enc _ F => by rw [OpenClaim.pre_eq_preRow]; exact lifted os started H enc F)
theorem plain (f : FuncId) (fn : Func) (hf : Tryz.pinned.checked.prog.funcNamed Rows.htmlMissingRow.func = some f) (hfn : Tryz.pinned.checked.prog.funcs[f]? = some fn) :
    true = Tryz.pinned.checked.prog.looks [] ∧ ∀ (j : Nat) t, fn.params[j]? = some t → Tryz.pinned.checked.prog.wantsStandIn t = false := by
  obtain rfl : f = 10 := Option.some.inj ((show Tryz.prog.funcNamed Rows.htmlMissingRow.func = some 10 by kernel_rfl).symm.trans hf) |>.symm
  obtain rfl : fn = Tryz.f10 := (Option.some.inj (Tryz.func10.symm.trans hfn)).symm
  refine ⟨no_looks, fun j t ht => ?_⟩
  rw [Tryz.params10] at ht
  have hm := Array.mem_of_getElem? ht
  have hall : ∀ t ∈ (#[24] : Array Nat), Tryz.prog.wantsStandIn t = false := by decide +kernel
  exact hall t hm
theorem card : Rows.HtmlMissingCardSaid :=
  Claim7.holds_tied_plain_at .later [] _ _ _ _ said (fun _ h => by cases h) (by kernel_rfl) (fun _ h => by cases h) htmlMissing_row_tie rfl ⟨rfl, rfl⟩ (by kernel_rfl) rfl plain (by kernel_rfl)
end htmlMissing
end Go.Proofs.YtdnkeinjfddmnaaGreatDoor
