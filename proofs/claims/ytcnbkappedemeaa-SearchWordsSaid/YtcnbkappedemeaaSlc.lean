/- This text walks through Clone, IndexFunc, DeleteFunc and Compact of the package slices at rows of words. -/
import Derived.Test.YtcnbkappedemeaaSort
set_option linter.all false

namespace Go.X
open Go Go.Lib

theorem resl0 (a : Option Addr) (c z : Nat) : resl a 0 c z = a := by
  unfold resl
  split
  · rfl
  · cases a <;> simp [Addr.add]
/-- A row of which only the first elements are wanted. -/
theorem Ents.rowPre {e z : Nat} {a : Option Addr} {n c k : Nat} {cs : List C} {L : List Chunk} {D : List Fact} (hk : k ≤ n) : Ents (.row e z a n c cs :: L) D (.row e z a k c (cs.take (k * z)) :: L) D := fun G w hs => by
  obtain ⟨m, h1, h2⟩ := hs
  have hok : (Chunk.row e z a k c (cs.take (k * z))).ok w := by
    refine ⟨fun x hx => h1.ok.1.1 x (List.mem_of_mem_take hx), ?_⟩
    rcases h1.ok.1.2 with ⟨h3, h4, h5, h6⟩ | ⟨g, hg, cur, lo, hi, h3, h4, h5, h6, h7, h8, h9⟩
    · exact .inl ⟨h3, by omega, h5, by rw [h6]; simp⟩
    · have hle : k * z ≤ n * z := Nat.mul_le_mul_right _ hk
      refine .inr ⟨g, hg, cur, lo, hi, h3, by omega, h5, h6, h7, by rw [List.length_take, h8]; omega, ?_⟩
      rw [List.map_take, ← h9, List.take_take, Nat.min_eq_left hle]
  exact ⟨m, ⟨h1.nd, ⟨hok, h1.ok.2⟩, h1.im, h1.d⟩, ⟨h2.size, h2.same, h2.own, h2.im, h2.new, h2.kept⟩⟩

theorem wrC_len (l : List WR) : (wrC l).length = l.length * 4 := flat_len (F := WR.cells) (z := 4) (fun _ => rfl) l
theorem wr_get {l : List WR} {i : Nat} (h : i < l.length) : ((wrC l).drop (i * 4 + 0)).take 4 = [.s l[i].w, .i .i64 l[i].sp, .s l[i].nm, .i .i64 l[i].n] := by
  rw [wrC, flat_get (F := WR.cells) (z := 4) (fun _ => rfl) h (by omega)]; rfl
theorem wrC_take (l : List WR) (k : Nat) : (wrC l).take (k * 4) = wrC (l.take k) := by
  induction l generalizing k with
  | nil => simp [wrC]
  | cons x r ih =>
    cases k with
    | zero => simp [wrC]
    | succ k =>
      have h := ih k
      simp only [wrC, List.flatMap_cons, List.take_succ_cons] at h ⊢
      rw [show (k + 1) * 4 = 4 + k * 4 by omega, List.take_append, show (WR.cells x).length = 4 from rfl, List.take_of_length_le (by show 4 ≤ _; omega), Nat.add_sub_cancel_left, h]
theorem wrC_set {l : List WR} {j : Nat} (hj : j < l.length) (x : WR) : setC (j * 4 + 0) x.cells (wrC l) = wrC (l.set j x) := by
  unfold wrC
  have key : ∀ (l : List WR) (j : Nat), j < l.length → setC (j * 4) x.cells (l.flatMap WR.cells) = (l.set j x).flatMap WR.cells := by
    intro l
    induction l with
    | nil => intro j h; simp at h
    | cons y r ih =>
      intro j h
      cases j with
      | zero =>
        simp only [List.flatMap_cons, List.set_cons_zero, Nat.zero_mul, setC, List.take_zero, List.nil_append, Nat.zero_add]
        rw [show (WR.cells x).length = (WR.cells y).length from rfl, List.drop_left]
      | succ j =>
        have := ih j (by simpa using h)
        simp only [List.flatMap_cons, List.set_cons_succ, ← this, setC]
        rw [show (j + 1) * 4 = (WR.cells y).length + j * 4 by show (j + 1) * 4 = 4 + j * 4; omega, List.take_append, List.take_of_length_le (by omega), Nat.add_sub_cancel_left, Nat.add_assoc, ← List.drop_drop, List.drop_left]
        simp
  exact key l j hj

/-- What the known facts imply. -/
theorem J_known {P : Program} {G : Ent} {N : Nat} {c0 : Code} {env : Env} {L : List Chunk} {D : List Fact} {nid : Nat} {K : Kt} {Q : Prop} (h : ∀ m, allD m D → Q) (k : Q → J P G N c0 env L D nid K) : J P G N c0 env L D nid K :=
  ⟨fun a w he hs => (k (by obtain ⟨m, h1, _⟩ := hs; exact h m h1.d)).run a w he hs⟩

/-- The place of the first row with a property, or -1. -/
def idxW (p : WR → Bool) : List WR → Int
  | [] => -1
  | x :: r => if p x = true then 0 else if idxW p r < 0 then -1 else idxW p r + 1

theorem setC_take {o : Nat} {vs cs : List C} (h : o ≤ cs.length) : (setC o vs cs).take o = cs.take o := by
  unfold setC
  rw [List.append_assoc, List.take_append_of_le_length (by rw [List.length_take]; omega), List.take_take, Nat.min_self]
theorem idxW_none {p : WR → Bool} : ∀ {l : List WR}, idxW p l < 0 → l.filter (fun x => !p x) = l
  | [], _ => rfl
  | x :: r, h => by
    simp only [idxW] at h
    by_cases hp : p x = true
    · rw [if_pos hp] at h; omega
    · rw [if_neg hp] at h
      have hr : idxW p r < 0 := by split at h <;> omega
      rw [List.filter_cons, if_pos (by simpa using hp), idxW_none hr]
theorem idxW_low {p : WR → Bool} : ∀ (l : List WR), -1 ≤ idxW p l
  | [] => by simp [idxW]
  | x :: r => by
    have := idxW_low (p := p) r
    simp only [idxW]
    split
    · omega
    · split <;> omega
theorem idxW_some {p : WR → Bool} : ∀ {l : List WR} {i : Nat}, idxW p l = i → ∃ h : i < l.length, p l[i] = true ∧ (l.take i).filter (fun x => !p x) = l.take i
  | [], i, h => by simp [idxW] at h
  | x :: r, i, h => by
    simp only [idxW] at h
    by_cases hp : p x = true
    · rw [if_pos hp] at h
      have : i = 0 := by omega
      subst this
      exact ⟨by simp, by simpa using hp, by simp⟩
    · rw [if_neg hp] at h
      split at h
      · omega
      · obtain ⟨k, rfl⟩ : ∃ k, i = k + 1 := ⟨i - 1, by omega⟩
        obtain ⟨h1, h2, h3⟩ := idxW_some (p := p) (l := r) (i := k) (by omega)
        refine ⟨by simpa using h1, by simpa using h2, ?_⟩
        rw [List.take_succ_cons, List.filter_cons, if_pos (by simpa using hp), h3]

end Go.X

namespace Go.Proofs
open Go Go.X
set_option maxRecDepth 100000
set_option maxHeartbeats 4000000

theorem putFn_ok (x : WR) (ad : Nat) (sp : Int) (nm : List UInt8) : FnS Try.prog 26 [.agg x.cells, .c (.p 0 ad 0)] [.box 0 ad 33 [.i .i64 sp, .s nm]] []
    (fun v L D => v = .c (.b (decide (x.sp = sp ∧ x.nm = nm))) ∧ L = [.box 0 ad 33 [.i .i64 sp, .s nm]] ∧ D = []) := by
  unfold WR.cells
  refine fn_of_J Try.tyOK 7000 Try.func26 (by kernel_rfl) (c := Try.f26.body.getD .skip) (by kernel_rfl) Try.ntmps26 (rs := Try.f26.results.toList) rfl (by simp) (fun G => ?_)
  repeat' first
    | refine J_seq ?_ | refine J_region Try.tyOK ?_ | refine J_block ?_ | refine J_cond ?_ | refine J_ret ?_ | refine J_skip ?_ | refine J_exit ?_ | refine J_scope ?_
    | refine CondP.yes (by omega) ?_ | refine CondP.no (by omega) ?_ | refine CondP.mk (fun h => ?_) (fun h => ?_) | refine EqP.mk rfl ?_ | refine NewP.mk (fun ad => ?_) | refine ArP.exact (by simp only [inR]; omega) ?_ | refine SideP.mk (by first | omega | (dsimp only; omega) | (simp; omega)) ?_
    | refine FinE.mk [_] [] ⟨?_, rfl, rfl⟩ Ents.drop
    | fail
  · rename_i h; rw [decide_eq_true (show x.sp = sp ∧ x.nm = nm from ⟨h.1, h.2.1⟩)]
  · rename_i h; rw [decide_eq_false (fun hh : x.sp = sp ∧ x.nm = nm => h ⟨hh.1, hh.2, trivial⟩)]

theorem cloneW_ok (e : Nat) (a : Option Addr) (c : Nat) (l : List WR) (hl : l.length ≤ 100000) : FnS Try.prog 25 [.c (.sl a l.length c)] [] [slFact e 4 a l.length (wrC l)]
    (fun v L D => ∃ a' c', v = .c (.sl a' l.length c') ∧ L = [.row 39 4 a' l.length c' (wrC l)] ∧ D = []) := by
  refine fn_of_J Try.tyOK 0 Try.func25 (by kernel_rfl) (c := Try.f25.body.getD .skip) (by kernel_rfl) Try.ntmps25 (rs := Try.f25.results.toList) rfl (by simp) (fun G => ?_)
  refine J_known (Q := a = none → l = []) (fun m h ha => ?_) (fun hnil => ?_)
  · rcases h.1.2 with ⟨h1, _⟩ | ⟨g, off, cur, ty, lo, hi, h1, _⟩
    · exact List.eq_nil_of_length_eq_zero h1
    · rw [ha] at h1; cases h1
  cases a with
  | none =>
    have hl0 := hnil rfl
    subst hl0
    repeat' first
      | refine CondP.yes rfl ?_
      | refine J_seq ?_ | refine J_region Try.tyOK ?_ | refine J_block ?_ | refine J_cond ?_ | refine J_ret ?_ | refine J_skip ?_ | refine J_exit ?_ | refine J_scope ?_
      | refine CondP.yes (by omega) ?_ | refine CondP.no (by omega) ?_ | refine CondP.mk (fun h => ?_) (fun h => ?_) | refine EqP.mk rfl ?_ | refine NewP.mk (fun ad => ?_) | refine ArP.exact (by simp only [inR]; omega) ?_ | refine SideP.mk (by first | omega | (dsimp only; omega) | (simp; omega)) ?_
      | refine FinE.mk [_] [] ⟨none, 0, rfl, rfl, rfl⟩ (Ents.nilRow.trans (Ents.facts fun _ _ => trivial))
      | fail
  | some b =>
    repeat' first
      | refine CondP.no (by simp) ?_
      | refine J_seq ?_ | refine J_region Try.tyOK ?_ | refine J_block ?_ | refine J_cond ?_ | refine J_ret ?_ | refine J_skip ?_ | refine J_exit ?_ | refine J_scope ?_
      | refine CondP.yes (by omega) ?_ | refine CondP.no (by omega) ?_ | refine CondP.mk (fun h => ?_) (fun h => ?_) | refine EqP.mk rfl ?_ | refine NewP.mk (fun ad => ?_) | refine ArP.exact (by simp only [inR]; omega) ?_ | refine SideP.mk (by first | omega | (dsimp only; omega) | (simp; omega)) ?_
      | refine AppE.row [] _ [] (wrC l) l.length rfl (SrcE.sl e 39 _ _ _ _ _ rfl rfl (.inr fun m h => h.1) (wrC_len l)) (by dsimp only; omega) (fun a' c' => ?_) | refine FinE.mk [_] [] ⟨a', c', by rw [Nat.zero_add], rfl, rfl⟩ ((Ents.of ?_).trans (Ents.facts fun _ _ => trivial))
      | fail
    rw [Nat.zero_add]; rfl

theorem idxFn_ok (a : Option Addr) (c : Nat) (l : List WR) (f id ad off : Nat) (Lc : List Chunk) (p : WR → Bool) (hl : l.length ≤ 9223372036854775807)
    (hf : ∀ g ∈ l, FnS Try.prog f [.agg g.cells, .c (.p id ad off)] Lc [] (fun v L D => v = .c (.b (p g)) ∧ L = Lc ∧ D = [])) :
    FnS Try.prog 37 [.c (.sl a l.length c), .c (.fn f [(id, ad, off)])] (.row 39 4 a l.length c (wrC l) :: Lc) []
      (fun v L D => v = .c (.i .i64 (idxW p l)) ∧ L = .row 39 4 a l.length c (wrC l) :: Lc ∧ D = []) := by
  generalize hv : idxW p l = k
  refine fn_of_J Try.tyOK 5000 Try.func37 (by kernel_rfl) (c := Try.f37.body.getD .skip) (by kernel_rfl) Try.ntmps37 (rs := Try.f37.results.toList) rfl (by simp) (fun G => ?_)
  repeat' first
    | refine J_seq ?_ | refine J_region Try.tyOK ?_ | refine J_block ?_ | refine J_cond ?_ | refine J_ret ?_ | refine J_skip ?_ | refine J_exit ?_ | refine J_scope ?_
    | refine CondP.yes (by omega) ?_ | refine CondP.no (by omega) ?_ | refine CondP.mk (fun h => ?_) (fun h => ?_) | refine EqP.mk rfl ?_ | refine NewP.mk (fun ad => ?_) | refine ArP.exact (by simp only [inR]; omega) ?_ | refine SideP.mk (by first | omega | (dsimp only; omega) | (simp; omega)) ?_
    | fail
  refine J_loop (α := Nat) (fun i => [(0, .c (.sl a l.length c)), (1, .c (.fn f [(id, ad, off)])), (7, .c (.i .i64 l.length)), (8, .c (.i .i64 i))]) (fun _ => .row 39 4 a l.length c (wrC l) :: Lc) (fun _ => []) 5000
    (fun i => i ≤ l.length ∧ k = (if idxW p (l.drop i) < 0 then -1 else idxW p (l.drop i) + i)) (fun i => l.length - i) (InFam.mk 0 ⟨Nat.zero_le _, ?_⟩ (by repeat' first | exact SubE.nil | refine SubE.cons rfl ?_ ?_ | exact VEq.refl _ | refine VEq.int (by omega) | refine VEq.sl rfl (by first | rfl | omega | (rw [List.length_append]; rfl) | (simp; omega)) rfl) (Ents.refl _ _)) (fun i hi => ?_)
  · rw [List.drop_zero, hv]
    have : -1 ≤ k := by
      rw [← hv]
      clear hv hf hl
      induction l with
      | nil => simp [idxW]
      | cons x r ih =>
        simp only [idxW]
        split
        · omega
        · split <;> omega
    split <;> omega
  obtain ⟨hi, he⟩ := hi
  by_cases hlt : i < l.length
  · have hg := wr_get hlt
    have hfi := hf _ (List.getElem_mem hlt)
    rw [List.drop_eq_getElem_cons hlt] at he
    unfold WR.cells at hfi
    generalize l[i] = x at *
    have hx1 : p x = true → idxW p (x :: l.drop (i + 1)) = 0 := fun h => if_pos h
    have hx2 : p x = false → idxW p (x :: l.drop (i + 1)) = if idxW p (l.drop (i + 1)) < 0 then -1 else idxW p (l.drop (i + 1)) + 1 := fun h => if_neg (by rw [h]; simp)
    generalize idxW p (x :: l.drop (i + 1)) = q1 at *
    obtain ⟨w, sp, nm, n⟩ := x
    dsimp only at hg hfi
    cases hp : p ⟨w, sp, nm, n⟩ with
    | true =>
      rw [hp] at hfi
      have hq := hx1 hp
      subst hq
      repeat' first
        | refine J_seq ?_ | refine J_region Try.tyOK ?_ | refine J_block ?_ | refine J_cond ?_ | refine J_ret ?_ | refine J_skip ?_ | refine J_exit ?_ | refine J_scope ?_
        | refine CondP.yes (by omega) ?_ | refine CondP.no (by omega) ?_ | refine CondP.mk (fun h => ?_) (fun h => ?_) | refine EqP.mk rfl ?_ | refine NewP.mk (fun ad => ?_) | refine ArP.exact (by simp only [inR]; omega) ?_ | refine SideP.mk (by first | omega | (dsimp only; omega) | (simp; omega)) ?_
        | refine IdxE.mk 39 4 _ (.inl ⟨c, List.Mem.head _⟩) (by omega) (by omega) ?_ | refine LoadE.mk 39 _ _ _ (.inl ⟨c, List.Mem.head _⟩) (by omega) (by omega) (by first | omega | decide) hg ?_ | refine CallP.mk Lc [_] [] _ hfi (List.perm_append_comm (l₁ := [_]) (l₂ := Lc)) (fun _ _ => trivial) (fun v L' D' hq => ?_); obtain ⟨rfl, hLL, rfl⟩ := hq; rw [hLL] | refine FinE.mk _ [] ⟨?_, rfl, rfl⟩ (Ents.perm (List.perm_append_comm (l₁ := Lc) (l₂ := [_])))
        | fail
      all_goals (rw [he, if_neg (by omega), Int.zero_add])
    | false =>
      rw [hp] at hfi
      have hq := hx2 hp
      have he2 : k = if idxW p (l.drop (i + 1)) < 0 then -1 else idxW p (l.drop (i + 1)) + ((i + 1 : Nat) : Int) := by rw [he, hq]; (repeat' split) <;> omega
      repeat' first
        | refine J_seq ?_ | refine J_region Try.tyOK ?_ | refine J_block ?_ | refine J_cond ?_ | refine J_ret ?_ | refine J_skip ?_ | refine J_exit ?_ | refine J_scope ?_
        | refine CondP.yes (by omega) ?_ | refine CondP.no (by omega) ?_ | refine CondP.mk (fun h => ?_) (fun h => ?_) | refine EqP.mk rfl ?_ | refine NewP.mk (fun ad => ?_) | refine ArP.exact (by simp only [inR]; omega) ?_ | refine SideP.mk (by first | omega | (dsimp only; omega) | (simp; omega)) ?_
        | refine IdxE.mk 39 4 _ (.inl ⟨c, List.Mem.head _⟩) (by omega) (by omega) ?_ | refine LoadE.mk 39 _ _ _ (.inl ⟨c, List.Mem.head _⟩) (by omega) (by omega) (by first | omega | decide) hg ?_ | refine CallP.mk Lc [_] [] _ hfi (List.perm_append_comm (l₁ := [_]) (l₂ := Lc)) (fun _ _ => trivial) (fun v L' D' hq => ?_); obtain ⟨rfl, hLL, rfl⟩ := hq; rw [hLL] | refine Round.mk (i + 1) (by omega) ⟨by omega, he2⟩ (by repeat' first | exact SubE.nil | refine SubE.cons rfl ?_ ?_ | exact VEq.refl _ | refine VEq.int (by omega) | refine VEq.sl rfl (by first | rfl | omega | (rw [List.length_append]; rfl) | (simp; omega)) rfl) (Ents.perm (List.perm_append_comm (l₁ := Lc) (l₂ := [_])))
        | fail
  · have hil : i = l.length := by omega
    subst hil
    rw [List.drop_length] at he
    have he : k = -1 := he
    subst he
    repeat' first
      | refine J_seq ?_ | refine J_region Try.tyOK ?_ | refine J_block ?_ | refine J_cond ?_ | refine J_ret ?_ | refine J_skip ?_ | refine J_exit ?_ | refine J_scope ?_
      | refine CondP.yes (by omega) ?_ | refine CondP.no (by omega) ?_ | refine CondP.mk (fun h => ?_) (fun h => ?_) | refine EqP.mk rfl ?_ | refine NewP.mk (fun ad => ?_) | refine ArP.exact (by simp only [inR]; omega) ?_ | refine SideP.mk (by first | omega | (dsimp only; omega) | (simp; omega)) ?_
      | refine FinE.mk _ [] ⟨rfl, rfl, rfl⟩ (Ents.refl _ _)
      | fail

theorem delFn_ok (a : Option Addr) (c : Nat) (l : List WR) (f id ad off : Nat) (Lc : List Chunk) (p : WR → Bool) (hl : l.length ≤ 100000)
    (hf : ∀ g ∈ l, FnS Try.prog f [.agg g.cells, .c (.p id ad off)] Lc [] (fun v L D => v = .c (.b (p g)) ∧ L = Lc ∧ D = [])) :
    FnS Try.prog 24 [.c (.sl a l.length c), .c (.fn f [(id, ad, off)])] (.row 39 4 a l.length c (wrC l) :: Lc) []
      (fun v L D => v = .c (.sl a (l.filter fun x => !p x).length c) ∧ L = .row 39 4 a (l.filter fun x => !p x).length c (wrC (l.filter fun x => !p x)) :: Lc ∧ D = []) := by
  have ci := idxFn_ok a c l f id ad off Lc p (by omega) hf
  have hlow := idxW_low (p := p) l
  by_cases h0 : idxW p l < 0
  · rw [idxW_none h0]
    have hk : idxW p l = -1 := by omega
    rw [hk] at ci
    refine fn_of_J Try.tyOK 9000 Try.func24 (by kernel_rfl) (c := Try.f24.body.getD .skip) (by kernel_rfl) Try.ntmps24 (rs := Try.f24.results.toList) rfl (by simp) (fun G => ?_)
    repeat' first
      | refine J_seq ?_ | refine J_region Try.tyOK ?_ | refine J_block ?_ | refine J_cond ?_ | refine J_ret ?_ | refine J_skip ?_ | refine J_exit ?_ | refine J_scope ?_
      | refine CondP.yes (by omega) ?_ | refine CondP.no (by omega) ?_ | refine CondP.mk (fun h => ?_) (fun h => ?_) | refine EqP.mk rfl ?_ | refine NewP.mk (fun ad => ?_) | refine ArP.exact (by simp only [inR]; omega) ?_ | refine SideP.mk (by first | omega | (dsimp only; omega) | (simp; omega)) ?_
      | refine CallP.mk (_ :: Lc) [] [] _ ci (by simp) (fun _ _ => trivial) (fun v L' D' hq => ?_); obtain ⟨rfl, hLL, rfl⟩ := hq; rw [hLL] | refine FinE.mk (_ :: Lc) [] ⟨rfl, rfl, rfl⟩ (Ents.of (by simp))
      | fail
  · obtain ⟨i0, hi0⟩ : ∃ i0 : Nat, idxW p l = i0 := ⟨(idxW p l).toNat, by omega⟩
    obtain ⟨hlt0, hp0, hf0⟩ := idxW_some hi0
    rw [hi0] at ci
    generalize hq : l.filter (fun x => !p x) = q
    refine fn_of_J Try.tyOK 9000 Try.func24 (by kernel_rfl) (c := Try.f24.body.getD .skip) (by kernel_rfl) Try.ntmps24 (rs := Try.f24.results.toList) rfl (by simp) (fun G => ?_)
    refine J_cap (List.Mem.head _) (fun hnc _ _ => ?_)
    repeat' first
      | refine J_seq ?_ | refine J_region Try.tyOK ?_ | refine J_block ?_ | refine J_cond ?_ | refine J_ret ?_ | refine J_skip ?_ | refine J_exit ?_ | refine J_scope ?_
      | refine CondP.yes (by omega) ?_ | refine CondP.no (by omega) ?_ | refine CondP.mk (fun h => ?_) (fun h => ?_) | refine EqP.mk rfl ?_ | refine NewP.mk (fun ad => ?_) | refine ArP.exact (by simp only [inR]; omega) ?_ | refine SideP.mk (by first | omega | (dsimp only; omega) | (simp; omega)) ?_
      | refine CallP.mk (_ :: Lc) [] [] _ ci (by simp) (fun _ _ => trivial) (fun v L' D' hq => ?_); obtain ⟨rfl, hLL, rfl⟩ := hq; rw [hLL]
      | fail
    refine J_loop (α := Nat × Nat × List WR) (fun x => [(0, .c (.sl a l.length c)), (1, .c (.fn f [(id, ad, off)])), (5, .c (.i .i64 x.2.1)), (6, .c (.i .i64 x.1))]) (fun x => .row 39 4 a l.length c (wrC x.2.2) :: Lc) (fun _ => []) 9000
      (fun x => x.1 ≤ l.length ∧ x.2.1 < x.1 ∧ x.2.2.length = l.length ∧ x.2.2.take x.2.1 = (l.take x.1).filter (fun x => !p x) ∧ x.2.2.drop x.1 = l.drop x.1) (fun x => l.length - x.1) (InFam.mk (i0 + 1, i0, l) ⟨by dsimp only; omega, by dsimp only; omega, rfl, ?_, rfl⟩ (by repeat' first | exact SubE.nil | refine SubE.cons rfl ?_ ?_ | exact VEq.refl _ | refine VEq.int (by omega) | refine VEq.sl rfl (by first | rfl | omega | (rw [List.length_append]; rfl) | (simp; omega)) rfl) (Ents.of (by simp))) (fun x hx => ?_)
    · dsimp only
      rw [List.take_succ_eq_append_getElem hlt0, List.filter_append, hf0, List.filter_cons, if_neg (by rw [hp0]; simp)]
      simp
    obtain ⟨j, i, m⟩ := x
    dsimp only at hx ⊢
    obtain ⟨hj, hij, hml, htk, hdr⟩ := hx
    by_cases hlt : j < l.length
    · have hmj : m[j]'(by omega) = l[j] := by
        have := congrArg (fun x => x[0]?) hdr
        simpa [hlt, show j < m.length by omega] using this
      have hg := wr_get (l := m) (i := j) (by omega)
      rw [hmj] at hg
      have hfi := hf _ (List.getElem_mem hlt)
      have hst : setC (i * 4 + 0) l[j].cells (wrC m) = wrC (m.set i l[j]) := wrC_set (by omega) _
      have htk1 : p l[j] = true → m.take i = (l.take (j + 1)).filter (fun x => !p x) := fun h => by
        rw [List.take_succ_eq_append_getElem hlt, List.filter_append, ← htk, List.filter_cons, if_neg (by rw [h]; simp)]; simp
      have htk2 : p l[j] = false → (m.set i l[j]).take (i + 1) = (l.take (j + 1)).filter (fun x => !p x) := fun h => by
        rw [List.take_succ_eq_append_getElem hlt, List.filter_append, ← htk, List.filter_cons, if_pos (by rw [h]; rfl), List.take_succ_eq_append_getElem (by rw [List.length_set]; omega)]
        simp [List.take_set_of_le]
      have hdr2 : (m.set i l[j]).drop (j + 1) = l.drop (j + 1) := by
        rw [List.drop_set_of_lt (by omega), ← List.drop_drop, hdr, List.drop_drop]
      have hdr1 : m.drop (j + 1) = l.drop (j + 1) := by rw [← List.drop_drop, hdr, List.drop_drop]
      unfold WR.cells at hfi hst
      generalize l[j] = v at *
      obtain ⟨w, sp, nm, n⟩ := v
      dsimp only at hg hfi hst
      cases hp : p ⟨w, sp, nm, n⟩ with
      | true =>
        rw [hp] at hfi
        repeat' first
          | refine J_seq ?_ | refine J_region Try.tyOK ?_ | refine J_block ?_ | refine J_cond ?_ | refine J_ret ?_ | refine J_skip ?_ | refine J_exit ?_ | refine J_scope ?_
          | refine CondP.yes (by omega) ?_ | refine CondP.no (by omega) ?_ | refine CondP.mk (fun h => ?_) (fun h => ?_) | refine EqP.mk rfl ?_ | refine NewP.mk (fun ad => ?_) | refine ArP.exact (by simp only [inR]; omega) ?_ | refine SideP.mk (by first | omega | (dsimp only; omega) | (simp; omega)) ?_
          | refine IdxE.mk 39 4 _ (.inl ⟨c, List.Mem.head _⟩) (by omega) (by omega) ?_ | refine LoadE.mk 39 _ _ _ (.inl ⟨c, List.Mem.head _⟩) (by omega) (by omega) (by first | omega | decide) hg ?_ | refine CallP.mk Lc [_, _] [] _ hfi (List.perm_append_comm (l₁ := [_, _]) (l₂ := Lc)) (fun _ _ => trivial) (fun v L' D' hq => ?_); obtain ⟨rfl, hLL, rfl⟩ := hq; rw [hLL] | refine Round.mk (j + 1, i, m) (by dsimp only; omega) ⟨by dsimp only; omega, by dsimp only; omega, hml, htk1 hp, hdr1⟩ (by repeat' first | exact SubE.nil | refine SubE.cons rfl ?_ ?_ | exact VEq.refl _ | refine VEq.int (by omega) | refine VEq.sl rfl (by first | rfl | omega | (rw [List.length_append]; rfl) | (simp; omega)) rfl) ((Ents.perm (List.perm_append_comm (l₁ := Lc) (l₂ := [_, _]))).trans Ents.drop)
          | fail
      | false =>
        rw [hp] at hfi
        repeat' first
          | refine J_stop (c := .seq (.region 9 _ _) _) ?_
          | refine J_seq ?_ | refine J_region Try.tyOK ?_ | refine J_block ?_ | refine J_cond ?_ | refine J_ret ?_ | refine J_skip ?_ | refine J_exit ?_ | refine J_scope ?_
          | refine CondP.yes (by omega) ?_ | refine CondP.no (by omega) ?_ | refine CondP.mk (fun h => ?_) (fun h => ?_) | refine EqP.mk rfl ?_ | refine NewP.mk (fun ad => ?_) | refine ArP.exact (by simp only [inR]; omega) ?_ | refine SideP.mk (by first | omega | (dsimp only; omega) | (simp; omega)) ?_
          | refine IdxE.mk 39 4 _ (.inl ⟨c, List.Mem.head _⟩) (by omega) (by omega) ?_ | refine LoadE.mk 39 _ _ _ (.inl ⟨c, List.Mem.head _⟩) (by omega) (by omega) (by first | omega | decide) hg ?_ | refine CallP.mk Lc [_, _] [] _ hfi (List.perm_append_comm (l₁ := [_, _]) (l₂ := Lc)) (fun _ _ => trivial) (fun v L' D' hq => ?_); obtain ⟨rfl, hLL, rfl⟩ := hq; rw [hLL]
          | fail
        refine ⟨?_⟩
        refine J_mem (n' := 9001) (Ents.perm ((List.perm_append_comm (l₁ := Lc) (l₂ := [_, _])).trans (List.Perm.swap _ _ _))) ?_
        repeat' first
          | refine J_seq ?_ | refine J_region Try.tyOK ?_ | refine J_block ?_ | refine J_cond ?_ | refine J_ret ?_ | refine J_skip ?_ | refine J_exit ?_ | refine J_scope ?_
          | refine CondP.yes (by omega) ?_ | refine CondP.no (by omega) ?_ | refine CondP.mk (fun h => ?_) (fun h => ?_) | refine EqP.mk rfl ?_ | refine NewP.mk (fun ad => ?_) | refine ArP.exact (by simp only [inR]; omega) ?_ | refine SideP.mk (by first | omega | (dsimp only; omega) | (simp; omega)) ?_
          | refine IdxE.mk 39 4 _ (.inl ⟨c, List.Mem.head _⟩) (by omega) (by omega) ?_ | refine StoreE.mk [] _ _ _ _ _ _ rfl (by omega) (by omega) (Nat.le_of_ble_eq_true rfl) hst ?_ | refine Round.mk (j + 1, i + 1, m.set i ⟨w, sp, nm, n⟩) (by dsimp only; omega) ⟨by dsimp only; omega, by dsimp only; omega, by rw [List.length_set]; exact hml, htk2 hp, hdr2⟩ (by repeat' first | exact SubE.nil | refine SubE.cons rfl ?_ ?_ | exact VEq.refl _ | refine VEq.int (by omega) | refine VEq.sl rfl (by first | rfl | omega | (rw [List.length_append]; rfl) | (simp; omega)) rfl) ((Ents.perm (List.Perm.swap _ _ _)).trans Ents.drop)
          | fail
    · have hjl : j = l.length := by omega
      subst hjl
      rw [List.take_length, hq] at htk
      have hql : q.length = i := by rw [← htk, List.length_take]; omega
      have hwl := wrC_len m
      repeat' first
        | refine J_seq ?_ | refine J_region Try.tyOK ?_ | refine J_block ?_ | refine J_cond ?_ | refine J_ret ?_ | refine J_skip ?_ | refine J_exit ?_ | refine J_scope ?_
        | refine CondP.yes (by omega) ?_ | refine CondP.no (by omega) ?_ | refine CondP.mk (fun h => ?_) (fun h => ?_) | refine EqP.mk rfl ?_ | refine NewP.mk (fun ad => ?_) | refine ArP.exact (by simp only [inR]; omega) ?_ | refine SideP.mk (by first | omega | (dsimp only; omega) | (simp; omega)) ?_
        | refine ClearE.mk [] _ _ _ _ (i : Int).toNat _ _ rfl (if_neg (by omega)) (by omega) ?_ | refine FinE.mk (_ :: Lc) [] ⟨?_, rfl, rfl⟩ ((Ents.rowPre (k := i) (by omega)).trans (Ents.of ?_))
        | fail
      · show V.c (C.sl (resl a 0 c 4) (i : Int).toNat c) = _
        rw [resl0, hql, Int.toNat_natCast]
      · show Chunk.row _ 4 a i c ((setC ((i : Int).toNat * 4) (repC (l.length - (i : Int).toNat) [C.s [], C.i .i64 0, C.s [], C.i .i64 0]) (wrC m)).take (i * 4)) :: Lc = _
        rw [Int.toNat_natCast, setC_take (by omega), wrC_take, htk, hql]

end Go.Proofs
