/- This text holds rules on parts of rows and on what known facts imply. -/
import Derived.Test.YtcddpbpbebkdmaaGreatDoorK02
import Derived.Test.YtcddpbpbebkdmaaGreatDoorK01
import Derived.Lib.IndexAny
set_option linter.all false
namespace Go.X
open Go Go.Lib
theorem Jq (a : Option Addr) (c z : Nat) : Z9 a 0 c z = a := by
 unfold Z9
 split
 ·rfl
 ·cases a <;> simp [Addr.add]
theorem Qb.rowPre {e z : Nat} {a : Option Addr} {n c k : Nat} {cs : List C} {L : List Chunk} {D : List Fact} (hk : k ≤ n) : Qb (.row e z a n c cs :: L) D (.row e z a k c (cs.take (k * z)) :: L) D := fun G w hs => by
 obtain ⟨m, h1, h2⟩ := hs
 have hok : (Chunk.row e z a k c (cs.take (k * z))).ok w := by
  refine ⟨fun x hx => h1.ok.1.1 x (List.mem_of_mem_take hx), ?_⟩
  rcases h1.ok.1.2 with ⟨h3, h4, h5, h6⟩ | ⟨g, hg, cur, lo, hi, h3, h4, h5, h6, h7, h8, h9⟩
  ·exact .inl ⟨h3, by omega, h5, by rw [h6]; simp⟩
  ·have hle : k * z ≤ n * z := Nat.mul_le_mul_right _ hk
   refine .inr ⟨g, hg, cur, lo, hi, h3, by omega, h5, h6, h7, by rw [List.length_take, h8]; omega, ?_⟩
   rw [List.map_take, ← h9, List.take_take, Nat.min_eq_left hle]
 exact ⟨m, ⟨h1.nd, ⟨hok, h1.ok.2⟩, h1.im, h1.d⟩, ⟨h2.size, h2.same, h2.own, h2.im, h2.new, h2.kept⟩⟩
theorem ji {P : Program} {G : Js} {N : Nat} {c0 : Code} {env : XR} {L : List Chunk} {D : List Fact} {nid : Nat} {K : Kt} {Q : Prop} (h : ∀ m, QI m D → Q) (k : Q → J P G N c0 env L D nid K) : J P G N c0 env L D nid K :=
 ⟨fun a w he hs => (k (by obtain ⟨m, h1, _⟩ := hs; exact h m h1.d)).run a w he hs⟩
theorem vH {o : Nat} {vs cs : List C} (h : o ≤ cs.length) : (QP o vs cs).take o = cs.take o := by
 unfold QP
 rw [List.append_assoc, List.take_append_of_le_length (by rw [List.length_take]; omega), List.take_take, Nat.min_self]
theorem Vl {α : Type} {F : α → List C} {z : Nat} (hF : ∀ x, (F x).length = z) : ∀ (l : List α) (k : Nat), (l.flatMap F).take (k * z) = (l.take k).flatMap F
 | [], k => by simp
 | x :: r, 0 => by simp
 | x :: r, k + 1 => by
  have h := Vl hF r k
  rw [List.flatMap_cons, List.take_succ_cons, List.flatMap_cons, show (k + 1) * z = (F x).length + k * z by rw [hF, Nat.add_mul]; omega, List.take_append, List.take_of_length_le (by omega), Nat.add_sub_cancel_left, h]
theorem zR {α : Type} {F : α → List C} {z : Nat} (hF : ∀ x, (F x).length = z) (l : List α) (x : α) (i : Nat) (hi : i < l.length) :
  QP (i * z) (F x) (QP ((i + 1) * z) ((l.drop i).flatMap F) (l.flatMap F)) = (l.take i ++ x :: l.drop i).flatMap F := by
 have h1 : (l.flatMap F).take (i * z) = (l.take i).flatMap F := Vl hF l i
 have h2 : (l.take i).flatMap F ++ (l.drop i).flatMap F = l.flatMap F := by rw [← List.flatMap_append, List.take_append_drop]
 have hl : (l.flatMap F).length = l.length * z := Q7 hF l
 have hl1 : ((l.take i).flatMap F).length = i * z := by rw [Q7 hF, List.length_take, Nat.min_eq_left (by omega)]
 have hl2 : ((l.drop i).flatMap F).length = (l.length - i) * z := by rw [Q7 hF, List.length_drop]
 have e0 : (i + 1) * z = i * z + z := by rw [Nat.add_mul, Nat.one_mul]
 have e1 : l.length * z = i * z + (l.length - i) * z := by rw [← Nat.add_mul]; congr 1; omega
 have e2 : z ≤ (l.length - i) * z := Nat.le_mul_of_pos_left _ (by omega)
 generalize hq : (l.drop i).flatMap F = q at *
 generalize hp : l.flatMap F = p at *
 unfold QP
 rw [List.flatMap_append, List.flatMap_cons, hq]
 have d1 : p.drop ((i + 1) * z + q.length) = [] := List.drop_eq_nil_of_le (by omega)
 have t1 : ((p.take ((i + 1) * z) ++ q ++ p.drop ((i + 1) * z + q.length)).take (i * z)) = p.take (i * z) := by
  rw [List.append_assoc, List.take_append_of_le_length (by rw [List.length_take]; omega), List.take_take, Nat.min_eq_left (by omega)]
 rw [t1, h1, d1, List.append_nil, hF, show i * z + z = (p.take ((i + 1) * z)).length by rw [List.length_take]; omega, List.drop_left, List.append_assoc]
theorem jF {α : Type} {F : α → List C} {z : Nat} (hF : ∀ x, (F x).length = z) (l : List α) (x : α) (i : Nat) (hi : i < l.length) (zs : List C) (hz : zs.length = (l.length + 1 - i) * z) :
  QP ((i + 1) * z) ((l.drop i).flatMap F) (QP (i * z) (F x) ((l.take i).flatMap F ++ zs)) = (l.take i ++ x :: l.drop i).flatMap F := by
 have hl1 : ((l.take i).flatMap F).length = i * z := by rw [Q7 hF, List.length_take, Nat.min_eq_left (by omega)]
 have hl2 : ((l.drop i).flatMap F).length = (l.length - i) * z := by rw [Q7 hF, List.length_drop]
 have e0 : (i + 1) * z = i * z + z := by rw [Nat.add_mul, Nat.one_mul]
 have e1 : (l.length + 1 - i) * z = (l.length - i) * z + z := by rw [show l.length + 1 - i = (l.length - i) + 1 by omega, Nat.add_mul, Nat.one_mul]
 generalize hq : (l.drop i).flatMap F = q at *
 generalize hp : (l.take i).flatMap F = p at *
 have h1 : QP (i * z) (F x) (p ++ zs) = p ++ F x ++ zs.drop z := by
  unfold QP
  rw [← hl1, List.take_left, hF, List.drop_append, List.drop_of_length_le (by omega), List.nil_append, Nat.add_sub_cancel_left]
 rw [h1, List.flatMap_append, List.flatMap_cons, hp, hq]
 unfold QP
 have h2 : (i + 1) * z = (p ++ F x).length := by rw [List.length_append, hF]; omega
 have h3 : (p ++ F x ++ zs.drop z).drop ((i + 1) * z + q.length) = [] := List.drop_eq_nil_of_le (by rw [List.length_append, List.length_append, hF, List.length_drop]; omega)
 rw [h3, List.append_nil, h2, List.take_left, List.append_assoc]
theorem yw {α : Type} {F : α → List C} {z : Nat} (hF : ∀ x, (F x).length = z) (l : List α) (i : Nat) (hi : i < l.length) (zs : List C) (o : Nat) (ho : (l.length - 1) * z ≤ o) :
  (QP o zs (QP (i * z) ((l.drop (i + 1)).flatMap F) (l.flatMap F))).take ((l.length - 1) * z) = (l.eraseIdx i).flatMap F := by
 have h1 : (l.flatMap F).take (i * z) = (l.take i).flatMap F := Vl hF l i
 have hl : (l.flatMap F).length = l.length * z := Q7 hF l
 have hl1 : ((l.take i).flatMap F).length = i * z := by rw [Q7 hF, List.length_take, Nat.min_eq_left (by omega)]
 have hl2 : ((l.drop (i + 1)).flatMap F).length = (l.length - (i + 1)) * z := by rw [Q7 hF, List.length_drop]
 have e1 : (l.length - 1) * z = i * z + (l.length - (i + 1)) * z := by rw [← Nat.add_mul]; congr 1; omega
 have e2 : (l.length - 1) * z ≤ l.length * z := Nat.mul_le_mul_right _ (by omega)
 have e3 : ((l.take i).flatMap F ++ (l.drop (i + 1)).flatMap F).length = (l.length - 1) * z := by rw [List.length_append]; omega
 rw [List.eraseIdx_eq_take_drop_succ, List.flatMap_append]
 have key : ∀ q : List C, q.length = l.length * z → q.take ((l.length - 1) * z) = (l.take i).flatMap F ++ (l.drop (i + 1)).flatMap F → (QP o zs q).take ((l.length - 1) * z) = (l.take i).flatMap F ++ (l.drop (i + 1)).flatMap F := fun q hq h => by
  unfold QP
  by_cases hoq : o ≤ q.length
  ·rw [List.append_assoc, List.take_append_of_le_length (by rw [List.length_take]; omega), List.take_take, Nat.min_eq_left ho]
   exact h
  ·rw [List.append_assoc, List.take_append_of_le_length (by rw [List.length_take]; omega), List.take_take, Nat.min_eq_left ho]
   exact h
 refine key _ ?_ ?_
 ·rw [W6 (by omega)]; exact hl
 ·unfold QP
  rw [h1]
  exact List.take_left' e3
theorem Od {α : Type} {F : α → List C} {z : Nat} (hz : ∀ x, (F x).length = z) (l : List α) (k : Nat) (h : k ≤ l.length) : (l.flatMap F).drop (k * z) = (l.drop k).flatMap F := by
 have h2 : l.flatMap F = (l.take k).flatMap F ++ (l.drop k).flatMap F := by rw [← List.flatMap_append, List.take_append_drop]
 rw [h2]
 refine List.drop_left' ?_
 rw [Q7 hz, List.length_take, Nat.min_eq_left h]
theorem OL {α : Type} {F : α → List C} {z : Nat} (hz : ∀ x, (F x).length = z) (m : List α) {e : Nat} {a : Option Addr} {n c k : Nat} {L : List Chunk} {D : List Fact} (hm : Chunk.row e z a n c (m.flatMap F) ∈ L) (hn : m.length = n) (hk : k ≤ n) : Qp L D e z (Z9 a 0 c z) k ((m.take k).flatMap F) := by
 refine .sub a 0 n c (m.flatMap F) hm ?_ (by omega) ?_
 ·rw [Jq]; cases a <;> simp [Addr.add]
 ·rw [Nat.zero_mul, List.drop_zero, YU hz m k (by omega)]
theorem wN {α : Type} {F : α → List C} {z : Nat} (hz : ∀ x, (F x).length = z) (m : List α) {e : Nat} {a : Option Addr} {n c k : Nat} {L : List Chunk} {D : List Fact} (hm : Chunk.row e z a n c (m.flatMap F) ∈ L) (hn : m.length = n) (hk : k ≤ n) (hc : n ≤ c) : Qp L D e z (Z9 a k c z) (n - k) ((m.drop k).flatMap F) := by
 by_cases h : k < n
 ·refine .sub a k n c (m.flatMap F) hm ?_ (by omega) ?_
  ·exact if_neg (by omega)
  ·rw [Od hz m k (by omega), List.take_of_length_le]
   rw [Q7 hz, List.length_drop]; exact Nat.le_of_eq (by rw [hn])
 ·have h0 : m.drop k = [] := List.drop_eq_nil_of_le (by omega)
  rw [h0]
  exact .inr fun _ _ => ⟨fun x hx => (by cases hx), .inl ⟨by omega, rfl⟩⟩
theorem Hy {α : Type} {F : α → List C} {z : Nat} (hF : ∀ x, (F x).length = z) : ∀ {l : List α} {j : Nat} (_ : j < l.length) (x : α), QP (j * z) (F x) (l.flatMap F) = (l.set j x).flatMap F
 | y :: r, 0, _, x => by
  simp only [List.flatMap_cons, List.set_cons_zero, Nat.zero_mul, QP, List.take_zero, List.nil_append, Nat.zero_add]
  rw [show (F x).length = (F y).length by rw [hF, hF], List.drop_left]
 | y :: r, j + 1, h, x => by
  have ih := Hy hF (l := r) (j := j) (by simpa using h) x
  simp only [List.flatMap_cons, List.set_cons_succ, ← ih, QP]
  rw [show (j + 1) * z = (F y).length + j * z by rw [hF, Nat.add_mul]; omega, List.take_append, List.take_of_length_le (by omega), Nat.add_sub_cancel_left, Nat.add_assoc, ← List.drop_drop, List.drop_left]
  simp
theorem SX {α : Type} {p : α → Bool} (l : List α) : -1 ≤ Q2 p l := by
 rcases JV p l with ⟨h, _⟩ | ⟨i, _, h, _⟩ <;> omega
theorem P9 {α : Type} {p : α → Bool} {l : List α} (h : Q2 p l < 0) : l.filter (fun x => !p x) = l := by
 rw [List.filter_eq_self]
 intro x hx
 rcases JV p l with ⟨_, h2⟩ | ⟨i, _, h2, _⟩
 ·rw [h2 x hx]; rfl
 ·omega
theorem v8 {α : Type} {p : α → Bool} : ∀ {l : List α} {i : Nat}, Q2 p l = i → ∃ h : i < l.length, p l[i] = true ∧ (l.take i).filter (fun x => !p x) = l.take i
 | [], i, h => by simp [Q2] at h
 | x :: r, i, h => by
  simp only [Q2] at h
  by_cases hp : p x = true
  ·rw [if_pos hp] at h
   have : i = 0 := by omega
   subst this
   exact ⟨by simp, by simpa using hp, by simp⟩
  ·rw [if_neg hp] at h
   split at h
   ·omega
   ·obtain ⟨k, rfl⟩ : ∃ k, i = k + 1 := ⟨i - 1, by omega⟩
    obtain ⟨h1, h2, h3⟩ := v8 (p := p) (l := r) (i := k) (by omega)
    refine ⟨by simpa using h1, by simpa using h2, ?_⟩
    rw [List.take_succ_cons, List.filter_cons, if_pos (by simpa using hp), h3]
end Go.X
namespace Go.Proofs
open Go Go.X Tryz
set_option maxRecDepth 100000
set_option maxHeartbeats 4000000
theorem Oq (e : Nat) (a : Option Addr) (c : Nat) (l : List PGM) (hl : l.length ≤ 1000) : FnS prog 161 [.c (.sl a l.length c)] [] [Qf e 3 a l.length (Qm l)]
  (fun v L D => ∃ a' c', v = .c (.sl a' l.length c') ∧ L = [.row 60 3 a' l.length c' (Qm l)] ∧ D = []) := by
 refine FJ 0 func161 ntmps161 (fun G => ?_)
 refine ji (Q := a = none → l = []) (fun m h ha => ?_) (fun hnil => ?_)
 ·rcases h.1.2 with ⟨h1, _⟩ | ⟨g, off, cur, ty, lo, hi, h1, _⟩
  ·exact List.eq_nil_of_length_eq_zero h1
  ·rw [ha] at h1; cases h1
 cases a with
 | none =>
  have hl0 := hnil rfl
  subst hl0
  repeat' first | refine Qa.yes rfl ?_ | refine Wk ?_ | refine Qa.mk (fun h => ?_) (fun h => ?_) | refine Qd.mk (fun ad => ?_) | refine Qe.mk [_] [] ⟨none, 0, rfl, rfl, rfl⟩ (Qb.nilRow.trans (Qb.facts fun _ _ => trivial))
 | some b =>
  repeat' first | refine Qa.no (by simp) ?_ | refine Wk ?_ | refine Qa.mk (fun h => ?_) (fun h => ?_) | refine Qd.mk (fun ad => ?_) | refine QK.row [] _ [] (Qm l) l.length rfl (QJ.sl e 60 _ _ _ _ _ rfl rfl (.inr fun m h => h.1) (Zs l)) (by dsimp only; omega) (fun a' c' => ?_) | refine Qe.mk [_] [] ⟨a', c', by rw [Nat.zero_add], rfl, rfl⟩ ((Qb.of ?_).trans (Qb.facts fun _ _ => trivial))
  rw [Nat.zero_add]; rfl
theorem Oo (e : Nat) (a : Option Addr) (c : Nat) (l : List PP) (hl : l.length ≤ 1000) : FnS prog 114 [.c (.sl a l.length c)] [] [Qf e 8 a l.length (XI l)]
  (fun v L D => ∃ a' c', v = .c (.sl a' l.length c') ∧ L = [.row 122 8 a' l.length c' (XI l)] ∧ D = []) := by
 refine FJ 0 func114 ntmps114 (fun G => ?_)
 refine ji (Q := a = none → l = []) (fun m h ha => ?_) (fun hnil => ?_)
 ·rcases h.1.2 with ⟨h1, _⟩ | ⟨g, off, cur, ty, lo, hi, h1, _⟩
  ·exact List.eq_nil_of_length_eq_zero h1
  ·rw [ha] at h1; cases h1
 cases a with
 | none =>
  have hl0 := hnil rfl
  subst hl0
  repeat' first | refine Qa.yes rfl ?_ | refine Wk ?_ | refine Qa.mk (fun h => ?_) (fun h => ?_) | refine Qd.mk (fun ad => ?_) | refine Qe.mk [_] [] ⟨none, 0, rfl, rfl, rfl⟩ (Qb.nilRow.trans (Qb.facts fun _ _ => trivial))
 | some b =>
  repeat' first | refine Qa.no (by simp) ?_ | refine Wk ?_ | refine Qa.mk (fun h => ?_) (fun h => ?_) | refine Qd.mk (fun ad => ?_) | refine QK.row [] _ [] (XI l) l.length rfl (QJ.sl e 122 _ _ _ _ _ rfl rfl (.inr fun m h => h.1) (xC l)) (by dsimp only; omega) (fun a' c' => ?_) | refine Qe.mk [_] [] ⟨a', c', by rw [Nat.zero_add], rfl, rfl⟩ ((Qb.of ?_).trans (Qb.facts fun _ _ => trivial))
  rw [Nat.zero_add]; rfl
theorem On (e : Nat) (a : Option Addr) (c : Nat) (l : List WT) (hl : l.length ≤ 1000) : FnS prog 115 [.c (.sl a l.length c)] [] [Qf e 3 a l.length (ZM l)]
  (fun v L D => ∃ a' c', v = .c (.sl a' l.length c') ∧ L = [.row 69 3 a' l.length c' (ZM l)] ∧ D = []) := by
 refine FJ 0 func115 ntmps115 (fun G => ?_)
 refine ji (Q := a = none → l = []) (fun m h ha => ?_) (fun hnil => ?_)
 ·rcases h.1.2 with ⟨h1, _⟩ | ⟨g, off, cur, ty, lo, hi, h1, _⟩
  ·exact List.eq_nil_of_length_eq_zero h1
  ·rw [ha] at h1; cases h1
 cases a with
 | none =>
  have hl0 := hnil rfl
  subst hl0
  repeat' first | refine Qa.yes rfl ?_ | refine Wk ?_ | refine Qa.mk (fun h => ?_) (fun h => ?_) | refine Qd.mk (fun ad => ?_) | refine Qe.mk [_] [] ⟨none, 0, rfl, rfl, rfl⟩ (Qb.nilRow.trans (Qb.facts fun _ _ => trivial))
 | some b =>
  repeat' first | refine Qa.no (by simp) ?_ | refine Wk ?_ | refine Qa.mk (fun h => ?_) (fun h => ?_) | refine Qd.mk (fun ad => ?_) | refine QK.row [] _ [] (ZM l) l.length rfl (QJ.sl e 69 _ _ _ _ _ rfl rfl (.inr fun m h => h.1) (WZ l)) (by dsimp only; omega) (fun a' c' => ?_) | refine Qe.mk [_] [] ⟨a', c', by rw [Nat.zero_add], rfl, rfl⟩ ((Qb.of ?_).trans (Qb.facts fun _ _ => trivial))
  rw [Nat.zero_add]; rfl
theorem Or (e : Nat) (a : Option Addr) (c : Nat) (l : List LU) (hl : l.length ≤ 1000) : FnS prog 116 [.c (.sl a l.length c)] [] [Qf e 2 a l.length (ZV l)]
  (fun v L D => ∃ a' c', v = .c (.sl a' l.length c') ∧ L = [.row 103 2 a' l.length c' (ZV l)] ∧ D = []) := by
 refine FJ 0 func116 ntmps116 (fun G => ?_)
 refine ji (Q := a = none → l = []) (fun m h ha => ?_) (fun hnil => ?_)
 ·rcases h.1.2 with ⟨h1, _⟩ | ⟨g, off, cur, ty, lo, hi, h1, _⟩
  ·exact List.eq_nil_of_length_eq_zero h1
  ·rw [ha] at h1; cases h1
 cases a with
 | none =>
  have hl0 := hnil rfl
  subst hl0
  repeat' first | refine Qa.yes rfl ?_ | refine Wk ?_ | refine Qa.mk (fun h => ?_) (fun h => ?_) | refine Qd.mk (fun ad => ?_) | refine Qe.mk [_] [] ⟨none, 0, rfl, rfl, rfl⟩ (Qb.nilRow.trans (Qb.facts fun _ _ => trivial))
 | some b =>
  repeat' first | refine Qa.no (by simp) ?_ | refine Wk ?_ | refine Qa.mk (fun h => ?_) (fun h => ?_) | refine Qd.mk (fun ad => ?_) | refine QK.row [] _ [] (ZV l) l.length rfl (QJ.sl e 103 _ _ _ _ _ rfl rfl (.inr fun m h => h.1) (qJ l)) (by dsimp only; omega) (fun a' c' => ?_) | refine Qe.mk [_] [] ⟨a', c', by rw [Nat.zero_add], rfl, rfl⟩ ((Qb.of ?_).trans (Qb.facts fun _ _ => trivial))
  rw [Nat.zero_add]; rfl
theorem yK (e : Nat) (a : Option Addr) (c : Nat) (l : List RV) (hl : l.length ≤ 1000) : FnS prog 121 [.c (.sl a l.length c)] [] [Qf e 6 a l.length (Zb l)]
  (fun v L D => ∃ a' c', v = .c (.sl a' l.length c') ∧ L = [.row 73 6 a' l.length c' (Zb l)] ∧ D = []) := by
 refine FJ 0 func121 ntmps121 (fun G => ?_)
 refine ji (Q := a = none → l = []) (fun m h ha => ?_) (fun hnil => ?_)
 ·rcases h.1.2 with ⟨h1, _⟩ | ⟨g, off, cur, ty, lo, hi, h1, _⟩
  ·exact List.eq_nil_of_length_eq_zero h1
  ·rw [ha] at h1; cases h1
 cases a with
 | none =>
  have hl0 := hnil rfl
  subst hl0
  repeat' first | refine Qa.yes rfl ?_ | refine Wk ?_ | refine Qa.mk (fun h => ?_) (fun h => ?_) | refine Qd.mk (fun ad => ?_) | refine Qe.mk [_] [] ⟨none, 0, rfl, rfl, rfl⟩ (Qb.nilRow.trans (Qb.facts fun _ _ => trivial))
 | some b =>
  repeat' first | refine Qa.no (by simp) ?_ | refine Wk ?_ | refine Qa.mk (fun h => ?_) (fun h => ?_) | refine Qd.mk (fun ad => ?_) | refine QK.row [] _ [] (Zb l) l.length rfl (QJ.sl e 73 _ _ _ _ _ rfl rfl (.inr fun m h => h.1) (kW l)) (by dsimp only; omega) (fun a' c' => ?_) | refine Qe.mk [_] [] ⟨a', c', by rw [Nat.zero_add], rfl, rfl⟩ ((Qb.of ?_).trans (Qb.facts fun _ _ => trivial))
  rw [Nat.zero_add]; rfl
theorem PV (l : List PP) (k : Nat) : (XI l).take (k * 8) = XI (l.take k) := Vl (F := PP.cells) (z := 8) (fun _ => rfl) l k
theorem Sb {l : List PP} {j : Nat} (hj : j < l.length) (x : PP) : QP (j * 8 + 0) x.cells (XI l) = XI (l.set j x) := Hy (F := PP.cells) (z := 8) (fun _ => rfl) hj x
theorem Hp (a : Option Addr) (c : Nat) (l : List PP) (f id ad off : Nat) (Lc : List Chunk) (p : PP → Bool) (hl : l.length ≤ 1000)
  (hf : ∀ g ∈ l, FnS prog f [.agg g.cells, .c (.p id ad off)] Lc [] (fun v L D => v = .c (.b (p g)) ∧ L = Lc ∧ D = [])) :
  FnS prog 215 [.c (.sl a l.length c), .c (.fn f [(id, ad, off)])] (.row 122 8 a l.length c (XI l) :: Lc) []
   (fun v L D => v = .c (.i .i64 (Q2 p l)) ∧ L = .row 122 8 a l.length c (XI l) :: Lc ∧ D = []) := by
 generalize hv : Q2 p l = k
 refine FJ 5000 func215 ntmps215 (fun G => ?_)
 repeat' first | refine Wk ?_ | refine Qa.mk (fun h => ?_) (fun h => ?_) | refine Qd.mk (fun ad => ?_)
 refine Qn (α := Nat) (fun i => [(0, .c (.sl a l.length c)), (1, .c (.fn f [(id, ad, off)])), (7, .c (.i .i64 l.length)), (8, .c (.i .i64 i))]) (fun _ => .row 122 8 a l.length c (XI l) :: Lc) (fun _ => []) 5000
  (fun i => i ≤ l.length ∧ k = (if Q2 p (l.drop i) < 0 then -1 else Q2 p (l.drop i) + i)) (fun i => l.length - i) (Qq.mk 0 ⟨Nat.zero_le _, ?_⟩ Qh.a (Qb.refl _ _)) (fun i hi => ?_)
 ·rw [List.drop_zero, hv]
  have : -1 ≤ k := by
   rw [← hv]
   clear hv hf hl
   induction l with
   | nil => simp [Q2]
   | cons x r ih =>
    simp only [Q2]
    split
    ·omega
    ·split <;> omega
  split <;> omega
 obtain ⟨hi, he⟩ := hi
 by_cases hlt : i < l.length
 ·have hg := zG hlt
  have hfi := hf _ (List.getElem_mem hlt)
  rw [List.drop_eq_getElem_cons hlt] at he
  unfold PP.cells at hfi
  generalize l[i] = x at *
  have hx1 : p x = true → Q2 p (x :: l.drop (i + 1)) = 0 := fun h => if_pos h
  have hx2 : p x = false → Q2 p (x :: l.drop (i + 1)) = if Q2 p (l.drop (i + 1)) < 0 then -1 else Q2 p (l.drop (i + 1)) + 1 := fun h => if_neg (by rw [h]; simp)
  generalize Q2 p (x :: l.drop (i + 1)) = q1 at *
  obtain ⟨id0, us, nt, sp, nm, ba, tx, mi⟩ := x
  dsimp only at hg hfi
  cases hp : p ⟨id0, us, nt, sp, nm, ba, tx, mi⟩ with
  | true =>
   rw [hp] at hfi
   have hq := hx1 hp
   subst hq
   repeat' first | refine Wk ?_ | refine Qa.mk (fun h => ?_) (fun h => ?_) | refine Qd.mk (fun ad => ?_) | refine Qr.a 122 8 _ (.inl ⟨c, QT⟩) ?_ | refine Qi.a 122 _ _ _ (.inl ⟨c, QT⟩) hg ?_ | refine Qc.mk Lc [_] [] _ hfi (List.perm_append_comm (l₁ := [_]) (l₂ := Lc)) QX (fun v L' D' hq => ?_); obtain ⟨rfl, hLL, rfl⟩ := hq; rw [hLL] | refine Qe.mk _ [] ⟨?_, rfl, rfl⟩ (Qb.perm (List.perm_append_comm (l₁ := Lc) (l₂ := [_])))
   all_goals (rw [he, if_neg (by omega), Int.zero_add])
  | false =>
   rw [hp] at hfi
   have hq := hx2 hp
   have he2 : k = if Q2 p (l.drop (i + 1)) < 0 then -1 else Q2 p (l.drop (i + 1)) + ((i + 1 : Nat) : Int) := by rw [he, hq]; (repeat' split) <;> omega
   repeat' first | refine Wk ?_ | refine Qa.mk (fun h => ?_) (fun h => ?_) | refine Qd.mk (fun ad => ?_) | refine Qr.a 122 8 _ (.inl ⟨c, QT⟩) ?_ | refine Qi.a 122 _ _ _ (.inl ⟨c, QT⟩) hg ?_ | refine Qc.mk Lc [_] [] _ hfi (List.perm_append_comm (l₁ := [_]) (l₂ := Lc)) QX (fun v L' D' hq => ?_); obtain ⟨rfl, hLL, rfl⟩ := hq; rw [hLL] | refine Qo.mk (i + 1) (by omega) ⟨by omega, he2⟩ Qh.a (Qb.perm (List.perm_append_comm (l₁ := Lc) (l₂ := [_])))
 ·have hil : i = l.length := by omega
  subst hil
  rw [List.drop_length] at he
  have he : k = -1 := he
  subst he
  repeat' first | refine Wk ?_ | refine Qa.mk (fun h => ?_) (fun h => ?_) | refine Qd.mk (fun ad => ?_) | refine Qe.mk _ [] ⟨rfl, rfl, rfl⟩ (Qb.refl _ _)
theorem Ef (a : Option Addr) (c : Nat) (l : List PP) (f id ad off : Nat) (Lc : List Chunk) (p : PP → Bool) (hl : l.length ≤ 1000)
  (hf : ∀ g ∈ l, FnS prog f [.agg g.cells, .c (.p id ad off)] Lc [] (fun v L D => v = .c (.b (p g)) ∧ L = Lc ∧ D = [])) :
  FnS prog 251 [.c (.sl a l.length c), .c (.fn f [(id, ad, off)])] (.row 122 8 a l.length c (XI l) :: Lc) []
   (fun v L D => v = .c (.sl a (l.filter fun x => !p x).length c) ∧ L = .row 122 8 a (l.filter fun x => !p x).length c (XI (l.filter fun x => !p x)) :: Lc ∧ D = []) := by
 have ci := Hp a c l f id ad off Lc p (by omega) hf
 have hlow := SX (p := p) l
 by_cases h0 : Q2 p l < 0
 ·rw [P9 h0]
  have hk : Q2 p l = -1 := by omega
  rw [hk] at ci
  refine FJ 9000 func251 ntmps251 (fun G => ?_)
  repeat' first | refine Wk ?_ | refine Qa.mk (fun h => ?_) (fun h => ?_) | refine Qd.mk (fun ad => ?_) | refine Qc.mk (_ :: Lc) [] [] _ ci (by simp) QX (fun v L' D' hq => ?_); obtain ⟨rfl, hLL, rfl⟩ := hq; rw [hLL] | refine Qe.mk (_ :: Lc) [] ⟨rfl, rfl, rfl⟩ (Qb.of (by simp))
 ·obtain ⟨i0, hi0⟩ : ∃ i0 : Nat, Q2 p l = i0 := ⟨(Q2 p l).toNat, by omega⟩
  obtain ⟨hlt0, hp0, hf0⟩ := v8 hi0
  rw [hi0] at ci
  generalize hq : l.filter (fun x => !p x) = q
  refine FJ 9000 func251 ntmps251 (fun G => ?_)
  refine XX QT (fun hnc _ _ => ?_)
  repeat' first | refine Wk ?_ | refine Qa.mk (fun h => ?_) (fun h => ?_) | refine Qd.mk (fun ad => ?_) | refine Qc.mk (_ :: Lc) [] [] _ ci (by simp) QX (fun v L' D' hq => ?_); obtain ⟨rfl, hLL, rfl⟩ := hq; rw [hLL]
  refine Qn (α := Nat × Nat × List PP) (fun x => [(0, .c (.sl a l.length c)), (1, .c (.fn f [(id, ad, off)])), (5, .c (.i .i64 x.2.1)), (6, .c (.i .i64 x.1))]) (fun x => .row 122 8 a l.length c (XI x.2.2) :: Lc) (fun _ => []) 9000
   (fun x => x.1 ≤ l.length ∧ x.2.1 < x.1 ∧ x.2.2.length = l.length ∧ x.2.2.take x.2.1 = (l.take x.1).filter (fun x => !p x) ∧ x.2.2.drop x.1 = l.drop x.1) (fun x => l.length - x.1) (Qq.mk (i0 + 1, i0, l) ⟨by dsimp only; omega, by dsimp only; omega, rfl, ?_, rfl⟩ Qh.a (Qb.of (by simp))) (fun x hx => ?_)
  ·dsimp only
   rw [List.take_succ_eq_append_getElem hlt0, List.filter_append, hf0, List.filter_cons, if_neg (by rw [hp0]; simp)]
   simp
  obtain ⟨j, i, m⟩ := x
  dsimp only at hx ⊢
  obtain ⟨hj, hij, hml, htk, hdr⟩ := hx
  by_cases hlt : j < l.length
  ·have hmj : m[j]'(by omega) = l[j] := by
    have := congrArg (fun x => x[0]?) hdr
    simpa [hlt, show j < m.length by omega] using this
   have hg := zG (l := m) (i := j) (by omega)
   rw [hmj] at hg
   have hfi := hf _ (List.getElem_mem hlt)
   have hst : QP (i * 8 + 0) l[j].cells (XI m) = XI (m.set i l[j]) := Sb (by omega) _
   have htk1 : p l[j] = true → m.take i = (l.take (j + 1)).filter (fun x => !p x) := fun h => by
    rw [List.take_succ_eq_append_getElem hlt, List.filter_append, ← htk, List.filter_cons, if_neg (by rw [h]; simp)]; simp
   have htk2 : p l[j] = false → (m.set i l[j]).take (i + 1) = (l.take (j + 1)).filter (fun x => !p x) := fun h => by
    rw [List.take_succ_eq_append_getElem hlt, List.filter_append, ← htk, List.filter_cons, if_pos (by rw [h]; rfl), List.take_succ_eq_append_getElem (by rw [List.length_set]; omega)]
    simp [List.take_set_of_le]
   have hdr2 : (m.set i l[j]).drop (j + 1) = l.drop (j + 1) := by
    rw [List.drop_set_of_lt (by omega), ← List.drop_drop, hdr, List.drop_drop]
   have hdr1 : m.drop (j + 1) = l.drop (j + 1) := by rw [← List.drop_drop, hdr, List.drop_drop]
   unfold PP.cells at hfi hst
   generalize l[j] = v at *
   obtain ⟨id0, us, nt, sp, nm, ba, tx, mi⟩ := v
   dsimp only at hg hfi hst
   cases hp : p ⟨id0, us, nt, sp, nm, ba, tx, mi⟩ with
   | true =>
    rw [hp] at hfi
    repeat' first | refine Wk ?_ | refine Qa.mk (fun h => ?_) (fun h => ?_) | refine Qd.mk (fun ad => ?_) | refine Qr.a 122 8 _ (.inl ⟨c, QT⟩) ?_ | refine Qi.a 122 _ _ _ (.inl ⟨c, QT⟩) hg ?_ | refine Qc.mk Lc [_, _] [] _ hfi (List.perm_append_comm (l₁ := [_, _]) (l₂ := Lc)) QX (fun v L' D' hq => ?_); obtain ⟨rfl, hLL, rfl⟩ := hq; rw [hLL] | refine Qo.mk (j + 1, i, m) (by dsimp only; omega) ⟨by dsimp only; omega, by dsimp only; omega, hml, htk1 hp, hdr1⟩ Qh.a ((Qb.perm (List.perm_append_comm (l₁ := Lc) (l₂ := [_, _]))).trans Qb.drop)
   | false =>
    rw [hp] at hfi
    repeat' first | refine QF (c := .seq (.region 9 _ _) _) ?_ | refine Wk ?_ | refine Qa.mk (fun h => ?_) (fun h => ?_) | refine Qd.mk (fun ad => ?_) | refine Qr.a 122 8 _ (.inl ⟨c, QT⟩) ?_ | refine Qi.a 122 _ _ _ (.inl ⟨c, QT⟩) hg ?_ | refine Qc.mk Lc [_, _] [] _ hfi (List.perm_append_comm (l₁ := [_, _]) (l₂ := Lc)) QX (fun v L' D' hq => ?_); obtain ⟨rfl, hLL, rfl⟩ := hq; rw [hLL]
    refine ⟨?_⟩
    refine VE (n' := 9001) (Qb.perm ((List.perm_append_comm (l₁ := Lc) (l₂ := [_, _])).trans (List.Perm.swap _ _ _))) ?_
    repeat' first | refine Wk ?_ | refine Qa.mk (fun h => ?_) (fun h => ?_) | refine Qd.mk (fun ad => ?_) | refine Qr.a 122 8 _ (.inl ⟨c, QT⟩) ?_ | refine Xp.mk [] _ _ _ _ _ _ rfl (by omega) (by omega) (Nat.le_of_ble_eq_true rfl) hst ?_ | refine Qo.mk (j + 1, i + 1, m.set i ⟨id0, us, nt, sp, nm, ba, tx, mi⟩) (by dsimp only; omega) ⟨by dsimp only; omega, by dsimp only; omega, by rw [List.length_set]; exact hml, htk2 hp, hdr2⟩ Qh.a ((Qb.perm (List.Perm.swap _ _ _)).trans Qb.drop)
  ·have hjl : j = l.length := by omega
   subst hjl
   rw [List.take_length, hq] at htk
   have hql : q.length = i := by rw [← htk, List.length_take]; omega
   have hwl := xC m
   repeat' first | refine Wk ?_ | refine Qa.mk (fun h => ?_) (fun h => ?_) | refine Qd.mk (fun ad => ?_) | refine z1.mk [] _ _ _ _ (i : Int).toNat _ _ rfl (if_neg (by omega)) (by omega) ?_ | refine Qe.mk (_ :: Lc) [] ⟨?_, rfl, rfl⟩ ((Qb.rowPre (k := i) (by omega)).trans (Qb.of ?_))
   ·show V.c (C.sl (Z9 a 0 c 8) (i : Int).toNat c) = _
    rw [Jq, hql, Int.toNat_natCast]
   ·show Chunk.row _ 8 a i c ((QP ((i : Int).toNat * 8) (XA (l.length - (i : Int).toNat) [C.i .i64 0, C.s [], C.s [], C.i .i64 0, C.s [], C.i .i64 0, C.s [], C.i .i64 0]) (XI m)).take (i * 8)) :: Lc = _
    rw [Int.toNat_natCast, vH (by omega), PV, htk, hql]
end Go.Proofs
namespace Go.Proofs
open Go Go.X Tryz
set_option maxRecDepth 100000
theorem HZ {α : Type} {p : α → Bool} {s : List α} {i : Nat} (h : i < s.length) : (s.drop i).all p = (p s[i] && (s.drop (i + 1)).all p) := by
 rw [List.drop_eq_getElem_cons h, List.all_cons]
theorem OQ {c : UInt8} (h : ((c.toNat : Int) < 97 ∨ 122 < (c.toNat : Int)) ∧ ((c.toNat : Int) < 48 ∨ 57 < (c.toNat : Int)) ∧ (c.toNat : Int) ≠ 45 ∧ (c.toNat : Int) ≠ 95) : VA c = false := by
 unfold VA; simp only [h.1, h.2.1, h.2.2.1, h.2.2.2, Bool.not_eq_false', ← Bool.decide_or, decide_true, decide_false, Bool.not_false, Bool.and_self]
theorem OP {c : UInt8} (h : ¬ (((c.toNat : Int) < 97 ∨ 122 < (c.toNat : Int)) ∧ ((c.toNat : Int) < 48 ∨ 57 < (c.toNat : Int)) ∧ (c.toNat : Int) ≠ 45 ∧ (c.toNat : Int) ≠ 95)) : VA c = true := by
 cases hn : VA c with
 | true => rfl
 | false =>
  unfold VA at hn
  simp only [Bool.not_eq_false', ← Bool.decide_or, Bool.and_eq_true, decide_eq_true_eq, Bool.not_eq_true', decide_eq_false_iff_not] at hn
  exact absurd ⟨hn.1.1.1, hn.1.1.2, hn.1.2, hn.2⟩ h
theorem Y8 (s : Bs) (hs : s.length ≤ 9223372036854775807) : FnS prog 97 [.c (.s s)] [] [] (Is (.c (.b (QV s)))) := by
  refine FJ 0 func97 ntmps97 (fun G => ?_)
  repeat' first | refine QF (c := .seq (.seq (.region 3 _ _) _) _) ?_ | refine Wk ?_ | refine Qa.mk (fun h => ?_) (fun h => ?_) | refine Qd.mk (fun ad => ?_) | refine Qe.bool ?_
  rotate_right
  · refine ⟨?_⟩
    refine Yk ?_
    repeat' first | refine Wk ?_ | refine Qa.mk (fun h => ?_) (fun h => ?_) | refine Qd.mk (fun ad => ?_)
    refine Qn (α := Nat) (fun i => [(0, .c (.s s)), (24, .c (.i .i64 s.length)), (25, .c (.i .i64 i))]) (fun _ => []) (fun _ => []) 0 (fun i => i ≤ s.length ∧ s.all VA = (s.drop i).all VA) (fun i => s.length - i)
      (Qq.mk 0 ⟨by omega, rfl⟩ Qh.a (Qb.refl _ _)) (fun i hi => ?_)
    obtain ⟨hi, hal⟩ := hi
    by_cases hlt : i < s.length
    · rw [HZ hlt] at hal
      have hg : s[i] = s.getD i 0 := by simp [hlt]
      rw [hg] at hal
      have hb := (s.getD i 0).toNat_lt
      repeat' first | refine Wk ?_ | refine Qa.mk (fun h => ?_) (fun h => ?_) | refine Qd.mk (fun ad => ?_) | refine Qe.bool ?_ | refine Qo.mk (i + 1) (by omega) ⟨by omega, ?_⟩ Qh.a (Qb.refl _ _)
      all_goals simp only [Int.toNat_natCast] at *
      all_goals first
        | (rw [hal, OP (by omega), Bool.true_and])
        | (have hn : VA (s.getD i 0) = false := OQ (by omega)
           rw [hn, Bool.false_and] at hal
           unfold QV; rw [hal, Bool.and_false])
    · have hil : i = s.length := by omega
      subst hil
      simp only [List.drop_length, List.all_nil] at hal
      repeat' first | refine Wk ?_ | refine Qa.mk (fun h => ?_) (fun h => ?_) | refine Qd.mk (fun ad => ?_) | refine Qe.bool ?_
      (try simp only [Int.toNat_natCast, Int.toNat_zero] at *); simp only [QV, *, decide_true, decide_false, Bool.true_and, Bool.false_and, Bool.and_true, Bool.and_false, Bool.not_true, Bool.not_false, Bool.true_or, Bool.false_or, Bool.or_true, Bool.or_false, not_true, not_false_eq_true, ne_eq, if_true, if_false, Bool.false_eq_true]
  all_goals ((try simp only [Int.toNat_natCast, Int.toNat_zero] at *); simp only [QV, *, decide_true, decide_false, Bool.true_and, Bool.false_and, Bool.and_true, Bool.and_false, Bool.not_true, Bool.not_false, Bool.true_or, Bool.false_or, Bool.or_true, Bool.or_false, not_true, not_false_eq_true, ne_eq, if_true, if_false, Bool.false_eq_true]; try rfl)
theorem Wd (s : Bs) (hs : s.length ≤ 9223372036854775807) : FnS prog 34 [.c (.s s)] [] [] (Is (.c (.b (QV s)))) := by
  refine FJ 0 func34 ntmps34 (fun G => ?_)
  repeat' first | refine QF (c := .seq (.seq (.region 3 _ _) _) _) ?_ | refine Wk ?_ | refine Qa.mk (fun h => ?_) (fun h => ?_) | refine Qd.mk (fun ad => ?_) | refine Qe.bool ?_
  rotate_right
  · refine ⟨?_⟩
    refine Yk ?_
    repeat' first | refine Wk ?_ | refine Qa.mk (fun h => ?_) (fun h => ?_) | refine Qd.mk (fun ad => ?_)
    refine Qn (α := Nat) (fun i => [(0, .c (.s s)), (3, .c (.i .i64 i))]) (fun _ => []) (fun _ => []) 0 (fun i => i ≤ s.length ∧ s.all VA = (s.drop i).all VA) (fun i => s.length - i)
      (Qq.mk 0 ⟨by omega, rfl⟩ Qh.a (Qb.refl _ _)) (fun i hi => ?_)
    obtain ⟨hi, hal⟩ := hi
    by_cases hlt : i < s.length
    · rw [HZ hlt] at hal
      have hg : s[i] = s.getD i 0 := by simp [hlt]
      rw [hg] at hal
      have hb := (s.getD i 0).toNat_lt
      repeat' first | refine Wk ?_ | refine Qa.mk (fun h => ?_) (fun h => ?_) | refine Qd.mk (fun ad => ?_) | refine Qe.bool ?_ | refine Qo.mk (i + 1) (by omega) ⟨by omega, ?_⟩ Qh.a (Qb.refl _ _)
      all_goals simp only [Int.toNat_natCast] at *
      all_goals first
        | (rw [hal, OP (by omega), Bool.true_and])
        | (have hn : VA (s.getD i 0) = false := OQ (by omega)
           rw [hn, Bool.false_and] at hal
           unfold QV; rw [hal, Bool.and_false])
    · have hil : i = s.length := by omega
      subst hil
      simp only [List.drop_length, List.all_nil] at hal
      repeat' first | refine Wk ?_ | refine Qa.mk (fun h => ?_) (fun h => ?_) | refine Qd.mk (fun ad => ?_) | refine Qe.bool ?_
      (try simp only [Int.toNat_natCast, Int.toNat_zero] at *); simp only [QV, *, decide_true, decide_false, Bool.true_and, Bool.false_and, Bool.and_true, Bool.and_false, Bool.not_true, Bool.not_false, Bool.true_or, Bool.false_or, Bool.or_true, Bool.or_false, not_true, not_false_eq_true, ne_eq, if_true, if_false, Bool.false_eq_true]
  all_goals ((try simp only [Int.toNat_natCast, Int.toNat_zero] at *); simp only [QV, *, decide_true, decide_false, Bool.true_and, Bool.false_and, Bool.and_true, Bool.and_false, Bool.not_true, Bool.not_false, Bool.true_or, Bool.false_or, Bool.or_true, Bool.or_false, not_true, not_false_eq_true, ne_eq, if_true, if_false, Bool.false_eq_true]; try rfl)
theorem zg (s : Bs) : FnS prog 241 [.c (.s s)] [] [] (Is (.c (.b (zV s)))) := by
 refine FJ 0 func241 ntmps241 (fun G => ?_)
 repeat' first | refine Wk ?_ | refine Qa.mk (fun h => ?_) (fun h => ?_) | refine Qd.mk (fun ad => ?_) | refine Qe.bool ?_
 all_goals (unfold zV bAll Ou; first | (rw [decide_eq_true (by assumption)]; rfl) | (rw [decide_eq_false (by assumption), decide_eq_true (by assumption)]; rfl) | (rw [decide_eq_false (by assumption), decide_eq_false (by assumption)]; rfl))
theorem y7 (s : Bs) : FnS prog 181 [.c (.s s)] [] [] (Is (.c (.b (zV s)))) := by
 refine FJ 0 func181 ntmps181 (fun G => ?_)
 repeat' first | refine Wk ?_ | refine Qa.mk (fun h => ?_) (fun h => ?_) | refine Qd.mk (fun ad => ?_) | refine Qe.bool ?_
 all_goals (unfold zV bAll Ou; first | (rw [decide_eq_true (by assumption)]; rfl) | (rw [decide_eq_false (by assumption), decide_eq_true (by assumption)]; rfl) | (rw [decide_eq_false (by assumption), decide_eq_false (by assumption)]; rfl))
theorem zo {α : Type} {p : α → Bool} {l : List α} {i : Nat} (h : i < l.length) : (l.take (i + 1)).any p = ((l.take i).any p || p l[i]) := by
 rw [List.take_succ_eq_append_getElem h, List.any_append]; simp
theorem U9 (e : Nat) (a : Option Addr) (c : Nat) (gs : List JL) (f id ad off : Nat) (Lc : List Chunk) (pred : Bs → Bool) (hl : gs.length ≤ 9223372036854775807)
  (hf : ∀ g ∈ gs, FnS prog f [.agg g.cells, .c (.p id ad off)] Lc [] (fun v L D => v = .c (.b (pred g.name)) ∧ L = Lc ∧ D = [])) :
  FnS prog 277 [.c (.sl a gs.length c), .c (.fn f [(id, ad, off)])] Lc [Qf e 2 a gs.length (YR gs)]
   (fun v L D => ∃ k : Int, v = .c (.i .i64 k) ∧ decide (0 ≤ k) = gs.any (fun g => pred g.name) ∧ L = Lc ∧ D = []) := by
 have hrd : ∀ L, Qp L [Qf e 2 a gs.length (YR gs)] e 2 a gs.length (YR gs) := fun L => .inr fun m h => h.1
 have hz : ∀ g : JL, g.cells.length = 2 := fun _ => rfl
 refine FJ 5000 func277 ntmps277 (fun G => ?_)
 refine Yk ?_
 repeat' first | refine Wk ?_ | refine Qa.mk (fun h => ?_) (fun h => ?_) | refine Qd.mk (fun ad => ?_)
 refine Qn (α := Nat) (fun i => [(0, .c (.sl a gs.length c)), (1, .c (.fn f [(id, ad, off)])), (7, .c (.i .i64 gs.length)), (8, .c (.i .i64 i))]) (fun _ => Lc) (fun _ => [Qf e 2 a gs.length (YR gs)]) 5000
  (fun i => i ≤ gs.length ∧ (gs.take i).any (fun g => pred g.name) = false) (fun i => gs.length - i) (Qq.mk 0 ⟨by omega, rfl⟩ Qh.a (Qb.refl _ _)) (fun i hi => ?_)
 obtain ⟨hi, hal⟩ := hi
 by_cases hlt : i < gs.length
 ·have hany := zo (p := fun g : JL => pred g.name) hlt
  rw [hal, Bool.false_or] at hany
  have hcall := hf gs[i] (List.getElem_mem hlt)
  have hg : ((YR gs).drop (i * 2 + 0)).take 2 = gs[i].cells := by rw [YR, QL hz hlt (by omega)]; rfl
  have hall : gs.any (fun g => pred g.name) = ((gs.take (i + 1)).any (fun g => pred g.name) || (gs.drop (i + 1)).any (fun g => pred g.name)) := by rw [← List.any_append, List.take_append_drop]
  cases hp : pred gs[i].name with
  | false =>
   rw [hp] at hcall hany
   repeat' first | refine Wk ?_ | refine Qa.mk (fun h => ?_) (fun h => ?_) | refine Qd.mk (fun ad => ?_) | refine Qr.a e 2 _ (hrd _) ?_ | refine Qi.mk e _ _ _ (hrd _) (by omega) (by omega) (by decide) hg ?_ | refine Qc.mk Lc [] [] _ hcall (by simp) QX (fun v L' D' hp => ?_); obtain ⟨rfl, rfl, rfl⟩ := hp | refine Qo.mk (i + 1) (by omega) ⟨by omega, hany⟩ Qh.a (Qb.of (by simp))
  | true =>
   rw [hp] at hcall hany
   rw [hany, Bool.true_or] at hall
   repeat' first | refine Wk ?_ | refine Qa.mk (fun h => ?_) (fun h => ?_) | refine Qd.mk (fun ad => ?_) | refine Qr.a e 2 _ (hrd _) ?_ | refine Qi.mk e _ _ _ (hrd _) (by omega) (by omega) (by decide) hg ?_ | refine Qc.mk Lc [] [] _ hcall (by simp) QX (fun v L' D' hp => ?_); obtain ⟨rfl, rfl, rfl⟩ := hp | refine Qe.mk _ [] ⟨_, rfl, ?_, rfl, rfl⟩ ((Qb.of (by simp)).trans (Qb.facts fun _ _ => trivial))
   rw [hall]
   exact decide_eq_true (by omega)
 ·have hil : i = gs.length := by omega
  subst hil
  rw [List.take_length] at hal
  repeat' first | refine Wk ?_ | refine Qa.mk (fun h => ?_) (fun h => ?_) | refine Qd.mk (fun ad => ?_) | refine Qe.mk _ [] ⟨_, rfl, ?_, rfl, rfl⟩ (Qb.facts fun _ _ => trivial)
  rw [hal]; rfl
theorem VD (e : Nat) (a : Option Addr) (c : Nat) (gs : List JL) (f id ad off : Nat) (Lc : List Chunk) (pred : Bs → Bool) (hl : gs.length ≤ 9223372036854775807)
  (hf : ∀ g ∈ gs, FnS prog f [.agg g.cells, .c (.p id ad off)] Lc [] (fun v L D => v = .c (.b (pred g.name)) ∧ L = Lc ∧ D = [])) :
  FnS prog 242 [.c (.sl a gs.length c), .c (.fn f [(id, ad, off)])] Lc [Qf e 2 a gs.length (YR gs)]
   (fun v L D => v = .c (.b (gs.any fun g => pred g.name)) ∧ L = Lc ∧ D = []) := by
 have c1 := U9 e a c gs f id ad off Lc pred hl hf
 refine FJ 5000 func242 ntmps242 (fun G => ?_)
 repeat' first | refine Wk ?_ | refine Qa.mk (fun h => ?_) (fun h => ?_) | refine Qd.mk (fun ad => ?_) | refine Qc.mk Lc [] _ _ c1 (by simp) (fun _ h => h) (fun v L' D' hp => ?_); obtain ⟨k, rfl, hk, rfl, rfl⟩ := hp | refine Qe.mk _ [] ⟨?_, rfl, rfl⟩ ((Qb.of (by simp)).trans (Qb.facts fun _ _ => trivial))
 all_goals (rw [← hk]; first | rw [decide_eq_true (by assumption)] | rw [decide_eq_false (by assumption)])
theorem Hz (g : JL) (id ad : Nat) (s : Bs) : FnS prog 279 [.agg g.cells, .c (.p 1 ad 0)] [.box 1 ad 9 [.s s]] [] (fun v L D => v = .c (.b (decide (g.name = s))) ∧ L = [.box 1 ad 9 [.s s]] ∧ D = []) := by
 refine FJ 7000 func279 ntmps279 (fun G => ?_)
 repeat' first | refine Wk ?_ | refine Qa.mk (fun h => ?_) (fun h => ?_) | refine Qd.mk (fun ad => ?_) | refine Qe.mk [_] [] ⟨?_, rfl, rfl⟩ Qb.drop
 ·rw [decide_eq_true (by assumption)]
 ·rw [decide_eq_false (by assumption)]
theorem Ox (g x : JL) (ad : Nat) : FnS prog 243 [.agg g.cells, .c (.p 1 ad 0)] [.box 1 ad 163 x.cells] [] (fun v L D => v = .c (.b (decide (g.name = x.name))) ∧ L = [.box 1 ad 163 x.cells] ∧ D = []) := by
 refine FJ 7000 func243 ntmps243 (fun G => ?_)
 repeat' first | refine Wk ?_ | refine Qa.mk (fun h => ?_) (fun h => ?_) | refine Qd.mk (fun ad => ?_) | refine Qe.mk [_] [] ⟨?_, rfl, rfl⟩ Qb.drop
 ·rw [decide_eq_true (by assumption)]
 ·rw [decide_eq_false (by assumption)]
structure PolM where
 ga : Option Addr
 gc : Nat
 gs : List JL
 ra : Option Addr
 rc : Nat
 rs : List Pf
 xa : Option Addr
 xc : Nat
 xs : List Ph
def PolM.cells (p : PolM) : List C := [.sl p.ga p.gs.length p.gc, .sl p.ra p.rs.length p.rc, .sl p.xa p.xs.length p.xc]
def PolM.facts (p : PolM) : List Fact := [Qf 0 2 p.ga p.gs.length (YR p.gs), Zz p.gs, Qf 0 6 p.ra p.rs.length (wO p.rs), Qf 0 5 p.xa p.xs.length (kD p.xs)]
def QY (gs : List JL) : List Bs := gs.map (·.name)
theorem jB (gs : List JL) (s : Bs) : (gs.any fun g => decide (g.name = s)) = (QY gs).any fun x => decide (x = s) := by
 simp [QY, List.any_map, Function.comp_def]
theorem We (p : PolM) (s : Bs) (hl : p.gs.length ≤ 9223372036854775807) : FnS prog 245 [.agg p.cells, .c (.s s)] [] p.facts (Is (.c (.b (ZY (QY p.gs) s)))) := by
 have c2 := fun ad => VD 0 p.ga p.gc p.gs 279 1 ad 0 [.box 1 ad 9 [.s s]] (fun n => decide (n = s)) hl (fun g _ => Hz g 1 ad s)
 refine FJ 0 func245 ntmps245 (fun G => ?_)
 repeat' first | refine Wk ?_ | refine Qa.mk (fun h => ?_) (fun h => ?_) | refine Qd.mk (fun ad => ?_) | refine Qc.isB (zg s) (fun hb => ?_) (fun hb => ?_) | refine Qc.mk [_] [_] [Qf 0 2 p.ga p.gs.length (YR p.gs)] _ (c2 _) QW Kh (fun v L' D' hp => ?_); obtain ⟨rfl, rfl, rfl⟩ := hp | refine Qe.bool ?_
 all_goals (unfold ZY; rw [hb]; first | rw [Bool.true_or] | (rw [jB, Bool.false_or]))
end Go.Proofs
namespace Go.Proofs
open Go Go.X Tryz
set_option maxRecDepth 100000
theorem RZ {l : List C} {i : Nat} {x : C} (h : i < l.length) : QP i [x] l = l.set i x := by
 rw [List.set_eq_take_append_cons_drop, if_pos h]; simp [QP]
def mixed (l : List UInt8) (i : Nat) : List UInt8 := (l.take i).map lowB ++ l.drop i
theorem vU {l : List UInt8} {i : Nat} (h : i < l.length) : ((mixed l i).map byteC).drop i = byteC l[i] :: (l.drop (i + 1)).map byteC := by
 rw [← List.map_drop, mixed, List.drop_left' (by simp; omega), List.drop_eq_getElem_cons h, List.map_cons]
theorem P1 {l : List UInt8} {i : Nat} (h : i ≤ l.length) : (mixed l i).length = l.length := by simp [mixed]; omega
theorem yg {l : List UInt8} {i : Nat} (h : i < l.length) : (mixed l i).set i (lowB l[i]) = mixed l (i + 1) := by
 unfold mixed
 have hlen : ((l.take i).map lowB).length = i := by simp; omega
 rw [List.set_append_right _ _ (by omega), List.take_succ_eq_append_getElem h, hlen, Nat.sub_self, List.drop_eq_getElem_cons h, List.set_cons_zero, List.map_append]
 simp
theorem TX {l : List UInt8} {i : Nat} (h : i < l.length) (h' : lowB l[i] = l[i]) : mixed l i = mixed l (i + 1) := by
 rw [← yg h, h']
 have := vU h
 have hi : (mixed l i)[i]? = some l[i] := by
  have h2 := congrArg (fun x => x[0]?) this
  simp only [List.getElem?_drop, Nat.add_zero, List.getElem?_cons_zero, List.getElem?_map] at h2
  cases hx : (mixed l i)[i]? with
  | none => rw [hx] at h2; simp at h2
  | some u =>
   rw [hx] at h2
   simp [byteC] at h2
   have : u.toNat = l[i].toNat := by omega
   rw [UInt8.toNat_inj.1 this]
 obtain ⟨hlt, he⟩ := List.getElem?_eq_some_iff.1 hi
 rw [← he, List.set_getElem_self]
theorem O5 (l : List UInt8) (hl : l.length ≤ 1000000) : FnS prog 190 [.c (.s l)] [] [] (Is (.c (.s (l.map lowB)))) := by
 refine FJ 0 func190 ntmps190 (fun G => ?_)
 repeat' first | refine Wk ?_ | refine Qa.mk (fun h => ?_) (fun h => ?_) | refine Qd.mk (fun ad => ?_) | refine NewB.mk (fun ad c => ?_)
 refine Qn (α := Nat) (fun i => [(10, .c (.i .i64 i)), (9, qQ l.length), (8, .c (.sl (some ⟨ad, 0, none⟩) l.length c)), (3, .c (.sl (some ⟨ad, 0, none⟩) l.length c))])
  (fun i => [.row 5 1 (some ⟨ad, 0, none⟩) l.length c ((mixed l i).map byteC)]) (fun _ => []) 0 (fun i => i ≤ l.length) (fun i => l.length - i) (Qq.mk 0 (by omega) ?_ (Qb.of (by simp [mixed]))) (fun i hi => ?_)
 ·repeat' first | exact Qh.nil | refine Qh.cons rfl ?_ ?_ | exact ZB.refl _ | refine ZB.int (by omega) | refine ZB.sl rfl (by first | rfl | omega | (rw [List.length_append]; rfl) | (simp; omega)) rfl
 have hrd : Qp [.row 5 1 (some ⟨ad, 0, none⟩) l.length c ((mixed l i).map byteC)] [] 5 1 (some ⟨ad, 0, none⟩) l.length ((mixed l i).map byteC) := .inl ⟨c, by simp⟩
 by_cases hlt : i < l.length
 ·have hb := (l[i]).toNat_lt
  have hg := vU hlt
  repeat' first | refine Wk ?_ | refine Qa.mk (fun h => ?_) (fun h => ?_) | refine Qd.mk (fun ad => ?_) | refine Qr.a 5 1 _ hrd ?_ | refine Qi.mk 5 _ _ [byteC l[i]] hrd (by omega) (by omega) (by omega) (by simp [hg]) ?_ | (exfalso; omega)
  ·refine Xp.mk [] [] 5 _ c _ ((mixed l (i + 1)).map byteC) rfl (by omega) (by omega) (by simp) ?_ ?_
   ·rw [← yg hlt, List.map_set, ← RZ (by simp [P1 hi, hlt]), byteC, Hh (by assumption) (by assumption)]
    simp
   ·repeat' first | refine Wk ?_ | refine Qa.mk (fun h => ?_) (fun h => ?_) | refine Qd.mk (fun ad => ?_)
    refine Qo.mk (i + 1) (by omega) (by omega) ?_ (Qb.refl _ _)
    repeat' first | exact Qh.nil | refine Qh.cons rfl ?_ ?_ | exact ZB.refl _ | refine ZB.int (by omega) | refine ZB.sl rfl (by first | rfl | omega | (rw [List.length_append]; rfl) | (simp; omega)) rfl
  all_goals
   refine Qo.mk (i + 1) (by omega) (by omega) ?_ (Qb.of (by rw [TX hlt (U7 (by omega))]))
   repeat' first | exact Qh.nil | refine Qh.cons rfl ?_ ?_ | exact ZB.refl _ | refine ZB.int (by omega) | refine ZB.sl rfl (by first | rfl | omega | (rw [List.length_append]; rfl) | (simp; omega)) rfl
 ·have hil : i = l.length := by omega
  subst hil
  repeat' first | refine Wk ?_ | refine Qa.mk (fun h => ?_) (fun h => ?_) | refine Qd.mk (fun ad => ?_) | (exfalso; omega)
  refine yR.mk 5 (l.map lowB) ?_ ?_
  ·have : mixed l l.length = l.map lowB := by simp [mixed]
   rw [← this]; exact hrd
  ·repeat' first | refine Wk ?_ | refine Qa.mk (fun h => ?_) (fun h => ?_) | refine Qd.mk (fun ad => ?_) | exact Qe.is rfl
theorem vF : FnS prog 192 [] [] [] (Is (.agg [.s [], .s (Q3 1), .s (Q3 2), .s (Q3 3), .s (Q3 4), .s (Q3 5)])) := by
 refine FJ 0 func192 ntmps192 (fun G => ?_)
 repeat' first | refine Wk ?_ | refine Qa.mk (fun h => ?_) (fun h => ?_) | refine Qd.mk (fun ad => ?_) | exact Qe.is rfl
theorem vO (s : List UInt8) (hs : s.length ≤ 1000000) : FnS prog 146 [.c (.s s)] [] [ZX 1]
  (Is (.t3 (.c (.i .i64 (QN s))) (.c (.s (if QN s = 0 then [] else qA s))) (.c (.b (decide (QN s ≠ 0)))))) := by
 have h1 := JJ 58 s
 have h2 := za (QD 58 s).1 [32]
 cases hc : (QD 58 s).2.2 with
 | false =>
  have e : QN s = 0 := by simp [QN, hc]
  refine FJ 0 func146 ntmps146 (fun G => ?_)
  repeat' first | refine Wk ?_ | refine Qa.mk (fun h => ?_) (fun h => ?_) | refine Qd.mk (fun ad => ?_) | refine Qc.is (jJ s 58 (by omega)) ?_ | rw [hc]
  refine Qe.is ?_
  simp only [e]; rfl
 | true =>
  have e : QN s = qD (Lib.trimSuffix (QD 58 s).1 [32]) := by simp [QN, hc]
  refine FJ 0 func146 ntmps146 (fun G => ?_)
  repeat' first | refine Wk ?_ | refine Qa.mk (fun h => ?_) (fun h => ?_) | refine Qd.mk (fun ad => ?_) | refine Qc.is (jJ s 58 (by omega)) ?_ | rw [hc] | refine Qc.is (qZ _ [32] (by omega)) ?_ | refine Qc.is (O5 _ (Nat.le_trans h2 (Nat.le_trans h1 hs))) ?_ | refine Qc.is (O5 _ (by decide)) ?_ | refine Qc.is vF ?_ | refine Ji 7 ?_ | refine Kf ?_ | refine kR.mk _ (by omega) (by omega) rfl rfl ?_ | refine Qe.is ?_
  all_goals
   have hk := e
   unfold qD at hk
   repeat (first | rw [if_pos (by assumption)] at hk | rw [if_neg (by assumption)] at hk)
   simp only [hk]
   rfl
def pv (s : List UInt8) (i : Nat) : Bool := decide (0 < (i : Int)) && decide (((s.getD ((i : Int) - 1).toNat 0).toNat : Int) = 32)
theorem Rh {s : List UInt8} {i : Nat} (h : i < s.length) : s.drop i = s.getD i 0 :: s.drop (i + 1) := by
 rw [List.drop_eq_getElem_cons h]; simp [h]
theorem yL {s : List UInt8} {i : Nat} (h : i < s.length) :
  JK (pv s i) (s.drop i) = (!Eo (s.getD i 0) && !(pv s i && decide (((s.getD i 0).toNat : Int) = 32)) && JK (pv s (i + 1)) (s.drop (i + 1))) := by
 have e : pv s (i + 1) = ((s.getD i 0).toNat == 32) := by
  have h1 : (((i + 1 : Nat) : Int) - 1).toNat = i := by omega
  have h2 : (0 : Int) < ((i + 1 : Nat) : Int) := by omega
  unfold pv
  rw [h1, decide_eq_true h2, Bool.true_and]
  rw [Bool.eq_iff_iff]; simp; omega
 have e2 : decide (((s.getD i 0).toNat : Int) = 32) = ((s.getD i 0).toNat == 32) := by rw [Bool.eq_iff_iff]; simp; omega
 rw [Rh h, JK, e, e2]
theorem HM (s : List UInt8) (hs : s.length ≤ 1000000) : FnS prog 144 [.c (.s s)] [] [] (Is (.c (.b (JK false s)))) := by
 refine FJ 0 func144 ntmps144 (fun G => ?_)
 repeat' first | refine Wk ?_ | refine Qa.mk (fun h => ?_) (fun h => ?_) | refine Qd.mk (fun ad => ?_)
 refine Qn (α := Nat) (fun i => [(0, .c (.s s)), (3, .c (.i .i64 i))]) (fun _ => []) (fun _ => []) 0 (fun i => i ≤ s.length ∧ JK false s = JK (pv s i) (s.drop i)) (fun i => s.length - i)
  (Qq.mk 0 ⟨by omega, by simp [pv]⟩ ?_ (Qb.refl _ _)) (fun i hi => ?_)
 ·repeat' first | exact Qh.nil | refine Qh.cons rfl ?_ ?_ | exact ZB.refl _ | refine ZB.int (by omega) | refine ZB.sl rfl (by first | rfl | omega | (rw [List.length_append]; rfl) | (simp; omega)) rfl
 obtain ⟨hi, hcl⟩ := hi
 by_cases hlt : i < s.length
 ·have hst := yL hlt
  have hb := (s.getD i 0).toNat_lt
  repeat' first | refine Wk ?_ | refine Qa.mk (fun h => ?_) (fun h => ?_) | refine Qd.mk (fun ad => ?_) | refine Qc.is (xP [60, 62, 91, 93, 123, 125, 124, 35, 95] (s.getD i 0)) ?_ | refine Qe.bool ?_ | refine Qo.mk (i + 1) (by omega) ⟨by omega, ?_⟩ Qh.a (Qb.refl _ _)
  all_goals simp only [Int.toNat_natCast] at *
  all_goals rw [hcl, hst]
  all_goals (clear hcl hst; (try simp only [Int.toNat_natCast, Int.toNat_zero] at *); simp only [Eo, pv, *, decide_true, decide_false, Bool.true_and, Bool.false_and, Bool.and_true, Bool.and_false, Bool.not_true, Bool.not_false, Bool.true_or, Bool.false_or, Bool.or_true, Bool.or_false, not_true, not_false_eq_true, ne_eq, if_true, if_false, Bool.false_eq_true]; try rfl)
 ·have hil : i = s.length := by omega
  subst hil
  repeat' first | refine Wk ?_ | refine Qa.mk (fun h => ?_) (fun h => ?_) | refine Qd.mk (fun ad => ?_) | refine Qe.bool ?_
  rw [hcl]; simp [JK]
end Go.Proofs
namespace Go.X
open Go.Lib
def J5 (s t : List UInt8) (i : Nat) : Int := if index (s.drop i) t = -1 then -1 else index (s.drop i) t + i
theorem jv (s : List UInt8) (i n : Nat) : (s.take (i + n)).drop i = (s.drop i).take n := by
 rw [List.drop_take]; congr 1; omega
theorem OM (s t : List UInt8) : t.isPrefixOf s = true ↔ s.take t.length = t := by
 rw [List.isPrefixOf_iff_prefix, List.prefix_iff_eq_take]
 exact eq_comm
theorem TG {s t : List UInt8} {i : Nat} (ht : 1 ≤ t.length) (h : i + t.length ≤ s.length) (he : (s.take (i + t.length)).drop i = t) : J5 s t i = i := by
 rw [jv] at he
 have hp := (OM (s.drop i) t).2 he
 have : index (s.drop i) t = 0 := by
  cases hs : s.drop i with
  | nil => have := congrArg List.length hs; simp at this; omega
  | cons b r => rw [hs] at hp; simp [index, hp]
 simp [J5, this]
theorem GX {s t : List UInt8} {i : Nat} (ht : 1 ≤ t.length) (h : i + t.length ≤ s.length) (he : ¬ (s.take (i + t.length)).drop i = t) : J5 s t i = J5 s t (i + 1) := by
 rw [jv] at he
 have hp : t.isPrefixOf (s.drop i) = false := by
  cases hx : t.isPrefixOf (s.drop i) with
  | false => rfl
  | true => exact absurd ((OM _ _).1 hx) he
 have hd : s.drop (i + 1) = (s.drop i).tail := by rw [List.tail_drop]
 unfold J5
 rw [hd]
 cases hs : s.drop i with
 | nil => have := congrArg List.length hs; simp at this; omega
 | cons b r =>
  rw [hs] at hp
  have hge := index_ge r t
  have e : index (b :: r) t = if index r t = -1 then -1 else index r t + 1 := by simp [index, hp]
  rw [e, List.tail_cons]
  by_cases hm : index r t = -1
  ·simp [hm]
  ·rw [if_neg hm, if_neg hm, if_neg (by omega)]; omega
theorem TH {s t : List UInt8} {i : Nat} (ht : 1 ≤ t.length) (h : ¬ i + t.length ≤ s.length) : J5 s t i = -1 := by
 have : index (s.drop i) t = -1 := by
  have hge := index_ge (s.drop i) t
  by_cases hx : index (s.drop i) t = -1
  ·exact hx
  ·have := index_room (s.drop i) t (by omega)
   simp at this; omega
 simp [J5, this]
theorem jC (c : UInt8) : ∀ s : List UInt8, index s [c] = if (QD c s).2.2 = true then ((QD c s).1.length : Int) else -1
 | [] => by simp [YO, QD]
 | x :: r => by
  have ih := jC c r
  by_cases h : x = c
  ·subst h; simp [WK, QD]
  ·rw [XC h, ih]
   simp only [QD, if_neg h]
   by_cases hc : (QD c r).2.2 = true
   ·rw [if_pos hc, if_pos hc, if_neg (by omega)]; simp
   ·rw [if_neg hc, if_neg hc, if_pos rfl]
theorem zT (c : UInt8) : ∀ s : List UInt8, s.take (QD c s).1.length = (QD c s).1
 | [] => by simp [QD]
 | x :: r => by
  have ih := zT c r
  simp only [QD]; split
  ·simp
  ·simp [ih]
theorem Vn (c : UInt8) : ∀ s : List UInt8, (QD c s).2.2 = true → s.drop ((QD c s).1.length + 1) = (QD c s).2.1 ∧ (QD c s).1.length < s.length
 | [], h => by simp [QD] at h
 | x :: r, h => by
  have ih := Vn c r
  simp only [QD] at h ⊢
  split
  ·simp
  ·rename_i hx
   rw [if_neg hx] at h
   have := ih h
   simp [this.1]; omega
theorem zN (c : UInt8) : ∀ l : List UInt8, index l [c] = indexByte l c
 | [] => by simp [YO, indexByte]
 | x :: r => by
  have ih := zN c r
  by_cases h : x = c
  ·subst h; simp [WK, indexByte]
  ·rw [XC h, ih]
   simp only [indexByte, beq_iff_eq, if_neg h]
theorem V0 (l : List UInt8) (c : UInt8) : J5 l [c] 0 = indexByte l c := by
 rw [← zN]
 unfold J5
 rw [List.drop_zero]
 split
 ·rename_i h; rw [h]
 ·omega
def zi (p : List UInt8) : List UInt8 := if (decide (0 < (p.length : Int)) && decide (((p.getD ((p.length : Int) - 1).toNat 0).toNat : Int) = 32)) = true then p.take ((p.length : Int) - 1).toNat else p
theorem He (p : List UInt8) : zi p = trimSuffix p [32] := by
 have key : (decide (0 < (p.length : Int)) && decide (((p.getD ((p.length : Int) - 1).toNat 0).toNat : Int) = 32)) = hasSuffix p [32] := by
  rcases List.eq_nil_or_concat p with rfl | ⟨q, x, rfl⟩
  ·rfl
  ·have e : (((q.concat x).length : Int) - 1).toNat = q.length := by simp
   rw [e]
   have h1 : (q.concat x).getD q.length 0 = x := by simp
   rw [h1]
   rw [Bool.eq_iff_iff]
   simp only [Bool.and_eq_true, decide_eq_true_eq, hasSuffix, List.isSuffixOf_iff_suffix, List.concat_eq_append]
   constructor
   ·rintro ⟨_, h⟩
    have : x = 32 := UInt8.toNat_inj.1 (by simpa using Int.ofNat.inj h)
    subst this
    exact List.suffix_append _ _
   ·rintro ⟨t, ht⟩
    have := List.append_inj_right' ht (by simp)
    simp at this
    subst this
    simp
 unfold zi trimSuffix
 rw [key]
 cases hs : hasSuffix p [32] with
 | false => simp
 | true =>
  simp only [if_true, List.length_singleton]
  congr 1
  omega
def UZ (t : List UInt8) : List UInt8 := if (decide (0 < (t.length : Int)) && decide (((t.getD 0 0).toNat : Int) = 32)) = true then t.drop 1 else t
theorem TU (t : List UInt8) : UZ t = trimPrefix t [32] := by
 cases t with
 | nil => rfl
 | cons x r =>
  have h : ((((x :: r).getD 0 0).toNat : Int) = 32) ↔ x = 32 := by
   simp only [List.getD_cons_zero]
   exact ⟨fun h => UInt8.toNat_inj.1 (by simpa using Int.ofNat.inj h), fun h => by subst h; rfl⟩
  unfold UZ trimPrefix hasPrefix
  by_cases hx : x = 32
  ·rw [if_pos (by simp only [Bool.and_eq_true, decide_eq_true_eq]; exact ⟨by simp, h.2 hx⟩), if_pos (by simp [List.isPrefixOf, hx])]
   rfl
  ·rw [if_neg (by simp only [Bool.and_eq_true, decide_eq_true_eq]; exact fun hh => hx (h.1 hh.2)), if_neg (by simp [List.isPrefixOf, Ne.symm hx])]
theorem Wn {s : List UInt8} {i : Nat} (h : i < s.length) : (s.take (i + 1)).drop i = [s.getD i 0] := by
 rw [jv, List.drop_eq_getElem_cons h]
 simp only [List.take_succ_cons, List.take_zero]
 simp [h]
theorem vE : KN [] 32 = [] := by decide
theorem jY {o : List UInt8} (h : ((o.getD ((o.length : Int) - 1).toNat 0).toNat : Int) = 32) : KN o 32 = o := by
 unfold KN
 rw [decide_eq_true h]
 simp
theorem jX {o : List UInt8} (h0 : ¬ o = []) (h : ¬ ((o.getD ((o.length : Int) - 1).toNat 0).toNat : Int) = 32) : KN o 32 = o ++ [32] := by
 unfold KN
 have h1 : (0 : Int) < (o.length : Int) := by have := List.length_pos_iff.2 h0; omega
 rw [decide_eq_false h, decide_eq_true h1]
 simp
theorem jW {o : List UInt8} {y : UInt8} (h : ¬ y = 32) : KN o y = o ++ [y] := by
 unfold KN
 have h1 : ¬ (y.toNat : Int) = 32 := fun hh => h (UInt8.toNat_inj.1 (by simpa using Int.ofNat.inj hh))
 rw [decide_eq_false h1]
 simp
theorem ED (s : List UInt8) {i : Nat} (h : i < s.length) : (jk s).getD i 0 = if s.getD i 0 = 95 then 32 else s.getD i 0 := by
 simp [jk, h]
theorem Y1 (c x : UInt8) : ∀ l : List UInt8, Qg c (l ++ [x]) = if x = c then Qg c l ++ [[]] else (Qg c l).dropLast ++ [(Qg c l).getLastD [] ++ [x]]
 | [] => by simp only [List.nil_append, Qg]; split <;> rfl
 | y :: r => by
  have ih := Y1 c x r
  have e := Wx c r
  simp only [List.cons_append, Qg]
  rw [ih]
  by_cases hx : x = c
  ·simp only [if_pos hx]
   by_cases hy : y = c
   ·simp [hy]
   ·simp only [if_neg hy]
    rw [e]; rfl
  ·simp only [if_neg hx]
   cases ht : (Qg c r).tail with
   | nil =>
    rw [ht] at e
    by_cases hy : y = c
    ·simp only [if_pos hy]; rw [e]; rfl
    ·simp only [if_neg hy]; rw [e]; rfl
   | cons z t =>
    rw [ht] at e
    by_cases hy : y = c
    ·simp only [if_pos hy]; rw [e]; simp [List.getLastD]
    ·simp only [if_neg hy]; rw [e]; simp [List.getLastD]
end Go.X
namespace Go.Proofs
open Go Go.X Tryz
set_option maxRecDepth 100000
theorem SH (b : UInt8) : FnS prog 223 [.c (byteC b)] [] [] (Is (.c (byteC (lowB b)))) := by
 have hb := b.toNat_lt
 refine FJ 0 func223 ntmps223 (fun G => ?_)
 repeat' first | refine Wk ?_ | refine Qa.mk (fun h => ?_) (fun h => ?_) | refine Qd.mk (fun ad => ?_) | refine Qe.is ?_
 ·rw [byteC, Hh (by assumption) (by assumption)]
 ·rw [U7 (by omega)]
 ·rw [U7 (by omega)]
theorem Hg {a b : UInt8} : ((lowB a).toNat : Int) = (lowB b).toNat ↔ lowB a = lowB b :=
 ⟨fun h => UInt8.toNat_inj.1 (by omega), fun h => by rw [h]⟩
theorem zj {f : UInt8 → UInt8} {a : List UInt8} {i : Nat} (h : i < a.length) : (a.take (i + 1)).map f = (a.take i).map f ++ [f (a.getD i 0)] := by
 rw [List.take_succ_eq_append_getElem h, List.map_append]; simp [h]
theorem wI (a b : List UInt8) (ha : a.length ≤ 1000000) : FnS prog 177 [.c (.s a), .c (.s b)] [] [] (Is (.c (.b (decide (a.map lowB = b.map lowB))))) := by
 refine FJ 0 func177 ntmps177 (fun G => ?_)
 repeat' first | refine QF (c := .seq (.seq (.region 3 _ _) _) _) ?_ | refine Wk ?_ | refine Qa.mk (fun h => ?_) (fun h => ?_) | refine Qd.mk (fun ad => ?_) | refine Qe.bool ?_
 rotate_left
 ·refine decide_eq_false fun h => ?_
  have := congrArg List.length h
  simp at this; omega
 refine ⟨?_⟩
 refine Yk ?_
 repeat' first | refine Wk ?_ | refine Qa.mk (fun h => ?_) (fun h => ?_) | refine Qd.mk (fun ad => ?_) | fail
 refine Qn (α := Nat) (fun i => [(0, .c (.s a)), (1, .c (.s b)), (5, .c (.i .i64 i))]) (fun _ => []) (fun _ => []) 0 (fun i => i ≤ a.length ∧ (a.take i).map lowB = (b.take i).map lowB) (fun i => a.length - i)
  (Qq.mk 0 ⟨by omega, rfl⟩ Qh.a (Qb.refl _ _)) (fun i hi => ?_)
 obtain ⟨hi, hal⟩ := hi
 by_cases hlt : i < a.length
 ·have h1 := zj (f := lowB) hlt
  have h2 := zj (f := lowB) (a := b) (i := i) (by omega)
  repeat' first | refine Wk ?_ | refine Qa.mk (fun h => ?_) (fun h => ?_) | refine Qd.mk (fun ad => ?_) | refine Vt tyOK (by kernel_rfl) [0, 1, 2, 3, 4, 5, 6, 7, 8] [] _ _ (by kernel_rfl) (Qb.refl _ _) ?_ | refine Qx.mk [] _ (SH _) QX ?_ | refine Qo.mk (i + 1) (by omega) ⟨by omega, ?_⟩ Qh.a (Qb.refl _ _) | refine Qe.bool ?_
  ·have h5 : lowB (a.getD i 0) = lowB (b.getD i 0) := Hg.1 (by assumption)
   rw [h1, h2, hal, h5]
  ·refine decide_eq_false fun hh => ?_
   have h3 : (a.take (i + 1)).map lowB = (b.take (i + 1)).map lowB := by rw [List.map_take, List.map_take, hh]
   rw [h1, h2, hal] at h3
   have h4 := List.append_cancel_left h3
   simp only [List.cons.injEq, and_true] at h4
   have h5 := Hg.2 h4
   exact absurd h5 (by assumption)
 ·have hil : i = a.length := by omega
  subst hil
  repeat' first | refine Wk ?_ | refine Qa.mk (fun h => ?_) (fun h => ?_) | refine Qd.mk (fun ad => ?_) | refine Qe.bool ?_
  refine decide_eq_true ?_
  rw [List.take_length, List.take_of_length_le (by omega)] at hal
  exact hal
theorem Y3 (n : Int) : FnS prog 80 [.c (.i .i64 n)] [] [] (Is (.c (.s (Q3 n.toNat)))) := by
 have hlo : n < 0 → Q3 n.toNat = [] := fun h => by rw [show n.toNat = 0 by omega]; rfl
 have hhi : 6 ≤ n → Q3 n.toNat = [] := fun h => by
  obtain ⟨k, hk⟩ : ∃ k, n.toNat = k + 6 := ⟨n.toNat - 6, by omega⟩
  rw [hk]; rfl
 have hid : 0 ≤ n → n < 6 → ([C.s [], .s (Q3 1), .s (Q3 2), .s (Q3 3), .s (Q3 4), .s (Q3 5)].drop (n.toNat * 1 + 0)).take 1 = [C.s (Q3 n.toNat)] := fun h0 h1 => by
  rcases (by omega : n = 0 ∨ n = 1 ∨ n = 2 ∨ n = 3 ∨ n = 4 ∨ n = 5) with rfl | rfl | rfl | rfl | rfl | rfl <;> rfl
 refine FJ 0 func80 ntmps80 (fun G => ?_)
 repeat' first | refine Wk ?_ | refine Qa.mk (fun h => ?_) (fun h => ?_) | refine Qd.mk (fun ad => ?_) | refine Qe.str ?_ | refine Qr.a 9 1 _ (.inl ⟨6, QT⟩) ?_ | refine Qi.mk 9 6 [C.s [], .s (Q3 1), .s (Q3 2), .s (Q3 3), .s (Q3 4), .s (Q3 5)] [C.s (Q3 n.toNat)] (.inl ⟨6, QT⟩) (by omega) (by omega) (by omega) (hid (by omega) (by omega)) ?_
 ·exact hlo (by omega)
 ·exact hhi (by omega)
 ·rfl
theorem qe (s t : List UInt8) (i0 : Nat) (hs : s.length ≤ 1000000) (ht1 : 1 ≤ t.length) (ht : t.length ≤ 1000000) (hi0 : i0 ≤ s.length) : FnS prog 122 [.c (.s s), .c (.s t), .c (.i .i64 i0)] [] [] (Is (.c (.i .i64 (J5 s t i0)))) := by
 refine FJ 0 func122 ntmps122 (fun G => ?_)
 refine Yk ?_
 repeat' first | refine QF (c := .seq (.seq (.region 1 _ _) _) _) ?_ | refine Wk ?_ | refine Qa.mk (fun h => ?_) (fun h => ?_) | refine Qd.mk (fun ad => ?_) | fail
 refine ⟨?_⟩
 refine Yk ?_
 repeat' first | refine Wk ?_ | refine Qa.mk (fun h => ?_) (fun h => ?_) | refine Qd.mk (fun ad => ?_) | fail
 refine Qn (α := Nat) (fun i => [(0, .c (.s s)), (1, .c (.s t)), (7, .c (.i .i64 i))]) (fun _ => []) (fun _ => []) 0 (fun i => i ≤ s.length ∧ J5 s t i0 = J5 s t i) (fun i => s.length - i)
  (Qq.mk i0 ⟨by omega, rfl⟩ Qh.a (Qb.refl _ _)) (fun i hi => ?_)
 obtain ⟨hi, hal⟩ := hi
 by_cases hle : i + t.length ≤ s.length
 ·have h1 := TG (s := s) (t := t) (i := i) ht1 hle
  have h2 := GX (s := s) (t := t) (i := i) ht1 hle
  repeat' first | refine Wk ?_ | refine Qa.mk (fun h => ?_) (fun h => ?_) | refine Qd.mk (fun ad => ?_) | refine Qo.mk (i + 1) (by omega) ⟨by omega, ?_⟩ Qh.a (Qb.refl _ _) | refine Qe.int ?_
  ·rw [hal]; exact h1 (by assumption)
  ·rw [hal]; exact h2 (by assumption)
 ·repeat' first | refine Wk ?_ | refine Qa.mk (fun h => ?_) (fun h => ?_) | refine Qd.mk (fun ad => ?_) | refine Qe.int ?_
  rw [hal, TH ht1 hle]
end Go.Proofs
namespace Go.Proofs
open Go Go.X Tryz
set_option maxRecDepth 100000
theorem j2 (s : List UInt8) (hs : s.length ≤ 1000000) : FnS prog 124 [.c (.s s)] [] []
  (Is (.t2 (.c (.i .i64 (QN s))) (.c (.i .i64 (if QN s = 0 then 0 else ((QD 58 s).1.length : Int)))))) := by
 have c1 := qe s [58] 0 hs (by decide) (by decide) (by omega)
 have hr : J5 s [58] 0 = if (QD 58 s).2.2 = true then ((QD 58 s).1.length : Int) else -1 := by
  rw [← jC]
  unfold J5
  rw [List.drop_zero]
  split
  ·rename_i h; rw [h]
  ·omega
 rw [hr] at c1
 have hl := JJ 58 s
 cases hc : (QD 58 s).2.2 with
 | false =>
  have e : QN s = 0 := by simp [QN, hc]
  rw [hc, if_neg (by decide)] at c1
  rw [e]
  refine FJ 0 func124 ntmps124 (fun G => ?_)
  repeat' first | refine Wk ?_ | refine Qa.mk (fun h => ?_) (fun h => ?_) | refine Qd.mk (fun ad => ?_) | refine Qc.is c1 ?_ | refine Qe.is ?_
  all_goals rfl
 | true =>
  have e : QN s = qD (zi (QD 58 s).1) := by rw [He]; simp [QN, hc]
  have ht := zT 58 s
  rw [hc, if_pos rfl] at c1
  rw [e]
  generalize (QD 58 s).1 = p at *
  obtain ⟨q, hq⟩ : ∃ q, zi p = q := ⟨_, rfl⟩
  have hql : q.length ≤ p.length := by
   rw [← hq]; unfold zi; split
   ·simp
   ·exact Nat.le_refl _
  rw [hq]
  refine FJ 0 func124 ntmps124 (fun G => ?_)
  repeat' first | refine Kj (x := .seq (.region 5 _ _) _) (α := Unit) (fun _ => [(0, .c (.s s)), (4, .c (.i .i64 p.length)), (5, .c (.s q))]) (fun _ => []) (fun _ => []) 0 (fun _ => True) ?_ (fun _ _ => ?_) | refine Kj (x := .region 4 _ _) (α := Unit) (fun _ => [(0, .c (.s s)), (4, .c (.i .i64 p.length)), (5, .c (.s p))]) (fun _ => []) (fun _ => []) 0 (fun _ => True) ?_ (fun _ _ => ?_) | refine Wk ?_ | refine Qa.mk (fun h => ?_) (fun h => ?_) | refine Qd.mk (fun ad => ?_) | refine Qc.is c1 ?_ | refine Qe.is ?_ | refine Qq.mk () trivial (Qh.cons rfl (ZB.refl _) (Qh.cons rfl (ZB.refl _) (Qh.cons rfl (ZB.str ?_) Qh.nil))) (Qb.refl _ _) | refine Ji 6 ?_ | refine Kf ?_ | refine Qc.is (Y3 _) ?_ | refine Qc.isB (wI q _ (by omega)) (fun h => ?_) (fun h => ?_)
  ·exact ht
  ·rw [← hq]; unfold zi; (try simp only [Int.toNat_natCast, Int.toNat_zero] at *); simp only [*, decide_true, decide_false, Bool.true_and, Bool.false_and, Bool.and_true, Bool.and_false, Bool.not_true, Bool.not_false, Bool.true_or, Bool.false_or, Bool.or_true, Bool.or_false, not_true, not_false_eq_true, ne_eq, if_true, if_false, Bool.false_eq_true]
  ·rw [← hq]; unfold zi; (try simp only [Int.toNat_natCast, Int.toNat_zero] at *); simp only [*, decide_true, decide_false, Bool.true_and, Bool.false_and, Bool.and_true, Bool.and_false, Bool.not_true, Bool.not_false, Bool.true_or, Bool.false_or, Bool.or_true, Bool.or_false, not_true, not_false_eq_true, ne_eq, if_true, if_false, Bool.false_eq_true]
  ·rw [← hq]; unfold zi; (try simp only [Int.toNat_natCast, Int.toNat_zero] at *); simp only [*, decide_true, decide_false, Bool.true_and, Bool.false_and, Bool.and_true, Bool.and_false, Bool.not_true, Bool.not_false, Bool.true_or, Bool.false_or, Bool.or_true, Bool.or_false, not_true, not_false_eq_true, ne_eq, if_true, if_false, Bool.false_eq_true]
  all_goals
   have hk : ∃ k, qD q = k := ⟨_, rfl⟩
   obtain ⟨k, hk⟩ := hk
   have hk' := hk
   unfold qD at hk
   repeat (first | rw [if_pos (of_decide_eq_true (by assumption))] at hk | rw [if_neg (of_decide_eq_false (by assumption))] at hk)
   subst hk
   rw [hk']
   rfl
theorem Ul (s : List UInt8) (n : Nat) (hs : s.length ≤ 1000000) (hn : n ≤ s.length) : FnS prog 225 [.c (.s s), .c (.i .i64 n)] [] [] (Is (.c (.s (Lib.trimPrefix (s.drop n) [32])))) := by
 rw [← TU]
 refine FJ 0 func225 ntmps225 (fun G => ?_)
 repeat' first | refine Kj (x := .region 1 _ _) (α := Unit) (fun _ => [(0, .c (.s (s.drop n)))]) (fun _ => []) (fun _ => []) 0 (fun _ => True) ?_ (fun _ _ => ?_) | refine Wk ?_ | refine Qa.mk (fun h => ?_) (fun h => ?_) | refine Qd.mk (fun ad => ?_) | refine Qq.mk () trivial (Qh.cons rfl (ZB.refl _) Qh.nil) (Qb.refl _ _) | refine Xq.mk (by simp at *; omega) ?_ | refine Qe.str ?_
 all_goals (unfold UZ; (try simp only [Int.toNat_natCast, Int.toNat_zero] at *); simp only [*, decide_true, decide_false, Bool.true_and, Bool.false_and, Bool.and_true, Bool.and_false, Bool.not_true, Bool.not_false, Bool.true_or, Bool.false_or, Bool.or_true, Bool.or_false, not_true, not_false_eq_true, ne_eq, if_true, if_false, Bool.false_eq_true]; try rfl)
end Go.Proofs
namespace Go.Proofs
open Go Go.X Tryz
set_option maxRecDepth 100000
theorem RA (s : List UInt8) (hs : s.length ≤ 1000000) : FnS prog 224 [.c (.s s)] [] [] (Is (.c (.s (J3 (jk s))))) := by
 have hul : (jk s).length = s.length := by simp [jk]
 have hne : J3 (jk s) = zi (KS (jk s) s.length) := by rw [He, ← hul, w8]; rfl
 rw [hne]
 refine FJ 0 func224 ntmps224 (fun G => ?_)
 refine Yk ?_
 repeat' first | refine QF (c := .seq (.seq (.region 2 _ _) _) _) ?_ | refine Wk ?_ | refine Qa.mk (fun h => ?_) (fun h => ?_) | refine Qd.mk (fun ad => ?_) | fail
 refine ⟨?_⟩
 refine Yk ?_
 repeat' first | refine Wk ?_ | refine Qa.mk (fun h => ?_) (fun h => ?_) | refine Qd.mk (fun ad => ?_) | fail
 refine Qn (α := Nat) (fun i => [(0, .c (.s s)), (3, .c (.s (KS (jk s) i))), (4, .c (.i .i64 i))]) (fun _ => []) (fun _ => []) 0 (fun i => i ≤ s.length) (fun i => s.length - i)
  (Qq.mk 0 (by omega) Qh.a (Qb.refl _ _)) (fun i hi => ?_)
 have hol := kY (s := jk s) (i := i) (by omega)
 by_cases hlt : i < s.length
 ·have hst := jz (s := jk s) (i := i) (by omega)
  have h1 := Wn hlt
  have hu := ED s hlt
  obtain ⟨o, ho⟩ : ∃ o, KS (jk s) i = o := ⟨_, rfl⟩
  obtain ⟨y, hy⟩ : ∃ y, (jk s).getD i 0 = y := ⟨_, rfl⟩
  rw [hy, ho] at hst
  rw [ho] at hol ⊢
  rw [hy] at hu
  repeat' first | refine Kj (x := .region 5 _ _) (α := Unit) (fun _ => [(0, .c (.s s)), (3, .c (.s o)), (4, .c (.i .i64 i)), (5, .c (.s [s.getD i 0]))]) (fun _ => []) (fun _ => []) 0 (fun _ => True) ?_ (fun _ _ => ?_) | refine Kj (x := .seq (.region 6 _ _) _) (α := Unit) (fun _ => [(0, .c (.s s)), (3, .c (.s o)), (4, .c (.i .i64 i)), (5, .c (.s [y]))]) (fun _ => []) (fun _ => []) 0 (fun _ => True) ?_ (fun _ _ => ?_) | refine Wk ?_ | refine Qa.mk (fun h => ?_) (fun h => ?_) | refine Qd.mk (fun ad => ?_) | refine Qq.mk () trivial (Qh.cons rfl (ZB.refl _) (Qh.cons rfl (ZB.refl _) (Qh.cons rfl (ZB.refl _) (Qh.cons rfl (ZB.str ?_) Qh.nil)))) (Qb.refl _ _) | refine Qo.mk (i + 1) (by omega) (by omega) (Qh.cons rfl (ZB.refl _) (Qh.cons rfl (ZB.str ?_) (Qh.cons rfl (ZB.int (by omega)) Qh.nil))) (Qb.refl _ _) | refine Xq.mk (by have := Kr ‹¬ o = []›; omega) ?_
  ·exact h1
  ·have h2 : s.getD i 0 = 95 := (List.cons.inj (show [s.getD i 0] = [95] by assumption)).1
   rw [hu, if_pos h2]
  ·have h2 : ¬ s.getD i 0 = 95 := fun hh => absurd (show [s.getD i 0] = [95] by rw [hh]) (by assumption)
   rw [hu, if_neg h2]
  ·have h2 : y = 32 := (List.cons.inj (show [y] = [32] by assumption)).1
   have h3 : o = [] := by assumption
   rw [hst, h2, h3, vE]
  ·have h2 : y = 32 := (List.cons.inj (show [y] = [32] by assumption)).1
   rw [hst, h2, jY (by assumption)]
  ·have h2 : y = 32 := (List.cons.inj (show [y] = [32] by assumption)).1
   rw [hst, h2, jX (by assumption) (by assumption)]
  ·have h2 : ¬ y = 32 := fun hh => absurd (show [y] = [32] by rw [hh]) (by assumption)
   rw [hst, jW h2]
 ·have hil : i = s.length := by omega
  subst hil
  obtain ⟨o, ho⟩ : ∃ o, KS (jk s) s.length = o := ⟨_, rfl⟩
  rw [ho] at hol ⊢
  repeat' first | refine Wk ?_ | refine Qa.mk (fun h => ?_) (fun h => ?_) | refine Qd.mk (fun ad => ?_) | refine Qe.str ?_
  all_goals (unfold zi; (try simp only [Int.toNat_natCast, Int.toNat_zero] at *); simp only [*, decide_true, decide_false, Bool.true_and, Bool.false_and, Bool.and_true, Bool.and_false, Bool.not_true, Bool.not_false, Bool.true_or, Bool.false_or, Bool.or_true, Bool.or_false, not_true, not_false_eq_true, ne_eq, if_true, if_false, Bool.false_eq_true]; try rfl)
theorem RY {α : Type} {A : List α} (h : A ≠ []) (x : α) : A.set ((A.length : Int) - 1).toNat x = A.dropLast ++ [x] := by
 rcases List.eq_nil_or_concat A with rfl | ⟨q, y, rfl⟩
 ·exact absurd rfl h
 ·have e : (((q.concat y).length : Int) - 1).toNat = q.length := by simp
  rw [e]
  simp [List.concat_eq_append]
theorem Pc {x : UInt8} {n : Nat} (hn : n < 256) (h : (x.toNat : Int) = (n : Int)) : x = UInt8.ofNat n := by
 apply UInt8.toNat_inj.1
 have e : (UInt8.ofNat n).toNat = n % 256 := by simp
 rw [e, Nat.mod_eq_of_lt hn]; omega
theorem HR {x : UInt8} {n : Nat} (hn : n < 256) (h : ¬ (x.toNat : Int) = (n : Int)) : ¬ x = UInt8.ofNat n := fun hx => by
 have e : (UInt8.ofNat n).toNat = n % 256 := by simp
 rw [hx, e, Nat.mod_eq_of_lt hn] at h
 exact h rfl
theorem Sl (s : List UInt8) (hs : s.length ≤ 1000000) : FnS prog 123 [.c (.s s)] [] []
    (fun v L D => ∃ a c, v = .c (.sl a (Qg 47 s).length c) ∧ L = [.row 9 1 a (Qg 47 s).length c ((Qg 47 s).map C.s)] ∧ D = []) := by
  refine FJ 0 func123 ntmps123 (fun G => ?_)
  refine Yk ?_
  repeat' first | refine QF (c := .seq (.seq (.region 2 _ _) _) _) ?_ | refine Wk ?_ | refine Qa.mk (fun h => ?_) (fun h => ?_) | refine Qd.mk (fun ad => ?_) | fail
  refine ⟨?_⟩
  refine Yk ?_
  repeat' first | refine Wk ?_ | refine Qa.mk (fun h => ?_) (fun h => ?_) | refine Qd.mk (fun ad => ?_) | fail
  refine Qn (α := Nat × Option Addr × Nat) (fun x => [(0, .c (.s s)), (3, .c (.sl x.2.1 (Qg 47 (s.take x.1)).length x.2.2)), (4, .c (.i .i64 x.1))])
    (fun x => [.row 9 1 x.2.1 (Qg 47 (s.take x.1)).length x.2.2 ((Qg 47 (s.take x.1)).map C.s)]) (fun _ => []) 0 (fun x => x.1 ≤ s.length) (fun x => s.length - x.1)
    (Qq.mk (0, some ⟨ad, 0, none⟩, 1) (by simp) Qh.a (Qb.refl _ _)) (fun x hi => ?_)
  obtain ⟨i, a, c⟩ := x
  dsimp only at hi ⊢
  have hsl := Q5 47 (s.take i)
  have hsn := zz 47 (s.take i)
  have hml := ZI 47 (s.take i)
  have htl : (s.take i).length = i := by simp; omega
  by_cases hlt : i < s.length
  · have hgi : s[i] = s.getD i 0 := by simp [hlt]
    have hst : Qg 47 (s.take (i + 1)) = if s.getD i 0 = 47 then Qg 47 (s.take i) ++ [[]] else (Qg 47 (s.take i)).dropLast ++ [(Qg 47 (s.take i)).getLastD [] ++ [s.getD i 0]] := by
      rw [List.take_succ_eq_append_getElem hlt, hgi, Y1]
    have h1 := Wn hlt
    have hl1 : ((s.take (i + 1)).drop i).length = 1 := by rw [h1]; rfl
    generalize Qg 47 (s.take i) = A at *
    have hA := List.length_pos_iff.2 hsn
    have hrd : Qp [.row 9 1 a A.length c (A.map C.s)] [] 9 1 a A.length (A.map C.s) := .inl ⟨c, QT⟩
    have hla : (((A.map C.s).drop (((A.length : Int) - 1).toNat * 1 + 0)).take 1) = [C.s (A.getLastD [])] := by
      have e : ((A.length : Int) - 1).toNat = A.length - 1 := by omega
      rw [e, Zw (by omega)]
      simp only [List.getLastD_eq_getLast?, List.getLast?_eq_getElem?]
      rw [List.getElem?_eq_getElem (by omega)]; rfl
    have hll : (A.getLastD []).length ≤ i := by
      have := hml (A.getLastD []) (by rw [List.getLastD_eq_getLast?, List.getLast?_eq_some_getLast hsn]; exact List.getLast_mem hsn)
      omega
    repeat' first | refine Wk ?_ | refine Qa.mk (fun h => ?_) (fun h => ?_) | refine Qd.mk (fun ad => ?_) | refine Vt tyOK (by kernel_rfl) [0, 1, 2, 3, 4, 5, 6, 7, 10, 11, 12, 13, 14, 8, 9, 15, 16, 17] [8, 9, 16, 17] [] [] (by kernel_rfl) Qb.dropAll ?_ | refine Qt.mk Qb.dropAll ?_ | refine Qr.a 9 1 _ hrd ?_ | refine Qi.mk 9 _ _ _ hrd (by omega) (by omega) (by omega) hla ?_ | refine QK.row [_] [] (A.map C.s) [C.s []] 1 rfl (QJ.sl 9 9 _ _ 1 1 _ rfl rfl (.inl ⟨1, QT⟩) rfl) (by dsimp only; omega) (fun a' c' => ?_) | refine Xq.mk (Nat.le_trans (Nat.add_le_add hll (Nat.le_of_eq hl1)) (by omega)) ?_ | refine Xp.mk [] [] 9 _ _ (A.map C.s) _ rfl (by omega) (by omega) (by simp) (xp (f := C.s) (by omega)) ?_ | refine Qo.mk (i + 1, a', c') (by simp; omega) (by simp; omega) ?_ ?_ | refine Qo.mk (i + 1, a, c) (by simp; omega) (by simp; omega) ?_ ?_
    all_goals
      dsimp only
      first
        | (have h47 : s.getD i 0 = 47 := Pc (n := 47) (by decide) (by assumption)
           rw [hst, if_pos h47])
        | (have h47 : ¬ s.getD i 0 = 47 := HR (n := 47) (by decide) (by assumption)
           rw [hst, if_neg h47])
      first
        | refine Qb.drop.trans (Qb.of (by rw [List.map_append, List.length_append]; rfl))
        | (refine Qb.of ?_
           have hs2 := RY hsn (A.getLastD [] ++ (s.take (i + 1)).drop i)
           rw [h1] at hs2
           rw [← hs2, List.length_set, ← h1]
           rfl)
        | skip
    repeat' first | exact Qh.nil | refine Qh.cons rfl ?_ ?_ | exact ZB.refl _ | refine ZB.int (by omega) | refine ZB.sl rfl (by first | rfl | omega | (rw [List.length_append]; rfl) | (simp; omega)) rfl
    repeat' first | exact Qh.nil | refine Qh.cons rfl ?_ ?_ | exact ZB.refl _ | refine ZB.int (by omega) | refine ZB.sl rfl (by first | rfl | omega | (rw [List.length_append]; rfl) | (simp; omega)) rfl
  · have hil : i = s.length := by omega
    subst hil
    rw [List.take_length]
    repeat' first | refine Wk ?_ | refine Qa.mk (fun h => ?_) (fun h => ?_) | refine Qd.mk (fun ad => ?_) | fail
    exact Qe.mk [_] [] ⟨a, c, rfl, rfl, rfl⟩ (Qb.refl _ _)
end Go.Proofs
namespace Go.Proofs
open Go Go.X Tryz
set_option maxRecDepth 100000
theorem W8 (sp : Int) (s : List UInt8) (hs : s.length ≤ 1000000) : FnS prog 79 [.agg [.i .i64 sp, .s s]] [] [] (Is (.c (.b (Qw sp s)))) := by
  have hcn : (QN s : Int) = 0 ↔ QN s = 0 := by omega
  have hsl := Q5 47 s
  have hml := ZI 47 s
  refine FJ 0 func79 ntmps79 (fun G => ?_)
  repeat' first | refine QF (c := .seq (.seq (.region 4 _ _) _) _) ?_ | refine Wk ?_ | refine Qa.mk (fun h => ?_) (fun h => ?_) | refine Qd.mk (fun ad => ?_) | refine Qe.bool ?_
  rotate_right
  · refine ⟨?_⟩
    refine Yk ?_
    repeat' first | refine Wk ?_ | refine Qa.mk (fun h => ?_) (fun h => ?_) | refine Qd.mk (fun ad => ?_) | fail
    refine Qn (α := Nat) (fun i => [(3, .c (.s s)), (4, .c (.i .i64 i)), (1, .c (.p 0 ad 0))]) (fun _ => [.box 0 ad 45 [.i .i64 sp, .s s]]) (fun _ => []) 1
      (fun i => i ≤ s.length ∧ JK false s = JK (pv s i) (s.drop i)) (fun i => s.length - i) (Qq.mk 0 ⟨by omega, by simp [pv]⟩ Qh.a (Qb.refl _ _)) (fun i hi => ?_)
    obtain ⟨hi, hcl⟩ := hi
    by_cases hlt : i < s.length
    · have hst := yL hlt
      have hb := (s.getD i 0).toNat_lt
      have h1 := Wn hlt
      have c1 : FnS prog 122 [.c (.s [60, 62, 91, 93, 123, 125, 124, 35, 95]), .c (.s ((s.take (i + 1)).drop i)), .c (.i .i64 (0 : Nat))] [] [] (Is (.c (.i .i64 (Lib.indexByte [60, 62, 91, 93, 123, 125, 124, 35, 95] (s.getD i 0))))) := by
        rw [h1, ← V0]
        exact qe _ _ 0 (by decide) (by simp) (by simp) (by decide)
      repeat' first | refine Wk ?_ | refine Qa.mk (fun h => ?_) (fun h => ?_) | refine Qd.mk (fun ad => ?_) | refine Qc.is c1 ?_ | refine Qe.bool ?_ | refine Qo.mk (i + 1) (by omega) ⟨by omega, ?_⟩ Qh.a (Qb.refl _ _)
      all_goals simp only [Int.toNat_natCast] at *
      all_goals first | (show Qw sp s = false; have hc : JK false s = false := by (rw [hcl, hst]; clear hcl hst; (try simp only [Int.toNat_natCast, Int.toNat_zero] at *); simp only [Eo, pv, *, decide_true, decide_false, Bool.true_and, Bool.false_and, Bool.and_true, Bool.and_false, Bool.not_true, Bool.not_false, Bool.true_or, Bool.false_or, Bool.or_true, Bool.or_false, not_true, not_false_eq_true, ne_eq, if_true, if_false, Bool.false_eq_true]; try rfl)
                         simp [Qw, hc]) | skip
      all_goals (rw [hcl, hst]; clear hcl hst; (try simp only [Int.toNat_natCast, Int.toNat_zero] at *); simp only [Eo, pv, *, decide_true, decide_false, Bool.true_and, Bool.false_and, Bool.and_true, Bool.and_false, Bool.not_true, Bool.not_false, Bool.true_or, Bool.false_or, Bool.or_true, Bool.or_false, not_true, not_false_eq_true, ne_eq, if_true, if_false, Bool.false_eq_true]; try rfl)
    · have hil : i = s.length := by omega
      subst hil
      have hcl' : JK false s = true := by rw [hcl]; simp [JK]
      clear hcl
      repeat' first | refine Wk ?_ | refine Qa.mk (fun h => ?_) (fun h => ?_) | refine Qd.mk (fun ad => ?_) | refine Qc.mk [] _ _ _ (Sl s hs) QW (fun _ h => h) (fun v L' D' hp => ?_); obtain ⟨a, c, rfl, rfl, rfl⟩ := hp
      refine Qn (α := Nat) (fun i => [(6, .c (.i .i64 i)), (5, .c (.sl a (Qg 47 s).length c)), (3, .c (.s s)), (1, .c (.p 0 ad 0))])
        (fun _ => [.box 0 ad 45 [.i .i64 sp, .s s]]) (fun _ => [Qf 9 1 a (Qg 47 s).length ((Qg 47 s).map C.s)]) 1
        (fun i => i ≤ (Qg 47 s).length ∧ (Qg 47 s).all Y9 = ((Qg 47 s).drop i).all Y9) (fun i => (Qg 47 s).length - i)
        (Qq.mk 0 ⟨by omega, rfl⟩ Qh.a Qb.toFact) (fun i hi => ?_)
      obtain ⟨hi, hal⟩ := hi
      by_cases hlt : i < (Qg 47 s).length
      · have hrd : Qp [.box 0 ad 45 [.i .i64 sp, .s s]] [Qf 9 1 a (Qg 47 s).length ((Qg 47 s).map C.s)] 9 1 a (Qg 47 s).length ((Qg 47 s).map C.s) :=
          .inr fun m h => h.1
        rw [List.drop_eq_getElem_cons hlt, List.all_cons] at hal
        have hpl := hml _ (List.getElem_mem hlt)
        repeat' first | refine Wk ?_ | refine Qa.mk (fun h => ?_) (fun h => ?_) | refine Qd.mk (fun ad => ?_) | refine Vt tyOK (by kernel_rfl) [0, 1, 2, 3, 4, 5, 6, 7, 8, 9, 10, 11, 12, 13, 14, 15, 16, 17, 18, 19, 20, 21, 22, 23, 24, 25, 26] [] _ _ (by kernel_rfl) (Qb.refl _ _) ?_ | refine Qr.a 9 1 _ hrd ?_ | refine Qi.mk 9 _ _ [C.s (Qg 47 s)[i]] hrd (by omega) (by omega) (by omega) (Zw hlt) ?_ | refine Xq.mk (by have := Kr ‹¬ (Qg 47 s)[i] = []›; omega) ?_ | refine Qe.bool ?_ | refine Qo.mk (i + 1) (by omega) ⟨by omega, ?_⟩ Qh.a (Qb.refl _ _)
        all_goals ((try simp only [Int.toNat_natCast, Int.toNat_zero] at *); simp only [Qw, Y9, *, decide_true, decide_false, Bool.true_and, Bool.false_and, Bool.and_true, Bool.and_false, Bool.not_true, Bool.not_false, Bool.true_or, Bool.false_or, Bool.or_true, Bool.or_false, not_true, not_false_eq_true, ne_eq, if_true, if_false, Bool.false_eq_true]; try rfl)
      · have hil : i = (Qg 47 s).length := by omega
        subst hil
        simp only [List.drop_length, List.all_nil] at hal
        have e : ∀ b : Bool, b = (yo s && (!decide (sp = 0) || !decide (QN s ≠ 0))) → Qw sp s = b := by
          rintro b rfl
          (try simp only [Int.toNat_natCast, Int.toNat_zero] at *); simp only [Qw, *, decide_true, decide_false, Bool.true_and, Bool.false_and, Bool.and_true, Bool.and_false, Bool.not_true, Bool.not_false, Bool.true_or, Bool.false_or, Bool.or_true, Bool.or_false, not_true, not_false_eq_true, ne_eq, if_true, if_false, Bool.false_eq_true]
        clear hal hcl'
        repeat' first | refine Wk ?_ | refine Qa.mk (fun h => ?_) (fun h => ?_) | refine Qd.mk (fun ad => ?_) | refine Qe.bool (e _ ?_) | refine Qc.is (j2 s hs) ?_
        all_goals (clear e; rw [hcn] at *; (try simp only [Int.toNat_natCast, Int.toNat_zero] at *); simp only [yo, *, decide_true, decide_false, Bool.true_and, Bool.false_and, Bool.and_true, Bool.and_false, Bool.not_true, Bool.not_false, Bool.true_or, Bool.false_or, Bool.or_true, Bool.or_false, not_true, not_false_eq_true, ne_eq, if_true, if_false, Bool.false_eq_true]; try rfl)
  all_goals ((try simp only [Int.toNat_natCast, Int.toNat_zero] at *); simp only [Qw, *, decide_true, decide_false, Bool.true_and, Bool.false_and, Bool.and_true, Bool.and_false, Bool.not_true, Bool.not_false, Bool.true_or, Bool.false_or, Bool.or_true, Bool.or_false, not_true, not_false_eq_true, ne_eq, if_true, if_false, Bool.false_eq_true]; try rfl)
end Go.Proofs
namespace Go.X
open Go.Lib
def ND (t : List UInt8) : Prop := ∀ a b, t ≠ a ++ 32 :: 32 :: b
theorem ND.drop {t : List UInt8} (h : ND t) (n : Nat) : ND (t.drop n) := fun a b he => h (t.take n ++ a) b (by
 rw [List.append_assoc, ← he, List.take_append_drop])
theorem ND.take {t : List UInt8} (h : ND t) (n : Nat) : ND (t.take n) := fun a b he => h a (b ++ t.drop n) (by
 have := congrArg (· ++ t.drop n) he
 simpa using this)
theorem ND.trimPrefix {t : List UInt8} (h : ND t) (p : List UInt8) : ND (trimPrefix t p) := by
 unfold Lib.trimPrefix; split
 ·exact h.drop _
 ·exact h
theorem ND.trimSuffix {t : List UInt8} (h : ND t) (p : List UInt8) : ND (trimSuffix t p) := by
 unfold Lib.trimSuffix; split
 ·exact h.take _
 ·exact h
theorem ND.nil : ND [] := fun a b h => by simp at h
theorem ND.tail {x : UInt8} {t : List UInt8} (h : ND (x :: t)) : ND t := h.drop 1
theorem ND.snoc {o : List UInt8} {c : UInt8} (h : ND o) (hc : c = 32 → ∀ a, o ≠ a ++ [32]) : ND (o ++ [c]) := fun a b he => by
 rcases List.eq_nil_or_concat b with rfl | ⟨q, y, rfl⟩
 ·have e : o ++ [c] = (a ++ [32]) ++ [32] := by rw [he]; simp
  obtain ⟨h1, h2⟩ := List.append_inj' e rfl
  simp only [List.cons.injEq, and_true] at h2
  exact hc h2 a h1
 ·have e : o ++ [c] = (a ++ 32 :: 32 :: q) ++ [y] := by rw [he]; simp
  exact h a q (List.append_inj' e rfl).1
theorem ND.step {o : List UInt8} {c : UInt8} (h : ND o) : ND (KN o c) := by
 by_cases hc : c = 32
 ·subst hc
  by_cases h0 : o = []
  ·subst h0; rw [vE]; exact h
  ·by_cases hl : ((o.getD ((o.length : Int) - 1).toNat 0).toNat : Int) = 32
   ·rw [jY hl]; exact h
   ·rw [jX h0 hl]
    refine h.snoc fun _ a he => hl ?_
    subst he
    have e : (((a ++ [32]).length : Int) - 1).toNat = a.length := by simp
    rw [e]
    simp
 ·rw [jW hc]
  exact h.snoc fun hh => absurd hh hc
theorem ND.single (s : List UInt8) : ND (J3 s) := by
 unfold J3
 refine ND.trimSuffix ?_ _
 have : ∀ (l : List UInt8) (o : List UInt8), ND o → ND (l.foldl KN o) := by
  intro l
  induction l with
  | nil => exact fun o h => h
  | cons x r ih => exact fun o h => ih _ h.step
 exact this s [] ND.nil
def WM : Bool → List UInt8 → List UInt8
 | _, [] => []
 | p, x :: r => if x = 32 then (if p = true ∨ r.head? = some 47 then WM false r else 32 :: WM false r) else x :: WM (x = 47) r
def V5 : Bool → List (List UInt8) → List UInt8
 | _, [] => []
 | b, [p] => if b = true then p else trimLeftB p 32
 | b, p :: q :: r => trimRightB (if b = true then p else trimLeftB p 32) 32 ++ 47 :: V5 false (q :: r)
theorem Wv (x : UInt8) (l : List UInt8) (c : UInt8) : trimRightB (x :: l) c = if trimRightB l c = [] ∧ x = c then [] else x :: trimRightB l c := by
 unfold trimRightB
 rw [List.reverse_cons, List.dropWhile_append]
 by_cases h : (l.reverse.dropWhile (· == c)) = []
 ·simp only [h, List.isEmpty_nil, if_true, List.reverse_nil]
  by_cases hx : x = c
  ·subst hx; simp
  ·simp [hx]
 ·have h2 : (l.reverse.dropWhile (· == c)).isEmpty = false := by simpa using h
  simp only [h2, Bool.false_eq_true, if_false]
  rw [if_neg (by simp [h])]
  simp
theorem Ww (x : UInt8) (l : List UInt8) (c : UInt8) : trimLeftB (x :: l) c = if x = c then trimLeftB l c else x :: l := by
 unfold trimLeftB
 simp only [List.dropWhile_cons, beq_iff_eq]
theorem Ts (c : UInt8) (r : List UInt8) : ((Qg c r).headD []).head? = if r.head? = some c then none else r.head? := by
 cases r with
 | nil => rfl
 | cons x r =>
  by_cases h : x = c
  ·subst h; simp [Qg]
  ·simp [Qg, h]
theorem HE : ∀ (t : List UInt8) (b : Bool), ND t → WM (!b) t = V5 b (Qg 47 t)
 | [], b, _ => by cases b <;> rfl
 | x :: r, b, h => by
  have ih := fun b => HE r b h.tail
  have ih1 := ih true
  have ih0 := ih false
  have hh := Ts 47 r
  have e := Wx 47 r
  have h32 : x = 32 → r.head? ≠ some 32 := fun hx hr => by
   cases r with
   | nil => simp at hr
   | cons y q =>
    simp at hr
    subst hx; subst hr
    exact h [] q rfl
  generalize hp : (Qg 47 r).headD [] = p at *
  generalize hq : (Qg 47 r).tail = q at *
  rw [e] at ih1 ih0
  simp only [Bool.not_true, Bool.not_false] at ih1 ih0
  by_cases h47 : x = 47
  ·subst h47
   have e2 : Qg 47 (47 :: r) = [] :: p :: q := by simp only [Qg, if_true]; exact congrArg _ e
   rw [e2]
   simp only [WM, V5, decide_true]
   rw [if_neg (by decide), ih0]
   cases b <;> rfl
  ·have e2 : Qg 47 (x :: r) = (x :: p) :: q := by simp only [Qg, if_neg h47, hp, hq]
   rw [e2]
   by_cases hx : x = 32
   ·subst hx
    have hr := h32 rfl
    have hpl : trimLeftB p 32 = p := by
     cases p with
     | nil => rfl
     | cons y p' =>
      rw [Ww, if_neg]
      rintro rfl
      by_cases hc : r.head? = some 47
      ·rw [if_pos hc] at hh; simp at hh
      ·rw [if_neg hc] at hh; exact hr (by rw [← hh]; rfl)
    have hpr : p ≠ [] → trimRightB p 32 ≠ [] := by
     cases p with
     | nil => exact fun h => absurd rfl h
     | cons y p' =>
      intro _ hc
      rw [Wv] at hc
      split at hc
      ·rename_i hy
       have hy' := hy.2
       subst hy'
       by_cases hc : r.head? = some 47
       ·rw [if_pos hc] at hh; simp at hh
       ·rw [if_neg hc] at hh; exact hr (by rw [← hh]; rfl)
      ·cases hc
    have hpe : p = [] → r.head? = some 47 ∨ r = [] := fun hp0 => by
     rw [hp0] at hh
     by_cases hc : r.head? = some 47
     ·exact .inl hc
     ·rw [if_neg hc] at hh
      right
      cases r with
      | nil => rfl
      | cons y q => simp at hh
    have hpn : p ≠ [] → r.head? ≠ some 47 := fun hp0 hc => by
     rw [if_pos hc] at hh
     cases p with
     | nil => exact hp0 rfl
     | cons y p' => simp at hh
    simp only [WM, if_true]
    cases b with
    | false =>
     rw [if_pos (.inl rfl), ih1]
     cases q with
     | nil => simp only [V5, Bool.false_eq_true, if_false, if_true]; rw [Ww, if_pos rfl, hpl]
     | cons y q' => simp only [V5, Bool.false_eq_true, if_false, if_true]; rw [Ww, if_pos rfl, hpl]
    | true =>
     cases q with
     | nil =>
      have hn : ¬ ((!true) = true ∨ r.head? = some 47) := by
       rintro (hb | hc)
       ·simp at hb
       ·have : r.head? = some 47 := hc
        cases r with
        | nil => simp at this
        | cons y r' =>
         simp at this
         subst this
         simp [Qg] at hq
         exact zz _ _ hq
      rw [if_neg hn, ih1]
      rfl
     | cons y q' =>
      simp only [V5, if_true] at ih1 ⊢
      by_cases hp0 : p = []
      ·subst hp0
       rcases hpe rfl with hc | hc
       ·rw [if_pos (.inr hc), ih1, Wv, if_pos ⟨rfl, rfl⟩]
        rfl
       ·subst hc
        simp [Qg] at hq
      ·have hn : ¬ ((!true) = true ∨ r.head? = some 47) := by
        rintro (hb | hc)
        ·simp at hb
        ·exact hpn hp0 hc
       rw [if_neg hn, ih1, Wv, if_neg (fun hh => hpr hp0 hh.1)]
       rfl
   ·simp only [WM, if_neg hx, decide_eq_false h47]
    rw [ih1]
    cases q with
    | nil =>
     simp only [V5, if_true]
     cases b
     ·simp only [Bool.false_eq_true, if_false]; rw [Ww, if_neg hx]
     ·rfl
    | cons y q' =>
     simp only [V5, if_true]
     cases b
     ·simp only [Bool.false_eq_true, if_false]; rw [Ww, if_neg hx, Wv, if_neg (fun hh => hx hh.2)]; rfl
     ·simp only [if_true]; rw [Wv, if_neg (fun hh => hx hh.2)]; rfl
theorem xJ : ∀ (ps : List (List UInt8)) (k n : Nat), n = k + ps.length → Z3 47 (ps.mapIdx fun i p => Pz n (k + i) p) = V5 (decide (k = 0)) ps
 | [], _, _, _ => rfl
 | [p], k, n, hn => by
  subst hn
  simp only [List.mapIdx_cons, List.mapIdx_nil, Z3, V5, Nat.add_zero, List.length_cons, List.length_nil, Nat.zero_add]
  unfold Pz
  rw [if_neg (by omega)]
  by_cases hk : k = 0
  ·rw [if_neg (by omega), decide_eq_true hk]; rfl
  ·rw [if_pos (by omega), decide_eq_false hk]; rfl
 | p :: q :: r, k, n, hn => by
  have ih := xJ (q :: r) (k + 1) n (by simp at hn ⊢; omega)
  have e : ((p :: q :: r).mapIdx fun i p => Pz n (k + i) p) = Pz n k p :: ((q :: r).mapIdx fun i p => Pz n (k + 1 + i) p) := by
   rw [List.mapIdx_cons]
   simp only [Nat.add_zero, Nat.add_assoc, Nat.add_comm 1]
  have hne : ((q :: r).mapIdx fun i p => Pz n (k + 1 + i) p) ≠ [] := by simp [List.mapIdx_cons]
  rw [e]
  cases hm : (q :: r).mapIdx fun i p => Pz n (k + 1 + i) p with
  | nil => exact absurd hm hne
  | cons y t =>
   rw [hm] at ih
   simp only [Z3, V5]
   rw [ih, decide_eq_false (by omega : ¬ k + 1 = 0)]
   congr 1
   unfold Pz
   simp only [List.length_cons] at hn
   rw [if_pos (by omega)]
   by_cases hk : k = 0
   ·rw [if_neg (by omega), decide_eq_true hk]; rfl
   ·rw [if_pos (by omega), decide_eq_false hk]; rfl
def ps (t : List UInt8) (i : Nat) : Bool := decide (0 < (i : Int)) && decide (((t.getD ((i : Int) - 1).toNat 0).toNat : Int) = 47)
def OJ (t : List UInt8) (i : Nat) : Bool := decide (((t.getD i 0).toNat : Int) = 32) && (ps t i || (decide ((i : Int) + 1 < (t.length : Int)) && decide (((t.getD ((i : Int) + 1).toNat 0).toNat : Int) = 47)))
theorem K3 {x : UInt8} {n : Nat} (hn : n < 256) : (x.toNat : Int) = (n : Int) ↔ x = UInt8.ofNat n := by
 have e : (UInt8.ofNat n).toNat = n % 256 := by simp
 rw [Nat.mod_eq_of_lt hn] at e
 constructor
 ·intro h; exact UInt8.toNat_inj.1 (by rw [e]; omega)
 ·rintro rfl; rw [e]
theorem Of {t : List UInt8} {i : Nat} (h : i < t.length) : WM (ps t i) (t.drop i) = if OJ t i = true then WM (ps t (i + 1)) (t.drop (i + 1)) else t.getD i 0 :: WM (ps t (i + 1)) (t.drop (i + 1)) := by
 have hd : t.drop i = t.getD i 0 :: t.drop (i + 1) := by rw [List.drop_eq_getElem_cons h]; simp [h]
 have hp : ps t (i + 1) = decide (t.getD i 0 = 47) := by
  have h1 : (((i + 1 : Nat) : Int) - 1).toNat = i := by omega
  have h2 : (0 : Int) < ((i + 1 : Nat) : Int) := by omega
  unfold ps
  rw [h1, decide_eq_true h2, Bool.true_and]
  exact decide_eq_decide.2 (K3 (n := 47) (by decide))
 have hn : (t.drop (i + 1)).head? = some 47 ↔ (decide ((i : Int) + 1 < (t.length : Int)) && decide (((t.getD ((i : Int) + 1).toNat 0).toNat : Int) = 47)) = true := by
  have h1 : ((i : Int) + 1).toNat = i + 1 := by omega
  rw [h1, Bool.and_eq_true, decide_eq_true_eq, decide_eq_true_eq, List.head?_drop]
  have h2 : (((t.getD (i + 1) 0).toNat : Int) = 47) ↔ t.getD (i + 1) 0 = 47 := K3 (n := 47) (by decide)
  rw [h2]
  by_cases hl : i + 1 < t.length
  ·have h3 : (i : Int) + 1 < (t.length : Int) := by omega
   simp [hl, h3]
  ·have h3 : ¬ (i : Int) + 1 < (t.length : Int) := by omega
   simp [hl, h3]
 rw [hd, hp]
 simp only [WM]
 unfold OJ
 have h32 : (((t.getD i 0).toNat : Int) = 32) ↔ t.getD i 0 = 32 := K3 (n := 32) (by decide)
 by_cases hx : t.getD i 0 = 32
 ·have h4 : decide (t.getD i 0 = 47) = false := by rw [hx]; decide
  rw [if_pos hx, decide_eq_true (h32.2 hx), Bool.true_and, h4]
  by_cases hc : ps t i = true ∨ (t.drop (i + 1)).head? = some 47
  ·rw [if_pos hc, if_pos]
   rw [Bool.or_eq_true, ← hn]; exact hc
  ·rw [if_neg hc, if_neg, hx]
   rw [Bool.or_eq_true, ← hn]; exact hc
 ·rw [if_neg hx, decide_eq_false (fun hh => hx (h32.1 hh)), Bool.false_and, if_neg (by decide)]
theorem Tw (t : List UInt8) (h : ND t) : KO t = WM false t := by
 have h1 := xJ (Qg 47 t) 0 (Qg 47 t).length (by simp)
 have h2 := HE t true h
 simp only [Nat.zero_add, decide_true] at h1
 rw [← h1] at h2
 exact h2.symm
end Go.X
namespace Go.Proofs
open Go Go.X Tryz
set_option maxRecDepth 100000
theorem xe (sp : Int) (s : List UInt8) (hs : s.length ≤ 1000000) : FnS prog 96 [.agg [.i .i64 sp, .s s]] [] [ZX 1] (Is (.c (.b (Qw sp s)))) := by
  refine FJ 0 func96 ntmps96 (fun G => ?_)
  cases hcl : JK false s
  · repeat' first | refine Wk ?_ | refine Qa.mk (fun h => ?_) (fun h => ?_) | refine Qd.mk (fun ad => ?_) | refine Qc.is (HM s hs) ?_ | rw [hcl] | refine Qe.bool ?_
    all_goals ((try simp only [Int.toNat_natCast, Int.toNat_zero] at *); simp only [Qw, *, decide_true, decide_false, Bool.true_and, Bool.false_and, Bool.and_true, Bool.and_false, Bool.not_true, Bool.not_false, Bool.true_or, Bool.false_or, Bool.or_true, Bool.or_false, not_true, not_false_eq_true, ne_eq, if_true, if_false, Bool.false_eq_true]; try rfl)
  · repeat' first | refine Wk ?_ | refine Qa.mk (fun h => ?_) (fun h => ?_) | refine Qd.mk (fun ad => ?_) | refine Qc.is (HM s hs) ?_ | rw [hcl] | refine Qe.bool ?_ | refine Qc.mk [] _ _ _ (VT s 47 (by omega)) QW (fun _ h => h) (fun v L' D' hp => ?_); obtain ⟨g, rfl, rfl, rfl⟩ := hp
    rotate_right
    · refine Qn (α := Nat) (fun i => [(37, .c (.i .i64 i)), (36, qQ (Qg 47 s).length), (35, .c (.sl (some ⟨g, 0, none⟩) (Qg 47 s).length (Qg 47 s).length)), (3, .c (.s s)), (1, .c (.p 0 ad 0))])
        (fun _ => [.box 0 ad 45 [.i .i64 sp, .s s]]) (fun _ => [Qf 9 1 (some ⟨g, 0, none⟩) (Qg 47 s).length ((Qg 47 s).map C.s), ZX 1]) 1
        (fun i => i ≤ (Qg 47 s).length ∧ (Qg 47 s).all Y9 = ((Qg 47 s).drop i).all Y9) (fun i => (Qg 47 s).length - i)
        (Qq.mk 0 ⟨by omega, rfl⟩ Qh.a Qb.toFact) (fun i hi => ?_)
      obtain ⟨hi, hal⟩ := hi
      have hsl := Q5 47 s
      by_cases hlt : i < (Qg 47 s).length
      · have hrd : Qp [.box 0 ad 45 [.i .i64 sp, .s s]] [Qf 9 1 (some ⟨g, 0, none⟩) (Qg 47 s).length ((Qg 47 s).map C.s), ZX 1] 9 1 (some ⟨g, 0, none⟩) (Qg 47 s).length ((Qg 47 s).map C.s) :=
          .inr fun m h => h.1
        rw [List.drop_eq_getElem_cons hlt, List.all_cons] at hal
        have hpl := ZI 47 s _ (List.getElem_mem hlt)
        repeat' first | refine Wk ?_ | refine Qa.mk (fun h => ?_) (fun h => ?_) | refine Qd.mk (fun ad => ?_) | refine Qr.a 9 1 _ hrd ?_ | refine Qi.mk 9 _ _ [C.s (Qg 47 s)[i]] hrd (by omega) (by omega) (by omega) (Zw hlt) ?_ | refine Xq.mk (by have := Kr ‹¬ (Qg 47 s)[i] = []›; omega) ?_ | refine Qe.bool ?_ | refine Qo.mk (i + 1) (by omega) ⟨by omega, ?_⟩ Qh.a (Qb.refl _ _)
        all_goals ((try simp only [Int.toNat_natCast, Int.toNat_zero] at *); simp only [Qw, Y9, *, decide_true, decide_false, Bool.true_and, Bool.false_and, Bool.and_true, Bool.and_false, Bool.not_true, Bool.not_false, Bool.true_or, Bool.false_or, Bool.or_true, Bool.or_false, not_true, not_false_eq_true, ne_eq, if_true, if_false, Bool.false_eq_true]; try rfl)
      · have hil : i = (Qg 47 s).length := by omega
        subst hil
        simp only [List.drop_length, List.all_nil] at hal
        have e : ∀ b : Bool, b = (yo s && (!decide (sp = 0) || !decide (QN s ≠ 0))) → Qw sp s = b := by
          rintro b rfl
          (try simp only [Int.toNat_natCast, Int.toNat_zero] at *); simp only [Qw, *, decide_true, decide_false, Bool.true_and, Bool.false_and, Bool.and_true, Bool.and_false, Bool.not_true, Bool.not_false, Bool.true_or, Bool.false_or, Bool.or_true, Bool.or_false, not_true, not_false_eq_true, ne_eq, if_true, if_false, Bool.false_eq_true]
        cases hn : decide (QN s ≠ 0) <;>
        (rw [hn] at e
         repeat' first | refine Wk ?_ | refine Qa.mk (fun h => ?_) (fun h => ?_) | refine Qd.mk (fun ad => ?_) | refine Qe.bool (e _ ?_) | refine Qc.is (vO s hs) ?_ | rw [hn]
         all_goals (clear e; (try simp only [Int.toNat_natCast, Int.toNat_zero] at *); simp only [yo, *, decide_true, decide_false, Bool.true_and, Bool.false_and, Bool.and_true, Bool.and_false, Bool.not_true, Bool.not_false, Bool.true_or, Bool.false_or, Bool.or_true, Bool.or_false, not_true, not_false_eq_true, ne_eq, if_true, if_false, Bool.false_eq_true]; try rfl))
    all_goals ((try simp only [Int.toNat_natCast, Int.toNat_zero] at *); simp only [Qw, *, decide_true, decide_false, Bool.true_and, Bool.false_and, Bool.and_true, Bool.and_false, Bool.not_true, Bool.not_false, Bool.true_or, Bool.false_or, Bool.or_true, Bool.or_false, not_true, not_false_eq_true, ne_eq, if_true, if_false, Bool.false_eq_true]; try rfl)
end Go.Proofs
namespace Go.Proofs
open Go Go.X Tryz
set_option maxRecDepth 100000
theorem PB (s : List UInt8) (hs : s.length ≤ 1000000) : FnS prog 272 [.c (.s s)] [] [] (Is (.c (.s (J3 s)))) := by
  refine FJ 0 func272 ntmps272 (fun G => ?_)
  repeat' first | refine Wk ?_ | refine Qa.mk (fun h => ?_) (fun h => ?_) | refine Qd.mk (fun ad => ?_) | refine Qd.mk (fun ad => ?_)
  refine Qn (α := Nat × Option Addr × Nat) (fun x => [(0, .c (.s s)), (3, .c (.sl x.2.1 (KS s x.1).length x.2.2)), (4, .c (.i .i64 x.1))])
    (fun x => [.row 5 1 x.2.1 (KS s x.1).length x.2.2 ((KS s x.1).map byteC)]) (fun _ => []) 0 (fun x => x.1 ≤ s.length) (fun x => s.length - x.1)
    (Qq.mk (0, some ⟨ad, 0, none⟩, s.length) (by simp) Qh.a (Qb.refl _ _)) (fun x hi => ?_)
  obtain ⟨i, a, c⟩ := x
  dsimp only at hi ⊢
  have hol := kY hi
  have hrd : Qp [.row 5 1 a (KS s i).length c ((KS s i).map byteC)] [] 5 1 a (KS s i).length ((KS s i).map byteC) := .inl ⟨c, by simp⟩
  by_cases hlt : i < s.length
  · have hst := jz hlt
    have hb := (s.getD i 0).toNat_lt
    have hstep := GF (KS s i) (s.getD i 0)
    repeat' first | refine Wk ?_ | refine Qa.mk (fun h => ?_) (fun h => ?_) | refine Qd.mk (fun ad => ?_) | refine Qr.a 5 1 _ hrd ?_ | refine Qi.mk 5 _ _ _ hrd (by omega) (by omega) (by omega) (Ot (by omega)) ?_ | refine QK.row [_] [] ((KS s i).map byteC) [byteC (s.getD i 0)] 1 rfl (QJ.sl 5 5 _ _ 1 1 _ rfl rfl (.inl ⟨1, QT⟩) rfl) (by simp; omega) (fun a' c' => ?_) | refine Qo.mk (i + 1, a', c') (by simp; omega) (by simp; omega) ?_ ?_ | refine Qo.mk (i + 1, a, c) (by simp; omega) (by simp; omega) ?_ ?_
    all_goals
      first
        | (have e : KS s (i + 1) = KS s i := by rw [hst]; clear hst; (try simp only [Int.toNat_natCast, Int.toNat_zero] at *); simp only [KN, *, decide_true, decide_false, Bool.true_and, Bool.false_and, Bool.and_true, Bool.and_false, Bool.not_true, Bool.not_false, Bool.true_or, Bool.false_or, Bool.or_true, Bool.or_false, not_true, not_false_eq_true, ne_eq, if_true, if_false, Bool.false_eq_true]; try rfl
           dsimp only; rw [e])
        | (have e : KS s (i + 1) = KS s i ++ [s.getD i 0] := by rw [hst]; clear hst; (try simp only [Int.toNat_natCast, Int.toNat_zero] at *); simp only [KN, *, decide_true, decide_false, Bool.true_and, Bool.false_and, Bool.and_true, Bool.and_false, Bool.not_true, Bool.not_false, Bool.true_or, Bool.false_or, Bool.or_true, Bool.or_false, not_true, not_false_eq_true, ne_eq, if_true, if_false, Bool.false_eq_true]; try rfl
           dsimp only; rw [e])
      first
        | exact Qb.refl _ _
        | refine Qb.drop.trans (Qb.of (by rw [List.map_append, List.length_append]; rfl))
        | skip
      repeat' first | exact Qh.nil | refine Qh.cons rfl ?_ ?_ | exact ZB.refl _ | refine ZB.int (by omega) | refine ZB.sl rfl (by first | rfl | omega | (rw [List.length_append]; rfl) | (simp; omega)) rfl
  · have hil : i = s.length := by omega
    subst hil
    repeat' first | refine Wk ?_ | refine Qa.mk (fun h => ?_) (fun h => ?_) | refine Qd.mk (fun ad => ?_) | refine yR.mk 5 (KS s s.length) hrd ?_ | refine Qc.is (qZ (KS s s.length) [32] (by omega)) ?_ | refine Qe.str ?_
    all_goals rw [w8, J3]
theorem Tv (s : List UInt8) (hs : s.length ≤ 1000000) : FnS prog 276 [.c (.s s)] [] [ZX 1] (Is (.c (.s (KO s)))) := by
 have hsl := Q5 47 s
 have hA : (Zo s).length = (Qg 47 s).length := Jz s
 have hmem := Vx s
 have hle := GG s
 refine FJ 0 func276 ntmps276 (fun G => ?_)
 repeat' first | refine Wk ?_ | refine Qa.mk (fun h => ?_) (fun h => ?_) | refine Qd.mk (fun ad => ?_) | refine Qc.mk [] _ _ _ (VT s 47 (by omega)) QW (fun _ h => h) (fun v L' D' hp => ?_); obtain ⟨g, rfl, rfl, rfl⟩ := hp
 refine Qn (α := Nat) (fun i => [(9, .c (.i .i64 i)), (8, qQ (Qg 47 s).length), (3, .c (.sl (some ⟨g, 0, none⟩) (Qg 47 s).length (Qg 47 s).length))])
  (fun i => [.row 9 1 (some ⟨g, 0, none⟩) (Qg 47 s).length (Qg 47 s).length (((Zo s).take i ++ (Qg 47 s).drop i).map C.s)]) (fun _ => [ZX 1]) 0
  (fun i => i ≤ (Qg 47 s).length) (fun i => (Qg 47 s).length - i) (Qq.mk 0 (by omega) Qh.a (Qb.refl _ _)) (fun i hi => ?_)
 by_cases hlt : i < (Qg 47 s).length
 ·have hmx := L8 (i := i) hA
  have hget := L9 hA hlt
  have hset := L7 hA (i := i) (by omega)
  have hpl := ZI 47 s _ (List.getElem_mem hlt)
  rw [K6 s (by omega) hlt] at hset
  generalize hB : (Zo s).take i ++ (Qg 47 s).drop i = B at *
  have hrd1 : Qp [.row 9 1 (some ⟨g, 0, none⟩) (Qg 47 s).length (Qg 47 s).length (B.map C.s)] [ZX 1] 9 1 (some ⟨g, 0, none⟩) (Qg 47 s).length (B.map C.s) := .inl ⟨_, QT⟩
  have hrd2 : ∀ x, Qp [.row 9 1 (some ⟨g, 0, none⟩) (Qg 47 s).length (Qg 47 s).length ((B.set i x).map C.s)] [ZX 1] 9 1 (some ⟨g, 0, none⟩) (Qg 47 s).length ((B.set i x).map C.s) := fun x => .inl ⟨_, QT⟩
  have hl1 : ((B.map C.s).drop (i * 1 + 0)).take 1 = [C.s (Qg 47 s)[i]] := by rw [Zw (by omega), hget]
  have hl2 : ∀ x, (((B.set i x).map C.s).drop (i * 1 + 0)).take 1 = [C.s x] := fun x => by rw [Zw (by simp; omega), List.getElem_set_self]
  have hself : B.set i (Qg 47 s)[i] = B := by rw [← hget (by omega)]; exact List.set_getElem_self _
  repeat' first | refine Wk ?_ | refine Qa.mk (fun h => ?_) (fun h => ?_) | refine Qd.mk (fun ad => ?_) | refine Qr.a 9 1 _ hrd1 ?_ | refine Qr.a 9 1 _ (hrd2 _) ?_ | refine Qi.mk 9 _ _ [C.s (Qg 47 s)[i]] hrd1 (by omega) (by omega) (by omega) hl1 ?_ | refine Qi.mk 9 _ _ [C.s _] (hrd2 _) (by omega) (by omega) (by omega) (hl2 _) ?_ | refine Qc.is (GC _ 32 (by decide)) ?_ | refine Qc.is (Ux _ 32 (by decide) (by have := xi (Qg 47 s)[i] 32; omega)) ?_ | refine Xp.mk [] [] 9 _ _ (B.map C.s) _ rfl (by omega) (by omega) (by simp) (xp (f := C.s) (by omega)) ?_ | refine Xp.mk [] [] 9 _ _ ((B.set i _).map C.s) _ rfl (by omega) (by omega) (by simp) (xp (f := C.s) (by simp; omega)) ?_ | refine Qo.mk (i + 1) (by omega) (by omega) Qh.a (Qb.of ?_)
  all_goals
   rw [← hset]
   clear hset hl1 hl2 hrd1 hrd2 hget hB
   simp only [Pz, *, if_true, if_false, List.set_set, List.nil_append, Int.toNat_natCast]
 ·have hil : i = (Qg 47 s).length := by omega
  have hall := Na hil hA
  rw [hall]
  have hjl : (Z3 47 (Zo s)).length ≤ 140737488355328 := by
   have h3 : (s.length + 1) * (s.length + 1) ≤ 1000001 * 1000001 := Nat.mul_le_mul (by omega) (by omega)
   unfold KO at hle
   omega
  refine VE (n' := 0) Qb.toFact ?_
  repeat' first | refine Wk ?_ | refine Qa.mk (fun h => ?_) (fun h => ?_) | refine Qd.mk (fun ad => ?_) | refine Qc.is (T5 (some ⟨g, 0, none⟩) _ _ (Zo s) 47 (by omega) (by omega) (by omega) hjl) ?_ | refine Qe.str ?_
  all_goals rfl
end Go.Proofs
namespace Go.Proofs
open Go Go.X Tryz
set_option maxRecDepth 100000
def So (r : Int × List UInt8 × Int) : V := .t2 (.agg [.i .i64 r.1, .s r.2.1]) (.c (.i .i64 r.2.2))
theorem OG {x : UInt8} (h : 97 ≤ (x.toNat : Int)) : [C.i .u8 ((x.toNat : Int) - 32)] = [x - 32].map byteC := by
 have : (x - 32).toNat = x.toNat - 32 := by
  rw [UInt8.toNat_sub_of_le]
  ·rfl
  ·rw [UInt8.le_iff_toNat_le]; simp; omega
 simp only [List.map_cons, List.map_nil, byteC, this]
 congr 2
 omega
theorem G5 (s : List UInt8) (hs : s.length ≤ 1000000) : FnS prog 240 [.c (.s s)] [] [ZX 1] (Is (So (Zd s))) := by
 have hu : (jk s).length = s.length := by simp [jk]
 obtain ⟨t1, ht1⟩ : ∃ t, J3 (jk s) = t := ⟨_, rfl⟩
 have h1 : t1.length ≤ s.length := by have := zC (jk s); rw [ht1] at this; omega
 obtain ⟨t2, ht2⟩ : ∃ t, Jk t1 = t := ⟨_, rfl⟩
 have h2 : t2.length ≤ t1.length := by rw [← ht2]; exact zJ _
 obtain ⟨t3, ht3⟩ : ∃ t, JB t2 = t := ⟨_, rfl⟩
 have h3 : t3.length ≤ t2.length := by rw [← ht3]; exact zI _
 obtain ⟨t4, ht4⟩ : ∃ t, KO t3 = t := ⟨_, rfl⟩
 have h4 : t4.length ≤ t3.length := by rw [← ht4]; exact Wy _
 obtain ⟨t5, ht5⟩ : ∃ t, EE t4 = t := ⟨_, rfl⟩
 have h5 : t5.length = t4.length := by rw [← ht5]; exact Uw _
 have hn : Vz s = t5 := by simp only [Vz, ht1, ht2, ht3, ht4, ht5]
 have hsp : Y2 s = QN t2 := by simp only [Y2, ht1, ht2]
 have c1 : FnS prog 272 [.c (.s (jk s))] [] [] (Is (.c (.s t1))) := by rw [← ht1]; exact PB (jk s) (by omega)
 have c4 : FnS prog 276 [.c (.s t3)] [] [ZX 1] (Is (.c (.s t4))) := by rw [← ht4]; exact Tv t3 (by omega)
 unfold Zd
 rw [hn, hsp]
 refine FJ 0 func240 ntmps240 (fun G => ?_)
 have hpos : ([58] : List UInt8).isPrefixOf t1 = true → 1 ≤ t1.length := by cases t1 <;> simp [List.isPrefixOf]
 repeat' first | refine Kj (x := .seq (.region 2 _ _) _) (α := Unit) (fun _ => [(0, .c (.s t2)), (2, .c (.p 0 ad 0)), (3, .c (.i .i64 0))]) (fun _ => [.box 0 ad 45 [.i .i64 0, .s []]]) (fun _ => [ZX 1]) 1 (fun _ => True) ?_ (fun _ _ => ?_) | refine QF (c := .seq (.seq (.region 5 _ _) _) _) ?_ | refine Wk ?_ | refine Qa.mk (fun h => ?_) (fun h => ?_) | refine Qd.mk (fun ad => ?_) | refine Qc.is (y4 s 95 32 (by decide) (by omega)) ?_ | refine Qc.is c1 ?_ | refine Qc.isB (Gb t1 [58]) (fun hp => ?_) (fun hp => ?_) | refine Xq.mk (by have := hpos hp; omega) ?_ | refine Qc.is (zc _ [32]) ?_ | refine Qq.mk () trivial (Qh.cons rfl (ZB.str ?_) Qh.a) (Qb.refl _ _)
 ·rw [← ht2, Jk, if_pos hp]; rfl
 ·rw [← ht2, Jk, if_neg (by simp [hp])]
 rename_i ad0 _ _
 refine ⟨?_⟩
 refine Kj (x := .seq (.region 5 _ _) _) (α := Unit) (fun _ => [(0, .c (.s t3)), (2, .c (.p 0 ad0 0)), (3, .c (.i .i64 0)), (4, .c (.p 1 ad 0))]) (fun _ => [.box 1 ad 45 [.i .i64 (QN t2), .s []], .box 0 ad0 45 [.i .i64 0, .s []]]) (fun _ => [ZX 1]) 2 (fun _ => True) ?_ (fun _ _ => ?_)
 ·repeat' first | refine Wk ?_ | refine Qa.mk (fun h => ?_) (fun h => ?_) | refine Qd.mk (fun ad => ?_) | refine Qc.isF _ (fun b => .t3 (.c (.i .i64 (QN t2))) (.c (.s (if QN t2 = 0 then [] else qA t2))) (.c (.b b))) (vO t2 (by omega)) (fun hp => ?_) (fun hp => ?_) | refine Qc.is (zc _ [32]) ?_ | refine Qq.mk () trivial (Qh.cons rfl (ZB.str ?_) Qh.a) (Qb.of ?_)
  ·rw [← ht3, JB, if_pos hp, if_neg (by simpa using hp)]
  ·rfl
  ·rw [← ht3, JB, if_neg (by simp [hp])]
  ·have h0 : QN t2 = 0 := by simpa using hp
   rw [h0]; rfl
 repeat' first | refine QF (c := .seq (.seq (.region 12 _ _) _) _) ?_ | refine Kj (x := .seq (.region 9 _ _) _) (α := Unit) (fun _ => [(0, .c (.s t5)), (2, .c (.p 0 ad0 0)), (3, .c (.i .i64 0)), (4, .c (.p 1 ad 0))]) (fun _ => [.box 1 ad 45 [.i .i64 (QN t2), .s []], .box 0 ad0 45 [.i .i64 0, .s []]]) (fun _ => [ZX 1]) 2 (fun _ => True) ?_ (fun _ _ => ?_) | refine Wk ?_ | refine Qa.mk (fun h => ?_) (fun h => ?_) | refine Qd.mk (fun ad => ?_) | refine Qc.is c4 ?_ | refine Xq.mk (by have := Kr ‹¬ t4 = []›; omega) ?_ | refine Qq.mk () trivial (Qh.cons rfl (ZB.str ?_) Qh.a) (Qb.refl _ _) | refine Vt tyOK (by kernel_rfl) [0, 1, 2, 5, 6, 3, 4, 7, 8] [3, 4] [] [] (by kernel_rfl) Qb.z ?_ | refine Qt.mk Qb.z ?_ | refine yR.mk 5 [t4.getD 0 0 - 32] (.inl ⟨1, by rw [← OG (by assumption)]; exact List.Mem.head _⟩) ?_ | refine Qq.mk () trivial (Qh.cons rfl (ZB.str ?_) Qh.a) Qb.drop
 all_goals first
  | (rw [← ht5, EE, if_neg (by (try simp only [Int.toNat_natCast, Int.toNat_zero] at *); simp only [*, decide_true, decide_false, Bool.true_and, Bool.false_and, Bool.and_true, Bool.and_false, Bool.not_true, Bool.not_false, Bool.true_or, Bool.false_or, Bool.or_true, Bool.or_false, not_true, not_false_eq_true, ne_eq, if_true, if_false, Bool.false_eq_true]; try decide)]; done)
  | (rw [← ht5, EE, if_pos (by (try simp only [Int.toNat_natCast, Int.toNat_zero] at *); simp only [*, decide_true, decide_false, Bool.true_and, Bool.false_and, Bool.and_true, Bool.and_false, Bool.not_true, Bool.not_false, Bool.true_or, Bool.false_or, Bool.or_true, Bool.or_false, not_true, not_false_eq_true, ne_eq, if_true, if_false, Bool.false_eq_true]; try decide)]; rfl)
  | skip
 refine ⟨?_⟩
 repeat' first | refine Wk ?_ | refine Qa.mk (fun h => ?_) (fun h => ?_) | refine Qd.mk (fun ad => ?_) | refine Qc.isB (xe (QN t2) t5 (by omega)) (fun hv => ?_) (fun hv => ?_) | refine Qe.is ?_
 all_goals (clear h5 h4; (try simp only [Int.toNat_natCast, Int.toNat_zero] at *); simp only [if_true, if_false, *, decide_true, decide_false, Bool.true_and, Bool.false_and, Bool.and_true, Bool.and_false, Bool.not_true, Bool.not_false, Bool.true_or, Bool.false_or, Bool.or_true, Bool.or_false, not_true, not_false_eq_true, ne_eq, if_true, if_false, Bool.false_eq_true]; rfl)
end Go.Proofs
namespace Go.Proofs
open Go Go.X Tryz
set_option maxRecDepth 100000
theorem SC {t : List UInt8} (h : ND t) : ND (Jk t) := by
 unfold Jk; split
 ·exact (h.drop 1).trimPrefix _
 ·exact h
theorem PY {t : List UInt8} (h : ND t) : ND (qA t) := by
 unfold qA
 by_cases hc : (QD 58 t).2.2 = true
 ·rw [← (Vn 58 t hc).1]; exact h.drop _
 ·have : ∀ s : List UInt8, ¬ (QD 58 s).2.2 = true → (QD 58 s).2.1 = [] := by
   intro s
   induction s with
   | nil => intro _; rfl
   | cons x r ih =>
    intro hn
    simp only [QD] at hn ⊢
    split
    ·rename_i hx; rw [if_pos hx] at hn; simp at hn
    ·rename_i hx; rw [if_neg hx] at hn; exact ih hn
  rw [this t hc]; exact ND.nil
theorem SB {t : List UInt8} (h : ND t) : ND (JB t) := by
 unfold JB; split
 ·exact (PY h).trimPrefix _
 ·exact h
theorem upB_eq (t : List UInt8) : EE t = if (decide (0 < (t.length : Int)) && decide (97 ≤ ((t.getD 0 0).toNat : Int)) && decide (((t.getD 0 0).toNat : Int) ≤ 122)) = true then [t.getD 0 0 - 32] ++ t.drop 1 else t := by
 have : (!decide (t = [])) = decide (0 < (t.length : Int)) := by
  cases t with
  | nil => rfl
  | cons x r => simp
 unfold EE
 rw [this]
theorem VZ (s : List UInt8) (hs : s.length ≤ 1000000) : FnS prog 179 [.c (.s s)] [] [] (Is (So (Zd s))) := by
 have hu : (jk s).length = s.length := by simp [jk]
 have c1 := RA s hs
 have n1 := ND.single (jk s)
 obtain ⟨t1, ht1⟩ : ∃ t, J3 (jk s) = t := ⟨_, rfl⟩
 have h1 : t1.length ≤ s.length := by have := zC (jk s); rw [ht1] at this; omega
 rw [ht1] at c1 n1
 obtain ⟨t2, ht2⟩ : ∃ t, Jk t1 = t := ⟨_, rfl⟩
 have h2 : t2.length ≤ t1.length := by rw [← ht2]; exact zJ _
 have n2 : ND t2 := by rw [← ht2]; exact SC n1
 obtain ⟨t3, ht3⟩ : ∃ t, JB t2 = t := ⟨_, rfl⟩
 have h3 : t3.length ≤ t2.length := by rw [← ht3]; exact zI _
 have n3 : ND t3 := by rw [← ht3]; exact SB n2
 obtain ⟨t4, ht4⟩ : ∃ t, KO t3 = t := ⟨_, rfl⟩
 have h4 : t4.length ≤ t3.length := by rw [← ht4]; exact Wy _
 have e4 : WM false t3 = t4 := by rw [← ht4, Tw t3 n3]
 obtain ⟨t5, ht5⟩ : ∃ t, EE t4 = t := ⟨_, rfl⟩
 have h5 : t5.length = t4.length := by rw [← ht5]; exact Uw _
 have hn : Vz s = t5 := by unfold Vz; simp only [ht1, ht2, ht3, ht4, ht5]
 have hsp : Y2 s = QN t2 := by unfold Y2; simp only [ht1, ht2]
 have hbe : QN t2 ≠ 0 → (t2.drop ((QD 58 t2).1.length + 1)) = qA t2 ∧ (QD 58 t2).1.length < t2.length := fun h => by
  have hc : (QD 58 t2).2.2 = true := by
   cases hx : (QD 58 t2).2.2 with
   | true => rfl
   | false => exfalso; apply h; simp [QN, hx]
  exact Vn 58 t2 hc
 have hpos : ([58] : List UInt8).isPrefixOf t1 = (decide (0 < (t1.length : Int)) && decide (((t1.getD 0 0).toNat : Int) = 58)) := by
  cases t1 with
  | nil => rfl
  | cons x r =>
   have h6 : (((x :: r).getD 0 0).toNat : Int) = 58 ↔ x = 58 := by rw [List.getD_cons_zero]; exact K3 (n := 58) (by decide)
   have h7 : (0 : Int) < ((x :: r).length : Int) := by simp
   rw [decide_eq_true h7, Bool.true_and, Bool.eq_iff_iff, decide_eq_true_eq, h6]
   simp only [List.isPrefixOf, Bool.and_true, beq_iff_eq]
   exact eq_comm
 obtain ⟨k, hk⟩ : ∃ k : Int, (if QN t2 = 0 then (0 : Int) else ((QD 58 t2).1.length : Int)) = k := ⟨_, rfl⟩
 have c3 := j2 t2 (by omega)
 rw [hk] at c3
 have hkr : 0 ≤ k ∧ k ≤ t2.length := by
  have := JJ 58 t2
  rw [← hk]; split <;> omega
 have c5 : 0 < (QN t2 : Int) → FnS prog 225 [.c (.s t2), .c (.i .i64 (k + 1))] [] [] (Is (.c (.s t3))) := fun h => by
  have h0 : QN t2 ≠ 0 := by omega
  rw [if_neg h0] at hk
  have c := Ul t2 ((QD 58 t2).1.length + 1) (by omega) (by have := (hbe h0).2; omega)
  rw [(hbe h0).1] at c
  have e : JB t2 = Lib.trimPrefix (qA t2) [32] := by unfold JB; rw [if_pos (decide_eq_true h0)]
  rw [← e, ht3] at c
  rw [← hk]
  exact c
 unfold Zd
 rw [hn, hsp]
 refine FJ 0 func179 ntmps179 (fun G => ?_)
 repeat' first | refine Kj (x := .seq (.region 2 _ _) _) (α := Unit) (fun _ => [(0, .c (.s t2)), (2, .c (.p 0 ad 0)), (3, .c (.i .i64 0))]) (fun _ => [.box 0 ad 45 [.i .i64 0, .s []]]) (fun _ => []) 1 (fun _ => True) ?_ (fun _ _ => ?_) | refine QF (c := .seq (.region 4 _ _) _) ?_ | refine Wk ?_ | refine Qa.mk (fun h => ?_) (fun h => ?_) | refine Qd.mk (fun ad => ?_) | refine Qc.is c1 ?_ | refine Qc.is (Ul t1 1 (by omega) (by omega)) ?_ | refine Qq.mk () trivial (Qh.cons rfl (ZB.str ?_) Qh.a) (Qb.refl _ _)
 ·rw [← ht2, Jk, hpos]; (try simp only [Int.toNat_natCast, Int.toNat_zero] at *); simp only [*, decide_true, decide_false, Bool.true_and, Bool.false_and, Bool.and_true, Bool.and_false, Bool.not_true, Bool.not_false, Bool.true_or, Bool.false_or, Bool.or_true, Bool.or_false, not_true, not_false_eq_true, ne_eq, if_true, if_false, Bool.false_eq_true]
 ·rw [← ht2, Jk, hpos]; (try simp only [Int.toNat_natCast, Int.toNat_zero] at *); simp only [*, decide_true, decide_false, Bool.true_and, Bool.false_and, Bool.and_true, Bool.and_false, Bool.not_true, Bool.not_false, Bool.true_or, Bool.false_or, Bool.or_true, Bool.or_false, not_true, not_false_eq_true, ne_eq, if_true, if_false, Bool.false_eq_true]
 ·rw [← ht2, Jk, hpos]; (try simp only [Int.toNat_natCast, Int.toNat_zero] at *); simp only [*, decide_true, decide_false, Bool.true_and, Bool.false_and, Bool.and_true, Bool.and_false, Bool.not_true, Bool.not_false, Bool.true_or, Bool.false_or, Bool.or_true, Bool.or_false, not_true, not_false_eq_true, ne_eq, if_true, if_false, Bool.false_eq_true]
 refine ⟨?_⟩
 repeat' first | refine Kj (x := .seq (.region 5 _ _) _) (α := Unit) (fun _ => [(0, .c (.s t3)), (2, .c (.p 0 ad 0)), (3, .c (.i .i64 0)), (4, .c (.i .i64 (QN t2)))]) (fun _ => [.box 0 ad 45 [.i .i64 0, .s []]]) (fun _ => []) 1 (fun _ => True) ?_ (fun _ _ => ?_) | refine QF (c := .seq (.seq (.region 8 _ _) _) _) ?_ | refine Wk ?_ | refine Qa.mk (fun h => ?_) (fun h => ?_) | refine Qd.mk (fun ad => ?_) | refine Qc.is c3 ?_ | refine Qc.is (c5 (by omega)) ?_ | refine Qq.mk () trivial (Qh.cons rfl (ZB.str ?_) Qh.a) (Qb.refl _ _)
 ·rfl
 ·rw [← ht3, JB, if_neg]
  have h0 : ¬ 0 < (QN t2 : Int) := by assumption
  simp; omega
 refine ⟨?_⟩
 refine Yk ?_
 repeat' first | refine Wk ?_ | refine Qa.mk (fun h => ?_) (fun h => ?_) | refine Qd.mk (fun ad => ?_) | fail
 refine Qn (α := Nat × List UInt8) (fun x => [(0, .c (.s t3)), (2, .c (.p 0 ad 0)), (3, .c (.i .i64 0)), (4, .c (.i .i64 (QN t2))), (6, .c (.s x.2)), (7, .c (.i .i64 x.1))]) (fun _ => [.box 0 ad 45 [.i .i64 0, .s []]]) (fun _ => []) 1
  (fun x => x.1 ≤ t3.length ∧ x.2.length ≤ x.1 ∧ t4 = x.2 ++ WM (ps t3 x.1) (t3.drop x.1)) (fun x => t3.length - x.1)
  (Qq.mk (0, []) ⟨by simp, by simp, by rw [← e4]; simp [ps]⟩ Qh.a (Qb.refl _ _)) (fun x hi => ?_)
 obtain ⟨i, o⟩ := x
 obtain ⟨hi, hol, he⟩ := hi
 dsimp only at hi hol he ⊢
 by_cases hlt : i < t3.length
 ·have hst := Of hlt
  have hs1 := Wn hlt
  have hsl : ((t3.take (i + 1)).drop i).length = 1 := by rw [hs1]; rfl
  repeat' first | refine Wk ?_ | refine Qa.mk (fun h => ?_) (fun h => ?_) | refine Qd.mk (fun ad => ?_) | refine Qo.mk (i + 1, o ++ (t3.take (i + 1)).drop i) (by simp; omega) ⟨by simp; omega, by rw [List.length_append, hsl]; simp; omega, ?_⟩ (Qh.cons rfl (ZB.refl _) (Qh.cons rfl (ZB.refl _) (Qh.cons rfl (ZB.refl _) (Qh.cons rfl (ZB.refl _) (Qh.cons rfl (ZB.refl _) (Qh.cons rfl (ZB.int (by omega)) Qh.nil)))))) (Qb.refl _ _) | refine Qo.mk (i + 1, o) (by simp; omega) ⟨by simp; omega, by simp; omega, ?_⟩ (Qh.cons rfl (ZB.refl _) (Qh.cons rfl (ZB.refl _) (Qh.cons rfl (ZB.refl _) (Qh.cons rfl (ZB.refl _) (Qh.cons rfl (ZB.refl _) (Qh.cons rfl (ZB.int (by omega)) Qh.nil)))))) (Qb.refl _ _) | refine Xq.mk (Nat.le_trans (Nat.add_le_add hol (Nat.le_of_eq hsl)) (by omega)) ?_
  all_goals simp only [Int.toNat_natCast] at *
  all_goals
   obtain ⟨b, hsk⟩ : ∃ b, OJ t3 i = b := ⟨_, rfl⟩
   rw [hsk] at hst
   unfold OJ ps at hsk
   have he' := he
   have hst' := hst
   clear he hst e4 ht4 hk
   simp only [*, decide_true, decide_false, Bool.true_and, Bool.false_and, Bool.and_true, Bool.and_false, Bool.true_or, Bool.false_or, Bool.or_true, Bool.or_false] at hsk
   subst hsk
   rw [he', hst']
   simp only [if_true, Bool.false_eq_true, if_false]
   try (rw [hs1, List.append_assoc]; rfl)
 ·have hil : i = t3.length := by omega
  subst hil
  have ho : o = t4 := by rw [he, List.drop_length]; simp [WM]
  subst ho
  repeat' first | refine QF (c := .seq (.seq (.region 13 _ _) _) _) ?_ | refine Wk ?_ | refine Qa.mk (fun h => ?_) (fun h => ?_) | refine Qd.mk (fun ad => ?_) | fail
  refine ⟨?_⟩
  have h0 : o.length ≤ 1000000 := by omega
  refine Kj (x := .seq (.region 13 _ _) _) (α := Unit) (fun _ => [(2, .c (.p 0 ad 0)), (3, .c (.i .i64 0)), (4, .c (.i .i64 (QN t2))), (6, .c (.s t5))]) (fun _ => [.box 0 ad 45 [.i .i64 0, .s []]]) (fun _ => []) 1 (fun _ => True) ?_ (fun _ _ => ?_)
  ·rw [upB_eq] at ht5
   clear hn hsp hbe hpos hk hkr c1 c3 c5 n1 n2 n3 e4 ht1 ht2 ht3 ht4 hu he
   repeat' first | refine Wk ?_ | refine Qa.mk (fun h => ?_) (fun h => ?_) | refine Qd.mk (fun ad => ?_) | refine Vt tyOK (by kernel_rfl) [0, 1, 2, 5, 6, 3, 4, 7, 8] [3, 4] [] [] (by kernel_rfl) Qb.dropAll ?_ | refine Qt.mk Qb.dropAll ?_ | refine yR.mk 5 [o.getD 0 0 - 32] (.inl ⟨1, by rw [← OG (by assumption)]; exact List.Mem.head _⟩) ?_ | refine Qq.mk () trivial (Qh.cons rfl (ZB.refl _) (Qh.cons rfl (ZB.refl _) (Qh.cons rfl (ZB.refl _) (Qh.cons rfl (ZB.str ?_) Qh.nil)))) (Qb.refl _ _) | refine Qq.mk () trivial (Qh.cons rfl (ZB.refl _) (Qh.cons rfl (ZB.refl _) (Qh.cons rfl (ZB.refl _) (Qh.cons rfl (ZB.str ?_) Qh.nil)))) Qb.drop
   all_goals
    try simp only [Int.toNat_natCast, Int.toNat_zero] at *
    rw [← ht5]
    clear ht5 h5 hol hi hlt h1 h2 h3 h4
    simp only [*, decide_true, decide_false, Bool.true_and, Bool.false_and, Bool.and_true, Bool.and_false, if_true, if_false, Bool.false_eq_true]
    try rfl
  ·clear hn hsp hbe hpos hk hkr c1 c3 c5 n1 n2 n3 e4 ht1 ht2 ht3 ht4 hu ht5 he
   repeat' first | refine Wk ?_ | refine Qa.mk (fun h => ?_) (fun h => ?_) | refine Qd.mk (fun ad => ?_) | refine Qc.isB (W8 (QN t2) t5 (by omega)) (fun hv => ?_) (fun hv => ?_) | refine Qe.is ?_
   all_goals (clear h5 h4; (try simp only [Int.toNat_natCast, Int.toNat_zero] at *); simp only [if_true, if_false, *, decide_true, decide_false, Bool.true_and, Bool.false_and, Bool.and_true, Bool.and_false, Bool.not_true, Bool.not_false, Bool.true_or, Bool.false_or, Bool.or_true, Bool.or_false, not_true, not_false_eq_true, ne_eq, if_true, if_false, Bool.false_eq_true]; rfl)
end Go.Proofs
namespace Go.Proofs
open Go Go.X Tryz
set_option maxRecDepth 100000
theorem Tu {sp : Int} (h0 : 0 ≤ sp) (h1 : sp < 6) : ([C.s [], .s (Q3 1), .s (Q3 2), .s (Q3 3), .s (Q3 4), .s (Q3 5)].drop (sp.toNat * 1)).take 1 = [C.s (Q3 sp.toNat)] := by
 rcases (by omega : sp = 0 ∨ sp = 1 ∨ sp = 2 ∨ sp = 3 ∨ sp = 4 ∨ sp = 5) with rfl | rfl | rfl | rfl | rfl | rfl <;> rfl
theorem Rd (sp : Int) (s : List UInt8) (hs : s.length ≤ 1000000) : FnS prog 214 [.agg [.i .i64 sp, .s s]] [] [ZX 1] (Is (.c (.s (JC sp s)))) := by
 have hb := @XZ sp s
 have hn := qE sp.toNat
 refine FJ 0 func214 ntmps214 (fun G => ?_)
 repeat' first | refine Wk ?_ | refine Qa.mk (fun h => ?_) (fun h => ?_) | refine Qd.mk (fun ad => ?_) | refine Qc.isB (xe sp s hs) (fun hv => ?_) (fun hv => ?_) | refine Qe.str ?_ | refine Vt tyOK (by kernel_rfl) [0, 1, 2, 3, 4, 5, 6, 7, 8] [] _ _ (by kernel_rfl) (Qb.refl _ _) ?_ | refine Qx.mk [] _ vF QX ?_ | refine kR.mk [C.s (Q3 sp.toNat)] (by have := hb hv; omega) (by have := hb hv; omega) (Tu (by have := hb hv; omega) (by have := hb hv; omega)) rfl ?_ | refine Xq.mk (by have := hb hv; simp; omega) ?_
 all_goals
  unfold JC
  repeat (first | rw [if_pos (by assumption)] | rw [if_neg (by assumption)] | rw [if_neg (by simp [*])])
  try rfl
theorem Ss (a : Option Addr) (c : Nat) (x y : Int) : FnS prog 110 [.c (.sl a 2 c)] [.row 3 1 a 2 c [.i .i64 x, .i .i64 y]] [] (Is (.c (.i .i64 (if x ≠ 0 then x else y)))) := by
 have hrd : Qp [.row 3 1 a 2 c [.i .i64 x, .i .i64 y]] [] 3 1 a 2 [.i .i64 x, .i .i64 y] := .inl ⟨c, QT⟩
 refine FJ 0 func110 ntmps110 (fun G => ?_)
 repeat' first | refine Wk ?_ | refine Qa.mk (fun h => ?_) (fun h => ?_) | refine Qd.mk (fun ad => ?_) | refine Ji 3 ?_ | refine Kf ?_ | refine Qr.a 3 1 _ hrd ?_ | refine Qi.mk 3 _ _ _ hrd (by omega) (by omega) (by omega) rfl ?_ | refine Qe.int ?_
 all_goals simp [*]
theorem compare_ok (a : Int) (x : List UInt8) (b : Int) (y : List UInt8) : FnS prog 68 [.agg [.i .i64 a, .s x], .agg [.i .i64 b, .s y]] [] [] (Is (.c (.i .i64 (QH a x b y)))) := by
 refine FJ 0 func68 ntmps68 (fun G => ?_)
 repeat' first | refine Wk ?_ | refine Qa.mk (fun h => ?_) (fun h => ?_) | refine Qd.mk (fun ad => ?_) | refine Vt tyOK (by kernel_rfl) [0, 1, 2, 3, 4, 5, 6, 7, 8, 9, 10, 11, 12] [10, 11] _ _ (by kernel_rfl) (Qb.refl _ _) ?_ | refine Qx.mk [] _ (Yv a b) QX ?_ | refine Qx.mk [] _ (Xh x y) QX ?_ | refine Qc.mk [_] _ [] _ (Ss _ _ _ _) QW (fun _ h => h) (fun v L' D' hp => ?_); obtain ⟨rfl, rfl, rfl⟩ := hp | refine Qt.mk (Qb.refl _ _) ?_ | refine Qt.mk Qb.drop ?_ | refine Qe.int ?_
 rfl
end Go.Proofs
namespace Go.Proofs
open Go Go.X Tryz
set_option maxRecDepth 100000
end Go.Proofs
namespace Go.Proofs
open Go Go.X Tryz
set_option maxRecDepth 100000
theorem UM (sp : Int) (s : List UInt8) (hs : s.length ≤ 1000000) : FnS prog 41 [.agg [.i .i64 sp, .s s]] [] [] (Is (.c (.s (JC sp s)))) := by
 have hb := @XZ sp s
 have hn := qE sp.toNat
 refine FJ 0 func41 ntmps41 (fun G => ?_)
 repeat' first | refine Wk ?_ | refine Qa.mk (fun h => ?_) (fun h => ?_) | refine Qd.mk (fun ad => ?_) | refine Qc.isB (W8 sp s hs) (fun hv => ?_) (fun hv => ?_) | refine Qe.str ?_ | refine Vt tyOK (by kernel_rfl) [0, 1, 2, 3, 4, 5, 6, 7] [] _ _ (by kernel_rfl) (Qb.refl _ _) ?_ | refine Qx.mk [] _ (Y3 _) QX ?_ | refine Xq.mk (by have := hb hv; simp; omega) ?_
 all_goals
  unfold JC
  repeat (first | rw [if_pos (by assumption)] | rw [if_neg (by assumption)] | rw [if_neg (by simp [*])])
  try rfl
end Go.Proofs
namespace Go.X
theorem jd {c : UInt8} (h : (c.toNat : Int) = 9 ∨ (c.toNat : Int) = 32) : Qk c = true := by
 have : c = 9 ∨ c = 32 := by
  rcases h with h | h
  ·left; apply UInt8.toNat_inj.1; have : (9 : UInt8).toNat = 9 := rfl; omega
  ·right; apply UInt8.toNat_inj.1; have : (32 : UInt8).toNat = 32 := rfl; omega
 rcases this with rfl | rfl <;> decide
theorem we {c : UInt8} (h : ¬ (c.toNat : Int) = 9) (h2 : ¬ (c.toNat : Int) = 32) : Qk c = false := by
 cases hb : Qk c with
 | false => rfl
 | true =>
  unfold Qk at hb
  simp only [Bool.or_eq_true, beq_iff_eq] at hb
  rcases hb with rfl | rfl
  ·exact absurd rfl h2
  ·exact absurd rfl h
theorem zM {x : Bs} (h : 0 < x.length) : x = x.take (x.length - 1) ++ [x.getD (x.length - 1) 0] := by
 conv => lhs; rw [← List.take_append_drop (x.length - 1) x]
 congr 1
 rw [List.drop_eq_getElem_cons (by omega), show x.length - 1 + 1 = x.length by omega, List.drop_length]
 simp [show x.length - 1 < x.length by omega]
theorem yB (r : Bs) (b : UInt8) : Zu (r ++ [b]) = if Qk b = true then Zu r else r ++ [b] := by
 unfold Zu
 rw [List.reverse_append, List.reverse_singleton, List.singleton_append, List.dropWhile_cons]
 split
 ·rfl
 ·simp
theorem Rj {x : Bs} (h : 0 < x.length) (hb : Qk (x.getD (x.length - 1) 0) = true) : Zu x = Zu (x.take (x.length - 1)) := by
 conv => lhs; rw [zM h, yB, if_pos hb]
theorem Eb {x : Bs} (h : 0 < x.length) (hb : Qk (x.getD (x.length - 1) 0) = false) : Zu x = x := by
 conv => lhs; rw [zM h, yB, if_neg (by rw [hb]; simp), ← zM h]
theorem zO {x : Bs} (h : 0 < x.length) : x = x.getD 0 0 :: x.drop 1 := by cases x with
 | nil => simp at h
 | cons a r => rfl
theorem Ui {p : UInt8 → Bool} {x : Bs} (h : 0 < x.length) (hb : p (x.getD 0 0) = true) : x.dropWhile p = (x.drop 1).dropWhile p := by
 conv => lhs; rw [zO h, List.dropWhile_cons, if_pos hb]
theorem HD {p : UInt8 → Bool} {x : Bs} (h : 0 < x.length) (hb : p (x.getD 0 0) = false) : x.dropWhile p = x := by
 conv => lhs; rw [zO h, List.dropWhile_cons, if_neg (by rw [hb]; simp), ← zO h]
theorem nb_T {c : UInt8} (h : ¬ (c.toNat : Int) = 9) (h2 : ¬ (c.toNat : Int) = 32) : nb c = true := by unfold nb; rw [we h h2]; rfl
theorem nb_F {c : UInt8} (h : (c.toNat : Int) = 9 ∨ (c.toNat : Int) = 32) : nb c = false := by unfold nb; rw [jd h]; rfl
theorem vv {cur r : Bs} {b : UInt8} (h : Qk b = true) : QB Qk cur (b :: r) = if cur = [] then QB Qk [] r else cur :: QB Qk [] r := by rw [QB, h]
theorem RI {cur r : Bs} {b : UInt8} (h : Qk b = false) : QB Qk cur (b :: r) = QB Qk (cur ++ [b]) r := by rw [QB, h]
def UG (n : Int) : Bs := if n = 0 then [60, 77, 97, 105, 110, 62] else [60] ++ Q3 n.toNat ++ [62]
theorem Tt : ∀ i, i < 6 → UG (i : Nat) = ZN.getD i [] := by decide
def JE (s : Bs) : (Int × Int × Bs) × Bool :=
 if s = Ez then ((1, 0, []), true) else if 0 ≤ Xc ZN s then ((2, Xc ZN s, []), true) else ((3, (Zd s).1, (Zd s).2.1), decide ((Zd s).2.2 = 0))
theorem R1 (s : Bs) : Yn s = if (JE s).2 = true then some (JE s).1 else none := by
 unfold Yn JE
 split
 ·rfl
 ·split
  ·rfl
  ·simp
def qj (s : Bs) : (Int × Bs) × Bs × Bool :=
 let c := QD 124 s
 if c.2.2 = true then (if Qy c.2.1 = [] then ((0, []), [], false) else (((Zd (Qy c.1)).1, (Zd (Qy c.1)).2.1), Qy c.2.1, decide ((Zd (Qy c.1)).2.2 = 0)))
 else (((Zd (Qy s)).1, (Zd (Qy s)).2.1), [], decide ((Zd (Qy s)).2.2 = 0))
theorem HI (c : UInt8) : ∀ s : Bs, (QD c s).2.2 = false → (QD c s).1 = s ∧ (QD c s).2.1 = []
 | [], _ => ⟨rfl, rfl⟩
 | x :: r, h => by
  have ih := HI c r
  simp only [QD] at h ⊢
  split at h
  ·cases h
  ·rename_i hx
   rw [if_neg hx]
   have := ih h
   exact ⟨by simp [this.1], this.2⟩
theorem S0 {q : P3} {st : Bool} {w : List Bs} {x : Bs} (hw : ¬ w.length < 2) : qg q st w x = if (qj x).2.2 = true then (true, (q.1, q.2.1, q.2.2 ++ [⟨st, w.getD 0 [], (qj x).1.1, (qj x).1.2, (qj x).2.1⟩])) else (false, q) := by
 unfold qg qj
 rw [if_neg hw]
 simp only
 cases h : (QD 124 x).2.2 with
 | true =>
  simp only [if_true, true_and]
  by_cases ht : Qy (QD 124 x).2.1 = []
  ·simp [ht]
  ·by_cases hp : (Zd (Qy (QD 124 x).1)).2.2 = 0
   ·simp [ht, hp]
   ·simp [ht, hp]
 | false =>
  obtain ⟨h1, h2⟩ := HI 124 x h
  rw [h1, h2]
  by_cases hp : (Zd (Qy x)).2.2 = 0
  ·simp [hp, Pq]
  ·simp [hp]
end Go.X
namespace Go.Proofs
open Go Go.X Tryz
set_option maxRecDepth 100000
set_option maxHeartbeats 4000000
theorem Tm (s : Bs) (hs : s.length ≤ 9223372036854775807) : FnS prog 226 [.c (.s s)] [] [] (Is (.c (.s (Zu s)))) := by
 refine FJ 0 func226 ntmps226 (fun G => ?_)
 repeat' first | refine Wk ?_ | refine Qa.mk (fun h => ?_) (fun h => ?_) | refine Qd.mk (fun ad => ?_)
 refine Qn (α := Bs) (fun x => [(0, .c (.s x))]) (fun _ => []) (fun _ => []) 0 (fun x => x.length ≤ s.length ∧ Zu s = Zu x) (fun x => x.length) (Qq.mk s ⟨Nat.le_refl _, rfl⟩ Qh.a (Qb.refl _ _)) (fun x hx => ?_)
 obtain ⟨hl, he⟩ := hx
 have hk : ((x.length : Int) - 1).toNat = x.length - 1 := by omega
 repeat' first | refine Wk ?_ | refine Qa.mk (fun h => ?_) (fun h => ?_) | refine Qd.mk (fun ad => ?_) | refine Qo.mk (x.take ((x.length : Int) - 1).toNat) (by rw [List.length_take]; omega) ⟨by rw [List.length_take]; omega, ?_⟩ Qh.a (Qb.refl _ _) | refine Qe.str ?_
 all_goals
  (try simp only [hk] at *)
  first
   | (rw [he]; exact Rj (by omega) (jd (by omega)))
   | (rw [he]; exact Eb (by omega) (we (by omega) (by omega)))
   | (rw [he, show x = [] from List.eq_nil_of_length_eq_zero (by omega)]; rfl)
theorem WE (s : Bs) (hs : s.length ≤ 9223372036854775807) : FnS prog 180 [.c (.s s)] [] [] (Is (.c (.s (Qy s)))) := by
 refine FJ 0 func180 ntmps180 (fun G => ?_)
 repeat' first | refine Wk ?_ | refine Qa.mk (fun h => ?_) (fun h => ?_) | refine Qd.mk (fun ad => ?_)
 refine Qn (α := Bs) (fun x => [(0, .c (.s x))]) (fun _ => []) (fun _ => []) 0 (fun x => x.length ≤ s.length ∧ XE s = XE x) (fun x => x.length) (Qq.mk s ⟨Nat.le_refl _, rfl⟩ Qh.a (Qb.refl _ _)) (fun x hx => ?_)
 obtain ⟨hl, he⟩ := hx
 have c1 := Tm x (by omega)
 repeat' first | refine Wk ?_ | refine Qa.mk (fun h => ?_) (fun h => ?_) | refine Qd.mk (fun ad => ?_) | refine Qc.is c1 ?_ | refine Qo.mk (x.drop 1) (by rw [List.length_drop]; omega) ⟨by rw [List.length_drop]; omega, ?_⟩ Qh.a (Qb.refl _ _) | refine Qe.str ?_
 all_goals
  (try simp only [Int.toNat_zero] at *)
  first
   | (rw [he]; exact Ui (by omega) (jd (by omega)))
   | (rw [Jt, zS, he, show XE x = x from HD (by omega) (we (by omega) (by omega))])
   | (rw [Jt, zS, he, show x = [] from List.eq_nil_of_length_eq_zero (by omega)]; rfl)
theorem Xi (s : Bs) (hs : s.length ≤ 1000000) : FnS prog 125 [.c (.s s)] [] [] (fun v L D => ∃ a c, v = .c (.sl a (QA Qk s).length c) ∧ L = [.row 9 1 a (QA Qk s).length c ((QA Qk s).map C.s)] ∧ D = []) := by
 refine FJ 0 func125 ntmps125 (fun G => ?_)
 repeat' first | refine Wk ?_ | refine Qa.mk (fun h => ?_) (fun h => ?_) | refine Qd.mk (fun ad => ?_)
 refine Qn (α := Nat × Bs × List Bs × Option Addr × Nat) (fun x => [(0, .c (.s s)), (3, .c (.sl x.2.2.2.1 x.2.2.1.length x.2.2.2.2)), (4, .c (.s x.2.1)), (5, .c (.i .i64 x.1))]) (fun x => [.row 9 1 x.2.2.2.1 x.2.2.1.length x.2.2.2.2 (x.2.2.1.map C.s)]) (fun _ => []) 0
  (fun x => x.1 ≤ s.length ∧ x.2.1.length ≤ x.1 ∧ x.2.2.1.length ≤ x.1 ∧ QA Qk s = x.2.2.1 ++ QB Qk x.2.1 (s.drop x.1)) (fun x => s.length - x.1) (Qq.mk (0, [], [], none, 0) ⟨Nat.zero_le _, Nat.le_refl _, Nat.le_refl _, rfl⟩ Qh.a Qb.nilRow) (fun x hx => ?_)
 obtain ⟨i, w, ws, a, c⟩ := x
 dsimp only at hx ⊢
 obtain ⟨hi, hw, hws, he⟩ := hx
 by_cases hlt : i < s.length
 ·have h1 := Wn hlt
  have hd : s.drop i = s.getD i 0 :: s.drop (i + 1) := by rw [List.drop_eq_getElem_cons hlt]; simp [hlt]
  have hl1 : ((s.take (i + 1)).drop i).length = 1 := by rw [h1]; rfl
  rw [hd] at he
  repeat' first | refine Wk ?_ | refine Qa.mk (fun h => ?_) (fun h => ?_) | refine Qd.mk (fun ad => ?_) | refine QK.row [_] [] (ws.map C.s) [C.s w] 1 rfl (QJ.sl 9 9 _ _ 1 1 _ rfl rfl (.inl ⟨1, QT⟩) rfl) (by dsimp only; omega) (fun a' c' => ?_) | refine Xq.mk (Nat.le_trans (Nat.add_le_add hw (Nat.le_of_eq hl1)) (by omega)) ?_ | refine Qo.mk (i + 1, [], ws ++ [w], a', c') (by dsimp only; omega) ⟨by dsimp only; omega, by simp, by simp; omega, ?_⟩ (Qh.cons rfl (ZB.refl _) (Qh.cons rfl (ZB.sl rfl (by simp) rfl) (Qh.cons rfl (ZB.refl _) (Qh.cons rfl (ZB.int (by omega)) Qh.nil)))) (Qb.drop.trans (Qb.of ?_)) | refine Qo.mk (i + 1, [], ws, a, c) (by dsimp only; omega) ⟨by dsimp only; omega, by simp, by dsimp only; omega, ?_⟩ (Qh.cons rfl (ZB.refl _) (Qh.cons rfl (ZB.refl _) (Qh.cons rfl (ZB.refl _) (Qh.cons rfl (ZB.int (by omega)) Qh.nil)))) (Qb.refl _ _) | refine Qo.mk (i + 1, w ++ (s.take (i + 1)).drop i, ws, a, c) (by dsimp only; omega) ⟨by dsimp only; omega, by rw [List.length_append, hl1]; dsimp only; omega, by dsimp only; omega, ?_⟩ (Qh.cons rfl (ZB.refl _) (Qh.cons rfl (ZB.refl _) (Qh.cons rfl (ZB.refl _) (Qh.cons rfl (ZB.int (by omega)) Qh.nil)))) (Qb.refl _ _)
  all_goals try simp only [Int.toNat_natCast] at *
  all_goals first
   | solve | (repeat' first | exact Qh.nil | refine Qh.cons rfl ?_ ?_ | exact ZB.refl _ | refine ZB.int (by omega) | refine ZB.sl rfl (by first | rfl | omega | (rw [List.length_append]; rfl) | (simp; omega)) rfl)
   | (rw [he, vv (jd (by omega)), if_neg (by assumption), List.append_assoc]; rfl)
   | (rw [he, vv (jd (by omega)), if_pos (by assumption)]; done)
   | (rw [he, RI (we (by omega) (by omega)), h1]; done)
   | (simp; done)
 ·have hil : i = s.length := by omega
  subst hil
  rw [List.drop_length, QB] at he
  rw [he]
  by_cases hwn : w = []
  ·rw [if_pos hwn, List.append_nil]
   repeat' first | refine Wk ?_ | refine Qa.mk (fun h => ?_) (fun h => ?_) | refine Qd.mk (fun ad => ?_) | exact Qe.mk [_] [] ⟨a, c, rfl, rfl, rfl⟩ (Qb.refl _ _)
  ·rw [if_neg hwn]
   repeat' first | refine Wk ?_ | refine Qa.mk (fun h => ?_) (fun h => ?_) | refine Qd.mk (fun ad => ?_) | refine QK.row [_] [] (ws.map C.s) [C.s w] 1 rfl (QJ.sl 9 9 _ _ 1 1 _ rfl rfl (.inl ⟨1, QT⟩) rfl) (by dsimp only; omega) (fun a' c' => ?_) | refine Qe.mk [_] [] ⟨a', c', ?_, rfl, rfl⟩ (Qb.drop.trans (Qb.of ?_))
   all_goals first | (rw [List.length_append]; rfl) | (rw [List.map_append, List.length_append]; rfl)
theorem wS (s : Bs) (n : Nat) (hs : s.length ≤ 1000000) (hn : n ≤ 1000) : FnS prog 128 [.c (.s s), .c (.i .i64 n)] [] [] (Is (.c (.s (Q8 s n)))) := by
 refine FJ 0 func128 ntmps128 (fun G => ?_)
 repeat' first | refine Wk ?_ | refine Qa.mk (fun h => ?_) (fun h => ?_) | refine Qd.mk (fun ad => ?_)
 refine Qn (α := Nat × Bs) (fun x => [(0, .c (.s x.2)), (1, .c (.i .i64 n)), (5, .c (.i .i64 x.1))]) (fun _ => []) (fun _ => []) 0 (fun x => x.1 ≤ n ∧ x.2.length ≤ s.length ∧ Q8 s n = Q8 x.2 (n - x.1)) (fun x => n - x.1) (Qq.mk (0, s) ⟨Nat.zero_le _, Nat.le_refl _, rfl⟩ Qh.a (Qb.refl _ _)) (fun x hx => ?_)
 obtain ⟨i, x⟩ := x
 dsimp only at hx ⊢
 obtain ⟨hi, hl, he⟩ := hx
 have c1 := WE x (by omega)
 have htl := KL x
 by_cases hlt : i < n
 ·rw [show n - i = (n - (i + 1)) + 1 by omega, Q8] at he
  generalize Qy x = t at *
  repeat' first | refine Wk ?_ | refine Qa.mk (fun h => ?_) (fun h => ?_) | refine Qd.mk (fun ad => ?_) | refine Qc.is c1 ?_
  refine Qn (α := Bs) (fun y => [(0, .c (.s y)), (1, .c (.i .i64 n)), (5, .c (.i .i64 i))]) (fun _ => []) (fun _ => []) 0 (fun y => y.length ≤ t.length ∧ t.dropWhile nb = y.dropWhile nb) (fun y => y.length) (Qq.mk t ⟨Nat.le_refl _, rfl⟩ Qh.a (Qb.refl _ _)) (fun y hy => ?_)
  obtain ⟨hyl, hye⟩ := hy
  rw [hye] at he
  repeat' first | refine Wk ?_ | refine Qa.mk (fun h => ?_) (fun h => ?_) | refine Qd.mk (fun ad => ?_) | refine Qo.mk (y.drop 1) (by rw [List.length_drop]; omega) ⟨by rw [List.length_drop]; omega, ?_⟩ Qh.a (Qb.refl _ _) | refine Qo.mk (i + 1, y) (by dsimp only; omega) ⟨by dsimp only; omega, by dsimp only; omega, ?_⟩ Qh.a (Qb.refl _ _)
  all_goals
   (try simp only [Int.toNat_zero] at *)
   first
    | (rw [hye]; exact Ui (by omega) (nb_T (by omega) (by omega)))
    | (rw [he, HD (p := nb) (x := y) (by omega) (nb_F (by omega))])
    | (rw [he, show y = [] from List.eq_nil_of_length_eq_zero (by omega)]; rfl)
 ·rw [show n - i = 0 by omega, Q8] at he
  repeat' first | refine Wk ?_ | refine Qa.mk (fun h => ?_) (fun h => ?_) | refine Qd.mk (fun ad => ?_) | refine Qc.is c1 ?_ | refine Qe.str ?_
  exact he
theorem TE (s : Bs) : FnS prog 126 [.c (.s s)] [] [] (Is (.c (.i .i64 (Xc QU s + 1)))) := by
 refine FJ 0 func126 ntmps126 (fun G => ?_)
 repeat' first | refine Wk ?_ | refine Qa.mk (fun h => ?_) (fun h => ?_) | refine Qd.mk (fun ad => ?_)
 refine Qn (α := Nat) (fun i => [(0, .c (.s s)), (3, .c (.sl (some ⟨ad, 0, none⟩) 6 6)), (4, .c (.i .i64 i))]) (fun _ => [.row 9 1 (some ⟨ad, 0, none⟩) 6 6 (([] :: QU).map C.s)]) (fun _ => []) 1
  (fun i => 1 ≤ i ∧ i ≤ 6 ∧ Xc QU s = if Xc (([] :: QU).drop i) s < 0 then -1 else Xc (([] :: QU).drop i) s + (i - 1)) (fun i => 6 - i) (Qq.mk 1 ⟨by omega, by omega, ?_⟩ Qh.a (Qb.refl _ _)) (fun i hi => ?_)
 ·have := Wg QU s
  show Xc QU s = if Xc QU s < 0 then -1 else Xc QU s + ((1 : Nat) - 1)
  split <;> omega
 obtain ⟨h1, hi, he⟩ := hi
 by_cases hlt : i < 6
 ·have hlen : i < (([] :: QU) : List Bs).length := hlt
  have hcm := Zw (f := C.s) hlen
  rw [List.drop_eq_getElem_cons hlen, Xc] at he
  generalize (([] :: QU) : List Bs)[i] = y at *
  have hrd : Qp [.row 9 1 (some ⟨ad, 0, none⟩) 6 6 (([] :: QU).map C.s)] [] 9 1 (some ⟨ad, 0, none⟩) 6 (([] :: QU).map C.s) := .inl ⟨6, QT⟩
  have := Wg (([] :: QU).drop (i + 1)) s
  repeat' first | refine Wk ?_ | refine Qa.mk (fun h => ?_) (fun h => ?_) | refine Qd.mk (fun ad => ?_) | refine Qr.a 9 1 _ hrd ?_ | refine Qi.mk 9 _ _ _ hrd (by omega) (by omega) (by omega) hcm ?_ | refine Qe.int ?_ | refine Qo.mk (i + 1) (by omega) ⟨by omega, by omega, ?_⟩ Qh.a (Qb.refl _ _)
  ·rw [if_pos (Eq.symm (by assumption))] at he; rw [he, if_neg (by omega)]; omega
  ·have hys : ¬ s = y := fun hh => absurd hh.symm (by assumption)
   rw [if_neg hys] at he; rw [he]
   by_cases h2 : Xc (([] :: QU).drop (i + 1)) s < 0
   ·rw [if_pos h2, if_pos h2, if_pos (by omega)]
   ·rw [if_neg h2, if_neg h2, if_neg (by omega)]; omega
 ·have hil : i = 6 := by omega
  subst hil
  rw [show (([] :: QU) : List Bs).drop 6 = [] from rfl, Xc, if_pos (by omega)] at he
  repeat' first | refine Wk ?_ | refine Qa.mk (fun h => ?_) (fun h => ?_) | refine Qd.mk (fun ad => ?_) | refine Qe.int ?_
  rw [he]; rfl
theorem UF (n : Int) : FnS prog 178 [.c (.i .i64 n)] [] [] (Is (.c (.s (UG n)))) := by
 have c1 := Y3 n
 have hl := qE n.toNat
 unfold UG
 generalize Q3 n.toNat = w at *
 refine FJ 0 func178 ntmps178 (fun G => ?_)
 repeat' first | refine Wk ?_ | refine Qa.mk (fun h => ?_) (fun h => ?_) | refine Qd.mk (fun ad => ?_) | refine Qc.is c1 ?_ | refine Qe.str ?_
 ·rw [if_pos (by assumption)]
 ·rw [if_neg (by assumption)]
theorem UN (s : Bs) (hs : s.length ≤ 1000000) : FnS prog 127 [.c (.s s)] [] [] (Is (.t2 (.agg [.i .i64 (JE s).1.1, .i .i64 (JE s).1.2.1, .s (JE s).1.2.2]) (.c (.b (JE s).2)))) := by
 have c2 := VZ s hs
 unfold JE
 generalize Zd s = t at *
 obtain ⟨sp, tn, er⟩ := t
 by_cases hw : s = Ez
 ·rw [if_pos hw]
  refine FJ 0 func127 ntmps127 (fun G => ?_)
  have hw' : s = [60, 97, 108, 108, 62] := hw
  repeat' first | refine Qa.yes hw' ?_ | refine Wk ?_ | refine Qa.mk (fun h => ?_) (fun h => ?_) | refine Qd.mk (fun ad => ?_) | refine Qe.is rfl
 ·rw [if_neg hw]
  have hw' : ¬ s = [60, 97, 108, 108, 62] := hw
  refine FJ 0 func127 ntmps127 (fun G => ?_)
  repeat' first | refine Qa.no hw' ?_ | refine Wk ?_ | refine Qa.mk (fun h => ?_) (fun h => ?_) | refine Qd.mk (fun ad => ?_)
  refine Qn (α := Nat) (fun i => [(0, .c (.s s)), (2, .c (.p 0 ad 0)), (4, .c (.i .i64 i))]) (fun _ => [.box 0 ad 166 [.i .i64 0, .i .i64 0, .s []]]) (fun _ => []) 1
   (fun i => i ≤ 6 ∧ Xc ZN s = if Xc (ZN.drop i) s < 0 then -1 else Xc (ZN.drop i) s + i) (fun i => 6 - i) (Qq.mk 0 ⟨by omega, ?_⟩ Qh.a (Qb.refl _ _)) (fun i hi => ?_)
  ·have := Wg ZN s
   rw [List.drop_zero]; split <;> omega
  obtain ⟨hi, he⟩ := hi
  by_cases hlt : i < 6
  ·have hlen : i < ZN.length := hlt
   have c1 := UF (i : Int)
   have hg : UG (i : Int) = ZN[i] := by rw [Tt i hlt]; simp [hlen]
   rw [hg] at c1
   rw [List.drop_eq_getElem_cons hlen, Xc] at he
   generalize ZN[i] = y at *
   have := Wg (ZN.drop (i + 1)) s
   repeat' first | refine Wk ?_ | refine Qa.mk (fun h => ?_) (fun h => ?_) | refine Qd.mk (fun ad => ?_) | refine Qc.is c1 ?_ | refine Qe.is ?_ | refine Qo.mk (i + 1) (by omega) ⟨by omega, ?_⟩ Qh.a (Qb.refl _ _)
   ·rw [if_pos ‹s = y›, if_neg (by omega)] at he; rw [he, if_pos (by omega)]; simp; exact ⟨rfl, rfl⟩
   ·rw [if_neg ‹¬ s = y›] at he; rw [he]
    by_cases h2 : Xc (ZN.drop (i + 1)) s < 0
    ·rw [if_pos h2, if_pos h2, if_pos (by omega)]
    ·rw [if_neg h2, if_neg h2, if_neg (by omega)]; omega
  ·have hil : i = 6 := by omega
   subst hil
   rw [show ZN.drop 6 = [] from rfl, Xc, if_pos (by omega)] at he
   rw [if_neg (by omega)]
   repeat' first | refine Wk ?_ | refine Qa.mk (fun h => ?_) (fun h => ?_) | refine Qd.mk (fun ad => ?_) | refine Qc.is c2 ?_ | refine Qe.is ?_
   ·have h' : er = 0 := h
    simp only [h', decide_true]; rfl
   ·have h' : ¬ er = 0 := h
    simp only [h', decide_false]; rfl
theorem UO (s : Bs) (hs : s.length ≤ 1000000) : FnS prog 129 [.c (.s s)] [] [] (Is (.t3 (.agg [.i .i64 (qj s).1.1, .s (qj s).1.2]) (.c (.s (qj s).2.1)) (.c (.b (qj s).2.2)))) := by
 have c0 := qe s [124] 0 hs (by decide) (by decide) (by omega)
 rw [V0, ← zN, jC] at c0
 have ht := zT 124 s
 have hd := Vn 124 s
 have hl1 := JJ 124 s
 have hl2 := WO 124 s
 unfold qj
 generalize QD 124 s = c at *
 obtain ⟨x, y, b⟩ := c
 dsimp only at *
 cases b with
 | true =>
  obtain ⟨hd, hlt⟩ := hd rfl
  rw [if_pos rfl] at c0 ⊢
  have c1 : FnS prog 180 [.c (.s (s.drop (x.length + 1)))] [] [] (Is (.c (.s (Qy y)))) := by rw [hd]; exact WE y (by omega)
  have c2 : FnS prog 180 [.c (.s (s.take x.length))] [] [] (Is (.c (.s (Qy x)))) := by rw [ht]; exact WE x (by omega)
  have c3 := VZ (Qy x) (by have := KL x; omega)
  generalize Zd (Qy x) = t at *
  generalize Qy x = tx at *
  generalize Qy y = ty at *
  obtain ⟨sp, tn, er⟩ := t
  refine FJ 0 func129 ntmps129 (fun G => ?_)
  repeat' first | refine Wk ?_ | refine Qa.mk (fun h => ?_) (fun h => ?_) | refine Qd.mk (fun ad => ?_) | refine Qc.is c0 ?_ | refine Qc.is c1 ?_ | refine Qc.is c2 ?_ | refine Qc.is c3 ?_ | refine Qe.is ?_
  ·have h' : ty = [] := h
   simp only [h', if_true]; rfl
  ·have h' : ¬ ty = [] := by assumption
   have h2 : er = 0 := by assumption
   simp only [h', h2, if_false, decide_true]; try rfl
  ·have h' : ¬ ty = [] := by assumption
   have h2 : ¬ er = 0 := by assumption
   simp only [h', h2, if_false, decide_false]; try rfl
 | false =>
  rw [if_neg (by simp)] at c0 ⊢
  have c2 := WE s (by omega)
  have c3 := VZ (Qy s) (by have := KL s; omega)
  generalize Zd (Qy s) = t at *
  generalize Qy s = tx at *
  obtain ⟨sp, tn, er⟩ := t
  refine FJ 0 func129 ntmps129 (fun G => ?_)
  repeat' first | refine Wk ?_ | refine Qa.mk (fun h => ?_) (fun h => ?_) | refine Qd.mk (fun ad => ?_) | refine Qc.is c0 ?_ | refine Qc.is c2 ?_ | refine Qc.is c3 ?_ | refine Qe.is ?_
  ·have h2 : er = 0 := by assumption
   simp only [h2, decide_true]; try rfl
  ·have h2 : ¬ er = 0 := by assumption
   simp only [h2, decide_false]; try rfl
theorem SI (s : Bs) (hs : s.length ≤ 1000000) : FnS prog 81 [.c (.s s)] [] [] (fun v L D => ∃ a c, v = .c (.sl a (Qg 10 s).length c) ∧ L = [.row 9 1 a (Qg 10 s).length c ((Qg 10 s).map C.s)] ∧ D = []) := by
 refine FJ 0 func81 ntmps81 (fun G => ?_)
 repeat' first | refine Wk ?_ | refine Qa.mk (fun h => ?_) (fun h => ?_) | refine Qd.mk (fun ad => ?_)
 refine Qn (α := Nat × Nat × List Bs × Option Addr × Nat) (fun x => [(0, .c (.s s)), (3, .c (.sl x.2.2.2.1 x.2.2.1.length x.2.2.2.2)), (4, .c (.i .i64 x.2.1)), (5, .c (.i .i64 x.1))]) (fun x => [.row 9 1 x.2.2.2.1 x.2.2.1.length x.2.2.2.2 (x.2.2.1.map C.s)]) (fun _ => []) 1
  (fun x => x.1 ≤ s.length ∧ x.2.1 ≤ x.1 ∧ x.2.2.1.length ≤ x.1 ∧ Qg 10 (s.take x.1) = x.2.2.1 ++ [Go.X.part s x.2.1 x.1]) (fun x => s.length - x.1) (Qq.mk (0, 0, [], some ⟨ad, 0, none⟩, 0) ⟨Nat.zero_le _, Nat.le_refl _, Nat.le_refl _, rfl⟩ Qh.a (Qb.refl _ _)) (fun x hx => ?_)
 obtain ⟨i, j, ls, a, c⟩ := x
 dsimp only at hx ⊢
 obtain ⟨hi, hj, hls, he⟩ := hx
 by_cases hlt : i < s.length
 ·have hgi : s[i] = s.getD i 0 := by simp [hlt]
  have hst : Qg 10 (s.take (i + 1)) = if s.getD i 0 = 10 then ls ++ [Go.X.part s j i] ++ [[]] else ls ++ [Go.X.part s j (i + 1)] := by
   have hp : Go.X.part s j (i + 1) = Go.X.part s j i ++ [s.getD i 0] := by
    rw [G4 (i := j) (j := i) (k := i + 1) hj (by omega) (by omega), show Go.X.part s i (i + 1) = [s.getD i 0] from Wn hlt]
   rw [List.take_succ_eq_append_getElem hlt, hgi, Y1, he, hp]
   split
   ·rfl
   ·simp
  repeat' first | refine Wk ?_ | refine Qa.mk (fun h => ?_) (fun h => ?_) | refine Qd.mk (fun ad => ?_) | refine QK.row [_] [] (ls.map C.s) [C.s (Go.X.part s j i)] 1 rfl (QJ.sl 9 9 _ _ 1 1 _ rfl rfl (.inl ⟨1, QT⟩) rfl) (by dsimp only; omega) (fun a' c' => ?_) | refine Qo.mk (i + 1, i + 1, ls ++ [Go.X.part s j i], a', c') (by dsimp only; omega) ⟨by dsimp only; omega, by dsimp only; omega, by simp; omega, ?_⟩ ?_ (Qb.drop.trans (Qb.of ?_)) | refine Qo.mk (i + 1, j, ls, a, c) (by dsimp only; omega) ⟨by dsimp only; omega, by dsimp only; omega, by dsimp only; omega, ?_⟩ ?_ (Qb.refl _ _)
  all_goals try simp only [Int.toNat_natCast] at *
  all_goals first
   | solve | (repeat' first | exact Qh.nil | refine Qh.cons rfl ?_ ?_ | exact ZB.refl _ | refine ZB.int (by omega) | refine ZB.sl rfl (by first | rfl | omega | (rw [List.length_append]; rfl) | (simp; omega)) rfl)
   | (simp; done)
   | (rw [hst, if_pos (show s.getD i 0 = 10 from Pc (n := 10) (by decide) (by assumption)), Sn]; done)
   | (rw [hst, if_neg (show ¬ s.getD i 0 = 10 from HR (n := 10) (by decide) (by assumption))]; done)
   | skip
 ·have hil : i = s.length := by omega
  subst hil
  rw [List.take_length] at he
  rw [he]
  have hp : Go.X.part s j s.length = s.drop j := by unfold Go.X.part; rw [List.take_length]
  rw [hp]
  repeat' first | refine Wk ?_ | refine Qa.mk (fun h => ?_) (fun h => ?_) | refine Qd.mk (fun ad => ?_) | refine QK.row [_] [] (ls.map C.s) [C.s (s.drop j)] 1 rfl (QJ.sl 9 9 _ _ 1 1 _ rfl rfl (.inl ⟨1, QT⟩) rfl) (by dsimp only; omega) (fun a' c' => ?_) | refine Qe.mk [_] [] ⟨a', c', ?_, rfl, rfl⟩ (Qb.drop.trans (Qb.of ?_))
  all_goals first | (rw [List.length_append]; rfl) | (rw [List.map_append, List.length_append]; rfl)
end Go.Proofs
namespace Go.Proofs
open Go Go.X Tryz
set_option maxRecDepth 100000
theorem vy (sp : Int) (s : List UInt8) (hs : s.length ≤ 9223372036854775807) : FnS prog 96 [.agg [.i .i64 sp, .s s]] [] [ZX 1] (Is (.c (.b (Qw sp s)))) := by
 by_cases h : s.length ≤ 1000000
 ·exact xe sp s h
 ·have hv : Qw sp s = false := by
   unfold Qw
   rw [show decide (100 < (s.length : Int)) = true from decide_eq_true (by omega)]
   simp
  rw [hv]
  refine FJ 2000 func96 ntmps96 (fun G => ?_)
  repeat' first | refine Wk ?_ | refine Qa.mk (fun h => ?_) (fun h => ?_) | refine Qd.mk (fun ad => ?_) | refine Qe.bool ?_
  all_goals rfl
theorem KA (s p : Bs) : (Lib.trimPrefix s p).length ≤ s.length := by
 unfold Lib.trimPrefix; split <;> simp
theorem anyIdx (s : Bs) (a b : UInt8) : decide (0 ≤ Lib.indexAny s [a, b]) = s.any fun c => c == a || c == b := by
 induction s with
 | nil => rfl
 | cons x r ih =>
  rw [Lib.indexAny, List.any_cons, ← ih]
  have hge := Lib.indexAny_ge [a, b] r
  by_cases hx : x = a ∨ x = b
  ·rw [if_pos (by simpa using hx)]
   have : (x == a || x == b) = true := by simpa using hx
   rw [this]; rfl
  ·rw [if_neg (by simpa using hx)]
   have : (x == a || x == b) = false := by simpa using hx
   rw [this, Bool.false_or]
   by_cases h1 : Lib.indexAny r [a, b] = -1
   ·rw [if_pos (by simpa using h1), h1]
   ·rw [if_neg (by simpa using h1), decide_eq_decide]
    omega
theorem vq (p : PolM) (i : Nat) (hi : i < p.gs.length) (hc : p.gs.length ≤ p.gc) (hl : p.gs.length ≤ 9223372036854775807) (hb : ∀ g ∈ p.gs, g.name.length ≤ 9223372036854775807 ∧ g.mem.length ≤ 9223372036854775807 ∧ ∀ m ∈ g.mem, m.length ≤ 9223372036854775807) :
  FnS prog 197 [.agg p.cells, .c (.i .i64 i)] [] p.facts (Is (.c (.i .i64 (Kw (QY p.gs) ((QY p.gs).take i) p.gs[i].name p.gs[i].mem)))) := by
 have hgm : p.gs[i] ∈ p.gs := List.getElem_mem hi
 obtain ⟨hb1, hb2, hb3⟩ := hb _ hgm
 have hcell : ((YR p.gs).drop (i * 2 + 0)).take 2 = p.gs[i].cells := by rw [YR, QL (F := JL.cells) (z := 2) (fun _ => rfl) hi (by omega)]; rfl
 have hpre : (YR p.gs).take (i * 2) = YR (p.gs.take i) := YU (F := JL.cells) (z := 2) (fun _ => rfl) p.gs i (by omega)
 have hany : ∀ x, ((p.gs.take i).any fun g => decide (g.name = x)) = ((QY p.gs).take i).any fun y => decide (y = x) := fun x => by rw [jB, QY, QY, List.map_take]
 have hlen : (p.gs.take i).length = i := by simp; omega
 have hmem : ∀ m, QI m p.facts → Z8 m 0 1 p.gs[i].a p.gs[i].mem.length (p.gs[i].mem.map C.s) := fun m h => h.2.1 _ hgm
 generalize hg : p.gs[i] = g at *
 have cf := fun ad => VD 0 (Z9 p.ga 0 p.gc 2) (p.gc - 0) (p.gs.take i) 243 1 ad 0 [.box 1 ad 163 g.cells] (fun n => decide (n = g.name)) (by omega) (fun y _ => Ox y g ad)
 rw [hlen] at cf
 have hrg : ∀ L, Qp L (Qf 0 1 g.a g.mem.length (g.mem.map C.s) :: p.facts) 0 2 p.ga p.gs.length (YR p.gs) := fun L => .inr fun m h => h.2.1
 have hrm : ∀ L, Qp L (Qf 0 1 g.a g.mem.length (g.mem.map C.s) :: p.facts) 0 1 g.a g.mem.length (g.mem.map C.s) := fun L => .inr fun m h => h.1
 refine FJ 0 func197 ntmps197 (fun G => ?_)
 refine VE (n' := 0) (D' := Qf 0 1 g.a g.mem.length (g.mem.map C.s) :: p.facts) (Qb.facts fun m h => ⟨hmem m h, h⟩) ?_
 repeat' first | refine QF (c := .seq (.seq (.region 8 _ _) _) _) ?_ | refine Wk ?_ | refine Qa.mk (fun h => ?_) (fun h => ?_) | refine Qd.mk (fun ad => ?_) | refine Qr.a 0 2 _ (hrg _) ?_ | refine Qi.mk 0 _ _ _ (hrg _) (by omega) (by omega) (by omega) hcell ?_ | refine Qc.isB (Y8 g.name hb1) (fun hn => ?_) (fun hn => ?_) | refine Qc.isB (zg g.name) (fun hb => ?_) (fun hb => ?_) | refine Qc.mk [_] [_] [Qf 0 2 (Z9 p.ga 0 p.gc 2) i (YR (p.gs.take i))] _ (cf _) QW (fun m h => ⟨hpre ▸ Wz p.gc h.2.1 (by omega), trivial⟩) (fun v L' D' hp => ?_); obtain ⟨rfl, rfl, rfl⟩ := hp; cases hz : (p.gs.take i).any fun y => decide (y.name = g.name) | refine Qe.int ?_
 ·unfold Kw ZY; rw [hn, hb]; simp
 ·unfold Kw ZY; rw [hn, hb, ← hany, hz]; simp [h]
 ·have hE : Kw (QY p.gs) ((QY p.gs).take i) g.name g.mem = WI (QY p.gs) g.mem := by
   unfold Kw ZY; rw [hn, hb, ← hany, hz]; simp [h]
  rw [hE]
  rename_i ad0
  refine ⟨?_⟩
  clear cf hpre hany hcell hrg hmem
  repeat' first | refine Wk ?_ | refine Qa.mk (fun h => ?_) (fun h => ?_) | refine Qd.mk (fun ad => ?_)
  refine Qn (α := Nat) (fun k => [(2, .c (.p 0 ad0 0)), (35, .c (.sl g.a g.mem.length g.c)), (36, .c (.i .i64 g.mem.length)), (37, .c (.i .i64 k))]) (fun _ => [.box 0 ad0 85 p.cells]) (fun _ => Qf 0 1 g.a g.mem.length (g.mem.map C.s) :: p.facts) 2
   (fun k => k ≤ g.mem.length ∧ WI (QY p.gs) g.mem = WI (QY p.gs) (g.mem.drop k)) (fun k => g.mem.length - k) (Qq.mk 0 ⟨by omega, rfl⟩ Qh.a Qb.drop) (fun k hk => ?_)
  obtain ⟨hk, he⟩ := hk
  by_cases hlt : k < g.mem.length
  ·have hcm := Zw (f := C.s) hlt
   rw [List.drop_eq_getElem_cons hlt, WI] at he
   have hml := hb3 _ (List.getElem_mem hlt)
   generalize g.mem[k] = m at *
   have htl : (Lib.trimPrefix m [64]).length ≤ 9223372036854775807 := Nat.le_trans (KA _ _) hml
   have c1 := Gi m [64]
   generalize Lib.trimPrefix m [64] = t at *
   generalize Lib.hasPrefix m [64] = z at *
   repeat' first | refine Wk ?_ | refine Qa.mk (fun h => ?_) (fun h => ?_) | refine Qd.mk (fun ad => ?_) | refine Qr.a 0 1 _ (hrm _) ?_ | refine Qi.mk 0 _ _ _ (hrm _) (by omega) (by omega) (by omega) hcm ?_ | refine Qc.isF z (fun b => .t2 (.c (.s t)) (.c (.b b))) c1 (fun hp => ?_) (fun hp => ?_) | refine Qc.isB (Y8 t htl) (fun hq => ?_) (fun hq => ?_) | refine Qc.isB (We p t hl) (fun hx => ?_) (fun hx => ?_) (fun _ h => h.2) | refine Qe.int ?_ | refine Qo.mk (k + 1) (by omega) ⟨by omega, ?_⟩ Qh.a (Qb.refl _ _)
   all_goals (rw [he]; simp [*])
  ·have hkl : k = g.mem.length := by omega
   subst hkl
   rw [List.drop_length, WI] at he
   repeat' first | refine Wk ?_ | refine Qa.mk (fun h => ?_) (fun h => ?_) | refine Qd.mk (fun ad => ?_) | refine Qe.int ?_
   exact he
 ·unfold Kw ZY; rw [hn, hb, ← hany, hz]; simp
 ·unfold Kw; rw [hn]; simp
theorem Gk (p : PolM) (r : Pf) (hl : p.gs.length ≤ 9223372036854775807) (hb : r.nm.length ≤ 9223372036854775807) :
  FnS prog 198 [.agg p.cells, .agg r.cells] [] (ZX 1 :: p.facts) (Is (.c (.i .i64 (WC (QY p.gs) r)))) := by
 refine FJ 0 func198 ntmps198 (fun G => ?_)
 repeat' first | refine Wk ?_ | refine Qa.mk (fun h => ?_) (fun h => ?_) | refine Qd.mk (fun ad => ?_) | refine Qc.isB (We p r.group hl) (fun hx => ?_) (fun hx => ?_) (fun _ h => h.2) | refine Qc.isB (vy r.sp r.nm hb) (fun hv => ?_) (fun hv => ?_) | refine Qe.int ?_
 all_goals first | (change r.nm = [] at h) | (change ¬ r.nm = [] at h) | skip
 all_goals (unfold WC xq; simp [*]; try first | omega | exact fun h1 h2 => h ⟨h1, h2, trivial⟩)
theorem vp (p : PolM) (r : Ph) (hl : p.gs.length ≤ 9223372036854775807) (hb : r.nm.length ≤ 9223372036854775807) (hc : r.sect.length ≤ 9223372036854775807) :
  FnS prog 199 [.agg p.cells, .agg r.cells] [] (ZX 1 :: p.facts) (Is (.c (.i .i64 (JI (QY p.gs) r)))) := by
 have c1 := vy r.sp r.nm hb
 have hE : ZY (QY p.gs) r.group = true → JI (QY p.gs) r = if (Qw r.sp r.nm && Y5 r.sect) = false then 7 else 0 := fun h => by
  unfold JI; rw [if_neg (by rw [h]; simp)]
 have hE0 : ZY (QY p.gs) r.group = false → JI (QY p.gs) r = 4 := fun h => by unfold JI; rw [if_pos h]
 generalize JI (QY p.gs) r = e at *
 by_cases h100 : r.sect.length ≤ 100
 ·have c2 := yG r.sect 10 124 (by decide) (by decide) (by omega)
  have c3 := OI r.sect [32, 9] hc (by decide) (fun j b hb => by
   have := List.mem_of_getElem? hb
   simp at this
   rcases this with rfl | rfl <;> decide)
  rw [anyIdx] at c2
  have hs : Y5 r.sect = (!(r.sect.any fun c => c == 10 || c == 124) && decide (Qy r.sect = r.sect)) := by
   unfold Y5; rw [decide_eq_false (by omega)]; rfl
  rw [hs] at hE
  have ht : Qy r.sect = Lib.trimS r.sect [32, 9] := rfl
  rw [ht] at hE
  generalize Lib.trimS r.sect [32, 9] = t at *
  generalize (r.sect.any fun c => c == 10 || c == 124) = z at *
  generalize Qw r.sp r.nm = v at *
  cases v <;> cases z <;>
  ·refine FJ 0 func199 ntmps199 (fun G => ?_)
   repeat' first | refine Wk ?_ | refine Qa.mk (fun h => ?_) (fun h => ?_) | refine Qd.mk (fun ad => ?_) | refine Ds (id := 3) [0,1,3,7,15,31,63,127,255,511,1023,2047,4095,8191,16383,32767,65535,131071,262143,65535,589823,2097151,4194303] [0,1,2,3,4,5,6,7,8,9,10,11,12,13,14,15,16,17,18,19,20,21,22] [] [3] true ?_ | refine Qt.mk Qb.a ?_ | refine Qc.isB (We p r.group hl) (fun hx => ?_) (fun hx => ?_) (fun _ h => h.2) | refine Qx.mk [ZX 1] _ c1 Kh ?_ | refine Qx.mk [] _ c2 QX ?_ | refine Qx.mk [] _ c3 QX ?_ | refine Qe.int ?_
   all_goals first | (rw [hE0 (by assumption)]) | (rw [hE (by assumption)]; simp [*])
 ·have hs : Y5 r.sect = false := by unfold Y5; rw [decide_eq_true (by omega)]; rfl
  rw [hs] at hE
  generalize Qw r.sp r.nm = v at *
  cases v <;>
  ·refine FJ 0 func199 ntmps199 (fun G => ?_)
   repeat' first | refine Wk ?_ | refine Qa.mk (fun h => ?_) (fun h => ?_) | refine Qd.mk (fun ad => ?_) | refine Ds (id := 3) [0,1,3,7,15,31,63,127,255,511,1023,2047,4095,8191,16383,32767,65535,131071,262143,65535,589823,2097151,4194303] [0,1,2,3,4,5,6,7,8,9,10,11,12,13,14,15,16,17,18,19,20,21,22] [] [3] true ?_ | refine Qt.mk Qb.a ?_ | refine Qc.isB (We p r.group hl) (fun hx => ?_) (fun hx => ?_) (fun _ h => h.2) | refine Qx.mk [ZX 1] _ c1 Kh ?_ | refine Qe.int ?_
   all_goals first | (rw [hE0 (by assumption)]) | (rw [hE (by assumption)]; simp [*])
end Go.Proofs
namespace Go.Proofs
open Go Go.X Tryz
set_option maxRecDepth 100000
set_option maxHeartbeats 4000000
structure Up (p : PolM) : Prop where
 gc : p.gs.length ≤ p.gc
 gl : p.gs.length ≤ 9223372036854775807
 rl : p.rs.length ≤ 9223372036854775807
 xl : p.xs.length ≤ 9223372036854775807
 gb : ∀ g ∈ p.gs, g.name.length ≤ 9223372036854775807 ∧ g.mem.length ≤ 9223372036854775807 ∧ ∀ m ∈ g.mem, m.length ≤ 9223372036854775807
 rb : ∀ r ∈ p.rs, r.nm.length ≤ 9223372036854775807
 xb : ∀ x ∈ p.xs, x.nm.length ≤ 9223372036854775807 ∧ x.sect.length ≤ 9223372036854775807
theorem Hs (gs : List JL) : (XU gs).map (·.1) = QY gs := by simp [XU, QY]
theorem KX (gs : List JL) : (Ka (XU gs)).length = gs.length := by simp [Ka, XU]
theorem km (gs : List JL) {i : Nat} (hi : i < gs.length) : (Ka (XU gs))[i]'(by rw [KX]; exact hi) = Kw (QY gs) ((QY gs).take i) gs[i].name gs[i].mem := by
 simp [Ka, XU, QY, Function.comp_def]
theorem X0 (e : Int) (r : List Int) : ZU (e :: r) = if e = 0 then ZU r else e := rfl
theorem wU (p : PolM) (h : Up p) : FnS prog 148 [.agg p.cells] [] (ZX 1 :: p.facts) (Is (.c (.i .i64 (Zg (XU p.gs) p.rs p.xs)))) := by
 have hgl := h.gl
 have hrl := h.rl
 have hxl := h.xl
 have hrr : ∀ L, Qp L (ZX 1 :: p.facts) 0 6 p.ra p.rs.length (wO p.rs) := fun L => .inr fun m h => h.2.2.2.1
 have hrx : ∀ L, Qp L (ZX 1 :: p.facts) 0 5 p.xa p.xs.length (kD p.xs) := fun L => .inr fun m h => h.2.2.2.2.1
 have hgp : (XU p.gs).length = p.gs.length := by simp [XU]
 by_cases hbig : 24 < (p.gs.length : Int) ∨ 64 < (p.rs.length : Int) ∨ 64 < (p.xs.length : Int)
 ·have hv : Zg (XU p.gs) p.rs p.xs = 3 := by unfold Zg; rw [if_pos (by rw [hgp]; exact hbig)]
  rw [hv]
  refine FJ 0 func148 ntmps148 (fun G => ?_)
  repeat' first | refine Wk ?_ | refine Qa.mk (fun h => ?_) (fun h => ?_) | refine Qd.mk (fun ad => ?_) | refine Qe.int rfl
 ·have hv : Zg (XU p.gs) p.rs p.xs = ZU (Ka (XU p.gs) ++ (p.rs.map (WC (QY p.gs)) ++ p.xs.map (JI (QY p.gs)))) := by
   unfold Zg; rw [if_neg (by rw [hgp]; exact hbig), Hs, List.append_assoc]
  rw [hv]
  generalize hR : p.rs.map (WC (QY p.gs)) = R
  generalize hX : p.xs.map (JI (QY p.gs)) = X
  have hRl : R.length = p.rs.length := by rw [← hR]; simp
  have hXl : X.length = p.xs.length := by rw [← hX]; simp
  generalize hV : ZU (Ka (XU p.gs) ++ (R ++ X)) = v
  have hRg : ∀ (i : Nat) (hi : i < p.rs.length), R[i]'(by omega) = WC (QY p.gs) p.rs[i] := fun i hi => by simp [← hR]
  have hXg : ∀ (i : Nat) (hi : i < p.xs.length), X[i]'(by omega) = JI (QY p.gs) p.xs[i] := fun i hi => by simp [← hX]
  refine FJ 0 func148 ntmps148 (fun G => ?_)
  repeat' first | refine Wk ?_ | refine Qa.mk (fun h => ?_) (fun h => ?_) | refine Qd.mk (fun ad => ?_)
  refine Qn (α := Nat) (fun i => [(1, .c (.p 0 ad 0)), (29, .c (.i .i64 p.gs.length)), (30, .c (.i .i64 i))]) (fun _ => [.box 0 ad 85 p.cells]) (fun _ => ZX 1 :: p.facts) 1
   (fun i => i ≤ p.gs.length ∧ v = ZU ((Ka (XU p.gs)).drop i ++ (R ++ X))) (fun i => p.gs.length - i) (Qq.mk 0 ⟨by omega, hV.symm⟩ Qh.a (Qb.refl _ _)) (fun i hi => ?_)
  obtain ⟨hi, he⟩ := hi
  by_cases hlt : i < p.gs.length
  ·have hc := vq p i hlt h.gc h.gl h.gb
   rw [List.drop_eq_getElem_cons (by rw [KX]; exact hlt), km _ hlt, List.cons_append, X0] at he
   generalize Kw (QY p.gs) ((QY p.gs).take i) p.gs[i].name p.gs[i].mem = e at *
   repeat' first | refine Wk ?_ | refine Qa.mk (fun h => ?_) (fun h => ?_) | refine Qd.mk (fun ad => ?_) | refine Qc.is hc ?_ (fun _ h => h.2) | refine Qe.int ?_ | refine Qo.mk (i + 1) (by omega) ⟨by omega, ?_⟩ Qh.a (Qb.refl _ _)
   all_goals first | rw [he, if_pos (by assumption)] | rw [he, if_neg (by assumption)]
  ·have hil : i = p.gs.length := by omega
   subst hil
   rw [List.drop_of_length_le (by rw [KX]; omega), List.nil_append] at he
   clear hlt hi hV
   repeat' first | refine Wk ?_ | refine Qa.mk (fun h => ?_) (fun h => ?_) | refine Qd.mk (fun ad => ?_)
   refine Qn (α := Nat) (fun i => [(1, .c (.p 0 ad 0)), (41, .c (.sl p.ra p.rs.length p.rc)), (42, .c (.i .i64 p.rs.length)), (43, .c (.i .i64 i))]) (fun _ => [.box 0 ad 85 p.cells]) (fun _ => ZX 1 :: p.facts) 1
    (fun i => i ≤ p.rs.length ∧ v = ZU (R.drop i ++ X)) (fun i => p.rs.length - i) (Qq.mk 0 ⟨by omega, he⟩ Qh.a (Qb.refl _ _)) (fun i hi => ?_)
   obtain ⟨hi, he⟩ := hi
   by_cases hlt : i < p.rs.length
   ·have hcell : ((wO p.rs).drop (i * 6 + 0)).take 6 = p.rs[i].cells := by rw [wO, QL (F := Pf.cells) (z := 6) (fun _ => rfl) hlt (by omega)]; rfl
    have hc := Gk p p.rs[i] h.gl (h.rb _ (List.getElem_mem hlt))
    rw [List.drop_eq_getElem_cons (by omega), hRg i hlt, List.cons_append, X0] at he
    generalize WC (QY p.gs) p.rs[i] = e at *
    generalize p.rs[i] = r at *
    repeat' first | refine Wk ?_ | refine Qa.mk (fun h => ?_) (fun h => ?_) | refine Qd.mk (fun ad => ?_) | refine Qr.a 0 6 _ (hrr _) ?_ | refine Qi.mk 0 _ _ _ (hrr _) (by omega) (by omega) (by omega) hcell ?_ | refine Qc.is hc ?_ (fun _ h => h) | refine Qe.int ?_ | refine Qo.mk (i + 1) (by omega) ⟨by omega, ?_⟩ Qh.a Qb.drop
    all_goals first | rw [he, if_pos (by assumption)] | rw [he, if_neg (by assumption)]
   ·have hil : i = p.rs.length := by omega
    subst hil
    rw [List.drop_of_length_le (by omega), List.nil_append] at he
    clear hlt hi
    repeat' first | refine Wk ?_ | refine Qa.mk (fun h => ?_) (fun h => ?_) | refine Qd.mk (fun ad => ?_)
    refine Qn (α := Nat) (fun i => [(1, .c (.p 0 ad 0)), (55, .c (.sl p.xa p.xs.length p.xc)), (56, .c (.i .i64 p.xs.length)), (57, .c (.i .i64 i))]) (fun _ => [.box 0 ad 85 p.cells]) (fun _ => ZX 1 :: p.facts) 1
     (fun i => i ≤ p.xs.length ∧ v = ZU (X.drop i)) (fun i => p.xs.length - i) (Qq.mk 0 ⟨by omega, he⟩ Qh.a (Qb.refl _ _)) (fun i hi => ?_)
    obtain ⟨hi, he⟩ := hi
    by_cases hlt : i < p.xs.length
    ·have hcell : ((kD p.xs).drop (i * 5 + 0)).take 5 = p.xs[i].cells := by rw [kD, QL (F := Ph.cells) (z := 5) (fun _ => rfl) hlt (by omega)]; rfl
     have hxb := h.xb _ (List.getElem_mem hlt)
     have hc := vp p p.xs[i] h.gl hxb.1 hxb.2
     rw [List.drop_eq_getElem_cons (by omega), hXg i hlt, X0] at he
     generalize JI (QY p.gs) p.xs[i] = e at *
     generalize p.xs[i] = r at *
     repeat' first | refine Wk ?_ | refine Qa.mk (fun h => ?_) (fun h => ?_) | refine Qd.mk (fun ad => ?_) | refine Qr.a 0 5 _ (hrx _) ?_ | refine Qi.mk 0 _ _ _ (hrx _) (by omega) (by omega) (by omega) hcell ?_ | refine Qc.is hc ?_ (fun _ h => h) | refine Qe.int ?_ | refine Qo.mk (i + 1) (by omega) ⟨by omega, ?_⟩ Qh.a Qb.drop
     all_goals first | rw [he, if_pos (by assumption)] | rw [he, if_neg (by assumption)]
    ·have hil : i = p.xs.length := by omega
     subst hil
     rw [List.drop_of_length_le (by omega), ZU] at he
     repeat' first | refine Wk ?_ | refine Qa.mk (fun h => ?_) (fun h => ?_) | refine Qd.mk (fun ad => ?_) | refine Qe.int ?_
     exact he
end Go.Proofs
namespace Go.Proofs
open Go Go.X Tryz
set_option maxRecDepth 100000
set_option maxHeartbeats 4000000
theorem xB (sp : Int) (s : Bs) (hs : s.length ≤ 9223372036854775807) : FnS prog 79 [.agg [.i .i64 sp, .s s]] [] [] (Is (.c (.b (Qw sp s)))) := by
 by_cases h : s.length ≤ 1000000
 ·exact W8 sp s h
 ·have hv : Qw sp s = false := by
   unfold Qw
   rw [show decide (100 < (s.length : Int)) = true from decide_eq_true (by omega)]
   simp
  rw [hv]
  refine FJ 2000 func79 ntmps79 (fun G => ?_)
  repeat' first | refine Wk ?_ | refine Qa.mk (fun h => ?_) (fun h => ?_) | refine Qd.mk (fun ad => ?_) | refine Qe.bool ?_
  all_goals rfl
theorem Y7 (a : Option Addr) (c : Nat) (gs : List JL) (s : Bs) (hl : gs.length ≤ 9223372036854775807) : FnS prog 131 [.c (.sl a gs.length c), .c (.s s)] [] [Qf 0 2 a gs.length (YR gs)] (Is (.c (.b (ZY (QY gs) s)))) := by
 have hrd : ∀ L, Qp L [Qf 0 2 a gs.length (YR gs)] 0 2 a gs.length (YR gs) := fun L => .inr fun m h => h.1
 have c1 := y7 s
 have hE : ZY (QY gs) s = (zV s || gs.any fun g => decide (g.name = s)) := by unfold ZY; rw [jB]
 rw [hE]
 generalize zV s = z at *
 refine FJ 0 func131 ntmps131 (fun G => ?_)
 repeat' first | refine Wk ?_ | refine Qa.mk (fun h => ?_) (fun h => ?_) | refine Qd.mk (fun ad => ?_)
 refine Qn (α := Nat) (fun i => [(0, .c (.sl a gs.length c)), (1, .c (.s s)), (5, .c (.i .i64 i))]) (fun _ => []) (fun _ => [Qf 0 2 a gs.length (YR gs)]) 0
  (fun i => i ≤ gs.length ∧ (gs.take i).any (fun g => decide (g.name = s)) = false) (fun i => gs.length - i) (Qq.mk 0 ⟨by omega, rfl⟩ Qh.a (Qb.refl _ _)) (fun i hi => ?_)
 obtain ⟨hi, hal⟩ := hi
 by_cases hlt : i < gs.length
 ·have hany := zo (p := fun g : JL => decide (g.name = s)) hlt
  rw [hal, Bool.false_or] at hany
  have hg : ((YR gs).drop (i * 2 + 0)).take 1 = [C.s gs[i].name] := by rw [YR, QL (F := JL.cells) (z := 2) (fun _ => rfl) hlt (by omega)]; rfl
  have hall : gs.any (fun g => decide (g.name = s)) = ((gs.take (i + 1)).any (fun g => decide (g.name = s)) || (gs.drop (i + 1)).any (fun g => decide (g.name = s))) := by rw [← List.any_append, List.take_append_drop]
  generalize gs[i].name = y at *
  repeat' first | refine Wk ?_ | refine Qa.mk (fun h => ?_) (fun h => ?_) | refine Qd.mk (fun ad => ?_) | refine Qr.a 0 2 _ (hrd _) ?_ | refine Zv.mk 0 2 _ _ (hrd _) (by omega) ?_ | refine Qi.a 0 _ _ _ (hrd _) hg ?_ | refine Qe.bool ?_ | refine Qo.mk (i + 1) (by omega) ⟨by omega, ?_⟩ Qh.a (Qb.refl _ _)
  ·rw [hall, hany, decide_eq_true (show y = s by assumption)]; simp
  ·rw [hany, decide_eq_false (show ¬ y = s by assumption)]
 ·have hil : i = gs.length := by omega
  subst hil
  rw [List.take_length] at hal
  rw [hal, Bool.or_false]
  repeat' first | refine Wk ?_ | refine Qa.mk (fun h => ?_) (fun h => ?_) | refine Qd.mk (fun ad => ?_) | refine Qc.is c1 ?_ | refine Qe.bool rfl
theorem Sj {m : Bs} : Lib.hasPrefix m [64] = (decide (0 < (m.length : Int)) && decide (((m.getD 0 0).toNat : Int) = 64)) := by
 cases m with
 | nil => rfl
 | cons x r =>
  have h : (x.toNat : Int) = 64 ↔ x = 64 := K3 (x := x) (n := 64) (by decide)
  unfold Lib.hasPrefix
  rw [decide_eq_true (show 0 < (((x :: r).length : Nat) : Int) by simp), Bool.true_and, Bool.eq_iff_iff, decide_eq_true_eq]
  simp only [List.isPrefixOf, Bool.and_true, beq_iff_eq, List.getD_cons_zero]
  exact eq_comm.trans h.symm
theorem GY (p : PolM) (i : Nat) (hi : i < p.gs.length) (hc : p.gs.length ≤ p.gc) (hl : p.gs.length ≤ 9223372036854775807) (hb : ∀ g ∈ p.gs, g.name.length ≤ 9223372036854775807 ∧ g.mem.length ≤ 9223372036854775807 ∧ ∀ m ∈ g.mem, m.length ≤ 9223372036854775807) :
  FnS prog 130 [.c (.sl p.ga p.gs.length p.gc), .c (.i .i64 i)] [] p.facts (Is (.c (.i .i64 (Kw (QY p.gs) ((QY p.gs).take i) p.gs[i].name p.gs[i].mem)))) := by
 have hgm : p.gs[i] ∈ p.gs := List.getElem_mem hi
 obtain ⟨hb1, hb2, hb3⟩ := hb _ hgm
 have hcell : ((YR p.gs).drop (i * 2 + 0)).take 2 = p.gs[i].cells := by rw [YR, QL (F := JL.cells) (z := 2) (fun _ => rfl) hi (by omega)]; rfl
 have hpre : (YR p.gs).take (i * 2) = YR (p.gs.take i) := YU (F := JL.cells) (z := 2) (fun _ => rfl) p.gs i (by omega)
 have hlen : (p.gs.take i).length = i := by simp; omega
 have hmem : ∀ m, QI m p.facts → Z8 m 0 1 p.gs[i].a p.gs[i].mem.length (p.gs[i].mem.map C.s) := fun m h => h.2.1 _ hgm
 have hnt : QY (p.gs.take i) = (QY p.gs).take i := by simp [QY, List.map_take]
 generalize hg : p.gs[i] = g at *
 have cf := Y7 (Z9 p.ga 0 p.gc 2) p.gc (p.gs.take i) g.name (by omega)
 rw [hlen, hnt] at cf
 have ce := fun s => Y7 p.ga p.gc p.gs s hl
 have hrg : ∀ L, Qp L (Qf 0 1 g.a g.mem.length (g.mem.map C.s) :: p.facts) 0 2 p.ga p.gs.length (YR p.gs) := fun L => .inr fun m h => h.2.1
 have hrm : ∀ L, Qp L (Qf 0 1 g.a g.mem.length (g.mem.map C.s) :: p.facts) 0 1 g.a g.mem.length (g.mem.map C.s) := fun L => .inr fun m h => h.1
 have cn := Wd g.name hb1
 unfold Kw
 generalize ZY ((QY p.gs).take i) g.name = ex at *
 generalize QV g.name = isn at *
 refine FJ 0 func130 ntmps130 (fun G => ?_)
 refine VE (n' := 0) (D' := Qf 0 1 g.a g.mem.length (g.mem.map C.s) :: p.facts) (Qb.facts fun m h => ⟨hmem m h, h⟩) ?_
 cases isn
 ·repeat' first | refine Wk ?_ | refine Qa.mk (fun h => ?_) (fun h => ?_) | refine Qd.mk (fun ad => ?_) | refine Qr.a 0 2 _ (hrg _) ?_ | refine Qi.mk 0 _ _ _ (hrg _) (by omega) (by omega) (by omega) hcell ?_ | refine Qc.is cn ?_ | refine Qe.int ?_
  rw [if_pos rfl]
 rw [if_neg (by simp)]
 cases ex
 ·rw [if_neg (by simp)]
  by_cases h24 : 24 < (g.mem.length : Int)
  ·rw [if_pos h24]
   repeat' first | refine Wk ?_ | refine Qa.mk (fun h => ?_) (fun h => ?_) | refine Qd.mk (fun ad => ?_) | refine Qr.a 0 2 _ (hrg _) ?_ | refine Qi.mk 0 _ _ _ (hrg _) (by omega) (by omega) (by omega) hcell ?_ | refine Qc.is cn ?_ | refine Ds (id := 4) [0,0,3,0,8,31] [0,1,2,3,4,5] [] [5] true ?_ | refine Qt.mk Qb.a ?_ | refine Qx.mk [Qf 0 2 (Z9 p.ga 0 p.gc 2) i (YR (p.gs.take i))] _ cf (fun m h => ⟨hpre ▸ Wz p.gc h.2.1 (by omega), trivial⟩) ?_ | refine Qe.int ?_
   rfl
  rw [if_neg h24]
  repeat' first | refine Wk ?_ | refine Qa.mk (fun h => ?_) (fun h => ?_) | refine Qd.mk (fun ad => ?_) | refine Qr.a 0 2 _ (hrg _) ?_ | refine Qi.mk 0 _ _ _ (hrg _) (by omega) (by omega) (by omega) hcell ?_ | refine Qc.is cn ?_ | refine Ds (id := 4) [0,0,3,0,8,31] [0,1,2,3,4,5] [] [5] true ?_ | refine Qt.mk Qb.a ?_ | refine Qx.mk [Qf 0 2 (Z9 p.ga 0 p.gc 2) i (YR (p.gs.take i))] _ cf (fun m h => ⟨hpre ▸ Wz p.gc h.2.1 (by omega), trivial⟩) ?_
  refine Qn (α := Nat) (fun k => [(0, .c (.sl p.ga p.gs.length p.gc)), (5, .c (.p 0 ad 0)), (6, .c (.i .i64 k))]) (fun _ => [.box 0 ad 163 g.cells]) (fun _ => Qf 0 1 g.a g.mem.length (g.mem.map C.s) :: p.facts) 1
   (fun k => k ≤ g.mem.length ∧ WI (QY p.gs) g.mem = WI (QY p.gs) (g.mem.drop k)) (fun k => g.mem.length - k) (Qq.mk 0 ⟨by omega, rfl⟩ Qh.a (Qb.refl _ _)) (fun k hk => ?_)
  obtain ⟨hk, he⟩ := hk
  by_cases hlt : k < g.mem.length
  ·have hcm := Zw (f := C.s) hlt
   rw [List.drop_eq_getElem_cons hlt, WI] at he
   have hml := hb3 _ (List.getElem_mem hlt)
   generalize g.mem[k] = m at *
   by_cases hat : 0 < (m.length : Int) ∧ ((m.getD (0 : Int).toNat 0).toNat : Int) = 64
   ·have hpf : Lib.hasPrefix m [64] = true := by rw [Sj, decide_eq_true hat.1, decide_eq_true (show ((m.getD 0 0).toNat : Int) = 64 from hat.2)]; rfl
    have htp : Lib.trimPrefix m [64] = m.drop 1 := by unfold Lib.trimPrefix; rw [if_pos (by first | exact hpf | simpa using hpf)]; rfl
    rw [hpf, htp] at he
    have c1 := Wd (m.drop 1) (by rw [List.length_drop]; omega)
    have c2 := ce (m.drop 1)
    obtain ⟨hat1, hat2⟩ := hat
    generalize QV (m.drop 1) = b1 at *
    generalize ZY (QY p.gs) (m.drop 1) = b2 at *
    cases b1 <;> cases b2 <;>
    ·repeat' first | refine Qa.yes hat2 ?_ | refine Wk ?_ | refine Qa.mk (fun h => ?_) (fun h => ?_) | refine Qd.mk (fun ad => ?_) | refine Qr.a 0 1 _ (hrm _) ?_ | refine Qi.mk 0 _ _ _ (hrm _) (by omega) (by omega) (by omega) hcm ?_ | refine Qc.is c1 ?_ | refine Qc.is c2 ?_ vt | refine Qe.int ?_ | refine Qo.mk (k + 1) (by omega) ⟨by omega, ?_⟩ Qh.a (Qb.refl _ _)
     all_goals (rw [he]; simp)
   ·have hpf : Lib.hasPrefix m [64] = false := by
     rw [Sj, ← Bool.decide_and, decide_eq_false]
     exact hat
    have htp : Lib.trimPrefix m [64] = m := by unfold Lib.trimPrefix; rw [if_neg (by first | (rw [show Lib.hasPrefix m [64] = ([64] : Bs).isPrefixOf m from rfl] at hpf; rw [hpf]; simp) | (rw [hpf]; simp))]
    rw [hpf, htp] at he
    have c1 := Wd m hml
    generalize QV m = b1 at *
    cases b1 <;>
    ·repeat' first | refine Wk ?_ | refine Qa.mk (fun h => ?_) (fun h => ?_) | refine Qd.mk (fun ad => ?_) | refine Qr.a 0 1 _ (hrm _) ?_ | refine Qi.mk 0 _ _ _ (hrm _) (by omega) (by omega) (by omega) hcm ?_ | refine Qc.is c1 ?_ | refine Qc.is (ce _) ?_ vt | refine Qe.int ?_ | refine Qo.mk (k + 1) (by omega) ⟨by omega, ?_⟩ Qh.a (Qb.refl _ _)
     all_goals first | (rw [he]; simp; done) | (exfalso; exact hat ⟨by assumption, by assumption⟩) | trace_state
  ·have hkl : k = g.mem.length := by omega
   subst hkl
   rw [List.drop_length, WI] at he
   repeat' first | refine Wk ?_ | refine Qa.mk (fun h => ?_) (fun h => ?_) | refine Qd.mk (fun ad => ?_) | refine Qe.int ?_
   exact he
 ·rw [if_pos rfl]
  repeat' first | refine Wk ?_ | refine Qa.mk (fun h => ?_) (fun h => ?_) | refine Qd.mk (fun ad => ?_) | refine Qr.a 0 2 _ (hrg _) ?_ | refine Qi.mk 0 _ _ _ (hrg _) (by omega) (by omega) (by omega) hcell ?_ | refine Qc.is cn ?_ | refine Ds (id := 4) [0,0,3,0,8,31] [0,1,2,3,4,5] [] [5] true ?_ | refine Qt.mk Qb.a ?_ | refine Qx.mk [Qf 0 2 (Z9 p.ga 0 p.gc 2) i (YR (p.gs.take i))] _ cf (fun m h => ⟨hpre ▸ Wz p.gc h.2.1 (by omega), trivial⟩) ?_ | refine Qe.int ?_
  rfl
theorem GW (k sp : Int) (nm : Bs) (hs : nm.length ≤ 9223372036854775807) : FnS prog 132 [.agg [.i .i64 k, .i .i64 sp, .s nm]] [] [] (Is (.c (.b (xq k sp nm)))) := by
 have c1 := xB sp nm hs
 unfold xq
 generalize Qw sp nm = z at *
 refine FJ 0 func132 ntmps132 (fun G => ?_)
 repeat' first | refine Wk ?_ | refine Qa.mk (fun h => ?_) (fun h => ?_) | refine Qd.mk (fun ad => ?_) | refine Qc.is c1 ?_ | refine Qe.bool ?_
 all_goals first | (change nm = [] at h) | (change ¬ nm = [] at h) | skip
 all_goals (simp [*]; try first | omega | (first | exact fun h1 => h ⟨h1, by assumption, trivial⟩ | exact fun h1 h2 => h ⟨h1, h2, trivial⟩))
theorem R0 (s : Bs) : (s.any fun c => c == 10 || c == 124) = !(decide (Lib.indexByte s 10 < 0) && decide (Lib.indexByte s 124 < 0)) := by
 have key : ∀ (c : UInt8) (s : Bs), decide (Lib.indexByte s c < 0) = !(s.any fun x => x == c) := fun c s => by
  induction s with
  | nil => rfl
  | cons x r ih =>
   rw [List.any_cons, Bool.not_or, ← ih]
   by_cases hx : x = c
   ·subst hx; simp [Lib.indexByte]
   ·have hx' : (x == c) = false := by simpa using hx
    rw [hx']
    have hge := Lib.indexByte_ge r c
    simp only [Lib.indexByte, hx', Bool.not_false, Bool.true_and]
    simp
    split
    ·omega
    ·omega
 rw [key, key]
 induction s with
 | nil => rfl
 | cons x r ih =>
  simp only [List.any_cons, ih]
  cases (x == 10) <;> cases (x == 124) <;> simp
theorem y6 (s : Bs) (hs : s.length ≤ 9223372036854775807) : FnS prog 133 [.c (.s s)] [] [] (Is (.c (.b (Y5 s)))) := by
 unfold Y5
 by_cases h : 100 < (s.length : Int)
 ·rw [decide_eq_true h]
  refine FJ 0 func133 ntmps133 (fun G => ?_)
  repeat' first | refine Wk ?_ | refine Qa.mk (fun h => ?_) (fun h => ?_) | refine Qd.mk (fun ad => ?_) | refine Qe.bool ?_
  all_goals simp
 ·rw [decide_eq_false h, R0]
  have c0 := WE s hs
  have c1 := qe s [10] 0 (by omega) (by decide) (by decide) (by omega)
  have c2 := qe s [124] 0 (by omega) (by decide) (by decide) (by omega)
  rw [V0] at c1 c2
  generalize Qy s = t at *
  generalize Lib.indexByte s 10 = x at *
  generalize Lib.indexByte s 124 = y at *
  refine FJ 0 func133 ntmps133 (fun G => ?_)
  repeat' first | refine Wk ?_ | refine Qa.mk (fun h => ?_) (fun h => ?_) | refine Qd.mk (fun ad => ?_) | refine Qc.is c0 ?_ | refine Qc.is c1 ?_ | refine Qc.is c2 ?_ | refine Qe.bool ?_
  all_goals (simp [*])
end Go.Proofs
namespace Go.Proofs
open Go Go.X Tryz
set_option maxRecDepth 100000
set_option maxHeartbeats 4000000
theorem xj (s : Bs) (hs : s.length ≤ 9223372036854775807) : FnS prog 233 [.c (.s s), .c (.s [32, 9])] [] [] (Is (.c (.s (Qy s)))) :=
 OI s [32, 9] hs (by decide) (fun j b hb => by
   have := List.mem_of_getElem? hb
   simp at this
   rcases this with rfl | rfl <;> decide)
theorem WF (s : Bs) (hs : s.length ≤ 1000000) : FnS prog 193 [.c (.s s)] [] [] (Is (.t2 (.c (.s (Qv s).1)) (.c (.s (Qv s).2)))) := by
 have c1 := xj s (by omega)
 have h1 := xg s [32, 9]
 have ht : Qy s = Lib.trimS s [32, 9] := rfl
 rw [← ht] at h1
 have c2 := ke (Qy s) 32 9 (by decide) (by decide) (by omega)
 have h2 := Ho (Qy s) [32, 9]
 have hN : Qv s = if Lib.indexAny (Qy s) [32, 9] < 0 then (Qy s, []) else ((Qy s).take (Lib.indexAny (Qy s) [32, 9]).toNat, Qy ((Qy s).drop (Lib.indexAny (Qy s) [32, 9]).toNat)) := rfl
 have c3 := xj ((Qy s).drop (Lib.indexAny (Qy s) [32, 9]).toNat) (by simp; omega)
 rw [hN]
 generalize Qy s = t at *
 generalize Lib.indexAny t [32, 9] = k at *
 refine FJ 0 func193 ntmps193 (fun G => ?_)
 repeat' first | refine Wk ?_ | refine Qa.mk (fun h => ?_) (fun h => ?_) | refine Qd.mk (fun ad => ?_) | refine Ds (id := 5) [0,0,3,0,0,24,56,127,255] [0,1,2,3,4,5,6,7,8] [] [] true ?_ | refine Qt.mk Qb.a ?_ | refine Qc.is c1 ?_ | refine Qc.is c2 ?_ | refine Qx.mk [] _ c3 QX ?_ | refine Qe.is ?_
 ·rw [if_pos (by assumption)]; rfl
 ·rw [if_neg (by assumption)]
theorem ze (e : Nat) (a : Option Addr) (c : Nat) (xs : List Bs) (x : Bs) (hl : xs.length ≤ 9223372036854775807) : FnS prog 237 [.c (.sl a xs.length c), .c (.s x)] [] [Qf e 1 a xs.length (xs.map C.s)] (Is (.c (.i .i64 (Xc xs x)))) := by
 have hrd : ∀ L, Qp L [Qf e 1 a xs.length (xs.map C.s)] e 1 a xs.length (xs.map C.s) := fun L => .inr fun m h => h.1
 refine FJ 0 func237 ntmps237 (fun G => ?_)
 repeat' first | refine Wk ?_ | refine Qa.mk (fun h => ?_) (fun h => ?_) | refine Qd.mk (fun ad => ?_)
 refine Qn (α := Nat) (fun i => [(0, .c (.sl a xs.length c)), (1, .c (.s x)), (7, .c (.i .i64 xs.length)), (8, .c (.i .i64 i))]) (fun _ => []) (fun _ => [Qf e 1 a xs.length (xs.map C.s)]) 0
  (fun i => i ≤ xs.length ∧ Xc xs x = if Xc (xs.drop i) x < 0 then -1 else Xc (xs.drop i) x + i) (fun i => xs.length - i) (Qq.mk 0 ⟨by omega, ?_⟩ Qh.a (Qb.refl _ _)) (fun i hi => ?_)
 ·have := Wg xs x
  rw [List.drop_zero]; split <;> omega
 obtain ⟨hi, he⟩ := hi
 by_cases hlt : i < xs.length
 ·have hcm := Zw (f := C.s) hlt
  rw [List.drop_eq_getElem_cons hlt, Xc] at he
  generalize xs[i] = y at *
  repeat' first | refine Wk ?_ | refine Qa.mk (fun h => ?_) (fun h => ?_) | refine Qd.mk (fun ad => ?_) | refine Qr.a e 1 _ (hrd _) ?_ | refine Qi.mk e _ _ _ (hrd _) (by omega) (by omega) (by omega) hcm ?_ | refine Qe.int ?_ | refine Qo.mk (i + 1) (by omega) ⟨by omega, ?_⟩ Qh.a (Qb.refl _ _)
  ·rw [if_pos ‹x = y›] at he; rw [he, if_neg (by omega)]; omega
  ·rw [if_neg ‹¬ x = y›] at he; rw [he]
   have := Wg (xs.drop (i + 1)) x
   by_cases h2 : Xc (xs.drop (i + 1)) x < 0
   ·rw [if_pos h2, if_pos h2, if_pos (by omega)]
   ·rw [if_neg h2, if_neg h2, if_neg (by omega)]; omega
 ·have hil : i = xs.length := by omega
  subst hil
  rw [List.drop_length, Xc, if_pos (by omega)] at he
  repeat' first | refine Wk ?_ | refine Qa.mk (fun h => ?_) (fun h => ?_) | refine Qd.mk (fun ad => ?_) | refine Qe.int ?_
  exact he
theorem YE : FnS prog 238 [] [] [] (fun v L D => ∃ a, v = .c (.sl a 5 5) ∧ L = [.row 9 1 a 5 5 (QU.map C.s)] ∧ D = []) := by
 refine FJ 0 func238 ntmps238 (fun G => ?_)
 repeat' first | refine Wk ?_ | refine Qa.mk (fun h => ?_) (fun h => ?_) | refine Qd.mk (fun ad => ?_) | exact Qe.mk _ [] ⟨_, rfl, rfl, rfl⟩ (Qb.refl _ _)
theorem J7 : FnS prog 239 [] [] [] (fun v L D => ∃ a, v = .c (.sl a 6 6) ∧ L = [.row 9 1 a 6 6 (ZN.map C.s)] ∧ D = []) := by
 refine FJ 0 func239 ntmps239 (fun G => ?_)
 repeat' first | refine Wk ?_ | refine Qa.mk (fun h => ?_) (fun h => ?_) | refine Qd.mk (fun ad => ?_) | exact Qe.mk _ [] ⟨_, rfl, rfl, rfl⟩ (Qb.refl _ _)
theorem T9 (r : Nat) (h : r ≤ 1114111) : FnS prog 236 [.c (.i .i32 r)] [] [] (Is (.c (.b (decide (r = 32) || decide (r = 9))))) := by
 refine FJ 0 func236 ntmps236 (fun G => ?_)
 repeat' first | refine Wk ?_ | refine Qa.mk (fun h => ?_) (fun h => ?_) | refine Qd.mk (fun ad => ?_) | refine Qe.bool ?_
 all_goals first | (rw [decide_eq_true (by omega)]; rfl) | (rw [decide_eq_false (by omega), decide_eq_true (by omega)]; rfl) | (rw [decide_eq_false (by omega), decide_eq_false (by omega)]; rfl)
theorem S1 (l : List JL) (r : JL) : YR (l ++ [r]) = YR l ++ r.cells := by simp [YR]
theorem VX (l : List Pf) (r : Pf) : wO (l ++ [r]) = wO l ++ r.cells := by simp [wO]
theorem VG (l : List Ph) (r : Ph) : kD (l ++ [r]) = kD l ++ r.cells := by simp [kD]
def X1 (ad : Nat) (p : PolM) : List Chunk := [.box 1 ad 85 p.cells, .row 163 2 p.ga p.gs.length p.gc (YR p.gs), .row 171 6 p.ra p.rs.length p.rc (wO p.rs), .row 175 5 p.xa p.xs.length p.xc (kD p.xs)]
def PolM.p3 (p : PolM) : P3 := (XU p.gs, p.rs, p.xs)
abbrev zy (ad : Nat) (r : Bool × P3) : V → List Chunk → List Fact → Prop := fun v L D => ∃ p : PolM, p.p3 = r.2 ∧ v = .c (.b r.1) ∧ L = X1 ad p ∧ D = [Zz p.gs]
theorem vo (s : Bs) (hs : s.length ≤ 1000000) : FnS prog 235 [.c (.s s), .c (.fn 236 [])] [] [] (fun v L D => ∃ a, v = .c (.sl a (QA Qk s).length (QA Qk s).length) ∧
   L = [] ∧ D = [Qf 0 1 a (QA Qk s).length ((QA Qk s).map C.s)]) :=
 (vm _ s (by omega) T9).entsP fun v L1 D1 ⟨a, h1, h2, h3⟩ => ⟨[], [Qf 0 1 a (QA Qk s).length ((QA Qk s).map C.s)], by subst h2 h3; exact Qb.toFact, a, h1, rfl, rfl⟩
theorem vV {m : Im} {gs : List JL} {g : JL} (h : (Zz gs).p m) (h2 : Z8 m 0 1 g.a g.mem.length (g.mem.map C.s)) : (Zz (gs ++ [g])).p m := fun x hx => by
 rcases List.mem_append.1 hx with hx | hx
 ·exact h x hx
 ·rw [List.mem_singleton.1 hx]; exact h2
theorem G0 (pd : Nat) (p : PolM) (rest : Bs) (hr : rest.length ≤ 1000000) (hl : p.gs.length ≤ 1000000) : FnS prog 194 [.c (.p 1 pd 0), .c (.s rest)] (X1 pd p) [Zz p.gs] (zy pd (Ys p.p3 rest)) := by
 have hn := Jw rest
 have c1 := WF rest hr
 have c2 := vo (Qv rest).2 (by omega)
 have hG : Ys p.p3 rest = (!decide ((Qv rest).1 = []), (XU p.gs ++ [((Qv rest).1, QA Qk (Qv rest).2)], p.rs, p.xs)) := rfl
 rw [hG]
 generalize (Qv rest).1 = nm at *
 generalize (Qv rest).2 = re at *
 generalize QA Qk re = ws at *
 refine FJ 5000 func194 ntmps194 (fun G => ?_)
 repeat' first | refine Wk ?_ | refine Qa.mk (fun h => ?_) (fun h => ?_) | refine Qd.mk (fun ad => ?_) | refine Qc.is c1 ?_ | refine Qc.mk [] _ [] _ c2 QW QX (fun v L' D' hp => ?_); obtain ⟨b, rfl, rfl, rfl⟩ := hp | refine QK.row [_, _] [_, _] (YR p.gs) [.s nm, .sl b ws.length ws.length] 1 rfl (QJ.sl 163 163 _ _ 1 1 _ rfl rfl (.inl ⟨1, QT⟩) rfl) (by show (p.gs.length + 1) * 40 ≤ _; omega) (fun a' c' => ?_) | refine Qe.mk (X1 pd { p with ga := a', gc := c', gs := p.gs ++ [⟨nm, b, ws.length, ws⟩] }) [Zz (p.gs ++ [⟨nm, b, ws.length, ws⟩])] ⟨_, ?_, ?_, rfl, rfl⟩ ?_
 all_goals first
  | (simp [PolM.p3, XU]; done)
  | (have h' : nm = [] := h; simp [h']; done)
  | (have h' : ¬ nm = [] := h; simp [h']; done)
  | exact Qb.drop.trans ((Qb.of (by simp [X1, PolM.cells, YR, JL.cells])).trans (Qb.facts fun m h => ⟨vV h.2.1 h.1, trivial⟩))
theorem wV (pd : Nat) (p : PolM) (rest : Bs) (allow : Bool) (hr : rest.length ≤ 1000000) (hl : p.rs.length ≤ 1000000) : FnS prog 195 [.c (.p 1 pd 0), .c (.s rest), .c (.b allow)] (X1 pd p) [Zz p.gs, ZX 1] (zy pd (xA p.p3 rest allow)) := by
 have hn := Jw rest
 have c1 := WF rest hr
 have hn2 := Jw (Qv rest).2
 have c2 := WF (Qv rest).2 (by omega)
 have hG : xA p.p3 rest allow = if Xc QU (Qv rest).1 + 1 = 0 then (false, p.p3) else match Yn (Qv (Qv rest).2).2 with
  | none => (false, p.p3)
  | some (k, sp, nm) => (true, (XU p.gs, p.rs ++ [⟨allow, Xc QU (Qv rest).1 + 1, (Qv (Qv rest).2).1, k, sp, nm⟩], p.xs)) := rfl
 rw [hG]
 clear hG
 generalize Qv (Qv rest).2 = n2 at *
 generalize (Qv rest).1 = wd at *
 generalize (Qv rest).2 = re at *
 obtain ⟨nm, sc⟩ := n2
 simp only at hn2 c2 ⊢
 have c3 := fun e a => ze e a 5 QU wd (by decide)
 have c4 := fun e a => ze e a 6 ZN sc (by decide)
 have c5 := G5 sc (by omega)
 have hr1 := Wg QU wd
 have hs1 := Wg ZN sc
 have hrl : (QU.length : Int) = 5 := rfl
 have hsl : (ZN.length : Int) = 6 := rfl
 rw [hrl] at hr1
 rw [hsl] at hs1
 unfold Yn
 generalize Xc QU wd = k at *
 generalize Xc ZN sc = k2 at *
 generalize Zd sc = t at *
 obtain ⟨sp, tn, er⟩ := t
 simp only
 have fin : ∀ m, QI m [Zz p.gs, ZX 1] → QI m [Zz p.gs] := fun m h => ⟨h.1, trivial⟩
 by_cases hk : k + 1 = 0
 ·rw [if_pos hk]
  refine FJ 5000 func195 ntmps195 (fun G => ?_)
  repeat' first | refine Wk ?_ | refine Qa.mk (fun h => ?_) (fun h => ?_) | refine Qd.mk (fun ad => ?_) | refine Qc.is c1 ?_ | refine Qc.is c2 ?_ | refine Qc.mk [] _ [] _ YE QW QX (fun v L' D' hp => ?_); obtain ⟨b, rfl, rfl, rfl⟩ := hp | refine Qc.isE (c3 9 _) Qb.toFact Kh ?_ | refine Qc.mk [] _ [] _ J7 QW QX (fun v L' D' hp => ?_); obtain ⟨b, rfl, rfl, rfl⟩ := hp | refine Qc.isE (c4 9 _) Qb.toFact Kh ?_ | refine Qc.is c5 ?_ (fun m h => ⟨by repeat (first | exact h.1 | exact h | replace h := h.2), trivial⟩) | refine Dz (id := 15) [0,0,2,6,14,0,32,126,255,511,1023] [0,1,2,3,4,5,6,7,8,9,10] [6,7,10] [0,10] 10 false ?_ | refine Qt.mk Qb.a ?_ | refine Qe.mk (X1 pd p) [Zz p.gs] ⟨p, rfl, rfl, rfl, rfl⟩ (Qb.drop.trans (Qb.facts ?_))
  all_goals exact fun m h => ⟨by repeat (first | exact h.1 | exact h | replace h := h.2), trivial⟩
 rw [if_neg hk]
 by_cases hw : sc = Ez
 ·rw [if_pos hw]
  have hw' : sc = [60, 97, 108, 108, 62] := hw
  refine FJ 5000 func195 ntmps195 (fun G => ?_)
  repeat' first | refine Qa.yes hw' ?_ | refine Wk ?_ | refine Qa.mk (fun h => ?_) (fun h => ?_) | refine Qd.mk (fun ad => ?_) | refine Qc.is c1 ?_ | refine Qc.is c2 ?_ | refine Qc.mk [] _ [] _ YE QW QX (fun v L' D' hp => ?_); obtain ⟨b, rfl, rfl, rfl⟩ := hp | refine Qc.isE (c3 9 _) Qb.toFact Kh ?_ | refine Qc.mk [] _ [] _ J7 QW QX (fun v L' D' hp => ?_); obtain ⟨b, rfl, rfl, rfl⟩ := hp | refine Qc.isE (c4 9 _) Qb.toFact Kh ?_ | refine Qc.is c5 ?_ (fun m h => ⟨by repeat (first | exact h.1 | exact h | replace h := h.2), trivial⟩) | refine Dz (id := 15) [0,0,2,6,14,0,32,126,255,511,1023] [0,1,2,3,4,5,6,7,8,9,10] [6,7,10] [0,10] 10 false ?_ | refine Qt.mk Qb.a ?_ | refine QK.row [_, _, _, _] [_] (wO p.rs) _ 1 rfl (QJ.sl 171 171 _ _ 1 1 _ rfl rfl (.inl ⟨1, QT⟩) rfl) (by show (p.rs.length + 1) * 64 ≤ _; omega) (fun a' c' => ?_) | refine Qe.mk (X1 pd { p with ra := a', rc := c', rs := p.rs ++ [⟨allow, k + 1, nm, 1, 0, []⟩] }) [Zz p.gs] ⟨_, rfl, rfl, rfl, rfl⟩ (Qb.drop.trans (Qb.drop.trans ((Qb.of ?_).trans (Qb.facts ?_))))
  all_goals first | (simp only [X1, PolM.cells, VX, List.length_append, List.length_singleton]; rfl) | exact fun m h => ⟨by repeat (first | exact h.1 | exact h | replace h := h.2), trivial⟩
 rw [if_neg hw]
 have hw' : ¬ sc = [60, 97, 108, 108, 62] := hw
 by_cases hk2 : 0 ≤ k2
 ·rw [if_pos hk2]
  refine FJ 5000 func195 ntmps195 (fun G => ?_)
  repeat' first | refine Qa.no hw' ?_ | refine Wk ?_ | refine Qa.mk (fun h => ?_) (fun h => ?_) | refine Qd.mk (fun ad => ?_) | refine Qc.is c1 ?_ | refine Qc.is c2 ?_ | refine Qc.mk [] _ [] _ YE QW QX (fun v L' D' hp => ?_); obtain ⟨b, rfl, rfl, rfl⟩ := hp | refine Qc.isE (c3 9 _) Qb.toFact Kh ?_ | refine Qc.mk [] _ [] _ J7 QW QX (fun v L' D' hp => ?_); obtain ⟨b, rfl, rfl, rfl⟩ := hp | refine Qc.isE (c4 9 _) Qb.toFact Kh ?_ | refine Qc.is c5 ?_ (fun m h => ⟨by repeat (first | exact h.1 | exact h | replace h := h.2), trivial⟩) | refine Dz (id := 15) [0,0,2,6,14,0,32,126,255,511,1023] [0,1,2,3,4,5,6,7,8,9,10] [6,7,10] [0,10] 10 false ?_ | refine Qt.mk Qb.a ?_ | refine QK.row [_, _, _, _] [_] (wO p.rs) _ 1 rfl (QJ.sl 171 171 _ _ 1 1 _ rfl rfl (.inl ⟨1, QT⟩) rfl) (by show (p.rs.length + 1) * 64 ≤ _; omega) (fun a' c' => ?_) | refine Qe.mk (X1 pd { p with ra := a', rc := c', rs := p.rs ++ [⟨allow, k + 1, nm, 2, k2, []⟩] }) [Zz p.gs] ⟨_, rfl, rfl, rfl, rfl⟩ (Qb.drop.trans (Qb.drop.trans ((Qb.of ?_).trans (Qb.facts ?_))))
  all_goals first | (simp only [X1, PolM.cells, VX, List.length_append, List.length_singleton]; rfl) | exact fun m h => ⟨by repeat (first | exact h.1 | exact h | replace h := h.2), trivial⟩
 rw [if_neg hk2]
 by_cases he : er = 0
 ·rw [if_pos he]
  refine FJ 5000 func195 ntmps195 (fun G => ?_)
  repeat' first | refine Qa.no hw' ?_ | refine Wk ?_ | refine Qa.mk (fun h => ?_) (fun h => ?_) | refine Qd.mk (fun ad => ?_) | refine Qc.is c1 ?_ | refine Qc.is c2 ?_ | refine Qc.mk [] _ [] _ YE QW QX (fun v L' D' hp => ?_); obtain ⟨b, rfl, rfl, rfl⟩ := hp | refine Qc.isE (c3 9 _) Qb.toFact Kh ?_ | refine Qc.mk [] _ [] _ J7 QW QX (fun v L' D' hp => ?_); obtain ⟨b, rfl, rfl, rfl⟩ := hp | refine Qc.isE (c4 9 _) Qb.toFact Kh ?_ | refine Qc.is c5 ?_ (fun m h => ⟨by repeat (first | exact h.1 | exact h | replace h := h.2), trivial⟩) | refine Dz (id := 15) [0,0,2,6,14,0,32,126,255,511,1023] [0,1,2,3,4,5,6,7,8,9,10] [6,7,10] [0,10] 10 false ?_ | refine Qt.mk Qb.a ?_ | refine QK.row [_, _, _, _, _] [_] (wO p.rs) _ 1 rfl (QJ.sl 171 171 _ _ 1 1 _ rfl rfl (.inl ⟨1, QT⟩) rfl) (by show (p.rs.length + 1) * 64 ≤ _; omega) (fun a' c' => ?_) | refine Qe.mk (X1 pd { p with ra := a', rc := c', rs := p.rs ++ [⟨allow, k + 1, nm, 3, sp, tn⟩] }) [Zz p.gs] ⟨_, rfl, rfl, rfl, rfl⟩ (Qb.drop.trans (Qb.drop.trans (Qb.drop.trans ((Qb.of ?_).trans (Qb.facts ?_)))))
  all_goals first | (simp only [X1, PolM.cells, VX, List.length_append, List.length_singleton]; rfl) | exact fun m h => ⟨by repeat (first | exact h.1 | exact h | replace h := h.2), trivial⟩
 ·rw [if_neg he]
  refine FJ 5000 func195 ntmps195 (fun G => ?_)
  repeat' first | refine Qa.no hw' ?_ | refine Wk ?_ | refine Qa.mk (fun h => ?_) (fun h => ?_) | refine Qd.mk (fun ad => ?_) | refine Qc.is c1 ?_ | refine Qc.is c2 ?_ | refine Qc.mk [] _ [] _ YE QW QX (fun v L' D' hp => ?_); obtain ⟨b, rfl, rfl, rfl⟩ := hp | refine Qc.isE (c3 9 _) Qb.toFact Kh ?_ | refine Qc.mk [] _ [] _ J7 QW QX (fun v L' D' hp => ?_); obtain ⟨b, rfl, rfl, rfl⟩ := hp | refine Qc.isE (c4 9 _) Qb.toFact Kh ?_ | refine Qc.is c5 ?_ (fun m h => ⟨by repeat (first | exact h.1 | exact h | replace h := h.2), trivial⟩) | refine Dz (id := 15) [0,0,2,6,14,0,32,126,255,511,1023] [0,1,2,3,4,5,6,7,8,9,10] [6,7,10] [0,10] 10 false ?_ | refine Qt.mk Qb.a ?_ | refine Qe.mk (X1 pd p) [Zz p.gs] ⟨p, rfl, rfl, rfl, rfl⟩ (Qb.drop.trans (Qb.drop.trans (Qb.facts ?_)))
  all_goals exact fun m h => ⟨by repeat (first | exact h.1 | exact h | replace h := h.2), trivial⟩
theorem j5 (pd : Nat) (p : PolM) (rest : Bs) (strict : Bool) (hr : rest.length ≤ 1000000) (hl : p.xs.length ≤ 1000000) : FnS prog 196 [.c (.p 1 pd 0), .c (.s rest), .c (.b strict)] (X1 pd p) [Zz p.gs, ZX 1] (zy pd (Vj p.p3 rest strict)) := by
 have hn := Jw rest
 have c1 := WF rest hr
 have hG : Vj p.p3 rest strict = if (Zd (Qy (QD 124 (Qv rest).2).1)).2.2 ≠ 0 ∨ ((QD 124 (Qv rest).2).2.2 = true ∧ Qy (QD 124 (Qv rest).2).2.1 = []) then (false, p.p3) else (true, (XU p.gs, p.rs, p.xs ++ [⟨strict, (Qv rest).1, (Zd (Qy (QD 124 (Qv rest).2).1)).1, (Zd (Qy (QD 124 (Qv rest).2).1)).2.1, Qy (QD 124 (Qv rest).2).2.1⟩])) := rfl
 rw [hG]
 clear hG
 generalize (Qv rest).1 = nm at *
 generalize (Qv rest).2 = re at *
 have c2 := jJ re 124 (by omega)
 have hl1 := JJ 124 re
 have hl2 := WO 124 re
 generalize QD 124 re = c at *
 obtain ⟨x, y, b⟩ := c
 simp only at hl1 hl2 c2 ⊢
 have c3 := xj y (by omega)
 have c4 := xj x (by omega)
 have hl3 := KL x
 generalize Qy y = ty at *
 generalize Qy x = tx at *
 have c5 := G5 tx (by omega)
 generalize Zd tx = t at *
 obtain ⟨sp, tn, er⟩ := t
 simp only
 by_cases he : er = 0
 ·by_cases hb : b = true ∧ ty = []
  ·obtain ⟨rfl, hty⟩ := hb
   rw [if_pos (.inr ⟨rfl, hty⟩)]
   refine FJ 5000 func196 ntmps196 (fun G => ?_)
   repeat' first | refine Qa.yes hty ?_ | refine Wk ?_ | refine Qa.mk (fun h => ?_) (fun h => ?_) | refine Qd.mk (fun ad => ?_) | refine Qc.is c1 ?_ | refine Qc.is c2 ?_ | refine Qc.is c3 ?_ | refine Qc.is c4 ?_ | refine Qc.is c5 ?_ (fun m h => ⟨by repeat (first | exact h.1 | exact h | replace h := h.2), trivial⟩) | refine Dz (id := 7) [0,0,2,6,14,0,0,0,0,480,992,2046,4095,8191,16383] [0,1,2,3,4,5,6,7,8,9,10,11,12,13,14] [10,11,14] [0,11] 14 false ?_ | refine Qt.mk Qb.a ?_ | refine Qe.mk (X1 pd p) [Zz p.gs] ⟨p, rfl, rfl, rfl, rfl⟩ (Qb.drop.trans (Qb.facts ?_))
   all_goals exact fun m h => ⟨by repeat (first | exact h.1 | exact h | replace h := h.2), trivial⟩
  ·rw [if_neg (by simp only [ne_eq, he, not_true_eq_false, false_or]; exact hb)]
   cases b
   all_goals
    first | (have hty : ¬ ty = [] := fun h => hb ⟨rfl, h⟩) | (have hty : ¬ (0 : Int) = 1 := by decide)
    refine FJ 5000 func196 ntmps196 (fun G => ?_)
    repeat' first | refine Qa.no hty ?_ | refine Wk ?_ | refine Qa.mk (fun h => ?_) (fun h => ?_) | refine Qd.mk (fun ad => ?_) | refine Qc.is c1 ?_ | refine Qc.is c2 ?_ | refine Qc.is c3 ?_ | refine Qc.is c4 ?_ | refine Qc.is c5 ?_ (fun m h => ⟨by repeat (first | exact h.1 | exact h | replace h := h.2), trivial⟩) | refine Dz (id := 7) [0,0,2,6,14,0,0,0,0,480,992,2046,4095,8191,16383] [0,1,2,3,4,5,6,7,8,9,10,11,12,13,14] [10,11,14] [0,11] 14 false ?_ | refine Qt.mk Qb.a ?_ | refine QK.row [_, _, _, _, _] [] (kD p.xs) _ 1 rfl (QJ.sl 175 175 _ _ 1 1 _ rfl rfl (.inl ⟨1, QT⟩) rfl) (by show (p.xs.length + 1) * 64 ≤ _; omega) (fun a' c' => ?_) | refine Qe.mk (X1 pd { p with xa := a', xc := c', xs := p.xs ++ [⟨strict, nm, sp, tn, ty⟩] }) [Zz p.gs] ⟨_, rfl, rfl, rfl, rfl⟩ (Qb.drop.trans (Qb.drop.trans ((Qb.of ?_).trans (Qb.facts ?_))))
    all_goals first | (simp only [X1, PolM.cells, VG, List.length_append, List.length_singleton]; rfl) | exact fun m h => ⟨by repeat (first | exact h.1 | exact h | replace h := h.2), trivial⟩
 ·rw [if_pos (.inl he)]
  refine FJ 5000 func196 ntmps196 (fun G => ?_)
  repeat' first | refine Wk ?_ | refine Qa.mk (fun h => ?_) (fun h => ?_) | refine Qd.mk (fun ad => ?_) | refine Qc.is c1 ?_ | refine Qc.is c2 ?_ | refine Qc.is c3 ?_ | refine Qc.is c4 ?_ | refine Qc.is c5 ?_ (fun m h => ⟨by repeat (first | exact h.1 | exact h | replace h := h.2), trivial⟩) | refine Dz (id := 7) [0,0,2,6,14,0,0,0,0,480,992,2046,4095,8191,16383] [0,1,2,3,4,5,6,7,8,9,10,11,12,13,14] [10,11,14] [0,11] 14 false ?_ | refine Qt.mk Qb.a ?_ | refine Qe.mk (X1 pd p) [Zz p.gs] ⟨p, rfl, rfl, rfl, rfl⟩ (Qb.drop.trans (Qb.facts ?_))
  all_goals exact fun m h => ⟨by repeat (first | exact h.1 | exact h | replace h := h.2), trivial⟩
end Go.Proofs
namespace Go.Proofs
open Go Go.X Tryz
set_option maxRecDepth 100000
set_option maxHeartbeats 4000000
theorem zy.of {ad : Nat} {r r' : Bool × P3} (h : r = r') : zy ad r = zy ad r' := by rw [h]
theorem kN (pd : Nat) (p : PolM) (line : Bs) (hr : line.length ≤ 1000000) (hg : p.gs.length ≤ 1000000) (hl : p.rs.length ≤ 1000000) (hx : p.xs.length ≤ 1000000) :
  FnS prog 147 [.c (.p 1 pd 0), .c (.s line)] (X1 pd p) [Zz p.gs, ZX 1] (zy pd (Ju p.p3 line)) := by
 have hn := Jw line
 have c1 := WF line hr
 have hS : Ju p.p3 line = if (Qv line).1 = [] ∨ (Qv line).1.getD 0 0 = 35 then (true, p.p3) else if (Qv line).1 = wGroup then Ys p.p3 (Qv line).2 else if (Qv line).1 = wAllow ∨ (Qv line).1 = wDeny then xA p.p3 (Qv line).2 (decide ((Qv line).1 = wAllow)) else if (Qv line).1 = wGuard ∨ (Qv line).1 = wStrict then Vj p.p3 (Qv line).2 (decide ((Qv line).1 = wStrict)) else (false, p.p3) := rfl
 rw [hS]
 clear hS
 generalize (Qv line).1 = w at *
 generalize (Qv line).2 = re at *
 by_cases h0 : w = [] ∨ w.getD 0 0 = 35
 ·rw [if_pos h0]
  by_cases hw : w = []
  ·refine FJ 5000 func147 ntmps147 (fun G => ?_)
   repeat' first | refine Qa.yes hw ?_ | refine Wk ?_ | refine Qa.mk (fun h => ?_) (fun h => ?_) | refine Qd.mk (fun ad => ?_) | refine Qc.is c1 ?_ | refine Qe.mk (X1 pd p) [Zz p.gs] ⟨p, rfl, rfl, rfl, rfl⟩ (Qb.facts fun m h => ⟨h.1, trivial⟩)
  ·have hp := Kr hw
   have h2 : (((w.getD (0 : Int).toNat 0).toNat : Int) = 35) := (K3 (n := 35) (by decide)).2 (h0.resolve_left hw)
   refine FJ 5000 func147 ntmps147 (fun G => ?_)
   repeat' first | refine Qa.no hw ?_ | refine Qa.yes h2 ?_ | refine Wk ?_ | refine Qa.mk (fun h => ?_) (fun h => ?_) | refine Qd.mk (fun ad => ?_) | refine Qc.is c1 ?_ | refine Qe.mk (X1 pd p) [Zz p.gs] ⟨p, rfl, rfl, rfl, rfl⟩ (Qb.facts fun m h => ⟨h.1, trivial⟩)
 rw [if_neg h0]
 have h1 : ¬ w = [] := fun h => h0 (.inl h)
 have h2 : ¬ (((w.getD (0 : Int).toNat 0).toNat : Int) = 35) := fun h => h0 (.inr ((K3 (n := 35) (by decide)).1 h))
 have hp := Kr h1
 by_cases h3 : w = wGroup
 ·rw [if_pos h3]
  have c2 := G0 pd p re (by omega) hg
  generalize Ys p.p3 re = r at *
  refine FJ 5000 func147 ntmps147 (fun G => ?_)
  repeat' first | refine Qa.no h1 ?_ | refine Qa.no h2 ?_ | refine Qa.yes h3 ?_ | refine Wk ?_ | refine Qa.mk (fun h => ?_) (fun h => ?_) | refine Qd.mk (fun ad => ?_) | refine Qc.is c1 ?_ | refine Qc.mk (X1 pd p) [] [Zz p.gs] _ c2 QW (fun m h => ⟨h.1, trivial⟩) (fun v L' D' hp => ?_); obtain ⟨p', hp3, rfl, rfl, rfl⟩ := hp | exact Qe.mk (X1 pd p') [Zz p'.gs] ⟨p', hp3, rfl, rfl, rfl⟩ (Qb.facts fun m h => ⟨h.1, trivial⟩)
 rw [if_neg h3]
 by_cases h4 : w = wAllow ∨ w = wDeny
 ·rw [if_pos h4]
  have h5 : w = wDeny → ¬ w = wAllow := fun h => by rw [h]; decide
  rcases h4 with h4 | h4
  ·rw [decide_eq_true h4]
   have c2 := wV pd p re true (by omega) hl
   generalize xA p.p3 re true = r at *
   refine FJ 5000 func147 ntmps147 (fun G => ?_)
   repeat' first | refine Qa.no h1 ?_ | refine Qa.no h2 ?_ | refine Qa.no h3 ?_ | refine Qa.yes h4 ?_ | refine Wk ?_ | refine Qa.mk (fun h => ?_) (fun h => ?_) | refine Qd.mk (fun ad => ?_) | refine Qc.is c1 ?_ | refine Qc.mk (X1 pd p) [] [Zz p.gs, ZX 1] _ c2 QW (fun m h => h) (fun v L' D' hp => ?_); obtain ⟨p', hp3, rfl, rfl, rfl⟩ := hp | exact Qe.mk (X1 pd p') [Zz p'.gs] ⟨p', hp3, rfl, rfl, rfl⟩ (Qb.facts fun m h => ⟨h.1, trivial⟩)
  ·have h5 := h5 h4
   rw [decide_eq_false h5]
   have c2 := wV pd p re false (by omega) hl
   generalize xA p.p3 re false = r at *
   refine FJ 5000 func147 ntmps147 (fun G => ?_)
   repeat' first | refine Qa.no h1 ?_ | refine Qa.no h2 ?_ | refine Qa.no h3 ?_ | refine Qa.yes h4 ?_ | refine Qa.no h5 ?_ | refine Wk ?_ | refine Qa.mk (fun h => ?_) (fun h => ?_) | refine Qd.mk (fun ad => ?_) | refine Qc.is c1 ?_ | refine Qc.mk (X1 pd p) [] [Zz p.gs, ZX 1] _ c2 QW (fun m h => h) (fun v L' D' hp => ?_); obtain ⟨p', hp3, rfl, rfl, rfl⟩ := hp | exact Qe.mk (X1 pd p') [Zz p'.gs] ⟨p', hp3, rfl, rfl, rfl⟩ (Qb.facts fun m h => ⟨h.1, trivial⟩)
 rw [if_neg h4]
 have h5 : ¬ w = wAllow := fun h => h4 (.inl h)
 have h6 : ¬ w = wDeny := fun h => h4 (.inr h)
 by_cases h7 : w = wGuard ∨ w = wStrict
 ·rw [if_pos h7]
  have h9 : w = wGuard → ¬ w = wStrict := fun h => by rw [h]; decide
  rcases h7 with h7 | h7
  ·have h9 := h9 h7
   rw [decide_eq_false h9]
   have c2 := j5 pd p re false (by omega) hx
   generalize Vj p.p3 re false = r at *
   refine FJ 5000 func147 ntmps147 (fun G => ?_)
   repeat' first | refine Qa.no h1 ?_ | refine Qa.no h2 ?_ | refine Qa.no h3 ?_ | refine Qa.no h5 ?_ | refine Qa.no h6 ?_ | refine Qa.yes h7 ?_ | refine Qa.no h9 ?_ | refine Wk ?_ | refine Qa.mk (fun h => ?_) (fun h => ?_) | refine Qd.mk (fun ad => ?_) | refine Qc.is c1 ?_ | refine Qc.mk (X1 pd p) [] [Zz p.gs, ZX 1] _ c2 QW (fun m h => h) (fun v L' D' hp => ?_); obtain ⟨p', hp3, rfl, rfl, rfl⟩ := hp | exact Qe.mk (X1 pd p') [Zz p'.gs] ⟨p', hp3, rfl, rfl, rfl⟩ (Qb.facts fun m h => ⟨h.1, trivial⟩)
  ·rw [decide_eq_true h7]
   have c2 := j5 pd p re true (by omega) hx
   generalize Vj p.p3 re true = r at *
   refine FJ 5000 func147 ntmps147 (fun G => ?_)
   repeat' first | refine Qa.no h1 ?_ | refine Qa.no h2 ?_ | refine Qa.no h3 ?_ | refine Qa.no h5 ?_ | refine Qa.no h6 ?_ | refine Qa.yes h7 ?_ | refine Wk ?_ | refine Qa.mk (fun h => ?_) (fun h => ?_) | refine Qd.mk (fun ad => ?_) | refine Qc.is c1 ?_ | refine Qc.mk (X1 pd p) [] [Zz p.gs, ZX 1] _ c2 QW (fun m h => h) (fun v L' D' hp => ?_); obtain ⟨p', hp3, rfl, rfl, rfl⟩ := hp | exact Qe.mk (X1 pd p') [Zz p'.gs] ⟨p', hp3, rfl, rfl, rfl⟩ (Qb.facts fun m h => ⟨h.1, trivial⟩)
 rw [if_neg h7]
 have h8 : ¬ w = wGuard := fun h => h7 (.inl h)
 have h9 : ¬ w = wStrict := fun h => h7 (.inr h)
 refine FJ 5000 func147 ntmps147 (fun G => ?_)
 repeat' first | refine Qa.no h1 ?_ | refine Qa.no h2 ?_ | refine Qa.no h3 ?_ | refine Qa.no h5 ?_ | refine Qa.no h6 ?_ | refine Qa.no h8 ?_ | refine Qa.no h9 ?_ | refine Wk ?_ | refine Qa.mk (fun h => ?_) (fun h => ?_) | refine Qd.mk (fun ad => ?_) | refine Qc.is c1 ?_ | exact Qe.mk (X1 pd p) [Zz p.gs] ⟨p, rfl, rfl, rfl, rfl⟩ (Qb.facts fun m h => ⟨h.1, trivial⟩)
theorem Up.of {p : PolM} {B n : Nat} (h : jg B n p.p3) (hB : B ≤ 1000000) (hn : n ≤ 1000000) (hc : p.gs.length ≤ p.gc) : Up p := by
 have hgl : p.gs.length ≤ n := by have := h.gl; simpa [PolM.p3, XU] using this
 refine ⟨hc, by omega, by have := h.rl; simp only [PolM.p3] at this; omega, by have := h.xl; simp only [PolM.p3] at this; omega, fun g hg => ?_, fun r hr => ?_, fun x hx => ?_⟩
 ·have := h.gb (g.name, g.mem) (List.mem_map_of_mem hg)
  dsimp only at this
  exact ⟨by omega, by omega, fun m hm => by have := this.2.2 m hm; omega⟩
 ·have := h.rb r hr; omega
 ·have := h.xb x hx; omega
def Xv : PolM := ⟨none, 0, [], none, 0, [], none, 0, []⟩
abbrev vR (r : P3 × Int × Int) : V → List Chunk → List Fact → Prop := fun v L D => ∃ p : PolM, p.p3 = r.1 ∧ p.gs.length ≤ p.gc ∧ jg 8192 8193 p.p3 ∧ v = .t3 (.agg p.cells) (.c (.i .i64 r.2.1)) (.c (.i .i64 r.2.2)) ∧ L = [] ∧ D = p.facts
theorem UH (e z : Nat) (m : Im) : Z8 m e z none 0 [] := ⟨fun _ h => (by cases h), .inl ⟨rfl, rfl⟩⟩
theorem XJ (m : Im) : QI m Xv.facts := ⟨UH 0 _ _, (fun _ h => by cases h), UH 0 _ _, UH 0 _ _, trivial⟩
theorem wX {pd : Nat} {p : PolM} {R : List Chunk} {D : List Fact} : Qb (X1 pd p ++ R) D (.box 1 pd 85 p.cells :: R) (Qf 0 5 p.xa p.xs.length (kD p.xs) :: Qf 0 6 p.ra p.rs.length (wO p.rs) :: Qf 0 2 p.ga p.gs.length (YR p.gs) :: D) := by
 refine (Qb.perm (L' := .row 163 2 p.ga p.gs.length p.gc (YR p.gs) :: .row 171 6 p.ra p.rs.length p.rc (wO p.rs) :: .row 175 5 p.xa p.xs.length p.xc (kD p.xs) :: .box 1 pd 85 p.cells :: R) ?_).trans (Qb.toFact.trans (Qb.toFact.trans Qb.toFact))
 show List.Perm (_ :: ([_, _, _] ++ R)) ([_, _, _] ++ _ :: R)
 exact List.perm_middle.symm
theorem Sc {pd : Nat} {R : List Chunk} {D : List Fact} : Qb (.box 1 pd 85 Xv.cells :: R) D (X1 pd Xv ++ R) D := by
 refine (Qb.nilRow (ety := 175) (esz := 5)).trans ((Qb.nilRow (ety := 171) (esz := 6)).trans ((Qb.nilRow (ety := 163) (esz := 2)).trans (Qb.perm ?_)))
 show List.Perm ([_, _, _] ++ _ :: R) (_ :: ([_, _, _] ++ R))
 exact List.perm_middle
theorem j4 (s : Bs) (hs : s.length ≤ 1000000) : FnS prog 99 [.c (.s s)] [] [ZX 1] (vR (Zi s)) := by
 unfold Zi
 by_cases hbig : 8192 < (s.length : Int)
 ·rw [if_pos hbig]
  refine FJ 0 func99 ntmps99 (fun G => ?_)
  repeat' first | refine Wk ?_ | refine Qa.mk (fun h => ?_) (fun h => ?_) | refine Qd.mk (fun ad => ?_) | exact Qe.mk [] Xv.facts ⟨Xv, rfl, Nat.le_refl _, (jg.nil _).more (by omega), rfl, rfl, rfl⟩ (Qb.dropAll.trans (Qb.facts fun m _ => XJ m))
 rw [if_neg hbig]
 have c1 := VT s 10 (by omega)
 have hsl := Q5 10 s
 have hml := ZI 10 s
 generalize Qg 10 s = ls at *
 generalize hV : Oe (K8 ([], [], []) 0 ls) = res
 refine FJ 0 func99 ntmps99 (fun G => ?_)
 repeat' first | refine Wk ?_ | refine Qa.mk (fun h => ?_) (fun h => ?_) | refine Qd.mk (fun ad => ?_) | refine Qc.mk [] _ [ZX 1] _ c1 QW (fun _ h => h) (fun v L' D' hp => ?_); obtain ⟨g, rfl, rfl, rfl⟩ := hp
 rename_i ad0
 refine Qn (α := Nat × PolM) (fun x => [(2, .c (.p 0 ad0 0)), (5, .c (.p 1 ad 0)), (14, .c (.sl (some ⟨g, 0, none⟩) ls.length ls.length)), (15, .c (.i .i64 ls.length)), (16, .c (.i .i64 x.1))]) (fun x => X1 ad x.2 ++ [.box 0 ad0 85 Xv.cells]) (fun x => [Zz x.2.gs, Qf 0 1 (some ⟨g, 0, none⟩) ls.length (ls.map C.s), ZX 1]) 2
  (fun x => x.1 ≤ ls.length ∧ K8 ([], [], []) 0 ls = K8 x.2.p3 x.1 (ls.drop x.1) ∧ jg 8192 x.1 x.2.p3) (fun x => ls.length - x.1) (Qq.mk (0, Xv) ⟨Nat.zero_le _, rfl, jg.nil _⟩ Qh.a ?_) (fun x hx => ?_)
 ·exact Qb.toFact.trans (Sc.trans (Qb.facts (D' := [Zz [], Qf 0 1 (some ⟨g, 0, none⟩) ls.length (ls.map C.s), ZX 1]) fun m h => ⟨(fun _ h => by cases h), h⟩))
 obtain ⟨i, p⟩ := x
 dsimp only at hx ⊢
 obtain ⟨hi, he, hb⟩ := hx
 have hgl : p.gs.length ≤ i := by have := hb.gl; simpa [PolM.p3, XU] using this
 have hrl : p.rs.length ≤ i := hb.rl
 have hxl : p.xs.length ≤ i := hb.xl
 by_cases hlt : i < ls.length
 ·have hcm := Zw (f := C.s) hlt
  have hle := hml _ (List.getElem_mem hlt)
  rw [List.drop_eq_getElem_cons hlt, K8] at he
  generalize ls[i] = line at *
  have hB := hb.stmt (s := line) (by omega)
  have c2 := kN ad p line (by omega) (by omega) (by omega) (by omega)
  have hrd : ∀ L, Qp L [Zz p.gs, Qf 0 1 (some ⟨g, 0, none⟩) ls.length (ls.map C.s), ZX 1] 0 1 (some ⟨g, 0, none⟩) ls.length (ls.map C.s) := fun L => .inr fun m h => h.2.1
  generalize Ju p.p3 line = r at *
  obtain ⟨ok, q⟩ := r
  dsimp only at *
  cases ok with
  | false =>
   rw [if_neg (by simp)] at he
   rw [he] at hV
   have hV' : res = (([], [], []), ((i + 1 : Nat) : Int), 1) := by rw [← hV]; simp [Oe]
   subst hV'
   repeat' first | refine Wk ?_ | refine Qa.mk (fun h => ?_) (fun h => ?_) | refine Qd.mk (fun ad => ?_) | refine Qr.a 0 1 _ (hrd _) ?_ | refine Qi.mk 0 _ _ _ (hrd _) (by omega) (by omega) (by omega) hcm ?_ | refine Qc.mk (X1 ad p) [_] [Zz p.gs, ZX 1] _ c2 QW (fun m h => ⟨h.1, h.2.2.1, trivial⟩) (fun v L' D' hp => ?_); obtain ⟨p', hp3, rfl, rfl, rfl⟩ := hp | exact Qe.mk [] Xv.facts ⟨Xv, rfl, Nat.le_refl _, (jg.nil _).more (by omega), rfl, rfl, rfl⟩ (Qb.dropAll.trans (Qb.facts fun m _ => XJ m))
  | true =>
   rw [if_pos rfl] at he
   repeat' first | refine Wk ?_ | refine Qa.mk (fun h => ?_) (fun h => ?_) | refine Qd.mk (fun ad => ?_) | refine Qr.a 0 1 _ (hrd _) ?_ | refine Qi.mk 0 _ _ _ (hrd _) (by omega) (by omega) (by omega) hcm ?_ | refine Qc.mk (X1 ad p) [_] [Zz p.gs, ZX 1] _ c2 QW (fun m h => ⟨h.1, h.2.2.1, trivial⟩) (fun v L' D' hp => ?_); obtain ⟨p', hp3, rfl, rfl, rfl⟩ := hp | refine Qo.mk (i + 1, p') (by dsimp only; omega) ⟨by dsimp only; omega, ?_, ?_⟩ Qh.a (Qb.facts fun m h => ⟨h.1, h.2.2.1, h.2.2.2.1, trivial⟩)
   ·dsimp only at hp3 ⊢; rw [hp3]; exact he
   ·dsimp only at hp3 ⊢; rw [hp3]; exact hB
 ·have hil : i = ls.length := by omega
  subst hil
  rw [List.drop_length, K8] at he
  rw [he] at hV
  unfold Oe at hV
  dsimp only at hV
  rw [if_neg (by simp)] at hV
  refine XX ZR (fun hnc _ _ => ?_)
  have c3 := wU p (Up.of hb (by omega) (by omega) hnc)
  have hpv : Zg p.p3.1 p.p3.2.1 p.p3.2.2 = Zg (XU p.gs) p.rs p.xs := rfl
  rw [hpv] at hV
  have hbb := hb.more (m := 8193) (by omega)
  clear hlt he hml
  generalize Zg (XU p.gs) p.rs p.xs = e at *
  by_cases he0 : e = 0
  ·rw [if_neg (by simpa using he0)] at hV; subst hV
   repeat' first | refine Wk ?_ | refine Qa.mk (fun h => ?_) (fun h => ?_) | refine Qd.mk (fun ad => ?_) | refine Qc.isE c3 (wX (R := [_])) (fun m h => ⟨h.2.2.2.2.2.1, h.2.2.1, h.2.2.2.1, h.2.1, h.1, trivial⟩) ?_ | exact Qe.mk [] p.facts ⟨p, rfl, hnc, hbb, rfl, rfl, rfl⟩ (Qb.dropAll.trans (Qb.facts fun m h => ⟨h.2.2.1, h.2.2.2.1, h.2.1, h.1, trivial⟩))
  ·rw [if_pos (by simpa using he0)] at hV; subst hV
   repeat' first | refine Wk ?_ | refine Qa.mk (fun h => ?_) (fun h => ?_) | refine Qd.mk (fun ad => ?_) | refine Qc.isE c3 (wX (R := [_])) (fun m h => ⟨h.2.2.2.2.2.1, h.2.2.1, h.2.2.2.1, h.2.1, h.1, trivial⟩) ?_ | exact Qe.mk [] Xv.facts ⟨Xv, rfl, Nat.le_refl _, (jg.nil _).more (by omega), rfl, rfl, rfl⟩ (Qb.dropAll.trans (Qb.facts fun m _ => XJ m))
end Go.Proofs
namespace Go.Proofs
open Go Go.X Tryz
set_option maxRecDepth 100000
set_option maxHeartbeats 4000000
abbrev Yp (p : PolM) (r : Bool × P3) : V → List Chunk → List Fact → Prop := fun v L D => ∃ p' : PolM, (r.1 = true → p'.p3 = r.2) ∧ (p.gs.length ≤ p.gc → p'.gs.length ≤ p'.gc) ∧ v = .t2 (.agg p'.cells) (.c (.b r.1)) ∧ L = [] ∧ D = p'.facts
theorem LH (p : PolM) (s : Bs) (hs : s.length ≤ 1000000) (hW : QA Qk s = []) : FnS prog 82 [.agg p.cells, .c (.s s)] [] p.facts (Yp p (true, p.p3)) := by
 have c1 := Xi s hs
 rw [hW] at c1
 have hWl : ([] : List Bs).length = 0 := rfl
 refine FJ 0 func82 ntmps82 (fun G => ?_)
 repeat' first | refine Wk ?_ | refine Qa.mk (fun h => ?_) (fun h => ?_) | refine Qd.mk (fun ad => ?_) | refine Qc.mk [] _ [] _ c1 QW QX (fun v L' D' hp => ?_); obtain ⟨wa, wc, rfl, rfl, rfl⟩ := hp | exact Qe.mk [] p.facts ⟨p, fun _ => rfl, id, rfl, rfl, rfl⟩ (Qb.dropAll.trans (Qb.facts fun m h => h))
theorem LI (p : PolM) (s a : Bs) (w : List Bs) (hs : s.length ≤ 1000000) (hW : QA Qk s = a :: w) (hp : 0 < a.length) (h35 : (((a.getD (0 : Int).toNat 0).toNat : Int) = 35)) : FnS prog 82 [.agg p.cells, .c (.s s)] [] p.facts (Yp p (true, p.p3)) := by
 have c1 := Xi s hs
 rw [hW] at c1
 have hWl : (a :: w).length = w.length + 1 := rfl
 have hc0 : (((a :: w).map C.s).drop (0 * 1 + 0)).take 1 = [C.s a] := rfl
 refine FJ 0 func82 ntmps82 (fun G => ?_)
 repeat' first | refine QF (c := .seq (.seq (.region 2 _ _) _) _) ?_ | refine Wk ?_ | refine Qa.mk (fun h => ?_) (fun h => ?_) | refine Qd.mk (fun ad => ?_) | refine Qc.mk [] _ [] _ c1 QW QX (fun v L' D' hp => ?_); obtain ⟨wa, wc, rfl, rfl, rfl⟩ := hp
 refine ⟨?_⟩
 refine XX QT (fun hnc _ _ => ?_)
 refine VE (n' := 2) Qb.toFact ?_
 have hrw : ∀ L, Qp L (Qf 9 1 wa (a :: w).length ((a :: w).map C.s) :: ([] ++ p.facts)) 9 1 wa (a :: w).length ((a :: w).map C.s) := fun L => .inr fun m h => h.1
 repeat' first | refine Qa.yes h35 ?_ | refine Wk ?_ | refine Qa.mk (fun h => ?_) (fun h => ?_) | refine Qd.mk (fun ad => ?_) | refine Qr.a 9 1 _ (hrw _) ?_ | refine Qi.mk 9 _ _ _ (hrw _) (by omega) (by omega) (by omega) hc0 ?_ | exact Qe.mk [] p.facts ⟨p, fun _ => rfl, id, rfl, rfl, rfl⟩ (Qb.dropAll.trans (Qb.facts fun m h => h.2))
theorem R5 (p : PolM) (s a : Bs) (w : List Bs) (hs : s.length ≤ 1000000) (hW : QA Qk s = a :: w) (hp : 0 < a.length) (h35 : ¬ (((a.getD (0 : Int).toNat 0).toNat : Int) = 35)) (h1 : ¬ a = wGroup) (h2 : ¬ a = wAllow) (h3 : ¬ a = wDeny) (h4 : ¬ a = wGuard) (h5 : ¬ a = wStrict) :
  FnS prog 82 [.agg p.cells, .c (.s s)] [] p.facts (Yp p (false, p.p3)) := by
 have c1 := Xi s hs
 rw [hW] at c1
 have hWl : (a :: w).length = w.length + 1 := rfl
 have hc0 : (((a :: w).map C.s).drop (0 * 1 + 0)).take 1 = [C.s a] := rfl
 refine FJ 0 func82 ntmps82 (fun G => ?_)
 repeat' first | refine QF (c := .seq (.seq (.region 2 _ _) _) _) ?_ | refine Wk ?_ | refine Qa.mk (fun h => ?_) (fun h => ?_) | refine Qd.mk (fun ad => ?_) | refine Qc.mk [] _ [] _ c1 QW QX (fun v L' D' hp => ?_); obtain ⟨wa, wc, rfl, rfl, rfl⟩ := hp
 refine ⟨?_⟩
 refine XX QT (fun hnc _ _ => ?_)
 refine VE (n' := 2) Qb.toFact ?_
 have hrw : ∀ L, Qp L (Qf 9 1 wa (a :: w).length ((a :: w).map C.s) :: ([] ++ p.facts)) 9 1 wa (a :: w).length ((a :: w).map C.s) := fun L => .inr fun m h => h.1
 repeat' first | refine Qa.no h35 ?_ | refine Qa.no h1 ?_ | refine Qa.no h2 ?_ | refine Qa.no h3 ?_ | refine Qa.no h4 ?_ | refine Qa.no h5 ?_ | refine Wk ?_ | refine Qa.mk (fun h => ?_) (fun h => ?_) | refine Qd.mk (fun ad => ?_) | refine Qr.a 9 1 _ (hrw _) ?_ | refine Qi.mk 9 _ _ _ (hrw _) (by omega) (by omega) (by omega) hc0 ?_ | exact Qe.mk [] p.facts ⟨p, fun h => (by cases h), id, rfl, rfl, rfl⟩ (Qb.dropAll.trans (Qb.facts fun m h => h.2))
theorem PR (p : PolM) (s : Bs) (q : P3) (hs : s.length ≤ 1000000) (hW : QA Qk s = [wGroup]) : FnS prog 82 [.agg p.cells, .c (.s s)] [] p.facts (Yp p (false, q)) := by
 have c1 := Xi s hs
 rw [hW] at c1
 have hWl : ([wGroup] : List Bs).length = 1 := rfl
 have hp : 0 < wGroup.length := by decide
 have hc0 : ((([wGroup] : List Bs).map C.s).drop (0 * 1 + 0)).take 1 = [C.s wGroup] := rfl
 have h35 : ¬ (((wGroup.getD (0 : Int).toNat 0).toNat : Int) = 35) := by decide
 have h1 : wGroup = wGroup := rfl
 refine FJ 0 func82 ntmps82 (fun G => ?_)
 repeat' first | refine QF (c := .seq (.seq (.region 2 _ _) _) _) ?_ | refine Wk ?_ | refine Qa.mk (fun h => ?_) (fun h => ?_) | refine Qd.mk (fun ad => ?_) | refine Qc.mk [] _ [] _ c1 QW QX (fun v L' D' hp => ?_); obtain ⟨wa, wc, rfl, rfl, rfl⟩ := hp
 refine ⟨?_⟩
 refine XX QT (fun hnc _ _ => ?_)
 refine VE (n' := 2) Qb.toFact ?_
 have hrw : ∀ L, Qp L (Qf 9 1 wa ([wGroup]).length (([wGroup]).map C.s) :: ([] ++ p.facts)) 9 1 wa ([wGroup]).length (([wGroup]).map C.s) := fun L => .inr fun m h => h.1
 repeat' first | refine Qa.no h35 ?_ | refine Qa.yes h1 ?_ | refine Wk ?_ | refine Qa.mk (fun h => ?_) (fun h => ?_) | refine Qd.mk (fun ad => ?_) | refine Qr.a 9 1 _ (hrw _) ?_ | refine Qi.mk 9 _ _ _ (hrw _) (by omega) (by omega) (by omega) hc0 ?_ | exact Qe.mk [] p.facts ⟨p, fun h => (by cases h), id, rfl, rfl, rfl⟩ (Qb.dropAll.trans (Qb.facts fun m h => h.2))
theorem R7 (p : PolM) (s b : Bs) (w : List Bs) (hs : s.length ≤ 1000000) (hl : p.gs.length ≤ 1000000) (hW : QA Qk s = wGroup :: b :: w) : FnS prog 82 [.agg p.cells, .c (.s s)] [] p.facts (Yp p (true, (XU p.gs ++ [(b, w)], p.rs, p.xs))) := by
 have c1 := Xi s hs
 have hwl := vw (p := Qk) s []
 rw [show QB Qk [] s = QA Qk s from rfl] at hwl
 rw [hW] at c1 hwl
 have hWl : (wGroup :: b :: w).length = w.length + 2 := rfl
 have hp : 0 < wGroup.length := by decide
 have hc0 : (((wGroup :: b :: w).map C.s).drop (0 * 1 + 0)).take 1 = [C.s wGroup] := rfl
 have hc1 : (((wGroup :: b :: w).map C.s).drop (1 * 1 + 0)).take 1 = [C.s b] := rfl
 have h35 : ¬ (((wGroup.getD (0 : Int).toNat 0).toNat : Int) = 35) := by decide
 have h1 : wGroup = wGroup := rfl
 have hgl : (YR p.gs).length = p.gs.length * 2 := Q7 (F := JL.cells) (z := 2) (fun _ => rfl) p.gs
 refine FJ 0 func82 ntmps82 (fun G => ?_)
 repeat' first | refine QF (c := .seq (.seq (.region 2 _ _) _) _) ?_ | refine Wk ?_ | refine Qa.mk (fun h => ?_) (fun h => ?_) | refine Qd.mk (fun ad => ?_) | refine Qc.mk [] _ [] _ c1 QW QX (fun v L' D' hp => ?_); obtain ⟨wa, wc, rfl, rfl, rfl⟩ := hp
 refine ⟨?_⟩
 refine XX QT (fun hnc _ _ => ?_)
 refine VE (n' := 2) Qb.toFact ?_
 have hrw : ∀ L, Qp L (Qf 9 1 wa (wGroup :: b :: w).length ((wGroup :: b :: w).map C.s) :: ([] ++ p.facts)) 9 1 wa (wGroup :: b :: w).length ((wGroup :: b :: w).map C.s) := fun L => .inr fun m h => h.1
 have hsub : ∀ m, QI m (Qf 9 1 wa (wGroup :: b :: w).length ((wGroup :: b :: w).map C.s) :: ([] ++ p.facts)) → Z8 m 0 1 (Z9 wa 2 wc 1) w.length (w.map C.s) := fun m h => by
  have := wE (lo := 2) (hi := (wGroup :: b :: w).length) h.1 (by omega) (Nat.le_refl _) hnc
  rw [List.take_of_length_le (by simp)] at this
  exact this
 repeat' first | refine Qa.no h35 ?_ | refine Qa.yes h1 ?_ | refine QF (c := .seq (.region 9 _ _) _) ?_ | refine Wk ?_ | refine Qa.mk (fun h => ?_) (fun h => ?_) | refine Qd.mk (fun ad => ?_) | refine Qr.a 9 1 _ (hrw _) ?_ | refine Qi.mk 9 _ _ _ (hrw _) (by omega) (by omega) (by omega) hc0 ?_ | refine Qi.mk 9 _ _ _ (hrw _) (by omega) (by omega) (by omega) hc1 ?_ | refine Dz (id := 8) [0,1,3,0,8,24,0,64,199,511,1023,2047,4095,8191] [0,1,3,4,5,6,7,2,8,9,10,11,12,13] [2,8,10,11,13] [2,38] 13 false ?_ | refine Dz (id := 15) [0,1,3,0,8,24,56,0,128,384,903,0,2048,6144,0,32767,65535,131071,262143,524287] [0,1,3,4,5,6,7,8,9,11,12,13,14,2,10,15,16,17,18,19] [2,16,17,19] [2,7,72,76,80] 19 false ?_ | refine ZF (id := 22) tyOK (by kernel_rfl) [0, 1, 3, 0, 8, 24, 56, 0, 128, 384, 0, 0, 4088, 8184, 16383, 32767, 65535] [0, 1, 3, 4, 5, 6, 7, 8, 9, 10, 11, 12] 2 [13, 14, 15, 16] 13 [2, 14, 15, 16] [2, 13, 14, 16] [2, 9, 107, 111] 16 false (by kernel_rfl) ?_ | refine X3.mk ?_ ?_ | refine Qt.mk Qb.a ?_ | refine QK.nil (YR p.gs) p.gs.length rfl rfl rfl (QJ.sl 0 163 _ _ _ _ _ rfl rfl (.inr fun m h => h.2.1) hgl) (by show p.gs.length * 40 ≤ _; omega) (fun a1 k1 => ?_) | refine QK.nil (w.map C.s) w.length rfl rfl rfl (QJ.sl 0 9 _ _ _ _ _ rfl rfl (.inr hsub) (by simp)) (by show w.length * 16 ≤ _; omega) (fun a2 k2 => ?_) | refine QK.row [_, _] [_, _] (YR p.gs) [.s b, .sl a2 w.length k2] 1 rfl (QJ.sl 163 163 _ _ 1 1 _ rfl rfl (.inl ⟨1, QT⟩) rfl) (by show (p.gs.length + 1) * 40 ≤ _; omega) (fun a3 k3 => ?_)
 refine ⟨?_⟩
 refine XX XQ (fun hnc3 _ _ => ?_)
 repeat' first | refine Wk ?_ | refine Qa.mk (fun h => ?_) (fun h => ?_) | refine Qd.mk (fun ad => ?_) | exact Qe.mk [] ({ p with ga := a3, gc := k3, gs := p.gs ++ [⟨b, a2, k2, w⟩] } : PolM).facts ⟨{ p with ga := a3, gc := k3, gs := p.gs ++ [⟨b, a2, k2, w⟩] }, fun _ => (by simp [PolM.p3, XU]), fun _ => (by show (p.gs ++ [_]).length ≤ k3; rw [List.length_append]; exact hnc3), (by show _ = V.t2 (V.agg [.sl a3 (p.gs ++ [_]).length k3, _, _]) _; rw [List.length_append]; rfl), rfl, rfl⟩ (Qb.drop.trans (Qb.toFact.trans (Qb.toFact.trans (Qb.dropAll.trans (Qb.facts fun m h => ⟨(by show Z8 m 0 2 a3 (p.gs ++ [_]).length (YR (p.gs ++ [_])); rw [S1, List.length_append]; exact h.1), vV h.2.2.2.2.1 h.2.1, h.2.2.2.2.2.1, h.2.2.2.2.2.2.1, trivial⟩)))))
theorem R4 (p : PolM) (s a : Bs) (w : List Bs) (hs : s.length ≤ 1000000) (hW : QA Qk s = a :: w) (ha : a = wAllow ∨ a = wDeny) (h : w.length < 3) : FnS prog 82 [.agg p.cells, .c (.s s)] [] p.facts (Yp p (false, p.p3)) := by
 have c1 := Xi s hs
 rw [hW] at c1
 have hWl : (a :: w).length = w.length + 1 := rfl
 have hc0 : (((a :: w).map C.s).drop (0 * 1 + 0)).take 1 = [C.s a] := rfl
 have hp : 0 < a.length := by rcases ha with rfl | rfl <;> decide
 have h35 : ¬ (((a.getD (0 : Int).toNat 0).toNat : Int) = 35) := by rcases ha with rfl | rfl <;> decide
 have h1 : ¬ a = wGroup := by rcases ha with rfl | rfl <;> decide
 refine FJ 0 func82 ntmps82 (fun G => ?_)
 repeat' first | refine QF (c := .seq (.seq (.region 2 _ _) _) _) ?_ | refine Wk ?_ | refine Qa.mk (fun h => ?_) (fun h => ?_) | refine Qd.mk (fun ad => ?_) | refine Qc.mk [] _ [] _ c1 QW QX (fun v L' D' hp => ?_); obtain ⟨wa, wc, rfl, rfl, rfl⟩ := hp
 refine ⟨?_⟩
 refine XX QT (fun hnc _ _ => ?_)
 refine VE (n' := 2) Qb.toFact ?_
 have hrw : ∀ L, Qp L (Qf 9 1 wa (a :: w).length ((a :: w).map C.s) :: ([] ++ p.facts)) 9 1 wa (a :: w).length ((a :: w).map C.s) := fun L => .inr fun m h => h.1
 rcases ha with ha | ha
 ·repeat' first | refine Qa.no h35 ?_ | refine Qa.no h1 ?_ | refine Qa.yes ha ?_ | refine Wk ?_ | refine Qa.mk (fun h => ?_) (fun h => ?_) | refine Qd.mk (fun ad => ?_) | refine Qr.a 9 1 _ (hrw _) ?_ | refine Qi.mk 9 _ _ _ (hrw _) (by omega) (by omega) (by omega) hc0 ?_ | exact Qe.mk [] p.facts ⟨p, fun h => (by cases h), id, rfl, rfl, rfl⟩ (Qb.dropAll.trans (Qb.facts fun m h => h.2))
 ·have h2 : ¬ a = wAllow := by rw [ha]; decide
  repeat' first | refine Qa.no h35 ?_ | refine Qa.no h1 ?_ | refine Qa.no h2 ?_ | refine Qa.yes ha ?_ | refine Wk ?_ | refine Qa.mk (fun h => ?_) (fun h => ?_) | refine Qd.mk (fun ad => ?_) | refine Qr.a 9 1 _ (hrw _) ?_ | refine Qi.mk 9 _ _ _ (hrw _) (by omega) (by omega) (by omega) hc0 ?_ | exact Qe.mk [] p.facts ⟨p, fun h => (by cases h), id, rfl, rfl, rfl⟩ (Qb.dropAll.trans (Qb.facts fun m h => h.2))
theorem LG (p : PolM) (s a b c d : Bs) (w : List Bs) (hs : s.length ≤ 1000000) (hl : p.rs.length ≤ 1000000) (hW : QA Qk s = a :: b :: c :: d :: w) (ha : a = wAllow ∨ a = wDeny) : FnS prog 82 [.agg p.cells, .c (.s s)] [] p.facts (Yp p (wM p.p3 (decide (a = wAllow)) (b :: c :: d :: w) (Q8 s 3))) := by
 have c1 := Xi s hs
 rw [hW] at c1
 have hWl : (a :: b :: c :: d :: w).length = w.length + 4 := rfl
 have hc0 : (((a :: b :: c :: d :: w).map C.s).drop (0 * 1 + 0)).take 1 = [C.s a] := rfl
 have hc1 : (((a :: b :: c :: d :: w).map C.s).drop (1 * 1 + 0)).take 1 = [C.s b] := rfl
 have hc2 : (((a :: b :: c :: d :: w).map C.s).drop (2 * 1 + 0)).take 1 = [C.s c] := rfl
 have hp : 0 < a.length := by rcases ha with rfl | rfl <;> decide
 have h35 : ¬ (((a.getD (0 : Int).toNat 0).toNat : Int) = 35) := by rcases ha with rfl | rfl <;> decide
 have h1 : ¬ a = wGroup := by rcases ha with rfl | rfl <;> decide
 have c2 := TE b
 have c3 := wS s 3 hs (by omega)
 have c4 := UN (Q8 s 3) (by have := GT s 3; omega)
 have hrl : (wO p.rs).length = p.rs.length * 6 := Q7 (F := Pf.cells) (z := 6) (fun _ => rfl) p.rs
 have hR : wM p.p3 (decide (a = wAllow)) (b :: c :: d :: w) (Q8 s 3) = if Xc QU b + 1 = 0 then (false, p.p3) else ((JE (Q8 s 3)).2, if (JE (Q8 s 3)).2 = true then (XU p.gs, p.rs ++ [⟨decide (a = wAllow), Xc QU b + 1, c, (JE (Q8 s 3)).1.1, (JE (Q8 s 3)).1.2.1, (JE (Q8 s 3)).1.2.2⟩], p.xs) else p.p3) := by
  unfold wM
  rw [R1]
  generalize JE (Q8 s 3) = v
  obtain ⟨⟨k, sp, nm⟩, ok⟩ := v
  have hlen : ¬ (b :: c :: d :: w).length < 3 := by simp
  simp only [hlen, false_or, List.getD_cons_zero]
  split
  ·rfl
  ·cases ok <;> rfl
 rw [hR]
 clear hR
 generalize JE (Q8 s 3) = v at *
 obtain ⟨⟨k, sp, nm⟩, ok⟩ := v
 have hk := Wg QU b
 rw [show (QU.length : Int) = 5 from rfl] at hk
 generalize Xc QU b = z at *
 generalize Q8 s 3 = x at *
 simp only at c4 ⊢
 refine FJ 0 func82 ntmps82 (fun G => ?_)
 repeat' first | refine QF (c := .seq (.seq (.region 2 _ _) _) _) ?_ | refine Wk ?_ | refine Qa.mk (fun h => ?_) (fun h => ?_) | refine Qd.mk (fun ad => ?_) | refine Qc.mk [] _ [] _ c1 QW QX (fun v L' D' hp => ?_); obtain ⟨wa, wc, rfl, rfl, rfl⟩ := hp
 refine ⟨?_⟩
 refine XX QT (fun hnc _ _ => ?_)
 refine VE (n' := 2) Qb.toFact ?_
 have hrw : ∀ L, Qp L (Qf 9 1 wa (a :: b :: c :: d :: w).length ((a :: b :: c :: d :: w).map C.s) :: ([] ++ p.facts)) 9 1 wa (a :: b :: c :: d :: w).length ((a :: b :: c :: d :: w).map C.s) := fun L => .inr fun m h => h.1
 by_cases hz : z + 1 = 0
 ·rw [if_pos hz]
  rcases ha with ha | ha
  ·repeat' first | refine Qa.no h35 ?_ | refine Qa.no h1 ?_ | refine Qa.yes ha ?_ | refine Wk ?_ | refine Qa.mk (fun h => ?_) (fun h => ?_) | refine Qd.mk (fun ad => ?_) | refine Qr.a 9 1 _ (hrw _) ?_ | refine Qi.mk 9 _ _ _ (hrw _) (by omega) (by omega) (by omega) hc0 ?_ | refine Qi.mk 9 _ _ _ (hrw _) (by omega) (by omega) (by omega) hc1 ?_ | refine Qc.is c2 ?_ | exact Qe.mk [] p.facts ⟨p, fun h => (by cases h), id, rfl, rfl, rfl⟩ (Qb.dropAll.trans (Qb.facts fun m h => h.2))
  ·have h2 : ¬ a = wAllow := by rw [ha]; decide
   repeat' first | refine Qa.no h35 ?_ | refine Qa.no h1 ?_ | refine Qa.no h2 ?_ | refine Qa.yes ha ?_ | refine Wk ?_ | refine Qa.mk (fun h => ?_) (fun h => ?_) | refine Qd.mk (fun ad => ?_) | refine Qr.a 9 1 _ (hrw _) ?_ | refine Qi.mk 9 _ _ _ (hrw _) (by omega) (by omega) (by omega) hc0 ?_ | refine Qi.mk 9 _ _ _ (hrw _) (by omega) (by omega) (by omega) hc1 ?_ | refine Qc.is c2 ?_ | exact Qe.mk [] p.facts ⟨p, fun h => (by cases h), id, rfl, rfl, rfl⟩ (Qb.dropAll.trans (Qb.facts fun m h => h.2))
 rw [if_neg hz]
 rcases ha with ha | ha
 ·rw [decide_eq_true ha]
  repeat' first | refine Qa.no h35 ?_ | refine Qa.no h1 ?_ | refine Qa.yes ha ?_ | refine Wk ?_ | refine Qa.mk (fun h => ?_) (fun h => ?_) | refine Qd.mk (fun ad => ?_) | refine Qr.a 9 1 _ (hrw _) ?_ | refine Qi.mk 9 _ _ _ (hrw _) (by omega) (by omega) (by omega) hc0 ?_ | refine Qi.mk 9 _ _ _ (hrw _) (by omega) (by omega) (by omega) hc1 ?_ | refine Qi.mk 9 _ _ _ (hrw _) (by omega) (by omega) (by omega) hc2 ?_ | refine Qc.is c2 ?_ | refine Qc.is c3 ?_ | refine Qc.is c4 ?_ | refine Dz (id := 8) [0,1,3,0,8,24,0,64,199,511,1023,2047,4095,8191] [0,1,3,4,5,6,7,2,8,9,10,11,12,13] [2,8,10,11,13] [2,38] 13 false ?_ | refine Dz (id := 15) [0,1,3,0,8,24,56,0,128,384,903,0,2048,6144,0,32767,65535,131071,262143,524287] [0,1,3,4,5,6,7,8,9,11,12,13,14,2,10,15,16,17,18,19] [2,16,17,19] [2,7,72,76,80] 19 false ?_ | refine ZF (id := 22) tyOK (by kernel_rfl) [0, 1, 3, 0, 8, 24, 56, 0, 128, 384, 0, 0, 4088, 8184, 16383, 32767, 65535] [0, 1, 3, 4, 5, 6, 7, 8, 9, 10, 11, 12] 2 [13, 14, 15, 16] 13 [2, 14, 15, 16] [2, 13, 14, 16] [2, 9, 107, 111] 16 false (by kernel_rfl) ?_ | refine X3.mk ?_ ?_ | refine Qt.mk Qb.a ?_ | refine Qx.mk [] _ c2 QX ?_ | refine QK.nil (wO p.rs) p.rs.length rfl rfl rfl (QJ.sl 0 171 _ _ _ _ _ rfl rfl (.inr fun m h => h.2.2.2.1) hrl) (by show p.rs.length * 64 ≤ _; omega) (fun a1 k1 => ?_) | refine QK.row [_] [_, _, _] (wO p.rs) _ 1 rfl (QJ.sl 171 171 _ _ 1 1 _ rfl rfl (.inl ⟨1, QT⟩) rfl) (by show (p.rs.length + 1) * 64 ≤ _; omega) (fun a3 k3 => ?_) | exact Qe.mk [] ({ p with ra := a3, rc := k3, rs := p.rs ++ [⟨true, z + 1, c, k, sp, nm⟩] } : PolM).facts ⟨{ p with ra := a3, rc := k3, rs := p.rs ++ [⟨true, z + 1, c, k, sp, nm⟩] }, (by intro h; first | rfl | (cases h; done) | (simp at h; subst h; simp [PolM.p3])), id, (by show _ = V.t2 (V.agg [_, .sl a3 (p.rs ++ [_]).length k3, _]) _; rw [List.length_append]; rfl), rfl, rfl⟩ (Qb.drop.trans (Qb.toFact.trans (Qb.dropAll.trans (Qb.facts fun m h => ⟨h.2.2.1, h.2.2.2.1, (by show Z8 m 0 6 a3 (p.rs ++ [_]).length (wO (p.rs ++ [_])); rw [VX, List.length_append]; exact h.1), h.2.2.2.2.2.1, trivial⟩))))
 ·have h2 : ¬ a = wAllow := by rw [ha]; decide
  rw [decide_eq_false h2]
  repeat' first | refine Qa.no h35 ?_ | refine Qa.no h1 ?_ | refine Qa.no h2 ?_ | refine Qa.yes ha ?_ | refine Wk ?_ | refine Qa.mk (fun h => ?_) (fun h => ?_) | refine Qd.mk (fun ad => ?_) | refine Qr.a 9 1 _ (hrw _) ?_ | refine Qi.mk 9 _ _ _ (hrw _) (by omega) (by omega) (by omega) hc0 ?_ | refine Qi.mk 9 _ _ _ (hrw _) (by omega) (by omega) (by omega) hc1 ?_ | refine Qi.mk 9 _ _ _ (hrw _) (by omega) (by omega) (by omega) hc2 ?_ | refine Qc.is c2 ?_ | refine Qc.is c3 ?_ | refine Qc.is c4 ?_ | refine Dz (id := 8) [0,1,3,0,8,24,0,64,199,511,1023,2047,4095,8191] [0,1,3,4,5,6,7,2,8,9,10,11,12,13] [2,8,10,11,13] [2,38] 13 false ?_ | refine Dz (id := 15) [0,1,3,0,8,24,56,0,128,384,903,0,2048,6144,0,32767,65535,131071,262143,524287] [0,1,3,4,5,6,7,8,9,11,12,13,14,2,10,15,16,17,18,19] [2,16,17,19] [2,7,72,76,80] 19 false ?_ | refine ZF (id := 22) tyOK (by kernel_rfl) [0, 1, 3, 0, 8, 24, 56, 0, 128, 384, 0, 0, 4088, 8184, 16383, 32767, 65535] [0, 1, 3, 4, 5, 6, 7, 8, 9, 10, 11, 12] 2 [13, 14, 15, 16] 13 [2, 14, 15, 16] [2, 13, 14, 16] [2, 9, 107, 111] 16 false (by kernel_rfl) ?_ | refine X3.mk ?_ ?_ | refine Qt.mk Qb.a ?_ | refine Qx.mk [] _ c2 QX ?_ | refine QK.nil (wO p.rs) p.rs.length rfl rfl rfl (QJ.sl 0 171 _ _ _ _ _ rfl rfl (.inr fun m h => h.2.2.2.1) hrl) (by show p.rs.length * 64 ≤ _; omega) (fun a1 k1 => ?_) | refine QK.row [_] [_, _, _] (wO p.rs) _ 1 rfl (QJ.sl 171 171 _ _ 1 1 _ rfl rfl (.inl ⟨1, QT⟩) rfl) (by show (p.rs.length + 1) * 64 ≤ _; omega) (fun a3 k3 => ?_) | exact Qe.mk [] ({ p with ra := a3, rc := k3, rs := p.rs ++ [⟨false, z + 1, c, k, sp, nm⟩] } : PolM).facts ⟨{ p with ra := a3, rc := k3, rs := p.rs ++ [⟨false, z + 1, c, k, sp, nm⟩] }, (by intro h; first | rfl | (cases h; done) | (simp at h; subst h; simp [PolM.p3])), id, (by show _ = V.t2 (V.agg [_, .sl a3 (p.rs ++ [_]).length k3, _]) _; rw [List.length_append]; rfl), rfl, rfl⟩ (Qb.drop.trans (Qb.toFact.trans (Qb.dropAll.trans (Qb.facts fun m h => ⟨h.2.2.1, h.2.2.2.1, (by show Z8 m 0 6 a3 (p.rs ++ [_]).length (wO (p.rs ++ [_])); rw [VX, List.length_append]; exact h.1), h.2.2.2.2.2.1, trivial⟩))))
theorem PQ (p : PolM) (s a : Bs) (w : List Bs) (hs : s.length ≤ 1000000) (hW : QA Qk s = a :: w) (ha : a = wGuard ∨ a = wStrict) (h : w.length < 2) : FnS prog 82 [.agg p.cells, .c (.s s)] [] p.facts (Yp p (false, p.p3)) := by
 have c1 := Xi s hs
 rw [hW] at c1
 have hWl : (a :: w).length = w.length + 1 := rfl
 have hc0 : (((a :: w).map C.s).drop (0 * 1 + 0)).take 1 = [C.s a] := rfl
 have hp : 0 < a.length := by rcases ha with rfl | rfl <;> decide
 have h35 : ¬ (((a.getD (0 : Int).toNat 0).toNat : Int) = 35) := by rcases ha with rfl | rfl <;> decide
 have h1 : ¬ a = wGroup := by rcases ha with rfl | rfl <;> decide
 have h2 : ¬ a = wAllow := by rcases ha with rfl | rfl <;> decide
 have h3 : ¬ a = wDeny := by rcases ha with rfl | rfl <;> decide
 refine FJ 0 func82 ntmps82 (fun G => ?_)
 repeat' first | refine QF (c := .seq (.seq (.region 2 _ _) _) _) ?_ | refine Wk ?_ | refine Qa.mk (fun h => ?_) (fun h => ?_) | refine Qd.mk (fun ad => ?_) | refine Qc.mk [] _ [] _ c1 QW QX (fun v L' D' hp => ?_); obtain ⟨wa, wc, rfl, rfl, rfl⟩ := hp
 refine ⟨?_⟩
 refine XX QT (fun hnc _ _ => ?_)
 refine VE (n' := 2) Qb.toFact ?_
 have hrw : ∀ L, Qp L (Qf 9 1 wa (a :: w).length ((a :: w).map C.s) :: ([] ++ p.facts)) 9 1 wa (a :: w).length ((a :: w).map C.s) := fun L => .inr fun m h => h.1
 rcases ha with ha | ha
 ·repeat' first | refine Qa.no h35 ?_ | refine Qa.no h1 ?_ | refine Qa.no h2 ?_ | refine Qa.no h3 ?_ | refine Qa.yes ha ?_ | refine Wk ?_ | refine Qa.mk (fun h => ?_) (fun h => ?_) | refine Qd.mk (fun ad => ?_) | refine Qr.a 9 1 _ (hrw _) ?_ | refine Qi.mk 9 _ _ _ (hrw _) (by omega) (by omega) (by omega) hc0 ?_ | exact Qe.mk [] p.facts ⟨p, fun h => (by cases h), id, rfl, rfl, rfl⟩ (Qb.dropAll.trans (Qb.facts fun m h => h.2))
 ·have h4 : ¬ a = wGuard := by rw [ha]; decide
  repeat' first | refine Qa.no h35 ?_ | refine Qa.no h1 ?_ | refine Qa.no h2 ?_ | refine Qa.no h3 ?_ | refine Qa.no h4 ?_ | refine Qa.yes ha ?_ | refine Wk ?_ | refine Qa.mk (fun h => ?_) (fun h => ?_) | refine Qd.mk (fun ad => ?_) | refine Qr.a 9 1 _ (hrw _) ?_ | refine Qi.mk 9 _ _ _ (hrw _) (by omega) (by omega) (by omega) hc0 ?_ | exact Qe.mk [] p.facts ⟨p, fun h => (by cases h), id, rfl, rfl, rfl⟩ (Qb.dropAll.trans (Qb.facts fun m h => h.2))
theorem R6 (p : PolM) (s a b c : Bs) (w : List Bs) (hs : s.length ≤ 1000000) (hl : p.xs.length ≤ 1000000) (hW : QA Qk s = a :: b :: c :: w) (ha : a = wGuard ∨ a = wStrict) : FnS prog 82 [.agg p.cells, .c (.s s)] [] p.facts (Yp p (qg p.p3 (decide (a = wStrict)) (b :: c :: w) (Q8 s 2))) := by
 have c1 := Xi s hs
 rw [hW] at c1
 have hWl : (a :: b :: c :: w).length = w.length + 3 := rfl
 have hc0 : (((a :: b :: c :: w).map C.s).drop (0 * 1 + 0)).take 1 = [C.s a] := rfl
 have hc1 : (((a :: b :: c :: w).map C.s).drop (1 * 1 + 0)).take 1 = [C.s b] := rfl
 have hp : 0 < a.length := by rcases ha with rfl | rfl <;> decide
 have h35 : ¬ (((a.getD (0 : Int).toNat 0).toNat : Int) = 35) := by rcases ha with rfl | rfl <;> decide
 have h1 : ¬ a = wGroup := by rcases ha with rfl | rfl <;> decide
 have h2 : ¬ a = wAllow := by rcases ha with rfl | rfl <;> decide
 have h3 : ¬ a = wDeny := by rcases ha with rfl | rfl <;> decide
 have c3 := wS s 2 hs (by omega)
 have c4 := UO (Q8 s 2) (by have := GT s 2; omega)
 have hxl : (kD p.xs).length = p.xs.length * 5 := Q7 (F := Ph.cells) (z := 5) (fun _ => rfl) p.xs
 have hR : qg p.p3 (decide (a = wStrict)) (b :: c :: w) (Q8 s 2) = ((qj (Q8 s 2)).2.2, if (qj (Q8 s 2)).2.2 = true then (XU p.gs, p.rs, p.xs ++ [⟨decide (a = wStrict), b, (qj (Q8 s 2)).1.1, (qj (Q8 s 2)).1.2, (qj (Q8 s 2)).2.1⟩]) else p.p3) := by
  rw [S0 (by simp)]
  generalize qj (Q8 s 2) = v
  obtain ⟨⟨sp, nm⟩, sec, ok⟩ := v
  cases ok <;> rfl
 rw [hR]
 clear hR
 generalize qj (Q8 s 2) = v at *
 obtain ⟨⟨sp, nm⟩, sec, ok⟩ := v
 generalize Q8 s 2 = x at *
 simp only at c4 ⊢
 refine FJ 0 func82 ntmps82 (fun G => ?_)
 repeat' first | refine QF (c := .seq (.seq (.region 2 _ _) _) _) ?_ | refine Wk ?_ | refine Qa.mk (fun h => ?_) (fun h => ?_) | refine Qd.mk (fun ad => ?_) | refine Qc.mk [] _ [] _ c1 QW QX (fun v L' D' hp => ?_); obtain ⟨wa, wc, rfl, rfl, rfl⟩ := hp
 refine ⟨?_⟩
 refine XX QT (fun hnc _ _ => ?_)
 refine VE (n' := 2) Qb.toFact ?_
 have hrw : ∀ L, Qp L (Qf 9 1 wa (a :: b :: c :: w).length ((a :: b :: c :: w).map C.s) :: ([] ++ p.facts)) 9 1 wa (a :: b :: c :: w).length ((a :: b :: c :: w).map C.s) := fun L => .inr fun m h => h.1
 rcases ha with ha | ha
 ·have h5 : ¬ a = wStrict := by rw [ha]; decide
  rw [decide_eq_false h5]
  repeat' first | refine Qa.no h35 ?_ | refine Qa.no h1 ?_ | refine Qa.no h2 ?_ | refine Qa.no h3 ?_ | refine Qa.no h5 ?_ | refine Qa.yes ha ?_ | refine Wk ?_ | refine Qa.mk (fun h => ?_) (fun h => ?_) | refine Qd.mk (fun ad => ?_) | refine Qr.a 9 1 _ (hrw _) ?_ | refine Qi.mk 9 _ _ _ (hrw _) (by omega) (by omega) (by omega) hc0 ?_ | refine Qi.mk 9 _ _ _ (hrw _) (by omega) (by omega) (by omega) hc1 ?_ | refine Qc.is c3 ?_ | refine Qc.is c4 ?_ | refine Dz (id := 8) [0,1,3,0,8,24,0,64,199,511,1023,2047,4095,8191] [0,1,3,4,5,6,7,2,8,9,10,11,12,13] [2,8,10,11,13] [2,38] 13 false ?_ | refine Dz (id := 15) [0,1,3,0,8,24,56,0,128,384,903,0,2048,6144,0,32767,65535,131071,262143,524287] [0,1,3,4,5,6,7,8,9,11,12,13,14,2,10,15,16,17,18,19] [2,16,17,19] [2,7,72,76,80] 19 false ?_ | refine ZF (id := 22) tyOK (by kernel_rfl) [0, 1, 3, 0, 8, 24, 56, 0, 128, 384, 0, 0, 4088, 8184, 16383, 32767, 65535] [0, 1, 3, 4, 5, 6, 7, 8, 9, 10, 11, 12] 2 [13, 14, 15, 16] 13 [2, 14, 15, 16] [2, 13, 14, 16] [2, 9, 107, 111] 16 false (by kernel_rfl) ?_ | refine X3.mk ?_ ?_ | refine Qt.mk Qb.a ?_ | refine QK.nil (kD p.xs) p.xs.length rfl rfl rfl (QJ.sl 0 175 _ _ _ _ _ rfl rfl (.inr fun m h => h.2.2.2.2.1) hxl) (by show p.xs.length * 64 ≤ _; omega) (fun a1 k1 => ?_) | refine QK.row [_] [_, _, _] (kD p.xs) _ 1 rfl (QJ.sl 175 175 _ _ 1 1 _ rfl rfl (.inl ⟨1, QT⟩) rfl) (by show (p.xs.length + 1) * 64 ≤ _; omega) (fun a3 k3 => ?_) | refine QK.row [] [_, _, _, _] (kD p.xs) _ 1 rfl (QJ.sl 175 175 _ _ 1 1 _ rfl rfl (.inl ⟨1, ZR⟩) rfl) (by show (p.xs.length + 1) * 64 ≤ _; omega) (fun a3 k3 => ?_) | exact Qe.mk [] ({ p with xa := a3, xc := k3, xs := p.xs ++ [⟨false, b, sp, nm, sec⟩] } : PolM).facts ⟨{ p with xa := a3, xc := k3, xs := p.xs ++ [⟨false, b, sp, nm, sec⟩] }, (by intro h; first | rfl | (cases h; done) | (simp at h; subst h; simp [PolM.p3])), id, (by show _ = V.t2 (V.agg [_, _, .sl a3 (p.xs ++ [_]).length k3]) _; rw [List.length_append]; rfl), rfl, rfl⟩ (Qb.drop.trans (Qb.toFact.trans (Qb.dropAll.trans (Qb.facts fun m h => ⟨h.2.2.1, h.2.2.2.1, h.2.2.2.2.1, (by show Z8 m 0 5 a3 (p.xs ++ [_]).length (kD (p.xs ++ [_])); rw [VG, List.length_append]; exact h.1), trivial⟩)))) | exact Qe.mk [] ({ p with xa := a3, xc := k3, xs := p.xs ++ [⟨false, b, sp, nm, sec⟩] } : PolM).facts ⟨{ p with xa := a3, xc := k3, xs := p.xs ++ [⟨false, b, sp, nm, sec⟩] }, (by intro h; first | rfl | (cases h; done) | (simp at h; subst h; simp [PolM.p3])), id, (by show _ = V.t2 (V.agg [_, _, .sl a3 (p.xs ++ [_]).length k3]) _; rw [List.length_append]; rfl), rfl, rfl⟩ ((Qb.toFact.trans (Qb.dropAll.trans (Qb.facts fun m h => ⟨h.2.2.1, h.2.2.2.1, h.2.2.2.2.1, (by show Z8 m 0 5 a3 (p.xs ++ [_]).length (kD (p.xs ++ [_])); rw [VG, List.length_append]; exact h.1), trivial⟩))))
 ·have h4 : ¬ a = wGuard := by rw [ha]; decide
  rw [decide_eq_true ha]
  repeat' first | refine Qa.no h35 ?_ | refine Qa.no h1 ?_ | refine Qa.no h2 ?_ | refine Qa.no h3 ?_ | refine Qa.no h4 ?_ | refine Qa.yes ha ?_ | refine Wk ?_ | refine Qa.mk (fun h => ?_) (fun h => ?_) | refine Qd.mk (fun ad => ?_) | refine Qr.a 9 1 _ (hrw _) ?_ | refine Qi.mk 9 _ _ _ (hrw _) (by omega) (by omega) (by omega) hc0 ?_ | refine Qi.mk 9 _ _ _ (hrw _) (by omega) (by omega) (by omega) hc1 ?_ | refine Qc.is c3 ?_ | refine Qc.is c4 ?_ | refine Dz (id := 8) [0,1,3,0,8,24,0,64,199,511,1023,2047,4095,8191] [0,1,3,4,5,6,7,2,8,9,10,11,12,13] [2,8,10,11,13] [2,38] 13 false ?_ | refine Dz (id := 15) [0,1,3,0,8,24,56,0,128,384,903,0,2048,6144,0,32767,65535,131071,262143,524287] [0,1,3,4,5,6,7,8,9,11,12,13,14,2,10,15,16,17,18,19] [2,16,17,19] [2,7,72,76,80] 19 false ?_ | refine ZF (id := 22) tyOK (by kernel_rfl) [0, 1, 3, 0, 8, 24, 56, 0, 128, 384, 0, 0, 4088, 8184, 16383, 32767, 65535] [0, 1, 3, 4, 5, 6, 7, 8, 9, 10, 11, 12] 2 [13, 14, 15, 16] 13 [2, 14, 15, 16] [2, 13, 14, 16] [2, 9, 107, 111] 16 false (by kernel_rfl) ?_ | refine X3.mk ?_ ?_ | refine Qt.mk Qb.a ?_ | refine QK.nil (kD p.xs) p.xs.length rfl rfl rfl (QJ.sl 0 175 _ _ _ _ _ rfl rfl (.inr fun m h => h.2.2.2.2.1) hxl) (by show p.xs.length * 64 ≤ _; omega) (fun a1 k1 => ?_) | refine QK.row [_] [_, _, _] (kD p.xs) _ 1 rfl (QJ.sl 175 175 _ _ 1 1 _ rfl rfl (.inl ⟨1, QT⟩) rfl) (by show (p.xs.length + 1) * 64 ≤ _; omega) (fun a3 k3 => ?_) | refine QK.row [] [_, _, _, _] (kD p.xs) _ 1 rfl (QJ.sl 175 175 _ _ 1 1 _ rfl rfl (.inl ⟨1, ZR⟩) rfl) (by show (p.xs.length + 1) * 64 ≤ _; omega) (fun a3 k3 => ?_) | exact Qe.mk [] ({ p with xa := a3, xc := k3, xs := p.xs ++ [⟨true, b, sp, nm, sec⟩] } : PolM).facts ⟨{ p with xa := a3, xc := k3, xs := p.xs ++ [⟨true, b, sp, nm, sec⟩] }, (by intro h; first | rfl | (cases h; done) | (simp at h; subst h; simp [PolM.p3])), id, (by show _ = V.t2 (V.agg [_, _, .sl a3 (p.xs ++ [_]).length k3]) _; rw [List.length_append]; rfl), rfl, rfl⟩ (Qb.drop.trans (Qb.toFact.trans (Qb.dropAll.trans (Qb.facts fun m h => ⟨h.2.2.1, h.2.2.2.1, h.2.2.2.2.1, (by show Z8 m 0 5 a3 (p.xs ++ [_]).length (kD (p.xs ++ [_])); rw [VG, List.length_append]; exact h.1), trivial⟩)))) | exact Qe.mk [] ({ p with xa := a3, xc := k3, xs := p.xs ++ [⟨true, b, sp, nm, sec⟩] } : PolM).facts ⟨{ p with xa := a3, xc := k3, xs := p.xs ++ [⟨true, b, sp, nm, sec⟩] }, (by intro h; first | rfl | (cases h; done) | (simp at h; subst h; simp [PolM.p3])), id, (by show _ = V.t2 (V.agg [_, _, .sl a3 (p.xs ++ [_]).length k3]) _; rw [List.length_append]; rfl), rfl, rfl⟩ ((Qb.toFact.trans (Qb.dropAll.trans (Qb.facts fun m h => ⟨h.2.2.1, h.2.2.2.1, h.2.2.2.2.1, (by show Z8 m 0 5 a3 (p.xs ++ [_]).length (kD (p.xs ++ [_])); rw [VG, List.length_append]; exact h.1), trivial⟩))))
end Go.Proofs
