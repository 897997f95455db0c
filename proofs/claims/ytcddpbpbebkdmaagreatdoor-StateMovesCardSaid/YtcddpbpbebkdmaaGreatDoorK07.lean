/- This text walks through BinarySearchFunc of the package slices at the types of states. -/
import Derived.Test.YtcddpbpbebkdmaaGreatDoorK03
import Derived.Test.YtcddpbpbebkdmaaGreatDoorK05
set_option linter.all false
namespace Go.Proofs
open Go Go.X Tryz
set_option maxRecDepth 100000
set_option maxHeartbeats 4000000
theorem Nu (a : Option Addr) (c : Nat) (l : List PGM) (sp : Int) (nm : Bs) (hl : l.length ≤ 1000) (hm : jh (QE sp nm) l) :
  FnS prog 248 [.c (.sl a l.length c), .agg [.i .i64 sp, .s nm], .c (.fn 249 [])] [.row 60 3 a l.length c (Qm l)] []
   (fun v L D => v = .t2 (.c (.i .i64 (kG (QE sp nm) l))) (.c (.b (ZJ (QE sp nm) l))) ∧ L = [.row 60 3 a l.length c (Qm l)] ∧ D = []) := by
 have hk := yk (QE sp nm) l
 have hlo : ∀ h, (hh : h < l.length) → h < kG (QE sp nm) l → (QE sp nm) l[h] < 0 := fun h hh hk => OY (cf := QE sp nm) hh hk
 have hhi : ∀ h, (hh : h < l.length) → kG (QE sp nm) l ≤ h → 0 ≤ (QE sp nm) l[h] := fun h hh hk => OZ (cf := QE sp nm) hm hh hk
 have hat : ∀ hh : kG (QE sp nm) l < l.length, ZJ (QE sp nm) l = decide ((QE sp nm) (l[kG (QE sp nm) l]) = 0) := fun hh => wb hh
 have hen : kG (QE sp nm) l = l.length → ZJ (QE sp nm) l = false := xR
 have hcc : ∀ h, (hh : h < l.length) → FnS prog 249 [.agg l[h].cells, .agg [.i .i64 sp, .s nm]] [] [] (Is (.c (.i .i64 ((QE sp nm) l[h])))) := fun h hh => HK l[h] sp nm
 generalize ZJ (QE sp nm) l = W at *
 generalize kG (QE sp nm) l = k at *
 refine FJ 0 func248 ntmps248 (fun G => ?_)
 repeat' first | refine Wk ?_ | refine Qa.mk (fun h => ?_) (fun h => ?_) | refine Qd.mk (fun ad => ?_)
 refine Qn (α := Nat × Nat) (fun x => [(0, .c (.sl a l.length c)), (2, .c (.fn 249 [])), (4, .c (.p 0 ad 0)), (8, .c (.i .i64 l.length)), (9, .c (.i .i64 x.1)), (10, .c (.i .i64 x.2))]) (fun _ => [.box 0 ad 45 [.i .i64 sp, .s nm], .row 60 3 a l.length c (Qm l)]) (fun _ => []) 1
  (fun x => x.1 ≤ k ∧ k ≤ x.2 ∧ x.2 ≤ l.length) (fun x => x.2 - x.1) (Qq.mk (0, l.length) ⟨Nat.zero_le _, hk, Nat.le_refl _⟩ Qh.a Qb.a) (fun x hx => ?_)
 obtain ⟨i, j⟩ := x
 dsimp only at hx ⊢
 obtain ⟨h1, h2, h3⟩ := hx
 by_cases hlt : i < j
 ·obtain ⟨md, hh⟩ : ∃ md : Nat, md = (i + j) / 2 := ⟨_, rfl⟩
  have hhl : md < l.length := by omega
  have hg := Z5 hhl
  have cc := hcc md hhl
  have g1 := hlo md hhl
  have g2 := hhi md hhl
  clear hlo hhi hat hen hcc
  generalize (QE sp nm) l[md] = q at *
  generalize l[md] = x at *
  have hfd : ((i : Int) + (j : Int)).fdiv (2 ^ min (Int.toNat 1) IntKind.u64.bits) = (md : Int) := by
   show ((i : Int) + (j : Int)).fdiv 2 = md
   rw [Int.fdiv_eq_ediv_of_nonneg _ (by decide)]; omega
  unfold PGM.cells at cc
  repeat' first | refine Wk ?_ | refine Qa.mk (fun h => ?_) (fun h => ?_) | refine Qd.mk (fun ad => ?_) | refine Ds (id := 5) [0,0,0,6,14,0,63,127] [0,1,2,3,4,5,6,7] [6] [4,27] true ?_ | refine Ds (id := 8) [0,0,0,6,14,30,30,30,222,478,30,2046,4094,8190,4095,32767] [0,1,2,3,4,5,6,7,8,9,10,11,12,13,14,15] [11] [4,43] true ?_ | refine Qt.mk Qb.a ?_ | refine Qr.mk 60 3 _ (.inl ⟨c, (by first | exact List.Mem.head _ | exact List.Mem.tail _ QT | exact List.Mem.tail _ ZR | exact List.Mem.tail _ XQ | exact List.Mem.tail _ X8)⟩) (by omega) (by omega) ?_ | refine Qi.mk 60 _ _ _ (.inl ⟨c, (by first | exact List.Mem.head _ | exact List.Mem.tail _ QT | exact List.Mem.tail _ ZR | exact List.Mem.tail _ XQ | exact List.Mem.tail _ X8)⟩) (by omega) (by omega) (by first | omega | decide) (by exact hg) ?_ | refine Qc.is cc ?_ | refine Qo.mk (md + 1, j) (by dsimp only; omega) (by dsimp only; omega) Qh.a Qb.a | refine Qo.mk (i, md) (by dsimp only; omega) (by dsimp only; omega) Qh.a Qb.a | rw [hfd]
 ·have hij : i = k := by omega
  subst hij
  clear hlo hhi
  by_cases hkl : i < l.length
  ·have hw := hat hkl
   have hg := Z5 hkl
   have cc := hcc i hkl
   clear hat hen hcc
   generalize (QE sp nm) l[i] = q at *
   generalize l[i] = x at *
   unfold PGM.cells at cc
   repeat' first | refine Wk ?_ | refine Qa.mk (fun h => ?_) (fun h => ?_) | refine Qd.mk (fun ad => ?_) | refine Ds (id := 5) [0,0,0,6,14,0,63,127] [0,1,2,3,4,5,6,7] [6] [4,27] true ?_ | refine Ds (id := 8) [0,0,0,6,14,30,30,30,222,478,30,2046,4094,8190,4095,32767] [0,1,2,3,4,5,6,7,8,9,10,11,12,13,14,15] [11] [4,43] true ?_ | refine Qt.mk Qb.a ?_ | refine Qr.mk 60 3 _ (.inl ⟨c, (by first | exact List.Mem.head _ | exact List.Mem.tail _ QT | exact List.Mem.tail _ ZR | exact List.Mem.tail _ XQ | exact List.Mem.tail _ X8)⟩) (by omega) (by omega) ?_ | refine Qi.mk 60 _ _ _ (.inl ⟨c, (by first | exact List.Mem.head _ | exact List.Mem.tail _ QT | exact List.Mem.tail _ ZR | exact List.Mem.tail _ XQ | exact List.Mem.tail _ X8)⟩) (by omega) (by omega) (by first | omega | decide) (by exact hg) ?_ | refine Qc.is cc ?_ | (rw [hw, decide_eq_true (show q = 0 by omega)]; refine Qe.mk [_] [] ⟨rfl, rfl, rfl⟩ Qb.a) | (rw [hw, decide_eq_false (show ¬ q = 0 by omega)]; refine Qe.mk [_] [] ⟨rfl, rfl, rfl⟩ Qb.a)
  ·rw [hen (by omega)]
   repeat' first | refine Wk ?_ | refine Qa.mk (fun h => ?_) (fun h => ?_) | refine Qd.mk (fun ad => ?_) | refine Ds (id := 5) [0,0,0,6,14,0,63,127] [0,1,2,3,4,5,6,7] [6] [4,27] true ?_ | refine Ds (id := 8) [0,0,0,6,14,30,30,30,222,478,30,2046,4094,8190,4095,32767] [0,1,2,3,4,5,6,7,8,9,10,11,12,13,14,15] [11] [4,43] true ?_ | refine Qt.mk Qb.a ?_ | refine Qe.mk [_] [] ⟨rfl, rfl, rfl⟩ Qb.a
theorem Nt (a : Option Addr) (c : Nat) (l : List WT) (w : WT) (hl : l.length ≤ 1000) (hm : jh (fun x => cfW x w) l) :
  FnS prog 218 [.c (.sl a l.length c), .agg w.cells, .c (.fn 98 [])] [.row 69 3 a l.length c (ZM l)] []
   (fun v L D => v = .t2 (.c (.i .i64 (kG (fun x => cfW x w) l))) (.c (.b (ZJ (fun x => cfW x w) l))) ∧ L = [.row 69 3 a l.length c (ZM l)] ∧ D = []) := by
 have hk := yk (fun x => cfW x w) l
 have hlo : ∀ h, (hh : h < l.length) → h < kG (fun x => cfW x w) l → (fun x => cfW x w) l[h] < 0 := fun h hh hk => OY (cf := fun x => cfW x w) hh hk
 have hhi : ∀ h, (hh : h < l.length) → kG (fun x => cfW x w) l ≤ h → 0 ≤ (fun x => cfW x w) l[h] := fun h hh hk => OZ (cf := fun x => cfW x w) hm hh hk
 have hat : ∀ hh : kG (fun x => cfW x w) l < l.length, ZJ (fun x => cfW x w) l = decide ((fun x => cfW x w) (l[kG (fun x => cfW x w) l]) = 0) := fun hh => wb hh
 have hen : kG (fun x => cfW x w) l = l.length → ZJ (fun x => cfW x w) l = false := xR
 have hcc : ∀ h, (hh : h < l.length) → FnS prog 98 [.agg l[h].cells, .agg w.cells] [] [] (Is (.c (.i .i64 ((fun x => cfW x w) l[h])))) := fun h hh => zm l[h] w
 generalize ZJ (fun x => cfW x w) l = W at *
 generalize kG (fun x => cfW x w) l = k at *
 refine FJ 0 func218 ntmps218 (fun G => ?_)
 repeat' first | refine Wk ?_ | refine Qa.mk (fun h => ?_) (fun h => ?_) | refine Qd.mk (fun ad => ?_)
 refine Qn (α := Nat × Nat) (fun x => [(0, .c (.sl a l.length c)), (2, .c (.fn 98 [])), (4, .c (.p 0 ad 0)), (8, .c (.i .i64 l.length)), (9, .c (.i .i64 x.1)), (10, .c (.i .i64 x.2))]) (fun _ => [.box 0 ad 69 w.cells, .row 69 3 a l.length c (ZM l)]) (fun _ => []) 1
  (fun x => x.1 ≤ k ∧ k ≤ x.2 ∧ x.2 ≤ l.length) (fun x => x.2 - x.1) (Qq.mk (0, l.length) ⟨Nat.zero_le _, hk, Nat.le_refl _⟩ Qh.a Qb.a) (fun x hx => ?_)
 obtain ⟨i, j⟩ := x
 dsimp only at hx ⊢
 obtain ⟨h1, h2, h3⟩ := hx
 by_cases hlt : i < j
 ·obtain ⟨md, hh⟩ : ∃ md : Nat, md = (i + j) / 2 := ⟨_, rfl⟩
  have hhl : md < l.length := by omega
  have hg := VH hhl
  have cc := hcc md hhl
  have g1 := hlo md hhl
  have g2 := hhi md hhl
  clear hlo hhi hat hen hcc
  generalize (fun x => cfW x w) l[md] = q at *
  generalize l[md] = x at *
  have hfd : ((i : Int) + (j : Int)).fdiv (2 ^ min (Int.toNat 1) IntKind.u64.bits) = (md : Int) := by
   show ((i : Int) + (j : Int)).fdiv 2 = md
   rw [Int.fdiv_eq_ediv_of_nonneg _ (by decide)]; omega
  unfold WT.cells at cc
  repeat' first | refine Wk ?_ | refine Qa.mk (fun h => ?_) (fun h => ?_) | refine Qd.mk (fun ad => ?_) | refine Ds (id := 5) [0,0,0,6,14,0,63,127] [0,1,2,3,4,5,6,7] [6] [4,27] true ?_ | refine Ds (id := 8) [0,0,0,6,14,30,30,30,222,478,30,2046,4094,8190,4095,32767] [0,1,2,3,4,5,6,7,8,9,10,11,12,13,14,15] [11] [4,43] true ?_ | refine Qt.mk Qb.a ?_ | refine Qr.mk 69 3 _ (.inl ⟨c, (by first | exact List.Mem.head _ | exact List.Mem.tail _ QT | exact List.Mem.tail _ ZR | exact List.Mem.tail _ XQ | exact List.Mem.tail _ X8)⟩) (by omega) (by omega) ?_ | refine Qi.mk 69 _ _ _ (.inl ⟨c, (by first | exact List.Mem.head _ | exact List.Mem.tail _ QT | exact List.Mem.tail _ ZR | exact List.Mem.tail _ XQ | exact List.Mem.tail _ X8)⟩) (by omega) (by omega) (by first | omega | decide) (by exact hg) ?_ | refine Qc.is cc ?_ | refine Qo.mk (md + 1, j) (by dsimp only; omega) (by dsimp only; omega) Qh.a Qb.a | refine Qo.mk (i, md) (by dsimp only; omega) (by dsimp only; omega) Qh.a Qb.a | rw [hfd]
 ·have hij : i = k := by omega
  subst hij
  clear hlo hhi
  by_cases hkl : i < l.length
  ·have hw := hat hkl
   have hg := VH hkl
   have cc := hcc i hkl
   clear hat hen hcc
   generalize (fun x => cfW x w) l[i] = q at *
   generalize l[i] = x at *
   unfold WT.cells at cc
   repeat' first | refine Wk ?_ | refine Qa.mk (fun h => ?_) (fun h => ?_) | refine Qd.mk (fun ad => ?_) | refine Ds (id := 5) [0,0,0,6,14,0,63,127] [0,1,2,3,4,5,6,7] [6] [4,27] true ?_ | refine Ds (id := 8) [0,0,0,6,14,30,30,30,222,478,30,2046,4094,8190,4095,32767] [0,1,2,3,4,5,6,7,8,9,10,11,12,13,14,15] [11] [4,43] true ?_ | refine Qt.mk Qb.a ?_ | refine Qr.mk 69 3 _ (.inl ⟨c, (by first | exact List.Mem.head _ | exact List.Mem.tail _ QT | exact List.Mem.tail _ ZR | exact List.Mem.tail _ XQ | exact List.Mem.tail _ X8)⟩) (by omega) (by omega) ?_ | refine Qi.mk 69 _ _ _ (.inl ⟨c, (by first | exact List.Mem.head _ | exact List.Mem.tail _ QT | exact List.Mem.tail _ ZR | exact List.Mem.tail _ XQ | exact List.Mem.tail _ X8)⟩) (by omega) (by omega) (by first | omega | decide) (by exact hg) ?_ | refine Qc.is cc ?_ | (rw [hw, decide_eq_true (show q = 0 by omega)]; refine Qe.mk [_] [] ⟨rfl, rfl, rfl⟩ Qb.a) | (rw [hw, decide_eq_false (show ¬ q = 0 by omega)]; refine Qe.mk [_] [] ⟨rfl, rfl, rfl⟩ Qb.a)
  ·rw [hen (by omega)]
   repeat' first | refine Wk ?_ | refine Qa.mk (fun h => ?_) (fun h => ?_) | refine Qd.mk (fun ad => ?_) | refine Ds (id := 5) [0,0,0,6,14,0,63,127] [0,1,2,3,4,5,6,7] [6] [4,27] true ?_ | refine Ds (id := 8) [0,0,0,6,14,30,30,30,222,478,30,2046,4094,8190,4095,32767] [0,1,2,3,4,5,6,7,8,9,10,11,12,13,14,15] [11] [4,43] true ?_ | refine Qt.mk Qb.a ?_ | refine Qe.mk [_] [] ⟨rfl, rfl, rfl⟩ Qb.a
theorem Nv (a : Option Addr) (c : Nat) (l : List LU) (u : Bs) (hl : l.length ≤ 1000) (hm : jh (Xd u) l) :
  FnS prog 174 [.c (.sl a l.length c), .c (.s u), .c (.fn 175 [])] [.row 103 2 a l.length c (ZV l)] []
   (fun v L D => v = .t2 (.c (.i .i64 (kG (Xd u) l))) (.c (.b (ZJ (Xd u) l))) ∧ L = [.row 103 2 a l.length c (ZV l)] ∧ D = []) := by
 have hk := yk (Xd u) l
 have hlo : ∀ h, (hh : h < l.length) → h < kG (Xd u) l → (Xd u) l[h] < 0 := fun h hh hk => OY (cf := Xd u) hh hk
 have hhi : ∀ h, (hh : h < l.length) → kG (Xd u) l ≤ h → 0 ≤ (Xd u) l[h] := fun h hh hk => OZ (cf := Xd u) hm hh hk
 have hat : ∀ hh : kG (Xd u) l < l.length, ZJ (Xd u) l = decide ((Xd u) (l[kG (Xd u) l]) = 0) := fun hh => wb hh
 have hen : kG (Xd u) l = l.length → ZJ (Xd u) l = false := xR
 have hcc : ∀ h, (hh : h < l.length) → FnS prog 175 [.agg l[h].cells, .c (.s u)] [] [] (Is (.c (.i .i64 ((Xd u) l[h])))) := fun h hh => HL l[h] u
 generalize ZJ (Xd u) l = W at *
 generalize kG (Xd u) l = k at *
 refine FJ 0 func174 ntmps174 (fun G => ?_)
 repeat' first | refine Wk ?_ | refine Qa.mk (fun h => ?_) (fun h => ?_) | refine Qd.mk (fun ad => ?_)
 refine Qn (α := Nat × Nat) (fun x => [(0, .c (.sl a l.length c)), (2, .c (.fn 175 [])), (1, .c (.s u)), (8, .c (.i .i64 l.length)), (9, .c (.i .i64 x.1)), (10, .c (.i .i64 x.2))]) (fun _ => [.row 103 2 a l.length c (ZV l)]) (fun _ => []) 0
  (fun x => x.1 ≤ k ∧ k ≤ x.2 ∧ x.2 ≤ l.length) (fun x => x.2 - x.1) (Qq.mk (0, l.length) ⟨Nat.zero_le _, hk, Nat.le_refl _⟩ Qh.a Qb.a) (fun x hx => ?_)
 obtain ⟨i, j⟩ := x
 dsimp only at hx ⊢
 obtain ⟨h1, h2, h3⟩ := hx
 by_cases hlt : i < j
 ·obtain ⟨md, hh⟩ : ∃ md : Nat, md = (i + j) / 2 := ⟨_, rfl⟩
  have hhl : md < l.length := by omega
  have hg := zL hhl
  have cc := hcc md hhl
  have g1 := hlo md hhl
  have g2 := hhi md hhl
  clear hlo hhi hat hen hcc
  generalize (Xd u) l[md] = q at *
  generalize l[md] = x at *
  have hfd : ((i : Int) + (j : Int)).fdiv (2 ^ min (Int.toNat 1) IntKind.u64.bits) = (md : Int) := by
   show ((i : Int) + (j : Int)).fdiv 2 = md
   rw [Int.fdiv_eq_ediv_of_nonneg _ (by decide)]; omega
  unfold LU.cells at cc
  repeat' first | refine Wk ?_ | refine Qa.mk (fun h => ?_) (fun h => ?_) | refine Qd.mk (fun ad => ?_) | fail | refine Qr.mk 103 2 _ (.inl ⟨c, (by first | exact List.Mem.head _ | exact List.Mem.tail _ QT | exact List.Mem.tail _ ZR | exact List.Mem.tail _ XQ | exact List.Mem.tail _ X8)⟩) (by omega) (by omega) ?_ | refine Qi.mk 103 _ _ _ (.inl ⟨c, (by first | exact List.Mem.head _ | exact List.Mem.tail _ QT | exact List.Mem.tail _ ZR | exact List.Mem.tail _ XQ | exact List.Mem.tail _ X8)⟩) (by omega) (by omega) (by first | omega | decide) (by exact hg) ?_ | refine Qc.is cc ?_ | refine Qo.mk (md + 1, j) (by dsimp only; omega) (by dsimp only; omega) Qh.a Qb.a | refine Qo.mk (i, md) (by dsimp only; omega) (by dsimp only; omega) Qh.a Qb.a | rw [hfd]
 ·have hij : i = k := by omega
  subst hij
  clear hlo hhi
  by_cases hkl : i < l.length
  ·have hw := hat hkl
   have hg := zL hkl
   have cc := hcc i hkl
   clear hat hen hcc
   generalize (Xd u) l[i] = q at *
   generalize l[i] = x at *
   unfold LU.cells at cc
   repeat' first | refine Wk ?_ | refine Qa.mk (fun h => ?_) (fun h => ?_) | refine Qd.mk (fun ad => ?_) | fail | refine Qr.mk 103 2 _ (.inl ⟨c, (by first | exact List.Mem.head _ | exact List.Mem.tail _ QT | exact List.Mem.tail _ ZR | exact List.Mem.tail _ XQ | exact List.Mem.tail _ X8)⟩) (by omega) (by omega) ?_ | refine Qi.mk 103 _ _ _ (.inl ⟨c, (by first | exact List.Mem.head _ | exact List.Mem.tail _ QT | exact List.Mem.tail _ ZR | exact List.Mem.tail _ XQ | exact List.Mem.tail _ X8)⟩) (by omega) (by omega) (by first | omega | decide) (by exact hg) ?_ | refine Qc.is cc ?_ | (rw [hw, decide_eq_true (show q = 0 by omega)]; refine Qe.mk [_] [] ⟨rfl, rfl, rfl⟩ Qb.a) | (rw [hw, decide_eq_false (show ¬ q = 0 by omega)]; refine Qe.mk [_] [] ⟨rfl, rfl, rfl⟩ Qb.a)
  ·rw [hen (by omega)]
   repeat' first | refine Wk ?_ | refine Qa.mk (fun h => ?_) (fun h => ?_) | refine Qd.mk (fun ad => ?_) | fail | refine Qe.mk [_] [] ⟨rfl, rfl, rfl⟩ Qb.a
end Go.Proofs
namespace Go.X
open Go Go.Lib
theorem FnS.lift {P : Program} {f : FuncId} {args : List V} {L0 L : List Chunk} {D0 D : List Fact} {post0 post : V → List Chunk → List Fact → Prop} (h : FnS P f args L0 D0 post0) (R : List Chunk) (hp : L.Perm (L0 ++ R)) (hd : ∀ m, QI m D → QI m D0)
  (hpost : ∀ v L1 D1, post0 v L1 D1 → ∃ L2 D2, Qb (L1 ++ R) (D1 ++ D) L2 D2 ∧ post v L2 D2) : FnS P f args L D post := by
 refine ⟨h.en, fun w m hh => ?_⟩
 have hs : Qz ⟨w, L, m⟩ w L D := ⟨m, hh, Fr.refl _ _ _⟩
 refine (qy (K := post) h (fun _ _ hs => JN hp hs) hd hpost hs).2.mono ?_
 rintro e w' ⟨v, L1, D1, he, hpost1, m', h1, h2⟩
 exact ⟨v, L1, D1, m', he, hpost1, h1, h2⟩
theorem Qc.keep {P : Program} {f : FuncId} {args : List V} {L : List Chunk} {D : List Fact} {K : V → List Chunk → List Fact → Prop} (L0 R : List Chunk) (D0 : List Fact) (post : V → List Chunk → List Fact → Prop) (h : FnS P f args L0 D0 post) (hp : L.Perm (L0 ++ R)) (hd : ∀ m, QI m D → QI m D0)
  (k : ∀ v L' D', post v L' D' → L' = L0 ∧ K v L (D' ++ D)) : Qc P f args L D K :=
 .mkO L0 R D0 D post h (fun _ _ hs => JN hp hs) hd fun v L' D' hq => by
  obtain ⟨rfl, hk⟩ := k v L' D' hq
  exact ⟨L, _, Qb.perm hp.symm, hk⟩
theorem Qb.pick (l1 : List Chunk) {x : Chunk} {l2 : List Chunk} {D : List Fact} : Qb (l1 ++ x :: l2) D (x :: (l1 ++ l2)) D := Qb.perm List.perm_middle
theorem Qb.back (l1 l2 : List Chunk) {D : List Fact} : Qb (l1 ++ l2) D (l2 ++ l1) D := Qb.perm List.perm_append_comm
abbrev Vi (p : PGM) : Chunk := .row 73 6 p.ha p.hist.length p.hc (Zb p.hist)
def Zt (l : List PGM) : List Chunk := l.map Vi
def QC (s : STM) (sq : Int) : List C := [.i .i64 s.seq, .i .i64 s.clk, .sl s.pa s.pages.length s.pc, .sl s.ga s.gone.length s.gc, .sl s.qa s.props.length s.qc, .i .i64 s.proposed, .sl s.wa s.watches.length s.wc, .sl s.la s.lasts.length s.lc, .i .i64 sq]
abbrev X2 (s : STM) : Chunk := .row 60 3 s.pa s.pages.length s.pc (Qm s.pages)
abbrev Wh (s : STM) : Chunk := .row 60 3 s.ga s.gone.length s.gc (Qm s.gone)
abbrev Ya (s : STM) : Chunk := .row 122 8 s.qa s.props.length s.qc (XI s.props)
abbrev VI (s : STM) : Chunk := .row 69 3 s.wa s.watches.length s.wc (ZM s.watches)
abbrev zk (s : STM) : Chunk := .row 103 2 s.la s.lasts.length s.lc (ZV s.lasts)
abbrev fiveL (s : STM) : List Chunk := [X2 s, Wh s, Ya s, VI s, zk s]
def ve (s : STM) : List Chunk := fiveL s ++ (Zt s.pages ++ Zt s.gone)
abbrev ZZ (id ad : Nat) (s : STM) (sq : Int) : Chunk := .box id ad 119 (QC s sq)
abbrev WN (id ad : Nat) (s : STM) (sq : Int) : List Chunk := ZZ id ad s sq :: ve s
theorem LZ {α : Type} {l : List α} {i : Nat} (h : i < l.length) : l.Perm (l[i] :: l.eraseIdx i) := by
 have e : l = l.take i ++ l[i] :: l.drop (i + 1) := by rw [← List.drop_eq_getElem_cons h, List.take_append_drop]
 rw [List.eraseIdx_eq_take_drop_succ]
 conv => lhs; rw [e]
 exact List.perm_middle
theorem xS {l : List PGM} {i : Nat} (h : i < l.length) : (Zt l).Perm (Vi l[i] :: Zt (l.eraseIdx i)) := by
 exact (LZ h).map Vi
theorem SY {l : List PGM} {i : Nat} (h : i < l.length) (x : PGM) : (Zt (l.set i x)).Perm (Vi x :: Zt (l.eraseIdx i)) := by
 have := xS (l := l.set i x) (i := i) (by rw [List.length_set]; exact h)
 rw [List.getElem_set_self, List.eraseIdx_set_eq] at this
 exact this
theorem qf (l : List PGM) (x : PGM) : (Zt (Xn l x)).Perm (Vi x :: Zt l) := by
 have h : (Xn l x).Perm (x :: l) := by
  rw [O1]
  refine List.perm_middle.trans ?_
  rw [List.take_append_drop]
 exact h.map Vi
theorem Uc (l : List PGM) (x : PGM) : (Zt (l ++ [x])).Perm (Vi x :: Zt l) := (List.perm_append_comm (l₁ := l) (l₂ := [x])).map Vi
theorem Qb.hisF : ∀ (l : List PGM) (L : List Chunk) (D : List Fact), Qb (Zt l ++ L) D L (pgsF l :: D)
 | [], L, D => Qb.facts fun m h => ⟨fun p hp => (by cases hp), h⟩
 | p :: r, L, D => by
  refine (Qb.toFact (L := Zt r ++ L)).trans ((Qb.hisF r L _).trans (Qb.facts fun m h => ⟨fun q hq => ?_, h.2.2⟩))
  rcases List.mem_cons.1 hq with rfl | hq
  ·exact h.2.1
  ·exact h.1 q hq
theorem Qb.ownF (s : STM) (L : List Chunk) (D : List Fact) : Qb (ve s ++ L) D L (QG s :: D) := by
 have e : ve s ++ L = X2 s :: Wh s :: Ya s :: VI s :: zk s :: (Zt s.pages ++ (Zt s.gone ++ L)) := by
  unfold ve; simp
 refine (Qb.of e).trans (Qb.toFactC.trans (Qb.toFactC.trans (Qb.toFactC.trans (Qb.toFactC.trans (Qb.toFactC.trans ((Qb.hisF _ _ _).trans ((Qb.hisF _ _ _).trans (Qb.facts fun m h => ?_))))))))
 obtain ⟨h1, h2, h3, h4, h5, h6, h7, h8⟩ := h
 exact ⟨⟨⟨h7.2.label, h2⟩, ⟨h6.2.label, h1⟩, h5.2.label, h4.2.label, h3.2.label, ⟨h7.1, h6.1, h5.1, h4.1, h3.1⟩⟩, h8⟩
end Go.X
