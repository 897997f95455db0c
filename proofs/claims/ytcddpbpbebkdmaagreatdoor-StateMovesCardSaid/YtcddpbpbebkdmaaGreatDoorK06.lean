/- This text turns the model's entry for slices.overlaps at two rows that the call owns into a rule of the symbolic executor. -/
import Derived.Test.YtcddpbpbebkdmaaGreatDoorK03
import Derived.Lib.Overlaps
import Derived.Test.YtcddpbpbebkdmaaGreatDoorK02
import Derived.Shelf.Strings.Builder1
import Derived.Shelf.Strings.Builder2
import Derived.Shelf.Strings.OnBuilder
import Derived.Shelf.Strings.Trim
import Derived.Shelf.Small.Utf8
import Derived.Shelf.Small.Bits
import Derived.Shelf.Small.Strs
import Derived.Shelf.Small.Wraps
import Derived.Shelf.Strings.BuilderF
import Derived.Shelf.Strconv.Itoa0
import Derived.Shelf.Strings.Search1
import Derived.Shelf.Strings.Search2
import Derived.Shelf.Strings.Search3
import Derived.Shelf.Strings.Cut
import Derived.Shelf.Strings.Count
import Derived.Shelf.LaysM
import Derived.Shelf.Strings.Shaped
import Derived.Shelf.Strings.Prefix
import Derived.Shelf.Strings.Split
import Derived.Shelf.Strings.Replace
import Derived.Shelf.Strings.SplitShaped
import Derived.Shelf.Strings.Runes
import Derived.Shelf.Strings.IndexAny
import Derived.Shelf.Strings.AsciiSet
import Derived.Shelf.Strings.IndexAnyAll
import Derived.Shelf.Unicode.DecodeSlow
import Derived.Test.YtcddpbpbebkdmaaGreatDoorProg
import Derived.Shelf.SlSortCmp.WholeK
import Derived.Sort.Statements
import Derived.Sort.Grow
set_option linter.all false
namespace Go.X
open Go Go.Lib
variable [Sm : Inhabited Jh]
theorem Qc.apart {P : Program} {f : FuncId} {tS tR e : TypeId} {z : Nat}
    (hrun : ∀ (args : Array Value) (w : World), (callFunc f args).run P w = ((Extern.SlicesOverlaps.overlaps #[tS, tS] #[tR] args).run P w).andThen fun v w' => .ok (.value v) w')
    (ht : P.underlying tS = some (.slice e)) (hz : ∀ w, (Go.sizeOf e).run P w = .ok z w) {L R : List Chunk} {D : List Fact} {ev eb : Nat} {va a b : Option Addr} {n c vn vc lb cb k : Nat} {vs cs : List C} {K : V → List Chunk → List Fact → Prop}
    (hp : L.Perm (.row ev z va vn vc vs :: .row eb z a n c cs :: R)) (hz1 : 1 < z) (hv : 0 < vn) (hn : 0 < n) (hb : b = a.map (·.add k)) (kk : K (.c (.b false)) L D) : Qc P f [.c (.sl va vn vc), .c (.sl b lb cb)] L D K := by
  refine .ext (.c (.b false)) (fun G w hs => ?_) kk
  obtain ⟨m, h1, _⟩ := JN hp hs
  have hnd := h1.nd
  rcases h1.ok.1.2 with ⟨_, h, _⟩ | ⟨gv, hgv, cv, lv, hv', hov, hv1, _, hv2, hv3, _⟩
  · omega
  rcases h1.ok.2.1.2 with ⟨_, h, _⟩ | ⟨g, hg, cu, lo, hi, ho, hn1, _, hn2, _, _⟩
  · omega
  subst hgv; subst hg; subst hb
  have hne : gv ≠ g := by
    intro hc
    subst hc
    simp [Xy, Chunk.fp] at hnd
  have hcu : 0 < c * z := Nat.mul_pos (by omega) (by omega)
  have hcv : 0 < vc * z := Nat.mul_pos (by omega) (by omega)
  have hsa : w.shape? gv = some (ev, cv.size) := by simp [World.shape?, hov]
  have hsb : w.shape? g = some (eb, cu.size) := by simp [World.shape?, ho]
  have hfr : hv' ≤ lv := by omega
  have hf : ∀ q, w.frozen? ⟨gv, q, none⟩ = false := fun q => by
    simp only [World.frozen?, hov, Bool.and_eq_false_iff, decide_eq_false_iff_not]
    omega
  simp only [List.map_cons, List.map_nil, V.enc, C.enc, Option.map_some, qP]
  rw [hrun]
  have := Lib.run_overlaps_apart w tS tR e ht z hz ⟨gv, 0, none⟩ ⟨g, k, none⟩ vn vc lb cb hne ev eb cv.size cu.size hsa hsb (by omega) (hf 0) (hf _)
  rw [this]
  rfl
end Go.X
namespace Go.Proofs
open Go Go.X Tryz
set_option maxRecDepth 100000
set_option maxHeartbeats 4000000
theorem ovlPg {L R : List Chunk} {D : List Fact} {ev eb : Nat} {va a b : Option Addr} {n c vn vc lb cb k : Nat} {vs cs : List C} {K : V → List Chunk → List Fact → Prop}
  (hp : L.Perm (.row ev 3 va vn vc vs :: .row eb 3 a n c cs :: R)) (hv : 0 < vn) (hn : 0 < n) (hb : b = a.map (·.add k)) (kk : K (.c (.b false)) L D) : Qc prog 280 [.c (.sl va vn vc), .c (.sl b lb cb)] L D K :=
 Qc.apart (tS := 22) (tR := 4) (e := 60) (fun args w => run_callFunc_extern func280 (by kernel_rfl) (by kernel_rfl) (by kernel_rfl) (e := Extern.SlicesOverlaps.overlaps #[22, 22] #[4]) (by kernel_rfl) args w)
  Tryz.underlying22 Tryz.sizeOf60 hp (by decide) hv hn hb kk
theorem SS (a : Option Addr) (c : Nat) (l : List PGM) (i : Nat) (x : PGM) (va : Option Addr) (vc : Nat) (hi : i ≤ l.length) (hl : l.length ≤ 1000) :
  FnS prog 250 [.c (.sl a l.length c), .c (.i .i64 i), .c (.sl va 1 vc)] [.row 60 3 a l.length c (Qm l), .row 60 3 va 1 vc x.cells] []
   (fun v L D => ∃ a' c', v = .c (.sl a' (l.length + 1) c') ∧ L = [.row 60 3 a' (l.length + 1) c' (Qm (l.take i ++ x :: l.drop i))] ∧ D = []) := by
 have hlen := Zs l
 have hx : x.cells.length = 3 := rfl
 by_cases he : i = l.length
 ·have hq : Qm l ++ x.cells = Qm (l.take i ++ x :: l.drop i) := by rw [he, List.take_length, List.drop_length]; simp [Qm]
  generalize Qm (l.take i ++ x :: l.drop i) = q at *
  refine FJ 0 func250 ntmps250 (fun G => ?_)
  refine XX QT (fun hnc _ _ => ?_)
  repeat' first | refine Wk ?_ | refine Qa.mk (fun h => ?_) (fun h => ?_) | refine Qd.mk (fun ad => ?_) | refine QK.row [] _ (Qm l) x.cells 1 rfl (QJ.sl 60 60 _ _ 1 vc _ rfl rfl (.inl ⟨vc, ZR⟩) rfl) (by dsimp only; omega) (fun a' c' => ?_) | refine Qe.mk [.row 60 3 a' (l.length + 1) c' (Qm l ++ x.cells)] [] ⟨a', c', rfl, by rw [hq], rfl⟩ Qb.a
 ·have hlt : i < l.length := by omega
  have hsuf : ∀ {L : List Chunk} {D : List Fact}, Chunk.row 60 3 a l.length c (Qm l) ∈ L → l.length ≤ c → Qp L D 60 3 (Z9 a i c 3) (l.length - i) (Qm (l.drop i)) := fun hm hc => wN (F := PGM.cells) (fun _ => rfl) l hm rfl hi hc
  have hpre : ∀ {L : List Chunk} {D : List Fact}, Chunk.row 60 3 a l.length c (Qm l) ∈ L → Qp L D 60 3 (Z9 a 0 c 3) i (Qm (l.take i)) := fun hm => OL (F := PGM.cells) (fun _ => rfl) l hm rfl hi
  have hld : (Qm (l.drop i)).length = (l.length - i) * 3 := by rw [Zs, List.length_drop]
  have hlt2 : (Qm (l.take i)).length = i * 3 := by rw [Zs, List.length_take, Nat.min_eq_left hi]
  by_cases hr : l.length + 1 ≤ c
  ·have hsh : QP (i * 3) x.cells (QP ((i + 1) * 3) (Qm (l.drop i)) (Qm l)) = Qm (l.take i ++ x :: l.drop i) := zR (F := PGM.cells) (z := 3) (fun _ => rfl) l x i hlt
   generalize Qm (l.take i ++ x :: l.drop i) = q at *
   refine FJ 0 func250 ntmps250 (fun G => ?_)
   refine XX QT (fun hnc _ _ => ?_)
   repeat' first | refine Wk ?_ | refine Qa.mk (fun h => ?_) (fun h => ?_) | refine Qd.mk (fun ad => ?_) | refine Ds (id := 11) [0,0,0,6,15,0,0,96,255] [0,1,2,3,4,5,6,7,8] [8] [] false ?_ | refine Ds (id := 15) [0,0,0,6,15,0,0,96,255] [0,1,2,3,4,5,6,7,8] [8] [] false ?_ | refine Qt.mk Qb.a ?_ | refine ovlPg (List.Perm.swap _ _ _) (by decide) (by omega) (by rw [Jq]; exact if_neg (by omega)) ?_ | refine Yl.mk [] _ 60 l.length c (i + 1) (l.length - i) a (Qm l) (Qm (l.drop i)) _ _ _ _ rfl rfl (by show _ = min _ _; omega) (by omega) (by rw [Jq]; rfl) (by rw [Jq]; exact hsuf QT hnc) hld (by omega) (.inr (by omega)) rfl ?_ | refine Yl.mk [] _ 60 _ c i 1 a _ x.cells q va 1 vc rfl rfl (by show _ = min _ _; omega) (by decide) (by rw [Jq]; rfl) (.inl ⟨vc, ZR⟩) rfl (by omega) (.inl (by omega)) hsh ?_ | refine Qe.mk [.row 60 3 a (max (max l.length (i + 1 + (l.length - i))) (i + 1)) c q] [] ⟨a, c, ?_, ?_, rfl⟩ (Qb.ofSub (by repeat (first | exact List.Sublist.slnil | refine List.Sublist.cons_cons _ ?_ | refine List.Sublist.cons _ ?_)) (fun _ h => h))
   ·rw [Jq]; rfl
   ·rw [show max (max l.length (i + 1 + (l.length - i))) (i + 1) = l.length + 1 by omega]
  ·have hgr : QP ((i + 1) * 3) (Qm (l.drop i)) (QP (i * 3) x.cells (Qm (l.take i) ++ XA (l.length + 1 - i) [C.i .i64 0, C.s [], C.sl none 0 0])) = Qm (l.take i ++ x :: l.drop i) := jF (F := PGM.cells) (z := 3) (fun _ => rfl) l x i hlt _ (by rw [ZH]; rfl)
   generalize Qm (l.take i ++ x :: l.drop i) = q at *
   refine FJ 0 func250 ntmps250 (fun G => ?_)
   refine XX QT (fun hnc _ _ => ?_)
   repeat' first | refine Wk ?_ | refine Qa.mk (fun h => ?_) (fun h => ?_) | refine Qd.mk (fun ad => ?_) | refine Ds (id := 11) [0,0,0,6,15,0,0,96,255] [0,1,2,3,4,5,6,7,8] [8] [] false ?_ | refine Ds (id := 15) [0,0,0,6,15,0,0,96,255] [0,1,2,3,4,5,6,7,8] [8] [] false ?_ | refine Qt.mk Qb.a ?_ | refine QK.zero (Qm (l.take i)) .i64 (l.length + 1 - i) (congrArg (fun t => V.c (C.i .i64 t)) (by omega)) rfl (by omega) (by omega) (by dsimp only; omega) (hpre QT) hlt2 (fun a' c' => ?_) | refine Yl.mk [] _ 60 (i + (l.length + 1 - i)) c' i 1 a' _ x.cells _ va 1 vc rfl rfl (by show _ = min _ _; omega) (by decide) rfl (.inl ⟨vc, (by first | exact List.Mem.head _ | exact List.Mem.tail _ QT | exact List.Mem.tail _ ZR | exact List.Mem.tail _ XQ | exact List.Mem.tail _ X8)⟩) rfl (by omega) (.inl (by omega)) rfl ?_ | refine Yl.mk [] _ 60 _ c' (i + 1) (l.length - i) a' _ (Qm (l.drop i)) q _ _ _ rfl rfl (by show _ = min _ _; omega) (by omega) rfl (hsuf (by first | exact List.Mem.head _ | exact List.Mem.tail _ QT | exact List.Mem.tail _ ZR | exact List.Mem.tail _ XQ | exact List.Mem.tail _ X8) hnc) hld (by omega) (.inl (by omega)) hgr ?_ | refine Qe.mk [.row 60 3 a' (max (max (i + (l.length + 1 - i)) (i + 1)) (i + 1 + (l.length - i))) c' q] [] ⟨a', c', ?_, ?_, rfl⟩ (Qb.ofSub (by repeat (first | exact List.Sublist.slnil | refine List.Sublist.cons_cons _ ?_ | refine List.Sublist.cons _ ?_)) (fun _ h => h))
   ·rw [show (i : Int).toNat + (l.length + 1 - i) = l.length + 1 by omega]
   ·rw [show max (max (i + (l.length + 1 - i)) (i + 1)) (i + 1 + (l.length - i)) = l.length + 1 by omega]
theorem ovlWt {L R : List Chunk} {D : List Fact} {ev eb : Nat} {va a b : Option Addr} {n c vn vc lb cb k : Nat} {vs cs : List C} {K : V → List Chunk → List Fact → Prop}
  (hp : L.Perm (.row ev 3 va vn vc vs :: .row eb 3 a n c cs :: R)) (hv : 0 < vn) (hn : 0 < n) (hb : b = a.map (·.add k)) (kk : K (.c (.b false)) L D) : Qc prog 253 [.c (.sl va vn vc), .c (.sl b lb cb)] L D K :=
 Qc.apart (tS := 24) (tR := 4) (e := 69) (fun args w => run_callFunc_extern func253 (by kernel_rfl) (by kernel_rfl) (by kernel_rfl) (e := Extern.SlicesOverlaps.overlaps #[24, 24] #[4]) (by kernel_rfl) args w)
  Tryz.underlying24 Tryz.sizeOf69 hp (by decide) hv hn hb kk
theorem SR (a : Option Addr) (c : Nat) (l : List WT) (i : Nat) (x : WT) (va : Option Addr) (vc : Nat) (hi : i ≤ l.length) (hl : l.length ≤ 1000) :
  FnS prog 220 [.c (.sl a l.length c), .c (.i .i64 i), .c (.sl va 1 vc)] [.row 69 3 a l.length c (ZM l), .row 69 3 va 1 vc x.cells] []
   (fun v L D => ∃ a' c', v = .c (.sl a' (l.length + 1) c') ∧ L = [.row 69 3 a' (l.length + 1) c' (ZM (l.take i ++ x :: l.drop i))] ∧ D = []) := by
 have hlen := WZ l
 have hx : x.cells.length = 3 := rfl
 by_cases he : i = l.length
 ·have hq : ZM l ++ x.cells = ZM (l.take i ++ x :: l.drop i) := by rw [he, List.take_length, List.drop_length]; simp [ZM]
  generalize ZM (l.take i ++ x :: l.drop i) = q at *
  refine FJ 0 func220 ntmps220 (fun G => ?_)
  refine XX QT (fun hnc _ _ => ?_)
  repeat' first | refine Wk ?_ | refine Qa.mk (fun h => ?_) (fun h => ?_) | refine Qd.mk (fun ad => ?_) | refine QK.row [] _ (ZM l) x.cells 1 rfl (QJ.sl 69 69 _ _ 1 vc _ rfl rfl (.inl ⟨vc, ZR⟩) rfl) (by dsimp only; omega) (fun a' c' => ?_) | refine Qe.mk [.row 69 3 a' (l.length + 1) c' (ZM l ++ x.cells)] [] ⟨a', c', rfl, by rw [hq], rfl⟩ Qb.a
 ·have hlt : i < l.length := by omega
  have hsuf : ∀ {L : List Chunk} {D : List Fact}, Chunk.row 69 3 a l.length c (ZM l) ∈ L → l.length ≤ c → Qp L D 69 3 (Z9 a i c 3) (l.length - i) (ZM (l.drop i)) := fun hm hc => wN (F := WT.cells) (fun _ => rfl) l hm rfl hi hc
  have hpre : ∀ {L : List Chunk} {D : List Fact}, Chunk.row 69 3 a l.length c (ZM l) ∈ L → Qp L D 69 3 (Z9 a 0 c 3) i (ZM (l.take i)) := fun hm => OL (F := WT.cells) (fun _ => rfl) l hm rfl hi
  have hld : (ZM (l.drop i)).length = (l.length - i) * 3 := by rw [WZ, List.length_drop]
  have hlt2 : (ZM (l.take i)).length = i * 3 := by rw [WZ, List.length_take, Nat.min_eq_left hi]
  by_cases hr : l.length + 1 ≤ c
  ·have hsh : QP (i * 3) x.cells (QP ((i + 1) * 3) (ZM (l.drop i)) (ZM l)) = ZM (l.take i ++ x :: l.drop i) := zR (F := WT.cells) (z := 3) (fun _ => rfl) l x i hlt
   generalize ZM (l.take i ++ x :: l.drop i) = q at *
   refine FJ 0 func220 ntmps220 (fun G => ?_)
   refine XX QT (fun hnc _ _ => ?_)
   repeat' first | refine Wk ?_ | refine Qa.mk (fun h => ?_) (fun h => ?_) | refine Qd.mk (fun ad => ?_) | refine Ds (id := 11) [0,0,0,6,15,0,0,96,255] [0,1,2,3,4,5,6,7,8] [8] [] false ?_ | refine Ds (id := 15) [0,0,0,6,15,0,0,96,255] [0,1,2,3,4,5,6,7,8] [8] [] false ?_ | refine Qt.mk Qb.a ?_ | refine ovlWt (List.Perm.swap _ _ _) (by decide) (by omega) (by rw [Jq]; exact if_neg (by omega)) ?_ | refine Yl.mk [] _ 69 l.length c (i + 1) (l.length - i) a (ZM l) (ZM (l.drop i)) _ _ _ _ rfl rfl (by show _ = min _ _; omega) (by omega) (by rw [Jq]; rfl) (by rw [Jq]; exact hsuf QT hnc) hld (by omega) (.inr (by omega)) rfl ?_ | refine Yl.mk [] _ 69 _ c i 1 a _ x.cells q va 1 vc rfl rfl (by show _ = min _ _; omega) (by decide) (by rw [Jq]; rfl) (.inl ⟨vc, ZR⟩) rfl (by omega) (.inl (by omega)) hsh ?_ | refine Qe.mk [.row 69 3 a (max (max l.length (i + 1 + (l.length - i))) (i + 1)) c q] [] ⟨a, c, ?_, ?_, rfl⟩ (Qb.ofSub (by repeat (first | exact List.Sublist.slnil | refine List.Sublist.cons_cons _ ?_ | refine List.Sublist.cons _ ?_)) (fun _ h => h))
   ·rw [Jq]; rfl
   ·rw [show max (max l.length (i + 1 + (l.length - i))) (i + 1) = l.length + 1 by omega]
  ·have hgr : QP ((i + 1) * 3) (ZM (l.drop i)) (QP (i * 3) x.cells (ZM (l.take i) ++ XA (l.length + 1 - i) [C.s [], C.i .i64 0, C.s []])) = ZM (l.take i ++ x :: l.drop i) := jF (F := WT.cells) (z := 3) (fun _ => rfl) l x i hlt _ (by rw [ZH]; rfl)
   generalize ZM (l.take i ++ x :: l.drop i) = q at *
   refine FJ 0 func220 ntmps220 (fun G => ?_)
   refine XX QT (fun hnc _ _ => ?_)
   repeat' first | refine Wk ?_ | refine Qa.mk (fun h => ?_) (fun h => ?_) | refine Qd.mk (fun ad => ?_) | refine Ds (id := 11) [0,0,0,6,15,0,0,96,255] [0,1,2,3,4,5,6,7,8] [8] [] false ?_ | refine Ds (id := 15) [0,0,0,6,15,0,0,96,255] [0,1,2,3,4,5,6,7,8] [8] [] false ?_ | refine Qt.mk Qb.a ?_ | refine QK.zero (ZM (l.take i)) .i64 (l.length + 1 - i) (congrArg (fun t => V.c (C.i .i64 t)) (by omega)) rfl (by omega) (by omega) (by dsimp only; omega) (hpre QT) hlt2 (fun a' c' => ?_) | refine Yl.mk [] _ 69 (i + (l.length + 1 - i)) c' i 1 a' _ x.cells _ va 1 vc rfl rfl (by show _ = min _ _; omega) (by decide) rfl (.inl ⟨vc, (by first | exact List.Mem.head _ | exact List.Mem.tail _ QT | exact List.Mem.tail _ ZR | exact List.Mem.tail _ XQ | exact List.Mem.tail _ X8)⟩) rfl (by omega) (.inl (by omega)) rfl ?_ | refine Yl.mk [] _ 69 _ c' (i + 1) (l.length - i) a' _ (ZM (l.drop i)) q _ _ _ rfl rfl (by show _ = min _ _; omega) (by omega) rfl (hsuf (by first | exact List.Mem.head _ | exact List.Mem.tail _ QT | exact List.Mem.tail _ ZR | exact List.Mem.tail _ XQ | exact List.Mem.tail _ X8) hnc) hld (by omega) (.inl (by omega)) hgr ?_ | refine Qe.mk [.row 69 3 a' (max (max (i + (l.length + 1 - i)) (i + 1)) (i + 1 + (l.length - i))) c' q] [] ⟨a', c', ?_, ?_, rfl⟩ (Qb.ofSub (by repeat (first | exact List.Sublist.slnil | refine List.Sublist.cons_cons _ ?_ | refine List.Sublist.cons _ ?_)) (fun _ h => h))
   ·rw [show (i : Int).toNat + (l.length + 1 - i) = l.length + 1 by omega]
   ·rw [show max (max (i + (l.length + 1 - i)) (i + 1)) (i + 1 + (l.length - i)) = l.length + 1 by omega]
theorem ovlLu {L R : List Chunk} {D : List Fact} {ev eb : Nat} {va a b : Option Addr} {n c vn vc lb cb k : Nat} {vs cs : List C} {K : V → List Chunk → List Fact → Prop}
  (hp : L.Perm (.row ev 2 va vn vc vs :: .row eb 2 a n c cs :: R)) (hv : 0 < vn) (hn : 0 < n) (hb : b = a.map (·.add k)) (kk : K (.c (.b false)) L D) : Qc prog 221 [.c (.sl va vn vc), .c (.sl b lb cb)] L D K :=
 Qc.apart (tS := 25) (tR := 4) (e := 103) (fun args w => run_callFunc_extern func221 (by kernel_rfl) (by kernel_rfl) (by kernel_rfl) (e := Extern.SlicesOverlaps.overlaps #[25, 25] #[4]) (by kernel_rfl) args w)
  Tryz.underlying25 Tryz.sizeOf103 hp (by decide) hv hn hb kk
theorem SV (a : Option Addr) (c : Nat) (l : List LU) (i : Nat) (x : LU) (va : Option Addr) (vc : Nat) (hi : i ≤ l.length) (hl : l.length ≤ 1000) :
  FnS prog 176 [.c (.sl a l.length c), .c (.i .i64 i), .c (.sl va 1 vc)] [.row 103 2 a l.length c (ZV l), .row 103 2 va 1 vc x.cells] []
   (fun v L D => ∃ a' c', v = .c (.sl a' (l.length + 1) c') ∧ L = [.row 103 2 a' (l.length + 1) c' (ZV (l.take i ++ x :: l.drop i))] ∧ D = []) := by
 have hlen := qJ l
 have hx : x.cells.length = 2 := rfl
 by_cases he : i = l.length
 ·have hq : ZV l ++ x.cells = ZV (l.take i ++ x :: l.drop i) := by rw [he, List.take_length, List.drop_length]; simp [ZV]
  generalize ZV (l.take i ++ x :: l.drop i) = q at *
  refine FJ 0 func176 ntmps176 (fun G => ?_)
  refine XX QT (fun hnc _ _ => ?_)
  repeat' first | refine Wk ?_ | refine Qa.mk (fun h => ?_) (fun h => ?_) | refine Qd.mk (fun ad => ?_) | refine QK.row [] _ (ZV l) x.cells 1 rfl (QJ.sl 103 103 _ _ 1 vc _ rfl rfl (.inl ⟨vc, ZR⟩) rfl) (by dsimp only; omega) (fun a' c' => ?_) | refine Qe.mk [.row 103 2 a' (l.length + 1) c' (ZV l ++ x.cells)] [] ⟨a', c', rfl, by rw [hq], rfl⟩ Qb.a
 ·have hlt : i < l.length := by omega
  have hsuf : ∀ {L : List Chunk} {D : List Fact}, Chunk.row 103 2 a l.length c (ZV l) ∈ L → l.length ≤ c → Qp L D 103 2 (Z9 a i c 2) (l.length - i) (ZV (l.drop i)) := fun hm hc => wN (F := LU.cells) (fun _ => rfl) l hm rfl hi hc
  have hpre : ∀ {L : List Chunk} {D : List Fact}, Chunk.row 103 2 a l.length c (ZV l) ∈ L → Qp L D 103 2 (Z9 a 0 c 2) i (ZV (l.take i)) := fun hm => OL (F := LU.cells) (fun _ => rfl) l hm rfl hi
  have hld : (ZV (l.drop i)).length = (l.length - i) * 2 := by rw [qJ, List.length_drop]
  have hlt2 : (ZV (l.take i)).length = i * 2 := by rw [qJ, List.length_take, Nat.min_eq_left hi]
  by_cases hr : l.length + 1 ≤ c
  ·have hsh : QP (i * 2) x.cells (QP ((i + 1) * 2) (ZV (l.drop i)) (ZV l)) = ZV (l.take i ++ x :: l.drop i) := zR (F := LU.cells) (z := 2) (fun _ => rfl) l x i hlt
   generalize ZV (l.take i ++ x :: l.drop i) = q at *
   refine FJ 0 func176 ntmps176 (fun G => ?_)
   refine XX QT (fun hnc _ _ => ?_)
   repeat' first | refine Wk ?_ | refine Qa.mk (fun h => ?_) (fun h => ?_) | refine Qd.mk (fun ad => ?_) | refine Ds (id := 11) [0,0,0,6,15,0,0,96,255] [0,1,2,3,4,5,6,7,8] [8] [] false ?_ | refine Ds (id := 15) [0,0,0,6,15,0,0,96,255] [0,1,2,3,4,5,6,7,8] [8] [] false ?_ | refine Qt.mk Qb.a ?_ | refine ovlLu (List.Perm.swap _ _ _) (by decide) (by omega) (by rw [Jq]; exact if_neg (by omega)) ?_ | refine Yl.mk [] _ 103 l.length c (i + 1) (l.length - i) a (ZV l) (ZV (l.drop i)) _ _ _ _ rfl rfl (by show _ = min _ _; omega) (by omega) (by rw [Jq]; rfl) (by rw [Jq]; exact hsuf QT hnc) hld (by omega) (.inr (by omega)) rfl ?_ | refine Yl.mk [] _ 103 _ c i 1 a _ x.cells q va 1 vc rfl rfl (by show _ = min _ _; omega) (by decide) (by rw [Jq]; rfl) (.inl ⟨vc, ZR⟩) rfl (by omega) (.inl (by omega)) hsh ?_ | refine Qe.mk [.row 103 2 a (max (max l.length (i + 1 + (l.length - i))) (i + 1)) c q] [] ⟨a, c, ?_, ?_, rfl⟩ (Qb.ofSub (by repeat (first | exact List.Sublist.slnil | refine List.Sublist.cons_cons _ ?_ | refine List.Sublist.cons _ ?_)) (fun _ h => h))
   ·rw [Jq]; rfl
   ·rw [show max (max l.length (i + 1 + (l.length - i))) (i + 1) = l.length + 1 by omega]
  ·have hgr : QP ((i + 1) * 2) (ZV (l.drop i)) (QP (i * 2) x.cells (ZV (l.take i) ++ XA (l.length + 1 - i) [C.s [], C.i .i64 0])) = ZV (l.take i ++ x :: l.drop i) := jF (F := LU.cells) (z := 2) (fun _ => rfl) l x i hlt _ (by rw [ZH]; rfl)
   generalize ZV (l.take i ++ x :: l.drop i) = q at *
   refine FJ 0 func176 ntmps176 (fun G => ?_)
   refine XX QT (fun hnc _ _ => ?_)
   repeat' first | refine Wk ?_ | refine Qa.mk (fun h => ?_) (fun h => ?_) | refine Qd.mk (fun ad => ?_) | refine Ds (id := 11) [0,0,0,6,15,0,0,96,255] [0,1,2,3,4,5,6,7,8] [8] [] false ?_ | refine Ds (id := 15) [0,0,0,6,15,0,0,96,255] [0,1,2,3,4,5,6,7,8] [8] [] false ?_ | refine Qt.mk Qb.a ?_ | refine QK.zero (ZV (l.take i)) .i64 (l.length + 1 - i) (congrArg (fun t => V.c (C.i .i64 t)) (by omega)) rfl (by omega) (by omega) (by dsimp only; omega) (hpre QT) hlt2 (fun a' c' => ?_) | refine Yl.mk [] _ 103 (i + (l.length + 1 - i)) c' i 1 a' _ x.cells _ va 1 vc rfl rfl (by show _ = min _ _; omega) (by decide) rfl (.inl ⟨vc, (by first | exact List.Mem.head _ | exact List.Mem.tail _ QT | exact List.Mem.tail _ ZR | exact List.Mem.tail _ XQ | exact List.Mem.tail _ X8)⟩) rfl (by omega) (.inl (by omega)) rfl ?_ | refine Yl.mk [] _ 103 _ c' (i + 1) (l.length - i) a' _ (ZV (l.drop i)) q _ _ _ rfl rfl (by show _ = min _ _; omega) (by omega) rfl (hsuf (by first | exact List.Mem.head _ | exact List.Mem.tail _ QT | exact List.Mem.tail _ ZR | exact List.Mem.tail _ XQ | exact List.Mem.tail _ X8) hnc) hld (by omega) (.inl (by omega)) hgr ?_ | refine Qe.mk [.row 103 2 a' (max (max (i + (l.length + 1 - i)) (i + 1)) (i + 1 + (l.length - i))) c' q] [] ⟨a', c', ?_, ?_, rfl⟩ (Qb.ofSub (by repeat (first | exact List.Sublist.slnil | refine List.Sublist.cons_cons _ ?_ | refine List.Sublist.cons _ ?_)) (fun _ h => h))
   ·rw [show (i : Int).toNat + (l.length + 1 - i) = l.length + 1 by omega]
   ·rw [show max (max (i + (l.length + 1 - i)) (i + 1)) (i + 1 + (l.length - i)) = l.length + 1 by omega]
theorem jI (a : Option Addr) (c : Nat) (l : List PGM) (i : Nat) (hi : i < l.length) (hl : l.length ≤ 1000) :
  FnS prog 212 [.c (.sl a l.length c), .c (.i .i64 i), .c (.i .i64 ((i : Int) + 1))] [.row 60 3 a l.length c (Qm l)] []
   (fun v L D => v = .c (.sl a (l.eraseIdx i).length c) ∧ L = [.row 60 3 a (l.eraseIdx i).length c (Qm (l.eraseIdx i))] ∧ D = []) := by
 have hlen := Zs l
 have hel : (l.eraseIdx i).length = l.length - 1 := List.length_eraseIdx_of_lt hi
 have hcut := fun zs o h => yw (F := PGM.cells) (z := 3) (fun _ => rfl) l i hi zs o h
 rw [hel]
 generalize l.eraseIdx i = q at *
 refine FJ 0 func212 ntmps212 (fun G => ?_)
 refine XX QT (fun hnc _ _ => ?_)
 repeat' first | refine Wk ?_ | refine Qa.mk (fun h => ?_) (fun h => ?_) | refine Qd.mk (fun ad => ?_) | refine Ds (id := 5) [0,0,3,0,0,24,63,127] [0,1,2,3,4,5,6,7] [6] [] false ?_ | refine Qt.mk Qb.a ?_ | refine QK.pre [] _ l.length a (Qm l) (Qm (l.drop (i + 1))) _ (l.length - (i + 1)) rfl (Jq _ _ _) (QJ.sl 60 60 _ _ _ _ _ rfl rfl (wN (F := PGM.cells) (fun _ => rfl) l QT rfl (by omega) hnc) (by rw [Zs, List.length_drop]; rfl)) (by omega) rfl ?_ | refine z1.mk [] _ _ _ _ ((((i : Int).toNat + (l.length - (i + 1)) : Nat) : Int)).toNat _ _ rfl (if_neg (by omega)) (by omega) ?_ | refine Qe.mk [.row 60 3 a (l.length - 1) c (Qm q)] [] ⟨?_, rfl, rfl⟩ ((Qb.rowPre (k := l.length - 1) (by omega)).trans (Qb.of ?_))
 ·rw [show (i : Int).toNat + (l.length - (i + 1)) = l.length - 1 by omega]
 ·simp only [Int.toNat_natCast]
  exact congrArg (fun t => [Chunk.row 60 3 a (l.length - 1) c t]) (hcut _ _ (Nat.mul_le_mul_right _ (by omega)))
theorem Rl (a : Option Addr) (c : Nat) (l : List WT) (i : Nat) (hi : i < l.length) (hl : l.length ≤ 1000) :
  FnS prog 219 [.c (.sl a l.length c), .c (.i .i64 i), .c (.i .i64 ((i : Int) + 1))] [.row 69 3 a l.length c (ZM l)] []
   (fun v L D => v = .c (.sl a (l.eraseIdx i).length c) ∧ L = [.row 69 3 a (l.eraseIdx i).length c (ZM (l.eraseIdx i))] ∧ D = []) := by
 have hlen := WZ l
 have hel : (l.eraseIdx i).length = l.length - 1 := List.length_eraseIdx_of_lt hi
 have hcut := fun zs o h => yw (F := WT.cells) (z := 3) (fun _ => rfl) l i hi zs o h
 rw [hel]
 generalize l.eraseIdx i = q at *
 refine FJ 0 func219 ntmps219 (fun G => ?_)
 refine XX QT (fun hnc _ _ => ?_)
 repeat' first | refine Wk ?_ | refine Qa.mk (fun h => ?_) (fun h => ?_) | refine Qd.mk (fun ad => ?_) | refine Ds (id := 5) [0,0,3,0,0,24,63,127] [0,1,2,3,4,5,6,7] [6] [] false ?_ | refine Qt.mk Qb.a ?_ | refine QK.pre [] _ l.length a (ZM l) (ZM (l.drop (i + 1))) _ (l.length - (i + 1)) rfl (Jq _ _ _) (QJ.sl 69 69 _ _ _ _ _ rfl rfl (wN (F := WT.cells) (fun _ => rfl) l QT rfl (by omega) hnc) (by rw [WZ, List.length_drop]; rfl)) (by omega) rfl ?_ | refine z1.mk [] _ _ _ _ ((((i : Int).toNat + (l.length - (i + 1)) : Nat) : Int)).toNat _ _ rfl (if_neg (by omega)) (by omega) ?_ | refine Qe.mk [.row 69 3 a (l.length - 1) c (ZM q)] [] ⟨?_, rfl, rfl⟩ ((Qb.rowPre (k := l.length - 1) (by omega)).trans (Qb.of ?_))
 ·rw [show (i : Int).toNat + (l.length - (i + 1)) = l.length - 1 by omega]
 ·simp only [Int.toNat_natCast]
  exact congrArg (fun t => [Chunk.row 69 3 a (l.length - 1) c t]) (hcut _ _ (Nat.mul_le_mul_right _ (by omega)))
theorem Rm (a : Option Addr) (c : Nat) (l : List PP) (i : Nat) (hi : i < l.length) (hl : l.length ≤ 1000) :
  FnS prog 217 [.c (.sl a l.length c), .c (.i .i64 i), .c (.i .i64 ((i : Int) + 1))] [.row 122 8 a l.length c (XI l)] []
   (fun v L D => v = .c (.sl a (l.eraseIdx i).length c) ∧ L = [.row 122 8 a (l.eraseIdx i).length c (XI (l.eraseIdx i))] ∧ D = []) := by
 have hlen := xC l
 have hel : (l.eraseIdx i).length = l.length - 1 := List.length_eraseIdx_of_lt hi
 have hcut := fun zs o h => yw (F := PP.cells) (z := 8) (fun _ => rfl) l i hi zs o h
 rw [hel]
 generalize l.eraseIdx i = q at *
 refine FJ 0 func217 ntmps217 (fun G => ?_)
 refine XX QT (fun hnc _ _ => ?_)
 repeat' first | refine Wk ?_ | refine Qa.mk (fun h => ?_) (fun h => ?_) | refine Qd.mk (fun ad => ?_) | refine Ds (id := 5) [0,0,3,0,0,24,63,127] [0,1,2,3,4,5,6,7] [6] [] false ?_ | refine Qt.mk Qb.a ?_ | refine QK.pre [] _ l.length a (XI l) (XI (l.drop (i + 1))) _ (l.length - (i + 1)) rfl (Jq _ _ _) (QJ.sl 122 122 _ _ _ _ _ rfl rfl (wN (F := PP.cells) (fun _ => rfl) l QT rfl (by omega) hnc) (by rw [xC, List.length_drop]; rfl)) (by omega) rfl ?_ | refine z1.mk [] _ _ _ _ ((((i : Int).toNat + (l.length - (i + 1)) : Nat) : Int)).toNat _ _ rfl (if_neg (by omega)) (by omega) ?_ | refine Qe.mk [.row 122 8 a (l.length - 1) c (XI q)] [] ⟨?_, rfl, rfl⟩ ((Qb.rowPre (k := l.length - 1) (by omega)).trans (Qb.of ?_))
 ·rw [show (i : Int).toNat + (l.length - (i + 1)) = l.length - 1 by omega]
 ·simp only [Int.toNat_natCast]
  exact congrArg (fun t => [Chunk.row 122 8 a (l.length - 1) c t]) (hcut _ _ (Nat.mul_le_mul_right _ (by omega)))
end Go.Proofs
namespace Go.X
open Go
variable [Sm : Inhabited Jh]
variable {P : Program} {G : Js} {ops : Array Oper} {eff : Nat → Bool} {z : Nat} {L0 : List Chunk} {D0 : List Fact} {Te : Act → List Chunk → List Fact → Prop} {dep : Nat → Nat → Bool}
inductive WX where
 | leaf (r : List Nat)
 | node (pre : List Nat) (e1 : Nat) (p1 : WX) (e2 : Nat) (p2 : WX)
 | node3 (pre : List Nat) (e1 : Nat) (p1 : WX) (e2 : Nat) (p2 : WX) (e3 : Nat) (p3 : WX)
def WX.flat : WX → List Nat
 | .leaf r => r
 | .node pre e1 p1 _ _ => pre ++ e1 :: p1.flat
 | .node3 pre e1 p1 _ _ _ _ => pre ++ e1 :: p1.flat
def Jl (P : Program) (G : Js) (ops : Array Oper) (eff : Nat → Bool) (z : Nat) (L0 : List Chunk) (D0 : List Fact) (Te : Act → List Chunk → List Fact → Prop) : WX → Act → List Chunk → List Fact → Prop
 | .leaf r => Za P G ops eff z L0 D0 Te r
 | .node pre e1 p1 e2 p2 => Za P G ops eff z L0 D0 (fun a L D => Za P G ops eff z L0 D0 (Jl P G ops eff z L0 D0 Te p1) [e1] a L D ∧ Za P G ops eff z L0 D0 (Jl P G ops eff z L0 D0 Te p2) [e2] a L D) pre
 | .node3 pre e1 p1 e2 p2 e3 p3 => Za P G ops eff z L0 D0 (fun a L D => Za P G ops eff z L0 D0 (Jl P G ops eff z L0 D0 Te p1) [e1] a L D ∧ Za P G ops eff z L0 D0 (Jl P G ops eff z L0 D0 Te p2) [e2] a L D ∧ Za P G ops eff z L0 D0 (Jl P G ops eff z L0 D0 Te p3) [e3] a L D) pre
def okP (dep : Nat → Nat → Bool) (ops : Array Oper) (eff : Nat → Bool) (z : Nat) : List Nat → WX → Prop
 | acc, .leaf r => (acc ++ r).Pairwise fun j i => Xj dep ops eff j i = true
 | acc, .node pre e1 p1 e2 p2 =>
  ((acc ++ pre) ++ [e1]).Pairwise (fun j i => Xj dep ops eff j i = true) ∧ ((acc ++ pre) ++ [e2]).Pairwise (fun j i => Xj dep ops eff j i = true) ∧
  (∀ j ∈ acc ++ pre, ∀ k ∈ e1 :: p1.flat, j ≠ k ∧ XN ops j k = false) ∧ (∀ k ∈ p1.flat, e1 ≠ k ∧ XN ops e1 k = false) ∧ (∀ k ∈ p2.flat, e2 ≠ k) ∧ e1 ≠ e2 ∧
  (∀ i ∈ p1.flat, i ≠ e2 → dep i e1 = true ∨ dep i e2 = true) ∧ (∀ i, i ∈ e1 :: p1.flat ↔ i ∈ e2 :: p2.flat) ∧ e1 ≠ z ∧ e2 ≠ z ∧ z ∉ acc ++ pre ∧ p1.flat.length = p2.flat.length ∧ ((acc ++ pre) ++ e2 :: p2.flat).Nodup ∧
  okP dep ops eff z (acc ++ pre) p1 ∧ okP dep ops eff z (acc ++ pre) p2
 | acc, .node3 pre e1 p1 e2 p2 e3 p3 =>
  ((acc ++ pre) ++ [e1]).Pairwise (fun j i => Xj dep ops eff j i = true) ∧ ((acc ++ pre) ++ [e2]).Pairwise (fun j i => Xj dep ops eff j i = true) ∧ ((acc ++ pre) ++ [e3]).Pairwise (fun j i => Xj dep ops eff j i = true) ∧
  (∀ j ∈ acc ++ pre, ∀ k ∈ e1 :: p1.flat, j ≠ k ∧ XN ops j k = false) ∧ (∀ k ∈ p1.flat, e1 ≠ k ∧ XN ops e1 k = false) ∧
  (∀ i ∈ p1.flat, i ≠ e2 → i ≠ e3 → dep i e1 = true ∨ dep i e2 = true ∨ dep i e3 = true) ∧ (∀ i, i ∈ e1 :: p1.flat ↔ i ∈ e2 :: p2.flat) ∧ (∀ i, i ∈ e1 :: p1.flat ↔ i ∈ e3 :: p3.flat) ∧ e1 ≠ z ∧ e2 ≠ z ∧ e3 ≠ z ∧ z ∉ acc ++ pre ∧ p1.flat.length = p2.flat.length ∧ p1.flat.length = p3.flat.length ∧ ((acc ++ pre) ++ e2 :: p2.flat).Nodup ∧ ((acc ++ pre) ++ e3 :: p3.flat).Nodup ∧
  okP dep ops eff z (acc ++ pre) p1 ∧ okP dep ops eff z (acc ++ pre) p2 ∧ okP dep ops eff z (acc ++ pre) p3
theorem HY (hdep : zq ops dep) (hs : Region.noSelect ops = true) (hed : ∀ i o, ops[i]? = some o → ∀ e ∈ o.after, Region.binds .any e = true → e.on ≠ i ∧ e.on < ops.size) {Q' : Exit → Act → World → Prop} (hQ : ∀ a L D w, Te a L D → Qz G w L D → Q' .normal a w) :
    ∀ (p : WX) (acc : List Nat), okP dep ops eff z acc p → ∀ (n : Nat) (acc' : List Nat) (listed : Array Bool) (a : Act) (L : List Chunk) (D : List Fact) (w : World), acc'.Sublist acc → (acc' ++ p.flat).length = n → (acc' ++ p.flat).Nodup → listed.size = ops.size → (∀ j ∈ acc' ++ p.flat, j < ops.size) → (∀ i, listed.getD i true = false ↔ i ∈ acc' ++ p.flat) → X5 ops listed →
      (z < ops.size → ∀ j ∈ acc' ++ p.flat, j ≠ z → dep z j = true) → Za P G ops eff z L0 D0 (Jl P G ops eff z L0 D0 Te p) acc' a L D → (Qb L D L0 D0 ∨ acc' ++ p.flat = []) → Qz G w L D → wpAny P .any ops Q' n listed a w := by
  intro p
  induction p with
  | leaf r =>
    intro acc hok n acc' listed a L D w hsub hlen hnd hsz hlt hr hc hz h hE hw
    exact Yj hdep hs hed n (acc' ++ r) listed a L D w Q' hQ hlen hsz hr hc (hok.sublist (hsub.append (List.Sublist.refl _))) hz (Zp (fun _ _ _ h => h) acc' a L D h) hE hw
  | node pre e1 p1 e2 p2 ih1 ih2 =>
    intro acc hok n acc' listed a L D w hsub hlen hnd hsz hlt hr hc hz h hE hw
    obtain ⟨k1, k2, k3, k4, k5, k12, k6, k7, k8, k9, k10, k11, k13, o1, o2⟩ := hok
    -- all that stands ahead of the two
    have key : ∀ (m : Nat) (q : List Nat) (n : Nat) (listed : Array Bool) (a : Act) (L : List Chunk) (D : List Fact) (w : World), q.length = m → q.Sublist (acc ++ pre) → (q ++ e1 :: p1.flat).length = n → (q ++ e1 :: p1.flat).Nodup → listed.size = ops.size → (∀ j ∈ q ++ e1 :: p1.flat, j < ops.size) → (∀ i, listed.getD i true = false ↔ i ∈ q ++ e1 :: p1.flat) → X5 ops listed →
        (z < ops.size → ∀ j ∈ q ++ e1 :: p1.flat, j ≠ z → dep z j = true) → Za P G ops eff z L0 D0 (fun a L D => Za P G ops eff z L0 D0 (Jl P G ops eff z L0 D0 Te p1) [e1] a L D ∧ Za P G ops eff z L0 D0 (Jl P G ops eff z L0 D0 Te p2) [e2] a L D) q a L D → Qb L D L0 D0 → Qz G w L D → wpAny P .any ops Q' n listed a w := by
      intro m
      induction m with
      | zero => ?_
      | succ m ihm => ?_
      all_goals
        intro q n listed a L D w hqm hqs hln hdu hsz hlt hr hc hz h hE hw
        have hperm : ∀ i, i ∈ q ++ e1 :: p1.flat ↔ i ∈ q ++ e2 :: p2.flat := fun i => by
          rw [List.mem_append, List.mem_append, k7 i]
        obtain ⟨n, rfl⟩ : ∃ n', n = n' + 1 := ⟨q.length + p1.flat.length, by rw [← hln]; simp; omega⟩
        have hq3 : ∀ j ∈ q, ∀ k ∈ e1 :: p1.flat, j ≠ k ∧ XN ops j k = false := fun j hj => k3 j (hqs.subset hj)
        have hp1 := k1.sublist (hqs.append (List.Sublist.refl [e1]))
        have hp2 := k2.sublist (hqs.append (List.Sublist.refl [e2]))
        have hpq := (List.pairwise_append.1 hp1).1
        have hzq : z ∉ q := fun hx => k10 (hqs.subset hx)
        have hnq : ∀ e, (e = e1 ∨ e = e2) → e ∉ q := fun e he hx => by
          rcases he with rfl | rfl
          · exact (hq3 e hx e (by simp)).1 rfl
          · exact (hq3 e hx e ((k7 e).2 (by simp))).1 rfl
        -- one of the two is taken
        have take : ∀ (e : Nat) (pp : WX), (e = e1 ∨ e = e2) → e ≠ z → (q ++ [e]).Pairwise (fun j i => Xj dep ops eff j i = true) → (∀ i, i ∈ q ++ e1 :: p1.flat ↔ i ∈ q ++ e :: pp.flat) → (q ++ e :: pp.flat).length = n + 1 → (q ++ e :: pp.flat).Nodup →
            (∀ (n : Nat) (acc' : List Nat) (listed : Array Bool) (a : Act) (L : List Chunk) (D : List Fact) (w : World), acc'.Sublist (acc ++ pre) → (acc' ++ pp.flat).length = n → (acc' ++ pp.flat).Nodup → listed.size = ops.size → (∀ j ∈ acc' ++ pp.flat, j < ops.size) → (∀ i, listed.getD i true = false ↔ i ∈ acc' ++ pp.flat) → X5 ops listed →
              (z < ops.size → ∀ j ∈ acc' ++ pp.flat, j ≠ z → dep z j = true) → Za P G ops eff z L0 D0 (Jl P G ops eff z L0 D0 Te pp) acc' a L D → (Qb L D L0 D0 ∨ acc' ++ pp.flat = []) → Qz G w L D → wpAny P .any ops Q' n listed a w) →
            Za P G ops eff z L0 D0 (Jl P G ops eff z L0 D0 Te pp) (q ++ [e]) a L D → e ∈ Region.ready .any ops listed → wpOp P ops Q' e (wpAny P .any ops Q' n (listed.setIfInBounds e true)) a w := by
          intro e pp he hez hpe hpm hle hndp ihp hlex hi
          obtain ⟨hun, o, ho, hall⟩ := mem_ready.1 hi
          have hcl : Yw ops eff e o (q ++ [e]) := ZP hdep hc ho hall (by simp) (fun j hj => (hr j).2 ((hpm j).2 (by
            rcases List.mem_append.1 hj with hj | hj
            · simp [hj]
            · rw [List.mem_singleton.1 hj]; simp))) (hpe.imp fun {j k} (h : Xj dep ops eff j k = true) (_ : k = e) => h)
          have hst := qz hs ho (q ++ [e]) a L D w hcl hlex hE hw
          have her : (q ++ [e]).erase e = q := by
            rw [List.erase_append_right _ (hnq e he)]; simp
          have hlte : e < listed.size := by
            rcases Nat.lt_or_ge e listed.size with h | h
            · exact h
            · simp [Array.getElem?_eq_none h] at hun
          have her2 : (q ++ e :: pp.flat).erase e = q ++ pp.flat := by
            rw [List.erase_append_right _ (hnq e he), List.erase_cons_head]
          have next : ∀ u w', (∃ L' D', Qz G w' L' D' ∧ (Qb L' D' L0 D0 ∨ e = z) ∧ Za P G ops eff z L0 D0 (Jl P G ops eff z L0 D0 Te pp) ((q ++ [e]).erase e) (a.put o.dst u) L' D') → wpAny P .any ops Q' n (listed.setIfInBounds e true) (a.put o.dst u) w' := by
            rintro u w' ⟨L', D', hw', hE', hl⟩
            rw [her] at hl
            have hin : ∀ j ∈ q ++ pp.flat, j ∈ q ++ e1 :: p1.flat := fun j hj => (hpm j).2 (by
              rcases List.mem_append.1 hj with hj | hj
              · exact List.mem_append_left _ hj
              · exact List.mem_append_right _ (List.mem_cons_of_mem _ hj))
            refine ihp n q _ _ L' D' w' hqs (by simp at hle ⊢; omega) (hndp.sublist (List.Sublist.append (List.Sublist.refl _) (List.sublist_cons_self _ _))) (by simpa using hsz) (fun j hj => hlt j (hin j hj)) ?_ (JY hlte ho hall hc) (fun hzs j hj hjz => hz hzs j (hin j hj) hjz) hl (.inl (hE'.resolve_right hez)) hw'
            rw [← her2]
            exact JU hndp hlte fun k => (hr k).trans (hpm k)
          unfold wpOp
          simp only [ho]
          rcases hst with ⟨hwt, hg⟩ | ⟨hwt, hR⟩
          · rw [if_pos hwt]
            exact .inl (hg.wp next)
          · rw [if_neg (by simp [hwt])]
            exact next _ _ hR
        refine ⟨fun hnil => ?_, fun i hi => ?_⟩
        · exfalso
          cases q with
          | nil => exact JX hed hsz hr (fun k hk => (k4 k hk).2) (hlt _ (by simp)) hnil
          | cons j q =>
            refine JX hed hsz hr (fun k hk => ?_) (hlt _ (by simp)) hnil
            rcases List.mem_append.1 hk with hk | hk
            · have := (List.pairwise_cons.1 hpq).1 k hk
              simp only [Xj, Bool.and_eq_true, Bool.not_eq_true'] at this
              exact this.1.2
            · exact (hq3 j (by simp) k hk).2
        · by_cases hi1 : i = e1
          · subst hi1
            exact take i p1 (.inl rfl) k8 hp1 (fun _ => Iff.rfl) hln hdu (ih1 _ o1) (Zp (fun _ _ _ h => h.1) q a L D h) hi
          by_cases hi2 : i = e2
          · subst hi2
            have hle2 : (q ++ i :: p2.flat).length = n + 1 := by
              have h9 := hln
              simp only [List.length_append, List.length_cons] at h9 ⊢
              omega
            have hnd2 : (q ++ i :: p2.flat).Nodup := k13.sublist (hqs.append (List.Sublist.refl _))
            exact take i p2 (.inr rfl) k9 hp2 hperm hle2 hnd2 (ih2 _ o2) (Zp (fun _ _ _ h => h.2) q a L D h) hi
          obtain ⟨hun, o, ho, hall⟩ := mem_ready.1 hi
          have hm := (hr i).1 hun
          have hmem : i ∈ q ∨ i ∈ p1.flat := by
            simp only [List.mem_append, List.mem_cons] at hm
            rcases hm with h | h | h
            · exact .inl h
            · exact absurd h hi1
            · exact .inr h
          rcases hmem with hip | hip
          · have hcl : Yw ops eff i o q := ZP hdep hc ho hall hip (fun j hj => (hr j).2 (by simp [hj])) (hpq.imp fun {j k} (h : Xj dep ops eff j k = true) (_ : k = i) => h)
            have hst := qz hs ho q a L D w hcl h hE hw
            have hltl : i < listed.size := by
              rcases Nat.lt_or_ge i listed.size with h | h
              · exact h
              · simp [Array.getElem?_eq_none h] at hun
            have her : (q ++ e1 :: p1.flat).erase i = q.erase i ++ e1 :: p1.flat := List.erase_append_left _ hip
            first
              | (exfalso; rw [List.eq_nil_of_length_eq_zero hqm] at hip; cases hip)
              | (have next : ∀ u w', (∃ L' D', Qz G w' L' D' ∧ (Qb L' D' L0 D0 ∨ i = z) ∧ Za P G ops eff z L0 D0 (fun a L D => Za P G ops eff z L0 D0 (Jl P G ops eff z L0 D0 Te p1) [e1] a L D ∧ Za P G ops eff z L0 D0 (Jl P G ops eff z L0 D0 Te p2) [e2] a L D) (q.erase i) (a.put o.dst u) L' D') → wpAny P .any ops Q' n (listed.setIfInBounds i true) (a.put o.dst u) w' := by
                  rintro u w' ⟨L', D', hw', hE', hl⟩
                  have hiz : i ≠ z := fun hx => hzq (hx ▸ hip)
                  have hle : (q.erase i).length = m := by rw [List.length_erase_of_mem hip]; omega
                  have hqpos : 0 < q.length := List.length_pos_of_mem hip
                  refine ihm (q.erase i) n _ _ L' D' w' hle (List.erase_sublist.trans hqs) (by have := hln; simp only [List.length_append, List.length_cons] at this ⊢; omega) (by rw [← her]; exact hdu.sublist List.erase_sublist) (by simpa using hsz) (fun j hj => hlt j (List.mem_of_mem_erase (show j ∈ (q ++ e1 :: p1.flat).erase i by rw [her]; exact hj))) ?_ (JY hltl ho hall hc) (fun hzs j hj hjz => hz hzs j (List.mem_of_mem_erase (show j ∈ (q ++ e1 :: p1.flat).erase i by rw [her]; exact hj)) hjz) hl (hE'.resolve_right hiz) hw'
                  rw [← her]; exact JU hdu hltl hr
                 unfold wpOp
                 simp only [ho]
                 rcases hst with ⟨hwt, hg⟩ | ⟨hwt, hR⟩
                 · rw [if_pos hwt]
                   exact .inl (hg.wp next)
                 · rw [if_neg (by simp [hwt])]
                   exact next _ _ hR)
          · exfalso
            rcases k6 i hip hi2 with hd | hd
            · have := hdep _ hc i e1 (fun o' ho' => by rw [ho] at ho'; cases ho'; exact hall) hd
              rw [(hr e1).2 (by simp)] at this
              cases this
            · have := hdep _ hc i e2 (fun o' ho' => by rw [ho] at ho'; cases ho'; exact hall) hd
              rw [(hr e2).2 ((hperm e2).2 (by simp))] at this
              cases this
    have hfl : acc' ++ (WX.node pre e1 p1 e2 p2).flat = (acc' ++ pre) ++ e1 :: p1.flat := by simp [WX.flat]
    rw [hfl] at hlen hnd hlt hr hz hE
    exact key _ (acc' ++ pre) n listed a L D w rfl (hsub.append (List.Sublist.refl _)) hlen hnd hsz hlt hr hc hz (Zp (fun _ _ _ h => h) acc' a L D h) (hE.resolve_right fun h => by simp at h) hw
  | node3 pre e1 p1 e2 p2 e3 p3 ih1 ih2 ih3 =>
    intro acc hok n acc' listed a L D w hsub hlen hnd hsz hlt hr hc hz h hE hw
    obtain ⟨k1, k2, k2c, k3, k4, k6, k7, k7c, k8, k9, k9c, k10, k11, k11c, k13, k13c, o1, o2, o3⟩ := hok
    -- all that stands ahead of the two
    have key : ∀ (m : Nat) (q : List Nat) (n : Nat) (listed : Array Bool) (a : Act) (L : List Chunk) (D : List Fact) (w : World), q.length = m → q.Sublist (acc ++ pre) → (q ++ e1 :: p1.flat).length = n → (q ++ e1 :: p1.flat).Nodup → listed.size = ops.size → (∀ j ∈ q ++ e1 :: p1.flat, j < ops.size) → (∀ i, listed.getD i true = false ↔ i ∈ q ++ e1 :: p1.flat) → X5 ops listed →
        (z < ops.size → ∀ j ∈ q ++ e1 :: p1.flat, j ≠ z → dep z j = true) → Za P G ops eff z L0 D0 (fun a L D => Za P G ops eff z L0 D0 (Jl P G ops eff z L0 D0 Te p1) [e1] a L D ∧ Za P G ops eff z L0 D0 (Jl P G ops eff z L0 D0 Te p2) [e2] a L D ∧ Za P G ops eff z L0 D0 (Jl P G ops eff z L0 D0 Te p3) [e3] a L D) q a L D → Qb L D L0 D0 → Qz G w L D → wpAny P .any ops Q' n listed a w := by
      intro m
      induction m with
      | zero => ?_
      | succ m ihm => ?_
      all_goals
        intro q n listed a L D w hqm hqs hln hdu hsz hlt hr hc hz h hE hw
        have hperm : ∀ i, i ∈ q ++ e1 :: p1.flat ↔ i ∈ q ++ e2 :: p2.flat := fun i => by
          rw [List.mem_append, List.mem_append, k7 i]
        have hpermc : ∀ i, i ∈ q ++ e1 :: p1.flat ↔ i ∈ q ++ e3 :: p3.flat := fun i => by
          rw [List.mem_append, List.mem_append, k7c i]
        obtain ⟨n, rfl⟩ : ∃ n', n = n' + 1 := ⟨q.length + p1.flat.length, by rw [← hln]; simp; omega⟩
        have hq3 : ∀ j ∈ q, ∀ k ∈ e1 :: p1.flat, j ≠ k ∧ XN ops j k = false := fun j hj => k3 j (hqs.subset hj)
        have hp1 := k1.sublist (hqs.append (List.Sublist.refl [e1]))
        have hp2 := k2.sublist (hqs.append (List.Sublist.refl [e2]))
        have hp3 := k2c.sublist (hqs.append (List.Sublist.refl [e3]))
        have hpq := (List.pairwise_append.1 hp1).1
        have hzq : z ∉ q := fun hx => k10 (hqs.subset hx)
        have hnq : ∀ e, (e = e1 ∨ e = e2 ∨ e = e3) → e ∉ q := fun e he hx => by
          rcases he with rfl | rfl | rfl
          · exact (hq3 e hx e (by simp)).1 rfl
          · exact (hq3 e hx e ((k7 e).2 (by simp))).1 rfl
          · exact (hq3 e hx e ((k7c e).2 (by simp))).1 rfl
        -- one of the two is taken
        have take : ∀ (e : Nat) (pp : WX), (e = e1 ∨ e = e2 ∨ e = e3) → e ≠ z → (q ++ [e]).Pairwise (fun j i => Xj dep ops eff j i = true) → (∀ i, i ∈ q ++ e1 :: p1.flat ↔ i ∈ q ++ e :: pp.flat) → (q ++ e :: pp.flat).length = n + 1 → (q ++ e :: pp.flat).Nodup →
            (∀ (n : Nat) (acc' : List Nat) (listed : Array Bool) (a : Act) (L : List Chunk) (D : List Fact) (w : World), acc'.Sublist (acc ++ pre) → (acc' ++ pp.flat).length = n → (acc' ++ pp.flat).Nodup → listed.size = ops.size → (∀ j ∈ acc' ++ pp.flat, j < ops.size) → (∀ i, listed.getD i true = false ↔ i ∈ acc' ++ pp.flat) → X5 ops listed →
              (z < ops.size → ∀ j ∈ acc' ++ pp.flat, j ≠ z → dep z j = true) → Za P G ops eff z L0 D0 (Jl P G ops eff z L0 D0 Te pp) acc' a L D → (Qb L D L0 D0 ∨ acc' ++ pp.flat = []) → Qz G w L D → wpAny P .any ops Q' n listed a w) →
            Za P G ops eff z L0 D0 (Jl P G ops eff z L0 D0 Te pp) (q ++ [e]) a L D → e ∈ Region.ready .any ops listed → wpOp P ops Q' e (wpAny P .any ops Q' n (listed.setIfInBounds e true)) a w := by
          intro e pp he hez hpe hpm hle hndp ihp hlex hi
          obtain ⟨hun, o, ho, hall⟩ := mem_ready.1 hi
          have hcl : Yw ops eff e o (q ++ [e]) := ZP hdep hc ho hall (by simp) (fun j hj => (hr j).2 ((hpm j).2 (by
            rcases List.mem_append.1 hj with hj | hj
            · simp [hj]
            · rw [List.mem_singleton.1 hj]; simp))) (hpe.imp fun {j k} (h : Xj dep ops eff j k = true) (_ : k = e) => h)
          have hst := qz hs ho (q ++ [e]) a L D w hcl hlex hE hw
          have her : (q ++ [e]).erase e = q := by
            rw [List.erase_append_right _ (hnq e he)]; simp
          have hlte : e < listed.size := by
            rcases Nat.lt_or_ge e listed.size with h | h
            · exact h
            · simp [Array.getElem?_eq_none h] at hun
          have her2 : (q ++ e :: pp.flat).erase e = q ++ pp.flat := by
            rw [List.erase_append_right _ (hnq e he), List.erase_cons_head]
          have next : ∀ u w', (∃ L' D', Qz G w' L' D' ∧ (Qb L' D' L0 D0 ∨ e = z) ∧ Za P G ops eff z L0 D0 (Jl P G ops eff z L0 D0 Te pp) ((q ++ [e]).erase e) (a.put o.dst u) L' D') → wpAny P .any ops Q' n (listed.setIfInBounds e true) (a.put o.dst u) w' := by
            rintro u w' ⟨L', D', hw', hE', hl⟩
            rw [her] at hl
            have hin : ∀ j ∈ q ++ pp.flat, j ∈ q ++ e1 :: p1.flat := fun j hj => (hpm j).2 (by
              rcases List.mem_append.1 hj with hj | hj
              · exact List.mem_append_left _ hj
              · exact List.mem_append_right _ (List.mem_cons_of_mem _ hj))
            refine ihp n q _ _ L' D' w' hqs (by simp at hle ⊢; omega) (hndp.sublist (List.Sublist.append (List.Sublist.refl _) (List.sublist_cons_self _ _))) (by simpa using hsz) (fun j hj => hlt j (hin j hj)) ?_ (JY hlte ho hall hc) (fun hzs j hj hjz => hz hzs j (hin j hj) hjz) hl (.inl (hE'.resolve_right hez)) hw'
            rw [← her2]
            exact JU hndp hlte fun k => (hr k).trans (hpm k)
          unfold wpOp
          simp only [ho]
          rcases hst with ⟨hwt, hg⟩ | ⟨hwt, hR⟩
          · rw [if_pos hwt]
            exact .inl (hg.wp next)
          · rw [if_neg (by simp [hwt])]
            exact next _ _ hR
        refine ⟨fun hnil => ?_, fun i hi => ?_⟩
        · exfalso
          cases q with
          | nil => exact JX hed hsz hr (fun k hk => (k4 k hk).2) (hlt _ (by simp)) hnil
          | cons j q =>
            refine JX hed hsz hr (fun k hk => ?_) (hlt _ (by simp)) hnil
            rcases List.mem_append.1 hk with hk | hk
            · have := (List.pairwise_cons.1 hpq).1 k hk
              simp only [Xj, Bool.and_eq_true, Bool.not_eq_true'] at this
              exact this.1.2
            · exact (hq3 j (by simp) k hk).2
        · by_cases hi1 : i = e1
          · subst hi1
            exact take i p1 (.inl rfl) k8 hp1 (fun _ => Iff.rfl) hln hdu (ih1 _ o1) (Zp (fun _ _ _ h => h.1) q a L D h) hi
          by_cases hi2 : i = e2
          · subst hi2
            have hle2 : (q ++ i :: p2.flat).length = n + 1 := by
              have h9 := hln
              simp only [List.length_append, List.length_cons] at h9 ⊢
              omega
            have hnd2 : (q ++ i :: p2.flat).Nodup := k13.sublist (hqs.append (List.Sublist.refl _))
            exact take i p2 (.inr (.inl rfl)) k9 hp2 hperm hle2 hnd2 (ih2 _ o2) (Zp (fun _ _ _ h => h.2.1) q a L D h) hi
          by_cases hi3 : i = e3
          · subst hi3
            have hle3 : (q ++ i :: p3.flat).length = n + 1 := by
              have h9 := hln
              simp only [List.length_append, List.length_cons] at h9 ⊢
              omega
            have hnd3 : (q ++ i :: p3.flat).Nodup := k13c.sublist (hqs.append (List.Sublist.refl _))
            exact take i p3 (.inr (.inr rfl)) k9c hp3 hpermc hle3 hnd3 (ih3 _ o3) (Zp (fun _ _ _ h => h.2.2) q a L D h) hi
          obtain ⟨hun, o, ho, hall⟩ := mem_ready.1 hi
          have hm := (hr i).1 hun
          have hmem : i ∈ q ∨ i ∈ p1.flat := by
            simp only [List.mem_append, List.mem_cons] at hm
            rcases hm with h | h | h
            · exact .inl h
            · exact absurd h hi1
            · exact .inr h
          rcases hmem with hip | hip
          · have hcl : Yw ops eff i o q := ZP hdep hc ho hall hip (fun j hj => (hr j).2 (by simp [hj])) (hpq.imp fun {j k} (h : Xj dep ops eff j k = true) (_ : k = i) => h)
            have hst := qz hs ho q a L D w hcl h hE hw
            have hltl : i < listed.size := by
              rcases Nat.lt_or_ge i listed.size with h | h
              · exact h
              · simp [Array.getElem?_eq_none h] at hun
            have her : (q ++ e1 :: p1.flat).erase i = q.erase i ++ e1 :: p1.flat := List.erase_append_left _ hip
            first
              | (exfalso; rw [List.eq_nil_of_length_eq_zero hqm] at hip; cases hip)
              | (have next : ∀ u w', (∃ L' D', Qz G w' L' D' ∧ (Qb L' D' L0 D0 ∨ i = z) ∧ Za P G ops eff z L0 D0 (fun a L D => Za P G ops eff z L0 D0 (Jl P G ops eff z L0 D0 Te p1) [e1] a L D ∧ Za P G ops eff z L0 D0 (Jl P G ops eff z L0 D0 Te p2) [e2] a L D ∧ Za P G ops eff z L0 D0 (Jl P G ops eff z L0 D0 Te p3) [e3] a L D) (q.erase i) (a.put o.dst u) L' D') → wpAny P .any ops Q' n (listed.setIfInBounds i true) (a.put o.dst u) w' := by
                  rintro u w' ⟨L', D', hw', hE', hl⟩
                  have hiz : i ≠ z := fun hx => hzq (hx ▸ hip)
                  have hle : (q.erase i).length = m := by rw [List.length_erase_of_mem hip]; omega
                  have hqpos : 0 < q.length := List.length_pos_of_mem hip
                  refine ihm (q.erase i) n _ _ L' D' w' hle (List.erase_sublist.trans hqs) (by have := hln; simp only [List.length_append, List.length_cons] at this ⊢; omega) (by rw [← her]; exact hdu.sublist List.erase_sublist) (by simpa using hsz) (fun j hj => hlt j (List.mem_of_mem_erase (show j ∈ (q ++ e1 :: p1.flat).erase i by rw [her]; exact hj))) ?_ (JY hltl ho hall hc) (fun hzs j hj hjz => hz hzs j (List.mem_of_mem_erase (show j ∈ (q ++ e1 :: p1.flat).erase i by rw [her]; exact hj)) hjz) hl (hE'.resolve_right hiz) hw'
                  rw [← her]; exact JU hdu hltl hr
                 unfold wpOp
                 simp only [ho]
                 rcases hst with ⟨hwt, hg⟩ | ⟨hwt, hR⟩
                 · rw [if_pos hwt]
                   exact .inl (hg.wp next)
                 · rw [if_neg (by simp [hwt])]
                   exact next _ _ hR)
          · exfalso
            rcases k6 i hip hi2 hi3 with hd | hd | hd
            · have := hdep _ hc i e1 (fun o' ho' => by rw [ho] at ho'; cases ho'; exact hall) hd
              rw [(hr e1).2 (by simp)] at this
              cases this
            · have := hdep _ hc i e2 (fun o' ho' => by rw [ho] at ho'; cases ho'; exact hall) hd
              rw [(hr e2).2 ((hperm e2).2 (by simp))] at this
              cases this
            · have := hdep _ hc i e3 (fun o' ho' => by rw [ho] at ho'; cases ho'; exact hall) hd
              rw [(hr e3).2 ((hpermc e3).2 (by simp))] at this
              cases this
    have hfl : acc' ++ (WX.node3 pre e1 p1 e2 p2 e3 p3).flat = (acc' ++ pre) ++ e1 :: p1.flat := by simp [WX.flat]
    rw [hfl] at hlen hnd hlt hr hz hE
    exact key _ (acc' ++ pre) n listed a L D w rfl (hsub.append (List.Sublist.refl _)) hlen hnd hsz hlt hr hc hz (Zp (fun _ _ _ h => h) acc' a L D h) (hE.resolve_right fun h => by simp at h) hw
def ndB : List Nat → Bool
 | [] => true
 | x :: r => !r.contains x && ndB r
theorem xH : ∀ {l : List Nat}, ndB l = true → l.Nodup
 | [], _ => .nil
 | x :: r, h => by
  simp only [ndB, Bool.and_eq_true, Bool.not_eq_true'] at h
  exact List.nodup_cons.2 ⟨Jn h.1, xH h.2⟩
def jM (ops : Array Oper) (j k : Nat) : Bool := j != k && !XN ops j k
theorem apart_spec {j k : Nat} (h : jM ops j k = true) : j ≠ k ∧ XN ops j k = false := by
 simp only [jM, Bool.and_eq_true, bne_iff_ne, Bool.not_eq_true'] at h; exact h
def UY (dep : Nat → Nat → Bool) (ops : Array Oper) (eff : Nat → Bool) (z : Nat) : List Nat → WX → Bool
 | acc, .leaf r => RF.go dep ops eff (acc ++ r)
 | acc, .node pre e1 p1 e2 p2 =>
  RF.go dep ops eff ((acc ++ pre) ++ [e1]) && RF.go dep ops eff ((acc ++ pre) ++ [e2]) && (acc ++ pre).all (fun j => (e1 :: p1.flat).all (jM ops j)) && p1.flat.all (jM ops e1) && p2.flat.all (fun k => e2 != k) && (e1 != e2)
   && p1.flat.all (fun i => Nat.beq i e2 || dep i e1 || dep i e2) && (e1 :: p1.flat).all (fun i => (e2 :: p2.flat).contains i) && (e2 :: p2.flat).all (fun i => (e1 :: p1.flat).contains i) && (e1 != z) && (e2 != z) && !(acc ++ pre).contains z
   && Nat.beq p1.flat.length p2.flat.length && ndB ((acc ++ pre) ++ e2 :: p2.flat) && UY dep ops eff z (acc ++ pre) p1 && UY dep ops eff z (acc ++ pre) p2
 | acc, .node3 pre e1 p1 e2 p2 e3 p3 =>
  (RF.go dep ops eff ((acc ++ pre) ++ [e1]) && (RF.go dep ops eff ((acc ++ pre) ++ [e2]) && (RF.go dep ops eff ((acc ++ pre) ++ [e3]) && ((acc ++ pre).all (fun j => (e1 :: p1.flat).all (jM ops j)) && (p1.flat.all (jM ops e1) && (p1.flat.all (fun i => Nat.beq i e2 || (Nat.beq i e3 || (dep i e1 || (dep i e2 || dep i e3))))
   && ((e1 :: p1.flat).all (fun i => (e2 :: p2.flat).contains i) && ((e2 :: p2.flat).all (fun i => (e1 :: p1.flat).contains i) && ((e1 :: p1.flat).all (fun i => (e3 :: p3.flat).contains i) && ((e3 :: p3.flat).all (fun i => (e1 :: p1.flat).contains i) && ((e1 != z) && ((e2 != z) && ((e3 != z) && (!(acc ++ pre).contains z && (Nat.beq p1.flat.length p2.flat.length && (Nat.beq p1.flat.length p3.flat.length && (ndB ((acc ++ pre) ++ e2 :: p2.flat) && (ndB ((acc ++ pre) ++ e3 :: p3.flat)
   && (UY dep ops eff z (acc ++ pre) p1 && (UY dep ops eff z (acc ++ pre) p2 && UY dep ops eff z (acc ++ pre) p3))))))))))))))))))))
theorem jA : ∀ (p : WX) (acc : List Nat), UY dep ops eff z acc p = true → okP dep ops eff z acc p
 | .leaf r, acc, h => XD h
 | .node pre e1 p1 e2 p2, acc, h => by
  simp only [UY, Bool.and_eq_true] at h
  obtain ⟨⟨⟨⟨⟨⟨⟨⟨⟨⟨⟨⟨⟨⟨⟨h1, h2⟩, h3⟩, h4⟩, h5⟩, h6⟩, h7⟩, h8⟩, h9⟩, h10⟩, h11⟩, h12⟩, h13⟩, h14⟩, h15⟩, h16⟩ := h
  refine ⟨XD h1, XD h2, fun j hj k hk => apart_spec (List.all_eq_true.1 (List.all_eq_true.1 h3 j hj) k hk), fun k hk => apart_spec (List.all_eq_true.1 h4 k hk), fun k hk => bne_iff_ne.1 (List.all_eq_true.1 h5 k hk), bne_iff_ne.1 h6, fun i hi hie => ?_, fun i => ⟨fun hi => ?_, fun hi => ?_⟩, bne_iff_ne.1 h10, bne_iff_ne.1 h11, Jn (by simpa using h12), Nat.eq_of_beq_eq_true h13, xH h14, jA p1 _ h15, jA p2 _ h16⟩
  ·have := List.all_eq_true.1 h7 i hi
   rcases Bool.or_eq_true_iff.1 this with hx | hx
   ·rcases Bool.or_eq_true_iff.1 hx with hy | hy
    ·exact absurd (Nat.eq_of_beq_eq_true hy) hie
    ·exact .inl hy
   ·exact .inr hx
  ·exact List.contains_iff_mem.1 (List.all_eq_true.1 h8 i hi)
  ·exact List.contains_iff_mem.1 (List.all_eq_true.1 h9 i hi)
 | .node3 pre e1 p1 e2 p2 e3 p3, acc, h => by
  simp only [UY, Bool.and_eq_true] at h
  obtain ⟨h1, h2, h2c, h3, h4, h7, h8, h9, h8c, h9c, h10, h11, h11c, h12, h13, h13c, h14, h14c, h15, h16, h17⟩ := h
  refine ⟨XD h1, XD h2, XD h2c, fun j hj k hk => apart_spec (List.all_eq_true.1 (List.all_eq_true.1 h3 j hj) k hk), fun k hk => apart_spec (List.all_eq_true.1 h4 k hk), fun i hi hie hic => ?_, fun i => ⟨fun hi => ?_, fun hi => ?_⟩, fun i => ⟨fun hi => ?_, fun hi => ?_⟩, bne_iff_ne.1 h10, bne_iff_ne.1 h11, bne_iff_ne.1 h11c, Jn (by simpa using h12), Nat.eq_of_beq_eq_true h13, Nat.eq_of_beq_eq_true h13c, xH h14, xH h14c, jA p1 _ h15, jA p2 _ h16, jA p3 _ h17⟩
  ·have := List.all_eq_true.1 h7 i hi
   rcases Bool.or_eq_true_iff.1 this with hx | hx
   ·exact absurd (Nat.eq_of_beq_eq_true hx) hie
   ·rcases Bool.or_eq_true_iff.1 hx with hy | hy
    ·exact absurd (Nat.eq_of_beq_eq_true hy) hic
    ·rcases Bool.or_eq_true_iff.1 hy with hz | hz
     ·exact .inl hz
     ·exact .inr (Bool.or_eq_true_iff.1 hz)
  ·exact List.contains_iff_mem.1 (List.all_eq_true.1 h8 i hi)
  ·exact List.contains_iff_mem.1 (List.all_eq_true.1 h9 i hi)
  ·exact List.contains_iff_mem.1 (List.all_eq_true.1 h8c i hi)
  ·exact List.contains_iff_mem.1 (List.all_eq_true.1 h9c i hi)
def okT (A : List Nat) (ops : Array Oper) (eff : Nat → Bool) (z : Nat) (p : WX) : Bool :=
 Nat.ble A.length ops.size && U2 A ops && Region.noSelect ops && Gg ops && p.flat.all (· < ops.size) && (List.range ops.size).all (p.flat.contains ·) && ndB p.flat && (Nat.ble ops.size z || p.flat.all fun j => Nat.beq j z || (A.getD z 0).testBit j)
  && UY (fun i j => (A.getD i 0).testBit j) ops eff z [] p
theorem wQ {A : List Nat} {id : Nat} {p : WX} {a : Act} {L : List Chunk} {D : List Fact} {w : World} {Q' : Exit → Act → World → Prop} (hm : P.follows .mixedOrders = true) (hB : okT A ops eff z p = true) (hQ : ∀ a L D w, Te a L D → Qz G w L D → Q' .normal a w)
  (h : Jl P G ops eff z L0 D0 Te p a L D) (hE : Qb L D L0 D0) (hw : Qz G w L D) : (Code.region id ops true).wp P Q' a w := by
 simp only [okT, Bool.and_eq_true, Bool.or_eq_true] at hB
 obtain ⟨⟨⟨⟨⟨⟨⟨⟨hA, hmk⟩, hs⟩, hed⟩, hlt⟩, hall⟩, hnd⟩, hz⟩, hok⟩ := hB
 have hnd := xH hnd
 have hperm : p.flat.Perm (List.range ops.size) := by
  rw [List.perm_ext_iff_of_nodup hnd List.nodup_range]
  intro i
  rw [List.mem_range]
  refine ⟨fun hi => by simpa using List.all_eq_true.1 hlt i hi, fun hi => ?_⟩
  have := List.all_eq_true.1 hall i (List.mem_range.2 hi)
  rwa [List.contains_iff_mem] at this
 have hlen : p.flat.length = ops.size := by
  have := hperm.length_eq
  simpa using this
 refine wp_region_any hm ?_
 refine HY (Yi hmk hA) hs (qs hed) hQ p [] (jA p [] hok) ops.size [] _ a L D _ (List.Sublist.refl _) (by simpa using hlen) (by simpa using hnd) (by simp) (fun j hj => by rw [List.nil_append, hperm.mem_iff, List.mem_range] at hj; exact hj) (fun i => ?_) ?_ ?_ h (.inl hE) (JO hw)
 ·rw [List.nil_append, hperm.mem_iff, List.mem_range]
  by_cases hi : i < ops.size
  ·simp [hi]
  ·simp [hi]
 ·intro i o ho hl
  exfalso
  have hi : i < ops.size := (Array.getElem?_eq_some_iff.1 ho).1
  simp [hi] at hl
 ·intro hzs j hj hjz
  rw [List.nil_append] at hj
  rcases hz with hz | hz
  ·exact absurd (Nat.le_of_ble_eq_true hz) (by omega)
  ·have := List.all_eq_true.1 hz j hj
   rcases Bool.or_eq_true_iff.1 this with h1 | h1
   ·exact absurd (Nat.eq_of_beq_eq_true h1) hjz
   ·exact h1
def vcP (P : Program) (T : Ty) (N : Nat) (ops : List Oper) (eff : List Nat) (z : Nat) (L0 : List Chunk) (D0 : List Fact) : WX → XR → List Chunk → List Fact → Nat → RD → Prop
 | .leaf r, env, L, D, nid, k => jj P T N ops eff z L0 D0 r env L D nid k
 | .node pre e1 p1 e2 p2, env, L, D, nid, k => jj P T N ops eff z L0 D0 pre env L D nid fun env' L' D' n' => X3 (jj P T N ops eff z L0 D0 [e1] env' L' D' n' (vcP P T N ops eff z L0 D0 p1 · · · · k)) (jj P T N ops eff z L0 D0 [e2] env' L' D' n' (vcP P T N ops eff z L0 D0 p2 · · · · k))
 | .node3 pre e1 p1 e2 p2 e3 p3, env, L, D, nid, k => jj P T N ops eff z L0 D0 pre env L D nid fun env' L' D' n' => X3 (jj P T N ops eff z L0 D0 [e1] env' L' D' n' (vcP P T N ops eff z L0 D0 p1 · · · · k)) (X3 (jj P T N ops eff z L0 D0 [e2] env' L' D' n' (vcP P T N ops eff z L0 D0 p2 · · · · k)) (jj P T N ops eff z L0 D0 [e3] env' L' D' n' (vcP P T N ops eff z L0 D0 p3 · · · · k)))
theorem Wl {N : Nat} {T : Ty} (hT : Z4 P T) (ops : List Oper) (eff : List Nat) {k : RD} {Te : Act → List Chunk → List Fact → Prop} (hQ : ∀ env' L' D' n' a', k env' L' D' n' → XF N env' a' → Te a' L' D') :
    ∀ (p : WX) (env : XR) (L : List Chunk) (D : List Fact) (nid : Nat) (a : Act), vcP P T N ops eff z L0 D0 p env L D nid k → XF N env a → Jl P G ops.toArray (fun i => eff.contains i) z L0 D0 Te p a L D
  | .leaf r, env, L, D, nid, a, h, he => Zn hT ops eff hQ r env L D nid a h he
  | .node pre e1 p1 e2 p2, env, L, D, nid, a, h, he =>
    Zn (Te := fun a L D => Za P G ops.toArray (fun i => eff.contains i) z L0 D0 (Jl P G ops.toArray (fun i => eff.contains i) z L0 D0 Te p1) [e1] a L D ∧ Za P G ops.toArray (fun i => eff.contains i) z L0 D0 (Jl P G ops.toArray (fun i => eff.contains i) z L0 D0 Te p2) [e2] a L D)
      hT ops eff (fun env' L' D' n' a' hk he' =>
        ⟨Zn (Te := Jl P G ops.toArray (fun i => eff.contains i) z L0 D0 Te p1) hT ops eff (fun env2 L2 D2 n2 a2 hk2 he2 => Wl hT ops eff hQ p1 env2 L2 D2 n2 a2 hk2 he2) [e1] env' L' D' n' a' hk.l he',
         Zn (Te := Jl P G ops.toArray (fun i => eff.contains i) z L0 D0 Te p2) hT ops eff (fun env2 L2 D2 n2 a2 hk2 he2 => Wl hT ops eff hQ p2 env2 L2 D2 n2 a2 hk2 he2) [e2] env' L' D' n' a' hk.r he'⟩) pre env L D nid a h he
  | .node3 pre e1 p1 e2 p2 e3 p3, env, L, D, nid, a, h, he =>
    Zn (Te := fun a L D => Za P G ops.toArray (fun i => eff.contains i) z L0 D0 (Jl P G ops.toArray (fun i => eff.contains i) z L0 D0 Te p1) [e1] a L D ∧ Za P G ops.toArray (fun i => eff.contains i) z L0 D0 (Jl P G ops.toArray (fun i => eff.contains i) z L0 D0 Te p2) [e2] a L D ∧ Za P G ops.toArray (fun i => eff.contains i) z L0 D0 (Jl P G ops.toArray (fun i => eff.contains i) z L0 D0 Te p3) [e3] a L D)
      hT ops eff (fun env' L' D' n' a' hk he' =>
        ⟨Zn (Te := Jl P G ops.toArray (fun i => eff.contains i) z L0 D0 Te p1) hT ops eff (fun env2 L2 D2 n2 a2 hk2 he2 => Wl hT ops eff hQ p1 env2 L2 D2 n2 a2 hk2 he2) [e1] env' L' D' n' a' hk.l he',
         Zn (Te := Jl P G ops.toArray (fun i => eff.contains i) z L0 D0 Te p2) hT ops eff (fun env2 L2 D2 n2 a2 hk2 he2 => Wl hT ops eff hQ p2 env2 L2 D2 n2 a2 hk2 he2) [e2] env' L' D' n' a' hk.r.l he',
         Zn (Te := Jl P G ops.toArray (fun i => eff.contains i) z L0 D0 Te p3) hT ops eff (fun env2 L2 D2 n2 a2 hk2 he2 => Wl hT ops eff hQ p3 env2 L2 D2 n2 a2 hk2 he2) [e3] env' L' D' n' a' hk.r.r he'⟩) pre env L D nid a h he
theorem Ke {N : Nat} {env : XR} {T : Ty} (hT : Z4 P T) (hm : P.follows .mixedOrders = true) {id : Nat} {ops : List Oper} {L : List Chunk} {D : List Fact} {nid : Nat} {K : Kt} (A : List Nat) (p : WX) (eff slots : List Nat) (z : Nat) (b : Bool) (hB : okT A ops.toArray (fun i => eff.contains i) z p = true)
  (h : vcP P T N ops eff z (Ki b (KB env slots) L) D p env L D nid (K .normal)) : J P G N (.region id ops.toArray true) env L D nid K :=
 ⟨fun a w he hs => wQ (z := z) (Te := fun a' L' D' => ∀ w', Qz G w' L' D' → yP G N K .normal a' w') hm hB (fun _ _ _ w' h hw => h w' hw)
  (Wl hT ops eff (fun env' L' D' n' a' hk he' w' hs' => ⟨env', L', D', n', hk, he', hs'⟩) p env L D nid a h he) (Qb.ofSub (Xw _ _ _) fun _ h => h) hs⟩
end Go.X
namespace Go.Proofs
open Go.Shelf
def Tryz.lays125_ren : Go.Shelf.Ren := ⟨fun | 125 => 109 | 128 => 157 | 129 => 158 | n => n, fun | 46 => 110 | 3 => 3 | 51 => 196 | 53 => 107 | 4 => 4 | 5 => 5 | 9 => 9 | n => n, fun | n => n⟩
theorem Tryz.lays125 : Go.Proofs.Lays.n125 Tryz.prog Tryz.lays125_ren := {
 mixed := by kernel_rfl
 f125 := Tryz.func109.trans (congrArg some (by kernel_rfl))
 f128 := Tryz.func157.trans (congrArg some (by kernel_rfl))
 f129 := Tryz.func158.trans (congrArg some (by kernel_rfl))
 t3 := Tryz.underlying3
 a3 := Tryz.isAgg3
 z3 := Tryz.sizeOf3
 v3 := Tryz.zeroValue3
 t4 := Tryz.underlying4
 a4 := Tryz.isAgg4
 z4 := Tryz.sizeOf4
 v4 := Tryz.zeroValue4
 t5 := Tryz.underlying5
 a5 := Tryz.isAgg5
 z5 := Tryz.sizeOf5
 v5 := Tryz.zeroValue5
 t9 := Tryz.underlying9
 a9 := Tryz.isAgg9
 z9 := Tryz.sizeOf9
 v9 := Tryz.zeroValue9
 t46 := Tryz.underlying110
 a46 := Tryz.isAgg110
 z46 := Tryz.sizeOf110
 v46 := Tryz.zeroValue110
 t51 := Tryz.underlying196
 a51 := Tryz.isAgg196
 z51 := Tryz.sizeOf196
 v51 := Tryz.zeroValue196
 t53 := Tryz.underlying107
 a53 := Tryz.isAgg107
 z53 := Tryz.sizeOf107
 v53 := Tryz.zeroValue107 }
theorem Tryz.bits_Len (x : Int) (w : World) (h0 : 0 ≤ x) (h1 : x ≤ 18446744073709551615) :
  Calls Tryz.prog 109 #[.int .u64 x] w fun e w' => e = .returned (.int .i64 (Lib.bitLen x.toNat)) ∧ w' = w := Any.bits_Len Tryz.lays125 x w h0 h1
end Go.Proofs
namespace Go.X
open Go Go.Sort Go.Proofs
theorem O6 {α : Type} {F : α → List C} {k : Nat} (hF : ∀ x, (F x).length = k) : ∀ {d : List α} {t : Nat} (_ : t < d.length * k), ∃ (h : t / k < d.length) (h2 : t % k < (F (d[t / k]'h)).length), (d.flatMap F)[t]? = some ((F (d[t / k]'h))[t % k]'h2)
  | [], t, h => by simp at h
  | x :: r, t, h => by
    have hk : 0 < k := by rcases Nat.eq_zero_or_pos k with h0 | h0; · subst h0; simp at h
                          · exact h0
    by_cases ht : t < k
    · have h1 : t / k = 0 := Nat.div_eq_of_lt ht
      have h2 : t % k = t := Nat.mod_eq_of_lt ht
      refine ⟨by rw [h1]; simp, by simp only [h1, h2, List.getElem_cons_zero, hF]; exact ht, ?_⟩
      simp only [h1, h2, List.getElem_cons_zero]
      rw [List.flatMap_cons, List.getElem?_append_left (by rw [hF]; exact ht), List.getElem?_eq_getElem (by rw [hF]; exact ht)]
    · obtain ⟨u, rfl⟩ : ∃ u, t = u + k := ⟨t - k, by omega⟩
      have h1 : (u + k) / k = u / k + 1 := Nat.add_div_right u hk
      have h2 : (u + k) % k = u % k := Nat.add_mod_right u k
      have hu : u < r.length * k := by simp only [List.length_cons, Nat.add_mul, Nat.one_mul] at h; omega
      obtain ⟨h3, h4, h5⟩ := O6 hF (d := r) (t := u) hu
      refine ⟨by rw [h1]; simpa using h3, by simp only [h1, h2, List.getElem_cons_succ]; exact h4, ?_⟩
      simp only [h1, h2, List.getElem_cons_succ]
      rw [List.flatMap_cons, List.getElem?_append_right (by rw [hF]; omega), hF, Nat.add_sub_cancel, h5]
abbrev jG {α : Type} (F : α → List C) : α → List Value := fun x => (F x).map C.enc
theorem yx {α : Type} [Inhabited α] {F : α → List C} {k : Nat} (hF : ∀ x, (F x).length = k) (d : List α) : (flatK (jG F) k d.toArray).toList = (d.flatMap F).map C.enc := by
 have hlen : (d.flatMap F).length = d.length * k := Q7 hF d
 apply List.ext_getElem?
 intro t
 by_cases ht : t < d.length * k
 ·obtain ⟨h1, h2, h3⟩ := O6 hF ht
  rw [List.getElem?_map, h3]
  have h4 := get_flatK (jG F) k d.toArray t (by simpa using ht)
  rw [getElem!_pos _ t (by simpa using ht)] at h4
  rw [Array.getElem?_toList, Array.getElem?_eq_getElem (by simpa using ht), h4]
  rw [getElem!_pos d.toArray (t / k) (by simpa using h1)]
  simp only [List.getElem_toArray, Option.map_some]
  rw [getElem!_pos _ (t % k) (by simpa using h2)]
  simp
 ·rw [List.getElem?_eq_none (by simp; omega), List.getElem?_eq_none (by rw [List.length_map, hlen]; omega)]
theorem vi {α : Type} [Inhabited α] {F : α → List C} {k : Nat} (hF : ∀ x, (F x).length = k) {w : World} {g ety c : Nat} {d : List α} (h : H6 w.heap[g]? ety k d.length c (d.flatMap F)) : HoldsK (jG F) k w g 0 d.toArray := by
 obtain ⟨cur, lo, hi, ho, hn, hc, hs, hfr, hl, ht⟩ := h
 intro j hj
 rw [size_flatK] at hj
 have hj' : j < d.length * k := by simpa using hj
 have hcur : j < cur.size := by
  have := Nat.mul_le_mul_right k hn
  omega
 have h1 : cur[j]? = some ((flatK (jG F) k d.toArray)[j]!) := by
  have h2 : (cur.toList.take (d.length * k))[j]? = some (cur[j]'hcur) := by
   rw [List.getElem?_take, if_pos hj', Array.getElem?_toList, Array.getElem?_eq_getElem hcur]
  rw [ht, ← yx hF d, Array.getElem?_toList, Array.getElem?_eq_getElem (by simpa using hj)] at h2
  rw [Array.getElem?_eq_getElem hcur, getElem!_pos _ j (by simpa using hj)]
  exact h2.symm
 refine ⟨?_, ?_⟩
 ·simp only [World.cell?, ho, Nat.zero_add]
  rw [h1]; rfl
 ·simp only [World.frozen?, ho, Nat.zero_add, Bool.and_eq_false_iff, decide_eq_false_iff_not]
  omega
theorem TD {α : Type} [Inhabited α] {F : α → List C} {k : Nat} (hF : ∀ x, (F x).length = k) {w : World} {g ety c m : Nat} {d d' : List α} {os : Array Obj} (hl : d'.length = d.length) (h : H6 w.heap[g]? ety k d.length c (d.flatMap F)) (hg : g < w.heap.size) :
  H6 (sortWorldK (jG F) k w g 0 m d'.toArray os).heap[g]? ety k d'.length c (d'.flatMap F) := by
 obtain ⟨cur, lo, hi, ho, hn, hc, hs, hfr, hcl, ht⟩ := h
 have hsz : g < (putRowK (jG F) k (Sort.ahead w m) g 0 d'.toArray).heap.size := by
  show g < (mapBlock (Sort.ahead w m) g _).heap.size
  simp only [mapBlock, Array.size_modify]
  exact hg
 have hget : (sortWorldK (jG F) k w g 0 m d'.toArray os).heap[g]? = some (.cells (putCells id 0 (flatK (jG F) k d'.toArray) cur) ety (lo, hi)) := by
  unfold sortWorldK
  rw [heap_grow_old _ _ hsz]
  show (mapBlock (Sort.ahead w m) g _).heap[g]? = _
  simp only [mapBlock, Array.getElem?_modify, if_true]
  rw [show (Sort.ahead w m).heap[g]? = w.heap[g]? from rfl, ho]
  rfl
 rw [hget]
 refine ⟨_, lo, hi, rfl, by omega, hc, by simp [putCells, hs], by simpa [putCells] using hfr, by rw [Q7 hF], ?_⟩
 rw [← yx hF d']
 have hle := Nat.mul_le_mul_right k hn
 apply List.ext_getElem?
 intro t
 by_cases h1 : t < d'.length * k
 ·rw [List.getElem?_take, if_pos h1, Array.getElem?_toList, Array.getElem?_toList]
  have h2 : t < cur.size := by rw [hl] at h1; omega
  simp only [putCells, Array.getElem?_mapIdx, Array.getElem?_eq_getElem h2, Option.map_some, size_flatK, List.size_toArray, Nat.zero_le, true_and, Nat.zero_add, h1, if_true, Nat.sub_zero, id]
  rw [getElem!_pos _ t (by simpa using h1), Array.getElem?_eq_getElem (by simpa using h1)]
 ·rw [List.getElem?_take, if_neg h1, List.getElem?_eq_none (by simp; omega)]
theorem xm {α : Type} [Inhabited α] {enc : α → List Value} {k : Nat} {w : World} {g m b : Nat} {d : Array α} {os : Array Obj} (hb : b < w.heap.size) (hn : b ≠ g) : (sortWorldK enc k w g 0 m d os).heap[b]? = w.heap[b]? := by
 have hsz : b < (putRowK enc k (Sort.ahead w m) g 0 d).heap.size := by
  show b < (mapBlock (Sort.ahead w m) g _).heap.size
  simp only [mapBlock, Array.size_modify]
  exact hb
 unfold sortWorldK
 rw [heap_grow_old _ _ hsz]
 show (mapBlock (Sort.ahead w m) g _).heap[b]? = _
 simp only [mapBlock, Array.getElem?_modify]
 rw [if_neg (fun h => hn h.symm)]
 rfl
theorem TM {α : Type} [Inhabited α] {d d' : Array α} (h : PermIn 0 d.size d d') : d'.toList.Perm d.toList := by
 obtain ⟨h1, _, h3⟩ := h
 rw [show d.size = d'.size from h1.symm] at h3
 rw [Array.extract_size] at h3
 rwa [h1, Array.extract_size] at h3
theorem G6 {α : Type} [Inhabited α] {lt : α → α → Bool} {d : Array α} (h : SortedIn lt 0 d.size d) : d.toList.Pairwise fun x y => lt y x = false := by
 rw [List.pairwise_iff_getElem]
 intro i j hi hj hij
 have := h i j (Nat.zero_le _) hij (by simpa using hj)
 rw [getElem!_pos d j (by simpa using hj), getElem!_pos d i (by simpa using hi)] at this
 simpa using this
theorem Nk {P : Program} {α : Type} [Inhabited α] {fS g : FuncId} {ety k : Nat} {F : α → List C} {lt : α → α → Bool} (hF : ∀ x, (F x).length = k) (hF1 : ∀ x, ZO (F x))
  (hn : FnS P fS [.c (.sl none 0 0), .c (.fn g [])] [] [] (fun v L D => v = .t0 ∧ L = [] ∧ D = []))
  (hsort : ∀ (blk cap : Nat) (d : Array α) (w : World), HoldsK (jG F) k w blk 0 d → blk < w.heap.size → d.size < 4611686018427387904 → Calls P fS #[.slice (some ⟨blk, 0, none⟩) d.size cap, .func (.func g) #[] #[]] w fun e w' => e = .returned (.tuple #[]) ∧ ∃ d' n os, PermIn 0 d.size d d' ∧ SortedIn lt 0 d.size d' ∧ w' = sortWorldK (jG F) k w blk 0 n d' os)
  (a : Option Addr) (c : Nat) (l : List α) (hl : l.length < 4611686018427387904) :
  FnS P fS [.c (.sl a l.length c), .c (.fn g [])] [.row ety k a l.length c (l.flatMap F)] [] (fun v L D => ∃ l' : List α, l'.Perm l ∧ l'.Pairwise (fun x y => lt y x = false) ∧ v = .t0 ∧ L = [.row ety k a l.length c (l'.flatMap F)] ∧ D = []) := by
 refine ⟨hn.en, fun w m hh => ?_⟩
 rcases hh.ok.1.2 with ⟨ha, hn0, hc0, hcs⟩ | ⟨b, ha, hrow⟩
 ·subst ha hc0
  have hl0 : l = [] := List.eq_nil_of_length_eq_zero hn0
  subst hl0
  refine (hn.run w m ⟨by simp [Xy], trivial, fun b o hb => ⟨(hh.im b o hb).1, by simp [Xy]⟩, trivial⟩).mono ?_
  rintro e w' ⟨v, L', D', m', he, ⟨rfl, rfl, rfl⟩, h1, h2⟩
  refine ⟨.t0, _, [], m', he, ⟨[], .refl _, .nil, rfl, rfl, rfl⟩, ⟨by simp [Xy, Chunk.fp], ⟨⟨fun x hx => by simp at hx, .inl ⟨rfl, rfl, rfl, rfl⟩⟩, trivial⟩, fun b o hb => ⟨(h1.im b o hb).1, by simp [Xy, Chunk.fp]⟩, trivial⟩, ⟨h2.size, fun b hb hx => h2.same b hb (by simp [Xy]), fun b hb => by simp [Xy, Chunk.fp] at hb, h2.im, fun b o ho => ?_, h2.kept⟩⟩
  rcases h2.new b o ho with h3 | h3 | h3
  ·exact .inl h3
  ·simp [Xy] at h3
  ·exact .inr (.inr h3)
 ·subst ha
  have hb : b < w.heap.size := JG hh.ok b (by simp [Xy, Chunk.fp])
  refine (hsort b c l.toArray w (vi hF hrow) hb (by simpa using hl)).mono ?_
  rintro e w' ⟨he, d', n, os, hp, hs, rfl⟩
  have hlen : d'.toList.length = l.length := by have := hp.1; simpa using this
  have hperm := TM hp
  have hsd : SortedIn lt 0 d'.size d' := by rw [hp.1]; exact hs
  have hrow' := TD hF (m := n) (d' := d'.toList) (os := os) hlen hrow hb
  rw [show d'.toList.toArray = d' from by simp, hlen] at hrow'
  have hsize : w.heap.size ≤ (sortWorldK (jG F) k w b 0 n d' os).heap.size := by
   unfold sortWorldK
   rw [size_grow]
   show w.heap.size ≤ (mapBlock (Sort.ahead w n) b _).heap.size + _
   simp only [mapBlock, Array.size_modify]
   exact Nat.le_add_right _ _
  refine ⟨.t0, _, [], m, by rw [he]; rfl, ⟨d'.toList, by simpa using hperm, G6 hsd, rfl, rfl, rfl⟩, ⟨by simp [Xy, Chunk.fp], ⟨⟨fun x hx => ?_, .inr ⟨b, rfl, hrow'⟩⟩, trivial⟩, fun q o hq => ?_, trivial⟩, ⟨hsize, fun q hq hx => ?_, fun q hq => .inl hq, fun _ _ h => h, fun _ _ h => .inl h, ⟨rfl, rfl, hsize, fun e => absurd e (by decide), fun e => absurd e (by decide)⟩⟩⟩
  ·obtain ⟨y, _, hy⟩ := List.mem_flatMap.1 hx
   exact hF1 y x hy
  ·obtain ⟨h1, h2⟩ := hh.im q o hq
   have hne : q ≠ b := fun h => h2 (by simp [Xy, Chunk.fp, h])
   refine ⟨?_, by simpa [Xy, Chunk.fp] using h2⟩
   rw [xm (Array.getElem?_eq_some_iff.1 h1).1 hne]; exact h1
  ·exact xm hq (fun h => hx (by simp [Xy, Chunk.fp, h]))
end Go.X
namespace Go.Proofs
open Go.Shelf
def Tryz.sortF_Title_ren : Go.Shelf.Ren := ⟨fun | 6 => 67 | 15 => 109 | 14 => 108 | 28 => 157 | 29 => 158 | 20 => 149 | 21 => 150 | 22 => 151 | 23 => 152 | 24 => 153 | 25 => 154 | 26 => 155 | 27 => 156 | 46 => 200 | 47 => 201 | 48 => 202 | 49 => 203 | 50 => 204 | 57 => 247 | n => n, fun | 22 => 46 | 24 => 45 | 25 => 113 | 3 => 3 | 39 => 110 | 0 => 0 | 53 => 196 | 55 => 107 | 4 => 4 | 46 => 189 | 45 => 188 | 50 => 193 | 5 => 5 | 9 => 9 | 66 => 227 | 70 => 231 | 76 => 254 | 77 => 160 | n => n, fun | n => n⟩
theorem Tryz.sortF_Title : Go.Proofs.SlLaysF0.n6 Tryz.prog Tryz.sortF_Title_ren := {
 mixed := by kernel_rfl
 f6 := ⟨Tryz.f67.name, by decide, Tryz.func67.trans (congrArg some (by kernel_rfl))⟩
 f14 := ⟨Tryz.f108.name, by decide, Tryz.func108.trans (congrArg some (by kernel_rfl))⟩
 f15 := Tryz.func109.trans (congrArg some (by kernel_rfl))
 f20 := ⟨Tryz.f149.name, by decide, Tryz.func149.trans (congrArg some (by kernel_rfl))⟩
 f21 := ⟨Tryz.f150.name, by decide, Tryz.func150.trans (congrArg some (by kernel_rfl))⟩
 f22 := ⟨Tryz.f151.name, by decide, Tryz.func151.trans (congrArg some (by kernel_rfl))⟩
 f23 := ⟨Tryz.f152.name, by decide, Tryz.func152.trans (congrArg some (by kernel_rfl))⟩
 f24 := ⟨Tryz.f153.name, by decide, Tryz.func153.trans (congrArg some (by kernel_rfl))⟩
 f25 := ⟨Tryz.f154.name, by decide, Tryz.func154.trans (congrArg some (by kernel_rfl))⟩
 f26 := ⟨Tryz.f155.name, by decide, Tryz.func155.trans (congrArg some (by kernel_rfl))⟩
 f27 := ⟨Tryz.f156.name, by decide, Tryz.func156.trans (congrArg some (by kernel_rfl))⟩
 f28 := Tryz.func157.trans (congrArg some (by kernel_rfl))
 f29 := Tryz.func158.trans (congrArg some (by kernel_rfl))
 f46 := ⟨Tryz.f200.name, by decide, Tryz.func200.trans (congrArg some (by kernel_rfl))⟩
 f47 := Tryz.func201.trans (congrArg some (by kernel_rfl))
 f48 := Tryz.func202.trans (congrArg some (by kernel_rfl))
 f49 := ⟨Tryz.f203.name, by decide, Tryz.func203.trans (congrArg some (by kernel_rfl))⟩
 f50 := ⟨Tryz.f204.name, by decide, Tryz.func204.trans (congrArg some (by kernel_rfl))⟩
 f57 := ⟨Tryz.f247.name, by decide, Tryz.func247.trans (congrArg some (by kernel_rfl))⟩
 t0 := Tryz.underlying0
 a0 := Tryz.isAgg0
 z0 := Tryz.sizeOf0
 v0 := Tryz.zeroValue0
 t3 := Tryz.underlying3
 a3 := Tryz.isAgg3
 z3 := Tryz.sizeOf3
 v3 := Tryz.zeroValue3
 t4 := Tryz.underlying4
 a4 := Tryz.isAgg4
 z4 := Tryz.sizeOf4
 v4 := Tryz.zeroValue4
 t5 := Tryz.underlying5
 a5 := Tryz.isAgg5
 z5 := Tryz.sizeOf5
 v5 := Tryz.zeroValue5
 t9 := Tryz.underlying9
 a9 := Tryz.isAgg9
 z9 := Tryz.sizeOf9
 v9 := Tryz.zeroValue9
 t22 := Tryz.underlying46
 a22 := Tryz.isAgg46
 z22 := Tryz.sizeOf46
 v22 := Tryz.zeroValue46
 t25 := Tryz.underlying113
 a25 := Tryz.isAgg113
 z25 := Tryz.sizeOf113
 v25 := Tryz.zeroValue113
 t39 := Tryz.underlying110
 a39 := Tryz.isAgg110
 z39 := Tryz.sizeOf110
 v39 := Tryz.zeroValue110
 t45 := Tryz.underlying188
 a45 := Tryz.isAgg188
 z45 := Tryz.sizeOf188
 v45 := Tryz.zeroValue188
 t46 := Tryz.underlying189
 a46 := Tryz.isAgg189
 z46 := Tryz.sizeOf189
 v46 := Tryz.zeroValue189
 t50 := Tryz.underlying193
 a50 := Tryz.isAgg193
 z50 := Tryz.sizeOf193
 v50 := Tryz.zeroValue193
 t53 := Tryz.underlying196
 a53 := Tryz.isAgg196
 z53 := Tryz.sizeOf196
 v53 := Tryz.zeroValue196
 t55 := Tryz.underlying107
 a55 := Tryz.isAgg107
 z55 := Tryz.sizeOf107
 v55 := Tryz.zeroValue107
 t66 := Tryz.underlying227
 a66 := Tryz.isAgg227
 z66 := Tryz.sizeOf227
 v66 := Tryz.zeroValue227
 t70 := Tryz.underlying231
 a70 := Tryz.isAgg231
 z70 := Tryz.sizeOf231
 v70 := Tryz.zeroValue231
 t76 := Tryz.underlying254
 a76 := Tryz.isAgg254
 z76 := Tryz.sizeOf254
 v76 := Tryz.zeroValue254
 t77 := Tryz.underlying160
 a77 := Tryz.isAgg160
 z77 := Tryz.sizeOf160
 v77 := Tryz.zeroValue160 }
end Go.Proofs
namespace Go.X
open Go Go.Lib
structure WR where
 w : List UInt8
 sp : Int
 nm : List UInt8
 n : Int
 deriving DecidableEq
structure HT where
 sp : Int
 nm : List UInt8
 n : Int
 deriving DecidableEq
def WR.cells (x : WR) : List C := [.s x.w, .i .i64 x.sp, .s x.nm, .i .i64 x.n]
def HT.cells (x : HT) : List C := [.i .i64 x.sp, .s x.nm, .i .i64 x.n]
end Go.X
namespace Go.X
open Go Go.Lib Go.Proofs
structure H8 {α : Type} (cf : α → α → Int) : Prop where
 swap : ∀ x y, cf x y = - cf y x
 trans : ∀ x y z, cf x y ≤ 0 → cf y z ≤ 0 → cf x z ≤ 0
theorem H8.on {α β : Type} {cf : α → α → Int} (h : H8 cf) (f : β → α) : H8 fun x y => cf (f x) (f y) := ⟨fun x y => h.swap _ _, fun x y z => h.trans _ _ _⟩
theorem Rs : H8 fun x y : Int × List UInt8 => QH x.1 x.2 y.1 y.2 := ⟨fun x y => Yu _ _ _ _, fun x y z => WP⟩
theorem H8.swo {α : Type} {cf : α → α → Int} (h : H8 cf) : Sort.SWO (ltOf cf) where
 irrefl x := by have := h.swap x x; unfold ltOf; rw [decide_eq_false_iff_not]; omega
 trans x y z h1 h2 := by
  unfold ltOf at *
  rw [decide_eq_true_eq] at *
  have a1 := h.swap x z; have a2 := h.swap y z; have a3 := h.swap x y
  have t1 := h.trans x y z (by omega) (by omega)
  have t2 := h.trans z x y
  omega
 ntrans x y z h1 h2 := by
  unfold ltOf at *
  rw [decide_eq_false_iff_not] at *
  have a1 := h.swap x z; have a2 := h.swap y z; have a3 := h.swap x y
  have t1 := h.trans z y x (by omega) (by omega)
  omega
theorem H8.refl {α : Type} {cf : α → α → Int} (h : H8 cf) (x : α) : cf x x = 0 := by have := h.swap x x; omega
end Go.X
namespace Go.Y
open Go Go.X Go.Lib Go.Proofs
set_option maxRecDepth 100000
set_option maxHeartbeats 4000000
variable [Sm : Inhabited Jh]
theorem exact_of {P : Program} {f : FuncId} {args : List V} {v : V} (hS : Sm.default = .strict) (h : FnS P f args [] [] (Is v)) (W : World) : Calls P f (args.map V.enc).toArray W fun e w' => e = .returned v.enc ∧ ∃ q os', w' = Sort.grow (W.drewN q) os' := by
 refine (h.run W (fun _ => none) ⟨List.nodup_nil, trivial, fun b o hb => (by cases hb), trivial⟩).mono ?_
 rintro e w' ⟨v', L', D', m', he, ⟨rfl, rfl, rfl⟩, _, hfr⟩
 refine ⟨he, w'.drawn - W.drawn, w'.heap.extract W.heap.size w'.heap.size, ?_⟩
 have hk := hfr.kept
 have hheap : w'.heap = W.heap ++ w'.heap.extract W.heap.size w'.heap.size := by
  apply Array.ext_getElem?
  intro b
  rw [Array.getElem?_append]
  split
  ·rename_i hb
   exact hfr.same b hb (by simp [Xy])
  ·rename_i hb
   rw [Array.getElem?_extract]
   have := hfr.size
   by_cases hb2 : b < w'.heap.size
   ·rw [if_pos (by omega), show W.heap.size + (b - W.heap.size) = b by omega]
   ·rw [if_neg (by omega), Array.getElem?_eq_none (by omega)]
 have hd : w'.drawn = W.drawn + (w'.drawn - W.drawn) := by have := hk.drawn hS; omega
 obtain ⟨h1, h2, h3, h4, h5⟩ := w'
 obtain ⟨g1, g2, g3, g4, g5⟩ := W
 have e1 := hk.os; have e2 := hk.out; have e3 := hk.tape hS
 dsimp only at *
 subst e1 e2 e3
 simp only [Sort.grow, World.drewN]
 rw [← hheap, ← hd]
theorem Xh (a b : List UInt8) : FnS Tryz.prog 112 [.c (.s a), .c (.s b)] [] [] (Is (.c (.i .i64 (Lib.compareBytes a b)))) :=
 JD ⟨_, Tryz.func112, by kernel_rfl, by kernel_rfl⟩ (Tryz.strings_Compare ⟨⟨a⟩⟩ ⟨⟨b⟩⟩)
theorem Hn (a : Int) : FnS Tryz.prog 159 [.c (.i .i64 a)] [] [] (Is ff) := by
 refine Nl Tryz.tyOK 0 Tryz.func159 (by kernel_rfl) (c := Tryz.f159.body.getD .skip) (by kernel_rfl) Tryz.ntmps159 (rs := Tryz.f159.results.toList) rfl (by simp) (fun G => ?_)
 repeat' first | refine Wk ?_ | refine Qa.mk (fun h => ?_) (fun h => ?_) | refine Qd.mk (fun ad => ?_) | refine Qe.is rfl
theorem Yv (a b : Int) : FnS Tryz.prog 111 [.c (.i .i64 a), .c (.i .i64 b)] [] [] (Is (.c (.i .i64 (Lib.compareInt a b)))) := by
 have hq : ∃ q, Lib.compareInt a b = q := ⟨_, rfl⟩
 obtain ⟨q, hq⟩ := hq
 rw [hq]
 unfold Lib.compareInt at hq
 refine Nl Tryz.tyOK 0 Tryz.func111 (by kernel_rfl) (c := Tryz.f111.body.getD .skip) (by kernel_rfl) Tryz.ntmps111 (rs := Tryz.f111.results.toList) rfl (by simp) (fun G => ?_)
 repeat' first | refine Wk ?_ | refine Qa.mk (fun h => ?_) (fun h => ?_) | refine Qd.mk (fun ad => ?_) | refine Qc.is (Hn a) ?_ | refine Qc.is (Hn b) ?_ | refine Qe.int ?_
 all_goals (split at hq <;> first | omega | (split at hq <;> omega))
theorem Ss (a : Option Addr) (c : Nat) (x y : Int) : FnS Tryz.prog 110 [.c (.sl a 2 c)] [.row 3 1 a 2 c [.i .i64 x, .i .i64 y]] [] (Is (.c (.i .i64 (if x ≠ 0 then x else y)))) := by
 have hrd : Qp [.row 3 1 a 2 c [.i .i64 x, .i .i64 y]] [] 3 1 a 2 [.i .i64 x, .i .i64 y] := .inl ⟨c, QT⟩
 refine Nl Tryz.tyOK 0 Tryz.func110 (by kernel_rfl) (c := Tryz.f110.body.getD .skip) (by kernel_rfl) Tryz.ntmps110 (rs := Tryz.f110.results.toList) rfl (by simp) (fun G => ?_)
 repeat' first | refine Wk ?_ | refine Qa.mk (fun h => ?_) (fun h => ?_) | refine Qd.mk (fun ad => ?_) | refine Ji 3 ?_ | refine Kf ?_ | refine Qr.a 3 1 _ hrd ?_ | refine Qi.mk 3 _ _ _ hrd (by omega) (by omega) (by omega) rfl ?_ | refine Qe.int ?_
 all_goals simp [*]
theorem compare_ok (a : Int) (x : List UInt8) (b : Int) (y : List UInt8) : FnS Tryz.prog 68 [.agg [.i .i64 a, .s x], .agg [.i .i64 b, .s y]] [] [] (Is (.c (.i .i64 (Go.X.QH a x b y)))) := by
 refine Nl Tryz.tyOK 0 Tryz.func68 (by kernel_rfl) (c := Tryz.f68.body.getD .skip) (by kernel_rfl) Tryz.ntmps68 (rs := Tryz.f68.results.toList) rfl (by simp) (fun G => ?_)
 repeat' first | refine Wk ?_ | refine Qa.mk (fun h => ?_) (fun h => ?_) | refine Qd.mk (fun ad => ?_) | refine Vt Tryz.tyOK (by kernel_rfl) [0, 1, 2, 3, 4, 5, 6, 7, 8, 9, 10, 11, 12] [10, 11] _ _ (by kernel_rfl) (Qb.refl _ _) ?_ | refine Qx.mk [] _ (Yv a b) (fun _ _ => trivial) ?_ | refine Qx.mk [] _ (Xh x y) (fun _ _ => trivial) ?_ | refine Qc.mk [_] _ [] _ (Ss _ _ _ _) (List.Perm.refl _) (fun _ h => h) (fun v L' D' hp => ?_); obtain ⟨rfl, rfl, rfl⟩ := hp | refine Qt.mk (Qb.refl _ _) ?_ | refine Qt.mk Qb.drop ?_ | refine Qe.int ?_
 rfl
end Go.Y
namespace Go.X
open Go Go.Lib Go.Proofs
instance : Inhabited WR := ⟨⟨[], 0, [], 0⟩⟩
instance : Inhabited HT := ⟨⟨0, [], 0⟩⟩
end Go.X
namespace Go.Proofs
open Go Go.X Tryz
set_option maxRecDepth 100000
set_option maxHeartbeats 4000000
theorem HU : FnS prog 109 [.c (.i .u64 0)] [] [] (Is (.c (.i .i64 0))) :=
 JD ⟨_, func109, by kernel_rfl, by kernel_rfl⟩ (fun w => Tryz.bits_Len 0 w (by omega) (by omega))
end Go.Proofs
namespace Go.X
open Go Go.Lib
end Go.X
namespace Go.Proofs
open Go Go.X Tryz
set_option maxRecDepth 100000
set_option maxHeartbeats 4000000
end Go.Proofs
namespace Go.X
open Go
def yU (x : Int) : Int := IntKind.u64.wrap x
theorem zv (x : Int) : 0 ≤ yU x ∧ yU x ≤ 18446744073709551615 := by
 simp only [yU, IntKind.wrap, IntKind.bits, IntKind.signed]
 simp
 omega
def GH (s : Int) : Int := s.fdiv (2 ^ (min (33 : Int).toNat IntKind.u64.bits))
theorem PD {s : Int} (h : 0 ≤ s) : 0 ≤ GH s := by
 unfold GH
 rw [Int.fdiv_eq_ediv_of_nonneg _ (by decide)]
 exact Int.ediv_nonneg h (by decide)
theorem HS (x y : Int) : 0 ≤ K4 .xor .u64 x y ∧ K4 .xor .u64 x y ≤ 18446744073709551615 := zv _
def U1 (s x : Int) : Int := K4 .xor .u64 (yU (K4 .xor .u64 s (yU x) * 18397679294719823053)) (GH (yU (K4 .xor .u64 s (yU x) * 18397679294719823053)))
def vI (l : List Int) : Int := (l.take 64).foldl U1 11400714819323198485
theorem TY (s x : Int) : 0 ≤ U1 s x ∧ U1 s x ≤ 18446744073709551615 := HS _ _
theorem GL (l : List Int) : 0 ≤ vI l ∧ vI l ≤ 18446744073709551615 := by
 unfold vI
 generalize l.take 64 = r
 generalize h : (11400714819323198485 : Int) = s
 have hs : 0 ≤ s ∧ s ≤ 18446744073709551615 := by omega
 clear h
 induction r generalizing s with
 | nil => exact hs
 | cons x r ih => exact ih _ (TY s x)
structure GS where
 at_ : Nat
 sd : Int
def ZD (v n : Int) : Int := if v.tmod n < 0 then v.tmod n + n else v.tmod n
theorem QR (v : Int) {n : Int} (h : 0 < n) : 0 ≤ ZD v n ∧ ZD v n < n := by
 unfold ZD
 have h1 : v.tmod n < n := Int.tmod_lt_of_pos v h
 have h2 : -n < v.tmod n := by
  by_cases hv : 0 ≤ v
  ·have := Int.tmod_nonneg n hv; omega
  ·have := Int.tmod_lt_of_pos (-v) h
   rw [Int.neg_tmod] at this
   omega
 split <;> omega
def lcg (s : Int) : Int := yU (yU (s * 6364136223846793005) + 1442695040888963407)
def Zr (l : List Int) (g : GS) (n : Int) : Int := if g.at_ < l.length then ZD (l.getD g.at_ 0) n else (GH (lcg g.sd)).tmod n
def Xb (l : List Int) (g : GS) : GS := if g.at_ < l.length then ⟨g.at_ + 1, g.sd⟩ else ⟨g.at_, lcg g.sd⟩
structure GS.ok (l : List Int) (g : GS) : Prop where
 a : g.at_ ≤ l.length
 s : 0 ≤ g.sd ∧ g.sd ≤ 18446744073709551615
def gs0 (l : List Int) : GS := ⟨0, vI l⟩
theorem qi (l : List Int) : (gs0 l).ok l := ⟨Nat.zero_le _, GL l⟩
theorem Z1 {l : List Int} {g : GS} (h : g.ok l) : (Xb l g).ok l := by
 unfold Xb
 split
 ·exact ⟨by show g.at_ + 1 ≤ _; omega, h.s⟩
 ·exact ⟨h.a, zv _⟩
theorem QS {l : List Int} (g : GS) {n : Int} (h : 0 < n) : 0 ≤ Zr l g n ∧ Zr l g n < n := by
 unfold Zr
 split
 ·exact QR _ h
 ·exact ⟨Int.tmod_nonneg _ (PD (zv _).1), Int.tmod_lt_of_pos _ h⟩
def genTitles : List (Int × List UInt8) := [(0, [65]), (0, [66]), (0, [65, 47, 67]), (3, [84]), (4, [88]), (4, [89]), (2, [65, 110, 110]), (0, [68])]
def Xe (l : List (Int × List UInt8)) : List C := l.flatMap fun t => [.i .i64 t.1, .s t.2]
abbrev ZW (ad : Nat) (a : Option Addr) (n c : Nat) (g : GS) : Chunk := .box 1000 ad 109 [.sl a n c, .i .i64 g.at_, .i .u64 g.sd]
abbrev Zj (e : Nat) (a : Option Addr) (l : List Int) : Fact := Qf e 1 a l.length (l.map (C.i .i64))
end Go.X
namespace Go.Proofs
open Go Go.X Tryz
set_option maxRecDepth 100000
set_option maxHeartbeats 4000000
theorem ZG (v n : Int) (h : 0 < n) (hn : n ≤ 1000000) : FnS prog 26 [.c (.i .i64 v), .c (.i .i64 n)] [] [] (Is (.c (.i .i64 (ZD v n)))) := by
 have hr := QR v h
 have h0 : -1000000 ≤ v.tmod n + n ∧ v.tmod n + n ≤ 1000000 ∨ ¬ v.tmod n < 0 := by
  unfold ZD at hr
  generalize v.tmod n = k at *
  split at hr <;> omega
 unfold ZD
 refine FJ 0 func26 ntmps26 (fun G => ?_)
 repeat' first | refine Wk ?_ | refine Qa.mk (fun h => ?_) (fun h => ?_) | refine Qd.mk (fun ad => ?_) | refine Gt.exact (by simp only [jl]; generalize v.tmod n = k at *; omega) ?_ | refine Qe.is ?_
 ·rw [if_pos h]
 ·rw [if_neg h]
theorem qL (e : Nat) (a : Option Addr) (c : Nat) (l : List Int) (hl : l.length ≤ maxLen) : FnS prog 24 [.c (.sl a l.length c)] [] [Zj e a l]
  (fun v L D => ∃ ad, v = .c (.p 1000 ad 0) ∧ L = [ZW ad a l.length c (gs0 l)] ∧ D = []) := by
 simp only [maxLen] at hl
 refine FJ 1000 func24 ntmps24 (fun G => ?_)
 repeat' first | refine Wk ?_ | refine Qa.mk (fun h => ?_) (fun h => ?_) | refine Qd.mk (fun ad => ?_)
 refine Qn (α := Nat) (fun i => [(0, .c (.sl a l.length c)), (3, .c (.p 1000 ad 0)), (4, .c (.i .i64 i))]) (fun i => [.box 1000 ad 109 [.sl a l.length c, .i .i64 (0 : Nat), .i .u64 ((l.take i).foldl U1 11400714819323198485)]]) (fun _ => [Zj e a l]) 1001 (fun i => i ≤ l.length ∧ i ≤ 64) (fun i => l.length - i) (Qq.mk 0 ⟨Nat.zero_le _, Nat.zero_le _⟩ Qh.a (Qb.refl _ _)) (fun i hi => ?_)
 obtain ⟨hi, hi2⟩ := hi
 by_cases hlt : i < l.length ∧ i < 64
 ·have hlt1 := hlt.1
  have hg : ((l.map (C.i .i64)).drop (i * 1 + 0)).take 1 = [C.i .i64 l[i]] := Zw hlt.1
  have hrd : ∀ L, Qp L [Zj e a l] e 1 a l.length (l.map (C.i .i64)) := fun L => .inr fun m h => h.1
  have hf : (l.take (i + 1)).foldl U1 11400714819323198485 = U1 ((l.take i).foldl U1 11400714819323198485) l[i] := by
   rw [List.take_succ_eq_append_getElem hlt.1, List.foldl_append]; rfl
  generalize (l.take i).foldl U1 11400714819323198485 = s at *
  generalize l[i] = x at *
  repeat' first | refine Wk ?_ | refine Qa.mk (fun h => ?_) (fun h => ?_) | refine Qd.mk (fun ad => ?_) | refine Dz (id := 5) [0,0,2,6,14,0,0,96,224,480,1022,2046,4095,8191,16383] [0,1,2,3,4,5,6,7,8,9,10,11,12,13,14] [14] [3,25] 14 true ?_ | refine Dz (id := 6) [0,0,2,6,14,0,32,96,224,480,1022,2047,4095,8191] [0,1,2,3,4,5,6,7,8,9,10,11,12,13] [13] [3] 13 true ?_ | refine Qt.mk Qb.a ?_ | refine Qr.a e 1 _ (hrd _) ?_ | refine Qi.mk e _ _ _ (hrd _) (by omega) (by omega) (by omega) hg ?_ | refine Gt.wrap ?_ | refine Qo.mk (i + 1) (by omega) ⟨by omega, by omega⟩ Qh.a (Qb.of (by rw [hf]; rfl))
 ·have hil : i = l.length ∨ i = 64 := by omega
  have ht : (l.take i).foldl U1 11400714819323198485 = vI l := by
   unfold vI
   rcases hil with h | h
   ·rw [h, List.take_length, List.take_of_length_le (by omega)]
   ·rw [h]
  rw [ht]
  repeat' first | refine Wk ?_ | refine Qa.mk (fun h => ?_) (fun h => ?_) | refine Qd.mk (fun ad => ?_) | refine Qe.mk [_] [] ⟨ad, rfl, rfl, rfl⟩ (Qb.facts fun _ _ => trivial)
theorem KD (e : Nat) (a : Option Addr) (c ad : Nat) (l : List Int) (g : GS) (n : Int) (hn : 0 < n) (hn1 : n ≤ 1000000) (hg : g.ok l) (hl : l.length ≤ maxLen) : FnS prog 53 [.c (.p 1000 ad 0), .c (.i .i64 n)] [ZW ad a l.length c g] [Zj e a l]
  (fun v L D => v = .c (.i .i64 (Zr l g n)) ∧ L = [ZW ad a l.length c (Xb l g)] ∧ D = []) := by
 simp only [maxLen] at hl
 obtain ⟨at_, s⟩ := g
 obtain ⟨hat, hs⟩ := hg
 dsimp only at hat hs
 have hrd : ∀ L, Qp L [Zj e a l] e 1 a l.length (l.map (C.i .i64)) := fun L => .inr fun m h => h.1
 have hr := QS (l := l) ⟨at_, s⟩ hn
 unfold Zr Xb at *
 dsimp only at hr ⊢
 by_cases hlt : at_ < l.length
 ·have hgt : ((l.map (C.i .i64)).drop (((at_ : Int) + 1 - 1).toNat * 1 + 0)).take 1 = [C.i .i64 (l.getD at_ 0)] := by rw [show ((at_ : Int) + 1 - 1).toNat = at_ by omega, Zw hlt]; simp [hlt]
  have c1 := ZG (l.getD at_ 0) n hn hn1
  rw [if_pos hlt, if_pos hlt]
  rw [if_pos hlt] at hr
  generalize ZD (l.getD at_ 0) n = q at *
  dsimp only [ZW]
  refine FJ 0 func53 ntmps53 (fun G => ?_)
  repeat' first | refine Wk ?_ | refine Qa.mk (fun h => ?_) (fun h => ?_) | refine Qd.mk (fun ad => ?_) | refine Ds (id := 1) [0,1,3,7,0,16,48,112,240,511] [0,1,2,3,4,5,6,7,8,9] [] [0] true ?_ | refine Ds (id := 3) [0,1,3,7,0,16,48,112,240,511,1023,0,4095,8191] [0,1,2,3,4,5,6,7,8,9,10,11,12,13] [] [0,31] true ?_ | refine Qt.mk Qb.a ?_ | refine Qx.mk [] _ c1 QX ?_ | refine Qr.a e 1 _ (hrd _) ?_ | refine Qi.mk e _ _ _ (hrd _) (by omega) (by omega) (by omega) hgt ?_ | refine Qe.mk [_] [] ⟨rfl, rfl, rfl⟩ (Qb.facts fun _ _ => trivial)
 ·rw [if_neg hlt, if_neg hlt]
  rw [if_neg hlt] at hr
  have hu : yU n = n := jO (by simp only [jl]; omega)
  dsimp only [ZW]
  refine FJ 0 func53 ntmps53 (fun G => ?_)
  repeat' first | refine Wk ?_ | refine Qa.mk (fun h => ?_) (fun h => ?_) | refine Qd.mk (fun ad => ?_) | refine Ds (id := 1) [0,1,3,7,0,16,48,112,240,511] [0,1,2,3,4,5,6,7,8,9] [] [0] true ?_ | refine Ds (id := 3) [0,1,3,7,0,16,48,112,240,511,1023,0,4095,8191] [0,1,2,3,4,5,6,7,8,9,10,11,12,13] [] [0,31] true ?_ | refine Qt.mk Qb.a ?_ | refine Gt.exact (show jl .i64 ((GH (lcg s)).tmod n) by simp only [jl]; omega) ?_ | refine Gt.wrap ?_ | refine Qe.mk [_] [] ⟨?_, rfl, rfl⟩ (Qb.facts fun _ _ => trivial)
  rfl
end Go.Proofs
namespace Go.X
open Go
theorem Hr (ws : List (List UInt8)) {k : Int} (h : 0 ≤ k) (h1 : k < ws.length) : ((ws.map C.s).drop (k.toNat * 1)).take 1 = [C.s (ws.getD k.toNat [])] := by
 have := Zw (f := C.s) (l := ws) (i := k.toNat) (by omega)
 rw [Nat.add_zero] at this
 rw [this]
 simp [show k.toNat < ws.length by omega]
theorem wz {k : Int} (h : 0 ≤ k) (h1 : k < 8) : ((Xe genTitles).drop (k.toNat * 2 + 0)).take 2 = [C.i .i64 (genTitles.getD k.toNat (0, [])).1, C.s (genTitles.getD k.toNat (0, [])).2] := by
 obtain ⟨i, rfl⟩ : ∃ i : Nat, k = i := ⟨k.toNat, by omega⟩
 have hi : i < 8 := by omega
 rw [Int.toNat_natCast]
 match i, hi with
 | 0, _ => rfl
 | 1, _ => rfl
 | 2, _ => rfl
 | 3, _ => rfl
 | 4, _ => rfl
 | 5, _ => rfl
 | 6, _ => rfl
 | 7, _ => rfl
def Rb (l : List Int) (g : GS) : Int × List UInt8 := genTitles.getD (Zr l g 8).toNat (0, [])
def YT : List (List UInt8) := [[112, 108, 97, 105, 110, 32, 119, 111, 114, 100, 115, 32], [91, 91, 65, 93, 93, 32], [91, 91, 66, 124, 98, 101, 101, 93, 93, 32], [91, 91, 67, 97, 116, 101, 103, 111, 114, 121, 58, 88, 93, 93], [91, 91, 67, 97, 116, 101, 103, 111, 114, 121, 58, 88, 124, 107, 93, 93], [91, 91, 67, 97, 116, 101, 103, 111, 114, 121, 58, 89, 93, 93], [123, 123, 116, 124, 49, 125, 125], [123, 123, 58, 66, 125, 125, 32], [123, 123, 58, 65, 47, 67, 125, 125], [123, 123, 35, 105, 102, 101, 120, 105, 115, 116, 58, 66, 124, 121, 101, 115, 124, 110, 111, 125, 125, 32], [123, 123, 35, 105, 102, 101, 120, 105, 115, 116, 58, 68, 124, 121, 101, 115, 124, 110, 111, 125, 125], [123, 123, 35, 109, 101, 109, 98, 101, 114, 115, 58, 88, 125, 125, 32], [123, 123, 35, 100, 97, 116, 101, 58, 89, 45, 109, 45, 100, 125, 125, 32], [123, 123, 35, 100, 97, 116, 101, 58, 72, 58, 105, 125, 125, 32], [123, 123, 35, 114, 105, 103, 104, 116, 58, 101, 100, 105, 116, 124, 65, 124, 101, 124, 110, 125, 125, 32], [123, 123, 35, 114, 101, 118, 105, 115, 105, 111, 110, 58, 65, 125, 125, 32], [10, 61, 61, 32, 83, 32, 61, 61, 10, 98, 111, 100, 121, 10], [10, 61, 61, 32, 82, 32, 61, 61, 10, 114, 101, 115, 116, 10], [60, 110, 111, 105, 110, 99, 108, 117, 100, 101, 62, 123, 123, 116, 125, 125, 60, 47, 110, 111, 105, 110, 99, 108, 117, 100, 101, 62], [60, 105, 110, 99, 108, 117, 100, 101, 111, 110, 108, 121, 62, 91, 91, 68, 93, 93, 60, 47, 105, 110, 99, 108, 117, 100, 101, 111, 110, 108, 121, 62], [123, 123, 123, 49, 124, 100, 125, 125, 125, 32], [10, 42, 32, 105, 116, 101, 109, 10], [115, 101, 99, 114, 101, 116, 32], [91, 91, 84, 101, 109, 112, 108, 97, 116, 101, 58, 84, 93, 93], [123, 123, 58, 67, 97, 116, 101, 103, 111, 114, 121, 58, 89, 125, 125], [119, 111, 114, 100, 115, 32, 91, 91, 68, 93, 93, 32, 119, 111, 114, 100, 115], [39, 39, 120, 39, 39, 32], [123, 123, 35, 109, 101, 109, 98, 101, 114, 115, 58, 89, 125, 125]]
end Go.X
namespace Go.Proofs
open Go Go.X Tryz
set_option maxRecDepth 100000
set_option maxHeartbeats 4000000
theorem js : FnS prog 33 [] [] [] (fun v L D => ∃ a c, v = .c (.sl a 8 c) ∧ L = [.row 45 2 a 8 c (Xe genTitles)] ∧ D = []) := by
 refine FJ 0 func33 ntmps33 (fun G => ?_)
 repeat' first | refine Wk ?_ | refine Qa.mk (fun h => ?_) (fun h => ?_) | refine Qd.mk (fun ad => ?_) | exact Qe.mk [_] [] ⟨_, _, rfl, rfl, rfl⟩ (Qb.refl _ _)
theorem Ht (e : Nat) (a : Option Addr) (c ad : Nat) (l : List Int) (g : GS) (hg : g.ok l) (hl : l.length ≤ maxLen) : FnS prog 104 [.c (.p 1000 ad 0)] [ZW ad a l.length c g] [Zj e a l]
  (fun v L D => v = .agg [.i .i64 (Rb l g).1, .s (Rb l g).2] ∧ L = [ZW ad a l.length c (Xb l g)] ∧ D = []) := by
 have c1 := KD e a c ad l g 8 (by omega) (by omega) hg hl
 have hr := QS (l := l) g (n := 8) (by omega)
 have hgt := wz hr.1 hr.2
 unfold Rb
 generalize Zr l g 8 = k at *
 refine FJ 2000 func104 ntmps104 (fun G => ?_)
 repeat' first | refine Wk ?_ | refine Qa.mk (fun h => ?_) (fun h => ?_) | refine Qd.mk (fun ad => ?_) | refine Qc.mk [] [_, _] [] _ js QW QX (fun v L' D' hp => ?_); obtain ⟨b, d, rfl, rfl, rfl⟩ := hp | refine Qc.mk [_] [_, _] [_] _ c1 (List.perm_append_comm (l₁ := [_, _]) (l₂ := [_])) (fun _ h => h) (fun v L' D' hp => ?_); obtain ⟨rfl, rfl, rfl⟩ := hp | refine Qr.a 45 2 _ (.inl ⟨d, ZR⟩) ?_ | refine Qi.mk 45 _ _ _ (.inl ⟨d, ZR⟩) (by omega) (by omega) (by omega) hgt ?_ | refine Qe.mk [_] [] ⟨rfl, rfl, rfl⟩ Qb.a
theorem Sd (e : Nat) (a : Option Addr) (c ad : Nat) (l : List Int) (g : GS) (hg : g.ok l) (hl : l.length ≤ maxLen) : FnS prog 93 [.c (.p 1000 ad 0)] [ZW ad a l.length c g] [Zj e a l]
  (fun v L D => v = .c (.s (YT.getD (Zr l g 28).toNat [])) ∧ L = [ZW ad a l.length c (Xb l g)] ∧ D = []) := by
 have c1 := KD e a c ad l g 28 (by omega) (by omega) hg hl
 have hr := QS (l := l) g (n := 28) (by omega)
 have hix := Hr YT hr.1 hr.2
 generalize Zr l g 28 = k at *
 refine FJ 4000 func93 ntmps93 (fun G => ?_)
 repeat' first | refine Wk ?_ | refine Qa.mk (fun h => ?_) (fun h => ?_) | refine Qd.mk (fun ad => ?_) | refine Qc.mk [_] [] [_] _ c1 QW (fun _ h => h) (fun v L' D' hp => ?_); obtain ⟨rfl, rfl, rfl⟩ := hp | refine kR.mk [C.s (YT.getD k.toNat [])] (by omega) (by omega) hix rfl ?_ | refine Qe.mk [_] [] ⟨rfl, rfl, rfl⟩ (Qb.facts fun _ _ => trivial)
theorem vj : ∀ i : Nat, i < 28 → (YT.getD i []).length ≤ 40 := by decide
theorem zP (e : Nat) (a : Option Addr) (c ad : Nat) (l : List Int) (g : GS) (hg : g.ok l) (hl : l.length ≤ maxLen) : FnS prog 56 [.c (.p 1000 ad 0)] [ZW ad a l.length c g] [Zj e a l]
  (fun v L D => ∃ s g', v = .c (.s s) ∧ s.length ≤ 1000 ∧ g'.ok l ∧ L = [ZW ad a l.length c g'] ∧ D = []) := by
 have c2 := fun g n hn hn1 hg => KD e a c ad l g n hn hn1 hg hl
 have k1 := c2 g 12 (by omega) (by omega) hg
 have r1 := QS (l := l) g (n := 12) (by omega)
 have hg1 := Z1 hg
 generalize Zr l g 12 = v1 at *
 generalize Xb l g = g1 at *
 have k2 := c2 g1 3 (by omega) (by omega) hg1
 have r2 := QS (l := l) g1 (n := 3) (by omega)
 have hix := Hr [[66], [65], [84, 101, 109, 112, 108, 97, 116, 101, 58, 84]] r2.1 r2.2
 have hlen : ([[66], [65], [84, 101, 109, 112, 108, 97, 116, 101, 58, 84]].getD (Zr l g1 3).toNat ([] : List UInt8)).length ≤ 10 := by
  obtain ⟨k, hk⟩ : ∃ k : Nat, Zr l g1 3 = k := ⟨(Zr l g1 3).toNat, by omega⟩
  rw [hk, Int.toNat_natCast]
  have : k < 3 := by omega
  match k, this with
  | 0, _ => decide
  | 1, _ => decide
  | 2, _ => decide
 have hg2 := Z1 hg1
 generalize Zr l g1 3 = v2 at *
 generalize Xb l g1 = g2 at *
 generalize [[66], [65], [84, 101, 109, 112, 108, 97, 116, 101, 58, 84]].getD v2.toNat ([] : List UInt8) = u at *
 have hcat : ([35, 82, 69, 68, 73, 82, 69, 67, 84, 32, 91, 91] ++ u ++ [93, 93, 32] : List UInt8).length ≤ 30 := by simp; omega
 refine FJ 4000 func56 ntmps56 (fun G => ?_)
 repeat' first | refine Kj (x := .seq (.region 2 _ _) _) (α := List UInt8 × GS) (fun z => [(0, .c (.p 1000 ad 0)), (3, .c (.s z.1))]) (fun z => [ZW ad a l.length c z.2]) (fun _ => [Zj e a l]) 4000 (fun z => z.1.length ≤ 30 ∧ z.2.ok l) ?_ (fun z hz => ?_) | refine Wk ?_ | refine Qa.mk (fun h => ?_) (fun h => ?_) | refine Qd.mk (fun ad => ?_) | refine Qc.mk [_] [] [_] _ k1 QW (fun _ h => h) (fun v L' D' hp => ?_); obtain ⟨rfl, rfl, rfl⟩ := hp | refine Qc.mk [_] [] [_] _ k2 QW (fun _ h => h) (fun v L' D' hp => ?_); obtain ⟨rfl, rfl, rfl⟩ := hp | refine kR.mk [C.s u] (by omega) (by omega) hix rfl ?_ | refine Qq.mk (([35, 82, 69, 68, 73, 82, 69, 67, 84, 32, 91, 91] ++ u ++ [93, 93, 32] : List UInt8), g2) ⟨hcat, hg2⟩ Qh.a (Qb.refl _ _) | refine Qq.mk ([], g1) ⟨Nat.zero_le _, hg1⟩ Qh.a (Qb.refl _ _)
 clear k1 k2 hix hlen hg1 hg2 r1 r2
 obtain ⟨s0, g0⟩ := z
 dsimp only at hz ⊢
 obtain ⟨hs0, hg0⟩ := hz
 have k3 := c2 g0 5 (by omega) (by omega) hg0
 have r3 := QS (l := l) g0 (n := 5) (by omega)
 have hg3 := Z1 hg0
 generalize Zr l g0 5 = v3 at *
 generalize Xb l g0 = g3 at *
 obtain ⟨n1, rfl⟩ : ∃ n1 : Nat, v3 = n1 := ⟨v3.toNat, by omega⟩
 repeat' first | refine Wk ?_ | refine Qa.mk (fun h => ?_) (fun h => ?_) | refine Qd.mk (fun ad => ?_) | refine Qc.mk [_] [] [_] _ k3 QW (fun _ h => h) (fun v L' D' hp => ?_); obtain ⟨rfl, rfl, rfl⟩ := hp
 refine Qn (α := Nat × List UInt8 × GS) (fun x => [(0, .c (.p 1000 ad 0)), (3, .c (.s x.2.1)), (4, .c (.i .i64 x.1))]) (fun x => [ZW ad a l.length c x.2.2]) (fun _ => [Zj e a l]) 4000 (fun x => x.1 ≤ 4 ∧ x.2.1.length ≤ 30 + (4 - x.1) * 40 ∧ x.2.2.ok l) (fun x => x.1) (Qq.mk (n1, s0, g3) ⟨by dsimp only; omega, by dsimp only; omega, hg3⟩ Qh.a (Qb.refl _ _)) (fun x hx => ?_)
 obtain ⟨n, s, g⟩ := x
 dsimp only at hx ⊢
 obtain ⟨hn, hsl, hg⟩ := hx
 cases n with
 | zero =>
  repeat' first | refine Wk ?_ | refine Qa.mk (fun h => ?_) (fun h => ?_) | refine Qd.mk (fun ad => ?_) | refine Qe.mk [_] [] ⟨_, _, rfl, by omega, hg, rfl, rfl⟩ (Qb.facts fun _ _ => trivial)
 | succ n =>
  have kp := Sd e a c ad l g hg hl
  have rp := QS (l := l) g (n := 28) (by omega)
  have hp40 := vj (Zr l g 28).toNat (by omega)
  have hgn := Z1 hg
  generalize YT.getD (Zr l g 28).toNat [] = p at *
  generalize Xb l g = gn at *
  repeat' first | refine Wk ?_ | refine Qa.mk (fun h => ?_) (fun h => ?_) | refine Qd.mk (fun ad => ?_) | refine Qc.mk [_] [] [_] _ kp QW (fun _ h => h) (fun v L' D' hp => ?_); obtain ⟨rfl, rfl, rfl⟩ := hp | refine Qo.mk (n, s ++ p, gn) (by dsimp only; omega) ⟨by dsimp only; omega, by simp; omega, hgn⟩ Qh.a (Qb.refl _ _)
end Go.Proofs
namespace Go.X
open Go
def genUsers : List Bs := [[97, 110, 110], [98, 111, 98], [], [99, 121], [97, 110, 110]]
def xU : List Bs := [[], [110, 111, 116, 101], [97, 95, 98, 32, 126]]
def xT : List Bs := [[97, 108, 108, 111, 119, 32, 114, 101, 97, 100, 32, 97, 108, 108, 32, 60, 97, 108, 108, 62, 10, 97, 108, 108, 111, 119, 32, 101, 100, 105, 116, 32, 97, 108, 108, 32, 60, 97, 108, 108, 62, 10, 97, 108, 108, 111, 119, 32, 109, 111, 118, 101, 32, 97, 108, 108, 32, 60, 97, 108, 108, 62, 10, 97, 108, 108, 111, 119, 32, 100, 101, 108, 101, 116, 101, 32, 97, 108, 108, 32, 60, 97, 108, 108, 62, 10, 97, 108, 108, 111, 119, 32, 114, 101, 118, 105, 101, 119, 32, 97, 108, 108, 32, 60, 97, 108, 108, 62, 10],
 [97, 108, 108, 111, 119, 32, 114, 101, 97, 100, 32, 97, 108, 108, 32, 60, 97, 108, 108, 62, 10, 97, 108, 108, 111, 119, 32, 101, 100, 105, 116, 32, 97, 108, 108, 32, 60, 97, 108, 108, 62, 10, 97, 108, 108, 111, 119, 32, 109, 111, 118, 101, 32, 97, 108, 108, 32, 60, 97, 108, 108, 62, 10, 97, 108, 108, 111, 119, 32, 100, 101, 108, 101, 116, 101, 32, 97, 108, 108, 32, 60, 97, 108, 108, 62, 10, 97, 108, 108, 111, 119, 32, 114, 101, 118, 105, 101, 119, 32, 97, 108, 108, 32, 60, 97, 108, 108, 62, 10, 103, 114, 111, 117, 112, 32, 115, 116, 97, 102, 102, 32, 97, 110, 110, 10, 100, 101, 110, 121, 32, 114, 101, 97, 100, 32, 97, 108, 108, 32, 65, 10, 97, 108, 108, 111, 119, 32, 114, 101, 97, 100, 32, 115, 116, 97, 102, 102, 32, 65, 47, 67, 10],
 [97, 108, 108, 111, 119, 32, 114, 101, 97, 100, 32, 97, 108, 108, 32, 60, 97, 108, 108, 62, 10, 97, 108, 108, 111, 119, 32, 101, 100, 105, 116, 32, 97, 108, 108, 32, 60, 97, 108, 108, 62, 10, 97, 108, 108, 111, 119, 32, 109, 111, 118, 101, 32, 97, 108, 108, 32, 60, 97, 108, 108, 62, 10, 97, 108, 108, 111, 119, 32, 100, 101, 108, 101, 116, 101, 32, 97, 108, 108, 32, 60, 97, 108, 108, 62, 10, 97, 108, 108, 111, 119, 32, 114, 101, 118, 105, 101, 119, 32, 97, 108, 108, 32, 60, 97, 108, 108, 62, 10, 103, 114, 111, 117, 112, 32, 115, 116, 97, 102, 102, 32, 97, 110, 110, 10, 103, 117, 97, 114, 100, 32, 115, 116, 97, 102, 102, 32, 65, 32, 124, 32, 83, 10, 115, 116, 114, 105, 99, 116, 32, 115, 116, 97, 102, 102, 32, 84, 101, 109, 112, 108, 97, 116, 101, 58, 84, 10, 103, 117, 97, 114, 100, 32, 115, 116, 97, 102, 102, 32, 66, 10],
 [103, 114, 111, 117, 112, 32, 115, 116, 97, 102, 102, 32, 97, 110, 110, 32, 64, 109, 111, 114, 101, 10, 103, 114, 111, 117, 112, 32, 109, 111, 114, 101, 32, 98, 111, 98, 10, 97, 108, 108, 111, 119, 32, 114, 101, 97, 100, 32, 97, 108, 108, 32, 60, 77, 97, 105, 110, 62, 10, 97, 108, 108, 111, 119, 32, 114, 101, 97, 100, 32, 97, 108, 108, 32, 60, 84, 101, 109, 112, 108, 97, 116, 101, 62, 10, 97, 108, 108, 111, 119, 32, 114, 101, 97, 100, 32, 97, 108, 108, 32, 60, 67, 97, 116, 101, 103, 111, 114, 121, 62, 10, 97, 108, 108, 111, 119, 32, 101, 100, 105, 116, 32, 117, 115, 101, 114, 115, 32, 60, 77, 97, 105, 110, 62, 10, 97, 108, 108, 111, 119, 32, 101, 100, 105, 116, 32, 115, 116, 97, 102, 102, 32, 60, 67, 97, 116, 101, 103, 111, 114, 121, 62, 10, 97, 108, 108, 111, 119, 32, 114, 101, 118, 105, 101, 119, 32, 115, 116, 97, 102, 102, 32, 60, 97, 108, 108, 62, 10, 97, 108, 108, 111, 119, 32, 109, 111, 118, 101, 32, 115, 116, 97, 102, 102, 32, 60, 97, 108, 108, 62, 10, 97, 108, 108, 111, 119, 32, 100, 101, 108, 101, 116, 101, 32, 115, 116, 97, 102, 102, 32, 60, 97, 108, 108, 62, 10, 97, 108, 108, 111, 119, 32, 114, 101, 97, 100, 32, 115, 116, 97, 102, 102, 32, 60, 97, 108, 108, 62, 10, 97, 108, 108, 111, 119, 32, 101, 100, 105, 116, 32, 115, 116, 97, 102, 102, 32, 60, 97, 108, 108, 62, 10],
 [97, 108, 108, 111, 119, 32, 114, 101, 97, 100, 32, 97, 108, 108, 32, 60, 97, 108, 108, 62, 10, 97, 108, 108, 111, 119, 32, 101, 100, 105, 116, 32, 97, 108, 108, 32, 60, 97, 108, 108, 62, 10, 97, 108, 108, 111, 119, 32, 109, 111, 118, 101, 32, 97, 108, 108, 32, 60, 97, 108, 108, 62, 10, 97, 108, 108, 111, 119, 32, 100, 101, 108, 101, 116, 101, 32, 97, 108, 108, 32, 60, 97, 108, 108, 62, 10, 97, 108, 108, 111, 119, 32, 114, 101, 118, 105, 101, 119, 32, 97, 108, 108, 32, 60, 97, 108, 108, 62, 10, 100, 101, 110, 121, 32, 114, 101, 97, 100, 32, 97, 108, 108, 32, 66, 10, 100, 101, 110, 121, 32, 114, 101, 97, 100, 32, 97, 108, 108, 32, 67, 97, 116, 101, 103, 111, 114, 121, 58, 89, 10],
 [97, 108, 108, 111, 119, 32, 114, 101, 97, 100, 32, 97, 108, 108, 32, 60, 97, 108, 108, 62, 10, 97, 108, 108, 111, 119, 32, 101, 100, 105, 116, 32, 97, 108, 108, 32, 60, 97, 108, 108, 62, 10, 97, 108, 108, 111, 119, 32, 109, 111, 118, 101, 32, 97, 108, 108, 32, 60, 97, 108, 108, 62, 10, 97, 108, 108, 111, 119, 32, 100, 101, 108, 101, 116, 101, 32, 97, 108, 108, 32, 60, 97, 108, 108, 62, 10, 97, 108, 108, 111, 119, 32, 114, 101, 118, 105, 101, 119, 32, 97, 108, 108, 32, 60, 97, 108, 108, 62, 10, 100, 101, 110, 121, 32, 101, 100, 105, 116, 32, 97, 108, 108, 32, 66, 10, 100, 101, 110, 121, 32, 114, 101, 97, 100, 32, 117, 115, 101, 114, 115, 32, 68, 10],
 [97, 108, 108, 111, 119, 32, 114, 101, 97, 100, 32, 97, 108, 108, 32, 60, 97, 108, 108, 62, 10, 97, 108, 108, 111, 119, 32, 101, 100, 105, 116, 32, 97, 108, 108, 32, 60, 97, 108, 108, 62, 10, 97, 108, 108, 111, 119, 32, 109, 111, 118, 101, 32, 97, 108, 108, 32, 60, 97, 108, 108, 62, 10, 97, 108, 108, 111, 119, 32, 100, 101, 108, 101, 116, 101, 32, 97, 108, 108, 32, 60, 97, 108, 108, 62, 10, 97, 108, 108, 111, 119, 32, 114, 101, 118, 105, 101, 119, 32, 97, 108, 108, 32, 60, 97, 108, 108, 62, 10],
 [97, 108, 108, 111, 119, 32, 114, 101, 97, 100, 32, 97, 108, 108, 32, 60, 97, 108, 108, 62, 10, 97, 108, 108, 111, 119, 32, 101, 100, 105, 116, 32, 97, 108, 108, 32, 60, 97, 108, 108, 62, 10, 97, 108, 108, 111, 119, 32, 109, 111, 118, 101, 32, 97, 108, 108, 32, 60, 97, 108, 108, 62, 10, 97, 108, 108, 111, 119, 32, 100, 101, 108, 101, 116, 101, 32, 97, 108, 108, 32, 60, 97, 108, 108, 62, 10, 97, 108, 108, 111, 119, 32, 114, 101, 118, 105, 101, 119, 32, 97, 108, 108, 32, 60, 97, 108, 108, 62, 10, 103, 114, 111, 117, 112, 32, 115, 116, 97, 102, 102, 32, 97, 110, 110, 10, 100, 101, 110, 121, 32, 114, 101, 118, 105, 101, 119, 32, 97, 108, 108, 32, 60, 97, 108, 108, 62, 10, 97, 108, 108, 111, 119, 32, 114, 101, 118, 105, 101, 119, 32, 115, 116, 97, 102, 102, 32, 60, 77, 97, 105, 110, 62, 10, 103, 117, 97, 114, 100, 32, 115, 116, 97, 102, 102, 32, 65, 10, 103, 117, 97, 114, 100, 32, 115, 116, 97, 102, 102, 32, 68, 10]]
def qm : List Int := [1, 1, 1, 1, 1, 2, 3, 4, 5, 6, 7, 8, 9, 10]
theorem idxI (ws : List Int) {k : Int} (h : 0 ≤ k) (h1 : k < ws.length) : ((ws.map (C.i .i64)).drop (k.toNat * 1)).take 1 = [C.i .i64 (ws.getD k.toNat 0)] := by
 have := Zw (f := C.i .i64) (l := ws) (i := k.toNat) (by omega)
 rw [Nat.add_zero] at this
 rw [this]
 simp [show k.toNat < ws.length by omega]
theorem YS {α : Type} {l : List α} {d : α} {k : Int} (h : 0 ≤ k) (h1 : k < l.length) : l.getD k.toNat d ∈ l := by
 have hk : k.toNat < l.length := by omega
 rw [List.getD_eq_getElem?_getD, List.getElem?_eq_getElem hk]
 exact List.getElem_mem hk
theorem yr {x : Int} (h : x ∈ qm) : 1 ≤ x ∧ x ≤ 10 := by
 simp only [qm, List.mem_cons, List.not_mem_nil, or_false] at h
 omega
theorem Hu (l : List Int) (g : GS) : Rb l g ∈ genTitles := by
 have hr := QS (l := l) g (n := 8) (by omega)
 exact YS hr.1 hr.2
structure qB (c : CH) : Prop where
 kind : 1 ≤ c.kind ∧ c.kind ≤ 10
 ttl : (c.kind ≠ 6 ∧ c.kind ≠ 10) → (c.sp, c.nm) ∈ genTitles
 dest : c.kind = 4 → (c.tsp, c.tnm) ∈ genTitles
 user : c.user ∈ genUsers
 text : c.text.length ≤ 1000
 hist : ∀ r ∈ c.hist, r.text.length ≤ 1000
 len : c.hist.length ≤ 3
def chhF (l : List CHM) : Fact := ⟨fun m => Ej m l, fun _ _ hm h => fun c hc => (h c hc).mono hm⟩
theorem Ej.snoc {m : Im} {l : List CHM} {c : CHM} (h : Ej m l) (hc : Z8 m 0 6 c.ha c.hist.length (Zb c.hist)) : Ej m (l ++ [c]) := fun x hx => by
 rcases List.mem_append.1 hx with hx | hx
 ·exact h x hx
 ·rw [List.mem_singleton.1 hx]; exact hc
end Go.X
namespace Go.Proofs
open Go Go.X Tryz
set_option maxRecDepth 100000
set_option maxHeartbeats 4000000
theorem WL (e : Nat) (a : Option Addr) (c ad : Nat) (l : List Int) (g : GS) (hg : g.ok l) (hl : l.length ≤ maxLen) : FnS prog 55 [.c (.p 1000 ad 0)] [ZW ad a l.length c g] [Zj e a l]
  (fun v L D => ∃ s g', v = .c (.s s) ∧ s ∈ genUsers ∧ g'.ok l ∧ L = [ZW ad a l.length c g'] ∧ D = []) := by
 have c1 := KD e a c ad l g 5 (by omega) (by omega) hg hl
 have hr := QS (l := l) g (n := 5) (by omega)
 have hix := Hr genUsers hr.1 hr.2
 have hm := YS (l := genUsers) (d := []) hr.1 hr.2
 have hgn := Z1 hg
 generalize Zr l g 5 = k at *
 refine FJ 4000 func55 ntmps55 (fun G => ?_)
 repeat' first | refine Wk ?_ | refine Qa.mk (fun h => ?_) (fun h => ?_) | refine Qd.mk (fun ad => ?_) | (refine Qc.mk [_] [] [_] _ c1 QW (fun _ h => h) (fun v L' D' hp => ?_); obtain ⟨rfl, rfl, rfl⟩ := hp) | refine kR.mk [C.s (genUsers.getD k.toNat [])] (by omega) (by omega) (by exact hix) rfl ?_ | refine Qe.mk [_] [] ⟨_, _, rfl, hm, hgn, rfl, rfl⟩ (Qb.facts fun _ _ => trivial)
theorem Gc (e : Nat) (a : Option Addr) (c ad : Nat) (l : List Int) (g : GS) (hg : g.ok l) (hl : l.length ≤ maxLen) : FnS prog 44 [.c (.p 1000 ad 0)] [ZW ad a l.length c g] [Zj e a l]
  (fun v L D => ∃ s g', v = .c (.s s) ∧ s ∈ xT ∧ g'.ok l ∧ L = [ZW ad a l.length c g'] ∧ D = []) := by
 have c1 := KD e a c ad l g 8 (by omega) (by omega) hg hl
 have hr := QS (l := l) g (n := 8) (by omega)
 have hix := Hr xT hr.1 hr.2
 have hm := YS (l := xT) (d := []) hr.1 hr.2
 have hgn := Z1 hg
 generalize Zr l g 8 = k at *
 refine FJ 4000 func44 ntmps44 (fun G => ?_)
 repeat' first | refine Wk ?_ | refine Qa.mk (fun h => ?_) (fun h => ?_) | refine Qd.mk (fun ad => ?_) | (refine Qc.mk [_] [] [_] _ c1 QW (fun _ h => h) (fun v L' D' hp => ?_); obtain ⟨rfl, rfl, rfl⟩ := hp) | refine kR.mk [C.s (xT.getD k.toNat [])] (by omega) (by omega) (by exact hix) rfl ?_ | refine Qe.mk [_] [] ⟨_, _, rfl, hm, hgn, rfl, rfl⟩ (Qb.facts fun _ _ => trivial)
theorem yq (e : Nat) (a : Option Addr) (c ad : Nat) (l : List Int) (g : GS) (hg : g.ok l) (hl : l.length ≤ maxLen) : FnS prog 105 [.c (.p 1000 ad 0)] [ZW ad a l.length c g] [Zj e a l]
  (fun v L D => ∃ s g', v = .c (.s s) ∧ s ∈ xU ∧ g'.ok l ∧ L = [ZW ad a l.length c g'] ∧ D = []) := by
 have c1 := KD e a c ad l g 3 (by omega) (by omega) hg hl
 have hr := QS (l := l) g (n := 3) (by omega)
 have hix := Hr xU hr.1 hr.2
 have hm := YS (l := xU) (d := []) hr.1 hr.2
 have hgn := Z1 hg
 generalize Zr l g 3 = k at *
 refine FJ 4000 func105 ntmps105 (fun G => ?_)
 repeat' first | refine Wk ?_ | refine Qa.mk (fun h => ?_) (fun h => ?_) | refine Qd.mk (fun ad => ?_) | (refine Qc.mk [_] [] [_] _ c1 QW (fun _ h => h) (fun v L' D' hp => ?_); obtain ⟨rfl, rfl, rfl⟩ := hp) | refine kR.mk [C.s (xU.getD k.toNat [])] (by omega) (by omega) (by exact hix) rfl ?_ | refine Qe.mk [_] [] ⟨_, _, rfl, hm, hgn, rfl, rfl⟩ (Qb.facts fun _ _ => trivial)
theorem Oa (e : Nat) (a : Option Addr) (c ad : Nat) (l : List Int) (g : GS) (clk : Int) (hg : g.ok l) (hl : l.length ≤ maxLen) (h0 : 0 ≤ clk) (h1 : clk ≤ 52595999) : FnS prog 106 [.c (.p 1000 ad 0), .c (.i .i64 clk)] [ZW ad a l.length c g] [Zj e a l]
  (fun v L D => ∃ b k h g', v = .c (.sl b h.length k) ∧ h.length ≤ 3 ∧ (∀ r ∈ h, r.text.length ≤ 1000) ∧ g'.ok l ∧ L = [ZW ad a l.length c g'] ∧ D = [Qf 0 6 b h.length (Zb h)]) := by
 have c2 := fun g n hn hn1 hg => KD e a c ad l g n hn hn1 hg hl
 have k1 := c2 g 3 (by omega) (by omega) hg
 have r1 := QS (l := l) g (n := 3) (by omega)
 have hg1 := Z1 hg
 generalize Zr l g 3 = v1 at *
 generalize Xb l g = g1 at *
 obtain ⟨n1, rfl⟩ : ∃ n1 : Nat, v1 = n1 := ⟨v1.toNat, by omega⟩
 refine FJ 5000 func106 ntmps106 (fun G => ?_)
 repeat' first | refine Wk ?_ | refine Qa.mk (fun h => ?_) (fun h => ?_) | refine Qd.mk (fun ad => ?_) | (refine Qc.mk [_] [] [_] _ k1 QW (fun _ h => h) (fun v L' D' hp => ?_); obtain ⟨rfl, rfl, rfl⟩ := hp)
 refine Qn (α := Nat × List RV × GS × Int × Option Addr × Nat) (fun x => [(0, .c (.p 1000 ad 0)), (1, .c (.i .i64 clk)), (5, .c (.sl x.2.2.2.2.1 x.2.1.length x.2.2.2.2.2)), (6, .c (.i .i64 x.2.2.2.1)), (7, .c (.i .i64 x.1))]) (fun x => [.row 73 6 x.2.2.2.2.1 x.2.1.length x.2.2.2.2.2 (Zb x.2.1), ZW ad a l.length c x.2.2.1]) (fun _ => [Zj e a l]) 5000
  (fun x => x.2.2.1.ok l ∧ x.1 + x.2.1.length ≤ 3 ∧ (∀ r ∈ x.2.1, r.text.length ≤ 1000) ∧ 0 ≤ x.2.2.2.1 ∧ x.2.2.2.1 ≤ 2 * x.2.1.length) (fun x => x.1) (Qq.mk (n1 + 1, [], g1, 0, none, 0) ⟨hg1, by simp; omega, (fun _ h => by cases h), by simp, by simp⟩ Qh.a (Qb.nilRow (ety := 73) (esz := 6))) (fun x hx => ?_)
 clear k1 hg1 hg
 obtain ⟨n, out, g, mi, b, k⟩ := x
 dsimp only at hx ⊢
 obtain ⟨hg, hn, ht, m0, m1⟩ := hx
 cases n with
 | zero =>
  repeat' first | refine Wk ?_ | refine Qa.mk (fun h => ?_) (fun h => ?_) | refine Qd.mk (fun ad => ?_) | refine Qe.mk [_] [_] ⟨_, _, out, _, rfl, by omega, ht, hg, rfl, rfl⟩ (Qb.toFact.trans (Qb.facts fun _ h => ⟨h.1, trivial⟩))
 | succ n =>
  have cu := WL e a c ad l g hg hl
  have cn := fun g hg => yq e a c ad l g hg hl
  have ct := fun g hg => zP e a c ad l g hg hl
  have cm := fun g hg => c2 g 3 (by omega) (by omega) hg
  have rm := fun g => QS (l := l) g (n := 3) (by omega)
  have hgm := fun g (hg : GS.ok l g) => Z1 hg
  clear c2
  have hap : ∀ us no tx, Zb out ++ [.i .i64 ((out.length : Int) + 1), .s us, .s no, .s tx, .i .i64 mi, .i .i64 0] = Zb (out ++ [⟨(out.length : Int) + 1, us, no, tx, mi, 0⟩]) := fun us no tx => by simp [Zb, RV.cells]
  have hln : ∀ x : RV, out.length + 1 = (out ++ [x]).length := fun x => by simp
  have htn : ∀ us no tx, List.length tx ≤ 1000 → ∀ r ∈ out ++ [(⟨(out.length : Int) + 1, us, no, tx, mi, 0⟩ : RV)], r.text.length ≤ 1000 := fun us no tx h r hr => by
   rcases List.mem_append.1 hr with hr | hr
   ·exact ht r hr
   ·rw [List.mem_singleton.1 hr]; exact h
  repeat' first | refine Wk ?_ | refine Qa.mk (fun h => ?_) (fun h => ?_) | refine Qd.mk (fun ad => ?_) | (refine Qc.mk [_] [_] [_] _ cu (List.Perm.swap _ _ _) (fun _ h => h) (fun v L' D' hp => ?_); obtain ⟨us, gu, rfl, husr, hgu, rfl, rfl⟩ := hp) | (refine Qc.mk [_] [_] [_] _ (cn _ hgu) QW (fun _ h => h) (fun v L' D' hp => ?_); obtain ⟨no, gn, rfl, hno, hgn, rfl, rfl⟩ := hp) | (refine Qc.mk [_] [_] [_] _ (ct _ hgn) QW (fun _ h => h) (fun v L' D' hp => ?_); obtain ⟨tx, gt, rfl, htx, hgt, rfl, rfl⟩ := hp) | (refine QK.row [_, _] _ (Zb out) [.i .i64 ((out.length : Int) + 1), .s us, .s no, .s tx, .i .i64 mi, .i .i64 0] 1 rfl (QJ.sl 73 73 _ _ 1 1 _ rfl rfl (.inl ⟨1, QT⟩) rfl) (by dsimp only; omega) (fun b' k' => ?_); rw [hap us no tx, hln ⟨(out.length : Int) + 1, us, no, tx, mi, 0⟩]) | (refine Qc.mk [_] [_, _] [_] _ (cm _ hgt) (List.Perm.swap _ _ _) (fun _ h => h) (fun v L' D' hp => ?_); obtain ⟨rfl, rfl, rfl⟩ := hp; have rr := rm gt; have hgx := hgm gt hgt; generalize Zr l gt 3 = nv at *; generalize Xb l gt = gx at *) | refine Qo.mk (n, out ++ [⟨(out.length : Int) + 1, us, no, tx, mi, 0⟩], gx, clk, b', k') (by dsimp only; omega) ⟨hgx, by simp; omega, htn us no tx htx, by dsimp only; omega, by simp; omega⟩ Qh.a (Qb.sub ⟨[_], List.perm_append_comm (l₁ := [_]) (l₂ := [_, _])⟩) | refine Qo.mk (n, out ++ [⟨(out.length : Int) + 1, us, no, tx, mi, 0⟩], gx, mi + nv, b', k') (by dsimp only; omega) ⟨hgx, by simp; omega, htn us no tx htx, by dsimp only; omega, by simp; omega⟩ Qh.a (Qb.sub ⟨[_], List.perm_append_comm (l₁ := [_]) (l₂ := [_, _])⟩)
theorem Gd (e : Nat) (a : Option Addr) (c ad0 : Nat) (l : List Int) (g : GS) (clk : Int) (hg : g.ok l) (hl : l.length ≤ maxLen) (h0 : 0 ≤ clk) (h1 : clk ≤ 52595999) : FnS prog 65 [.c (.p 1000 ad0 0), .c (.i .i64 clk)] [ZW ad0 a l.length c g] [Zj e a l]
  (fun v L D => ∃ ch : CHM, ∃ g', v = .agg ch.cells ∧ qB ch.pl ∧ g'.ok l ∧ L = [ZW ad0 a l.length c g'] ∧ D = [Yy ch]) := by
 have c2 := fun g n hn hn1 hg => KD e a c ad0 l g n hn hn1 hg hl
 have k1 := c2 g 14 (by omega) (by omega) hg
 have r1 := QS (l := l) g (n := 14) (by omega)
 have hix := idxI qm r1.1 r1.2
 have hm := yr (YS (l := qm) (d := 0) r1.1 r1.2)
 have hg1 := Z1 hg
 generalize Zr l g 14 = v1 at *
 generalize Xb l g = g1 at *
 have cu := WL e a c ad0 l g1 hg1 hl
 have ct := fun g hg => Ht e a c ad0 l g hg hl
 have cno := fun g hg => yq e a c ad0 l g hg hl
 have ctx := fun g hg => zP e a c ad0 l g hg hl
 have crv := fun g hg => Oa e a c ad0 l g clk hg hl h0 h1
 have hgm := fun g (hg : GS.ok l g) => Z1 hg
 have hbob : ([98, 111, 98] : Bs) ∈ genUsers := by decide
 have hnil : ([] : Bs) ∈ genUsers := by decide
 generalize hkd : qm.getD v1.toNat 0 = kd at *
 clear hkd
 refine FJ 6000 func65 ntmps65 (fun G => ?_)
 repeat' first | refine Kj (x := .region 1 _ _) (α := Bs × (Int × Bs) × GS × Nat) (fun z => [(0, .c (.p 1000 ad0 0)), (1, .c (.i .i64 clk)), (4, .c (.p 6000 ad 0)), (5, .c (.p 6001 z.2.2.2 0))]) (fun z => [ZW ad0 a l.length c z.2.2.1, .box 6001 z.2.2.2 64 [.i .i64 kd, .s z.1, .s [], .i .i64 z.2.1.1, .s z.2.1.2, .i .i64 0, .s [], .s [], .i .i64 0, .sl none 0 0], .box 6000 ad 64 [C.i .i64 0, .s [], .s [], .i .i64 0, .s [], .i .i64 0, .s [], .s [], .i .i64 0, .sl none 0 0]]) (fun _ => [Zj e a l]) 6002 (fun z => z.1 ∈ genUsers ∧ z.2.1 ∈ genTitles ∧ z.2.2.1.ok l) ?_ (fun z hz => QF ?_) | refine Wk ?_ | refine Qa.mk (fun h => ?_) (fun h => ?_) | refine Qd.mk (fun ad => ?_) | refine Ke (id := 1) tyOK (by kernel_rfl) [0, 0, 2, 7, 0, 22, 0, 118, 255, 0, 1023] (.node [0, 1, 4, 6] 2 (.node [3] 5 (.node [] 7 (.leaf [8, 9, 10]) 9 (.leaf [7, 8, 10])) 9 (.leaf [5, 7, 8, 10])) 9 (.leaf [2, 3, 5, 7, 8, 10])) [2, 5, 7, 9, 10] [] 10 true (by kernel_rfl) ?_ | refine X3.mk ?_ ?_ | refine Qt.mk Qb.a ?_ | (refine Qc.mk [_] [_] [_] _ k1 (List.Perm.swap _ _ _) (fun _ h => h) (fun v L' D' hp => ?_); obtain ⟨rfl, rfl, rfl⟩ := hp) | (refine Qc.mk [_] [_, _] [_] _ k1 (List.perm_append_comm (l₁ := [_, _]) (l₂ := [_])) (fun _ h => h) (fun v L' D' hp => ?_); obtain ⟨rfl, rfl, rfl⟩ := hp) | refine kR.mk [C.i .i64 kd] (by omega) (by omega) (by exact hix) rfl ?_ | (refine Qc.mk [_] [_] [_] _ cu QW (fun _ h => h) (fun v L' D' hp => ?_); obtain ⟨us, gu, rfl, husr, hgu, rfl, rfl⟩ := hp) | (refine Qc.mk [_] [_, _] [_] _ cu QW (fun _ h => h) (fun v L' D' hp => ?_); obtain ⟨us, gu, rfl, husr, hgu, rfl, rfl⟩ := hp) | (refine Qc.mk [_] [_, _] [_] _ cu (List.Perm.swap _ _ _) (fun _ h => h) (fun v L' D' hp => ?_); obtain ⟨us, gu, rfl, husr, hgu, rfl, rfl⟩ := hp) | (refine Qc.mk [_] [_] [_] _ (ct _ hgu) QW (fun _ h => h) (fun v L' D' hp => ?_); obtain ⟨rfl, rfl, rfl⟩ := hp) | (refine Qc.mk [_] [_, _] [_] _ (ct _ hgu) QW (fun _ h => h) (fun v L' D' hp => ?_); obtain ⟨rfl, rfl, rfl⟩ := hp) | (refine Qc.mk [_] [_, _] [_] _ (ct _ hgu) (List.Perm.swap _ _ _) (fun _ h => h) (fun v L' D' hp => ?_); obtain ⟨rfl, rfl, rfl⟩ := hp) | refine Qq.mk (us, Rb l gu, Xb l gu, _) ⟨husr, Hu l gu, hgm gu hgu⟩ Qh.a (by first | exact Qb.refl _ _ | exact Qb.perm (List.Perm.swap _ _ _))
 refine ⟨?_⟩
 clear k1 r1 hix cu hg1 hg
 obtain ⟨us, T, g0, ad5⟩ := z
 dsimp only at hz ⊢
 obtain ⟨hus, hT, hg0⟩ := hz
 obtain ⟨sp, nm⟩ := T
 dsimp only
 have rr := fun g n (hn : 0 < n) => QS (l := l) g (n := n) hn
 have cn3 := fun g hg => c2 g 3 (by omega) (by omega) hg
 have cn2 := fun g hg => c2 g 2 (by omega) (by omega) hg
 have cnt := c2 g0 2000 (by omega) (by omega) hg0
 have cn4 := c2 g0 4 (by omega) (by omega) hg0
 clear c2
 repeat' first | refine Wk ?_ | refine Qa.mk (fun h => ?_) (fun h => ?_) | refine Qd.mk (fun ad => ?_) | (refine Qc.mk [_] [_, _] [_] _ (cno _ hg0) QW (fun _ h => h) (fun v L' D' hp => ?_); obtain ⟨no, gn, rfl, hno, hgn, rfl, rfl⟩ := hp) | (refine Qc.mk [_] [_, _] [_] _ (ctx _ hgn) QW (fun _ h => h) (fun v L' D' hp => ?_); obtain ⟨tx, gt, rfl, htx, hgt, rfl, rfl⟩ := hp) | (refine Qc.mk [_] [_, _] [_] _ (cn3 _ hgt) QW (fun _ h => h) (fun v L' D' hp => ?_); obtain ⟨rfl, rfl, rfl⟩ := hp; have hgx := hgm gt hgt; generalize Zr l gt 3 = nv at *; generalize Xb l gt = gx at *) | (refine Qc.mk [_] [_, _] [_] _ (ct _ hg0) QW (fun _ h => h) (fun v L' D' hp => ?_); obtain ⟨rfl, rfl, rfl⟩ := hp; have hgt := hgm g0 hg0; have hT2 := Hu l g0; generalize Rb l g0 = T2 at *; obtain ⟨tsp, tnm⟩ := T2; generalize Xb l g0 = gt at *) | (refine Qc.mk [_] [_, _] [_] _ (cn2 _ hgt) QW (fun _ h => h) (fun v L' D' hp => ?_); obtain ⟨rfl, rfl, rfl⟩ := hp; have hgx := hgm gt hgt; generalize Zr l gt 2 = nv at *; generalize Xb l gt = gx at *) | (refine Qc.mk [_] [_, _] [_] _ (crv _ hg0) QW (fun _ h => h) (fun v L' D' hp => ?_); obtain ⟨hb, hk, hh, gt, rfl, hhl, hht, hgt, rfl, rfl⟩ := hp) | (refine Qc.mk [_] [_, _] [_] _ cnt QW (fun _ h => h) (fun v L' D' hp => ?_); obtain ⟨rfl, rfl, rfl⟩ := hp; have hgx := hgm g0 hg0; have rv := rr g0 2000 (by omega); generalize Zr l g0 2000 = nv at *; generalize Xb l g0 = gx at *) | (refine Qc.mk [_] [_, _] [_] _ cn4 QW (fun _ h => h) (fun v L' D' hp => ?_); obtain ⟨rfl, rfl, rfl⟩ := hp; have hgx := hgm g0 hg0; have rv := rr g0 4 (by omega); generalize Zr l g0 4 = nv at *; generalize Xb l g0 = gx at *) | refine Qe.mk [ZW ad0 a l.length c _] [Yy _] ⟨⟨kd, us, no, sp, nm, 0, [], tx, nv, none, 0, []⟩, _, rfl, ⟨by dsimp only [CHM.pl]; omega, fun _ => hT, fun h => absurd h (by dsimp only [CHM.pl]; omega), hus, htx, (fun _ h => by cases h), Nat.zero_le _⟩, hgx, rfl, rfl⟩ ((Qb.ofSub (L0 := [ZW ad0 a l.length c _]) (by repeat (first | exact List.Sublist.slnil | refine List.Sublist.cons_cons _ ?_ | refine List.Sublist.cons _ ?_)) (fun _ h => h)).trans (Qb.facts fun _ h => ⟨Z8.nil (e := 0), trivial⟩)) | refine Qe.mk [ZW ad0 a l.length c _] [Yy _] ⟨⟨kd, us, no, sp, nm, 0, [], tx, 0, none, 0, []⟩, _, rfl, ⟨by dsimp only [CHM.pl]; omega, fun _ => hT, fun h => absurd h (by dsimp only [CHM.pl]; omega), hus, htx, (fun _ h => by cases h), Nat.zero_le _⟩, hgt, rfl, rfl⟩ ((Qb.ofSub (L0 := [ZW ad0 a l.length c _]) (by repeat (first | exact List.Sublist.slnil | refine List.Sublist.cons_cons _ ?_ | refine List.Sublist.cons _ ?_)) (fun _ h => h)).trans (Qb.facts fun _ h => ⟨Z8.nil (e := 0), trivial⟩)) | refine Qe.mk [ZW ad0 a l.length c _] [Yy _] ⟨⟨kd, us, [], sp, nm, tsp, tnm, [], nv, none, 0, []⟩, _, rfl, ⟨by dsimp only [CHM.pl]; omega, fun _ => hT, fun _ => hT2, hus, Nat.zero_le _, (fun _ h => by cases h), Nat.zero_le _⟩, hgx, rfl, rfl⟩ ((Qb.ofSub (L0 := [ZW ad0 a l.length c _]) (by repeat (first | exact List.Sublist.slnil | refine List.Sublist.cons_cons _ ?_ | refine List.Sublist.cons _ ?_)) (fun _ h => h)).trans (Qb.facts fun _ h => ⟨Z8.nil (e := 0), trivial⟩)) | refine Qe.mk [ZW ad0 a l.length c _] [Yy _] ⟨⟨kd, us, [], sp, nm, 0, [], [], 0, hb, hk, hh⟩, _, rfl, ⟨by dsimp only [CHM.pl]; omega, fun _ => hT, fun h => absurd h (by dsimp only [CHM.pl]; omega), hus, Nat.zero_le _, hht, hhl⟩, hgt, rfl, rfl⟩ ((Qb.ofSub (L0 := [ZW ad0 a l.length c _]) (by repeat (first | exact List.Sublist.slnil | refine List.Sublist.cons_cons _ ?_ | refine List.Sublist.cons _ ?_)) (fun _ h => h)).trans (Qb.facts fun _ h => ⟨h.1, trivial⟩)) | refine Qe.mk [ZW ad0 a l.length c _] [Yy _] ⟨⟨6, [], [], 0, [], 0, [], [], _, none, 0, []⟩, _, rfl, ⟨by dsimp only [CHM.pl]; omega, fun h => absurd rfl h.1, fun h => absurd h (by dsimp only [CHM.pl]; omega), hnil, Nat.zero_le _, (fun _ h => by cases h), Nat.zero_le _⟩, hgx, rfl, rfl⟩ ((Qb.ofSub (L0 := [ZW ad0 a l.length c _]) (by repeat (first | exact List.Sublist.slnil | refine List.Sublist.cons_cons _ ?_ | refine List.Sublist.cons _ ?_)) (fun _ h => h)).trans (Qb.facts fun _ h => ⟨Z8.nil (e := 0), trivial⟩)) | refine Qe.mk [ZW ad0 a l.length c _] [Yy _] ⟨⟨kd, us, [], 0, [], 0, [], [], _, none, 0, []⟩, _, rfl, ⟨by dsimp only [CHM.pl]; omega, fun h => absurd (show kd = 10 by omega) h.2, fun h => absurd h (by dsimp only [CHM.pl]; omega), hus, Nat.zero_le _, (fun _ h => by cases h), Nat.zero_le _⟩, hgx, rfl, rfl⟩ ((Qb.ofSub (L0 := [ZW ad0 a l.length c _]) (by repeat (first | exact List.Sublist.slnil | refine List.Sublist.cons_cons _ ?_ | refine List.Sublist.cons _ ?_)) (fun _ h => h)).trans (Qb.facts fun _ h => ⟨Z8.nil (e := 0), trivial⟩)) | refine Qe.mk [ZW ad0 a l.length c _] [Yy _] ⟨⟨kd, [98, 111, 98], [], sp, nm, 0, [], [], 0, none, 0, []⟩, _, rfl, ⟨by dsimp only [CHM.pl]; omega, fun _ => hT, fun h => absurd h (by dsimp only [CHM.pl]; omega), hbob, Nat.zero_le _, (fun _ h => by cases h), Nat.zero_le _⟩, hg0, rfl, rfl⟩ ((Qb.ofSub (L0 := [ZW ad0 a l.length c _]) (by repeat (first | exact List.Sublist.slnil | refine List.Sublist.cons_cons _ ?_ | refine List.Sublist.cons _ ?_)) (fun _ h => h)).trans (Qb.facts fun _ h => ⟨Z8.nil (e := 0), trivial⟩)) | refine Qe.mk [ZW ad0 a l.length c _] [Yy _] ⟨⟨kd, us, [], sp, nm, 0, [], [], 0, none, 0, []⟩, _, rfl, ⟨by dsimp only [CHM.pl]; omega, fun _ => hT, fun h => absurd h (by dsimp only [CHM.pl]; omega), hus, Nat.zero_le _, (fun _ h => by cases h), Nat.zero_le _⟩, hg0, rfl, rfl⟩ ((Qb.ofSub (L0 := [ZW ad0 a l.length c _]) (by repeat (first | exact List.Sublist.slnil | refine List.Sublist.cons_cons _ ?_ | refine List.Sublist.cons _ ?_)) (fun _ h => h)).trans (Qb.facts fun _ h => ⟨Z8.nil (e := 0), trivial⟩))
end Go.Proofs
