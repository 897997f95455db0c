/- This text walks through the source of numbers from which statements make inputs (trcgen2): From, Next, Round, Titles, Title. This text walks through the makers of titles, of rows of words and of texts. -/
import Derived.Test.YtcnbkappedemeaaLibc
import Derived.Test.YtcnbkappedemeaaSlc
set_option linter.all false

namespace Go.X
open Go

def u64w (x : Int) : Int := IntKind.u64.wrap x
theorem u64w_range (x : Int) : 0 ≤ u64w x ∧ u64w x ≤ 18446744073709551615 := by
  simp only [u64w, IntKind.wrap, IntKind.bits, IntKind.signed]
  simp
  omega
def shr33 (s : Int) : Int := s.fdiv (2 ^ (min (33 : Int).toNat IntKind.u64.bits))
theorem shr33_pos {s : Int} (h : 0 ≤ s) : 0 ≤ shr33 s := by
  unfold shr33
  rw [Int.fdiv_eq_ediv_of_nonneg _ (by decide)]
  exact Int.ediv_nonneg h (by decide)
theorem bitsX_range (x y : Int) : 0 ≤ bitsV .xor .u64 x y ∧ bitsV .xor .u64 x y ≤ 18446744073709551615 := u64w_range _
/-- One number stirred into the seed. -/
def mixS (s x : Int) : Int := bitsV .xor .u64 (u64w (bitsV .xor .u64 s (u64w x) * 18397679294719823053)) (shr33 (u64w (bitsV .xor .u64 s (u64w x) * 18397679294719823053)))
def seedL (l : List Int) : Int := (l.take 64).foldl mixS 11400714819323198485
theorem mixS_range (s x : Int) : 0 ≤ mixS s x ∧ mixS s x ≤ 18446744073709551615 := bitsX_range _ _
theorem seedL_range (l : List Int) : 0 ≤ seedL l ∧ seedL l ≤ 18446744073709551615 := by
  unfold seedL
  generalize l.take 64 = r
  generalize h : (11400714819323198485 : Int) = s
  have hs : 0 ≤ s ∧ s ≤ 18446744073709551615 := by omega
  clear h
  induction r generalizing s with
  | nil => exact hs
  | cons x r ih => exact ih _ (mixS_range s x)
/-- What the source stands at. -/
structure GS where
  at_ : Nat
  sd : Int
def roundI (v n : Int) : Int := if v.tmod n < 0 then v.tmod n + n else v.tmod n
theorem roundI_range (v : Int) {n : Int} (h : 0 < n) : 0 ≤ roundI v n ∧ roundI v n < n := by
  unfold roundI
  have h1 : v.tmod n < n := Int.tmod_lt_of_pos v h
  have h2 : -n < v.tmod n := by
    by_cases hv : 0 ≤ v
    · have := Int.tmod_nonneg n hv; omega
    · have := Int.tmod_lt_of_pos (-v) h
      rw [Int.neg_tmod] at this
      omega
  split <;> omega
def lcg (s : Int) : Int := u64w (u64w (s * 6364136223846793005) + 1442695040888963407)
def nextGV (l : List Int) (g : GS) (n : Int) : Int := if g.at_ < l.length then roundI (l.getD g.at_ 0) n else (shr33 (lcg g.sd)).tmod n
def nextGS (l : List Int) (g : GS) : GS := if g.at_ < l.length then ⟨g.at_ + 1, g.sd⟩ else ⟨g.at_, lcg g.sd⟩
/-- A state that may come up. -/
structure GS.ok (l : List Int) (g : GS) : Prop where
  a : g.at_ ≤ l.length
  s : 0 ≤ g.sd ∧ g.sd ≤ 18446744073709551615
def gs0 (l : List Int) : GS := ⟨0, seedL l⟩
theorem gs0_ok (l : List Int) : (gs0 l).ok l := ⟨Nat.zero_le _, seedL_range l⟩
theorem nextGS_ok {l : List Int} {g : GS} (h : g.ok l) : (nextGS l g).ok l := by
  unfold nextGS
  split
  · exact ⟨by show g.at_ + 1 ≤ _; omega, h.s⟩
  · exact ⟨h.a, u64w_range _⟩
theorem nextGV_range {l : List Int} (g : GS) {n : Int} (h : 0 < n) : 0 ≤ nextGV l g n ∧ nextGV l g n < n := by
  unfold nextGV
  split
  · exact roundI_range _ h
  · exact ⟨Int.tmod_nonneg _ (shr33_pos (u64w_range _).1), Int.tmod_lt_of_pos _ h⟩

def genTitles : List (Int × List UInt8) := [(0, [65]), (0, [66]), (0, [65, 47, 67]), (3, [84]), (4, [88]), (4, [89]), (2, [65, 110, 110]), (0, [68])]
def ttC (l : List (Int × List UInt8)) : List C := l.flatMap fun t => [.i .i64 t.1, .s t.2]

/-- The source as a box. -/
abbrev srcC (ad : Nat) (a : Option Addr) (n c : Nat) (g : GS) : Chunk := .box 1000 ad 64 [.sl a n c, .i .i64 g.at_, .i .u64 g.sd]
abbrev intsF (e : Nat) (a : Option Addr) (l : List Int) : Fact := slFact e 1 a l.length (l.map (C.i .i64))

end Go.X

namespace Go.Proofs
open Go Go.X
set_option maxRecDepth 100000
set_option maxHeartbeats 4000000

theorem round_ok (v n : Int) (h : 0 < n) (hn : n ≤ 1000000) : FnS Try.prog 12 [.c (.i .i64 v), .c (.i .i64 n)] [] [] (Is (.c (.i .i64 (roundI v n)))) := by
  have hr := roundI_range v h
  have h0 : -1000000 ≤ v.tmod n + n ∧ v.tmod n + n ≤ 1000000 ∨ ¬ v.tmod n < 0 := by
    unfold roundI at hr
    generalize v.tmod n = k at *
    split at hr <;> omega
  unfold roundI
  refine fn_of_J Try.tyOK 0 Try.func12 (by kernel_rfl) (c := Try.f12.body.getD .skip) (by kernel_rfl) Try.ntmps12 (rs := Try.f12.results.toList) rfl (by simp) (fun G => ?_)
  repeat' first
    | refine J_seq ?_ | refine J_region Try.tyOK ?_ | refine J_block ?_ | refine J_cond ?_ | refine J_ret ?_ | refine J_skip ?_ | refine J_exit ?_ | refine J_scope ?_
    | refine CondP.yes (by omega) ?_ | refine CondP.no (by omega) ?_ | refine CondP.mk (fun h => ?_) (fun h => ?_) | refine EqP.mk rfl ?_ | refine NewP.mk (fun ad => ?_) | refine ArP.exact (by simp only [inR]; omega) ?_ | refine SideP.mk (by first | omega | (dsimp only; omega) | (simp; omega)) ?_
    | refine ArP.exact (by simp only [inR]; generalize v.tmod n = k at *; omega) ?_ | refine FinE.is ?_
    | fail
  · rw [if_pos h]
  · rw [if_neg h]

theorem from_ok (e : Nat) (a : Option Addr) (c : Nat) (l : List Int) (hl : l.length ≤ maxLen) : FnS Try.prog 7 [.c (.sl a l.length c)] [] [intsF e a l]
    (fun v L D => ∃ ad, v = .c (.p 1000 ad 0) ∧ L = [srcC ad a l.length c (gs0 l)] ∧ D = []) := by
  simp only [maxLen] at hl
  refine fn_of_J Try.tyOK 1000 Try.func7 (by kernel_rfl) (c := Try.f7.body.getD .skip) (by kernel_rfl) Try.ntmps7 (rs := Try.f7.results.toList) rfl (by simp) (fun G => ?_)
  repeat' first
    | refine J_seq ?_ | refine J_region Try.tyOK ?_ | refine J_block ?_ | refine J_cond ?_ | refine J_ret ?_ | refine J_skip ?_ | refine J_exit ?_ | refine J_scope ?_
    | refine CondP.yes (by omega) ?_ | refine CondP.no (by omega) ?_ | refine CondP.mk (fun h => ?_) (fun h => ?_) | refine EqP.mk rfl ?_ | refine NewP.mk (fun ad => ?_) | refine ArP.exact (by simp only [inR]; omega) ?_ | refine SideP.mk (by first | omega | (dsimp only; omega) | (simp; omega)) ?_
    | fail
  refine J_loop (α := Nat) (fun i => [(0, .c (.sl a l.length c)), (3, .c (.p 1000 ad 0)), (4, .c (.i .i64 i))]) (fun i => [.box 1000 ad 64 [.sl a l.length c, .i .i64 (0 : Nat), .i .u64 ((l.take i).foldl mixS 11400714819323198485)]]) (fun _ => [intsF e a l]) 1001 (fun i => i ≤ l.length ∧ i ≤ 64) (fun i => l.length - i) (InFam.mk 0 ⟨Nat.zero_le _, Nat.zero_le _⟩ (by repeat' first | exact SubE.nil | refine SubE.cons rfl ?_ ?_ | exact VEq.refl _ | refine VEq.int (by omega) | refine VEq.sl rfl (by first | rfl | omega | (rw [List.length_append]; rfl) | (simp; omega)) rfl) (Ents.refl _ _)) (fun i hi => ?_)
  obtain ⟨hi, hi2⟩ := hi
  by_cases hlt : i < l.length ∧ i < 64
  · have hlt1 := hlt.1
    have hg : ((l.map (C.i .i64)).drop (i * 1 + 0)).take 1 = [C.i .i64 l[i]] := map_take1 hlt.1
    have hrd : ∀ L, Reads L [intsF e a l] e 1 a l.length (l.map (C.i .i64)) := fun L => .inr fun m h => h.1
    have hf : (l.take (i + 1)).foldl mixS 11400714819323198485 = mixS ((l.take i).foldl mixS 11400714819323198485) l[i] := by
      rw [List.take_succ_eq_append_getElem hlt.1, List.foldl_append]; rfl
    generalize (l.take i).foldl mixS 11400714819323198485 = s at *
    generalize l[i] = x at *
    repeat' first
      | refine J_seq ?_ | refine J_region Try.tyOK ?_ | refine J_block ?_ | refine J_cond ?_ | refine J_ret ?_ | refine J_skip ?_ | refine J_exit ?_ | refine J_scope ?_
      | refine CondP.yes (by omega) ?_ | refine CondP.no (by omega) ?_ | refine CondP.mk (fun h => ?_) (fun h => ?_) | refine EqP.mk rfl ?_ | refine NewP.mk (fun ad => ?_) | refine ArP.exact (by simp only [inR]; omega) ?_ | refine SideP.mk (by first | omega | (dsimp only; omega) | (simp; omega)) ?_
      | refine J_drawZ (id := 5) Try.tyOK (by kernel_rfl) [0, 0, 2, 6, 14, 0, 0, 96, 224, 480, 1022, 2046, 4095, 8191, 16383] [0, 1, 2, 3, 4, 5, 6, 7, 8, 9, 10, 11, 12, 13, 14] [14] [3, 25] 14 true (by kernel_rfl) ?_ | refine J_drawZ (id := 6) Try.tyOK (by kernel_rfl) [0, 0, 2, 6, 14, 0, 32, 96, 224, 480, 1022, 2047, 4095, 8191] [0, 1, 2, 3, 4, 5, 6, 7, 8, 9, 10, 11, 12, 13] [13] [3] 13 true (by kernel_rfl) ?_ | refine EntP.mk (Ents.ofSub (by repeat (first | exact List.Sublist.slnil | refine List.Sublist.cons_cons _ ?_ | refine List.Sublist.cons _ ?_)) (by first | exact fun _ h => h | exact fun _ _ => trivial | exact fun _ h => h.2 | exact fun _ h => h.2.2.2.2 | exact fun _ h => h.2.2 | exact fun _ h => h.2.2.2 | exact fun _ h => h.2.2.2.2.2 | exact fun _ h => h.2.2.2.2.2.2 | exact fun _ h => h.2.2.2.2.2.2.2 | exact fun _ h => h.2.2.2.2.2.2.2.2 | exact fun _ h => h.2.2.2.2.2.2.2.2.2 | exact fun _ h => h.2.2.2.2.2.2.2.2.2.2 | exact fun _ h => ((allD_append _ _).1 h).2)) ?_ | refine IdxE.mk e 1 _ (hrd _) (by omega) (by omega) ?_ | refine LoadE.mk e _ _ _ (hrd _) (by omega) (by omega) (by omega) hg ?_ | refine ArP.wrap ?_ | refine Round.mk (i + 1) (by omega) ⟨by omega, by omega⟩ (by repeat' first | exact SubE.nil | refine SubE.cons rfl ?_ ?_ | exact VEq.refl _ | refine VEq.int (by omega) | refine VEq.sl rfl (by first | rfl | omega | (rw [List.length_append]; rfl) | (simp; omega)) rfl) (Ents.of (by rw [hf]; rfl))
      | fail
  · have hil : i = l.length ∨ i = 64 := by omega
    have ht : (l.take i).foldl mixS 11400714819323198485 = seedL l := by
      unfold seedL
      rcases hil with h | h
      · rw [h, List.take_length, List.take_of_length_le (by omega)]
      · rw [h]
    rw [ht]
    repeat' first
      | refine J_seq ?_ | refine J_region Try.tyOK ?_ | refine J_block ?_ | refine J_cond ?_ | refine J_ret ?_ | refine J_skip ?_ | refine J_exit ?_ | refine J_scope ?_
      | refine CondP.yes (by omega) ?_ | refine CondP.no (by omega) ?_ | refine CondP.mk (fun h => ?_) (fun h => ?_) | refine EqP.mk rfl ?_ | refine NewP.mk (fun ad => ?_) | refine ArP.exact (by simp only [inR]; omega) ?_ | refine SideP.mk (by first | omega | (dsimp only; omega) | (simp; omega)) ?_
      | refine FinE.mk [_] [] ⟨ad, rfl, rfl, rfl⟩ (Ents.facts fun _ _ => trivial)
      | fail

theorem next_ok (e : Nat) (a : Option Addr) (c ad : Nat) (l : List Int) (g : GS) (n : Int) (hn : 0 < n) (hn1 : n ≤ 1000000) (hg : g.ok l) (hl : l.length ≤ maxLen) : FnS Try.prog 20 [.c (.p 1000 ad 0), .c (.i .i64 n)] [srcC ad a l.length c g] [intsF e a l]
    (fun v L D => v = .c (.i .i64 (nextGV l g n)) ∧ L = [srcC ad a l.length c (nextGS l g)] ∧ D = []) := by
  simp only [maxLen] at hl
  obtain ⟨at_, s⟩ := g
  obtain ⟨hat, hs⟩ := hg
  dsimp only at hat hs
  have hrd : ∀ L, Reads L [intsF e a l] e 1 a l.length (l.map (C.i .i64)) := fun L => .inr fun m h => h.1
  have hr := nextGV_range (l := l) ⟨at_, s⟩ hn
  unfold nextGV nextGS at *
  dsimp only at hr ⊢
  by_cases hlt : at_ < l.length
  · have hgt : ((l.map (C.i .i64)).drop (((at_ : Int) + 1 - 1).toNat * 1 + 0)).take 1 = [C.i .i64 (l.getD at_ 0)] := by rw [show ((at_ : Int) + 1 - 1).toNat = at_ by omega, map_take1 hlt]; simp [hlt]
    have c1 := round_ok (l.getD at_ 0) n hn hn1
    rw [if_pos hlt, if_pos hlt]
    rw [if_pos hlt] at hr
    generalize roundI (l.getD at_ 0) n = q at *
    dsimp only [srcC]
    refine fn_of_J Try.tyOK 0 Try.func20 (by kernel_rfl) (c := Try.f20.body.getD .skip) (by kernel_rfl) Try.ntmps20 (rs := Try.f20.results.toList) rfl (by simp) (fun G => ?_)
    repeat' first
      | refine J_seq ?_ | refine J_region Try.tyOK ?_ | refine J_block ?_ | refine J_cond ?_ | refine J_ret ?_ | refine J_skip ?_ | refine J_exit ?_ | refine J_scope ?_
      | refine CondP.yes (by omega) ?_ | refine CondP.no (by omega) ?_ | refine CondP.mk (fun h => ?_) (fun h => ?_) | refine EqP.mk rfl ?_ | refine NewP.mk (fun ad => ?_) | refine ArP.exact (by simp only [inR]; omega) ?_ | refine SideP.mk (by first | omega | (dsimp only; omega) | (simp; omega)) ?_
      | refine J_drawS (id := 1) Try.tyOK (by kernel_rfl) [0, 1, 3, 7, 0, 16, 48, 112, 240, 511] [0, 1, 2, 3, 4, 5, 6, 7, 8, 9] [] [0] true (by kernel_rfl) ?_ | refine J_drawS (id := 3) Try.tyOK (by kernel_rfl) [0, 1, 3, 7, 0, 16, 48, 112, 240, 511, 1023, 0, 4095, 8191] [0, 1, 2, 3, 4, 5, 6, 7, 8, 9, 10, 11, 12, 13] [] [0, 31] true (by kernel_rfl) ?_ | refine EntP.mk (Ents.ofSub (by repeat (first | exact List.Sublist.slnil | refine List.Sublist.cons_cons _ ?_ | refine List.Sublist.cons _ ?_)) (by first | exact fun _ h => h | exact fun _ _ => trivial | exact fun _ h => h.2 | exact fun _ h => h.2.2.2.2 | exact fun _ h => h.2.2 | exact fun _ h => h.2.2.2 | exact fun _ h => h.2.2.2.2.2 | exact fun _ h => h.2.2.2.2.2.2 | exact fun _ h => h.2.2.2.2.2.2.2 | exact fun _ h => h.2.2.2.2.2.2.2.2 | exact fun _ h => h.2.2.2.2.2.2.2.2.2 | exact fun _ h => h.2.2.2.2.2.2.2.2.2.2 | exact fun _ h => ((allD_append _ _).1 h).2)) ?_ | refine CallQ.mk [] _ c1 (fun _ _ => trivial) ?_ | refine IdxE.mk e 1 _ (hrd _) (by omega) (by omega) ?_ | refine LoadE.mk e _ _ _ (hrd _) (by omega) (by omega) (by omega) hgt ?_ | refine FinE.mk [_] [] ⟨rfl, rfl, rfl⟩ (Ents.facts fun _ _ => trivial)
      | fail
  · rw [if_neg hlt, if_neg hlt]
    rw [if_neg hlt] at hr
    have hu : u64w n = n := wrap_of_inR (by simp only [inR]; omega)
    dsimp only [srcC]
    refine fn_of_J Try.tyOK 0 Try.func20 (by kernel_rfl) (c := Try.f20.body.getD .skip) (by kernel_rfl) Try.ntmps20 (rs := Try.f20.results.toList) rfl (by simp) (fun G => ?_)
    repeat' first
      | refine J_seq ?_ | refine J_region Try.tyOK ?_ | refine J_block ?_ | refine J_cond ?_ | refine J_ret ?_ | refine J_skip ?_ | refine J_exit ?_ | refine J_scope ?_
      | refine CondP.yes (by omega) ?_ | refine CondP.no (by omega) ?_ | refine CondP.mk (fun h => ?_) (fun h => ?_) | refine EqP.mk rfl ?_ | refine NewP.mk (fun ad => ?_) | refine ArP.exact (by simp only [inR]; omega) ?_ | refine SideP.mk (by first | omega | (dsimp only; omega) | (simp; omega)) ?_
      | refine J_drawS (id := 1) Try.tyOK (by kernel_rfl) [0, 1, 3, 7, 0, 16, 48, 112, 240, 511] [0, 1, 2, 3, 4, 5, 6, 7, 8, 9] [] [0] true (by kernel_rfl) ?_ | refine J_drawS (id := 3) Try.tyOK (by kernel_rfl) [0, 1, 3, 7, 0, 16, 48, 112, 240, 511, 1023, 0, 4095, 8191] [0, 1, 2, 3, 4, 5, 6, 7, 8, 9, 10, 11, 12, 13] [] [0, 31] true (by kernel_rfl) ?_ | refine EntP.mk (Ents.ofSub (by repeat (first | exact List.Sublist.slnil | refine List.Sublist.cons_cons _ ?_ | refine List.Sublist.cons _ ?_)) (by first | exact fun _ h => h | exact fun _ _ => trivial | exact fun _ h => h.2 | exact fun _ h => h.2.2.2.2 | exact fun _ h => h.2.2 | exact fun _ h => h.2.2.2 | exact fun _ h => h.2.2.2.2.2 | exact fun _ h => h.2.2.2.2.2.2 | exact fun _ h => h.2.2.2.2.2.2.2 | exact fun _ h => h.2.2.2.2.2.2.2.2 | exact fun _ h => h.2.2.2.2.2.2.2.2.2 | exact fun _ h => h.2.2.2.2.2.2.2.2.2.2 | exact fun _ h => ((allD_append _ _).1 h).2)) ?_ | refine ArP.exact (show inR .i64 ((shr33 (lcg s)).tmod n) by simp only [inR]; omega) ?_ | refine ArP.wrap ?_ | refine FinE.mk [_] [] ⟨?_, rfl, rfl⟩ (Ents.facts fun _ _ => trivial)
      | fail
    rfl

end Go.Proofs

namespace Go.X
open Go

theorem idxS (ws : List (List UInt8)) {k : Int} (h : 0 ≤ k) (h1 : k < ws.length) : ((ws.map C.s).drop (k.toNat * 1)).take 1 = [C.s (ws.getD k.toNat [])] := by
  have := map_take1 (f := C.s) (l := ws) (i := k.toNat) (by omega)
  rw [Nat.add_zero] at this
  rw [this]
  simp [show k.toNat < ws.length by omega]
theorem tt_get {k : Int} (h : 0 ≤ k) (h1 : k < 8) : ((ttC genTitles).drop (k.toNat * 2 + 0)).take 2 = [C.i .i64 (genTitles.getD k.toNat (0, [])).1, C.s (genTitles.getD k.toNat (0, [])).2] := by
  obtain ⟨i, rfl⟩ : ∃ i : Nat, k = i := ⟨k.toNat, by omega⟩
  have hi : i < 8 := by omega
  rw [Int.toNat_natCast]
  match i, hi with
  | 0, _ => rfl
  | 1, _ => rfl
  | 2, _ => rfl
  | 3, _ => rfl
  | 4, _ => rfl
  | 5, _ => rfl
  | 6, _ => rfl
  | 7, _ => rfl

def genT (l : List Int) (g : GS) : Int × List UInt8 := genTitles.getD (nextGV l g 8).toNat (0, [])
def genWords : List (List UInt8) := [[119, 111, 114, 100, 115], [105, 116, 101, 109], [97, 97], [98, 111, 100, 121], []]
def genRow (l : List Int) (g : GS) : WR := ⟨genWords.getD (nextGV l g 5).toNat [], (genT l (nextGS l g)).1, (genT l (nextGS l g)).2, nextGV l (nextGS l (nextGS l g)) 4⟩
def genGo (l : List Int) : Nat → GS → List WR
  | 0, _ => []
  | n + 1, g => genRow l g :: genGo l n (nextGS l (nextGS l (nextGS l g)))
/-- The rows that a list of numbers makes. -/
def genRows (l : List Int) : List WR := genGo l (nextGV l (gs0 l) 14).toNat (nextGS l (gs0 l))
theorem rowsGo_len (l : List Int) : ∀ (n : Nat) (g : GS), (genGo l n g).length = n
  | 0, _ => rfl
  | n + 1, g => by simp [genGo, rowsGo_len l n]
theorem genRows_len (l : List Int) : (genRows l).length ≤ 13 := by
  have := nextGV_range (l := l) (gs0 l) (n := 14) (by omega)
  unfold genRows
  rw [rowsGo_len]
  omega

def genPieces : List (List UInt8) := [[112, 108, 97, 105, 110, 32, 119, 111, 114, 100, 115, 32], [91, 91, 65, 93, 93, 32], [91, 91, 66, 124, 98, 101, 101, 93, 93, 32], [91, 91, 67, 97, 116, 101, 103, 111, 114, 121, 58, 88, 93, 93], [91, 91, 67, 97, 116, 101, 103, 111, 114, 121, 58, 88, 124, 107, 93, 93], [91, 91, 67, 97, 116, 101, 103, 111, 114, 121, 58, 89, 93, 93], [123, 123, 116, 124, 49, 125, 125], [123, 123, 58, 66, 125, 125, 32], [123, 123, 58, 65, 47, 67, 125, 125], [123, 123, 35, 105, 102, 101, 120, 105, 115, 116, 58, 66, 124, 121, 101, 115, 124, 110, 111, 125, 125, 32], [123, 123, 35, 105, 102, 101, 120, 105, 115, 116, 58, 68, 124, 121, 101, 115, 124, 110, 111, 125, 125], [123, 123, 35, 109, 101, 109, 98, 101, 114, 115, 58, 88, 125, 125, 32], [123, 123, 35, 100, 97, 116, 101, 58, 89, 45, 109, 45, 100, 125, 125, 32], [123, 123, 35, 100, 97, 116, 101, 58, 72, 58, 105, 125, 125, 32], [123, 123, 35, 114, 105, 103, 104, 116, 58, 101, 100, 105, 116, 124, 65, 124, 101, 124, 110, 125, 125, 32], [123, 123, 35, 114, 101, 118, 105, 115, 105, 111, 110, 58, 65, 125, 125, 32], [10, 61, 61, 32, 83, 32, 61, 61, 10, 98, 111, 100, 121, 10], [10, 61, 61, 32, 82, 32, 61, 61, 10, 114, 101, 115, 116, 10], [60, 110, 111, 105, 110, 99, 108, 117, 100, 101, 62, 123, 123, 116, 125, 125, 60, 47, 110, 111, 105, 110, 99, 108, 117, 100, 101, 62], [60, 105, 110, 99, 108, 117, 100, 101, 111, 110, 108, 121, 62, 91, 91, 68, 93, 93, 60, 47, 105, 110, 99, 108, 117, 100, 101, 111, 110, 108, 121, 62], [123, 123, 123, 49, 124, 100, 125, 125, 125, 32], [10, 42, 32, 105, 116, 101, 109, 10], [115, 101, 99, 114, 101, 116, 32], [91, 91, 84, 101, 109, 112, 108, 97, 116, 101, 58, 84, 93, 93], [123, 123, 58, 67, 97, 116, 101, 103, 111, 114, 121, 58, 89, 125, 125], [119, 111, 114, 100, 115, 32, 91, 91, 68, 93, 93, 32, 119, 111, 114, 100, 115], [39, 39, 120, 39, 39, 32], [123, 123, 35, 109, 101, 109, 98, 101, 114, 115, 58, 89, 125, 125]]

end Go.X

namespace Go.Proofs
open Go Go.X
set_option maxRecDepth 100000
set_option maxHeartbeats 4000000

theorem titles_ok : FnS Try.prog 11 [] [] [] (fun v L D => ∃ a c, v = .c (.sl a 8 c) ∧ L = [.row 33 2 a 8 c (ttC genTitles)] ∧ D = []) := by
  refine fn_of_J Try.tyOK 0 Try.func11 (by kernel_rfl) (c := Try.f11.body.getD .skip) (by kernel_rfl) Try.ntmps11 (rs := Try.f11.results.toList) rfl (by simp) (fun G => ?_)
  repeat' first
    | refine J_seq ?_ | refine J_region Try.tyOK ?_ | refine J_block ?_ | refine J_cond ?_ | refine J_ret ?_ | refine J_skip ?_ | refine J_exit ?_ | refine J_scope ?_
    | refine CondP.yes (by omega) ?_ | refine CondP.no (by omega) ?_ | refine CondP.mk (fun h => ?_) (fun h => ?_) | refine EqP.mk rfl ?_ | refine NewP.mk (fun ad => ?_) | refine ArP.exact (by simp only [inR]; omega) ?_ | refine SideP.mk (by first | omega | (dsimp only; omega) | (simp; omega)) ?_
    | exact FinE.mk [_] [] ⟨_, _, rfl, rfl, rfl⟩ (Ents.refl _ _)
    | fail

theorem genTitle_ok (e : Nat) (a : Option Addr) (c ad : Nat) (l : List Int) (g : GS) (hg : g.ok l) (hl : l.length ≤ maxLen) : FnS Try.prog 29 [.c (.p 1000 ad 0)] [srcC ad a l.length c g] [intsF e a l]
    (fun v L D => v = .agg [.i .i64 (genT l g).1, .s (genT l g).2] ∧ L = [srcC ad a l.length c (nextGS l g)] ∧ D = []) := by
  have c1 := next_ok e a c ad l g 8 (by omega) (by omega) hg hl
  have hr := nextGV_range (l := l) g (n := 8) (by omega)
  have hgt := tt_get hr.1 hr.2
  unfold genT
  generalize nextGV l g 8 = k at *
  refine fn_of_J Try.tyOK 2000 Try.func29 (by kernel_rfl) (c := Try.f29.body.getD .skip) (by kernel_rfl) Try.ntmps29 (rs := Try.f29.results.toList) rfl (by simp) (fun G => ?_)
  repeat' first
    | refine J_seq ?_ | refine J_region Try.tyOK ?_ | refine J_block ?_ | refine J_cond ?_ | refine J_ret ?_ | refine J_skip ?_ | refine J_exit ?_ | refine J_scope ?_
    | refine CondP.yes (by omega) ?_ | refine CondP.no (by omega) ?_ | refine CondP.mk (fun h => ?_) (fun h => ?_) | refine EqP.mk rfl ?_ | refine NewP.mk (fun ad => ?_) | refine ArP.exact (by simp only [inR]; omega) ?_ | refine SideP.mk (by first | omega | (dsimp only; omega) | (simp; omega)) ?_
    | refine CallP.mk [] [_, _] [] _ titles_ok (List.Perm.refl _) (fun _ _ => trivial) (fun v L' D' hp => ?_); obtain ⟨b, d, rfl, rfl, rfl⟩ := hp | refine CallP.mk [_] [_, _] [_] _ c1 (List.perm_append_comm (l₁ := [_, _]) (l₂ := [_])) (fun _ h => h) (fun v L' D' hp => ?_); obtain ⟨rfl, rfl, rfl⟩ := hp | refine IdxE.mk 33 2 _ (.inl ⟨d, List.Mem.tail _ (List.Mem.head _)⟩) (by omega) (by omega) ?_ | refine LoadE.mk 33 _ _ _ (.inl ⟨d, List.Mem.tail _ (List.Mem.head _)⟩) (by omega) (by omega) (by omega) hgt ?_ | refine FinE.mk [_] [] ⟨rfl, rfl, rfl⟩ (Ents.ofSub (by repeat (first | exact List.Sublist.slnil | refine List.Sublist.cons_cons _ ?_ | refine List.Sublist.cons _ ?_)) (by first | exact fun _ h => h | exact fun _ _ => trivial | exact fun _ h => h.2 | exact fun _ h => h.2.2.2.2 | exact fun _ h => h.2.2 | exact fun _ h => h.2.2.2 | exact fun _ h => h.2.2.2.2.2 | exact fun _ h => h.2.2.2.2.2.2 | exact fun _ h => h.2.2.2.2.2.2.2 | exact fun _ h => h.2.2.2.2.2.2.2.2 | exact fun _ h => h.2.2.2.2.2.2.2.2.2 | exact fun _ h => h.2.2.2.2.2.2.2.2.2.2 | exact fun _ h => ((allD_append _ _).1 h).2))
    | fail

theorem genRows_ok (e : Nat) (a : Option Addr) (c : Nat) (l : List Int) (hl : l.length ≤ maxLen) : FnS Try.prog 16 [.c (.sl a l.length c)] [] [intsF e a l]
    (fun v L D => ∃ b d, v = .c (.sl b (genRows l).length d) ∧ L = [.row 39 4 b (genRows l).length d (wrC (genRows l))] ∧ D = []) := by
  have hnr := nextGV_range (l := l) (gs0 l) (n := 14) (by omega)
  have hgl := genRows_len l
  generalize hW : genRows l = W at *
  have c1 := from_ok e a c l hl
  have c2 := fun ad g n hn hn1 hg => next_ok e a c ad l g n hn hn1 hg hl
  have c3 := fun ad g hg => genTitle_ok e a c ad l g hg hl
  have hW' : W = genGo l (nextGV l (gs0 l) 14).toNat (nextGS l (gs0 l)) := hW.symm
  have hg0 := gs0_ok l
  have hg1 := nextGS_ok hg0
  have hn0 := fun ad => c2 ad (gs0 l) 14 (by omega) (by omega) hg0
  generalize nextGV l (gs0 l) 14 = n0 at *
  generalize nextGS l (gs0 l) = g1 at *
  obtain ⟨n1, rfl⟩ : ∃ n1 : Nat, n0 = n1 := ⟨n0.toNat, by omega⟩
  rw [Int.toNat_natCast] at hW'
  refine fn_of_J Try.tyOK 3000 Try.func16 (by kernel_rfl) (c := Try.f16.body.getD .skip) (by kernel_rfl) Try.ntmps16 (rs := Try.f16.results.toList) rfl (by simp) (fun G => ?_)
  repeat' first
    | refine J_seq ?_ | refine J_region Try.tyOK ?_ | refine J_block ?_ | refine J_cond ?_ | refine J_ret ?_ | refine J_skip ?_ | refine J_exit ?_ | refine J_scope ?_
    | refine CondP.yes (by omega) ?_ | refine CondP.no (by omega) ?_ | refine CondP.mk (fun h => ?_) (fun h => ?_) | refine EqP.mk rfl ?_ | refine NewP.mk (fun ad => ?_) | refine ArP.exact (by simp only [inR]; omega) ?_ | refine SideP.mk (by first | omega | (dsimp only; omega) | (simp; omega)) ?_
    | refine CallP.mk [] [] [_] _ c1 (List.Perm.refl _) (fun _ h => h) (fun v L' D' hp => ?_); obtain ⟨ad, rfl, rfl, rfl⟩ := hp | refine CallP.mk [_] [] [_] _ (hn0 _) (List.Perm.refl _) (fun _ h => h) (fun v L' D' hp => ?_); obtain ⟨rfl, rfl, rfl⟩ := hp
    | fail
  refine J_loop (α := Nat × GS × List WR × Option Addr × Nat) (fun x => [(3, .c (.p 1000 ad 0)), (4, .c (.sl x.2.2.2.1 x.2.2.1.length x.2.2.2.2)), (5, .c (.i .i64 x.1))]) (fun x => [.row 39 4 x.2.2.2.1 x.2.2.1.length x.2.2.2.2 (wrC x.2.2.1), srcC ad a l.length c x.2.1]) (fun _ => [intsF e a l]) 3001
    (fun x => x.2.1.ok l ∧ x.1 ≤ 13 ∧ W = x.2.2.1 ++ genGo l x.1 x.2.1) (fun x => x.1) (InFam.mk (n1, g1, [], none, 0) ⟨hg1, by dsimp only; omega, hW'⟩ (by repeat' first | exact SubE.nil | refine SubE.cons rfl ?_ ?_ | exact VEq.refl _ | refine VEq.int (by omega) | refine VEq.sl rfl (by first | rfl | omega | (rw [List.length_append]; rfl) | (simp; omega)) rfl) (Ents.nilRow (ety := 39) (esz := 4))) (fun x hx => ?_)
  obtain ⟨n, g, out, b, d⟩ := x
  dsimp only at hx ⊢
  obtain ⟨hg, hn, he⟩ := hx
  cases n with
  | zero =>
    have he : W = out ++ [] := he
    rw [List.append_nil] at he
    subst he
    repeat' first
      | refine J_seq ?_ | refine J_region Try.tyOK ?_ | refine J_block ?_ | refine J_cond ?_ | refine J_ret ?_ | refine J_skip ?_ | refine J_exit ?_ | refine J_scope ?_
      | refine CondP.yes (by omega) ?_ | refine CondP.no (by omega) ?_ | refine CondP.mk (fun h => ?_) (fun h => ?_) | refine EqP.mk rfl ?_ | refine NewP.mk (fun ad => ?_) | refine ArP.exact (by simp only [inR]; omega) ?_ | refine SideP.mk (by first | omega | (dsimp only; omega) | (simp; omega)) ?_
      | refine FinE.mk [_] [] ⟨_, _, rfl, rfl, rfl⟩ (Ents.ofSub (by repeat (first | exact List.Sublist.slnil | refine List.Sublist.cons_cons _ ?_ | refine List.Sublist.cons _ ?_)) (by first | exact fun _ h => h | exact fun _ _ => trivial | exact fun _ h => h.2 | exact fun _ h => h.2.2.2.2 | exact fun _ h => h.2.2 | exact fun _ h => h.2.2.2 | exact fun _ h => h.2.2.2.2.2 | exact fun _ h => h.2.2.2.2.2.2 | exact fun _ h => h.2.2.2.2.2.2.2 | exact fun _ h => h.2.2.2.2.2.2.2.2 | exact fun _ h => h.2.2.2.2.2.2.2.2.2 | exact fun _ h => h.2.2.2.2.2.2.2.2.2.2 | exact fun _ h => ((allD_append _ _).1 h).2))
      | fail
  | succ n =>
    have hga := nextGS_ok hg
    have hgb := nextGS_ok hga
    have hgc := nextGS_ok hgb
    have k1 := fun ad => c2 ad g 5 (by omega) (by omega) hg
    have k2 := fun ad => c3 ad (nextGS l g) hga
    have k3 := fun ad => c2 ad (nextGS l (nextGS l g)) 4 (by omega) (by omega) hgb
    have r1 := nextGV_range (l := l) g (n := 5) (by omega)
    have r3 := nextGV_range (l := l) (nextGS l (nextGS l g)) (n := 4) (by omega)
    have he : W = out ++ genRow l g :: genGo l n (nextGS l (nextGS l (nextGS l g))) := he
    have hol : out.length ≤ 13 := by rw [he] at hgl; simp at hgl; omega
    have hra : (genRow l g).cells = [.s (genWords.getD (nextGV l g 5).toNat []), .i .i64 (genT l (nextGS l g)).1, .s (genT l (nextGS l g)).2, .i .i64 (nextGV l (nextGS l (nextGS l g)) 4)] := rfl
    generalize genRow l g = R at *
    generalize genT l (nextGS l g) = T at *
    have hix := idxS genWords r1.1 r1.2
    generalize nextGV l g 5 = v1 at *
    generalize nextGV l (nextGS l (nextGS l g)) 4 = v3 at *
    generalize nextGS l (nextGS l (nextGS l g)) = g3 at *
    generalize nextGS l (nextGS l g) = g2 at *
    generalize nextGS l g = g4 at *
    repeat' first
      | refine J_seq ?_ | refine J_region Try.tyOK ?_ | refine J_block ?_ | refine J_cond ?_ | refine J_ret ?_ | refine J_skip ?_ | refine J_exit ?_ | refine J_scope ?_
      | refine CondP.yes (by omega) ?_ | refine CondP.no (by omega) ?_ | refine CondP.mk (fun h => ?_) (fun h => ?_) | refine EqP.mk rfl ?_ | refine NewP.mk (fun ad => ?_) | refine ArP.exact (by simp only [inR]; omega) ?_ | refine SideP.mk (by first | omega | (dsimp only; omega) | (simp; omega)) ?_
      | refine J_drawS (id := 6) Try.tyOK (by kernel_rfl) [0, 0, 0, 4, 14, 0, 44, 0, 236, 510, 1022, 2047, 4095] [0, 1, 2, 5, 7, 3, 4, 6, 8, 9, 10, 11, 12] [3, 6, 8, 10, 11] [] false (by kernel_rfl) ?_ | refine EntP.mk (Ents.ofSub (by repeat (first | exact List.Sublist.slnil | refine List.Sublist.cons_cons _ ?_ | refine List.Sublist.cons _ ?_)) (by first | exact fun _ h => h | exact fun _ _ => trivial | exact fun _ h => h.2 | exact fun _ h => h.2.2.2.2 | exact fun _ h => h.2.2 | exact fun _ h => h.2.2.2 | exact fun _ h => h.2.2.2.2.2 | exact fun _ h => h.2.2.2.2.2.2 | exact fun _ h => h.2.2.2.2.2.2.2 | exact fun _ h => h.2.2.2.2.2.2.2.2 | exact fun _ h => h.2.2.2.2.2.2.2.2.2 | exact fun _ h => h.2.2.2.2.2.2.2.2.2.2 | exact fun _ h => ((allD_append _ _).1 h).2)) ?_ | refine CallP.mk [_] [_] [_] _ (k1 _) (List.Perm.swap _ _ _) (fun _ h => h) (fun v L' D' hp => ?_); obtain ⟨rfl, rfl, rfl⟩ := hp | refine IdxA.mk [C.s (genWords.getD v1.toNat [])] (by omega) (by omega) hix rfl ?_ | refine CallP.mk [_] [_] [_] _ (k2 _) (List.Perm.refl _) (fun _ h => h) (fun v L' D' hp => ?_); obtain ⟨rfl, rfl, rfl⟩ := hp | refine CallP.mk [_] [_] [_] _ (k3 _) (List.Perm.refl _) (fun _ h => h) (fun v L' D' hp => ?_); obtain ⟨rfl, rfl, rfl⟩ := hp | refine AppE.row [_, _] [] (wrC out) R.cells 1 rfl (SrcE.sl 39 39 _ _ 1 1 _ rfl rfl (.inl ⟨1, by rw [hra]; exact List.Mem.head _⟩) (by rw [hra]; rfl)) (by dsimp only; omega) (fun a' c' => ?_) | refine Round.mk (n, g3, out ++ [R], a', c') (by dsimp only; omega) ⟨hgc, by dsimp only; omega, (by dsimp only; rw [he, List.append_assoc]; rfl)⟩ (by repeat' first | exact SubE.nil | refine SubE.cons rfl ?_ ?_ | exact VEq.refl _ | refine VEq.int (by omega) | refine VEq.sl rfl (by first | rfl | omega | (rw [List.length_append]; rfl) | (simp; omega)) rfl) (Ents.drop.trans ((Ents.perm (List.Perm.swap _ _ _)).trans (Ents.of ?_)))
      | fail
    dsimp only
    rw [List.length_append, show wrC (out ++ [R]) = wrC out ++ R.cells by simp [wrC]]
    rfl

theorem piece_ok (e : Nat) (a : Option Addr) (c ad : Nat) (l : List Int) (g : GS) (hg : g.ok l) (hl : l.length ≤ maxLen) : FnS Try.prog 21 [.c (.p 1000 ad 0)] [srcC ad a l.length c g] [intsF e a l]
    (fun v L D => v = .c (.s (genPieces.getD (nextGV l g 28).toNat [])) ∧ L = [srcC ad a l.length c (nextGS l g)] ∧ D = []) := by
  have c1 := next_ok e a c ad l g 28 (by omega) (by omega) hg hl
  have hr := nextGV_range (l := l) g (n := 28) (by omega)
  have hix := idxS genPieces hr.1 hr.2
  generalize nextGV l g 28 = k at *
  refine fn_of_J Try.tyOK 4000 Try.func21 (by kernel_rfl) (c := Try.f21.body.getD .skip) (by kernel_rfl) Try.ntmps21 (rs := Try.f21.results.toList) rfl (by simp) (fun G => ?_)
  repeat' first
    | refine J_seq ?_ | refine J_region Try.tyOK ?_ | refine J_block ?_ | refine J_cond ?_ | refine J_ret ?_ | refine J_skip ?_ | refine J_exit ?_ | refine J_scope ?_
    | refine CondP.yes (by omega) ?_ | refine CondP.no (by omega) ?_ | refine CondP.mk (fun h => ?_) (fun h => ?_) | refine EqP.mk rfl ?_ | refine NewP.mk (fun ad => ?_) | refine ArP.exact (by simp only [inR]; omega) ?_ | refine SideP.mk (by first | omega | (dsimp only; omega) | (simp; omega)) ?_
    | refine CallP.mk [_] [] [_] _ c1 (List.Perm.refl _) (fun _ h => h) (fun v L' D' hp => ?_); obtain ⟨rfl, rfl, rfl⟩ := hp | refine IdxA.mk [C.s (genPieces.getD k.toNat [])] (by omega) (by omega) hix rfl ?_ | refine FinE.mk [_] [] ⟨rfl, rfl, rfl⟩ (Ents.facts fun _ _ => trivial)
    | fail

theorem genPieces_len : ∀ i : Nat, i < 28 → (genPieces.getD i []).length ≤ 40 := by decide
theorem genText_ok (e : Nat) (a : Option Addr) (c ad : Nat) (l : List Int) (g : GS) (hg : g.ok l) (hl : l.length ≤ maxLen) : FnS Try.prog 6 [.c (.p 1000 ad 0)] [srcC ad a l.length c g] [intsF e a l]
    (fun v L D => ∃ s g', v = .c (.s s) ∧ s.length ≤ 1000 ∧ g'.ok l ∧ L = [srcC ad a l.length c g'] ∧ D = []) := by
  have c2 := fun g n hn hn1 hg => next_ok e a c ad l g n hn hn1 hg hl
  have k1 := c2 g 12 (by omega) (by omega) hg
  have r1 := nextGV_range (l := l) g (n := 12) (by omega)
  have hg1 := nextGS_ok hg
  generalize nextGV l g 12 = v1 at *
  generalize nextGS l g = g1 at *
  have k2 := c2 g1 3 (by omega) (by omega) hg1
  have r2 := nextGV_range (l := l) g1 (n := 3) (by omega)
  have hix := idxS [[66], [65], [84, 101, 109, 112, 108, 97, 116, 101, 58, 84]] r2.1 r2.2
  have hlen : ([[66], [65], [84, 101, 109, 112, 108, 97, 116, 101, 58, 84]].getD (nextGV l g1 3).toNat ([] : List UInt8)).length ≤ 10 := by
    obtain ⟨k, hk⟩ : ∃ k : Nat, nextGV l g1 3 = k := ⟨(nextGV l g1 3).toNat, by omega⟩
    rw [hk, Int.toNat_natCast]
    have : k < 3 := by omega
    match k, this with
    | 0, _ => decide
    | 1, _ => decide
    | 2, _ => decide
  have hg2 := nextGS_ok hg1
  generalize nextGV l g1 3 = v2 at *
  generalize nextGS l g1 = g2 at *
  generalize [[66], [65], [84, 101, 109, 112, 108, 97, 116, 101, 58, 84]].getD v2.toNat ([] : List UInt8) = u at *
  have hcat : ([35, 82, 69, 68, 73, 82, 69, 67, 84, 32, 91, 91] ++ u ++ [93, 93, 32] : List UInt8).length ≤ 30 := by simp; omega
  refine fn_of_J Try.tyOK 4000 Try.func6 (by kernel_rfl) (c := Try.f6.body.getD .skip) (by kernel_rfl) Try.ntmps6 (rs := Try.f6.results.toList) rfl (by simp) (fun G => ?_)
  repeat' first
    | refine J_cut (x := .seq (.region 2 _ _) _) (α := List UInt8 × GS) (fun z => [(0, .c (.p 1000 ad 0)), (3, .c (.s z.1))]) (fun z => [srcC ad a l.length c z.2]) (fun _ => [intsF e a l]) 4000 (fun z => z.1.length ≤ 30 ∧ z.2.ok l) ?_ (fun z hz => ?_)
    | refine J_seq ?_ | refine J_region Try.tyOK ?_ | refine J_block ?_ | refine J_cond ?_ | refine J_ret ?_ | refine J_skip ?_ | refine J_exit ?_ | refine J_scope ?_
    | refine CondP.yes (by omega) ?_ | refine CondP.no (by omega) ?_ | refine CondP.mk (fun h => ?_) (fun h => ?_) | refine EqP.mk rfl ?_ | refine NewP.mk (fun ad => ?_) | refine ArP.exact (by simp only [inR]; omega) ?_ | refine SideP.mk (by first | omega | (dsimp only; omega) | (simp; omega)) ?_
    | refine CallP.mk [_] [] [_] _ k1 (List.Perm.refl _) (fun _ h => h) (fun v L' D' hp => ?_); obtain ⟨rfl, rfl, rfl⟩ := hp | refine CallP.mk [_] [] [_] _ k2 (List.Perm.refl _) (fun _ h => h) (fun v L' D' hp => ?_); obtain ⟨rfl, rfl, rfl⟩ := hp | refine IdxA.mk [C.s u] (by omega) (by omega) hix rfl ?_ | refine InFam.mk (([35, 82, 69, 68, 73, 82, 69, 67, 84, 32, 91, 91] ++ u ++ [93, 93, 32] : List UInt8), g2) ⟨hcat, hg2⟩ (by repeat' first | exact SubE.nil | refine SubE.cons rfl ?_ ?_ | exact VEq.refl _ | refine VEq.int (by omega) | refine VEq.sl rfl (by first | rfl | omega | (rw [List.length_append]; rfl) | (simp; omega)) rfl) (Ents.refl _ _) | refine InFam.mk ([], g1) ⟨Nat.zero_le _, hg1⟩ (by repeat' first | exact SubE.nil | refine SubE.cons rfl ?_ ?_ | exact VEq.refl _ | refine VEq.int (by omega) | refine VEq.sl rfl (by first | rfl | omega | (rw [List.length_append]; rfl) | (simp; omega)) rfl) (Ents.refl _ _)
    | fail
  clear k1 k2 hix hlen hg1 hg2 r1 r2
  obtain ⟨s0, g0⟩ := z
  dsimp only at hz ⊢
  obtain ⟨hs0, hg0⟩ := hz
  have k3 := c2 g0 5 (by omega) (by omega) hg0
  have r3 := nextGV_range (l := l) g0 (n := 5) (by omega)
  have hg3 := nextGS_ok hg0
  generalize nextGV l g0 5 = v3 at *
  generalize nextGS l g0 = g3 at *
  obtain ⟨n1, rfl⟩ : ∃ n1 : Nat, v3 = n1 := ⟨v3.toNat, by omega⟩
  repeat' first
    | refine J_seq ?_ | refine J_region Try.tyOK ?_ | refine J_block ?_ | refine J_cond ?_ | refine J_ret ?_ | refine J_skip ?_ | refine J_exit ?_ | refine J_scope ?_
    | refine CondP.yes (by omega) ?_ | refine CondP.no (by omega) ?_ | refine CondP.mk (fun h => ?_) (fun h => ?_) | refine EqP.mk rfl ?_ | refine NewP.mk (fun ad => ?_) | refine ArP.exact (by simp only [inR]; omega) ?_ | refine SideP.mk (by first | omega | (dsimp only; omega) | (simp; omega)) ?_
    | refine CallP.mk [_] [] [_] _ k3 (List.Perm.refl _) (fun _ h => h) (fun v L' D' hp => ?_); obtain ⟨rfl, rfl, rfl⟩ := hp
    | fail
  refine J_loop (α := Nat × List UInt8 × GS) (fun x => [(0, .c (.p 1000 ad 0)), (3, .c (.s x.2.1)), (4, .c (.i .i64 x.1))]) (fun x => [srcC ad a l.length c x.2.2]) (fun _ => [intsF e a l]) 4000 (fun x => x.1 ≤ 4 ∧ x.2.1.length ≤ 30 + (4 - x.1) * 40 ∧ x.2.2.ok l) (fun x => x.1) (InFam.mk (n1, s0, g3) ⟨by dsimp only; omega, by dsimp only; omega, hg3⟩ (by repeat' first | exact SubE.nil | refine SubE.cons rfl ?_ ?_ | exact VEq.refl _ | refine VEq.int (by omega) | refine VEq.sl rfl (by first | rfl | omega | (rw [List.length_append]; rfl) | (simp; omega)) rfl) (Ents.refl _ _)) (fun x hx => ?_)
  obtain ⟨n, s, g⟩ := x
  dsimp only at hx ⊢
  obtain ⟨hn, hsl, hg⟩ := hx
  cases n with
  | zero =>
    repeat' first
      | refine J_seq ?_ | refine J_region Try.tyOK ?_ | refine J_block ?_ | refine J_cond ?_ | refine J_ret ?_ | refine J_skip ?_ | refine J_exit ?_ | refine J_scope ?_
      | refine CondP.yes (by omega) ?_ | refine CondP.no (by omega) ?_ | refine CondP.mk (fun h => ?_) (fun h => ?_) | refine EqP.mk rfl ?_ | refine NewP.mk (fun ad => ?_) | refine ArP.exact (by simp only [inR]; omega) ?_ | refine SideP.mk (by first | omega | (dsimp only; omega) | (simp; omega)) ?_
      | refine FinE.mk [_] [] ⟨_, _, rfl, by omega, hg, rfl, rfl⟩ (Ents.facts fun _ _ => trivial)
      | fail
  | succ n =>
    have kp := piece_ok e a c ad l g hg hl
    have rp := nextGV_range (l := l) g (n := 28) (by omega)
    have hp40 := genPieces_len (nextGV l g 28).toNat (by omega)
    have hgn := nextGS_ok hg
    generalize genPieces.getD (nextGV l g 28).toNat [] = p at *
    generalize nextGS l g = gn at *
    repeat' first
      | refine J_seq ?_ | refine J_region Try.tyOK ?_ | refine J_block ?_ | refine J_cond ?_ | refine J_ret ?_ | refine J_skip ?_ | refine J_exit ?_ | refine J_scope ?_
      | refine CondP.yes (by omega) ?_ | refine CondP.no (by omega) ?_ | refine CondP.mk (fun h => ?_) (fun h => ?_) | refine EqP.mk rfl ?_ | refine NewP.mk (fun ad => ?_) | refine ArP.exact (by simp only [inR]; omega) ?_ | refine SideP.mk (by first | omega | (dsimp only; omega) | (simp; omega)) ?_
      | refine CallP.mk [_] [] [_] _ kp (List.Perm.refl _) (fun _ h => h) (fun v L' D' hp => ?_); obtain ⟨rfl, rfl, rfl⟩ := hp | refine Round.mk (n, s ++ p, gn) (by dsimp only; omega) ⟨by dsimp only; omega, by simp; omega, hgn⟩ (by repeat' first | exact SubE.nil | refine SubE.cons rfl ?_ ?_ | exact VEq.refl _ | refine VEq.int (by omega) | refine VEq.sl rfl (by first | rfl | omega | (rw [List.length_append]; rfl) | (simp; omega)) rfl) (Ents.refl _ _)
      | fail

end Go.Proofs
