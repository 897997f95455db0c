/- This text walks through Contents of the reference of chapter 19. · This text walks through Contents of the package outline. · This text says what the marks of a document are, and walks through the functions that collect them, in the package outline and in the reference of chapter 19. · This text walks through InMarks and Marks of the reference of chapter 19. · This text says what the notes of a document are, with no program in sight, and how memory holds them. -/
import Derived.Test.YtdnkeinjfddmnaaGreatDoorW09
set_option linter.all false
namespace Go.Proofs
open Go Go.X Go.Lib
set_option maxRecDepth 100000
abbrev entF (a : Option Addr) (es : List EntT) : Fact := slFact 42 4 a es.length (entC es)
def EntsP (es : List EntT) : V → List Chunk → List Fact → Prop := fun v L D => ∃ (a : Option Addr) (c : Nat), v = .c (.sl a es.length c) ∧ L = [] ∧ D = [entF a es]
end Go.Proofs
namespace Go.Proofs
open Go Go.X Go.Lib
set_option maxRecDepth 100000
def KvU (kv : Kv) (es : List EntT) : Prop := ∀ t, kvGet kv t = if t ∈ ancs es then some tt else none
def KvK (kk : List (Int × V)) (es : List EntT) : Prop := ∀ p : Option Nat, gGet kk (parI p) = if cntP (lvls es) p es.length = 0 then none else some (.c (.i .i64 (cntP (lvls es) p es.length)))
theorem gGet_put1 {α : Type} [DecidableEq α] (kv : List (α × V)) (k : α) (v : V) (q : α) : gGet (gPut kv k v) q = if q = k then some v else gGet kv q := by
  induction kv with
  | nil =>
    simp only [gPut, gGet]
    by_cases h : q = k
    · rw [if_pos h, if_pos h.symm]
    · rw [if_neg h, if_neg fun e => h e.symm]
  | cons x r ih =>
    simp only [gPut]
    by_cases hx : x.1 = k
    · rw [if_pos hx]
      simp only [gGet]
      by_cases h : q = k
      · rw [if_pos h, if_pos (by rw [hx, h])]
      · rw [if_neg h, if_neg (by rw [hx]; exact fun e => h e.symm), if_neg (by rw [hx]; exact fun e => h e.symm)]
    · rw [if_neg hx]
      simp only [gGet, ih]
      by_cases h : x.1 = q
      · rw [if_pos h, if_neg (fun e => hx (h.trans e)), if_pos h]
      · rw [if_neg h, if_neg h]
theorem kvGet_put1 (kv : Kv) (k : List UInt8) (v : V) (q : List UInt8) : kvGet (kvPut kv k v) q = if q = k then some v else kvGet kv q := by
  induction kv with
  | nil =>
    simp only [kvPut, kvGet]
    by_cases h : q = k
    · rw [if_pos h, if_pos h.symm]
    · rw [if_neg h, if_neg fun e => h e.symm]
  | cons x r ih =>
    simp only [kvPut]
    by_cases hx : x.1 = k
    · rw [if_pos hx]
      simp only [kvGet]
      by_cases h : q = k
      · rw [if_pos h, if_pos (by rw [hx, h])]
      · rw [if_neg h, if_neg (by rw [hx]; exact fun e => h e.symm), if_neg (by rw [hx]; exact fun e => h e.symm)]
    · rw [if_neg hx]
      simp only [kvGet, ih]
      by_cases h : x.1 = q
      · rw [if_pos h, if_neg (fun e => hx (h.trans e)), if_pos h]
      · rw [if_neg h, if_neg h]
theorem kvU_add {kv : Kv} {es : List EntT} {e : EntT} (h : KvU kv es) : KvU (kvPut kv e.anchor tt) (es ++ [e]) := fun t => by
  rw [kvGet_put1, ancs, List.map_append]
  by_cases ht : t = e.anchor
  · rw [if_pos ht, if_pos (by simp [ht])]
  · rw [if_neg ht, h t]
    simp [ancs, ht]
theorem kvK_add {kk : List (Int × V)} {es : List EntT} {e : EntT} {P : Option Nat} (hP : findP (lvls es) e.level es.length = P) (h : KvK kk es) : KvK (gPut kk (parI P) (.c (.i .i64 ((cntP (lvls es) P es.length : Int) + 1)))) (es ++ [e]) := fun p => by
  have hl : (lvls es).length = es.length := by simp
  have hc := cntP_new (lvls es) e.level p
  rw [hl, hP] at hc
  have hlv : lvls (es ++ [e]) = lvls es ++ [e.level] := by simp [lvls]
  rw [gGet_put1, hlv, List.length_append]
  show _ = if cntP (lvls es ++ [e.level]) p (es.length + 1) = 0 then _ else some (V.c (C.i .i64 (cntP (lvls es ++ [e.level]) p (es.length + 1))))
  rw [hc]
  by_cases hp : p = P
  · subst hp
    rw [if_pos rfl, if_pos rfl, if_neg (by omega)]
    congr 3
  · have hz : (if P = p then 1 else 0) = 0 := if_neg fun e => hp e.symm
    rw [hz, Nat.add_zero, if_neg fun e => hp (parI_inj e)]
    exact h p
theorem ents_ct {a : Option Addr} {c : Nat} {es : List EntT} {x y : EntT} {b K U : Chunk} {D : List Fact} : Ents [.row 42 4 a (es ++ [x]).length c (entC (es ++ [y])), b, K, U] D [K, U, .row 42 4 a (es ++ [y]).length c (entC (es ++ [y]))] D := by
  rw [show (es ++ [x]).length = (es ++ [y]).length by simp]
  exact Ents.sub ⟨[b], (List.Perm.swap _ _ _).trans (List.Perm.cons b (List.perm_append_comm (l₁ := [_]) (l₂ := [K, U])))⟩
set_option maxHeartbeats 4000000 in
theorem contents_ok (bs : List Blk) (hb : blkBulk bs ≤ 5000000) (ba : Option Addr) (bc : Nat) : FnS Tryz.prog 22 [.c (.sl ba bs.length bc)] [] [blkF ba bs, tabF] (EntsP (contT bs)) := by
  have hel := Nat.le_trans (blkNodes_len bs) (blkNodes_bulk bs)
  refine fn_of_J Tryz.tyOK 0 Tryz.func22 (by kernel_rfl) (c := Tryz.f22.body.getD .skip) (by kernel_rfl) Tryz.ntmps22 (rs := Tryz.f22.results.toList) rfl (by simp) (fun G => ?_)
  repeat' first
    | refine J_seq ?_ | refine J_region Tryz.tyOK ?_ | refine J_block ?_ | refine J_cond ?_ | refine J_ret ?_ | refine J_skip ?_ | refine J_exit ?_ | refine J_scope ?_
    | refine CondP.yes (by omega) ?_ | refine CondP.no (by omega) ?_ | refine CondP.mk (fun h => ?_) (fun h => ?_) | refine EqP.mk rfl ?_ | refine NewP.mk (fun ad => ?_) | refine ArP.exact (by simp only [inR]; omega) ?_ | refine SideP.mk (by first | omega | (dsimp only; omega) | (simp; omega)) ?_
    | fail
  rename_i adU
  obtain ⟨adK, hadK⟩ : ∃ y, y = ad := ⟨_, rfl⟩
  subst hadK
  refine J_loop (α := Nat × List EntT × Kv × List (Int × V) × Option Addr × Nat) (fun x => [(3, .c (.sl x.2.2.2.2.1 x.2.1.length x.2.2.2.2.2)), (4, .c (.m 0 adU)), (5, .c (.m 1 adK)), (15, .c (.sl ba bs.length bc)), (16, lenV bs.length), (17, .c (.i .i64 x.1))])
    (fun x => [.obj 1 adK (gO (intV .i64) x.2.2.2.1), .obj 0 adU (mapO x.2.2.1), .row 42 4 x.2.2.2.2.1 x.2.1.length x.2.2.2.2.2 (entC x.2.1)]) (fun _ => [blkF ba bs, tabF]) 2 (fun x => x.1 ≤ bs.length ∧ x.2.1 = contT (bs.take x.1) ∧ KvU x.2.2.1 x.2.1 ∧ KvK x.2.2.2.1 x.2.1) (fun x => bs.length - x.1)
    (InFam.mk (0, [], [], [], none, 0) ⟨Nat.zero_le _, rfl, fun _ => rfl, fun _ => rfl⟩ (by repeat' first | exact SubE.nil | refine SubE.cons rfl ?_ ?_ | exact VEq.refl _ | refine VEq.int (by omega) | refine VEq.sl rfl (by first | rfl | omega | (rw [List.length_append]; rfl) | (simp; omega)) rfl) ((Ents.nilRow (ety := 42) (esz := 4)).trans (Ents.perm (List.perm_append_comm (l₁ := [_]) (l₂ := [_, _]))))) (fun x hx => ?_)
  obtain ⟨i, es, kv, kk, a, c⟩ := x
  obtain ⟨hi, he, hkv, hkk⟩ := hx
  dsimp only at hi he hkv hkk ⊢
  by_cases hlt : i < bs.length
  · have hbs := blkBulk_succ hlt
    have hbt := blkBulk_take_le bs (i + 1)
    have hbe := Blk.bulk_eq bs[i]
    have hst := contT_succ hlt
    rw [← he] at hst
    have hB := contT_b bs i (by omega) (by omega)
    rw [← he] at hB
    have hel2 := hB.len
    have hcg : ((blkC bs).drop (i * 5 + 0)).take 5 = bs[i].cells := blkC_get (o := 0) (k := 5) hlt (by omega)
    have hrd : ∀ L, Reads L [blkF ba bs, tabF] 81 5 ba bs.length (blkC bs) := fun _ => blk_reads (fun _ h => ⟨h.1, trivial⟩)
    have hfi := blk_inl (a := ba) hlt
    have hpl := inlPlain_le bs[i].inl
    have hcp := inlinePlain_ok bs[i].inl (by omega) bs[i].ia bs[i].ic
    have hca := anchor_ok (inlPlain bs[i].inl) (by omega)
    have hanl := ancT19_le (inlPlain bs[i].inl)
    have hpa := fun a' c' => parent_ok (es ++ [⟨bs[i].level, [], inlPlain bs[i].inl, []⟩]) (by simp; omega) a' c' es.length (by simp)
    generalize bs[i] = x at *
    unfold Blk.cells at hcg
    have hno : ¬ x.kind = 1 → contT (bs.take (i + 1)) = es := fun h => by rw [hst]; unfold addE; rw [if_neg h]
    by_cases hk1 : x.kind = 1
    rotate_left
    · have hk1' : ¬ ¬ x.kind = 1 → False := fun h => h hk1
      repeat' first
        | refine CondP.yes hk1 ?_
        | refine J_seq ?_ | refine J_region Tryz.tyOK ?_ | refine J_block ?_ | refine J_cond ?_ | refine J_ret ?_ | refine J_skip ?_ | refine J_exit ?_ | refine J_scope ?_
        | refine CondP.yes (by omega) ?_ | refine CondP.no (by omega) ?_ | refine CondP.mk (fun h => ?_) (fun h => ?_) | refine EqP.mk rfl ?_ | refine NewP.mk (fun ad => ?_) | refine ArP.exact (by simp only [inR]; omega) ?_ | refine SideP.mk (by first | omega | (dsimp only; omega) | (simp; omega)) ?_
        | refine IdxE.mk 81 5 _ (hrd _) (by omega) (by omega) ?_ | refine LoadE.mk 81 bs.length _ _ (hrd _) (by omega) (by omega) (by decide) (by exact hcg) ?_
        | fail
      exact Round.mk (i + 1, es, kv, kk, a, c) (by dsimp only; omega) ⟨by dsimp only; omega, (hno hk1).symm, hkv, hkk⟩ (by repeat' first | exact SubE.nil | refine SubE.cons rfl ?_ ?_ | exact VEq.refl _ | refine VEq.int (by omega) | exact VEq.sl rfl (by dsimp only; simp) rfl) Ents.drop
    have hye : contT (bs.take (i + 1)) = es ++ [newE es x.level (inlPlain x.inl)] := by rw [hst]; unfold addE; rw [if_pos hk1]
    have hap : entC es ++ [.i .i64 x.level, .s [], .s (inlPlain x.inl), .s []] = entC (es ++ [⟨x.level, [], inlPlain x.inl, []⟩]) := (entC_one es ⟨x.level, [], inlPlain x.inl, []⟩).symm
    have hla : es.length + 1 = (es ++ [(⟨x.level, [], inlPlain x.inl, []⟩ : EntT)]).length := by simp
    have hk1n : ¬ ¬ x.kind = 1 := fun h => h hk1
    repeat' first
      | refine CondP.no hk1n ?_
      | refine J_seq ?_ | refine J_region Tryz.tyOK ?_ | refine J_block ?_ | refine J_cond ?_ | refine J_ret ?_ | refine J_skip ?_ | refine J_exit ?_ | refine J_scope ?_
      | refine CondP.yes (by omega) ?_ | refine CondP.no (by omega) ?_ | refine CondP.mk (fun h => ?_) (fun h => ?_) | refine EqP.mk rfl ?_ | refine NewP.mk (fun ad => ?_) | refine ArP.exact (by simp only [inR]; omega) ?_ | refine SideP.mk (by first | omega | (dsimp only; omega) | (simp; omega)) ?_
      | refine J_stop (c := .seq (.region 10 _ _) _) ?_ | refine J_drawU (id := 8) Tryz.tyOK (by kernel_rfl) [0, 1, 0, 4, 12, 31, 0, 127] (.leaf [0, 1, 2, 3, 4, 5, 6, 7]) [6, 7] [7] 7 false (by kernel_rfl) ?_ | refine TwoP.mk ?_ ?_ | refine GoP.mk (by repeat (first | exact keepC_sub _ _ _ | exact List.Sublist.slnil | refine List.Sublist.cons_cons _ ?_ | refine List.Sublist.cons _ ?_)) (by first | exact fun _ h => h | exact fun _ h => h.2 | exact fun _ h => ((allD_append _ _).1 h).2) ?_ | exact trivial | refine J_drawU (id := 15) Tryz.tyOK (by kernel_rfl) [0, 0, 3, 7, 15, 31, 0, 64, 255, 511, 1023] (.leaf [0, 1, 2, 3, 4, 5, 6, 7, 8, 9, 10]) [10] [8, 53] 10 false (by kernel_rfl) ?_ | refine TwoP.mk ?_ ?_ | refine GoP.mk (by repeat (first | exact keepC_sub _ _ _ | exact List.Sublist.slnil | refine List.Sublist.cons_cons _ ?_ | refine List.Sublist.cons _ ?_)) (by first | exact fun _ h => h | exact fun _ h => h.2 | exact fun _ h => ((allD_append _ _).1 h).2) ?_ | exact trivial | refine EntP.mk (Ents.ofSub (by repeat (first | exact keepC_sub _ _ _ | exact List.Sublist.slnil | refine List.Sublist.cons_cons _ ?_ | refine List.Sublist.cons _ ?_)) (by first | exact fun _ h => h | exact fun _ _ => trivial | exact fun _ h => h.2 | exact fun _ h => h.2.2.2.2 | exact fun _ h => h.2.2 | exact fun _ h => h.2.2.2 | exact fun _ h => h.2.2.2.2.2 | exact fun _ h => h.2.2.2.2.2.2 | exact fun _ h => h.2.2.2.2.2.2.2 | exact fun _ h => h.2.2.2.2.2.2.2.2 | exact fun _ h => h.2.2.2.2.2.2.2.2.2 | exact fun _ h => h.2.2.2.2.2.2.2.2.2.2 | exact fun _ h => ((allD_append _ _).1 h).2)) ?_ | refine IdxE.mk 81 5 _ (hrd _) (by omega) (by omega) ?_ | refine LoadE.mk 81 bs.length _ _ (hrd _) (by omega) (by omega) (by decide) (by exact hcg) ?_ | refine CallQ.mk [_] _ hcp (fun _ h => hfi _ ⟨h.1, trivial⟩) ?_ | (refine AppE.row [_, _, _, _, _] _ (entC es) [.i .i64 x.level, .s [], .s (inlPlain x.inl), .s []] 1 rfl (SrcE.sl 42 42 _ _ 1 _ _ rfl rfl (.inl ⟨_, List.Mem.head _⟩) rfl) (by dsimp only; omega) (fun a' c' => ?_); rw [hap, hla])
      | fail
    rename_i ad2 ad3
    have hlv : lvls (es ++ [(⟨x.level, [], inlPlain x.inl, []⟩ : EntT)]) = lvls es ++ [x.level] := by simp [lvls]
    have hfs : findP (lvls es ++ [x.level]) x.level es.length = findP (lvls es) x.level es.length := by
      have := findP_snoc (lvls es) x.level x.level es.length (by simp)
      exact this
    have hgl : ((es ++ [(⟨x.level, [], inlPlain x.inl, []⟩ : EntT)])[es.length]'(by simp)).level = x.level := by simp
    have hix : ((es.length : Nat) : Int) = (((es ++ [(⟨x.level, [], inlPlain x.inl, []⟩ : EntT)]).length : Nat) : Int) - 1 := by simp
    have hpc := hpa a' c'
    rw [hgl, hlv, hfs] at hpc
    rw [hix] at hpc
    obtain ⟨P, hP⟩ : ∃ P, findP (lvls es) x.level es.length = P := ⟨_, rfl⟩
    have hPl : ∀ q, P = some q → q < es.length := fun q h => findP_lt (hP.trans h)
    obtain ⟨M, hM⟩ : ∃ M, cntP (lvls es) P es.length = M := ⟨_, rfl⟩
    have hMl := cntP_le (lvls es) P es.length
    rw [hP] at hpc
    have hkP := hkk P
    rw [hM] at hkP hMl
    have hkk' := kvK_add (e := newE es x.level (inlPlain x.inl)) hP hkk
    rw [hM] at hkk'
    refine CallP.mk _ [_, _, _, _, _] [] _ hpc (List.perm_append_comm (l₁ := [_, _, _, _, _]) (l₂ := [_])) (fun _ _ => trivial) (fun v L' D' hp => ?_)
    obtain ⟨rfl, rfl, rfl⟩ := hp
    have hput : ∀ q, gGet (gPut kk (parI P) (.c (.i .i64 ((M : Int) + 1)))) q = if q = parI P then some (.c (.i .i64 ((M : Int) + 1))) else gGet kk q := fun q => gGet_put1 _ _ _ _
    repeat' first
      | refine J_stop (c := .seq (.region 12 _ _) _) ?_
      | refine J_seq ?_ | refine J_region Tryz.tyOK ?_ | refine J_block ?_ | refine J_cond ?_ | refine J_ret ?_ | refine J_skip ?_ | refine J_exit ?_ | refine J_scope ?_
      | refine CondP.yes (by omega) ?_ | refine CondP.no (by omega) ?_ | refine CondP.mk (fun h => ?_) (fun h => ?_) | refine EqP.mk rfl ?_ | refine NewP.mk (fun ad => ?_) | refine ArP.exact (by simp only [inR]; omega) ?_ | refine SideP.mk (by first | omega | (dsimp only; omega) | (simp; omega)) ?_
      | fail
    refine ⟨?_⟩
    refine J_cut (α := Unit) (fun _ => [(3, .c (.sl a' (es ++ [(⟨x.level, [], inlPlain x.inl, []⟩ : EntT)]).length c')), (4, .c (.m 0 adU)), (5, .c (.m 1 adK)), (8, .c (.p 3 ad3 0)), (9, .c (.i .i64 (((es ++ [(⟨x.level, [], inlPlain x.inl, []⟩ : EntT)]).length : Int) - 1))), (10, .c (.i .i64 (parI P))), (15, .c (.sl ba bs.length bc)), (16, lenV bs.length), (17, .c (.i .i64 i))])
      (fun _ => [.row 42 4 a' (es ++ [(⟨x.level, [], inlPlain x.inl, []⟩ : EntT)]).length c' (entC (es ++ [⟨x.level, [], inlPlain x.inl, []⟩])), .box 3 ad3 42 [.i .i64 x.level, .s [], .s (inlPlain x.inl), .s []], .obj 1 adK (gO (intV .i64) (gPut kk (parI P) (.c (.i .i64 ((M : Int) + 1))))), .obj 0 adU (mapO kv)]) (fun _ => [blkF ba bs, tabF]) 4 (fun _ => True) ?_ (fun _ _ => ?_)
    · have hsub : ∀ (r l b3 b2 : Chunk) (K U : Chunk), List.Perm [r, l, b3, b2, K, U] ([l, b2] ++ [r, b3, K, U]) := fun r l b3 b2 K U => by
        refine (List.Perm.swap l r _).trans (List.Perm.cons l ?_)
        exact (List.perm_middle (l₁ := [r, b3]) (a := b2) (l₂ := [K, U]))
      by_cases hM0 : M = 0
      · subst hM0
        have hGn : gGet kk (parI P) = none := by rw [hkP, if_pos rfl]
        repeat' first
          | refine J_seq ?_ | refine J_region Tryz.tyOK ?_ | refine J_block ?_ | refine J_cond ?_ | refine J_ret ?_ | refine J_skip ?_ | refine J_exit ?_ | refine J_scope ?_
          | refine CondP.yes (by omega) ?_ | refine CondP.no (by omega) ?_ | refine CondP.mk (fun h => ?_) (fun h => ?_) | refine EqP.mk rfl ?_ | refine NewP.mk (fun ad => ?_) | refine ArP.exact (by simp only [inR]; omega) ?_ | refine SideP.mk (by first | omega | (dsimp only; omega) | (simp; omega)) ?_
          | refine LookI.mk kk rfl rfl (fun v hv => absurd (hGn.symm.trans hv) (by simp)) (fun _ => ?_) | refine UpdI.mk kk rfl rfl ?_
          | fail
        exact InFam.mk () trivial (by repeat' first | exact SubE.nil | refine SubE.cons rfl ?_ ?_ | exact VEq.refl _ | refine VEq.int (by omega) | refine VEq.sl rfl (by first | rfl | omega | (rw [List.length_append]; rfl) | (simp; omega)) rfl) (Ents.sub ⟨[_, _], hsub _ _ _ _ _ _⟩)
      · have hGs : gGet kk (parI P) = some (.c (.i .i64 M)) := by rw [hkP, if_neg hM0]
        repeat' first
          | refine J_seq ?_ | refine J_region Tryz.tyOK ?_ | refine J_block ?_ | refine J_cond ?_ | refine J_ret ?_ | refine J_skip ?_ | refine J_exit ?_ | refine J_scope ?_
          | refine CondP.yes (by omega) ?_ | refine CondP.no (by omega) ?_ | refine CondP.mk (fun h => ?_) (fun h => ?_) | refine EqP.mk rfl ?_ | refine NewP.mk (fun ad => ?_) | refine ArP.exact (by simp only [inR]; omega) ?_ | refine SideP.mk (by first | omega | (dsimp only; omega) | (simp; omega)) ?_
          | (refine LookI.mk kk rfl rfl (fun v hv => ?_) (fun hv => absurd (hGs.symm.trans hv) (by simp)); cases hGs.symm.trans hv) | refine UpdI.mk kk rfl rfl ?_
          | fail
        exact InFam.mk () trivial (by repeat' first | exact SubE.nil | refine SubE.cons rfl ?_ ?_ | exact VEq.refl _ | refine VEq.int (by omega) | refine VEq.sl rfl (by first | rfl | omega | (rw [List.length_append]; rfl) | (simp; omega)) rfl) (Ents.sub ⟨[_, _], hsub _ _ _ _ _ _⟩)
    have hG2 : gGet (gPut kk (parI P) (.c (.i .i64 ((M : Int) + 1)))) (parI P) = some (.c (.i .i64 ((M : Int) + 1))) := by rw [hput, if_pos rfl]
    clear hput hkP
    generalize gPut kk (parI P) (.c (.i .i64 ((M : Int) + 1))) = kk' at *
    have hit := itoaBig_ok ((M : Int) + 1) (by omega) (by omega)
    have hitd : itoa ((M : Int) + 1) = decDigits (M + 1) := by unfold itoa; rw [if_neg (by omega), show ((M : Int) + 1).toNat = M + 1 by omega]
    have hdl := decDigits_le (u := M + 1) (by omega)
    rw [hitd] at hit
    have hnw : newE es x.level (inlPlain x.inl) = ⟨x.level, numT es P (M + 1), inlPlain x.inl, freeT (ancs es) (ancT19 (inlPlain x.inl))⟩ := by unfold newE; rw [hP, hM]
    have hnul := numT_le hB P (M + 1) (by omega)
    rw [hnw] at hye hkk'
    repeat' first
      | refine J_stop (c := .seq (.seq (.region 14 _ _) _) _) ?_
      | refine J_seq ?_ | refine J_region Tryz.tyOK ?_ | refine J_block ?_ | refine J_cond ?_ | refine J_ret ?_ | refine J_skip ?_ | refine J_exit ?_ | refine J_scope ?_
      | refine CondP.yes (by omega) ?_ | refine CondP.no (by omega) ?_ | refine CondP.mk (fun h => ?_) (fun h => ?_) | refine EqP.mk rfl ?_ | refine NewP.mk (fun ad => ?_) | refine ArP.exact (by simp only [inR]; omega) ?_ | refine SideP.mk (by first | omega | (dsimp only; omega) | (simp; omega)) ?_
      | (refine LookI.mk kk' rfl rfl (fun v hv => ?_) (fun hv => absurd (hG2.symm.trans hv) (by simp)); cases hG2.symm.trans hv) | refine CallP.is hit ?_ (fun _ h => ⟨h.2.1, trivial⟩)
      | fail
    refine ⟨?_⟩
    refine J_cut (α := Unit) (fun _ => [(3, .c (.sl a' (es ++ [(⟨x.level, [], inlPlain x.inl, []⟩ : EntT)]).length c')), (4, .c (.m 0 adU)), (5, .c (.m 1 adK)), (8, .c (.p 3 ad3 0)), (9, .c (.i .i64 (((es ++ [(⟨x.level, [], inlPlain x.inl, []⟩ : EntT)]).length : Int) - 1))), (15, .c (.sl ba bs.length bc)), (16, lenV bs.length), (17, .c (.i .i64 i))])
      (fun _ => [.row 42 4 a' (es ++ [(⟨x.level, [], inlPlain x.inl, []⟩ : EntT)]).length c' (entC (es ++ [⟨x.level, [], inlPlain x.inl, []⟩])), .box 3 ad3 42 [.i .i64 x.level, .s (numT es P (M + 1)), .s (inlPlain x.inl), .s []], .obj 1 adK (gO (intV .i64) kk'), .obj 0 adU (mapO kv)]) (fun _ => [blkF ba bs, tabF]) 4 (fun _ => True) ?_ (fun _ _ => ?_)
    · cases P with
      | none =>
        simp only [numT, parI]
        repeat' first
          | refine J_seq ?_ | refine J_region Tryz.tyOK ?_ | refine J_block ?_ | refine J_cond ?_ | refine J_ret ?_ | refine J_skip ?_ | refine J_exit ?_ | refine J_scope ?_
          | refine CondP.yes (by omega) ?_ | refine CondP.no (by omega) ?_ | refine CondP.mk (fun h => ?_) (fun h => ?_) | refine EqP.mk rfl ?_ | refine NewP.mk (fun ad => ?_) | refine ArP.exact (by simp only [inR]; omega) ?_ | refine SideP.mk (by first | omega | (dsimp only; omega) | (simp; omega)) ?_
          | fail
        exact InFam.mk () trivial (by repeat' first | exact SubE.nil | refine SubE.cons rfl ?_ ?_ | exact VEq.refl _ | refine VEq.int (by omega) | refine VEq.sl rfl (by first | rfl | omega | (rw [List.length_append]; rfl) | (simp; omega)) rfl) (Ents.refl _ _)
      | some q =>
        have hq := hPl q rfl
        have hgq : ((entC (es ++ [⟨x.level, [], inlPlain x.inl, []⟩])).drop (q * 4 + 1)).take 1 = [.s es[q].number] := by
          have h := entC_get (es := es ++ [(⟨x.level, [], inlPlain x.inl, []⟩ : EntT)]) (i := q) (by simp; omega) (o := 1) (k := 1) (by omega)
          rw [List.getElem_append_left hq] at h
          exact h
        have hqd : (es.map EntT.number).getD q [] = es[q].number := by simp [hq]
        have hqb := hB.num es[q] (List.getElem_mem hq)
        have hqi : q < (es ++ [(⟨x.level, [], inlPlain x.inl, []⟩ : EntT)]).length := by simp; omega
        simp only [numT, parI, hqd] at *
        generalize es[q].number = nq at *
        repeat' first
          | refine J_seq ?_ | refine J_region Tryz.tyOK ?_ | refine J_block ?_ | refine J_cond ?_ | refine J_ret ?_ | refine J_skip ?_ | refine J_exit ?_ | refine J_scope ?_
          | refine CondP.yes (by omega) ?_ | refine CondP.no (by omega) ?_ | refine CondP.mk (fun h => ?_) (fun h => ?_) | refine EqP.mk rfl ?_ | refine NewP.mk (fun ad => ?_) | refine ArP.exact (by simp only [inR]; omega) ?_ | refine SideP.mk (by first | omega | (dsimp only; omega) | (simp; omega)) ?_
          | refine J_drawU (id := 8) Tryz.tyOK (by kernel_rfl) [0, 1, 0, 4, 12, 31, 0, 127] (.leaf [0, 1, 2, 3, 4, 5, 6, 7]) [6, 7] [7] 7 true (by kernel_rfl) ?_ | refine TwoP.mk ?_ ?_ | refine GoP.mk (by repeat (first | exact keepC_sub _ _ _ | exact List.Sublist.slnil | refine List.Sublist.cons_cons _ ?_ | refine List.Sublist.cons _ ?_)) (by first | exact fun _ h => h | exact fun _ h => h.2 | exact fun _ h => ((allD_append _ _).1 h).2) ?_ | exact trivial | refine J_drawU (id := 15) Tryz.tyOK (by kernel_rfl) [0, 0, 3, 7, 15, 31, 0, 64, 255, 511, 1023] (.leaf [0, 1, 2, 3, 4, 5, 6, 7, 8, 9, 10]) [10] [8, 53] 10 true (by kernel_rfl) ?_ | refine TwoP.mk ?_ ?_ | refine GoP.mk (by repeat (first | exact keepC_sub _ _ _ | exact List.Sublist.slnil | refine List.Sublist.cons_cons _ ?_ | refine List.Sublist.cons _ ?_)) (by first | exact fun _ h => h | exact fun _ h => h.2 | exact fun _ h => ((allD_append _ _).1 h).2) ?_ | exact trivial | refine EntP.mk (Ents.ofSub (by repeat (first | exact keepC_sub _ _ _ | exact List.Sublist.slnil | refine List.Sublist.cons_cons _ ?_ | refine List.Sublist.cons _ ?_)) (by first | exact fun _ h => h | exact fun _ _ => trivial | exact fun _ h => h.2 | exact fun _ h => h.2.2.2.2 | exact fun _ h => h.2.2 | exact fun _ h => h.2.2.2 | exact fun _ h => h.2.2.2.2.2 | exact fun _ h => h.2.2.2.2.2.2 | exact fun _ h => h.2.2.2.2.2.2.2 | exact fun _ h => h.2.2.2.2.2.2.2.2 | exact fun _ h => h.2.2.2.2.2.2.2.2.2 | exact fun _ h => h.2.2.2.2.2.2.2.2.2.2 | exact fun _ h => ((allD_append _ _).1 h).2)) ?_ | refine IdxE.mk 42 4 _ (.inl ⟨_, List.Mem.head _⟩) (by omega) (by omega) ?_ | refine FldE.mk 42 4 _ _ (.inl ⟨_, List.Mem.head _⟩) (by omega) ?_ | refine LoadE.mk 42 _ _ [.s nq] (.inl ⟨_, List.Mem.head _⟩) (by omega) (by omega) (by decide) (by exact hgq) ?_ | refine SideP.mk (by simp only [List.length_append, List.length_singleton]; omega) ?_ | exact InFam.mk () trivial (by repeat' first | exact SubE.nil | refine SubE.cons rfl ?_ ?_ | exact VEq.refl _ | refine VEq.int (by omega) | refine VEq.sl rfl (by first | rfl | omega | (rw [List.length_append]; rfl) | (simp; omega)) rfl) (Ents.refl _ _)
          | fail
    obtain ⟨F, hF⟩ : ∃ F, freeT (ancs es) (ancT19 (inlPlain x.inl)) = F := ⟨_, rfl⟩
    have hul : (ancs es).length = es.length := by simp
    rw [hF] at hye hkk'
    unfold freeT at hF
    have hkvn := kvU_add (e := ⟨x.level, numT es P (M + 1), inlPlain x.inl, F⟩) hkv
    have hset : ∀ fr, setC (((((es ++ [(⟨x.level, [], inlPlain x.inl, []⟩ : EntT)]).length : Int) - 1)).toNat * 4 + 0) [.i .i64 x.level, .s (numT es P (M + 1)), .s (inlPlain x.inl), .s fr] (entC (es ++ [⟨x.level, [], inlPlain x.inl, []⟩])) = entC (es ++ [⟨x.level, numT es P (M + 1), inlPlain x.inl, fr⟩]) := fun fr => by
      have hix2 : ((((es ++ [(⟨x.level, [], inlPlain x.inl, []⟩ : EntT)]).length : Int) - 1)).toNat = es.length := by simp
      have h := setC_flat (F := EntT.cells) (z := 4) (fun _ => rfl) (l := es ++ [(⟨x.level, [], inlPlain x.inl, []⟩ : EntT)]) (j := es.length) (by simp) (o := 0) (ns := [.i .i64 x.level, .s (numT es P (M + 1)), .s (inlPlain x.inl), .s fr]) (x' := ⟨x.level, numT es P (M + 1), inlPlain x.inl, fr⟩) (Nat.le_refl 4) rfl
      rw [hix2]
      refine h.trans ?_
      rw [List.set_append_right _ _ (Nat.le_refl _), Nat.sub_self]
      rfl
    clear hkk hM hP hB hst hno hnw hfs hgl hlv hix hpc hPl hap
    generalize numT es P (M + 1) = nu at *
    generalize ancT19 (inlPlain x.inl) = an at *
    generalize inlPlain x.inl = pl at *
    have hl0 : 1 ≤ (es ++ [(⟨x.level, [], pl, []⟩ : EntT)]).length ∧ (es ++ [(⟨x.level, [], pl, []⟩ : EntT)]).length ≤ 10000000 := by simp; omega
    repeat' first
      | refine J_seq ?_ | refine J_region Tryz.tyOK ?_ | refine J_block ?_ | refine J_cond ?_ | refine J_ret ?_ | refine J_skip ?_ | refine J_exit ?_ | refine J_scope ?_
      | refine CondP.yes (by omega) ?_ | refine CondP.no (by omega) ?_ | refine CondP.mk (fun h => ?_) (fun h => ?_) | refine EqP.mk rfl ?_ | refine NewP.mk (fun ad => ?_) | refine ArP.exact (by simp only [inR]; omega) ?_ | refine SideP.mk (by first | omega | (dsimp only; omega) | (simp; omega)) ?_
      | refine CallP.is hca ?_
      | fail
    refine J_loop (α := Nat) (fun m => [(3, .c (.sl a' (es ++ [(⟨x.level, [], pl, []⟩ : EntT)]).length c')), (4, .c (.m 0 adU)), (5, .c (.m 1 adK)), (8, .c (.p 3 ad3 0)), (9, .c (.i .i64 (((es ++ [(⟨x.level, [], pl, []⟩ : EntT)]).length : Int) - 1))), (11, .c (.s an)), (12, .c (.i .i64 ((m : Int) + 2))), (15, .c (.sl ba bs.length bc)), (16, lenV bs.length), (17, .c (.i .i64 i))])
      (fun m => [.row 42 4 a' (es ++ [(⟨x.level, [], pl, []⟩ : EntT)]).length c' (entC (es ++ [⟨x.level, [], pl, []⟩])), .box 3 ad3 42 [.i .i64 x.level, .s nu, .s pl, .s (cand an (m + 1))], .obj 1 adK (gO (intV .i64) kk'), .obj 0 adU (mapO kv)]) (fun _ => [blkF ba bs, tabF]) 4
      (fun m => m ≤ es.length ∧ F = freeF (ancs es) an ((ancs es).length - m) (m + 1) ∧ ∀ j, 1 ≤ j → j ≤ m → cand an j ∈ ancs es) (fun m => es.length + 1 - m)
      (InFam.mk 0 ⟨Nat.zero_le _, hF.symm, fun j h1 h2 => by omega⟩ (by repeat' first | exact SubE.nil | refine SubE.cons rfl ?_ ?_ | exact VEq.refl _ | refine VEq.int (by omega) | refine VEq.sl rfl (by first | rfl | omega | (rw [List.length_append]; rfl) | (simp; omega)) rfl) (Ents.refl _ _)) (fun m hm => ?_)
    obtain ⟨hm, he2, hall⟩ := hm
    have hkc := hkv (cand an (m + 1))
    by_cases hc : cand an (m + 1) ∈ ancs es
    · rw [if_pos hc] at hkc
      have hall' : ∀ j, 1 ≤ j → j ≤ m + 1 → cand an j ∈ ancs es := fun j h1 h2 => by
        by_cases hj : j = m + 1
        · subst hj; exact hc
        · exact hall j h1 (by omega)
      have hlt2 := cands_len hall'
      rw [hul] at hlt2
      have hst2 : F = freeF (ancs es) an ((ancs es).length - (m + 1)) (m + 1 + 1) := by
        rw [he2, show (ancs es).length - m = ((ancs es).length - (m + 1)) + 1 by omega, freeF, if_pos hc]
      have hd := itoaBig_ok ((m : Int) + 2) (by omega) (by omega)
      have hdd : itoa ((m : Int) + 2) = decDigits (m + 2) := by unfold itoa; rw [if_neg (by omega), show ((m : Int) + 2).toNat = m + 2 by omega]
      rw [hdd] at hd
      have hdl2 := decDigits_le (u := m + 2) (by omega)
      have hcd : an ++ [95] ++ decDigits (m + 2) = cand an (m + 1 + 1) := by unfold cand; rw [if_neg (by omega)]
      clear he2 hall hc hdd
      generalize decDigits (m + 2) = dg at *
      generalize cand an (m + 1) = cu at *
      repeat' first
        | refine J_seq ?_ | refine J_region Tryz.tyOK ?_ | refine J_block ?_ | refine J_cond ?_ | refine J_ret ?_ | refine J_skip ?_ | refine J_exit ?_ | refine J_scope ?_
        | refine CondP.yes (by omega) ?_ | refine CondP.no (by omega) ?_ | refine CondP.mk (fun h => ?_) (fun h => ?_) | refine EqP.mk rfl ?_ | refine NewP.mk (fun ad => ?_) | refine ArP.exact (by simp only [inR]; omega) ?_ | refine SideP.mk (by first | omega | (dsimp only; omega) | (simp; omega)) ?_
        | refine MapE.mk kv rfl rfl ?_ | (refine LookP.mk (fun v hv => ?_) (fun hv => absurd (hkc.symm.trans hv) (by simp)); cases hkc.symm.trans hv) | refine CallP.is hd ?_ (fun _ h => ⟨h.2.1, trivial⟩) | refine SideP.mk (by simp only [List.length_append, List.length_singleton]; omega) ?_
        | fail
      rw [hcd]
      exact Round.mk (m + 1) (by omega) ⟨by omega, hst2, hall'⟩ (by repeat' first | exact SubE.nil | refine SubE.cons rfl ?_ ?_ | exact VEq.refl _ | refine VEq.int (by omega) | exact VEq.sl rfl (by dsimp only; simp) rfl) (Ents.refl _ _)
    · rw [if_neg hc] at hkc
      have hst2 : F = cand an (m + 1) := by
        rw [he2]
        cases h : (ancs es).length - m with
        | zero => rfl
        | succ q => rw [freeF, if_neg hc]
      subst hst2
      have hse := hset (cand an (m + 1))
      clear hc hall he2 hset
      generalize cand an (m + 1) = fr at *
      repeat' first
        | refine J_seq ?_ | refine J_region Tryz.tyOK ?_ | refine J_block ?_ | refine J_cond ?_ | refine J_ret ?_ | refine J_skip ?_ | refine J_exit ?_ | refine J_scope ?_
        | refine CondP.yes (by omega) ?_ | refine CondP.no (by omega) ?_ | refine CondP.mk (fun h => ?_) (fun h => ?_) | refine EqP.mk rfl ?_ | refine NewP.mk (fun ad => ?_) | refine ArP.exact (by simp only [inR]; omega) ?_ | refine SideP.mk (by first | omega | (dsimp only; omega) | (simp; omega)) ?_
        | refine MapE.mk kv rfl rfl ?_ | refine LookP.mk (fun v hv => absurd (hkc.symm.trans hv) (by simp)) (fun _ => ?_) | refine IdxE.mk 42 4 _ (.inl ⟨_, List.Mem.head _⟩) (by omega) (by omega) ?_ | refine StoreE.mk [] _ _ _ _ _ (entC (es ++ [⟨x.level, nu, pl, fr⟩])) rfl (by omega) (by omega) (Nat.le_refl 4) (by exact hse) ?_
        | fail
      exact Round.mk (i + 1, es ++ [⟨x.level, nu, pl, fr⟩], kvPut kv fr tt, kk', a', c') (by dsimp only; omega) ⟨by dsimp only; omega, hye.symm, hkvn, hkk'⟩ (by repeat' first | exact SubE.nil | refine SubE.cons rfl ?_ ?_ | exact VEq.refl _ | refine VEq.int (by omega) | exact VEq.sl rfl (by dsimp only; simp) rfl) (by have hz := @ents_ct; exact hz (es := es) (x := ⟨x.level, [], pl, []⟩) (y := ⟨x.level, nu, pl, fr⟩) (a := a') (c := c'))
  · have hil : i = bs.length := by omega
    subst hil
    rw [List.take_length] at he
    subst he
    repeat' first
      | refine J_seq ?_ | refine J_region Tryz.tyOK ?_ | refine J_block ?_ | refine J_cond ?_ | refine J_ret ?_ | refine J_skip ?_ | refine J_exit ?_ | refine J_scope ?_
      | refine CondP.yes (by omega) ?_ | refine CondP.no (by omega) ?_ | refine CondP.mk (fun h => ?_) (fun h => ?_) | refine EqP.mk rfl ?_ | refine NewP.mk (fun ad => ?_) | refine ArP.exact (by simp only [inR]; omega) ?_ | refine SideP.mk (by first | omega | (dsimp only; omega) | (simp; omega)) ?_
      | refine FinE.mk [] [_] ⟨a, c, rfl, rfl, rfl⟩ ((Ents.sub ⟨[_, _], List.Perm.refl _⟩).trans (Ents.toFact.trans (Ents.facts fun _ h => ⟨h.1, trivial⟩)))
      | fail
end Go.Proofs
namespace Go.Proofs
open Go Go.X
set_option maxRecDepth 100000
mutual
def Inl.era : Inl → Inl
  | .mk k t s n a _ _ kids => .mk k t s n a none 0 (inlEra kids)
def inlEra : List Inl → List Inl
  | [] => []
  | x :: r => x.era :: inlEra r
end
theorem inlEra_append : ∀ (l k : List Inl), inlEra (l ++ k) = inlEra l ++ inlEra k
  | [], k => by simp [inlEra]
  | x :: r, k => by simp only [List.cons_append, inlEra, inlEra_append r k]
theorem inlEra_len : ∀ (l : List Inl), (inlEra l).length = l.length
  | [] => rfl
  | x :: r => by simp only [inlEra, List.length_cons, inlEra_len r]
mutual
theorem Inl.era_bulk : ∀ x : Inl, x.era.bulk = x.bulk
  | .mk k t s n a ka kc kids => by rw [Inl.era, Inl.bulk, Inl.bulk, inlEra_bulk kids]
theorem inlEra_bulk : ∀ l : List Inl, inlBulk (inlEra l) = inlBulk l
  | [] => by simp [inlEra]
  | x :: r => by rw [inlEra, inlBulk, inlBulk, Inl.era_bulk x, inlEra_bulk r]
end
theorem era_len {l k : List Inl} (h : inlEra l = inlEra k) : l.length = k.length := by rw [← inlEra_len l, h, inlEra_len]
theorem era_bulk {l k : List Inl} (h : inlEra l = inlEra k) : inlBulk l = inlBulk k := by rw [← inlEra_bulk l, h, inlEra_bulk]
theorem inlEra_one (x : Inl) : inlEra [x] = [x.era] := by simp [inlEra]
mutual
def Inl.marks : Inl → List Inl
  | .mk k t s n a ka kc kids => if k = 5 then [.mk k t s n a ka kc kids] else if k = 2 ∨ k = 3 ∨ k = 4 then inlMarks kids else []
def inlMarks : List Inl → List Inl
  | [] => []
  | x :: r => x.marks ++ inlMarks r
end
mutual
def Blk.marks : Blk → List Inl
  | .mk _ _ _ _ _ inl _ _ kids => inlMarks inl ++ blkMarks kids
def blkMarks : List Blk → List Inl
  | [] => []
  | x :: r => x.marks ++ blkMarks r
end
theorem Inl.marks_eq (x : Inl) : x.marks = if x.kind = 5 then [x] else if x.kind = 2 ∨ x.kind = 3 ∨ x.kind = 4 then inlMarks x.kids else [] := by cases x; rw [Inl.marks]; rfl
theorem Blk.marks_eq (x : Blk) : x.marks = inlMarks x.inl ++ blkMarks x.kids := by cases x; rw [Blk.marks]; rfl
theorem inlMarks_append : ∀ (l k : List Inl), inlMarks (l ++ k) = inlMarks l ++ inlMarks k
  | [], k => by simp [inlMarks]
  | x :: r, k => by simp only [List.cons_append, inlMarks, inlMarks_append r k, List.append_assoc]
theorem blkMarks_append : ∀ (l k : List Blk), blkMarks (l ++ k) = blkMarks l ++ blkMarks k
  | [], k => by simp [blkMarks]
  | x :: r, k => by simp only [List.cons_append, blkMarks, blkMarks_append r k, List.append_assoc]
theorem inlMarks_succ {l : List Inl} {i : Nat} (h : i < l.length) : inlMarks (l.take (i + 1)) = inlMarks (l.take i) ++ l[i].marks := by
  rw [List.take_succ_eq_append_getElem h, inlMarks_append]
  simp only [inlMarks, List.append_nil]
theorem blkMarks_succ {l : List Blk} {i : Nat} (h : i < l.length) : blkMarks (l.take (i + 1)) = blkMarks (l.take i) ++ inlMarks l[i].inl ++ blkMarks l[i].kids := by
  rw [List.take_succ_eq_append_getElem h, blkMarks_append]
  simp only [blkMarks, Blk.marks_eq, List.append_nil, List.append_assoc]
mutual
theorem Inl.marks_bulk : ∀ x : Inl, inlBulk x.marks ≤ x.bulk
  | .mk k t s n a ka kc kids => by
    have := inlMarks_bulk kids
    rw [Inl.marks]
    split
    · simp [inlBulk]
    split
    · rw [Inl.bulk]; omega
    · simp [inlBulk]
theorem inlMarks_bulk : ∀ l : List Inl, inlBulk (inlMarks l) ≤ inlBulk l
  | [] => Nat.le_refl _
  | x :: r => by
    have h1 := Inl.marks_bulk x
    have h2 := inlMarks_bulk r
    rw [inlMarks, inlBulk, inlBulk_append]; omega
end
mutual
theorem Blk.marks_bulk : ∀ x : Blk, inlBulk x.marks ≤ x.bulk
  | .mk _ _ _ _ _ inl _ _ kids => by
    have h1 := blkMarks_bulk kids
    have h2 := inlMarks_bulk inl
    rw [Blk.marks, Blk.bulk, inlBulk_append]; omega
theorem blkMarks_bulk : ∀ l : List Blk, inlBulk (blkMarks l) ≤ blkBulk l
  | [] => Nat.le_refl _
  | x :: r => by
    have h1 := Blk.marks_bulk x
    have h2 := blkMarks_bulk r
    rw [blkMarks, blkBulk, inlBulk_append]; omega
end
theorem inl_len_bulk (l : List Inl) : l.length ≤ inlBulk l := Nat.le_trans (inlNodes_len l) (inlNodes_bulk l)
theorem inlC_append (l k : List Inl) : inlC (l ++ k) = inlC l ++ inlC k := by simp [inlC]
theorem inls_append {m : Im} {l k : List Inl} (h1 : (inlsF l).p m) (h2 : (inlsF k).p m) : (inlsF (l ++ k)).p m := inlsLie_append.2 ⟨h1, h2⟩
theorem inls_one {m : Im} {l : List Inl} {x : Inl} (h1 : (inlsF l).p m) (h2 : x.lies m) : (inlsF (l ++ [x])).p m := inlsLie_append.2 ⟨h1, by unfold inlsLie; exact ⟨h2, by unfold inlsLie; trivial⟩⟩
theorem inls_nil {m : Im} : (inlsF []).p m := by show inlsLie m []; unfold inlsLie; trivial
theorem inl_at {a : Option Addr} {l : List Inl} {i : Nat} (h : i < l.length) : ∀ m, (inlF a l).p m → (l[i]).lies m := fun _ hm => inlsLie_mem hm.2 (List.getElem_mem h)
def MksP (ms : List Inl) : V → List Chunk → List Fact → Prop := fun v L D => ∃ (a : Option Addr) (c : Nat) (es : List Inl), inlEra es = inlEra ms ∧ v = .c (.sl a es.length c) ∧ L = [] ∧ D = [inlF a es]
theorem copies_ok (n : Nat) : ∀ (els : List Inl), inlBulk els = n → ∀ (ia : Option Addr) (ic : Nat), n ≤ 20000000 → FnS Tryz.prog 121 [.c (.sl ia els.length ic)] [] [inlF ia els] (MksP els) := by
  induction n using Nat.strongRecOn with | _ n ih
  intro els hn ia ic hb
  have hel := inl_len_bulk els
  refine fn_of_J Tryz.tyOK 0 Tryz.func121 (by kernel_rfl) (c := Tryz.f121.body.getD .skip) (by kernel_rfl) Tryz.ntmps121 (rs := Tryz.f121.results.toList) rfl (by simp) (fun G => ?_)
  repeat' first
    | refine J_seq ?_ | refine J_region Tryz.tyOK ?_ | refine J_block ?_ | refine J_cond ?_ | refine J_ret ?_ | refine J_skip ?_ | refine J_exit ?_ | refine J_scope ?_
    | refine CondP.yes (by omega) ?_ | refine CondP.no (by omega) ?_ | refine CondP.mk (fun h => ?_) (fun h => ?_) | refine EqP.mk rfl ?_ | refine NewP.mk (fun ad => ?_) | refine ArP.exact (by simp only [inR]; omega) ?_ | refine SideP.mk (by first | omega | (dsimp only; omega) | (simp; omega)) ?_
    | fail
  refine J_loop (α := Nat × List Inl × Option Addr × Nat) (fun x => [(3, .c (.sl x.2.2.1 x.2.1.length x.2.2.2)), (6, .c (.sl ia els.length ic)), (7, lenV els.length), (8, .c (.i .i64 x.1))])
    (fun x => [.row 102 6 x.2.2.1 x.2.1.length x.2.2.2 (inlC x.2.1)]) (fun x => [inlsF x.2.1, inlF ia els]) 0 (fun x => x.1 ≤ els.length ∧ inlEra x.2.1 = inlEra (els.take x.1) ∧ x.2.1.length = x.1) (fun x => els.length - x.1)
    (InFam.mk (0, [], none, 0) ⟨Nat.zero_le _, by simp, rfl⟩ (by repeat' first | exact SubE.nil | refine SubE.cons rfl ?_ ?_ | exact VEq.refl _ | refine VEq.int (by omega) | refine VEq.sl rfl (by first | rfl | omega | (rw [List.length_append]; rfl) | (simp; omega)) rfl) ((Ents.nilRow (ety := 102) (esz := 6)).trans (Ents.facts fun _ h => ⟨inls_nil, h.1, trivial⟩))) (fun x hx => ?_)
  obtain ⟨i, cs, a, c⟩ := x
  obtain ⟨hi, he, hcl⟩ := hx
  dsimp only at hi he hcl ⊢
  by_cases hlt : i < els.length
  · have hbs := inlBulk_succ hlt
    have hbt := inlBulk_take_le els (i + 1)
    have hbe := Inl.bulk_eq els[i]
    have hstep : inlEra (els.take (i + 1)) = inlEra cs ++ [els[i].era] := by rw [List.take_succ_eq_append_getElem hlt, inlEra_append, he, inlEra_one]
    have hfk := inl_kids (a := ia) hlt
    have hcg : ((inlC els).drop (i * 6 + 0)).take 6 = els[i].cells := inlC_get (o := 0) (k := 6) hlt (by omega)
    have hrd : ∀ L F, Reads L [F, inlF ia els] 102 6 ia els.length (inlC els) := fun _ _ => inl_reads (fun _ h => ⟨h.2.1, trivial⟩)
    have hca := ih (inlBulk els[i].kids) (by omega) els[i].kids rfl els[i].ka els[i].kc (by omega)
    clear ih he
    generalize els[i] = x at *
    unfold Inl.cells at hcg
    repeat' first
      | refine J_stop (c := .region 6 _ _) ?_
      | refine J_seq ?_ | refine J_region Tryz.tyOK ?_ | refine J_block ?_ | refine J_cond ?_ | refine J_ret ?_ | refine J_skip ?_ | refine J_exit ?_ | refine J_scope ?_
      | refine CondP.yes (by omega) ?_ | refine CondP.no (by omega) ?_ | refine CondP.mk (fun h => ?_) (fun h => ?_) | refine EqP.mk rfl ?_ | refine NewP.mk (fun ad => ?_) | refine ArP.exact (by simp only [inR]; omega) ?_ | refine SideP.mk (by first | omega | (dsimp only; omega) | (simp; omega)) ?_
      | refine IdxE.mk 102 6 _ (hrd _ _) (by omega) (by omega) ?_ | refine LoadE.mk 102 els.length _ _ (hrd _ _) (by omega) (by omega) (by decide) (by exact hcg) ?_ | (refine CallP.mk [] _ [_] _ hca (List.Perm.refl _) (fun _ h => hfk _ ⟨h.2.1, trivial⟩) (fun v L' D' hp => ?_); obtain ⟨ka, kc, ks, hks, rfl, rfl, rfl⟩ := hp)
      | fail
    all_goals
      obtain ⟨x1, hx1⟩ : ∃ y : Inl, y = .mk x.kind x.text x.sp x.name x.anchor ka kc ks := ⟨_, rfl⟩
      have hap1 : inlC cs ++ [.i .i64 x.kind, .s x.text, .i .i64 x.sp, .s x.name, .s x.anchor, .sl ka ks.length kc] = inlC (cs ++ [x1]) := by subst hx1; exact inlC_snoc cs (.mk x.kind x.text x.sp x.name x.anchor ka kc ks)
      have hla1 : cs.length + 1 = (cs ++ [x1]).length := by simp
      have hli1 : ∀ m, (inlF ka ks).p m → x1.lies m := fun m h => by subst hx1; exact inl_lies h
      have her1 : inlEra (cs ++ [x1]) = inlEra (els.take (i + 1)) := by
        rw [hstep, inlEra_append, inlEra_one]
        congr 2
        subst hx1
        cases x
        rw [Inl.era, Inl.era, hks]; rfl
      clear hx1
    refine ⟨?_⟩
    repeat' first
      | refine J_seq ?_ | refine J_region Tryz.tyOK ?_ | refine J_block ?_ | refine J_cond ?_ | refine J_ret ?_ | refine J_skip ?_ | refine J_exit ?_ | refine J_scope ?_
      | refine CondP.yes (by omega) ?_ | refine CondP.no (by omega) ?_ | refine CondP.mk (fun h => ?_) (fun h => ?_) | refine EqP.mk rfl ?_ | refine NewP.mk (fun ad => ?_) | refine ArP.exact (by simp only [inR]; omega) ?_ | refine SideP.mk (by first | omega | (dsimp only; omega) | (simp; omega)) ?_
      | (refine AppE.row [_, _] _ (inlC cs) [.i .i64 x.kind, .s x.text, .i .i64 x.sp, .s x.name, .s x.anchor, .sl ka ks.length kc] 1 rfl (SrcE.sl 102 102 _ _ 1 _ _ rfl rfl (.inl ⟨_, List.Mem.head _⟩) rfl) (by dsimp only; omega) (fun a' c' => ?_); rw [hap1, hla1]) | refine Round.mk (i + 1, cs ++ [x1], a', c') (by dsimp only; omega) ⟨by dsimp only; omega, her1, by dsimp only; rw [← hla1]; omega⟩ (by repeat' first | exact SubE.nil | refine SubE.cons rfl ?_ ?_ | exact VEq.refl _ | refine VEq.int (by omega)) (Ents.ofSub (List.Sublist.cons _ (List.Sublist.cons _ (List.Sublist.cons_cons _ List.Sublist.slnil))) (fun _ h => ⟨inls_one h.2.1 (hli1 _ h.1), h.2.2.1, trivial⟩))
      | fail
  · have hil : i = els.length := by omega
    subst hil
    rw [List.take_length] at he
    repeat' first
      | refine J_seq ?_ | refine J_region Tryz.tyOK ?_ | refine J_block ?_ | refine J_cond ?_ | refine J_ret ?_ | refine J_skip ?_ | refine J_exit ?_ | refine J_scope ?_
      | refine CondP.yes (by omega) ?_ | refine CondP.no (by omega) ?_ | refine CondP.mk (fun h => ?_) (fun h => ?_) | refine EqP.mk rfl ?_ | refine NewP.mk (fun ad => ?_) | refine ArP.exact (by simp only [inR]; omega) ?_ | refine SideP.mk (by first | omega | (dsimp only; omega) | (simp; omega)) ?_
      | refine FinE.mk [] [_] ⟨a, c, cs, he, rfl, rfl, rfl⟩ (Ents.toFact.trans (Ents.facts fun _ h => ⟨⟨h.1, h.2.1⟩, trivial⟩))
      | fail
theorem marks_ok (n : Nat) : ∀ (els : List Inl), inlBulk els = n → ∀ (ia : Option Addr) (ic : Nat), n ≤ 20000000 → FnS Tryz.prog 84 [.c (.sl ia els.length ic)] [] [inlF ia els] (MksP (inlMarks els)) := by
  induction n using Nat.strongRecOn with | _ n ih
  intro els hn ia ic hb
  have hel := inl_len_bulk els
  refine fn_of_J Tryz.tyOK 0 Tryz.func84 (by kernel_rfl) (c := Tryz.f84.body.getD .skip) (by kernel_rfl) Tryz.ntmps84 (rs := Tryz.f84.results.toList) rfl (by simp) (fun G => ?_)
  repeat' first
    | refine J_seq ?_ | refine J_region Tryz.tyOK ?_ | refine J_block ?_ | refine J_cond ?_ | refine J_ret ?_ | refine J_skip ?_ | refine J_exit ?_ | refine J_scope ?_
    | refine CondP.yes (by omega) ?_ | refine CondP.no (by omega) ?_ | refine CondP.mk (fun h => ?_) (fun h => ?_) | refine EqP.mk rfl ?_ | refine NewP.mk (fun ad => ?_) | refine ArP.exact (by simp only [inR]; omega) ?_ | refine SideP.mk (by first | omega | (dsimp only; omega) | (simp; omega)) ?_
    | fail
  refine J_loop (α := Nat × List Inl × Option Addr × Nat) (fun x => [(3, .c (.sl x.2.2.1 x.2.1.length x.2.2.2)), (6, .c (.sl ia els.length ic)), (7, lenV els.length), (8, .c (.i .i64 x.1))])
    (fun x => [.row 102 6 x.2.2.1 x.2.1.length x.2.2.2 (inlC x.2.1)]) (fun x => [inlsF x.2.1, inlF ia els]) 0 (fun x => x.1 ≤ els.length ∧ inlEra x.2.1 = inlEra (inlMarks (els.take x.1))) (fun x => els.length - x.1)
    (InFam.mk (0, [], none, 0) ⟨Nat.zero_le _, by simp [inlMarks]⟩ (by repeat' first | exact SubE.nil | refine SubE.cons rfl ?_ ?_ | exact VEq.refl _ | refine VEq.int (by omega) | refine VEq.sl rfl (by first | rfl | omega | (rw [List.length_append]; rfl) | (simp; omega)) rfl) ((Ents.nilRow (ety := 102) (esz := 6)).trans (Ents.facts fun _ h => ⟨inls_nil, h.1, trivial⟩))) (fun x hx => ?_)
  obtain ⟨i, cs, a, c⟩ := x
  obtain ⟨hi, he⟩ := hx
  dsimp only at hi he ⊢
  by_cases hlt : i < els.length
  · have hbs := inlBulk_succ hlt
    have hbt := inlBulk_take_le els (i + 1)
    have hbe := Inl.bulk_eq els[i]
    have hms := inlMarks_succ hlt
    have hmb := inlMarks_bulk (els.take i)
    have hmx := Inl.marks_bulk els[i]
    have hfk := inl_kids (a := ia) hlt
    have hfx := inl_at (a := ia) hlt
    have hme := Inl.marks_eq els[i]
    have hcb := era_bulk he
    have hcl := inl_len_bulk cs
    have hstep : inlEra (inlMarks (els.take (i + 1))) = inlEra cs ++ inlEra els[i].marks := by rw [hms, inlEra_append, he]
    have hcg : ((inlC els).drop (i * 6 + 0)).take 6 = els[i].cells := inlC_get (o := 0) (k := 6) hlt (by omega)
    have hrd : ∀ L F, Reads L [F, inlF ia els] 102 6 ia els.length (inlC els) := fun _ _ => inl_reads (fun _ h => ⟨h.2.1, trivial⟩)
    have hca := copies_ok _ els[i].kids rfl els[i].ka els[i].kc (by omega)
    have hcm := ih (inlBulk els[i].kids) (by omega) els[i].kids rfl els[i].ka els[i].kc (by omega)
    have hmk := inlMarks_bulk els[i].kids
    clear ih hms he
    generalize els[i] = x at *
    unfold Inl.cells at hcg
    have h5 : x.kind = 5 → x.marks = [x] := fun h => by rw [hme, if_pos h]
    have h2 : (x.kind = 2 ∨ x.kind = 3 ∨ x.kind = 4) → x.marks = inlMarks x.kids := fun h' => by rw [hme, if_neg (by omega), if_pos h']
    have h4 : ¬ x.kind = 5 → ¬ (x.kind = 2 ∨ x.kind = 3 ∨ x.kind = 4) → x.marks = [] := fun h h' => by rw [hme, if_neg h, if_neg h']
    clear hme
    repeat' first
      | refine J_stop (c := .region 8 _ _) ?_
      | refine J_seq ?_ | refine J_region Tryz.tyOK ?_ | refine J_block ?_ | refine J_cond ?_ | refine J_ret ?_ | refine J_skip ?_ | refine J_exit ?_ | refine J_scope ?_
      | refine CondP.yes (by omega) ?_ | refine CondP.no (by omega) ?_ | refine CondP.mk (fun h => ?_) (fun h => ?_) | refine EqP.mk rfl ?_ | refine NewP.mk (fun ad => ?_) | refine ArP.exact (by simp only [inR]; omega) ?_ | refine SideP.mk (by first | omega | (dsimp only; omega) | (simp; omega)) ?_
      | refine IdxE.mk 102 6 _ (hrd _ _) (by omega) (by omega) ?_ | refine LoadE.mk 102 els.length _ _ (hrd _ _) (by omega) (by omega) (by decide) (by exact hcg) ?_ | (refine CallP.mk [] _ [_] _ hca (List.Perm.refl _) (fun _ h => hfk _ ⟨h.2.1, trivial⟩) (fun v L' D' hp => ?_); obtain ⟨ka, kc, ks, hks, rfl, rfl, rfl⟩ := hp) | (refine CallP.mk [] _ [_] _ hcm (List.Perm.refl _) (fun _ h => hfk _ ⟨h.2.1, trivial⟩) (fun v L' D' hp => ?_); obtain ⟨ma, mc, ms, hmse, rfl, rfl, rfl⟩ := hp; have hmsb := era_bulk hmse; have hmsl := inl_len_bulk ms) | (refine AppE.row [_] _ (inlC cs) (inlC ms) ms.length rfl (SrcE.sl 102 102 _ _ _ _ _ rfl rfl (.inr fun _ h => h.1.1) (inlC_len ms)) (by dsimp only; omega) (fun a' c' => ?_); rw [← inlC_append, ← List.length_append])
      | fail
    · obtain ⟨x1, hx1⟩ : ∃ y : Inl, y = .mk x.kind x.text x.sp x.name x.anchor ka kc ks := ⟨_, rfl⟩
      have hap1 : inlC cs ++ [.i .i64 x.kind, .s x.text, .i .i64 x.sp, .s x.name, .s x.anchor, .sl ka ks.length kc] = inlC (cs ++ [x1]) := by subst hx1; exact inlC_snoc cs (.mk x.kind x.text x.sp x.name x.anchor ka kc ks)
      have hla1 : cs.length + 1 = (cs ++ [x1]).length := by simp
      have hli1 : ∀ m, (inlF ka ks).p m → x1.lies m := fun m h => by subst hx1; exact inl_lies h
      have hxx := h5 (by assumption)
      have her1 : inlEra (cs ++ [x1]) = inlEra (inlMarks (els.take (i + 1))) := by
        rw [hstep, inlEra_append, hxx, inlEra_one, inlEra_one]
        congr 2
        subst hx1
        cases x
        rw [Inl.era, Inl.era, hks]; rfl
      clear hx1
      refine ⟨?_⟩
      repeat' first
        | refine J_seq ?_ | refine J_region Tryz.tyOK ?_ | refine J_block ?_ | refine J_cond ?_ | refine J_ret ?_ | refine J_skip ?_ | refine J_exit ?_ | refine J_scope ?_
        | refine CondP.yes (by omega) ?_ | refine CondP.no (by omega) ?_ | refine CondP.mk (fun h => ?_) (fun h => ?_) | refine EqP.mk rfl ?_ | refine NewP.mk (fun ad => ?_) | refine ArP.exact (by simp only [inR]; omega) ?_ | refine SideP.mk (by first | omega | (dsimp only; omega) | (simp; omega)) ?_
        | (refine AppE.row [_, _] _ (inlC cs) [.i .i64 x.kind, .s x.text, .i .i64 x.sp, .s x.name, .s x.anchor, .sl ka ks.length kc] 1 rfl (SrcE.sl 102 102 _ _ 1 _ _ rfl rfl (.inl ⟨_, List.Mem.head _⟩) rfl) (by dsimp only; omega) (fun a' c' => ?_); rw [hap1, hla1]) | refine Round.mk (i + 1, cs ++ [x1], a', c') (by dsimp only; omega) ⟨by dsimp only; omega, her1⟩ (by repeat' first | exact SubE.nil | refine SubE.cons rfl ?_ ?_ | exact VEq.refl _ | refine VEq.int (by omega)) (Ents.ofSub (List.Sublist.cons _ (List.Sublist.cons _ (List.Sublist.cons_cons _ List.Sublist.slnil))) (fun _ h => ⟨inls_one h.2.1 (hli1 _ h.1), h.2.2.1, trivial⟩))
        | fail
    all_goals first
      | (have hxx := h2 (by omega)
         refine Round.mk (i + 1, cs ++ ms, a', c') (by dsimp only; omega) ⟨by dsimp only; omega, by dsimp only; rw [hstep, hxx, inlEra_append, hmse]⟩ (by repeat' first | exact SubE.nil | refine SubE.cons rfl ?_ ?_ | exact VEq.refl _ | refine VEq.int (by omega)) (Ents.ofSub (List.Sublist.cons _ (List.Sublist.cons_cons _ List.Sublist.slnil)) (fun _ h => ⟨inls_append h.2.1 h.1.2, h.2.2.1, trivial⟩)))
      | (have hxx := h4 (by assumption) (by omega)
         refine Round.mk (i + 1, cs, a, c) (by dsimp only; omega) ⟨by dsimp only; omega, by dsimp only; rw [hstep, hxx]; simp [inlEra]⟩ (by repeat' first | exact SubE.nil | refine SubE.cons rfl ?_ ?_ | exact VEq.refl _ | refine VEq.int (by omega)) (Ents.ofSub (List.Sublist.cons _ (List.Sublist.cons_cons _ List.Sublist.slnil)) (fun _ h => ⟨h.1, h.2.1, trivial⟩)))
  · have hil : i = els.length := by omega
    subst hil
    rw [List.take_length] at he
    repeat' first
      | refine J_seq ?_ | refine J_region Tryz.tyOK ?_ | refine J_block ?_ | refine J_cond ?_ | refine J_ret ?_ | refine J_skip ?_ | refine J_exit ?_ | refine J_scope ?_
      | refine CondP.yes (by omega) ?_ | refine CondP.no (by omega) ?_ | refine CondP.mk (fun h => ?_) (fun h => ?_) | refine EqP.mk rfl ?_ | refine NewP.mk (fun ad => ?_) | refine ArP.exact (by simp only [inR]; omega) ?_ | refine SideP.mk (by first | omega | (dsimp only; omega) | (simp; omega)) ?_
      | refine FinE.mk [] [_] ⟨a, c, cs, he, rfl, rfl, rfl⟩ (Ents.toFact.trans (Ents.facts fun _ h => ⟨⟨h.1, h.2.1⟩, trivial⟩))
      | fail
theorem marksAll_ok (n : Nat) : ∀ (bs : List Blk), blkBulk bs = n → ∀ (ba : Option Addr) (bc : Nat), n ≤ 20000000 → FnS Tryz.prog 50 [.c (.sl ba bs.length bc)] [] [blkF ba bs] (MksP (blkMarks bs)) := by
  induction n using Nat.strongRecOn with | _ n ih
  intro bs hn ba bc hb
  have hel := Nat.le_trans (blkNodes_len bs) (blkNodes_bulk bs)
  refine fn_of_J Tryz.tyOK 0 Tryz.func50 (by kernel_rfl) (c := Tryz.f50.body.getD .skip) (by kernel_rfl) Tryz.ntmps50 (rs := Tryz.f50.results.toList) rfl (by simp) (fun G => ?_)
  repeat' first
    | refine J_seq ?_ | refine J_region Tryz.tyOK ?_ | refine J_block ?_ | refine J_cond ?_ | refine J_ret ?_ | refine J_skip ?_ | refine J_exit ?_ | refine J_scope ?_
    | refine CondP.yes (by omega) ?_ | refine CondP.no (by omega) ?_ | refine CondP.mk (fun h => ?_) (fun h => ?_) | refine EqP.mk rfl ?_ | refine NewP.mk (fun ad => ?_) | refine ArP.exact (by simp only [inR]; omega) ?_ | refine SideP.mk (by first | omega | (dsimp only; omega) | (simp; omega)) ?_
    | fail
  refine J_loop (α := Nat × List Inl × Option Addr × Nat) (fun x => [(3, .c (.sl x.2.2.1 x.2.1.length x.2.2.2)), (6, .c (.sl ba bs.length bc)), (7, lenV bs.length), (8, .c (.i .i64 x.1))])
    (fun x => [.row 102 6 x.2.2.1 x.2.1.length x.2.2.2 (inlC x.2.1)]) (fun x => [inlsF x.2.1, blkF ba bs]) 0 (fun x => x.1 ≤ bs.length ∧ inlEra x.2.1 = inlEra (blkMarks (bs.take x.1))) (fun x => bs.length - x.1)
    (InFam.mk (0, [], none, 0) ⟨Nat.zero_le _, by simp [blkMarks]⟩ (by repeat' first | exact SubE.nil | refine SubE.cons rfl ?_ ?_ | exact VEq.refl _ | refine VEq.int (by omega) | refine VEq.sl rfl (by first | rfl | omega | (rw [List.length_append]; rfl) | (simp; omega)) rfl) ((Ents.nilRow (ety := 102) (esz := 6)).trans (Ents.facts fun _ h => ⟨inls_nil, h.1, trivial⟩))) (fun x hx => ?_)
  obtain ⟨i, cs, a, c⟩ := x
  obtain ⟨hi, he⟩ := hx
  dsimp only at hi he ⊢
  by_cases hlt : i < bs.length
  · have hbs := blkBulk_succ hlt
    have hbt := blkBulk_take_le bs (i + 1)
    have hbe := Blk.bulk_eq bs[i]
    have hms := blkMarks_succ hlt
    have hmb := blkMarks_bulk (bs.take i)
    have hcb := era_bulk he
    have hcl := inl_len_bulk cs
    have hm1 := inlMarks_bulk bs[i].inl
    have hm2 := blkMarks_bulk bs[i].kids
    have hstep : inlEra (blkMarks (bs.take (i + 1))) = inlEra cs ++ inlEra (inlMarks bs[i].inl) ++ inlEra (blkMarks bs[i].kids) := by rw [hms, inlEra_append, inlEra_append, he]
    have hfi := blk_inl (a := ba) hlt
    have hfk := blk_kids (a := ba) hlt
    have hcg : ((blkC bs).drop (i * 5 + 0)).take 5 = bs[i].cells := blkC_get (o := 0) (k := 5) hlt (by omega)
    have hrd : ∀ L F, Reads L [F, blkF ba bs] 81 5 ba bs.length (blkC bs) := fun _ _ => blk_reads (fun _ h => ⟨h.2.1, trivial⟩)
    have hca := marks_ok _ bs[i].inl rfl bs[i].ia bs[i].ic (by omega)
    have hcm := ih (blkBulk bs[i].kids) (by omega) bs[i].kids rfl bs[i].ka bs[i].kc (by omega)
    clear ih hms he
    generalize bs[i] = x at *
    unfold Blk.cells at hcg
    repeat' first
      | refine J_seq ?_ | refine J_region Tryz.tyOK ?_ | refine J_block ?_ | refine J_cond ?_ | refine J_ret ?_ | refine J_skip ?_ | refine J_exit ?_ | refine J_scope ?_
      | refine CondP.yes (by omega) ?_ | refine CondP.no (by omega) ?_ | refine CondP.mk (fun h => ?_) (fun h => ?_) | refine EqP.mk rfl ?_ | refine NewP.mk (fun ad => ?_) | refine ArP.exact (by simp only [inR]; omega) ?_ | refine SideP.mk (by first | omega | (dsimp only; omega) | (simp; omega)) ?_
      | refine IdxE.mk 81 5 _ (hrd _ _) (by omega) (by omega) ?_ | refine LoadE.mk 81 bs.length _ _ (hrd _ _) (by omega) (by omega) (by decide) (by exact hcg) ?_ | (refine CallP.mk [] _ [_] _ hca (List.Perm.refl _) (fun _ h => hfi _ ⟨h.2.1, trivial⟩) (fun v L' D' hp => ?_); obtain ⟨ma, mc, ms, hme, rfl, rfl, rfl⟩ := hp; have hmsb := era_bulk hme; have hmsl := inl_len_bulk ms) | (refine CallP.mk [] _ [_] _ hcm (List.Perm.refl _) (fun _ h => hfk _ ⟨h.2.2.1, trivial⟩) (fun v L' D' hp => ?_); obtain ⟨na, nc, ns, hne, rfl, rfl, rfl⟩ := hp; have hnsb := era_bulk hne; have hnsl := inl_len_bulk ns) | (refine AppE.row [_] _ (inlC cs) (inlC ms) ms.length rfl (SrcE.sl 102 102 _ _ _ _ _ rfl rfl (.inr fun _ h => h.1.1) (inlC_len ms)) (by dsimp only; omega) (fun a' c' => ?_); rw [← inlC_append, ← List.length_append]) | (refine AppE.row [_] _ (inlC (cs ++ ms)) (inlC ns) ns.length rfl (SrcE.sl 102 102 _ _ _ _ _ rfl rfl (.inr fun _ h => h.1.1) (inlC_len ns)) (by dsimp only; rw [List.length_append]; omega) (fun a2 c2 => ?_); rw [← inlC_append, ← List.length_append]) | refine Round.mk (i + 1, cs ++ ms ++ ns, a2, c2) (by dsimp only; omega) ⟨by dsimp only; omega, by dsimp only; rw [hstep, inlEra_append, inlEra_append, hme, hne]⟩ (by repeat' first | exact SubE.nil | refine SubE.cons rfl ?_ ?_ | exact VEq.refl _ | refine VEq.int (by omega)) (Ents.ofSub (List.Sublist.cons _ (List.Sublist.cons_cons _ List.Sublist.slnil)) (fun _ h => ⟨inls_append (inls_append h.2.2.1 h.2.1.2) h.1.2, h.2.2.2.1, trivial⟩))
      | fail
    all_goals trace_state
  · have hil : i = bs.length := by omega
    subst hil
    rw [List.take_length] at he
    repeat' first
      | refine J_seq ?_ | refine J_region Tryz.tyOK ?_ | refine J_block ?_ | refine J_cond ?_ | refine J_ret ?_ | refine J_skip ?_ | refine J_exit ?_ | refine J_scope ?_
      | refine CondP.yes (by omega) ?_ | refine CondP.no (by omega) ?_ | refine CondP.mk (fun h => ?_) (fun h => ?_) | refine EqP.mk rfl ?_ | refine NewP.mk (fun ad => ?_) | refine ArP.exact (by simp only [inR]; omega) ?_ | refine SideP.mk (by first | omega | (dsimp only; omega) | (simp; omega)) ?_
      | refine FinE.mk [] [_] ⟨a, c, cs, he, rfl, rfl, rfl⟩ (Ents.toFact.trans (Ents.facts fun _ h => ⟨⟨h.1, h.2.1⟩, trivial⟩))
      | fail
end Go.Proofs
namespace Go.Proofs
open Go Go.X
set_option maxRecDepth 100000
end Go.Proofs
namespace Go.X
open Go Go.Proofs
structure NoP where
  name : List UInt8
  inl : List Inl
  uses : List Int
def findL (ns : List (List UInt8)) (t : List UInt8) : Nat → Option Nat
  | 0 => none
  | k + 1 => if ns.getD k [] = t then some k else findL ns t k
theorem findL_lt {ns : List (List UInt8)} {t : List UInt8} : ∀ {k j : Nat}, findL ns t k = some j → j < k
  | 0, _, h => by cases h
  | k + 1, j, h => by
    rw [findL] at h
    split at h
    · cases h; omega
    · have := findL_lt h; omega
theorem findL_snoc (ns : List (List UInt8)) (x t : List UInt8) : ∀ (k : Nat), k ≤ ns.length → findL (ns ++ [x]) t k = findL ns t k
  | 0, _ => rfl
  | k + 1, h => by
    rw [findL, findL, findL_snoc ns x t k (by omega)]
    rw [List.getD_eq_getElem?_getD, List.getElem?_append_left (by omega), ← List.getD_eq_getElem?_getD]
theorem findL_new (ns : List (List UInt8)) (x t : List UInt8) : findL (ns ++ [x]) t (ns.length + 1) = if x = t then some ns.length else findL ns t ns.length := by
  rw [findL, findL_snoc ns x t _ (Nat.le_refl _)]
  simp
abbrev namesP (ps : List NoP) : List (List UInt8) := ps.map NoP.name
def atP (ps : List NoP) (t : List UInt8) : Nat := if t = [] then ps.length else (findL (namesP ps) t ps.length).getD ps.length
def growP (ps : List NoP) (t : List UInt8) : List NoP := if atP ps t = ps.length then ps ++ [⟨t, [], []⟩] else ps
def touchP (p : NoP) (n : Int) (kids : List Inl) : NoP := ⟨p.name, if p.inl = [] then kids else p.inl, p.uses ++ [n]⟩
def addP (ps : List NoP) (i : Nat) (m : Inl) : List NoP := (growP ps m.text).modify (atP ps m.text) fun p => touchP p (i + 1) m.kids
def notesFrom : List NoP → Nat → List Inl → List NoP
  | ps, _, [] => ps
  | ps, i, m :: r => notesFrom (addP ps i m) (i + 1) r
def notesP (ms : List Inl) : List NoP := notesFrom [] 0 ms
theorem notesFrom_snoc : ∀ (ms : List Inl) (ps : List NoP) (i : Nat) (m : Inl), notesFrom ps i (ms ++ [m]) = addP (notesFrom ps i ms) (i + ms.length) m
  | [], ps, i, m => rfl
  | x :: r, ps, i, m => by
    rw [List.cons_append, notesFrom, notesFrom, notesFrom_snoc r, List.length_cons]
    congr 1; omega
theorem notesP_take_succ {ms : List Inl} {i : Nat} (h : i < ms.length) : notesP (ms.take (i + 1)) = addP (notesP (ms.take i)) i ms[i] := by
  unfold notesP
  rw [List.take_succ_eq_append_getElem h, notesFrom_snoc, List.length_take, Nat.min_eq_left (by omega), Nat.zero_add]
theorem addP_new {ps : List NoP} {i : Nat} {m : Inl} (h : m.text = [] ∨ findL (namesP ps) m.text ps.length = none) : addP ps i m = ps ++ [⟨m.text, m.kids, [((i : Int) + 1)]⟩] ∧ atP ps m.text = ps.length := by
  have ha : atP ps m.text = ps.length := by
    unfold atP
    split
    · rfl
    · rcases h with h | h
      · contradiction
      · rw [h]; rfl
  refine ⟨?_, ha⟩
  unfold addP growP
  rw [if_pos ha, ha]
  apply List.ext_getElem?
  intro j
  rw [List.getElem?_modify]
  by_cases hj : j < ps.length
  · rw [List.getElem?_append_left hj, List.getElem?_append_left hj]; simp [show ¬ ps.length = j by omega]
  · rw [List.getElem?_append_right (by omega), List.getElem?_append_right (by omega)]
    by_cases hj0 : j = ps.length
    · subst hj0
      simp [touchP]
    · rw [List.getElem?_eq_none (by simp; omega), List.getElem?_eq_none (by simp; omega)]; rfl
theorem addP_old {ps : List NoP} {i k : Nat} {m : Inl} (h0 : m.text ≠ []) (h : findL (namesP ps) m.text ps.length = some k) (hk : k < ps.length) : addP ps i m = ps.set k (touchP ps[k] ((i : Int) + 1) m.kids) ∧ atP ps m.text = k := by
  have ha : atP ps m.text = k := by
    unfold atP
    rw [if_neg h0, h]; rfl
  refine ⟨?_, ha⟩
  unfold addP growP
  rw [if_neg (by omega), ha]
  apply List.ext_getElem?
  intro j
  rw [List.getElem?_modify, List.getElem?_set]
  by_cases hj : k = j
  · subst hj
    simp [hk]
  · simp [hj]
structure NoB (ps : List NoP) (i : Nat) : Prop where
  len : ps.length ≤ i
  use : ∀ p ∈ ps, p.uses.length ≤ i ∧ ∀ u ∈ p.uses, 1 ≤ u ∧ u ≤ i
theorem addP_b {ps : List NoP} {i : Nat} {m : Inl} (h : NoB ps i) : NoB (addP ps i m) (i + 1) := by
  have old : ∀ p ∈ ps, p.uses.length ≤ i + 1 ∧ ∀ u ∈ p.uses, 1 ≤ u ∧ u ≤ ((i + 1 : Nat) : Int) := fun p hp => by
    obtain ⟨h1, h2⟩ := h.use p hp
    exact ⟨by omega, fun u hu => by have := h2 u hu; omega⟩
  by_cases hc : m.text = [] ∨ findL (namesP ps) m.text ps.length = none
  · rw [(addP_new hc).1]
    refine ⟨by have := h.len; simp; omega, fun p hp => ?_⟩
    rcases List.mem_append.1 hp with hp | hp
    · exact old p hp
    · rw [List.mem_singleton.1 hp]
      refine ⟨by simp, fun u hu => ?_⟩
      simp only [List.mem_singleton] at hu
      omega
  · rw [not_or] at hc
    obtain ⟨k, hk⟩ := Option.ne_none_iff_exists'.1 hc.2
    have hkl := findL_lt hk
    rw [(addP_old hc.1 hk hkl).1]
    refine ⟨by have := h.len; simp; omega, fun p hp => ?_⟩
    rcases List.mem_or_eq_of_mem_set hp with hp | rfl
    · exact old p hp
    · obtain ⟨h1, h2⟩ := h.use ps[k] (List.getElem_mem hkl)
      refine ⟨by simp only [touchP, List.length_append, List.length_singleton]; omega, fun u hu => ?_⟩
      simp only [touchP, List.mem_append, List.mem_singleton] at hu
      rcases hu with hu | hu
      · have := h2 u hu; omega
      · omega
theorem notesP_b (ms : List Inl) : ∀ i, i ≤ ms.length → NoB (notesP (ms.take i)) i
  | 0, _ => ⟨by simp [notesP, notesFrom], by simp [notesP, notesFrom]⟩
  | i + 1, h => by
    rw [notesP_take_succ (by omega)]
    exact addP_b (notesP_b ms i (by omega))
structure NoM where
  name : List UInt8
  ia : Option Addr
  ic : Nat
  inl : List Inl
  ua : Option Addr
  uc : Nat
  uses : List Int
def NoM.cells (n : NoM) : List C := [.s n.name, .sl n.ia n.inl.length n.ic, .sl n.ua n.uses.length n.uc]
def NoM.pure (n : NoM) : NoP := ⟨n.name, inlEra n.inl, n.uses⟩
def noC (ns : List NoM) : List C := ns.flatMap NoM.cells
abbrev pureN (ns : List NoM) : List NoP := ns.map NoM.pure
theorem noC_get {ns : List NoM} {i : Nat} (h : i < ns.length) {o k : Nat} (hk : o + k ≤ 3) : ((noC ns).drop (i * 3 + o)).take k = (ns[i].cells.drop o).take k := flat_get (F := NoM.cells) (z := 3) (fun _ => rfl) h hk
theorem noC_one (ns : List NoM) (n : NoM) : noC (ns ++ [n]) = noC ns ++ n.cells := by simp [noC]
theorem noC_set {ns : List NoM} {j : Nat} (hj : j < ns.length) {o : Nat} {cs : List C} {n : NoM} (h : o + cs.length ≤ 3) (he : setC o cs ns[j].cells = n.cells) : setC (j * 3 + o) cs (noC ns) = noC (ns.set j n) :=
  setC_flat (F := NoM.cells) (z := 3) (fun _ => rfl) hj h he
theorem names_pure (ns : List NoM) : namesP (pureN ns) = ns.map NoM.name := by simp [namesP, pureN, NoM.pure, Function.comp_def]
end Go.X
