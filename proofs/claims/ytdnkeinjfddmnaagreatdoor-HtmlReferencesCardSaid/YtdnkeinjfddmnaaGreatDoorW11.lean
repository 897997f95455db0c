/- This text walks through Notes of the package outline. · This text walks through Notes of the reference of chapter 19. · This text proves the rules for functions that put calls off (defer), for functions without results. · This text gives contracts of what strings.Replacer needs of the library: the Once, its lock and its word. · This text gives the contracts of the Once: doSlow and Do, where the function has not been called yet. -/
import Derived.Test.YtdnkeinjfddmnaaGreatDoorW10
import Derived.Test.YtdnkeinjfddmnaaGreatDoorW04
import Derived.Defers
import Derived.Test.YtdnkeinjfddmnaaGreatDoorW06
import Derived.Test.YtdnkeinjfddmnaaGreatDoorW08
import Derived.Laws.LoneSync
set_option linter.all false
namespace Go.Proofs
open Go Go.X
set_option maxRecDepth 100000
abbrev useR (n : NoM) : Chunk := .row 3 1 n.ua n.uses.length n.uc (n.uses.map (C.i .i64))
def usesR (ns : List NoM) : List Chunk := ns.map useR
def noF (ns : List NoM) : Fact := ⟨fun m => ∀ n ∈ ns, (inlF n.ia n.inl).p m, fun m m' hm h n hn => (inlF n.ia n.inl).mono m m' hm (h n hn)⟩
def notesF (a : Option Addr) (ns : List NoM) : Fact := ⟨fun m => SlF m 89 3 a ns.length (noC ns) ∧ ∀ n ∈ ns, (inlF n.ia n.inl).p m ∧ SlF m 3 1 n.ua n.uses.length (n.uses.map (C.i .i64)),
  fun m m' hm h => ⟨slF_mono hm h.1, fun n hn => ⟨(inlF n.ia n.inl).mono m m' hm (h.2 n hn).1, slF_mono hm (h.2 n hn).2⟩⟩⟩
def NotesP (ps : List NoP) : V → List Chunk → List Fact → Prop := fun v L D => ∃ (a : Option Addr) (c : Nat) (ns : List NoM), pureN ns = ps ∧ v = .c (.sl a ns.length c) ∧ L = [] ∧ D = [notesF a ns]
theorem usesR_split {ns : List NoM} {k : Nat} (h : k < ns.length) : usesR ns = usesR (ns.take k) ++ useR ns[k] :: usesR (ns.drop (k + 1)) := by
  have : ns = ns.take k ++ ns[k] :: ns.drop (k + 1) := by rw [← List.drop_eq_getElem_cons h, List.take_append_drop]
  refine (congrArg usesR this).trans ?_
  unfold usesR
  rw [List.map_append, List.map_cons]
theorem usesR_set {ns : List NoM} {k : Nat} (h : k < ns.length) (n : NoM) : usesR (ns.set k n) = usesR (ns.take k) ++ useR n :: usesR (ns.drop (k + 1)) := by
  rw [List.set_eq_take_append_cons_drop, if_pos h]
  simp [usesR]
theorem usesR_one (ns : List NoM) (n : NoM) : usesR (ns ++ [n]) = usesR ns ++ [useR n] := by simp [usesR]
theorem permTail {U b o n : Chunk} {R : List Chunk} : List.Perm (U :: b :: o :: n :: R) (b :: o :: n :: (R ++ [U])) := List.perm_append_comm (l₁ := [U]) (l₂ := [b, o, n] ++ R)
theorem Ents.usesF : ∀ (ns : List NoM) {D : List Fact}, ∃ F : Fact, Ents (usesR ns) D [] (F :: D) ∧ ∀ m, F.p m → ∀ n ∈ ns, SlF m 3 1 n.ua n.uses.length (n.uses.map (C.i .i64))
  | [], D => ⟨⟨fun _ => True, fun _ _ _ _ => trivial⟩, Ents.facts fun _ h => ⟨trivial, h⟩, fun _ _ n hn => by cases hn⟩
  | x :: r, D => by
    obtain ⟨F, hF, hp⟩ := Ents.usesF r (D := slFact 3 1 x.ua x.uses.length (x.uses.map (C.i .i64)) :: D)
    refine ⟨⟨fun m => F.p m ∧ SlF m 3 1 x.ua x.uses.length (x.uses.map (C.i .i64)), fun m m' hm h => ⟨F.mono m m' hm h.1, slF_mono hm h.2⟩⟩, ?_, fun m h n hn => ?_⟩
    · exact (Ents.toFact (L := usesR r)).trans (hF.trans (Ents.facts fun _ h => ⟨⟨h.1, h.2.1⟩, h.2.2⟩))
    · rcases List.mem_cons.1 hn with rfl | hn
      · exact h.2
      · exact hp m h.1 n hn
theorem Ents.notes {o : Chunk} {a : Option Addr} {c : Nat} {ns : List NoM} {D : List Fact} : Ents (o :: .row 89 3 a ns.length c (noC ns) :: usesR ns) (noF ns :: D) [] [notesF a ns] := by
  obtain ⟨F, hF, hp⟩ := Ents.usesF ns (D := slFact 89 3 a ns.length (noC ns) :: noF ns :: D)
  exact Ents.drop.trans (Ents.toFact.trans (hF.trans (Ents.facts fun m h => ⟨⟨h.2.1, fun n hn => ⟨h.2.2.1 n hn, hp m h.1 n hn⟩⟩, trivial⟩)))
theorem kvGet_put (kv : Kv) (k : List UInt8) (v : V) (q : List UInt8) : kvGet (kvPut kv k v) q = if q = k then some v else kvGet kv q := by
  induction kv with
  | nil =>
    simp only [kvPut, kvGet]
    by_cases h : q = k
    · rw [if_pos h, if_pos h.symm]
    · rw [if_neg h, if_neg fun e => h e.symm]
  | cons x r ih =>
    simp only [kvPut]
    by_cases hx : x.1 = k
    · rw [if_pos hx]
      simp only [kvGet]
      by_cases h : q = k
      · rw [if_pos h, if_pos (by rw [hx, h])]
      · rw [if_neg h, if_neg (by rw [hx]; exact fun e => h e.symm), if_neg (by rw [hx]; exact fun e => h e.symm)]
    · rw [if_neg hx]
      simp only [kvGet, ih]
      by_cases h : x.1 = q
      · rw [if_pos h, if_neg (fun e => hx (h.trans e)), if_pos h]
      · rw [if_neg h, if_neg h]
theorem inlEra_get : ∀ {l : List Inl} {i : Nat} (h : i < l.length), (inlEra l)[i]'(by rw [inlEra_len]; exact h) = l[i].era
  | x :: r, 0, _ => by simp [inlEra]
  | x :: r, i + 1, h => by
    have := inlEra_get (l := r) (i := i) (by simpa using h)
    simpa [inlEra] using this
  | [], i, h => by simp at h
theorem Inl.era_text (x : Inl) : x.era.text = x.text := by cases x; rw [Inl.era]; rfl
theorem Inl.era_kids (x : Inl) : x.era.kids = inlEra x.kids := by cases x; rw [Inl.era]; rfl
def newN (t : List UInt8) : NoM := ⟨t, none, 0, [], none, 0, []⟩
theorem ents_new {l b o : Chunk} {a : Option Addr} {c : Nat} {ns : List NoM} {t : List UInt8} {D : List Fact} : Ents ([l, b, o] ++ .row 89 3 a (ns.length + 1) c (noC ns ++ [.s t, .sl none 0 0, .sl none 0 0]) :: usesR ns) (noF ns :: D)
    (b :: o :: .row 89 3 a (ns ++ [newN t]).length c (noC (ns ++ [newN t])) :: usesR (ns ++ [newN t])) (noF (ns ++ [newN t]) :: D) := by
  have hap : noC ns ++ [.s t, .sl none 0 0, .sl none 0 0] = noC (ns ++ [newN t]) := (noC_one ns (newN t)).symm
  have hla : ns.length + 1 = (ns ++ [newN t]).length := by simp
  rw [hap, hla, usesR_one]
  refine Ents.drop.trans ((Ents.nilRow (ety := 3) (esz := 1)).trans ((Ents.perm (permTail (U := useR (newN t)))).trans (Ents.facts fun m h => ⟨fun n hn => ?_, h.2⟩)))
  rcases List.mem_append.1 hn with hn | hn
  · exact h.1 n hn
  · rw [List.mem_singleton.1 hn]; exact inlF_none
def updN (y : NoM) (ua : Option Addr) (uc : Nat) (us : List Int) : NoM := ⟨y.name, y.ia, y.ic, y.inl, ua, uc, us⟩
def kidN (y : NoM) (ka : Option Addr) (kc : Nat) (ks : List Inl) : NoM := ⟨y.name, ka, kc, ks, y.ua, y.uc, y.uses⟩
theorem ents_set {l b o n : Chunk} {ns : List NoM} {k : Nat} (hk : k < ns.length) (Y : NoM) {D : List Fact} : Ents ([l] ++ useR Y :: b :: o :: n :: (usesR (ns.take k) ++ usesR (ns.drop (k + 1)))) D (o :: n :: usesR (ns.set k Y)) D := by
  rw [usesR_set hk]
  exact Ents.sub ⟨[l, b], List.Perm.cons l (List.perm_middle (l₁ := b :: o :: n :: usesR (ns.take k))).symm⟩
theorem ents_end {l b o : Chunk} {a : Option Addr} {c : Nat} {ns : List NoM} {k : Nat} (hk : k < ns.length) (Y : NoM) {R : List Chunk} (hR : R = usesR (ns.take k) ++ usesR (ns.drop (k + 1))) {D : List Fact} :
    Ents ([l, useR Y, b, o] ++ .row 89 3 a ns.length c (noC (ns.set k Y)) :: R) D (o :: .row 89 3 a (ns.set k Y).length c (noC (ns.set k Y)) :: usesR (ns.set k Y)) D := by
  subst hR
  rw [List.length_set]
  exact ents_set hk Y
theorem pure_set {ns : List NoM} {k : Nat} (hk : k < ns.length) {Y : NoM} {f : NoP → NoP} (h : Y.pure = f ns[k].pure) : pureN (ns.set k Y) = (pureN ns).modify k f := by
  apply List.ext_getElem?
  intro j
  rw [List.getElem?_modify, List.getElem?_map, List.getElem?_set, List.getElem?_map]
  by_cases hj : k = j
  · subst hj; simp [hk, h]
  · simp [hj]
theorem noF_set {ns : List NoM} {k : Nat} {Y : NoM} {m : Im} (h : (noF ns).p m) (hY : (inlF Y.ia Y.inl).p m) : (noF (ns.set k Y)).p m := fun n hn => by
  rcases List.mem_or_eq_of_mem_set hn with hn | rfl
  · exact h n hn
  · exact hY
def KvN (kv : Kv) (ns : List NoM) : Prop := ∀ t : List UInt8, t ≠ [] → kvGet kv t = (findL (namesP (pureN ns)) t ns.length).map fun k => V.c (.i .i64 k)
theorem kvN_new {kv : Kv} {ns : List NoM} {n : NoM} (h : KvN kv ns) : KvN (kvPut kv n.name (.c (.i .i64 ns.length))) (ns ++ [n]) := fun t ht => by
  have hn : namesP (pureN (ns ++ [n])) = namesP (pureN ns) ++ [n.name] := by simp [namesP, pureN, NoM.pure]
  have hl : (namesP (pureN ns)).length = ns.length := by simp
  rw [kvGet_put, hn, List.length_append, List.length_singleton, ← hl, findL_new]
  by_cases hc : t = n.name
  · rw [if_pos hc, if_pos hc.symm]; rfl
  · rw [if_neg hc, if_neg fun e => hc e.symm, h t ht, hl]
theorem kvN_set {kv : Kv} {ns : List NoM} {k : Nat} {n : NoM} (h : KvN kv ns) (hk : k < ns.length) (hn : n.name = ns[k].name) : KvN kv (ns.set k n) := fun t ht => by
  have : namesP (pureN (ns.set k n)) = namesP (pureN ns) := by
    rw [names_pure, names_pure]
    apply List.ext_getElem?
    intro j
    rw [List.getElem?_map, List.getElem?_set, List.getElem?_map]
    by_cases hj : k = j
    · subst hj; rw [if_pos rfl, if_pos hk]; simp [hn, hk]
    · rw [if_neg hj]
  rw [h t ht, this, List.length_set]
set_option maxHeartbeats 4000000 in
theorem notes_ok (bs : List Blk) (hb : blkBulk bs ≤ 20000000) (ba : Option Addr) (bc : Nat) : FnS Tryz.prog 24 [.c (.sl ba bs.length bc)] [] [blkF ba bs] (NotesP (notesP (inlEra (blkMarks bs)))) := by
  have c1 := marksAll_ok _ bs rfl ba bc hb
  have hmb := blkMarks_bulk bs
  refine fn_of_J Tryz.tyOK 0 Tryz.func24 (by kernel_rfl) (c := Tryz.f24.body.getD .skip) (by kernel_rfl) Tryz.ntmps24 (rs := Tryz.f24.results.toList) rfl (by simp) (fun G => ?_)
  repeat' first
    | refine J_seq ?_ | refine J_region Tryz.tyOK ?_ | refine J_block ?_ | refine J_cond ?_ | refine J_ret ?_ | refine J_skip ?_ | refine J_exit ?_ | refine J_scope ?_
    | refine CondP.yes (by omega) ?_ | refine CondP.no (by omega) ?_ | refine CondP.mk (fun h => ?_) (fun h => ?_) | refine EqP.mk rfl ?_ | refine NewP.mk (fun ad => ?_) | refine ArP.exact (by simp only [inR]; omega) ?_ | refine SideP.mk (by first | omega | (dsimp only; omega) | (simp; omega)) ?_
    | (refine CallP.mk [] [_] [_] _ c1 (List.Perm.refl _) (fun _ h => h) (fun v L' D' hp => ?_); obtain ⟨ma, mc, ms, hme, rfl, rfl, rfl⟩ := hp; rw [← hme])
    | fail
  obtain ⟨ad0, had0⟩ : ∃ y, y = ad := ⟨_, rfl⟩
  subst had0
  have hmsb := era_bulk hme
  have hmsl := inl_len_bulk ms
  have hmle : ms.length ≤ 20000000 := by omega
  clear hme hmsb hmsl c1 hmb
  refine J_loop (α := Nat × List NoM × Kv × Option Addr × Nat) (fun x => [(3, .c (.sl x.2.2.2.1 x.2.1.length x.2.2.2.2)), (4, .c (.m 0 ad0)), (12, .c (.sl ma ms.length mc)), (13, lenV ms.length), (14, .c (.i .i64 x.1))])
    (fun x => .obj 0 ad0 (mapO x.2.2.1) :: .row 89 3 x.2.2.2.1 x.2.1.length x.2.2.2.2 (noC x.2.1) :: usesR x.2.1) (fun x => [noF x.2.1, inlF ma ms]) 1
    (fun x => x.1 ≤ ms.length ∧ pureN x.2.1 = notesP ((inlEra ms).take x.1) ∧ KvN x.2.2.1 x.2.1) (fun x => ms.length - x.1)
    (InFam.mk (0, [], [], none, 0) ⟨Nat.zero_le _, rfl, fun t ht => rfl⟩ (by repeat' first | exact SubE.nil | refine SubE.cons rfl ?_ ?_ | exact VEq.refl _ | refine VEq.int (by omega) | refine VEq.sl rfl (by first | rfl | omega | (rw [List.length_append]; rfl) | (simp; omega)) rfl) ((Ents.nilRow (ety := 89) (esz := 3)).trans ((Ents.perm (List.Perm.swap _ _ _)).trans (Ents.facts fun m h => ⟨fun n hn => (by cases hn), h.1, trivial⟩)))) (fun x hx => ?_)
  obtain ⟨i, ns, kv, na, nc⟩ := x
  obtain ⟨hi, hpe, hkv⟩ := hx
  dsimp only at hi hpe hkv ⊢
  by_cases hlt : i < ms.length
  · have hlt' : i < (inlEra ms).length := by rw [inlEra_len]; exact hlt
    have hst := notesP_take_succ hlt'
    have hnb := notesP_b (inlEra ms) i (by omega)
    rw [inlEra_get hlt, ← hpe] at hst
    rw [← hpe] at hnb
    have hnl : ns.length ≤ i := by have := hnb.len; simpa using this
    have hcg : ((inlC ms).drop (i * 6 + 0)).take 6 = ms[i].cells := inlC_get (o := 0) (k := 6) hlt (by omega)
    have hrd : ∀ L, Reads L [noF ns, inlF ma ms] 102 6 ma ms.length (inlC ms) := fun _ => inl_reads (fun _ h => ⟨h.2.1, trivial⟩)
    have hfk := inl_kids (a := ma) hlt
    clear hpe hlt'
    generalize ms[i] = x at *
    unfold Inl.cells at hcg
    have hus0 : ∀ n ∈ ns, n.uses.length ≤ i := fun n hn => (hnb.use n.pure (List.mem_map_of_mem hn)).1
    have hstop : addP (pureN ns) i x.era = (growP (pureN ns) x.text).modify (atP (pureN ns) x.text) fun p => touchP p (i + 1) (inlEra x.kids) := by unfold addP; rw [Inl.era_text, Inl.era_kids]
    by_cases hc : x.text = [] ∨ findL (namesP (pureN ns)) x.text ns.length = none
    · have hat := (addP_new (ps := pureN ns) (i := i) (m := x.era) (by rw [Inl.era_text]; simpa using hc)).2
      rw [Inl.era_text] at hat
      have hgrow : pureN (ns ++ [newN x.text]) = growP (pureN ns) x.text := by
        unfold growP; rw [if_pos hat]; simp [pureN, NoM.pure, inlEra, newN]
      have hus : ∀ n ∈ ns ++ [newN x.text], n.uses.length ≤ i := fun n hn => by
        rcases List.mem_append.1 hn with hn | hn
        · exact hus0 n hn
        · rw [List.mem_singleton.1 hn]; exact Nat.zero_le i
      rw [show (pureN ns).length = ns.length by simp] at hat
      have hgn : x.text ≠ [] → kvGet kv x.text = none := fun h => by
        rw [hkv x.text h]
        rcases hc with hc | hc
        · exact absurd hc h
        · rw [hc]; rfl
      repeat' first
        | refine J_stop (c := .seq (.seq (.region 7 _ _) _) _) ?_
        | refine J_seq ?_ | refine J_region Tryz.tyOK ?_ | refine J_block ?_ | refine J_cond ?_ | refine J_ret ?_ | refine J_skip ?_ | refine J_exit ?_ | refine J_scope ?_
        | refine CondP.yes (by omega) ?_ | refine CondP.no (by omega) ?_ | refine CondP.mk (fun h => ?_) (fun h => ?_) | refine EqP.mk rfl ?_ | refine NewP.mk (fun ad => ?_) | refine ArP.exact (by simp only [inR]; omega) ?_ | refine SideP.mk (by first | omega | (dsimp only; omega) | (simp; omega)) ?_
        | refine IdxE.mk 102 6 _ (hrd _) (by omega) (by omega) ?_ | refine LoadE.mk 102 ms.length _ _ (hrd _) (by omega) (by omega) (by decide) (by exact hcg) ?_ | refine MapE.mk kv rfl rfl ?_ | refine LookP.mk (fun v hv => ?_) (fun hv => ?_)
        | fail
      · by_cases h0 : x.text = []
        · refine ⟨?_⟩
          obtain ⟨adm, hadm⟩ : ∃ y, y = ad := ⟨_, rfl⟩
          subst hadm
          refine J_cut (α := List NoM × Kv × Option Addr × Nat × Nat) (fun z => [(3, .c (.sl z.2.2.1 z.1.length z.2.2.2.1)), (4, .c (.m 0 ad0)), (5, .c (.i .i64 i)), (6, .c (.p 1 adm 0)), (7, .c (.i .i64 z.2.2.2.2)), (12, .c (.sl ma ms.length mc)), (13, lenV ms.length), (14, .c (.i .i64 i))]) (fun z => .box 1 adm 102 [.i .i64 x.kind, .s x.text, .i .i64 x.sp, .s x.name, .s x.anchor, .sl x.ka x.kids.length x.kc] :: .obj 0 ad0 (mapO z.2.1) :: .row 89 3 z.2.2.1 z.1.length z.2.2.2.1 (noC z.1) :: usesR z.1) (fun z => [noF z.1, inlF ma ms]) 2 (fun z => z.2.2.2.2 < z.1.length ∧ pureN z.1 = growP (pureN ns) x.text ∧ z.2.2.2.2 = atP (pureN ns) x.text ∧ KvN z.2.1 z.1 ∧ z.1.length ≤ i + 1 ∧ ∀ n ∈ z.1, n.uses.length ≤ i) ?_ (fun z hz => ?_)
          · repeat' first
              | refine J_seq ?_ | refine J_region Tryz.tyOK ?_ | refine J_block ?_ | refine J_cond ?_ | refine J_ret ?_ | refine J_skip ?_ | refine J_exit ?_ | refine J_scope ?_
              | refine CondP.yes (by omega) ?_ | refine CondP.no (by omega) ?_ | refine CondP.mk (fun h => ?_) (fun h => ?_) | refine EqP.mk rfl ?_ | refine NewP.mk (fun ad => ?_) | refine ArP.exact (by simp only [inR]; omega) ?_ | refine SideP.mk (by first | omega | (dsimp only; omega) | (simp; omega)) ?_
              | (refine AppE.row [_, _, _] _ (noC ns) [.s x.text, .sl none 0 0, .sl none 0 0] 1 rfl (SrcE.sl 89 89 _ _ 1 _ _ rfl rfl (.inl ⟨_, List.Mem.head _⟩) rfl) (by dsimp only; omega) (fun a' c' => ?_)) | refine MapE.mk kv rfl rfl ?_ | exact absurd (by assumption) ‹¬ x.text = []›
              | fail
            all_goals
              have hap : noC ns ++ [.s x.text, .sl none 0 0, .sl none 0 0] = noC (ns ++ [newN x.text]) := (noC_one ns (newN x.text)).symm
              have hla : ns.length + 1 = (ns ++ [newN x.text]).length := by simp
              refine InFam.mk (ns ++ [newN x.text], kvPut kv x.text (lenV ns.length), a', c', ns.length) ⟨by dsimp only; omega, hgrow, hat.symm, kvN_new (n := newN x.text) hkv, by dsimp only; omega, hus⟩ ?_ ?_
              · repeat' first | exact SubE.nil | refine SubE.cons rfl ?_ ?_ | exact VEq.refl _ | refine VEq.int (by omega) | exact VEq.sl rfl hla rfl
              · exact ents_new
          · obtain ⟨ns', kv', na', nc', k⟩ := z
            obtain ⟨hk, hg, hka, hkv', hnl', hus'⟩ := hz
            dsimp only at hk hg hka hkv' hnl' hus' ⊢
            obtain ⟨R, hR⟩ : ∃ R, R = usesR (ns'.take k) ++ usesR (ns'.drop (k + 1)) := ⟨_, rfl⟩
            refine J_mem (L' := useR ns'[k] :: .box 1 adm 102 [.i .i64 x.kind, .s x.text, .i .i64 x.sp, .s x.name, .s x.anchor, .sl x.ka x.kids.length x.kc] :: .obj 0 ad0 (mapO kv') :: .row 89 3 na' ns'.length nc' (noC ns') :: R) (n' := 2) (Ents.perm (by rw [hR, usesR_split hk]; exact List.perm_middle (l₁ := _ :: _ :: _ :: usesR (ns'.take k)))) ?_
            have hgu : ((noC ns').drop (k * 3 + 2)).take 1 = [.sl ns'[k].ua ns'[k].uses.length ns'[k].uc] := noC_get hk (o := 2) (k := 1) (by omega)
            have hs2 : ∀ ua uc us, setC (k * 3 + 2) [.sl ua us.length uc] (noC ns') = noC (ns'.set k (updN ns'[k] ua uc us)) := fun ua uc us => noC_set hk (o := 2) (Nat.le_refl 3) rfl
            have hg1 : ∀ Y, ((noC (ns'.set k Y)).drop (k * 3 + 1)).take 1 = [.sl Y.ia Y.inl.length Y.ic] := fun Y => by
              have h := noC_get (ns := ns'.set k Y) (i := k) (by rw [List.length_set]; exact hk) (o := 1) (k := 1) (by omega)
              rw [List.getElem_set_self] at h
              exact h
            have hs1 : ∀ Y ka kc ks, setC (k * 3 + 1) [.sl ka ks.length kc] (noC (ns'.set k Y)) = noC (ns'.set k (kidN Y ka kc ks)) := fun Y ka kc ks => by
              have h := noC_set (ns := ns'.set k Y) (j := k) (by rw [List.length_set]; exact hk) (o := 1) (cs := [.sl ka ks.length kc]) (n := kidN Y ka kc ks) (Nat.le_succ 2) (by rw [List.getElem_set_self]; rfl)
              rw [List.set_set] at h
              exact h
            have hul := hus' ns'[k] (List.getElem_mem hk)
            have hmem := fun (m : Im) (h : (noF ns').p m) => h ns'[k] (List.getElem_mem hk)
            have hpu : ∀ Y : NoM, Y.pure = touchP ns'[k].pure (i + 1) (inlEra x.kids) → pureN (ns'.set k Y) = notesP ((inlEra ms).take (i + 1)) := fun Y hY => by rw [hst, hstop, ← hg, ← hka]; exact pure_set hk hY
            have hkn : ∀ Y : NoM, Y.name = ns'[k].name → KvN kv' (ns'.set k Y) := fun Y hY => kvN_set hkv' hk hY
            generalize ns'[k] = y at *
            clear hus' hkv' hg hka hst hstop
            refine J_seq ?_
            refine J_region Tryz.tyOK ?_
            refine IdxE.mk 89 3 _ (.inl ⟨_, List.Mem.tail _ (List.Mem.tail _ (List.Mem.tail _ (List.Mem.head _)))⟩) (by omega) (by omega) ?_
            refine J_seq ?_
            refine J_region Tryz.tyOK ?_
            refine FldE.mk 89 3 _ _ (.inl ⟨_, List.Mem.tail _ (List.Mem.tail _ (List.Mem.tail _ (List.Mem.head _)))⟩) (by omega) ?_
            refine FldE.mk 89 3 _ _ (.inl ⟨_, List.Mem.tail _ (List.Mem.tail _ (List.Mem.tail _ (List.Mem.head _)))⟩) (by omega) ?_
            refine LoadE.mk 89 _ _ [.sl y.ua y.uses.length y.uc] (.inl ⟨_, List.Mem.tail _ (List.Mem.tail _ (List.Mem.tail _ (List.Mem.head _)))⟩) (by omega) (by omega) (by decide) (by exact hgu) ?_
            repeat' first | refine ArP.exact (by simp only [inR]; omega) ?_ | refine NewP.mk (fun ad => ?_) | refine SideP.mk (by first | omega | decide) ?_ | refine EqP.mk rfl ?_
            refine AppE.row [_] _ (y.uses.map (C.i .i64)) [.i .i64 ((i : Int) + 1)] 1 rfl (SrcE.sl 3 3 _ _ 1 1 _ rfl rfl (.inl ⟨1, List.Mem.head _⟩) rfl) (by dsimp only; omega) (fun a2 c2 => ?_)
            rw [show y.uses.length + 1 = (y.uses ++ [((i : Int) + 1)]).length by simp, show y.uses.map (C.i .i64) ++ [.i .i64 ((i : Int) + 1)] = (y.uses ++ [((i : Int) + 1)]).map (C.i .i64) by simp]
            refine FldE.mk 89 3 _ _ (.inl ⟨_, List.Mem.tail _ (List.Mem.tail _ (List.Mem.tail _ (List.Mem.tail _ (List.Mem.head _))))⟩) (by omega) ?_
            refine FldE.mk 89 3 _ _ (.inl ⟨_, List.Mem.tail _ (List.Mem.tail _ (List.Mem.tail _ (List.Mem.tail _ (List.Mem.head _))))⟩) (by omega) ?_
            refine StoreE.mk [_, _, _, _] _ _ _ _ _ (noC (ns'.set k (updN y a2 c2 (y.uses ++ [((i : Int) + 1)])))) rfl (by omega) (by omega) (Nat.le_refl 3) (by exact hs2 a2 c2 (y.uses ++ [((i : Int) + 1)])) ?_
            refine J_seq ?_
            refine J_region Tryz.tyOK ?_
            refine FldE.mk 89 3 _ _ (.inl ⟨_, List.Mem.tail _ (List.Mem.tail _ (List.Mem.tail _ (List.Mem.tail _ (List.Mem.head _))))⟩) (by omega) ?_
            refine FldE.mk 89 3 _ _ (.inl ⟨_, List.Mem.tail _ (List.Mem.tail _ (List.Mem.tail _ (List.Mem.tail _ (List.Mem.head _))))⟩) (by omega) ?_
            refine LoadE.mk 89 _ _ [.sl y.ia y.inl.length y.ic] (.inl ⟨_, List.Mem.tail _ (List.Mem.tail _ (List.Mem.tail _ (List.Mem.tail _ (List.Mem.head _))))⟩) (by omega) (by omega) (by decide) (by exact hg1 (updN y a2 c2 (y.uses ++ [((i : Int) + 1)]))) ?_
            repeat' first | refine J_cond ?_ | refine CondP.mk (fun h => ?_) (fun h => ?_) | refine EqP.mk rfl ?_ | refine J_skip ?_
            · refine J_region Tryz.tyOK ?_
              refine EqP.mk rfl ?_
              refine FldE.mk 89 3 _ _ (.inl ⟨_, List.Mem.tail _ (List.Mem.tail _ (List.Mem.tail _ (List.Mem.tail _ (List.Mem.head _))))⟩) (by omega) ?_
              refine FldE.mk 89 3 _ _ (.inl ⟨_, List.Mem.tail _ (List.Mem.tail _ (List.Mem.tail _ (List.Mem.tail _ (List.Mem.head _))))⟩) (by omega) ?_
              refine StoreE.mk [_, _, _, _] _ _ _ _ _ (noC (ns'.set k (kidN (updN y a2 c2 (y.uses ++ [((i : Int) + 1)])) x.ka x.kc x.kids))) rfl (by omega) (by omega) (Nat.le_succ 2) (by exact hs1 (updN y a2 c2 (y.uses ++ [((i : Int) + 1)])) x.ka x.kc x.kids) ?_
              repeat' first
                | refine J_seq ?_ | refine J_region Tryz.tyOK ?_ | refine J_block ?_ | refine J_cond ?_ | refine J_ret ?_ | refine J_skip ?_ | refine J_exit ?_ | refine J_scope ?_
                | refine CondP.yes (by omega) ?_ | refine CondP.no (by omega) ?_ | refine CondP.mk (fun h => ?_) (fun h => ?_) | refine EqP.mk rfl ?_ | refine NewP.mk (fun ad => ?_) | refine ArP.exact (by simp only [inR]; omega) ?_ | refine SideP.mk (by first | omega | (dsimp only; omega) | (simp; omega)) ?_
                | refine Round.mk (i + 1, ns'.set k (kidN (updN y a2 c2 (y.uses ++ [((i : Int) + 1)])) x.ka x.kc x.kids), kv', na', nc') ?_ ?_ ?_ ?_
                | fail
              · dsimp only; omega
              · refine ⟨by dsimp only; omega, hpu (kidN (updN y a2 c2 (y.uses ++ [((i : Int) + 1)])) x.ka x.kc x.kids) ?_, hkn (kidN (updN y a2 c2 (y.uses ++ [((i : Int) + 1)])) x.ka x.kc x.kids) rfl⟩
                have h0 : y.inl = [] := List.eq_nil_of_length_eq_zero (by omega)
                simp [NoM.pure, touchP, kidN, updN, h0, inlEra]
              · repeat' first | exact SubE.nil | refine SubE.cons rfl ?_ ?_ | exact VEq.refl _ | refine VEq.int (by omega) | exact VEq.sl rfl (by dsimp only; rw [List.length_set]) rfl
              · exact (ents_end hk (kidN (updN y a2 c2 (y.uses ++ [((i : Int) + 1)])) x.ka x.kc x.kids) hR).trans (Ents.facts fun m h => ⟨noF_set h.1 ((hfk m ⟨h.2.1, trivial⟩).1), h.2.1, trivial⟩)
            · repeat' first
                | refine J_seq ?_ | refine J_region Tryz.tyOK ?_ | refine J_block ?_ | refine J_cond ?_ | refine J_ret ?_ | refine J_skip ?_ | refine J_exit ?_ | refine J_scope ?_
                | refine CondP.yes (by omega) ?_ | refine CondP.no (by omega) ?_ | refine CondP.mk (fun h => ?_) (fun h => ?_) | refine EqP.mk rfl ?_ | refine NewP.mk (fun ad => ?_) | refine ArP.exact (by simp only [inR]; omega) ?_ | refine SideP.mk (by first | omega | (dsimp only; omega) | (simp; omega)) ?_
                | refine Round.mk (i + 1, ns'.set k (updN y a2 c2 (y.uses ++ [((i : Int) + 1)])), kv', na', nc') ?_ ?_ ?_ ?_
                | fail
              · dsimp only; omega
              · refine ⟨by dsimp only; omega, hpu (updN y a2 c2 (y.uses ++ [((i : Int) + 1)])) ?_, hkn (updN y a2 c2 (y.uses ++ [((i : Int) + 1)])) rfl⟩
                have h0 : inlEra y.inl ≠ [] := fun e => absurd (inlEra_len y.inl) (by rw [e]; simp; omega)
                simp [NoM.pure, touchP, updN, h0]
              · repeat' first | exact SubE.nil | refine SubE.cons rfl ?_ ?_ | exact VEq.refl _ | refine VEq.int (by omega) | exact VEq.sl rfl (by dsimp only; rw [List.length_set]) rfl
              · exact (ents_end hk (updN y a2 c2 (y.uses ++ [((i : Int) + 1)])) hR).trans (Ents.facts fun m h => ⟨noF_set h.1 (hmem m h.1), h.2.1, trivial⟩)
        · have hz : (none : Option V) = some v := (hgn h0).symm.trans hv
          cases hz
      · refine ⟨?_⟩
        obtain ⟨adm, hadm⟩ : ∃ y, y = ad := ⟨_, rfl⟩
        subst hadm
        refine J_cut (α := List NoM × Kv × Option Addr × Nat × Nat) (fun z => [(3, .c (.sl z.2.2.1 z.1.length z.2.2.2.1)), (4, .c (.m 0 ad0)), (5, .c (.i .i64 i)), (6, .c (.p 1 adm 0)), (7, .c (.i .i64 z.2.2.2.2)), (12, .c (.sl ma ms.length mc)), (13, lenV ms.length), (14, .c (.i .i64 i))]) (fun z => .box 1 adm 102 [.i .i64 x.kind, .s x.text, .i .i64 x.sp, .s x.name, .s x.anchor, .sl x.ka x.kids.length x.kc] :: .obj 0 ad0 (mapO z.2.1) :: .row 89 3 z.2.2.1 z.1.length z.2.2.2.1 (noC z.1) :: usesR z.1) (fun z => [noF z.1, inlF ma ms]) 2 (fun z => z.2.2.2.2 < z.1.length ∧ pureN z.1 = growP (pureN ns) x.text ∧ z.2.2.2.2 = atP (pureN ns) x.text ∧ KvN z.2.1 z.1 ∧ z.1.length ≤ i + 1 ∧ ∀ n ∈ z.1, n.uses.length ≤ i) ?_ (fun z hz => ?_)
        · repeat' first
            | refine J_seq ?_ | refine J_region Tryz.tyOK ?_ | refine J_block ?_ | refine J_cond ?_ | refine J_ret ?_ | refine J_skip ?_ | refine J_exit ?_ | refine J_scope ?_
            | refine CondP.yes (by omega) ?_ | refine CondP.no (by omega) ?_ | refine CondP.mk (fun h => ?_) (fun h => ?_) | refine EqP.mk rfl ?_ | refine NewP.mk (fun ad => ?_) | refine ArP.exact (by simp only [inR]; omega) ?_ | refine SideP.mk (by first | omega | (dsimp only; omega) | (simp; omega)) ?_
            | (refine AppE.row [_, _, _] _ (noC ns) [.s x.text, .sl none 0 0, .sl none 0 0] 1 rfl (SrcE.sl 89 89 _ _ 1 _ _ rfl rfl (.inl ⟨_, List.Mem.head _⟩) rfl) (by dsimp only; omega) (fun a' c' => ?_)) | refine MapE.mk kv rfl rfl ?_ | exact absurd (by assumption) ‹¬ x.text = []›
            | fail
          all_goals
            have hap : noC ns ++ [.s x.text, .sl none 0 0, .sl none 0 0] = noC (ns ++ [newN x.text]) := (noC_one ns (newN x.text)).symm
            have hla : ns.length + 1 = (ns ++ [newN x.text]).length := by simp
            refine InFam.mk (ns ++ [newN x.text], kvPut kv x.text (lenV ns.length), a', c', ns.length) ⟨by dsimp only; omega, hgrow, hat.symm, kvN_new (n := newN x.text) hkv, by dsimp only; omega, hus⟩ ?_ ?_
            · repeat' first | exact SubE.nil | refine SubE.cons rfl ?_ ?_ | exact VEq.refl _ | refine VEq.int (by omega) | exact VEq.sl rfl hla rfl
            · exact ents_new
        · obtain ⟨ns', kv', na', nc', k⟩ := z
          obtain ⟨hk, hg, hka, hkv', hnl', hus'⟩ := hz
          dsimp only at hk hg hka hkv' hnl' hus' ⊢
          obtain ⟨R, hR⟩ : ∃ R, R = usesR (ns'.take k) ++ usesR (ns'.drop (k + 1)) := ⟨_, rfl⟩
          refine J_mem (L' := useR ns'[k] :: .box 1 adm 102 [.i .i64 x.kind, .s x.text, .i .i64 x.sp, .s x.name, .s x.anchor, .sl x.ka x.kids.length x.kc] :: .obj 0 ad0 (mapO kv') :: .row 89 3 na' ns'.length nc' (noC ns') :: R) (n' := 2) (Ents.perm (by rw [hR, usesR_split hk]; exact List.perm_middle (l₁ := _ :: _ :: _ :: usesR (ns'.take k)))) ?_
          have hgu : ((noC ns').drop (k * 3 + 2)).take 1 = [.sl ns'[k].ua ns'[k].uses.length ns'[k].uc] := noC_get hk (o := 2) (k := 1) (by omega)
          have hs2 : ∀ ua uc us, setC (k * 3 + 2) [.sl ua us.length uc] (noC ns') = noC (ns'.set k (updN ns'[k] ua uc us)) := fun ua uc us => noC_set hk (o := 2) (Nat.le_refl 3) rfl
          have hg1 : ∀ Y, ((noC (ns'.set k Y)).drop (k * 3 + 1)).take 1 = [.sl Y.ia Y.inl.length Y.ic] := fun Y => by
            have h := noC_get (ns := ns'.set k Y) (i := k) (by rw [List.length_set]; exact hk) (o := 1) (k := 1) (by omega)
            rw [List.getElem_set_self] at h
            exact h
          have hs1 : ∀ Y ka kc ks, setC (k * 3 + 1) [.sl ka ks.length kc] (noC (ns'.set k Y)) = noC (ns'.set k (kidN Y ka kc ks)) := fun Y ka kc ks => by
            have h := noC_set (ns := ns'.set k Y) (j := k) (by rw [List.length_set]; exact hk) (o := 1) (cs := [.sl ka ks.length kc]) (n := kidN Y ka kc ks) (Nat.le_succ 2) (by rw [List.getElem_set_self]; rfl)
            rw [List.set_set] at h
            exact h
          have hul := hus' ns'[k] (List.getElem_mem hk)
          have hmem := fun (m : Im) (h : (noF ns').p m) => h ns'[k] (List.getElem_mem hk)
          have hpu : ∀ Y : NoM, Y.pure = touchP ns'[k].pure (i + 1) (inlEra x.kids) → pureN (ns'.set k Y) = notesP ((inlEra ms).take (i + 1)) := fun Y hY => by rw [hst, hstop, ← hg, ← hka]; exact pure_set hk hY
          have hkn : ∀ Y : NoM, Y.name = ns'[k].name → KvN kv' (ns'.set k Y) := fun Y hY => kvN_set hkv' hk hY
          generalize ns'[k] = y at *
          clear hus' hkv' hg hka hst hstop
          refine J_seq ?_
          refine J_region Tryz.tyOK ?_
          refine IdxE.mk 89 3 _ (.inl ⟨_, List.Mem.tail _ (List.Mem.tail _ (List.Mem.tail _ (List.Mem.head _)))⟩) (by omega) (by omega) ?_
          refine J_seq ?_
          refine J_region Tryz.tyOK ?_
          refine FldE.mk 89 3 _ _ (.inl ⟨_, List.Mem.tail _ (List.Mem.tail _ (List.Mem.tail _ (List.Mem.head _)))⟩) (by omega) ?_
          refine FldE.mk 89 3 _ _ (.inl ⟨_, List.Mem.tail _ (List.Mem.tail _ (List.Mem.tail _ (List.Mem.head _)))⟩) (by omega) ?_
          refine LoadE.mk 89 _ _ [.sl y.ua y.uses.length y.uc] (.inl ⟨_, List.Mem.tail _ (List.Mem.tail _ (List.Mem.tail _ (List.Mem.head _)))⟩) (by omega) (by omega) (by decide) (by exact hgu) ?_
          repeat' first | refine ArP.exact (by simp only [inR]; omega) ?_ | refine NewP.mk (fun ad => ?_) | refine SideP.mk (by first | omega | decide) ?_ | refine EqP.mk rfl ?_
          refine AppE.row [_] _ (y.uses.map (C.i .i64)) [.i .i64 ((i : Int) + 1)] 1 rfl (SrcE.sl 3 3 _ _ 1 1 _ rfl rfl (.inl ⟨1, List.Mem.head _⟩) rfl) (by dsimp only; omega) (fun a2 c2 => ?_)
          rw [show y.uses.length + 1 = (y.uses ++ [((i : Int) + 1)]).length by simp, show y.uses.map (C.i .i64) ++ [.i .i64 ((i : Int) + 1)] = (y.uses ++ [((i : Int) + 1)]).map (C.i .i64) by simp]
          refine FldE.mk 89 3 _ _ (.inl ⟨_, List.Mem.tail _ (List.Mem.tail _ (List.Mem.tail _ (List.Mem.tail _ (List.Mem.head _))))⟩) (by omega) ?_
          refine FldE.mk 89 3 _ _ (.inl ⟨_, List.Mem.tail _ (List.Mem.tail _ (List.Mem.tail _ (List.Mem.tail _ (List.Mem.head _))))⟩) (by omega) ?_
          refine StoreE.mk [_, _, _, _] _ _ _ _ _ (noC (ns'.set k (updN y a2 c2 (y.uses ++ [((i : Int) + 1)])))) rfl (by omega) (by omega) (Nat.le_refl 3) (by exact hs2 a2 c2 (y.uses ++ [((i : Int) + 1)])) ?_
          refine J_seq ?_
          refine J_region Tryz.tyOK ?_
          refine FldE.mk 89 3 _ _ (.inl ⟨_, List.Mem.tail _ (List.Mem.tail _ (List.Mem.tail _ (List.Mem.tail _ (List.Mem.head _))))⟩) (by omega) ?_
          refine FldE.mk 89 3 _ _ (.inl ⟨_, List.Mem.tail _ (List.Mem.tail _ (List.Mem.tail _ (List.Mem.tail _ (List.Mem.head _))))⟩) (by omega) ?_
          refine LoadE.mk 89 _ _ [.sl y.ia y.inl.length y.ic] (.inl ⟨_, List.Mem.tail _ (List.Mem.tail _ (List.Mem.tail _ (List.Mem.tail _ (List.Mem.head _))))⟩) (by omega) (by omega) (by decide) (by exact hg1 (updN y a2 c2 (y.uses ++ [((i : Int) + 1)]))) ?_
          repeat' first | refine J_cond ?_ | refine CondP.mk (fun h => ?_) (fun h => ?_) | refine EqP.mk rfl ?_ | refine J_skip ?_
          · refine J_region Tryz.tyOK ?_
            refine EqP.mk rfl ?_
            refine FldE.mk 89 3 _ _ (.inl ⟨_, List.Mem.tail _ (List.Mem.tail _ (List.Mem.tail _ (List.Mem.tail _ (List.Mem.head _))))⟩) (by omega) ?_
            refine FldE.mk 89 3 _ _ (.inl ⟨_, List.Mem.tail _ (List.Mem.tail _ (List.Mem.tail _ (List.Mem.tail _ (List.Mem.head _))))⟩) (by omega) ?_
            refine StoreE.mk [_, _, _, _] _ _ _ _ _ (noC (ns'.set k (kidN (updN y a2 c2 (y.uses ++ [((i : Int) + 1)])) x.ka x.kc x.kids))) rfl (by omega) (by omega) (Nat.le_succ 2) (by exact hs1 (updN y a2 c2 (y.uses ++ [((i : Int) + 1)])) x.ka x.kc x.kids) ?_
            repeat' first
              | refine J_seq ?_ | refine J_region Tryz.tyOK ?_ | refine J_block ?_ | refine J_cond ?_ | refine J_ret ?_ | refine J_skip ?_ | refine J_exit ?_ | refine J_scope ?_
              | refine CondP.yes (by omega) ?_ | refine CondP.no (by omega) ?_ | refine CondP.mk (fun h => ?_) (fun h => ?_) | refine EqP.mk rfl ?_ | refine NewP.mk (fun ad => ?_) | refine ArP.exact (by simp only [inR]; omega) ?_ | refine SideP.mk (by first | omega | (dsimp only; omega) | (simp; omega)) ?_
              | refine Round.mk (i + 1, ns'.set k (kidN (updN y a2 c2 (y.uses ++ [((i : Int) + 1)])) x.ka x.kc x.kids), kv', na', nc') ?_ ?_ ?_ ?_
              | fail
            · dsimp only; omega
            · refine ⟨by dsimp only; omega, hpu (kidN (updN y a2 c2 (y.uses ++ [((i : Int) + 1)])) x.ka x.kc x.kids) ?_, hkn (kidN (updN y a2 c2 (y.uses ++ [((i : Int) + 1)])) x.ka x.kc x.kids) rfl⟩
              have h0 : y.inl = [] := List.eq_nil_of_length_eq_zero (by omega)
              simp [NoM.pure, touchP, kidN, updN, h0, inlEra]
            · repeat' first | exact SubE.nil | refine SubE.cons rfl ?_ ?_ | exact VEq.refl _ | refine VEq.int (by omega) | exact VEq.sl rfl (by dsimp only; rw [List.length_set]) rfl
            · exact (ents_end hk (kidN (updN y a2 c2 (y.uses ++ [((i : Int) + 1)])) x.ka x.kc x.kids) hR).trans (Ents.facts fun m h => ⟨noF_set h.1 ((hfk m ⟨h.2.1, trivial⟩).1), h.2.1, trivial⟩)
          · repeat' first
              | refine J_seq ?_ | refine J_region Tryz.tyOK ?_ | refine J_block ?_ | refine J_cond ?_ | refine J_ret ?_ | refine J_skip ?_ | refine J_exit ?_ | refine J_scope ?_
              | refine CondP.yes (by omega) ?_ | refine CondP.no (by omega) ?_ | refine CondP.mk (fun h => ?_) (fun h => ?_) | refine EqP.mk rfl ?_ | refine NewP.mk (fun ad => ?_) | refine ArP.exact (by simp only [inR]; omega) ?_ | refine SideP.mk (by first | omega | (dsimp only; omega) | (simp; omega)) ?_
              | refine Round.mk (i + 1, ns'.set k (updN y a2 c2 (y.uses ++ [((i : Int) + 1)])), kv', na', nc') ?_ ?_ ?_ ?_
              | fail
            · dsimp only; omega
            · refine ⟨by dsimp only; omega, hpu (updN y a2 c2 (y.uses ++ [((i : Int) + 1)])) ?_, hkn (updN y a2 c2 (y.uses ++ [((i : Int) + 1)])) rfl⟩
              have h0 : inlEra y.inl ≠ [] := fun e => absurd (inlEra_len y.inl) (by rw [e]; simp; omega)
              simp [NoM.pure, touchP, updN, h0]
            · repeat' first | exact SubE.nil | refine SubE.cons rfl ?_ ?_ | exact VEq.refl _ | refine VEq.int (by omega) | exact VEq.sl rfl (by dsimp only; rw [List.length_set]) rfl
            · exact (ents_end hk (updN y a2 c2 (y.uses ++ [((i : Int) + 1)])) hR).trans (Ents.facts fun m h => ⟨noF_set h.1 (hmem m h.1), h.2.1, trivial⟩)
    · rw [not_or] at hc
      obtain ⟨h0, hf⟩ := hc
      obtain ⟨k0, hk0⟩ := Option.ne_none_iff_exists'.1 hf
      have hkl : k0 < ns.length := findL_lt hk0
      have hG : kvGet kv x.text = some (.c (.i .i64 k0)) := by rw [hkv x.text h0, hk0]; rfl
      have hat : atP (pureN ns) x.text = k0 := by unfold atP; rw [if_neg h0, show (pureN ns).length = ns.length by simp, hk0]; rfl
      have hgrow : pureN ns = growP (pureN ns) x.text := by unfold growP; rw [hat, if_neg (by simp; omega)]
      clear hf
      repeat' first
        | refine J_stop (c := .seq (.seq (.region 7 _ _) _) _) ?_
        | refine J_seq ?_ | refine J_region Tryz.tyOK ?_ | refine J_block ?_ | refine J_cond ?_ | refine J_ret ?_ | refine J_skip ?_ | refine J_exit ?_ | refine J_scope ?_
        | refine CondP.yes (by omega) ?_ | refine CondP.no (by omega) ?_ | refine CondP.mk (fun h => ?_) (fun h => ?_) | refine EqP.mk rfl ?_ | refine NewP.mk (fun ad => ?_) | refine ArP.exact (by simp only [inR]; omega) ?_ | refine SideP.mk (by first | omega | (dsimp only; omega) | (simp; omega)) ?_
        | refine IdxE.mk 102 6 _ (hrd _) (by omega) (by omega) ?_ | refine LoadE.mk 102 ms.length _ _ (hrd _) (by omega) (by omega) (by decide) (by exact hcg) ?_ | refine MapE.mk kv rfl rfl ?_ | (refine LookP.mk (fun v hv => ?_) (fun hv => absurd (hG.symm.trans hv) (by simp)); cases hG.symm.trans hv)
        | fail
      refine ⟨?_⟩
      obtain ⟨adm, hadm⟩ : ∃ y, y = ad := ⟨_, rfl⟩
      subst hadm
      refine J_cut (α := List NoM × Kv × Option Addr × Nat × Nat) (fun z => [(3, .c (.sl z.2.2.1 z.1.length z.2.2.2.1)), (4, .c (.m 0 ad0)), (5, .c (.i .i64 i)), (6, .c (.p 1 adm 0)), (7, .c (.i .i64 z.2.2.2.2)), (12, .c (.sl ma ms.length mc)), (13, lenV ms.length), (14, .c (.i .i64 i))]) (fun z => .box 1 adm 102 [.i .i64 x.kind, .s x.text, .i .i64 x.sp, .s x.name, .s x.anchor, .sl x.ka x.kids.length x.kc] :: .obj 0 ad0 (mapO z.2.1) :: .row 89 3 z.2.2.1 z.1.length z.2.2.2.1 (noC z.1) :: usesR z.1) (fun z => [noF z.1, inlF ma ms]) 2 (fun z => z.2.2.2.2 < z.1.length ∧ pureN z.1 = growP (pureN ns) x.text ∧ z.2.2.2.2 = atP (pureN ns) x.text ∧ KvN z.2.1 z.1 ∧ z.1.length ≤ i + 1 ∧ ∀ n ∈ z.1, n.uses.length ≤ i) ?_ (fun z hz => ?_)
      · repeat' first
          | refine CondP.no h0 ?_
          | refine J_seq ?_ | refine J_region Tryz.tyOK ?_ | refine J_block ?_ | refine J_cond ?_ | refine J_ret ?_ | refine J_skip ?_ | refine J_exit ?_ | refine J_scope ?_
          | refine CondP.yes (by omega) ?_ | refine CondP.no (by omega) ?_ | refine CondP.mk (fun h => ?_) (fun h => ?_) | refine EqP.mk rfl ?_ | refine NewP.mk (fun ad => ?_) | refine ArP.exact (by simp only [inR]; omega) ?_ | refine SideP.mk (by first | omega | (dsimp only; omega) | (simp; omega)) ?_
          | fail
        exact InFam.mk (ns, kv, na, nc, k0) ⟨hkl, hgrow, hat.symm, hkv, by dsimp only; omega, hus0⟩ (by repeat' first | exact SubE.nil | refine SubE.cons rfl ?_ ?_ | exact VEq.refl _ | refine VEq.int (by omega) | refine VEq.sl rfl (by first | rfl | omega | (rw [List.length_append]; rfl) | (simp; omega)) rfl) (Ents.refl _ _)
      · obtain ⟨ns', kv', na', nc', k⟩ := z
        obtain ⟨hk, hg, hka, hkv', hnl', hus'⟩ := hz
        dsimp only at hk hg hka hkv' hnl' hus' ⊢
        obtain ⟨R, hR⟩ : ∃ R, R = usesR (ns'.take k) ++ usesR (ns'.drop (k + 1)) := ⟨_, rfl⟩
        refine J_mem (L' := useR ns'[k] :: .box 1 adm 102 [.i .i64 x.kind, .s x.text, .i .i64 x.sp, .s x.name, .s x.anchor, .sl x.ka x.kids.length x.kc] :: .obj 0 ad0 (mapO kv') :: .row 89 3 na' ns'.length nc' (noC ns') :: R) (n' := 2) (Ents.perm (by rw [hR, usesR_split hk]; exact List.perm_middle (l₁ := _ :: _ :: _ :: usesR (ns'.take k)))) ?_
        have hgu : ((noC ns').drop (k * 3 + 2)).take 1 = [.sl ns'[k].ua ns'[k].uses.length ns'[k].uc] := noC_get hk (o := 2) (k := 1) (by omega)
        have hs2 : ∀ ua uc us, setC (k * 3 + 2) [.sl ua us.length uc] (noC ns') = noC (ns'.set k (updN ns'[k] ua uc us)) := fun ua uc us => noC_set hk (o := 2) (Nat.le_refl 3) rfl
        have hg1 : ∀ Y, ((noC (ns'.set k Y)).drop (k * 3 + 1)).take 1 = [.sl Y.ia Y.inl.length Y.ic] := fun Y => by
          have h := noC_get (ns := ns'.set k Y) (i := k) (by rw [List.length_set]; exact hk) (o := 1) (k := 1) (by omega)
          rw [List.getElem_set_self] at h
          exact h
        have hs1 : ∀ Y ka kc ks, setC (k * 3 + 1) [.sl ka ks.length kc] (noC (ns'.set k Y)) = noC (ns'.set k (kidN Y ka kc ks)) := fun Y ka kc ks => by
          have h := noC_set (ns := ns'.set k Y) (j := k) (by rw [List.length_set]; exact hk) (o := 1) (cs := [.sl ka ks.length kc]) (n := kidN Y ka kc ks) (Nat.le_succ 2) (by rw [List.getElem_set_self]; rfl)
          rw [List.set_set] at h
          exact h
        have hul := hus' ns'[k] (List.getElem_mem hk)
        have hmem := fun (m : Im) (h : (noF ns').p m) => h ns'[k] (List.getElem_mem hk)
        have hpu : ∀ Y : NoM, Y.pure = touchP ns'[k].pure (i + 1) (inlEra x.kids) → pureN (ns'.set k Y) = notesP ((inlEra ms).take (i + 1)) := fun Y hY => by rw [hst, hstop, ← hg, ← hka]; exact pure_set hk hY
        have hkn : ∀ Y : NoM, Y.name = ns'[k].name → KvN kv' (ns'.set k Y) := fun Y hY => kvN_set hkv' hk hY
        generalize ns'[k] = y at *
        clear hus' hkv' hg hka hst hstop
        refine J_seq ?_
        refine J_region Tryz.tyOK ?_
        refine IdxE.mk 89 3 _ (.inl ⟨_, List.Mem.tail _ (List.Mem.tail _ (List.Mem.tail _ (List.Mem.head _)))⟩) (by omega) (by omega) ?_
        refine J_seq ?_
        refine J_region Tryz.tyOK ?_
        refine FldE.mk 89 3 _ _ (.inl ⟨_, List.Mem.tail _ (List.Mem.tail _ (List.Mem.tail _ (List.Mem.head _)))⟩) (by omega) ?_
        refine FldE.mk 89 3 _ _ (.inl ⟨_, List.Mem.tail _ (List.Mem.tail _ (List.Mem.tail _ (List.Mem.head _)))⟩) (by omega) ?_
        refine LoadE.mk 89 _ _ [.sl y.ua y.uses.length y.uc] (.inl ⟨_, List.Mem.tail _ (List.Mem.tail _ (List.Mem.tail _ (List.Mem.head _)))⟩) (by omega) (by omega) (by decide) (by exact hgu) ?_
        repeat' first | refine ArP.exact (by simp only [inR]; omega) ?_ | refine NewP.mk (fun ad => ?_) | refine SideP.mk (by first | omega | decide) ?_ | refine EqP.mk rfl ?_
        refine AppE.row [_] _ (y.uses.map (C.i .i64)) [.i .i64 ((i : Int) + 1)] 1 rfl (SrcE.sl 3 3 _ _ 1 1 _ rfl rfl (.inl ⟨1, List.Mem.head _⟩) rfl) (by dsimp only; omega) (fun a2 c2 => ?_)
        rw [show y.uses.length + 1 = (y.uses ++ [((i : Int) + 1)]).length by simp, show y.uses.map (C.i .i64) ++ [.i .i64 ((i : Int) + 1)] = (y.uses ++ [((i : Int) + 1)]).map (C.i .i64) by simp]
        refine FldE.mk 89 3 _ _ (.inl ⟨_, List.Mem.tail _ (List.Mem.tail _ (List.Mem.tail _ (List.Mem.tail _ (List.Mem.head _))))⟩) (by omega) ?_
        refine FldE.mk 89 3 _ _ (.inl ⟨_, List.Mem.tail _ (List.Mem.tail _ (List.Mem.tail _ (List.Mem.tail _ (List.Mem.head _))))⟩) (by omega) ?_
        refine StoreE.mk [_, _, _, _] _ _ _ _ _ (noC (ns'.set k (updN y a2 c2 (y.uses ++ [((i : Int) + 1)])))) rfl (by omega) (by omega) (Nat.le_refl 3) (by exact hs2 a2 c2 (y.uses ++ [((i : Int) + 1)])) ?_
        refine J_seq ?_
        refine J_region Tryz.tyOK ?_
        refine FldE.mk 89 3 _ _ (.inl ⟨_, List.Mem.tail _ (List.Mem.tail _ (List.Mem.tail _ (List.Mem.tail _ (List.Mem.head _))))⟩) (by omega) ?_
        refine FldE.mk 89 3 _ _ (.inl ⟨_, List.Mem.tail _ (List.Mem.tail _ (List.Mem.tail _ (List.Mem.tail _ (List.Mem.head _))))⟩) (by omega) ?_
        refine LoadE.mk 89 _ _ [.sl y.ia y.inl.length y.ic] (.inl ⟨_, List.Mem.tail _ (List.Mem.tail _ (List.Mem.tail _ (List.Mem.tail _ (List.Mem.head _))))⟩) (by omega) (by omega) (by decide) (by exact hg1 (updN y a2 c2 (y.uses ++ [((i : Int) + 1)]))) ?_
        repeat' first | refine J_cond ?_ | refine CondP.mk (fun h => ?_) (fun h => ?_) | refine EqP.mk rfl ?_ | refine J_skip ?_
        · refine J_region Tryz.tyOK ?_
          refine EqP.mk rfl ?_
          refine FldE.mk 89 3 _ _ (.inl ⟨_, List.Mem.tail _ (List.Mem.tail _ (List.Mem.tail _ (List.Mem.tail _ (List.Mem.head _))))⟩) (by omega) ?_
          refine FldE.mk 89 3 _ _ (.inl ⟨_, List.Mem.tail _ (List.Mem.tail _ (List.Mem.tail _ (List.Mem.tail _ (List.Mem.head _))))⟩) (by omega) ?_
          refine StoreE.mk [_, _, _, _] _ _ _ _ _ (noC (ns'.set k (kidN (updN y a2 c2 (y.uses ++ [((i : Int) + 1)])) x.ka x.kc x.kids))) rfl (by omega) (by omega) (Nat.le_succ 2) (by exact hs1 (updN y a2 c2 (y.uses ++ [((i : Int) + 1)])) x.ka x.kc x.kids) ?_
          repeat' first
            | refine J_seq ?_ | refine J_region Tryz.tyOK ?_ | refine J_block ?_ | refine J_cond ?_ | refine J_ret ?_ | refine J_skip ?_ | refine J_exit ?_ | refine J_scope ?_
            | refine CondP.yes (by omega) ?_ | refine CondP.no (by omega) ?_ | refine CondP.mk (fun h => ?_) (fun h => ?_) | refine EqP.mk rfl ?_ | refine NewP.mk (fun ad => ?_) | refine ArP.exact (by simp only [inR]; omega) ?_ | refine SideP.mk (by first | omega | (dsimp only; omega) | (simp; omega)) ?_
            | refine Round.mk (i + 1, ns'.set k (kidN (updN y a2 c2 (y.uses ++ [((i : Int) + 1)])) x.ka x.kc x.kids), kv', na', nc') ?_ ?_ ?_ ?_
            | fail
          · dsimp only; omega
          · refine ⟨by dsimp only; omega, hpu (kidN (updN y a2 c2 (y.uses ++ [((i : Int) + 1)])) x.ka x.kc x.kids) ?_, hkn (kidN (updN y a2 c2 (y.uses ++ [((i : Int) + 1)])) x.ka x.kc x.kids) rfl⟩
            have h0 : y.inl = [] := List.eq_nil_of_length_eq_zero (by omega)
            simp [NoM.pure, touchP, kidN, updN, h0, inlEra]
          · repeat' first | exact SubE.nil | refine SubE.cons rfl ?_ ?_ | exact VEq.refl _ | refine VEq.int (by omega) | exact VEq.sl rfl (by dsimp only; rw [List.length_set]) rfl
          · exact (ents_end hk (kidN (updN y a2 c2 (y.uses ++ [((i : Int) + 1)])) x.ka x.kc x.kids) hR).trans (Ents.facts fun m h => ⟨noF_set h.1 ((hfk m ⟨h.2.1, trivial⟩).1), h.2.1, trivial⟩)
        · repeat' first
            | refine J_seq ?_ | refine J_region Tryz.tyOK ?_ | refine J_block ?_ | refine J_cond ?_ | refine J_ret ?_ | refine J_skip ?_ | refine J_exit ?_ | refine J_scope ?_
            | refine CondP.yes (by omega) ?_ | refine CondP.no (by omega) ?_ | refine CondP.mk (fun h => ?_) (fun h => ?_) | refine EqP.mk rfl ?_ | refine NewP.mk (fun ad => ?_) | refine ArP.exact (by simp only [inR]; omega) ?_ | refine SideP.mk (by first | omega | (dsimp only; omega) | (simp; omega)) ?_
            | refine Round.mk (i + 1, ns'.set k (updN y a2 c2 (y.uses ++ [((i : Int) + 1)])), kv', na', nc') ?_ ?_ ?_ ?_
            | fail
          · dsimp only; omega
          · refine ⟨by dsimp only; omega, hpu (updN y a2 c2 (y.uses ++ [((i : Int) + 1)])) ?_, hkn (updN y a2 c2 (y.uses ++ [((i : Int) + 1)])) rfl⟩
            have h0 : inlEra y.inl ≠ [] := fun e => absurd (inlEra_len y.inl) (by rw [e]; simp; omega)
            simp [NoM.pure, touchP, updN, h0]
          · repeat' first | exact SubE.nil | refine SubE.cons rfl ?_ ?_ | exact VEq.refl _ | refine VEq.int (by omega) | exact VEq.sl rfl (by dsimp only; rw [List.length_set]) rfl
          · exact (ents_end hk (updN y a2 c2 (y.uses ++ [((i : Int) + 1)])) hR).trans (Ents.facts fun m h => ⟨noF_set h.1 (hmem m h.1), h.2.1, trivial⟩)
  · have hil : i = ms.length := by omega
    subst hil
    have htk : (inlEra ms).take ms.length = inlEra ms := List.take_of_length_le (by rw [inlEra_len]; exact Nat.le_refl _)
    rw [htk] at hpe
    repeat' first
      | refine J_seq ?_ | refine J_region Tryz.tyOK ?_ | refine J_block ?_ | refine J_cond ?_ | refine J_ret ?_ | refine J_skip ?_ | refine J_exit ?_ | refine J_scope ?_
      | refine CondP.yes (by omega) ?_ | refine CondP.no (by omega) ?_ | refine CondP.mk (fun h => ?_) (fun h => ?_) | refine EqP.mk rfl ?_ | refine NewP.mk (fun ad => ?_) | refine ArP.exact (by simp only [inR]; omega) ?_ | refine SideP.mk (by first | omega | (dsimp only; omega) | (simp; omega)) ?_
      | refine FinE.mk [] [_] ⟨na, nc, ns, hpe, rfl, rfl, rfl⟩ (Ents.notes (D := [inlF ma ms]))
      | fail
end Go.Proofs
namespace Go.Proofs
open Go Go.X
set_option maxRecDepth 100000
end Go.Proofs
namespace Go.X
open Go
variable [Sm : Inhabited Manner]
structure FnD (P : Program) (f : FuncId) (args : List V) (L : List Chunk) (D : List Fact) (post : V → List Chunk → List Fact → Prop) : Prop where
  en : Enters P f
  run : ∀ w m u, Holds w m L D → CallsD P f (args.map V.enc).toArray u w fun e u' w' => u' = u ∧ ∃ v L' D' m', e = .returned v.enc ∧ post v L' D' ∧ Holds w' m' L' D' ∧ Fr w L m w' L' m'
theorem fnD_of_J {P : Program} {T : Ty} (hT : TyOK P T) {f : FuncId} {fn : Func} {c : Code} {args : List V} {L : List Chunk} {D : List Fact} {post : V → List Chunk → List Fact → Prop} {N : Nat} {rs : List ResultVar} (nid : Nat)
    (hf : P.funcs[f]? = some fn) (hnm : (fn.name == "runtime.NumGoroutine") = false) (hb : fn.body = some c) (hN : fn.ntmps = N) (hr : fn.results.toList = rs) (hlen : args.length ≤ N)
    (h : ∀ G, J P G N c (argEnv 0 args) L D nid (Kt.fin T rs post)) : FnD P f args L D post := by
  refine ⟨⟨fn, hf, hnm, by simp [hb]⟩, fun w m u hh => ?_⟩
  refine callsD_of_wp hf hb ?_
  have he : EnvOK N (argEnv 0 args) { tmps := (args.map V.enc).toArray ++ Array.replicate (fn.ntmps - (args.map V.enc).toArray.size) undef, defers := [] } := by
    refine ⟨rfl, by simp; omega, fun d v hl => ?_⟩
    obtain ⟨_, h2⟩ := look_argEnv _ _ _ _ hl
    simp only [Nat.sub_zero] at h2
    have hlt : d < args.length := (List.getElem?_eq_some_iff.1 h2).1
    rw [Array.getElem?_append_left (by simpa using hlt)]
    simp [h2]
  have hs : SatW ⟨w, L, m⟩ w L D := ⟨m, hh, Fr.refl _ _ _⟩
  refine wp_mono ((h ⟨w, L, m⟩).run _ _ he hs) ?_
  rintro e a' w' ⟨env', L', D', n', hk, he', hs'⟩
  subst hr
  have fin : (resK T env' L' D' fn.results.toList fun l => tupK l (FinE post L' D')) → a'.defers = [] ∧ ∃ v, (results fn a'.tmps).run P w' = .ok v w' ∧
      ∃ v' L' D' m', Ending.returned v = .returned v'.enc ∧ post v' L' D' ∧ Holds w' m' L' D' ∧ Fr w L m w' L' m' := fun hk => by
    obtain ⟨v, ⟨L2, D2, hp, hE⟩, hv⟩ := results_run (fn := fn) hT he' hs' hk
    obtain ⟨m2, h1, h2⟩ := hE ⟨w, L, m⟩ w' hs'
    exact ⟨he'.1, v.enc, hv, v, L2, D2, m2, rfl, hp, h1, h2⟩
  cases e with
  | normal => exact fin hk
  | ret => exact fin hk
  | exit id => exact hk.elim
  | goto l => exact hk.elim
  | panic ch => exact hk.elim
  | outgrown => exact hk.elim
def encD (x : FuncId × List V) : Deferred := ⟨.fn (.func x.1) #[], (x.2.map V.enc).toArray⟩
@[reducible] def dfI (dl : List (FuncId × List V)) : Inhabited (List Deferred) := ⟨dl.map encD⟩
inductive LvP (P : Program) (K : List Chunk → List Fact → Prop) : List (FuncId × List V) → List Chunk → List Fact → Prop where
  | nil (L : List Chunk) (D : List Fact) (k : K L D) : LvP P K [] L D
  | cons {f : FuncId} {args : List V} {ds : List (FuncId × List V)} {L : List Chunk} {D : List Fact} (L0 R : List Chunk) (D0 : List Fact) (post : V → List Chunk → List Fact → Prop) (h : FnD P f args L0 D0 post)
      (hp : L.Perm (L0 ++ R)) (hd : ∀ m, allD m D → allD m D0) (k : ∀ v L' D', post v L' D' → LvP P K ds (L' ++ R) (D' ++ D)) : LvP P K ((f, args) :: ds) L D
def EndR (G : Ent) (K : List Chunk → List Fact → Prop) : Ending → World → Prop := fun e w' => e = .returned (.tuple #[]) ∧ ∃ L' D', K L' D' ∧ SatW G w' L' D'
theorem lvP_sound {P : Program} {G : Ent} {fn : Func} {tmps : Array Value} {K : List Chunk → List Fact → Prop} (hres : ∀ w, (results fn tmps).run P w = .ok (.tuple #[]) w) : ∀ (ds : List (FuncId × List V)) (L : List Chunk) (D : List Fact) (w : World),
    LvP P K ds L D → SatW G w L D → Leaves P fn tmps (EndR G K) (ds.map encD) .returning w := by
  intro ds
  induction ds with
  | nil =>
    intro L D w h hs
    cases h with
    | nil _ _ k => exact ⟨_, hres w, rfl, L, D, k, hs⟩
  | cons d ds ih =>
    intro L D w h hs
    cases h with
    | cons L0 R D0 post hf hp hd k =>
      obtain ⟨m, h1, h2⟩ := satW_perm hp hs
      have h0 : Holds w m L0 D0 := by
        refine ⟨?_, ((allOk_append _ _).1 h1.ok).1, fun b o hb => ?_, hd m h1.d⟩
        · have := h1.nd
          rw [fps_append] at this
          exact (List.nodup_append.1 this).1
        · have h3 := h1.im b o hb
          exact ⟨h3.1, fun hc => h3.2 (by rw [fps_append]; simp [hc])⟩
      simp only [List.map_cons]
      refine leaves_cons (by simp) (f := _) (args := _) (by simp only [invoke, Array.append_empty]; exact run_callFunc hf.en _) ?_
      refine (hf.run w m .returning h0).mono ?_
      rintro e u' w' ⟨rfl, v, L', D', m', rfl, hpost, hh, hfr⟩
      obtain ⟨h3, h4⟩ := h1.frame hh hfr
      exact ih _ _ w' (k v L' D' hpost) ⟨m', h3, h2.trans h4⟩
structure JD (dl : List (FuncId × List V)) (P : Program) (G : Ent) (N : Nat) (fn : Func) (c : Code) (env : Env) (L : List Chunk) (D : List Fact) (nid : Nat) (K : List Chunk → List Fact → Prop) : Prop where
  run : ∀ a w, @EnvOK (dfI dl) N env a → SatW G w L D → c.wp P (bodyPostD P fn (EndR G K)) a w
section
variable {dl : List (FuncId × List V)} {P : Program} {G : Ent} {N : Nat} {fn : Func} {env : Env} {L : List Chunk} {D : List Fact} {nid : Nat} {K : List Chunk → List Fact → Prop}
theorem JD_seq {x y : Code} (h : @J Sm (dfI dl) P G N x env L D nid (fun e env' L' D' n' => match e with | .normal => JD dl P G N fn y env' L' D' n' K | _ => False)) : JD dl P G N fn (.seq x y) env L D nid K :=
  ⟨fun a w he hs => wp_seq (wp_mono (@J.run Sm (dfI dl) _ _ _ _ _ _ _ _ _ h a w he hs) fun e a' w' hq => by
    obtain ⟨env', L', D', n', hk, he', hs'⟩ := hq
    cases e with
    | normal => exact hk.run a' w' he' hs'
    | exit id => exact hk.elim
    | goto l => exact hk.elim
    | ret => exact hk.elim
    | panic ch => exact hk.elim
    | outgrown => exact hk.elim)⟩
theorem JD_cond {c : Operand} {x y : Code} (h : withE env c fun v => match v with | .c (.b true) => JD dl P G N fn x env L D nid K | .c (.b false) => JD dl P G N fn y env L D nid K | _ => False) : JD dl P G N fn (.cond c x y) env L D nid K :=
  ⟨fun a w he hs => by
    obtain ⟨v, hv, h⟩ := withE_elim h
    split at h
    · exact wp_cond_true (by rw [EnvOK.ev (Df := dfI dl) he hv]; rfl) (h.run a w he hs)
    · exact wp_cond_false (by rw [EnvOK.ev (Df := dfI dl) he hv]; rfl) (h.run a w he hs)
    · exact h.elim⟩
theorem JD_end {c : Code} (hres : ∀ tmps w, (results fn tmps).run P w = .ok (.tuple #[]) w) (h : @J Sm (dfI dl) P G N c env L D nid (fun e env' L' D' n' => match e with | .normal => LvP P K dl L' D' | .ret => LvP P K dl L' D' | _ => False)) : JD dl P G N fn c env L D nid K :=
  ⟨fun a w he hs => wp_mono (@J.run Sm (dfI dl) _ _ _ _ _ _ _ _ _ h a w he hs) fun e a' w' hq => by
    obtain ⟨env', L', D', n', hk, he', hs'⟩ := hq
    have hd : a'.defers = dl.map encD := he'.1
    have key : LvP P K dl L' D' → Leaves P fn a'.tmps (EndR G K) a'.defers .returning w' := fun hk => by rw [hd]; exact lvP_sound (hres _) _ _ _ _ hk hs'
    cases e with
    | normal => exact key hk
    | ret => exact key hk
    | exit id => exact hk.elim
    | goto l => exact hk.elim
    | panic ch => exact hk.elim
    | outgrown => exact hk.elim⟩
theorem vcOps_app [Df : Inhabited (List Deferred)] {T : Ty} (hT : TyOK P T) (ops : List Oper) (tail : List Oper) : ∀ (l : List Oper) (env : Env) (L : List Chunk) (D : List Fact) (nid : Nat) (k : Kont), vcOps P T N ops l env L D nid k →
    ∀ (Q : Exit → Act → World → Prop), (∀ env' L' D' n' a' w', k env' L' D' n' → EnvOK N env' a' → SatW G w' L' D' → wpList P ops.toArray Q tail a' w') →
    ∀ a w, EnvOK N env a → SatW G w L D → wpList P ops.toArray Q (l ++ tail) a w
  | [], env, L, D, nid, k, h, Q, hQ, a, w, he, hs => hQ _ _ _ _ _ _ h he hs
  | o :: rest, env, L, D, nid, k, h, Q, hQ, a, w, he, hs => by
    refine wpList_step fun Kn hKn => ?_
    simp only [vcOps] at h
    rcases wantK_sound he h with ⟨hw, h⟩ | ⟨hw, h⟩
    · rw [if_pos hw]
      refine (vcOp_sound hT h he hs).wp ?_
      rintro u w' ⟨v, L', D', n', rfl, hk, hs'⟩
      refine hKn _ _ ?_
      obtain ⟨env', hk', he'⟩ := putK_sound hk he
      exact vcOps_app hT ops tail rest env' L' D' n' k hk' Q hQ _ _ he' hs'
    · rw [if_neg (by simp [hw])]
      refine hKn _ _ ?_
      obtain ⟨env', hk', he'⟩ := putK_sound h he
      exact vcOps_app hT ops tail rest env' L D nid k hk' Q hQ _ _ he' hs
def lastK : List Oper → (List Oper → Oper → Prop) → Prop
  | [], _ => False
  | [o], k => k [] o
  | o :: o' :: r, k => lastK (o' :: r) fun p l => k (o :: p) l
theorem lastK_sound : ∀ {ops : List Oper} {k : List Oper → Oper → Prop}, lastK ops k → ∃ pre o, ops = pre ++ [o] ∧ k pre o
  | [], _, h => h.elim
  | [o], k, h => ⟨[], o, rfl, h⟩
  | o :: o' :: r, k, h => by
    obtain ⟨p, l, h1, h2⟩ := lastK_sound (ops := o' :: r) h
    exact ⟨o :: p, l, by rw [h1]; rfl, h2⟩
def deferK (o : Oper) (k : FuncId → List Operand → Prop) : Prop :=
  match o.op, o.guard, o.dst with
  | .defer c, none, none => match c.callee with
    | .value (.func f) => k f c.args.toList
    | _ => False
  | _, _, _ => False
theorem JD_defer {T : Ty} (hT : TyOK P T) {id : Nat} {ops : List Oper} {y : Code}
    (h : lastK ops fun pre o => deferK o fun f xs => @vcOps Sm P T N ops pre env L D nid (fun env' L' D' n' => argsK env' xs fun vs => JD ((f, vs) :: dl) P G N fn y env' L' D' n' K)) : JD dl P G N fn (.seq (.region id ops.toArray false) y) env L D nid K :=
  ⟨fun a w he hs => wp_seq (wp_region_lit (by
    obtain ⟨pre, o, hops, h⟩ := lastK_sound h
    subst hops
    unfold deferK at h
    split at h
    · rename_i c ho hg hdst
      split at h
      · rename_i f hc
        refine @vcOps_app Sm P G N (dfI dl) T hT (pre ++ [o]) [o] pre env L D nid _ h _ (fun env' L' D' n' a' w' hk he' hs' => ?_) a w he hs
        obtain ⟨vs, hk, hvs⟩ := argsK_sound (Df := dfI dl) he' hk
        refine wpList_step fun Kn hKn => ?_
        rw [if_pos (by simp [Region.wanted, hg])]
        have hargs : c.args.map a'.eval = (vs.map V.enc).toArray := by rw [← hvs, ← Array.toList_map, Array.toArray_toList]
        have hrun : (execOp a'.eval o).run P w' = .ok (.defer (encD (f, vs))) w' := by
          simp only [execOp, ho, resolve, hc, Act.eval, Deferred.ofValue, Sem.run_bind, Sem.run_pure, Result.andThen_ok, hargs, encD, Array.empty_append]
        unfold Oper.wp
        rw [hrun, Oper.upon_defer, hdst]
        refine hKn _ _ ?_
        refine wpList_nil ?_
        refine hk.run _ w' ⟨?_, he'.2⟩ hs'
        show encD (f, vs) :: a'.defers = _
        rw [he'.1]
        rfl
      · exact h.elim
    · exact h.elim))⟩
theorem fn_of_JD {f : FuncId} {c : Code} {args : List V} {post : V → List Chunk → List Fact → Prop} (nid : Nat)
    (hf : P.funcs[f]? = some fn) (hnm : (fn.name == "runtime.NumGoroutine") = false) (hb : fn.body = some c) (hN : fn.ntmps = N) (hlen : args.length ≤ N)
    (h : ∀ G, JD [] P G N fn c (argEnv 0 args) L D nid (fun L' D' => ∃ L2 D2, Ents L' D' L2 D2 ∧ post .t0 L2 D2)) : FnS P f args L D post := by
  refine ⟨⟨fn, hf, hnm, by simp [hb]⟩, fun w m hh => ?_⟩
  refine calls_of_wp_defers hf hb ?_
  have he : @EnvOK (dfI []) N (argEnv 0 args) { tmps := (args.map V.enc).toArray ++ Array.replicate (fn.ntmps - (args.map V.enc).toArray.size) undef, defers := [] } := by
    refine ⟨rfl, by simp; omega, fun d v hl => ?_⟩
    obtain ⟨_, h2⟩ := look_argEnv _ _ _ _ hl
    simp only [Nat.sub_zero] at h2
    have hlt : d < args.length := (List.getElem?_eq_some_iff.1 h2).1
    rw [Array.getElem?_append_left (by simpa using hlt)]
    simp [h2]
  have hs : SatW ⟨w, L, m⟩ w L D := ⟨m, hh, Fr.refl _ _ _⟩
  refine wp_mono ((h ⟨w, L, m⟩).run _ _ he hs) ?_
  have mono : ∀ (ds : List Deferred) (u : FrameMode) (tmps : Array Value) (w0 : World), Leaves P fn tmps (EndR ⟨w, L, m⟩ (fun L' D' => ∃ L2 D2, Ents L' D' L2 D2 ∧ post .t0 L2 D2)) ds u w0 →
      Leaves P fn tmps (fun e w' => ∃ v L' D' m', e = .returned v.enc ∧ post v L' D' ∧ Holds w' m' L' D' ∧ Fr w L m w' L' m') ds u w0 := by
    intro ds
    induction ds with
    | nil =>
      intro u tmps w0 hl
      cases u with
      | run => exact hl
      | returning =>
        obtain ⟨v, hr, he, L1, D1, ⟨L2, D2, hE, hp⟩, hs1⟩ := hl
        obtain ⟨m2, h1, h2⟩ := hE _ _ hs1
        exact ⟨v, hr, .t0, L2, D2, m2, he, hp, h1, h2⟩
      | panicking chain => exact absurd hl.1 (by simp)
    | cons d ds ih =>
      intro u tmps w0 hl
      obtain ⟨hu, fv, cap, f, args, h1, h2, h3⟩ := hl
      refine ⟨hu, fv, cap, f, args, h1, h2, h3.mono ?_⟩
      rintro e u' w' hq
      cases e with
      | returned v => exact ih _ _ _ hq
      | panicked ch => exact ih _ _ _ hq
      | outgrown => exact absurd hq.1 (by simp)
  rintro e a' w' hq
  cases e with
  | normal => exact mono _ _ _ _ hq
  | ret => exact mono _ _ _ _ hq
  | panic ch => exact mono _ _ _ _ hq
  | exit id => exact hq
  | goto l => exact hq
  | outgrown => exact absurd hq.1 (by simp)
end
theorem satW_box {G : Ent} {w : World} {L : List Chunk} {D : List Fact} {id ad ty : Nat} {cs : List C} (hs : SatW G w L D) (hm : .box id ad ty cs ∈ L) : w.heap[ad]? = some (.cells (cs.map C.enc).toArray ty (0, 0)) := by
  obtain ⟨m, h1, _⟩ := hs
  exact (allOk_mem h1.ok hm).2
theorem satW_setBox {G : Ent} {w : World} {B : List Chunk} {D : List Fact} {id ad ty : Nat} {cs : List C} (o : Nat) (x : C) (hx : x.one = true) (hs : SatW G w (.box id ad ty cs :: B) D) :
    SatW G (w.setCell ⟨ad, o, none⟩ x.enc) (.box id ad ty (cs.set o x) :: B) D := by
  have hb := satW_box hs (List.Mem.head _)
  have hone : oneAll cs := by
    obtain ⟨m, h1, _⟩ := hs
    exact h1.ok.1.1
  rw [setCell_blk hb]
  refine satW_replace (A := []) hs rfl rfl ⟨fun y hy => ?_, ?_⟩ (fun off => by rw [hb]; rfl)
  · rcases List.mem_or_eq_of_mem_set hy with h | h
    · exact hone y h
    · rw [h]; exact hx
  · rw [setBlk_same hb]
    simp [List.map_set]
theorem Ents.boxFact {id ad ty : Nat} {cs : List C} {L : List Chunk} {D : List Fact} (e z n : Nat) (hl : cs.length = n * z) : Ents (.box id ad ty cs :: L) D L (slFact e z (some ⟨ad, 0, none⟩) n cs :: D) := fun G w hs => by
  obtain ⟨m, h1, h2⟩ := hs
  have hbox := h1.ok.1
  have hg := hbox.2
  have hnd := h1.nd
  simp only [fps, Chunk.fp, List.cons_append, List.nil_append, List.nodup_cons] at hnd
  have hgm : ∀ o, m ad ≠ some o := fun o ho => (h1.im ad o ho).2 (by simp [fps, Chunk.fp])
  refine ⟨fun b => if b = ad then some (.cells (cs.map C.enc).toArray ty (0, 0)) else m b, ⟨hnd.2, h1.ok.2, ?_, ?_⟩, ?_⟩
  · intro b o hb
    by_cases hbg : b = ad
    · subst hbg
      simp only [if_true, Option.some.injEq] at hb
      exact ⟨by rw [hg, hb], hnd.1⟩
    · simp only [if_neg hbg] at hb
      have h3 := h1.im b o hb
      exact ⟨h3.1, fun hc => h3.2 (by simp [fps, hc])⟩
  · refine ⟨⟨hbox.1, .inr ⟨ad, 0, (cs.map C.enc).toArray, ty, 0, 0, rfl, by simp, hl, ?_⟩⟩, allD_mono (fun b o hb => ?_) h1.d⟩
    · rw [← hl]
      simp only [List.drop_zero]
      exact List.take_of_length_le (by simp)
    · by_cases hbg : b = ad
      · subst hbg; exact absurd hb (hgm o)
      · simpa [hbg] using hb
  · refine ⟨h2.size, h2.same, fun b hb => h2.own b (by simp [fps, hb]), fun b o hb => ?_, fun b o hb => ?_, h2.kept⟩
    · have h3 := h2.im b o hb
      by_cases hbg : b = ad
      · subst hbg; exact absurd h3 (hgm o)
      · simpa [hbg] using h3
    · by_cases hbg : b = ad
      · subst hbg
        rcases h2.own b (by simp [fps, Chunk.fp]) with h3 | h3
        · exact .inr (.inl h3)
        · exact .inr (.inr h3)
      · simp only [if_neg hbg] at hb
        exact h2.new b o hb
theorem slF_re {m : Im} {e z e' z' n n' : Nat} {a : Option Addr} {cs : List C} (h : SlF m e z a n cs) (hn : n ≠ 0) (hz : n * z = n' * z') : SlF m e' z' a n' cs := by
  refine ⟨h.1, ?_⟩
  rcases h.2 with ⟨h0, _⟩ | ⟨g, off, cur, ty, lo, hi, h1, h2, h3, h4⟩
  · exact absurd h0 hn
  · exact .inr ⟨g, off, cur, ty, lo, hi, h1, h2, by rw [h3, hz], by rw [← hz]; exact h4⟩
end Go.X
namespace Go.Proofs
open Go Go.X
set_option maxRecDepth 100000
def rb (ab : Nat) (d m : Int) (r z : C) : Chunk := .box 0 ab 130 [.i .u32 d, .i .i32 m, .i .u32 0, r, z]
theorem disable_run (w : World) : (callFunc 190 #[]).run Tryz.prog w = .ok (.value (.tuple #[])) w := run_call_mark0 Tryz.func190 (by kernel_rfl) (by kernel_rfl) (by kernel_rfl) .disable (by kernel_rfl) w
theorem enable_run (w : World) : (callFunc 192 #[]).run Tryz.prog w = .ok (.value (.tuple #[])) w := run_call_mark0 Tryz.func192 (by kernel_rfl) (by kernel_rfl) (by kernel_rfl) .enable (by kernel_rfl) w
theorem acquire_run (a : Addr) (w : World) : (callFunc 193 #[.pointer (some a)]).run Tryz.prog w = .ok (.value (.tuple #[])) w := run_call_marked Tryz.func193 (by kernel_rfl) (by kernel_rfl) (by kernel_rfl) .acquire (by kernel_rfl) a w
theorem releaseMerge_run (a : Addr) (w : World) : (callFunc 195 #[.pointer (some a)]).run Tryz.prog w = .ok (.value (.tuple #[])) w := run_call_marked Tryz.func195 (by kernel_rfl) (by kernel_rfl) (by kernel_rfl) .releaseMerge (by kernel_rfl) a w
theorem rb_cell {G : Ent} {w : World} {L : List Chunk} {D : List Fact} {ab : Nat} {d m : Int} {r z : C} (hs : SatW G w (rb ab d m r z :: L) D) : w.cell? ⟨ab, 0, none⟩ = some (.int .u32 d) ∧ w.cell? ⟨ab, 1, none⟩ = some (.int .i32 m) ∧ w.frozen? ⟨ab, 0, none⟩ = false ∧ w.frozen? ⟨ab, 1, none⟩ = false := by
  have hb := satW_box hs (List.Mem.head _)
  refine ⟨by simp [World.cell?, hb, C.enc], by simp [World.cell?, hb, C.enc], by simp [World.frozen?, hb], by simp [World.frozen?, hb]⟩
section
variable {L : List Chunk} {D : List Fact} {K : V → List Chunk → List Fact → Prop} {ab : Nat} {d m : Int} {r z : C}
theorem disableP (k : K .t0 L D) : CallP Tryz.prog 190 [] L D K := .ext .t0 (fun _ w _ => disable_run w) k
theorem enableP (k : K .t0 L D) : CallP Tryz.prog 192 [] L D K := .ext .t0 (fun _ w _ => enable_run w) k
theorem acquireP {i a o : Nat} (k : K .t0 L D) : CallP Tryz.prog 193 [.c (.p i a o)] L D K := .ext .t0 (fun _ w _ => acquire_run _ w) k
theorem releaseMergeP {i a o : Nat} (k : K .t0 L D) : CallP Tryz.prog 195 [.c (.p i a o)] L D K := .ext .t0 (fun _ w _ => releaseMerge_run _ w) k
theorem loadP (k : K (.c (.i .u32 d)) (rb ab d m r z :: L) D) : CallP Tryz.prog 151 [.c (.p 0 ab 0)] (rb ab d m r z :: L) D K :=
  .ext (.c (.i .u32 d)) (fun G w hs => by
    have h := (rb_cell hs).1
    exact run_call_load Tryz.func151 (by kernel_rfl) (by kernel_rfl) (by kernel_rfl) .u32 (by kernel_rfl) h) k
theorem casP (k : K (.c (.b true)) (rb ab d 1 r z :: L) D) : CallP Tryz.prog 191 [.c (.p 0 ab 1), .c (.i .i32 0), .c (.i .i32 1)] (rb ab d 0 r z :: L) D K :=
  .extW (.c (.b true)) (rb ab d 1 r z :: L) (fun G w hs => by
    have h := rb_cell hs
    have hr := run_call_cas_hit (P := Tryz.prog) Tryz.func191 (by kernel_rfl) (by kernel_rfl) (by kernel_rfl) .i32 (by kernel_rfl) (y := 1) h.2.1 h.2.2.2
    exact ⟨_, hr, satW_setBox 1 (.i .i32 1) rfl hs⟩) k
theorem addP (k : K (.c (.i .i32 0)) (rb ab d 0 r z :: L) D) : CallP Tryz.prog 196 [.c (.p 0 ab 1), .c (.i .i32 (-1))] (rb ab d 1 r z :: L) D K :=
  .extW (.c (.i .i32 0)) (rb ab d 0 r z :: L) (fun G w hs => by
    have h := rb_cell hs
    have hr := run_call_add (P := Tryz.prog) Tryz.func196 (by kernel_rfl) (by kernel_rfl) (by kernel_rfl) .i32 (by kernel_rfl) (y := -1) (s := 0) h.2.1 h.2.2.2 (by simp [go_sem]; rfl)
    exact ⟨_, hr, satW_setBox 1 (.i .i32 0) rfl hs⟩) k
theorem storeP (k : K .t0 (rb ab 1 m r z :: L) D) : CallP Tryz.prog 178 [.c (.p 0 ab 0), .c (.i .u32 1)] (rb ab d m r z :: L) D K :=
  .extW .t0 (rb ab 1 m r z :: L) (fun G w hs => by
    have h := rb_cell hs
    have hr := run_call_store (P := Tryz.prog) Tryz.func178 (by kernel_rfl) (by kernel_rfl) (by kernel_rfl) (by kernel_rfl) (k := .u32) (y := 1) h.1 h.2.2.1
    exact ⟨_, hr, satW_setBox 0 (.i .u32 1) rfl hs⟩) k
end
theorem boolLoad_ok (ab : Nat) (m : Int) (r z : C) : FnS Tryz.prog 113 [.c (.p 0 ab 0)] [rb ab 0 m r z] [] (fun v L D => v = .c (.b false) ∧ L = [rb ab 0 m r z] ∧ D = []) := by
  unfold rb
  refine fn_of_J Tryz.tyOK 7000 Tryz.func113 (by kernel_rfl) (c := Tryz.f113.body.getD .skip) (by kernel_rfl) Tryz.ntmps113 (rs := Tryz.f113.results.toList) rfl (by simp) (fun G => ?_)
  repeat' first
    | refine J_seq ?_ | refine J_region Tryz.tyOK ?_ | refine J_block ?_ | refine J_cond ?_ | refine J_ret ?_ | refine J_skip ?_ | refine J_exit ?_ | refine J_scope ?_
    | refine CondP.yes (by omega) ?_ | refine CondP.no (by omega) ?_ | refine CondP.mk (fun h => ?_) (fun h => ?_) | refine EqP.mk rfl ?_ | refine NewP.mk (fun ad => ?_) | refine ArP.exact (by simp only [inR]; omega) ?_ | refine SideP.mk (by first | omega | (dsimp only; omega) | (simp; omega)) ?_
    | refine loadP ?_ | refine FinE.mk _ [] ⟨rfl, rfl, rfl⟩ (Ents.refl _ _)
    | fail
theorem innerLock_ok (ab : Nat) (r z : C) : FnS Tryz.prog 176 [.c (.p 0 ab 1)] [rb ab 0 0 r z] [] (fun v L D => v = .t0 ∧ L = [rb ab 0 1 r z] ∧ D = []) := by
  unfold rb
  refine fn_of_J Tryz.tyOK 7000 Tryz.func176 (by kernel_rfl) (c := Tryz.f176.body.getD .skip) (by kernel_rfl) Tryz.ntmps176 (rs := Tryz.f176.results.toList) rfl (by simp) (fun G => ?_)
  repeat' first
    | refine J_seq ?_ | refine J_region Tryz.tyOK ?_ | refine J_block ?_ | refine J_cond ?_ | refine J_ret ?_ | refine J_skip ?_ | refine J_exit ?_ | refine J_scope ?_
    | refine CondP.yes (by omega) ?_ | refine CondP.no (by omega) ?_ | refine CondP.mk (fun h => ?_) (fun h => ?_) | refine EqP.mk rfl ?_ | refine NewP.mk (fun ad => ?_) | refine ArP.exact (by simp only [inR]; omega) ?_ | refine SideP.mk (by first | omega | (dsimp only; omega) | (simp; omega)) ?_
    | refine disableP ?_ | refine enableP ?_ | refine acquireP ?_ | refine casP ?_ | refine SideP.mk ⟨rfl, by show 1 < 5; decide⟩ ?_ | refine FinE.mk _ [] ⟨rfl, rfl, rfl⟩ (Ents.refl _ _)
    | fail
theorem lock_ok (ab : Nat) (r z : C) : FnS Tryz.prog 152 [.c (.p 0 ab 1)] [rb ab 0 0 r z] [] (fun v L D => v = .t0 ∧ L = [rb ab 0 1 r z] ∧ D = []) := by
  have c1 := innerLock_ok ab r z
  unfold rb at c1 ⊢
  refine fn_of_J Tryz.tyOK 7000 Tryz.func152 (by kernel_rfl) (c := Tryz.f152.body.getD .skip) (by kernel_rfl) Tryz.ntmps152 (rs := Tryz.f152.results.toList) rfl (by simp) (fun G => ?_)
  repeat' first
    | refine J_seq ?_ | refine J_region Tryz.tyOK ?_ | refine J_block ?_ | refine J_cond ?_ | refine J_ret ?_ | refine J_skip ?_ | refine J_exit ?_ | refine J_scope ?_
    | refine CondP.yes (by omega) ?_ | refine CondP.no (by omega) ?_ | refine CondP.mk (fun h => ?_) (fun h => ?_) | refine EqP.mk rfl ?_ | refine NewP.mk (fun ad => ?_) | refine ArP.exact (by simp only [inR]; omega) ?_ | refine SideP.mk (by first | omega | (dsimp only; omega) | (simp; omega)) ?_
    | refine CallP.mk [_] [] [] _ c1 (List.Perm.refl _) (fun _ _ => trivial) (fun v L' D' hp => ?_); obtain ⟨rfl, rfl, rfl⟩ := hp | refine FinE.mk _ [] ⟨rfl, rfl, rfl⟩ (Ents.refl _ _)
    | fail
theorem innerUnlock_ok (ab : Nat) (r z : C) : FnS Tryz.prog 177 [.c (.p 0 ab 1)] [rb ab 1 1 r z] [] (fun v L D => v = .t0 ∧ L = [rb ab 1 0 r z] ∧ D = []) := by
  unfold rb
  refine fn_of_J Tryz.tyOK 7000 Tryz.func177 (by kernel_rfl) (c := Tryz.f177.body.getD .skip) (by kernel_rfl) Tryz.ntmps177 (rs := Tryz.f177.results.toList) rfl (by simp) (fun G => ?_)
  repeat' first
    | refine J_seq ?_ | refine J_region Tryz.tyOK ?_ | refine J_block ?_ | refine J_cond ?_ | refine J_ret ?_ | refine J_skip ?_ | refine J_exit ?_ | refine J_scope ?_
    | refine CondP.yes (by omega) ?_ | refine CondP.no (by omega) ?_ | refine CondP.mk (fun h => ?_) (fun h => ?_) | refine EqP.mk rfl ?_ | refine NewP.mk (fun ad => ?_) | refine ArP.exact (by simp only [inR]; omega) ?_ | refine SideP.mk (by first | omega | (dsimp only; omega) | (simp; omega)) ?_
    | refine disableP ?_ | refine enableP ?_ | refine releaseMergeP ?_ | refine addP ?_ | refine SideP.mk ⟨rfl, by show 1 < 5; decide⟩ ?_ | refine FinE.mk _ [] ⟨rfl, rfl, rfl⟩ (Ents.refl _ _)
    | fail
theorem unlockD_ok (ab : Nat) (r z : C) : FnD Tryz.prog 153 [.c (.p 0 ab 1)] [rb ab 1 1 r z] [] (fun v L D => v = .t0 ∧ L = [rb ab 1 0 r z] ∧ D = []) := by
  have c1 := innerUnlock_ok ab r z
  unfold rb at c1 ⊢
  refine fnD_of_J Tryz.tyOK 7000 Tryz.func153 (by kernel_rfl) (c := Tryz.f153.body.getD .skip) (by kernel_rfl) Tryz.ntmps153 (rs := Tryz.f153.results.toList) rfl (by simp) (fun G => ?_)
  repeat' first
    | refine J_seq ?_ | refine J_region Tryz.tyOK ?_ | refine J_block ?_ | refine J_cond ?_ | refine J_ret ?_ | refine J_skip ?_ | refine J_exit ?_ | refine J_scope ?_
    | refine CondP.yes (by omega) ?_ | refine CondP.no (by omega) ?_ | refine CondP.mk (fun h => ?_) (fun h => ?_) | refine EqP.mk rfl ?_ | refine NewP.mk (fun ad => ?_) | refine ArP.exact (by simp only [inR]; omega) ?_ | refine SideP.mk (by first | omega | (dsimp only; omega) | (simp; omega)) ?_
    | refine CallP.mk [_] [] [] _ c1 (List.Perm.refl _) (fun _ _ => trivial) (fun v L' D' hp => ?_); obtain ⟨rfl, rfl, rfl⟩ := hp | refine FinE.mk _ [] ⟨rfl, rfl, rfl⟩ (Ents.refl _ _)
    | fail
theorem b32_ok : FnS Tryz.prog 179 [.c (.b true)] [] [] (Is (.c (.i .u32 1))) := by
  refine fn_of_J Tryz.tyOK 7000 Tryz.func179 (by kernel_rfl) (c := Tryz.f179.body.getD .skip) (by kernel_rfl) Tryz.ntmps179 (rs := Tryz.f179.results.toList) rfl (by simp) (fun G => ?_)
  repeat' first
    | refine J_seq ?_ | refine J_region Tryz.tyOK ?_ | refine J_block ?_ | refine J_cond ?_ | refine J_ret ?_ | refine J_skip ?_ | refine J_exit ?_ | refine J_scope ?_
    | refine CondP.yes (by omega) ?_ | refine CondP.no (by omega) ?_ | refine CondP.mk (fun h => ?_) (fun h => ?_) | refine EqP.mk rfl ?_ | refine NewP.mk (fun ad => ?_) | refine ArP.exact (by simp only [inR]; omega) ?_ | refine SideP.mk (by first | omega | (dsimp only; omega) | (simp; omega)) ?_
    | refine FinE.int rfl
    | fail
theorem boolStoreD_ok (ab : Nat) (r z : C) : FnD Tryz.prog 154 [.c (.p 0 ab 0), .c (.b true)] [rb ab 0 1 r z] [] (fun v L D => v = .t0 ∧ L = [rb ab 1 1 r z] ∧ D = []) := by
  unfold rb
  refine fnD_of_J Tryz.tyOK 7000 Tryz.func154 (by kernel_rfl) (c := Tryz.f154.body.getD .skip) (by kernel_rfl) Tryz.ntmps154 (rs := Tryz.f154.results.toList) rfl (by simp) (fun G => ?_)
  repeat' first
    | refine J_seq ?_ | refine J_region Tryz.tyOK ?_ | refine J_block ?_ | refine J_cond ?_ | refine J_ret ?_ | refine J_skip ?_ | refine J_exit ?_ | refine J_scope ?_
    | refine CondP.yes (by omega) ?_ | refine CondP.no (by omega) ?_ | refine CondP.mk (fun h => ?_) (fun h => ?_) | refine EqP.mk rfl ?_ | refine NewP.mk (fun ad => ?_) | refine ArP.exact (by simp only [inR]; omega) ?_ | refine SideP.mk (by first | omega | (dsimp only; omega) | (simp; omega)) ?_
    | refine J_drawU (id := 0) Tryz.tyOK (by kernel_rfl) [0, 1, 3, 0, 8, 31] (.leaf [0, 1, 2, 3, 4, 5]) [5] [] 5 true (by kernel_rfl) ?_ | refine TwoP.mk ?_ ?_ | refine GoP.mk (by repeat (first | exact List.Sublist.slnil | refine List.Sublist.cons_cons _ ?_ | refine List.Sublist.cons _ ?_)) (by first | exact fun _ h => h | exact fun _ h => h.2 | exact fun _ h => ((allD_append _ _).1 h).2) ?_ | exact trivial | refine EntP.mk (Ents.ofSub (by repeat (first | exact List.Sublist.slnil | refine List.Sublist.cons_cons _ ?_ | refine List.Sublist.cons _ ?_)) (by first | exact fun _ h => h | exact fun _ _ => trivial | exact fun _ h => h.2 | exact fun _ h => h.2.2.2.2 | exact fun _ h => h.2.2 | exact fun _ h => h.2.2.2 | exact fun _ h => h.2.2.2.2.2 | exact fun _ h => h.2.2.2.2.2.2 | exact fun _ h => h.2.2.2.2.2.2.2 | exact fun _ h => h.2.2.2.2.2.2.2.2 | exact fun _ h => h.2.2.2.2.2.2.2.2.2 | exact fun _ h => h.2.2.2.2.2.2.2.2.2.2 | exact fun _ h => ((allD_append _ _).1 h).2)) ?_ | refine CallQ.mk [] _ b32_ok (fun _ _ => trivial) ?_ | refine storeP ?_ | refine FinE.mk _ [] ⟨rfl, rfl, rfl⟩ (Ents.refl _ _)
    | fail
end Go.Proofs
namespace Go.Proofs
open Go Go.X
set_option maxRecDepth 100000
def onceF (ab : Nat) : V := .c (.raw (.func (.func 78) #[(V.c (.p 0 ab 0)).enc] #[]))
def BuiltP (ab : Nat) (d m : Int) (Q : C → C → List Chunk → List Fact → Prop) : V → List Chunk → List Fact → Prop := fun v L D => ∃ r z R, v = .t0 ∧ L = rb ab d m r z :: R ∧ Q r z R D
theorem doSlow_ok (ab : Nat) (r z : C) (R : List Chunk) (D : List Fact) (Q : C → C → List Chunk → List Fact → Prop)
    (hf : FnS Tryz.prog 78 [.c (.p 0 ab 0)] (rb ab 0 1 r z :: R) D (BuiltP ab 0 1 Q)) (hQ : ∀ r z R D1, Q r z R D1 → Q r z R (D1 ++ D)) :
    FnS Tryz.prog 114 [.c (.p 0 ab 0), onceF ab] (rb ab 0 0 r z :: R) D (BuiltP ab 1 0 Q) := by
  have c1 := lock_ok ab r z
  have c2 := boolLoad_ok ab 1 r z
  refine fn_of_JD 7000 Tryz.func114 (by kernel_rfl) (c := Tryz.f114.body.getD .skip) (by kernel_rfl) Tryz.ntmps114 (by simp) (fun G => ?_)
  have hres : ∀ tmps w, (results Tryz.f114 tmps).run Tryz.prog w = .ok (.tuple #[]) w := fun tmps w => by simp [results, Tryz.results114]
  refine JD_seq ?_
  repeat' first
    | refine J_seq ?_ | refine J_region Tryz.tyOK ?_ | refine J_block ?_ | refine J_cond ?_ | refine J_ret ?_ | refine J_skip ?_ | refine J_exit ?_ | refine J_scope ?_
    | refine CondP.yes (by omega) ?_ | refine CondP.no (by omega) ?_ | refine CondP.mk (fun h => ?_) (fun h => ?_) | refine EqP.mk rfl ?_ | refine NewP.mk (fun ad => ?_) | refine ArP.exact (by simp only [inR]; omega) ?_ | refine SideP.mk (by first | omega | (dsimp only; omega) | (simp; omega)) ?_
    | refine CallP.mk [_] _ [] _ c1 (List.Perm.refl _) (fun _ _ => trivial) (fun v L' D' hp => ?_); obtain ⟨rfl, rfl, rfl⟩ := hp
    | fail
  refine JD_defer Tryz.tyOK ?_
  letI i1 : Inhabited (List Deferred) := dfI [(153, [.c (.p 0 ab 1)])]
  refine JD_seq ?_
  repeat' first
    | refine J_seq ?_ | refine J_region Tryz.tyOK ?_ | refine J_block ?_ | refine J_cond ?_ | refine J_ret ?_ | refine J_skip ?_ | refine J_exit ?_ | refine J_scope ?_
    | refine CondP.yes (by omega) ?_ | refine CondP.no (by omega) ?_ | refine CondP.mk (fun h => ?_) (fun h => ?_) | refine EqP.mk rfl ?_ | refine NewP.mk (fun ad => ?_) | refine ArP.exact (by simp only [inR]; omega) ?_ | refine SideP.mk (by first | omega | (dsimp only; omega) | (simp; omega)) ?_
    | refine CallP.mk [_] _ [] _ c2 (List.Perm.refl _) (fun _ _ => trivial) (fun v L' D' hp => ?_); obtain ⟨rfl, rfl, rfl⟩ := hp
    | fail
  refine JD_cond ?_
  refine JD_defer Tryz.tyOK ?_
  letI i2 : Inhabited (List Deferred) := dfI [(154, [.c (.p 0 ab 0), .c (.b true)]), (153, [.c (.p 0 ab 1)])]
  refine JD_end hres ?_
  repeat' first
    | refine J_seq ?_ | refine J_region Tryz.tyOK ?_ | refine J_block ?_ | refine J_cond ?_ | refine J_ret ?_ | refine J_skip ?_ | refine J_exit ?_ | refine J_scope ?_
    | refine CondP.yes (by omega) ?_ | refine CondP.no (by omega) ?_ | refine CondP.mk (fun h => ?_) (fun h => ?_) | refine EqP.mk rfl ?_ | refine NewP.mk (fun ad => ?_) | refine ArP.exact (by simp only [inR]; omega) ?_ | refine SideP.mk (by first | omega | (dsimp only; omega) | (simp; omega)) ?_
    | refine BoundP.mk [.c (.p 0 ab 0)] rfl rfl ?_ | refine CallP.mk _ [] _ _ hf (by simp) (fun _ h => h) (fun v L' D' hp => ?_)
    | fail
  obtain ⟨r1, z1, R1, rfl, rfl, hq⟩ := hp
  refine LvP.cons [_] _ [] _ (boolStoreD_ok ab r1 z1) (List.Perm.refl _) (fun _ _ => trivial) (fun v L' D' hp => ?_)
  obtain ⟨rfl, rfl, rfl⟩ := hp
  refine LvP.cons [_] _ [] _ (unlockD_ok ab r1 z1) (List.Perm.refl _) (fun _ _ => trivial) (fun v L' D' hp => ?_)
  obtain ⟨rfl, rfl, rfl⟩ := hp
  exact LvP.nil _ _ ⟨_, _, Ents.refl _ _, r1, z1, R1 ++ [], rfl, by simp, by simpa using hQ _ _ _ _ hq⟩
theorem onceDo_ok (ab : Nat) (r z : C) (R : List Chunk) (D : List Fact) (Q : C → C → List Chunk → List Fact → Prop)
    (hf : FnS Tryz.prog 78 [.c (.p 0 ab 0)] (rb ab 0 1 r z :: R) D (BuiltP ab 0 1 Q)) (hQ : ∀ r z R D1, Q r z R D1 → Q r z R (D1 ++ D)) :
    FnS Tryz.prog 77 [.c (.p 0 ab 0), onceF ab] (rb ab 0 0 r z :: R) D (BuiltP ab 1 0 Q) := by
  have c1 := boolLoad_ok ab 0 r z
  have c2 := doSlow_ok ab r z R D Q hf hQ
  refine fn_of_J Tryz.tyOK 7000 Tryz.func77 (by kernel_rfl) (c := Tryz.f77.body.getD .skip) (by kernel_rfl) Tryz.ntmps77 (rs := Tryz.f77.results.toList) rfl (by simp) (fun G => ?_)
  repeat' first
    | refine J_seq ?_ | refine J_region Tryz.tyOK ?_ | refine J_block ?_ | refine J_cond ?_ | refine J_ret ?_ | refine J_skip ?_ | refine J_exit ?_ | refine J_scope ?_
    | refine CondP.yes (by omega) ?_ | refine CondP.no (by omega) ?_ | refine CondP.mk (fun h => ?_) (fun h => ?_) | refine EqP.mk rfl ?_ | refine NewP.mk (fun ad => ?_) | refine ArP.exact (by simp only [inR]; omega) ?_ | refine SideP.mk (by first | omega | (dsimp only; omega) | (simp; omega)) ?_
    | refine CallP.mk [_] _ [] _ c1 (List.Perm.refl _) (fun _ _ => trivial) (fun v L' D' hp => ?_); obtain ⟨rfl, rfl, rfl⟩ := hp | refine CallP.mk _ [] _ _ c2 (by simp) (fun _ h => h) (fun v L' D' hp => ?_)
    | fail
  obtain ⟨r1, z1, R1, rfl, rfl, hq⟩ := hp
  exact FinE.mk _ _ ⟨r1, z1, R1 ++ [], rfl, by simp, by simpa using hQ _ _ _ _ hq⟩ (Ents.refl _ _)
end Go.Proofs
