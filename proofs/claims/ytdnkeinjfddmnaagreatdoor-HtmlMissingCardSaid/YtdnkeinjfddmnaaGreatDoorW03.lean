/- This text proves that the symbolic executor is sound for whole function bodies: sequences, branches, blocks, loops, calls and results. -/
import Derived.Test.YtdnkeinjfddmnaaGreatDoorW02
import Derived.Lib.UnsafeStr
import Derived.Lib.Builder
set_option linter.all false
namespace Go.X
open Go
variable [Sm : Inhabited Manner] [Df : Inhabited (List Deferred)]
def argsK (env : Env) : List Operand → (List V → Prop) → Prop
  | [], k => k []
  | x :: r, k => withE env x fun v => argsK env r fun l => k (v :: l)
theorem argsK_sound {N : Nat} {env : Env} {a : Act} (he : EnvOK N env a) : ∀ {xs : List Operand} {k : List V → Prop}, argsK env xs k → ∃ l, k l ∧ xs.map a.eval = l.map V.enc
  | [], k, h => ⟨[], h, rfl⟩
  | x :: r, k, h => by
    obtain ⟨v, hv, h⟩ := withE_elim h
    obtain ⟨l, hl, he'⟩ := argsK_sound he h
    exact ⟨v :: l, hl, by simp only [List.map_cons, he.ev hv, he']⟩
def Ents (L : List Chunk) (D : List Fact) (L' : List Chunk) (D' : List Fact) : Prop := ∀ (G : Ent) (w : World), SatW G w L D → SatW G w L' D'
inductive CallP (P : Program) (f : FuncId) (args : List V) (L : List Chunk) (D : List Fact) (K : V → List Chunk → List Fact → Prop) : Prop where
  | mkE (L0 R : List Chunk) (D0 D1 : List Fact) (post : V → List Chunk → List Fact → Prop) (h : FnS P f args L0 D0 post) (hE : Ents L D (L0 ++ R) D1) (hd : ∀ m, allD m D1 → allD m D0)
      (k : ∀ v L' D', post v L' D' → K v (L' ++ R) (D' ++ D1))
  | mkO (L0 R : List Chunk) (D0 D1 : List Fact) (post : V → List Chunk → List Fact → Prop) (h : FnS P f args L0 D0 post) (hE : Ents L D (L0 ++ R) D1) (hd : ∀ m, allD m D1 → allD m D0)
      (k : ∀ v L' D', post v L' D' → ∃ L2 D2, Ents (L' ++ R) (D' ++ D1) L2 D2 ∧ K v L2 D2)
  | ext (v : V) (h : ∀ G w, SatW G w L D → (callFunc f (args.map V.enc).toArray).run P w = .ok (.value v.enc) w) (k : K v L D)
  | extW (v : V) (L' : List Chunk) (h : ∀ G w, SatW G w L D → ∃ w', (callFunc f (args.map V.enc).toArray).run P w = .ok (.value v.enc) w' ∧ SatW G w' L' D) (k : K v L' D)
theorem fps_perm {A B : List Chunk} (h : A.Perm B) : (fps A).Perm (fps B) := by
  induction h with
  | nil => exact .refl _
  | cons x _ ih => exact List.Perm.append_left _ ih
  | swap x y l => simp only [fps, ← List.append_assoc]; exact List.Perm.append_right _ List.perm_append_comm
  | trans _ _ ih1 ih2 => exact ih1.trans ih2
theorem allOk_perm {w : World} {A B : List Chunk} (h : A.Perm B) : allOk w A → allOk w B := by
  induction h with
  | nil => exact id
  | cons x _ ih => exact fun h => ⟨h.1, ih h.2⟩
  | swap x y l => exact fun h => ⟨h.2.1, h.1, h.2.2⟩
  | trans _ _ ih1 ih2 => exact fun h => ih2 (ih1 h)
theorem satW_perm {G : Ent} {w : World} {A B : List Chunk} {D : List Fact} (h : A.Perm B) (hs : SatW G w A D) : SatW G w B D := by
  obtain ⟨m, h1, h2⟩ := hs
  have hp := fps_perm h
  refine ⟨m, ⟨hp.nodup_iff.1 h1.nd, allOk_perm h h1.ok, fun b o hb => ?_, h1.d⟩, ⟨h2.size, h2.same, fun b hb => h2.own b (hp.mem_iff.2 hb), h2.im, h2.new, h2.kept⟩⟩
  have h3 := h1.im b o hb
  exact ⟨h3.1, fun hc => h3.2 (hp.mem_iff.2 hc)⟩
theorem CallP.mk {P : Program} {f : FuncId} {args : List V} {L : List Chunk} {D : List Fact} {K : V → List Chunk → List Fact → Prop} (L0 R : List Chunk) (D0 : List Fact) (post : V → List Chunk → List Fact → Prop) (h : FnS P f args L0 D0 post)
    (hp : L.Perm (L0 ++ R)) (hd : ∀ m, allD m D → allD m D0) (k : ∀ v L' D', post v L' D' → K v (L' ++ R) (D' ++ D)) : CallP P f args L D K :=
  .mkE L0 R D0 D post h (fun _ _ hs => satW_perm hp hs) hd k
theorem callO_sound {P : Program} {G : Ent} {w : World} {f : FuncId} {vs : List V} {L L0 R : List Chunk} {D D0 D1 : List Fact} {post K : V → List Chunk → List Fact → Prop} (hf : FnS P f vs L0 D0 post) (hE : Ents L D (L0 ++ R) D1) (hd : ∀ m, allD m D1 → allD m D0)
    (hk : ∀ v L' D', post v L' D' → ∃ L2 D2, Ents (L' ++ R) (D' ++ D1) L2 D2 ∧ K v L2 D2) (hs : SatW G w L D) :
    Enters P f ∧ Calls P f (vs.map V.enc).toArray w fun e w' => ∃ v L' D', e = .returned v.enc ∧ K v L' D' ∧ SatW G w' L' D' := by
  obtain ⟨m, h1, h2⟩ := hE G w hs
  refine ⟨hf.1, ?_⟩
  have h0 : Holds w m L0 D0 := by
    refine ⟨?_, ((allOk_append _ _).1 h1.ok).1, fun b o hb => ?_, hd m h1.d⟩
    · have := h1.nd
      rw [fps_append] at this
      exact (List.nodup_append.1 this).1
    · have h3 := h1.im b o hb
      exact ⟨h3.1, fun hc => h3.2 (by rw [fps_append]; simp [hc])⟩
  refine (hf.2 w m h0).mono ?_
  rintro e w' ⟨v, L', D', m', he, hpost, hh, hfr⟩
  obtain ⟨h3, h4⟩ := h1.frame hh hfr
  obtain ⟨L2, D2, hE2, hK2⟩ := hk v L' D' hpost
  exact ⟨v, L2, D2, he, hK2, hE2 G w' ⟨m', h3, h2.trans h4⟩⟩
theorem callE_sound {P : Program} {G : Ent} {w : World} {f : FuncId} {vs : List V} {L L0 R : List Chunk} {D D0 D1 : List Fact} {post K : V → List Chunk → List Fact → Prop} (hf : FnS P f vs L0 D0 post) (hE : Ents L D (L0 ++ R) D1) (hd : ∀ m, allD m D1 → allD m D0)
    (hk : ∀ v L' D', post v L' D' → K v (L' ++ R) (D' ++ D1)) (hs : SatW G w L D) :
    Enters P f ∧ Calls P f (vs.map V.enc).toArray w fun e w' => ∃ v L' D', e = .returned v.enc ∧ K v L' D' ∧ SatW G w' L' D' :=
  callO_sound hf hE hd (fun v L' D' hp => ⟨_, _, fun _ _ h => h, hk v L' D' hp⟩) hs
theorem callP_sound {P : Program} {G : Ent} {w : World} {f : FuncId} {vs : List V} {L : List Chunk} {D : List Fact} {K : V → List Chunk → List Fact → Prop} (h : CallP P f vs L D K) (hs : SatW G w L D) :
    (Enters P f ∧ Calls P f (vs.map V.enc).toArray w fun e w' => ∃ v L' D', e = .returned v.enc ∧ K v L' D' ∧ SatW G w' L' D') ∨ ∃ v L' w', K v L' D ∧ (callFunc f (vs.map V.enc).toArray).run P w = .ok (.value v.enc) w' ∧ SatW G w' L' D := by
  rcases h with ⟨L0, R, D0, D1, post, hf, hE, hd, hk⟩ | ⟨L0, R, D0, D1, post, hf, hE, hd, hk⟩ | ⟨v, he, hk⟩ | ⟨v, L', he, hk⟩
  · exact .inl (callE_sound hf hE hd hk hs)
  · exact .inl (callO_sound hf hE hd hk hs)
  · exact .inr ⟨v, L, w, hk, he G w hs, hs⟩
  · obtain ⟨w', h1, h2⟩ := he G w hs
    exact .inr ⟨v, L', w', hk, h1, h2⟩
theorem run_callFunc {P : Program} {w : World} {f : FuncId} (h : Enters P f) (args : Array Value) : (callFunc f args).run P w = .ok (.enter f args) w := by
  obtain ⟨fn, h1, h2, h3⟩ := h
  simp only [callFunc, Sem.run_bind, run_program, Result.andThen_ok, h1, h2, h3, Bool.false_eq_true, if_false, Sem.run_pure]
def lenV (n : Nat) : V := .c (.i .i64 n)
inductive SlDataE (a : Option Addr) (c : Nat) (K : V → Prop) : Prop where
  | nil (h : a = none) (k : K (.c (.raw (.pointer none))))
  | row (g o : Nat) (h : a = some ⟨g, o, none⟩) (hc : c ≠ 0) (k : K (.c (.e a 1 0 0)))
def ptrTo (e : Nat) : Option TyI → Bool
  | some i => match i.d with | .ptr x => Nat.beq x e | _ => false
  | none => false
inductive StrDataE (P : Program) (T : Ty) (pt : Nat) (p : V) (n : Int) (L : List Chunk) (K : List UInt8 → List Chunk → Prop) : Prop where
  | nil (hp : p = .c (.raw (.pointer none))) (hn : n = 0) (k : K [] L)
  | row (A : List Chunk) (ety g m c : Nat) (l : List UInt8) (hL : L.Perm (.row ety 1 (some ⟨g, 0, none⟩) m c (l.map fun b => C.i .u8 b.toNat) :: A)) (hp : p = .c (.e (some ⟨g, 0, none⟩) 1 0 0)) (hn : n = m) (hl : l ≠ [])
    (hpt : ptrTo ety (find T pt) = true) (hc : P.cellsOf ety = 1) (k : K l A)
theorem strData_run {P : Program} {T : Ty} (hT : TyOK P T) {G : Ent} {w : World} {pt it ty : Nat} {p : V} {n : Int} {L : List Chunk} {D : List Fact} {K : List UInt8 → List Chunk → Prop} (h : StrDataE P T pt p n L K) (hs : SatW G w L D) :
    ∃ l L' w', K l L' ∧ (Builtin.unsafeString_ #[pt, it] ty #[p.enc, .int .i64 n]).run P w = .ok (.string ⟨⟨l⟩⟩) w' ∧ SatW G w' L' D := by
  cases h with
  | nil hp hn k =>
    subst hp hn
    exact ⟨[], L, w, k, Lib.run_unsafeString_none w pt it ty none, hs⟩
  | row A ety g m c l hL hp hn hl hpt hc k =>
    subst hp hn
    have hs := satW_perm hL hs
    have hs' := hs
    obtain ⟨mm, hh, _⟩ := hs
    obtain ⟨hone, hr⟩ := hh.ok.1
    rcases hr with ⟨h0, _⟩ | ⟨g', hg', cur, lo, hi, ho, hnc, hcm, hsz, hfz, hlen, htk⟩
    · cases h0
    · cases hg'
      have hd' : P.underlying pt = some (.pointer ety) := by
        unfold ptrTo at hpt
        split at hpt
        · rename_i i hi
          have h1 := (hT _ _ hi).2.2.2
          split at hpt
          · rename_i x hd
            rw [hd] at h1
            rw [Nat.eq_of_beq_eq_true hpt] at h1
            exact h1
          · cases hpt
        · cases hpt
      have hlm : l.length = m := by simpa using hlen
      have hm : maxLen = 9223372036854775807 := rfl
      have hcell : ∀ (j : Nat) (x : UInt8), l[j]? = some x → w.cell? ((⟨g, 0, none⟩ : Addr).add j) = some (.int .u8 x.toNat) := by
        intro j x hx
        rw [addr_add, cell_blk ho, Nat.zero_add]
        have h2 := congrArg (fun z => z[j]?) htk
        have hj := (List.getElem?_eq_some_iff.1 hx).1
        simp only [Nat.mul_one] at h2
        rw [List.getElem?_take_of_lt (by omega)] at h2
        simp only [List.getElem?_map, hx, Option.map_some] at h2
        simpa [C.enc] using h2
      refine ⟨l, A, setBlk w g (.cells cur ety (if (lo == hi) = true then (0, 0 + l.length) else (min lo 0, max hi (0 + l.length)))), k, ?_, satW_free hs' (by simp [Chunk.fp])⟩
      have := Lib.run_unsafeString_row (P := P) w pt it ty ety hd' hc g cur.size (by simp [World.shape?, ho]) l hl (by omega) (by omega) hcell
      rw [← hlm]
      simp only [V.enc, C.enc, elemAddr, Option.map_some]
      simp only [Int.toNat_zero, Nat.zero_mul, Nat.add_zero]
      rw [this]
      have hl0 : l.length ≠ 0 := fun hc => hl (List.eq_nil_of_length_eq_zero hc)
      refine congrArg (Result.ok _) ?_
      simp only [World.freeze, if_neg hl0, setBlk]
      congr 1
      apply Array.ext
      · simp
      · intro i h1 h2
        simp only [Array.getElem_modify, Array.getElem_setIfInBounds]
        by_cases hig : g = i
        · subst hig
          have := (Array.getElem?_eq_some_iff.1 ho).2
          simp [this]
        · rw [if_neg hig]; exact (Array.getElem_setIfInBounds_ne (by simpa using h1) hig).symm
inductive ClearE (esz : Nat) (z : List C) (L : List Chunk) (a : Option Addr) (n : Nat) (K : List Chunk → Prop) : Prop where
  | zero (hn : n = 0) (k : K L)
  | mk (A B : List Chunk) (ety N c lo : Nat) (b : Option Addr) (cs : List C) (h : L = A ++ .row ety esz b N c cs :: B) (ha : a = b.map (·.add (lo * esz))) (hn : lo + n ≤ N) (k : K (A ++ .row ety esz b N c (setC (lo * esz) (repC n z) cs) :: B))
theorem clear_run {P : Program} {T : Ty} (hT : TyOK P T) {G : Ent} {w : World} {t e : Nat} {ti ei : TyI} (hti : find T t = some ti) (hd : ti.d = .sl e) (hei : find T e = some ei) {a : Option Addr} {n c : Nat} {L : List Chunk} {D : List Fact} {K : List Chunk → Prop} {ty : TypeId}
    (h : cellsK ei.zero fun z => oneK z (natK z.length ei.size (nzK ei.size (ClearE ei.size z L a n K)))) (hs : SatW G w L D) :
    ∃ L' w', K L' ∧ (Builtin.clear_ #[t] ty #[.slice a n c]).run P w = .ok (.tuple #[]) w' ∧ SatW G w' L' D := by
  have hd' := (hT _ _ hti).2.2.2
  rw [hd] at hd'
  simp only [TyD.ok] at hd'
  have hok := hT _ _ hei
  obtain ⟨z, hB, hzv⟩ := cellsK_sound h
  obtain ⟨hz1, hA⟩ := oneK_sound hB
  obtain ⟨hzl, hC⟩ := natK_sound hA
  obtain ⟨hsz, hC⟩ := nzK_sound hC
  have hzne : z ≠ [] := by intro hc; subst hc; simp at hzl; exact hsz hzl.symm
  cases hC with
  | zero hn k =>
    subst hn
    refine ⟨L, w, k, ?_, hs⟩
    cases a <;> simp [Builtin.clear_, run_underlying hd']
  | mk A B ety N c' lo b cs hL ha hn k =>
    subst hL
    by_cases hn0 : n = 0
    · subst hn0
      refine ⟨_, w, k, ?_, ?_⟩
      · cases a <;> simp [Builtin.clear_, run_underlying hd']
      · have : setC (lo * ei.size) (repC 0 z) cs = cs := by simp [repC, setC]
        rw [this]; exact hs
    · have hle : lo * ei.size + (repC n z).length ≤ N * ei.size := by
        rw [repC_length, hzl, ← Nat.add_mul]; exact Nat.mul_le_mul_right _ hn
      have hpos : 0 < (repC n z).length := by
        rw [repC_length, hzl]
        exact Nat.mul_pos (by omega) (by omega)
      obtain ⟨g, cur, l, hi, hb, hg, hfz, hcur, hs'⟩ := satW_rowSet hs (lo * ei.size) (repC n z) (repC_one hz1) hle hpos
      subst hb
      rw [Option.map_some, add_zero0] at ha
      subst ha
      refine ⟨_, _, k, ?_, hs'⟩
      obtain ⟨n', rfl⟩ : ∃ n', n = n' + 1 := ⟨n - 1, by omega⟩
      have hst := run_storeCells_blk (P := P) ((repC (n' + 1) z).map C.enc) (lo * ei.size) 0 cur w hg hfz (by simpa using hcur) (by
        intro v hv
        obtain ⟨x, hx, rfl⟩ := List.mem_map.1 hv
        exact C.enc_oneCell x (repC_one hz1 x hx))
      simp [Builtin.clear_, run_underlying hd', run_zeroValue hok, hzv hz1, zeroCells_rep z (n' + 1) hzne, hst]
def resl (a : Option Addr) (lo c esz : Nat) : Option Addr := if c = lo then a else a.map (·.add (lo * esz))
inductive CopyE (L : List Chunk) (D : List Fact) (e esz : Nat) (a : Option Addr) (n : Nat) (y : V) (K : Nat → List Chunk → Prop) : Prop where
  | mk (A B : List Chunk) (ety N c lo k : Nat) (b : Option Addr) (cs cs2 cs' : List C) (a2 : Option Addr) (m c2 : Nat) (h : L = A ++ .row e esz b N c cs :: B) (hy : y = .c (.sl a2 m c2)) (hk : k = Nat.min m n) (hp : 0 < k) (ha : a = resl b lo c esz)
      (hr : Reads L D ety esz a2 k cs2) (hl : cs2.length = k * esz) (hlo : lo ≤ N) (hc : lo + k ≤ N ∨ lo + k ≤ c) (he : setC (lo * esz) cs2 cs = cs') (k : K k (A ++ .row e esz b (max N (lo + k)) c cs' :: B))
theorem copy_run {P : Program} {T : Ty} (hT : TyOK P T) {G : Ent} {w : World} {t st e : Nat} {ti ei : TyI} (hti : find T t = some ti) (hd : ti.d = .sl e) (hei : find T e = some ei) {a : Option Addr} {n c : Nat} {y : V} {L : List Chunk} {D : List Fact} {K : Nat → List Chunk → Prop} {ty : TypeId}
    (h : nzK ei.size (CopyE L D e ei.size a n y K)) (hs : SatW G w L D) :
    ∃ q L' w', K q L' ∧ (Builtin.copy_ #[t, st] ty #[.slice a n c, y.enc]).run P w = .ok (goInt q) w' ∧ SatW G w' L' D := by
  have hd' := (hT _ _ hti).2.2.2
  rw [hd] at hd'
  simp only [TyD.ok] at hd'
  have hok := hT _ _ hei
  obtain ⟨hsz, hC⟩ := nzK_sound h
  obtain ⟨A, B, ety, N, c', lo, k, b, cs, cs2, cs', a2, m, c2, hL, hy, hk, hp, ha, hr, hl, hlo, hc, he, hK⟩ := hC
  have hone := (reads_at hr hs).1
  have hfc := firstCells_reads (P := P) (c := c2) hr hs (w' := w) rfl
  subst hL; subst hy; subst he
  have hNc : N ≤ c' := by
    obtain ⟨mm, hh, _⟩ := id hs
    have hrow := allOk_mem hh.ok (ch := .row e ei.size b N c' cs) (by simp)
    rcases hrow.2 with ⟨_, h1, h2, _⟩ | ⟨g, _, cur, lo, hi', _, h1, _⟩
    · omega
    · exact h1
  have hc : lo + k ≤ c' := by omega
  obtain ⟨g, cur, l, hi, hb, hg, hfz, hle, hs'⟩ := satW_rowExt hs lo k cs2 hone hl hlo hc (by rw [hl]; exact Nat.mul_pos hp (by omega))
  subst hb
  rw [resl, if_neg (by omega)] at ha
  rw [Option.map_some, add_zero0] at ha
  subst ha
  refine ⟨_, _, _, hK, ?_, hs'⟩
  have hst := run_storeCells_blk (P := P) (cs2.map C.enc) (lo * ei.size) 0 cur w hg hfz (by simpa using hle) (by
    intro v hv
    obtain ⟨x, hx, rfl⟩ := List.mem_map.1 hv
    exact C.enc_oneCell x (hone x hx))
  have hfc' : (Builtin.firstCells ei.size k (.slice a2 m c2)).run P w = .ok (cs2.map C.enc).toArray w := by
    cases a2 <;> exact hfc
  simp only [V.enc, C.enc]
  simp [Builtin.copy_, run_underlying hd', Builtin.lenOf, run_sizeOf hok, ← hk, hfc', hst]
def vcBuiltin (P : Program) (T : Ty) (b : Builtin) (ts : List TypeId) (vs : List V) (L : List Chunk) (D : List Fact) (nid : Nat) (k : KV) : Prop :=
  match b, ts, vs with
  | .len, [t], [x] =>
    match find T t with
    | some i =>
      match i.d, x with
      | .str, .c (.s l) => k (lenV l.length) L D nid
      | .sl _, .c (.sl _ n _) => k (lenV n) L D nid
      | .arr n _, _ => k (lenV n) L D nid
      | _, _ => False
    | none => False
  | .append, [t, xt], [x, y] => vcAppend P T t xt x y L D nid k
  | .max, _, [.c (.i ka a), .c (.i _ b)] => CondP (a < b) (k (.c (.i ka b)) L D nid) (k (.c (.i ka a)) L D nid)
  | .min, _, [.c (.i ka a), .c (.i _ b)] => CondP (b < a) (k (.c (.i ka b)) L D nid) (k (.c (.i ka a)) L D nid)
  | .clear, [t], [.c (.sl a n _)] =>
    match find T t with
    | some ti =>
      match ti.d with
      | .sl e =>
        match find T e with
        | some ei => cellsK ei.zero fun z => oneK z (natK z.length ei.size (nzK ei.size (ClearE ei.size z L a n fun L' => k .t0 L' D nid)))
        | none => False
      | _ => False
    | none => False
  | .cap, [t], [.c (.sl _ _ c)] =>
    match find T t with
    | some ti =>
      match ti.d with
      | .sl _ => k (lenV c) L D nid
      | _ => False
    | none => False
  | .copy, [t, _], [.c (.sl a n _), y] =>
    match find T t with
    | some ti =>
      match ti.d with
      | .sl e =>
        match find T e with
        | some ei => nzK ei.size (CopyE L D e ei.size a n y fun q L' => k (lenV q) L' D nid)
        | none => False
      | _ => False
    | none => False
  | .unsafeSliceData, _, [.c (.sl a _ c)] => SlDataE a c fun v => k v L D nid
  | .unsafeString, [pt, _], [p, .c (.i .i64 n)] => StrDataE P T pt p n L fun l L' => k (.c (.s l)) L' D nid
  | _, _, _ => False
theorem vcBuiltin_sound {P : Program} {T : Ty} (hT : TyOK P T) {G : Ent} {w : World} {b : Builtin} {ts : List TypeId} {vs : List V} {L : List Chunk} {D : List Fact} {nid : Nat} {k : KV} {ty : TypeId}
    (h : vcBuiltin P T b ts vs L D nid k) (hs : SatW G w L D) :
    ∃ v L' D' n' w', k v L' D' n' ∧ (∀ consts : Array Bool, (builtin b ts.toArray ty consts (vs.map V.enc).toArray).run P w = .ok (.value v.enc) w') ∧ SatW G w' L' D' := by
  unfold vcBuiltin at h
  split at h
  · rename_i t x
    split at h
    · rename_i i hi
      have hd' := (hT _ _ hi).2.2.2
      split at h
      · rename_i l hd
        rw [hd] at hd'
        refine ⟨_, _, _, _, w, h, fun consts => ?_, hs⟩
        simp only [builtin, List.map_cons, List.map_nil, V.enc, C.enc, Sem.run_bind]
        rw [run_len_string w t ty _ hd']
        rfl
      · rename_i e a n c hd
        rw [hd] at hd'
        refine ⟨_, _, _, _, w, h, fun consts => ?_, hs⟩
        simp only [TyD.ok] at hd'
        simp [builtin, V.enc, C.enc, lenV, Builtin.len_, run_underlying hd', goInt]
      · rename_i n e hd
        rw [hd] at hd'
        refine ⟨_, _, _, _, w, h, fun consts => ?_, hs⟩
        simp only [TyD.ok] at hd'
        simp [builtin, V.enc, C.enc, lenV, Builtin.len_, run_underlying hd', goInt]
      · exact h.elim
    · exact h.elim
  · rename_i t xt x y
    obtain ⟨v, L', w', hk, hr, hs'⟩ := vcAppend_sound (ty := ty) hT h hs
    refine ⟨v, L', D, nid, w', hk, fun consts => ?_, hs'⟩
    simp only [builtin, List.map_cons, List.map_nil, Sem.run_bind, hr, Result.andThen_ok, Sem.run_pure]
  · rename_i ts ka a kb b
    by_cases hab : a < b
    · refine ⟨_, _, _, _, w, h.t hab, fun consts => ?_, hs⟩
      simp only [builtin, List.map_cons, List.map_nil, V.enc, C.enc, Sem.run_bind, run_max_int2, Result.andThen_ok, Sem.run_pure, gt_iff_lt, hab, if_true]
    · refine ⟨_, _, _, _, w, h.f hab, fun consts => ?_, hs⟩
      simp only [builtin, List.map_cons, List.map_nil, V.enc, C.enc, Sem.run_bind, run_max_int2, Result.andThen_ok, Sem.run_pure, gt_iff_lt, hab, if_false]
  · rename_i ts ka a kb b
    by_cases hab : b < a
    · refine ⟨_, _, _, _, w, h.t hab, fun consts => ?_, hs⟩
      simp only [builtin, List.map_cons, List.map_nil, V.enc, C.enc, Sem.run_bind, run_min_int2, Result.andThen_ok, Sem.run_pure, hab, if_true]
    · refine ⟨_, _, _, _, w, h.f hab, fun consts => ?_, hs⟩
      simp only [builtin, List.map_cons, List.map_nil, V.enc, C.enc, Sem.run_bind, run_min_int2, Result.andThen_ok, Sem.run_pure, hab, if_false]
  · rename_i t a n c
    split at h
    · rename_i ti hti
      split at h
      · rename_i e hd
        split at h
        · rename_i ei hei
          obtain ⟨L', w', hk, hr, hs'⟩ := clear_run (c := c) (ty := ty) hT hti hd hei h hs
          refine ⟨.t0, L', D, nid, w', hk, fun consts => ?_, hs'⟩
          simp only [builtin, List.map_cons, List.map_nil, V.enc, C.enc, Sem.run_bind]
          rw [show (#[t] : Array Nat) = [t].toArray from rfl] at hr
          rw [show (#[Value.slice a n c] : Array Value) = [Value.slice a n c].toArray from rfl] at hr
          rw [hr]
          rfl
        · exact h.elim
      · exact h.elim
    · exact h.elim
  · rename_i t a n c
    split at h
    · rename_i ti hti
      have hd' := (hT _ _ hti).2.2.2
      split at h
      · rename_i e hd
        rw [hd] at hd'
        refine ⟨_, _, _, _, w, h, fun consts => ?_, hs⟩
        simp only [TyD.ok] at hd'
        simp [builtin, V.enc, C.enc, lenV, Builtin.cap_, run_underlying hd', goInt]
      · exact h.elim
    · exact h.elim
  · rename_i t st a n c y
    split at h
    · rename_i ti hti
      split at h
      · rename_i e hd
        split at h
        · rename_i ei hei
          obtain ⟨q, L', w', hk, hr, hs'⟩ := copy_run (c := c) (st := st) (ty := ty) hT hti hd hei h hs
          refine ⟨_, L', D, nid, w', hk, fun consts => ?_, hs'⟩
          simp only [builtin, List.map_cons, List.map_nil, V.enc, C.enc, Sem.run_bind]
          rw [show (#[t, st] : Array Nat) = [t, st].toArray from rfl] at hr
          rw [show (#[Value.slice a n c, y.enc] : Array Value) = [Value.slice a n c, y.enc].toArray from rfl] at hr
          rw [hr]
          rfl
        · exact h.elim
      · exact h.elim
    · exact h.elim
  · rename_i ts a n c
    cases h with
    | nil ha k =>
      subst ha
      refine ⟨_, _, _, _, w, k, fun consts => ?_, hs⟩
      simp only [builtin, List.map_cons, List.map_nil, V.enc, C.enc, Sem.run_bind]
      rw [Lib.run_unsafeSliceData_nil]
      rfl
    | row g o ha hc k =>
      subst ha
      refine ⟨_, _, _, _, w, k, fun consts => ?_, hs⟩
      simp only [builtin, List.map_cons, List.map_nil, V.enc, C.enc, Sem.run_bind]
      rw [Lib.run_unsafeSliceData_row _ _ _ _ _ _ hc]
      simp [elemAddr]
  · rename_i pt it p n
    obtain ⟨l, L', w', hk, hr, hs'⟩ := strData_run (it := it) (ty := ty) hT h hs
    refine ⟨_, _, _, _, w', hk, fun consts => ?_, hs'⟩
    simp only [builtin, List.map_cons, List.map_nil, V.enc, C.enc, Sem.run_bind]
    rw [show (#[pt, it] : Array Nat) = [pt, it].toArray from rfl] at hr
    rw [hr]
    rfl
  · exact h.elim
def isByte : Option TyI → Bool
  | some i => match i.d with | .int .u8 => true | _ => false
  | none => false
structure EncE (n : Int) (K : List UInt8 → Prop) : Prop where
  k : ∀ l, l = (Utf8.encode n).data.toList → K l
def vcConvert (P : Program) (T : Ty) (s d : Nat) (v : V) (L : List Chunk) (D : List Fact) (nid : Nat) (k : KV) : Prop :=
  match find T s, find T d with
  | some si, some di =>
    match si.d, di.d, v with
    | .int _, .int kd, .c (.i _ n) => ArP kd n fun r => k (.c (.i kd r)) L D nid
    | .str, .str, .c (.s l) => k (.c (.s l)) L D nid
    | .int _, .str, .c (.i _ n) => EncE n fun l => k (.c (.s l)) L D nid
    | .str, .sl e, .c (.s l) => match isByte (find T e) with
      | true => vcToBytes e l L D nid k
      | false => False
    | .sl e, .str, .c (.sl a n _) => match isByte (find T e) with
      | true => BytesE L D a n fun l => k (.c (.s l)) L D nid
      | false => False
    | .ptr e, .up, .c (.p id ad o) =>
      match find T e with
      | some ei => nzK ei.size (match findBox L id with
        | some (ad', _, cs) => SideP (ad = ad' ∧ o < cs.length) (k (.c (.p id ad o)) L D nid)
        | none => False)
      | none => False
    | .up, .ptr e, .c (.p id ad o) =>
      match find T e with
      | some _ => (match findBox L id with
        | some (ad', ty, cs) => SideP (ad = ad' ∧ liesAt P P.depth ty (cs.length / P.cellsOf ty) o e 1 = true) (k (.c (.p id ad o)) L D nid)
        | none => False)
      | none => False
    | _, _, _ => False
  | _, _ => False
theorem isByte_ok {P : Program} {T : Ty} (hT : TyOK P T) {e : Nat} (h : isByte (find T e) = true) : P.underlying e = some (.int .u8) := by
  unfold isByte at h
  split at h
  · rename_i i hi
    have hd' := (hT _ _ hi).2.2.2
    split at h
    · rename_i hd; rw [hd] at hd'; exact hd'
    · cases h
  · cases h
theorem vcConvert_sound {P : Program} {T : Ty} (hT : TyOK P T) {G : Ent} {w : World} {s d : Nat} {v : V} {L : List Chunk} {D : List Fact} {nid : Nat} {k : KV} (h : vcConvert P T s d v L D nid k) (hs : SatW G w L D) :
    ∃ r L' w', k r L' D nid ∧ (convert s d v.enc).run P w = .ok r.enc w' ∧ SatW G w' L' D := by
  unfold vcConvert at h
  split at h
  · rename_i si di hsi hdi
    have h1 := (hT _ _ hsi).2.2.2
    have h2 := (hT _ _ hdi).2.2.2
    split at h
    · rename_i ks kd kv n hd1 hd2
      rw [hd1] at h1
      rw [hd2] at h2
      simp only [TyD.ok] at h1 h2
      refine ⟨_, _, w, h.run, ?_, hs⟩
      simp [convert, run_underlying h1, run_underlying h2, V.enc, C.enc, Conv.intToInt]
    · rename_i l hd1 hd2
      rw [hd1] at h1
      rw [hd2] at h2
      simp only [TyD.ok] at h1 h2
      refine ⟨_, _, w, h, ?_, hs⟩
      simp [convert, run_underlying h1, run_underlying h2, V.enc, C.enc]
    · rename_i ks kv n hd1 hd2
      rw [hd1] at h1
      rw [hd2] at h2
      simp only [TyD.ok] at h1 h2
      refine ⟨_, _, w, h.k _ rfl, ?_, hs⟩
      simp [convert, run_underlying h1, run_underlying h2, V.enc, C.enc, Conv.intToString]
    · rename_i e l hd1 hd2
      rw [hd1] at h1
      rw [hd2] at h2
      simp only [TyD.ok] at h1 h2
      split at h
      · rename_i hb
        have h3 := isByte_ok hT hb
        obtain ⟨r, L', w', hk, hr, hs'⟩ := vcToBytes_sound (P := P) (T := T) h hs
        refine ⟨r, L', w', hk, ?_, hs'⟩
        simp only [convert, Sem.run_bind, run_underlying h1, run_underlying h2, V.enc, C.enc, Result.andThen_ok, run_underlying h3]
        exact hr
      · exact h.elim
    · rename_i e a n c hd1 hd2
      rw [hd1] at h1
      rw [hd2] at h2
      simp only [TyD.ok] at h1 h2
      split at h
      · rename_i hb
        have h3 := isByte_ok hT hb
        obtain ⟨ety, l, hr, hk⟩ := h
        refine ⟨_, _, w, hk, ?_, hs⟩
        simp only [convert, Sem.run_bind, run_underlying h1, run_underlying h2, V.enc, C.enc, Result.andThen_ok, run_underlying h3]
        exact bytes_run hr hs
      · exact h.elim
    · rename_i e id ad o hd1 hd2
      rw [hd1] at h1
      rw [hd2] at h2
      simp only [TyD.ok] at h1 h2
      split at h
      · rename_i ei hei
        obtain ⟨hz, hA⟩ := nzK_sound h
        clear h
        split at hA
        · rename_i ad' ty cs hb
          obtain ⟨⟨rfl, ho⟩, hk⟩ := hA
          obtain ⟨A, B, id', hL, _⟩ := findBox_split hb
          have hs2 := hs
          obtain ⟨m, hh, _⟩ := hs2
          have hbx := allOk_mem hh.ok (ch := .box id' ad ty cs) (by rw [hL]; simp)
          obtain ⟨x, hx, hxs, _⟩ := tyI_info (hT _ _ hei)
          refine ⟨_, _, w, hk, ?_, hs⟩
          exact Lib.run_to_unsafe (P := P) w ⟨ad, o, none⟩ h1 h2 hx (by rw [hxs]; exact hz) (cells := cs.length) (e := ty) (by simp [World.shape?, hbx.2]) ho
        · exact hA.elim
      · exact h.elim
    · rename_i e id ad o hd1 hd2
      rw [hd1] at h1
      rw [hd2] at h2
      simp only [TyD.ok] at h1 h2
      split at h
      · rename_i ei hei
        split at h
        · rename_i ad' ty cs hb
          obtain ⟨⟨rfl, ho⟩, hk⟩ := h
          obtain ⟨A, B, id', hL, _⟩ := findBox_split hb
          have hs2 := hs
          obtain ⟨m, hh, _⟩ := hs2
          have hbx := allOk_mem hh.ok (ch := .box id' ad ty cs) (by rw [hL]; simp)
          obtain ⟨x, hx, _, _⟩ := tyI_info (hT _ _ hei)
          refine ⟨_, _, w, hk, ?_, hs⟩
          exact Lib.run_from_unsafe (P := P) w ⟨ad, o, none⟩ h1 h2 hx (cells := cs.length) (e := ty) (by simp [World.shape?, hbx.2]) ho
        · exact h.elim
      · exact h.elim
    · exact h.elim
  · exact h.elim
def vcSliceSl (esz : Nat) (a : Option Addr) (n c : Nat) (lo hi : Option V) (k : V → Prop) : Prop :=
  match lo, hi with
  | none, none => k (.c (.sl (resl a 0 c esz) n c))
  | some (.c (.i _ x)), none => SideP (0 ≤ x ∧ x ≤ n) (k (.c (.sl (resl a x.toNat c esz) (n - x.toNat) (c - x.toNat))))
  | none, some (.c (.i _ y)) => SideP (0 ≤ y ∧ y ≤ c) (k (.c (.sl (resl a 0 c esz) y.toNat c)))
  | some (.c (.i _ x)), some (.c (.i _ y)) => SideP (0 ≤ x ∧ x ≤ y ∧ y ≤ c) (k (.c (.sl (resl a x.toNat c esz) (y.toNat - x.toNat) (c - x.toNat))))
  | _, _ => False
theorem vcSliceSl_sound {P : Program} {T : Ty} (hT : TyOK P T) {t e : TypeId} {i : TyI} (ht : P.underlying t = some (.slice e)) (hi : find T e = some i) {a : Option Addr} {n c : Nat} {lo hi' : Option V} {k : V → Prop} (h : vcSliceSl i.size a n c lo hi' k) :
    ∃ v, k v ∧ ∀ w, (Instr.slice t (V.c (.sl a n c)).enc (lo.map V.enc) (hi'.map V.enc) none).run P w = .ok v.enc w := by
  have hok := hT _ _ hi
  unfold vcSliceSl at h
  split at h
  · refine ⟨_, h, fun w => ?_⟩
    simp only [V.enc, C.enc, Option.map_none, Instr.slice, Instr.sliceBounds, Sem.run_bind, run_underlying ht, Result.andThen_ok, Option.isSome_none, Bool.false_eq_true, if_false, Sem.run_pure, run_sizeOf hok, resl, Nat.sub_zero]
  · rename_i kk x
    obtain ⟨h0, h1⟩ := h.h
    refine ⟨_, h.k, fun w => ?_⟩
    simp only [V.enc, C.enc, Option.map_some, Option.map_none, Instr.slice, Instr.sliceBounds, Instr.sliceBound, asIntOf, Sem.run_bind, run_underlying ht, Result.andThen_ok, Option.isSome_none, Bool.false_eq_true, if_false, Sem.run_pure, Sem.run_ite, h0, h1, and_self, if_true, run_sizeOf hok, resl]
  · rename_i kk y
    obtain ⟨h0, h1⟩ := h.h
    refine ⟨_, h.k, fun w => ?_⟩
    simp only [V.enc, C.enc, Option.map_some, Option.map_none, Instr.slice, Instr.sliceBounds, Instr.sliceBound, asIntOf, Sem.run_bind, run_underlying ht, Result.andThen_ok, Option.isSome_none, Bool.false_eq_true, if_false, Sem.run_pure, Sem.run_ite, h0, h1, and_self, if_true, run_sizeOf hok, resl, Nat.sub_zero]
  · rename_i kk x kk' y
    obtain ⟨h0, h1, h2⟩ := h.h
    have hb : 0 ≤ y := by omega
    have hab : x ≤ (y.toNat : Int) := by omega
    refine ⟨_, h.k, fun w => ?_⟩
    simp only [V.enc, C.enc, Option.map_some, Option.map_none, Instr.slice, Instr.sliceBounds, Instr.sliceBound, asIntOf, Sem.run_bind, run_underlying ht, Result.andThen_ok, Option.isSome_none, Bool.false_eq_true, if_false, Sem.run_pure, Sem.run_ite, h0, h2, hb, hab, and_self, if_true, run_sizeOf hok, resl]
  · exact h.elim
def vcSlice3 (T : Ty) (t : Nat) (x lo hi mx : V) (k : V → Prop) : Prop :=
  match find T t with
  | none => False
  | some i =>
    match i.d, x, lo, hi, mx with
    | .sl e, .c (.sl a _ c), .c (.i _ l), .c (.i _ h), .c (.i _ m) =>
      match find T e with
      | some ei => SideP (0 ≤ l ∧ l ≤ h ∧ h ≤ m ∧ m ≤ c) (k (.c (.sl (resl a l.toNat m.toNat ei.size) (h.toNat - l.toNat) (m.toNat - l.toNat))))
      | none => False
    | _, _, _, _, _ => False
theorem vcSlice3_sound {P : Program} {T : Ty} (hT : TyOK P T) {t : Nat} {x lo hi mx : V} {k : V → Prop} (h : vcSlice3 T t x lo hi mx k) :
    ∃ v, k v ∧ ∀ w, (Instr.sliceAt t x.enc (some lo.enc) (some hi.enc) (some mx.enc)).run P w = .ok v.enc w := by
  unfold vcSlice3 at h
  split at h
  · exact h.elim
  · rename_i i hi'
    have hd' := (hT _ _ hi').2.2.2
    split at h
    · rename_i e a n c k1 l k2 h1 k3 m hd
      rw [hd] at hd'
      simp only [TyD.ok] at hd'
      split at h
      · rename_i ei hei
        have hok := hT _ _ hei
        obtain ⟨h2, h3, h4, h5⟩ := h.h
        have g1 : 0 ≤ m := by omega
        have g2 : 0 ≤ h1 := by omega
        have g3 : h1 ≤ (m.toNat : Int) := by omega
        have g4 : l ≤ (h1.toNat : Int) := by omega
        refine ⟨_, h.k, fun w => ?_⟩
        simp only [Instr.sliceAt, V.enc, C.enc, Instr.slice, Instr.sliceBounds, Instr.sliceBound, asIntOf, Sem.run_bind, run_underlying hd', Result.andThen_ok, Option.isSome_some, Sem.run_pure, Sem.run_ite, h2, h5, g1, g2, g3, g4, and_self, if_true, run_sizeOf hok, resl]
      · exact h.elim
    · exact h.elim
def optK (env : Env) (x : Option Operand) (k : Option V → Prop) : Prop :=
  match x with
  | none => k none
  | some x => withE env x fun v => k (some v)
theorem optK_sound {N : Nat} {env : Env} {a : Act} (he : EnvOK N env a) {x : Option Operand} {k : Option V → Prop} (h : optK env x k) : ∃ v, k v ∧ x.map a.eval = v.map V.enc := by
  unfold optK at h
  split at h
  · exact ⟨none, h, rfl⟩
  · obtain ⟨v, hv, h⟩ := withE_elim h
    exact ⟨some v, h, by simp [he.ev hv]⟩
def vcSlice (T : Ty) (t : Nat) (x : V) (lo hi : Option V) (k : V → Prop) : Prop :=
  match find T t with
  | none => False
  | some i =>
    match i.d, x with
    | .str, .c (.s l) => vcSliceStr l lo hi k
    | .sl e, .c (.sl a n c) =>
      match find T e with
      | some ei => vcSliceSl ei.size a n c lo hi k
      | none => False
    | _, _ => False
theorem vcSlice_sound {P : Program} {T : Ty} (hT : TyOK P T) {t : Nat} {x : V} {lo hi : Option V} {k : V → Prop} (h : vcSlice T t x lo hi k) :
    ∃ v, k v ∧ ∀ w, (Instr.sliceAt t x.enc (lo.map V.enc) (hi.map V.enc) none).run P w = .ok v.enc w := by
  unfold vcSlice at h
  split at h
  · exact h.elim
  · rename_i i hi'
    have hd' := (hT _ _ hi').2.2.2
    split at h
    · rename_i l hd
      rw [hd] at hd'
      simp only [TyD.ok] at hd'
      obtain ⟨v, hk, hr⟩ := vcSliceStr_sound hd' h
      refine ⟨v, hk, fun w => ?_⟩
      simp only [Instr.sliceAt, Sem.run_bind, run_underlying hd', Result.andThen_ok]
      exact hr w
    · rename_i e a n c hd
      rw [hd] at hd'
      simp only [TyD.ok] at hd'
      split at h
      · rename_i ei hei
        obtain ⟨v, hk, hr⟩ := vcSliceSl_sound hT hd' hei h
        refine ⟨v, hk, fun w => ?_⟩
        simp only [Instr.sliceAt, Sem.run_bind, run_underlying hd', Result.andThen_ok]
        exact hr w
      · exact h.elim
    · exact h.elim
def extractK (v : V) (i : Nat) (k : V → Prop) : Prop :=
  match v, i with
  | .t1 x, 0 => k x
  | .t2 x _, 0 => k x
  | .t2 _ y, 1 => k y
  | .t3 x _ _, 0 => k x
  | .t3 _ y _, 1 => k y
  | .t3 _ _ z, 2 => k z
  | .t4 x _ _ _, 0 => k x
  | .t4 _ y _ _, 1 => k y
  | .t4 _ _ z _, 2 => k z
  | .t4 _ _ _ u, 3 => k u
  | _, _ => False
theorem extractK_sound {P : Program} {v : V} {i : Nat} {k : V → Prop} (h : extractK v i k) : ∃ r, k r ∧ ∀ w, (Instr.extract v.enc i).run P w = .ok r.enc w := by
  unfold extractK at h
  split at h <;> first | exact ⟨_, h, fun w => rfl⟩ | exact h.elim
def vcUn (op : UnOp) (a : V) (k : V → Prop) : Prop :=
  match op, a with
  | .not, .c (.b true) => k ff
  | .not, .c (.b false) => k tt
  | .neg, .c (.i kd n) => ArP kd (0 - n) fun r => k (.c (.i kd r))
  | .xor, .c (.i kd n) => k (.c (.i kd (bitsV .xor kd (if kd.signed = true then -1 else kd.max) n)))
  | _, _ => False
theorem vcUn_sound {P : Program} {op : UnOp} {a : V} {k : V → Prop} (h : vcUn op a k) : ∃ r, k r ∧ ∀ w, (Op.unary op a.enc).run P w = .ok r.enc w := by
  unfold vcUn at h
  split at h
  · exact ⟨_, h, fun w => rfl⟩
  · exact ⟨_, h, fun w => rfl⟩
  · exact ⟨_, h.run, fun w => by simp [Op.unary, Op.intArith, V.enc, C.enc]⟩
  · exact ⟨_, h, fun w => by simp [Op.unary, Op.intBits, V.enc, C.enc, bitsV]⟩
  · exact h.elim
def nilK (v : V) (L : List Chunk) (D : List Fact) (k : V → Prop) : Prop :=
  match v with
  | .c (.p id ad off) => k (.c (.p id ad off))
  | .c (.e a esz ix off) => FldE L D a (k (.c (.e a esz ix off)))
  | _ => False
theorem nilK_sound {G : Ent} {v : V} {L : List Chunk} {D : List Fact} {k : V → Prop} (h : nilK v L D k) : k v ∧ ∀ w, SatW G w L D → ∃ a, v.enc = .pointer (some a) := by
  unfold nilK at h
  split at h
  · exact ⟨h, fun _ _ => ⟨_, rfl⟩⟩
  · rename_i a esz ix off
    obtain ⟨hk, ha⟩ := fldE_some (G := G) h
    exact ⟨hk, fun w hs => by obtain ⟨b, rfl⟩ := ha w hs; exact ⟨_, rfl⟩⟩
  · exact h.elim
def pickK (env : Env) (c a b : Operand) (k : V → Prop) : Prop :=
  withE env c fun cv =>
    match cv with
    | .c (.b true) => withE env a k
    | .c (.b false) => withE env b k
    | _ => False
def decL (l : List UInt8) (pos : Nat) : Nat × Nat := Utf8.decode ⟨⟨l⟩⟩ pos
def vcRange (T : Ty) (t : Nat) (x : V) (L : List Chunk) (D : List Fact) (nid : Nat) (k : KV) : Prop :=
  match find T t with
  | some i => match i.d, x with
    | .str, .c (.s l) => NewP fun ad => k (.c (.p nid ad 0)) (.obj nid ad (.stringIter ⟨⟨l⟩⟩ 0) :: L) D (nid + 1)
    | .mp _ _, .c (.m id m) => match findObj L id with
      | some (m', .map _ c) => EqP m m' (NewP fun ad => k (.c (.p nid ad 0)) (.obj nid ad (.mapIter (some m) c #[] c) :: L) D (nid + 1))
      | _ => False
    | _, _ => False
  | none => False
theorem vcRange_sound {P : Program} {T : Ty} (hT : TyOK P T) {G : Ent} {w : World} {t : Nat} {x : V} {L : List Chunk} {D : List Fact} {nid : Nat} {k : KV} (h : vcRange T t x L D nid k) (hs : SatW G w L D) :
    ∃ v L' n' w', k v L' D n' ∧ (Instr.range t x.enc).run P w = .ok v.enc w' ∧ SatW G w' L' D := by
  unfold vcRange at h
  split at h
  · rename_i i hi
    have hd' := (hT _ _ hi).2.2.2
    split at h
    · rename_i l hd
      rw [hd] at hd'
      simp only [TyD.ok] at hd'
      refine ⟨_, _, _, w.alloc (.stringIter ⟨⟨l⟩⟩ 0), h.k w.heap.size, ?_, satW_alloc hs _ _ rfl (heap_alloc_new w _)⟩
      simp only [Instr.range, Sem.run_bind, run_underlying hd', Result.andThen_ok, V.enc, C.enc, Sem.run_pure]
      rfl
    · rename_i kt et id m hd
      rw [hd] at hd'
      simp only [TyD.ok] at hd'
      split at h
      · rename_i m' es c ho
        obtain ⟨h0, h⟩ := h
        subst h0
        obtain ⟨A, B, id', hL, _⟩ := findObj_split ho
        have hob : w.heap[m]? = some (.map es c) := by
          obtain ⟨_, hh, _⟩ := hs
          exact allOk_mem hh.ok (ch := .obj id' m _) (by rw [hL]; simp)
        have hget : (getObj m).run P w = .ok (.map es c) w := by simp [getObj, Sem.run, hob]
        refine ⟨_, _, _, w.alloc (.mapIter (some m) c #[] c), h.k w.heap.size, ?_, satW_alloc hs _ _ rfl (heap_alloc_new w _)⟩
        simp only [Instr.range, Sem.run_bind, run_underlying hd', Result.andThen_ok, V.enc, C.enc, hget, Sem.run_pure]
        rfl
      · exact h.elim
    · exact h.elim
  · exact h.elim
structure DecE (l : List UInt8) (pos : Nat) (K : Nat → Nat → Prop) : Prop where
  k : ∀ r n, decL l pos = (r, n) → K r n
theorem DecE.of {l : List UInt8} {pos r n : Nat} {K : Nat → Nat → Prop} (h : decL l pos = (r, n)) (k : K r n) : DecE l pos K :=
  ⟨fun r' n' h' => by rw [h] at h'; cases h'; exact k⟩
def vcNext (x : V) (str : Bool) (L : List Chunk) (D : List Fact) (nid : Nat) (k : KV) : Prop :=
  match x, str with
  | .c (.p id ad 0), true =>
    match findObj L id with
    | some (ad', .stringIter ⟨⟨l⟩⟩ pos) => EqP ad ad' (CondP (pos < l.length)
        (DecE l pos fun r n => setObjK L id (.stringIter ⟨⟨l⟩⟩ (pos + n)) fun L' => k (.t3 tt (.c (.i .i64 pos)) (.c (.i .i32 r))) L' D nid)
        (k (.t1 ff) L D nid))
    | _ => False
  | .c (.p id ad 0), false =>
    match findObj L id with
    | some (ad', .mapIter (some m) since seen last) => EqP ad ad' (NextE L m since seen last
        (fun kx v seen' n => setObjK L id (.mapIter (some m) since seen' n) fun L' => k (.t3 tt kx v) L' D nid)
        (k (.t1 ff) L D nid))
    | _ => False
  | _, _ => False
theorem vcNext_sound {P : Program} {G : Ent} {w : World} {x : V} {str : Bool} {ty : TypeId} {L : List Chunk} {D : List Fact} {nid : Nat} {k : KV} (h : vcNext x str L D nid k) (hs : SatW G w L D) :
    ∃ v L' w', k v L' D nid ∧ (Instr.next x.enc str ty).run P w = .ok v.enc w' ∧ SatW G w' L' D := by
  unfold vcNext at h
  split at h
  · rename_i id ad
    split at h
    · rename_i ad' l pos ho
      obtain ⟨h0, h⟩ := h
      subst h0
      obtain ⟨A, B, id', hL, hset⟩ := findObj_split ho
      have hs0 := hs
      obtain ⟨m, hh, _⟩ := hs
      have hob : w.heap[ad]? = some (.stringIter ⟨⟨l⟩⟩ pos) := allOk_mem hh.ok (ch := .obj id' ad _) (by rw [hL]; simp)
      have hget : (getObj ad).run P w = .ok (.stringIter ⟨⟨l⟩⟩ pos) w := by simp [getObj, Sem.run, hob]
      by_cases hlt : pos < l.length
      · have hk := hset _ _ ((h.t hlt).k (decL l pos).1 (decL l pos).2 rfl)
        refine ⟨_, _, setBlk w ad (.stringIter ⟨⟨l⟩⟩ (pos + (decL l pos).2)), hk, ?_, ?_⟩
        · have hset' : (setObj ad (.stringIter ⟨⟨l⟩⟩ (pos + (decL l pos).2))).run P w = .ok () (setBlk w ad (.stringIter ⟨⟨l⟩⟩ (pos + (decL l pos).2))) := by simp [setObj, Sem.run, hob, setBlk]
          have hlt' : pos < (⟨⟨l⟩⟩ : ByteArray).size := hlt
          simp only [Instr.next, Sem.run_bind, V.enc, C.enc, hget, Result.andThen_ok, Sem.run_ite, if_pos hlt']
          unfold decL at hset' ⊢
          simp only [hset', Result.andThen_ok, Sem.run_pure]
          rfl
        · rw [hL] at hs0
          exact satW_replace hs0 rfl rfl (setBlk_same hob) (fun off => by rw [hob]; rfl)
      · refine ⟨_, _, w, h.f hlt, ?_, hs0⟩
        have hlt' : ¬ pos < (⟨⟨l⟩⟩ : ByteArray).size := hlt
        simp only [Instr.next, Sem.run_bind, V.enc, C.enc, hget, Result.andThen_ok, Sem.run_ite, if_neg hlt', Sem.run_pure]
    · exact h.elim
  · rename_i id ad
    split at h
    · rename_i ad' m since seen last ho
      obtain ⟨h0, h⟩ := h
      subst h0
      obtain ⟨A, B, id', hL, hset⟩ := findObj_split ho
      have hob : w.heap[ad]? = some (.mapIter (some m) since seen last) := by
        obtain ⟨_, hh, _⟩ := hs
        exact allOk_mem hh.ok (ch := .obj id' ad _) (by rw [hL]; simp)
      rcases nextE_sound (P := P) (ty := ty) h hs hob with ⟨hB, hr⟩ | ⟨kx, v, seen', n, w1, hA, hw1, hr⟩
      · exact ⟨_, _, w, hB, hr, hs⟩
      · have hs1 : SatW G w1 L D := by
          rcases hw1 with rfl | rfl
          · exact hs
          · exact satW_drew hs
        have hob1 : w1.heap[ad]? = some (.mapIter (some m) since seen last) := by rcases hw1 with rfl | rfl <;> exact hob
        refine ⟨_, _, setBlk w1 ad (.mapIter (some m) since seen' n), hset _ _ hA, hr, ?_⟩
        rw [hL] at hs1
        exact satW_replace hs1 rfl rfl (setBlk_same hob1) (fun off => by rw [hob1]; rfl)
    · exact h.elim
  · exact h.elim
def vcEntry (x : V) (L : List Chunk) (k : V → Prop) : Prop :=
  match x with
  | .c (.p id ad 0) =>
    match findObj L id with
    | some (ad', .mapIter (some m) _ seen last) => EqP ad ad' (EntE L m seen last fun kx v => k (.t2 kx v))
    | _ => False
  | _ => False
theorem vcEntry_sound {P : Program} {G : Ent} {w : World} {x : V} {L : List Chunk} {D : List Fact} {k : V → Prop} (h : vcEntry x L k) (hs : SatW G w L D) :
    ∃ v, k v ∧ (Instr.entry x.enc).run P w = .ok v.enc w := by
  unfold vcEntry at h
  split at h
  · rename_i id ad
    split at h
    · rename_i ad' m since seen last ho
      obtain ⟨h0, h⟩ := h
      subst h0
      obtain ⟨A, B, id', hL, _⟩ := findObj_split ho
      have hob : w.heap[ad]? = some (.mapIter (some m) since seen last) := by
        obtain ⟨_, hh, _⟩ := hs
        exact allOk_mem hh.ok (ch := .obj id' ad _) (by rw [hL]; simp)
      obtain ⟨kx, v, hk, hr⟩ := entE_sound (P := P) h hs hob
      exact ⟨_, hk, hr⟩
    · exact h.elim
  · exact h.elim
abbrev Kv := List (List UInt8 × V)
def mapEs : Kv → Nat → List MapEntry
  | [], _ => []
  | x :: r, i => { key := .string ⟨⟨x.1⟩⟩, val := x.2.enc, born := i } :: mapEs r (i + 1)
def mapO (kv : Kv) : Obj := .map (mapEs kv 0).toArray kv.length
def kvGet : Kv → List UInt8 → Option V
  | [], _ => none
  | x :: r, k => if x.1 = k then some x.2 else kvGet r k
def kvPut : Kv → List UInt8 → V → Kv
  | [], k, v => [(k, v)]
  | x :: r, k, v => if x.1 = k then (x.1, v) :: r else x :: kvPut r k v
def kvIdx : Kv → List UInt8 → Nat → Option (Nat × V)
  | [], _, _ => none
  | x :: r, k, i => if x.1 = k then some (i, x.2) else kvIdx r k (i + 1)
theorem bytesBeq (a b : List UInt8) : ((⟨⟨a⟩⟩ : ByteArray) == ⟨⟨b⟩⟩) = decide (a = b) := by
  have e : ((⟨⟨a⟩⟩ : ByteArray) == ⟨⟨b⟩⟩) = ((⟨a⟩ : Array UInt8) == ⟨b⟩) := rfl
  rw [e, Bool.eq_iff_iff, beq_iff_eq, decide_eq_true_eq, Array.mk.injEq]
theorem findNow_mapEs (k : List UInt8) : ∀ (kv : Kv) (n i : Nat), Instr.findNow .string (.string ⟨⟨k⟩⟩) (mapEs kv n) i = some ((kvIdx kv k i).map fun x => (x.1, x.2.enc))
  | [], _, _ => rfl
  | x :: r, n, i => by
    simp only [mapEs, Instr.findNow, Instr.sameNow, bytesBeq, kvIdx]
    by_cases h : x.1 = k
    · rw [decide_eq_true h.symm, if_pos h]; rfl
    · rw [decide_eq_false (fun hc => h hc.symm), if_neg h]; exact findNow_mapEs k r (n + 1) (i + 1)
theorem kvIdx_get (k : List UInt8) : ∀ (kv : Kv) (i : Nat), (kvIdx kv k i).map (·.2) = kvGet kv k
  | [], _ => rfl
  | x :: r, i => by
    simp only [kvIdx, kvGet]
    by_cases h : x.1 = k
    · rw [if_pos h, if_pos h]; rfl
    · rw [if_neg h, if_neg h]; exact kvIdx_get k r (i + 1)
theorem kvIdx_some {k : List UInt8} : ∀ {kv : Kv} {n i j : Nat} {v u : V}, kvIdx kv k i = some (j, v) →
    ∃ q, j = i + q ∧ (∃ b, (mapEs kv n)[q]? = some { key := .string ⟨⟨k⟩⟩, val := v.enc, born := b }) ∧ (mapEs kv n).modify q (fun e => { e with key := .string ⟨⟨k⟩⟩, val := u.enc }) = mapEs (kvPut kv k u) n ∧ (kvPut kv k u).length = kv.length
  | [], _, _, _, _, _, h => by cases h
  | x :: r, n, i, j, v, u, h => by
    simp only [kvIdx] at h
    by_cases hx : x.1 = k
    · rw [if_pos hx] at h
      cases h
      refine ⟨0, rfl, ⟨n, by simp [mapEs, hx]⟩, ?_, ?_⟩ <;> simp [mapEs, kvPut, hx]
    · rw [if_neg hx] at h
      obtain ⟨q, hq, ⟨b, hb⟩, hm, hl⟩ := kvIdx_some (n := n + 1) (u := u) h
      refine ⟨q + 1, by omega, ⟨b, by simpa [mapEs] using hb⟩, ?_, ?_⟩
      · simp [mapEs, kvPut, hx, hm]
      · simp [kvPut, hx, hl]
theorem kvIdx_none {k : List UInt8} : ∀ {kv : Kv} {n i : Nat} {u : V}, kvIdx kv k i = none →
    mapEs kv n ++ [{ key := .string ⟨⟨k⟩⟩, val := u.enc, born := n + kv.length }] = mapEs (kvPut kv k u) n ∧ (kvPut kv k u).length = kv.length + 1
  | [], n, _, u, _ => by simp [mapEs, kvPut]
  | x :: r, n, i, u, h => by
    simp only [kvIdx] at h
    by_cases hx : x.1 = k
    · rw [if_pos hx] at h; cases h
    · rw [if_neg hx] at h
      obtain ⟨h1, h2⟩ := kvIdx_none (n := n + 1) (u := u) h
      have e : n + (r.length + 1) = n + 1 + r.length := by omega
      refine ⟨?_, by simp [kvPut, hx, h2]⟩
      simp only [mapEs, kvPut, if_neg hx, List.cons_append, List.length_cons, e, h1]
structure LookP (kv : Kv) (key : List UInt8) (A : V → Prop) (B : Prop) : Prop where
  t : ∀ v, kvGet kv key = some v → A v
  f : kvGet kv key = none → B
inductive MapE (es : Array MapEntry) (c : Nat) (K : Kv → Prop) : Prop where
  | mk (kv : Kv) (h : es = (mapEs kv 0).toArray) (hc : c = kv.length) (k : K kv)
def isStr : Option TyI → Bool
  | some i => match i.d with | .str => true | _ => false
  | none => false
theorem isStr_ok {P : Program} {T : Ty} (hT : TyOK P T) {e : Nat} (h : isStr (find T e) = true) : P.underlying e = some .string := by
  unfold isStr at h
  split at h
  · rename_i i hi
    have hd' := (hT _ _ hi).2.2.2
    split at h
    · rename_i hd; rw [hd] at hd'; exact hd'
    · cases h
  · cases h
def vcMakeMap (r : Option Operand) (L : List Chunk) (D : List Fact) (nid : Nat) (k : KV) : Prop :=
  match r with
  | none => NewP fun ad => k (.c (.m nid ad)) (.obj nid ad (mapO []) :: L) D (nid + 1)
  | some _ => False
def lookV (ok : Bool) (v : V) (b : Bool) : V :=
  match ok with
  | true => .t2 v (.c (.b b))
  | false => v
theorem lookV_enc (ok : Bool) (v : V) (b : Bool) : (lookV ok v b).enc = if ok = true then .tuple #[v.enc, .bool b] else v.enc := by cases ok <;> rfl
def vcLook (T : Ty) (t : Nat) (x key : V) (ok : Bool) (L : List Chunk) (D : List Fact) (k : V → Prop) : Prop :=
  match find T t with
  | some i => match i.d, x, key with
    | .mp kt et, .c (.m id ad), .c (.s key) => match isStr (find T kt), find T et, findObj L id with
      | true, some ei, some (ad', .map es c) => EqP ad ad' (MapE es c fun kv => LookP kv key (fun v => k (lookV ok v true)) (k (lookV ok ei.zero false)))
      | _, _, _ => False
    | .mp kt et, .c (.m id ad), .agg key => match isSt (find T kt), find T et, findObj L id with
      | true, some ei, some (ad', .map es c) => EqP ad ad' (LookG T kt es c key (fun v => k (lookV ok v true)) (k (lookV ok ei.zero false)))
      | _, _, _ => False
    | .mp kt et, .c (.m id ad), .c (.i kd key) => match isInt (find T kt), find T et, findObj L id with
      | true, some ei, some (ad', .map es c) => EqP ad ad' (LookI kd es c key (fun v => k (lookV ok v true)) (k (lookV ok ei.zero false)))
      | _, _, _ => False
    | _, _, _ => False
  | none => False
def vcUpd (T : Ty) (t : Nat) (x key v : V) (L : List Chunk) (k : List Chunk → Prop) : Prop :=
  match find T t with
  | some i => match i.d, x, key with
    | .mp kt _, .c (.m id ad), .c (.s key) => match isStr (find T kt), findObj L id with
      | true, some (ad', .map es c) => EqP ad ad' (MapE es c fun kv => setObjK L id (mapO (kvPut kv key v)) k)
      | _, _ => False
    | .mp kt _, .c (.m id ad), .agg key => match isSt (find T kt), findObj L id with
      | true, some (ad', .map es c) => EqP ad ad' (UpdG T kt es c key v fun o => setObjK L id o k)
      | _, _ => False
    | .mp kt _, .c (.m id ad), .c (.i kd key) => match isInt (find T kt), findObj L id with
      | true, some (ad', .map es c) => EqP ad ad' (UpdI kd es c key v fun o => setObjK L id o k)
      | _, _ => False
    | _, _, _ => False
  | none => False
theorem run_checkKey_str {P : Program} {w : World} {t : Nat} (h : P.underlying t = some .string) (b : Bool) (n : Nat) (s : ByteArray) : (Instr.checkKey b (n + 1) t (.string s)).run P w = .ok () w := by
  simp [Instr.checkKey, run_underlying h]
theorem sameBits_str : ∀ (n : Nat) (a b : ByteArray), Instr.sameBits n (.string a) (.string b) = (a == b)
  | 0, _, _ => rfl
  | _ + 1, _, _ => rfl
theorem run_findKey_str {P : Program} {w : World} {t : Nat} (h : P.underlying t = some .string) (kv : Kv) (key : List UInt8) :
    (Instr.findKey t (.string ⟨⟨key⟩⟩) (mapEs kv 0)).run P w = .ok ((kvIdx kv key 0).map fun x => (x.1, x.2.enc)) w := by
  simp only [Instr.findKey, Sem.run_bind, run_underlying h, Result.andThen_ok, findNow_mapEs, Sem.run_pure]
theorem vcLook_sound {P : Program} {T : Ty} (hT : TyOK P T) {G : Ent} {w : World} {t : Nat} {x key : V} {ok : Bool} {L : List Chunk} {D : List Fact} {k : V → Prop} (h : vcLook T t x key ok L D k) (hs : SatW G w L D) :
    ∃ v, k v ∧ (Instr.lookup t x.enc key.enc ok).run P w = .ok v.enc w := by
  unfold vcLook at h
  split at h
  · rename_i i hi
    have hd' := (hT _ _ hi).2.2.2
    split at h
    · rename_i kt et id ad key hd
      rw [hd] at hd'
      simp only [TyD.ok] at hd'
      split at h
      · rename_i ei ad' es c hk hei ho
        obtain ⟨h0, h⟩ := h
        subst h0
        obtain ⟨kv, rfl, rfl, h⟩ := h
        have hks := isStr_ok hT hk
        obtain ⟨A, B, id', hL, _⟩ := findObj_split ho
        obtain ⟨m, hh, _⟩ := hs
        have hob : w.heap[ad]? = some (.map (mapEs kv 0).toArray kv.length) := allOk_mem hh.ok (ch := .obj id' ad _) (by rw [hL]; simp)
        have hget : (getObj ad).run P w = .ok (.map (mapEs kv 0).toArray kv.length) w := by simp [getObj, Sem.run, hob]
        have hgi := kvIdx_get key kv 0
        cases hx : kvIdx kv key 0 with
        | none =>
          rw [hx] at hgi
          refine ⟨_, h.f hgi.symm, ?_⟩
          have hfk := run_findKey_str (P := P) (w := w) hks kv key
          rw [hx] at hfk
          simp only [Instr.lookup, Sem.run_bind, run_underlying hd', Result.andThen_ok, V.enc, C.enc, hget, Sem.run_pure, run_checkKey_str hks, hfk, Option.map_none, run_zeroValue (hT _ _ hei), lookV_enc]
        | some y =>
          rw [hx] at hgi
          refine ⟨_, h.t y.2 hgi.symm, ?_⟩
          have hfk := run_findKey_str (P := P) (w := w) hks kv key
          rw [hx] at hfk
          simp only [Instr.lookup, Sem.run_bind, run_underlying hd', Result.andThen_ok, V.enc, C.enc, hget, Sem.run_pure, run_checkKey_str hks, hfk, Option.map_some, lookV_enc]
      · exact h.elim
    · rename_i kt et id ad key hd
      rw [hd] at hd'
      simp only [TyD.ok] at hd'
      split at h
      · rename_i ei ad' es c hk hei ho
        obtain ⟨h0, h⟩ := h
        subst h0
        obtain ⟨α, dec, f, kv, q, rfl, rfl, rfl, hK, ht, hn⟩ := h
        obtain ⟨A, B, id', hL, _⟩ := findObj_split ho
        obtain ⟨m, hh, _⟩ := hs
        have hob : w.heap[ad]? = some (.map (gEs (aggV f) kv 0).toArray kv.length) := allOk_mem hh.ok (ch := .obj id' ad _) (by rw [hL]; simp)
        have hget : (getObj ad).run P w = .ok (.map (gEs (aggV f) kv 0).toArray kv.length) w := by simp [getObj, Sem.run, hob]
        have hgi := gIdx_get q kv 0
        have hfk := run_findKey_st (P := P) hT hk hK w q kv
        have hck := fun em => run_checkKey_st (P := P) hT hk hK q em w
        cases hx : gIdx kv q 0 with
        | none =>
          rw [hx] at hgi hfk
          refine ⟨_, hn hgi.symm, ?_⟩
          simp only [Instr.lookup, Sem.run_bind, run_underlying hd', Result.andThen_ok, show (V.c (C.m id ad)).enc = .map (some ad) from rfl, hget, Sem.run_pure, hck, hfk, Option.map_none, run_zeroValue (hT _ _ hei), lookV_enc]
        | some y =>
          rw [hx] at hgi hfk
          refine ⟨_, ht y.2 hgi.symm, ?_⟩
          simp only [Instr.lookup, Sem.run_bind, run_underlying hd', Result.andThen_ok, show (V.c (C.m id ad)).enc = .map (some ad) from rfl, hget, Sem.run_pure, hck, hfk, Option.map_some, lookV_enc]
      · exact h.elim
    · rename_i kt et id ad kd key hd
      rw [hd] at hd'
      simp only [TyD.ok] at hd'
      split at h
      · rename_i ei ad' es c hk hei ho
        obtain ⟨h0, h⟩ := h
        subst h0
        obtain ⟨kv, rfl, rfl, ht, hn⟩ := h
        obtain ⟨k0, hk0⟩ := isInt_ok hT hk
        obtain ⟨A, B, id', hL, _⟩ := findObj_split ho
        obtain ⟨m, hh, _⟩ := hs
        have hob : w.heap[ad]? = some (.map (gEs (intV kd) kv 0).toArray kv.length) := allOk_mem hh.ok (ch := .obj id' ad _) (by rw [hL]; simp)
        have hget : (getObj ad).run P w = .ok (.map (gEs (intV kd) kv 0).toArray kv.length) w := by simp [getObj, Sem.run, hob]
        have hgi := gIdx_get key kv 0
        have hfk := run_findKey_int (P := P) (w := w) (kd := kd) hk0 kv key
        have hck := fun em => run_checkKey_int (P := P) (w := w) (kd := kd) hk0 em 9999 key
        cases hx : gIdx kv key 0 with
        | none =>
          rw [hx] at hgi hfk
          refine ⟨_, hn hgi.symm, ?_⟩
          simp only [Instr.lookup, Sem.run_bind, run_underlying hd', Result.andThen_ok, V.enc, C.enc, hget, Sem.run_pure, hck, hfk, Option.map_none, run_zeroValue (hT _ _ hei), lookV_enc]
        | some y =>
          rw [hx] at hgi hfk
          refine ⟨_, ht y.2 hgi.symm, ?_⟩
          simp only [Instr.lookup, Sem.run_bind, run_underlying hd', Result.andThen_ok, V.enc, C.enc, hget, Sem.run_pure, hck, hfk, Option.map_some, lookV_enc]
      · exact h.elim
    · exact h.elim
  · exact h.elim
theorem vcUpd_sound {P : Program} {T : Ty} (hT : TyOK P T) {G : Ent} {w : World} {t : Nat} {x key v : V} {L : List Chunk} {D : List Fact} {k : List Chunk → Prop} (h : vcUpd T t x key v L k) (hs : SatW G w L D) :
    ∃ L' w', k L' ∧ (Instr.mapUpdate t x.enc key.enc v.enc).run P w = .ok () w' ∧ SatW G w' L' D := by
  unfold vcUpd at h
  split at h
  · rename_i i hi
    have hd' := (hT _ _ hi).2.2.2
    split at h
    · rename_i kt et id ad key hd
      rw [hd] at hd'
      simp only [TyD.ok] at hd'
      split at h
      · rename_i ad' es c hk ho
        obtain ⟨h0, h⟩ := h
        subst h0
        obtain ⟨kv, rfl, rfl, h⟩ := h
        have hks := isStr_ok hT hk
        obtain ⟨A, B, id', hL, hset⟩ := findObj_split ho
        have hs0 := hs
        obtain ⟨m, hh, _⟩ := hs
        have hob : w.heap[ad]? = some (.map (mapEs kv 0).toArray kv.length) := allOk_mem hh.ok (ch := .obj id' ad _) (by rw [hL]; simp)
        have hget : (getObj ad).run P w = .ok (.map (mapEs kv 0).toArray kv.length) w := by simp [getObj, Sem.run, hob]
        have hfk := run_findKey_str (P := P) (w := w) hks kv key
        have hset' : (setObj ad (mapO (kvPut kv key v))).run P w = .ok () (setBlk w ad (mapO (kvPut kv key v))) := by simp [setObj, Sem.run, hob, setBlk]
        refine ⟨_, setBlk w ad (mapO (kvPut kv key v)), hset _ _ h, ?_, ?_⟩
        · cases hx : kvIdx kv key 0 with
          | none =>
            rw [hx] at hfk
            obtain ⟨h1, h2⟩ := kvIdx_none (n := 0) (u := v) hx
            have he : (Obj.map ((mapEs kv 0).toArray.push { key := .string ⟨⟨key⟩⟩, val := v.enc, born := kv.length }) (kv.length + 1)) = mapO (kvPut kv key v) := by
              unfold mapO
              rw [h2, ← h1]
              simp
            simp only [Instr.mapUpdate, Sem.run_bind, run_underlying hd', Result.andThen_ok, V.enc, C.enc, hget, run_checkKey_str hks, hfk, Option.map_none]
            rw [he]
            exact hset'
          | some y =>
            rw [hx] at hfk
            obtain ⟨j, y⟩ := y
            obtain ⟨q, hq, ⟨b, hb⟩, hm, hl⟩ := kvIdx_some (n := 0) (u := v) hx
            rw [Nat.zero_add] at hq
            subst hq
            have hkey : (((((mapEs kv 0).toArray)[j]?).map (fun e : MapEntry => e.key)).getD (Value.string ⟨⟨key⟩⟩)) = .string ⟨⟨key⟩⟩ := by
              simp [hb]
            have he : (Obj.map ((mapEs kv 0).toArray.modify j fun e => { e with key := .string ⟨⟨key⟩⟩, val := v.enc }) kv.length) = mapO (kvPut kv key v) := by
              unfold mapO
              rw [hl, ← hm]
              simp
            simp only [Instr.mapUpdate, Sem.run_bind, run_underlying hd', Result.andThen_ok, V.enc, C.enc, hget, run_checkKey_str hks, hfk, Option.map_some, hkey, Instr.keyThatStays, sameBits_str, bytesBeq, eq_self, decide_true, if_true, Sem.run_pure, Sem.run_ite]
            rw [he]
            exact hset'
        · rw [hL] at hs0
          exact satW_replace hs0 rfl rfl (setBlk_same hob) (fun off => by rw [hob]; rfl)
      · exact h.elim
    · rename_i kt et id ad key hd
      rw [hd] at hd'
      simp only [TyD.ok] at hd'
      split at h
      · rename_i ad' es c hk ho
        obtain ⟨h0, h⟩ := h
        subst h0
        obtain ⟨α, dec, f, kv, q, rfl, rfl, rfl, hK, h⟩ := h
        obtain ⟨A, B, id', hL, hset⟩ := findObj_split ho
        have hs0 := hs
        obtain ⟨m, hh, _⟩ := hs
        have hob : w.heap[ad]? = some (.map (gEs (aggV f) kv 0).toArray kv.length) := allOk_mem hh.ok (ch := .obj id' ad _) (by rw [hL]; simp)
        have hget : (getObj ad).run P w = .ok (.map (gEs (aggV f) kv 0).toArray kv.length) w := by simp [getObj, Sem.run, hob]
        have hfk := run_findKey_st (P := P) hT hk hK w q kv
        have hck := fun em => run_checkKey_st (P := P) hT hk hK q em w
        have hset' : (setObj ad (gO (aggV f) (gPut kv q v))).run P w = .ok () (setBlk w ad (gO (aggV f) (gPut kv q v))) := by simp [setObj, Sem.run, hob, setBlk]
        refine ⟨_, setBlk w ad (gO (aggV f) (gPut kv q v)), hset _ _ h, ?_, ?_⟩
        · cases hx : gIdx kv q 0 with
          | none =>
            rw [hx] at hfk
            obtain ⟨h1, h2⟩ := gIdx_none (g := aggV f) (n := 0) (u := v) hx
            have he : (Obj.map ((gEs (aggV f) kv 0).toArray.push { key := (aggV f q).enc, val := v.enc, born := kv.length }) (kv.length + 1)) = gO (aggV f) (gPut kv q v) := by
              unfold gO
              rw [h2, ← h1]
              simp
            simp only [Instr.mapUpdate, Sem.run_bind, run_underlying hd', Result.andThen_ok, show (V.c (C.m id ad)).enc = .map (some ad) from rfl, hget, hck, hfk, Option.map_none]
            rw [he]
            exact hset'
          | some y =>
            rw [hx] at hfk
            obtain ⟨j, y⟩ := y
            obtain ⟨q', hq', ⟨b, hb⟩, hm, hl⟩ := gIdx_some (g := aggV f) (n := 0) (u := v) hx
            rw [Nat.zero_add] at hq'
            subst hq'
            have hkey : (((((gEs (aggV f) kv 0).toArray)[j]?).map (fun e : MapEntry => e.key)).getD (V.agg (f q)).enc) = (V.agg (f q)).enc := by
              simp [hb]
            have he : (Obj.map ((gEs (aggV f) kv 0).toArray.modify j fun e => { e with key := (V.agg (f q)).enc, val := v.enc }) kv.length) = gO (aggV f) (gPut kv q v) := by
              unfold gO
              rw [hl, ← hm]
              simp
            have hks : (Instr.keyThatStays (V.agg (f q)).enc (V.agg (f q)).enc).run P w = .ok (V.agg (f q)).enc w := by
              simp only [Instr.keyThatStays, show Instr.sameBits 10000 (V.agg (f q)).enc (V.agg (f q)).enc = true from sameBits_agg (hK.pl q) 9999, if_true, Sem.run_pure]
            simp only [Instr.mapUpdate, Sem.run_bind, run_underlying hd', Result.andThen_ok, show (V.c (C.m id ad)).enc = .map (some ad) from rfl, hget, hck, hfk, Option.map_some, hkey, hks]
            rw [he]
            exact hset'
        · rw [hL] at hs0
          exact satW_replace hs0 rfl rfl (setBlk_same hob) (fun off => by rw [hob]; rfl)
      · exact h.elim
    · rename_i kt et id ad kd key hd
      rw [hd] at hd'
      simp only [TyD.ok] at hd'
      split at h
      · rename_i ad' es c hk ho
        obtain ⟨h0, h⟩ := h
        subst h0
        obtain ⟨kv, rfl, rfl, h⟩ := h
        obtain ⟨k0, hk0⟩ := isInt_ok hT hk
        obtain ⟨A, B, id', hL, hset⟩ := findObj_split ho
        have hs0 := hs
        obtain ⟨m, hh, _⟩ := hs
        have hob : w.heap[ad]? = some (.map (gEs (intV kd) kv 0).toArray kv.length) := allOk_mem hh.ok (ch := .obj id' ad _) (by rw [hL]; simp)
        have hget : (getObj ad).run P w = .ok (.map (gEs (intV kd) kv 0).toArray kv.length) w := by simp [getObj, Sem.run, hob]
        have hfk := run_findKey_int (P := P) (w := w) (kd := kd) hk0 kv key
        have hck := fun em => run_checkKey_int (P := P) (w := w) (kd := kd) hk0 em 9999 key
        have hset' : (setObj ad (gO (intV kd) (gPut kv key v))).run P w = .ok () (setBlk w ad (gO (intV kd) (gPut kv key v))) := by simp [setObj, Sem.run, hob, setBlk]
        refine ⟨_, setBlk w ad (gO (intV kd) (gPut kv key v)), hset _ _ h, ?_, ?_⟩
        · cases hx : gIdx kv key 0 with
          | none =>
            rw [hx] at hfk
            obtain ⟨h1, h2⟩ := gIdx_none (g := intV kd) (n := 0) (u := v) hx
            have he : (Obj.map ((gEs (intV kd) kv 0).toArray.push { key := .int kd key, val := v.enc, born := kv.length }) (kv.length + 1)) = gO (intV kd) (gPut kv key v) := by
              unfold gO
              rw [h2, ← h1]
              simp [V.enc, C.enc]
            simp only [Instr.mapUpdate, Sem.run_bind, run_underlying hd', Result.andThen_ok, V.enc, C.enc, hget, hck, hfk, Option.map_none]
            rw [he]
            exact hset'
          | some y =>
            rw [hx] at hfk
            obtain ⟨j, y⟩ := y
            obtain ⟨q', hq', ⟨b, hb⟩, hm, hl⟩ := gIdx_some (g := intV kd) (n := 0) (u := v) hx
            rw [Nat.zero_add] at hq'
            subst hq'
            have hkey : (((((gEs (intV kd) kv 0).toArray)[j]?).map (fun e : MapEntry => e.key)).getD (Value.int kd key)) = Value.int kd key := by
              simp [hb, V.enc, C.enc]
            have he : (Obj.map ((gEs (intV kd) kv 0).toArray.modify j fun e => { e with key := Value.int kd key, val := v.enc }) kv.length) = gO (intV kd) (gPut kv key v) := by
              unfold gO
              rw [hl, ← hm]
              simp [V.enc, C.enc]
            have hks : (Instr.keyThatStays (Value.int kd key) (Value.int kd key)).run P w = .ok (Value.int kd key) w := by
              simp only [Instr.keyThatStays, show Instr.sameBits 10000 (Value.int kd key) (Value.int kd key) = true from sameBits_plain (c := .i kd key) rfl 10000, if_true, Sem.run_pure]
            simp only [Instr.mapUpdate, Sem.run_bind, run_underlying hd', Result.andThen_ok, V.enc, C.enc, hget, hck, hfk, Option.map_some, hkey, hks]
            rw [he]
            exact hset'
        · rw [hL] at hs0
          exact satW_replace hs0 rfl rfl (setBlk_same hob) (fun off => by rw [hob]; rfl)
      · exact h.elim
    · exact h.elim
  · exact h.elim
def capV (x : Nat × Nat × Nat) : V := .c (.p x.1 x.2.1 x.2.2)
def capsK (env : Env) : List Operand → (List (Nat × Nat × Nat) → Prop) → Prop
  | [], k => k []
  | x :: r, k => withE env x fun v => match v with
    | .c (.p id ad off) => capsK env r fun l => k ((id, ad, off) :: l)
    | _ => False
theorem capsK_sound {N : Nat} {env : Env} {a : Act} (he : EnvOK N env a) : ∀ {xs : List Operand} {k : List (Nat × Nat × Nat) → Prop}, capsK env xs k → ∃ l, k l ∧ xs.map a.eval = l.map fun x => Value.pointer (some ⟨x.2.1, x.2.2, none⟩)
  | [], k, h => ⟨[], h, rfl⟩
  | x :: r, k, h => by
    obtain ⟨v, hv, h⟩ := withE_elim h
    split at h
    · rename_i id ad off
      obtain ⟨l, hl, he'⟩ := capsK_sound he h
      exact ⟨_, hl, by simp only [List.map_cons, he.ev hv, he', V.enc, C.enc]⟩
    · exact h.elim
def vcMakeFunc (fn : Fn) (first caps : List Operand) (env : Env) (k : V → Prop) : Prop :=
  match fn, first with
  | .func f, [] => capsK env caps fun l => k (.c (.fn f l))
  | .func f, [x] => match caps with
    | [] => withE env x fun v => k (.c (.raw (.func (.func f) #[v.enc] #[])))
    | _ => False
  | _, _ => False
inductive BoundP (P : Program) (f : FuncId) (first caps : Array Value) (vs : List V) (L : List Chunk) (D : List Fact) (K : V → List Chunk → List Fact → Prop) : Prop where
  | mk (fs : List V) (h : first = (fs.map V.enc).toArray) (hc : caps = #[]) (k : CallP P f (fs ++ vs) L D K)
structure MethOK (P : Program) (t : TypeId) (name : String) (f : FuncId) : Prop where
  h : ∀ v w, (method (P.types.size + Made.depth) t v name).run P w = .ok (f, v) w
theorem MethOK.ptr {P : Program} {t e : TypeId} {name : String} {f : FuncId} {i : TypeInfo} {m : Method} (ht : P.info? t = some i) (hm : i.methods.find? (·.name == name) = some m) (hp : m.path.toList = []) (hf : m.func = some (f, true)) (hu : P.underlying t = some (.pointer e)) : MethOK P t name f :=
  ⟨fun v w => by
    have h0 : 0 < Made.depth := by decide
    have hd : P.types.size + Made.depth = (P.types.size + Made.depth - 1) + 1 := by omega
    rw [hd]
    simp [method, typeInfo, ht, hm, hp, hf, follow, receiverAt, run_underlying hu, Place.get]⟩
inductive InvP (P : Program) (v : V) (name : String) (vs : List V) (L : List Chunk) (D : List Fact) (K : V → List Chunk → List Fact → Prop) : Prop where
  | mk (t : TypeId) (x : V) (f : FuncId) (hv : v.enc = .iface t x.enc) (hm : MethOK P t name f) (k : CallP P f (x :: vs) L D K)
def vcCallV (P : Program) (v : V) (vs : List V) (L : List Chunk) (D : List Fact) (K : V → List Chunk → List Fact → Prop) : Prop :=
  match v with
  | .c (.fn f caps) => CallP P f (vs ++ caps.map capV) L D K
  | .c (.raw (.func (.func f) first caps)) => BoundP P f first caps vs L D K
  | _ => False
def vcIface (T : Ty) (t : Nat) (v : V) (k : V → Prop) : Prop :=
  match find T t with
  | some i => match i.d with
    | .ptr _ => k (.c (.raw (.iface t v.enc)))
    | _ => False
  | none => False
def vcCall (P : Program) (T : Ty) (c : Call) (env : Env) (L : List Chunk) (D : List Fact) (nid : Nat) (k : KV) : Prop :=
  match c.callee with
  | .value (.func f) => argsK env c.args.toList fun vs => CallP P f vs L D fun v L' D' => k v L' D' nid
  | .builtin b => argsK env c.args.toList fun vs => vcBuiltin P T b c.argTypes.toList vs L D nid k
  | .value x => withE env x fun v => argsK env c.args.toList fun vs => vcCallV P v vs L D fun v L' D' => k v L' D' nid
  | .invoke x name => withE env x fun v => argsK env c.args.toList fun vs => InvP P v name vs L D fun v L' D' => k v L' D' nid
def vcOp (P : Program) (T : Ty) (op : Op) (env : Env) (L : List Chunk) (D : List Fact) (nid : Nat) (k : KV) : Prop :=
  match op with
  | .move x => withE env x fun v => k v L D nid
  | .assign x => withE env x fun v => k v L D nid
  | .pick c a b => pickK env c a b fun v => k v L D nid
  | .alloc t =>
    match find T t with
    | some i => vcBox T t i.zero L D nid k
    | none => False
  | .box t x => withE env x fun v => vcBox T t v L D nid k
  | .build t ps => partsK env ps.toList fun l => vcBuild T t l fun v => k v L D nid
  | .buildSlice t n ps => partsK env ps.toList fun l => vcBuildSlice T t n l L D nid k
  | .load t x => withE env x fun a => vcLoad T t a L D fun v => k v L D nid
  | .store t x y => withE env x fun a => withE env y fun v => vcStore T t a v L fun L' => k .t0 L' D nid
  | .binOp op t x y _ => withE env x fun a => withE env y fun b => vcBin T op t a b fun v => k v L D nid
  | .unOp op _ x => withE env x fun a => vcUn op a fun v => k v L D nid
  | .convert s d x => withE env x fun a => vcConvert P T s d a L D nid k
  | .makeSlice t l c => withE env l fun l => withE env c fun c => vcMakeSlice T t l c L D nid k
  | .slice t x lo hi none => withE env x fun a => optK env lo fun lo => optK env hi fun hi => vcSlice T t a lo hi fun v => k v L D nid
  | .slice t x (some lo) (some hi) (some mx) => withE env x fun a => withE env lo fun lo => withE env hi fun hi => withE env mx fun mx => vcSlice3 T t a lo hi mx fun v => k v L D nid
  | .fieldAddr s x f => withE env x fun a => vcFieldAddr T s a f L D fun v => k v L D nid
  | .field t x f => withE env x fun a => vcField T t a f fun v => k v L D nid
  | .indexAddr t x i => withE env x fun a => withE env i fun i => vcIndexAddr T t a i L D fun v => k v L D nid
  | .index t x i => withE env x fun a => withE env i fun i => vcIndex T t a i fun v => k v L D nid
  | .extract x i => withE env x fun v => extractK v i fun v => k v L D nid
  | .call c => vcCall P T c env L D nid k
  | .nilCheck x => withE env x fun v => nilK v L D fun v => k v L D nid
  | .range t x => withE env x fun v => vcRange T t v L D nid k
  | .next x str => withE env x fun v => vcNext v str L D nid k
  | .entry x => withE env x fun v => vcEntry v L fun v => k v L D nid
  | .makeInterface t x => withE env x fun v => vcIface T t v fun v => k v L D nid
  | .makeFunc fn first caps => vcMakeFunc fn first.toList caps.toList env fun v => k v L D nid
  | .makeMap _ r => vcMakeMap r L D nid k
  | .lookup t x i ok => withE env x fun a => withE env i fun b => vcLook T t a b ok L D fun v => k v L D nid
  | .mapUpdate t x i v => withE env x fun a => withE env i fun b => withE env v fun v => vcUpd T t a b v L fun L' => k .t0 L' D nid
  | _ => False
theorem vcOp_sound {P : Program} {T : Ty} (hT : TyOK P T) {G : Ent} {N : Nat} {o : Oper} {env : Env} {a : Act} {w : World} {L : List Chunk} {D : List Fact} {nid : Nat} {k : KV} (h : vcOp P T o.op env L D nid k) (he : EnvOK N env a) (hs : SatW G w L D) :
    OpW P G o a w k := by
  unfold vcOp at h
  split at h
  · rename_i x ho
    obtain ⟨v, hv, h⟩ := withE_elim h
    exact opW_val (by simp only [execOp, ho, he.ev hv, Sem.run_pure]) h hs
  · rename_i x ho
    obtain ⟨v, hv, h⟩ := withE_elim h
    exact opW_val (by simp only [execOp, ho, he.ev hv, Sem.run_pure]) h hs
  · rename_i c x y ho
    obtain ⟨cv, hc, h⟩ := withE_elim h
    split at h
    · obtain ⟨v, hv, h⟩ := withE_elim h
      exact opW_val (v := v) (by simp only [execOp, ho, he.ev hc, he.ev hv, V.enc, C.enc, asBool, Sem.run_bind, Sem.run_pure, Result.andThen_ok, if_true]) h hs
    · obtain ⟨v, hv, h⟩ := withE_elim h
      exact opW_val (v := v) (by simp only [execOp, ho, he.ev hc, he.ev hv, V.enc, C.enc, asBool, Sem.run_bind, Sem.run_pure, Result.andThen_ok, Bool.false_eq_true, if_false]) h hs
    · exact h.elim
  · rename_i t ho
    split at h
    · rename_i i hi
      refine vcBox_sound h hs ?_
      simp only [execOp, ho, Instr.alloc, Sem.run_bind, run_zeroValue (hT _ _ hi), Result.andThen_ok, run_newVar, Sem.run_pure]
    · exact h.elim
  · rename_i t x ho
    obtain ⟨v, hv, h⟩ := withE_elim h
    refine vcBox_sound h hs ?_
    simp only [execOp, ho, Instr.box, Sem.run_bind, Result.andThen_ok, run_newVar, Sem.run_pure, he.ev hv]
  · rename_i t ps ho
    obtain ⟨l, h, hl⟩ := partsK_sound he h
    obtain ⟨v, hk, hr⟩ := vcBuild_sound hT h
    refine opW_val (v := v) (w' := w) ?_ hk hs
    have e : (ps.map fun (i, x) => (i, a.eval x)) = (l.map fun (i, v) => (i, v.enc)).toArray := by
      rw [← hl, ← Array.toList_map, Array.toArray_toList]
    simp only [execOp, ho, e, Sem.run_bind, hr w, Result.andThen_ok, Sem.run_pure]
  · rename_i t n ps ho
    obtain ⟨l, h, hl⟩ := partsK_sound he h
    obtain ⟨v, L', w', hk, hr, hs'⟩ := vcBuildSlice_sound hT h hs
    refine opW_val (v := v) (w' := w') ?_ hk hs'
    have e : (ps.map fun (i, x) => (i, a.eval x)) = (l.map fun (i, v) => (i, v.enc)).toArray := by
      rw [← hl, ← Array.toList_map, Array.toArray_toList]
    simp only [execOp, ho, e, Sem.run_bind, hr, Result.andThen_ok, Sem.run_pure]
  · rename_i t x ho
    obtain ⟨v, hv, h⟩ := withE_elim h
    obtain ⟨r, hk, hr⟩ := vcLoad_sound hT h hs
    exact opW_val (v := r) (by simp only [execOp, ho, he.ev hv, Sem.run_bind, hr, Result.andThen_ok, Sem.run_pure]) hk hs
  · rename_i t x y ho
    obtain ⟨v, hv, h⟩ := withE_elim h
    obtain ⟨u, hu, h⟩ := withE_elim h
    obtain ⟨L', w', hk, hr, hs'⟩ := vcStore_sound hT h hs
    exact opW_skip (by simp only [execOp, ho, he.ev hv, he.ev hu, Sem.run_bind, hr, Result.andThen_ok, Sem.run_pure]) hk hs'
  · rename_i op t x y yt ho
    obtain ⟨v, hv, h⟩ := withE_elim h
    obtain ⟨u, hu, h⟩ := withE_elim h
    obtain ⟨r, hk, hr⟩ := vcBin_sound hT (ox := x) (oy := y) h
    refine opW_val (v := r) (w' := w) ?_ hk hs
    have := hr w
    simp only [execOp, ho, he.ev hv, he.ev hu]
    rw [Sem.run_bind, this]
    rfl
  · rename_i op t x ho
    obtain ⟨v, hv, h⟩ := withE_elim h
    obtain ⟨r, hk, hr⟩ := vcUn_sound (P := P) h
    exact opW_val (v := r) (by simp only [execOp, ho, he.ev hv, Sem.run_bind, hr w, Result.andThen_ok, Sem.run_pure]) hk hs
  · rename_i s d x ho
    obtain ⟨v, hv, h⟩ := withE_elim h
    obtain ⟨r, L', w', hk, hr, hs'⟩ := vcConvert_sound hT h hs
    exact opW_val (v := r) (by simp only [execOp, ho, he.ev hv, Sem.run_bind, hr, Result.andThen_ok, Sem.run_pure]) hk hs'
  · rename_i t l c ho
    obtain ⟨v, hv, h⟩ := withE_elim h
    obtain ⟨u, hu, h⟩ := withE_elim h
    obtain ⟨r, L', w', hk, hr, hs'⟩ := vcMakeSlice_sound hT h hs
    exact opW_val (v := r) (by simp only [execOp, ho, he.ev hv, he.ev hu, Sem.run_bind, hr, Result.andThen_ok, Sem.run_pure]) hk hs'
  · rename_i t x lo hi ho
    obtain ⟨v, hv, h⟩ := withE_elim h
    obtain ⟨l, h, hl⟩ := optK_sound he h
    obtain ⟨u, h, hu⟩ := optK_sound he h
    obtain ⟨r, hk, hr⟩ := vcSlice_sound hT h
    exact opW_val (v := r) (by simp only [execOp, ho, he.ev hv, hl, hu, Option.map_none, Sem.run_bind, hr w, Result.andThen_ok, Sem.run_pure]) hk hs
  · rename_i t x lo hi mx ho
    obtain ⟨v, hv, h⟩ := withE_elim h
    obtain ⟨l, hl, h⟩ := withE_elim h
    obtain ⟨u, hu, h⟩ := withE_elim h
    obtain ⟨m, hm, h⟩ := withE_elim h
    obtain ⟨r, hk, hr⟩ := vcSlice3_sound hT h
    exact opW_val (v := r) (by simp only [execOp, ho, he.ev hv, he.ev hl, he.ev hu, he.ev hm, Option.map_some, Sem.run_bind, hr w, Result.andThen_ok, Sem.run_pure]) hk hs
  · rename_i s x f ho
    obtain ⟨v, hv, h⟩ := withE_elim h
    obtain ⟨r, hk, hr⟩ := vcFieldAddr_uni (G := G) hT h
    exact opW_val (v := r) (by simp only [execOp, ho, he.ev hv, Sem.run_bind, hr w hs, Result.andThen_ok, Sem.run_pure]) hk hs
  · rename_i t x f ho
    obtain ⟨v, hv, h⟩ := withE_elim h
    obtain ⟨r, hk, hr⟩ := vcField_sound hT h
    exact opW_val (v := r) (by simp only [execOp, ho, he.ev hv, Sem.run_bind, hr w, Result.andThen_ok, Sem.run_pure]) hk hs
  · rename_i t x i ho
    obtain ⟨v, hv, h⟩ := withE_elim h
    obtain ⟨u, hu, h⟩ := withE_elim h
    obtain ⟨r, hk, hr⟩ := vcIndexAddr_sound hT h hs
    exact opW_val (v := r) (by simp only [execOp, ho, he.ev hv, he.ev hu, Sem.run_bind, hr, Result.andThen_ok, Sem.run_pure]) hk hs
  · rename_i t x i ho
    obtain ⟨v, hv, h⟩ := withE_elim h
    obtain ⟨u, hu, h⟩ := withE_elim h
    obtain ⟨r, hk, hr⟩ := vcIndex_sound hT h
    exact opW_val (v := r) (by simp only [execOp, ho, he.ev hv, he.ev hu, Sem.run_bind, hr w, Result.andThen_ok, Sem.run_pure]) hk hs
  · rename_i x i ho
    obtain ⟨v, hv, h⟩ := withE_elim h
    obtain ⟨r, hk, hr⟩ := extractK_sound (P := P) h
    exact opW_val (v := r) (by simp only [execOp, ho, he.ev hv, Sem.run_bind, hr w, Result.andThen_ok, Sem.run_pure]) hk hs
  · rename_i c ho
    unfold vcCall at h
    split at h
    · rename_i f hc
      obtain ⟨vs, h, hvs⟩ := argsK_sound he h
      have hargs : c.args.map a.eval = (vs.map V.enc).toArray := by rw [← hvs, ← Array.toList_map, Array.toArray_toList]
      rcases callP_sound h hs with ⟨hen, hcall⟩ | ⟨v, L', w', hk, hr, hs'⟩
      rotate_left
      · refine opW_val (v := v) (w' := w') ?_ hk hs'
        simp only [execOp, ho, resolve, hc, Act.eval, Deferred.ofValue, Sem.run_bind, Sem.run_pure, Result.andThen_ok, invoke, hargs]
        simp [hr]
      unfold OpW gives
      have hrun : (execOp a.eval o).run P w = .ok (.enter f (vs.map V.enc).toArray) w := by
        simp only [execOp, ho, resolve, hc, Act.eval, Deferred.ofValue, Sem.run_bind, Sem.run_pure, Result.andThen_ok, invoke, hargs]
        simp [run_callFunc hen]
      rw [hrun]
      refine hcall.mono ?_
      rintro e w' ⟨v, L', D', rfl, hk, hs'⟩
      exact ⟨_, rfl, v, L', D', _, rfl, hk, hs'⟩
    · rename_i b hc
      obtain ⟨vs, h, hvs⟩ := argsK_sound he h
      have hargs : c.args.map a.eval = (vs.map V.enc).toArray := by rw [← hvs, ← Array.toList_map, Array.toArray_toList]
      obtain ⟨v, L', D', n', w', hk, hr, hs'⟩ := vcBuiltin_sound (ty := o.type) hT h hs
      refine opW_val (v := v) (w' := w') ?_ hk hs'
      simp only [execOp, ho, resolve, hc, Sem.run_bind, Sem.run_pure, Result.andThen_ok, invoke, hargs]
      exact hr _
    · rename_i x hx0 hc
      obtain ⟨v, hv, h⟩ := withE_elim h
      obtain ⟨vs, hcv, hvs⟩ := argsK_sound he h
      clear h
      unfold vcCallV at hcv
      split at hcv
      · rename_i f caps
        have hargs : c.args.map a.eval = (vs.map V.enc).toArray := by rw [← hvs, ← Array.toList_map, Array.toArray_toList]
        have hcap : (caps.map fun x => Value.pointer (some ⟨x.2.1, x.2.2, none⟩)) = (caps.map capV).map V.enc := by rw [List.map_map]; rfl
        rcases callP_sound hcv hs with ⟨hen, hcall⟩ | ⟨v', L', w', hk, hr, hs'⟩
        rotate_left
        · refine opW_val (v := v') (w' := w') ?_ hk hs'
          simp only [execOp, ho, resolve, hc, he.ev hv, V.enc, C.enc, Deferred.ofValue, Sem.run_bind, Sem.run_pure, Result.andThen_ok, invoke, hargs, hcap]
          rw [List.map_append, List.map_map] at hr
          simp [hr]
        unfold OpW gives
        have hrun : (execOp a.eval o).run P w = .ok (.enter f ((vs ++ caps.map capV).map V.enc).toArray) w := by
          simp only [execOp, ho, resolve, hc, he.ev hv, V.enc, C.enc, Deferred.ofValue, Sem.run_bind, Sem.run_pure, Result.andThen_ok, invoke, hargs, hcap]
          simp [run_callFunc hen]
        rw [hrun]
        refine hcall.mono ?_
        rintro e w' ⟨v, L', D', rfl, hk, hs'⟩
        exact ⟨_, rfl, v, L', D', _, rfl, hk, hs'⟩
      · rename_i f first caps
        have hargs : c.args.map a.eval = (vs.map V.enc).toArray := by rw [← hvs, ← Array.toList_map, Array.toArray_toList]
        obtain ⟨fs, rfl, rfl, hcv⟩ := hcv
        have happ : (fs.map V.enc).toArray ++ (vs.map V.enc).toArray ++ #[] = ((fs ++ vs).map V.enc).toArray := by simp
        rcases callP_sound hcv hs with ⟨hen, hcall⟩ | ⟨v', L', w', hk, hr, hs'⟩
        rotate_left
        · refine opW_val (v := v') (w' := w') ?_ hk hs'
          simp only [execOp, ho, resolve, hc, he.ev hv, V.enc, C.enc, Deferred.ofValue, Sem.run_bind, Sem.run_pure, Result.andThen_ok, invoke, hargs, happ]
          simp only [hr]
        unfold OpW gives
        have hrun : (execOp a.eval o).run P w = .ok (.enter f ((fs ++ vs).map V.enc).toArray) w := by
          simp only [execOp, ho, resolve, hc, he.ev hv, V.enc, C.enc, Deferred.ofValue, Sem.run_bind, Sem.run_pure, Result.andThen_ok, invoke, hargs, happ]
          simp only [run_callFunc hen]
        rw [hrun]
        refine hcall.mono ?_
        rintro e w' ⟨v, L', D', rfl, hk, hs'⟩
        exact ⟨_, rfl, v, L', D', _, rfl, hk, hs'⟩
      · exact hcv.elim
    · rename_i x name hc
      obtain ⟨v, hv, h⟩ := withE_elim h
      obtain ⟨vs, hcv, hvs⟩ := argsK_sound he h
      clear h
      have hargs : c.args.map a.eval = (vs.map V.enc).toArray := by rw [← hvs, ← Array.toList_map, Array.toArray_toList]
      obtain ⟨t, y, f, hve, hm, hcv⟩ := hcv
      have h0 : (#[v.enc] ++ (vs.map V.enc).toArray)[0]? = some (.iface t y.enc) := by simp [hve]
      have h1 : (#[v.enc] ++ (vs.map V.enc).toArray).extract 1 (#[v.enc] ++ (vs.map V.enc).toArray).size = (vs.map V.enc).toArray := by
        apply Array.ext'
        simp only [Array.toList_extract, List.extract_eq_drop_take, Array.toList_append, List.size_toArray, Array.size_append, List.length_map, List.length_cons, List.length_nil, List.cons_append, List.nil_append, List.drop_succ_cons, List.drop_zero]
        exact List.take_of_length_le (by simp)
      have happ : #[y.enc] ++ (vs.map V.enc).toArray = ((y :: vs).map V.enc).toArray := by simp
      have hcm : (callMethod (.iface t y.enc) name (vs.map V.enc).toArray).run P w = (callFunc f ((y :: vs).map V.enc).toArray).run P w := by
        simp only [callMethod, Sem.run_bind, run_program, Result.andThen_ok, hm.h, happ]
      rcases callP_sound hcv hs with ⟨hen, hcall⟩ | ⟨v', L', w', hk, hr, hs'⟩
      rotate_left
      · refine opW_val (v := v') (w' := w') ?_ hk hs'
        simp only [execOp, ho, resolve, hc, he.ev hv, Sem.run_bind, Sem.run_pure, Result.andThen_ok, invoke, hargs, h0, h1, hcm, hr]
      unfold OpW gives
      have hrun : (execOp a.eval o).run P w = .ok (.enter f ((y :: vs).map V.enc).toArray) w := by
        simp only [execOp, ho, resolve, hc, he.ev hv, Sem.run_bind, Sem.run_pure, Result.andThen_ok, invoke, hargs, h0, h1, hcm, run_callFunc hen]
      rw [hrun]
      refine hcall.mono ?_
      rintro e w' ⟨v, L', D', rfl, hk, hs'⟩
      exact ⟨_, rfl, v, L', D', _, rfl, hk, hs'⟩
  · rename_i x ho
    obtain ⟨v, hv, h⟩ := withE_elim h
    obtain ⟨hk, ha⟩ := nilK_sound (G := G) h
    obtain ⟨a', ha⟩ := ha w hs
    exact opW_val (v := v) (by simp only [execOp, ho, he.ev hv, ha, Sem.run_pure]) hk hs
  · rename_i t x ho
    obtain ⟨v, hv, h⟩ := withE_elim h
    obtain ⟨r, L', n', w', hk, hr, hs'⟩ := vcRange_sound hT h hs
    exact opW_val (v := r) (by simp only [execOp, ho, he.ev hv, Sem.run_bind, hr, Result.andThen_ok, Sem.run_pure]) hk hs'
  · rename_i x str ho
    obtain ⟨v, hv, h⟩ := withE_elim h
    obtain ⟨r, L', w', hk, hr, hs'⟩ := vcNext_sound (P := P) (ty := o.type) h hs
    exact opW_val (v := r) (by simp only [execOp, ho, he.ev hv, Sem.run_bind, hr, Result.andThen_ok, Sem.run_pure]) hk hs'
  · rename_i x ho
    obtain ⟨v, hv, h⟩ := withE_elim h
    obtain ⟨r, hk, hr⟩ := vcEntry_sound (P := P) h hs
    exact opW_val (v := r) (by simp only [execOp, ho, he.ev hv, Sem.run_bind, hr, Result.andThen_ok, Sem.run_pure]) hk hs
  · rename_i t x ho
    obtain ⟨v, hv, h⟩ := withE_elim h
    unfold vcIface at h
    split at h
    · rename_i i hi
      split at h
      · rename_i e hd
        have h1 := (hT _ _ hi).2.2.2
        rw [hd] at h1
        simp only [TyD.ok] at h1
        refine opW_val (v := .c (.raw (.iface t v.enc))) (w' := w) ?_ h hs
        simp only [execOp, ho, Instr.makeInterface, he.ev hv, Sem.run_bind, run_underlying h1, Result.andThen_ok, Sem.run_pure]
        rfl
      · exact h.elim
    · exact h.elim
  · rename_i fn first caps ho
    unfold vcMakeFunc at h
    split at h
    · rename_i f hfirst
      obtain ⟨l, hk, hl⟩ := capsK_sound he h
      have hf0 : first = #[] := by cases first; simp_all
      refine opW_val (v := .c (.fn f l)) (w' := w) ?_ hk hs
      have hl' : caps.map a.eval = (l.map fun x => Value.pointer (some ⟨x.2.1, x.2.2, none⟩)).toArray := by rw [← hl, ← Array.toList_map, Array.toArray_toList]
      simp only [execOp, ho, Instr.makeFunc, hf0, hl', V.enc, C.enc, Sem.run_bind, Sem.run_pure, Result.andThen_ok, List.map_toArray, List.map_nil, Array.map_empty]
    · rename_i f x hfirst
      split at h
      · rename_i hcaps
        obtain ⟨v, hv, h⟩ := withE_elim h
        have hf0 : first = #[x] := by rw [← Array.toArray_toList (xs := first), hfirst]
        have hc0 : caps = #[] := by rw [← Array.toArray_toList (xs := caps), hcaps]
        refine opW_val (v := .c (.raw (.func (.func f) #[v.enc] #[]))) (w' := w) ?_ h hs
        subst hf0 hc0
        simp only [execOp, ho, Instr.makeFunc, V.enc, C.enc, Sem.run_bind, Sem.run_pure, Result.andThen_ok, List.map_toArray, List.map_cons, List.map_nil, he.ev hv]
      · exact h.elim
    · exact h.elim
  · rename_i t r ho
    unfold vcMakeMap at h
    split at h
    · refine opW_val (v := .c (.m nid w.heap.size)) (w' := w.alloc (mapO [])) ?_ (h.k w.heap.size) (satW_alloc hs _ _ rfl (heap_alloc_new w _))
      simp only [execOp, ho, Instr.makeMap, Option.map_none, Sem.run_bind, Sem.run_pure, Result.andThen_ok, V.enc, C.enc]
      rfl
    · exact h.elim
  · rename_i t x i ok ho
    obtain ⟨v, hv, h⟩ := withE_elim h
    obtain ⟨u, hu, h⟩ := withE_elim h
    obtain ⟨r, hk, hr⟩ := vcLook_sound hT h hs
    exact opW_val (v := r) (by simp only [execOp, ho, he.ev hv, he.ev hu, Sem.run_bind, hr, Result.andThen_ok, Sem.run_pure]) hk hs
  · rename_i t x i v ho
    obtain ⟨a, ha, h⟩ := withE_elim h
    obtain ⟨b, hb, h⟩ := withE_elim h
    obtain ⟨u, hu, h⟩ := withE_elim h
    obtain ⟨L', w', hk, hr, hs'⟩ := vcUpd_sound hT h hs
    exact opW_skip (by simp only [execOp, ho, he.ev ha, he.ev hb, he.ev hu, Sem.run_bind, hr, Result.andThen_ok, Sem.run_pure]) hk hs'
  · exact h.elim
end Go.X
