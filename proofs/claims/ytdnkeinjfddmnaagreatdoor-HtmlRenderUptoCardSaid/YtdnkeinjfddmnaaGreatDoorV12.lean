/- This text proves the rules for functions that put calls off (defer), for functions without results. · This text gives contracts of what strings.Replacer needs of the library: the Once, its lock and its word. · This text gives the contracts of the Once: doSlow and Do, where the function has not been called yet. · This text says what the escaping of HTML computes, and what it does to lengths, with no program in sight. · This text gives the contracts of strings.NewReplacer at the eight strings of the escaping, and of build. · This text gives the contract of buildOnce: the replacer's algorithm is built. · This text walks through Replace of the byte replacer: it computes the escaped string. · This text gives the contract of html.Escape. · This text walks through the reference's Escape: it computes the escaped string too. · This text says what the HTML of a document is, on documents as trees. -/
import Derived.Test.YtdnkeinjfddmnaaGreatDoorV04
import Derived.Defers
import Derived.Test.YtdnkeinjfddmnaaGreatDoorV06
import Derived.Test.YtdnkeinjfddmnaaGreatDoorV08
import Derived.Laws.LoneSync
import Derived.Test.YtdnkeinjfddmnaaGreatDoorV01
import Derived.Test.YtdnkeinjfddmnaaGreatDoorV10
import Derived.Test.YtdnkeinjfddmnaaGreatDoorV11
set_option linter.all false
namespace Go.X
open Go
variable [Sm : Inhabited Manner]
structure FnD (P : Program) (f : FuncId) (args : List V) (L : List Chunk) (D : List Fact) (post : V → List Chunk → List Fact → Prop) : Prop where
  en : Enters P f
  run : ∀ w m u, Holds w m L D → CallsD P f (args.map V.enc).toArray u w fun e u' w' => u' = u ∧ ∃ v L' D' m', e = .returned v.enc ∧ post v L' D' ∧ Holds w' m' L' D' ∧ Fr w L m w' L' m'
theorem fnD_of_J {P : Program} {T : Ty} (hT : TyOK P T) {f : FuncId} {fn : Func} {c : Code} {args : List V} {L : List Chunk} {D : List Fact} {post : V → List Chunk → List Fact → Prop} {N : Nat} {rs : List ResultVar} (nid : Nat)
    (hf : P.funcs[f]? = some fn) (hnm : (fn.name == "runtime.NumGoroutine") = false) (hb : fn.body = some c) (hN : fn.ntmps = N) (hr : fn.results.toList = rs) (hlen : args.length ≤ N)
    (h : ∀ G, J P G N c (argEnv 0 args) L D nid (Kt.fin T rs post)) : FnD P f args L D post := by
  refine ⟨⟨fn, hf, hnm, by simp [hb]⟩, fun w m u hh => ?_⟩
  refine callsD_of_wp hf hb ?_
  have he : EnvOK N (argEnv 0 args) { tmps := (args.map V.enc).toArray ++ Array.replicate (fn.ntmps - (args.map V.enc).toArray.size) undef, defers := [] } := by
    refine ⟨rfl, by simp; omega, fun d v hl => ?_⟩
    obtain ⟨_, h2⟩ := look_argEnv _ _ _ _ hl
    simp only [Nat.sub_zero] at h2
    have hlt : d < args.length := (List.getElem?_eq_some_iff.1 h2).1
    rw [Array.getElem?_append_left (by simpa using hlt)]
    simp [h2]
  have hs : SatW ⟨w, L, m⟩ w L D := ⟨m, hh, Fr.refl _ _ _⟩
  refine wp_mono ((h ⟨w, L, m⟩).run _ _ he hs) ?_
  rintro e a' w' ⟨env', L', D', n', hk, he', hs'⟩
  subst hr
  have fin : (resK T env' L' D' fn.results.toList fun l => tupK l (FinE post L' D')) → a'.defers = [] ∧ ∃ v, (results fn a'.tmps).run P w' = .ok v w' ∧
      ∃ v' L' D' m', Ending.returned v = .returned v'.enc ∧ post v' L' D' ∧ Holds w' m' L' D' ∧ Fr w L m w' L' m' := fun hk => by
    obtain ⟨v, ⟨L2, D2, hp, hE⟩, hv⟩ := results_run (fn := fn) hT he' hs' hk
    obtain ⟨m2, h1, h2⟩ := hE ⟨w, L, m⟩ w' hs'
    exact ⟨he'.1, v.enc, hv, v, L2, D2, m2, rfl, hp, h1, h2⟩
  cases e with
  | normal => exact fin hk
  | ret => exact fin hk
  | exit id => exact hk.elim
  | goto l => exact hk.elim
  | panic ch => exact hk.elim
  | outgrown => exact hk.elim
def encD (x : FuncId × List V) : Deferred := ⟨.fn (.func x.1) #[], (x.2.map V.enc).toArray⟩
@[reducible] def dfI (dl : List (FuncId × List V)) : Inhabited (List Deferred) := ⟨dl.map encD⟩
inductive LvP (P : Program) (K : List Chunk → List Fact → Prop) : List (FuncId × List V) → List Chunk → List Fact → Prop where
  | nil (L : List Chunk) (D : List Fact) (k : K L D) : LvP P K [] L D
  | cons {f : FuncId} {args : List V} {ds : List (FuncId × List V)} {L : List Chunk} {D : List Fact} (L0 R : List Chunk) (D0 : List Fact) (post : V → List Chunk → List Fact → Prop) (h : FnD P f args L0 D0 post)
      (hp : L.Perm (L0 ++ R)) (hd : ∀ m, allD m D → allD m D0) (k : ∀ v L' D', post v L' D' → LvP P K ds (L' ++ R) (D' ++ D)) : LvP P K ((f, args) :: ds) L D
def EndR (G : Ent) (K : List Chunk → List Fact → Prop) : Ending → World → Prop := fun e w' => e = .returned (.tuple #[]) ∧ ∃ L' D', K L' D' ∧ SatW G w' L' D'
theorem lvP_sound {P : Program} {G : Ent} {fn : Func} {tmps : Array Value} {K : List Chunk → List Fact → Prop} (hres : ∀ w, (results fn tmps).run P w = .ok (.tuple #[]) w) : ∀ (ds : List (FuncId × List V)) (L : List Chunk) (D : List Fact) (w : World),
    LvP P K ds L D → SatW G w L D → Leaves P fn tmps (EndR G K) (ds.map encD) .returning w := by
  intro ds
  induction ds with
  | nil =>
    intro L D w h hs
    cases h with
    | nil _ _ k => exact ⟨_, hres w, rfl, L, D, k, hs⟩
  | cons d ds ih =>
    intro L D w h hs
    cases h with
    | cons L0 R D0 post hf hp hd k =>
      obtain ⟨m, h1, h2⟩ := satW_perm hp hs
      have h0 : Holds w m L0 D0 := by
        refine ⟨?_, ((allOk_append _ _).1 h1.ok).1, fun b o hb => ?_, hd m h1.d⟩
        · have := h1.nd
          rw [fps_append] at this
          exact (List.nodup_append.1 this).1
        · have h3 := h1.im b o hb
          exact ⟨h3.1, fun hc => h3.2 (by rw [fps_append]; simp [hc])⟩
      simp only [List.map_cons]
      refine leaves_cons (by simp) (f := _) (args := _) (by simp only [invoke, Array.append_empty]; exact run_callFunc hf.en _) ?_
      refine (hf.run w m .returning h0).mono ?_
      rintro e u' w' ⟨rfl, v, L', D', m', rfl, hpost, hh, hfr⟩
      obtain ⟨h3, h4⟩ := h1.frame hh hfr
      exact ih _ _ w' (k v L' D' hpost) ⟨m', h3, h2.trans h4⟩
structure JD (dl : List (FuncId × List V)) (P : Program) (G : Ent) (N : Nat) (fn : Func) (c : Code) (env : Env) (L : List Chunk) (D : List Fact) (nid : Nat) (K : List Chunk → List Fact → Prop) : Prop where
  run : ∀ a w, @EnvOK (dfI dl) N env a → SatW G w L D → c.wp P (bodyPostD P fn (EndR G K)) a w
section
variable {dl : List (FuncId × List V)} {P : Program} {G : Ent} {N : Nat} {fn : Func} {env : Env} {L : List Chunk} {D : List Fact} {nid : Nat} {K : List Chunk → List Fact → Prop}
theorem JD_seq {x y : Code} (h : @J Sm (dfI dl) P G N x env L D nid (fun e env' L' D' n' => match e with | .normal => JD dl P G N fn y env' L' D' n' K | _ => False)) : JD dl P G N fn (.seq x y) env L D nid K :=
  ⟨fun a w he hs => wp_seq (wp_mono (@J.run Sm (dfI dl) _ _ _ _ _ _ _ _ _ h a w he hs) fun e a' w' hq => by
    obtain ⟨env', L', D', n', hk, he', hs'⟩ := hq
    cases e with
    | normal => exact hk.run a' w' he' hs'
    | exit id => exact hk.elim
    | goto l => exact hk.elim
    | ret => exact hk.elim
    | panic ch => exact hk.elim
    | outgrown => exact hk.elim)⟩
theorem JD_cond {c : Operand} {x y : Code} (h : withE env c fun v => match v with | .c (.b true) => JD dl P G N fn x env L D nid K | .c (.b false) => JD dl P G N fn y env L D nid K | _ => False) : JD dl P G N fn (.cond c x y) env L D nid K :=
  ⟨fun a w he hs => by
    obtain ⟨v, hv, h⟩ := withE_elim h
    split at h
    · exact wp_cond_true (by rw [EnvOK.ev (Df := dfI dl) he hv]; rfl) (h.run a w he hs)
    · exact wp_cond_false (by rw [EnvOK.ev (Df := dfI dl) he hv]; rfl) (h.run a w he hs)
    · exact h.elim⟩
theorem JD_end {c : Code} (hres : ∀ tmps w, (results fn tmps).run P w = .ok (.tuple #[]) w) (h : @J Sm (dfI dl) P G N c env L D nid (fun e env' L' D' n' => match e with | .normal => LvP P K dl L' D' | .ret => LvP P K dl L' D' | _ => False)) : JD dl P G N fn c env L D nid K :=
  ⟨fun a w he hs => wp_mono (@J.run Sm (dfI dl) _ _ _ _ _ _ _ _ _ h a w he hs) fun e a' w' hq => by
    obtain ⟨env', L', D', n', hk, he', hs'⟩ := hq
    have hd : a'.defers = dl.map encD := he'.1
    have key : LvP P K dl L' D' → Leaves P fn a'.tmps (EndR G K) a'.defers .returning w' := fun hk => by rw [hd]; exact lvP_sound (hres _) _ _ _ _ hk hs'
    cases e with
    | normal => exact key hk
    | ret => exact key hk
    | exit id => exact hk.elim
    | goto l => exact hk.elim
    | panic ch => exact hk.elim
    | outgrown => exact hk.elim⟩
theorem vcOps_app [Df : Inhabited (List Deferred)] {T : Ty} (hT : TyOK P T) (ops : List Oper) (tail : List Oper) : ∀ (l : List Oper) (env : Env) (L : List Chunk) (D : List Fact) (nid : Nat) (k : Kont), vcOps P T N ops l env L D nid k →
    ∀ (Q : Exit → Act → World → Prop), (∀ env' L' D' n' a' w', k env' L' D' n' → EnvOK N env' a' → SatW G w' L' D' → wpList P ops.toArray Q tail a' w') →
    ∀ a w, EnvOK N env a → SatW G w L D → wpList P ops.toArray Q (l ++ tail) a w
  | [], env, L, D, nid, k, h, Q, hQ, a, w, he, hs => hQ _ _ _ _ _ _ h he hs
  | o :: rest, env, L, D, nid, k, h, Q, hQ, a, w, he, hs => by
    refine wpList_step fun Kn hKn => ?_
    simp only [vcOps] at h
    rcases wantK_sound he h with ⟨hw, h⟩ | ⟨hw, h⟩
    · rw [if_pos hw]
      refine (vcOp_sound hT h he hs).wp ?_
      rintro u w' ⟨v, L', D', n', rfl, hk, hs'⟩
      refine hKn _ _ ?_
      obtain ⟨env', hk', he'⟩ := putK_sound hk he
      exact vcOps_app hT ops tail rest env' L' D' n' k hk' Q hQ _ _ he' hs'
    · rw [if_neg (by simp [hw])]
      refine hKn _ _ ?_
      obtain ⟨env', hk', he'⟩ := putK_sound h he
      exact vcOps_app hT ops tail rest env' L D nid k hk' Q hQ _ _ he' hs
def lastK : List Oper → (List Oper → Oper → Prop) → Prop
  | [], _ => False
  | [o], k => k [] o
  | o :: o' :: r, k => lastK (o' :: r) fun p l => k (o :: p) l
theorem lastK_sound : ∀ {ops : List Oper} {k : List Oper → Oper → Prop}, lastK ops k → ∃ pre o, ops = pre ++ [o] ∧ k pre o
  | [], _, h => h.elim
  | [o], k, h => ⟨[], o, rfl, h⟩
  | o :: o' :: r, k, h => by
    obtain ⟨p, l, h1, h2⟩ := lastK_sound (ops := o' :: r) h
    exact ⟨o :: p, l, by rw [h1]; rfl, h2⟩
def deferK (o : Oper) (k : FuncId → List Operand → Prop) : Prop :=
  match o.op, o.guard, o.dst with
  | .defer c, none, none => match c.callee with
    | .value (.func f) => k f c.args.toList
    | _ => False
  | _, _, _ => False
theorem JD_defer {T : Ty} (hT : TyOK P T) {id : Nat} {ops : List Oper} {y : Code}
    (h : lastK ops fun pre o => deferK o fun f xs => @vcOps Sm P T N ops pre env L D nid (fun env' L' D' n' => argsK env' xs fun vs => JD ((f, vs) :: dl) P G N fn y env' L' D' n' K)) : JD dl P G N fn (.seq (.region id ops.toArray false) y) env L D nid K :=
  ⟨fun a w he hs => wp_seq (wp_region_lit (by
    obtain ⟨pre, o, hops, h⟩ := lastK_sound h
    subst hops
    unfold deferK at h
    split at h
    · rename_i c ho hg hdst
      split at h
      · rename_i f hc
        refine @vcOps_app Sm P G N (dfI dl) T hT (pre ++ [o]) [o] pre env L D nid _ h _ (fun env' L' D' n' a' w' hk he' hs' => ?_) a w he hs
        obtain ⟨vs, hk, hvs⟩ := argsK_sound (Df := dfI dl) he' hk
        refine wpList_step fun Kn hKn => ?_
        rw [if_pos (by simp [Region.wanted, hg])]
        have hargs : c.args.map a'.eval = (vs.map V.enc).toArray := by rw [← hvs, ← Array.toList_map, Array.toArray_toList]
        have hrun : (execOp a'.eval o).run P w' = .ok (.defer (encD (f, vs))) w' := by
          simp only [execOp, ho, resolve, hc, Act.eval, Deferred.ofValue, Sem.run_bind, Sem.run_pure, Result.andThen_ok, hargs, encD, Array.empty_append]
        unfold Oper.wp
        rw [hrun, Oper.upon_defer, hdst]
        refine hKn _ _ ?_
        refine wpList_nil ?_
        refine hk.run _ w' ⟨?_, he'.2⟩ hs'
        show encD (f, vs) :: a'.defers = _
        rw [he'.1]
        rfl
      · exact h.elim
    · exact h.elim))⟩
theorem fn_of_JD {f : FuncId} {c : Code} {args : List V} {post : V → List Chunk → List Fact → Prop} (nid : Nat)
    (hf : P.funcs[f]? = some fn) (hnm : (fn.name == "runtime.NumGoroutine") = false) (hb : fn.body = some c) (hN : fn.ntmps = N) (hlen : args.length ≤ N)
    (h : ∀ G, JD [] P G N fn c (argEnv 0 args) L D nid (fun L' D' => ∃ L2 D2, Ents L' D' L2 D2 ∧ post .t0 L2 D2)) : FnS P f args L D post := by
  refine ⟨⟨fn, hf, hnm, by simp [hb]⟩, fun w m hh => ?_⟩
  refine calls_of_wp_defers hf hb ?_
  have he : @EnvOK (dfI []) N (argEnv 0 args) { tmps := (args.map V.enc).toArray ++ Array.replicate (fn.ntmps - (args.map V.enc).toArray.size) undef, defers := [] } := by
    refine ⟨rfl, by simp; omega, fun d v hl => ?_⟩
    obtain ⟨_, h2⟩ := look_argEnv _ _ _ _ hl
    simp only [Nat.sub_zero] at h2
    have hlt : d < args.length := (List.getElem?_eq_some_iff.1 h2).1
    rw [Array.getElem?_append_left (by simpa using hlt)]
    simp [h2]
  have hs : SatW ⟨w, L, m⟩ w L D := ⟨m, hh, Fr.refl _ _ _⟩
  refine wp_mono ((h ⟨w, L, m⟩).run _ _ he hs) ?_
  have mono : ∀ (ds : List Deferred) (u : FrameMode) (tmps : Array Value) (w0 : World), Leaves P fn tmps (EndR ⟨w, L, m⟩ (fun L' D' => ∃ L2 D2, Ents L' D' L2 D2 ∧ post .t0 L2 D2)) ds u w0 →
      Leaves P fn tmps (fun e w' => ∃ v L' D' m', e = .returned v.enc ∧ post v L' D' ∧ Holds w' m' L' D' ∧ Fr w L m w' L' m') ds u w0 := by
    intro ds
    induction ds with
    | nil =>
      intro u tmps w0 hl
      cases u with
      | run => exact hl
      | returning =>
        obtain ⟨v, hr, he, L1, D1, ⟨L2, D2, hE, hp⟩, hs1⟩ := hl
        obtain ⟨m2, h1, h2⟩ := hE _ _ hs1
        exact ⟨v, hr, .t0, L2, D2, m2, he, hp, h1, h2⟩
      | panicking chain => exact absurd hl.1 (by simp)
    | cons d ds ih =>
      intro u tmps w0 hl
      obtain ⟨hu, fv, cap, f, args, h1, h2, h3⟩ := hl
      refine ⟨hu, fv, cap, f, args, h1, h2, h3.mono ?_⟩
      rintro e u' w' hq
      cases e with
      | returned v => exact ih _ _ _ hq
      | panicked ch => exact ih _ _ _ hq
      | outgrown => exact absurd hq.1 (by simp)
  rintro e a' w' hq
  cases e with
  | normal => exact mono _ _ _ _ hq
  | ret => exact mono _ _ _ _ hq
  | panic ch => exact mono _ _ _ _ hq
  | exit id => exact hq
  | goto l => exact hq
  | outgrown => exact absurd hq.1 (by simp)
end
theorem satW_box {G : Ent} {w : World} {L : List Chunk} {D : List Fact} {id ad ty : Nat} {cs : List C} (hs : SatW G w L D) (hm : .box id ad ty cs ∈ L) : w.heap[ad]? = some (.cells (cs.map C.enc).toArray ty (0, 0)) := by
  obtain ⟨m, h1, _⟩ := hs
  exact (allOk_mem h1.ok hm).2
theorem satW_setBox {G : Ent} {w : World} {B : List Chunk} {D : List Fact} {id ad ty : Nat} {cs : List C} (o : Nat) (x : C) (hx : x.one = true) (hs : SatW G w (.box id ad ty cs :: B) D) :
    SatW G (w.setCell ⟨ad, o, none⟩ x.enc) (.box id ad ty (cs.set o x) :: B) D := by
  have hb := satW_box hs (List.Mem.head _)
  have hone : oneAll cs := by
    obtain ⟨m, h1, _⟩ := hs
    exact h1.ok.1.1
  rw [setCell_blk hb]
  refine satW_replace (A := []) hs rfl rfl ⟨fun y hy => ?_, ?_⟩ (fun off => by rw [hb]; rfl)
  · rcases List.mem_or_eq_of_mem_set hy with h | h
    · exact hone y h
    · rw [h]; exact hx
  · rw [setBlk_same hb]
    simp [List.map_set]
theorem Ents.boxFact {id ad ty : Nat} {cs : List C} {L : List Chunk} {D : List Fact} (e z n : Nat) (hl : cs.length = n * z) : Ents (.box id ad ty cs :: L) D L (slFact e z (some ⟨ad, 0, none⟩) n cs :: D) := fun G w hs => by
  obtain ⟨m, h1, h2⟩ := hs
  have hbox := h1.ok.1
  have hg := hbox.2
  have hnd := h1.nd
  simp only [fps, Chunk.fp, List.cons_append, List.nil_append, List.nodup_cons] at hnd
  have hgm : ∀ o, m ad ≠ some o := fun o ho => (h1.im ad o ho).2 (by simp [fps, Chunk.fp])
  refine ⟨fun b => if b = ad then some (.cells (cs.map C.enc).toArray ty (0, 0)) else m b, ⟨hnd.2, h1.ok.2, ?_, ?_⟩, ?_⟩
  · intro b o hb
    by_cases hbg : b = ad
    · subst hbg
      simp only [if_true, Option.some.injEq] at hb
      exact ⟨by rw [hg, hb], hnd.1⟩
    · simp only [if_neg hbg] at hb
      have h3 := h1.im b o hb
      exact ⟨h3.1, fun hc => h3.2 (by simp [fps, hc])⟩
  · refine ⟨⟨hbox.1, .inr ⟨ad, 0, (cs.map C.enc).toArray, ty, 0, 0, rfl, by simp, hl, ?_⟩⟩, allD_mono (fun b o hb => ?_) h1.d⟩
    · rw [← hl]
      simp only [List.drop_zero]
      exact List.take_of_length_le (by simp)
    · by_cases hbg : b = ad
      · subst hbg; exact absurd hb (hgm o)
      · simpa [hbg] using hb
  · refine ⟨h2.size, h2.same, fun b hb => h2.own b (by simp [fps, hb]), fun b o hb => ?_, fun b o hb => ?_, h2.kept⟩
    · have h3 := h2.im b o hb
      by_cases hbg : b = ad
      · subst hbg; exact absurd h3 (hgm o)
      · simpa [hbg] using h3
    · by_cases hbg : b = ad
      · subst hbg
        rcases h2.own b (by simp [fps, Chunk.fp]) with h3 | h3
        · exact .inr (.inl h3)
        · exact .inr (.inr h3)
      · simp only [if_neg hbg] at hb
        exact h2.new b o hb
theorem slF_re {m : Im} {e z e' z' n n' : Nat} {a : Option Addr} {cs : List C} (h : SlF m e z a n cs) (hn : n ≠ 0) (hz : n * z = n' * z') : SlF m e' z' a n' cs := by
  refine ⟨h.1, ?_⟩
  rcases h.2 with ⟨h0, _⟩ | ⟨g, off, cur, ty, lo, hi, h1, h2, h3, h4⟩
  · exact absurd h0 hn
  · exact .inr ⟨g, off, cur, ty, lo, hi, h1, h2, by rw [h3, hz], by rw [← hz]; exact h4⟩
end Go.X
namespace Go.Proofs
open Go Go.X
set_option maxRecDepth 100000
def rb (ab : Nat) (d m : Int) (r z : C) : Chunk := .box 0 ab 130 [.i .u32 d, .i .i32 m, .i .u32 0, r, z]
theorem disable_run (w : World) : (callFunc 190 #[]).run Tryz.prog w = .ok (.value (.tuple #[])) w := run_call_mark0 Tryz.func190 (by kernel_rfl) (by kernel_rfl) (by kernel_rfl) .disable (by kernel_rfl) w
theorem enable_run (w : World) : (callFunc 192 #[]).run Tryz.prog w = .ok (.value (.tuple #[])) w := run_call_mark0 Tryz.func192 (by kernel_rfl) (by kernel_rfl) (by kernel_rfl) .enable (by kernel_rfl) w
theorem acquire_run (a : Addr) (w : World) : (callFunc 193 #[.pointer (some a)]).run Tryz.prog w = .ok (.value (.tuple #[])) w := run_call_marked Tryz.func193 (by kernel_rfl) (by kernel_rfl) (by kernel_rfl) .acquire (by kernel_rfl) a w
theorem releaseMerge_run (a : Addr) (w : World) : (callFunc 195 #[.pointer (some a)]).run Tryz.prog w = .ok (.value (.tuple #[])) w := run_call_marked Tryz.func195 (by kernel_rfl) (by kernel_rfl) (by kernel_rfl) .releaseMerge (by kernel_rfl) a w
theorem rb_cell {G : Ent} {w : World} {L : List Chunk} {D : List Fact} {ab : Nat} {d m : Int} {r z : C} (hs : SatW G w (rb ab d m r z :: L) D) : w.cell? ⟨ab, 0, none⟩ = some (.int .u32 d) ∧ w.cell? ⟨ab, 1, none⟩ = some (.int .i32 m) ∧ w.frozen? ⟨ab, 0, none⟩ = false ∧ w.frozen? ⟨ab, 1, none⟩ = false := by
  have hb := satW_box hs (List.Mem.head _)
  refine ⟨by simp [World.cell?, hb, C.enc], by simp [World.cell?, hb, C.enc], by simp [World.frozen?, hb], by simp [World.frozen?, hb]⟩
section
variable {L : List Chunk} {D : List Fact} {K : V → List Chunk → List Fact → Prop} {ab : Nat} {d m : Int} {r z : C}
theorem disableP (k : K .t0 L D) : CallP Tryz.prog 190 [] L D K := .ext .t0 (fun _ w _ => disable_run w) k
theorem enableP (k : K .t0 L D) : CallP Tryz.prog 192 [] L D K := .ext .t0 (fun _ w _ => enable_run w) k
theorem acquireP {i a o : Nat} (k : K .t0 L D) : CallP Tryz.prog 193 [.c (.p i a o)] L D K := .ext .t0 (fun _ w _ => acquire_run _ w) k
theorem releaseMergeP {i a o : Nat} (k : K .t0 L D) : CallP Tryz.prog 195 [.c (.p i a o)] L D K := .ext .t0 (fun _ w _ => releaseMerge_run _ w) k
theorem loadP (k : K (.c (.i .u32 d)) (rb ab d m r z :: L) D) : CallP Tryz.prog 151 [.c (.p 0 ab 0)] (rb ab d m r z :: L) D K :=
  .ext (.c (.i .u32 d)) (fun G w hs => by
    have h := (rb_cell hs).1
    exact run_call_load Tryz.func151 (by kernel_rfl) (by kernel_rfl) (by kernel_rfl) .u32 (by kernel_rfl) h) k
theorem casP (k : K (.c (.b true)) (rb ab d 1 r z :: L) D) : CallP Tryz.prog 191 [.c (.p 0 ab 1), .c (.i .i32 0), .c (.i .i32 1)] (rb ab d 0 r z :: L) D K :=
  .extW (.c (.b true)) (rb ab d 1 r z :: L) (fun G w hs => by
    have h := rb_cell hs
    have hr := run_call_cas_hit (P := Tryz.prog) Tryz.func191 (by kernel_rfl) (by kernel_rfl) (by kernel_rfl) .i32 (by kernel_rfl) (y := 1) h.2.1 h.2.2.2
    exact ⟨_, hr, satW_setBox 1 (.i .i32 1) rfl hs⟩) k
theorem addP (k : K (.c (.i .i32 0)) (rb ab d 0 r z :: L) D) : CallP Tryz.prog 196 [.c (.p 0 ab 1), .c (.i .i32 (-1))] (rb ab d 1 r z :: L) D K :=
  .extW (.c (.i .i32 0)) (rb ab d 0 r z :: L) (fun G w hs => by
    have h := rb_cell hs
    have hr := run_call_add (P := Tryz.prog) Tryz.func196 (by kernel_rfl) (by kernel_rfl) (by kernel_rfl) .i32 (by kernel_rfl) (y := -1) (s := 0) h.2.1 h.2.2.2 (by simp [go_sem]; rfl)
    exact ⟨_, hr, satW_setBox 1 (.i .i32 0) rfl hs⟩) k
theorem storeP (k : K .t0 (rb ab 1 m r z :: L) D) : CallP Tryz.prog 178 [.c (.p 0 ab 0), .c (.i .u32 1)] (rb ab d m r z :: L) D K :=
  .extW .t0 (rb ab 1 m r z :: L) (fun G w hs => by
    have h := rb_cell hs
    have hr := run_call_store (P := Tryz.prog) Tryz.func178 (by kernel_rfl) (by kernel_rfl) (by kernel_rfl) (by kernel_rfl) (k := .u32) (y := 1) h.1 h.2.2.1
    exact ⟨_, hr, satW_setBox 0 (.i .u32 1) rfl hs⟩) k
end
theorem boolLoad_ok (ab : Nat) (m : Int) (r z : C) : FnS Tryz.prog 113 [.c (.p 0 ab 0)] [rb ab 0 m r z] [] (fun v L D => v = .c (.b false) ∧ L = [rb ab 0 m r z] ∧ D = []) := by
  unfold rb
  refine fn_of_J Tryz.tyOK 7000 Tryz.func113 (by kernel_rfl) (c := Tryz.f113.body.getD .skip) (by kernel_rfl) Tryz.ntmps113 (rs := Tryz.f113.results.toList) rfl (by simp) (fun G => ?_)
  repeat' first
    | refine J_seq ?_ | refine J_region Tryz.tyOK ?_ | refine J_block ?_ | refine J_cond ?_ | refine J_ret ?_ | refine J_skip ?_ | refine J_exit ?_ | refine J_scope ?_
    | refine CondP.yes (by omega) ?_ | refine CondP.no (by omega) ?_ | refine CondP.mk (fun h => ?_) (fun h => ?_) | refine EqP.mk rfl ?_ | refine NewP.mk (fun ad => ?_) | refine ArP.exact (by simp only [inR]; omega) ?_ | refine SideP.mk (by first | omega | (dsimp only; omega) | (simp; omega)) ?_
    | refine loadP ?_ | refine FinE.mk _ [] ⟨rfl, rfl, rfl⟩ (Ents.refl _ _)
    | fail
theorem innerLock_ok (ab : Nat) (r z : C) : FnS Tryz.prog 176 [.c (.p 0 ab 1)] [rb ab 0 0 r z] [] (fun v L D => v = .t0 ∧ L = [rb ab 0 1 r z] ∧ D = []) := by
  unfold rb
  refine fn_of_J Tryz.tyOK 7000 Tryz.func176 (by kernel_rfl) (c := Tryz.f176.body.getD .skip) (by kernel_rfl) Tryz.ntmps176 (rs := Tryz.f176.results.toList) rfl (by simp) (fun G => ?_)
  repeat' first
    | refine J_seq ?_ | refine J_region Tryz.tyOK ?_ | refine J_block ?_ | refine J_cond ?_ | refine J_ret ?_ | refine J_skip ?_ | refine J_exit ?_ | refine J_scope ?_
    | refine CondP.yes (by omega) ?_ | refine CondP.no (by omega) ?_ | refine CondP.mk (fun h => ?_) (fun h => ?_) | refine EqP.mk rfl ?_ | refine NewP.mk (fun ad => ?_) | refine ArP.exact (by simp only [inR]; omega) ?_ | refine SideP.mk (by first | omega | (dsimp only; omega) | (simp; omega)) ?_
    | refine disableP ?_ | refine enableP ?_ | refine acquireP ?_ | refine casP ?_ | refine SideP.mk ⟨rfl, by show 1 < 5; decide⟩ ?_ | refine FinE.mk _ [] ⟨rfl, rfl, rfl⟩ (Ents.refl _ _)
    | fail
theorem lock_ok (ab : Nat) (r z : C) : FnS Tryz.prog 152 [.c (.p 0 ab 1)] [rb ab 0 0 r z] [] (fun v L D => v = .t0 ∧ L = [rb ab 0 1 r z] ∧ D = []) := by
  have c1 := innerLock_ok ab r z
  unfold rb at c1 ⊢
  refine fn_of_J Tryz.tyOK 7000 Tryz.func152 (by kernel_rfl) (c := Tryz.f152.body.getD .skip) (by kernel_rfl) Tryz.ntmps152 (rs := Tryz.f152.results.toList) rfl (by simp) (fun G => ?_)
  repeat' first
    | refine J_seq ?_ | refine J_region Tryz.tyOK ?_ | refine J_block ?_ | refine J_cond ?_ | refine J_ret ?_ | refine J_skip ?_ | refine J_exit ?_ | refine J_scope ?_
    | refine CondP.yes (by omega) ?_ | refine CondP.no (by omega) ?_ | refine CondP.mk (fun h => ?_) (fun h => ?_) | refine EqP.mk rfl ?_ | refine NewP.mk (fun ad => ?_) | refine ArP.exact (by simp only [inR]; omega) ?_ | refine SideP.mk (by first | omega | (dsimp only; omega) | (simp; omega)) ?_
    | refine CallP.mk [_] [] [] _ c1 (List.Perm.refl _) (fun _ _ => trivial) (fun v L' D' hp => ?_); obtain ⟨rfl, rfl, rfl⟩ := hp | refine FinE.mk _ [] ⟨rfl, rfl, rfl⟩ (Ents.refl _ _)
    | fail
theorem innerUnlock_ok (ab : Nat) (r z : C) : FnS Tryz.prog 177 [.c (.p 0 ab 1)] [rb ab 1 1 r z] [] (fun v L D => v = .t0 ∧ L = [rb ab 1 0 r z] ∧ D = []) := by
  unfold rb
  refine fn_of_J Tryz.tyOK 7000 Tryz.func177 (by kernel_rfl) (c := Tryz.f177.body.getD .skip) (by kernel_rfl) Tryz.ntmps177 (rs := Tryz.f177.results.toList) rfl (by simp) (fun G => ?_)
  repeat' first
    | refine J_seq ?_ | refine J_region Tryz.tyOK ?_ | refine J_block ?_ | refine J_cond ?_ | refine J_ret ?_ | refine J_skip ?_ | refine J_exit ?_ | refine J_scope ?_
    | refine CondP.yes (by omega) ?_ | refine CondP.no (by omega) ?_ | refine CondP.mk (fun h => ?_) (fun h => ?_) | refine EqP.mk rfl ?_ | refine NewP.mk (fun ad => ?_) | refine ArP.exact (by simp only [inR]; omega) ?_ | refine SideP.mk (by first | omega | (dsimp only; omega) | (simp; omega)) ?_
    | refine disableP ?_ | refine enableP ?_ | refine releaseMergeP ?_ | refine addP ?_ | refine SideP.mk ⟨rfl, by show 1 < 5; decide⟩ ?_ | refine FinE.mk _ [] ⟨rfl, rfl, rfl⟩ (Ents.refl _ _)
    | fail
theorem unlockD_ok (ab : Nat) (r z : C) : FnD Tryz.prog 153 [.c (.p 0 ab 1)] [rb ab 1 1 r z] [] (fun v L D => v = .t0 ∧ L = [rb ab 1 0 r z] ∧ D = []) := by
  have c1 := innerUnlock_ok ab r z
  unfold rb at c1 ⊢
  refine fnD_of_J Tryz.tyOK 7000 Tryz.func153 (by kernel_rfl) (c := Tryz.f153.body.getD .skip) (by kernel_rfl) Tryz.ntmps153 (rs := Tryz.f153.results.toList) rfl (by simp) (fun G => ?_)
  repeat' first
    | refine J_seq ?_ | refine J_region Tryz.tyOK ?_ | refine J_block ?_ | refine J_cond ?_ | refine J_ret ?_ | refine J_skip ?_ | refine J_exit ?_ | refine J_scope ?_
    | refine CondP.yes (by omega) ?_ | refine CondP.no (by omega) ?_ | refine CondP.mk (fun h => ?_) (fun h => ?_) | refine EqP.mk rfl ?_ | refine NewP.mk (fun ad => ?_) | refine ArP.exact (by simp only [inR]; omega) ?_ | refine SideP.mk (by first | omega | (dsimp only; omega) | (simp; omega)) ?_
    | refine CallP.mk [_] [] [] _ c1 (List.Perm.refl _) (fun _ _ => trivial) (fun v L' D' hp => ?_); obtain ⟨rfl, rfl, rfl⟩ := hp | refine FinE.mk _ [] ⟨rfl, rfl, rfl⟩ (Ents.refl _ _)
    | fail
theorem b32_ok : FnS Tryz.prog 179 [.c (.b true)] [] [] (Is (.c (.i .u32 1))) := by
  refine fn_of_J Tryz.tyOK 7000 Tryz.func179 (by kernel_rfl) (c := Tryz.f179.body.getD .skip) (by kernel_rfl) Tryz.ntmps179 (rs := Tryz.f179.results.toList) rfl (by simp) (fun G => ?_)
  repeat' first
    | refine J_seq ?_ | refine J_region Tryz.tyOK ?_ | refine J_block ?_ | refine J_cond ?_ | refine J_ret ?_ | refine J_skip ?_ | refine J_exit ?_ | refine J_scope ?_
    | refine CondP.yes (by omega) ?_ | refine CondP.no (by omega) ?_ | refine CondP.mk (fun h => ?_) (fun h => ?_) | refine EqP.mk rfl ?_ | refine NewP.mk (fun ad => ?_) | refine ArP.exact (by simp only [inR]; omega) ?_ | refine SideP.mk (by first | omega | (dsimp only; omega) | (simp; omega)) ?_
    | refine FinE.int rfl
    | fail
theorem boolStoreD_ok (ab : Nat) (r z : C) : FnD Tryz.prog 154 [.c (.p 0 ab 0), .c (.b true)] [rb ab 0 1 r z] [] (fun v L D => v = .t0 ∧ L = [rb ab 1 1 r z] ∧ D = []) := by
  unfold rb
  refine fnD_of_J Tryz.tyOK 7000 Tryz.func154 (by kernel_rfl) (c := Tryz.f154.body.getD .skip) (by kernel_rfl) Tryz.ntmps154 (rs := Tryz.f154.results.toList) rfl (by simp) (fun G => ?_)
  repeat' first
    | refine J_seq ?_ | refine J_region Tryz.tyOK ?_ | refine J_block ?_ | refine J_cond ?_ | refine J_ret ?_ | refine J_skip ?_ | refine J_exit ?_ | refine J_scope ?_
    | refine CondP.yes (by omega) ?_ | refine CondP.no (by omega) ?_ | refine CondP.mk (fun h => ?_) (fun h => ?_) | refine EqP.mk rfl ?_ | refine NewP.mk (fun ad => ?_) | refine ArP.exact (by simp only [inR]; omega) ?_ | refine SideP.mk (by first | omega | (dsimp only; omega) | (simp; omega)) ?_
    | refine J_drawU (id := 0) Tryz.tyOK (by kernel_rfl) [0, 1, 3, 0, 8, 31] (.leaf [0, 1, 2, 3, 4, 5]) [5] [] 5 true (by kernel_rfl) ?_ | refine TwoP.mk ?_ ?_ | refine GoP.mk (by repeat (first | exact List.Sublist.slnil | refine List.Sublist.cons_cons _ ?_ | refine List.Sublist.cons _ ?_)) (by first | exact fun _ h => h | exact fun _ h => h.2 | exact fun _ h => ((allD_append _ _).1 h).2) ?_ | exact trivial | refine EntP.mk (Ents.ofSub (by repeat (first | exact List.Sublist.slnil | refine List.Sublist.cons_cons _ ?_ | refine List.Sublist.cons _ ?_)) (by first | exact fun _ h => h | exact fun _ _ => trivial | exact fun _ h => h.2 | exact fun _ h => h.2.2.2.2 | exact fun _ h => h.2.2 | exact fun _ h => h.2.2.2 | exact fun _ h => h.2.2.2.2.2 | exact fun _ h => h.2.2.2.2.2.2 | exact fun _ h => h.2.2.2.2.2.2.2 | exact fun _ h => h.2.2.2.2.2.2.2.2 | exact fun _ h => h.2.2.2.2.2.2.2.2.2 | exact fun _ h => h.2.2.2.2.2.2.2.2.2.2 | exact fun _ h => ((allD_append _ _).1 h).2)) ?_ | refine CallQ.mk [] _ b32_ok (fun _ _ => trivial) ?_ | refine storeP ?_ | refine FinE.mk _ [] ⟨rfl, rfl, rfl⟩ (Ents.refl _ _)
    | fail
end Go.Proofs
namespace Go.Proofs
open Go Go.X
set_option maxRecDepth 100000
def onceF (ab : Nat) : V := .c (.raw (.func (.func 78) #[(V.c (.p 0 ab 0)).enc] #[]))
def BuiltP (ab : Nat) (d m : Int) (Q : C → C → List Chunk → List Fact → Prop) : V → List Chunk → List Fact → Prop := fun v L D => ∃ r z R, v = .t0 ∧ L = rb ab d m r z :: R ∧ Q r z R D
theorem doSlow_ok (ab : Nat) (r z : C) (R : List Chunk) (D : List Fact) (Q : C → C → List Chunk → List Fact → Prop)
    (hf : FnS Tryz.prog 78 [.c (.p 0 ab 0)] (rb ab 0 1 r z :: R) D (BuiltP ab 0 1 Q)) (hQ : ∀ r z R D1, Q r z R D1 → Q r z R (D1 ++ D)) :
    FnS Tryz.prog 114 [.c (.p 0 ab 0), onceF ab] (rb ab 0 0 r z :: R) D (BuiltP ab 1 0 Q) := by
  have c1 := lock_ok ab r z
  have c2 := boolLoad_ok ab 1 r z
  refine fn_of_JD 7000 Tryz.func114 (by kernel_rfl) (c := Tryz.f114.body.getD .skip) (by kernel_rfl) Tryz.ntmps114 (by simp) (fun G => ?_)
  have hres : ∀ tmps w, (results Tryz.f114 tmps).run Tryz.prog w = .ok (.tuple #[]) w := fun tmps w => by simp [results, Tryz.results114]
  refine JD_seq ?_
  repeat' first
    | refine J_seq ?_ | refine J_region Tryz.tyOK ?_ | refine J_block ?_ | refine J_cond ?_ | refine J_ret ?_ | refine J_skip ?_ | refine J_exit ?_ | refine J_scope ?_
    | refine CondP.yes (by omega) ?_ | refine CondP.no (by omega) ?_ | refine CondP.mk (fun h => ?_) (fun h => ?_) | refine EqP.mk rfl ?_ | refine NewP.mk (fun ad => ?_) | refine ArP.exact (by simp only [inR]; omega) ?_ | refine SideP.mk (by first | omega | (dsimp only; omega) | (simp; omega)) ?_
    | refine CallP.mk [_] _ [] _ c1 (List.Perm.refl _) (fun _ _ => trivial) (fun v L' D' hp => ?_); obtain ⟨rfl, rfl, rfl⟩ := hp
    | fail
  refine JD_defer Tryz.tyOK ?_
  letI i1 : Inhabited (List Deferred) := dfI [(153, [.c (.p 0 ab 1)])]
  refine JD_seq ?_
  repeat' first
    | refine J_seq ?_ | refine J_region Tryz.tyOK ?_ | refine J_block ?_ | refine J_cond ?_ | refine J_ret ?_ | refine J_skip ?_ | refine J_exit ?_ | refine J_scope ?_
    | refine CondP.yes (by omega) ?_ | refine CondP.no (by omega) ?_ | refine CondP.mk (fun h => ?_) (fun h => ?_) | refine EqP.mk rfl ?_ | refine NewP.mk (fun ad => ?_) | refine ArP.exact (by simp only [inR]; omega) ?_ | refine SideP.mk (by first | omega | (dsimp only; omega) | (simp; omega)) ?_
    | refine CallP.mk [_] _ [] _ c2 (List.Perm.refl _) (fun _ _ => trivial) (fun v L' D' hp => ?_); obtain ⟨rfl, rfl, rfl⟩ := hp
    | fail
  refine JD_cond ?_
  refine JD_defer Tryz.tyOK ?_
  letI i2 : Inhabited (List Deferred) := dfI [(154, [.c (.p 0 ab 0), .c (.b true)]), (153, [.c (.p 0 ab 1)])]
  refine JD_end hres ?_
  repeat' first
    | refine J_seq ?_ | refine J_region Tryz.tyOK ?_ | refine J_block ?_ | refine J_cond ?_ | refine J_ret ?_ | refine J_skip ?_ | refine J_exit ?_ | refine J_scope ?_
    | refine CondP.yes (by omega) ?_ | refine CondP.no (by omega) ?_ | refine CondP.mk (fun h => ?_) (fun h => ?_) | refine EqP.mk rfl ?_ | refine NewP.mk (fun ad => ?_) | refine ArP.exact (by simp only [inR]; omega) ?_ | refine SideP.mk (by first | omega | (dsimp only; omega) | (simp; omega)) ?_
    | refine BoundP.mk [.c (.p 0 ab 0)] rfl rfl ?_ | refine CallP.mk _ [] _ _ hf (by simp) (fun _ h => h) (fun v L' D' hp => ?_)
    | fail
  obtain ⟨r1, z1, R1, rfl, rfl, hq⟩ := hp
  refine LvP.cons [_] _ [] _ (boolStoreD_ok ab r1 z1) (List.Perm.refl _) (fun _ _ => trivial) (fun v L' D' hp => ?_)
  obtain ⟨rfl, rfl, rfl⟩ := hp
  refine LvP.cons [_] _ [] _ (unlockD_ok ab r1 z1) (List.Perm.refl _) (fun _ _ => trivial) (fun v L' D' hp => ?_)
  obtain ⟨rfl, rfl, rfl⟩ := hp
  exact LvP.nil _ _ ⟨_, _, Ents.refl _ _, r1, z1, R1 ++ [], rfl, by simp, by simpa using hQ _ _ _ _ hq⟩
theorem onceDo_ok (ab : Nat) (r z : C) (R : List Chunk) (D : List Fact) (Q : C → C → List Chunk → List Fact → Prop)
    (hf : FnS Tryz.prog 78 [.c (.p 0 ab 0)] (rb ab 0 1 r z :: R) D (BuiltP ab 0 1 Q)) (hQ : ∀ r z R D1, Q r z R D1 → Q r z R (D1 ++ D)) :
    FnS Tryz.prog 77 [.c (.p 0 ab 0), onceF ab] (rb ab 0 0 r z :: R) D (BuiltP ab 1 0 Q) := by
  have c1 := boolLoad_ok ab 0 r z
  have c2 := doSlow_ok ab r z R D Q hf hQ
  refine fn_of_J Tryz.tyOK 7000 Tryz.func77 (by kernel_rfl) (c := Tryz.f77.body.getD .skip) (by kernel_rfl) Tryz.ntmps77 (rs := Tryz.f77.results.toList) rfl (by simp) (fun G => ?_)
  repeat' first
    | refine J_seq ?_ | refine J_region Tryz.tyOK ?_ | refine J_block ?_ | refine J_cond ?_ | refine J_ret ?_ | refine J_skip ?_ | refine J_exit ?_ | refine J_scope ?_
    | refine CondP.yes (by omega) ?_ | refine CondP.no (by omega) ?_ | refine CondP.mk (fun h => ?_) (fun h => ?_) | refine EqP.mk rfl ?_ | refine NewP.mk (fun ad => ?_) | refine ArP.exact (by simp only [inR]; omega) ?_ | refine SideP.mk (by first | omega | (dsimp only; omega) | (simp; omega)) ?_
    | refine CallP.mk [_] _ [] _ c1 (List.Perm.refl _) (fun _ _ => trivial) (fun v L' D' hp => ?_); obtain ⟨rfl, rfl, rfl⟩ := hp | refine CallP.mk _ [] _ _ c2 (by simp) (fun _ h => h) (fun v L' D' hp => ?_)
    | fail
  obtain ⟨r1, z1, R1, rfl, rfl, hq⟩ := hp
  exact FinE.mk _ _ ⟨r1, z1, R1 ++ [], rfl, by simp, by simpa using hQ _ _ _ _ hq⟩ (Ents.refl _ _)
end Go.Proofs
namespace Go.X
def eAmp : List UInt8 := [38, 97, 109, 112, 59]
def eLt : List UInt8 := [38, 108, 116, 59]
def eGt : List UInt8 := [38, 103, 116, 59]
def eQuot : List UInt8 := [38, 113, 117, 111, 116, 59]
def escB (b : UInt8) : List UInt8 := if b = 38 then eAmp else if b = 60 then eLt else if b = 62 then eGt else if b = 34 then eQuot else [b]
def spB (b : UInt8) : Bool := b == 38 || b == 60 || b == 62 || b == 34
def escT (s : List UInt8) : List UInt8 := s.flatMap escB
theorem escT_nil : escT [] = [] := rfl
theorem escT_cons (b : UInt8) (s : List UInt8) : escT (b :: s) = escB b ++ escT s := by simp [escT]
theorem escT_append (a b : List UInt8) : escT (a ++ b) = escT a ++ escT b := by simp [escT]
theorem escT_len : ∀ s : List UInt8, (escT s).length = s.length + s.count 34 * 5 + s.count 62 * 3 + s.count 60 * 3 + s.count 38 * 4
  | [] => rfl
  | b :: s => by
    have ih := escT_len s
    rw [escT_cons, List.length_append, ih]
    simp only [List.count_cons, List.length_cons]
    by_cases h1 : b = 38
    · subst h1; simp [escB, eAmp]; omega
    by_cases h2 : b = 60
    · subst h2; simp [escB, eLt]; omega
    by_cases h3 : b = 62
    · subst h3; simp [escB, eGt]; omega
    by_cases h4 : b = 34
    · subst h4; simp [escB, eQuot]; omega
    · simp [escB, h1, h2, h3, h4]; omega
theorem escT_id : ∀ {s : List UInt8}, s.count 34 = 0 → s.count 62 = 0 → s.count 60 = 0 → s.count 38 = 0 → escT s = s
  | [], _, _, _, _ => rfl
  | b :: s, h1, h2, h3, h4 => by
    simp only [List.count_cons, Nat.add_eq_zero_iff] at h1 h2 h3 h4
    rw [escT_cons, escT_id h1.1 h2.1 h3.1 h4.1]
    have n1 : b ≠ 34 := fun h => by simp [h] at h1
    have n2 : b ≠ 62 := fun h => by simp [h] at h2
    have n3 : b ≠ 60 := fun h => by simp [h] at h3
    have n4 : b ≠ 38 := fun h => by simp [h] at h4
    simp [escB, n1, n2, n3, n4]
theorem escB_plain {b : UInt8} (h : spB b = false) : escB b = [b] := by
  simp only [spB, Bool.or_eq_false_iff, beq_eq_false_iff_ne] at h
  simp [escB, h.1.1.1, h.1.1.2, h.1.2, h.2]
theorem escT_plain : ∀ {s : List UInt8}, s.any spB = false → escT s = s
  | [], _ => rfl
  | b :: s, h => by
    simp only [List.any_cons, Bool.or_eq_false_iff] at h
    rw [escT_cons, escT_plain h.2, escB_plain h.1]; rfl
theorem escB_len (b : UInt8) : 1 ≤ (escB b).length ∧ (escB b).length ≤ 6 := by
  unfold escB
  repeat (split; decide)
  exact ⟨Nat.le_refl 1, by show 1 ≤ 6; decide⟩
theorem escT_le (s : List UInt8) : s.length ≤ (escT s).length ∧ (escT s).length ≤ 6 * s.length := by
  induction s with
  | nil => exact ⟨Nat.le_refl _, Nat.le_refl _⟩
  | cons b s ih =>
    have := escB_len b
    rw [escT_cons, List.length_append, List.length_cons]
    omega
theorem escT_take_succ {s : List UInt8} {i : Nat} (h : i < s.length) : escT (s.take (i + 1)) = escT (s.take i) ++ escB s[i] := by
  rw [List.take_succ_eq_append_getElem h, escT_append, escT_cons, escT_nil, List.append_nil]
theorem escT_take_le (s : List UInt8) (i : Nat) : (escT (s.take i)).length ≤ (escT s).length := by
  have := congrArg List.length (congrArg escT (List.take_append_drop i s))
  rw [escT_append, List.length_append] at this
  omega
end Go.X
namespace Go.Proofs
open Go Go.X
set_option maxRecDepth 100000
def strs8 : List C := [.s [38], .s eAmp, .s [60], .s eLt, .s [62], .s eGt, .s [34], .s eQuot]
theorem newReplacer_ok (a : Option Addr) (c : Nat) : FnS Tryz.prog 37 [.c (.sl a 8 c)] [] [slFact 9 1 a 8 strs8]
    (fun v L D => ∃ ab a' c', v = .c (.p 0 ab 0) ∧ L = [rb ab 0 0 (.raw .nilIface) (.sl a' 8 c'), .row 9 1 a' 8 c' strs8] ∧ D = []) := by
  refine fn_of_J Tryz.tyOK 0 Tryz.func37 (by kernel_rfl) (c := Tryz.f37.body.getD .skip) (by kernel_rfl) Tryz.ntmps37 (rs := Tryz.f37.results.toList) rfl (by simp) (fun G => ?_)
  repeat' first
    | refine CondP.no (by decide) ?_
    | refine J_seq ?_ | refine J_region Tryz.tyOK ?_ | refine J_block ?_ | refine J_cond ?_ | refine J_ret ?_ | refine J_skip ?_ | refine J_exit ?_ | refine J_scope ?_
    | refine CondP.yes (by omega) ?_ | refine CondP.no (by omega) ?_ | refine CondP.mk (fun h => ?_) (fun h => ?_) | refine EqP.mk rfl ?_ | refine NewP.mk (fun ad => ?_) | refine ArP.exact (by simp only [inR]; omega) ?_ | refine SideP.mk (by first | omega | (dsimp only; omega) | (simp; omega)) ?_
    | refine SideP.mk (by decide) ?_ | refine AppE.nil strs8 8 rfl rfl rfl (SrcE.sl 9 9 _ _ _ _ strs8 rfl rfl (.inr fun _ h => h.1) rfl) (by decide) (fun a' c' => ?_) | refine FinE.mk [rb ad 0 0 (.raw .nilIface) (.sl a' 8 c'), .row 9 1 a' 8 c' strs8] [] ⟨ad, a', c', rfl, rfl, rfl⟩ (Ents.facts fun _ _ => trivial)
    | fail
structure RT where
  g : Nat
  g38 : Nat
  c38 : Nat
  g60 : Nat
  c60 : Nat
  g62 : Nat
  c62 : Nat
  g34 : Nat
  c34 : Nat
  a : Option Addr
  c : Nat
def RT.at (t : RT) (i : Nat) : C :=
  if i = 38 then .sl (some ⟨t.g38, 0, none⟩) 5 t.c38 else if i = 60 then .sl (some ⟨t.g60, 0, none⟩) 4 t.c60 else if i = 62 then .sl (some ⟨t.g62, 0, none⟩) 4 t.c62
  else if i = 34 then .sl (some ⟨t.g34, 0, none⟩) 6 t.c34 else .sl none 0 0
def RT.tab (t : RT) : List C := (List.range 256).map t.at ++ [.sl t.a 4 t.c]
def keys4 : List C := [.s [34], .s [62], .s [60], .s [38]]
def RT.facts (t : RT) : List Fact := [slFact 9 1 t.a 4 keys4, slFact 0 257 (some ⟨t.g, 0, none⟩) 1 t.tab, slFact 0 1 (some ⟨t.g, 0, none⟩) 257 t.tab,
  slFact 5 1 (some ⟨t.g34, 0, none⟩) 6 (eQuot.map byteC), slFact 5 1 (some ⟨t.g62, 0, none⟩) 4 (eGt.map byteC), slFact 5 1 (some ⟨t.g60, 0, none⟩) 4 (eLt.map byteC), slFact 5 1 (some ⟨t.g38, 0, none⟩) 5 (eAmp.map byteC)]
set_option maxHeartbeats 4000000 in
theorem build_ok (ab : Nat) (a0 : Option Addr) (c0 : Nat) : FnS Tryz.prog 115 [.c (.p 0 ab 0)] [rb ab 0 1 (.raw .nilIface) (.sl a0 8 c0)] [slFact 9 1 a0 8 strs8]
    (fun v L D => ∃ t : RT, v = .c (.raw (.iface 200 (.pointer (some ⟨t.g, 0, none⟩)))) ∧ L = [rb ab 0 1 (.raw .nilIface) (.sl a0 8 c0)] ∧ D = t.facts) := by
  have hrd : ∀ (L : List Chunk) (D : List Fact), Reads L (slFact 9 1 a0 8 strs8 :: D) 9 1 a0 8 strs8 := fun _ _ => .inr fun _ h => h.1
  refine fn_of_J Tryz.tyOK 0 Tryz.func115 (by kernel_rfl) (c := Tryz.f115.body.getD .skip) (by kernel_rfl) Tryz.ntmps115 (rs := Tryz.f115.results.toList) rfl (by simp) (fun G => ?_)
  repeat' first
    | refine CondP.yes (by decide) ?_ | refine CondP.no (by decide) ?_
    | refine J_seq ?_ | refine J_region Tryz.tyOK ?_ | refine J_block ?_ | refine J_cond ?_ | refine J_ret ?_ | refine J_skip ?_ | refine J_exit ?_ | refine J_scope ?_
    | refine CondP.yes (by omega) ?_ | refine CondP.no (by omega) ?_ | refine CondP.mk (fun h => ?_) (fun h => ?_) | refine EqP.mk rfl ?_ | refine NewP.mk (fun ad => ?_) | refine ArP.exact (by simp only [inR]; omega) ?_ | refine SideP.mk (by first | omega | (dsimp only; omega) | (simp; omega)) ?_
    | refine J_rounds 5 ?_ | refine JR_succ ?_ | refine IdxE.mk 9 1 strs8 (hrd _ _) (by decide) (by decide) ?_ | refine LoadE.mk 9 8 strs8 _ (hrd _ _) (by decide) (by decide) (by decide) rfl ?_ | refine ArP.exact (by simp only [inR]; decide) ?_ | refine SideP.mk (by decide) ?_ | refine NewB.mk (fun ad c => ?_) | refine BytesE.mk 5 [_] (.inl ⟨1, List.Mem.head _⟩) ?_ | refine AppE.row [_, _, _] _ _ _ 1 rfl (SrcE.sl 9 9 _ _ _ _ _ rfl rfl (.inl ⟨1, List.Mem.head _⟩) rfl) (by decide) (fun a' c' => ?_) | refine AppE.row [_, _, _, _, _, _] _ _ _ 1 rfl (SrcE.sl 9 9 _ _ _ _ _ rfl rfl (.inl ⟨1, List.Mem.head _⟩) rfl) (by decide) (fun a' c' => ?_) | refine AppE.row [_, _, _, _, _, _, _, _, _] _ _ _ 1 rfl (SrcE.sl 9 9 _ _ _ _ _ rfl rfl (.inl ⟨1, List.Mem.head _⟩) rfl) (by decide) (fun a' c' => ?_) | refine AppE.row [_, _, _, _, _, _, _, _, _, _, _, _] _ _ _ 1 rfl (SrcE.sl 9 9 _ _ _ _ _ rfl rfl (.inl ⟨1, List.Mem.head _⟩) rfl) (by decide) (fun a' c' => ?_)
    | fail
  rename_i ad12 ad11 ad10 ad9 a2 c2 g34 c34 ad7 ad6 a1 c1 g62 c62 ad4 ad3 a3 c3 g60 c60 ad1 ad0
  refine FinE.mk [rb ab 0 1 (.raw .nilIface) (.sl a0 8 c0)] (RT.facts ⟨ad11, ad, c, g60, c60, g62, c62, g34, c34, a', c'⟩) ⟨⟨ad11, ad, c, g60, c60, g62, c62, g34, c34, a', c'⟩, rfl, rfl, rfl⟩ ?_
  refine Ents.toFact.trans (Ents.drop.trans (Ents.drop.trans ?_))
  refine Ents.toFact.trans (Ents.drop.trans (Ents.drop.trans ?_))
  refine Ents.toFact.trans (Ents.drop.trans (Ents.drop.trans ?_))
  refine Ents.toFact.trans (Ents.drop.trans (Ents.drop.trans ?_))
  refine (Ents.boxFact 0 1 257 rfl).trans (Ents.toFact.trans (Ents.facts fun m h => ?_))
  have hb : SlF m 0 1 (some ⟨ad11, 0, none⟩) 257 (RT.tab ⟨ad11, ad, c, g60, c60, g62, c62, g34, c34, a', c'⟩) := h.2.1
  exact ⟨h.1, slF_re (e' := 0) hb (by decide) (by decide), hb, h.2.2.1, h.2.2.2.1, h.2.2.2.2.1, h.2.2.2.2.2.1, trivial⟩
theorem RT.tab_len (t : RT) : t.tab.length = 257 := by simp [RT.tab]
theorem RT.tab_at (t : RT) {i : Nat} (h : i < 256) : (t.tab.drop (i * 1 + 0)).take 1 = [t.at i] := by
  have hl : i * 1 + 0 < t.tab.length := by rw [RT.tab_len]; omega
  rw [List.drop_eq_getElem_cons hl, List.take_succ_cons, List.take_zero]
  congr 1
  simp only [RT.tab, Nat.mul_one, Nat.add_zero]
  rw [List.getElem_append_left (by simpa using h)]
  simp
theorem RT.tab_last (t : RT) : (t.tab.drop (0 * 257 + (0 + 256))).take 1 = [.sl t.a 4 t.c] := by
  have h : ((List.range 256).map t.at).length = 0 * 257 + (0 + 256) := by simp
  unfold RT.tab
  rw [List.drop_left' h]
  rfl
theorem RT.tab34 (t : RT) : (t.tab.drop (34 * 1 + 0)).take 1 = [.sl (some ⟨t.g34, 0, none⟩) 6 t.c34] := t.tab_at (by decide)
theorem RT.tab62 (t : RT) : (t.tab.drop (62 * 1 + 0)).take 1 = [.sl (some ⟨t.g62, 0, none⟩) 4 t.c62] := t.tab_at (by decide)
theorem RT.tab60 (t : RT) : (t.tab.drop (60 * 1 + 0)).take 1 = [.sl (some ⟨t.g60, 0, none⟩) 4 t.c60] := t.tab_at (by decide)
theorem RT.tab38 (t : RT) : (t.tab.drop (38 * 1 + 0)).take 1 = [.sl (some ⟨t.g38, 0, none⟩) 5 t.c38] := t.tab_at (by decide)
theorem RT.tab_byte (t : RT) (b : UInt8) : ∃ a n c, (t.tab.drop (b.toNat * 1 + 0)).take 1 = [.sl a n c] ∧ ((a = none ∧ spB b = false) ∨ (a ≠ none ∧ spB b = true ∧ n = (escB b).length ∧ ∀ m, allD m t.facts → SlF m 5 1 a n ((escB b).map byteC))) := by
  by_cases h1 : b = 38
  · subst h1; exact ⟨_, _, _, t.tab38, .inr ⟨by simp, rfl, rfl, fun m h => h.2.2.2.2.2.2.1⟩⟩
  by_cases h2 : b = 60
  · subst h2; exact ⟨_, _, _, t.tab60, .inr ⟨by simp, rfl, rfl, fun m h => h.2.2.2.2.2.1⟩⟩
  by_cases h3 : b = 62
  · subst h3; exact ⟨_, _, _, t.tab62, .inr ⟨by simp, rfl, rfl, fun m h => h.2.2.2.2.1⟩⟩
  by_cases h4 : b = 34
  · subst h4; exact ⟨_, _, _, t.tab34, .inr ⟨by simp, rfl, rfl, fun m h => h.2.2.2.1⟩⟩
  · refine ⟨none, 0, 0, ?_, .inl ⟨rfl, by simp [spB, h1, h2, h3, h4]⟩⟩
    have hb : b.toNat < 256 := b.toNat_lt
    rw [t.tab_at hb]
    have n1 : b.toNat ≠ 38 := fun h => h1 (UInt8.toNat_inj.1 h)
    have n2 : b.toNat ≠ 60 := fun h => h2 (UInt8.toNat_inj.1 h)
    have n3 : b.toNat ≠ 62 := fun h => h3 (UInt8.toNat_inj.1 h)
    have n4 : b.toNat ≠ 34 := fun h => h4 (UInt8.toNat_inj.1 h)
    simp [RT.at, n1, n2, n3, n4]
attribute [irreducible] RT.tab RT.at
end Go.Proofs
namespace Go.Proofs
open Go Go.X
set_option maxRecDepth 100000
def RT.val (t : RT) : C := .raw (.iface 200 (.pointer (some ⟨t.g, 0, none⟩)))
def BuiltQ : C → C → List Chunk → List Fact → Prop := fun r z R D => R = [] ∧ z = .sl none 0 0 ∧ ∃ t : RT, r = t.val ∧ ∃ D', D = t.facts ++ D'
theorem buildOnce_ok (ab : Nat) (a0 : Option Addr) (c0 : Nat) : FnS Tryz.prog 78 [.c (.p 0 ab 0)] [rb ab 0 1 (.raw .nilIface) (.sl a0 8 c0)] [slFact 9 1 a0 8 strs8] (BuiltP ab 0 1 BuiltQ) := by
  have c1 := build_ok ab a0 c0
  refine fn_of_J Tryz.tyOK 7000 Tryz.func78 (by kernel_rfl) (c := Tryz.f78.body.getD .skip) (by kernel_rfl) Tryz.ntmps78 (rs := Tryz.f78.results.toList) rfl (by simp) (fun G => ?_)
  repeat' first
    | refine J_seq ?_ | refine J_region Tryz.tyOK ?_ | refine J_block ?_ | refine J_cond ?_ | refine J_ret ?_ | refine J_skip ?_ | refine J_exit ?_ | refine J_scope ?_
    | refine CondP.yes (by omega) ?_ | refine CondP.no (by omega) ?_ | refine CondP.mk (fun h => ?_) (fun h => ?_) | refine EqP.mk rfl ?_ | refine NewP.mk (fun ad => ?_) | refine ArP.exact (by simp only [inR]; omega) ?_ | refine SideP.mk (by first | omega | (dsimp only; omega) | (simp; omega)) ?_
    | refine CallP.mk [_] [] _ _ c1 (List.Perm.refl _) (fun _ h => h) (fun v L' D' hp => ?_); obtain ⟨t, rfl, rfl, rfl⟩ := hp | refine FinE.mk [rb ab 0 1 t.val (.sl none 0 0)] _ ⟨_, _, [], rfl, rfl, rfl, rfl, t, rfl, _, rfl⟩ (Ents.refl _ _)
    | fail
theorem onceDone_ok (ab : Nat) (a0 : Option Addr) (c0 : Nat) : FnS Tryz.prog 77 [.c (.p 0 ab 0), onceF ab] [rb ab 0 0 (.raw .nilIface) (.sl a0 8 c0)] [slFact 9 1 a0 8 strs8] (BuiltP ab 1 0 BuiltQ) :=
  onceDo_ok ab _ _ [] _ BuiltQ (buildOnce_ok ab a0 c0) fun r z R D1 ⟨h1, h2, t, h3, D', h4⟩ => ⟨h1, h2, t, h3, D' ++ [slFact 9 1 a0 8 strs8], by subst h4; exact List.append_assoc _ _ _⟩
end Go.Proofs
namespace Go.Proofs
open Go Go.X
set_option maxRecDepth 100000
theorem count_ok (s : List UInt8) (c : UInt8) : FnS Tryz.prog 25 [.c (.s s), .c (.s [c])] [] [] (Is (.c (.i .i64 (s.count c)))) :=
  fn_pure ⟨_, Tryz.func25, by kernel_rfl, by kernel_rfl⟩ (Tryz.strings_Count_one ⟨⟨s⟩⟩ c)
def szA (s : List UInt8) : Nat → Nat
  | 0 => s.length
  | 1 => s.length + s.count 34 * 5
  | 2 => s.length + s.count 34 * 5 + s.count 62 * 3
  | 3 => s.length + s.count 34 * 5 + s.count 62 * 3 + s.count 60 * 3
  | _ => (escT s).length
def noA (s : List UInt8) (k : Nat) : Prop := (0 < k → s.count 34 = 0) ∧ (1 < k → s.count 62 = 0) ∧ (2 < k → s.count 60 = 0) ∧ (3 < k → s.count 38 = 0)
theorem nzR {L : List Chunk} {D : List Fact} {x : Int} (_ : ¬ x = 0) : Ents L D L D := Ents.refl _ _
theorem zrR {L : List Chunk} {D : List Fact} {x : Int} (_ : x = 0) : Ents L D L D := Ents.refl _ _
theorem setC_ext (P xs : List C) (m j : Nat) (z : C) (hj : j = P.length) (h : xs.length ≤ m) : setC j xs (P ++ repC m [z]) = (P ++ xs) ++ repC (m - xs.length) [z] := by
  subst hj
  have h2 : ∀ (k m : Nat), k ≤ m → (repC m [z]).drop k = repC (m - k) [z] := by
    intro k
    induction k with
    | zero => intro m _; rfl
    | succ k ih =>
      intro m hm
      obtain ⟨m', rfl⟩ : ∃ m', m = m' + 1 := ⟨m - 1, by omega⟩
      rw [Nat.add_sub_add_right]
      exact ih m' (by omega)
  unfold setC
  rw [List.take_left, List.drop_append, List.drop_of_length_le (by omega), List.nil_append, Nat.add_sub_cancel_left, h2 _ _ h]
theorem escRow (s : List UInt8) (i N : Nat) (x : List UInt8) (hts : escT (s.take (i + 1)) = escT (s.take i) ++ x) (hle : (escT (s.take i)).length + x.length ≤ N) (j : Nat) (hj : j = (escT (s.take i)).length) :
    setC j (x.map byteC) ((escT (s.take i)).map byteC ++ repC (N - (escT (s.take i)).length) [.i .u8 0]) = (escT (s.take (i + 1))).map byteC ++ repC (N - (escT (s.take (i + 1))).length) [.i .u8 0] := by
  rw [setC_ext _ _ _ _ _ (by simpa using hj) (by simp; omega), hts, List.map_append, List.length_append, List.length_map]
  congr 2
  omega
def repR (t : RT) : V := .c (.e (some ⟨t.g, 0, none⟩) 257 0 0)
set_option maxHeartbeats 1000000 in
theorem repReplace_ok (t : RT) (s : List UInt8) (hs : s.length ≤ 1000000000) : FnS Tryz.prog 235 [repR t, .c (.s s)] [] t.facts (Is (.c (.s (escT s)))) := by
  have hcnt : ∀ b, s.count b ≤ s.length := fun b => List.count_le_length
  have hlen := escT_len s
  have hle := escT_le s
  have hkr : ∀ L, Reads L t.facts 9 1 t.a 4 keys4 := fun _ => .inr fun _ h => h.1
  have hbig : ∀ L, Reads L t.facts 0 257 (some ⟨t.g, 0, none⟩) 1 t.tab := fun _ => .inr fun _ h => h.2.1
  have htab : ∀ L, Reads L t.facts 0 1 (some ⟨t.g, 0, none⟩) 257 t.tab := fun _ => .inr fun _ h => h.2.2.1
  unfold repR
  refine fn_of_J Tryz.tyOK 7000 Tryz.func235 (by kernel_rfl) (c := Tryz.f235.body.getD .skip) (by kernel_rfl) Tryz.ntmps235 (rs := Tryz.f235.results.toList) rfl (by simp) (fun G => ?_)
  repeat' first
    | refine J_cut (x := .seq (.region 3 _ _) _) (α := Bool) (fun b => [(0, repR t), (1, .c (.s s)), (5, .c (.i .i64 (escT s).length)), (6, .c (.b b))]) (fun _ => []) (fun _ => t.facts) 7000 (fun b => b = false → escT s = s) ?_ (fun b hb => ?_)
    | refine J_seq ?_ | refine J_region Tryz.tyOK ?_ | refine J_block ?_ | refine J_cond ?_ | refine J_ret ?_ | refine J_skip ?_ | refine J_exit ?_ | refine J_scope ?_
    | refine CondP.yes (by omega) ?_ | refine CondP.no (by omega) ?_ | refine CondP.mk (fun h => ?_) (fun h => ?_) | refine EqP.mk rfl ?_ | refine NewP.mk (fun ad => ?_) | refine ArP.exact (by simp only [inR]; omega) ?_ | refine SideP.mk (by first | omega | (dsimp only; omega) | (simp; omega)) ?_
    | refine FldE.mk 0 257 1 _ (hbig _) (by decide) ?_ | refine LoadE.mk 0 1 _ _ (hbig _) (by decide) (by decide) (by decide) (by exact RT.tab_last t) ?_
    | fail
  · have c34 := hcnt 34
    have c62 := hcnt 62
    have c60 := hcnt 60
    have c38 := hcnt 38
    refine J_loop (α := Nat × Bool × Nat) (fun x => [(0, repR t), (1, .c (.s s)), (5, .c (.i .i64 x.2.2)), (6, .c (.b x.2.1)), (30, .c (.sl t.a 4 t.c)), (31, lenV 4), (32, .c (.i .i64 x.1))]) (fun _ => []) (fun _ => t.facts) 7000
      (fun x => x.1 ≤ 4 ∧ x.2.2 = szA s x.1 ∧ (x.2.1 = false → noA s x.1)) (fun x => 4 - x.1) (InFam.mk (0, false, s.length) ⟨Nat.zero_le _, rfl, fun _ => ⟨fun h => absurd h (Nat.not_lt_zero _), fun h => absurd h (Nat.not_lt_zero _), fun h => absurd h (Nat.not_lt_zero _), fun h => absurd h (Nat.not_lt_zero _)⟩⟩ (by repeat' first | exact SubE.nil | refine SubE.cons rfl ?_ ?_ | exact VEq.refl _ | refine VEq.int (by omega) | refine VEq.sl rfl (by omega) rfl) (Ents.refl _ _)) (fun x hx => ?_)
    obtain ⟨k, b, n⟩ := x
    obtain ⟨hk, hn, hb⟩ := hx
    dsimp only at hk hn hb
    have hk5 : k = 0 ∨ k = 1 ∨ k = 2 ∨ k = 3 ∨ k = 4 := by omega
    unfold repR
    rcases hk5 with rfl | rfl | rfl | rfl | rfl <;> simp only [szA] at hn <;> subst hn <;> dsimp only
    · repeat' first
        | refine J_seq ?_ | refine J_region Tryz.tyOK ?_ | refine J_block ?_ | refine J_cond ?_ | refine J_ret ?_ | refine J_skip ?_ | refine J_exit ?_ | refine J_scope ?_
        | refine CondP.yes (by omega) ?_ | refine CondP.no (by omega) ?_ | refine CondP.mk (fun h => ?_) (fun h => ?_) | refine EqP.mk rfl ?_ | refine NewP.mk (fun ad => ?_) | refine ArP.exact (by simp only [inR]; omega) ?_ | refine SideP.mk (by first | omega | (dsimp only; omega) | (simp; omega)) ?_
        | refine J_drawU (id := 9) Tryz.tyOK (by kernel_rfl) [0, 0, 0, 0, 8, 4, 36, 124, 252, 508, 1020, 2046, 4095, 8191] (.leaf [0, 1, 2, 3, 4, 5, 6, 7, 8, 9, 10, 11, 12, 13]) [] [48] 14 true (by kernel_rfl) ?_ | refine TwoP.mk ?_ ?_ | refine GoP.mk (by repeat (first | exact List.Sublist.slnil | refine List.Sublist.cons_cons _ ?_ | refine List.Sublist.cons _ ?_)) (by first | exact fun _ h => h | exact fun _ h => h.2 | exact fun _ h => ((allD_append _ _).1 h).2) ?_ | exact trivial | refine J_drawU (id := 28) Tryz.tyOK (by kernel_rfl) [0, 0, 0, 6, 0, 0, 16, 80, 240, 496, 1022, 2047, 4095] (.fork [0, 1, 2, 3, 4, 5, 6, 7, 8, 9] (.alt 10 (.leaf [11, 12]) (.stop))) [10] [110] 13 false (by kernel_rfl) ?_ | refine TwoP.mk ?_ ?_ | refine GoP.mk (by repeat (first | exact List.Sublist.slnil | refine List.Sublist.cons_cons _ ?_ | refine List.Sublist.cons _ ?_)) (by first | exact fun _ h => h | exact fun _ h => h.2 | exact fun _ h => ((allD_append _ _).1 h).2) ?_ | exact trivial | refine EntP.mk (Ents.ofSub (by repeat (first | exact List.Sublist.slnil | refine List.Sublist.cons_cons _ ?_ | refine List.Sublist.cons _ ?_)) (by first | exact fun _ h => h | exact fun _ _ => trivial | exact fun _ h => h.2 | exact fun _ h => h.2.2.2.2 | exact fun _ h => h.2.2 | exact fun _ h => h.2.2.2 | exact fun _ h => h.2.2.2.2.2 | exact fun _ h => h.2.2.2.2.2.2 | exact fun _ h => h.2.2.2.2.2.2.2 | exact fun _ h => h.2.2.2.2.2.2.2.2 | exact fun _ h => h.2.2.2.2.2.2.2.2.2 | exact fun _ h => h.2.2.2.2.2.2.2.2.2.2 | exact fun _ h => ((allD_append _ _).1 h).2)) ?_ | refine IdxE.mk 9 1 keys4 (hkr _) (by decide) (by decide) ?_ | refine LoadE.mk 9 4 keys4 [.s [34]] (hkr _) (by decide) (by decide) (by decide) rfl ?_ | refine CallP.is (count_ok s 34) ?_ | refine FldE.mk 0 257 1 _ (hbig _) (by decide) ?_ | refine SideP.mk (by decide) ?_ | refine LoadE.mk 0 257 _ _ (htab _) (by decide) (by decide) (by decide) (by exact t.tab34) ?_ | refine Round.mk (0 + 1, true, szA s (0 + 1)) (by dsimp only; decide) ⟨by dsimp only; decide, rfl, fun h => by cases h⟩ (by repeat' first | exact SubE.nil | refine SubE.cons rfl ?_ ?_ | exact VEq.refl _ | refine VEq.int (by simp only [szA]; omega)) (nzR h) | refine Round.mk (0 + 1, b, szA s (0 + 1)) (by dsimp only; decide) ⟨by dsimp only; decide, rfl, fun hz => ?_⟩ (by repeat' first | exact SubE.nil | refine SubE.cons rfl ?_ ?_ | exact VEq.refl _ | refine VEq.int (by simp only [szA]; omega)) (zrR h)
        | fail
      have hz2 := hb hz
      simp only [noA] at hz2 ⊢
      omega
    · repeat' first
        | refine J_seq ?_ | refine J_region Tryz.tyOK ?_ | refine J_block ?_ | refine J_cond ?_ | refine J_ret ?_ | refine J_skip ?_ | refine J_exit ?_ | refine J_scope ?_
        | refine CondP.yes (by omega) ?_ | refine CondP.no (by omega) ?_ | refine CondP.mk (fun h => ?_) (fun h => ?_) | refine EqP.mk rfl ?_ | refine NewP.mk (fun ad => ?_) | refine ArP.exact (by simp only [inR]; omega) ?_ | refine SideP.mk (by first | omega | (dsimp only; omega) | (simp; omega)) ?_
        | refine J_drawU (id := 9) Tryz.tyOK (by kernel_rfl) [0, 0, 0, 0, 8, 4, 36, 124, 252, 508, 1020, 2046, 4095, 8191] (.leaf [0, 1, 2, 3, 4, 5, 6, 7, 8, 9, 10, 11, 12, 13]) [] [48] 14 true (by kernel_rfl) ?_ | refine TwoP.mk ?_ ?_ | refine GoP.mk (by repeat (first | exact List.Sublist.slnil | refine List.Sublist.cons_cons _ ?_ | refine List.Sublist.cons _ ?_)) (by first | exact fun _ h => h | exact fun _ h => h.2 | exact fun _ h => ((allD_append _ _).1 h).2) ?_ | exact trivial | refine J_drawU (id := 28) Tryz.tyOK (by kernel_rfl) [0, 0, 0, 6, 0, 0, 16, 80, 240, 496, 1022, 2047, 4095] (.fork [0, 1, 2, 3, 4, 5, 6, 7, 8, 9] (.alt 10 (.leaf [11, 12]) (.stop))) [10] [110] 13 false (by kernel_rfl) ?_ | refine TwoP.mk ?_ ?_ | refine GoP.mk (by repeat (first | exact List.Sublist.slnil | refine List.Sublist.cons_cons _ ?_ | refine List.Sublist.cons _ ?_)) (by first | exact fun _ h => h | exact fun _ h => h.2 | exact fun _ h => ((allD_append _ _).1 h).2) ?_ | exact trivial | refine EntP.mk (Ents.ofSub (by repeat (first | exact List.Sublist.slnil | refine List.Sublist.cons_cons _ ?_ | refine List.Sublist.cons _ ?_)) (by first | exact fun _ h => h | exact fun _ _ => trivial | exact fun _ h => h.2 | exact fun _ h => h.2.2.2.2 | exact fun _ h => h.2.2 | exact fun _ h => h.2.2.2 | exact fun _ h => h.2.2.2.2.2 | exact fun _ h => h.2.2.2.2.2.2 | exact fun _ h => h.2.2.2.2.2.2.2 | exact fun _ h => h.2.2.2.2.2.2.2.2 | exact fun _ h => h.2.2.2.2.2.2.2.2.2 | exact fun _ h => h.2.2.2.2.2.2.2.2.2.2 | exact fun _ h => ((allD_append _ _).1 h).2)) ?_ | refine IdxE.mk 9 1 keys4 (hkr _) (by decide) (by decide) ?_ | refine LoadE.mk 9 4 keys4 [.s [62]] (hkr _) (by decide) (by decide) (by decide) rfl ?_ | refine CallP.is (count_ok s 62) ?_ | refine FldE.mk 0 257 1 _ (hbig _) (by decide) ?_ | refine SideP.mk (by decide) ?_ | refine LoadE.mk 0 257 _ _ (htab _) (by decide) (by decide) (by decide) (by exact t.tab62) ?_ | refine Round.mk (1 + 1, true, szA s (1 + 1)) (by dsimp only; decide) ⟨by dsimp only; decide, rfl, fun h => by cases h⟩ (by repeat' first | exact SubE.nil | refine SubE.cons rfl ?_ ?_ | exact VEq.refl _ | refine VEq.int (by simp only [szA]; omega)) (nzR h) | refine Round.mk (1 + 1, b, szA s (1 + 1)) (by dsimp only; decide) ⟨by dsimp only; decide, rfl, fun hz => ?_⟩ (by repeat' first | exact SubE.nil | refine SubE.cons rfl ?_ ?_ | exact VEq.refl _ | refine VEq.int (by simp only [szA]; omega)) (zrR h)
        | fail
      have hz2 := hb hz
      simp only [noA] at hz2 ⊢
      omega
    · repeat' first
        | refine J_seq ?_ | refine J_region Tryz.tyOK ?_ | refine J_block ?_ | refine J_cond ?_ | refine J_ret ?_ | refine J_skip ?_ | refine J_exit ?_ | refine J_scope ?_
        | refine CondP.yes (by omega) ?_ | refine CondP.no (by omega) ?_ | refine CondP.mk (fun h => ?_) (fun h => ?_) | refine EqP.mk rfl ?_ | refine NewP.mk (fun ad => ?_) | refine ArP.exact (by simp only [inR]; omega) ?_ | refine SideP.mk (by first | omega | (dsimp only; omega) | (simp; omega)) ?_
        | refine J_drawU (id := 9) Tryz.tyOK (by kernel_rfl) [0, 0, 0, 0, 8, 4, 36, 124, 252, 508, 1020, 2046, 4095, 8191] (.leaf [0, 1, 2, 3, 4, 5, 6, 7, 8, 9, 10, 11, 12, 13]) [] [48] 14 true (by kernel_rfl) ?_ | refine TwoP.mk ?_ ?_ | refine GoP.mk (by repeat (first | exact List.Sublist.slnil | refine List.Sublist.cons_cons _ ?_ | refine List.Sublist.cons _ ?_)) (by first | exact fun _ h => h | exact fun _ h => h.2 | exact fun _ h => ((allD_append _ _).1 h).2) ?_ | exact trivial | refine J_drawU (id := 28) Tryz.tyOK (by kernel_rfl) [0, 0, 0, 6, 0, 0, 16, 80, 240, 496, 1022, 2047, 4095] (.fork [0, 1, 2, 3, 4, 5, 6, 7, 8, 9] (.alt 10 (.leaf [11, 12]) (.stop))) [10] [110] 13 false (by kernel_rfl) ?_ | refine TwoP.mk ?_ ?_ | refine GoP.mk (by repeat (first | exact List.Sublist.slnil | refine List.Sublist.cons_cons _ ?_ | refine List.Sublist.cons _ ?_)) (by first | exact fun _ h => h | exact fun _ h => h.2 | exact fun _ h => ((allD_append _ _).1 h).2) ?_ | exact trivial | refine EntP.mk (Ents.ofSub (by repeat (first | exact List.Sublist.slnil | refine List.Sublist.cons_cons _ ?_ | refine List.Sublist.cons _ ?_)) (by first | exact fun _ h => h | exact fun _ _ => trivial | exact fun _ h => h.2 | exact fun _ h => h.2.2.2.2 | exact fun _ h => h.2.2 | exact fun _ h => h.2.2.2 | exact fun _ h => h.2.2.2.2.2 | exact fun _ h => h.2.2.2.2.2.2 | exact fun _ h => h.2.2.2.2.2.2.2 | exact fun _ h => h.2.2.2.2.2.2.2.2 | exact fun _ h => h.2.2.2.2.2.2.2.2.2 | exact fun _ h => h.2.2.2.2.2.2.2.2.2.2 | exact fun _ h => ((allD_append _ _).1 h).2)) ?_ | refine IdxE.mk 9 1 keys4 (hkr _) (by decide) (by decide) ?_ | refine LoadE.mk 9 4 keys4 [.s [60]] (hkr _) (by decide) (by decide) (by decide) rfl ?_ | refine CallP.is (count_ok s 60) ?_ | refine FldE.mk 0 257 1 _ (hbig _) (by decide) ?_ | refine SideP.mk (by decide) ?_ | refine LoadE.mk 0 257 _ _ (htab _) (by decide) (by decide) (by decide) (by exact t.tab60) ?_ | refine Round.mk (2 + 1, true, szA s (2 + 1)) (by dsimp only; decide) ⟨by dsimp only; decide, rfl, fun h => by cases h⟩ (by repeat' first | exact SubE.nil | refine SubE.cons rfl ?_ ?_ | exact VEq.refl _ | refine VEq.int (by simp only [szA]; omega)) (nzR h) | refine Round.mk (2 + 1, b, szA s (2 + 1)) (by dsimp only; decide) ⟨by dsimp only; decide, rfl, fun hz => ?_⟩ (by repeat' first | exact SubE.nil | refine SubE.cons rfl ?_ ?_ | exact VEq.refl _ | refine VEq.int (by simp only [szA]; omega)) (zrR h)
        | fail
      have hz2 := hb hz
      simp only [noA] at hz2 ⊢
      omega
    · repeat' first
        | refine J_seq ?_ | refine J_region Tryz.tyOK ?_ | refine J_block ?_ | refine J_cond ?_ | refine J_ret ?_ | refine J_skip ?_ | refine J_exit ?_ | refine J_scope ?_
        | refine CondP.yes (by omega) ?_ | refine CondP.no (by omega) ?_ | refine CondP.mk (fun h => ?_) (fun h => ?_) | refine EqP.mk rfl ?_ | refine NewP.mk (fun ad => ?_) | refine ArP.exact (by simp only [inR]; omega) ?_ | refine SideP.mk (by first | omega | (dsimp only; omega) | (simp; omega)) ?_
        | refine J_drawU (id := 9) Tryz.tyOK (by kernel_rfl) [0, 0, 0, 0, 8, 4, 36, 124, 252, 508, 1020, 2046, 4095, 8191] (.leaf [0, 1, 2, 3, 4, 5, 6, 7, 8, 9, 10, 11, 12, 13]) [] [48] 14 true (by kernel_rfl) ?_ | refine TwoP.mk ?_ ?_ | refine GoP.mk (by repeat (first | exact List.Sublist.slnil | refine List.Sublist.cons_cons _ ?_ | refine List.Sublist.cons _ ?_)) (by first | exact fun _ h => h | exact fun _ h => h.2 | exact fun _ h => ((allD_append _ _).1 h).2) ?_ | exact trivial | refine J_drawU (id := 28) Tryz.tyOK (by kernel_rfl) [0, 0, 0, 6, 0, 0, 16, 80, 240, 496, 1022, 2047, 4095] (.fork [0, 1, 2, 3, 4, 5, 6, 7, 8, 9] (.alt 10 (.leaf [11, 12]) (.stop))) [10] [110] 13 false (by kernel_rfl) ?_ | refine TwoP.mk ?_ ?_ | refine GoP.mk (by repeat (first | exact List.Sublist.slnil | refine List.Sublist.cons_cons _ ?_ | refine List.Sublist.cons _ ?_)) (by first | exact fun _ h => h | exact fun _ h => h.2 | exact fun _ h => ((allD_append _ _).1 h).2) ?_ | exact trivial | refine EntP.mk (Ents.ofSub (by repeat (first | exact List.Sublist.slnil | refine List.Sublist.cons_cons _ ?_ | refine List.Sublist.cons _ ?_)) (by first | exact fun _ h => h | exact fun _ _ => trivial | exact fun _ h => h.2 | exact fun _ h => h.2.2.2.2 | exact fun _ h => h.2.2 | exact fun _ h => h.2.2.2 | exact fun _ h => h.2.2.2.2.2 | exact fun _ h => h.2.2.2.2.2.2 | exact fun _ h => h.2.2.2.2.2.2.2 | exact fun _ h => h.2.2.2.2.2.2.2.2 | exact fun _ h => h.2.2.2.2.2.2.2.2.2 | exact fun _ h => h.2.2.2.2.2.2.2.2.2.2 | exact fun _ h => ((allD_append _ _).1 h).2)) ?_ | refine IdxE.mk 9 1 keys4 (hkr _) (by decide) (by decide) ?_ | refine LoadE.mk 9 4 keys4 [.s [38]] (hkr _) (by decide) (by decide) (by decide) rfl ?_ | refine CallP.is (count_ok s 38) ?_ | refine FldE.mk 0 257 1 _ (hbig _) (by decide) ?_ | refine SideP.mk (by decide) ?_ | refine LoadE.mk 0 257 _ _ (htab _) (by decide) (by decide) (by decide) (by exact t.tab38) ?_ | refine Round.mk (3 + 1, true, szA s (3 + 1)) (by dsimp only; decide) ⟨by dsimp only; decide, rfl, fun h => by cases h⟩ (by repeat' first | exact SubE.nil | refine SubE.cons rfl ?_ ?_ | exact VEq.refl _ | refine VEq.int (by simp only [szA]; omega)) (nzR h) | refine Round.mk (3 + 1, b, szA s (3 + 1)) (by dsimp only; decide) ⟨by dsimp only; decide, rfl, fun hz => ?_⟩ (by repeat' first | exact SubE.nil | refine SubE.cons rfl ?_ ?_ | exact VEq.refl _ | refine VEq.int (by simp only [szA]; omega)) (zrR h)
        | fail
      have hz2 := hb hz
      simp only [noA] at hz2 ⊢
      omega
    · repeat' first
        | refine J_seq ?_ | refine J_region Tryz.tyOK ?_ | refine J_block ?_ | refine J_cond ?_ | refine J_ret ?_ | refine J_skip ?_ | refine J_exit ?_ | refine J_scope ?_
        | refine CondP.yes (by omega) ?_ | refine CondP.no (by omega) ?_ | refine CondP.mk (fun h => ?_) (fun h => ?_) | refine EqP.mk rfl ?_ | refine NewP.mk (fun ad => ?_) | refine ArP.exact (by simp only [inR]; omega) ?_ | refine SideP.mk (by first | omega | (dsimp only; omega) | (simp; omega)) ?_
        | refine InFam.mk b (fun h => ?_) (by repeat' first | exact SubE.nil | refine SubE.cons rfl ?_ ?_ | exact VEq.refl _ | refine VEq.int (by omega) | refine VEq.sl rfl (by omega) rfl) (Ents.refl _ _)
        | fail
      have hz := hb h
      exact escT_id (hz.1 (by decide)) (hz.2.1 (by decide)) (hz.2.2.1 (by decide)) (hz.2.2.2 (by decide))
  · refine J_loop (α := Nat × Bool × Nat) (fun x => [(0, repR t), (1, .c (.s s)), (5, .c (.i .i64 x.2.2)), (6, .c (.b x.2.1)), (10, .c (.i .i64 x.1))]) (fun _ => []) (fun _ => t.facts) 7000
      (fun x => x.1 ≤ s.length ∧ x.2.2 + x.1 = s.length + (escT (s.take x.1)).length ∧ (x.2.1 = false → (s.take x.1).any spB = false)) (fun x => s.length - x.1) (InFam.mk (0, false, s.length) ⟨Nat.zero_le _, rfl, fun _ => rfl⟩ (by repeat' first | exact SubE.nil | refine SubE.cons rfl ?_ ?_ | exact VEq.refl _ | refine VEq.int (by omega) | refine VEq.sl rfl (by omega) rfl) (Ents.refl _ _)) (fun x hx => ?_)
    obtain ⟨i, b, n⟩ := x
    obtain ⟨hi, hn, hb⟩ := hx
    unfold repR
    dsimp only at hi hn hb ⊢
    have htl := escT_take_le s i
    by_cases hlt : i < s.length
    · have hgd : (s.getD (Int.toNat (i : Int)) 0) = s[i] := by simp [hlt]
      obtain ⟨ta, tn, tc, hr, hcase⟩ := t.tab_byte s[i]
      have hts := escT_take_succ hlt
      have htl2 := escT_take_le s (i + 1)
      have hany : (s.take (i + 1)).any spB = ((s.take i).any spB || spB s[i]) := by rw [List.take_succ_eq_append_getElem hlt, List.any_append]; simp
      rw [hts, List.length_append] at htl2
      have hbl := escB_len s[i]
      have hb256 : (s[i]).toNat < 256 := s[i].toNat_lt
      rcases hcase with ⟨rfl, hsp⟩ | ⟨hta, hsp, htn, _⟩
      · rw [escB_plain hsp] at hts
        have hl1 := congrArg List.length hts
        simp only [List.length_append, List.length_cons, List.length_nil] at hl1
        repeat' first
          | refine CondP.yes rfl ?_
          | refine J_seq ?_ | refine J_region Tryz.tyOK ?_ | refine J_block ?_ | refine J_cond ?_ | refine J_ret ?_ | refine J_skip ?_ | refine J_exit ?_ | refine J_scope ?_
          | refine CondP.yes (by omega) ?_ | refine CondP.no (by omega) ?_ | refine CondP.mk (fun h => ?_) (fun h => ?_) | refine EqP.mk rfl ?_ | refine NewP.mk (fun ad => ?_) | refine ArP.exact (by simp only [inR]; omega) ?_ | refine SideP.mk (by first | omega | (dsimp only; omega) | (simp; omega)) ?_
          | refine FldE.mk 0 257 1 _ (hbig _) (by decide) ?_ | rw [hgd] | refine SideP.mk ⟨by omega, by omega⟩ ?_ | refine LoadE.mk 0 257 _ _ (htab _) (by omega) (by omega) (by decide) (by exact hr) ?_ | refine Round.mk (i + 1, b, n) (by dsimp only; omega) ⟨by dsimp only; omega, by dsimp only; omega, fun hz => ?_⟩ (by repeat' first | exact SubE.nil | refine SubE.cons rfl ?_ ?_ | exact VEq.refl _ | refine VEq.int (by dsimp only; omega)) (Ents.refl _ _)
          | fail
        show (s.take (i + 1)).any spB = false
        rw [hany, hb hz, hsp]; rfl
      · have hl1 := congrArg List.length hts
        simp only [List.length_append] at hl1
        subst htn
        repeat' first
          | refine CondP.no hta ?_
          | refine J_seq ?_ | refine J_region Tryz.tyOK ?_ | refine J_block ?_ | refine J_cond ?_ | refine J_ret ?_ | refine J_skip ?_ | refine J_exit ?_ | refine J_scope ?_
          | refine CondP.yes (by omega) ?_ | refine CondP.no (by omega) ?_ | refine CondP.mk (fun h => ?_) (fun h => ?_) | refine EqP.mk rfl ?_ | refine NewP.mk (fun ad => ?_) | refine ArP.exact (by simp only [inR]; omega) ?_ | refine SideP.mk (by first | omega | (dsimp only; omega) | (simp; omega)) ?_
          | refine FldE.mk 0 257 1 _ (hbig _) (by decide) ?_ | rw [hgd] | refine SideP.mk ⟨by omega, by omega⟩ ?_ | refine LoadE.mk 0 257 _ _ (htab _) (by omega) (by omega) (by decide) (by exact hr) ?_ | refine Round.mk (i + 1, true, n + ((escB s[i]).length - 1)) (by dsimp only; omega) ⟨by dsimp only; omega, by dsimp only; omega, fun hz => by cases hz⟩ (by repeat' first | exact SubE.nil | refine SubE.cons rfl ?_ ?_ | exact VEq.refl _ | refine VEq.int (by dsimp only; omega)) (Ents.refl _ _)
          | fail
    · have : i = s.length := by omega
      subst this
      rw [List.take_length] at hb hn
      repeat' first
        | refine J_seq ?_ | refine J_region Tryz.tyOK ?_ | refine J_block ?_ | refine J_cond ?_ | refine J_ret ?_ | refine J_skip ?_ | refine J_exit ?_ | refine J_scope ?_
        | refine CondP.yes (by omega) ?_ | refine CondP.no (by omega) ?_ | refine CondP.mk (fun h => ?_) (fun h => ?_) | refine EqP.mk rfl ?_ | refine NewP.mk (fun ad => ?_) | refine ArP.exact (by simp only [inR]; omega) ?_ | refine SideP.mk (by first | omega | (dsimp only; omega) | (simp; omega)) ?_
        | refine InFam.mk b (fun h => escT_plain (hb h)) (by repeat' first | exact SubE.nil | refine SubE.cons rfl ?_ ?_ | exact VEq.refl _ | refine VEq.int (by omega)) (Ents.refl _ _)
        | fail
  · cases b
    · repeat' first
        | refine J_seq ?_ | refine J_region Tryz.tyOK ?_ | refine J_block ?_ | refine J_cond ?_ | refine J_ret ?_ | refine J_skip ?_ | refine J_exit ?_ | refine J_scope ?_
        | refine CondP.yes (by omega) ?_ | refine CondP.no (by omega) ?_ | refine CondP.mk (fun h => ?_) (fun h => ?_) | refine EqP.mk rfl ?_ | refine NewP.mk (fun ad => ?_) | refine ArP.exact (by simp only [inR]; omega) ?_ | refine SideP.mk (by first | omega | (dsimp only; omega) | (simp; omega)) ?_
        | refine FinE.str ?_
        | fail
      first | exact hb rfl | exact (hb rfl).symm
    · repeat' first
        | refine J_seq ?_ | refine J_region Tryz.tyOK ?_ | refine J_block ?_ | refine J_cond ?_ | refine J_ret ?_ | refine J_skip ?_ | refine J_exit ?_ | refine J_scope ?_
        | refine CondP.yes (by omega) ?_ | refine CondP.no (by omega) ?_ | refine CondP.mk (fun h => ?_) (fun h => ?_) | refine EqP.mk rfl ?_ | refine NewP.mk (fun ad => ?_) | refine ArP.exact (by simp only [inR]; omega) ?_ | refine SideP.mk (by first | omega | (dsimp only; omega) | (simp; omega)) ?_
        | fail
      refine J_loop (α := Nat) (fun i => [(0, repR t), (1, .c (.s s)), (12, .c (.sl (some ⟨ad, 0, none⟩) (escT s).length (escT s).length)), (13, .c (.i .i64 (escT (s.take i)).length)), (14, .c (.i .i64 i))])
        (fun i => [.row 5 1 (some ⟨ad, 0, none⟩) (escT s).length (escT s).length ((escT (s.take i)).map byteC ++ repC ((escT s).length - (escT (s.take i)).length) [.i .u8 0])]) (fun _ => t.facts) 7000
        (fun i => i ≤ s.length) (fun i => s.length - i) (InFam.mk 0 (Nat.zero_le _) (by repeat' first | exact SubE.nil | refine SubE.cons rfl ?_ ?_ | exact VEq.refl _ | refine VEq.sl rfl (by simp) (by simp)) (Ents.of (by simp [escT]))) (fun i hi => ?_)
      unfold repR
      by_cases hlt : i < s.length
      · have hgd : (s.getD (Int.toNat (i : Int)) 0) = s[i] := by simp [hlt]
        obtain ⟨ta, tn, tc, hr, hcase⟩ := t.tab_byte s[i]
        have hts := escT_take_succ hlt
        have htl2 := escT_take_le s (i + 1)
        rw [hts, List.length_append] at htl2
        have hbl := escB_len s[i]
        have hb256 : (s[i]).toNat < 256 := s[i].toNat_lt
        rcases hcase with ⟨rfl, hsp⟩ | ⟨hta, hsp, htn, hfa⟩
        · rw [escB_plain hsp] at hts htl2
          have hl1 := congrArg List.length hts
          simp only [List.length_append, List.length_cons, List.length_nil] at hl1 htl2
          repeat' first
            | refine CondP.yes rfl ?_
            | refine J_seq ?_ | refine J_region Tryz.tyOK ?_ | refine J_block ?_ | refine J_cond ?_ | refine J_ret ?_ | refine J_skip ?_ | refine J_exit ?_ | refine J_scope ?_
            | refine CondP.yes (by omega) ?_ | refine CondP.no (by omega) ?_ | refine CondP.mk (fun h => ?_) (fun h => ?_) | refine EqP.mk rfl ?_ | refine NewP.mk (fun ad => ?_) | refine ArP.exact (by simp only [inR]; omega) ?_ | refine SideP.mk (by first | omega | (dsimp only; omega) | (simp; omega)) ?_
            | refine FldE.mk 0 257 1 _ (hbig _) (by decide) ?_ | rw [hgd] | refine SideP.mk ⟨by omega, by omega⟩ ?_ | refine LoadE.mk 0 257 _ _ (htab _) (by omega) (by omega) (by decide) (by exact hr) ?_ | refine IdxE.mk 5 1 _ (.inl ⟨_, List.Mem.head _⟩) (by omega) (by omega) ?_ | refine StoreE.mk [] [] 5 _ _ _ _ rfl (by omega) (by omega) (Nat.le_refl 1) (by exact escRow s i _ [s[i]] hts (by simp only [List.length_cons, List.length_nil]; omega) _ (by simp)) ?_ | refine Round.mk (i + 1) (by omega) (by omega) (by repeat' first | exact SubE.nil | refine SubE.cons rfl ?_ ?_ | exact VEq.refl _ | refine VEq.int (by omega)) (Ents.refl _ _)
            | fail
        · subst htn
          have hl1 := congrArg List.length hts
          simp only [List.length_append] at hl1
          repeat' first
            | refine CondP.no hta ?_
            | refine J_seq ?_ | refine J_region Tryz.tyOK ?_ | refine J_block ?_ | refine J_cond ?_ | refine J_ret ?_ | refine J_skip ?_ | refine J_exit ?_ | refine J_scope ?_
            | refine CondP.yes (by omega) ?_ | refine CondP.no (by omega) ?_ | refine CondP.mk (fun h => ?_) (fun h => ?_) | refine EqP.mk rfl ?_ | refine NewP.mk (fun ad => ?_) | refine ArP.exact (by simp only [inR]; omega) ?_ | refine SideP.mk (by first | omega | (dsimp only; omega) | (simp; omega)) ?_
            | refine J_drawU (id := 9) Tryz.tyOK (by kernel_rfl) [0, 0, 0, 0, 8, 4, 36, 124, 252, 508, 1020, 2046, 4095, 8191] (.leaf [0, 1, 2, 3, 4, 5, 6, 7, 8, 9, 10, 11, 12, 13]) [] [48] 14 true (by kernel_rfl) ?_ | refine TwoP.mk ?_ ?_ | refine GoP.mk (by repeat (first | exact List.Sublist.slnil | refine List.Sublist.cons_cons _ ?_ | refine List.Sublist.cons _ ?_)) (by first | exact fun _ h => h | exact fun _ h => h.2 | exact fun _ h => ((allD_append _ _).1 h).2) ?_ | exact trivial | refine J_drawU (id := 28) Tryz.tyOK (by kernel_rfl) [0, 0, 0, 6, 0, 0, 16, 80, 240, 496, 1022, 2047, 4095] (.fork [0, 1, 2, 3, 4, 5, 6, 7, 8, 9] (.alt 10 (.leaf [11, 12]) (.stop))) [10] [110] 13 false (by kernel_rfl) ?_ | refine TwoP.mk ?_ ?_ | refine GoP.mk (by repeat (first | exact List.Sublist.slnil | refine List.Sublist.cons_cons _ ?_ | refine List.Sublist.cons _ ?_)) (by first | exact fun _ h => h | exact fun _ h => h.2 | exact fun _ h => ((allD_append _ _).1 h).2) ?_ | exact trivial | refine EntP.mk (Ents.ofSub (by repeat (first | exact List.Sublist.slnil | refine List.Sublist.cons_cons _ ?_ | refine List.Sublist.cons _ ?_)) (by first | exact fun _ h => h | exact fun _ _ => trivial | exact fun _ h => h.2 | exact fun _ h => h.2.2.2.2 | exact fun _ h => h.2.2 | exact fun _ h => h.2.2.2 | exact fun _ h => h.2.2.2.2.2 | exact fun _ h => h.2.2.2.2.2.2 | exact fun _ h => h.2.2.2.2.2.2.2 | exact fun _ h => h.2.2.2.2.2.2.2.2 | exact fun _ h => h.2.2.2.2.2.2.2.2.2 | exact fun _ h => h.2.2.2.2.2.2.2.2.2.2 | exact fun _ h => ((allD_append _ _).1 h).2)) ?_ | refine FldE.mk 0 257 1 _ (hbig _) (by decide) ?_ | rw [hgd] | refine SideP.mk ⟨by omega, by omega⟩ ?_ | refine LoadE.mk 0 257 _ _ (htab _) (by omega) (by omega) (by decide) (by exact hr) ?_ | refine CopyE.mk [] [] 5 _ _ (escT (s.take i)).length (escB s[i]).length (some ⟨ad, 0, none⟩) _ ((escB s[i]).map byteC) _ _ _ _ rfl rfl (by show _ = min _ _; omega) (by omega) (by first | rfl | simp) (.inr hfa) (by simp) (by omega) (.inl (by omega)) (by exact escRow s i _ _ hts (by omega) _ (by simp)) ?_ | refine Round.mk (i + 1) (by omega) (by omega) (by repeat' first | exact SubE.nil | refine SubE.cons rfl ?_ ?_ | exact VEq.refl _ | refine VEq.int (by omega)) (Ents.of (by rw [Nat.max_eq_left (by omega)]; rfl))
            | fail
          all_goals trace_state
      · have : i = s.length := by omega
        subst this
        rw [List.take_length, Nat.sub_self, show repC 0 [C.i .u8 0] = [] from rfl, List.append_nil]
        repeat' first
          | refine J_seq ?_ | refine J_region Tryz.tyOK ?_ | refine J_block ?_ | refine J_cond ?_ | refine J_ret ?_ | refine J_skip ?_ | refine J_exit ?_ | refine J_scope ?_
          | refine CondP.yes (by omega) ?_ | refine CondP.no (by omega) ?_ | refine CondP.mk (fun h => ?_) (fun h => ?_) | refine EqP.mk rfl ?_ | refine NewP.mk (fun ad => ?_) | refine ArP.exact (by simp only [inR]; omega) ?_ | refine SideP.mk (by first | omega | (dsimp only; omega) | (simp; omega)) ?_
          | refine BytesE.mk 5 (escT s) (.inl ⟨_, List.Mem.head _⟩) ?_ | refine FinE.str rfl
          | fail
end Go.Proofs
namespace Go.X
open Go
theorem MethOK.of {P : Program} {t e : TypeId} {name : String} {f : FuncId} (h : ((P.info? t).bind fun i => (i.methods.find? (·.name == name)).map fun m => (m.path.toList.length, m.func)) = some (0, some (f, true))) (hu : P.underlying t = some (.pointer e)) : MethOK P t name f := by
  cases hi : P.info? t with
  | none => rw [hi] at h; cases h
  | some i =>
    rw [hi] at h
    cases hm : i.methods.find? (·.name == name) with
    | none => simp [hm] at h
    | some m =>
      simp only [Option.bind_some, hm, Option.map_some, Option.some.injEq, Prod.mk.injEq] at h
      exact MethOK.ptr hi hm (List.eq_nil_of_length_eq_zero h.1) h.2 hu
end Go.X
namespace Go.Proofs
open Go Go.X
set_option maxRecDepth 100000
theorem repMeth : MethOK Tryz.prog 200 "Replace" 235 :=
  MethOK.of (e := 199) (by kernel_rfl) (by kernel_rfl)
theorem RT.val_enc (t : RT) : (V.c t.val).enc = .iface 200 (repR t).enc := by
  simp [RT.val, repR, V.enc, C.enc, elemAddr]
theorem allD_app {m : Im} : ∀ {A B : List Fact}, allD m (A ++ B) → allD m A
  | [], _, _ => trivial
  | _ :: _, _, h => ⟨h.1, allD_app h.2⟩
theorem replacer_ok (ab : Nat) (a0 : Option Addr) (c0 : Nat) (s : List UInt8) (hs : s.length ≤ 1000000000) : FnS Tryz.prog 38 [.c (.p 0 ab 0), .c (.s s)] [rb ab 0 0 (.raw .nilIface) (.sl a0 8 c0)] [slFact 9 1 a0 8 strs8] (Is (.c (.s (escT s)))) := by
  have c1 := onceDone_ok ab a0 c0
  unfold rb
  refine fn_of_J Tryz.tyOK 7000 Tryz.func38 (by kernel_rfl) (c := Tryz.f38.body.getD .skip) (by kernel_rfl) Tryz.ntmps38 (rs := Tryz.f38.results.toList) rfl (by simp) (fun G => ?_)
  repeat' first
    | refine J_seq ?_ | refine J_region Tryz.tyOK ?_ | refine J_block ?_ | refine J_cond ?_ | refine J_ret ?_ | refine J_skip ?_ | refine J_exit ?_ | refine J_scope ?_
    | refine CondP.yes (by omega) ?_ | refine CondP.no (by omega) ?_ | refine CondP.mk (fun h => ?_) (fun h => ?_) | refine EqP.mk rfl ?_ | refine NewP.mk (fun ad => ?_) | refine ArP.exact (by simp only [inR]; omega) ?_ | refine SideP.mk (by first | omega | (dsimp only; omega) | (simp; omega)) ?_
    | refine CallP.mk [_] [] [_] _ c1 (List.Perm.refl _) (fun _ h => h) (fun v L' D' hp => ?_); obtain ⟨r, z, R, rfl, rfl, rfl, rfl, t, rfl, D1, rfl⟩ := hp | refine InvP.mk 200 (repR t) 235 t.val_enc repMeth ?_ | refine CallP.is (repReplace_ok t s hs) ?_ (fun _ h => allD_app (allD_app h)) | refine FinE.str rfl
    | fail
theorem escape_ok (s : List UInt8) (hs : s.length ≤ 1000000000) : FnS Tryz.prog 14 [.c (.s s)] [] [] (Is (.c (.s (escT s)))) := by
  refine fn_of_J Tryz.tyOK 7000 Tryz.func14 (by kernel_rfl) (c := Tryz.f14.body.getD .skip) (by kernel_rfl) Tryz.ntmps14 (rs := Tryz.f14.results.toList) rfl (by simp) (fun G => ?_)
  repeat' first
    | refine J_seq ?_ | refine J_region Tryz.tyOK ?_ | refine J_block ?_ | refine J_cond ?_ | refine J_ret ?_ | refine J_skip ?_ | refine J_exit ?_ | refine J_scope ?_
    | refine CondP.yes (by omega) ?_ | refine CondP.no (by omega) ?_ | refine CondP.mk (fun h => ?_) (fun h => ?_) | refine EqP.mk rfl ?_ | refine NewP.mk (fun ad => ?_) | refine ArP.exact (by simp only [inR]; omega) ?_ | refine SideP.mk (by first | omega | (dsimp only; omega) | (simp; omega)) ?_
    | (refine CallP.mkE [] _ [_] _ _ (newReplacer_ok _ _) Ents.toFact (fun _ h => ⟨h.1, trivial⟩) (fun v L' D' hp => ?_); obtain ⟨ab, a', c', rfl, rfl, rfl⟩ := hp) | (refine CallP.mkE [_] [] [_] _ _ (replacer_ok _ _ _ s hs) ((Ents.perm (List.Perm.swap _ _ _)).trans Ents.toFact) (fun _ h => ⟨h.1, trivial⟩) (fun v L' D' hp => ?_); obtain ⟨rfl, rfl, rfl⟩ := hp) | refine FinE.str rfl
    | fail
end Go.Proofs
namespace Go.Proofs
open Go Go.X
set_option maxRecDepth 100000
theorem escStep38 {o r : List UInt8} {x y : UInt8} (hst : r = o ++ escB y) (hg : x = y) (h : (x.toNat : Int) = 38) : o ++ eAmp = r := by
  subst hg
  have hy : x = 38 := byte_is (n := 38) (by decide) h
  subst hy; rw [hst]; rfl
theorem escStep60 {o r : List UInt8} {x y : UInt8} (hst : r = o ++ escB y) (hg : x = y) (h : (x.toNat : Int) = 60) : o ++ eLt = r := by
  subst hg
  have hy : x = 60 := byte_is (n := 60) (by decide) h
  subst hy; rw [hst]; rfl
theorem escStep62 {o r : List UInt8} {x y : UInt8} (hst : r = o ++ escB y) (hg : x = y) (h : (x.toNat : Int) = 62) : o ++ eGt = r := by
  subst hg
  have hy : x = 62 := byte_is (n := 62) (by decide) h
  subst hy; rw [hst]; rfl
theorem escStep34 {o r : List UInt8} {x y : UInt8} (hst : r = o ++ escB y) (hg : x = y) (h : (x.toNat : Int) = 34) : o ++ eQuot = r := by
  subst hg
  have hy : x = 34 := byte_is (n := 34) (by decide) h
  subst hy; rw [hst]; rfl
theorem escStepN {o r : List UInt8} {x y : UInt8} (hst : r = o ++ escB y) (hg : x = y) (h1 : ¬ (x.toNat : Int) = 38) (h2 : ¬ (x.toNat : Int) = 60) (h3 : ¬ (x.toNat : Int) = 62) (h4 : ¬ (x.toNat : Int) = 34) : o ++ [y] = r := by
  subst hg
  have n1 : ¬ x = 38 := byte_not (n := 38) (by decide) h1
  have n2 : ¬ x = 60 := byte_not (n := 60) (by decide) h2
  have n3 : ¬ x = 62 := byte_not (n := 62) (by decide) h3
  have n4 : ¬ x = 34 := byte_not (n := 34) (by decide) h4
  rw [hst]; simp [escB, n1, n2, n3, n4]
theorem refEscape_ok (s : List UInt8) (hs : s.length ≤ 10000000) : FnS Tryz.prog 15 [.c (.s s)] [] [] (Is (.c (.s (escT s)))) := by
  have hle := escT_le s
  refine fn_of_J Tryz.tyOK 0 Tryz.func15 (by kernel_rfl) (c := Tryz.f15.body.getD .skip) (by kernel_rfl) Tryz.ntmps15 (rs := Tryz.f15.results.toList) rfl (by simp) (fun G => ?_)
  repeat' first
    | refine J_seq ?_ | refine J_region Tryz.tyOK ?_ | refine J_block ?_ | refine J_cond ?_ | refine J_ret ?_ | refine J_skip ?_ | refine J_exit ?_ | refine J_scope ?_
    | refine CondP.yes (by omega) ?_ | refine CondP.no (by omega) ?_ | refine CondP.mk (fun h => ?_) (fun h => ?_) | refine EqP.mk rfl ?_ | refine NewP.mk (fun ad => ?_) | refine ArP.exact (by simp only [inR]; omega) ?_ | refine SideP.mk (by first | omega | (dsimp only; omega) | (simp; omega)) ?_
    | fail
  refine J_loop (α := Nat × List UInt8) (fun x => [(0, .c (.s s)), (3, .c (.s x.2)), (4, .c (.i .i64 x.1))]) (fun _ => []) (fun _ => []) 0 (fun x => x.1 ≤ s.length ∧ x.2 = escT (s.take x.1)) (fun x => s.length - x.1)
    (InFam.mk (0, []) ⟨Nat.zero_le _, rfl⟩ (by repeat' first | exact SubE.nil | refine SubE.cons rfl ?_ ?_ | exact VEq.refl _ | refine VEq.int (by omega) | refine VEq.sl rfl (by first | rfl | omega | (rw [List.length_append]; rfl) | (simp; omega)) rfl) (Ents.refl _ _)) (fun x hx => ?_)
  obtain ⟨i, o⟩ := x
  obtain ⟨hi, ho⟩ := hx
  dsimp only at hi ho ⊢
  by_cases hlt : i < s.length
  · have hst := escT_take_succ hlt
    have htl := escT_take_le s i
    rw [← ho] at hst htl
    have hgd : (s.getD (Int.toNat (i : Int)) 0) = s[i] := by simp [hlt]
    have h1 := slice_one hlt
    have hgd2 : s.getD i 0 = s[i] := by simp [hlt]
    rw [hgd2] at h1
    generalize s[i] = y at *
    have h1' : (s.take (Int.toNat ((i : Int) + 1))).drop (Int.toNat (i : Int)) = [y] := h1
    repeat' first
      | refine J_seq ?_ | refine J_region Tryz.tyOK ?_ | refine J_block ?_ | refine J_cond ?_ | refine J_ret ?_ | refine J_skip ?_ | refine J_exit ?_ | refine J_scope ?_
      | refine CondP.yes (by omega) ?_ | refine CondP.no (by omega) ?_ | refine CondP.mk (fun h => ?_) (fun h => ?_) | refine EqP.mk rfl ?_ | refine NewP.mk (fun ad => ?_) | refine ArP.exact (by simp only [inR]; omega) ?_ | refine SideP.mk (by first | omega | (dsimp only; omega) | (simp; omega)) ?_
      | rw [hgd] | refine Round.mk (i + 1, o ++ eAmp) (by dsimp only; omega) ⟨by dsimp only; omega, escStep38 hst hgd h⟩ (by repeat' first | exact SubE.nil | refine SubE.cons rfl ?_ ?_ | exact VEq.refl _ | refine VEq.int (by omega) | refine VEq.sl rfl (by first | rfl | omega | (rw [List.length_append]; rfl) | (simp; omega)) rfl) (Ents.refl _ _) | refine Round.mk (i + 1, o ++ eLt) (by dsimp only; omega) ⟨by dsimp only; omega, escStep60 hst hgd h⟩ (by repeat' first | exact SubE.nil | refine SubE.cons rfl ?_ ?_ | exact VEq.refl _ | refine VEq.int (by omega) | refine VEq.sl rfl (by first | rfl | omega | (rw [List.length_append]; rfl) | (simp; omega)) rfl) (Ents.refl _ _) | refine Round.mk (i + 1, o ++ eGt) (by dsimp only; omega) ⟨by dsimp only; omega, escStep62 hst hgd h⟩ (by repeat' first | exact SubE.nil | refine SubE.cons rfl ?_ ?_ | exact VEq.refl _ | refine VEq.int (by omega) | refine VEq.sl rfl (by first | rfl | omega | (rw [List.length_append]; rfl) | (simp; omega)) rfl) (Ents.refl _ _) | refine Round.mk (i + 1, o ++ eQuot) (by dsimp only; omega) ⟨by dsimp only; omega, escStep34 hst hgd h⟩ (by repeat' first | exact SubE.nil | refine SubE.cons rfl ?_ ?_ | exact VEq.refl _ | refine VEq.int (by omega) | refine VEq.sl rfl (by first | rfl | omega | (rw [List.length_append]; rfl) | (simp; omega)) rfl) (Ents.refl _ _) | rw [h1'] | refine Round.mk (i + 1, o ++ [y]) (by dsimp only; omega) ⟨by dsimp only; omega, escStepN hst hgd (by assumption) (by assumption) (by assumption) (by assumption)⟩ (by repeat' first | exact SubE.nil | refine SubE.cons rfl ?_ ?_ | exact VEq.refl _ | refine VEq.int (by omega) | refine VEq.sl rfl (by first | rfl | omega | (rw [List.length_append]; rfl) | (simp; omega)) rfl) (Ents.refl _ _)
      | fail
  · have hil : i = s.length := by omega
    subst hil
    rw [List.take_length] at ho
    subst ho
    repeat' first
      | refine J_seq ?_ | refine J_region Tryz.tyOK ?_ | refine J_block ?_ | refine J_cond ?_ | refine J_ret ?_ | refine J_skip ?_ | refine J_exit ?_ | refine J_scope ?_
      | refine CondP.yes (by omega) ?_ | refine CondP.no (by omega) ?_ | refine CondP.mk (fun h => ?_) (fun h => ?_) | refine EqP.mk rfl ?_ | refine NewP.mk (fun ad => ?_) | refine ArP.exact (by simp only [inR]; omega) ?_ | refine SideP.mk (by first | omega | (dsimp only; omega) | (simp; omega)) ?_
      | refine FinE.str rfl
      | fail
end Go.Proofs
namespace Go.Proofs
open Go Go.X Go.Lib
set_option maxRecDepth 100000
structure RenW where
  P : Int × List UInt8 → Bool
  ns : List Int
  an : List (List UInt8)
def lnkPath (sp : Int) (n a : List UInt8) : List UInt8 :=
  if sp = 0 ∧ n = [] then 35 :: ancT19 a else if a = [] then pathT sp n else pathT sp n ++ 35 :: ancT19 a
def lnkOpen (p : Bool) (path : List UInt8) : List UInt8 := [60, 97] ++ (if p then [32, 99, 108, 97, 115, 115, 61, 34, 109, 105, 115, 115, 105, 110, 103, 34] else []) ++ [32, 104, 114, 101, 102, 61, 34] ++ path ++ [34, 62]
def supT (k j : Int) : List UInt8 := [60, 115, 117, 112, 32, 105, 100, 61, 34, 109, 97, 114, 107, 45] ++ itoa k ++ [34, 62, 60, 97, 32, 104, 114, 101, 102, 61, 34, 35, 110, 111, 116, 101, 45] ++ itoa j ++ [34, 62, 91] ++ itoa j ++ [93, 60, 47, 97, 62, 60, 47, 115, 117, 112, 62]
mutual
def Inl.ren (W : RenW) (b : Bool) (m : Nat) : Inl → List UInt8
  | .mk k t s n a _ _ kids =>
    if k = 1 then escT t else if k = 2 then [60, 98, 62] ++ inlRen W b m kids ++ [60, 47, 98, 62] else if k = 3 then [60, 105, 62] ++ inlRen W b m kids ++ [60, 47, 105, 62]
    else if k = 4 then lnkOpen (W.P (s, n)) (lnkPath s n a) ++ inlRen W b m kids ++ [60, 47, 97, 62]
    else if k = 5 then (if b then supT (m + 1) (W.ns.getD m 0) else []) else if k = 6 then [60, 98, 114, 62] else []
def inlRen (W : RenW) (b : Bool) (m : Nat) : List Inl → List UInt8
  | [] => []
  | x :: r => x.ren W b m ++ inlRen W b (m + x.marks.length) r
end
def hLvl (v : Int) : Int := max 1 (min v 6)
def hId (W : RenW) (top : Bool) (h : Nat) : List UInt8 := if top then [32, 105, 100, 61, 34] ++ escT (W.an.getD h []) ++ [34] else []
mutual
def Blk.ren (W : RenW) (top : Bool) (m h : Nat) : Blk → List UInt8
  | .mk k v t _ _ inl _ _ kids =>
    if k = 1 then [60, 104] ++ itoa (hLvl v) ++ hId W top h ++ [62] ++ inlRen W true m inl ++ [60, 47, 104] ++ itoa (hLvl v) ++ [62, 10]
    else if k = 2 then [60, 112, 62] ++ inlRen W true m inl ++ [60, 47, 112, 62, 10]
    else if k = 5 then [60, 104, 114, 62, 10]
    else if k = 6 then [60, 112, 114, 101, 62] ++ escT t ++ [60, 47, 112, 114, 101, 62, 10]
    else if k = 3 then (if v = 1 then [60, 111, 108, 62, 10] else [60, 117, 108, 62, 10]) ++ blksRen W false (m + (inlMarks inl).length) h kids ++ (if v = 1 then [60, 47, 111, 108, 62, 10] else [60, 47, 117, 108, 62, 10])
    else if k = 4 then [60, 108, 105, 62] ++ inlRen W true m inl ++ (if kids = [] then [] else 10 :: blksRen W false (m + (inlMarks inl).length) h kids) ++ [60, 47, 108, 105, 62, 10]
    else if k = 7 then [60, 116, 97, 98, 108, 101, 62, 10] ++ blksRen W false (m + (inlMarks inl).length) h kids ++ [60, 47, 116, 97, 98, 108, 101, 62, 10]
    else if k = 8 then [60, 116, 114, 62] ++ blksRen W false (m + (inlMarks inl).length) h kids ++ [60, 47, 116, 114, 62, 10]
    else if k = 9 then (if v = 1 then [60, 116, 104, 62] else [60, 116, 100, 62]) ++ inlRen W true m inl ++ (if v = 1 then [60, 47, 116, 104, 62] else [60, 47, 116, 100, 62])
    else []
def blksRen (W : RenW) (top : Bool) (m h : Nat) : List Blk → List UInt8
  | [] => []
  | x :: r => x.ren W top m h ++ blksRen W top (m + x.marks.length) (if top = true ∧ x.kind = 1 then h + 1 else h) r
end
theorem Inl.ren_eq (W : RenW) (b : Bool) (m : Nat) (x : Inl) : x.ren W b m =
    (if x.kind = 1 then escT x.text else if x.kind = 2 then [60, 98, 62] ++ inlRen W b m x.kids ++ [60, 47, 98, 62] else if x.kind = 3 then [60, 105, 62] ++ inlRen W b m x.kids ++ [60, 47, 105, 62]
    else if x.kind = 4 then lnkOpen (W.P (x.sp, x.name)) (lnkPath x.sp x.name x.anchor) ++ inlRen W b m x.kids ++ [60, 47, 97, 62]
    else if x.kind = 5 then (if b then supT (m + 1) (W.ns.getD m 0) else []) else if x.kind = 6 then [60, 98, 114, 62] else []) := by
  cases x; rw [Inl.ren]; rfl
theorem inlRen_append (W : RenW) (b : Bool) : ∀ (m : Nat) (l k : List Inl), inlRen W b m (l ++ k) = inlRen W b m l ++ inlRen W b (m + (inlMarks l).length) k
  | m, [], k => by simp [inlRen, inlMarks]
  | m, x :: r, k => by simp only [List.cons_append, inlRen, inlRen_append W b _ r k, List.append_assoc, inlMarks, List.length_append, Nat.add_assoc]
theorem inlRen_succ (W : RenW) (b : Bool) (m : Nat) {l : List Inl} {i : Nat} (h : i < l.length) : inlRen W b m (l.take (i + 1)) = inlRen W b m (l.take i) ++ l[i].ren W b (m + (inlMarks (l.take i)).length) := by
  rw [List.take_succ_eq_append_getElem h, inlRen_append]
  simp only [inlRen, List.append_nil]
theorem blksRen_append (W : RenW) : ∀ (m h : Nat) (l k : List Blk), blksRen W false m h (l ++ k) = blksRen W false m h l ++ blksRen W false (m + (blkMarks l).length) h k
  | m, h, [], k => by simp [blksRen, blkMarks]
  | m, h, x :: r, k => by simp [blksRen, blksRen_append W _ _ r k, blkMarks, Nat.add_assoc]
def hdsN : List Blk → Nat
  | [] => 0
  | x :: r => (if x.kind = 1 then 1 else 0) + hdsN r
theorem blksRen_append_top (W : RenW) : ∀ (m h : Nat) (l k : List Blk), blksRen W true m h (l ++ k) = blksRen W true m h l ++ blksRen W true (m + (blkMarks l).length) (h + hdsN l) k
  | m, h, [], k => by simp [blksRen, blkMarks, hdsN]
  | m, h, x :: r, k => by
    simp only [List.cons_append, blksRen, blksRen_append_top W _ _ r k, blkMarks, hdsN, List.length_append, List.append_assoc, Nat.add_assoc, true_and]
    by_cases hk : x.kind = 1
    · simp only [if_pos hk, Nat.add_assoc]
    · simp only [if_neg hk, Nat.zero_add]
mutual
theorem Inl.ren_off (W : RenW) : ∀ (m m' : Nat) (x : Inl), x.ren W false m = x.ren W false m'
  | m, m', .mk k t s n a ka kc kids => by rw [Inl.ren, Inl.ren, inlRen_off W m m' kids]; simp
theorem inlRen_off (W : RenW) : ∀ (m m' : Nat) (l : List Inl), inlRen W false m l = inlRen W false m' l
  | m, m', [] => by simp [inlRen]
  | m, m', x :: r => by rw [inlRen, inlRen, Inl.ren_off W m m' x, inlRen_off W _ (m' + x.marks.length) r]
end
mutual
theorem Inl.ren_era (W : RenW) : ∀ (x : Inl), x.era.ren W false 0 = x.ren W false 0
  | .mk k t s n a ka kc kids => by rw [Inl.era, Inl.ren, Inl.ren, inlRen_era W kids]
theorem inlRen_era (W : RenW) : ∀ (l : List Inl), inlRen W false 0 (inlEra l) = inlRen W false 0 l
  | [] => by simp [inlEra]
  | x :: r => by rw [inlEra, inlRen, inlRen, Inl.ren_era W x, inlRen_off W _ 0 (inlEra r), inlRen_era W r, inlRen_off W (0 + x.marks.length) 0 r]
end
theorem ren_era {W : RenW} {l k : List Inl} (h : inlEra l = inlEra k) : inlRen W false 0 l = inlRen W false 0 k := by rw [← inlRen_era W l, h, inlRen_era]
theorem lnkPath_le (sp : Int) (n a : List UInt8) : (lnkPath sp n a).length ≤ 3 * a.length + 400 := by
  have h1 := ancT19_le a
  have h2 := pathS_le (formatT sp n)
  have h0 := formatT_le sp n
  have h3 : (pathT sp n).length ≤ 333 := by unfold pathT; rw [List.length_append]; have : wikiS.length = 6 := rfl; omega
  unfold lnkPath
  split
  · simp only [List.length_cons]; omega
  split
  · omega
  · simp only [List.length_append, List.length_cons]; omega
end Go.Proofs
