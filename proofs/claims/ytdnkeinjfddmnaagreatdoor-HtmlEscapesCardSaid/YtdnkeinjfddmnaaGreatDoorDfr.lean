/- This text proves the rules for functions that put calls off (defer), for functions without results. -/
import Derived.Test.YtdnkeinjfddmnaaGreatDoorLib
import Derived.Defers
set_option linter.all false

namespace Go.X
open Go
variable [Sm : Inhabited Manner]

/-- A function's contract where it is entered as a call that was put off. -/
structure FnD (P : Program) (f : FuncId) (args : List V) (L : List Chunk) (D : List Fact) (post : V → List Chunk → List Fact → Prop) : Prop where
  en : Enters P f
  run : ∀ w m u, Holds w m L D → CallsD P f (args.map V.enc).toArray u w fun e u' w' => u' = u ∧ ∃ v L' D' m', e = .returned v.enc ∧ post v L' D' ∧ Holds w' m' L' D' ∧ Fr w L m w' L' m'

theorem fnD_of_J {P : Program} {T : Ty} (hT : TyOK P T) {f : FuncId} {fn : Func} {c : Code} {args : List V} {L : List Chunk} {D : List Fact} {post : V → List Chunk → List Fact → Prop} {N : Nat} {rs : List ResultVar} (nid : Nat)
    (hf : P.funcs[f]? = some fn) (hnm : (fn.name == "runtime.NumGoroutine") = false) (hb : fn.body = some c) (hN : fn.ntmps = N) (hr : fn.results.toList = rs) (hlen : args.length ≤ N)
    (h : ∀ G, J P G N c (argEnv 0 args) L D nid (Kt.fin T rs post)) : FnD P f args L D post := by
  refine ⟨⟨fn, hf, hnm, by simp [hb]⟩, fun w m u hh => ?_⟩
  refine callsD_of_wp hf hb ?_
  have he : EnvOK N (argEnv 0 args) { tmps := (args.map V.enc).toArray ++ Array.replicate (fn.ntmps - (args.map V.enc).toArray.size) undef, defers := [] } := by
    refine ⟨rfl, by simp; omega, fun d v hl => ?_⟩
    obtain ⟨_, h2⟩ := look_argEnv _ _ _ _ hl
    simp only [Nat.sub_zero] at h2
    have hlt : d < args.length := (List.getElem?_eq_some_iff.1 h2).1
    rw [Array.getElem?_append_left (by simpa using hlt)]
    simp [h2]
  have hs : SatW ⟨w, L, m⟩ w L D := ⟨m, hh, Fr.refl _ _ _⟩
  refine wp_mono ((h ⟨w, L, m⟩).run _ _ he hs) ?_
  rintro e a' w' ⟨env', L', D', n', hk, he', hs'⟩
  subst hr
  have fin : (resK T env' L' D' fn.results.toList fun l => tupK l (FinE post L' D')) → a'.defers = [] ∧ ∃ v, (results fn a'.tmps).run P w' = .ok v w' ∧
      ∃ v' L' D' m', Ending.returned v = .returned v'.enc ∧ post v' L' D' ∧ Holds w' m' L' D' ∧ Fr w L m w' L' m' := fun hk => by
    obtain ⟨v, ⟨L2, D2, hp, hE⟩, hv⟩ := results_run (fn := fn) hT he' hs' hk
    obtain ⟨m2, h1, h2⟩ := hE ⟨w, L, m⟩ w' hs'
    exact ⟨he'.1, v.enc, hv, v, L2, D2, m2, rfl, hp, h1, h2⟩
  cases e with
  | normal => exact fin hk
  | ret => exact fin hk
  | exit id => exact hk.elim
  | goto l => exact hk.elim
  | panic ch => exact hk.elim
  | outgrown => exact hk.elim

/-- A call that was put off. -/
def encD (x : FuncId × List V) : Deferred := ⟨.fn (.func x.1) #[], (x.2.map V.enc).toArray⟩

@[reducible] def dfI (dl : List (FuncId × List V)) : Inhabited (List Deferred) := ⟨dl.map encD⟩

/-- The calls that were put off run, the last laid first. -/
inductive LvP (P : Program) (K : List Chunk → List Fact → Prop) : List (FuncId × List V) → List Chunk → List Fact → Prop where
  | nil (L : List Chunk) (D : List Fact) (k : K L D) : LvP P K [] L D
  | cons {f : FuncId} {args : List V} {ds : List (FuncId × List V)} {L : List Chunk} {D : List Fact} (L0 R : List Chunk) (D0 : List Fact) (post : V → List Chunk → List Fact → Prop) (h : FnD P f args L0 D0 post)
      (hp : L.Perm (L0 ++ R)) (hd : ∀ m, allD m D → allD m D0) (k : ∀ v L' D', post v L' D' → LvP P K ds (L' ++ R) (D' ++ D)) : LvP P K ((f, args) :: ds) L D

def EndR (G : Ent) (K : List Chunk → List Fact → Prop) : Ending → World → Prop := fun e w' => e = .returned (.tuple #[]) ∧ ∃ L' D', K L' D' ∧ SatW G w' L' D'

theorem lvP_sound {P : Program} {G : Ent} {fn : Func} {tmps : Array Value} {K : List Chunk → List Fact → Prop} (hres : ∀ w, (results fn tmps).run P w = .ok (.tuple #[]) w) : ∀ (ds : List (FuncId × List V)) (L : List Chunk) (D : List Fact) (w : World),
    LvP P K ds L D → SatW G w L D → Leaves P fn tmps (EndR G K) (ds.map encD) .returning w := by
  intro ds
  induction ds with
  | nil =>
    intro L D w h hs
    cases h with
    | nil _ _ k => exact ⟨_, hres w, rfl, L, D, k, hs⟩
  | cons d ds ih =>
    intro L D w h hs
    cases h with
    | cons L0 R D0 post hf hp hd k =>
      obtain ⟨m, h1, h2⟩ := satW_perm hp hs
      have h0 : Holds w m L0 D0 := by
        refine ⟨?_, ((allOk_append _ _).1 h1.ok).1, fun b o hb => ?_, hd m h1.d⟩
        · have := h1.nd
          rw [fps_append] at this
          exact (List.nodup_append.1 this).1
        · have h3 := h1.im b o hb
          exact ⟨h3.1, fun hc => h3.2 (by rw [fps_append]; simp [hc])⟩
      simp only [List.map_cons]
      refine leaves_cons (by simp) (f := _) (args := _) (by simp only [invoke, Array.append_empty]; exact run_callFunc hf.en _) ?_
      refine (hf.run w m .returning h0).mono ?_
      rintro e u' w' ⟨rfl, v, L', D', m', rfl, hpost, hh, hfr⟩
      obtain ⟨h3, h4⟩ := h1.frame hh hfr
      exact ih _ _ w' (k v L' D' hpost) ⟨m', h3, h2.trans h4⟩

/-- The judgement for code that puts calls off. -/
structure JD (dl : List (FuncId × List V)) (P : Program) (G : Ent) (N : Nat) (fn : Func) (c : Code) (env : Env) (L : List Chunk) (D : List Fact) (nid : Nat) (K : List Chunk → List Fact → Prop) : Prop where
  run : ∀ a w, @EnvOK (dfI dl) N env a → SatW G w L D → c.wp P (bodyPostD P fn (EndR G K)) a w

section
variable {dl : List (FuncId × List V)} {P : Program} {G : Ent} {N : Nat} {fn : Func} {env : Env} {L : List Chunk} {D : List Fact} {nid : Nat} {K : List Chunk → List Fact → Prop}

theorem JD_seq {x y : Code} (h : @J Sm (dfI dl) P G N x env L D nid (fun e env' L' D' n' => match e with | .normal => JD dl P G N fn y env' L' D' n' K | _ => False)) : JD dl P G N fn (.seq x y) env L D nid K :=
  ⟨fun a w he hs => wp_seq (wp_mono (@J.run Sm (dfI dl) _ _ _ _ _ _ _ _ _ h a w he hs) fun e a' w' hq => by
    obtain ⟨env', L', D', n', hk, he', hs'⟩ := hq
    cases e with
    | normal => exact hk.run a' w' he' hs'
    | exit id => exact hk.elim
    | goto l => exact hk.elim
    | ret => exact hk.elim
    | panic ch => exact hk.elim
    | outgrown => exact hk.elim)⟩

theorem JD_cond {c : Operand} {x y : Code} (h : withE env c fun v => match v with | .c (.b true) => JD dl P G N fn x env L D nid K | .c (.b false) => JD dl P G N fn y env L D nid K | _ => False) : JD dl P G N fn (.cond c x y) env L D nid K :=
  ⟨fun a w he hs => by
    obtain ⟨v, hv, h⟩ := withE_elim h
    split at h
    · exact wp_cond_true (by rw [EnvOK.ev (Df := dfI dl) he hv]; rfl) (h.run a w he hs)
    · exact wp_cond_false (by rw [EnvOK.ev (Df := dfI dl) he hv]; rfl) (h.run a w he hs)
    · exact h.elim⟩

theorem JD_end {c : Code} (hres : ∀ tmps w, (results fn tmps).run P w = .ok (.tuple #[]) w) (h : @J Sm (dfI dl) P G N c env L D nid (fun e env' L' D' n' => match e with | .normal => LvP P K dl L' D' | .ret => LvP P K dl L' D' | _ => False)) : JD dl P G N fn c env L D nid K :=
  ⟨fun a w he hs => wp_mono (@J.run Sm (dfI dl) _ _ _ _ _ _ _ _ _ h a w he hs) fun e a' w' hq => by
    obtain ⟨env', L', D', n', hk, he', hs'⟩ := hq
    have hd : a'.defers = dl.map encD := he'.1
    have key : LvP P K dl L' D' → Leaves P fn a'.tmps (EndR G K) a'.defers .returning w' := fun hk => by rw [hd]; exact lvP_sound (hres _) _ _ _ _ hk hs'
    cases e with
    | normal => exact key hk
    | ret => exact key hk
    | exit id => exact hk.elim
    | goto l => exact hk.elim
    | panic ch => exact hk.elim
    | outgrown => exact hk.elim⟩

theorem vcOps_app [Df : Inhabited (List Deferred)] {T : Ty} (hT : TyOK P T) (ops : List Oper) (tail : List Oper) : ∀ (l : List Oper) (env : Env) (L : List Chunk) (D : List Fact) (nid : Nat) (k : Kont), vcOps P T N ops l env L D nid k →
    ∀ (Q : Exit → Act → World → Prop), (∀ env' L' D' n' a' w', k env' L' D' n' → EnvOK N env' a' → SatW G w' L' D' → wpList P ops.toArray Q tail a' w') →
    ∀ a w, EnvOK N env a → SatW G w L D → wpList P ops.toArray Q (l ++ tail) a w
  | [], env, L, D, nid, k, h, Q, hQ, a, w, he, hs => hQ _ _ _ _ _ _ h he hs
  | o :: rest, env, L, D, nid, k, h, Q, hQ, a, w, he, hs => by
    refine wpList_step fun Kn hKn => ?_
    simp only [vcOps] at h
    rcases wantK_sound he h with ⟨hw, h⟩ | ⟨hw, h⟩
    · rw [if_pos hw]
      refine (vcOp_sound hT h he hs).wp ?_
      rintro u w' ⟨v, L', D', n', rfl, hk, hs'⟩
      refine hKn _ _ ?_
      obtain ⟨env', hk', he'⟩ := putK_sound hk he
      exact vcOps_app hT ops tail rest env' L' D' n' k hk' Q hQ _ _ he' hs'
    · rw [if_neg (by simp [hw])]
      refine hKn _ _ ?_
      obtain ⟨env', hk', he'⟩ := putK_sound h he
      exact vcOps_app hT ops tail rest env' L D nid k hk' Q hQ _ _ he' hs

def lastK : List Oper → (List Oper → Oper → Prop) → Prop
  | [], _ => False
  | [o], k => k [] o
  | o :: o' :: r, k => lastK (o' :: r) fun p l => k (o :: p) l
theorem lastK_sound : ∀ {ops : List Oper} {k : List Oper → Oper → Prop}, lastK ops k → ∃ pre o, ops = pre ++ [o] ∧ k pre o
  | [], _, h => h.elim
  | [o], k, h => ⟨[], o, rfl, h⟩
  | o :: o' :: r, k, h => by
    obtain ⟨p, l, h1, h2⟩ := lastK_sound (ops := o' :: r) h
    exact ⟨o :: p, l, by rw [h1]; rfl, h2⟩

/-- What is put off. -/
def deferK (o : Oper) (k : FuncId → List Operand → Prop) : Prop :=
  match o.op, o.guard, o.dst with
  | .defer c, none, none => match c.callee with
    | .value (.func f) => k f c.args.toList
    | _ => False
  | _, _, _ => False

theorem JD_defer {T : Ty} (hT : TyOK P T) {id : Nat} {ops : List Oper} {y : Code}
    (h : lastK ops fun pre o => deferK o fun f xs => @vcOps Sm P T N ops pre env L D nid (fun env' L' D' n' => argsK env' xs fun vs => JD ((f, vs) :: dl) P G N fn y env' L' D' n' K)) : JD dl P G N fn (.seq (.region id ops.toArray false) y) env L D nid K :=
  ⟨fun a w he hs => wp_seq (wp_region_lit (by
    obtain ⟨pre, o, hops, h⟩ := lastK_sound h
    subst hops
    unfold deferK at h
    split at h
    · rename_i c ho hg hdst
      split at h
      · rename_i f hc
        refine @vcOps_app Sm P G N (dfI dl) T hT (pre ++ [o]) [o] pre env L D nid _ h _ (fun env' L' D' n' a' w' hk he' hs' => ?_) a w he hs
        obtain ⟨vs, hk, hvs⟩ := argsK_sound (Df := dfI dl) he' hk
        refine wpList_step fun Kn hKn => ?_
        rw [if_pos (by simp [Region.wanted, hg])]
        have hargs : c.args.map a'.eval = (vs.map V.enc).toArray := by rw [← hvs, ← Array.toList_map, Array.toArray_toList]
        have hrun : (execOp a'.eval o).run P w' = .ok (.defer (encD (f, vs))) w' := by
          simp only [execOp, ho, resolve, hc, Act.eval, Deferred.ofValue, Sem.run_bind, Sem.run_pure, Result.andThen_ok, hargs, encD, Array.empty_append]
        unfold Oper.wp
        rw [hrun, Oper.upon_defer, hdst]
        refine hKn _ _ ?_
        refine wpList_nil ?_
        refine hk.run _ w' ⟨?_, he'.2⟩ hs'
        show encD (f, vs) :: a'.defers = _
        rw [he'.1]
        rfl
      · exact h.elim
    · exact h.elim))⟩

/-- A CONTRACT OUT OF THE BODY of a function without results that puts calls off. -/
theorem fn_of_JD {f : FuncId} {c : Code} {args : List V} {post : V → List Chunk → List Fact → Prop} (nid : Nat)
    (hf : P.funcs[f]? = some fn) (hnm : (fn.name == "runtime.NumGoroutine") = false) (hb : fn.body = some c) (hN : fn.ntmps = N) (hlen : args.length ≤ N)
    (h : ∀ G, JD [] P G N fn c (argEnv 0 args) L D nid (fun L' D' => ∃ L2 D2, Ents L' D' L2 D2 ∧ post .t0 L2 D2)) : FnS P f args L D post := by
  refine ⟨⟨fn, hf, hnm, by simp [hb]⟩, fun w m hh => ?_⟩
  refine calls_of_wp_defers hf hb ?_
  have he : @EnvOK (dfI []) N (argEnv 0 args) { tmps := (args.map V.enc).toArray ++ Array.replicate (fn.ntmps - (args.map V.enc).toArray.size) undef, defers := [] } := by
    refine ⟨rfl, by simp; omega, fun d v hl => ?_⟩
    obtain ⟨_, h2⟩ := look_argEnv _ _ _ _ hl
    simp only [Nat.sub_zero] at h2
    have hlt : d < args.length := (List.getElem?_eq_some_iff.1 h2).1
    rw [Array.getElem?_append_left (by simpa using hlt)]
    simp [h2]
  have hs : SatW ⟨w, L, m⟩ w L D := ⟨m, hh, Fr.refl _ _ _⟩
  refine wp_mono ((h ⟨w, L, m⟩).run _ _ he hs) ?_
  have mono : ∀ (ds : List Deferred) (u : FrameMode) (tmps : Array Value) (w0 : World), Leaves P fn tmps (EndR ⟨w, L, m⟩ (fun L' D' => ∃ L2 D2, Ents L' D' L2 D2 ∧ post .t0 L2 D2)) ds u w0 →
      Leaves P fn tmps (fun e w' => ∃ v L' D' m', e = .returned v.enc ∧ post v L' D' ∧ Holds w' m' L' D' ∧ Fr w L m w' L' m') ds u w0 := by
    intro ds
    induction ds with
    | nil =>
      intro u tmps w0 hl
      cases u with
      | run => exact hl
      | returning =>
        obtain ⟨v, hr, he, L1, D1, ⟨L2, D2, hE, hp⟩, hs1⟩ := hl
        obtain ⟨m2, h1, h2⟩ := hE _ _ hs1
        exact ⟨v, hr, .t0, L2, D2, m2, he, hp, h1, h2⟩
      | panicking chain => exact absurd hl.1 (by simp)
    | cons d ds ih =>
      intro u tmps w0 hl
      obtain ⟨hu, fv, cap, f, args, h1, h2, h3⟩ := hl
      refine ⟨hu, fv, cap, f, args, h1, h2, h3.mono ?_⟩
      rintro e u' w' hq
      cases e with
      | returned v => exact ih _ _ _ hq
      | panicked ch => exact ih _ _ _ hq
      | outgrown => exact absurd hq.1 (by simp)
  rintro e a' w' hq
  cases e with
  | normal => exact mono _ _ _ _ hq
  | ret => exact mono _ _ _ _ hq
  | panic ch => exact mono _ _ _ _ hq
  | exit id => exact hq
  | goto l => exact hq
  | outgrown => exact absurd hq.1 (by simp)
end

theorem satW_box {G : Ent} {w : World} {L : List Chunk} {D : List Fact} {id ad ty : Nat} {cs : List C} (hs : SatW G w L D) (hm : .box id ad ty cs ∈ L) : w.heap[ad]? = some (.cells (cs.map C.enc).toArray ty (0, 0)) := by
  obtain ⟨m, h1, _⟩ := hs
  exact (allOk_mem h1.ok hm).2

/-- One cell of a box is set. -/
theorem satW_setBox {G : Ent} {w : World} {B : List Chunk} {D : List Fact} {id ad ty : Nat} {cs : List C} (o : Nat) (x : C) (hx : x.one = true) (hs : SatW G w (.box id ad ty cs :: B) D) :
    SatW G (w.setCell ⟨ad, o, none⟩ x.enc) (.box id ad ty (cs.set o x) :: B) D := by
  have hb := satW_box hs (List.Mem.head _)
  have hone : oneAll cs := by
    obtain ⟨m, h1, _⟩ := hs
    exact h1.ok.1.1
  rw [setCell_blk hb]
  refine satW_replace (A := []) hs rfl rfl ⟨fun y hy => ?_, ?_⟩ (fun off => by rw [hb]; rfl)
  · rcases List.mem_or_eq_of_mem_set hy with h | h
    · exact hone y h
    · rw [h]; exact hx
  · rw [setBlk_same hb]
    simp [List.map_set]

/-- A box becomes memory that does not change any more. -/
theorem Ents.boxFact {id ad ty : Nat} {cs : List C} {L : List Chunk} {D : List Fact} (e z n : Nat) (hl : cs.length = n * z) : Ents (.box id ad ty cs :: L) D L (slFact e z (some ⟨ad, 0, none⟩) n cs :: D) := fun G w hs => by
  obtain ⟨m, h1, h2⟩ := hs
  have hbox := h1.ok.1
  have hg := hbox.2
  have hnd := h1.nd
  simp only [fps, Chunk.fp, List.cons_append, List.nil_append, List.nodup_cons] at hnd
  have hgm : ∀ o, m ad ≠ some o := fun o ho => (h1.im ad o ho).2 (by simp [fps, Chunk.fp])
  refine ⟨fun b => if b = ad then some (.cells (cs.map C.enc).toArray ty (0, 0)) else m b, ⟨hnd.2, h1.ok.2, ?_, ?_⟩, ?_⟩
  · intro b o hb
    by_cases hbg : b = ad
    · subst hbg
      simp only [if_true, Option.some.injEq] at hb
      exact ⟨by rw [hg, hb], hnd.1⟩
    · simp only [if_neg hbg] at hb
      have h3 := h1.im b o hb
      exact ⟨h3.1, fun hc => h3.2 (by simp [fps, hc])⟩
  · refine ⟨⟨hbox.1, .inr ⟨ad, 0, (cs.map C.enc).toArray, ty, 0, 0, rfl, by simp, hl, ?_⟩⟩, allD_mono (fun b o hb => ?_) h1.d⟩
    · rw [← hl]
      simp only [List.drop_zero]
      exact List.take_of_length_le (by simp)
    · by_cases hbg : b = ad
      · subst hbg; exact absurd hb (hgm o)
      · simpa [hbg] using hb
  · refine ⟨h2.size, h2.same, fun b hb => h2.own b (by simp [fps, hb]), fun b o hb => ?_, fun b o hb => ?_, h2.kept⟩
    · have h3 := h2.im b o hb
      by_cases hbg : b = ad
      · subst hbg; exact absurd h3 (hgm o)
      · simpa [hbg] using h3
    · by_cases hbg : b = ad
      · subst hbg
        rcases h2.own b (by simp [fps, Chunk.fp]) with h3 | h3
        · exact .inr (.inl h3)
        · exact .inr (.inr h3)
      · simp only [if_neg hbg] at hb
        exact h2.new b o hb

/-- The same cells, cut into elements of another size. -/
theorem slF_re {m : Im} {e z e' z' n n' : Nat} {a : Option Addr} {cs : List C} (h : SlF m e z a n cs) (hn : n ≠ 0) (hz : n * z = n' * z') : SlF m e' z' a n' cs := by
  refine ⟨h.1, ?_⟩
  rcases h.2 with ⟨h0, _⟩ | ⟨g, off, cur, ty, lo, hi, h1, h2, h3, h4⟩
  · exact absurd h0 hn
  · exact .inr ⟨g, off, cur, ty, lo, hi, h1, h2, by rw [h3, hz], by rw [← hz]; exact h4⟩

end Go.X
