/- This text proves the rules by which a function's contract follows from the symbolic execution of its body. -/
import Derived.Test.YtdnkeinjfddmnaaGreatDoorCore
import Derived.Deep.LoopGhost
set_option linter.all false

namespace Go.X
open Go
variable [Sm : Inhabited Manner]

section
variable [Df : Inhabited (List Deferred)]

abbrev Kont := Env → List Chunk → List Fact → Nat → Prop
abbrev Kt := Exit → Env → List Chunk → List Fact → Nat → Prop

def Sat (G : Ent) (N : Nat) (env : Env) (L : List Chunk) (D : List Fact) (a : Act) (w : World) : Prop := EnvOK N env a ∧ SatW G w L D

def PostK (G : Ent) (N : Nat) (K : Kt) (e : Exit) (a : Act) (w : World) : Prop := ∃ env L D n, K e env L D n ∧ EnvOK N env a ∧ SatW G w L D

/-- The judgement: from every frame and world that fit, the code comes to an end that fits. -/
structure J (P : Program) (G : Ent) (N : Nat) (c : Code) (env : Env) (L : List Chunk) (D : List Fact) (nid : Nat) (K : Kt) : Prop where
  run : ∀ a w, EnvOK N env a → SatW G w L D → c.wp P (PostK G N K) a w

section
variable {P : Program} {G : Ent} {N : Nat} {env : Env} {L : List Chunk} {D : List Fact} {nid : Nat} {K : Kt}

def Kt.seq (P : Program) (G : Ent) (N : Nat) (y : Code) (K : Kt) : Kt := fun e env L D n =>
  match e with
  | .normal => J P G N y env L D n K
  | e => K e env L D n

theorem J_seq {x y : Code} (h : J P G N x env L D nid (Kt.seq P G N y K)) : J P G N (.seq x y) env L D nid K :=
  ⟨fun a w he hs => wp_seq (wp_mono (h.run a w he hs) fun e a' w' hq => by
    obtain ⟨env', L', D', n', hk, he', hs'⟩ := hq
    cases e with
    | normal => exact hk.run a' w' he' hs'
    | exit id => exact ⟨env', L', D', n', hk, he', hs'⟩
    | goto l => exact ⟨env', L', D', n', hk, he', hs'⟩
    | ret => exact ⟨env', L', D', n', hk, he', hs'⟩
    | panic ch => exact ⟨env', L', D', n', hk, he', hs'⟩
    | outgrown => exact ⟨env', L', D', n', hk, he', hs'⟩)⟩

def Kt.block (id : Nat) (K : Kt) : Kt := fun e env L D n =>
  match e with
  | .exit i => match Nat.beq i id with
    | true => K .normal env L D n
    | false => K (.exit i) env L D n
  | e => K e env L D n

theorem J_block {id : Nat} {c : Code} (h : J P G N c env L D nid (Kt.block id K)) : J P G N (.block id c) env L D nid K :=
  ⟨fun a w he hs => wp_block (wp_mono (h.run a w he hs) fun e a' w' hq => by
    obtain ⟨env', L', D', n', hk, he', hs'⟩ := hq
    cases e with
    | exit i =>
      simp only [Exit.inBlock]
      simp only [Kt.block] at hk
      cases hb : Nat.beq i id with
      | true =>
        rw [hb] at hk
        rw [if_pos (Nat.eq_of_beq_eq_true hb)]
        exact ⟨env', L', D', n', hk, he', hs'⟩
      | false =>
        rw [hb] at hk
        rw [if_neg (fun hc => by subst hc; rw [Nat.beq_refl] at hb; cases hb)]
        exact ⟨env', L', D', n', hk, he', hs'⟩
    | normal => exact ⟨env', L', D', n', hk, he', hs'⟩
    | goto l => exact ⟨env', L', D', n', hk, he', hs'⟩
    | ret => exact ⟨env', L', D', n', hk, he', hs'⟩
    | panic ch => exact ⟨env', L', D', n', hk, he', hs'⟩
    | outgrown => exact ⟨env', L', D', n', hk, he', hs'⟩)⟩

/-- A scope whose labels no jump reaches. -/
def Kt.noGoto (K : Kt) : Kt := fun e env L D n =>
  match e with
  | .goto _ => False
  | e => K e env L D n

theorem J_scope {c : Code} (h : J P G N c env L D nid (Kt.noGoto K)) : J P G N (.scope c) env L D nid K :=
  ⟨fun a w he hs => wp_scope_straight (wp_mono (h.run a w he hs) fun e a' w' hq => by
    obtain ⟨env', L', D', n', hk, he', hs'⟩ := hq
    cases e with
    | goto l => exact hk
    | normal => exact ⟨env', L', D', n', hk, he', hs'⟩
    | exit i => exact ⟨env', L', D', n', hk, he', hs'⟩
    | ret => exact ⟨env', L', D', n', hk, he', hs'⟩
    | panic ch => exact ⟨env', L', D', n', hk, he', hs'⟩
    | outgrown => exact ⟨env', L', D', n', hk, he', hs'⟩)⟩

theorem J_skip (h : K .normal env L D nid) : J P G N .skip env L D nid K := ⟨fun a w he hs => wp_skip ⟨env, L, D, nid, h, he, hs⟩⟩
theorem J_ret (h : K .ret env L D nid) : J P G N .ret env L D nid K := ⟨fun a w he hs => wp_ret ⟨env, L, D, nid, h, he, hs⟩⟩
theorem J_exit {id : Nat} (h : K (.exit id) env L D nid) : J P G N (.exit id) env L D nid K := ⟨fun a w he hs => wp_exit ⟨env, L, D, nid, h, he, hs⟩⟩

def condK (P : Program) (G : Ent) (N : Nat) (x y : Code) (env : Env) (L : List Chunk) (D : List Fact) (nid : Nat) (K : Kt) (v : V) : Prop :=
  match v with
  | .c (.b true) => J P G N x env L D nid K
  | .c (.b false) => J P G N y env L D nid K
  | _ => False

theorem J_cond {c : Operand} {x y : Code} (h : withE env c (condK P G N x y env L D nid K)) : J P G N (.cond c x y) env L D nid K :=
  ⟨fun a w he hs => by
    obtain ⟨v, hv, h⟩ := withE_elim h
    unfold condK at h
    split at h
    · exact wp_cond_true (by rw [he.ev hv]; rfl) (h.run a w he hs)
    · exact wp_cond_false (by rw [he.ev hv]; rfl) (h.run a w he hs)
    · exact h.elim⟩

/-! ### Regions -/

def putK (N : Nat) (dst : Option Tmp) (v : V) (env : Env) (k : Env → Prop) : Prop :=
  match dst with
  | some d => match Nat.ble (d + 1) N with
    | true => k ((d, v) :: env)
    | false => False
  | none => k env

theorem putK_sound {dst : Option Tmp} {v : V} {k : Env → Prop} (h : putK N dst v env k) {a : Act} (he : EnvOK N env a) : ∃ env', k env' ∧ EnvOK N env' (a.put dst v.enc) := by
  unfold putK at h
  split at h
  · rename_i d
    split at h
    · rename_i hle
      have hd : d < N := Nat.le_of_ble_eq_true hle
      refine ⟨_, h, ?_, ?_, ?_⟩
      · exact he.1
      · simp [Act.put, he.2.1]
      · intro j u hj
        simp only [Act.put]
        by_cases hjd : d = j
        · subst hjd
          rw [look_cons_same] at hj
          simp only [Option.some.injEq] at hj
          subst hj
          simp [he.2.1, hd]
        · rw [look_cons_ne _ _ hjd] at hj
          rw [Array.getElem?_setIfInBounds_ne hjd]
          exact he.2.2 j u hj
    · exact h.elim
  · exact ⟨env, h, he⟩

/-- What a guard says: some b, or nothing known. -/
def guardV (ops : List Oper) (env : Env) (g : Nat) : Option Bool :=
  match ops[g]? with
  | some o =>
    match o.dst with
    | some d =>
      match look env d with
      | some (.c (.b b)) => some b
      | _ => none
    | none => none
  | none => none

/-- The guard's operation was itself passed over. -/
def guardU (ops : List Oper) (env : Env) (g : Nat) : Bool :=
  match ops[g]? with
  | some o =>
    match o.dst with
    | some d =>
      match look env d with
      | some .t0 => true
      | _ => false
    | none => false
  | none => false

def wantK (ops : List Oper) (env : Env) (gd : Option (Nat × Bool)) (yes no : Prop) : Prop :=
  match gd with
  | none => yes
  | some (g, want) =>
    match guardV ops env g with
    | some true => match want with
      | true => yes
      | false => no
    | some false => match want with
      | true => no
      | false => yes
    | none => match guardU ops env g with
      | true => no
      | false => False

theorem wantK_sound {ops : List Oper} {o : Oper} {yes no : Prop} {a : Act} (he : EnvOK N env a) (h : wantK ops env o.guard yes no) :
    (Region.wanted o (yielded ops.toArray a.tmps) = true ∧ yes) ∨ (Region.wanted o (yielded ops.toArray a.tmps) = false ∧ no) := by
  unfold wantK at h
  split at h
  · rename_i hg
    exact .inl ⟨by simp [Region.wanted, hg], h⟩
  · rename_i g want hg
    have hy : ∀ b, guardV ops env g = some b → yielded ops.toArray a.tmps g = some b := by
      intro b hb
      unfold guardV at hb
      split at hb
      · rename_i o' ho'
        split at hb
        · rename_i d hd
          split at hb
          · rename_i b' hl
            simp only [Option.some.injEq] at hb
            subst hb
            have := he.2.2 _ _ hl
            simp [yielded, ho', hd, this, V.enc, C.enc]
          · cases hb
        · cases hb
      · cases hb
    have hu : guardU ops env g = true → yielded ops.toArray a.tmps g = none := by
      intro hb
      unfold guardU at hb
      split at hb
      · rename_i o' ho'
        split at hb
        · rename_i d hd
          split at hb
          · rename_i hl
            have := he.2.2 _ _ hl
            simp [yielded, ho', hd, this, V.enc]
          · cases hb
        · cases hb
      · cases hb
    split at h
    · rename_i hb
      have := hy _ hb
      cases want
      · exact .inr ⟨by simp [Region.wanted, hg, this], h⟩
      · exact .inl ⟨by simp [Region.wanted, hg, this], h⟩
    · rename_i hb
      have := hy _ hb
      cases want
      · exact .inl ⟨by simp [Region.wanted, hg, this], h⟩
      · exact .inr ⟨by simp [Region.wanted, hg, this], h⟩
    · split at h
      · rename_i hb
        have := hu hb
        exact .inr ⟨by simp [Region.wanted, hg, this], h⟩
      · exact h.elim

def vcOps (P : Program) (T : Ty) (N : Nat) (ops : List Oper) : List Oper → Env → List Chunk → List Fact → Nat → Kont → Prop
  | [], env, L, D, nid, k => k env L D nid
  | o :: rest, env, L, D, nid, k =>
    wantK ops env o.guard
      (vcOp P T o.op env L D nid fun v L' D' n' => putK N o.dst v env fun env' => vcOps P T N ops rest env' L' D' n' k)
      (putK N o.dst .t0 env fun env' => vcOps P T N ops rest env' L D nid k)

theorem vcOps_sound {T : Ty} (hT : TyOK P T) (ops : List Oper) : ∀ (l : List Oper) (env : Env) (L : List Chunk) (D : List Fact) (nid : Nat) (k : Kont), vcOps P T N ops l env L D nid k →
    ∀ (Q : Exit → Act → World → Prop), (∀ env' L' D' n' a' w', k env' L' D' n' → EnvOK N env' a' → SatW G w' L' D' → Q .normal a' w') →
    ∀ a w, EnvOK N env a → SatW G w L D → wpList P ops.toArray Q l a w
  | [], env, L, D, nid, k, h, Q, hQ, a, w, he, hs => hQ _ _ _ _ _ _ h he hs
  | o :: rest, env, L, D, nid, k, h, Q, hQ, a, w, he, hs => by
    refine wpList_step fun Kn hKn => ?_
    simp only [vcOps] at h
    rcases wantK_sound he h with ⟨hw, h⟩ | ⟨hw, h⟩
    · rw [if_pos hw]
      refine (vcOp_sound hT h he hs).wp ?_
      rintro u w' ⟨v, L', D', n', rfl, hk, hs'⟩
      refine hKn _ _ ?_
      obtain ⟨env', hk', he'⟩ := putK_sound hk he
      exact vcOps_sound hT ops rest env' L' D' n' k hk' Q hQ _ _ he' hs'
    · rw [if_neg (by simp [hw])]
      refine hKn _ _ ?_
      obtain ⟨env', hk', he'⟩ := putK_sound h he
      exact vcOps_sound hT ops rest env' L D nid k hk' Q hQ _ _ he' hs

theorem J_region {T : Ty} (hT : TyOK P T) {id : Nat} {ops : List Oper} (h : vcOps P T N ops ops env L D nid (K .normal)) : J P G N (.region id ops.toArray false) env L D nid K :=
  ⟨fun a w he hs => wp_region_lit (vcOps_sound hT ops ops env L D nid _ h _ (fun env' L' D' n' a' w' hk he' hs' => ⟨env', L', D', n', hk, he', hs'⟩) a w he hs)⟩

/-! ### Entailment -/

theorem Ents.refl (L : List Chunk) (D : List Fact) : Ents L D L D := fun _ _ h => h
theorem Ents.of {L L' : List Chunk} {D : List Fact} (h : L = L') : Ents L D L' D := h ▸ Ents.refl L D
theorem Ents.trans {L L1 L2 : List Chunk} {D D1 D2 : List Fact} (h : Ents L D L1 D1) (h' : Ents L1 D1 L2 D2) : Ents L D L2 D2 := fun G w hs => h' G w (h G w hs)
theorem Ents.perm {L L' : List Chunk} {D : List Fact} (h : L.Perm L') : Ents L D L' D := fun _ _ hs => satW_perm h hs

theorem Ents.drop {c : Chunk} {L : List Chunk} {D : List Fact} : Ents (c :: L) D L D := fun G w hs => by
  obtain ⟨m, h1, h2⟩ := hs
  refine ⟨m, ⟨?_, h1.ok.2, fun b o hb => ?_, h1.d⟩, ⟨h2.size, h2.same, fun b hb => h2.own b (by simp [fps, hb]), h2.im, h2.new, h2.kept⟩⟩
  · have := h1.nd
    simp only [fps] at this
    exact (List.nodup_append.1 this).2.1
  · have h3 := h1.im b o hb
    exact ⟨h3.1, fun hc => h3.2 (by simp [fps, hc])⟩

theorem Ents.cons {c : Chunk} {L L' : List Chunk} {D : List Fact} (h : ∀ G w, SatW G w (L ++ [c]) D → SatW G w (L' ++ [c]) D) : Ents (c :: L) D (c :: L') D := fun G w hs =>
  satW_perm (List.perm_append_comm (l₁ := L') (l₂ := [c])) (h G w (satW_perm (List.perm_append_comm (l₁ := [c]) (l₂ := L)) hs))

/-- Only some chunks are kept. -/
theorem Ents.sub {L L' : List Chunk} {D : List Fact} (h : ∃ R, L.Perm (R ++ L')) : Ents L D L' D := by
  obtain ⟨R, h⟩ := h
  refine (Ents.perm h).trans ?_
  clear h
  induction R with
  | nil => exact Ents.refl _ _
  | cons c R ih => exact Ents.drop.trans ih

/-- All chunks are dropped. -/
theorem Ents.dropAll {L : List Chunk} {D : List Fact} : Ents L D [] D := Ents.sub ⟨L, by simp⟩

theorem Ents.facts {L : List Chunk} {D D' : List Fact} (h : ∀ m, allD m D → allD m D') : Ents L D L D' := fun _ _ ⟨m, h1, h2⟩ => ⟨m, ⟨h1.nd, h1.ok, h1.im, h m h1.d⟩, h2⟩

/-- The nil slice owns no memory. -/
theorem Ents.nilRow {ety esz : Nat} {L : List Chunk} {D : List Fact} : Ents L D (.row ety esz none 0 0 [] :: L) D := fun _ _ ⟨m, h1, h2⟩ =>
  ⟨m, ⟨by simpa [fps, Chunk.fp] using h1.nd, ⟨⟨(fun x hx => by cases hx), .inl ⟨rfl, rfl, rfl, rfl⟩⟩, h1.ok⟩, fun b o hb => by simpa [fps, Chunk.fp] using h1.im b o hb, h1.d⟩,
    ⟨h2.size, h2.same, fun b hb => h2.own b (by simpa [fps, Chunk.fp] using hb), h2.im, h2.new, h2.kept⟩⟩

/-- A row of the call's own becomes memory that does not change any more. -/
theorem Ents.toFact {ety esz : Nat} {a : Option Addr} {n c : Nat} {cs : List C} {L : List Chunk} {D : List Fact} : Ents (.row ety esz a n c cs :: L) D L (slFact ety esz a n cs :: D) := fun G w hs => by
  have hs0 := Ents.drop G w hs
  obtain ⟨m, h1, h2⟩ := hs
  have hrow := h1.ok.1
  rcases hrow.2 with ⟨ha, hn, hc, hcs⟩ | ⟨g, ha, cur, lo, hi, hg, _, _, _, _, hcl, htk⟩
  · obtain ⟨m', h3, h4⟩ := hs0
    exact ⟨m', ⟨h3.nd, h3.ok, h3.im, ⟨⟨hrow.1, .inl ⟨hn, hcs⟩⟩, h3.d⟩⟩, h4⟩
  · subst ha
    have hnd := h1.nd
    simp only [fps, Chunk.fp, Option.map_some, Option.toList_some, List.cons_append, List.nil_append, List.nodup_cons] at hnd
    have hgm : ∀ o, m g ≠ some o := fun o ho => (h1.im g o ho).2 (by simp [fps, Chunk.fp])
    refine ⟨fun b => if b = g then some (.cells cur ety (lo, hi)) else m b, ⟨hnd.2, h1.ok.2, ?_, ?_⟩, ?_⟩
    · intro b o hb
      by_cases hbg : b = g
      · subst hbg
        simp only [if_true, Option.some.injEq] at hb
        exact ⟨by rw [hg, hb], hnd.1⟩
      · simp only [if_neg hbg] at hb
        have h3 := h1.im b o hb
        exact ⟨h3.1, fun hc => h3.2 (by simp [fps, hc])⟩
    · refine ⟨⟨hrow.1, .inr ⟨g, 0, cur, ety, lo, hi, rfl, by simp, hcl, by simpa using htk⟩⟩, allD_mono (fun b o hb => ?_) h1.d⟩
      by_cases hbg : b = g
      · subst hbg; exact absurd hb (hgm o)
      · simpa [hbg] using hb
    · refine ⟨h2.size, h2.same, fun b hb => h2.own b (by simp [fps, hb]), fun b o hb => ?_, fun b o hb => ?_, h2.kept⟩
      · have h3 := h2.im b o hb
        by_cases hbg : b = g
        · subst hbg; exact absurd h3 (hgm o)
        · simpa [hbg] using h3
      · by_cases hbg : b = g
        · subst hbg
          rcases h2.own b (by simp [fps, Chunk.fp]) with h3 | h3
          · exact .inr (.inl h3)
          · exact .inr (.inr h3)
        · simp only [if_neg hbg] at hb
          exact h2.new b o hb

def CEq : C → C → Prop
  | .b x, .b y => x = y
  | .i k x, .i k' y => k = k' ∧ x = y
  | .s x, .s y => x = y
  | .sl a n c, .sl a' n' c' => a = a' ∧ n = n' ∧ c = c'
  | .p i a o, .p i' a' o' => i = i' ∧ a = a' ∧ o = o'
  | x, y => x = y

theorem CEq.eq {x y : C} (h : CEq x y) : x = y := by
  unfold CEq at h
  split at h
  · rw [h]
  · rw [h.1, h.2]
  · rw [h]
  · rw [h.1, h.2.1, h.2.2]
  · rw [h.1, h.2.1, h.2.2]
  · exact h

def VEq : V → V → Prop
  | .c x, .c y => CEq x y
  | x, y => x = y

theorem VEq.eq {x y : V} (h : VEq x y) : x = y := by
  unfold VEq at h
  split at h
  · rw [h.eq]
  · exact h

def SubE (env : Env) : Env → Prop
  | [] => True
  | (d, v) :: r => (match look env d with | some v' => VEq v' v | none => False) ∧ SubE env r

theorem SubE.nil {env : Env} : SubE env [] := trivial
theorem SubE.cons {env : Env} {d : Nat} {v v' : V} {r : Env} (h : look env d = some v') (hv : VEq v' v) (hr : SubE env r) : SubE env ((d, v) :: r) := by
  refine ⟨?_, hr⟩
  rw [h]
  exact hv
theorem VEq.refl (v : V) : VEq v v := by
  cases v with
  | c x => cases x <;> simp [VEq, CEq]
  | _ => rfl
theorem VEq.of {v v' : V} (h : v = v') : VEq v v' := h ▸ VEq.refl v
theorem VEq.int {k : IntKind} {n m : Int} (h : n = m) : VEq (.c (.i k n)) (.c (.i k m)) := VEq.of (by rw [h])
theorem VEq.str {l m : List UInt8} (h : l = m) : VEq (.c (.s l)) (.c (.s m)) := VEq.of (by rw [h])
theorem VEq.sl {a a' : Option Addr} {n n' c c' : Nat} (h : a = a') (h1 : n = n') (h2 : c = c') : VEq (.c (.sl a n c)) (.c (.sl a' n' c')) := VEq.of (by rw [h, h1, h2])
theorem VEq.agg {l m : List C} (h : l = m) : VEq (.agg l) (.agg m) := VEq.of (by rw [h])

theorem SubE.look {env : Env} : ∀ {env' : Env}, SubE env env' → ∀ d v, look env' d = some v → look env d = some v
  | (d', v') :: r, h, d, v, hl => by
    obtain ⟨h1, h2⟩ := h
    by_cases hd : d' = d
    · subst hd
      rw [look_cons_same] at hl
      simp only [Option.some.injEq] at hl
      subst hl
      split at h1
      · rename_i u hu
        rw [hu, h1.eq]
      · exact h1.elim
    · rw [look_cons_ne _ _ hd] at hl
      exact SubE.look h2 d v hl
  | [], _, d, v, hl => by simp [X.look] at hl

theorem SubE.ok {env env' : Env} (h : SubE env env') {a : Act} (he : EnvOK N env a) : EnvOK N env' a := ⟨he.1, he.2.1, fun d v hl => he.2.2 d v (h.look d v hl)⟩

theorem J_ent {c : Code} {env' : Env} {L' : List Chunk} {D' : List Fact} {n' : Nat} (he : SubE env env') (hE : Ents L D L' D') (h : J P G N c env' L' D' n' K) : J P G N c env L D nid K :=
  ⟨fun a w he' hs => h.run a w (he.ok he') (hE G w hs)⟩

/-- Only the memory is seen anew. -/
theorem J_mem {c : Code} {L' : List Chunk} {D' : List Fact} {n' : Nat} (hE : Ents L D L' D') (h : J P G N c env L' D' n' K) : J P G N c env L D nid K :=
  ⟨fun a w he' hs => h.run a w he' (hE G w hs)⟩

/-! ### Loops and cuts -/

/-- The state is one of a family. -/
inductive InFam {α : Type} (E : α → Env) (LL : α → List Chunk) (DD : α → List Fact) (φ : α → Prop) (env : Env) (L : List Chunk) (D : List Fact) : Prop where
  | mk (x : α) (hφ : φ x) (he : SubE env (E x)) (hE : Ents L D (LL x) (DD x))

inductive Round {α : Type} (E : α → Env) (LL : α → List Chunk) (DD : α → List Fact) (φ : α → Prop) (μ : α → Nat) (x : α) (env : Env) (L : List Chunk) (D : List Fact) : Prop where
  | mk (y : α) (hμ : μ y < μ x) (hφ : φ y) (he : SubE env (E y)) (hE : Ents L D (LL y) (DD y))

def Kt.loop {α : Type} (E : α → Env) (LL : α → List Chunk) (DD : α → List Fact) (φ : α → Prop) (μ : α → Nat) (x : α) (K : Kt) : Kt := fun e env L D n =>
  match e with
  | .normal => Round E LL DD φ μ x env L D
  | e => K e env L D n

theorem J_loop {body : Code} {α : Type} (E : α → Env) (LL : α → List Chunk) (DD : α → List Fact) (n : Nat) (φ : α → Prop) (μ : α → Nat) (h0 : InFam E LL DD φ env L D)
    (hr : ∀ x, φ x → J P G N body (E x) (LL x) (DD x) n (Kt.loop E LL DD φ μ x K)) : J P G N (.loop body) env L D nid K :=
  ⟨fun a w he hs => by
    obtain ⟨x0, hφ, he0, hE0⟩ := h0
    refine wp_loop_ghost (fun k a w => ∃ x, φ x ∧ μ x = k ∧ EnvOK N (E x) a ∧ SatW G w (LL x) (DD x)) (μ x0) ⟨x0, hφ, rfl, he0.ok he, hE0 G w hs⟩ ?_
    rintro k a w ⟨x, hx, rfl, he, hs⟩
    refine wp_mono ((hr x hx).run a w he hs) ?_
    rintro e a' w' ⟨env', L', D', n', hk, he', hs'⟩
    cases e with
    | normal =>
      obtain ⟨y, hμ, hφ', hey, hEy⟩ := hk
      exact ⟨μ y, hμ, y, hφ', rfl, hey.ok he', hEy G w' hs'⟩
    | exit id => exact ⟨env', L', D', n', hk, he', hs'⟩
    | goto l => exact ⟨env', L', D', n', hk, he', hs'⟩
    | ret => exact ⟨env', L', D', n', hk, he', hs'⟩
    | panic ch => exact ⟨env', L', D', n', hk, he', hs'⟩
    | outgrown => exact ⟨env', L', D', n', hk, he', hs'⟩⟩

def Kt.cut {α : Type} (E : α → Env) (LL : α → List Chunk) (DD : α → List Fact) (φ : α → Prop) (K : Kt) : Kt := fun e env L D n =>
  match e with
  | .normal => InFam E LL DD φ env L D
  | e => K e env L D n

/-- Where ways meet again: what follows is walked once. -/
theorem J_cut {x y : Code} {α : Type} (E : α → Env) (LL : α → List Chunk) (DD : α → List Fact) (n : Nat) (φ : α → Prop) (h : J P G N x env L D nid (Kt.cut E LL DD φ K))
    (hy : ∀ z, φ z → J P G N y (E z) (LL z) (DD z) n K) : J P G N (.seq x y) env L D nid K :=
  J_seq ⟨fun a w he hs => wp_mono (h.run a w he hs) (by
    rintro e a' w' ⟨env', L', D', n', hk, he', hs'⟩
    cases e with
    | normal =>
      obtain ⟨z, hφ, hez, hEz⟩ := hk
      exact ⟨_, _, _, n, hy z hφ, hez.ok he', hEz G w' hs'⟩
    | exit id => exact ⟨env', L', D', n', hk, he', hs'⟩
    | goto l => exact ⟨env', L', D', n', hk, he', hs'⟩
    | ret => exact ⟨env', L', D', n', hk, he', hs'⟩
    | panic ch => exact ⟨env', L', D', n', hk, he', hs'⟩
    | outgrown => exact ⟨env', L', D', n', hk, he', hs'⟩)⟩

/-! ### Results -/

def resK (T : Ty) (env : Env) (L : List Chunk) (D : List Fact) : List ResultVar → (List V → Prop) → Prop
  | [], k => k []
  | .tmp t :: r, k => match look env t with
    | some v => resK T env L D r fun l => k (v :: l)
    | none => False
  | .cell a ty :: r, k => match look env a with
    | some (.c (.p id ad off)) => vcLoad T ty (.c (.p id ad off)) L D fun v => resK T env L D r fun l => k (v :: l)
    | _ => False

def tupK (l : List V) (k : V → Prop) : Prop :=
  match l with
  | [] => k .t0
  | [x] => k x
  | [x, y] => k (.t2 x y)
  | [x, y, z] => k (.t3 x y z)
  | [x, y, z, u] => k (.t4 x y z u)
  | _ => False

inductive FinE (post : V → List Chunk → List Fact → Prop) (L : List Chunk) (D : List Fact) (v : V) : Prop where
  | mk (L' : List Chunk) (D' : List Fact) (h : post v L' D') (hE : Ents L D L' D')

def Kt.fin (T : Ty) (rs : List ResultVar) (post : V → List Chunk → List Fact → Prop) : Kt := fun e env L D _ =>
  match e with
  | .ret => resK T env L D rs fun l => tupK l (FinE post L D)
  | .normal => resK T env L D rs fun l => tupK l (FinE post L D)
  | _ => False

def resF (a : Act) : ResultVar → Sem Value
  | .tmp t => pure (a.tmps.getD t undef)
  | .cell x t => do loadVar t (← asAddr (a.tmps.getD x undef))

theorem resK_sound {T : Ty} (hT : TyOK P T) {a : Act} {w : World} (he : EnvOK N env a) (hs : SatW G w L D) : ∀ {rs : List ResultVar} {k : List V → Prop}, resK T env L D rs k →
    ∃ l, k l ∧ (rs.mapM (resF a)).run P w = .ok (l.map V.enc) w
  | [], k, h => ⟨[], h, by simp⟩
  | .tmp t :: r, k, h => by
    simp only [resK] at h
    split at h
    · rename_i v hv
      obtain ⟨l, hk, hr⟩ := resK_sound hT he hs h
      refine ⟨_, hk, ?_⟩
      have := he.2.2 _ _ hv
      simp [List.mapM_cons, resF, this, hr]
    · exact h.elim
  | .cell x ty :: r, k, h => by
    simp only [resK] at h
    split at h
    · rename_i id ad off hv
      obtain ⟨v, h, hl⟩ := vcLoad_sound hT h hs
      obtain ⟨l, hk, hr⟩ := resK_sound hT he hs h
      refine ⟨_, hk, ?_⟩
      have := he.2.2 _ _ hv
      simp only [Instr.loadAt, V.enc, C.enc, Instr.sureAddr, Sem.run_bind, Sem.run_pure, Result.andThen_ok] at hl
      simp [List.mapM_cons, resF, this, V.enc, C.enc, asAddr, hl, hr]
    · exact h.elim

theorem tupK_sound {l : List V} {k : V → Prop} (h : tupK l k) : ∃ v, k v ∧ (if h : (l.map V.enc).toArray.size = 1 then (l.map V.enc).toArray[0] else .tuple (l.map V.enc).toArray) = v.enc := by
  unfold tupK at h
  split at h <;> first | exact ⟨_, h, rfl⟩ | exact h.elim

theorem results_run {T : Ty} (hT : TyOK P T) {fn : Func} {a : Act} {w : World} (he : EnvOK N env a) (hs : SatW G w L D) {k : V → Prop} (h : resK T env L D fn.results.toList fun l => tupK l k) :
    ∃ v, k v ∧ (results fn a.tmps).run P w = .ok v.enc w := by
  obtain ⟨l, h, hr⟩ := resK_sound hT he hs h
  obtain ⟨v, hk, hv⟩ := tupK_sound h
  refine ⟨v, hk, ?_⟩
  have e : results fn a.tmps = (do
      let vs ← fn.results.mapM (resF a)
      pure (if h : vs.size = 1 then vs[0] else .tuple vs)) := by
    unfold results
    congr 1
  rw [e]
  simp only [Sem.run_bind, Array.mapM_eq_mapM_toList, Sem.run_map]
  rw [hr]
  simp only [Result.andThen_ok, Sem.run_pure]
  rw [hv]

end

def argEnv : Nat → List V → Env
  | _, [] => []
  | i, v :: r => (i, v) :: argEnv (i + 1) r

theorem look_argEnv : ∀ (l : List V) (i j : Nat) (v : V), look (argEnv i l) j = some v → i ≤ j ∧ l[j - i]? = some v
  | [], i, j, v, h => by simp [argEnv, look] at h
  | x :: r, i, j, v, h => by
    simp only [argEnv] at h
    by_cases hij : i = j
    · subst hij
      rw [look_cons_same] at h
      simpa using h
    · rw [look_cons_ne _ _ hij] at h
      obtain ⟨h1, h2⟩ := look_argEnv r (i + 1) j v h
      refine ⟨by omega, ?_⟩
      rw [show j - i = (j - (i + 1)) + 1 by omega]
      simpa using h2

end

/-- A FUNCTION's CONTRACT OUT OF ITS BODY. -/
theorem fn_of_J {P : Program} {T : Ty} (hT : TyOK P T) {f : FuncId} {fn : Func} {c : Code} {args : List V} {L : List Chunk} {D : List Fact} {post : V → List Chunk → List Fact → Prop} {N : Nat} {rs : List ResultVar} (nid : Nat)
    (hf : P.funcs[f]? = some fn) (hnm : (fn.name == "runtime.NumGoroutine") = false) (hb : fn.body = some c) (hN : fn.ntmps = N) (hr : fn.results.toList = rs) (hlen : args.length ≤ N)
    (h : ∀ G, J P G N c (argEnv 0 args) L D nid (Kt.fin T rs post)) : FnS P f args L D post := by
  refine ⟨⟨fn, hf, hnm, by simp [hb]⟩, fun w m hh => ?_⟩
  refine calls_of_wp hf hb ?_
  have he : EnvOK N (argEnv 0 args) { tmps := (args.map V.enc).toArray ++ Array.replicate (fn.ntmps - (args.map V.enc).toArray.size) undef, defers := [] } := by
    refine ⟨rfl, by simp; omega, fun d v hl => ?_⟩
    obtain ⟨_, h2⟩ := look_argEnv _ _ _ _ hl
    simp only [Nat.sub_zero] at h2
    have hlt : d < args.length := (List.getElem?_eq_some_iff.1 h2).1
    rw [Array.getElem?_append_left (by simpa using hlt)]
    simp [h2]
  have hs : SatW ⟨w, L, m⟩ w L D := ⟨m, hh, Fr.refl _ _ _⟩
  refine wp_mono ((h ⟨w, L, m⟩).run _ _ he hs) ?_
  rintro e a' w' ⟨env', L', D', n', hk, he', hs'⟩
  subst hr
  have fin : (resK T env' L' D' fn.results.toList fun l => tupK l (FinE post L' D')) → a'.defers = [] ∧ ∃ v, (results fn a'.tmps).run P w' = .ok v w' ∧
      ∃ v' L' D' m', Ending.returned v = .returned v'.enc ∧ post v' L' D' ∧ Holds w' m' L' D' ∧ Fr w L m w' L' m' := fun hk => by
    obtain ⟨v, ⟨L2, D2, hp, hE⟩, hv⟩ := results_run (fn := fn) hT he' hs' hk
    obtain ⟨m2, h1, h2⟩ := hE ⟨w, L, m⟩ w' hs'
    exact ⟨he'.1, v.enc, hv, v, L2, D2, m2, rfl, hp, h1, h2⟩
  cases e with
  | normal => exact fin hk
  | ret => exact fin hk
  | exit id => exact hk.elim
  | goto l => exact hk.elim
  | panic ch => exact hk.elim
  | outgrown => exact hk.elim

end Go.X
