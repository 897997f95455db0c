/- This text proves the rules by which a function's contract follows from the symbolic execution of its body. · This text proves that a region whose order the language leaves open may be executed in one order, under a check of the region that is computed. · This text turns contracts of the kit's shelf into contracts of the symbolic executor, and adds a few rules to it. -/
import Derived.Test.YtdnkeinjfddmnaaGreatDoorW03
import Derived.Deep.LoopGhost
import Derived.Below
import Derived.Deep.Draws
import Derived.LoopN
set_option linter.all false
namespace Go.X
open Go
variable [Sm : Inhabited Manner]
section
variable [Df : Inhabited (List Deferred)]
abbrev Kont := Env → List Chunk → List Fact → Nat → Prop
abbrev Kt := Exit → Env → List Chunk → List Fact → Nat → Prop
def PostK (G : Ent) (N : Nat) (K : Kt) (e : Exit) (a : Act) (w : World) : Prop := ∃ env L D n, K e env L D n ∧ EnvOK N env a ∧ SatW G w L D
structure J (P : Program) (G : Ent) (N : Nat) (c : Code) (env : Env) (L : List Chunk) (D : List Fact) (nid : Nat) (K : Kt) : Prop where
  run : ∀ a w, EnvOK N env a → SatW G w L D → c.wp P (PostK G N K) a w
section
variable {P : Program} {G : Ent} {N : Nat} {env : Env} {L : List Chunk} {D : List Fact} {nid : Nat} {K : Kt}
def Kt.seq (P : Program) (G : Ent) (N : Nat) (y : Code) (K : Kt) : Kt := fun e env L D n =>
  match e with
  | .normal => J P G N y env L D n K
  | e => K e env L D n
theorem J_seq {x y : Code} (h : J P G N x env L D nid (Kt.seq P G N y K)) : J P G N (.seq x y) env L D nid K :=
  ⟨fun a w he hs => wp_seq (wp_mono (h.run a w he hs) fun e a' w' hq => by
    obtain ⟨env', L', D', n', hk, he', hs'⟩ := hq
    cases e with
    | normal => exact hk.run a' w' he' hs'
    | exit id => exact ⟨env', L', D', n', hk, he', hs'⟩
    | goto l => exact ⟨env', L', D', n', hk, he', hs'⟩
    | ret => exact ⟨env', L', D', n', hk, he', hs'⟩
    | panic ch => exact ⟨env', L', D', n', hk, he', hs'⟩
    | outgrown => exact ⟨env', L', D', n', hk, he', hs'⟩)⟩
def Kt.block (id : Nat) (K : Kt) : Kt := fun e env L D n =>
  match e with
  | .exit i => match Nat.beq i id with
    | true => K .normal env L D n
    | false => K (.exit i) env L D n
  | e => K e env L D n
theorem J_block {id : Nat} {c : Code} (h : J P G N c env L D nid (Kt.block id K)) : J P G N (.block id c) env L D nid K :=
  ⟨fun a w he hs => wp_block (wp_mono (h.run a w he hs) fun e a' w' hq => by
    obtain ⟨env', L', D', n', hk, he', hs'⟩ := hq
    cases e with
    | exit i =>
      simp only [Exit.inBlock]
      simp only [Kt.block] at hk
      cases hb : Nat.beq i id with
      | true =>
        rw [hb] at hk
        rw [if_pos (Nat.eq_of_beq_eq_true hb)]
        exact ⟨env', L', D', n', hk, he', hs'⟩
      | false =>
        rw [hb] at hk
        rw [if_neg (fun hc => by subst hc; rw [Nat.beq_refl] at hb; cases hb)]
        exact ⟨env', L', D', n', hk, he', hs'⟩
    | normal => exact ⟨env', L', D', n', hk, he', hs'⟩
    | goto l => exact ⟨env', L', D', n', hk, he', hs'⟩
    | ret => exact ⟨env', L', D', n', hk, he', hs'⟩
    | panic ch => exact ⟨env', L', D', n', hk, he', hs'⟩
    | outgrown => exact ⟨env', L', D', n', hk, he', hs'⟩)⟩
def Kt.noGoto (K : Kt) : Kt := fun e env L D n =>
  match e with
  | .goto _ => False
  | e => K e env L D n
theorem J_scope {c : Code} (h : J P G N c env L D nid (Kt.noGoto K)) : J P G N (.scope c) env L D nid K :=
  ⟨fun a w he hs => wp_scope_straight (wp_mono (h.run a w he hs) fun e a' w' hq => by
    obtain ⟨env', L', D', n', hk, he', hs'⟩ := hq
    cases e with
    | goto l => exact hk
    | normal => exact ⟨env', L', D', n', hk, he', hs'⟩
    | exit i => exact ⟨env', L', D', n', hk, he', hs'⟩
    | ret => exact ⟨env', L', D', n', hk, he', hs'⟩
    | panic ch => exact ⟨env', L', D', n', hk, he', hs'⟩
    | outgrown => exact ⟨env', L', D', n', hk, he', hs'⟩)⟩
theorem J_skip (h : K .normal env L D nid) : J P G N .skip env L D nid K := ⟨fun a w he hs => wp_skip ⟨env, L, D, nid, h, he, hs⟩⟩
theorem J_ret (h : K .ret env L D nid) : J P G N .ret env L D nid K := ⟨fun a w he hs => wp_ret ⟨env, L, D, nid, h, he, hs⟩⟩
theorem J_exit {id : Nat} (h : K (.exit id) env L D nid) : J P G N (.exit id) env L D nid K := ⟨fun a w he hs => wp_exit ⟨env, L, D, nid, h, he, hs⟩⟩
def condK (P : Program) (G : Ent) (N : Nat) (x y : Code) (env : Env) (L : List Chunk) (D : List Fact) (nid : Nat) (K : Kt) (v : V) : Prop :=
  match v with
  | .c (.b true) => J P G N x env L D nid K
  | .c (.b false) => J P G N y env L D nid K
  | _ => False
theorem J_cond {c : Operand} {x y : Code} (h : withE env c (condK P G N x y env L D nid K)) : J P G N (.cond c x y) env L D nid K :=
  ⟨fun a w he hs => by
    obtain ⟨v, hv, h⟩ := withE_elim h
    unfold condK at h
    split at h
    · exact wp_cond_true (by rw [he.ev hv]; rfl) (h.run a w he hs)
    · exact wp_cond_false (by rw [he.ev hv]; rfl) (h.run a w he hs)
    · exact h.elim⟩
def putK (N : Nat) (dst : Option Tmp) (v : V) (env : Env) (k : Env → Prop) : Prop :=
  match dst with
  | some d => match Nat.ble (d + 1) N with
    | true => k ((d, v) :: env)
    | false => False
  | none => k env
theorem putK_sound {dst : Option Tmp} {v : V} {k : Env → Prop} (h : putK N dst v env k) {a : Act} (he : EnvOK N env a) : ∃ env', k env' ∧ EnvOK N env' (a.put dst v.enc) := by
  unfold putK at h
  split at h
  · rename_i d
    split at h
    · rename_i hle
      have hd : d < N := Nat.le_of_ble_eq_true hle
      refine ⟨_, h, ?_, ?_, ?_⟩
      · exact he.1
      · simp [Act.put, he.2.1]
      · intro j u hj
        simp only [Act.put]
        by_cases hjd : d = j
        · subst hjd
          rw [look_cons_same] at hj
          simp only [Option.some.injEq] at hj
          subst hj
          simp [he.2.1, hd]
        · rw [look_cons_ne _ _ hjd] at hj
          rw [Array.getElem?_setIfInBounds_ne hjd]
          exact he.2.2 j u hj
    · exact h.elim
  · exact ⟨env, h, he⟩
def guardV (ops : List Oper) (env : Env) (g : Nat) : Option Bool :=
  match ops[g]? with
  | some o =>
    match o.dst with
    | some d =>
      match look env d with
      | some (.c (.b b)) => some b
      | _ => none
    | none => none
  | none => none
def guardU (ops : List Oper) (env : Env) (g : Nat) : Bool :=
  match ops[g]? with
  | some o =>
    match o.dst with
    | some d =>
      match look env d with
      | some .t0 => true
      | _ => false
    | none => false
  | none => false
def wantK (ops : List Oper) (env : Env) (gd : Option (Nat × Bool)) (yes no : Prop) : Prop :=
  match gd with
  | none => yes
  | some (g, want) =>
    match guardV ops env g with
    | some true => match want with
      | true => yes
      | false => no
    | some false => match want with
      | true => no
      | false => yes
    | none => match guardU ops env g with
      | true => no
      | false => False
theorem wantK_sound {ops : List Oper} {o : Oper} {yes no : Prop} {a : Act} (he : EnvOK N env a) (h : wantK ops env o.guard yes no) :
    (Region.wanted o (yielded ops.toArray a.tmps) = true ∧ yes) ∨ (Region.wanted o (yielded ops.toArray a.tmps) = false ∧ no) := by
  unfold wantK at h
  split at h
  · rename_i hg
    exact .inl ⟨by simp [Region.wanted, hg], h⟩
  · rename_i g want hg
    have hy : ∀ b, guardV ops env g = some b → yielded ops.toArray a.tmps g = some b := by
      intro b hb
      unfold guardV at hb
      split at hb
      · rename_i o' ho'
        split at hb
        · rename_i d hd
          split at hb
          · rename_i b' hl
            simp only [Option.some.injEq] at hb
            subst hb
            have := he.2.2 _ _ hl
            simp [yielded, ho', hd, this, V.enc, C.enc]
          · cases hb
        · cases hb
      · cases hb
    have hu : guardU ops env g = true → yielded ops.toArray a.tmps g = none := by
      intro hb
      unfold guardU at hb
      split at hb
      · rename_i o' ho'
        split at hb
        · rename_i d hd
          split at hb
          · rename_i hl
            have := he.2.2 _ _ hl
            simp [yielded, ho', hd, this, V.enc]
          · cases hb
        · cases hb
      · cases hb
    split at h
    · rename_i hb
      have := hy _ hb
      cases want
      · exact .inr ⟨by simp [Region.wanted, hg, this], h⟩
      · exact .inl ⟨by simp [Region.wanted, hg, this], h⟩
    · rename_i hb
      have := hy _ hb
      cases want
      · exact .inl ⟨by simp [Region.wanted, hg, this], h⟩
      · exact .inr ⟨by simp [Region.wanted, hg, this], h⟩
    · split at h
      · rename_i hb
        have := hu hb
        exact .inr ⟨by simp [Region.wanted, hg, this], h⟩
      · exact h.elim
def vcOps (P : Program) (T : Ty) (N : Nat) (ops : List Oper) : List Oper → Env → List Chunk → List Fact → Nat → Kont → Prop
  | [], env, L, D, nid, k => k env L D nid
  | o :: rest, env, L, D, nid, k =>
    wantK ops env o.guard
      (vcOp P T o.op env L D nid fun v L' D' n' => putK N o.dst v env fun env' => vcOps P T N ops rest env' L' D' n' k)
      (putK N o.dst .t0 env fun env' => vcOps P T N ops rest env' L D nid k)
theorem vcOps_sound {T : Ty} (hT : TyOK P T) (ops : List Oper) : ∀ (l : List Oper) (env : Env) (L : List Chunk) (D : List Fact) (nid : Nat) (k : Kont), vcOps P T N ops l env L D nid k →
    ∀ (Q : Exit → Act → World → Prop), (∀ env' L' D' n' a' w', k env' L' D' n' → EnvOK N env' a' → SatW G w' L' D' → Q .normal a' w') →
    ∀ a w, EnvOK N env a → SatW G w L D → wpList P ops.toArray Q l a w
  | [], env, L, D, nid, k, h, Q, hQ, a, w, he, hs => hQ _ _ _ _ _ _ h he hs
  | o :: rest, env, L, D, nid, k, h, Q, hQ, a, w, he, hs => by
    refine wpList_step fun Kn hKn => ?_
    simp only [vcOps] at h
    rcases wantK_sound he h with ⟨hw, h⟩ | ⟨hw, h⟩
    · rw [if_pos hw]
      refine (vcOp_sound hT h he hs).wp ?_
      rintro u w' ⟨v, L', D', n', rfl, hk, hs'⟩
      refine hKn _ _ ?_
      obtain ⟨env', hk', he'⟩ := putK_sound hk he
      exact vcOps_sound hT ops rest env' L' D' n' k hk' Q hQ _ _ he' hs'
    · rw [if_neg (by simp [hw])]
      refine hKn _ _ ?_
      obtain ⟨env', hk', he'⟩ := putK_sound h he
      exact vcOps_sound hT ops rest env' L D nid k hk' Q hQ _ _ he' hs
theorem J_region {T : Ty} (hT : TyOK P T) {id : Nat} {ops : List Oper} (h : vcOps P T N ops ops env L D nid (K .normal)) : J P G N (.region id ops.toArray false) env L D nid K :=
  ⟨fun a w he hs => wp_region_lit (vcOps_sound hT ops ops env L D nid _ h _ (fun env' L' D' n' a' w' hk he' hs' => ⟨env', L', D', n', hk, he', hs'⟩) a w he hs)⟩
theorem Ents.refl (L : List Chunk) (D : List Fact) : Ents L D L D := fun _ _ h => h
theorem Ents.of {L L' : List Chunk} {D : List Fact} (h : L = L') : Ents L D L' D := h ▸ Ents.refl L D
theorem Ents.trans {L L1 L2 : List Chunk} {D D1 D2 : List Fact} (h : Ents L D L1 D1) (h' : Ents L1 D1 L2 D2) : Ents L D L2 D2 := fun G w hs => h' G w (h G w hs)
theorem Ents.perm {L L' : List Chunk} {D : List Fact} (h : L.Perm L') : Ents L D L' D := fun _ _ hs => satW_perm h hs
theorem Ents.drop {c : Chunk} {L : List Chunk} {D : List Fact} : Ents (c :: L) D L D := fun G w hs => by
  obtain ⟨m, h1, h2⟩ := hs
  refine ⟨m, ⟨?_, h1.ok.2, fun b o hb => ?_, h1.d⟩, ⟨h2.size, h2.same, fun b hb => h2.own b (by simp [fps, hb]), h2.im, h2.new, h2.kept⟩⟩
  · have := h1.nd
    simp only [fps] at this
    exact (List.nodup_append.1 this).2.1
  · have h3 := h1.im b o hb
    exact ⟨h3.1, fun hc => h3.2 (by simp [fps, hc])⟩
theorem Ents.cons {c : Chunk} {L L' : List Chunk} {D : List Fact} (h : ∀ G w, SatW G w (L ++ [c]) D → SatW G w (L' ++ [c]) D) : Ents (c :: L) D (c :: L') D := fun G w hs =>
  satW_perm (List.perm_append_comm (l₁ := L') (l₂ := [c])) (h G w (satW_perm (List.perm_append_comm (l₁ := [c]) (l₂ := L)) hs))
theorem Ents.sub {L L' : List Chunk} {D : List Fact} (h : ∃ R, L.Perm (R ++ L')) : Ents L D L' D := by
  obtain ⟨R, h⟩ := h
  refine (Ents.perm h).trans ?_
  clear h
  induction R with
  | nil => exact Ents.refl _ _
  | cons c R ih => exact Ents.drop.trans ih
theorem Ents.dropAll {L : List Chunk} {D : List Fact} : Ents L D [] D := Ents.sub ⟨L, by simp⟩
theorem Ents.facts {L : List Chunk} {D D' : List Fact} (h : ∀ m, allD m D → allD m D') : Ents L D L D' := fun _ _ ⟨m, h1, h2⟩ => ⟨m, ⟨h1.nd, h1.ok, h1.im, h m h1.d⟩, h2⟩
theorem Ents.nilRow {ety esz : Nat} {L : List Chunk} {D : List Fact} : Ents L D (.row ety esz none 0 0 [] :: L) D := fun _ _ ⟨m, h1, h2⟩ =>
  ⟨m, ⟨by simpa [fps, Chunk.fp] using h1.nd, ⟨⟨(fun x hx => by cases hx), .inl ⟨rfl, rfl, rfl, rfl⟩⟩, h1.ok⟩, fun b o hb => by simpa [fps, Chunk.fp] using h1.im b o hb, h1.d⟩,
    ⟨h2.size, h2.same, fun b hb => h2.own b (by simpa [fps, Chunk.fp] using hb), h2.im, h2.new, h2.kept⟩⟩
theorem Ents.toFact {ety esz : Nat} {a : Option Addr} {n c : Nat} {cs : List C} {L : List Chunk} {D : List Fact} : Ents (.row ety esz a n c cs :: L) D L (slFact ety esz a n cs :: D) := fun G w hs => by
  have hs0 := Ents.drop G w hs
  obtain ⟨m, h1, h2⟩ := hs
  have hrow := h1.ok.1
  rcases hrow.2 with ⟨ha, hn, hc, hcs⟩ | ⟨g, ha, cur, lo, hi, hg, _, _, _, _, hcl, htk⟩
  · obtain ⟨m', h3, h4⟩ := hs0
    exact ⟨m', ⟨h3.nd, h3.ok, h3.im, ⟨⟨hrow.1, .inl ⟨hn, hcs⟩⟩, h3.d⟩⟩, h4⟩
  · subst ha
    have hnd := h1.nd
    simp only [fps, Chunk.fp, Option.map_some, Option.toList_some, List.cons_append, List.nil_append, List.nodup_cons] at hnd
    have hgm : ∀ o, m g ≠ some o := fun o ho => (h1.im g o ho).2 (by simp [fps, Chunk.fp])
    refine ⟨fun b => if b = g then some (.cells cur ety (lo, hi)) else m b, ⟨hnd.2, h1.ok.2, ?_, ?_⟩, ?_⟩
    · intro b o hb
      by_cases hbg : b = g
      · subst hbg
        simp only [if_true, Option.some.injEq] at hb
        exact ⟨by rw [hg, hb], hnd.1⟩
      · simp only [if_neg hbg] at hb
        have h3 := h1.im b o hb
        exact ⟨h3.1, fun hc => h3.2 (by simp [fps, hc])⟩
    · refine ⟨⟨hrow.1, .inr ⟨g, 0, cur, ety, lo, hi, rfl, by simp, hcl, by simpa using htk⟩⟩, allD_mono (fun b o hb => ?_) h1.d⟩
      by_cases hbg : b = g
      · subst hbg; exact absurd hb (hgm o)
      · simpa [hbg] using hb
    · refine ⟨h2.size, h2.same, fun b hb => h2.own b (by simp [fps, hb]), fun b o hb => ?_, fun b o hb => ?_, h2.kept⟩
      · have h3 := h2.im b o hb
        by_cases hbg : b = g
        · subst hbg; exact absurd h3 (hgm o)
        · simpa [hbg] using h3
      · by_cases hbg : b = g
        · subst hbg
          rcases h2.own b (by simp [fps, Chunk.fp]) with h3 | h3
          · exact .inr (.inl h3)
          · exact .inr (.inr h3)
        · simp only [if_neg hbg] at hb
          exact h2.new b o hb
def CEq : C → C → Prop
  | .b x, .b y => x = y
  | .i k x, .i k' y => k = k' ∧ x = y
  | .s x, .s y => x = y
  | .sl a n c, .sl a' n' c' => a = a' ∧ n = n' ∧ c = c'
  | .p i a o, .p i' a' o' => i = i' ∧ a = a' ∧ o = o'
  | x, y => x = y
theorem CEq.eq {x y : C} (h : CEq x y) : x = y := by
  unfold CEq at h
  split at h
  · rw [h]
  · rw [h.1, h.2]
  · rw [h]
  · rw [h.1, h.2.1, h.2.2]
  · rw [h.1, h.2.1, h.2.2]
  · exact h
def VEq : V → V → Prop
  | .c x, .c y => CEq x y
  | x, y => x = y
theorem VEq.eq {x y : V} (h : VEq x y) : x = y := by
  unfold VEq at h
  split at h
  · rw [h.eq]
  · exact h
def SubE (env : Env) : Env → Prop
  | [] => True
  | (d, v) :: r => (match look env d with | some v' => VEq v' v | none => False) ∧ SubE env r
theorem SubE.nil {env : Env} : SubE env [] := trivial
theorem SubE.cons {env : Env} {d : Nat} {v v' : V} {r : Env} (h : look env d = some v') (hv : VEq v' v) (hr : SubE env r) : SubE env ((d, v) :: r) := by
  refine ⟨?_, hr⟩
  rw [h]
  exact hv
theorem VEq.refl (v : V) : VEq v v := by
  cases v with
  | c x => cases x <;> simp [VEq, CEq]
  | _ => rfl
theorem VEq.of {v v' : V} (h : v = v') : VEq v v' := h ▸ VEq.refl v
theorem VEq.int {k : IntKind} {n m : Int} (h : n = m) : VEq (.c (.i k n)) (.c (.i k m)) := VEq.of (by rw [h])
theorem VEq.str {l m : List UInt8} (h : l = m) : VEq (.c (.s l)) (.c (.s m)) := VEq.of (by rw [h])
theorem VEq.sl {a a' : Option Addr} {n n' c c' : Nat} (h : a = a') (h1 : n = n') (h2 : c = c') : VEq (.c (.sl a n c)) (.c (.sl a' n' c')) := VEq.of (by rw [h, h1, h2])
theorem VEq.agg {l m : List C} (h : l = m) : VEq (.agg l) (.agg m) := VEq.of (by rw [h])
theorem SubE.look {env : Env} : ∀ {env' : Env}, SubE env env' → ∀ d v, look env' d = some v → look env d = some v
  | (d', v') :: r, h, d, v, hl => by
    obtain ⟨h1, h2⟩ := h
    by_cases hd : d' = d
    · subst hd
      rw [look_cons_same] at hl
      simp only [Option.some.injEq] at hl
      subst hl
      split at h1
      · rename_i u hu
        rw [hu, h1.eq]
      · exact h1.elim
    · rw [look_cons_ne _ _ hd] at hl
      exact SubE.look h2 d v hl
  | [], _, d, v, hl => by simp [X.look] at hl
theorem SubE.ok {env env' : Env} (h : SubE env env') {a : Act} (he : EnvOK N env a) : EnvOK N env' a := ⟨he.1, he.2.1, fun d v hl => he.2.2 d v (h.look d v hl)⟩
theorem J_ent {c : Code} {env' : Env} {L' : List Chunk} {D' : List Fact} {n' : Nat} (he : SubE env env') (hE : Ents L D L' D') (h : J P G N c env' L' D' n' K) : J P G N c env L D nid K :=
  ⟨fun a w he' hs => h.run a w (he.ok he') (hE G w hs)⟩
theorem J_mem {c : Code} {L' : List Chunk} {D' : List Fact} {n' : Nat} (hE : Ents L D L' D') (h : J P G N c env L' D' n' K) : J P G N c env L D nid K :=
  ⟨fun a w he' hs => h.run a w he' (hE G w hs)⟩
inductive InFam {α : Type} (E : α → Env) (LL : α → List Chunk) (DD : α → List Fact) (φ : α → Prop) (env : Env) (L : List Chunk) (D : List Fact) : Prop where
  | mk (x : α) (hφ : φ x) (he : SubE env (E x)) (hE : Ents L D (LL x) (DD x))
inductive Round {α : Type} (E : α → Env) (LL : α → List Chunk) (DD : α → List Fact) (φ : α → Prop) (μ : α → Nat) (x : α) (env : Env) (L : List Chunk) (D : List Fact) : Prop where
  | mk (y : α) (hμ : μ y < μ x) (hφ : φ y) (he : SubE env (E y)) (hE : Ents L D (LL y) (DD y))
def Kt.loop {α : Type} (E : α → Env) (LL : α → List Chunk) (DD : α → List Fact) (φ : α → Prop) (μ : α → Nat) (x : α) (K : Kt) : Kt := fun e env L D n =>
  match e with
  | .normal => Round E LL DD φ μ x env L D
  | e => K e env L D n
theorem J_loop {body : Code} {α : Type} (E : α → Env) (LL : α → List Chunk) (DD : α → List Fact) (n : Nat) (φ : α → Prop) (μ : α → Nat) (h0 : InFam E LL DD φ env L D)
    (hr : ∀ x, φ x → J P G N body (E x) (LL x) (DD x) n (Kt.loop E LL DD φ μ x K)) : J P G N (.loop body) env L D nid K :=
  ⟨fun a w he hs => by
    obtain ⟨x0, hφ, he0, hE0⟩ := h0
    refine wp_loop_ghost (fun k a w => ∃ x, φ x ∧ μ x = k ∧ EnvOK N (E x) a ∧ SatW G w (LL x) (DD x)) (μ x0) ⟨x0, hφ, rfl, he0.ok he, hE0 G w hs⟩ ?_
    rintro k a w ⟨x, hx, rfl, he, hs⟩
    refine wp_mono ((hr x hx).run a w he hs) ?_
    rintro e a' w' ⟨env', L', D', n', hk, he', hs'⟩
    cases e with
    | normal =>
      obtain ⟨y, hμ, hφ', hey, hEy⟩ := hk
      exact ⟨μ y, hμ, y, hφ', rfl, hey.ok he', hEy G w' hs'⟩
    | exit id => exact ⟨env', L', D', n', hk, he', hs'⟩
    | goto l => exact ⟨env', L', D', n', hk, he', hs'⟩
    | ret => exact ⟨env', L', D', n', hk, he', hs'⟩
    | panic ch => exact ⟨env', L', D', n', hk, he', hs'⟩
    | outgrown => exact ⟨env', L', D', n', hk, he', hs'⟩⟩
def Kt.cut {α : Type} (E : α → Env) (LL : α → List Chunk) (DD : α → List Fact) (φ : α → Prop) (K : Kt) : Kt := fun e env L D n =>
  match e with
  | .normal => InFam E LL DD φ env L D
  | e => K e env L D n
theorem J_cut {x y : Code} {α : Type} (E : α → Env) (LL : α → List Chunk) (DD : α → List Fact) (n : Nat) (φ : α → Prop) (h : J P G N x env L D nid (Kt.cut E LL DD φ K))
    (hy : ∀ z, φ z → J P G N y (E z) (LL z) (DD z) n K) : J P G N (.seq x y) env L D nid K :=
  J_seq ⟨fun a w he hs => wp_mono (h.run a w he hs) (by
    rintro e a' w' ⟨env', L', D', n', hk, he', hs'⟩
    cases e with
    | normal =>
      obtain ⟨z, hφ, hez, hEz⟩ := hk
      exact ⟨_, _, _, n, hy z hφ, hez.ok he', hEz G w' hs'⟩
    | exit id => exact ⟨env', L', D', n', hk, he', hs'⟩
    | goto l => exact ⟨env', L', D', n', hk, he', hs'⟩
    | ret => exact ⟨env', L', D', n', hk, he', hs'⟩
    | panic ch => exact ⟨env', L', D', n', hk, he', hs'⟩
    | outgrown => exact ⟨env', L', D', n', hk, he', hs'⟩)⟩
def resK (T : Ty) (env : Env) (L : List Chunk) (D : List Fact) : List ResultVar → (List V → Prop) → Prop
  | [], k => k []
  | .tmp t :: r, k => match look env t with
    | some v => resK T env L D r fun l => k (v :: l)
    | none => False
  | .cell a ty :: r, k => match look env a with
    | some (.c (.p id ad off)) => vcLoad T ty (.c (.p id ad off)) L D fun v => resK T env L D r fun l => k (v :: l)
    | _ => False
def tupK (l : List V) (k : V → Prop) : Prop :=
  match l with
  | [] => k .t0
  | [x] => k x
  | [x, y] => k (.t2 x y)
  | [x, y, z] => k (.t3 x y z)
  | [x, y, z, u] => k (.t4 x y z u)
  | _ => False
inductive FinE (post : V → List Chunk → List Fact → Prop) (L : List Chunk) (D : List Fact) (v : V) : Prop where
  | mk (L' : List Chunk) (D' : List Fact) (h : post v L' D') (hE : Ents L D L' D')
def Kt.fin (T : Ty) (rs : List ResultVar) (post : V → List Chunk → List Fact → Prop) : Kt := fun e env L D _ =>
  match e with
  | .ret => resK T env L D rs fun l => tupK l (FinE post L D)
  | .normal => resK T env L D rs fun l => tupK l (FinE post L D)
  | _ => False
def resF (a : Act) : ResultVar → Sem Value
  | .tmp t => pure (a.tmps.getD t undef)
  | .cell x t => do loadVar t (← asAddr (a.tmps.getD x undef))
theorem resK_sound {T : Ty} (hT : TyOK P T) {a : Act} {w : World} (he : EnvOK N env a) (hs : SatW G w L D) : ∀ {rs : List ResultVar} {k : List V → Prop}, resK T env L D rs k →
    ∃ l, k l ∧ (rs.mapM (resF a)).run P w = .ok (l.map V.enc) w
  | [], k, h => ⟨[], h, by simp⟩
  | .tmp t :: r, k, h => by
    simp only [resK] at h
    split at h
    · rename_i v hv
      obtain ⟨l, hk, hr⟩ := resK_sound hT he hs h
      refine ⟨_, hk, ?_⟩
      have := he.2.2 _ _ hv
      simp [List.mapM_cons, resF, this, hr]
    · exact h.elim
  | .cell x ty :: r, k, h => by
    simp only [resK] at h
    split at h
    · rename_i id ad off hv
      obtain ⟨v, h, hl⟩ := vcLoad_sound hT h hs
      obtain ⟨l, hk, hr⟩ := resK_sound hT he hs h
      refine ⟨_, hk, ?_⟩
      have := he.2.2 _ _ hv
      simp only [Instr.loadAt, V.enc, C.enc, Instr.sureAddr, Sem.run_bind, Sem.run_pure, Result.andThen_ok] at hl
      simp [List.mapM_cons, resF, this, V.enc, C.enc, asAddr, hl, hr]
    · exact h.elim
theorem tupK_sound {l : List V} {k : V → Prop} (h : tupK l k) : ∃ v, k v ∧ (if h : (l.map V.enc).toArray.size = 1 then (l.map V.enc).toArray[0] else .tuple (l.map V.enc).toArray) = v.enc := by
  unfold tupK at h
  split at h <;> first | exact ⟨_, h, rfl⟩ | exact h.elim
theorem results_run {T : Ty} (hT : TyOK P T) {fn : Func} {a : Act} {w : World} (he : EnvOK N env a) (hs : SatW G w L D) {k : V → Prop} (h : resK T env L D fn.results.toList fun l => tupK l k) :
    ∃ v, k v ∧ (results fn a.tmps).run P w = .ok v.enc w := by
  obtain ⟨l, h, hr⟩ := resK_sound hT he hs h
  obtain ⟨v, hk, hv⟩ := tupK_sound h
  refine ⟨v, hk, ?_⟩
  have e : results fn a.tmps = (do
      let vs ← fn.results.mapM (resF a)
      pure (if h : vs.size = 1 then vs[0] else .tuple vs)) := by
    unfold results
    congr 1
  rw [e]
  simp only [Sem.run_bind, Array.mapM_eq_mapM_toList, Sem.run_map]
  rw [hr]
  simp only [Result.andThen_ok, Sem.run_pure]
  rw [hv]
end
def argEnv : Nat → List V → Env
  | _, [] => []
  | i, v :: r => (i, v) :: argEnv (i + 1) r
theorem look_argEnv : ∀ (l : List V) (i j : Nat) (v : V), look (argEnv i l) j = some v → i ≤ j ∧ l[j - i]? = some v
  | [], i, j, v, h => by simp [argEnv, look] at h
  | x :: r, i, j, v, h => by
    simp only [argEnv] at h
    by_cases hij : i = j
    · subst hij
      rw [look_cons_same] at h
      simpa using h
    · rw [look_cons_ne _ _ hij] at h
      obtain ⟨h1, h2⟩ := look_argEnv r (i + 1) j v h
      refine ⟨by omega, ?_⟩
      rw [show j - i = (j - (i + 1)) + 1 by omega]
      simpa using h2
end
theorem fn_of_J {P : Program} {T : Ty} (hT : TyOK P T) {f : FuncId} {fn : Func} {c : Code} {args : List V} {L : List Chunk} {D : List Fact} {post : V → List Chunk → List Fact → Prop} {N : Nat} {rs : List ResultVar} (nid : Nat)
    (hf : P.funcs[f]? = some fn) (hnm : (fn.name == "runtime.NumGoroutine") = false) (hb : fn.body = some c) (hN : fn.ntmps = N) (hr : fn.results.toList = rs) (hlen : args.length ≤ N)
    (h : ∀ G, J P G N c (argEnv 0 args) L D nid (Kt.fin T rs post)) : FnS P f args L D post := by
  refine ⟨⟨fn, hf, hnm, by simp [hb]⟩, fun w m hh => ?_⟩
  refine calls_of_wp hf hb ?_
  have he : EnvOK N (argEnv 0 args) { tmps := (args.map V.enc).toArray ++ Array.replicate (fn.ntmps - (args.map V.enc).toArray.size) undef, defers := [] } := by
    refine ⟨rfl, by simp; omega, fun d v hl => ?_⟩
    obtain ⟨_, h2⟩ := look_argEnv _ _ _ _ hl
    simp only [Nat.sub_zero] at h2
    have hlt : d < args.length := (List.getElem?_eq_some_iff.1 h2).1
    rw [Array.getElem?_append_left (by simpa using hlt)]
    simp [h2]
  have hs : SatW ⟨w, L, m⟩ w L D := ⟨m, hh, Fr.refl _ _ _⟩
  refine wp_mono ((h ⟨w, L, m⟩).run _ _ he hs) ?_
  rintro e a' w' ⟨env', L', D', n', hk, he', hs'⟩
  subst hr
  have fin : (resK T env' L' D' fn.results.toList fun l => tupK l (FinE post L' D')) → a'.defers = [] ∧ ∃ v, (results fn a'.tmps).run P w' = .ok v w' ∧
      ∃ v' L' D' m', Ending.returned v = .returned v'.enc ∧ post v' L' D' ∧ Holds w' m' L' D' ∧ Fr w L m w' L' m' := fun hk => by
    obtain ⟨v, ⟨L2, D2, hp, hE⟩, hv⟩ := results_run (fn := fn) hT he' hs' hk
    obtain ⟨m2, h1, h2⟩ := hE ⟨w, L, m⟩ w' hs'
    exact ⟨he'.1, v.enc, hv, v, L2, D2, m2, rfl, hp, h1, h2⟩
  cases e with
  | normal => exact fin hk
  | ret => exact fin hk
  | exit id => exact hk.elim
  | goto l => exact hk.elim
  | panic ch => exact hk.elim
  | outgrown => exact hk.elim
end Go.X
namespace Go.X
open Go
variable [Sm : Inhabited Manner] [Df : Inhabited (List Deferred)]
section
variable {P : Program} {G : Ent} {ops : Array Oper} {eff : Nat → Bool} {z : Nat} {L0 : List Chunk} {D0 : List Fact} {Te : Act → List Chunk → List Fact → Prop}
def quietG (P : Program) (G : Ent) (L0 : List Chunk) (D0 : List Fact) (o : Oper) (ρ : Operand → Value) (v : Value) : Prop :=
  ∀ L D, Ents L D L0 D0 → ∀ w, SatW G w L D → gives P o ρ w fun u w' => u = v ∧ SatW G w' L D
def lexM (P : Program) (G : Ent) (ops : Array Oper) (eff : Nat → Bool) (z : Nat) (L0 : List Chunk) (D0 : List Fact) (Te : Act → List Chunk → List Fact → Prop) : List Nat → Act → List Chunk → List Fact → Prop
  | [], a, L, D => Te a L D
  | i :: r, a, L, D =>
    match ops[i]? with
    | none => False
    | some o =>
      (Region.wanted o (yielded ops a.tmps) = true ∧
        ((eff i = false ∧ ∃ v, quietG P G L0 D0 o a.eval v ∧ lexM P G ops eff z L0 D0 Te r (a.put o.dst v) L D) ∨
         (eff i = true ∧ ∀ w, SatW G w L D → gives P o a.eval w fun u w' => ∃ L' D', SatW G w' L' D' ∧ (Ents L' D' L0 D0 ∨ i = z) ∧ lexM P G ops eff z L0 D0 Te r (a.put o.dst u) L' D'))) ∨
      (Region.wanted o (yielded ops a.tmps) = false ∧ lexM P G ops eff z L0 D0 Te r (a.put o.dst undef) L D)
def stepM (P : Program) (ops : Array Oper) (o : Oper) (a : Act) (w : World) (R : Value → World → Prop) : Prop :=
  (Region.wanted o (yielded ops a.tmps) = true ∧ gives P o a.eval w R) ∨ (Region.wanted o (yielded ops a.tmps) = false ∧ R undef w)
def clearM (ops : Array Oper) (eff : Nat → Bool) (i : Nat) (o : Oper) : List Nat → Prop
  | [] => False
  | j :: r => j = i ∨ (j ≠ i ∧ eff j = false ∧ (∀ oj, ops[j]? = some oj → oj.apart ops o = true) ∧ clearM ops eff i o r)
theorem gives_congr {o : Oper} {ρ ρ' : Operand → Value} {w : World} {R : Value → World → Prop} (h : execOp ρ o = execOp ρ' o) (hg : gives P o ρ w R) : gives P o ρ' w R := by
  unfold gives at *
  rw [← h]
  exact hg
theorem bubble (hs : Region.noSelect ops = true) {i : Nat} {o : Oper} (ho : ops[i]? = some o) : ∀ (r : List Nat) (a : Act) (L : List Chunk) (D : List Fact) (w : World), clearM ops eff i o r → lexM P G ops eff z L0 D0 Te r a L D → Ents L D L0 D0 → SatW G w L D →
    stepM P ops o a w fun u w' => ∃ L' D', SatW G w' L' D' ∧ (Ents L' D' L0 D0 ∨ i = z) ∧ lexM P G ops eff z L0 D0 Te (r.erase i) (a.put o.dst u) L' D'
  | [], _, _, _, _, hc, _, _, _ => hc.elim
  | j :: r, a, L, D, w, hc, h, hE, hw => by
    by_cases hji : j = i
    · subst hji
      simp only [lexM, ho] at h
      rw [List.erase_cons_head]
      rcases h with ⟨hwt, ⟨_, v, hq, hr⟩ | ⟨_, hg⟩⟩ | ⟨hwt, hr⟩
      · refine .inl ⟨hwt, (hq L D hE w hw).mono ?_⟩
        rintro u w' ⟨rfl, hw'⟩
        exact ⟨L, D, hw', .inl hE, hr⟩
      · exact .inl ⟨hwt, hg w hw⟩
      · exact .inr ⟨hwt, L, D, hw, .inl hE, hr⟩
    · rcases hc with hc | ⟨_, heff, hap, hc⟩
      · exact absurd hc hji
      rw [List.erase_cons_tail (by simpa using hji)]
      simp only [lexM] at h
      cases hj : ops[j]? with
      | none => rw [hj] at h; exact h.elim
      | some oj =>
        simp only [hj] at h
        obtain ⟨h1, h2, h3⟩ := Oper.apart_spec (hap oj hj)
        have hsi := fun cs b => Region.noSelect_spec hs i o cs b ho
        have hsj := fun cs b => Region.noSelect_spec hs j oj cs b hj
        -- the value of the operation that is passed
        have key : ∀ v, lexM P G ops eff z L0 D0 Te r (a.put oj.dst v) L D →
            (∀ u L' D', lexM P G ops eff z L0 D0 Te (r.erase i) ((a.put oj.dst v).put o.dst u) L' D' → lexM P G ops eff z L0 D0 Te (j :: r.erase i) (a.put o.dst u) L' D') →
            stepM P ops o a w fun u w' => ∃ L' D', SatW G w' L' D' ∧ (Ents L' D' L0 D0 ∨ i = z) ∧ lexM P G ops eff z L0 D0 Te (j :: r.erase i) (a.put o.dst u) L' D' := by
          intro v hr hback
          have hi := bubble hs ho r (a.put oj.dst v) L D w hc hr hE hw
          unfold stepM at hi ⊢
          rw [wanted_put o a oj.dst v h1] at hi
          rcases hi with ⟨hwt, hg⟩ | ⟨hwt, L', D', ha, hb, hcc⟩
          · refine .inl ⟨hwt, gives_congr (execOp_put o hsi a oj.dst v h1) (hg.mono ?_)⟩
            rintro u w' ⟨L', D', ha, hb, hcc⟩
            exact ⟨L', D', ha, hb, hback u L' D' hcc⟩
          · exact .inr ⟨hwt, L', D', ha, hb, hback _ L' D' hcc⟩
        rcases h with ⟨hwt, ⟨_, v, hq, hr⟩ | ⟨hbad, _⟩⟩ | ⟨hwt, hr⟩
        · refine key v hr fun u L' D' hl => ?_
          simp only [lexM, hj]
          refine .inl ⟨by rw [wanted_put oj a o.dst u h3]; exact hwt, .inl ⟨heff, v, ?_, by rw [← Act.put_comm a v u h2]; exact hl⟩⟩
          intro L1 D1 hE1 w1 hw1
          exact gives_congr (execOp_put oj hsj a o.dst u h3).symm (hq L1 D1 hE1 w1 hw1)
        · rw [heff] at hbad; cases hbad
        · refine key undef hr fun u L' D' hl => ?_
          simp only [lexM, hj]
          exact .inr ⟨by rw [wanted_put oj a o.dst u h3]; exact hwt, by rw [← Act.put_comm a undef u h2]; exact hl⟩
def directB (ops : Array Oper) (i j : Nat) : Bool :=
  match ops[i]? with
  | some o => o.after.any fun e => Region.binds .any e && e.on == j
  | none => false
def depB (ops : Array Oper) : Nat → Nat → Nat → Bool
  | 0, _, _ => false
  | n + 1, i, j =>
    match ops[i]? with
    | some o => o.after.any fun e => Region.binds .any e && (e.on == j || depB ops n e.on j)
    | none => false
def pairB (dep : Nat → Nat → Bool) (ops : Array Oper) (eff : Nat → Bool) (j i : Nat) : Bool :=
  j != i && !directB ops j i && (dep i j || (!eff j &&
    match ops[i]?, ops[j]? with
    | some oi, some oj => oj.apart ops oi
    | _, _ => false))
def edgesB (ops : Array Oper) : Bool :=
  (List.range ops.size).all fun i => match ops[i]? with
    | some o => o.after.all fun e => !Region.binds .any e || (e.on != i && e.on < ops.size)
    | none => true
theorem edgesB_spec (h : edgesB ops = true) : ∀ i o, ops[i]? = some o → ∀ e ∈ o.after, Region.binds .any e = true → e.on ≠ i ∧ e.on < ops.size := by
  intro i o ho e he hb
  have hi : i < ops.size := (Array.getElem?_eq_some_iff.1 ho).1
  have := List.all_eq_true.1 h i (List.mem_range.2 hi)
  simp only [ho] at this
  rw [Array.all_eq_true'] at this
  have := this e he
  simpa [hb] using this
def closedL (ops : Array Oper) (listed : Array Bool) : Prop :=
  ∀ i o, ops[i]? = some o → listed.getD i true = true → ∀ e ∈ o.after, Region.binds .any e = true → listed.getD e.on false = true
def DepOK (ops : Array Oper) (dep : Nat → Nat → Bool) : Prop :=
  ∀ listed : Array Bool, closedL ops listed → ∀ i j, (∀ o, ops[i]? = some o → ∀ e ∈ o.after, Region.binds .any e = true → listed.getD e.on false = true) → dep i j = true → listed.getD j true = true
def maskOf (A : List Nat) (o : Oper) : Nat := o.after.toList.foldl (fun m e => match Region.binds .any e with
  | true => m ||| (2 ^ e.on ||| A.getD e.on 0)
  | false => m) 0
def backB (i : Nat) (o : Oper) : Bool := o.after.toList.all fun e => !Region.binds .any e || Nat.blt e.on i
def masksB (A : List Nat) (ops : Array Oper) : Bool :=
  (List.range ops.size).all fun i => match ops[i]? with
    | some o => backB i o && Nat.beq (A.getD i 0) (maskOf A o)
    | none => true
theorem testBit_mask {A : List Nat} {j : Nat} : ∀ (l : List Edge) (m : Nat), (l.foldl (fun m e => match Region.binds .any e with
  | true => m ||| (2 ^ e.on ||| A.getD e.on 0)
  | false => m) m).testBit j = true → m.testBit j = true ∨ ∃ e ∈ l, Region.binds .any e = true ∧ (e.on = j ∨ (A.getD e.on 0).testBit j = true)
  | [], m, h => .inl h
  | e :: l, m, h => by
    simp only [List.foldl_cons] at h
    rcases testBit_mask l _ h with h1 | ⟨x, hx, hb, hd⟩
    · split at h1
      · rename_i hb
        simp only [Nat.testBit_or, Bool.or_eq_true] at h1
        rcases h1 with h1 | h1 | h1
        · exact .inl h1
        · exact .inr ⟨e, by simp, hb, .inl (by rw [Nat.testBit_two_pow] at h1; simpa using h1)⟩
        · exact .inr ⟨e, by simp, hb, .inr h1⟩
      · exact .inl h1
    · exact .inr ⟨x, by simp [hx], hb, hd⟩
theorem depOK_masks {ops : Array Oper} {A : List Nat} (h : masksB A ops = true) (hA : Nat.ble A.length ops.size = true) : DepOK ops (fun i j => (A.getD i 0).testBit j) := by
  intro listed hc i
  induction i using Nat.strongRecOn with
  | _ i ih =>
    intro j hi hd
    have hlt : i < ops.size := by
      rcases Nat.lt_or_ge i ops.size with h | h'
      · exact h
      · have := Nat.le_of_ble_eq_true hA
        simp only at hd
        have e : A.getD i 0 = 0 := by rw [List.getD_eq_getElem?_getD, List.getElem?_eq_none (by omega)]; rfl
        rw [e] at hd
        simp at hd
    have h1 := List.all_eq_true.1 h i (List.mem_range.2 hlt)
    have ho : ops[i]? = some ops[i] := by simp [hlt]
    simp only [ho, Bool.and_eq_true] at h1
    have he := Nat.eq_of_beq_eq_true h1.2
    simp only [he] at hd
    unfold maskOf at hd
    rcases testBit_mask _ _ hd with h2 | ⟨e, hm, hb, h2⟩
    · simp at h2
    · have hl := hi _ ho e (by simpa using hm) hb
      rcases h2 with rfl | h2
      · simp only [Array.getD_eq_getD_getElem?] at *
        cases hx : listed[e.on]? <;> rw [hx] at hl <;> simp_all
      · have hbk := List.all_eq_true.1 h1.1 e (by simpa using hm)
        simp only [hb, Bool.not_true, Bool.false_or] at hbk
        have hlt2 : e.on < i := Nat.le_of_ble_eq_true hbk
        refine ih e.on hlt2 j (fun o' ho' e' he' hb' => hc e.on o' ho' ?_ e' he' hb') h2
        simp only [Array.getD_eq_getD_getElem?] at *
        cases hx : listed[e.on]? <;> rw [hx] at hl <;> simp_all
def okD (dep : Nat → Nat → Bool) (ops : Array Oper) (eff : Nat → Bool) (r : List Nat) : Bool :=
  Region.noSelect ops && edgesB ops && r.all (· < ops.size) && (List.range ops.size).all (r.contains ·) && go r
  where
  go : List Nat → Bool
    | [] => true
    | j :: r => r.all (pairB dep ops eff j) && go r
def okB (ops : Array Oper) (eff : Nat → Bool) (r : List Nat) : Bool := okD (depB ops ops.size) ops eff r
def okM (A : List Nat) (ops : Array Oper) (eff : Nat → Bool) (r : List Nat) : Bool := Nat.ble A.length ops.size && masksB A ops && okD (fun i j => (A.getD i 0).testBit j) ops eff r
variable {dep : Nat → Nat → Bool}
theorem go_pairwise : ∀ {r : List Nat}, okD.go dep ops eff r = true → r.Pairwise fun j i => pairB dep ops eff j i = true
  | [], _ => .nil
  | j :: r, h => by
    simp only [okD.go, Bool.and_eq_true, List.all_eq_true] at h
    exact .cons (fun i hi => h.1 i hi) (go_pairwise h.2)
theorem getD_ft {l : Array Bool} {i : Nat} (h : l.getD i false = true) : l.getD i true = true := by
  simp only [Array.getD_eq_getD_getElem?] at *
  cases hi : l[i]? <;> rw [hi] at h <;> simp_all
theorem dep_listed {listed : Array Bool} (hc : closedL ops listed) : ∀ (n i j : Nat), (∀ o, ops[i]? = some o → ∀ e ∈ o.after, Region.binds .any e = true → listed.getD e.on false = true) → depB ops n i j = true → listed.getD j true = true
  | 0, _, _, _, h => by simp [depB] at h
  | n + 1, i, j, hi, h => by
    simp only [depB] at h
    split at h
    · rename_i o ho
      rw [Array.any_eq_true'] at h
      obtain ⟨e, he, hb⟩ := h
      simp only [Bool.and_eq_true, Bool.or_eq_true, beq_iff_eq] at hb
      obtain ⟨hbd, hb⟩ := hb
      have hl := hi o ho e he hbd
      rcases hb with rfl | hb
      · exact getD_ft hl
      · exact dep_listed hc n e.on j (fun o' ho' e' he' hb' => hc e.on o' ho' (getD_ft hl) e' he' hb') hb
    · cases h
theorem depOK_B : DepOK ops (depB ops ops.size) := fun _ hc i j hi h => dep_listed hc _ i j hi h
theorem clear_of_pairs (hdep : DepOK ops dep) {listed : Array Bool} (hc : closedL ops listed) {i : Nat} {o : Oper} (ho : ops[i]? = some o) (hready : ∀ e ∈ o.after, Region.binds .any e = true → listed.getD e.on false = true) :
    ∀ {r : List Nat}, i ∈ r → (∀ j ∈ r, listed.getD j true = false) → r.Pairwise (fun j i => pairB dep ops eff j i = true) → clearM ops eff i o r
  | j :: r, hm, hu, hp => by
    by_cases hji : j = i
    · exact .inl hji
    · have hm' : i ∈ r := by
        rcases List.mem_cons.1 hm with h | h
        · exact absurd h.symm hji
        · exact h
      have hpj := (List.pairwise_cons.1 hp).1 i hm'
      simp only [pairB, Bool.and_eq_true, Bool.or_eq_true, Bool.not_eq_true'] at hpj
      obtain ⟨_, hd⟩ := hpj
      rcases hd with hd | ⟨he, hap⟩
      · exfalso
        have := hdep _ hc i j (fun o' ho' => by rw [ho] at ho'; cases ho'; exact hready) hd
        rw [hu j (by simp)] at this
        cases this
      · refine .inr ⟨hji, he, fun oj hoj => ?_, clear_of_pairs hdep hc ho hready hm' (fun k hk => hu k (by simp [hk])) (List.pairwise_cons.1 hp).2⟩
        rw [ho, hoj] at hap
        exact hap
  | [], hm, _, _ => by cases hm
theorem any_of_lexM (hdep : DepOK ops dep) (hs : Region.noSelect ops = true) (hed : ∀ i o, ops[i]? = some o → ∀ e ∈ o.after, Region.binds .any e = true → e.on ≠ i ∧ e.on < ops.size) : ∀ (n : Nat) (r : List Nat) (listed : Array Bool) (a : Act) (L : List Chunk) (D : List Fact) (w : World) (Q' : Exit → Act → World → Prop), (∀ a L D w, Te a L D → SatW G w L D → Q' .normal a w) →
    r.length = n → listed.size = ops.size → (∀ i, listed.getD i true = false ↔ i ∈ r) → closedL ops listed → r.Pairwise (fun j i => pairB dep ops eff j i = true) → (z < ops.size → ∀ j ∈ r, j ≠ z → dep z j = true) → lexM P G ops eff z L0 D0 Te r a L D → (Ents L D L0 D0 ∨ r = []) → SatW G w L D →
    wpAny P .any ops Q' n listed a w
  | 0, r, listed, a, L, D, w, Q', hQ, hlen, hsz, hr, hc, hp, hz, h, hE, hw => by
    have hnil : r = [] := List.eq_nil_of_length_eq_zero hlen
    subst hnil
    refine ⟨?_, hQ _ _ _ _ h hw⟩
    rw [List.eq_nil_iff_forall_not_mem]
    intro i hi
    have := (hr i).1 (mem_ready.1 hi).1
    cases this
  | n + 1, r, listed, a, L, D, w, Q', hQ, hlen, hsz, hr, hc, hp, hz, h, hE, hw => by
    replace hE : Ents L D L0 D0 := hE.resolve_right fun he => by rw [he] at hlen; cases hlen
    refine ⟨fun hnil => ?_, fun i hi => ?_⟩
    · -- the first of r is ready
      exfalso
      match r, hlen with
      | j :: r, _ =>
        have hj : listed.getD j true = false := (hr j).2 (by simp)
        cases hoj : ops[j]? with
        | none => simp only [lexM, hoj] at h
        | some oj =>
          have : j ∈ Region.ready .any ops listed := mem_ready.2 ⟨hj, oj, hoj, fun e he hb => by
            cases hl : listed.getD e.on false with
            | true => rfl
            | false =>
              exfalso
              by_cases hlt : e.on < listed.size
              · have hl' : listed.getD e.on true = false := by
                  simp only [Array.getD_eq_getD_getElem?, Array.getElem?_eq_getElem hlt, Option.getD_some] at hl ⊢
                  exact hl
                have hmem := (hr e.on).1 hl'
                rcases List.mem_cons.1 hmem with hej | hmem
                · exact (hed j oj hoj e he hb).1 hej
                · have := (List.pairwise_cons.1 hp).1 e.on hmem
                  simp only [pairB, Bool.and_eq_true, Bool.not_eq_true'] at this
                  have hd := this.1.2
                  simp only [directB, hoj] at hd
                  rw [Array.any_eq_false'] at hd
                  exact hd e he (by simp [hb])
              · exact hlt (by rw [hsz]; exact (hed j oj hoj e he hb).2)⟩
          rw [hnil] at this
          cases this
    · obtain ⟨hun, o, ho, hall⟩ := mem_ready.1 hi
      have hm := (hr i).1 hun
      have hcl := clear_of_pairs (eff := eff) hdep hc ho hall hm (fun j hj => (hr j).2 hj) hp
      have hst := bubble hs ho r a L D w hcl h hE hw
      have hnd : r.Nodup := hp.imp fun hjk => by
        simp only [pairB, Bool.and_eq_true, bne_iff_ne] at hjk
        exact hjk.1.1
      have hlt : i < listed.size := by
        rcases Nat.lt_or_ge i listed.size with h | h
        · exact h
        · simp [Array.getElem?_eq_none h] at hun
      have next : ∀ u w', (∃ L' D', SatW G w' L' D' ∧ (Ents L' D' L0 D0 ∨ i = z) ∧ lexM P G ops eff z L0 D0 Te (r.erase i) (a.put o.dst u) L' D') → wpAny P .any ops Q' n (listed.setIfInBounds i true) (a.put o.dst u) w' := by
        rintro u w' ⟨L', D', hw', hE', hl⟩
        have hE2 : Ents L' D' L0 D0 ∨ r.erase i = [] := hE'.imp_right fun hiz => by
          subst hiz
          rw [List.eq_nil_iff_forall_not_mem]
          intro j hj
          have hji : j ≠ i := (hnd.mem_erase_iff.1 hj).1
          have hjr : j ∈ r := (hnd.mem_erase_iff.1 hj).2
          have hd := hz (by rw [← hsz]; exact hlt) j hjr hji
          have hl1 := hdep _ hc i j (fun o' ho' => by rw [ho] at ho'; cases ho'; exact hall) hd
          rw [(hr j).2 hjr] at hl1
          cases hl1
        refine any_of_lexM hdep hs hed n (r.erase i) _ _ L' D' w' Q' hQ ?_ ?_ ?_ ?_ ?_ (fun hzs j hj hjz => hz hzs j (List.mem_of_mem_erase hj) hjz) hl hE2 hw'
        · rw [List.length_erase_of_mem hm]; omega
        · simpa using hsz
        · intro k
          rw [hnd.mem_erase_iff, ← hr k]
          by_cases hki : k = i
          · subst hki; simp [hlt]
          · simp [Array.getD_eq_getD_getElem?, Array.getElem?_setIfInBounds_ne (Ne.symm hki), hki]
        · intro k ok hok hk e he hb
          by_cases hei : e.on = i
          · rw [hei]; simp [hlt]
          · rw [show (listed.setIfInBounds i true).getD e.on false = listed.getD e.on false by simp [Array.getD_eq_getD_getElem?, Array.getElem?_setIfInBounds_ne (Ne.symm hei)]]
            by_cases hki : k = i
            · subst hki
              rw [ho] at hok
              cases hok
              exact hall e he hb
            · refine hc k ok hok ?_ e he hb
              simpa [Array.getD_eq_getD_getElem?, Array.getElem?_setIfInBounds_ne (Ne.symm hki)] using hk
        · exact hp.sublist List.erase_sublist
      unfold wpOp
      simp only [ho]
      rcases hst with ⟨hwt, hg⟩ | ⟨hwt, hR⟩
      · rw [if_pos hwt]
        exact .inl (hg.wp next)
      · rw [if_neg (by simp [hwt])]
        exact next _ _ hR
theorem region_of_lexM {id : Nat} {r : List Nat} {a : Act} {L : List Chunk} {D : List Fact} {w : World} {Q' : Exit → Act → World → Prop} (hm : P.follows .mixedOrders = true) (hdep : DepOK ops dep) (hB : okD dep ops eff r = true) (hz : z < ops.size → ∀ j ∈ r, j ≠ z → dep z j = true) (hQ : ∀ a L D w, Te a L D → SatW G w L D → Q' .normal a w)
    (h : lexM P G ops eff z L0 D0 Te r a L D) (hE : Ents L D L0 D0) (hw : SatW G w L D) : (Code.region id ops true).wp P Q' a w := by
  simp only [okD, Bool.and_eq_true, List.all_eq_true, decide_eq_true_eq, List.mem_range] at hB
  obtain ⟨⟨⟨⟨hs, hed⟩, hlt⟩, hall⟩, hgo⟩ := hB
  have hp := go_pairwise hgo
  have hnd : r.Nodup := hp.imp fun hjk => by
    simp only [pairB, Bool.and_eq_true, bne_iff_ne] at hjk
    exact hjk.1.1
  have hperm : r.Perm (List.range ops.size) := by
    rw [List.perm_ext_iff_of_nodup hnd List.nodup_range]
    intro i
    rw [List.mem_range]
    exact ⟨fun hi => hlt i hi, fun hi => by simpa using hall i hi⟩
  refine wp_region_any hm (any_of_lexM hdep hs (edgesB_spec hed) ops.size r _ a L D _ Q' hQ ?_ (by simp) ?_ ?_ hp hz h (.inl hE) ?_)
  · simpa using hperm.length_eq
  · intro i
    rw [hperm.mem_iff, List.mem_range]
    by_cases hi : i < ops.size
    · simp [hi]
    · simp [hi]
  · intro i o ho hl
    exfalso
    have hi : i < ops.size := (Array.getElem?_eq_some_iff.1 ho).1
    simp [hi] at hl
  · exact satW_drew hw
theorem lexM_append {T2 : Act → List Chunk → List Fact → Prop} {q : List Nat} (hT : ∀ a L D, T2 a L D → lexM P G ops eff z L0 D0 Te q a L D) : ∀ (r : List Nat) (a : Act) (L : List Chunk) (D : List Fact), lexM P G ops eff z L0 D0 T2 r a L D → lexM P G ops eff z L0 D0 Te (r ++ q) a L D
  | [], a, L, D, h => hT a L D h
  | i :: r, a, L, D, h => by
    simp only [List.cons_append, lexM] at h ⊢
    cases hi : ops[i]? with
    | none => rw [hi] at h; exact h.elim
    | some o =>
      rw [hi] at h
      simp only at h ⊢
      rcases h with ⟨hw, ⟨he, v, hq, hr⟩ | ⟨he, hg⟩⟩ | ⟨hw, hr⟩
      · exact .inl ⟨hw, .inl ⟨he, v, hq, lexM_append hT r _ _ _ hr⟩⟩
      · exact .inl ⟨hw, .inr ⟨he, fun w hs => (hg w hs).mono fun u w' ⟨L', D', h1, h2, h3⟩ => ⟨L', D', h1, h2, lexM_append hT r _ _ _ h3⟩⟩⟩
      · exact .inr ⟨hw, lexM_append hT r _ _ _ hr⟩
theorem first_ready {listed : Array Bool} (hed : ∀ i o, ops[i]? = some o → ∀ e ∈ o.after, Region.binds .any e = true → e.on ≠ i ∧ e.on < ops.size) (hsz : listed.size = ops.size) {j : Nat} {r : List Nat} (hr : ∀ i, listed.getD i true = false ↔ i ∈ j :: r)
    (hd : ∀ k ∈ r, directB ops j k = false) (hj : j < ops.size) : Region.ready .any ops listed ≠ [] := by
  intro hnil
  have hjl : listed.getD j true = false := (hr j).2 (by simp)
  obtain ⟨oj, hoj⟩ : ∃ o, ops[j]? = some o := ⟨_, Array.getElem?_eq_getElem hj⟩
  have : j ∈ Region.ready .any ops listed := mem_ready.2 ⟨hjl, oj, hoj, fun e he hb => by
    cases hl : listed.getD e.on false with
    | true => rfl
    | false =>
      exfalso
      by_cases hlt : e.on < listed.size
      · have hl' : listed.getD e.on true = false := by
          simp only [Array.getD_eq_getD_getElem?, Array.getElem?_eq_getElem hlt, Option.getD_some] at hl ⊢
          exact hl
        have hmem := (hr e.on).1 hl'
        rcases List.mem_cons.1 hmem with hej | hmem
        · exact (hed j oj hoj e he hb).1 hej
        · have hd := hd e.on hmem
          simp only [directB, hoj] at hd
          rw [Array.any_eq_false'] at hd
          exact hd e he (by simp [hb])
      · exact hlt (by rw [hsz]; exact (hed j oj hoj e he hb).2)⟩
  rw [hnil] at this
  cases this
theorem listed_step {listed : Array Bool} {i : Nat} {r : List Nat} (hnd : r.Nodup) (hlt : i < listed.size) (hr : ∀ k, listed.getD k true = false ↔ k ∈ r) (k : Nat) : (listed.setIfInBounds i true).getD k true = false ↔ k ∈ r.erase i := by
  rw [hnd.mem_erase_iff, ← hr k]
  by_cases hki : k = i
  · subst hki; simp [hlt]
  · simp [Array.getD_eq_getD_getElem?, Array.getElem?_setIfInBounds_ne (Ne.symm hki), hki]
theorem closed_step {listed : Array Bool} {i : Nat} {o : Oper} (hlt : i < listed.size) (ho : ops[i]? = some o) (hall : ∀ e ∈ o.after, Region.binds .any e = true → listed.getD e.on false = true) (hc : closedL ops listed) : closedL ops (listed.setIfInBounds i true) := by
  intro k ok hok hk e he hb
  by_cases hei : e.on = i
  · rw [hei]; simp [hlt]
  · rw [show (listed.setIfInBounds i true).getD e.on false = listed.getD e.on false by simp [Array.getD_eq_getD_getElem?, Array.getElem?_setIfInBounds_ne (Ne.symm hei)]]
    by_cases hki : k = i
    · subst hki
      rw [ho] at hok
      cases hok
      exact hall e he hb
    · refine hc k ok hok ?_ e he hb
      simpa [Array.getD_eq_getD_getElem?, Array.getElem?_setIfInBounds_ne (Ne.symm hki)] using hk
theorem clear_of_pairsX (hdep : DepOK ops dep) {listed : Array Bool} (hc : closedL ops listed) {i : Nat} {o : Oper} (ho : ops[i]? = some o) (hready : ∀ e ∈ o.after, Region.binds .any e = true → listed.getD e.on false = true) :
    ∀ {r : List Nat}, i ∈ r → (∀ j ∈ r, listed.getD j true = false) → r.Pairwise (fun j k => k = i → pairB dep ops eff j k = true) → clearM ops eff i o r
  | j :: r, hm, hu, hp => by
    by_cases hji : j = i
    · exact .inl hji
    · have hm' : i ∈ r := by
        rcases List.mem_cons.1 hm with h | h
        · exact absurd h.symm hji
        · exact h
      have hpj := (List.pairwise_cons.1 hp).1 i hm' rfl
      simp only [pairB, Bool.and_eq_true, Bool.or_eq_true, Bool.not_eq_true'] at hpj
      obtain ⟨_, hd⟩ := hpj
      rcases hd with hd | ⟨he, hap⟩
      · exfalso
        have := hdep _ hc i j (fun o' ho' => by rw [ho] at ho'; cases ho'; exact hready) hd
        rw [hu j (by simp)] at this
        cases this
      · refine .inr ⟨hji, he, fun oj hoj => ?_, clear_of_pairsX hdep hc ho hready hm' (fun k hk => hu k (by simp [hk])) (List.pairwise_cons.1 hp).2⟩
        rw [ho, hoj] at hap
        exact hap
  | [], hm, _, _ => by cases hm
theorem contains_not {l : List Nat} {x : Nat} (h : l.contains x = false) : x ∉ l := fun hx => by
  rw [← List.contains_iff_mem] at hx
  rw [hx] at h; cases h
end
def Is (v : V) : V → List Chunk → List Fact → Prop := fun v' L D => v' = v ∧ L = [] ∧ D = []
inductive CallQ (P : Program) (f : FuncId) (vs : List V) (D : List Fact) (k : V → Prop) : Prop where
  | mk (D1 : List Fact) (v : V) (h : FnS P f vs [] D1 (Is v)) (hd : ∀ m, allD m D → allD m D1) (k : k v)
def vcBuiltinQ (T : Ty) (b : Builtin) (ts : List TypeId) (vs : List V) (k : V → Prop) : Prop :=
  match b, ts, vs with
  | .len, [t], [x] =>
    match find T t with
    | some i =>
      match i.d, x with
      | .str, .c (.s l) => k (lenV l.length)
      | .sl _, .c (.sl _ n _) => k (lenV n)
      | .arr n _, _ => k (lenV n)
      | _, _ => False
    | none => False
  | .max, _, [.c (.i ka a), .c (.i _ b)] => CondP (a < b) (k (.c (.i ka b))) (k (.c (.i ka a)))
  | .min, _, [.c (.i ka a), .c (.i _ b)] => CondP (b < a) (k (.c (.i ka b))) (k (.c (.i ka a)))
  | _, _, _ => False
def vcCallQ (P : Program) (T : Ty) (c : Call) (env : Env) (D : List Fact) (k : V → Prop) : Prop :=
  match c.callee with
  | .value (.func f) => argsK env c.args.toList fun vs => CallQ P f vs D k
  | .builtin b => argsK env c.args.toList fun vs => vcBuiltinQ T b c.argTypes.toList vs k
  | _ => False
def vcConvertQ (T : Ty) (s d : Nat) (v : V) (k : V → Prop) : Prop :=
  match find T s, find T d with
  | some si, some di =>
    match si.d, di.d, v with
    | .int _, .int kd, .c (.i _ n) => ArP kd n fun r => k (.c (.i kd r))
    | .str, .str, .c (.s l) => k (.c (.s l))
    | _, _, _ => False
  | _, _ => False
def vcQ (P : Program) (T : Ty) (op : Op) (env : Env) (L : List Chunk) (D : List Fact) (k : V → Prop) : Prop :=
  match op with
  | .move x => withE env x k
  | .assign x => withE env x k
  | .pick c a b => pickK env c a b k
  | .build t ps => partsK env ps.toList fun l => vcBuild T t l k
  | .load t x => withE env x fun a => vcLoad T t a L D k
  | .binOp op t x y _ => withE env x fun a => withE env y fun b => vcBin T op t a b k
  | .unOp op _ x => withE env x fun a => vcUn op a k
  | .convert s d x => withE env x fun a => vcConvertQ T s d a k
  | .slice t x lo hi none => withE env x fun a => optK env lo fun lo => optK env hi fun hi => vcSlice T t a lo hi k
  | .fieldAddr s x f => withE env x fun a => vcFieldAddr T s a f L D k
  | .field t x f => withE env x fun a => vcField T t a f k
  | .indexAddr t x i => withE env x fun a => withE env i fun i => vcIndexAddr T t a i L D k
  | .index t x i => withE env x fun a => withE env i fun i => vcIndex T t a i k
  | .extract x i => withE env x fun v => extractK v i k
  | .call c => vcCallQ P T c env D k
  | .nilCheck x => withE env x fun v => nilK v L D k
  | _ => False
section
variable {P : Program} {G : Ent} {L0 : List Chunk} {D0 : List Fact} {N : Nat} {env : Env}
theorem quiet_val {o : Oper} {a : Act} {v : V} (hr : ∀ w, SatW G w L0 D0 → (execOp a.eval o).run P w = .ok (.value v.enc) w) : quietG P G L0 D0 o a.eval v.enc := by
  intro L D hE w hw
  unfold gives
  rw [hr w (hE G w hw)]
  exact ⟨rfl, hw⟩
theorem satW_keep {w w' : World} {L : List Chunk} {D : List Fact} (h : SatW G w L D) (hsz : w.heap.size ≤ w'.heap.size) (hsame : ∀ b, b < w.heap.size → w'.heap[b]? = w.heap[b]?) (hk : Kept w w') : SatW G w' L D := by
  obtain ⟨m, h1, h2⟩ := h
  have hlt := mem_fps_lt h1.ok
  refine ⟨m, ⟨h1.nd, allOk_of_same h1.ok fun b hb => hsame b (hlt b hb), fun b o hb => ?_, h1.d⟩, h2.trans ⟨hsz, fun b hb _ => hsame b hb, fun b hb => .inl hb, fun _ _ h => h, fun _ _ h => .inl h, hk⟩⟩
  have h3 := h1.im b o hb
  exact ⟨by rw [hsame b (Array.getElem?_eq_some_iff.1 h3.1).1]; exact h3.1, h3.2⟩
theorem quiet_call {o : Oper} {a : Act} {f : FuncId} {vs : List V} {D1 : List Fact} {v : V} (hrun : ∀ w, (execOp a.eval o).run P w = .ok (.enter f (vs.map V.enc).toArray) w) (h : FnS P f vs [] D1 (Is v)) (hd : ∀ m, allD m D0 → allD m D1) :
    quietG P G L0 D0 o a.eval v.enc := by
  intro L D hE w hw
  unfold gives
  rw [hrun w]
  obtain ⟨m, h1, h2⟩ := hE G w hw
  refine (h.2 w m ⟨by simp [fps], trivial, fun b o hb => ⟨(h1.im b o hb).1, by simp [fps]⟩, hd m h1.d⟩).mono ?_
  rintro e w' ⟨v', L', D', m', rfl, ⟨rfl, rfl, rfl⟩, _, hfr⟩
  exact ⟨_, rfl, rfl, satW_keep hw hfr.size (fun b hb => hfr.same b hb (by simp [fps])) hfr.kept⟩
theorem vcBuiltinQ_sound {T : Ty} (hT : TyOK P T) {b : Builtin} {ts : List TypeId} {vs : List V} {ty : TypeId} {k : V → Prop} (h : vcBuiltinQ T b ts vs k) :
    ∃ v, k v ∧ ∀ w (consts : Array Bool), (builtin b ts.toArray ty consts (vs.map V.enc).toArray).run P w = .ok (.value v.enc) w := by
  unfold vcBuiltinQ at h
  split at h
  · rename_i t x
    split at h
    · rename_i i hi
      have hd' := (hT _ _ hi).2.2.2
      split at h
      · rename_i l hd
        rw [hd] at hd'
        refine ⟨_, h, fun w consts => ?_⟩
        simp only [builtin, List.map_cons, List.map_nil, V.enc, C.enc, Sem.run_bind]
        rw [run_len_string w t _ _ hd']
        rfl
      · rename_i e a n c hd
        rw [hd] at hd'
        simp only [TyD.ok] at hd'
        exact ⟨_, h, fun w consts => by simp [builtin, V.enc, C.enc, lenV, Builtin.len_, run_underlying hd', goInt]⟩
      · rename_i n e hd
        rw [hd] at hd'
        simp only [TyD.ok] at hd'
        exact ⟨_, h, fun w consts => by simp [builtin, V.enc, C.enc, lenV, Builtin.len_, run_underlying hd', goInt]⟩
      · exact h.elim
    · exact h.elim
  · rename_i ts ka x kb y
    by_cases hab : x < y
    · exact ⟨_, h.t hab, fun w consts => by simp only [builtin, List.map_cons, List.map_nil, V.enc, C.enc, Sem.run_bind, run_max_int2, Result.andThen_ok, Sem.run_pure, gt_iff_lt, hab, if_true]⟩
    · exact ⟨_, h.f hab, fun w consts => by simp only [builtin, List.map_cons, List.map_nil, V.enc, C.enc, Sem.run_bind, run_max_int2, Result.andThen_ok, Sem.run_pure, gt_iff_lt, hab, if_false]⟩
  · rename_i ts ka x kb y
    by_cases hab : y < x
    · exact ⟨_, h.t hab, fun w consts => by simp only [builtin, List.map_cons, List.map_nil, V.enc, C.enc, Sem.run_bind, run_min_int2, Result.andThen_ok, Sem.run_pure, hab, if_true]⟩
    · exact ⟨_, h.f hab, fun w consts => by simp only [builtin, List.map_cons, List.map_nil, V.enc, C.enc, Sem.run_bind, run_min_int2, Result.andThen_ok, Sem.run_pure, hab, if_false]⟩
  · exact h.elim
theorem vcQ_sound {T : Ty} (hT : TyOK P T) {o : Oper} {a : Act} {k : V → Prop} (he : EnvOK N env a) (h : vcQ P T o.op env L0 D0 k) : ∃ v, k v ∧ quietG P G L0 D0 o a.eval v.enc := by
  unfold vcQ at h
  split at h
  · rename_i x ho
    obtain ⟨v, hv, h⟩ := withE_elim h
    exact ⟨v, h, quiet_val fun w _ => by simp only [execOp, ho, he.ev hv, Sem.run_pure]⟩
  · rename_i x ho
    obtain ⟨v, hv, h⟩ := withE_elim h
    exact ⟨v, h, quiet_val fun w _ => by simp only [execOp, ho, he.ev hv, Sem.run_pure]⟩
  · rename_i c x y ho
    obtain ⟨cv, hc, h⟩ := withE_elim h
    split at h
    · obtain ⟨v, hv, h⟩ := withE_elim h
      exact ⟨v, h, quiet_val fun w _ => by simp only [execOp, ho, he.ev hc, he.ev hv, V.enc, C.enc, asBool, Sem.run_bind, Sem.run_pure, Result.andThen_ok, if_true]⟩
    · obtain ⟨v, hv, h⟩ := withE_elim h
      exact ⟨v, h, quiet_val fun w _ => by simp only [execOp, ho, he.ev hc, he.ev hv, V.enc, C.enc, asBool, Sem.run_bind, Sem.run_pure, Result.andThen_ok, Bool.false_eq_true, if_false]⟩
    · exact h.elim
  · rename_i t ps ho
    obtain ⟨l, h, hl⟩ := partsK_sound he h
    obtain ⟨v, hk, hr⟩ := vcBuild_sound hT h
    have e : (ps.map fun (i, x) => (i, a.eval x)) = (l.map fun (i, v) => (i, v.enc)).toArray := by
      rw [← hl, ← Array.toList_map, Array.toArray_toList]
    exact ⟨v, hk, quiet_val fun w _ => by simp only [execOp, ho, e, Sem.run_bind, hr w, Result.andThen_ok, Sem.run_pure]⟩
  · rename_i t x ho
    obtain ⟨v, hv, h⟩ := withE_elim h
    obtain ⟨r, hk, hr⟩ := vcLoad_uni (G := G) hT h
    exact ⟨r, hk, quiet_val fun w hw => by simp only [execOp, ho, he.ev hv, Sem.run_bind, hr w hw, Result.andThen_ok, Sem.run_pure]⟩
  · rename_i op t x y yt ho
    obtain ⟨v, hv, h⟩ := withE_elim h
    obtain ⟨u, hu, h⟩ := withE_elim h
    obtain ⟨r, hk, hr⟩ := vcBin_sound hT (ox := x) (oy := y) h
    refine ⟨r, hk, quiet_val fun w _ => ?_⟩
    have := hr w
    simp only [execOp, ho, he.ev hv, he.ev hu]
    rw [Sem.run_bind, this]
    rfl
  · rename_i op t x ho
    obtain ⟨v, hv, h⟩ := withE_elim h
    obtain ⟨r, hk, hr⟩ := vcUn_sound (P := P) h
    exact ⟨r, hk, quiet_val fun w _ => by simp only [execOp, ho, he.ev hv, Sem.run_bind, hr w, Result.andThen_ok, Sem.run_pure]⟩
  · rename_i s d x ho
    obtain ⟨v, hv, h⟩ := withE_elim h
    unfold vcConvertQ at h
    split at h
    · rename_i si di hsi hdi
      have h1 := (hT _ _ hsi).2.2.2
      have h2 := (hT _ _ hdi).2.2.2
      split at h
      · rename_i ks kd kv n hd1 hd2
        rw [hd1] at h1
        rw [hd2] at h2
        simp only [TyD.ok] at h1 h2
        refine ⟨_, h.run, quiet_val fun w _ => ?_⟩
        simp [execOp, ho, he.ev hv, convert, run_underlying h1, run_underlying h2, V.enc, C.enc, Conv.intToInt]
      · rename_i l hd1 hd2
        rw [hd1] at h1
        rw [hd2] at h2
        simp only [TyD.ok] at h1 h2
        refine ⟨_, h, quiet_val fun w _ => ?_⟩
        simp [execOp, ho, he.ev hv, convert, run_underlying h1, run_underlying h2, V.enc, C.enc]
      · exact h.elim
    · exact h.elim
  · rename_i t x lo hi ho
    obtain ⟨v, hv, h⟩ := withE_elim h
    obtain ⟨l, h, hl⟩ := optK_sound he h
    obtain ⟨u, h, hu⟩ := optK_sound he h
    obtain ⟨r, hk, hr⟩ := vcSlice_sound hT h
    exact ⟨r, hk, quiet_val fun w _ => by simp only [execOp, ho, he.ev hv, hl, hu, Option.map_none, Sem.run_bind, hr w, Result.andThen_ok, Sem.run_pure]⟩
  · rename_i s x f ho
    obtain ⟨v, hv, h⟩ := withE_elim h
    obtain ⟨r, hk, hr⟩ := vcFieldAddr_uni (G := G) hT h
    exact ⟨r, hk, quiet_val fun w hw => by simp only [execOp, ho, he.ev hv, Sem.run_bind, hr w hw, Result.andThen_ok, Sem.run_pure]⟩
  · rename_i t x f ho
    obtain ⟨v, hv, h⟩ := withE_elim h
    obtain ⟨r, hk, hr⟩ := vcField_sound hT h
    exact ⟨r, hk, quiet_val fun w _ => by simp only [execOp, ho, he.ev hv, Sem.run_bind, hr w, Result.andThen_ok, Sem.run_pure]⟩
  · rename_i t x i ho
    obtain ⟨v, hv, h⟩ := withE_elim h
    obtain ⟨u, hu, h⟩ := withE_elim h
    obtain ⟨r, hk, hr⟩ := vcIndexAddr_uni (G := G) hT h
    exact ⟨r, hk, quiet_val fun w hw => by simp only [execOp, ho, he.ev hv, he.ev hu, Sem.run_bind, hr w hw, Result.andThen_ok, Sem.run_pure]⟩
  · rename_i t x i ho
    obtain ⟨v, hv, h⟩ := withE_elim h
    obtain ⟨u, hu, h⟩ := withE_elim h
    obtain ⟨r, hk, hr⟩ := vcIndex_sound hT h
    exact ⟨r, hk, quiet_val fun w _ => by simp only [execOp, ho, he.ev hv, he.ev hu, Sem.run_bind, hr w, Result.andThen_ok, Sem.run_pure]⟩
  · rename_i x i ho
    obtain ⟨v, hv, h⟩ := withE_elim h
    obtain ⟨r, hk, hr⟩ := extractK_sound (P := P) h
    exact ⟨r, hk, quiet_val fun w _ => by simp only [execOp, ho, he.ev hv, Sem.run_bind, hr w, Result.andThen_ok, Sem.run_pure]⟩
  · rename_i c ho
    unfold vcCallQ at h
    split at h
    · rename_i f hc
      obtain ⟨vs, h, hvs⟩ := argsK_sound he h
      obtain ⟨D1, v, hf, hd, hk⟩ := h
      have hargs : c.args.map a.eval = (vs.map V.enc).toArray := by rw [← hvs, ← Array.toList_map, Array.toArray_toList]
      refine ⟨v, hk, quiet_call (fun w => ?_) hf hd⟩
      simp only [execOp, ho, resolve, hc, Act.eval, Deferred.ofValue, Sem.run_bind, Sem.run_pure, Result.andThen_ok, invoke, hargs]
      simp [run_callFunc hf.1]
    · rename_i b hc
      obtain ⟨vs, h, hvs⟩ := argsK_sound he h
      have hargs : c.args.map a.eval = (vs.map V.enc).toArray := by rw [← hvs, ← Array.toList_map, Array.toArray_toList]
      have key := vcBuiltinQ_sound (P := P) (ty := o.type) hT h
      rw [Array.toArray_toList] at key
      obtain ⟨v, hk, hr⟩ := key
      refine ⟨v, hk, quiet_val fun w _ => ?_⟩
      simp only [execOp, ho, resolve, hc, Sem.run_bind, Sem.run_pure, Result.andThen_ok, invoke, hargs]
      exact hr w _
    · exact h.elim
  · rename_i x ho
    obtain ⟨v, hv, h⟩ := withE_elim h
    obtain ⟨hk, ha⟩ := nilK_sound (G := G) h
    exact ⟨v, hk, quiet_val fun w hw => by obtain ⟨a', ha⟩ := ha w hw; simp only [execOp, ho, he.ev hv, ha, Sem.run_pure]⟩
  · exact h.elim
structure EntP (L : List Chunk) (D : List Fact) (L' : List Chunk) (D' : List Fact) (A : Prop) : Prop where
  h : Ents L D L' D'
  k : A
def vcM (P : Program) (T : Ty) (N : Nat) (ops : List Oper) (eff : List Nat) (z : Nat) (L0 : List Chunk) (D0 : List Fact) : List Nat → Env → List Chunk → List Fact → Nat → Kont → Prop
  | [], env, L, D, nid, k => k env L D nid
  | i :: r, env, L, D, nid, k =>
    match ops[i]? with
    | none => False
    | some o =>
      wantK ops env o.guard
        (match eff.contains i with
        | false => vcQ P T o.op env L0 D0 fun v => putK N o.dst v env fun env' => vcM P T N ops eff z L0 D0 r env' L D nid k
        | true => vcOp P T o.op env L D nid fun v L' D' n' => match Nat.beq i z with
          | true => putK N o.dst v env fun env' => vcM P T N ops eff z L0 D0 r env' L' D' n' k
          | false => EntP L' D' L0 D0 (putK N o.dst v env fun env' => vcM P T N ops eff z L0 D0 r env' L' D' n' k))
        (putK N o.dst .t0 env fun env' => vcM P T N ops eff z L0 D0 r env' L D nid k)
theorem vcM_sound {T : Ty} {z : Nat} (hT : TyOK P T) (ops : List Oper) (eff : List Nat) {k : Kont} {Te : Act → List Chunk → List Fact → Prop} (hQ : ∀ env' L' D' n' a', k env' L' D' n' → EnvOK N env' a' → Te a' L' D') :
    ∀ (r : List Nat) (env : Env) (L : List Chunk) (D : List Fact) (nid : Nat) (a : Act), vcM P T N ops eff z L0 D0 r env L D nid k → EnvOK N env a → lexM P G ops.toArray (fun i => eff.contains i) z L0 D0 Te r a L D
  | [], env, L, D, nid, a, h, he => hQ _ _ _ _ _ h he
  | i :: r, env, L, D, nid, a, h, he => by
    simp only [vcM] at h
    simp only [lexM]
    cases ho : ops[i]? with
    | none => rw [ho] at h; exact h.elim
    | some o =>
      rw [ho] at h
      simp only [List.getElem?_toArray, ho]
      simp only at h
      rcases wantK_sound he h with ⟨hw, h⟩ | ⟨hw, h⟩
      · refine .inl ⟨hw, ?_⟩
        cases hef : eff.contains i with
        | false =>
          rw [hef] at h
          obtain ⟨v, hk, hq⟩ := vcQ_sound (G := G) hT he h
          obtain ⟨env', hk', he'⟩ := putK_sound hk he
          exact .inl ⟨rfl, v.enc, hq, vcM_sound hT ops eff hQ r env' L D nid _ hk' he'⟩
        | true =>
          rw [hef] at h
          refine .inr ⟨rfl, fun w hw' => (vcOp_sound hT h he hw').mono ?_⟩
          rintro u w' ⟨v, L', D', n', rfl, hk, hs'⟩
          cases hiz : Nat.beq i z with
          | true =>
            rw [hiz] at hk
            obtain ⟨env', hk', he'⟩ := putK_sound hk he
            exact ⟨L', D', hs', .inr (Nat.eq_of_beq_eq_true hiz), vcM_sound hT ops eff hQ r env' L' D' n' _ hk' he'⟩
          | false =>
            rw [hiz] at hk
            obtain ⟨env', hk', he'⟩ := putK_sound hk.k he
            exact ⟨L', D', hs', .inl hk.h, vcM_sound hT ops eff hQ r env' L' D' n' _ hk' he'⟩
      · obtain ⟨env', hk', he'⟩ := putK_sound h he
        exact .inr ⟨hw, vcM_sound hT ops eff hQ r env' L D nid _ hk' he'⟩
theorem J_draw {T : Ty} (hT : TyOK P T) (hm : P.follows .mixedOrders = true) {id : Nat} {ops : List Oper} {L : List Chunk} {D : List Fact} {nid : Nat} {K : Kt} (r eff : List Nat) (L0 : List Chunk) (D0 : List Fact) (hB : okB ops.toArray (fun i => eff.contains i) r = true) (hE : Ents L D L0 D0)
    (h : vcM P T N ops eff ops.length L0 D0 r env L D nid (K .normal)) : J P G N (.region id ops.toArray true) env L D nid K :=
  ⟨fun a w he hs => region_of_lexM (z := ops.length) (Te := fun a' L' D' => ∀ w', SatW G w' L' D' → PostK G N K .normal a' w') hm depOK_B hB (fun h => absurd h (by simp)) (fun _ _ _ w' h hw => h w' hw) (vcM_sound hT ops eff (fun env' L' D' n' a' hk he' w' hs' => ⟨env', L', D', n', hk, he', hs'⟩) r env L D nid a h he) hE hs⟩
theorem J_drawM {T : Ty} (hT : TyOK P T) (hm : P.follows .mixedOrders = true) {id : Nat} {ops : List Oper} {L : List Chunk} {D : List Fact} {nid : Nat} {K : Kt} (A r eff : List Nat) (L0 : List Chunk) (D0 : List Fact) (hB : okM A ops.toArray (fun i => eff.contains i) r = true) (hE : Ents L D L0 D0)
    (h : vcM P T N ops eff ops.length L0 D0 r env L D nid (K .normal)) : J P G N (.region id ops.toArray true) env L D nid K := by
  simp only [okM, Bool.and_eq_true] at hB
  exact ⟨fun a w he hs => region_of_lexM (z := ops.length) (Te := fun a' L' D' => ∀ w', SatW G w' L' D' → PostK G N K .normal a' w') hm (depOK_masks hB.1.2 hB.1.1) hB.2 (fun h => absurd h (by simp)) (fun _ _ _ w' h hw => h w' hw) (vcM_sound hT ops eff (fun env' L' D' n' a' hk he' w' hs' => ⟨env', L', D', n', hk, he', hs'⟩) r env L D nid a h he) hE hs⟩
structure TwoP (A B : Prop) : Prop where
  l : A
  r : B
end
end Go.X
namespace Go.X
open Go Go.RowKit
variable [Sm : Inhabited Manner] [Df : Inhabited (List Deferred)]
theorem CondP.yes {p A B : Prop} (h : p) (k : A) : CondP p A B := ⟨fun _ => k, fun hn => absurd h hn⟩
theorem CondP.no {p A B : Prop} (h : ¬ p) (k : B) : CondP p A B := ⟨fun hp => absurd hp h, fun _ => k⟩
def Kt.round (R : Env → List Chunk → List Fact → Nat → Prop) (K : Kt) : Kt := fun e env L D n =>
  match e with
  | .normal => R env L D n
  | e => K e env L D n
def JR (P : Program) (G : Ent) (N : Nat) (c : Code) (K : Kt) : Nat → Env → List Chunk → List Fact → Nat → Prop
  | 0, _, _, _, _ => False
  | n + 1, env, L, D, nid => J P G N c env L D nid (Kt.round (JR P G N c K n) K)
theorem JR_succ {P : Program} {G : Ent} {N : Nat} {c : Code} {K : Kt} {n : Nat} {env : Env} {L : List Chunk} {D : List Fact} {nid : Nat} (h : J P G N c env L D nid (Kt.round (JR P G N c K n) K)) : JR P G N c K (n + 1) env L D nid := h
theorem J_rounds {P : Program} {G : Ent} {N : Nat} {env : Env} {L : List Chunk} {D : List Fact} {nid : Nat} {K : Kt} {c : Code} (n : Nat) (h : JR P G N c K n env L D nid) : J P G N (.loop c) env L D nid K :=
  ⟨fun a w he hs => wp_loop_rounds n (by
    induction n generalizing env L D nid a w with
    | zero => exact h.elim
    | succ n ih =>
      rw [rounds_succ]
      refine wp_mono (J.run h a w he hs) fun e a' w' hq => ?_
      obtain ⟨env', L', D', n', hk, he', hs'⟩ := hq
      cases e with
      | normal => exact ih hk a' w' he' hs'
      | exit id => exact ⟨env', L', D', n', hk, he', hs'⟩
      | goto l => exact ⟨env', L', D', n', hk, he', hs'⟩
      | ret => exact ⟨env', L', D', n', hk, he', hs'⟩
      | panic ch => exact ⟨env', L', D', n', hk, he', hs'⟩
      | outgrown => exact ⟨env', L', D', n', hk, he', hs'⟩)⟩
structure JS (P : Program) (G : Ent) (N : Nat) (c : Code) (env : Env) (L : List Chunk) (D : List Fact) (nid : Nat) (K : Kt) : Prop where
  h : J P G N c env L D nid K
theorem J_stop {P : Program} {G : Ent} {N : Nat} {c : Code} {env : Env} {L : List Chunk} {D : List Fact} {nid : Nat} {K : Kt} (h : JS P G N c env L D nid K) : J P G N c env L D nid K := h.h
theorem Holds.ofBelow {w w' : World} {m : Im} {L : List Chunk} {D : List Fact} (h : Holds w m L D) (hb : Below w.heap.size w w') (hS : Sm.default ≠ .strict) : Holds w' m L D ∧ Fr w L m w' L m := by
  have hlt := mem_fps_lt h.ok
  refine ⟨⟨h.nd, allOk_of_same h.ok fun b hb' => hb.block b (hlt b hb'), fun b o ho => ?_, h.d⟩,
    ⟨hb.size, fun b hb' _ => hb.block b hb', fun _ hb' => .inl hb', fun _ _ h => h, fun _ _ h => .inl h, ⟨hb.os, hb.output, hb.size, fun e => absurd e hS, fun e => absurd e hS⟩⟩⟩
  have h1 := h.im b o ho
  exact ⟨by rw [hb.block b (Array.getElem?_eq_some_iff.1 h1.1).1]; exact h1.1, h1.2⟩
theorem fn_below {P : Program} {f : FuncId} {args : List V} {D : List Fact} {v : V} (hE : Enters P f)
    (h : ∀ w m, allD m D → (∀ b o, m b = some o → w.heap[b]? = some o) → Calls P f (args.map V.enc).toArray w fun e w' => e = .returned v.enc ∧ Below w.heap.size w w') (hS : Sm.default ≠ .strict := by decide) : FnS P f args [] D (Is v) := by
  refine ⟨hE, fun w m hh => (h w m hh.d (fun b o hb => (hh.im b o hb).1)).mono ?_⟩
  rintro e w' ⟨rfl, hb⟩
  have hh' : Holds w m [] [] := ⟨hh.nd, hh.ok, hh.im, trivial⟩
  obtain ⟨h1, h2⟩ := hh'.ofBelow hb hS
  exact ⟨v, [], [], m, rfl, ⟨rfl, rfl, rfl⟩, h1, h2⟩
theorem fn_pure {P : Program} {f : FuncId} {args : List V} {D : List Fact} {v : V} (hE : Enters P f) (h : ∀ w, Calls P f (args.map V.enc).toArray w fun e w' => e = .returned v.enc ∧ w' = w) : FnS P f args [] D (Is v) := by
  refine ⟨hE, fun w m hh => (h w).mono ?_⟩
  rintro e w' ⟨rfl, rfl⟩
  exact ⟨v, [], [], m, rfl, ⟨rfl, rfl, rfl⟩, ⟨hh.nd, hh.ok, hh.im, trivial⟩, Fr.refl _ _ _⟩
theorem below_drewN (w : World) (n : Nat) : Below w.heap.size w (w.drewN n) := ⟨rfl, rfl, rfl, Nat.le_refl _, fun _ _ => rfl⟩
theorem CallP.is {P : Program} {f : FuncId} {args : List V} {L : List Chunk} {D D0 : List Fact} {v : V} {K : V → List Chunk → List Fact → Prop} (h : FnS P f args [] D0 (Is v)) (k : K v L D)
    (hd : ∀ m, allD m D → allD m D0 := by first | exact fun _ _ => trivial | exact fun _ h => h | exact fun _ h => ⟨h.1, trivial⟩ | exact fun _ h => ⟨h.2.1, trivial⟩) : CallP P f args L D K :=
  CallP.mk [] L D0 (Is v) h (.refl _) hd ( by rintro _ _ _ ⟨rfl, rfl, rfl⟩; exact k)
theorem CallP.isF {P : Program} {f : FuncId} {args : List V} {L : List Chunk} {D D0 : List Fact} {K : V → List Chunk → List Fact → Prop} (b : Bool) (g : Bool → V) (h : FnS P f args [] D0 (Is (g b)))
    (kt : b = true → K (g true) L D) (kf : b = false → K (g false) L D)
    (hd : ∀ m, allD m D → allD m D0 := by first | exact fun _ _ => trivial | exact fun _ h => h | exact fun _ h => ⟨h.1, trivial⟩ | exact fun _ h => ⟨h.2.1, trivial⟩) : CallP P f args L D K := by
  cases b with
  | true => exact CallP.is h (kt rfl) hd
  | false => exact CallP.is h (kf rfl) hd
theorem CallP.isB {P : Program} {f : FuncId} {args : List V} {L : List Chunk} {D D0 : List Fact} {K : V → List Chunk → List Fact → Prop} {b : Bool} (h : FnS P f args [] D0 (Is (.c (.b b))))
    (kt : b = true → K (.c (.b true)) L D) (kf : b = false → K (.c (.b false)) L D)
    (hd : ∀ m, allD m D → allD m D0 := by first | exact fun _ _ => trivial | exact fun _ h => h | exact fun _ h => ⟨h.1, trivial⟩ | exact fun _ h => ⟨h.2.1, trivial⟩) : CallP P f args L D K :=
  CallP.isF b (fun b => .c (.b b)) h kt kf hd
theorem FinE.is {L : List Chunk} {D : List Fact} {v v' : V} (h : v' = v) : FinE (Is v) L D v' := ⟨[], [], ⟨h, rfl, rfl⟩, Ents.dropAll.trans (Ents.facts fun _ _ => trivial)⟩
theorem FinE.bool {L : List Chunk} {D : List Fact} {b b' : Bool} (h : b' = b) : FinE (Is (.c (.b b'))) L D (.c (.b b)) := FinE.is (by rw [h])
theorem FinE.str {L : List Chunk} {D : List Fact} {b b' : List UInt8} (h : b' = b) : FinE (Is (.c (.s b'))) L D (.c (.s b)) := FinE.is (by rw [h])
theorem FinE.int {L : List Chunk} {D : List Fact} {k : IntKind} {b b' : Int} (h : b' = b) : FinE (Is (.c (.i k b'))) L D (.c (.i k b)) := FinE.is (by rw [h])
theorem Ents.ofSub {L L0 : List Chunk} {D D0 : List Fact} (h : L0.Sublist L) (hd : ∀ m, allD m D → allD m D0) : Ents L D L0 D0 := by
  obtain ⟨R, hR⟩ := h.exists_perm_append
  exact (Ents.sub ⟨R, hR.trans List.perm_append_comm⟩).trans (Ents.facts hd)
def slotIds (env : Env) : List Nat → List Nat
  | [] => []
  | s :: r => match look env s with
    | some (.c (.p id _ _)) => id :: slotIds env r
    | _ => slotIds env r
def hasId (n : Nat) : List Nat → Bool
  | [] => false
  | i :: r => match Nat.beq i n with
    | true => true
    | false => hasId n r
def keepC (b : Bool) (ids : List Nat) : List Chunk → List Chunk
  | [] => []
  | .box id ad ty cs :: r => match hasId id ids with
    | true => .box id ad ty cs :: keepC b ids r
    | false => keepC b ids r
  | .row e z a n c cs :: r => match b with
    | true => .row e z a n c cs :: keepC b ids r
    | false => keepC b ids r
  | .obj id ad o :: r => match hasId id ids with
    | true => .obj id ad o :: keepC b ids r
    | false => keepC b ids r
theorem keepC_sub (b : Bool) (ids : List Nat) : ∀ L : List Chunk, (keepC b ids L).Sublist L
  | [] => .slnil
  | .box id ad ty cs :: r => by
    simp only [keepC]; split
    · exact (keepC_sub b ids r).cons_cons _
    · exact (keepC_sub b ids r).cons _
  | .row e z a n c cs :: r => by
    simp only [keepC]; split
    · exact (keepC_sub _ ids r).cons_cons _
    · exact (keepC_sub _ ids r).cons _
  | .obj id ad o :: r => by
    simp only [keepC]; split
    · exact (keepC_sub _ ids r).cons_cons _
    · exact (keepC_sub _ ids r).cons _
theorem J_drawS {P : Program} {G : Ent} {N : Nat} {env : Env} {T : Ty} (hT : TyOK P T) (hm : P.follows .mixedOrders = true) {id : Nat} {ops : List Oper} {L : List Chunk} {D : List Fact} {nid : Nat} {K : Kt} (A r eff slots : List Nat) (b : Bool)
    (hB : okM A ops.toArray (fun i => eff.contains i) r = true) (h : vcM P T N ops eff ops.length (keepC b (slotIds env slots) L) D r env L D nid (K .normal)) : J P G N (.region id ops.toArray true) env L D nid K :=
  J_drawM hT hm A r eff _ D hB (Ents.ofSub (keepC_sub _ _ _) fun _ h => h) h
def gInt (g : Nat) : Fact :=
  ⟨fun m => ∃ cs t fr n, m g = some (.cells cs t fr) ∧ cs[0]? = some (.int .i64 n), fun _ _ hm ⟨cs, t, fr, n, h1, h2⟩ => ⟨cs, t, fr, n, hm _ _ h1, h2⟩⟩
theorem gInt_cell {g : Nat} {m : Im} {w : World} (h : allD m [gInt g]) (hw : ∀ b o, m b = some o → w.heap[b]? = some o) : ∃ n, w.cell? ⟨g, 0, none⟩ = some (.int .i64 n) := by
  obtain ⟨⟨cs, t, fr, n, h1, h2⟩, _⟩ := h
  refine ⟨n, ?_⟩
  have := hw _ _ h1
  simp [World.cell?, this, h2]
theorem map_take1 {α : Type} {f : α → C} {l : List α} {i : Nat} (h : i < l.length) : ((l.map f).drop (i * 1 + 0)).take 1 = [f l[i]] := by
  rw [Nat.mul_one, Nat.add_zero, ← List.map_drop, ← List.map_take, List.drop_eq_getElem_cons h]; rfl
theorem J_cap {P : Program} {G : Ent} {N : Nat} {c0 : Code} {env : Env} {L : List Chunk} {D : List Fact} {nid : Nat} {K : Kt} {e z : Nat} {a : Option Addr} {n c : Nat} {cs : List C} (hm : .row e z a n c cs ∈ L) (k : n ≤ c → c ≤ maxLen → cs.length = n * z → J P G N c0 env L D nid K) : J P G N c0 env L D nid K :=
  ⟨fun ac w he hs => by
    obtain ⟨m, h1, _⟩ := id hs
    have hr := (allOk_mem h1.ok hm).2
    have h : n ≤ c ∧ c ≤ maxLen ∧ cs.length = n * z := by
      rcases hr with ⟨_, rfl, rfl, rfl⟩ | ⟨g, _, cur, lo, hi, _, h2, h3, _, _, h4, _⟩
      · exact ⟨Nat.le_refl _, Nat.zero_le _, by simp⟩
      · exact ⟨h2, h3, h4⟩
    exact (k h.1 h.2.1 h.2.2).run ac w he hs⟩
structure Same (L L' : List Chunk) : Prop where
  f : fps L' = fps L
  ok : ∀ w, allOk w L' ↔ allOk w L
theorem FnS.same {P : Program} {f : FuncId} {args args' : List V} {L L' : List Chunk} {D : List Fact} {post post' : V → List Chunk → List Fact → Prop} (h : FnS P f args L D post) (ha : args'.map V.enc = args.map V.enc) (hL : Same L L')
    (hp : ∀ v L1 D1, post v L1 D1 → ∃ L2, Same L1 L2 ∧ post' v L2 D1) : FnS P f args' L' D post' := by
  refine ⟨h.en, fun w m hh => ?_⟩
  rw [ha]
  refine (h.run w m ⟨by rw [← hL.f]; exact hh.nd, (hL.ok w).1 hh.ok, fun b o hb => by rw [← hL.f]; exact hh.im b o hb, hh.d⟩).mono ?_
  rintro e w' ⟨v, L1, D1, m', he, hpost, h3, h4⟩
  obtain ⟨L2, hs, hp2⟩ := hp v L1 D1 hpost
  exact ⟨v, L2, D1, m', he, hp2, ⟨by rw [hs.f]; exact h3.nd, (hs.ok w').2 h3.ok, fun b o hb => by rw [hs.f]; exact h3.im b o hb, h3.d⟩,
    ⟨h4.size, fun b hb hn => h4.same b hb (by rw [← hL.f]; exact hn), fun b hb => by rw [hL.f]; exact h4.own b (by rw [← hs.f]; exact hb), h4.im, fun b o hb => by rw [hL.f]; exact h4.new b o hb, h4.kept⟩⟩
theorem flat_len {α : Type} {F : α → List C} {z : Nat} (hz : ∀ g, (F g).length = z) (l : List α) : (l.flatMap F).length = l.length * z := by
  induction l with
  | nil => simp
  | cons x r ih => rw [List.flatMap_cons, List.length_append, hz, ih, List.length_cons, Nat.add_mul]; omega
theorem flat_get {α : Type} {F : α → List C} {z : Nat} (hz : ∀ g, (F g).length = z) : ∀ {l : List α} {i : Nat} (h : i < l.length) {o k : Nat}, o + k ≤ z → ((l.flatMap F).drop (i * z + o)).take k = ((F l[i]).drop o).take k
  | x :: r, 0, _, o, k, hk => by
    rw [List.flatMap_cons, Nat.zero_mul, Nat.zero_add, List.drop_append_of_le_length (by rw [hz]; omega), List.take_append_of_le_length (by rw [List.length_drop, hz]; omega)]
    rfl
  | x :: r, i + 1, h, o, k, hk => by
    have ih := flat_get (F := F) hz (l := r) (i := i) (by simpa using h) hk
    rw [List.flatMap_cons, show (i + 1) * z + o = z + (i * z + o) by rw [Nat.add_mul]; omega, ← List.drop_drop, show (F x ++ r.flatMap F).drop z = r.flatMap F by rw [← hz x]; simp, ih]
    simp
theorem flat_take {α : Type} {F : α → List C} {z : Nat} (hz : ∀ g, (F g).length = z) (l : List α) (i : Nat) (h : i ≤ l.length) : (l.flatMap F).take (i * z) = (l.take i).flatMap F := by
  induction l generalizing i with
  | nil => simp
  | cons x r ih =>
    cases i with
    | zero => simp
    | succ i =>
      rw [List.flatMap_cons, show (i + 1) * z = z + i * z by rw [Nat.add_mul]; omega, List.take_add, show (F x ++ r.flatMap F).take z = F x by rw [← hz x]; simp, show (F x ++ r.flatMap F).drop z = r.flatMap F by rw [← hz x]; simp, ih i (by simpa using h)]
      simp
theorem setC_left {o : Nat} {ns a b : List C} (h : o + ns.length ≤ a.length) : setC o ns (a ++ b) = setC o ns a ++ b := by
  unfold setC
  rw [List.take_append_of_le_length (by omega), List.drop_append_of_le_length (by omega)]
  simp
theorem setC_right {o : Nat} {ns a b : List C} : setC (a.length + o) ns (a ++ b) = a ++ setC o ns b := by
  unfold setC
  rw [List.take_append, List.drop_append, List.take_of_length_le (by omega), List.drop_eq_nil_of_le (by omega)]
  simp [Nat.add_sub_cancel_left, show a.length + o + ns.length - a.length = o + ns.length by omega]
theorem setC_flat {α : Type} {F : α → List C} {z : Nat} (hF : ∀ x, (F x).length = z) : ∀ {l : List α} {j : Nat} (hj : j < l.length) {o : Nat} {ns : List C} {x' : α}, o + ns.length ≤ z → setC o ns (F l[j]) = F x' → setC (j * z + o) ns (l.flatMap F) = (l.set j x').flatMap F
  | [], j, hj, _, _, _, _, _ => by simp at hj
  | x :: r, 0, _, o, ns, x', ho, hx => by
    rw [Nat.zero_mul, Nat.zero_add, List.flatMap_cons, setC_left (by rw [hF]; exact ho)]
    show _ = (x' :: r).flatMap F
    rw [List.flatMap_cons, ← hx]
    rfl
  | x :: r, j + 1, hj, o, ns, x', ho, hx => by
    have ih := setC_flat hF (l := r) (j := j) (by simpa using hj) ho hx
    rw [List.flatMap_cons, show (j + 1) * z + o = (F x).length + (j * z + o) by rw [hF, Nat.succ_mul]; omega, setC_right, ih]
    rfl
theorem pos_of_ne {α : Type} {l : List α} (h : ¬ l = []) : 0 < l.length := List.length_pos_iff.2 h
end Go.X
