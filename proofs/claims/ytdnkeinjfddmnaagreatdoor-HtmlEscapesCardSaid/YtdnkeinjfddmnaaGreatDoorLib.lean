/- This text turns contracts of the kit's shelf into contracts of the symbolic executor, and adds a few rules to it. -/
import Derived.Test.YtdnkeinjfddmnaaGreatDoorDraw
import Derived.Below
import Derived.Deep.Draws
import Derived.LoopN
set_option linter.all false

namespace Go.X
open Go Go.RowKit
variable [Sm : Inhabited Manner] [Df : Inhabited (List Deferred)]

theorem CondP.yes {p A B : Prop} (h : p) (k : A) : CondP p A B := ⟨fun _ => k, fun hn => absurd h hn⟩
theorem CondP.no {p A B : Prop} (h : ¬ p) (k : B) : CondP p A B := ⟨fun hp => absurd hp h, fun _ => k⟩

/-- A loop of few rounds, walked round by round. -/
def Kt.round (R : Env → List Chunk → List Fact → Nat → Prop) (K : Kt) : Kt := fun e env L D n =>
  match e with
  | .normal => R env L D n
  | e => K e env L D n

def JR (P : Program) (G : Ent) (N : Nat) (c : Code) (K : Kt) : Nat → Env → List Chunk → List Fact → Nat → Prop
  | 0, _, _, _, _ => False
  | n + 1, env, L, D, nid => J P G N c env L D nid (Kt.round (JR P G N c K n) K)

theorem JR_succ {P : Program} {G : Ent} {N : Nat} {c : Code} {K : Kt} {n : Nat} {env : Env} {L : List Chunk} {D : List Fact} {nid : Nat} (h : J P G N c env L D nid (Kt.round (JR P G N c K n) K)) : JR P G N c K (n + 1) env L D nid := h

theorem J_rounds {P : Program} {G : Ent} {N : Nat} {env : Env} {L : List Chunk} {D : List Fact} {nid : Nat} {K : Kt} {c : Code} (n : Nat) (h : JR P G N c K n env L D nid) : J P G N (.loop c) env L D nid K :=
  ⟨fun a w he hs => wp_loop_rounds n (by
    induction n generalizing env L D nid a w with
    | zero => exact h.elim
    | succ n ih =>
      rw [rounds_succ]
      refine wp_mono (J.run h a w he hs) fun e a' w' hq => ?_
      obtain ⟨env', L', D', n', hk, he', hs'⟩ := hq
      cases e with
      | normal => exact ih hk a' w' he' hs'
      | exit id => exact ⟨env', L', D', n', hk, he', hs'⟩
      | goto l => exact ⟨env', L', D', n', hk, he', hs'⟩
      | ret => exact ⟨env', L', D', n', hk, he', hs'⟩
      | panic ch => exact ⟨env', L', D', n', hk, he', hs'⟩
      | outgrown => exact ⟨env', L', D', n', hk, he', hs'⟩)⟩

/-- A place at which the walk is to stop. -/
structure JS (P : Program) (G : Ent) (N : Nat) (c : Code) (env : Env) (L : List Chunk) (D : List Fact) (nid : Nat) (K : Kt) : Prop where
  h : J P G N c env L D nid K
theorem J_stop {P : Program} {G : Ent} {N : Nat} {c : Code} {env : Env} {L : List Chunk} {D : List Fact} {nid : Nat} {K : Kt} (h : JS P G N c env L D nid K) : J P G N c env L D nid K := h.h

theorem Holds.ofBelow {w w' : World} {m : Im} {L : List Chunk} {D : List Fact} (h : Holds w m L D) (hb : Below w.heap.size w w') (hS : Sm.default ≠ .strict) : Holds w' m L D ∧ Fr w L m w' L m := by
  have hlt := mem_fps_lt h.ok
  refine ⟨⟨h.nd, allOk_of_same h.ok fun b hb' => hb.block b (hlt b hb'), fun b o ho => ?_, h.d⟩,
    ⟨hb.size, fun b hb' _ => hb.block b hb', fun _ hb' => .inl hb', fun _ _ h => h, fun _ _ h => .inl h, ⟨hb.os, hb.output, hb.size, fun e => absurd e hS, fun e => absurd e hS⟩⟩⟩
  have h1 := h.im b o ho
  exact ⟨by rw [hb.block b (Array.getElem?_eq_some_iff.1 h1.1).1]; exact h1.1, h1.2⟩

/-- A call that touches nothing that was there. -/
theorem fn_below {P : Program} {f : FuncId} {args : List V} {D : List Fact} {v : V} (hE : Enters P f)
    (h : ∀ w m, allD m D → (∀ b o, m b = some o → w.heap[b]? = some o) → Calls P f (args.map V.enc).toArray w fun e w' => e = .returned v.enc ∧ Below w.heap.size w w') (hS : Sm.default ≠ .strict := by decide) : FnS P f args [] D (Is v) := by
  refine ⟨hE, fun w m hh => (h w m hh.d (fun b o hb => (hh.im b o hb).1)).mono ?_⟩
  rintro e w' ⟨rfl, hb⟩
  have hh' : Holds w m [] [] := ⟨hh.nd, hh.ok, hh.im, trivial⟩
  obtain ⟨h1, h2⟩ := hh'.ofBelow hb hS
  exact ⟨v, [], [], m, rfl, ⟨rfl, rfl, rfl⟩, h1, h2⟩

theorem fn_pure {P : Program} {f : FuncId} {args : List V} {D : List Fact} {v : V} (hE : Enters P f) (h : ∀ w, Calls P f (args.map V.enc).toArray w fun e w' => e = .returned v.enc ∧ w' = w) : FnS P f args [] D (Is v) := by
  refine ⟨hE, fun w m hh => (h w).mono ?_⟩
  rintro e w' ⟨rfl, rfl⟩
  exact ⟨v, [], [], m, rfl, ⟨rfl, rfl, rfl⟩, ⟨hh.nd, hh.ok, hh.im, trivial⟩, Fr.refl _ _ _⟩
theorem below_drewN (w : World) (n : Nat) : Below w.heap.size w (w.drewN n) := ⟨rfl, rfl, rfl, Nat.le_refl _, fun _ _ => rfl⟩

/-- A call whose result is known and that leaves nothing behind. -/
theorem CallP.is {P : Program} {f : FuncId} {args : List V} {L : List Chunk} {D D0 : List Fact} {v : V} {K : V → List Chunk → List Fact → Prop} (h : FnS P f args [] D0 (Is v)) (k : K v L D)
    (hd : ∀ m, allD m D → allD m D0 := by first | exact fun _ _ => trivial | exact fun _ h => h | exact fun _ h => ⟨h.1, trivial⟩ | exact fun _ h => ⟨h.2.1, trivial⟩) : CallP P f args L D K :=
  CallP.mk [] L D0 (Is v) h (.refl _) hd ( by rintro _ _ _ ⟨rfl, rfl, rfl⟩; exact k)

/-- Likewise, after what is owned was seen anew. -/
theorem CallP.isE {P : Program} {f : FuncId} {args : List V} {L L1 : List Chunk} {D D0 D1 : List Fact} {v : V} {K : V → List Chunk → List Fact → Prop} (h : FnS P f args [] D0 (Is v)) (hE : Ents L D L1 D1) (hd : ∀ m, allD m D1 → allD m D0) (k : K v L1 D1) : CallP P f args L D K :=
  .mkE [] L1 D0 D1 (Is v) h hE hd (by rintro _ _ _ ⟨rfl, rfl, rfl⟩; exact k)

/-- A call whose result depends on a truth value, which is decided here. -/
theorem CallP.isF {P : Program} {f : FuncId} {args : List V} {L : List Chunk} {D D0 : List Fact} {K : V → List Chunk → List Fact → Prop} (b : Bool) (g : Bool → V) (h : FnS P f args [] D0 (Is (g b)))
    (kt : b = true → K (g true) L D) (kf : b = false → K (g false) L D)
    (hd : ∀ m, allD m D → allD m D0 := by first | exact fun _ _ => trivial | exact fun _ h => h | exact fun _ h => ⟨h.1, trivial⟩ | exact fun _ h => ⟨h.2.1, trivial⟩) : CallP P f args L D K := by
  cases b with
  | true => exact CallP.is h (kt rfl) hd
  | false => exact CallP.is h (kf rfl) hd
theorem CallP.isB {P : Program} {f : FuncId} {args : List V} {L : List Chunk} {D D0 : List Fact} {K : V → List Chunk → List Fact → Prop} {b : Bool} (h : FnS P f args [] D0 (Is (.c (.b b))))
    (kt : b = true → K (.c (.b true)) L D) (kf : b = false → K (.c (.b false)) L D)
    (hd : ∀ m, allD m D → allD m D0 := by first | exact fun _ _ => trivial | exact fun _ h => h | exact fun _ h => ⟨h.1, trivial⟩ | exact fun _ h => ⟨h.2.1, trivial⟩) : CallP P f args L D K :=
  CallP.isF b (fun b => .c (.b b)) h kt kf hd

/-- The end of a function that gives v and leaves nothing behind. -/
theorem FinE.is {L : List Chunk} {D : List Fact} {v v' : V} (h : v' = v) : FinE (Is v) L D v' := ⟨[], [], ⟨h, rfl, rfl⟩, Ents.dropAll.trans (Ents.facts fun _ _ => trivial)⟩

theorem FinE.bool {L : List Chunk} {D : List Fact} {b b' : Bool} (h : b' = b) : FinE (Is (.c (.b b'))) L D (.c (.b b)) := FinE.is (by rw [h])
theorem FinE.str {L : List Chunk} {D : List Fact} {b b' : List UInt8} (h : b' = b) : FinE (Is (.c (.s b'))) L D (.c (.s b)) := FinE.is (by rw [h])
theorem FinE.int {L : List Chunk} {D : List Fact} {k : IntKind} {b b' : Int} (h : b' = b) : FinE (Is (.c (.i k b'))) L D (.c (.i k b)) := FinE.is (by rw [h])

theorem Ents.ofSub {L L0 : List Chunk} {D D0 : List Fact} (h : L0.Sublist L) (hd : ∀ m, allD m D → allD m D0) : Ents L D L0 D0 := by
  obtain ⟨R, hR⟩ := h.exists_perm_append
  exact (Ents.sub ⟨R, hR.trans List.perm_append_comm⟩).trans (Ents.facts hd)

/-- The boxes to which the slots point. -/
def slotIds (env : Env) : List Nat → List Nat
  | [] => []
  | s :: r => match look env s with
    | some (.c (.p id _ _)) => id :: slotIds env r
    | _ => slotIds env r
def hasId (n : Nat) : List Nat → Bool
  | [] => false
  | i :: r => match Nat.beq i n with
    | true => true
    | false => hasId n r
/-- The boxes of the slots, and (b) all rows. -/
def keepC (b : Bool) (ids : List Nat) : List Chunk → List Chunk
  | [] => []
  | .box id ad ty cs :: r => match hasId id ids with
    | true => .box id ad ty cs :: keepC b ids r
    | false => keepC b ids r
  | .row e z a n c cs :: r => match b with
    | true => .row e z a n c cs :: keepC b ids r
    | false => keepC b ids r
  | .obj id ad o :: r => match hasId id ids with
    | true => .obj id ad o :: keepC b ids r
    | false => keepC b ids r
theorem keepC_sub (b : Bool) (ids : List Nat) : ∀ L : List Chunk, (keepC b ids L).Sublist L
  | [] => .slnil
  | .box id ad ty cs :: r => by
    simp only [keepC]; split
    · exact (keepC_sub b ids r).cons_cons _
    · exact (keepC_sub b ids r).cons _
  | .row e z a n c cs :: r => by
    simp only [keepC]; split
    · exact (keepC_sub _ ids r).cons_cons _
    · exact (keepC_sub _ ids r).cons _
  | .obj id ad o :: r => by
    simp only [keepC]; split
    · exact (keepC_sub _ ids r).cons_cons _
    · exact (keepC_sub _ ids r).cons _

/-- A region that draws its order; what its quiet operations look at is named by slots. -/
theorem J_drawS {P : Program} {G : Ent} {N : Nat} {env : Env} {T : Ty} (hT : TyOK P T) (hm : P.follows .mixedOrders = true) {id : Nat} {ops : List Oper} {L : List Chunk} {D : List Fact} {nid : Nat} {K : Kt} (A r eff slots : List Nat) (b : Bool)
    (hB : okM A ops.toArray (fun i => eff.contains i) r = true) (h : vcM P T N ops eff ops.length (keepC b (slotIds env slots) L) D r env L D nid (K .normal)) : J P G N (.region id ops.toArray true) env L D nid K :=
  J_drawM hT hm A r eff _ D hB (Ents.ofSub (keepC_sub _ _ _) fun _ h => h) h
/-- The same, where z is the last operation in every order. -/
theorem J_drawZ {P : Program} {G : Ent} {N : Nat} {env : Env} {T : Ty} (hT : TyOK P T) (hm : P.follows .mixedOrders = true) {id : Nat} {ops : List Oper} {L : List Chunk} {D : List Fact} {nid : Nat} {K : Kt} (A r eff slots : List Nat) (z : Nat) (b : Bool)
    (hB : (okM A ops.toArray (fun i => eff.contains i) r && lastB A z r) = true) (h : vcM P T N ops eff z (keepC b (slotIds env slots) L) D r env L D nid (K .normal)) : J P G N (.region id ops.toArray true) env L D nid K :=
  J_drawZ0 hT hm A r eff z _ D hB (Ents.ofSub (keepC_sub _ _ _) fun _ h => h) h
/-- The same, where two operations that work on memory may come in either order. -/
theorem J_drawT {P : Program} {G : Ent} {N : Nat} {env : Env} {T : Ty} (hT : TyOK P T) (hm : P.follows .mixedOrders = true) {id : Nat} {ops : List Oper} {L : List Chunk} {D : List Fact} {nid : Nat} {K : Kt} (A pre : List Nat) (e1 : Nat) (q1 : List Nat) (e2 : Nat) (q2 eff slots : List Nat) (z : Nat) (b : Bool)
    (hB : okM2 A ops.toArray (fun i => eff.contains i) pre e1 q1 e2 q2 z = true) (h : vcM P T N ops eff z (keepC b (slotIds env slots) L) D pre env L D nid fun env' L' D' n' => TwoP (vcM P T N ops eff z (keepC b (slotIds env slots) L) D (e1 :: q1) env' L' D' n' (K .normal)) (vcM P T N ops eff z (keepC b (slotIds env slots) L) D (e2 :: q2) env' L' D' n' (K .normal))) :
    J P G N (.region id ops.toArray true) env L D nid K :=
  J_drawT0 hT hm A pre e1 q1 e2 q2 eff z _ D hB (Ents.ofSub (keepC_sub _ _ _) fun _ h => h) h

/-- A whole number of Go's library that starts as anything: block g holds an int. -/
def gInt (g : Nat) : Fact :=
  ⟨fun m => ∃ cs t fr n, m g = some (.cells cs t fr) ∧ cs[0]? = some (.int .i64 n), fun _ _ hm ⟨cs, t, fr, n, h1, h2⟩ => ⟨cs, t, fr, n, hm _ _ h1, h2⟩⟩

theorem gInt_cell {g : Nat} {m : Im} {w : World} (h : allD m [gInt g]) (hw : ∀ b o, m b = some o → w.heap[b]? = some o) : ∃ n, w.cell? ⟨g, 0, none⟩ = some (.int .i64 n) := by
  obtain ⟨⟨cs, t, fr, n, h1, h2⟩, _⟩ := h
  refine ⟨n, ?_⟩
  have := hw _ _ h1
  simp [World.cell?, this, h2]

/-- The cells of a slice that does not change, in a world. -/
theorem slF_cells {m : Im} {w : World} {ety esz : Nat} {a : Option Addr} {n : Nat} {cs : List C} (h : SlF m ety esz a n cs) (hn : n ≠ 0) (hw : ∀ b o, m b = some o → w.heap[b]? = some o) :
    ∃ g off, a = some ⟨g, off, none⟩ ∧ g < w.heap.size ∧ cs.length = n * esz ∧ ∀ (j : Nat) (x : C), cs[j]? = some x → w.cell? ⟨g, off + j, none⟩ = some x.enc := by
  obtain ⟨h1, ⟨hn0, _⟩ | ⟨g, off, cur, ty, lo, hi, ha, hm, hl, ht⟩⟩ := h
  · exact absurd hn0 hn
  · have hg := hw _ _ hm
    refine ⟨g, off, ha, (Array.getElem?_eq_some_iff.1 hg).1, hl, fun j x hx => ?_⟩
    have : ((cur.toList.drop off).take (n * esz))[j]? = some x.enc := by rw [ht]; simp [hx]
    have hj : j < n * esz := by
      have := (List.getElem?_eq_some_iff.1 hx).1
      omega
    rw [List.getElem?_take_of_lt hj, List.getElem?_drop] at this
    simp only [World.cell?, hg]
    simpa using this

theorem map_take1 {α : Type} {f : α → C} {l : List α} {i : Nat} (h : i < l.length) : ((l.map f).drop (i * 1 + 0)).take 1 = [f l[i]] := by
  rw [Nat.mul_one, Nat.add_zero, ← List.map_drop, ← List.map_take, List.drop_eq_getElem_cons h]; rfl
theorem byte_take1 {l : List UInt8} {i : Nat} (h : i < l.length) : ((l.map byteC).drop (i * 1 + 0)).take 1 = [byteC (l.getD i 0)] := by
  rw [map_take1 h]; simp [h]
theorem setC_map {α : Type} {f : α → C} {l : List α} {i : Nat} {x : α} (h : i < l.length) : setC (i * 1 + 0) [f x] (l.map f) = (l.set i x).map f := by
  rw [Nat.mul_one, Nat.add_zero, List.map_set, List.set_eq_take_append_cons_drop, if_pos (by simpa using h)]; simp [setC]
/-- A row's length is at most its room. -/
theorem J_cap {P : Program} {G : Ent} {N : Nat} {c0 : Code} {env : Env} {L : List Chunk} {D : List Fact} {nid : Nat} {K : Kt} {e z : Nat} {a : Option Addr} {n c : Nat} {cs : List C} (hm : .row e z a n c cs ∈ L) (k : n ≤ c → c ≤ maxLen → cs.length = n * z → J P G N c0 env L D nid K) : J P G N c0 env L D nid K :=
  ⟨fun ac w he hs => by
    obtain ⟨m, h1, _⟩ := id hs
    have hr := (allOk_mem h1.ok hm).2
    have h : n ≤ c ∧ c ≤ maxLen ∧ cs.length = n * z := by
      rcases hr with ⟨_, rfl, rfl, rfl⟩ | ⟨g, _, cur, lo, hi, _, h2, h3, _, _, h4, _⟩
      · exact ⟨Nat.le_refl _, Nat.zero_le _, by simp⟩
      · exact ⟨h2, h3, h4⟩
    exact (k h.1 h.2.1 h.2.2).run ac w he hs⟩

/-- A part of a slice that does not change. -/
theorem slFact_sub {m : Im} {e z : Nat} {a : Option Addr} {n c lo hi : Nat} {cs : List C} (h : (slFact e z a n cs).p m) (hl : lo ≤ hi) (hn : hi ≤ n) (hc : n ≤ c) : (slFact e z (resl a lo c z) (hi - lo) ((cs.take (hi * z)).drop (lo * z))).p m := by
  obtain ⟨h1, h2⟩ := h
  have hone : oneAll ((cs.take (hi * z)).drop (lo * z)) := fun x hx => h1 x (List.mem_of_mem_take (List.mem_of_mem_drop hx))
  refine ⟨hone, ?_⟩
  rcases h2 with ⟨h3, h4⟩ | ⟨g, off, cur, ty, lo', hi', h3, h4, h5, h6⟩
  · exact .inl ⟨by omega, by rw [h4]; simp⟩
  · have hlz : lo * z ≤ hi * z := Nat.mul_le_mul_right _ hl
    have hnz : hi * z ≤ n * z := Nat.mul_le_mul_right _ hn
    have hlen : ((cs.take (hi * z)).drop (lo * z)).length = (hi - lo) * z := by rw [List.length_drop, List.length_take, h5, Nat.min_eq_left hnz, Nat.sub_mul]
    by_cases hcl : c = lo
    · have : hi - lo = 0 := by omega
      refine .inl ⟨this, List.eq_nil_of_length_eq_zero (by rw [hlen, this]; simp)⟩
    · refine .inr ⟨g, off + lo * z, cur, ty, lo', hi', ?_, h4, hlen, ?_⟩
      · unfold resl
        rw [if_neg hcl, h3]
        simp [addr_add]
      · rw [List.map_drop, List.map_take, ← h6, List.take_take, Nat.min_eq_left hnz, List.drop_take, List.drop_drop, ← Nat.sub_mul]

theorem slFact_pre {m : Im} {e z : Nat} {a : Option Addr} {n hi : Nat} (c : Nat) {cs : List C} (h : (slFact e z a n cs).p m) (hn : hi ≤ n) : (slFact e z (resl a 0 c z) hi (cs.take (hi * z))).p m := by
  obtain ⟨h1, h2⟩ := h
  refine ⟨fun x hx => h1 x (List.mem_of_mem_take hx), ?_⟩
  rcases h2 with ⟨h3, h4⟩ | ⟨g, off, cur, ty, lo', hi', h3, h4, h5, h6⟩
  · exact .inl ⟨by omega, by rw [h4]; simp⟩
  · have hnz : hi * z ≤ n * z := Nat.mul_le_mul_right _ hn
    refine .inr ⟨g, off, cur, ty, lo', hi', ?_, h4, by rw [List.length_take, h5, Nat.min_eq_left hnz], ?_⟩
    · unfold resl
      rw [h3]
      split
      · rfl
      · simp [addr_add]
    · rw [List.map_take, ← h6, List.take_take, Nat.min_eq_left hnz]

/-- The same memory under other names. -/
structure Same (L L' : List Chunk) : Prop where
  f : fps L' = fps L
  ok : ∀ w, allOk w L' ↔ allOk w L
theorem FnS.same {P : Program} {f : FuncId} {args args' : List V} {L L' : List Chunk} {D : List Fact} {post post' : V → List Chunk → List Fact → Prop} (h : FnS P f args L D post) (ha : args'.map V.enc = args.map V.enc) (hL : Same L L')
    (hp : ∀ v L1 D1, post v L1 D1 → ∃ L2, Same L1 L2 ∧ post' v L2 D1) : FnS P f args' L' D post' := by
  refine ⟨h.en, fun w m hh => ?_⟩
  rw [ha]
  refine (h.run w m ⟨by rw [← hL.f]; exact hh.nd, (hL.ok w).1 hh.ok, fun b o hb => by rw [← hL.f]; exact hh.im b o hb, hh.d⟩).mono ?_
  rintro e w' ⟨v, L1, D1, m', he, hpost, h3, h4⟩
  obtain ⟨L2, hs, hp2⟩ := hp v L1 D1 hpost
  exact ⟨v, L2, D1, m', he, hp2, ⟨by rw [hs.f]; exact h3.nd, (hs.ok w').2 h3.ok, fun b o hb => by rw [hs.f]; exact h3.im b o hb, h3.d⟩,
    ⟨h4.size, fun b hb hn => h4.same b hb (by rw [← hL.f]; exact hn), fun b hb => by rw [hL.f]; exact h4.own b (by rw [← hs.f]; exact hb), h4.im, fun b o hb => by rw [hL.f]; exact h4.new b o hb, h4.kept⟩⟩

theorem flat_len {α : Type} {F : α → List C} {z : Nat} (hz : ∀ g, (F g).length = z) (l : List α) : (l.flatMap F).length = l.length * z := by
  induction l with
  | nil => simp
  | cons x r ih => rw [List.flatMap_cons, List.length_append, hz, ih, List.length_cons, Nat.add_mul]; omega
/-- The cells of one element. -/
theorem flat_get {α : Type} {F : α → List C} {z : Nat} (hz : ∀ g, (F g).length = z) : ∀ {l : List α} {i : Nat} (h : i < l.length) {o k : Nat}, o + k ≤ z → ((l.flatMap F).drop (i * z + o)).take k = ((F l[i]).drop o).take k
  | x :: r, 0, _, o, k, hk => by
    rw [List.flatMap_cons, Nat.zero_mul, Nat.zero_add, List.drop_append_of_le_length (by rw [hz]; omega), List.take_append_of_le_length (by rw [List.length_drop, hz]; omega)]
    rfl
  | x :: r, i + 1, h, o, k, hk => by
    have ih := flat_get (F := F) hz (l := r) (i := i) (by simpa using h) hk
    rw [List.flatMap_cons, show (i + 1) * z + o = z + (i * z + o) by rw [Nat.add_mul]; omega, ← List.drop_drop, show (F x ++ r.flatMap F).drop z = r.flatMap F by rw [← hz x]; simp, ih]
    simp
theorem flat_take {α : Type} {F : α → List C} {z : Nat} (hz : ∀ g, (F g).length = z) (l : List α) (i : Nat) (h : i ≤ l.length) : (l.flatMap F).take (i * z) = (l.take i).flatMap F := by
  induction l generalizing i with
  | nil => simp
  | cons x r ih =>
    cases i with
    | zero => simp
    | succ i =>
      rw [List.flatMap_cons, show (i + 1) * z = z + i * z by rw [Nat.add_mul]; omega, List.take_add, show (F x ++ r.flatMap F).take z = F x by rw [← hz x]; simp, show (F x ++ r.flatMap F).drop z = r.flatMap F by rw [← hz x]; simp, ih i (by simpa using h)]
      simp

theorem setC_left {o : Nat} {ns a b : List C} (h : o + ns.length ≤ a.length) : setC o ns (a ++ b) = setC o ns a ++ b := by
  unfold setC
  rw [List.take_append_of_le_length (by omega), List.drop_append_of_le_length (by omega)]
  simp
theorem setC_right {o : Nat} {ns a b : List C} : setC (a.length + o) ns (a ++ b) = a ++ setC o ns b := by
  unfold setC
  rw [List.take_append, List.drop_append, List.take_of_length_le (by omega), List.drop_eq_nil_of_le (by omega)]
  simp [Nat.add_sub_cancel_left, show a.length + o + ns.length - a.length = o + ns.length by omega]
/-- One element of a row is changed. -/
theorem setC_flat {α : Type} {F : α → List C} {z : Nat} (hF : ∀ x, (F x).length = z) : ∀ {l : List α} {j : Nat} (hj : j < l.length) {o : Nat} {ns : List C} {x' : α}, o + ns.length ≤ z → setC o ns (F l[j]) = F x' → setC (j * z + o) ns (l.flatMap F) = (l.set j x').flatMap F
  | [], j, hj, _, _, _, _, _ => by simp at hj
  | x :: r, 0, _, o, ns, x', ho, hx => by
    rw [Nat.zero_mul, Nat.zero_add, List.flatMap_cons, setC_left (by rw [hF]; exact ho)]
    show _ = (x' :: r).flatMap F
    rw [List.flatMap_cons, ← hx]
    rfl
  | x :: r, j + 1, hj, o, ns, x', ho, hx => by
    have ih := setC_flat hF (l := r) (j := j) (by simpa using hj) ho hx
    rw [List.flatMap_cons, show (j + 1) * z + o = (F x).length + (j * z + o) by rw [hF, Nat.succ_mul]; omega, setC_right, ih]
    rfl
/-- What a call leaves may be seen anew. -/
theorem FnS.entsP {P : Program} {f : FuncId} {args : List V} {L : List Chunk} {D : List Fact} {post post' : V → List Chunk → List Fact → Prop} (h : FnS P f args L D post) (hp : ∀ v L1 D1, post v L1 D1 → ∃ L2 D2, Ents L1 D1 L2 D2 ∧ post' v L2 D2) : FnS P f args L D post' :=
  ⟨h.en, fun w m hh => (h.run w m hh).mono (by
    rintro e w' ⟨v, L1, D1, m', he, hpost, h3, h4⟩
    obtain ⟨L2, D2, hE, hp2⟩ := hp v L1 D1 hpost
    obtain ⟨m2, h5, h6⟩ := hE ⟨w, L, m⟩ w' ⟨m', h3, h4⟩
    exact ⟨v, L2, D2, m2, he, hp2, h5, h6⟩)⟩

theorem pos_of_ne {α : Type} {l : List α} (h : ¬ l = []) : 0 < l.length := List.length_pos_iff.2 h

end Go.X
