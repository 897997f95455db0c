/- This text turns contracts of the kit's shelf into contracts of the symbolic executor, and adds a few rules to it. -/
import Derived.Test.YthknndkjnglegaaGreatI06
import Derived.Below
import Derived.Deep.Draws
import Derived.LoopN
import Derived.ProofKit
import Derived.OpenShut
import Derived.Deep.DeepHandedRow
import Derived.WideKeyArgs
set_option linter.all false

namespace Go.X
open Go Go.RowKit
variable [Sm : Inhabited Manner]
theorem CondP.yes {p A B : Prop} (h : p) (k : A) : CondP p A B := ⟨fun _ => k, fun hn => absurd h hn⟩
theorem CondP.no {p A B : Prop} (h : ¬ p) (k : B) : CondP p A B := ⟨fun hp => absurd hp h, fun _ => k⟩
/-- A loop of few rounds, walked round by round. -/
def Kt.round (R : Env → List Chunk → List Fact → Nat → Prop) (K : Kt) : Kt := fun e env L D n =>
  match e with
  | .normal => R env L D n
  | e => K e env L D n
def JR (P : Program) (G : Ent) (N : Nat) (c : Code) (K : Kt) : Nat → Env → List Chunk → List Fact → Nat → Prop
  | 0, _, _, _, _ => False
  | n + 1, env, L, D, nid => J P G N c env L D nid (Kt.round (JR P G N c K n) K)
theorem JR_succ {P : Program} {G : Ent} {N : Nat} {c : Code} {K : Kt} {n : Nat} {env : Env} {L : List Chunk} {D : List Fact} {nid : Nat} (h : J P G N c env L D nid (Kt.round (JR P G N c K n) K)) : JR P G N c K (n + 1) env L D nid := h
theorem J_rounds {P : Program} {G : Ent} {N : Nat} {env : Env} {L : List Chunk} {D : List Fact} {nid : Nat} {K : Kt} {c : Code} (n : Nat) (h : JR P G N c K n env L D nid) : J P G N (.loop c) env L D nid K :=
  ⟨fun a w he hs => wp_loop_rounds n (by
    induction n generalizing env L D nid a w with
    | zero => exact h.elim
    | succ n ih =>
      rw [rounds_succ]
      refine wp_mono (J.run h a w he hs) fun e a' w' hq => ?_
      obtain ⟨env', L', D', n', hk, he', hs'⟩ := hq
      cases e with
      | normal => exact ih hk a' w' he' hs'
      | exit id => exact ⟨env', L', D', n', hk, he', hs'⟩
      | goto l => exact ⟨env', L', D', n', hk, he', hs'⟩
      | ret => exact ⟨env', L', D', n', hk, he', hs'⟩
      | panic ch => exact ⟨env', L', D', n', hk, he', hs'⟩
      | outgrown => exact ⟨env', L', D', n', hk, he', hs'⟩)⟩
/-- A place at which the walk is to stop. -/
structure JS (P : Program) (G : Ent) (N : Nat) (c : Code) (env : Env) (L : List Chunk) (D : List Fact) (nid : Nat) (K : Kt) : Prop where
  h : J P G N c env L D nid K
theorem J_stop {P : Program} {G : Ent} {N : Nat} {c : Code} {env : Env} {L : List Chunk} {D : List Fact} {nid : Nat} {K : Kt} (h : JS P G N c env L D nid K) : J P G N c env L D nid K := h.h
theorem fn_pure {P : Program} {f : FuncId} {args : List V} {D : List Fact} {v : V} (hE : Enters P f) (h : ∀ w, Calls P f (args.map V.enc).toArray w fun e w' => e = .returned v.enc ∧ w' = w) : FnS P f args [] D (Is v) := by
  refine ⟨hE, fun w m hh => (h w).mono ?_⟩
  rintro e w' ⟨rfl, rfl⟩
  exact ⟨v, [], [], m, rfl, ⟨rfl, rfl, rfl⟩, ⟨hh.nd, hh.ok, hh.im, trivial⟩, Fr.refl _ _ _⟩
/-- A call whose result is known and that leaves nothing behind. -/
theorem CallP.is {P : Program} {f : FuncId} {args : List V} {L : List Chunk} {D D0 : List Fact} {v : V} {K : V → List Chunk → List Fact → Prop} (h : FnS P f args [] D0 (Is v)) (k : K v L D)
    (hd : ∀ m, allD m D → allD m D0 := by first | exact fun _ _ => trivial | exact fun _ h => h | exact fun _ h => ⟨h.1, trivial⟩ | exact fun _ h => ⟨h.2.1, trivial⟩) : CallP P f args L D K :=
  CallP.mk [] L D0 (Is v) h (.refl _) hd ( by rintro _ _ _ ⟨rfl, rfl, rfl⟩; exact k)
/-- Likewise, after what is owned was seen anew. -/
theorem CallP.isE {P : Program} {f : FuncId} {args : List V} {L L1 : List Chunk} {D D0 D1 : List Fact} {v : V} {K : V → List Chunk → List Fact → Prop} (h : FnS P f args [] D0 (Is v)) (hE : Ents L D L1 D1) (hd : ∀ m, allD m D1 → allD m D0) (k : K v L1 D1) : CallP P f args L D K :=
  .mkE [] L1 D0 D1 (Is v) h hE hd (by rintro _ _ _ ⟨rfl, rfl, rfl⟩; exact k)
/-- A call whose result depends on a truth value, which is decided here. -/
theorem CallP.isF {P : Program} {f : FuncId} {args : List V} {L : List Chunk} {D D0 : List Fact} {K : V → List Chunk → List Fact → Prop} (b : Bool) (g : Bool → V) (h : FnS P f args [] D0 (Is (g b)))
    (kt : b = true → K (g true) L D) (kf : b = false → K (g false) L D)
    (hd : ∀ m, allD m D → allD m D0 := by first | exact fun _ _ => trivial | exact fun _ h => h | exact fun _ h => ⟨h.1, trivial⟩ | exact fun _ h => ⟨h.2.1, trivial⟩) : CallP P f args L D K := by
  cases b with
  | true => exact CallP.is h (kt rfl) hd
  | false => exact CallP.is h (kf rfl) hd
theorem CallP.isB {P : Program} {f : FuncId} {args : List V} {L : List Chunk} {D D0 : List Fact} {K : V → List Chunk → List Fact → Prop} {b : Bool} (h : FnS P f args [] D0 (Is (.c (.b b))))
    (kt : b = true → K (.c (.b true)) L D) (kf : b = false → K (.c (.b false)) L D)
    (hd : ∀ m, allD m D → allD m D0 := by first | exact fun _ _ => trivial | exact fun _ h => h | exact fun _ h => ⟨h.1, trivial⟩ | exact fun _ h => ⟨h.2.1, trivial⟩) : CallP P f args L D K :=
  CallP.isF b (fun b => .c (.b b)) h kt kf hd
/-- The end of a function that gives v and leaves nothing behind. -/
theorem FinE.is {L : List Chunk} {D : List Fact} {v v' : V} (h : v' = v) : FinE (Is v) L D v' := ⟨[], [], ⟨h, rfl, rfl⟩, Ents.dropAll.trans (Ents.facts fun _ _ => trivial)⟩
theorem FinE.bool {L : List Chunk} {D : List Fact} {b b' : Bool} (h : b' = b) : FinE (Is (.c (.b b'))) L D (.c (.b b)) := FinE.is (by rw [h])
theorem FinE.str {L : List Chunk} {D : List Fact} {b b' : List UInt8} (h : b' = b) : FinE (Is (.c (.s b'))) L D (.c (.s b)) := FinE.is (by rw [h])
theorem FinE.int {L : List Chunk} {D : List Fact} {k : IntKind} {b b' : Int} (h : b' = b) : FinE (Is (.c (.i k b'))) L D (.c (.i k b)) := FinE.is (by rw [h])
theorem Ents.ofSub {L L0 : List Chunk} {D D0 : List Fact} (h : L0.Sublist L) (hd : ∀ m, allD m D → allD m D0) : Ents L D L0 D0 := by
  obtain ⟨R, hR⟩ := h.exists_perm_append
  exact (Ents.sub ⟨R, hR.trans List.perm_append_comm⟩).trans (Ents.facts hd)
/-- The boxes to which the slots point. -/
def slotIds (env : Env) : List Nat → List Nat
  | [] => []
  | s :: r => match look env s with
    | some (.c (.p id _ _)) => id :: slotIds env r
    | _ => slotIds env r
def hasId (n : Nat) : List Nat → Bool
  | [] => false
  | i :: r => match Nat.beq i n with
    | true => true
    | false => hasId n r
/-- The boxes of the slots, and (b) all rows. -/
def keepC (b : Bool) (ids : List Nat) : List Chunk → List Chunk
  | [] => []
  | .box id ad ty cs :: r => match hasId id ids with
    | true => .box id ad ty cs :: keepC b ids r
    | false => keepC b ids r
  | .row e z a n c cs :: r => match b with
    | true => .row e z a n c cs :: keepC b ids r
    | false => keepC b ids r
  | .obj id ad o :: r => match hasId id ids with
    | true => .obj id ad o :: keepC b ids r
    | false => keepC b ids r
theorem keepC_sub (b : Bool) (ids : List Nat) : ∀ L : List Chunk, (keepC b ids L).Sublist L
  | [] => .slnil
  | .box id ad ty cs :: r => by
    simp only [keepC]; split
    · exact (keepC_sub b ids r).cons_cons _
    · exact (keepC_sub b ids r).cons _
  | .row e z a n c cs :: r => by
    simp only [keepC]; split
    · exact (keepC_sub _ ids r).cons_cons _
    · exact (keepC_sub _ ids r).cons _
  | .obj id ad o :: r => by
    simp only [keepC]; split
    · exact (keepC_sub _ ids r).cons_cons _
    · exact (keepC_sub _ ids r).cons _
/-- A region that draws its order; what its quiet operations look at is named by slots. -/
theorem J_drawS {P : Program} {G : Ent} {N : Nat} {env : Env} {T : Ty} (hT : TyOK P T) (hm : P.follows .mixedOrders = true) {id : Nat} {ops : List Oper} {L : List Chunk} {D : List Fact} {nid : Nat} {K : Kt} (A r eff slots : List Nat) (b : Bool)
    (hB : okM A ops.toArray (fun i => eff.contains i) r = true) (h : vcM P T N ops eff ops.length (keepC b (slotIds env slots) L) D r env L D nid (K .normal)) : J P G N (.region id ops.toArray true) env L D nid K :=
  J_drawM hT hm A r eff _ D hB (Ents.ofSub (keepC_sub _ _ _) fun _ h => h) h
/-- The same, where z is the last operation in every order. -/
theorem J_drawZ {P : Program} {G : Ent} {N : Nat} {env : Env} {T : Ty} (hT : TyOK P T) (hm : P.follows .mixedOrders = true) {id : Nat} {ops : List Oper} {L : List Chunk} {D : List Fact} {nid : Nat} {K : Kt} (A r eff slots : List Nat) (z : Nat) (b : Bool)
    (hB : (okM A ops.toArray (fun i => eff.contains i) r && lastB A z r) = true) (h : vcM P T N ops eff z (keepC b (slotIds env slots) L) D r env L D nid (K .normal)) : J P G N (.region id ops.toArray true) env L D nid K :=
  J_drawZ0 hT hm A r eff z _ D hB (Ents.ofSub (keepC_sub _ _ _) fun _ h => h) h
/-- The same, where two operations that work on memory may come in either order. -/
theorem J_drawT {P : Program} {G : Ent} {N : Nat} {env : Env} {T : Ty} (hT : TyOK P T) (hm : P.follows .mixedOrders = true) {id : Nat} {ops : List Oper} {L : List Chunk} {D : List Fact} {nid : Nat} {K : Kt} (A pre : List Nat) (e1 : Nat) (q1 : List Nat) (e2 : Nat) (q2 eff slots : List Nat) (z : Nat) (b : Bool)
    (hB : okM2 A ops.toArray (fun i => eff.contains i) pre e1 q1 e2 q2 z = true) (h : vcM P T N ops eff z (keepC b (slotIds env slots) L) D pre env L D nid fun env' L' D' n' => TwoP (vcM P T N ops eff z (keepC b (slotIds env slots) L) D (e1 :: q1) env' L' D' n' (K .normal)) (vcM P T N ops eff z (keepC b (slotIds env slots) L) D (e2 :: q2) env' L' D' n' (K .normal))) :
    J P G N (.region id ops.toArray true) env L D nid K :=
  J_drawT0 hT hm A pre e1 q1 e2 q2 eff z _ D hB (Ents.ofSub (keepC_sub _ _ _) fun _ h => h) h
theorem map_take1 {α : Type} {f : α → C} {l : List α} {i : Nat} (h : i < l.length) : ((l.map f).drop (i * 1 + 0)).take 1 = [f l[i]] := by
  rw [Nat.mul_one, Nat.add_zero, ← List.map_drop, ← List.map_take, List.drop_eq_getElem_cons h]; rfl
theorem setC_map {α : Type} {f : α → C} {l : List α} {i : Nat} {x : α} (h : i < l.length) : setC (i * 1 + 0) [f x] (l.map f) = (l.set i x).map f := by
  rw [Nat.mul_one, Nat.add_zero, List.map_set, List.set_eq_take_append_cons_drop, if_pos (by simpa using h)]; simp [setC]
/-- A row's length is at most its room. -/
theorem J_cap {P : Program} {G : Ent} {N : Nat} {c0 : Code} {env : Env} {L : List Chunk} {D : List Fact} {nid : Nat} {K : Kt} {e z : Nat} {a : Option Addr} {n c : Nat} {cs : List C} (hm : .row e z a n c cs ∈ L) (k : n ≤ c → c ≤ maxLen → cs.length = n * z → J P G N c0 env L D nid K) : J P G N c0 env L D nid K :=
  ⟨fun ac w he hs => by
    obtain ⟨m, h1, _⟩ := id hs
    have hr := (allOk_mem h1.ok hm).2
    have h : n ≤ c ∧ c ≤ maxLen ∧ cs.length = n * z := by
      rcases hr with ⟨_, rfl, rfl, rfl⟩ | ⟨g, _, cur, lo, hi, _, h2, h3, _, _, h4, _⟩
      · exact ⟨Nat.le_refl _, Nat.zero_le _, by simp⟩
      · exact ⟨h2, h3, h4⟩
    exact (k h.1 h.2.1 h.2.2).run ac w he hs⟩
/-- A part of a slice that does not change. -/
theorem slFact_sub {m : Im} {e z : Nat} {a : Option Addr} {n c lo hi : Nat} {cs : List C} (h : (slFact e z a n cs).p m) (hl : lo ≤ hi) (hn : hi ≤ n) (hc : n ≤ c) : (slFact e z (resl a lo c z) (hi - lo) ((cs.take (hi * z)).drop (lo * z))).p m := by
  obtain ⟨h1, h2⟩ := h
  have hone : oneAll ((cs.take (hi * z)).drop (lo * z)) := fun x hx => h1 x (List.mem_of_mem_take (List.mem_of_mem_drop hx))
  refine ⟨hone, ?_⟩
  rcases h2 with ⟨h3, h4⟩ | ⟨g, off, cur, ty, lo', hi', h3, h4, h5, h6⟩
  · exact .inl ⟨by omega, by rw [h4]; simp⟩
  · have hlz : lo * z ≤ hi * z := Nat.mul_le_mul_right _ hl
    have hnz : hi * z ≤ n * z := Nat.mul_le_mul_right _ hn
    have hlen : ((cs.take (hi * z)).drop (lo * z)).length = (hi - lo) * z := by rw [List.length_drop, List.length_take, h5, Nat.min_eq_left hnz, Nat.sub_mul]
    by_cases hcl : c = lo
    · have : hi - lo = 0 := by omega
      refine .inl ⟨this, List.eq_nil_of_length_eq_zero (by rw [hlen, this]; simp)⟩
    · refine .inr ⟨g, off + lo * z, cur, ty, lo', hi', ?_, h4, hlen, ?_⟩
      · unfold resl
        rw [if_neg hcl, h3]
        simp [addr_add]
      · rw [List.map_drop, List.map_take, ← h6, List.take_take, Nat.min_eq_left hnz, List.drop_take, List.drop_drop, ← Nat.sub_mul]
theorem slFact_pre {m : Im} {e z : Nat} {a : Option Addr} {n hi : Nat} (c : Nat) {cs : List C} (h : (slFact e z a n cs).p m) (hn : hi ≤ n) : (slFact e z (resl a 0 c z) hi (cs.take (hi * z))).p m := by
  obtain ⟨h1, h2⟩ := h
  refine ⟨fun x hx => h1 x (List.mem_of_mem_take hx), ?_⟩
  rcases h2 with ⟨h3, h4⟩ | ⟨g, off, cur, ty, lo', hi', h3, h4, h5, h6⟩
  · exact .inl ⟨by omega, by rw [h4]; simp⟩
  · have hnz : hi * z ≤ n * z := Nat.mul_le_mul_right _ hn
    refine .inr ⟨g, off, cur, ty, lo', hi', ?_, h4, by rw [List.length_take, h5, Nat.min_eq_left hnz], ?_⟩
    · unfold resl
      rw [h3]
      split
      · rfl
      · simp [addr_add]
    · rw [List.map_take, ← h6, List.take_take, Nat.min_eq_left hnz]
/-- The same memory under other names. -/
structure Same (L L' : List Chunk) : Prop where
  f : fps L' = fps L
  ok : ∀ w, allOk w L' ↔ allOk w L
theorem FnS.same {P : Program} {f : FuncId} {args args' : List V} {L L' : List Chunk} {D : List Fact} {post post' : V → List Chunk → List Fact → Prop} (h : FnS P f args L D post) (ha : args'.map V.enc = args.map V.enc) (hL : Same L L')
    (hp : ∀ v L1 D1, post v L1 D1 → ∃ L2, Same L1 L2 ∧ post' v L2 D1) : FnS P f args' L' D post' := by
  refine ⟨h.en, fun w m hh => ?_⟩
  rw [ha]
  refine (h.run w m ⟨by rw [← hL.f]; exact hh.nd, (hL.ok w).1 hh.ok, fun b o hb => by rw [← hL.f]; exact hh.im b o hb, hh.d⟩).mono ?_
  rintro e w' ⟨v, L1, D1, m', he, hpost, h3, h4⟩
  obtain ⟨L2, hs, hp2⟩ := hp v L1 D1 hpost
  exact ⟨v, L2, D1, m', he, hp2, ⟨by rw [hs.f]; exact h3.nd, (hs.ok w').2 h3.ok, fun b o hb => by rw [hs.f]; exact h3.im b o hb, h3.d⟩,
    ⟨h4.size, fun b hb hn => h4.same b hb (by rw [← hL.f]; exact hn), fun b hb => by rw [hL.f]; exact h4.own b (by rw [← hs.f]; exact hb), h4.im, fun b o hb => by rw [hL.f]; exact h4.new b o hb, h4.kept⟩⟩
theorem flat_len {α : Type} {F : α → List C} {z : Nat} (hz : ∀ g, (F g).length = z) (l : List α) : (l.flatMap F).length = l.length * z := by
  induction l with
  | nil => simp
  | cons x r ih => rw [List.flatMap_cons, List.length_append, hz, ih, List.length_cons, Nat.add_mul]; omega
/-- The cells of one element. -/
theorem flat_get {α : Type} {F : α → List C} {z : Nat} (hz : ∀ g, (F g).length = z) : ∀ {l : List α} {i : Nat} (h : i < l.length) {o k : Nat}, o + k ≤ z → ((l.flatMap F).drop (i * z + o)).take k = ((F l[i]).drop o).take k
  | x :: r, 0, _, o, k, hk => by
    rw [List.flatMap_cons, Nat.zero_mul, Nat.zero_add, List.drop_append_of_le_length (by rw [hz]; omega), List.take_append_of_le_length (by rw [List.length_drop, hz]; omega)]
    rfl
  | x :: r, i + 1, h, o, k, hk => by
    have ih := flat_get (F := F) hz (l := r) (i := i) (by simpa using h) hk
    rw [List.flatMap_cons, show (i + 1) * z + o = z + (i * z + o) by rw [Nat.add_mul]; omega, ← List.drop_drop, show (F x ++ r.flatMap F).drop z = r.flatMap F by rw [← hz x]; simp, ih]
    simp
theorem flat_take {α : Type} {F : α → List C} {z : Nat} (hz : ∀ g, (F g).length = z) (l : List α) (i : Nat) (h : i ≤ l.length) : (l.flatMap F).take (i * z) = (l.take i).flatMap F := by
  induction l generalizing i with
  | nil => simp
  | cons x r ih =>
    cases i with
    | zero => simp
    | succ i =>
      rw [List.flatMap_cons, show (i + 1) * z = z + i * z by rw [Nat.add_mul]; omega, List.take_add, show (F x ++ r.flatMap F).take z = F x by rw [← hz x]; simp, show (F x ++ r.flatMap F).drop z = r.flatMap F by rw [← hz x]; simp, ih i (by simpa using h)]
      simp
theorem setC_left {o : Nat} {ns a b : List C} (h : o + ns.length ≤ a.length) : setC o ns (a ++ b) = setC o ns a ++ b := by
  unfold setC
  rw [List.take_append_of_le_length (by omega), List.drop_append_of_le_length (by omega)]
  simp
theorem setC_right {o : Nat} {ns a b : List C} : setC (a.length + o) ns (a ++ b) = a ++ setC o ns b := by
  unfold setC
  rw [List.take_append, List.drop_append, List.take_of_length_le (by omega), List.drop_eq_nil_of_le (by omega)]
  simp [Nat.add_sub_cancel_left, show a.length + o + ns.length - a.length = o + ns.length by omega]
/-- One element of a row is changed. -/
theorem setC_flat {α : Type} {F : α → List C} {z : Nat} (hF : ∀ x, (F x).length = z) : ∀ {l : List α} {j : Nat} (hj : j < l.length) {o : Nat} {ns : List C} {x' : α}, o + ns.length ≤ z → setC o ns (F l[j]) = F x' → setC (j * z + o) ns (l.flatMap F) = (l.set j x').flatMap F
  | [], j, hj, _, _, _, _, _ => by simp at hj
  | x :: r, 0, _, o, ns, x', ho, hx => by
    rw [Nat.zero_mul, Nat.zero_add, List.flatMap_cons, setC_left (by rw [hF]; exact ho)]
    show _ = (x' :: r).flatMap F
    rw [List.flatMap_cons, ← hx]
    rfl
  | x :: r, j + 1, hj, o, ns, x', ho, hx => by
    have ih := setC_flat hF (l := r) (j := j) (by simpa using hj) ho hx
    rw [List.flatMap_cons, show (j + 1) * z + o = (F x).length + (j * z + o) by rw [hF, Nat.succ_mul]; omega, setC_right, ih]
    rfl
/-- What a call leaves may be seen anew. -/
theorem FnS.entsP {P : Program} {f : FuncId} {args : List V} {L : List Chunk} {D : List Fact} {post post' : V → List Chunk → List Fact → Prop} (h : FnS P f args L D post) (hp : ∀ v L1 D1, post v L1 D1 → ∃ L2 D2, Ents L1 D1 L2 D2 ∧ post' v L2 D2) : FnS P f args L D post' :=
  ⟨h.en, fun w m hh => (h.run w m hh).mono (by
    rintro e w' ⟨v, L1, D1, m', he, hpost, h3, h4⟩
    obtain ⟨L2, D2, hE, hp2⟩ := hp v L1 D1 hpost
    obtain ⟨m2, h5, h6⟩ := hE ⟨w, L, m⟩ w' ⟨m', h3, h4⟩
    exact ⟨v, L2, D2, m2, he, hp2, h5, h6⟩)⟩
theorem pos_of_ne {α : Type} {l : List α} (h : ¬ l = []) : 0 < l.length := List.length_pos_iff.2 h
end Go.X
namespace Go.X
open Go
variable [Sm : Inhabited Manner]
theorem CondP.y {p A B : Prop} (k : A) (h : p := by omega) : CondP p A B := CondP.yes h k
theorem CondP.n {p A B : Prop} (k : B) (h : ¬ p := by omega) : CondP p A B := CondP.no h k
theorem SideP.a {p A : Prop} (k : A) (h : p := by first | omega | (dsimp only; omega) | (simp; omega)) : SideP p A := ⟨h, k⟩
theorem ArP.x {k : IntKind} {r : Int} {K : Int → Prop} (h' : K r) (h : inR k r := by simp only [inR]; omega) : ArP k r K := .exact h h'
theorem Ents.a {L L0 : List Chunk} {D D0 : List Fact} (h : L0.Sublist L := by repeat (first | exact List.Sublist.slnil | refine List.Sublist.cons_cons _ ?_ | refine List.Sublist.cons _ ?_)) (hd : ∀ m, allD m D → allD m D0 := by first | exact fun _ h => h | exact fun _ _ => trivial | exact fun _ h => h.2 | exact fun _ h => h.2.2.2.2 | exact fun _ h => h.2.2 | exact fun _ h => h.2.2.2 | exact fun _ h => h.2.2.2.2.2 | exact fun _ h => h.2.2.2.2.2.2 | exact fun _ h => h.2.2.2.2.2.2.2 | exact fun _ h => h.2.2.2.2.2.2.2.2 | exact fun _ h => h.2.2.2.2.2.2.2.2.2 | exact fun _ h => h.2.2.2.2.2.2.2.2.2.2 | exact fun _ h => ((allD_append _ _).1 h).2) : Ents L D L0 D0 := Ents.ofSub h hd
theorem SubE.a {env env' : Env} (h : SubE env env' := by repeat' first | exact SubE.nil | refine SubE.cons rfl ?_ ?_ | exact VEq.refl _ | refine VEq.int (by omega) | refine VEq.sl rfl (by first | rfl | omega | (rw [List.length_append]; rfl) | (simp; omega)) rfl) : SubE env env' := h
end Go.X

/- This text proves, for any program, that a contract in the executor's form, whose result is true and whose memory is untouched, gives what a row asks of a law; and opens arguments of plain types. No condition. -/
namespace Go.X
open Go Go.ChangeShapes Go.WideShapes
section
variable {H : Type} {enc : TypeId × Value → H} {P : Program} {w : World} {base : Nat} {sp : Nat → Bool} {held : Bool}
/-- A reading of cells of type t yields a plain value g, whose cells they are. -/
def OpenS (P : Program) (w : World) (t : Nat) {α : Type} (F : α → List C) (Q : α → Prop) : Prop :=
  ∀ {H : Type} (enc : TypeId × Value → H) (base : Nat) (sp : Nat → Bool) (held : Bool) (n : Nat) (cs : List Value) (x : DataW H × List MemPlace), DataW.trod enc P w base sp held n t cs = some x → ∃ g, cs = (F g).map C.enc ∧ Q g
theorem lit_inR {k : IntKind} {n : Int} (h : (Lit.int k n).wf = true) : inR k n := by
  cases k <;> simp [Lit.wf, IntKind.min, IntKind.max, IntKind.bits, IntKind.signed] at h <;> simp only [inR] <;> omega
theorem openS_int {t : Nat} {k : IntKind} (ht : P.underlying t = some (.int k)) : OpenS P w t (fun n : Int => [.i k n]) (inR k) := by
  intro H enc base sp held n cs x h
  obtain ⟨m, hm, _, hw⟩ := DataW.trod_int ht (fuel := n) h
  exact ⟨m, hm, lit_inR hw⟩
theorem cellsOf_ty {t : Nat} {i : TyI} (h : i.ok P t) : P.cellsOf t = i.size := by
  obtain ⟨x, hx, h1, _⟩ := tyI_info h
  simp [Program.cellsOf, hx, h1]
/-- What a slice that is read holds: the memory is that of the world. -/
structure SlOK (w : World) (esz : Nat) (cs : List C) (a : Option Addr) (n c : Nat) : Prop where
  le : n ≤ c
  max : c ≤ maxLen
  f : ∃ ety, SlF (fun b => w.heap[b]?) ety esz a n cs
theorem cells_get {w : World} {a : Addr} {base n : Nat} {cs : List Value} (ha : a.spot = none) (h : w.cells? base a n = some cs) (hn : n ≠ 0) : ∃ cur t fr, w.heap[a.block]? = some (.cells cur t fr) ∧ cs.length = n ∧ (cur.toList.drop a.off).take n = cs := by
  obtain ⟨b, off, _⟩ := a
  simp only at ha
  subst ha
  unfold World.cells? at h
  split at h
  · have hall : ∀ (m : Nat) (o : Nat) (l : List Value), ((List.range' o m).mapM fun i => w.cell? ((⟨b, off, none⟩ : Addr).add i)) = some l → l.length = m ∧ ∀ j : Nat, j < m → w.cell? ⟨b, off + (o + j), none⟩ = l[j]? := by
      intro m
      induction m with
      | zero => intro o l hl; simp at hl; subst hl; simp
      | succ m ih =>
        intro o l hl
        rw [List.range'_succ, List.mapM_cons] at hl
        simp only [Option.bind_eq_bind, Option.bind_eq_some_iff] at hl
        obtain ⟨x, hx, ys, hys, hl⟩ := hl
        simp at hl
        subst hl
        obtain ⟨h1, h2⟩ := ih (o + 1) ys hys
        refine ⟨by simp [h1], fun j hj => ?_⟩
        rw [addr_add] at hx
        cases j with
        | zero => simpa using hx
        | succ j =>
          have := h2 j (by omega)
          rw [List.getElem?_cons_succ, ← this]
          congr 2
          omega
    rw [List.range_eq_range'] at h
    obtain ⟨h1, h2⟩ := hall n 0 cs h
    have h0 := h2 0 (by omega)
    have hlt : 0 < cs.length := by omega
    rw [List.getElem?_eq_getElem hlt] at h0
    cases hb : w.heap[b]? with
    | none => simp [World.cell?, hb] at h0
    | some o =>
      cases o with
      | cells cur t fr =>
        refine ⟨cur, t, fr, rfl, h1, ?_⟩
        apply List.ext_getElem?
        intro j
        by_cases hj : j < n
        · have := h2 j hj
          simp only [World.cell?, hb] at this
          rw [List.getElem?_take_of_lt hj, List.getElem?_drop, ← this]
          simp
        · have hn1 : cs[j]? = none := List.getElem?_eq_none (by omega)
          rw [hn1]
          exact List.getElem?_eq_none (by simp; omega)
      | _ => simp [World.cell?, hb] at h0
  · cases h
theorem mapM_all {α β : Type} {f : α → Option β} : ∀ {l : List α} {ys : List β}, l.mapM f = some ys → ys.length = l.length ∧ ∀ (i : Nat) x, l[i]? = some x → ∃ y, ys[i]? = some y ∧ f x = some y
  | [], ys, h => by simp at h; subst h; simp
  | x :: l, ys, h => by
    rw [List.mapM_cons] at h
    simp only [Option.bind_eq_bind, Option.bind_eq_some_iff] at h
    obtain ⟨y, hy, zs, hzs, h⟩ := h
    simp at h
    subst h
    obtain ⟨h1, h2⟩ := mapM_all hzs
    refine ⟨by simp [h1], fun i u hu => ?_⟩
    cases i with
    | zero => simp at hu; subst hu; exact ⟨y, rfl, hy⟩
    | succ i => exact h2 i u (by simpa using hu)
theorem choose_list {α β : Type} {R : Nat → α → Prop} : ∀ (n : Nat), (∀ i, i < n → ∃ g, R i g) → ∃ gs : List α, gs.length = n ∧ ∀ (i : Nat) g, gs[i]? = some g → R i g
  | 0, _ => ⟨[], rfl, by simp⟩
  | n + 1, h => by
    obtain ⟨gs, h1, h2⟩ := choose_list (β := β) n fun i hi => h i (by omega)
    obtain ⟨g, hg⟩ := h n (by omega)
    refine ⟨gs ++ [g], by simp [h1], fun i u hu => ?_⟩
    by_cases hi : i < n
    · rw [List.getElem?_append_left (by omega)] at hu; exact h2 i u hu
    · by_cases hin : i = n
      · subst hin; rw [List.getElem?_append_right (by omega)] at hu; simp [h1] at hu; subst hu; exact hg
      · rw [List.getElem?_eq_none (by simp; omega)] at hu; cases hu
theorem flatMap_window {α : Type} (F : α → List C) (z : Nat) : ∀ (gs : List α) (l : List Value), (∀ (i : Nat) g, gs[i]? = some g → (l.drop (i * z)).take z = (F g).map C.enc ∧ (F g).length = z) → l.take (gs.length * z) = (gs.flatMap F).map C.enc
  | [], l, _ => by simp
  | g :: gs, l, h => by
    have h0 := (h 0 g rfl).1
    simp only [Nat.zero_mul, List.drop_zero] at h0
    have ih := flatMap_window F z gs (l.drop z) fun i u hu => by
      have := h (i + 1) u (by simpa using hu)
      rw [List.drop_drop, show z + i * z = (i + 1) * z by rw [Nat.add_mul]; omega]
      exact this
    rw [List.flatMap_cons, List.map_append, ← h0, ← ih, List.length_cons, Nat.add_mul, Nat.one_mul, Nat.add_comm, List.take_add]
theorem flatMap_len {α : Type} {F : α → List C} {z : Nat} : ∀ {gs : List α}, (∀ g ∈ gs, (F g).length = z) → (gs.flatMap F).length = gs.length * z
  | [], _ => by simp
  | g :: gs, h => by rw [List.flatMap_cons, List.length_append, h g (by simp), flatMap_len fun u hu => h u (by simp [hu]), List.length_cons, Nat.add_mul]; omega
/-- A slice whose elements open. -/
theorem openS_slice {t e z : Nat} {α : Type} {F : α → List C} {Q : α → Prop} (ht : P.underlying t = some (.slice e)) (hz : P.cellsOf e = z) (hz0 : z ≠ 0) (hone : ∀ g, oneAll (F g)) (h : OpenS P w e F Q) :
    OpenS P w t (fun g : Option Addr × Nat × Nat × List α => [.sl g.1 g.2.1 g.2.2.1]) (fun g => g.2.1 = g.2.2.2.length ∧ SlOK w z (g.2.2.2.flatMap F) g.1 g.2.1 g.2.2.1 ∧ ∀ x ∈ g.2.2.2, Q x ∧ (F x).length = z) := by
  intro H enc base sp held n cs x hx
  cases n with
  | zero => simp [DataW.trod] at hx
  | succ n =>
    unfold DataW.trod at hx
    rw [ht] at hx
    split at hx <;> try (rename_i h1 _; cases h1; done)
    all_goals try (cases hx; done)
    all_goals try (rename_i h1; cases h1; done)
    · exact ⟨(none, 0, 0, []), rfl, rfl, ⟨Nat.le_refl _, by simp [maxLen], 0, ⟨fun y hy => (by cases hy), .inl ⟨rfl, rfl⟩⟩⟩, by simp⟩
    · rename_i e' a len cap h1
      simp only [Option.some.injEq] at h1
      cases h1
      simp only at hx
      split at hx
      · rename_i hb
        obtain ⟨hb1, hb2, hb3⟩ := hb
        simp only [Option.bind_eq_some_iff] at hx
        obtain ⟨els, hels, _⟩ := hx
        obtain ⟨hlen, hall⟩ := mapM_all hels
        have hsp : len ≠ 0 → a.spot = none := fun h0 => by
          obtain ⟨y, _, hy⟩ := hall 0 0 (by rw [List.getElem?_range (by omega)])
          simp only [Option.bind_eq_some_iff] at hy
          obtain ⟨cs, hcs, _⟩ := hy
          rw [hz] at hcs
          unfold World.cells? at hcs
          split at hcs
          · obtain ⟨h1, h2⟩ := mapM_all hcs
            obtain ⟨y0, _, hy0⟩ := h2 0 0 (by rw [List.getElem?_range (by omega)])
            obtain ⟨b, off, so⟩ := a
            cases so with
            | none => rfl
            | some q => unfold World.cell? Addr.add at hy0; simp at hy0; split at hy0 <;> cases hy0
          · cases hcs
        have key : ∀ i, i < len → ∃ g, (∃ cur t fr, w.heap[a.block]? = some (.cells cur t fr) ∧ (cur.toList.drop (a.off + i * z)).take z = (F g).map C.enc) ∧ (F g).length = z ∧ Q g := fun i hi => by
          obtain ⟨y, _, hy⟩ := hall i i (by simp [hi])
          simp only [Option.bind_eq_some_iff] at hy
          obtain ⟨cs, hcs, hy⟩ := hy
          rw [hz] at hcs
          obtain ⟨b, off, so⟩ := a
          have hso := hsp (by omega)
          simp only at hso
          subst hso
          rw [addr_add] at hcs
          obtain ⟨cur, t, fr, hg, hl, hc⟩ := cells_get rfl hcs hz0
          obtain ⟨g, hg1, hg2⟩ := h enc base sp held n cs y hy
          have : (F g).length = z := by rw [← hl, hg1]; simp
          exact ⟨g, ⟨cur, t, fr, hg, by rw [hc, hg1]⟩, this, hg2⟩
        obtain ⟨gs, hgs, hR⟩ := choose_list (β := Unit) len key
        refine ⟨(some a, len, cap, gs), rfl, hgs.symm, ⟨hb2, hb3, ?_⟩, fun u hu => ?_⟩
        · by_cases h0 : len = 0
          · have : gs = [] := List.eq_nil_of_length_eq_zero (by omega)
            subst this
            exact ⟨0, ⟨fun y hy => (by cases hy), .inl ⟨h0, rfl⟩⟩⟩
          · obtain ⟨g0, hg0⟩ : ∃ g0, gs[0]? = some g0 := ⟨gs[0], by simp⟩
            obtain ⟨⟨cur, t, fr, hcur, _⟩, _, _⟩ := hR 0 g0 hg0
            obtain ⟨lo, hi⟩ := fr
            have hso := hsp h0
            obtain ⟨b, off, so⟩ := a
            simp only at hso hcur
            subst hso
            refine ⟨t, ⟨fun y hy => ?_, .inr ⟨b, off, cur, t, lo, hi, rfl, hcur, ?_, ?_⟩⟩⟩
            · obtain ⟨u, _, hu⟩ := List.mem_flatMap.1 hy
              exact hone u y hu
            · rw [flatMap_len fun u hu => ?_, hgs]
              obtain ⟨i, hi, rfl⟩ := List.getElem_of_mem hu
              exact (hR i _ (List.getElem?_eq_getElem hi)).2.1
            · rw [← hgs]
              refine flatMap_window F z gs _ fun i u hu => ?_
              obtain ⟨⟨cur', t', fr', hc', hw⟩, hl, _⟩ := hR i u hu
              rw [hcur] at hc'
              cases hc'
              rw [List.drop_drop]
              exact ⟨hw, hl⟩
        · obtain ⟨i, hi, rfl⟩ := List.getElem_of_mem hu
          have := hR i _ (List.getElem?_eq_getElem hi)
          exact ⟨this.2.2, this.2.1⟩
      · cases hx
/-! ### Arguments -/
theorem open_arg {r : Reach} {b0 : Nat} {t : Nat} {d : TyD} {α : Type} {F : α → List C} {Q : α → Prop} (hd : d.ok P t) (hsc : d ≠ .oth) {v : Value} {dd : DataW H} {ps : List MemPlace} (hval : Value.okWide P w r b0 t v) (hr : DataW.Trod enc P w base sp held t v dd ps)
    (h : OpenS P w t F Q) : ∃ g, Q g ∧ v = (match isAggD d with | true => V.agg (F g) | false => V.c ((F g).headD (.b false))).enc := by
  obtain ⟨n, hn⟩ := hr
  obtain ⟨g, hg, hq⟩ := h enc base sp held n _ _ hn
  refine ⟨g, hq, ?_⟩
  have one : v.cells = #[v] → v = (V.c ((F g).headD (.b false))).enc := fun h1 => by
    rw [h1] at hg
    cases hF : F g with
    | nil => rw [hF] at hg; simp at hg
    | cons x l => rw [hF] at hg; simp at hg; simpa [V.enc] using hg.1
  cases d <;> simp only [TyD.ok] at hd <;> simp only [isAggD]
  · obtain ⟨b, rfl⟩ := okWide_bool hd hval; exact one rfl
  · obtain ⟨b, rfl⟩ := okWide_int hd hval; exact one rfl
  · obtain ⟨b, rfl⟩ := okWide_string hd hval; exact one rfl
  · unfold Value.okWide at hval
    rw [hd.1] at hval
    obtain ⟨cs, rfl, _⟩ := hval
    simp only [Value.cells] at hg
    simp only [V.enc]
    rw [← hg]
  · unfold Value.okWide at hval
    rw [hd] at hval
    obtain ⟨cs, rfl, _⟩ := hval
    simp only [Value.cells] at hg
    simp only [V.enc]
    rw [← hg]
  · obtain ⟨a, b, c, rfl⟩ := okWide_slice hd hval; exact one rfl
  · obtain ⟨a, rfl⟩ := okWide_pointer hd hval; exact one rfl
  · obtain ⟨a, rfl⟩ := okWide_map hd hval; exact one rfl
  · exact absurd rfl hsc
end
/-! ### From a contract to a row -/
section
variable {H : Type} {enc : TypeId × Value → H} {P : Program}
theorem trodAll_stays (hl : laidOutB P = true) {W W' : World} {sp' : Nat → Bool} : ∀ {ts : List TypeId} {vs : List Value} {ds : List (DataW H)} {ps : List MemPlace}, (∀ t ∈ ts, P.readableRec t = true ∧ t < P.types.size) →
    DataW.TrodAll enc P W 0 (fun _ => true) true ts vs ds ps → (∀ p ∈ ps, W.sameAt W' p) → (∀ p ∈ ps, sp' p.block = true) → DataW.TrodAll enc P W' 0 sp' true ts vs ds ps
  | [], vs, ds, ps, _, h, _, _ => by
    obtain ⟨rfl, rfl, rfl⟩ := trodAll_nil h
    exact trodAll_mk0
  | t :: ts, vs, ds, ps, hr, h, hs, hp => by
    obtain ⟨v, vs', d, ds', p, q, rfl, rfl, rfl, h0, h1⟩ := trodAll_cons h
    exact trodAll_cons_mk (WideElems.Trod_stays hl (hr t (by simp)).1 (hr t (by simp)).2 h0 (fun x hx => hs x (by simp [hx])) (fun x hx => hp x (by simp [hx])))
      (trodAll_stays hl (fun u hu => hr u (by simp [hu])) h1 (fun x hx => hs x (by simp [hx])) (fun x hx => hp x (by simp [hx])))
/-- WHAT A LAW's CONTRACT COMES TO: it answers true, and leaves all that was there alone. -/
theorem law_post {f : Func} {s : ChangeSpec} {apart fresh handsOn : Bool} {W W' : World} {args : Array Value} {ds gs : List (DataW H)} {before : List MemPlace} {tb : TypeId}
    (hl : laidOutB P = true) (hr : ∀ t ∈ f.params.toList, P.readableRec t = true ∧ t < P.types.size) (hv : s.vars = []) (hrt : f.resultTypes = #[tb]) (hb : P.underlying tb = some .bool)
    (hW : DataW.Whole enc P f.params.toList s.vars apart W args.toList ds gs before) (hs : s.fn H ds = { results := [.lit (.bool true)], args := ds })
    (hos : W'.os = W.os) (hout : W'.output = W.output) (hsame : ∀ b : Nat, b < W.heap.size → W'.heap[b]? = W.heap[b]?) :
    s.post enc P f apart fresh handsOn false W args (.bool true) W' := by
  have hlt := hW.lt
  have hW0 := hW
  obtain ⟨p, q, hA, hV, rfl, _, _⟩ := hW
  rw [hv] at hV
  obtain ⟨rfl, rfl⟩ := trodVars_none hV
  have hat : ∀ x ∈ p, W.sameAt W' x := fun x hx => by
    have := hlt x (by simpa using hx)
    cases x with
    | cell b off => simp only [World.sameAt, World.cell?, hsame b this]
    | map b => exact hsame b this
  refine ⟨ds, [], _, [], p, [], hW0, ?_, ?_, ?_, ?_, fun h => by cases h⟩
  · rw [List.append_nil, hs, hrt]
    exact trodAll_cons_mk (p := []) (p' := []) (RowKit.shut_bool hb true) trodAll_mk0
  · rw [List.append_nil, hs]
    exact trodAll_stays hl hr hA hat fun x hx => by simpa using hlt x (by simpa using hx)
  · rw [hv, List.append_nil, hs]; rfl
  · refine ⟨hos, hout, fun i hi => ?_⟩
    rw [hsame i hi]
    cases hc : W.heap[i]? with
    | none => rfl
    | some o => cases o <;> first | exact ⟨rfl, rfl, rfl, fun _ _ => rfl⟩ | exact .inr ⟨rfl, rfl⟩ | rfl
/-- A law, called where its contract's facts hold. -/
theorem law_calls {f : FuncId} {fn : Func} {s : ChangeSpec} {apart fresh handsOn : Bool} {W : World} {args : Array Value} {ds gs : List (DataW H)} {before : List MemPlace} {tb : TypeId} {vs : List V} {D : List Fact}
    (hl : laidOutB P = true) (hr : ∀ t ∈ fn.params.toList, P.readableRec t = true ∧ t < P.types.size) (hv : s.vars = []) (hrt : fn.resultTypes = #[tb]) (hb : P.underlying tb = some .bool)
    (hW : DataW.Whole enc P fn.params.toList s.vars apart W args.toList ds gs before) (hs : s.fn H ds = { results := [.lit (.bool true)], args := ds })
    (hargs : args = (vs.map V.enc).toArray) (hD : allD (fun b => W.heap[b]?) D) (h : FnS P f vs [] D (Is tt)) :
    Calls P f args W fun e W' => ∃ v, e = .returned v ∧ s.post enc P fn apart fresh handsOn false W args v W' := by
  rw [hargs]
  refine (h.2 W (fun b => W.heap[b]?) ⟨by simp [fps], trivial, fun b o hb => ⟨hb, by simp [fps]⟩, hD⟩).mono ?_
  rintro e W' ⟨v, L', D', m', rfl, ⟨rfl, rfl, rfl⟩, _, hfr⟩
  rw [← hargs]
  exact ⟨_, rfl, law_post hl hr hv hrt hb hW hs hfr.kept.os hfr.kept.out fun b hb => hfr.same b hb (by simp [fps])⟩
end
end Go.X
