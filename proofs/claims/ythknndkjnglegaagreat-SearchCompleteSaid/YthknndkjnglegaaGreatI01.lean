/- This text proves, for any program of the model, that a small symbolic executor for straight pieces of code is sound: what it asks for is enough for the code's weakest precondition. No condition. -/
import Derived.WalkKit
import Derived.Deep.Quiet
import Derived.KernelRfl
set_option linter.all false

namespace Go.X
open Go
/-- How much is known of the world behind a call: in the strict way also what was drawn. -/
inductive Manner where
  | loose
  | strict
  deriving Inhabited, DecidableEq
variable [Sm : Inhabited Manner]
/-- One symbolic cell: a value of one cell. -/
inductive C where
  | b (x : Bool)
  | i (k : IntKind) (n : Int)
  | s (l : List UInt8)
  | p (id ad off : Nat)
  | sl (a : Option Addr) (n c : Nat)
  | e (a : Option Addr) (esz : Nat) (ix : Int) (off : Nat)
  | fn (f : Nat) (caps : List (Nat × Nat × Nat))
  | m (id ad : Nat)
  | raw (x : Value)
/-- A symbolic value: a cell, an aggregate of cells, or a tuple of two to four. -/
inductive V where
  | c (x : C)
  | agg (cs : List C)
  | t0
  | t1 (x : V)
  | t2 (x y : V)
  | t3 (x y z : V)
  | t4 (x y z u : V)
def elemAddr (esz : Nat) (ix : Int) (off : Nat) (a : Addr) : Addr := ⟨a.block, a.off + (ix.toNat * esz + off), none⟩
def C.enc : C → Value
  | .b x => .bool x
  | .i k n => .int k n
  | .s l => .string ⟨⟨l⟩⟩
  | .p _ ad off => .pointer (some ⟨ad, off, none⟩)
  | .sl a n c => .slice a n c
  | .e a esz ix off => .pointer (a.map (elemAddr esz ix off))
  | .fn f caps => .func (.func f) #[] (caps.map fun x => Value.pointer (some ⟨x.2.1, x.2.2, none⟩)).toArray
  | .m _ ad => .map (some ad)
  | .raw x => x
/-- A cell that stands for one cell of memory. -/
def C.one : C → Bool
  | .raw x => x.oneCell'
  | _ => true
def V.enc : V → Value
  | .c x => x.enc
  | .agg cs => .agg (cs.map C.enc).toArray
  | .t0 => .tuple #[]
  | .t1 x => .tuple #[x.enc]
  | .t2 x y => .tuple #[x.enc, y.enc]
  | .t3 x y z => .tuple #[x.enc, y.enc, z.enc]
  | .t4 x y z u => .tuple #[x.enc, y.enc, z.enc, u.enc]
def V.cells : V → List C
  | .c x => [x]
  | .agg cs => cs
  | _ => []
theorem C.enc_oneCell (x : C) (h : x.one = true) : x.enc.oneCell' = true := by
  cases x <;> first | rfl | exact h
abbrev Im := Nat → Option Obj
abbrev Env := List (Nat × V)
def look : Env → Nat → Option V
  | [], _ => none
  | (d, v) :: r, n => match Nat.beq d n with
    | true => some v
    | false => look r n
theorem look_cons_same (d : Nat) (v : V) (r : Env) : look ((d, v) :: r) d = some v := by
  have : Nat.beq d d = true := Nat.beq_refl d
  simp [look, this]
theorem look_cons_ne {d n : Nat} (v : V) (r : Env) (h : d ≠ n) : look ((d, v) :: r) n = look r n := by
  have : Nat.beq d n = false := by
    cases hb : Nat.beq d n
    · rfl
    · exact absurd (Nat.eq_of_beq_eq_true hb) h
  simp [look, this]
/-- A piece of memory that the call owns. -/
inductive Chunk where
  | box (id ad : Nat) (ty : TypeId) (cs : List C)
  | row (ety : TypeId) (esz : Nat) (a : Option Addr) (n c : Nat) (cs : List C)
  | obj (id ad : Nat) (o : Obj)
def Chunk.fp : Chunk → List Nat
  | .box _ ad _ _ => [ad]
  | .row _ _ a _ _ _ => (a.map Addr.block).toList
  | .obj _ ad _ => [ad]
def oneAll (cs : List C) : Prop := ∀ x ∈ cs, x.one = true
/-- A row of cells in a world. -/
def RowIn (o : Option Obj) (ety : TypeId) (esz n c : Nat) (cs : List C) : Prop :=
  ∃ cur lo hi, o = some (.cells cur ety (lo, hi)) ∧ n ≤ c ∧ c ≤ maxLen ∧ cur.size = c * esz ∧ (cur.size ≤ lo ∨ hi ≤ lo) ∧ cs.length = n * esz ∧ cur.toList.take (n * esz) = cs.map C.enc
def Chunk.ok (w : World) : Chunk → Prop
  | .box _ ad ty cs => oneAll cs ∧ w.heap[ad]? = some (.cells (cs.map C.enc).toArray ty (0, 0))
  | .row ety esz a n c cs => oneAll cs ∧ ((a = none ∧ n = 0 ∧ c = 0 ∧ cs = []) ∨ ∃ g, a = some ⟨g, 0, none⟩ ∧ RowIn w.heap[g]? ety esz n c cs)
  | .obj _ ad o => w.heap[ad]? = some o
theorem Chunk.ok_of_same {w w' : World} {ch : Chunk} (h : ch.ok w) (hs : ∀ b ∈ ch.fp, w'.heap[b]? = w.heap[b]?) : ch.ok w' := by
  cases ch with
  | box id ad ty cs => exact ⟨h.1, by rw [hs ad (by simp [Chunk.fp])]; exact h.2⟩
  | row ety esz a n c cs =>
    refine ⟨h.1, ?_⟩
    rcases h.2 with h' | ⟨g, hg, hr⟩
    · exact .inl h'
    · exact .inr ⟨g, hg, by rw [hs g (by simp [Chunk.fp, hg])]; exact hr⟩
  | obj id ad o => exact (hs ad (by simp [Chunk.fp])).trans h
theorem Chunk.lt_of_ok {w : World} {ch : Chunk} (h : ch.ok w) : ∀ b ∈ ch.fp, b < w.heap.size := by
  have key : ∀ (b : Nat) (o : Obj), w.heap[b]? = some o → b < w.heap.size := fun b o hb => (Array.getElem?_eq_some_iff.1 hb).1
  cases ch with
  | box id ad ty cs => intro b hb; simp [Chunk.fp] at hb; subst hb; exact key _ _ h.2
  | row ety esz a n c cs =>
    intro b hb
    rcases h.2 with ⟨ha, _⟩ | ⟨g, hg, cur, lo, hi, ho, _⟩
    · simp [Chunk.fp, ha] at hb
    · simp [Chunk.fp, hg] at hb; subst hb; exact key _ _ ho
  | obj id ad o => intro b hb; simp [Chunk.fp] at hb; subst hb; exact key _ _ h
/-- What is known of memory that does not change any more. -/
structure Fact where
  p : Im → Prop
  mono : ∀ m m' : Im, (∀ b o, m b = some o → m' b = some o) → p m → p m'
def fps : List Chunk → List Nat
  | [] => []
  | c :: r => c.fp ++ fps r
def allOk (w : World) : List Chunk → Prop
  | [] => True
  | c :: r => c.ok w ∧ allOk w r
def allD (m : Im) : List Fact → Prop
  | [] => True
  | f :: r => f.p m ∧ allD m r
structure Holds (w : World) (m : Im) (L : List Chunk) (D : List Fact) : Prop where
  nd : (fps L).Nodup
  ok : allOk w L
  im : ∀ b o, m b = some o → w.heap[b]? = some o ∧ b ∉ fps L
  d : allD m D
theorem mem_fps_lt {w : World} : ∀ {L : List Chunk}, allOk w L → ∀ b ∈ fps L, b < w.heap.size
  | [], _, b, hb => by simp [fps] at hb
  | c :: r, h, b, hb => by
    simp only [fps, List.mem_append] at hb
    rcases hb with hb | hb
    · exact Chunk.lt_of_ok h.1 b hb
    · exact mem_fps_lt h.2 b hb
theorem allOk_of_same {w w' : World} : ∀ {L : List Chunk}, allOk w L → (∀ b ∈ fps L, w'.heap[b]? = w.heap[b]?) → allOk w' L
  | [], _, _ => trivial
  | c :: r, h, hs => ⟨Chunk.ok_of_same h.1 fun b hb => hs b (by simp [fps, hb]), allOk_of_same h.2 fun b hb => hs b (by simp [fps, hb])⟩
theorem fps_append (A B : List Chunk) : fps (A ++ B) = fps A ++ fps B := by
  induction A with
  | nil => simp [fps]
  | cons c r ih => simp [fps, ih]
theorem allOk_append {w : World} (A B : List Chunk) : allOk w (A ++ B) ↔ allOk w A ∧ allOk w B := by
  induction A with
  | nil => simp [allOk]
  | cons c r ih => simp [allOk, ih, and_assoc]
theorem allD_append {m : Im} (A B : List Fact) : allD m (A ++ B) ↔ allD m A ∧ allD m B := by
  induction A with
  | nil => simp [allD]
  | cons c r ih => simp [allD, ih, and_assoc]
theorem allD_mono {m m' : Im} (hm : ∀ b o, m b = some o → m' b = some o) : ∀ {D : List Fact}, allD m D → allD m' D
  | [], _ => trivial
  | f :: _, h => ⟨f.mono m m' hm h.1, allD_mono hm h.2⟩
/-- Whether a place is frozen. -/
def frO (o : Option Obj) (off : Nat) : Bool :=
  match o with
  | some (.cells _ _ (lo, hi)) => lo ≤ off && off < hi
  | _ => false
/-- What no call here touches. -/
structure Kept (w w' : World) : Prop where
  os : w'.os = w.os
  out : w'.output = w.output
  size : w.heap.size ≤ w'.heap.size
  tape : Sm.default = .strict → w'.tape = w.tape
  drawn : Sm.default = .strict → w.drawn ≤ w'.drawn
theorem Kept.refl (w : World) : Kept w w := ⟨rfl, rfl, Nat.le_refl _, fun _ => rfl, fun _ => Nat.le_refl _⟩
theorem Kept.trans {w w1 w2 : World} (h : Kept w w1) (h' : Kept w1 w2) : Kept w w2 := ⟨h'.os.trans h.os, h'.out.trans h.out, Nat.le_trans h.size h'.size, fun e => (h'.tape e).trans (h.tape e), fun e => Nat.le_trans (h.drawn e) (h'.drawn e)⟩
/-- From one moment to a later one: what is not owned stays, what is owned later was owned or is new. -/
structure Fr (w : World) (L : List Chunk) (m : Im) (w' : World) (L' : List Chunk) (m' : Im) : Prop where
  size : w.heap.size ≤ w'.heap.size
  same : ∀ b, b < w.heap.size → b ∉ fps L → w'.heap[b]? = w.heap[b]?
  own : ∀ b ∈ fps L', b ∈ fps L ∨ w.heap.size ≤ b
  im : ∀ b o, m b = some o → m' b = some o
  new : ∀ b o, m' b = some o → m b = some o ∨ b ∈ fps L ∨ w.heap.size ≤ b
  kept : Kept w w'
theorem Fr.refl (w : World) (L : List Chunk) (m : Im) : Fr w L m w L m :=
  ⟨Nat.le_refl _, fun _ _ _ => rfl, fun _ h => .inl h, fun _ _ h => h, fun _ _ h => .inl h, Kept.refl _⟩
theorem Fr.trans {w w1 w2 : World} {L L1 L2 : List Chunk} {m m1 m2 : Im} (h : Fr w L m w1 L1 m1) (h' : Fr w1 L1 m1 w2 L2 m2) : Fr w L m w2 L2 m2 := by
  refine ⟨Nat.le_trans h.size h'.size, fun b hb hn => ?_, fun b hb => ?_, fun b o ho => h'.im b o (h.im b o ho), fun b o ho => ?_, h.kept.trans h'.kept⟩
  · rw [h'.same b (Nat.lt_of_lt_of_le hb h.size) (fun hc => ?_), h.same b hb hn]
    rcases h.own b hc with h1 | h1
    · exact hn h1
    · omega
  · rcases h'.own b hb with h1 | h1
    · exact h.own b h1
    · exact .inr (Nat.le_trans h.size h1)
  · rcases h'.new b o ho with h1 | h1 | h1
    · exact h.new b o h1
    · exact .inr (h.own b h1)
    · exact .inr (.inr (Nat.le_trans h.size h1))
/-- THE FRAME RULE: a step that owns L leaves the rest R, and what is known, alone. -/
theorem Holds.frame {w w' : World} {m m' : Im} {L L' R : List Chunk} {D' E : List Fact} (h : Holds w m (L ++ R) E) (h' : Holds w' m' L' D') (hf : Fr w L m w' L' m') :
    Holds w' m' (L' ++ R) (D' ++ E) ∧ Fr w (L ++ R) m w' (L' ++ R) m' := by
  have hlt := mem_fps_lt h.ok
  have hnd := h.nd
  rw [fps_append] at hnd hlt
  have hdis : ∀ b ∈ fps R, b ∉ fps L := fun b hb hc => (List.nodup_append.1 hnd).2.2 b hc b hb rfl
  have hR : ∀ b ∈ fps R, w'.heap[b]? = w.heap[b]? := fun b hb => hf.same b (hlt b (by simp [hb])) (hdis b hb)
  refine ⟨⟨?_, ?_, ?_, ?_⟩, ⟨hf.size, ?_, ?_, hf.im, ?_, hf.kept⟩⟩
  · rw [fps_append]
    refine List.nodup_append.2 ⟨h'.nd, (List.nodup_append.1 hnd).2.1, fun a ha b hb hab => ?_⟩
    subst hab
    rcases hf.own a ha with h1 | h1
    · exact hdis a hb h1
    · have := hlt a (by simp [hb]); omega
  · exact (allOk_append _ _).2 ⟨h'.ok, allOk_of_same ((allOk_append _ _).1 h.ok).2 hR⟩
  · intro b o ho
    refine ⟨(h'.im b o ho).1, ?_⟩
    rw [fps_append]
    intro hc
    rcases List.mem_append.1 hc with hc | hc
    · exact (h'.im b o ho).2 hc
    · rcases hf.new b o ho with h1 | h1 | h1
      · exact (h.im b o h1).2 (by rw [fps_append]; simp [hc])
      · exact hdis b hc h1
      · have := hlt b (by simp [hc]); omega
  · exact (allD_append _ _).2 ⟨h'.d, allD_mono hf.im h.d⟩
  · intro b hb hn
    rw [fps_append] at hn
    exact hf.same b hb (fun hc => hn (by simp [hc]))
  · intro b hb
    rw [fps_append] at hb ⊢
    rcases List.mem_append.1 hb with hb | hb
    · rcases hf.own b hb with h1 | h1
      · exact .inl (by simp [h1])
      · exact .inr h1
    · exact .inl (by simp [hb])
  · intro b o ho
    rw [fps_append]
    rcases hf.new b o ho with h1 | h1 | h1
    · exact .inl h1
    · exact .inr (.inl (by simp [h1]))
    · exact .inr (.inr h1)
/-- A call of function f enters its body. -/
def Enters (P : Program) (f : FuncId) : Prop := ∃ fn, P.funcs[f]? = some fn ∧ (fn.name == "runtime.NumGoroutine") = false ∧ fn.body.isNone = false
/-- A FUNCTION's CONTRACT. -/
structure FnS (P : Program) (f : FuncId) (args : List V) (L : List Chunk) (D : List Fact) (post : V → List Chunk → List Fact → Prop) : Prop where
  en : Enters P f
  run : ∀ w m, Holds w m L D → Calls P f (args.map V.enc).toArray w fun e w' => ∃ v L' D' m', e = .returned v.enc ∧ post v L' D' ∧ Holds w' m' L' D' ∧ Fr w L m w' L' m'
theorem FnS.mono {P : Program} {f : FuncId} {args : List V} {L : List Chunk} {D : List Fact} {post post' : V → List Chunk → List Fact → Prop} (h : FnS P f args L D post)
    (hp : ∀ v L' D', post v L' D' → post' v L' D') : FnS P f args L D post' :=
  ⟨h.1, fun w m hh => (h.2 w m hh).mono fun _ _ ⟨v, L', D', m', h1, h2, h3, h4⟩ => ⟨v, L', D', m', h1, hp _ _ _ h2, h3, h4⟩⟩
end Go.X

/- This text proves that the symbolic executor's rule for each operation is sound, for any program whose types agree with a given table. -/
namespace Go.X
open Go
variable [Sm : Inhabited Manner]
/-! ### Types -/
inductive TyD where
  | bool | int (k : IntKind) | str
  | st (fs : List (Nat × Nat))
  | arr (n elem : Nat)
  | sl (elem : Nat)
  | ptr (elem : Nat)
  | mp (key elem : Nat)
  | oth
structure TyI where
  d : TyD
  size : Nat
  bytes : Nat
  zero : V
abbrev Ty := List (Nat × TyI)
def find : Ty → Nat → Option TyI
  | [], _ => none
  | (t, i) :: r, n => match Nat.beq t n with
    | true => some i
    | false => find r n
def TyD.ok (P : Program) (t : TypeId) : TyD → Prop
  | .bool => P.underlying t = some .bool
  | .int k => P.underlying t = some (.int k)
  | .str => P.underlying t = some .string
  | .st fs => P.underlying t = some (.struct (P.fieldsOf t)) ∧ (P.fieldsOf t).toList.map (fun f => (f.offset, f.type)) = fs ∧
      ((P.fieldsOf t).toList.all fun f => f.name != "_") = true ∧ P.stoodInHeld t = false ∧ P.eqGuardType P.depth t = false
  | .arr n e => P.underlying t = some (.array n e)
  | .sl e => P.underlying t = some (.slice e)
  | .ptr e => P.underlying t = some (.pointer e)
  | .mp k e => P.underlying t = some (.map k e)
  | .oth => True
def isAggD : TyD → Bool
  | .st _ | .arr _ _ => true
  | _ => false
def TyI.ok (P : Program) (t : TypeId) (i : TyI) : Prop :=
  ((P.info? t).map fun x => (x.size, x.bytes)) = some (i.size, i.bytes) ∧ (P.info? t).bind (·.zero) = some i.zero.enc ∧ (isAggD i.d = true ∨ i.size = 1) ∧ i.d.ok P t
def TyOK (P : Program) (T : Ty) : Prop := ∀ t i, find T t = some i → i.ok P t
def TyAll (P : Program) : Ty → Prop
  | [] => True
  | (t, i) :: r => i.ok P t ∧ TyAll P r
theorem tyOK_of_all {P : Program} : ∀ {T : Ty}, TyAll P T → TyOK P T
  | [], _ => fun t i h => by simp [find] at h
  | (t, i) :: r, h => fun u j hj => by
    simp only [find] at hj
    cases hb : Nat.beq t u with
    | true => rw [hb] at hj; simp at hj; subst hj; rw [← Nat.eq_of_beq_eq_true hb]; exact h.1
    | false => rw [hb] at hj; exact tyOK_of_all h.2 u j hj
/-! ### What the executor asks -/
/-- A test: both ways. -/
structure CondP (p : Prop) (A B : Prop) : Prop where
  t : p → A
  f : ¬p → B
/-- A condition that must hold. -/
structure SideP (p A : Prop) : Prop where
  h : p
  k : A
def inR : IntKind → Int → Prop
  | .i64, r => -9223372036854775808 ≤ r ∧ r ≤ 9223372036854775807
  | .u8, r => 0 ≤ r ∧ r ≤ 255
  | .i32, r => -2147483648 ≤ r ∧ r ≤ 2147483647
  | .u32, r => 0 ≤ r ∧ r ≤ 4294967295
  | .u64, r => 0 ≤ r ∧ r ≤ 18446744073709551615
  | .u16, r => 0 ≤ r ∧ r ≤ 65535
  | .i8, r => -128 ≤ r ∧ r ≤ 127
  | .i16, r => -32768 ≤ r ∧ r ≤ 32767
/-- A number: in range, or wrapped. -/
inductive ArP (k : IntKind) (r : Int) (K : Int → Prop) : Prop where
  | exact (h : inR k r) (h' : K r)
  | wrap (h' : K (k.wrap r))
/-- A new block. -/
structure NewP (K : Nat → Prop) : Prop where
  k : ∀ ad, K ad
theorem wrap_of_inR {k : IntKind} {r : Int} (h : inR k r) : k.wrap r = r := by
  cases k <;> simp only [inR] at h <;> simp [IntKind.wrap, IntKind.bits, IntKind.signed] <;> omega
theorem ArP.run {k : IntKind} {r : Int} {K : Int → Prop} (h : ArP k r K) : K (k.wrap r) := by
  cases h with
  | exact h h' => rw [wrap_of_inR h]; exact h'
  | wrap h' => exact h'
def kdN : IntKind → Nat
  | .i8 => 0 | .i16 => 1 | .i32 => 2 | .i64 => 3 | .u8 => 4 | .u16 => 5 | .u32 => 6 | .u64 => 7
theorem kdN_inj {a b : IntKind} (h : Nat.beq (kdN a) (kdN b) = true) : a = b := by cases a <;> cases b <;> first | rfl | (simp [kdN] at h)
/-! ### Operands -/
def constC : Value → C
  | .bool b => .b b
  | .int k n => .i k n
  | .string s => .s s.data.toList
  | .slice none 0 0 => .sl none 0 0
  | x => .raw x
theorem constC_enc (x : Value) : (constC x).enc = x := by
  unfold constC
  split <;> rfl
def constV : Value → V
  | .agg cs => .agg (cs.toList.map constC)
  | x => .c (constC x)
theorem constV_enc (x : Value) : (constV x).enc = x := by
  unfold constV
  split
  · rename_i cs
    simp only [V.enc, List.map_map]
    have : (C.enc ∘ constC) = id := by funext x; exact constC_enc x
    rw [this]; simp
  · simp only [V.enc]; exact constC_enc _
def ev (env : Env) : Operand → Option V
  | .tmp t => look env t
  | .const v => some (constV v)
  | .global g => some (.c (.raw (.pointer (some ⟨g, 0, none⟩))))
  | .func f => some (.c (.fn f []))
def withE (env : Env) (x : Operand) (k : V → Prop) : Prop :=
  match ev env x with
  | some v => k v
  | none => False
def EnvOK (N : Nat) (env : Env) (a : Act) : Prop := a.defers = [] ∧ a.tmps.size = N ∧ ∀ d v, look env d = some v → a.tmps[d]? = some v.enc
theorem EnvOK.ev {N : Nat} {env : Env} {a : Act} (h : EnvOK N env a) {x : Operand} {v : V} (hx : ev env x = some v) : a.eval x = v.enc := by
  cases x with
  | tmp t => simp only [X.ev] at hx; simp [Act.eval, h.2.2 t v hx]
  | const c => simp only [X.ev, Option.some.injEq] at hx; subst hx; simp [Act.eval, constV_enc]
  | global g => simp only [X.ev, Option.some.injEq] at hx; subst hx; rfl
  | func f => simp only [X.ev, Option.some.injEq] at hx; subst hx; rfl
theorem withE_elim {env : Env} {x : Operand} {k : V → Prop} (h : withE env x k) : ∃ v, ev env x = some v ∧ k v := by
  unfold withE at h
  split at h
  · rename_i v hv; exact ⟨v, hv, h⟩
  · exact h.elim
/-! ### Equality -/
def eqC : C → C → Option Prop
  | .b x, .b y => some (x = y)
  | .i k x, .i k' y => match Nat.beq (kdN k) (kdN k') with | true => some (x = y) | false => none
  | .s x, .s y => some (x = y)
  | _, _ => none
/-- The cell is of the type. -/
def isC : TyD → C → Bool
  | .bool, .b _ => true
  | .int k, .i k' _ => Nat.beq (kdN k) (kdN k')
  | .str, .s _ => true
  | _, _ => false
def eqFs (T : Ty) (g : Nat → List C → List C → Option Prop) (xs ys : List C) : List (Nat × Nat) → Option Prop
  | [] => some True
  | (off, ft) :: rest =>
    match find T ft with
    | none => none
    | some i =>
      match g ft ((xs.drop off).take i.size) ((ys.drop off).take i.size), eqFs T g xs ys rest with
      | some p, some q => some (p ∧ q)
      | _, _ => none
def eqTy (T : Ty) : Nat → Nat → List C → List C → Option Prop
  | 0, _, _, _ => none
  | n + 1, t, xs, ys =>
    match find T t with
    | none => none
    | some i =>
      match i.d with
      | .st fs => eqFs T (eqTy T n) xs ys fs
      | d => match xs, ys with
        | [x], [y] => match isC d x, isC d y with
          | true, true => eqC x y
          | _, _ => none
        | _, _ => none
/-- The value of cells at a type. -/
def valOf (d : TyD) (xs : List C) : Value :=
  match d with
  | .st _ | .arr _ _ => .agg (xs.map C.enc).toArray
  | _ => match xs with
    | [x] => x.enc
    | _ => undef
theorem run_eqC {P : Program} {w : World} {t : TypeId} {dd : TyD} {d : Nat} {x y : C} {p : Prop} (h : eqC x y = some p) (hx : isC dd x = true) (hy : isC dd y = true) (ht : dd.ok P t) :
    ∃ b, (Op.equalIn (d + 1) t x.enc y.enc).run P w = .ok b w ∧ (b = true ↔ p) := by
  cases x <;> cases y <;> simp only [eqC] at h <;> try (cases h; done)
  · cases dd <;> simp [isC] at hx
    simp only [Option.some.injEq] at h; subst h
    exact ⟨_, run_equalIn_bool' w d t _ _ ht, by simp⟩
  · rename_i k n k' m
    split at h
    · rename_i hb
      simp only [Option.some.injEq] at h; subst h
      have := kdN_inj hb; subst this
      cases dd <;> simp only [isC] at hx <;> try (cases hx; done)
      exact ⟨_, run_equalIn_int w d t k _ n m ht, by simp⟩
    · cases h
  · cases dd <;> simp [isC] at hx
    simp only [Option.some.injEq] at h; subst h
    exact ⟨_, run_equalIn_string w d t _ _ ht, by simp [ByteArray.toList_eq]⟩
theorem tyI_info {P : Program} {t : TypeId} {i : TyI} (h : i.ok P t) : ∃ x, P.info? t = some x ∧ x.size = i.size ∧ x.bytes = i.bytes ∧ x.zero = some i.zero.enc := by
  obtain ⟨h1, h2, _⟩ := h
  cases hi : P.info? t with
  | none => simp [hi] at h1
  | some x => simp [hi] at h1 h2; exact ⟨x, rfl, h1.1, h1.2, h2⟩
theorem run_sizeOf {P : Program} {t : TypeId} {i : TyI} (h : i.ok P t) (w : World) : (sizeOf t).run P w = .ok i.size w := by
  obtain ⟨x, hx, h1, _⟩ := tyI_info h
  simp [sizeOf, typeInfo, hx, h1]
theorem run_zeroValue {P : Program} {t : TypeId} {i : TyI} (h : i.ok P t) (w : World) : (zeroValue t).run P w = .ok i.zero.enc w := by
  obtain ⟨x, hx, _, _, h1⟩ := tyI_info h
  simp [zeroValue, typeInfo, hx, h1]
theorem run_isAgg {P : Program} {t : TypeId} {i : TyI} (h : i.ok P t) (hd : ∀ x, i.d ≠ .oth ∨ x) (w : World) : (isAgg t).run P w = .ok (isAggD i.d) w := by
  obtain ⟨_, _, _, h4⟩ := h
  have hd' : i.d ≠ .oth := (hd False).resolve_right id
  cases hdd : i.d <;> rw [hdd] at h4 hd' <;> simp only [TyD.ok] at h4
  case st fs => simp [isAgg, run_underlying h4.1, isAggD]
  case oth => exact absurd rfl hd'
  all_goals simp [isAgg, run_underlying h4, isAggD]
/-- 'part' at a type of the table: the cells from 'off' on. -/
theorem run_part {P : Program} {t : TypeId} {i : TyI} (h : i.ok P t) (hd : i.d ≠ .oth) (xs : List C) (off : Nat) (hl : isAggD i.d = true ∨ off < xs.length) (w : World) :
    (part t (xs.map C.enc).toArray off).run P w = .ok (valOf i.d ((xs.drop off).take i.size)) w := by
  unfold part
  simp only [Sem.run_bind, run_isAgg h (fun _ => .inl hd), Result.andThen_ok, Sem.run_ite]
  cases ha : isAggD i.d with
  | true =>
    simp only [if_true, Sem.run_bind, run_sizeOf h, Result.andThen_ok, Sem.run_pure]
    congr 1
    cases hdd : i.d <;> rw [hdd] at ha <;> simp [isAggD] at ha <;> simp [valOf, List.map_take, List.map_drop, List.drop_take]
  | false =>
    have hs : i.size = 1 := h.2.2.1.resolve_left (by simp [ha])
    have hlt : off < xs.length := hl.resolve_left (by simp [ha])
    rw [hs]
    simp only [Bool.false_eq_true, if_false]
    have e1 : (xs.map C.enc).toArray[off]? = some (xs[off].enc) := by simp [hlt]
    have e2 : (xs.drop off).take 1 = [xs[off]] := by rw [List.drop_eq_getElem_cons hlt]; rfl
    rw [e1, e2]
    simp only [Sem.run_pure]
    congr 1
    cases hdd : i.d <;> rw [hdd] at ha <;> simp [isAggD] at ha <;> rfl
theorem take1_lt {xs : List C} {off n : Nat} {x : C} (h : (xs.drop off).take n = [x]) : off < xs.length := by
  have := congrArg List.length h
  simp at this
  omega
theorem eqTy_lt {T : Ty} {n t : Nat} {xs ys : List C} {off : Nat} {p : Prop} {i : TyI} (h : eqTy T n t ((xs.drop off).take i.size) ((ys.drop off).take i.size) = some p) (hi : find T t = some i) :
    (isAggD i.d = true ∨ off < xs.length) ∧ (isAggD i.d = true ∨ off < ys.length) ∧ i.d ≠ .oth := by
  cases n with
  | zero => simp [eqTy] at h
  | succ n =>
    simp only [eqTy, hi] at h
    split at h
    · rename_i fs hd; simp [hd, isAggD]
    · rename_i dd hnst
      split at h
      · rename_i x y hx hy
        split at h
        · rename_i h1 h2
          refine ⟨.inr (take1_lt hx), .inr (take1_lt hy), ?_⟩
          intro hd; rw [hd] at h1; simp [isC] at h1
        · cases h
      · cases h
theorem run_eqTy {P : Program} {T : Ty} (hT : TyOK P T) : ∀ (n d t : Nat) (xs ys : List C) (p : Prop) (w : World) (i : TyI), eqTy T n t xs ys = some p → find T t = some i →
    ∃ b, (Op.equalIn (d + n) t (valOf i.d xs) (valOf i.d ys)).run P w = .ok b w ∧ (b = true ↔ p) := by
  intro n
  induction n with
  | zero => intro d t xs ys p w i h; simp [eqTy] at h
  | succ n ih =>
    intro d t xs ys p w i h hi
    have hok := hT t i hi
    simp only [eqTy, hi] at h
    split at h
    · rename_i fs hd
      have hok' := hok.2.2.2
      rw [hd] at hok'
      obtain ⟨hu, hfs, hnb, hst, _⟩ := hok'
      rw [hd]
      simp only [valOf]
      rw [show d + (n + 1) = (d + n) + 1 from rfl, run_equalIn_agg w (d + n) t _ _ hu hst]
      rw [← hfs] at h
      clear hfs hd hu
      generalize (P.fieldsOf t).toList = F at h hnb
      induction F generalizing p with
      | nil => simp only [List.map_nil, eqFs, Option.some.injEq] at h; rw [← h]; exact ⟨true, by simp [Op.eqFields], by simp⟩
      | cons f F ihF =>
        simp only [List.map_cons, eqFs] at h
        simp only [List.all_cons, Bool.and_eq_true] at hnb
        cases hj : find T f.type with
        | none => simp [hj] at h
        | some j =>
          simp only [hj] at h
          split at h
          · rename_i p1 q1 hp1 hq1
            simp only [Option.some.injEq] at h; rw [← h]
            have hjok := hT _ _ hj
            obtain ⟨hl1, hl2, hoth⟩ := eqTy_lt hp1 hj
            obtain ⟨b1, hb1, hb1'⟩ := ih d f.type _ _ p1 w j hp1 hj
            obtain ⟨b2, hb2, hb2'⟩ := ihF q1 hq1 hnb.2
            have hnm : f.name ≠ "_" := by simpa using hnb.1
            simp only [Op.eqFields, hnm, ne_eq, not_false_eq_true, if_true, Sem.run_bind, run_part hjok hoth _ _ hl1, run_part hjok hoth _ _ hl2, Result.andThen_ok, hb1, Sem.run_ite]
            cases b1 with
            | true => exact ⟨b2, by simpa using hb2, by simp [← hb1', hb2']⟩
            | false => exact ⟨false, by simp, by simp [← hb1']⟩
          · cases h
    · rename_i dd hnst
      split at h
      · rename_i x y
        split at h
        · rename_i hx hy
          have := run_eqC (w := w) (d := d + n) h hx hy hok.2.2.2
          have hv : ∀ z, isC i.d z = true → valOf i.d [z] = z.enc := by
            intro z hz
            cases hdd : i.d <;> rw [hdd] at hz <;> first | rfl | (cases z <;> simp [isC] at hz)
          rw [hv x hx, hv y hy]
          exact this
        · cases h
      · cases h
end Go.X

/- This text proves how loads and stores of whole variables run on a block of known cells. -/
namespace Go.X
open Go
variable [Sm : Inhabited Manner]
def setBlk (w : World) (g : Nat) (o : Obj) : World := { w with heap := w.heap.setIfInBounds g o }
theorem setBlk_same {w : World} {g : Nat} {o o' : Obj} (h : w.heap[g]? = some o') : (setBlk w g o).heap[g]? = some o := by
  have := (Array.getElem?_eq_some_iff.1 h).1
  simp [setBlk, this]
theorem setBlk_ne {w : World} {g b : Nat} {o : Obj} (h : b ≠ g) : (setBlk w g o).heap[b]? = w.heap[b]? := by
  simp [setBlk, Array.getElem?_setIfInBounds, Ne.symm h]
theorem setBlk_size (w : World) (g : Nat) (o : Obj) : (setBlk w g o).heap.size = w.heap.size := by simp [setBlk]
theorem addr_add (b o n : Nat) : (⟨b, o, none⟩ : Addr).add n = ⟨b, o + n, none⟩ := by
  unfold Addr.add; split <;> simp_all
theorem cell_blk {w : World} {g : Nat} {cur : Array Value} {t : TypeId} {fr : Nat × Nat} (h : w.heap[g]? = some (.cells cur t fr)) (o : Nat) : w.cell? ⟨g, o, none⟩ = cur[o]? := by
  simp [World.cell?, h]
theorem run_loadCells_blk {P : Program} {w : World} {g : Nat} {cur : Array Value} {t : TypeId} {fr : Nat × Nat} (h : w.heap[g]? = some (.cells cur t fr)) (o : Nat) (cs : List Value)
    (hcs : (cur.toList.drop o).take cs.length = cs) : (loadCells ⟨g, o, none⟩ cs.length).run P w = .ok cs.toArray w := by
  refine run_loadCells_list w _ cs fun j v hj => ?_
  rw [addr_add, cell_blk h]
  rw [← hcs, List.getElem?_take] at hj
  split at hj
  · rw [List.getElem?_drop] at hj; simpa using hj
  · cases hj
/-- A variable of a type of the table is read from a block of known cells. -/
theorem run_loadVar_blk {P : Program} {w : World} {g : Nat} {cur : Array Value} {t ty : TypeId} {fr : Nat × Nat} {i : TyI} (hok : i.ok P ty) (hd : i.d ≠ .oth) (h : w.heap[g]? = some (.cells cur t fr)) (o : Nat) (cs : List C)
    (hl : cs.length = i.size) (hcs : (cur.toList.drop o).take cs.length = cs.map C.enc) : (loadVar ty ⟨g, o, none⟩).run P w = .ok (valOf i.d cs) w := by
  unfold loadVar
  simp only [Sem.run_bind, run_isAgg hok (fun _ => .inl hd), Result.andThen_ok, Sem.run_ite]
  cases ha : isAggD i.d with
  | true =>
    simp only [if_true, Sem.run_bind, run_sizeOf hok, Result.andThen_ok]
    have := run_loadCells_blk (P := P) h o (cs.map C.enc) (by simpa using hcs)
    rw [List.length_map, hl] at this
    rw [this]
    simp only [Result.andThen_ok, Sem.run_pure]
    cases hdd : i.d <;> rw [hdd] at ha <;> simp [isAggD] at ha <;> rfl
  | false =>
    simp only [Bool.false_eq_true, if_false]
    have hs : i.size = 1 := hok.2.2.1.resolve_left (by simp [ha])
    rw [hs] at hl
    match cs, hl with
    | [x], _ =>
      have hc : w.cell? ⟨g, o, none⟩ = some x.enc := by
        rw [cell_blk h]
        simp only [List.length_cons, List.length_nil, List.map_cons, List.map_nil] at hcs
        have := congrArg (fun l => l[0]?) hcs
        simp only [Nat.zero_add, List.getElem?_take, Nat.lt_add_one, if_true, List.getElem?_drop, Nat.add_zero, List.getElem?_cons_zero] at this
        simpa using this
      simp only [run_load, hc]
      cases hdd : i.d <;> rw [hdd] at ha <;> simp [isAggD] at ha <;> rfl
theorem setCell_blk {w : World} {g : Nat} {cur : Array Value} {t : TypeId} {fr : Nat × Nat} (h : w.heap[g]? = some (.cells cur t fr)) (o : Nat) (v : Value) :
    w.setCell ⟨g, o, none⟩ v = setBlk w g (.cells (cur.setIfInBounds o v) t fr) := by
  simp only [World.setCell, setBlk]
  congr 1
  apply Array.ext_getElem?
  intro i
  simp only [Array.getElem?_modify, Array.getElem?_setIfInBounds]
  by_cases hi : g = i
  · subst hi
    obtain ⟨hlt, he⟩ := Array.getElem?_eq_some_iff.1 h
    simp [hlt, he]
  · simp [hi]
theorem setBlk_setBlk (w : World) (g : Nat) (o o' : Obj) : setBlk (setBlk w g o) g o' = setBlk w g o' := by
  simp only [setBlk]
  congr 1
  apply Array.ext_getElem?
  intro i
  simp only [Array.getElem?_setIfInBounds, Array.size_setIfInBounds]
  split <;> rfl
theorem frozen_blk {w : World} {g : Nat} {cur : Array Value} {t : TypeId} {lo hi : Nat} (h : w.heap[g]? = some (.cells cur t (lo, hi))) {o : Nat} (ho : o < cur.size) (hf : cur.size ≤ lo ∨ hi ≤ lo) :
    w.frozen? ⟨g, o, none⟩ = false := by
  simp [World.frozen?, h]
  omega
def setL : Nat → List Value → List Value → List Value
  | o, vs, l => l.take o ++ vs ++ l.drop (o + vs.length)
theorem run_storeCells_blk {P : Program} {g : Nat} {t : TypeId} {lo hi : Nat} : ∀ (vs : List Value) (o k : Nat) (cur : Array Value) (w : World), w.heap[g]? = some (.cells cur t (lo, hi)) → (cur.size ≤ lo ∨ hi ≤ lo) →
    o + k + vs.length ≤ cur.size → (∀ v ∈ vs, v.oneCell' = true) → (storeCells ⟨g, o, none⟩ vs k).run P w = .ok () (setBlk w g (.cells (setL (o + k) vs cur.toList).toArray t (lo, hi)))
  | [], o, k, cur, w, h, _, _, _ => by
    simp only [storeCells, Sem.run_pure]
    congr 1
    simp only [setL, List.append_nil, List.length_nil, Nat.add_zero, List.take_append_drop]
    have : setBlk w g (.cells cur t (lo, hi)) = w := by
      simp only [setBlk]
      have hlt := (Array.getElem?_eq_some_iff.1 h)
      obtain ⟨hlt, he⟩ := hlt
      have : w.heap.setIfInBounds g (.cells cur t (lo, hi)) = w.heap := by
        apply Array.ext_getElem?
        intro i
        simp only [Array.getElem?_setIfInBounds]
        split
        · rename_i hi; subst hi; simp [hlt, he]
        · rfl
      rw [this]
    simpa using this.symm
  | v :: vs, o, k, cur, w, h, hf, hl, h1 => by
    simp only [List.length_cons] at hl
    have ho : o + k < cur.size := by omega
    have hv := h1 v (by simp)
    simp only [storeCells, addr_add, Sem.run_bind, run_store P w _ v _ hv, cell_blk h]
    have e1 : cur[o + k]? = some cur[o + k] := by simp [ho]
    rw [e1]
    simp only [frozen_blk h ho hf]
    simp only [Bool.false_eq_true, if_false, Result.andThen_ok, setCell_blk h]
    have h2 := setBlk_same (w := w) (o := .cells (cur.setIfInBounds (o + k) v) t (lo, hi)) h
    rw [run_storeCells_blk vs o (k + 1) _ _ h2 (by simpa using hf) (by simp; omega) (fun x hx => h1 x (by simp [hx])), setBlk_setBlk]
    congr 3
    simp only [setL, Array.toList_setIfInBounds]
    congr 1
    have ho' : o + k < cur.toList.length := by simpa using ho
    rw [show o + (k + 1) = (o + k) + 1 from rfl, List.take_succ_eq_append_getElem (by simpa using ho)]
    simp only [List.getElem_set_self, List.take_set_of_le (Nat.le_refl _), List.append_assoc, List.singleton_append, List.length_cons]
    rw [List.drop_set_of_lt (by omega)]
    congr 3
    omega
/-- A variable of a type of the table is stored into a block of known cells. -/
theorem run_storeVar_blk {P : Program} {w : World} {g : Nat} {cur : Array Value} {t ty : TypeId} {lo hi : Nat} {i : TyI} (hok : i.ok P ty) (h : w.heap[g]? = some (.cells cur t (lo, hi))) (hf : cur.size ≤ lo ∨ hi ≤ lo)
    (o : Nat) (cs : List C) (v : Value) (hv : v.cells = (cs.map C.enc).toArray) (hl : cs.length = i.size) (ho : o + cs.length ≤ cur.size) (h1 : oneAll cs) :
    (storeVar ty ⟨g, o, none⟩ v).run P w = .ok () (setBlk w g (.cells (setL o (cs.map C.enc) cur.toList).toArray t (lo, hi))) := by
  unfold storeVar
  simp only [Sem.run_bind, run_sizeOf hok, Result.andThen_ok, Sem.run_ite, hv]
  simp only [List.size_toArray, List.length_map, hl, ne_eq, not_true_eq_false, if_false, Sem.run_pure, Result.andThen_ok]
  have := run_storeCells_blk (P := P) (cs.map C.enc) o 0 cur w h hf (by simpa using ho) (by
    intro v hv
    obtain ⟨x, hx, rfl⟩ := List.mem_map.1 hv
    exact C.enc_oneCell x (h1 x hx))
  simpa using this
end Go.X

/- This text proves that the executor's rules for the operations without memory (arithmetic, comparisons, strings, conversions, parts of aggregates) are sound. -/
namespace Go.X
open Go
variable [Sm : Inhabited Manner]
abbrev tt : V := .c (.b true)
abbrev ff : V := .c (.b false)
def bitsV (op : BinOp) (k : IntKind) (x y : Int) : Int :=
  match op with
  | .and => k.wrap (BitVec.ofInt k.bits x &&& BitVec.ofInt k.bits y).toNat
  | .or => k.wrap (BitVec.ofInt k.bits x ||| BitVec.ofInt k.bits y).toNat
  | .xor => k.wrap (BitVec.ofInt k.bits x ^^^ BitVec.ofInt k.bits y).toNat
  | _ => k.wrap (BitVec.ofInt k.bits x &&& ~~~(BitVec.ofInt k.bits y)).toNat
def vcInt (op : BinOp) (k : IntKind) (a b : Int) (kk : V → Prop) : Prop :=
  match op with
  | .add => ArP k (a + b) fun r => kk (.c (.i k r))
  | .sub => ArP k (a - b) fun r => kk (.c (.i k r))
  | .mul => ArP k (a * b) fun r => kk (.c (.i k r))
  | .quo => SideP (b ≠ 0) (ArP k (a.tdiv b) fun r => kk (.c (.i k r)))
  | .rem => SideP (b ≠ 0) (kk (.c (.i k (a.tmod b))))
  | .and => kk (.c (.i k (bitsV .and k a b)))
  | .or => kk (.c (.i k (bitsV .or k a b)))
  | .xor => kk (.c (.i k (bitsV .xor k a b)))
  | .andNot => kk (.c (.i k (bitsV .andNot k a b)))
  | .eql => CondP (a = b) (kk tt) (kk ff)
  | .neq => CondP (a = b) (kk ff) (kk tt)
  | .lss => CondP (a < b) (kk tt) (kk ff)
  | .leq => CondP (a ≤ b) (kk tt) (kk ff)
  | .gtr => CondP (b < a) (kk tt) (kk ff)
  | .geq => CondP (b ≤ a) (kk tt) (kk ff)
  | .shl | .shr => False
def vcStr (op : BinOp) (a b : List UInt8) (kk : V → Prop) : Prop :=
  match op with
  | .add => SideP (a.length + b.length ≤ 9223372036854775807) (kk (.c (.s (a ++ b))))
  | .eql => CondP (a = b) (kk tt) (kk ff)
  | .neq => CondP (a = b) (kk ff) (kk tt)
  | .lss => CondP (Op.bytesLess a b = true) (kk tt) (kk ff)
  | .geq => CondP (Op.bytesLess a b = true) (kk ff) (kk tt)
  | .leq => CondP (Op.bytesLess a b = true ∨ a = b) (kk tt) (kk ff)
  | .gtr => CondP (Op.bytesLess a b = true ∨ a = b) (kk ff) (kk tt)
  | _ => False
def vcEq (op : BinOp) (p : Prop) (kk : V → Prop) : Prop :=
  match op with
  | .eql => CondP p (kk tt) (kk ff)
  | .neq => CondP p (kk ff) (kk tt)
  | _ => False
def vcBin (T : Ty) (op : BinOp) (t : Nat) (x y : V) (kk : V → Prop) : Prop :=
  match x, y with
  | .c (.i k a), .c (.i k' b) =>
    match op with
    | .shl => SideP (0 ≤ b) (ArP k (a * 2 ^ (min b.toNat k.bits)) fun r => kk (.c (.i k r)))
    | .shr => SideP (0 ≤ b) (kk (.c (.i k (a.fdiv (2 ^ (min b.toNat k.bits))))))
    | op => match Nat.beq (kdN k) (kdN k') with
      | true => vcInt op k a b kk
      | false => False
  | .c (.s a), .c (.s b) => vcStr op a b kk
  | .c (.b a), .c (.b b) =>
    match find T t with
    | some i => match i.d with
      | .bool => vcEq op (a = b) kk
      | _ => False
    | none => False
  | .agg xs, .agg ys =>
    match find T t with
    | some i => match i.d with
      | .st _ => match eqTy T 20 t xs ys with
        | some p => vcEq op p kk
        | none => False
      | _ => False
    | none => False
  | .c (.sl a _ _), .c (.sl none _ _) =>
    match find T t with
    | some i => match i.d with
      | .sl _ => vcEq op (a = none) kk
      | _ => False
    | none => False
  | _, _ => False
theorem CondP.run {p : Prop} {kk : V → Prop} {b : Bool} (h : CondP p (kk tt) (kk ff)) (hb : b = true ↔ p) : kk (.c (.b b)) := by
  cases b
  · exact h.f (fun hp => by simpa using hb.2 hp)
  · exact h.t (hb.1 rfl)
theorem CondP.run' {p : Prop} {kk : V → Prop} {b : Bool} (h : CondP p (kk ff) (kk tt)) (hb : b = true ↔ p) : kk (.c (.b (!b))) := by
  cases b
  · exact h.f (fun hp => by simpa using hb.2 hp)
  · exact h.t (hb.1 rfl)
theorem equalIn_slnil {P : Program} (w : World) (d : Nat) (t e : TypeId) (a : Option Addr) (n c n' c' : Nat) (h : P.underlying t = some (.slice e)) : (Op.equalIn (d + 1) t (.slice a n c) (.slice none n' c')).run P w = .ok a.isNone w := by
  cases a <;> simp [Op.equalIn, run_underlying h]
theorem run_eql_slnil {P : Program} (w : World) (t e : TypeId) (a : Option Addr) (n c n' c' : Nat) (h : P.underlying t = some (.slice e)) : (binOp .eql t (.slice a n c) (.slice none n' c')).run P w = .ok (.bool a.isNone) w := by
  simp [binOp, Op.equal, Op.maxDepth, equalIn_slnil w 9999 t e a n c n' c' h]
theorem run_neq_slnil {P : Program} (w : World) (t e : TypeId) (a : Option Addr) (n c n' c' : Nat) (h : P.underlying t = some (.slice e)) : (binOp .neq t (.slice a n c) (.slice none n' c')).run P w = .ok (.bool (!a.isNone)) w := by
  simp [binOp, Op.equal, Op.maxDepth, equalIn_slnil w 9999 t e a n c n' c' h]
theorem run_eqGuard_plain {P : Program} {w : World} (op : BinOp) (t : TypeId) (x y : Operand) (a b : Value) (h : ∀ xs ys, a = .agg xs → b = .agg ys → False) (h' : a = .nilIface → False) : (eqGuard op t x y a b).run P w = .ok () w := by
  cases op <;> simp only [eqGuard] <;> first | rfl | (cases a <;> cases b <;> first | rfl | exact (h _ _ rfl rfl).elim | exact (h' rfl).elim)
/-- The run of a binary operation. -/
def BinRuns (P : Program) (op : BinOp) (t : TypeId) (x y : Operand) (a b : Value) (v : V) : Prop :=
  ∀ w, (do eqGuard op t x y a b; binOp op t a b : Sem Value).run P w = .ok v.enc w
theorem binRuns_of {P : Program} {op : BinOp} {t : TypeId} {x y : Operand} {a b : Value} {v : V} (h : ∀ xs ys, a = .agg xs → b = .agg ys → False) (h' : a = .nilIface → False)
    (hr : ∀ w, (binOp op t a b).run P w = .ok v.enc w) : BinRuns P op t x y a b v := fun w => by
  simp only [Sem.run_bind, run_eqGuard_plain op t x y a b h h', Result.andThen_ok, hr]
theorem vcInt_sound {P : Program} {op : BinOp} {k : IntKind} {a b : Int} {kk : V → Prop} {t : TypeId} (h : vcInt op k a b kk) : ∃ v, kk v ∧ ∀ w, (binOp op t (.int k a) (.int k b)).run P w = .ok v.enc w := by
  cases op <;> simp only [vcInt] at h
  case add => exact ⟨_, h.run, fun w => by simp [binOp_add, Op.intArith, V.enc, C.enc]⟩
  case sub => exact ⟨_, h.run, fun w => by simp [binOp_sub, Op.intArith, V.enc, C.enc]⟩
  case mul => exact ⟨_, h.run, fun w => by simp [binOp_mul, Op.intArith, V.enc, C.enc]⟩
  case quo => exact ⟨_, h.k.run, fun w => by simp [binOp_quo, Op.intDiv, h.h, V.enc, C.enc]⟩
  case rem => exact ⟨_, h.k, fun w => by simp [binOp_rem, Op.intDiv, h.h, V.enc, C.enc]⟩
  case and => exact ⟨_, h, fun w => by simp [binOp_and, Op.intBits, V.enc, C.enc, bitsV]⟩
  case or => exact ⟨_, h, fun w => by simp [binOp_or, Op.intBits, V.enc, C.enc, bitsV]⟩
  case xor => exact ⟨_, h, fun w => by simp [binOp_xor, Op.intBits, V.enc, C.enc, bitsV]⟩
  case andNot => exact ⟨_, h, fun w => by simp [binOp_andNot, Op.intBits, V.enc, C.enc, bitsV]⟩
  case eql => exact ⟨_, h.run (b := a == b) (by simp), fun w => by simp [binOp_eql, V.enc, C.enc]⟩
  case neq => exact ⟨_, h.run' (b := a == b) (by simp), fun w => by simp [binOp_neq, V.enc, C.enc]; rfl⟩
  case lss => exact ⟨_, h.run (b := decide (a < b)) (by simp), fun w => by simp [binOp_lss, V.enc, C.enc]⟩
  case leq => exact ⟨_, h.run (b := decide (a ≤ b)) (by simp), fun w => by simp [binOp_leq, V.enc, C.enc]⟩
  case gtr => exact ⟨_, h.run (b := decide (b < a)) (by simp), fun w => by simp [binOp_gtr, V.enc, C.enc]⟩
  case geq => exact ⟨_, h.run (b := decide (b ≤ a)) (by simp), fun w => by simp [binOp_geq, V.enc, C.enc]⟩
theorem mk_toList (a : List UInt8) : (⟨⟨a⟩⟩ : ByteArray).toList = a := by rw [ByteArray.toList_eq]
theorem mk_append (a b : List UInt8) : ((⟨⟨a⟩⟩ : ByteArray) ++ ⟨⟨b⟩⟩) = ⟨⟨a ++ b⟩⟩ := by
  apply ByteArray.ext
  simp
theorem mk_size (a : List UInt8) : (⟨⟨a⟩⟩ : ByteArray).size = a.length := rfl
theorem vcStr_sound {P : Program} {op : BinOp} {a b : List UInt8} {kk : V → Prop} {t : TypeId} (h : vcStr op a b kk) : ∃ v, kk v ∧ ∀ w, (binOp op t (.string ⟨⟨a⟩⟩) (.string ⟨⟨b⟩⟩)).run P w = .ok v.enc w := by
  cases op <;> simp only [vcStr] at h
  case add =>
    refine ⟨_, h.k, fun w => ?_⟩
    have h1 := h.h
    have hlt : ¬ (((⟨⟨a⟩⟩ : ByteArray).size + (⟨⟨b⟩⟩ : ByteArray).size : Nat) : Int) > IntKind.i64.max := by
      rw [mk_size, mk_size]
      simp [IntKind.max, IntKind.signed, IntKind.bits]
      omega
    simp only [binOp_string_add, Op.stringOp, hlt, if_false, Sem.run_pure, mk_append]
    rfl
  case eql => exact ⟨_, h.run (b := a == b) (by simp), fun w => by simp [binOp_string_eql, V.enc, C.enc, mk_toList]⟩
  case neq => exact ⟨_, h.run' (b := a == b) (by simp), fun w => by simp [binOp_string_neq, V.enc, C.enc, mk_toList]⟩
  case lss => exact ⟨_, h.run (b := Op.bytesLess a b) (by simp), fun w => by simp [binOp_string_lss, V.enc, C.enc, mk_toList]⟩
  case geq => exact ⟨_, h.run' (b := Op.bytesLess a b) (by simp), fun w => by simp [binOp, Op.stringOp, V.enc, C.enc, mk_toList]⟩
  case leq => exact ⟨_, h.run (b := Op.bytesLess a b || a == b) (by simp), fun w => by simp [binOp, Op.stringOp, V.enc, C.enc, mk_toList]⟩
  case gtr => exact ⟨_, h.run' (b := Op.bytesLess a b || a == b) (by simp), fun w => by simp [binOp, Op.stringOp, V.enc, C.enc, mk_toList]⟩
theorem vcBin_sound {P : Program} {T : Ty} (hT : TyOK P T) {op : BinOp} {t : Nat} {x y : V} {kk : V → Prop} {ox oy : Operand} (h : vcBin T op t x y kk) : ∃ v, kk v ∧ BinRuns P op t ox oy x.enc y.enc v := by
  unfold vcBin at h
  split at h
  · rename_i k a k' b
    split at h
    · refine ⟨_, h.k.run, binRuns_of (by intro xs ys h1; cases h1) (by intro h1; cases h1) fun w => ?_⟩
      have := h.h
      simp [V.enc, C.enc, binOp_shl, Op.shift, show ¬ b < 0 by omega]
    · refine ⟨_, h.k, binRuns_of (by intro xs ys h1; cases h1) (by intro h1; cases h1) fun w => ?_⟩
      have := h.h
      simp [V.enc, C.enc, binOp_shr, Op.shift, show ¬ b < 0 by omega]
    · split at h
      · rename_i hk
        have := kdN_inj hk
        subst this
        obtain ⟨v, hv, hr⟩ := vcInt_sound (P := P) (t := t) h
        exact ⟨v, hv, binRuns_of (by intro xs ys h1; cases h1) (by intro h1; cases h1) hr⟩
      · exact h.elim
  · obtain ⟨v, hv, hr⟩ := vcStr_sound (P := P) (t := t) h
    exact ⟨v, hv, binRuns_of (by intro xs ys h1; cases h1) (by intro h1; cases h1) hr⟩
  · rename_i a b
    split at h
    · rename_i i hi
      split at h
      · rename_i hd
        have hok := (hT t i hi).2.2.2
        rw [hd] at hok
        unfold vcEq at h
        split at h
        · exact ⟨_, h.run (b := a == b) (by simp), binRuns_of (by intro xs ys h1; cases h1) (by intro h1; cases h1) fun w => by simp [V.enc, C.enc, run_eql_bool w t a b hok]⟩
        · exact ⟨_, h.run' (b := a == b) (by simp), binRuns_of (by intro xs ys h1; cases h1) (by intro h1; cases h1) fun w => by simp [V.enc, C.enc, run_neq_bool w t a b hok]⟩
        · exact h.elim
      · exact h.elim
    · exact h.elim
  · rename_i xs ys
    split at h
    · rename_i i hi
      split at h
      · rename_i fs hd
        split at h
        · rename_i p hp
          have hok := (hT t i hi).2.2.2
          rw [hd] at hok
          have hrun : ∀ w, ∃ b, (Op.equalIn 10000 t (V.agg xs).enc (V.agg ys).enc).run P w = .ok b w ∧ (b = true ↔ p) := fun w => by
            have := run_eqTy hT 20 9980 t xs ys p w i hp hi
            rw [hd] at this
            exact this
          have hdec : ∃ b : Bool, (b = true ↔ p) := by
            obtain ⟨b, _, hb⟩ := hrun default
            exact ⟨b, hb⟩
          obtain ⟨b, hb⟩ := hdec
          have hrun' : ∀ w, (Op.equalIn 10000 t (V.agg xs).enc (V.agg ys).enc).run P w = .ok b w := fun w => by
            obtain ⟨b', h1, h2⟩ := hrun w
            have : b' = b := by rw [Bool.eq_iff_iff, h2, hb]
            rw [h1, this]
          unfold vcEq at h
          split at h
          · refine ⟨_, h.run hb, fun w => ?_⟩
            have h1 := hrun' w
            simp only [V.enc] at h1 ⊢
            rw [Sem.run_bind, run_eqGuard_agg w _ _ _ _ _ _ hok.2.2.2.2]
            simp only [Result.andThen_ok, run_eql_struct, h1]
            rfl
          · refine ⟨_, h.run' hb, fun w => ?_⟩
            have h1 := hrun' w
            simp only [V.enc] at h1 ⊢
            rw [Sem.run_bind, run_eqGuard_agg w _ _ _ _ _ _ hok.2.2.2.2]
            simp only [Result.andThen_ok, run_neq_struct, h1]
            rfl
          · exact h.elim
        · exact h.elim
      · exact h.elim
    · exact h.elim
  · rename_i a n c n' c'
    split at h
    · rename_i i hi
      split at h
      · rename_i e hd
        have hok := (hT t i hi).2.2.2
        rw [hd] at hok
        unfold vcEq at h
        have hb : a.isNone = true ↔ a = none := Option.isNone_iff_eq_none
        split at h
        · exact ⟨_, h.run hb, binRuns_of (by intro xs ys h1; cases h1) (by intro h1; cases h1) fun w => by simp [V.enc, C.enc, run_eql_slnil w t e a n c n' c' hok]⟩
        · exact ⟨_, h.run' hb, binRuns_of (by intro xs ys h1; cases h1) (by intro h1; cases h1) fun w => by simp [V.enc, C.enc, run_neq_slnil w t e a n c n' c' hok]⟩
        · exact h.elim
      · exact h.elim
    · exact h.elim
  · exact h.elim
end Go.X
