/- This text proves, for any program of the model, that a small symbolic executor for straight pieces of code is sound: what it asks for is enough for the code's weakest precondition. No condition. · This text proves that the symbolic executor's rule for each operation is sound, for any program whose types agree with a given table. · This text proves how loads and stores of whole variables run on a block of known cells. · This text proves that the executor's rules for the operations without memory (arithmetic, comparisons, strings, conversions, parts of aggregates) are sound. · This text proves that the executor's rules for operations on memory (boxes, rows of slices) and for calls are sound. · This text proves that one rule of the symbolic executor for every operation (the remaining ones among them: fields, indexes, aggregates, slices, conversions, calls) is sound. -/
import Derived.WalkKit
import Derived.Deep.Quiet
import Derived.KernelRfl
import Derived.LaidEql
import Derived.Great.BuildSlice
set_option linter.all false
namespace Go.X
open Go
inductive Manner where
  | loose
  | strict
  deriving Inhabited, DecidableEq
variable [Sm : Inhabited Manner]
inductive C where
  | b (x : Bool)
  | i (k : IntKind) (n : Int)
  | s (l : List UInt8)
  | p (id ad off : Nat)
  | sl (a : Option Addr) (n c : Nat)
  | e (a : Option Addr) (esz : Nat) (ix : Int) (off : Nat)
  | fn (f : Nat) (caps : List (Nat × Nat × Nat))
  | m (id ad : Nat)
  | raw (x : Value)
inductive V where
  | c (x : C)
  | agg (cs : List C)
  | t0
  | t1 (x : V)
  | t2 (x y : V)
  | t3 (x y z : V)
  | t4 (x y z u : V)
def elemAddr (esz : Nat) (ix : Int) (off : Nat) (a : Addr) : Addr := ⟨a.block, a.off + (ix.toNat * esz + off), none⟩
def C.enc : C → Value
  | .b x => .bool x
  | .i k n => .int k n
  | .s l => .string ⟨⟨l⟩⟩
  | .p _ ad off => .pointer (some ⟨ad, off, none⟩)
  | .sl a n c => .slice a n c
  | .e a esz ix off => .pointer (a.map (elemAddr esz ix off))
  | .fn f caps => .func (.func f) #[] (caps.map fun x => Value.pointer (some ⟨x.2.1, x.2.2, none⟩)).toArray
  | .m _ ad => .map (some ad)
  | .raw x => x
def C.one : C → Bool
  | .raw x => x.oneCell'
  | _ => true
def V.enc : V → Value
  | .c x => x.enc
  | .agg cs => .agg (cs.map C.enc).toArray
  | .t0 => .tuple #[]
  | .t1 x => .tuple #[x.enc]
  | .t2 x y => .tuple #[x.enc, y.enc]
  | .t3 x y z => .tuple #[x.enc, y.enc, z.enc]
  | .t4 x y z u => .tuple #[x.enc, y.enc, z.enc, u.enc]
def V.cells : V → List C
  | .c x => [x]
  | .agg cs => cs
  | _ => []
theorem C.enc_oneCell (x : C) (h : x.one = true) : x.enc.oneCell' = true := by
  cases x <;> first | rfl | exact h
abbrev Im := Nat → Option Obj
abbrev Env := List (Nat × V)
def look : Env → Nat → Option V
  | [], _ => none
  | (d, v) :: r, n => match Nat.beq d n with
    | true => some v
    | false => look r n
theorem look_cons_same (d : Nat) (v : V) (r : Env) : look ((d, v) :: r) d = some v := by
  have : Nat.beq d d = true := Nat.beq_refl d
  simp [look, this]
theorem look_cons_ne {d n : Nat} (v : V) (r : Env) (h : d ≠ n) : look ((d, v) :: r) n = look r n := by
  have : Nat.beq d n = false := by
    cases hb : Nat.beq d n
    · rfl
    · exact absurd (Nat.eq_of_beq_eq_true hb) h
  simp [look, this]
inductive Chunk where
  | box (id ad : Nat) (ty : TypeId) (cs : List C)
  | row (ety : TypeId) (esz : Nat) (a : Option Addr) (n c : Nat) (cs : List C)
  | obj (id ad : Nat) (o : Obj)
def Chunk.fp : Chunk → List Nat
  | .box _ ad _ _ => [ad]
  | .row _ _ a _ _ _ => (a.map Addr.block).toList
  | .obj _ ad _ => [ad]
def oneAll (cs : List C) : Prop := ∀ x ∈ cs, x.one = true
def RowIn (o : Option Obj) (ety : TypeId) (esz n c : Nat) (cs : List C) : Prop :=
  ∃ cur lo hi, o = some (.cells cur ety (lo, hi)) ∧ n ≤ c ∧ c ≤ maxLen ∧ cur.size = c * esz ∧ ((cur.size ≤ lo ∧ esz = 1) ∨ hi ≤ lo) ∧ cs.length = n * esz ∧ cur.toList.take (n * esz) = cs.map C.enc
def Chunk.ok (w : World) : Chunk → Prop
  | .box _ ad ty cs => oneAll cs ∧ w.heap[ad]? = some (.cells (cs.map C.enc).toArray ty (0, 0))
  | .row ety esz a n c cs => oneAll cs ∧ ((a = none ∧ n = 0 ∧ c = 0 ∧ cs = []) ∨ ∃ g, a = some ⟨g, 0, none⟩ ∧ RowIn w.heap[g]? ety esz n c cs)
  | .obj _ ad o => w.heap[ad]? = some o
theorem Chunk.ok_of_same {w w' : World} {ch : Chunk} (h : ch.ok w) (hs : ∀ b ∈ ch.fp, w'.heap[b]? = w.heap[b]?) : ch.ok w' := by
  cases ch with
  | box id ad ty cs => exact ⟨h.1, by rw [hs ad (by simp [Chunk.fp])]; exact h.2⟩
  | row ety esz a n c cs =>
    refine ⟨h.1, ?_⟩
    rcases h.2 with h' | ⟨g, hg, hr⟩
    · exact .inl h'
    · exact .inr ⟨g, hg, by rw [hs g (by simp [Chunk.fp, hg])]; exact hr⟩
  | obj id ad o => exact (hs ad (by simp [Chunk.fp])).trans h
theorem Chunk.lt_of_ok {w : World} {ch : Chunk} (h : ch.ok w) : ∀ b ∈ ch.fp, b < w.heap.size := by
  have key : ∀ (b : Nat) (o : Obj), w.heap[b]? = some o → b < w.heap.size := fun b o hb => (Array.getElem?_eq_some_iff.1 hb).1
  cases ch with
  | box id ad ty cs => intro b hb; simp [Chunk.fp] at hb; subst hb; exact key _ _ h.2
  | row ety esz a n c cs =>
    intro b hb
    rcases h.2 with ⟨ha, _⟩ | ⟨g, hg, cur, lo, hi, ho, _⟩
    · simp [Chunk.fp, ha] at hb
    · simp [Chunk.fp, hg] at hb; subst hb; exact key _ _ ho
  | obj id ad o => intro b hb; simp [Chunk.fp] at hb; subst hb; exact key _ _ h
structure Fact where
  p : Im → Prop
  mono : ∀ m m' : Im, (∀ b o, m b = some o → m' b = some o) → p m → p m'
def fps : List Chunk → List Nat
  | [] => []
  | c :: r => c.fp ++ fps r
def allOk (w : World) : List Chunk → Prop
  | [] => True
  | c :: r => c.ok w ∧ allOk w r
def allD (m : Im) : List Fact → Prop
  | [] => True
  | f :: r => f.p m ∧ allD m r
structure Holds (w : World) (m : Im) (L : List Chunk) (D : List Fact) : Prop where
  nd : (fps L).Nodup
  ok : allOk w L
  im : ∀ b o, m b = some o → w.heap[b]? = some o ∧ b ∉ fps L
  d : allD m D
theorem mem_fps_lt {w : World} : ∀ {L : List Chunk}, allOk w L → ∀ b ∈ fps L, b < w.heap.size
  | [], _, b, hb => by simp [fps] at hb
  | c :: r, h, b, hb => by
    simp only [fps, List.mem_append] at hb
    rcases hb with hb | hb
    · exact Chunk.lt_of_ok h.1 b hb
    · exact mem_fps_lt h.2 b hb
theorem allOk_of_same {w w' : World} : ∀ {L : List Chunk}, allOk w L → (∀ b ∈ fps L, w'.heap[b]? = w.heap[b]?) → allOk w' L
  | [], _, _ => trivial
  | c :: r, h, hs => ⟨Chunk.ok_of_same h.1 fun b hb => hs b (by simp [fps, hb]), allOk_of_same h.2 fun b hb => hs b (by simp [fps, hb])⟩
theorem fps_append (A B : List Chunk) : fps (A ++ B) = fps A ++ fps B := by
  induction A with
  | nil => simp [fps]
  | cons c r ih => simp [fps, ih]
theorem allOk_append {w : World} (A B : List Chunk) : allOk w (A ++ B) ↔ allOk w A ∧ allOk w B := by
  induction A with
  | nil => simp [allOk]
  | cons c r ih => simp [allOk, ih, and_assoc]
theorem allD_append {m : Im} (A B : List Fact) : allD m (A ++ B) ↔ allD m A ∧ allD m B := by
  induction A with
  | nil => simp [allD]
  | cons c r ih => simp [allD, ih, and_assoc]
theorem allD_mono {m m' : Im} (hm : ∀ b o, m b = some o → m' b = some o) : ∀ {D : List Fact}, allD m D → allD m' D
  | [], _ => trivial
  | f :: _, h => ⟨f.mono m m' hm h.1, allD_mono hm h.2⟩
def frO (o : Option Obj) (off : Nat) : Bool :=
  match o with
  | some (.cells _ _ (lo, hi)) => lo ≤ off && off < hi
  | _ => false
structure Kept (w w' : World) : Prop where
  os : w'.os = w.os
  out : w'.output = w.output
  size : w.heap.size ≤ w'.heap.size
  tape : Sm.default = .strict → w'.tape = w.tape
  drawn : Sm.default = .strict → w.drawn ≤ w'.drawn
theorem Kept.refl (w : World) : Kept w w := ⟨rfl, rfl, Nat.le_refl _, fun _ => rfl, fun _ => Nat.le_refl _⟩
theorem Kept.trans {w w1 w2 : World} (h : Kept w w1) (h' : Kept w1 w2) : Kept w w2 := ⟨h'.os.trans h.os, h'.out.trans h.out, Nat.le_trans h.size h'.size, fun e => (h'.tape e).trans (h.tape e), fun e => Nat.le_trans (h.drawn e) (h'.drawn e)⟩
structure Fr (w : World) (L : List Chunk) (m : Im) (w' : World) (L' : List Chunk) (m' : Im) : Prop where
  size : w.heap.size ≤ w'.heap.size
  same : ∀ b, b < w.heap.size → b ∉ fps L → w'.heap[b]? = w.heap[b]?
  own : ∀ b ∈ fps L', b ∈ fps L ∨ w.heap.size ≤ b
  im : ∀ b o, m b = some o → m' b = some o
  new : ∀ b o, m' b = some o → m b = some o ∨ b ∈ fps L ∨ w.heap.size ≤ b
  kept : Kept w w'
theorem Fr.refl (w : World) (L : List Chunk) (m : Im) : Fr w L m w L m :=
  ⟨Nat.le_refl _, fun _ _ _ => rfl, fun _ h => .inl h, fun _ _ h => h, fun _ _ h => .inl h, Kept.refl _⟩
theorem Fr.trans {w w1 w2 : World} {L L1 L2 : List Chunk} {m m1 m2 : Im} (h : Fr w L m w1 L1 m1) (h' : Fr w1 L1 m1 w2 L2 m2) : Fr w L m w2 L2 m2 := by
  refine ⟨Nat.le_trans h.size h'.size, fun b hb hn => ?_, fun b hb => ?_, fun b o ho => h'.im b o (h.im b o ho), fun b o ho => ?_, h.kept.trans h'.kept⟩
  · rw [h'.same b (Nat.lt_of_lt_of_le hb h.size) (fun hc => ?_), h.same b hb hn]
    rcases h.own b hc with h1 | h1
    · exact hn h1
    · omega
  · rcases h'.own b hb with h1 | h1
    · exact h.own b h1
    · exact .inr (Nat.le_trans h.size h1)
  · rcases h'.new b o ho with h1 | h1 | h1
    · exact h.new b o h1
    · exact .inr (h.own b h1)
    · exact .inr (.inr (Nat.le_trans h.size h1))
theorem Holds.frame {w w' : World} {m m' : Im} {L L' R : List Chunk} {D' E : List Fact} (h : Holds w m (L ++ R) E) (h' : Holds w' m' L' D') (hf : Fr w L m w' L' m') :
    Holds w' m' (L' ++ R) (D' ++ E) ∧ Fr w (L ++ R) m w' (L' ++ R) m' := by
  have hlt := mem_fps_lt h.ok
  have hnd := h.nd
  rw [fps_append] at hnd hlt
  have hdis : ∀ b ∈ fps R, b ∉ fps L := fun b hb hc => (List.nodup_append.1 hnd).2.2 b hc b hb rfl
  have hR : ∀ b ∈ fps R, w'.heap[b]? = w.heap[b]? := fun b hb => hf.same b (hlt b (by simp [hb])) (hdis b hb)
  refine ⟨⟨?_, ?_, ?_, ?_⟩, ⟨hf.size, ?_, ?_, hf.im, ?_, hf.kept⟩⟩
  · rw [fps_append]
    refine List.nodup_append.2 ⟨h'.nd, (List.nodup_append.1 hnd).2.1, fun a ha b hb hab => ?_⟩
    subst hab
    rcases hf.own a ha with h1 | h1
    · exact hdis a hb h1
    · have := hlt a (by simp [hb]); omega
  · exact (allOk_append _ _).2 ⟨h'.ok, allOk_of_same ((allOk_append _ _).1 h.ok).2 hR⟩
  · intro b o ho
    refine ⟨(h'.im b o ho).1, ?_⟩
    rw [fps_append]
    intro hc
    rcases List.mem_append.1 hc with hc | hc
    · exact (h'.im b o ho).2 hc
    · rcases hf.new b o ho with h1 | h1 | h1
      · exact (h.im b o h1).2 (by rw [fps_append]; simp [hc])
      · exact hdis b hc h1
      · have := hlt b (by simp [hc]); omega
  · exact (allD_append _ _).2 ⟨h'.d, allD_mono hf.im h.d⟩
  · intro b hb hn
    rw [fps_append] at hn
    exact hf.same b hb (fun hc => hn (by simp [hc]))
  · intro b hb
    rw [fps_append] at hb ⊢
    rcases List.mem_append.1 hb with hb | hb
    · rcases hf.own b hb with h1 | h1
      · exact .inl (by simp [h1])
      · exact .inr h1
    · exact .inl (by simp [hb])
  · intro b o ho
    rw [fps_append]
    rcases hf.new b o ho with h1 | h1 | h1
    · exact .inl h1
    · exact .inr (.inl (by simp [h1]))
    · exact .inr (.inr h1)
def Enters (P : Program) (f : FuncId) : Prop := ∃ fn, P.funcs[f]? = some fn ∧ (fn.name == "runtime.NumGoroutine") = false ∧ fn.body.isNone = false
structure FnS (P : Program) (f : FuncId) (args : List V) (L : List Chunk) (D : List Fact) (post : V → List Chunk → List Fact → Prop) : Prop where
  en : Enters P f
  run : ∀ w m, Holds w m L D → Calls P f (args.map V.enc).toArray w fun e w' => ∃ v L' D' m', e = .returned v.enc ∧ post v L' D' ∧ Holds w' m' L' D' ∧ Fr w L m w' L' m'
theorem FnS.mono {P : Program} {f : FuncId} {args : List V} {L : List Chunk} {D : List Fact} {post post' : V → List Chunk → List Fact → Prop} (h : FnS P f args L D post)
    (hp : ∀ v L' D', post v L' D' → post' v L' D') : FnS P f args L D post' :=
  ⟨h.1, fun w m hh => (h.2 w m hh).mono fun _ _ ⟨v, L', D', m', h1, h2, h3, h4⟩ => ⟨v, L', D', m', h1, hp _ _ _ h2, h3, h4⟩⟩
end Go.X
namespace Go.X
open Go
variable [Sm : Inhabited Manner]
inductive TyD where
  | bool | int (k : IntKind) | str
  | st (fs : List (Nat × Nat))
  | arr (n elem : Nat)
  | sl (elem : Nat)
  | ptr (elem : Nat)
  | mp (key elem : Nat)
  | so (fs : List (Nat × Nat))
  | ifc
  | up
  | oth
structure TyI where
  d : TyD
  size : Nat
  bytes : Nat
  zero : V
abbrev Ty := List (Nat × TyI)
def find : Ty → Nat → Option TyI
  | [], _ => none
  | (t, i) :: r, n => match Nat.beq t n with
    | true => some i
    | false => find r n
def TyD.ok (P : Program) (t : TypeId) : TyD → Prop
  | .bool => P.underlying t = some .bool
  | .int k => P.underlying t = some (.int k)
  | .str => P.underlying t = some .string
  | .st fs => P.underlying t = some (.struct (P.fieldsOf t)) ∧ (P.fieldsOf t).toList.map (fun f => (f.offset, f.type)) = fs ∧
      ((P.fieldsOf t).toList.all fun f => f.name != "_") = true ∧ P.stoodInHeld t = false ∧ P.eqGuardType P.depth t = false
  | .arr n e => P.underlying t = some (.array n e)
  | .sl e => P.underlying t = some (.slice e)
  | .ptr e => P.underlying t = some (.pointer e)
  | .mp k e => P.underlying t = some (.map k e)
  | .so fs => P.underlying t = some (.struct (P.fieldsOf t)) ∧ (P.fieldsOf t).toList.map (fun f => (f.offset, f.type)) = fs
  | .ifc => ∃ ms, P.underlying t = some (.interface ms)
  | .up => P.underlying t = some .unsafePointer
  | .oth => True
def isIfc : Option TypeDesc → Bool
  | some (.interface _) => true
  | _ => false
theorem ifc_ok {P : Program} {t : TypeId} (h : isIfc (P.underlying t) = true) : TyD.ok P t .ifc := by
  show ∃ ms, P.underlying t = some (.interface ms)
  cases hu : P.underlying t with
  | none => rw [hu] at h; cases h
  | some d => cases d <;> rw [hu] at h <;> first | exact ⟨_, rfl⟩ | cases h
def isAggD : TyD → Bool
  | .st _ | .arr _ _ | .so _ => true
  | _ => false
def TyI.ok (P : Program) (t : TypeId) (i : TyI) : Prop :=
  ((P.info? t).map fun x => (x.size, x.bytes)) = some (i.size, i.bytes) ∧ (P.info? t).bind (·.zero) = some i.zero.enc ∧ (isAggD i.d = true ∨ i.size = 1) ∧ i.d.ok P t
def TyOK (P : Program) (T : Ty) : Prop := ∀ t i, find T t = some i → i.ok P t
def TyAll (P : Program) : Ty → Prop
  | [] => True
  | (t, i) :: r => i.ok P t ∧ TyAll P r
theorem tyOK_of_all {P : Program} : ∀ {T : Ty}, TyAll P T → TyOK P T
  | [], _ => fun t i h => by simp [find] at h
  | (t, i) :: r, h => fun u j hj => by
    simp only [find] at hj
    cases hb : Nat.beq t u with
    | true => rw [hb] at hj; simp at hj; subst hj; rw [← Nat.eq_of_beq_eq_true hb]; exact h.1
    | false => rw [hb] at hj; exact tyOK_of_all h.2 u j hj
structure CondP (p : Prop) (A B : Prop) : Prop where
  t : p → A
  f : ¬p → B
structure SideP (p A : Prop) : Prop where
  h : p
  k : A
def inR : IntKind → Int → Prop
  | .i64, r => -9223372036854775808 ≤ r ∧ r ≤ 9223372036854775807
  | .u8, r => 0 ≤ r ∧ r ≤ 255
  | .i32, r => -2147483648 ≤ r ∧ r ≤ 2147483647
  | .u32, r => 0 ≤ r ∧ r ≤ 4294967295
  | .u64, r => 0 ≤ r ∧ r ≤ 18446744073709551615
  | .u16, r => 0 ≤ r ∧ r ≤ 65535
  | .i8, r => -128 ≤ r ∧ r ≤ 127
  | .i16, r => -32768 ≤ r ∧ r ≤ 32767
inductive ArP (k : IntKind) (r : Int) (K : Int → Prop) : Prop where
  | exact (h : inR k r) (h' : K r)
  | wrap (h' : K (k.wrap r))
structure NewP (K : Nat → Prop) : Prop where
  k : ∀ ad, K ad
theorem wrap_of_inR {k : IntKind} {r : Int} (h : inR k r) : k.wrap r = r := by
  cases k <;> simp only [inR] at h <;> simp [IntKind.wrap, IntKind.bits, IntKind.signed] <;> omega
theorem ArP.run {k : IntKind} {r : Int} {K : Int → Prop} (h : ArP k r K) : K (k.wrap r) := by
  cases h with
  | exact h h' => rw [wrap_of_inR h]; exact h'
  | wrap h' => exact h'
def kdN : IntKind → Nat
  | .i8 => 0 | .i16 => 1 | .i32 => 2 | .i64 => 3 | .u8 => 4 | .u16 => 5 | .u32 => 6 | .u64 => 7
theorem kdN_inj {a b : IntKind} (h : Nat.beq (kdN a) (kdN b) = true) : a = b := by cases a <;> cases b <;> first | rfl | (simp [kdN] at h)
def constC : Value → C
  | .bool b => .b b
  | .int k n => .i k n
  | .string s => .s s.data.toList
  | .slice none 0 0 => .sl none 0 0
  | x => .raw x
theorem constC_enc (x : Value) : (constC x).enc = x := by
  unfold constC
  split <;> rfl
def constV : Value → V
  | .agg cs => .agg (cs.toList.map constC)
  | x => .c (constC x)
theorem constV_enc (x : Value) : (constV x).enc = x := by
  unfold constV
  split
  · rename_i cs
    simp only [V.enc, List.map_map]
    have : (C.enc ∘ constC) = id := by funext x; exact constC_enc x
    rw [this]; simp
  · simp only [V.enc]; exact constC_enc _
def ev (env : Env) : Operand → Option V
  | .tmp t => look env t
  | .const v => some (constV v)
  | .global g => some (.c (.raw (.pointer (some ⟨g, 0, none⟩))))
  | .func f => some (.c (.fn f []))
def withE (env : Env) (x : Operand) (k : V → Prop) : Prop :=
  match ev env x with
  | some v => k v
  | none => False
variable [Df : Inhabited (List Deferred)]
def EnvOK (N : Nat) (env : Env) (a : Act) : Prop := a.defers = Df.default ∧ a.tmps.size = N ∧ ∀ d v, look env d = some v → a.tmps[d]? = some v.enc
theorem EnvOK.ev {N : Nat} {env : Env} {a : Act} (h : EnvOK N env a) {x : Operand} {v : V} (hx : ev env x = some v) : a.eval x = v.enc := by
  cases x with
  | tmp t => simp only [X.ev] at hx; simp [Act.eval, h.2.2 t v hx]
  | const c => simp only [X.ev, Option.some.injEq] at hx; subst hx; simp [Act.eval, constV_enc]
  | global g => simp only [X.ev, Option.some.injEq] at hx; subst hx; rfl
  | func f => simp only [X.ev, Option.some.injEq] at hx; subst hx; rfl
theorem withE_elim {env : Env} {x : Operand} {k : V → Prop} (h : withE env x k) : ∃ v, ev env x = some v ∧ k v := by
  unfold withE at h
  split at h
  · rename_i v hv; exact ⟨v, hv, h⟩
  · exact h.elim
def eqC : C → C → Option Prop
  | .b x, .b y => some (x = y)
  | .i k x, .i k' y => match Nat.beq (kdN k) (kdN k') with | true => some (x = y) | false => none
  | .s x, .s y => some (x = y)
  | _, _ => none
def isC : TyD → C → Bool
  | .bool, .b _ => true
  | .int k, .i k' _ => Nat.beq (kdN k) (kdN k')
  | .str, .s _ => true
  | _, _ => false
def eqFs (T : Ty) (g : Nat → List C → List C → Option Prop) (xs ys : List C) : List (Nat × Nat) → Option Prop
  | [] => some True
  | (off, ft) :: rest =>
    match find T ft with
    | none => none
    | some i =>
      match g ft ((xs.drop off).take i.size) ((ys.drop off).take i.size), eqFs T g xs ys rest with
      | some p, some q => some (p ∧ q)
      | _, _ => none
def eqTy (T : Ty) : Nat → Nat → List C → List C → Option Prop
  | 0, _, _, _ => none
  | n + 1, t, xs, ys =>
    match find T t with
    | none => none
    | some i =>
      match i.d with
      | .st fs => eqFs T (eqTy T n) xs ys fs
      | d => match xs, ys with
        | [x], [y] => match isC d x, isC d y with
          | true, true => eqC x y
          | _, _ => none
        | _, _ => none
def valOf (d : TyD) (xs : List C) : Value :=
  match d with
  | .st _ | .arr _ _ | .so _ => .agg (xs.map C.enc).toArray
  | _ => match xs with
    | [x] => x.enc
    | _ => undef
theorem run_eqC {P : Program} {w : World} {t : TypeId} {dd : TyD} {d : Nat} {x y : C} {p : Prop} (h : eqC x y = some p) (hx : isC dd x = true) (hy : isC dd y = true) (ht : dd.ok P t) :
    ∃ b, (Op.equalIn (d + 1) t x.enc y.enc).run P w = .ok b w ∧ (b = true ↔ p) := by
  cases x <;> cases y <;> simp only [eqC] at h <;> try (cases h; done)
  · cases dd <;> simp [isC] at hx
    simp only [Option.some.injEq] at h; subst h
    exact ⟨_, run_equalIn_bool' w d t _ _ ht, by simp⟩
  · rename_i k n k' m
    split at h
    · rename_i hb
      simp only [Option.some.injEq] at h; subst h
      have := kdN_inj hb; subst this
      cases dd <;> simp only [isC] at hx <;> try (cases hx; done)
      exact ⟨_, run_equalIn_int w d t k _ n m ht, by simp⟩
    · cases h
  · cases dd <;> simp [isC] at hx
    simp only [Option.some.injEq] at h; subst h
    exact ⟨_, run_equalIn_string w d t _ _ ht, by simp [ByteArray.toList_eq]⟩
theorem tyI_info {P : Program} {t : TypeId} {i : TyI} (h : i.ok P t) : ∃ x, P.info? t = some x ∧ x.size = i.size ∧ x.bytes = i.bytes ∧ x.zero = some i.zero.enc := by
  obtain ⟨h1, h2, _⟩ := h
  cases hi : P.info? t with
  | none => simp [hi] at h1
  | some x => simp [hi] at h1 h2; exact ⟨x, rfl, h1.1, h1.2, h2⟩
theorem run_sizeOf {P : Program} {t : TypeId} {i : TyI} (h : i.ok P t) (w : World) : (sizeOf t).run P w = .ok i.size w := by
  obtain ⟨x, hx, h1, _⟩ := tyI_info h
  simp [sizeOf, typeInfo, hx, h1]
theorem run_zeroValue {P : Program} {t : TypeId} {i : TyI} (h : i.ok P t) (w : World) : (zeroValue t).run P w = .ok i.zero.enc w := by
  obtain ⟨x, hx, _, _, h1⟩ := tyI_info h
  simp [zeroValue, typeInfo, hx, h1]
theorem run_isAgg {P : Program} {t : TypeId} {i : TyI} (h : i.ok P t) (hd : ∀ x, i.d ≠ .oth ∨ x) (w : World) : (isAgg t).run P w = .ok (isAggD i.d) w := by
  obtain ⟨_, _, _, h4⟩ := h
  have hd' : i.d ≠ .oth := (hd False).resolve_right id
  cases hdd : i.d <;> rw [hdd] at h4 hd' <;> simp only [TyD.ok] at h4
  case st fs => simp [isAgg, run_underlying h4.1, isAggD]
  case so fs => simp [isAgg, run_underlying h4.1, isAggD]
  case ifc => obtain ⟨ms, h4⟩ := h4; simp [isAgg, run_underlying h4, isAggD]
  case oth => exact absurd rfl hd'
  all_goals simp [isAgg, run_underlying h4, isAggD]
theorem run_part {P : Program} {t : TypeId} {i : TyI} (h : i.ok P t) (hd : i.d ≠ .oth) (xs : List C) (off : Nat) (hl : isAggD i.d = true ∨ off < xs.length) (w : World) :
    (part t (xs.map C.enc).toArray off).run P w = .ok (valOf i.d ((xs.drop off).take i.size)) w := by
  unfold part
  simp only [Sem.run_bind, run_isAgg h (fun _ => .inl hd), Result.andThen_ok, Sem.run_ite]
  cases ha : isAggD i.d with
  | true =>
    simp only [if_true, Sem.run_bind, run_sizeOf h, Result.andThen_ok, Sem.run_pure]
    congr 1
    cases hdd : i.d <;> rw [hdd] at ha <;> simp [isAggD] at ha <;> simp [valOf, List.map_take, List.map_drop, List.drop_take]
  | false =>
    have hs : i.size = 1 := h.2.2.1.resolve_left (by simp [ha])
    have hlt : off < xs.length := hl.resolve_left (by simp [ha])
    rw [hs]
    simp only [Bool.false_eq_true, if_false]
    have e1 : (xs.map C.enc).toArray[off]? = some (xs[off].enc) := by simp [hlt]
    have e2 : (xs.drop off).take 1 = [xs[off]] := by rw [List.drop_eq_getElem_cons hlt]; rfl
    rw [e1, e2]
    simp only [Sem.run_pure]
    congr 1
    cases hdd : i.d <;> rw [hdd] at ha <;> simp [isAggD] at ha <;> rfl
theorem take1_lt {xs : List C} {off n : Nat} {x : C} (h : (xs.drop off).take n = [x]) : off < xs.length := by
  have := congrArg List.length h
  simp at this
  omega
theorem eqTy_lt {T : Ty} {n t : Nat} {xs ys : List C} {off : Nat} {p : Prop} {i : TyI} (h : eqTy T n t ((xs.drop off).take i.size) ((ys.drop off).take i.size) = some p) (hi : find T t = some i) :
    (isAggD i.d = true ∨ off < xs.length) ∧ (isAggD i.d = true ∨ off < ys.length) ∧ i.d ≠ .oth := by
  cases n with
  | zero => simp [eqTy] at h
  | succ n =>
    simp only [eqTy, hi] at h
    split at h
    · rename_i fs hd; simp [hd, isAggD]
    · rename_i dd hnst
      split at h
      · rename_i x y hx hy
        split at h
        · rename_i h1 h2
          refine ⟨.inr (take1_lt hx), .inr (take1_lt hy), ?_⟩
          intro hd; rw [hd] at h1; simp [isC] at h1
        · cases h
      · cases h
theorem run_eqTy {P : Program} {T : Ty} (hT : TyOK P T) : ∀ (n d t : Nat) (xs ys : List C) (p : Prop) (w : World) (i : TyI), eqTy T n t xs ys = some p → find T t = some i →
    ∃ b, (Op.equalIn (d + n) t (valOf i.d xs) (valOf i.d ys)).run P w = .ok b w ∧ (b = true ↔ p) := by
  intro n
  induction n with
  | zero => intro d t xs ys p w i h; simp [eqTy] at h
  | succ n ih =>
    intro d t xs ys p w i h hi
    have hok := hT t i hi
    simp only [eqTy, hi] at h
    split at h
    · rename_i fs hd
      have hok' := hok.2.2.2
      rw [hd] at hok'
      obtain ⟨hu, hfs, hnb, hst, _⟩ := hok'
      rw [hd]
      simp only [valOf]
      rw [show d + (n + 1) = (d + n) + 1 from rfl, run_equalIn_agg w (d + n) t _ _ hu hst]
      rw [← hfs] at h
      clear hfs hd hu
      generalize (P.fieldsOf t).toList = F at h hnb
      induction F generalizing p with
      | nil => simp only [List.map_nil, eqFs, Option.some.injEq] at h; rw [← h]; exact ⟨true, by simp [Op.eqFields], by simp⟩
      | cons f F ihF =>
        simp only [List.map_cons, eqFs] at h
        simp only [List.all_cons, Bool.and_eq_true] at hnb
        cases hj : find T f.type with
        | none => simp [hj] at h
        | some j =>
          simp only [hj] at h
          split at h
          · rename_i p1 q1 hp1 hq1
            simp only [Option.some.injEq] at h; rw [← h]
            have hjok := hT _ _ hj
            obtain ⟨hl1, hl2, hoth⟩ := eqTy_lt hp1 hj
            obtain ⟨b1, hb1, hb1'⟩ := ih d f.type _ _ p1 w j hp1 hj
            obtain ⟨b2, hb2, hb2'⟩ := ihF q1 hq1 hnb.2
            have hnm : f.name ≠ "_" := by simpa using hnb.1
            simp only [Op.eqFields, hnm, ne_eq, not_false_eq_true, if_true, Sem.run_bind, run_part hjok hoth _ _ hl1, run_part hjok hoth _ _ hl2, Result.andThen_ok, hb1, Sem.run_ite]
            cases b1 with
            | true => exact ⟨b2, by simpa using hb2, by simp [← hb1', hb2']⟩
            | false => exact ⟨false, by simp, by simp [← hb1']⟩
          · cases h
    · rename_i dd hnst
      split at h
      · rename_i x y
        split at h
        · rename_i hx hy
          have := run_eqC (w := w) (d := d + n) h hx hy hok.2.2.2
          have hv : ∀ z, isC i.d z = true → valOf i.d [z] = z.enc := by
            intro z hz
            cases hdd : i.d <;> rw [hdd] at hz <;> first | rfl | (cases z <;> simp [isC] at hz)
          rw [hv x hx, hv y hy]
          exact this
        · cases h
      · cases h
end Go.X
namespace Go.X
open Go
variable [Sm : Inhabited Manner]
def setBlk (w : World) (g : Nat) (o : Obj) : World := { w with heap := w.heap.setIfInBounds g o }
theorem setBlk_same {w : World} {g : Nat} {o o' : Obj} (h : w.heap[g]? = some o') : (setBlk w g o).heap[g]? = some o := by
  have := (Array.getElem?_eq_some_iff.1 h).1
  simp [setBlk, this]
theorem setBlk_ne {w : World} {g b : Nat} {o : Obj} (h : b ≠ g) : (setBlk w g o).heap[b]? = w.heap[b]? := by
  simp [setBlk, Array.getElem?_setIfInBounds, Ne.symm h]
theorem setBlk_size (w : World) (g : Nat) (o : Obj) : (setBlk w g o).heap.size = w.heap.size := by simp [setBlk]
theorem addr_add (b o n : Nat) : (⟨b, o, none⟩ : Addr).add n = ⟨b, o + n, none⟩ := by
  unfold Addr.add; split <;> simp_all
theorem cell_blk {w : World} {g : Nat} {cur : Array Value} {t : TypeId} {fr : Nat × Nat} (h : w.heap[g]? = some (.cells cur t fr)) (o : Nat) : w.cell? ⟨g, o, none⟩ = cur[o]? := by
  simp [World.cell?, h]
theorem run_loadCells_blk {P : Program} {w : World} {g : Nat} {cur : Array Value} {t : TypeId} {fr : Nat × Nat} (h : w.heap[g]? = some (.cells cur t fr)) (o : Nat) (cs : List Value)
    (hcs : (cur.toList.drop o).take cs.length = cs) : (loadCells ⟨g, o, none⟩ cs.length).run P w = .ok cs.toArray w := by
  refine run_loadCells_list w _ cs fun j v hj => ?_
  rw [addr_add, cell_blk h]
  rw [← hcs, List.getElem?_take] at hj
  split at hj
  · rw [List.getElem?_drop] at hj; simpa using hj
  · cases hj
theorem run_loadVar_blk {P : Program} {w : World} {g : Nat} {cur : Array Value} {t ty : TypeId} {fr : Nat × Nat} {i : TyI} (hok : i.ok P ty) (hd : i.d ≠ .oth) (h : w.heap[g]? = some (.cells cur t fr)) (o : Nat) (cs : List C)
    (hl : cs.length = i.size) (hcs : (cur.toList.drop o).take cs.length = cs.map C.enc) : (loadVar ty ⟨g, o, none⟩).run P w = .ok (valOf i.d cs) w := by
  unfold loadVar
  simp only [Sem.run_bind, run_isAgg hok (fun _ => .inl hd), Result.andThen_ok, Sem.run_ite]
  cases ha : isAggD i.d with
  | true =>
    simp only [if_true, Sem.run_bind, run_sizeOf hok, Result.andThen_ok]
    have := run_loadCells_blk (P := P) h o (cs.map C.enc) (by simpa using hcs)
    rw [List.length_map, hl] at this
    rw [this]
    simp only [Result.andThen_ok, Sem.run_pure]
    cases hdd : i.d <;> rw [hdd] at ha <;> simp [isAggD] at ha <;> rfl
  | false =>
    simp only [Bool.false_eq_true, if_false]
    have hs : i.size = 1 := hok.2.2.1.resolve_left (by simp [ha])
    rw [hs] at hl
    match cs, hl with
    | [x], _ =>
      have hc : w.cell? ⟨g, o, none⟩ = some x.enc := by
        rw [cell_blk h]
        simp only [List.length_cons, List.length_nil, List.map_cons, List.map_nil] at hcs
        have := congrArg (fun l => l[0]?) hcs
        simp only [Nat.zero_add, List.getElem?_take, Nat.lt_add_one, if_true, List.getElem?_drop, Nat.add_zero, List.getElem?_cons_zero] at this
        simpa using this
      simp only [run_load, hc]
      cases hdd : i.d <;> rw [hdd] at ha <;> simp [isAggD] at ha <;> rfl
theorem setCell_blk {w : World} {g : Nat} {cur : Array Value} {t : TypeId} {fr : Nat × Nat} (h : w.heap[g]? = some (.cells cur t fr)) (o : Nat) (v : Value) :
    w.setCell ⟨g, o, none⟩ v = setBlk w g (.cells (cur.setIfInBounds o v) t fr) := by
  simp only [World.setCell, setBlk]
  congr 1
  apply Array.ext_getElem?
  intro i
  simp only [Array.getElem?_modify, Array.getElem?_setIfInBounds]
  by_cases hi : g = i
  · subst hi
    obtain ⟨hlt, he⟩ := Array.getElem?_eq_some_iff.1 h
    simp [hlt, he]
  · simp [hi]
theorem setBlk_setBlk (w : World) (g : Nat) (o o' : Obj) : setBlk (setBlk w g o) g o' = setBlk w g o' := by
  simp only [setBlk]
  congr 1
  apply Array.ext_getElem?
  intro i
  simp only [Array.getElem?_setIfInBounds, Array.size_setIfInBounds]
  split <;> rfl
theorem frozen_blk {w : World} {g : Nat} {cur : Array Value} {t : TypeId} {lo hi : Nat} (h : w.heap[g]? = some (.cells cur t (lo, hi))) {o : Nat} (ho : o < cur.size) (hf : cur.size ≤ lo ∨ hi ≤ lo) :
    w.frozen? ⟨g, o, none⟩ = false := by
  simp [World.frozen?, h]
  omega
def setL : Nat → List Value → List Value → List Value
  | o, vs, l => l.take o ++ vs ++ l.drop (o + vs.length)
theorem run_storeCells_blk {P : Program} {g : Nat} {t : TypeId} {lo hi : Nat} : ∀ (vs : List Value) (o k : Nat) (cur : Array Value) (w : World), w.heap[g]? = some (.cells cur t (lo, hi)) → (cur.size ≤ lo ∨ hi ≤ lo) →
    o + k + vs.length ≤ cur.size → (∀ v ∈ vs, v.oneCell' = true) → (storeCells ⟨g, o, none⟩ vs k).run P w = .ok () (setBlk w g (.cells (setL (o + k) vs cur.toList).toArray t (lo, hi)))
  | [], o, k, cur, w, h, _, _, _ => by
    simp only [storeCells, Sem.run_pure]
    congr 1
    simp only [setL, List.append_nil, List.length_nil, Nat.add_zero, List.take_append_drop]
    have : setBlk w g (.cells cur t (lo, hi)) = w := by
      simp only [setBlk]
      have hlt := (Array.getElem?_eq_some_iff.1 h)
      obtain ⟨hlt, he⟩ := hlt
      have : w.heap.setIfInBounds g (.cells cur t (lo, hi)) = w.heap := by
        apply Array.ext_getElem?
        intro i
        simp only [Array.getElem?_setIfInBounds]
        split
        · rename_i hi; subst hi; simp [hlt, he]
        · rfl
      rw [this]
    simpa using this.symm
  | v :: vs, o, k, cur, w, h, hf, hl, h1 => by
    simp only [List.length_cons] at hl
    have ho : o + k < cur.size := by omega
    have hv := h1 v (by simp)
    simp only [storeCells, addr_add, Sem.run_bind, run_store P w _ v _ hv, cell_blk h]
    have e1 : cur[o + k]? = some cur[o + k] := by simp [ho]
    rw [e1]
    simp only [frozen_blk h ho hf]
    simp only [Bool.false_eq_true, if_false, Result.andThen_ok, setCell_blk h]
    have h2 := setBlk_same (w := w) (o := .cells (cur.setIfInBounds (o + k) v) t (lo, hi)) h
    rw [run_storeCells_blk vs o (k + 1) _ _ h2 (by simpa using hf) (by simp; omega) (fun x hx => h1 x (by simp [hx])), setBlk_setBlk]
    congr 3
    simp only [setL, Array.toList_setIfInBounds]
    congr 1
    have ho' : o + k < cur.toList.length := by simpa using ho
    rw [show o + (k + 1) = (o + k) + 1 from rfl, List.take_succ_eq_append_getElem (by simpa using ho)]
    simp only [List.getElem_set_self, List.take_set_of_le (Nat.le_refl _), List.append_assoc, List.singleton_append, List.length_cons]
    rw [List.drop_set_of_lt (by omega)]
    congr 3
    omega
theorem run_storeVar_blk {P : Program} {w : World} {g : Nat} {cur : Array Value} {t ty : TypeId} {lo hi : Nat} {i : TyI} (hok : i.ok P ty) (h : w.heap[g]? = some (.cells cur t (lo, hi))) (hf : cur.size ≤ lo ∨ hi ≤ lo)
    (o : Nat) (cs : List C) (v : Value) (hv : v.cells = (cs.map C.enc).toArray) (hl : cs.length = i.size) (ho : o + cs.length ≤ cur.size) (h1 : oneAll cs) :
    (storeVar ty ⟨g, o, none⟩ v).run P w = .ok () (setBlk w g (.cells (setL o (cs.map C.enc) cur.toList).toArray t (lo, hi))) := by
  unfold storeVar
  simp only [Sem.run_bind, run_sizeOf hok, Result.andThen_ok, Sem.run_ite, hv]
  simp only [List.size_toArray, List.length_map, hl, ne_eq, not_true_eq_false, if_false, Sem.run_pure, Result.andThen_ok]
  have := run_storeCells_blk (P := P) (cs.map C.enc) o 0 cur w h hf (by simpa using ho) (by
    intro v hv
    obtain ⟨x, hx, rfl⟩ := List.mem_map.1 hv
    exact C.enc_oneCell x (h1 x hx))
  simpa using this
end Go.X
namespace Go.X
open Go
variable [Sm : Inhabited Manner] [Df : Inhabited (List Deferred)]
abbrev tt : V := .c (.b true)
abbrev ff : V := .c (.b false)
def bitsV (op : BinOp) (k : IntKind) (x y : Int) : Int :=
  match op with
  | .and => k.wrap (BitVec.ofInt k.bits x &&& BitVec.ofInt k.bits y).toNat
  | .or => k.wrap (BitVec.ofInt k.bits x ||| BitVec.ofInt k.bits y).toNat
  | .xor => k.wrap (BitVec.ofInt k.bits x ^^^ BitVec.ofInt k.bits y).toNat
  | _ => k.wrap (BitVec.ofInt k.bits x &&& ~~~(BitVec.ofInt k.bits y)).toNat
def vcInt (op : BinOp) (k : IntKind) (a b : Int) (kk : V → Prop) : Prop :=
  match op with
  | .add => ArP k (a + b) fun r => kk (.c (.i k r))
  | .sub => ArP k (a - b) fun r => kk (.c (.i k r))
  | .mul => ArP k (a * b) fun r => kk (.c (.i k r))
  | .quo => SideP (b ≠ 0) (ArP k (a.tdiv b) fun r => kk (.c (.i k r)))
  | .rem => SideP (b ≠ 0) (kk (.c (.i k (a.tmod b))))
  | .and => kk (.c (.i k (bitsV .and k a b)))
  | .or => kk (.c (.i k (bitsV .or k a b)))
  | .xor => kk (.c (.i k (bitsV .xor k a b)))
  | .andNot => kk (.c (.i k (bitsV .andNot k a b)))
  | .eql => CondP (a = b) (kk tt) (kk ff)
  | .neq => CondP (a = b) (kk ff) (kk tt)
  | .lss => CondP (a < b) (kk tt) (kk ff)
  | .leq => CondP (a ≤ b) (kk tt) (kk ff)
  | .gtr => CondP (b < a) (kk tt) (kk ff)
  | .geq => CondP (b ≤ a) (kk tt) (kk ff)
  | .shl | .shr => False
def vcStr (op : BinOp) (a b : List UInt8) (kk : V → Prop) : Prop :=
  match op with
  | .add => SideP (a.length + b.length ≤ 9223372036854775807) (kk (.c (.s (a ++ b))))
  | .eql => CondP (a = b) (kk tt) (kk ff)
  | .neq => CondP (a = b) (kk ff) (kk tt)
  | .lss => CondP (Op.bytesLess a b = true) (kk tt) (kk ff)
  | .geq => CondP (Op.bytesLess a b = true) (kk ff) (kk tt)
  | .leq => CondP (Op.bytesLess a b = true ∨ a = b) (kk tt) (kk ff)
  | .gtr => CondP (Op.bytesLess a b = true ∨ a = b) (kk ff) (kk tt)
  | _ => False
def vcEq (op : BinOp) (p : Prop) (kk : V → Prop) : Prop :=
  match op with
  | .eql => CondP p (kk tt) (kk ff)
  | .neq => CondP p (kk ff) (kk tt)
  | _ => False
def vcEqB (op : BinOp) (b : Bool) (kk : V → Prop) : Prop :=
  match op with
  | .eql => kk (.c (.b b))
  | .neq => kk (.c (.b (!b)))
  | _ => False
def vcBin (T : Ty) (op : BinOp) (t : Nat) (x y : V) (kk : V → Prop) : Prop :=
  match x, y with
  | .c (.i k a), .c (.i k' b) =>
    match op with
    | .shl => SideP (0 ≤ b) (ArP k (a * 2 ^ (min b.toNat k.bits)) fun r => kk (.c (.i k r)))
    | .shr => SideP (0 ≤ b) (kk (.c (.i k (a.fdiv (2 ^ (min b.toNat k.bits))))))
    | op => match Nat.beq (kdN k) (kdN k') with
      | true => vcInt op k a b kk
      | false => False
  | .c (.s a), .c (.s b) => vcStr op a b kk
  | .c (.b a), .c (.b b) =>
    match find T t with
    | some i => match i.d with
      | .bool => vcEq op (a = b) kk
      | _ => False
    | none => False
  | .agg xs, .agg ys =>
    match find T t with
    | some i => match i.d with
      | .st _ => match eqTy T 20 t xs ys with
        | some p => vcEq op p kk
        | none => False
      | _ => False
    | none => False
  | .c (.sl a _ _), .c (.sl none _ _) =>
    match find T t with
    | some i => match i.d with
      | .sl _ => vcEq op (a = none) kk
      | _ => False
    | none => False
  | .c (.p _ a o), .c (.p _ a' o') =>
    match find T t with
    | some i => match i.d with
      | .ptr e => match find T e with
        | some _ => SideP (a = a' ∧ o = o') (vcEqB op true kk)
        | none => False
      | _ => False
    | none => False
  | .c (.p _ _ _), .c (.raw (.pointer none)) =>
    match find T t with
    | some i => match i.d with
      | .ptr _ => vcEqB op false kk
      | _ => False
    | none => False
  | .c (.raw (.pointer none)), .c (.raw (.pointer none)) =>
    match find T t with
    | some i => match i.d with
      | .ptr _ => vcEqB op true kk
      | _ => False
    | none => False
  | _, _ => False
theorem CondP.run {p : Prop} {kk : V → Prop} {b : Bool} (h : CondP p (kk tt) (kk ff)) (hb : b = true ↔ p) : kk (.c (.b b)) := by
  cases b
  · exact h.f (fun hp => by simpa using hb.2 hp)
  · exact h.t (hb.1 rfl)
theorem CondP.run' {p : Prop} {kk : V → Prop} {b : Bool} (h : CondP p (kk ff) (kk tt)) (hb : b = true ↔ p) : kk (.c (.b (!b))) := by
  cases b
  · exact h.f (fun hp => by simpa using hb.2 hp)
  · exact h.t (hb.1 rfl)
theorem equalIn_slnil {P : Program} (w : World) (d : Nat) (t e : TypeId) (a : Option Addr) (n c n' c' : Nat) (h : P.underlying t = some (.slice e)) : (Op.equalIn (d + 1) t (.slice a n c) (.slice none n' c')).run P w = .ok a.isNone w := by
  cases a <;> simp [Op.equalIn, run_underlying h]
theorem run_eql_slnil {P : Program} (w : World) (t e : TypeId) (a : Option Addr) (n c n' c' : Nat) (h : P.underlying t = some (.slice e)) : (binOp .eql t (.slice a n c) (.slice none n' c')).run P w = .ok (.bool a.isNone) w := by
  simp [binOp, Op.equal, Op.maxDepth, equalIn_slnil w 9999 t e a n c n' c' h]
theorem run_neq_slnil {P : Program} (w : World) (t e : TypeId) (a : Option Addr) (n c n' c' : Nat) (h : P.underlying t = some (.slice e)) : (binOp .neq t (.slice a n c) (.slice none n' c')).run P w = .ok (.bool (!a.isNone)) w := by
  simp [binOp, Op.equal, Op.maxDepth, equalIn_slnil w 9999 t e a n c n' c' h]
theorem run_eqGuard_plain {P : Program} {w : World} (op : BinOp) (t : TypeId) (x y : Operand) (a b : Value) (h : ∀ xs ys, a = .agg xs → b = .agg ys → False) (h' : a = .nilIface → False) : (eqGuard op t x y a b).run P w = .ok () w := by
  cases op <;> simp only [eqGuard] <;> first | rfl | (cases a <;> cases b <;> first | rfl | exact (h _ _ rfl rfl).elim | exact (h' rfl).elim)
def BinRuns (P : Program) (op : BinOp) (t : TypeId) (x y : Operand) (a b : Value) (v : V) : Prop :=
  ∀ w, (do eqGuard op t x y a b; binOp op t a b : Sem Value).run P w = .ok v.enc w
theorem binRuns_of {P : Program} {op : BinOp} {t : TypeId} {x y : Operand} {a b : Value} {v : V} (h : ∀ xs ys, a = .agg xs → b = .agg ys → False) (h' : a = .nilIface → False)
    (hr : ∀ w, (binOp op t a b).run P w = .ok v.enc w) : BinRuns P op t x y a b v := fun w => by
  simp only [Sem.run_bind, run_eqGuard_plain op t x y a b h h', Result.andThen_ok, hr]
theorem vcInt_sound {P : Program} {op : BinOp} {k : IntKind} {a b : Int} {kk : V → Prop} {t : TypeId} (h : vcInt op k a b kk) : ∃ v, kk v ∧ ∀ w, (binOp op t (.int k a) (.int k b)).run P w = .ok v.enc w := by
  cases op <;> simp only [vcInt] at h
  case add => exact ⟨_, h.run, fun w => by simp [binOp_add, Op.intArith, V.enc, C.enc]⟩
  case sub => exact ⟨_, h.run, fun w => by simp [binOp_sub, Op.intArith, V.enc, C.enc]⟩
  case mul => exact ⟨_, h.run, fun w => by simp [binOp_mul, Op.intArith, V.enc, C.enc]⟩
  case quo => exact ⟨_, h.k.run, fun w => by simp [binOp_quo, Op.intDiv, h.h, V.enc, C.enc]⟩
  case rem => exact ⟨_, h.k, fun w => by simp [binOp_rem, Op.intDiv, h.h, V.enc, C.enc]⟩
  case and => exact ⟨_, h, fun w => by simp [binOp_and, Op.intBits, V.enc, C.enc, bitsV]⟩
  case or => exact ⟨_, h, fun w => by simp [binOp_or, Op.intBits, V.enc, C.enc, bitsV]⟩
  case xor => exact ⟨_, h, fun w => by simp [binOp_xor, Op.intBits, V.enc, C.enc, bitsV]⟩
  case andNot => exact ⟨_, h, fun w => by simp [binOp_andNot, Op.intBits, V.enc, C.enc, bitsV]⟩
  case eql => exact ⟨_, h.run (b := a == b) (by simp), fun w => by simp [binOp_eql, V.enc, C.enc]⟩
  case neq => exact ⟨_, h.run' (b := a == b) (by simp), fun w => by simp [binOp_neq, V.enc, C.enc]; rfl⟩
  case lss => exact ⟨_, h.run (b := decide (a < b)) (by simp), fun w => by simp [binOp_lss, V.enc, C.enc]⟩
  case leq => exact ⟨_, h.run (b := decide (a ≤ b)) (by simp), fun w => by simp [binOp_leq, V.enc, C.enc]⟩
  case gtr => exact ⟨_, h.run (b := decide (b < a)) (by simp), fun w => by simp [binOp_gtr, V.enc, C.enc]⟩
  case geq => exact ⟨_, h.run (b := decide (b ≤ a)) (by simp), fun w => by simp [binOp_geq, V.enc, C.enc]⟩
theorem mk_toList (a : List UInt8) : (⟨⟨a⟩⟩ : ByteArray).toList = a := by rw [ByteArray.toList_eq]
theorem mk_append (a b : List UInt8) : ((⟨⟨a⟩⟩ : ByteArray) ++ ⟨⟨b⟩⟩) = ⟨⟨a ++ b⟩⟩ := by
  apply ByteArray.ext
  simp
theorem mk_size (a : List UInt8) : (⟨⟨a⟩⟩ : ByteArray).size = a.length := rfl
theorem vcStr_sound {P : Program} {op : BinOp} {a b : List UInt8} {kk : V → Prop} {t : TypeId} (h : vcStr op a b kk) : ∃ v, kk v ∧ ∀ w, (binOp op t (.string ⟨⟨a⟩⟩) (.string ⟨⟨b⟩⟩)).run P w = .ok v.enc w := by
  cases op <;> simp only [vcStr] at h
  case add =>
    refine ⟨_, h.k, fun w => ?_⟩
    have h1 := h.h
    have hlt : ¬ (((⟨⟨a⟩⟩ : ByteArray).size + (⟨⟨b⟩⟩ : ByteArray).size : Nat) : Int) > IntKind.i64.max := by
      rw [mk_size, mk_size]
      simp [IntKind.max, IntKind.signed, IntKind.bits]
      omega
    simp only [binOp_string_add, Op.stringOp, hlt, if_false, Sem.run_pure, mk_append]
    rfl
  case eql => exact ⟨_, h.run (b := a == b) (by simp), fun w => by simp [binOp_string_eql, V.enc, C.enc, mk_toList]⟩
  case neq => exact ⟨_, h.run' (b := a == b) (by simp), fun w => by simp [binOp_string_neq, V.enc, C.enc, mk_toList]⟩
  case lss => exact ⟨_, h.run (b := Op.bytesLess a b) (by simp), fun w => by simp [binOp_string_lss, V.enc, C.enc, mk_toList]⟩
  case geq => exact ⟨_, h.run' (b := Op.bytesLess a b) (by simp), fun w => by simp [binOp, Op.stringOp, V.enc, C.enc, mk_toList]⟩
  case leq => exact ⟨_, h.run (b := Op.bytesLess a b || a == b) (by simp), fun w => by simp [binOp, Op.stringOp, V.enc, C.enc, mk_toList]⟩
  case gtr => exact ⟨_, h.run' (b := Op.bytesLess a b || a == b) (by simp), fun w => by simp [binOp, Op.stringOp, V.enc, C.enc, mk_toList]⟩
theorem vcPtr_sound {P : Program} {op : BinOp} {t : TypeId} {ox oy : Operand} {b : Bool} {p q : Option Addr} {kk : V → Prop} (h : vcEqB op b kk) (hr : ∀ w d, (Op.equalIn (d + 1) t (.pointer p) (.pointer q)).run P w = .ok b w) :
    ∃ v, kk v ∧ BinRuns P op t ox oy (.pointer p) (.pointer q) v := by
  unfold vcEqB at h
  split at h
  · exact ⟨_, h, binRuns_of (by intro xs ys h1; cases h1) (by intro h1; cases h1) fun w => by simp [binOp, Op.equal, Op.maxDepth, hr w 9999, V.enc, C.enc]⟩
  · exact ⟨_, h, binRuns_of (by intro xs ys h1; cases h1) (by intro h1; cases h1) fun w => by simp [binOp, Op.equal, Op.maxDepth, hr w 9999, V.enc, C.enc]⟩
  · exact h.elim
theorem vcBin_sound {P : Program} {T : Ty} (hT : TyOK P T) {op : BinOp} {t : Nat} {x y : V} {kk : V → Prop} {ox oy : Operand} (h : vcBin T op t x y kk) : ∃ v, kk v ∧ BinRuns P op t ox oy x.enc y.enc v := by
  unfold vcBin at h
  split at h
  · rename_i k a k' b
    split at h
    · refine ⟨_, h.k.run, binRuns_of (by intro xs ys h1; cases h1) (by intro h1; cases h1) fun w => ?_⟩
      have := h.h
      simp [V.enc, C.enc, binOp_shl, Op.shift, show ¬ b < 0 by omega]
    · refine ⟨_, h.k, binRuns_of (by intro xs ys h1; cases h1) (by intro h1; cases h1) fun w => ?_⟩
      have := h.h
      simp [V.enc, C.enc, binOp_shr, Op.shift, show ¬ b < 0 by omega]
    · split at h
      · rename_i hk
        have := kdN_inj hk
        subst this
        obtain ⟨v, hv, hr⟩ := vcInt_sound (P := P) (t := t) h
        exact ⟨v, hv, binRuns_of (by intro xs ys h1; cases h1) (by intro h1; cases h1) hr⟩
      · exact h.elim
  · obtain ⟨v, hv, hr⟩ := vcStr_sound (P := P) (t := t) h
    exact ⟨v, hv, binRuns_of (by intro xs ys h1; cases h1) (by intro h1; cases h1) hr⟩
  · rename_i a b
    split at h
    · rename_i i hi
      split at h
      · rename_i hd
        have hok := (hT t i hi).2.2.2
        rw [hd] at hok
        unfold vcEq at h
        split at h
        · exact ⟨_, h.run (b := a == b) (by simp), binRuns_of (by intro xs ys h1; cases h1) (by intro h1; cases h1) fun w => by simp [V.enc, C.enc, run_eql_bool w t a b hok]⟩
        · exact ⟨_, h.run' (b := a == b) (by simp), binRuns_of (by intro xs ys h1; cases h1) (by intro h1; cases h1) fun w => by simp [V.enc, C.enc, run_neq_bool w t a b hok]⟩
        · exact h.elim
      · exact h.elim
    · exact h.elim
  · rename_i xs ys
    split at h
    · rename_i i hi
      split at h
      · rename_i fs hd
        split at h
        · rename_i p hp
          have hok := (hT t i hi).2.2.2
          rw [hd] at hok
          have hrun : ∀ w, ∃ b, (Op.equalIn 10000 t (V.agg xs).enc (V.agg ys).enc).run P w = .ok b w ∧ (b = true ↔ p) := fun w => by
            have := run_eqTy hT 20 9980 t xs ys p w i hp hi
            rw [hd] at this
            exact this
          have hdec : ∃ b : Bool, (b = true ↔ p) := by
            obtain ⟨b, _, hb⟩ := hrun default
            exact ⟨b, hb⟩
          obtain ⟨b, hb⟩ := hdec
          have hrun' : ∀ w, (Op.equalIn 10000 t (V.agg xs).enc (V.agg ys).enc).run P w = .ok b w := fun w => by
            obtain ⟨b', h1, h2⟩ := hrun w
            have : b' = b := by rw [Bool.eq_iff_iff, h2, hb]
            rw [h1, this]
          unfold vcEq at h
          split at h
          · refine ⟨_, h.run hb, fun w => ?_⟩
            have h1 := hrun' w
            simp only [V.enc] at h1 ⊢
            rw [Sem.run_bind, run_eqGuard_agg w _ _ _ _ _ _ hok.2.2.2.2]
            simp only [Result.andThen_ok, run_eql_struct, h1]
            rfl
          · refine ⟨_, h.run' hb, fun w => ?_⟩
            have h1 := hrun' w
            simp only [V.enc] at h1 ⊢
            rw [Sem.run_bind, run_eqGuard_agg w _ _ _ _ _ _ hok.2.2.2.2]
            simp only [Result.andThen_ok, run_neq_struct, h1]
            rfl
          · exact h.elim
        · exact h.elim
      · exact h.elim
    · exact h.elim
  · rename_i a n c n' c'
    split at h
    · rename_i i hi
      split at h
      · rename_i e hd
        have hok := (hT t i hi).2.2.2
        rw [hd] at hok
        unfold vcEq at h
        have hb : a.isNone = true ↔ a = none := Option.isNone_iff_eq_none
        split at h
        · exact ⟨_, h.run hb, binRuns_of (by intro xs ys h1; cases h1) (by intro h1; cases h1) fun w => by simp [V.enc, C.enc, run_eql_slnil w t e a n c n' c' hok]⟩
        · exact ⟨_, h.run' hb, binRuns_of (by intro xs ys h1; cases h1) (by intro h1; cases h1) fun w => by simp [V.enc, C.enc, run_neq_slnil w t e a n c n' c' hok]⟩
        · exact h.elim
      · exact h.elim
    · exact h.elim
  · rename_i id a o id' a' o'
    split at h
    · rename_i i hi
      split at h
      · rename_i e hd
        have hok := (hT t i hi).2.2.2
        rw [hd] at hok
        simp only [TyD.ok] at hok
        split at h
        · rename_i j hj
          obtain ⟨⟨rfl, rfl⟩, h⟩ := h
          exact vcPtr_sound h fun w d => by simp [V.enc, C.enc, Op.equalIn, run_underlying hok, run_sizeOf (hT _ _ hj), run_sameAddr_same]
        · exact h.elim
      · exact h.elim
    · exact h.elim
  · split at h
    · rename_i i hi
      split at h
      · rename_i e hd
        have hok := (hT t i hi).2.2.2
        rw [hd] at hok
        simp only [TyD.ok] at hok
        exact vcPtr_sound h fun w d => by simp [V.enc, C.enc, Op.equalIn, run_underlying hok]
      · exact h.elim
    · exact h.elim
  · split at h
    · rename_i i hi
      split at h
      · rename_i e hd
        have hok := (hT t i hi).2.2.2
        rw [hd] at hok
        simp only [TyD.ok] at hok
        exact vcPtr_sound h fun w d => by simp [V.enc, C.enc, Op.equalIn, run_underlying hok]
      · exact h.elim
    · exact h.elim
  · exact h.elim
end Go.X
namespace Go.X
open Go
variable [Sm : Inhabited Manner] [Df : Inhabited (List Deferred)]
structure Ent where
  w : World
  L : List Chunk
  m : Im
def SatW (G : Ent) (w : World) (L : List Chunk) (D : List Fact) : Prop := ∃ m, Holds w m L D ∧ Fr G.w G.L G.m w L m
abbrev KV := V → List Chunk → List Fact → Nat → Prop
def gives (P : Program) (o : Oper) (ρ : Operand → Value) (w : World) (R : Value → World → Prop) : Prop :=
  match (execOp ρ o).run P w with
  | .ok (.value v) w' => R v w'
  | .ok .skip w' => R undef w'
  | .ok (.enter f args) w' => Calls P f args w' fun e w'' => ∃ v, e = .returned v ∧ R v w''
  | _ => False
theorem gives.mono {P : Program} {o : Oper} {ρ : Operand → Value} {w : World} {R R' : Value → World → Prop} (h : gives P o ρ w R) (hr : ∀ v w', R v w' → R' v w') : gives P o ρ w R' := by
  unfold gives at *
  split at h
  · exact hr _ _ h
  · exact hr _ _ h
  · exact h.mono fun e w'' ⟨v, he, hv⟩ => ⟨v, he, hr _ _ hv⟩
  · exact h.elim
theorem gives.wp {P : Program} {o : Oper} {a : Act} {w : World} {R : Value → World → Prop} {next : Act → World → Prop} {Q : Exit → Act → World → Prop} (h : gives P o a.eval w R) (hn : ∀ v w', R v w' → next (a.put o.dst v) w') : o.wp P a w next Q := by
  unfold gives at h
  unfold Oper.wp
  generalize (execOp a.eval o).run P w = r at *
  split at h
  · exact hn _ _ h
  · exact hn _ _ h
  · rw [Oper.upon_enter]
    refine h.mono ?_
    rintro e w'' ⟨v, rfl, hv⟩
    exact hn _ _ hv
  · exact h.elim
def OpW (P : Program) (G : Ent) (o : Oper) (a : Act) (w : World) (k : KV) : Prop :=
  gives P o a.eval w fun u w' => ∃ v L D n, u = v.enc ∧ k v L D n ∧ SatW G w' L D
theorem opW_val {P : Program} {G : Ent} {o : Oper} {a : Act} {w w' : World} {k : KV} {v : V} {L : List Chunk} {D : List Fact} {n : Nat} (hr : (execOp a.eval o).run P w = .ok (.value v.enc) w') (hk : k v L D n) (hs : SatW G w' L D) : OpW P G o a w k := by
  unfold OpW gives
  rw [hr]
  exact ⟨v, L, D, n, rfl, hk, hs⟩
theorem opW_skip {P : Program} {G : Ent} {o : Oper} {a : Act} {w w' : World} {k : KV} {L : List Chunk} {D : List Fact} {n : Nat} (hr : (execOp a.eval o).run P w = .ok .skip w') (hk : k .t0 L D n) (hs : SatW G w' L D) : OpW P G o a w k := by
  unfold OpW gives
  rw [hr]
  exact ⟨.t0, L, D, n, rfl, hk, hs⟩
def takeK : Nat → List C → (List C → Prop) → Prop
  | 0, _, k => k []
  | n + 1, x :: xs, k => takeK n xs fun r => k (x :: r)
  | _ + 1, [], _ => False
theorem takeK_sound : ∀ {n : Nat} {xs : List C} {k : List C → Prop}, takeK n xs k → n ≤ xs.length ∧ k (xs.take n)
  | 0, _, _, h => ⟨Nat.zero_le _, by simpa [takeK] using h⟩
  | n + 1, x :: xs, k, h => by
    have := takeK_sound (n := n) (xs := xs) h
    exact ⟨by simp; omega, by simpa using this.2⟩
  | n + 1, [], _, h => h.elim
def setK : Nat → List C → List C → (List C → Prop) → Prop
  | 0, [], cs, k => k cs
  | 0, x :: ns, _ :: cs, k => setK 0 ns cs fun r => k (x :: r)
  | 0, _ :: _, [], _ => False
  | o + 1, ns, c :: cs, k => setK o ns cs fun r => k (c :: r)
  | _ + 1, _, [], _ => False
def setC (o : Nat) (vs l : List C) : List C := l.take o ++ vs ++ l.drop (o + vs.length)
theorem setK_sound : ∀ {o : Nat} {ns cs : List C} {k : List C → Prop}, setK o ns cs k → o + ns.length ≤ cs.length ∧ k (setC o ns cs)
  | 0, [], cs, k, h => ⟨by simp, by simpa [setC, setK] using h⟩
  | 0, x :: ns, c :: cs, k, h => by
    have := setK_sound (o := 0) (ns := ns) (cs := cs) h
    refine ⟨by simpa using this.1, ?_⟩
    have h2 := this.2
    simp only [setC, List.take_zero, List.nil_append, Nat.zero_add, List.length_cons, List.drop_succ_cons, List.cons_append] at h2 ⊢
    exact h2
  | 0, _ :: _, [], _, h => h.elim
  | o + 1, ns, c :: cs, k, h => by
    have := setK_sound (o := o) (ns := ns) (cs := cs) h
    refine ⟨by simp; omega, ?_⟩
    have h2 := this.2
    simp only [setC, List.take_succ_cons, List.cons_append] at h2 ⊢
    rw [show o + 1 + ns.length = (o + ns.length) + 1 by omega, List.drop_succ_cons]
    exact h2
  | _ + 1, _, [], _, h => h.elim
theorem setL_enc (o : Nat) (vs l : List C) : setL o (vs.map C.enc) (l.map C.enc) = (setC o vs l).map C.enc := by
  simp [setL, setC, List.map_take, List.map_drop]
theorem setC_length {o : Nat} {vs l : List C} (h : o + vs.length ≤ l.length) : (setC o vs l).length = l.length := by
  simp [setC]; omega
theorem oneAll_setC {o : Nat} {vs l : List C} (h : oneAll vs) (h' : oneAll l) : oneAll (setC o vs l) := by
  intro x hx
  simp only [setC, List.append_assoc, List.mem_append] at hx
  rcases hx with hx | hx | hx
  · exact h' x (List.mem_of_mem_take hx)
  · exact h x hx
  · exact h' x (List.mem_of_mem_drop hx)
def allOneB : List C → Bool
  | [] => true
  | x :: r => match x.one with
    | true => allOneB r
    | false => false
theorem allOneB_sound : ∀ {cs : List C}, allOneB cs = true → oneAll cs
  | [], _ => fun x hx => by cases hx
  | c :: r, h => by
    simp only [allOneB] at h
    split at h
    · rename_i h1
      intro x hx
      rcases List.mem_cons.1 hx with rfl | hx
      · exact h1
      · exact allOneB_sound h x hx
    · cases h
def oneK (cs : List C) (A : Prop) : Prop := match allOneB cs with | true => A | false => False
theorem oneK_sound {cs : List C} {A : Prop} (h : oneK cs A) : oneAll cs ∧ A := by
  unfold oneK at h
  split at h
  · rename_i h1; exact ⟨allOneB_sound h1, h⟩
  · exact h.elim
def rdK (d : TyD) (cs : List C) (k : V → Prop) : Prop :=
  match d with
  | .st _ | .arr _ _ | .so _ => k (.agg cs)
  | .oth => False
  | _ => match cs with
    | [x] => k (.c x)
    | _ => False
theorem rdK_sound {d : TyD} {cs : List C} {k : V → Prop} (h : rdK d cs k) : ∃ v, k v ∧ v.enc = valOf d cs ∧ d ≠ .oth := by
  unfold rdK at h
  split at h
  · exact ⟨_, h, rfl, by simp⟩
  · exact ⟨_, h, rfl, by simp⟩
  · exact ⟨_, h, rfl, by simp⟩
  · exact h.elim
  · rename_i d h1 h2 h2' h3
    split at h
    · exact ⟨_, h, by unfold valOf; split <;> first | rfl | (exfalso; simp_all), h3⟩
    · exact h.elim
def cellsK (v : V) (k : List C → Prop) : Prop :=
  match v with
  | .c x => k [x]
  | .agg cs => k cs
  | _ => False
theorem cellsK_sound {v : V} {k : List C → Prop} (h : cellsK v k) : ∃ cs, k cs ∧ (oneAll cs → v.enc.cells = (cs.map C.enc).toArray) := by
  unfold cellsK at h
  split at h
  · rename_i x
    refine ⟨_, h, fun h1 => ?_⟩
    have h2 := C.enc_oneCell x (h1 x (by simp))
    simp only [V.enc, List.map_cons, List.map_nil]
    cases hx : x.enc <;> rw [hx] at h2 <;> first | rfl | (simp [Value.oneCell'] at h2)
  · exact ⟨_, h, fun _ => rfl⟩
  · exact h.elim
def natK (a b : Nat) (A : Prop) : Prop := match Nat.beq a b with | true => A | false => False
theorem natK_sound {a b : Nat} {A : Prop} (h : natK a b A) : a = b ∧ A := by
  unfold natK at h
  split at h
  · rename_i h1; exact ⟨Nat.eq_of_beq_eq_true h1, h⟩
  · exact h.elim
theorem kept_alloc {w : World} {o : Obj} : Kept w (w.alloc o) := ⟨rfl, rfl, by simp, fun _ => rfl, fun _ => Nat.le_refl _⟩
theorem kept_setBlk {w : World} {g : Nat} {o : Obj} : Kept w (setBlk w g o) := ⟨rfl, rfl, by rw [setBlk_size]; exact Nat.le_refl _, fun _ => rfl, fun _ => Nat.le_refl _⟩
theorem holds_alloc {w : World} {m : Im} {L : List Chunk} {D : List Fact} (h : Holds w m L D) (o : Obj) (ch : Chunk) (hf : ch.fp = [w.heap.size]) (hok : ch.ok (w.alloc o)) :
    Holds (w.alloc o) m (ch :: L) D ∧ Fr w L m (w.alloc o) (ch :: L) m := by
  have hlt := mem_fps_lt h.ok
  have hold : ∀ b, b < w.heap.size → (w.alloc o).heap[b]? = w.heap[b]? := fun b hb => heap_alloc_old w o hb
  refine ⟨⟨?_, ⟨hok, allOk_of_same h.ok fun b hb => hold b (hlt b hb)⟩, ?_, h.d⟩, ⟨by simp, fun b hb _ => hold b hb, ?_, fun _ _ h => h, fun _ _ h => .inl h, kept_alloc⟩⟩
  · simp only [fps, hf, List.cons_append, List.nil_append, List.nodup_cons]
    exact ⟨fun hc => Nat.lt_irrefl _ (hlt _ hc), h.nd⟩
  · intro b ob hb
    have h1 := h.im b ob hb
    have hlt' : b < w.heap.size := (Array.getElem?_eq_some_iff.1 h1.1).1
    refine ⟨by rw [hold b hlt']; exact h1.1, ?_⟩
    simp only [fps, hf, List.cons_append, List.nil_append, List.mem_cons, not_or]
    exact ⟨Nat.ne_of_lt hlt', h1.2⟩
  · intro b hb
    simp only [fps, hf, List.cons_append, List.nil_append, List.mem_cons] at hb
    rcases hb with rfl | hb
    · exact .inr (Nat.le_refl _)
    · exact .inl hb
theorem satW_alloc {G : Ent} {w : World} {L : List Chunk} {D : List Fact} (h : SatW G w L D) (o : Obj) (ch : Chunk) (hf : ch.fp = [w.heap.size]) (hok : ch.ok (w.alloc o)) : SatW G (w.alloc o) (ch :: L) D := by
  obtain ⟨m, h1, h2⟩ := h
  obtain ⟨h3, h4⟩ := holds_alloc h1 o ch hf hok
  exact ⟨m, h3, h2.trans h4⟩
theorem box_ok_alloc (w : World) (id ty : Nat) (cs : List C) (h1 : oneAll cs) : Chunk.ok (w.alloc (.cells (cs.map C.enc).toArray ty)) (.box id w.heap.size ty cs) :=
  ⟨h1, heap_alloc_new w _⟩
theorem run_newVar (P : Program) (w : World) (t : TypeId) (v : Value) : (newVar t v).run P w = .ok ⟨w.heap.size, 0, none⟩ (w.alloc (.cells v.cells t)) := rfl
def vcBox (T : Ty) (t : Nat) (v : V) (L : List Chunk) (D : List Fact) (nid : Nat) (k : KV) : Prop :=
  cellsK v fun cs => oneK cs (NewP fun ad => k (.c (.p nid ad 0)) (.box nid ad t cs :: L) D (nid + 1))
theorem vcBox_sound {P : Program} {T : Ty} {G : Ent} {o : Oper} {a : Act} {w : World} {t : Nat} {v : V} {L : List Chunk} {D : List Fact} {nid : Nat} {k : KV} (h : vcBox T t v L D nid k) (hs : SatW G w L D)
    (hr : (execOp a.eval o).run P w = .ok (.value (.pointer (some ⟨w.heap.size, 0, none⟩))) (w.alloc (.cells v.enc.cells t))) : OpW P G o a w k := by
  obtain ⟨cs, h, hv⟩ := cellsK_sound h
  obtain ⟨h1, h⟩ := oneK_sound h
  rw [hv h1] at hr
  exact opW_val (v := .c (.p nid w.heap.size 0)) hr (h.k _) (satW_alloc hs _ (.box nid w.heap.size t cs) rfl (box_ok_alloc w nid t cs h1))
def findBox : List Chunk → Nat → Option (Nat × Nat × List C)
  | [], _ => none
  | .box id ad ty cs :: r, n => match Nat.beq id n with
    | true => some (ad, ty, cs)
    | false => findBox r n
  | .row _ _ _ _ _ _ :: r, n => findBox r n
  | .obj _ _ _ :: r, n => findBox r n
def setBoxK : List Chunk → Nat → List C → (List Chunk → Prop) → Prop
  | [], _, _, _ => False
  | .box id ad ty cs :: r, n, cs', k => match Nat.beq id n with
    | true => k (.box id ad ty cs' :: r)
    | false => setBoxK r n cs' fun r' => k (.box id ad ty cs :: r')
  | .row a b c d e f :: r, n, cs', k => setBoxK r n cs' fun r' => k (.row a b c d e f :: r')
  | .obj a b c :: r, n, cs', k => setBoxK r n cs' fun r' => k (.obj a b c :: r')
theorem findBox_split : ∀ {L : List Chunk} {n ad ty : Nat} {cs : List C}, findBox L n = some (ad, ty, cs) → ∃ A B id, L = A ++ .box id ad ty cs :: B ∧ ∀ cs' k, setBoxK L n cs' k → k (A ++ .box id ad ty cs' :: B)
  | .box id ad ty cs :: r, n, ad', ty', cs', h => by
    simp only [findBox] at h
    cases hb : Nat.beq id n with
    | true =>
      rw [hb] at h
      simp only [Option.some.injEq, Prod.mk.injEq] at h
      obtain ⟨rfl, rfl, rfl⟩ := h
      exact ⟨[], r, id, rfl, fun cs' k hk => by simpa [setBoxK, hb] using hk⟩
    | false =>
      rw [hb] at h
      obtain ⟨A, B, id', hL, hk⟩ := findBox_split h
      refine ⟨.box id ad ty cs :: A, B, id', by rw [hL]; rfl, fun cs' k h' => ?_⟩
      simp only [setBoxK, hb] at h'
      exact hk _ _ h'
  | .row a b c d e f :: r, n, ad', ty', cs', h => by
    simp only [findBox] at h
    obtain ⟨A, B, id', hL, hk⟩ := findBox_split h
    refine ⟨.row a b c d e f :: A, B, id', by rw [hL]; rfl, fun cs' k h' => ?_⟩
    simp only [setBoxK] at h'
    exact hk _ _ h'
  | .obj a b c :: r, n, ad', ty', cs', h => by
    simp only [findBox] at h
    obtain ⟨A, B, id', hL, hk⟩ := findBox_split h
    refine ⟨.obj a b c :: A, B, id', by rw [hL]; rfl, fun cs' k h' => ?_⟩
    simp only [setBoxK] at h'
    exact hk _ _ h'
  | [], _, _, _, _, h => by simp [findBox] at h
theorem satW_replace {G : Ent} {w : World} {A B : List Chunk} {ch ch' : Chunk} {D : List Fact} {g : Nat} {o : Obj} (h : SatW G w (A ++ ch :: B) D) (hg : ch.fp = [g]) (hf : ch'.fp = ch.fp) (hok : ch'.ok (setBlk w g o)) (hz : ∀ off, frO (some o) off = frO w.heap[g]? off) :
    SatW G (setBlk w g o) (A ++ ch' :: B) D := by
  obtain ⟨m, h1, h2⟩ := h
  have hfp : fps (A ++ ch' :: B) = fps (A ++ ch :: B) := by simp [fps_append, fps, hf]
  have hnd := h1.nd
  simp only [fps_append, fps, hg] at hnd
  have hmem : g ∈ fps (A ++ ch :: B) := by simp [fps_append, fps, hg]
  have hA : ∀ b ∈ fps A, b ≠ g := fun b hb hc => by
    subst hc
    exact (List.nodup_append.1 hnd).2.2 b hb b (by simp) rfl
  have hB : ∀ b ∈ fps B, b ≠ g := fun b hb hc => by
    subst hc
    have := (List.nodup_append.1 hnd).2.1
    simp at this
    exact this.1 hb
  have hok1 := (allOk_append _ _).1 h1.ok
  refine ⟨m, ⟨by rw [hfp]; exact h1.nd, (allOk_append _ _).2 ⟨allOk_of_same hok1.1 fun b hb => setBlk_ne (hA b hb), hok, allOk_of_same hok1.2.2 fun b hb => setBlk_ne (hB b hb)⟩, ?_, h1.d⟩, ?_⟩
  · intro b ob hb
    have h3 := h1.im b ob hb
    rw [hfp]
    exact ⟨by rw [setBlk_ne (by intro hc; subst hc; exact h3.2 hmem)]; exact h3.1, h3.2⟩
  · refine h2.trans ⟨by rw [setBlk_size]; exact Nat.le_refl _, fun b _ hb => setBlk_ne (by intro hc; subst hc; exact hb hmem), fun b hb => .inl (by rw [← hfp]; exact hb), fun _ _ h => h, fun _ _ h => .inl h, kept_setBlk⟩
theorem satW_free {G : Ent} {w : World} {A : List Chunk} {ch : Chunk} {D : List Fact} {g : Nat} {o : Obj} (h : SatW G w (ch :: A) D) (hg : ch.fp = [g]) : SatW G (setBlk w g o) A D := by
  obtain ⟨m, h1, h2⟩ := h
  have hnd := h1.nd
  simp only [fps, hg] at hnd
  have hA : ∀ b ∈ fps A, b ≠ g := fun b hb hc => by
    subst hc
    simp at hnd
    exact hnd.1 hb
  have hmem : g ∈ fps (ch :: A) := by simp [fps, hg]
  refine ⟨m, ⟨(by simp at hnd; exact hnd.2), allOk_of_same h1.ok.2 fun b hb => setBlk_ne (hA b hb), ?_, h1.d⟩, ?_⟩
  · intro b ob hb
    have h3 := h1.im b ob hb
    exact ⟨by rw [setBlk_ne (by intro hc; subst hc; exact h3.2 hmem)]; exact h3.1, fun hc => h3.2 (by simp only [fps, List.mem_append]; exact .inr hc)⟩
  · exact h2.trans ⟨by rw [setBlk_size]; exact Nat.le_refl _, fun b _ hb => setBlk_ne (by intro hc; subst hc; exact hb hmem), fun b hb => .inl (by simp only [fps, List.mem_append]; exact .inr hb), fun _ _ h => h, fun _ _ h => .inl h, kept_setBlk⟩
def findObj : List Chunk → Nat → Option (Nat × Obj)
  | [], _ => none
  | .obj id ad o :: r, n => match Nat.beq id n with
    | true => some (ad, o)
    | false => findObj r n
  | .box _ _ _ _ :: r, n => findObj r n
  | .row _ _ _ _ _ _ :: r, n => findObj r n
def setObjK : List Chunk → Nat → Obj → (List Chunk → Prop) → Prop
  | [], _, _, _ => False
  | .obj id ad o :: r, n, o', k => match Nat.beq id n with
    | true => k (.obj id ad o' :: r)
    | false => setObjK r n o' fun r' => k (.obj id ad o :: r')
  | .box a b c d :: r, n, o', k => setObjK r n o' fun r' => k (.box a b c d :: r')
  | .row a b c d e f :: r, n, o', k => setObjK r n o' fun r' => k (.row a b c d e f :: r')
theorem findObj_split : ∀ {L : List Chunk} {n ad : Nat} {o : Obj}, findObj L n = some (ad, o) → ∃ A B id, L = A ++ .obj id ad o :: B ∧ ∀ o' k, setObjK L n o' k → k (A ++ .obj id ad o' :: B)
  | .obj id ad o :: r, n, ad', o', h => by
    simp only [findObj] at h
    cases hb : Nat.beq id n with
    | true =>
      rw [hb] at h
      simp only [Option.some.injEq, Prod.mk.injEq] at h
      obtain ⟨rfl, rfl⟩ := h
      exact ⟨[], r, id, rfl, fun o' k hk => by simpa [setObjK, hb] using hk⟩
    | false =>
      rw [hb] at h
      obtain ⟨A, B, id', hL, hk⟩ := findObj_split h
      refine ⟨.obj id ad o :: A, B, id', by rw [hL]; rfl, fun o' k h' => ?_⟩
      simp only [setObjK, hb] at h'
      exact hk _ _ h'
  | .box a b c d :: r, n, ad', o', h => by
    simp only [findObj] at h
    obtain ⟨A, B, id', hL, hk⟩ := findObj_split h
    refine ⟨.box a b c d :: A, B, id', by rw [hL]; rfl, fun o' k h' => ?_⟩
    simp only [setObjK] at h'
    exact hk _ _ h'
  | .row a b c d e f :: r, n, ad', o', h => by
    simp only [findObj] at h
    obtain ⟨A, B, id', hL, hk⟩ := findObj_split h
    refine ⟨.row a b c d e f :: A, B, id', by rw [hL]; rfl, fun o' k h' => ?_⟩
    simp only [setObjK] at h'
    exact hk _ _ h'
  | [], _, _, _, h => by simp [findObj] at h
structure EqP (a b : Nat) (A : Prop) : Prop where
  h : a = b
  k : A
def SlF (m : Im) (ety esz : Nat) (a : Option Addr) (n : Nat) (cs : List C) : Prop :=
  oneAll cs ∧ ((n = 0 ∧ cs = []) ∨ ∃ g off cur ty lo hi, a = some ⟨g, off, none⟩ ∧ m g = some (.cells cur ty (lo, hi)) ∧ cs.length = n * esz ∧ (cur.toList.drop off).take (n * esz) = cs.map C.enc)
def slFact (ety esz : Nat) (a : Option Addr) (n : Nat) (cs : List C) : Fact :=
  ⟨fun m => SlF m ety esz a n cs, fun m m' hm h => ⟨h.1, h.2.imp id fun ⟨g, off, cur, ty, lo, hi, h1, h2, h3⟩ => ⟨g, off, cur, ty, lo, hi, h1, hm _ _ h2, h3⟩⟩⟩
inductive Reads (L : List Chunk) (D : List Fact) (ety esz : Nat) (a : Option Addr) (n : Nat) (cs : List C) : Prop where
  | inl (h : ∃ c, Chunk.row ety esz a n c cs ∈ L)
  | inr (h : ∀ m, allD m D → SlF m ety esz a n cs)
  | sub (b : Option Addr) (lo N c : Nat) (cs0 : List C) (h : Chunk.row ety esz b N c cs0 ∈ L) (ha : a = b.map (·.add (lo * esz))) (hn : lo + n ≤ N) (hc : cs = (cs0.drop (lo * esz)).take (n * esz))
theorem allOk_mem {w : World} {ch : Chunk} : ∀ {L : List Chunk}, allOk w L → ch ∈ L → ch.ok w
  | c :: r, h, hm => by
    rcases List.mem_cons.1 hm with rfl | hm
    · exact h.1
    · exact allOk_mem h.2 hm
  | [], _, hm => by cases hm
theorem add_zero0 (g k : Nat) : (⟨g, 0, none⟩ : Addr).add k = ⟨g, k, none⟩ := by
  unfold Addr.add
  split
  · rename_i h; rw [h]
  · simp
theorem reads_at {G : Ent} {w : World} {L : List Chunk} {D : List Fact} {ety esz : Nat} {a : Option Addr} {n : Nat} {cs : List C} (h : Reads L D ety esz a n cs) (hs : SatW G w L D) :
    oneAll cs ∧ ((n = 0 ∧ cs = []) ∨ ∃ g off cur ty lo hi, a = some ⟨g, off, none⟩ ∧ w.heap[g]? = some (.cells cur ty (lo, hi)) ∧ cs.length = n * esz ∧ (cur.toList.drop off).take (n * esz) = cs.map C.enc) := by
  obtain ⟨m, h1, _⟩ := hs
  rcases h with ⟨c, hc⟩ | h | ⟨b, lo, N, c, cs0, hm, ha, hn, hcs⟩
  · have := allOk_mem h1.ok hc
    refine ⟨this.1, ?_⟩
    rcases this.2 with ⟨h3, h4, _, h5⟩ | ⟨g, hg, cur, lo, hi, h4, _, _, _, _, h5, h6⟩
    · exact .inl ⟨h4, h5⟩
    · exact .inr ⟨g, 0, cur, ety, lo, hi, hg, h4, h5, by simpa using h6⟩
  · have := h m h1.d
    exact ⟨this.1, this.2.imp id fun ⟨g, off, cur, ty, lo, hi, h3, h4, h5⟩ => ⟨g, off, cur, ty, lo, hi, h3, (h1.im _ _ h4).1, h5⟩⟩
  · have := allOk_mem h1.ok hm
    have hone : oneAll cs := fun x hx => this.1 x (List.mem_of_mem_drop (List.mem_of_mem_take (hcs ▸ hx)))
    refine ⟨hone, ?_⟩
    rcases this.2 with ⟨h3, h4, _, h5⟩ | ⟨g, hg, cur, lo', hi', h4, _, _, _, _, h5, h6⟩
    · exact .inl ⟨by omega, by rw [hcs, h5]; simp⟩
    · have hle : lo * esz + n * esz ≤ N * esz := by rw [← Nat.add_mul]; exact Nat.mul_le_mul_right _ hn
      refine .inr ⟨g, lo * esz, cur, ety, lo', hi', by rw [ha, hg, Option.map_some, add_zero0], h4, by rw [hcs]; simp; omega, ?_⟩
      rw [hcs, List.map_take, List.map_drop, ← h6, List.drop_take, List.take_take, Nat.min_eq_left (by omega)]
inductive LoadE (L : List Chunk) (D : List Fact) (a : Option Addr) (esz : Nat) (ix : Int) (off sz : Nat) (K : List C → Prop) : Prop where
  | mk (ety n : Nat) (cs r : List C) (h : Reads L D ety esz a n cs) (h0 : 0 ≤ ix) (h1 : ix < n) (h2 : off + sz ≤ esz) (hr : (cs.drop (ix.toNat * esz + off)).take sz = r) (k : K r)
inductive StoreE (L : List Chunk) (a : Option Addr) (esz : Nat) (ix : Int) (off : Nat) (ns : List C) (K : List Chunk → Prop) : Prop where
  | mk (A B : List Chunk) (ety n c : Nat) (cs cs' : List C) (h : L = A ++ .row ety esz a n c cs :: B) (h0 : 0 ≤ ix) (h1 : ix < n) (h2 : off + ns.length ≤ esz) (hr : setC (ix.toNat * esz + off) ns cs = cs') (k : K (A ++ .row ety esz a n c cs' :: B))
inductive IdxE (L : List Chunk) (D : List Fact) (a : Option Addr) (n : Nat) (ix : Int) (K : Prop) : Prop where
  | mk (ety esz : Nat) (cs : List C) (h : Reads L D ety esz a n cs) (h0 : 0 ≤ ix) (h1 : ix < n) (k : K)
def vcLoad (T : Ty) (t : Nat) (x : V) (L : List Chunk) (D : List Fact) (k : V → Prop) : Prop :=
  match find T t with
  | none => False
  | some i =>
    match x with
    | .c (.p id ad off) =>
      match findBox L id with
      | some (ad', _, cs) => EqP ad ad' (takeK i.size (cs.drop off) fun r => rdK i.d r k)
      | none => False
    | .c (.e a esz ix off) => LoadE L D a esz ix off i.size fun r => rdK i.d r k
    | .c (.raw (.pointer (some ⟨g, off, none⟩))) => LoadE L D (some ⟨g, off, none⟩) i.size 0 0 i.size fun r => rdK i.d r k
    | _ => False
theorem vcLoad_elem {P : Program} {G : Ent} {t : Nat} {i : TyI} (hok : i.ok P t) {a : Option Addr} {esz off : Nat} {ix : Int} {L : List Chunk} {D : List Fact} {k : V → Prop} (h : LoadE L D a esz ix off i.size fun r => rdK i.d r k) :
    ∃ v, k v ∧ ∀ w, SatW G w L D → (Instr.loadAt t (V.c (.e a esz ix off)).enc).run P w = .ok v.enc w := by
  obtain ⟨ety, n, cs, r, hrd, h0, h1, h2, hr, h⟩ := h
  obtain ⟨v, hk, hv, hd⟩ := rdK_sound h
  refine ⟨v, hk, fun w hs => ?_⟩
  rcases (reads_at hrd hs).2 with ⟨hn, _⟩ | ⟨g, off0, cur, ty, lo, hi, ha, hg, hl, hc⟩
  · omega
  · subst ha
    have hp : ix.toNat * esz + esz ≤ n * esz := by
      have : ix.toNat + 1 ≤ n := by omega
      calc ix.toNat * esz + esz = (ix.toNat + 1) * esz := by rw [Nat.add_mul]; simp
        _ ≤ n * esz := Nat.mul_le_mul_right _ this
    have hrl : r.length = i.size := by rw [← hr]; simp; omega
    simp only [Instr.loadAt, V.enc, C.enc, Option.map_some, elemAddr, Instr.sureAddr, Sem.run_bind, Sem.run_pure, Result.andThen_ok]
    rw [run_loadVar_blk hok hd hg _ r hrl ?_, hv]
    rw [hrl, ← hr, List.map_take, List.map_drop, ← hc, List.drop_take, List.take_take, List.drop_drop]
    congr 1
    omega
theorem vcLoad_uni {P : Program} {T : Ty} (hT : TyOK P T) {G : Ent} {t : Nat} {x : V} {L : List Chunk} {D : List Fact} {k : V → Prop} (h : vcLoad T t x L D k) :
    ∃ v, k v ∧ ∀ w, SatW G w L D → (Instr.loadAt t x.enc).run P w = .ok v.enc w := by
  unfold vcLoad at h
  split at h
  · exact h.elim
  · rename_i i hi
    have hok := hT t i hi
    split at h
    · rename_i id ad off
      split at h
      · rename_i ad' ty cs hb
        obtain ⟨h0, h⟩ := h
        subst h0
        obtain ⟨hlen, h⟩ := takeK_sound h
        obtain ⟨v, hk, hv, hd⟩ := rdK_sound h
        obtain ⟨A, B, id', hL, _⟩ := findBox_split hb
        refine ⟨v, hk, fun w hs => ?_⟩
        obtain ⟨m, h1, _⟩ := hs
        have hbx := allOk_mem h1.ok (ch := .box id' ad ty cs) (by rw [hL]; simp)
        simp only [Instr.loadAt, V.enc, C.enc, Instr.sureAddr, Sem.run_bind, Sem.run_pure, Result.andThen_ok]
        have hlen' : ((cs.drop off).take i.size).length = i.size := by simp at hlen ⊢; omega
        rw [run_loadVar_blk hok hd hbx.2 off ((cs.drop off).take i.size) hlen' (by rw [hlen']; simp [List.map_take, List.map_drop]), hv]
      · exact h.elim
    · exact vcLoad_elem hok h
    · rename_i g o
      have hx : V.enc (.c (.raw (.pointer (some ⟨g, o, none⟩)))) = V.enc (.c (.e (some ⟨g, o, none⟩) i.size 0 0)) := by simp [V.enc, C.enc, elemAddr]
      rw [hx]
      exact vcLoad_elem hok h
    · exact h.elim
theorem vcLoad_sound {P : Program} {T : Ty} (hT : TyOK P T) {G : Ent} {w : World} {t : Nat} {x : V} {L : List Chunk} {D : List Fact} {k : V → Prop} (h : vcLoad T t x L D k) (hs : SatW G w L D) :
    ∃ v, k v ∧ (Instr.loadAt t x.enc).run P w = .ok v.enc w := by
  obtain ⟨v, hk, hv⟩ := vcLoad_uni (G := G) hT h
  exact ⟨v, hk, hv w hs⟩
def vcStore (T : Ty) (t : Nat) (x v : V) (L : List Chunk) (k : List Chunk → Prop) : Prop :=
  match find T t with
  | none => False
  | some i =>
    cellsK v fun ns => oneK ns (natK ns.length i.size (
      match x with
      | .c (.p id ad off) =>
        match findBox L id with
        | some (ad', _, cs) => EqP ad ad' (setK off ns cs fun r => setBoxK L id r k)
        | none => False
      | .c (.e a esz ix off) => StoreE L a esz ix off ns k
      | _ => False))
theorem vcStore_sound {P : Program} {T : Ty} (hT : TyOK P T) {G : Ent} {w : World} {t : Nat} {x v : V} {L : List Chunk} {D : List Fact} {k : List Chunk → Prop} (h : vcStore T t x v L k) (hs : SatW G w L D) :
    ∃ L' w', k L' ∧ (Instr.storeAt t x.enc v.enc).run P w = .ok () w' ∧ SatW G w' L' D := by
  unfold vcStore at h
  split at h
  · exact h.elim
  · rename_i i hi
    have hok := hT t i hi
    obtain ⟨ns, hA1, hv⟩ := cellsK_sound h
    clear h
    obtain ⟨h1, hA2⟩ := oneK_sound hA1
    clear hA1
    obtain ⟨hl, h⟩ := natK_sound hA2
    clear hA2
    have hv' := hv h1
    split at h
    · rename_i id ad off
      split at h
      · rename_i ad' ty cs hb
        obtain ⟨h0, h⟩ := h
        subst h0
        obtain ⟨hlen, h⟩ := setK_sound h
        obtain ⟨A, B, id', hL, hset⟩ := findBox_split hb
        have hk := hset _ _ h
        have hs0 := hs
        obtain ⟨m, hh, _⟩ := hs
        have hbx := allOk_mem hh.ok (ch := .box id' ad ty cs) (by rw [hL]; simp)
        refine ⟨_, setBlk w ad (.cells (setL off (ns.map C.enc) (cs.map C.enc)).toArray ty (0, 0)), hk, ?_, ?_⟩
        · simp only [Instr.storeAt, V.enc, C.enc, Instr.sureAddr, Sem.run_bind, Sem.run_pure, Result.andThen_ok]
          exact run_storeVar_blk hok hbx.2 (.inr (Nat.le_refl _)) off ns v.enc hv' hl (by simpa using hlen) h1
        · rw [hL] at hs0
          refine satW_replace hs0 rfl rfl ⟨oneAll_setC h1 hbx.1, ?_⟩ (fun off => by rw [hbx.2]; rfl)
          rw [setBlk_same hbx.2, setL_enc]
      · exact h.elim
    · rename_i a esz ix off
      obtain ⟨A, B, ety, n, c, cs, cs', hL, h0, h2, h3, hr, hk⟩ := h
      subst hL
      have hs0 := hs
      obtain ⟨m, hh, _⟩ := hs
      have hrow := allOk_mem hh.ok (ch := .row ety esz a n c cs) (by simp)
      rcases hrow.2 with ⟨_, hn, _⟩ | ⟨g, ha, cur, lo, hi, hg, hnc, hcm, hsz, hfz, hcl, htk⟩
      · omega
      · subst ha
        have hp : ix.toNat * esz + esz ≤ n * esz := by
          have : ix.toNat + 1 ≤ n := by omega
          calc ix.toNat * esz + esz = (ix.toNat + 1) * esz := by rw [Nat.add_mul]; simp
            _ ≤ n * esz := Nat.mul_le_mul_right _ this
        have hncm : n * esz ≤ c * esz := Nat.mul_le_mul_right _ hnc
        refine ⟨_, setBlk w g (.cells (setL (0 + (ix.toNat * esz + off)) (ns.map C.enc) cur.toList).toArray ety (lo, hi)), hk, ?_, ?_⟩
        · simp only [Instr.storeAt, V.enc, C.enc, Option.map_some, elemAddr, Instr.sureAddr, Sem.run_bind, Sem.run_pure, Result.andThen_ok]
          exact run_storeVar_blk hok hg (hfz.imp_left And.left) _ ns v.enc hv' hl (by omega) h1
        · refine satW_replace hs0 (g := g) (by simp [Chunk.fp]) rfl ⟨by rw [← hr]; exact oneAll_setC h1 hrow.1, .inr ⟨g, rfl, ?_⟩⟩ (fun off => by rw [hg]; rfl)
          refine ⟨_, lo, hi, setBlk_same hg, hnc, hcm, ?_, ?_, ?_, ?_⟩
          · simp only [List.size_toArray, setL, List.length_append, List.length_take, List.length_map, List.length_drop, Array.length_toList]; omega
          · simp only [List.size_toArray, setL, List.length_append, List.length_take, List.length_map, List.length_drop, Array.length_toList]; omega
          · rw [← hr, setC_length (by omega)]; exact hcl
          · rw [← hr, ← setL_enc, ← htk]
            simp only [setL, List.length_map, Nat.zero_add]
            have hcur : cur.toList.length = c * esz := by simpa using hsz
            generalize cur.toList = l at *
            rw [List.append_assoc, List.take_append, List.take_append, List.append_assoc]
            have e1 : List.take (n * esz) (List.take (ix.toNat * esz + off) l) = List.take (ix.toNat * esz + off) (List.take (n * esz) l) := by
              rw [List.take_take, List.take_take, Nat.min_comm]
            have e2 : List.take (n * esz - (List.take (ix.toNat * esz + off) l).length) (ns.map C.enc) = ns.map C.enc := by
              apply List.take_of_length_le; simp; omega
            rw [e1, e2, List.drop_take]
            congr 3
            simp; omega
    · exact h.elim
end Go.X
namespace Go.X
open Go
variable [Sm : Inhabited Manner] [Df : Inhabited (List Deferred)]
def partsK (env : Env) : List (Nat × Operand) → (List (Nat × V) → Prop) → Prop
  | [], k => k []
  | (i, x) :: r, k => withE env x fun v => partsK env r fun l => k ((i, v) :: l)
theorem partsK_sound {N : Nat} {env : Env} {a : Act} (he : EnvOK N env a) : ∀ {ps : List (Nat × Operand)} {k : List (Nat × V) → Prop}, partsK env ps k → ∃ l, k l ∧ ps.map (fun (i, x) => (i, a.eval x)) = l.map fun (i, v) => (i, v.enc)
  | [], k, h => ⟨[], h, rfl⟩
  | (i, x) :: r, k, h => by
    obtain ⟨v, hv, h⟩ := withE_elim h
    obtain ⟨l, hl, he'⟩ := partsK_sound he h
    exact ⟨(i, v) :: l, hl, by simp only [List.map_cons, he.ev hv, he']⟩
def fillK (pl : Nat → Option (Nat × Nat)) : List (Nat × V) → List C → (List C → Prop) → Prop
  | [], cs, k => k cs
  | (i, v) :: r, cs, k =>
    match pl i with
    | some (off, size) => cellsK v fun ns => oneK ns (natK ns.length size (setK off ns cs fun cs' => fillK pl r cs' k))
    | none => False
theorem foldl_set (off : Nat) : ∀ (ns : List Value) (j : Nat) (cur : Array Value), off + j + ns.length ≤ cur.size →
    (ns.zipIdx j).foldl (fun cs (p : Value × Nat) => cs.setIfInBounds (off + p.2) p.1) cur = (setL (off + j) ns cur.toList).toArray
  | [], j, cur, _ => by simp [setL]
  | x :: ns, j, cur, h => by
    simp only [List.length_cons] at h
    simp only [List.zipIdx_cons, List.foldl_cons]
    rw [foldl_set off ns (j + 1) _ (by simp; omega)]
    simp only [setL, Array.toList_setIfInBounds]
    congr 1
    have ho' : off + j < cur.toList.length := by simp; omega
    rw [show off + (j + 1) = (off + j) + 1 from rfl, List.take_succ_eq_append_getElem (by simp; omega)]
    simp only [List.getElem_set_self, List.take_set_of_le (Nat.le_refl _), List.append_assoc, List.singleton_append, List.length_cons]
    rw [List.drop_set_of_lt (by omega)]
    congr 3
    omega
theorem fillK_sound {pl : Nat → Option (Nat × Nat)} : ∀ {l : List (Nat × V)} {cs : List C} {k : List C → Prop}, fillK pl l cs k → oneAll cs → ∃ cs', k cs' ∧ oneAll cs' ∧ cs'.length = cs.length ∧
    Instr.fill pl (cs.map C.enc).toArray (l.map fun (i, v) => (i, v.enc)) = some (cs'.map C.enc).toArray
  | [], cs, k, h, h1 => ⟨cs, h, h1, rfl, rfl⟩
  | (i, v) :: r, cs, k, h, h1 => by
    simp only [fillK] at h
    split at h
    · rename_i off size hp
      obtain ⟨ns, hA, hv⟩ := cellsK_sound h
      obtain ⟨h2, hB⟩ := oneK_sound hA
      obtain ⟨hl, hC⟩ := natK_sound hB
      obtain ⟨hlen, hD⟩ := setK_sound hC
      obtain ⟨cs', hk, h3, h4, h5⟩ := fillK_sound hD (oneAll_setC h2 h1)
      refine ⟨cs', hk, h3, by rw [h4, setC_length hlen], ?_⟩
      simp only [List.map_cons, Instr.fill, hp, hv h2]
      simp only [List.size_toArray, List.length_map, hl, ne_eq, not_true_eq_false, false_or, gt_iff_lt, show ¬ cs.length < off + size by omega, decide_false, Bool.false_or, Bool.or_false, decide_not, decide_true, Bool.not_true, Bool.false_eq_true, if_false]
      have := foldl_set off (ns.map C.enc) 0 (cs.map C.enc).toArray (by simpa using hlen)
      simp only [Nat.add_zero] at this
      rw [setL_enc] at this
      have e : (((ns.map C.enc).toArray.zipIdx).foldl (fun cs (p : Value × Nat) => cs.setIfInBounds (off + p.2) p.1) (cs.map C.enc).toArray) = ((setC off ns cs).map C.enc).toArray := by
        rw [← this]
        simp
      rw [← h5]
      congr 1
    · exact h.elim
def placesT (T : Ty) : List (Nat × Nat) → Option (List (Nat × Nat))
  | [] => some []
  | (off, ft) :: r =>
    match find T ft, placesT T r with
    | some i, some l => some ((off, i.size) :: l)
    | _, _ => none
theorem placesT_sound {P : Program} {T : Ty} (hT : TyOK P T) : ∀ {F : List Field} {l : List (Nat × Nat)}, placesT T (F.map fun f => (f.offset, f.type)) = some l → F.mapM (fun f => (P.info? f.type).map fun i => (f.offset, i.size)) = some l
  | [], l, h => by simp [placesT] at h; subst h; rfl
  | f :: F, l, h => by
    simp only [List.map_cons, placesT] at h
    split at h
    · rename_i i l' hi hl'
      simp only [Option.some.injEq] at h
      subst h
      obtain ⟨x, hx, h1, _⟩ := tyI_info (hT _ _ hi)
      have := placesT_sound hT hl'
      simp [List.mapM_cons, hx, this, h1]
    · cases h
def vcBuild (T : Ty) (t : Nat) (l : List (Nat × V)) (k : V → Prop) : Prop :=
  match find T t with
  | none => False
  | some i =>
    match i.d, i.zero with
    | .st fs, .agg z =>
      match placesT T fs with
      | some pl => oneK z (fillK (fun j => pl[j]?) l z fun cs => k (.agg cs))
      | none => False
    | .so fs, .agg z =>
      match placesT T fs with
      | some pl => oneK z (fillK (fun j => pl[j]?) l z fun cs => k (.agg cs))
      | none => False
    | .arr _ e, .agg z =>
      match find T e with
      | some ei => oneK z (fillK (fun j => some (j * ei.size, ei.size)) l z fun cs => k (.agg cs))
      | none => False
    | _, _ => False
theorem vcBuild_sound {P : Program} {T : Ty} (hT : TyOK P T) {t : Nat} {l : List (Nat × V)} {k : V → Prop} (h : vcBuild T t l k) : ∃ v, k v ∧ ∀ w, (Instr.build t (l.map fun (i, v) => (i, v.enc)).toArray).run P w = .ok v.enc w := by
  unfold vcBuild at h
  split at h
  · exact h.elim
  · rename_i i hi
    have hok := hT t i hi
    obtain ⟨x, hx, _, _, hz⟩ := tyI_info hok
    split at h
    · rename_i fs z hd hzz
      have hd' := hok.2.2.2
      rw [hd] at hd'
      split at h
      · rename_i pl hpl
        obtain ⟨h1, h⟩ := oneK_sound h
        obtain ⟨cs, hk, _, _, hf⟩ := fillK_sound h h1
        refine ⟨_, hk, fun w => run_build w t _ _ ?_⟩
        rw [← hd'.2.1] at hpl
        have hp := placesT_sound hT hpl
        simp only [Program.built, hx, hd'.1, hz, hp, hzz]
        simpa [V.enc, Value.cells] using hf
      · exact h.elim
    · rename_i fs z hd hzz
      have hd' := hok.2.2.2
      rw [hd] at hd'
      split at h
      · rename_i pl hpl
        obtain ⟨h1, h⟩ := oneK_sound h
        obtain ⟨cs, hk, _, _, hf⟩ := fillK_sound h h1
        refine ⟨_, hk, fun w => run_build w t _ _ ?_⟩
        rw [← hd'.2] at hpl
        have hp := placesT_sound hT hpl
        simp only [Program.built, hx, hd'.1, hz, hp, hzz]
        simpa [V.enc, Value.cells] using hf
      · exact h.elim
    · rename_i n e z hd hzz
      have hd' := hok.2.2.2
      rw [hd] at hd'
      split at h
      · rename_i ei hei
        obtain ⟨y, hy, hy1, _⟩ := tyI_info (hT _ _ hei)
        obtain ⟨h1, h⟩ := oneK_sound h
        obtain ⟨cs, hk, _, _, hf⟩ := fillK_sound h h1
        refine ⟨_, hk, fun w => run_build w t _ _ ?_⟩
        simp only [TyD.ok] at hd'
        simp only [Program.built, hx, hd', hz, hy, hzz, hy1]
        simpa [V.enc, Value.cells] using hf
      · exact h.elim
    · exact h.elim
def vcField (T : Ty) (t : Nat) (x : V) (f : Nat) (k : V → Prop) : Prop :=
  match find T t with
  | none => False
  | some i =>
    match i.d, x with
    | .st fs, .agg cs =>
      match fs[f]? with
      | some (off, ft) =>
        match find T ft with
        | some fi => takeK fi.size (cs.drop off) fun r => rdK fi.d r k
        | none => False
      | none => False
    | _, _ => False
theorem fieldsOf_get {P : Program} {t : Nat} {fs : List (Nat × Nat)} {f off ft : Nat} (h : (P.fieldsOf t).toList.map (fun f => (f.offset, f.type)) = fs) (hf : fs[f]? = some (off, ft)) :
    ∃ x, (P.fieldsOf t)[f]? = some x ∧ x.offset = off ∧ x.type = ft := by
  rw [← h, List.getElem?_map] at hf
  cases hx : (P.fieldsOf t).toList[f]? with
  | none => rw [hx] at hf; simp at hf
  | some x =>
    rw [hx] at hf
    simp at hf
    exact ⟨x, by simpa using hx, hf.1, hf.2⟩
theorem rd_part {P : Program} {w : World} {ft : TypeId} {fi : TyI} (hok : fi.ok P ft) {cs : List C} {off : Nat} {k : V → Prop} (h : takeK fi.size (cs.drop off) fun r => rdK fi.d r k) :
    ∃ v, k v ∧ (part ft (cs.map C.enc).toArray off).run P w = .ok v.enc w := by
  obtain ⟨hlen, h⟩ := takeK_sound h
  obtain ⟨v, hk, hv, hd⟩ := rdK_sound h
  refine ⟨v, hk, ?_⟩
  rw [run_part hok hd cs off ?_ w, hv]
  cases ha : isAggD fi.d with
  | true => exact .inl rfl
  | false =>
    have := hok.2.2.1.resolve_left (by simp [ha])
    right
    simp at hlen
    omega
theorem vcField_sound {P : Program} {T : Ty} (hT : TyOK P T) {t : Nat} {x : V} {f : Nat} {k : V → Prop} (h : vcField T t x f k) : ∃ v, k v ∧ ∀ w, (Instr.field t x.enc f).run P w = .ok v.enc w := by
  unfold vcField at h
  split at h
  · exact h.elim
  · rename_i i hi
    split at h
    · rename_i fs cs hd
      have hd' := (hT t i hi).2.2.2
      rw [hd] at hd'
      split at h
      · rename_i off ft hf
        split at h
        · rename_i fi hfi
          obtain ⟨y, hy, h1, h2⟩ := fieldsOf_get hd'.2.1 hf
          have key := fun w => rd_part (P := P) (w := w) (hT _ _ hfi) h
          obtain ⟨v, hk, _⟩ := key default
          have hrun : ∀ w, (Instr.field t (V.agg cs).enc f).run P w = (part ft (cs.map C.enc).toArray off).run P w := fun w => by
            simp only [Instr.field, Sem.run_bind, run_underlying hd'.1, Result.andThen_ok, hy, V.enc, asAgg, Sem.run_pure, h1, h2]
          -- the cells read are the same in every world
          obtain ⟨hlen, h⟩ := takeK_sound h
          obtain ⟨v, hk, hv, hdd⟩ := rdK_sound h
          refine ⟨v, hk, fun w => ?_⟩
          rw [hrun w]
          have hok := hT _ _ hfi
          rw [run_part hok hdd cs off ?_ w, hv]
          cases ha : isAggD fi.d with
          | true => exact .inl rfl
          | false =>
            have := hok.2.2.1.resolve_left (by simp [ha])
            right
            simp at hlen
            omega
        · exact h.elim
      · exact h.elim
    · exact h.elim
def nzK (a : Nat) (A : Prop) : Prop := match a with | 0 => False | _ + 1 => A
theorem nzK_sound {a : Nat} {A : Prop} (h : nzK a A) : a ≠ 0 ∧ A := by cases a with | zero => exact h.elim | succ n => exact ⟨by simp, h⟩
inductive FldE (L : List Chunk) (D : List Fact) (a : Option Addr) (K : Prop) : Prop where
  | mk (ety esz n : Nat) (cs : List C) (h : Reads L D ety esz a n cs) (hn : 0 < n) (k : K)
theorem fldE_some {G : Ent} {L : List Chunk} {D : List Fact} {a : Option Addr} {K : Prop} (h : FldE L D a K) : K ∧ ∀ w, SatW G w L D → ∃ b, a = some b := by
  obtain ⟨ety, esz, n, cs, hr, hn, hk⟩ := h
  refine ⟨hk, fun w hs => ?_⟩
  rcases (reads_at hr hs).2 with ⟨h0, _⟩ | ⟨g, off, cur, ty, lo, hi, ha, _⟩
  · omega
  · exact ⟨_, ha⟩
def fldsD : TyD → Option (List (Nat × Nat))
  | .st fs => some fs
  | .so fs => some fs
  | _ => none
def vcFieldAddr (T : Ty) (t : Nat) (x : V) (f : Nat) (L : List Chunk) (D : List Fact) (k : V → Prop) : Prop :=
  match find T t with
  | none => False
  | some i =>
    match fldsD i.d with
    | some fs =>
      match fs[f]? with
      | some (off, ft) =>
        match find T ft with
        | some fi => nzK fi.size (
          match x with
          | .c (.p id ad o) => k (.c (.p id ad (o + off)))
          | .c (.e a esz ix o) => FldE L D a (k (.c (.e a esz ix (o + off))))
          | _ => False)
        | none => False
      | none => False
    | none => False
theorem run_fieldAt {P : Program} {w : World} {t f : Nat} {fs : List (Nat × Nat)} {off ft : Nat} {fi : TyI} (hd : TyD.ok P t (.so fs)) (hf : fs[f]? = some (off, ft)) (hok : fi.ok P ft) (hz : fi.size ≠ 0) (a : Addr) (hs : a.spot = none) :
    (Instr.fieldAt t (.pointer (some a)) f).run P w = .ok (.pointer (some ⟨a.block, a.off + off, none⟩)) w := by
  obtain ⟨y, hy, h1, h2⟩ := fieldsOf_get hd.2 hf
  have hok' : fi.ok P y.type := by rw [h2]; exact hok
  obtain ⟨b, o, s⟩ := a
  simp only at hs
  subst hs
  simp only [Instr.fieldAt, Sem.run_bind, run_underlying hd.1, Result.andThen_ok, hy, Instr.sureAddr, Sem.run_pure, fieldPlace, run_sizeOf hok', Sem.run_ite, hz, if_false, addr_add, h1]
theorem vcFieldAddr_uni {P : Program} {T : Ty} (hT : TyOK P T) {G : Ent} {t : Nat} {x : V} {f : Nat} {L : List Chunk} {D : List Fact} {k : V → Prop} (h : vcFieldAddr T t x f L D k) :
    ∃ v, k v ∧ ∀ w, SatW G w L D → (Instr.fieldAt t x.enc f).run P w = .ok v.enc w := by
  unfold vcFieldAddr at h
  split at h
  · exact h.elim
  · rename_i i hi
    split at h
    · rename_i fs hd
      have hd' : TyD.ok P t (.so fs) := by
        have h0 := (hT t i hi).2.2.2
        cases hdd : i.d <;> rw [hdd] at hd h0 <;> simp only [fldsD, Option.some.injEq] at hd <;> first | (cases hd; done) | (subst hd; first | exact h0 | exact ⟨h0.1, h0.2.1⟩)
      split at h
      · rename_i off ft hf
        split at h
        · rename_i fi hfi
          obtain ⟨hz, hA⟩ := nzK_sound h
          clear h
          split at hA
          · exact ⟨_, hA, fun w _ => run_fieldAt hd' hf (hT _ _ hfi) hz _ rfl⟩
          · rename_i a esz ix o
            obtain ⟨hk, ha⟩ := fldE_some (G := G) hA
            refine ⟨_, hk, fun w hs => ?_⟩
            obtain ⟨b, rfl⟩ := ha w hs
            have := run_fieldAt (w := w) hd' hf (hT _ _ hfi) hz (elemAddr esz ix o b) rfl
            simp only [V.enc, C.enc, Option.map_some, elemAddr] at this ⊢
            rw [this]
            simp only [Nat.add_assoc]
          · exact hA.elim
        · exact h.elim
      · exact h.elim
    · exact h.elim
inductive IdxA (cs : List C) (len esz : Nat) (ix : Int) (K : List C → Prop) : Prop where
  | mk (r : List C) (h0 : 0 ≤ ix) (h1 : ix < len) (hr : (cs.drop (ix.toNat * esz)).take esz = r) (hl : r.length = esz) (k : K r)
def vcIndex (T : Ty) (t : Nat) (x ix : V) (k : V → Prop) : Prop :=
  match find T t with
  | none => False
  | some i =>
    match i.d, x, ix with
    | .str, .c (.s l), .c (.i _ n) => SideP (0 ≤ n ∧ n < l.length) (k (.c (.i .u8 ((l.getD n.toNat 0).toNat : Int))))
    | .arr len e, .agg cs, .c (.i _ j) =>
      match find T e with
      | some ei => IdxA cs len ei.size j fun r => rdK ei.d r k
      | none => False
    | _, _, _ => False
theorem vcIndex_sound {P : Program} {T : Ty} (hT : TyOK P T) {t : Nat} {x ix : V} {k : V → Prop} (h : vcIndex T t x ix k) : ∃ v, k v ∧ ∀ w, (Instr.index t x.enc ix.enc).run P w = .ok v.enc w := by
  unfold vcIndex at h
  split at h
  · exact h.elim
  · rename_i i hi
    have hd' := (hT t i hi).2.2.2
    split at h
    · rename_i l kd n hd
      rw [hd] at hd'
      refine ⟨_, h.k, fun w => ?_⟩
      obtain ⟨h0, h1⟩ := h.h
      have hlt : n.toNat < l.length := by omega
      simp only [V.enc, C.enc]
      rw [run_index_string w t _ kd n hd']
      have hb : 0 ≤ n ∧ n < ((⟨⟨l⟩⟩ : ByteArray).size : Int) := ⟨h0, by rw [mk_size]; exact h1⟩
      rw [dif_pos hb]
      have e1 : (⟨⟨l⟩⟩ : ByteArray)[n.toNat]'(by rw [mk_size]; exact hlt) = l[n.toNat] := rfl
      have e2 : l.getD n.toNat 0 = l[n.toNat] := by simp [List.getD_eq_getElem?_getD, List.getElem?_eq_getElem hlt]
      rw [e1, e2]
    · rename_i len e cs kd j hd
      rw [hd] at hd'
      split at h
      · rename_i ei hei
        obtain ⟨r, h0, h1, hr, hl, h⟩ := h
        obtain ⟨v, hk, hv, hdd⟩ := rdK_sound h
        refine ⟨v, hk, fun w => ?_⟩
        have hok := hT _ _ hei
        simp only [TyD.ok] at hd'
        have hcond : 0 ≤ j ∧ j < (len : Int) := ⟨h0, h1⟩
        simp only [Instr.index, V.enc, C.enc, asIntOf, Sem.run_bind, Sem.run_pure, Result.andThen_ok, run_underlying hd', Sem.run_ite, run_sizeOf hok]
        rw [if_pos hcond, run_part hok hdd cs (j.toNat * ei.size) ?_ w, hr, hv]
        cases ha : isAggD ei.d with
        | true => exact .inl rfl
        | false =>
          have := hok.2.2.1.resolve_left (by simp [ha])
          right
          rw [← hr] at hl
          simp at hl
          omega
      · exact h.elim
    · exact h.elim
def vcIndexAddr (T : Ty) (t : Nat) (x ix : V) (L : List Chunk) (D : List Fact) (k : V → Prop) : Prop :=
  match find T t with
  | none => False
  | some i =>
    match i.d, x, ix with
    | .sl e, .c (.sl a n _), .c (.i _ j) =>
      match find T e with
      | some ei => IdxE L D a n j (k (.c (.e a ei.size j 0)))
      | none => False
    | .arr len e, .c (.p id ad o), .c (.i _ (.ofNat j)) =>
      match find T e, Nat.ble (j + 1) len with
      | some ei, true => k (.c (.p id ad (o + j * ei.size)))
      | _, _ => False
    | .arr len e, .c (.e a esz (.ofNat i) o), .c (.i _ j) =>
      match find T e with
      | some ei => FldE L D a (SideP (0 ≤ j ∧ j < len) (k (.c (.e a ei.size j (i * esz + o)))))
      | none => False
    | _, _, _ => False
theorem vcIndexAddr_uni {P : Program} {T : Ty} (hT : TyOK P T) {G : Ent} {t : Nat} {x ix : V} {L : List Chunk} {D : List Fact} {k : V → Prop} (h : vcIndexAddr T t x ix L D k) :
    ∃ v, k v ∧ ∀ w, SatW G w L D → (Instr.indexAt t x.enc ix.enc).run P w = .ok v.enc w := by
  unfold vcIndexAddr at h
  split at h
  · exact h.elim
  · rename_i i hi
    have hd' := (hT t i hi).2.2.2
    split at h
    · rename_i e a n c kd j hd
      rw [hd] at hd'
      simp only [TyD.ok] at hd'
      split at h
      · rename_i ei hei
        obtain ⟨ety, esz, cs, hr, h0, h1, hk⟩ := h
        refine ⟨_, hk, fun w hs => ?_⟩
        rcases (reads_at hr hs).2 with ⟨hn, _⟩ | ⟨g, off0, cur, ty, lo, hi, ha, _⟩
        · omega
        · subst ha
          have hcond : 0 ≤ j ∧ j < (n : Int) := ⟨h0, h1⟩
          simp only [Instr.indexAt, V.enc, C.enc, asIntOf, Sem.run_bind, Sem.run_pure, Result.andThen_ok, run_underlying hd', Sem.run_ite, run_sizeOf (hT _ _ hei), if_pos hcond, addr_add, Option.map_some, elemAddr, Nat.add_zero]
      · exact h.elim
    · rename_i len e id ad o kd j hd
      rw [hd] at hd'
      simp only [TyD.ok] at hd'
      split at h
      · rename_i ei hei hle
        have hj : j < len := Nat.le_of_ble_eq_true hle
        refine ⟨_, h, fun w hs => ?_⟩
        have hcond : 0 ≤ Int.ofNat j ∧ Int.ofNat j < (len : Int) := ⟨Int.natCast_nonneg _, by simpa using hj⟩
        have e1 : (Int.ofNat j).toNat = j := rfl
        simp only [Instr.indexAt, V.enc, C.enc, asIntOf, Sem.run_bind, Sem.run_pure, Result.andThen_ok, run_underlying hd', Instr.sureAddr, Sem.run_ite, run_sizeOf (hT _ _ hei), if_pos hcond, addr_add, e1]
      · exact h.elim
    · rename_i len e a esz i o kd j hd
      rw [hd] at hd'
      simp only [TyD.ok] at hd'
      split at h
      · rename_i ei hei
        obtain ⟨hk, ha⟩ := fldE_some (G := G) h
        refine ⟨_, hk.k, fun w hs => ?_⟩
        obtain ⟨b, rfl⟩ := ha w hs
        have hcond := hk.h
        have e1 : (Int.ofNat i).toNat = i := rfl
        simp only [Instr.indexAt, V.enc, C.enc, asIntOf, Sem.run_bind, Sem.run_pure, Result.andThen_ok, run_underlying hd', Instr.sureAddr, Sem.run_ite, run_sizeOf (hT _ _ hei), if_pos hcond, addr_add, Option.map_some, elemAddr, e1]
        congr 4
        omega
      · exact h.elim
    · exact h.elim
theorem vcIndexAddr_sound {P : Program} {T : Ty} (hT : TyOK P T) {G : Ent} {w : World} {t : Nat} {x ix : V} {L : List Chunk} {D : List Fact} {k : V → Prop} (h : vcIndexAddr T t x ix L D k) (hs : SatW G w L D) :
    ∃ v, k v ∧ (Instr.indexAt t x.enc ix.enc).run P w = .ok v.enc w := by
  obtain ⟨v, hk, hv⟩ := vcIndexAddr_uni (G := G) hT h
  exact ⟨v, hk, hv w hs⟩
end Go.X
