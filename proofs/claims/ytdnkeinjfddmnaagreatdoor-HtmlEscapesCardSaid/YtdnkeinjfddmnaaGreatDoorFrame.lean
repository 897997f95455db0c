/- This text proves, for any program of the model, that a small symbolic executor for straight pieces of code is sound: what it asks for is enough for the code's weakest precondition. No condition. -/
import Derived.WalkKit
import Derived.Deep.Quiet
import Derived.KernelRfl
set_option linter.all false

namespace Go.X
open Go

/-- How much is known of the world behind a call: in the strict way also what was drawn. -/
inductive Manner where
  | loose
  | strict
  deriving Inhabited, DecidableEq

variable [Sm : Inhabited Manner]

/-- One symbolic cell: a value of one cell. -/
inductive C where
  | b (x : Bool)
  | i (k : IntKind) (n : Int)
  | s (l : List UInt8)
  | p (id ad off : Nat)
  | sl (a : Option Addr) (n c : Nat)
  | e (a : Option Addr) (esz : Nat) (ix : Int) (off : Nat)
  | fn (f : Nat) (caps : List (Nat × Nat × Nat))
  | m (id ad : Nat)
  | raw (x : Value)

/-- A symbolic value: a cell, an aggregate of cells, or a tuple of two to four. -/
inductive V where
  | c (x : C)
  | agg (cs : List C)
  | t0
  | t1 (x : V)
  | t2 (x y : V)
  | t3 (x y z : V)
  | t4 (x y z u : V)

def elemAddr (esz : Nat) (ix : Int) (off : Nat) (a : Addr) : Addr := ⟨a.block, a.off + (ix.toNat * esz + off), none⟩

def C.enc : C → Value
  | .b x => .bool x
  | .i k n => .int k n
  | .s l => .string ⟨⟨l⟩⟩
  | .p _ ad off => .pointer (some ⟨ad, off, none⟩)
  | .sl a n c => .slice a n c
  | .e a esz ix off => .pointer (a.map (elemAddr esz ix off))
  | .fn f caps => .func (.func f) #[] (caps.map fun x => Value.pointer (some ⟨x.2.1, x.2.2, none⟩)).toArray
  | .m _ ad => .map (some ad)
  | .raw x => x

/-- A cell that stands for one cell of memory. -/
def C.one : C → Bool
  | .raw x => x.oneCell'
  | _ => true

def V.enc : V → Value
  | .c x => x.enc
  | .agg cs => .agg (cs.map C.enc).toArray
  | .t0 => .tuple #[]
  | .t1 x => .tuple #[x.enc]
  | .t2 x y => .tuple #[x.enc, y.enc]
  | .t3 x y z => .tuple #[x.enc, y.enc, z.enc]
  | .t4 x y z u => .tuple #[x.enc, y.enc, z.enc, u.enc]

def V.cells : V → List C
  | .c x => [x]
  | .agg cs => cs
  | _ => []

theorem C.enc_oneCell (x : C) (h : x.one = true) : x.enc.oneCell' = true := by
  cases x <;> first | rfl | exact h

abbrev Im := Nat → Option Obj
abbrev Env := List (Nat × V)

def look : Env → Nat → Option V
  | [], _ => none
  | (d, v) :: r, n => match Nat.beq d n with
    | true => some v
    | false => look r n

theorem look_cons_same (d : Nat) (v : V) (r : Env) : look ((d, v) :: r) d = some v := by
  have : Nat.beq d d = true := Nat.beq_refl d
  simp [look, this]
theorem look_cons_ne {d n : Nat} (v : V) (r : Env) (h : d ≠ n) : look ((d, v) :: r) n = look r n := by
  have : Nat.beq d n = false := by
    cases hb : Nat.beq d n
    · rfl
    · exact absurd (Nat.eq_of_beq_eq_true hb) h
  simp [look, this]

/-- A piece of memory that the call owns. -/
inductive Chunk where
  | box (id ad : Nat) (ty : TypeId) (cs : List C)
  | row (ety : TypeId) (esz : Nat) (a : Option Addr) (n c : Nat) (cs : List C)
  | obj (id ad : Nat) (o : Obj)

def Chunk.fp : Chunk → List Nat
  | .box _ ad _ _ => [ad]
  | .row _ _ a _ _ _ => (a.map Addr.block).toList
  | .obj _ ad _ => [ad]

def oneAll (cs : List C) : Prop := ∀ x ∈ cs, x.one = true

/-- A row of cells in a world. -/
def RowIn (o : Option Obj) (ety : TypeId) (esz n c : Nat) (cs : List C) : Prop :=
  ∃ cur lo hi, o = some (.cells cur ety (lo, hi)) ∧ n ≤ c ∧ c ≤ maxLen ∧ cur.size = c * esz ∧ ((cur.size ≤ lo ∧ esz = 1) ∨ hi ≤ lo) ∧ cs.length = n * esz ∧ cur.toList.take (n * esz) = cs.map C.enc

def Chunk.ok (w : World) : Chunk → Prop
  | .box _ ad ty cs => oneAll cs ∧ w.heap[ad]? = some (.cells (cs.map C.enc).toArray ty (0, 0))
  | .row ety esz a n c cs => oneAll cs ∧ ((a = none ∧ n = 0 ∧ c = 0 ∧ cs = []) ∨ ∃ g, a = some ⟨g, 0, none⟩ ∧ RowIn w.heap[g]? ety esz n c cs)
  | .obj _ ad o => w.heap[ad]? = some o

theorem Chunk.ok_of_same {w w' : World} {ch : Chunk} (h : ch.ok w) (hs : ∀ b ∈ ch.fp, w'.heap[b]? = w.heap[b]?) : ch.ok w' := by
  cases ch with
  | box id ad ty cs => exact ⟨h.1, by rw [hs ad (by simp [Chunk.fp])]; exact h.2⟩
  | row ety esz a n c cs =>
    refine ⟨h.1, ?_⟩
    rcases h.2 with h' | ⟨g, hg, hr⟩
    · exact .inl h'
    · exact .inr ⟨g, hg, by rw [hs g (by simp [Chunk.fp, hg])]; exact hr⟩
  | obj id ad o => exact (hs ad (by simp [Chunk.fp])).trans h

theorem Chunk.lt_of_ok {w : World} {ch : Chunk} (h : ch.ok w) : ∀ b ∈ ch.fp, b < w.heap.size := by
  have key : ∀ (b : Nat) (o : Obj), w.heap[b]? = some o → b < w.heap.size := fun b o hb => (Array.getElem?_eq_some_iff.1 hb).1
  cases ch with
  | box id ad ty cs => intro b hb; simp [Chunk.fp] at hb; subst hb; exact key _ _ h.2
  | row ety esz a n c cs =>
    intro b hb
    rcases h.2 with ⟨ha, _⟩ | ⟨g, hg, cur, lo, hi, ho, _⟩
    · simp [Chunk.fp, ha] at hb
    · simp [Chunk.fp, hg] at hb; subst hb; exact key _ _ ho
  | obj id ad o => intro b hb; simp [Chunk.fp] at hb; subst hb; exact key _ _ h

/-- What is known of memory that does not change any more. -/
structure Fact where
  p : Im → Prop
  mono : ∀ m m' : Im, (∀ b o, m b = some o → m' b = some o) → p m → p m'

def fps : List Chunk → List Nat
  | [] => []
  | c :: r => c.fp ++ fps r

def allOk (w : World) : List Chunk → Prop
  | [] => True
  | c :: r => c.ok w ∧ allOk w r

def allD (m : Im) : List Fact → Prop
  | [] => True
  | f :: r => f.p m ∧ allD m r

structure Holds (w : World) (m : Im) (L : List Chunk) (D : List Fact) : Prop where
  nd : (fps L).Nodup
  ok : allOk w L
  im : ∀ b o, m b = some o → w.heap[b]? = some o ∧ b ∉ fps L
  d : allD m D

theorem mem_fps_lt {w : World} : ∀ {L : List Chunk}, allOk w L → ∀ b ∈ fps L, b < w.heap.size
  | [], _, b, hb => by simp [fps] at hb
  | c :: r, h, b, hb => by
    simp only [fps, List.mem_append] at hb
    rcases hb with hb | hb
    · exact Chunk.lt_of_ok h.1 b hb
    · exact mem_fps_lt h.2 b hb

theorem allOk_of_same {w w' : World} : ∀ {L : List Chunk}, allOk w L → (∀ b ∈ fps L, w'.heap[b]? = w.heap[b]?) → allOk w' L
  | [], _, _ => trivial
  | c :: r, h, hs => ⟨Chunk.ok_of_same h.1 fun b hb => hs b (by simp [fps, hb]), allOk_of_same h.2 fun b hb => hs b (by simp [fps, hb])⟩

theorem fps_append (A B : List Chunk) : fps (A ++ B) = fps A ++ fps B := by
  induction A with
  | nil => simp [fps]
  | cons c r ih => simp [fps, ih]

theorem allOk_append {w : World} (A B : List Chunk) : allOk w (A ++ B) ↔ allOk w A ∧ allOk w B := by
  induction A with
  | nil => simp [allOk]
  | cons c r ih => simp [allOk, ih, and_assoc]

theorem allD_append {m : Im} (A B : List Fact) : allD m (A ++ B) ↔ allD m A ∧ allD m B := by
  induction A with
  | nil => simp [allD]
  | cons c r ih => simp [allD, ih, and_assoc]

theorem allD_mono {m m' : Im} (hm : ∀ b o, m b = some o → m' b = some o) : ∀ {D : List Fact}, allD m D → allD m' D
  | [], _ => trivial
  | f :: _, h => ⟨f.mono m m' hm h.1, allD_mono hm h.2⟩

/-- Whether a place is frozen. -/
def frO (o : Option Obj) (off : Nat) : Bool :=
  match o with
  | some (.cells _ _ (lo, hi)) => lo ≤ off && off < hi
  | _ => false

theorem frozen_frO (w : World) (a : Addr) : w.frozen? a = frO w.heap[a.block]? a.off := by unfold World.frozen? frO; rfl

/-- What no call here touches. -/
structure Kept (w w' : World) : Prop where
  os : w'.os = w.os
  out : w'.output = w.output
  size : w.heap.size ≤ w'.heap.size
  tape : Sm.default = .strict → w'.tape = w.tape
  drawn : Sm.default = .strict → w.drawn ≤ w'.drawn

theorem Kept.refl (w : World) : Kept w w := ⟨rfl, rfl, Nat.le_refl _, fun _ => rfl, fun _ => Nat.le_refl _⟩
theorem Kept.trans {w w1 w2 : World} (h : Kept w w1) (h' : Kept w1 w2) : Kept w w2 := ⟨h'.os.trans h.os, h'.out.trans h.out, Nat.le_trans h.size h'.size, fun e => (h'.tape e).trans (h.tape e), fun e => Nat.le_trans (h.drawn e) (h'.drawn e)⟩

/-- From one moment to a later one: what is not owned stays, what is owned later was owned or is new. -/
structure Fr (w : World) (L : List Chunk) (m : Im) (w' : World) (L' : List Chunk) (m' : Im) : Prop where
  size : w.heap.size ≤ w'.heap.size
  same : ∀ b, b < w.heap.size → b ∉ fps L → w'.heap[b]? = w.heap[b]?
  own : ∀ b ∈ fps L', b ∈ fps L ∨ w.heap.size ≤ b
  im : ∀ b o, m b = some o → m' b = some o
  new : ∀ b o, m' b = some o → m b = some o ∨ b ∈ fps L ∨ w.heap.size ≤ b
  kept : Kept w w'

theorem Fr.refl (w : World) (L : List Chunk) (m : Im) : Fr w L m w L m :=
  ⟨Nat.le_refl _, fun _ _ _ => rfl, fun _ h => .inl h, fun _ _ h => h, fun _ _ h => .inl h, Kept.refl _⟩

theorem Fr.trans {w w1 w2 : World} {L L1 L2 : List Chunk} {m m1 m2 : Im} (h : Fr w L m w1 L1 m1) (h' : Fr w1 L1 m1 w2 L2 m2) : Fr w L m w2 L2 m2 := by
  refine ⟨Nat.le_trans h.size h'.size, fun b hb hn => ?_, fun b hb => ?_, fun b o ho => h'.im b o (h.im b o ho), fun b o ho => ?_, h.kept.trans h'.kept⟩
  · rw [h'.same b (Nat.lt_of_lt_of_le hb h.size) (fun hc => ?_), h.same b hb hn]
    rcases h.own b hc with h1 | h1
    · exact hn h1
    · omega
  · rcases h'.own b hb with h1 | h1
    · exact h.own b h1
    · exact .inr (Nat.le_trans h.size h1)
  · rcases h'.new b o ho with h1 | h1 | h1
    · exact h.new b o h1
    · exact .inr (h.own b h1)
    · exact .inr (.inr (Nat.le_trans h.size h1))

/-- THE FRAME RULE: a step that owns L leaves the rest R, and what is known, alone. -/
theorem Holds.frame {w w' : World} {m m' : Im} {L L' R : List Chunk} {D' E : List Fact} (h : Holds w m (L ++ R) E) (h' : Holds w' m' L' D') (hf : Fr w L m w' L' m') :
    Holds w' m' (L' ++ R) (D' ++ E) ∧ Fr w (L ++ R) m w' (L' ++ R) m' := by
  have hlt := mem_fps_lt h.ok
  have hnd := h.nd
  rw [fps_append] at hnd hlt
  have hdis : ∀ b ∈ fps R, b ∉ fps L := fun b hb hc => (List.nodup_append.1 hnd).2.2 b hc b hb rfl
  have hR : ∀ b ∈ fps R, w'.heap[b]? = w.heap[b]? := fun b hb => hf.same b (hlt b (by simp [hb])) (hdis b hb)
  refine ⟨⟨?_, ?_, ?_, ?_⟩, ⟨hf.size, ?_, ?_, hf.im, ?_, hf.kept⟩⟩
  · rw [fps_append]
    refine List.nodup_append.2 ⟨h'.nd, (List.nodup_append.1 hnd).2.1, fun a ha b hb hab => ?_⟩
    subst hab
    rcases hf.own a ha with h1 | h1
    · exact hdis a hb h1
    · have := hlt a (by simp [hb]); omega
  · exact (allOk_append _ _).2 ⟨h'.ok, allOk_of_same ((allOk_append _ _).1 h.ok).2 hR⟩
  · intro b o ho
    refine ⟨(h'.im b o ho).1, ?_⟩
    rw [fps_append]
    intro hc
    rcases List.mem_append.1 hc with hc | hc
    · exact (h'.im b o ho).2 hc
    · rcases hf.new b o ho with h1 | h1 | h1
      · exact (h.im b o h1).2 (by rw [fps_append]; simp [hc])
      · exact hdis b hc h1
      · have := hlt b (by simp [hc]); omega
  · exact (allD_append _ _).2 ⟨h'.d, allD_mono hf.im h.d⟩
  · intro b hb hn
    rw [fps_append] at hn
    exact hf.same b hb (fun hc => hn (by simp [hc]))
  · intro b hb
    rw [fps_append] at hb ⊢
    rcases List.mem_append.1 hb with hb | hb
    · rcases hf.own b hb with h1 | h1
      · exact .inl (by simp [h1])
      · exact .inr h1
    · exact .inl (by simp [hb])
  · intro b o ho
    rw [fps_append]
    rcases hf.new b o ho with h1 | h1 | h1
    · exact .inl h1
    · exact .inr (.inl (by simp [h1]))
    · exact .inr (.inr h1)

/-- A call of function f enters its body. -/
def Enters (P : Program) (f : FuncId) : Prop := ∃ fn, P.funcs[f]? = some fn ∧ (fn.name == "runtime.NumGoroutine") = false ∧ fn.body.isNone = false

/-- A FUNCTION's CONTRACT. -/
structure FnS (P : Program) (f : FuncId) (args : List V) (L : List Chunk) (D : List Fact) (post : V → List Chunk → List Fact → Prop) : Prop where
  en : Enters P f
  run : ∀ w m, Holds w m L D → Calls P f (args.map V.enc).toArray w fun e w' => ∃ v L' D' m', e = .returned v.enc ∧ post v L' D' ∧ Holds w' m' L' D' ∧ Fr w L m w' L' m'

theorem FnS.mono {P : Program} {f : FuncId} {args : List V} {L : List Chunk} {D : List Fact} {post post' : V → List Chunk → List Fact → Prop} (h : FnS P f args L D post)
    (hp : ∀ v L' D', post v L' D' → post' v L' D') : FnS P f args L D post' :=
  ⟨h.1, fun w m hh => (h.2 w m hh).mono fun _ _ ⟨v, L', D', m', h1, h2, h3, h4⟩ => ⟨v, L', D', m', h1, hp _ _ _ h2, h3, h4⟩⟩

end Go.X
