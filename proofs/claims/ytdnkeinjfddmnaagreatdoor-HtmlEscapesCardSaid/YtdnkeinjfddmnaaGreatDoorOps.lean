/- This text proves that the symbolic executor's rule for each operation is sound, for any program whose types agree with a given table. -/
import Derived.Test.YtdnkeinjfddmnaaGreatDoorFrame
set_option linter.all false

namespace Go.X
open Go
variable [Sm : Inhabited Manner]

/-! ### Types -/

inductive TyD where
  | bool | int (k : IntKind) | str
  | st (fs : List (Nat × Nat))
  | arr (n elem : Nat)
  | sl (elem : Nat)
  | ptr (elem : Nat)
  | mp (key elem : Nat)
  | so (fs : List (Nat × Nat))
  | ifc
  | up
  | oth

structure TyI where
  d : TyD
  size : Nat
  bytes : Nat
  zero : V

abbrev Ty := List (Nat × TyI)

def find : Ty → Nat → Option TyI
  | [], _ => none
  | (t, i) :: r, n => match Nat.beq t n with
    | true => some i
    | false => find r n

def TyD.ok (P : Program) (t : TypeId) : TyD → Prop
  | .bool => P.underlying t = some .bool
  | .int k => P.underlying t = some (.int k)
  | .str => P.underlying t = some .string
  | .st fs => P.underlying t = some (.struct (P.fieldsOf t)) ∧ (P.fieldsOf t).toList.map (fun f => (f.offset, f.type)) = fs ∧
      ((P.fieldsOf t).toList.all fun f => f.name != "_") = true ∧ P.stoodInHeld t = false ∧ P.eqGuardType P.depth t = false
  | .arr n e => P.underlying t = some (.array n e)
  | .sl e => P.underlying t = some (.slice e)
  | .ptr e => P.underlying t = some (.pointer e)
  | .mp k e => P.underlying t = some (.map k e)
  | .so fs => P.underlying t = some (.struct (P.fieldsOf t)) ∧ (P.fieldsOf t).toList.map (fun f => (f.offset, f.type)) = fs
  | .ifc => ∃ ms, P.underlying t = some (.interface ms)
  | .up => P.underlying t = some .unsafePointer
  | .oth => True

def isIfc : Option TypeDesc → Bool
  | some (.interface _) => true
  | _ => false
theorem ifc_ok {P : Program} {t : TypeId} (h : isIfc (P.underlying t) = true) : TyD.ok P t .ifc := by
  show ∃ ms, P.underlying t = some (.interface ms)
  cases hu : P.underlying t with
  | none => rw [hu] at h; cases h
  | some d => cases d <;> rw [hu] at h <;> first | exact ⟨_, rfl⟩ | cases h

def isAggD : TyD → Bool
  | .st _ | .arr _ _ | .so _ => true
  | _ => false

def TyI.ok (P : Program) (t : TypeId) (i : TyI) : Prop :=
  ((P.info? t).map fun x => (x.size, x.bytes)) = some (i.size, i.bytes) ∧ (P.info? t).bind (·.zero) = some i.zero.enc ∧ (isAggD i.d = true ∨ i.size = 1) ∧ i.d.ok P t

def TyOK (P : Program) (T : Ty) : Prop := ∀ t i, find T t = some i → i.ok P t

def TyAll (P : Program) : Ty → Prop
  | [] => True
  | (t, i) :: r => i.ok P t ∧ TyAll P r

theorem tyOK_of_all {P : Program} : ∀ {T : Ty}, TyAll P T → TyOK P T
  | [], _ => fun t i h => by simp [find] at h
  | (t, i) :: r, h => fun u j hj => by
    simp only [find] at hj
    cases hb : Nat.beq t u with
    | true => rw [hb] at hj; simp at hj; subst hj; rw [← Nat.eq_of_beq_eq_true hb]; exact h.1
    | false => rw [hb] at hj; exact tyOK_of_all h.2 u j hj

/-! ### What the executor asks -/

/-- A test: both ways. -/
structure CondP (p : Prop) (A B : Prop) : Prop where
  t : p → A
  f : ¬p → B
/-- A condition that must hold. -/
structure SideP (p A : Prop) : Prop where
  h : p
  k : A
def inR : IntKind → Int → Prop
  | .i64, r => -9223372036854775808 ≤ r ∧ r ≤ 9223372036854775807
  | .u8, r => 0 ≤ r ∧ r ≤ 255
  | .i32, r => -2147483648 ≤ r ∧ r ≤ 2147483647
  | .u32, r => 0 ≤ r ∧ r ≤ 4294967295
  | .u64, r => 0 ≤ r ∧ r ≤ 18446744073709551615
  | .u16, r => 0 ≤ r ∧ r ≤ 65535
  | .i8, r => -128 ≤ r ∧ r ≤ 127
  | .i16, r => -32768 ≤ r ∧ r ≤ 32767
/-- A number: in range, or wrapped. -/
inductive ArP (k : IntKind) (r : Int) (K : Int → Prop) : Prop where
  | exact (h : inR k r) (h' : K r)
  | wrap (h' : K (k.wrap r))
/-- A new block. -/
structure NewP (K : Nat → Prop) : Prop where
  k : ∀ ad, K ad

theorem wrap_of_inR {k : IntKind} {r : Int} (h : inR k r) : k.wrap r = r := by
  cases k <;> simp only [inR] at h <;> simp [IntKind.wrap, IntKind.bits, IntKind.signed] <;> omega

theorem ArP.run {k : IntKind} {r : Int} {K : Int → Prop} (h : ArP k r K) : K (k.wrap r) := by
  cases h with
  | exact h h' => rw [wrap_of_inR h]; exact h'
  | wrap h' => exact h'

def kdN : IntKind → Nat
  | .i8 => 0 | .i16 => 1 | .i32 => 2 | .i64 => 3 | .u8 => 4 | .u16 => 5 | .u32 => 6 | .u64 => 7
theorem kdN_inj {a b : IntKind} (h : Nat.beq (kdN a) (kdN b) = true) : a = b := by cases a <;> cases b <;> first | rfl | (simp [kdN] at h)

/-! ### Operands -/

def constC : Value → C
  | .bool b => .b b
  | .int k n => .i k n
  | .string s => .s s.data.toList
  | .slice none 0 0 => .sl none 0 0
  | x => .raw x
theorem constC_enc (x : Value) : (constC x).enc = x := by
  unfold constC
  split <;> rfl

def constV : Value → V
  | .agg cs => .agg (cs.toList.map constC)
  | x => .c (constC x)
theorem constV_enc (x : Value) : (constV x).enc = x := by
  unfold constV
  split
  · rename_i cs
    simp only [V.enc, List.map_map]
    have : (C.enc ∘ constC) = id := by funext x; exact constC_enc x
    rw [this]; simp
  · simp only [V.enc]; exact constC_enc _

def ev (env : Env) : Operand → Option V
  | .tmp t => look env t
  | .const v => some (constV v)
  | .global g => some (.c (.raw (.pointer (some ⟨g, 0, none⟩))))
  | .func f => some (.c (.fn f []))

def withE (env : Env) (x : Operand) (k : V → Prop) : Prop :=
  match ev env x with
  | some v => k v
  | none => False

variable [Df : Inhabited (List Deferred)]
/-- The frame holds these values; the calls that have been put off are those of the instance. -/
def EnvOK (N : Nat) (env : Env) (a : Act) : Prop := a.defers = Df.default ∧ a.tmps.size = N ∧ ∀ d v, look env d = some v → a.tmps[d]? = some v.enc

theorem EnvOK.ev {N : Nat} {env : Env} {a : Act} (h : EnvOK N env a) {x : Operand} {v : V} (hx : ev env x = some v) : a.eval x = v.enc := by
  cases x with
  | tmp t => simp only [X.ev] at hx; simp [Act.eval, h.2.2 t v hx]
  | const c => simp only [X.ev, Option.some.injEq] at hx; subst hx; simp [Act.eval, constV_enc]
  | global g => simp only [X.ev, Option.some.injEq] at hx; subst hx; rfl
  | func f => simp only [X.ev, Option.some.injEq] at hx; subst hx; rfl

theorem withE_elim {env : Env} {x : Operand} {k : V → Prop} (h : withE env x k) : ∃ v, ev env x = some v ∧ k v := by
  unfold withE at h
  split at h
  · rename_i v hv; exact ⟨v, hv, h⟩
  · exact h.elim

/-! ### Equality -/

def eqC : C → C → Option Prop
  | .b x, .b y => some (x = y)
  | .i k x, .i k' y => match Nat.beq (kdN k) (kdN k') with | true => some (x = y) | false => none
  | .s x, .s y => some (x = y)
  | _, _ => none

def scalar : TyD → Bool
  | .bool | .int _ | .str => true
  | _ => false

/-- The cell is of the type. -/
def isC : TyD → C → Bool
  | .bool, .b _ => true
  | .int k, .i k' _ => Nat.beq (kdN k) (kdN k')
  | .str, .s _ => true
  | _, _ => false

def eqFs (T : Ty) (g : Nat → List C → List C → Option Prop) (xs ys : List C) : List (Nat × Nat) → Option Prop
  | [] => some True
  | (off, ft) :: rest =>
    match find T ft with
    | none => none
    | some i =>
      match g ft ((xs.drop off).take i.size) ((ys.drop off).take i.size), eqFs T g xs ys rest with
      | some p, some q => some (p ∧ q)
      | _, _ => none

def eqTy (T : Ty) : Nat → Nat → List C → List C → Option Prop
  | 0, _, _, _ => none
  | n + 1, t, xs, ys =>
    match find T t with
    | none => none
    | some i =>
      match i.d with
      | .st fs => eqFs T (eqTy T n) xs ys fs
      | d => match xs, ys with
        | [x], [y] => match isC d x, isC d y with
          | true, true => eqC x y
          | _, _ => none
        | _, _ => none

/-- The value of cells at a type. -/
def valOf (d : TyD) (xs : List C) : Value :=
  match d with
  | .st _ | .arr _ _ | .so _ => .agg (xs.map C.enc).toArray
  | _ => match xs with
    | [x] => x.enc
    | _ => undef

theorem run_eqC {P : Program} {w : World} {t : TypeId} {dd : TyD} {d : Nat} {x y : C} {p : Prop} (h : eqC x y = some p) (hx : isC dd x = true) (hy : isC dd y = true) (ht : dd.ok P t) :
    ∃ b, (Op.equalIn (d + 1) t x.enc y.enc).run P w = .ok b w ∧ (b = true ↔ p) := by
  cases x <;> cases y <;> simp only [eqC] at h <;> try (cases h; done)
  · cases dd <;> simp [isC] at hx
    simp only [Option.some.injEq] at h; subst h
    exact ⟨_, run_equalIn_bool' w d t _ _ ht, by simp⟩
  · rename_i k n k' m
    split at h
    · rename_i hb
      simp only [Option.some.injEq] at h; subst h
      have := kdN_inj hb; subst this
      cases dd <;> simp only [isC] at hx <;> try (cases hx; done)
      exact ⟨_, run_equalIn_int w d t k _ n m ht, by simp⟩
    · cases h
  · cases dd <;> simp [isC] at hx
    simp only [Option.some.injEq] at h; subst h
    exact ⟨_, run_equalIn_string w d t _ _ ht, by simp [ByteArray.toList_eq]⟩

theorem tyI_info {P : Program} {t : TypeId} {i : TyI} (h : i.ok P t) : ∃ x, P.info? t = some x ∧ x.size = i.size ∧ x.bytes = i.bytes ∧ x.zero = some i.zero.enc := by
  obtain ⟨h1, h2, _⟩ := h
  cases hi : P.info? t with
  | none => simp [hi] at h1
  | some x => simp [hi] at h1 h2; exact ⟨x, rfl, h1.1, h1.2, h2⟩

theorem run_sizeOf {P : Program} {t : TypeId} {i : TyI} (h : i.ok P t) (w : World) : (sizeOf t).run P w = .ok i.size w := by
  obtain ⟨x, hx, h1, _⟩ := tyI_info h
  simp [sizeOf, typeInfo, hx, h1]

theorem run_zeroValue {P : Program} {t : TypeId} {i : TyI} (h : i.ok P t) (w : World) : (zeroValue t).run P w = .ok i.zero.enc w := by
  obtain ⟨x, hx, _, _, h1⟩ := tyI_info h
  simp [zeroValue, typeInfo, hx, h1]

theorem run_isAgg {P : Program} {t : TypeId} {i : TyI} (h : i.ok P t) (hd : ∀ x, i.d ≠ .oth ∨ x) (w : World) : (isAgg t).run P w = .ok (isAggD i.d) w := by
  obtain ⟨_, _, _, h4⟩ := h
  have hd' : i.d ≠ .oth := (hd False).resolve_right id
  cases hdd : i.d <;> rw [hdd] at h4 hd' <;> simp only [TyD.ok] at h4
  case st fs => simp [isAgg, run_underlying h4.1, isAggD]
  case so fs => simp [isAgg, run_underlying h4.1, isAggD]
  case ifc => obtain ⟨ms, h4⟩ := h4; simp [isAgg, run_underlying h4, isAggD]
  case oth => exact absurd rfl hd'
  all_goals simp [isAgg, run_underlying h4, isAggD]

/-- 'part' at a type of the table: the cells from 'off' on. -/
theorem run_part {P : Program} {t : TypeId} {i : TyI} (h : i.ok P t) (hd : i.d ≠ .oth) (xs : List C) (off : Nat) (hl : isAggD i.d = true ∨ off < xs.length) (w : World) :
    (part t (xs.map C.enc).toArray off).run P w = .ok (valOf i.d ((xs.drop off).take i.size)) w := by
  unfold part
  simp only [Sem.run_bind, run_isAgg h (fun _ => .inl hd), Result.andThen_ok, Sem.run_ite]
  cases ha : isAggD i.d with
  | true =>
    simp only [if_true, Sem.run_bind, run_sizeOf h, Result.andThen_ok, Sem.run_pure]
    congr 1
    cases hdd : i.d <;> rw [hdd] at ha <;> simp [isAggD] at ha <;> simp [valOf, List.map_take, List.map_drop, List.drop_take]
  | false =>
    have hs : i.size = 1 := h.2.2.1.resolve_left (by simp [ha])
    have hlt : off < xs.length := hl.resolve_left (by simp [ha])
    rw [hs]
    simp only [Bool.false_eq_true, if_false]
    have e1 : (xs.map C.enc).toArray[off]? = some (xs[off].enc) := by simp [hlt]
    have e2 : (xs.drop off).take 1 = [xs[off]] := by rw [List.drop_eq_getElem_cons hlt]; rfl
    rw [e1, e2]
    simp only [Sem.run_pure]
    congr 1
    cases hdd : i.d <;> rw [hdd] at ha <;> simp [isAggD] at ha <;> rfl

theorem take1_lt {xs : List C} {off n : Nat} {x : C} (h : (xs.drop off).take n = [x]) : off < xs.length := by
  have := congrArg List.length h
  simp at this
  omega

theorem eqTy_lt {T : Ty} {n t : Nat} {xs ys : List C} {off : Nat} {p : Prop} {i : TyI} (h : eqTy T n t ((xs.drop off).take i.size) ((ys.drop off).take i.size) = some p) (hi : find T t = some i) :
    (isAggD i.d = true ∨ off < xs.length) ∧ (isAggD i.d = true ∨ off < ys.length) ∧ i.d ≠ .oth := by
  cases n with
  | zero => simp [eqTy] at h
  | succ n =>
    simp only [eqTy, hi] at h
    split at h
    · rename_i fs hd; simp [hd, isAggD]
    · rename_i dd hnst
      split at h
      · rename_i x y hx hy
        split at h
        · rename_i h1 h2
          refine ⟨.inr (take1_lt hx), .inr (take1_lt hy), ?_⟩
          intro hd; rw [hd] at h1; simp [isC] at h1
        · cases h
      · cases h

theorem run_eqTy {P : Program} {T : Ty} (hT : TyOK P T) : ∀ (n d t : Nat) (xs ys : List C) (p : Prop) (w : World) (i : TyI), eqTy T n t xs ys = some p → find T t = some i →
    ∃ b, (Op.equalIn (d + n) t (valOf i.d xs) (valOf i.d ys)).run P w = .ok b w ∧ (b = true ↔ p) := by
  intro n
  induction n with
  | zero => intro d t xs ys p w i h; simp [eqTy] at h
  | succ n ih =>
    intro d t xs ys p w i h hi
    have hok := hT t i hi
    simp only [eqTy, hi] at h
    split at h
    · rename_i fs hd
      have hok' := hok.2.2.2
      rw [hd] at hok'
      obtain ⟨hu, hfs, hnb, hst, _⟩ := hok'
      rw [hd]
      simp only [valOf]
      rw [show d + (n + 1) = (d + n) + 1 from rfl, run_equalIn_agg w (d + n) t _ _ hu hst]
      rw [← hfs] at h
      clear hfs hd hu
      generalize (P.fieldsOf t).toList = F at h hnb
      induction F generalizing p with
      | nil => simp only [List.map_nil, eqFs, Option.some.injEq] at h; rw [← h]; exact ⟨true, by simp [Op.eqFields], by simp⟩
      | cons f F ihF =>
        simp only [List.map_cons, eqFs] at h
        simp only [List.all_cons, Bool.and_eq_true] at hnb
        cases hj : find T f.type with
        | none => simp [hj] at h
        | some j =>
          simp only [hj] at h
          split at h
          · rename_i p1 q1 hp1 hq1
            simp only [Option.some.injEq] at h; rw [← h]
            have hjok := hT _ _ hj
            obtain ⟨hl1, hl2, hoth⟩ := eqTy_lt hp1 hj
            obtain ⟨b1, hb1, hb1'⟩ := ih d f.type _ _ p1 w j hp1 hj
            obtain ⟨b2, hb2, hb2'⟩ := ihF q1 hq1 hnb.2
            have hnm : f.name ≠ "_" := by simpa using hnb.1
            simp only [Op.eqFields, hnm, ne_eq, not_false_eq_true, if_true, Sem.run_bind, run_part hjok hoth _ _ hl1, run_part hjok hoth _ _ hl2, Result.andThen_ok, hb1, Sem.run_ite]
            cases b1 with
            | true => exact ⟨b2, by simpa using hb2, by simp [← hb1', hb2']⟩
            | false => exact ⟨false, by simp, by simp [← hb1']⟩
          · cases h
    · rename_i dd hnst
      split at h
      · rename_i x y
        split at h
        · rename_i hx hy
          have := run_eqC (w := w) (d := d + n) h hx hy hok.2.2.2
          have hv : ∀ z, isC i.d z = true → valOf i.d [z] = z.enc := by
            intro z hz
            cases hdd : i.d <;> rw [hdd] at hz <;> first | rfl | (cases z <;> simp [isC] at hz)
          rw [hv x hx, hv y hy]
          exact this
        · cases h
      · cases h

end Go.X
