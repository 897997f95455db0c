/- This text proves that the executor's rules for the operations without memory (arithmetic, comparisons, strings, conversions, parts of aggregates) are sound. -/
import Derived.Test.YtdnkeinjfddmnaaGreatDoorMem
import Derived.LaidEql
set_option linter.all false

namespace Go.X
open Go
variable [Sm : Inhabited Manner] [Df : Inhabited (List Deferred)]

abbrev tt : V := .c (.b true)
abbrev ff : V := .c (.b false)

def bitsV (op : BinOp) (k : IntKind) (x y : Int) : Int :=
  match op with
  | .and => k.wrap (BitVec.ofInt k.bits x &&& BitVec.ofInt k.bits y).toNat
  | .or => k.wrap (BitVec.ofInt k.bits x ||| BitVec.ofInt k.bits y).toNat
  | .xor => k.wrap (BitVec.ofInt k.bits x ^^^ BitVec.ofInt k.bits y).toNat
  | _ => k.wrap (BitVec.ofInt k.bits x &&& ~~~(BitVec.ofInt k.bits y)).toNat

def vcInt (op : BinOp) (k : IntKind) (a b : Int) (kk : V → Prop) : Prop :=
  match op with
  | .add => ArP k (a + b) fun r => kk (.c (.i k r))
  | .sub => ArP k (a - b) fun r => kk (.c (.i k r))
  | .mul => ArP k (a * b) fun r => kk (.c (.i k r))
  | .quo => SideP (b ≠ 0) (ArP k (a.tdiv b) fun r => kk (.c (.i k r)))
  | .rem => SideP (b ≠ 0) (kk (.c (.i k (a.tmod b))))
  | .and => kk (.c (.i k (bitsV .and k a b)))
  | .or => kk (.c (.i k (bitsV .or k a b)))
  | .xor => kk (.c (.i k (bitsV .xor k a b)))
  | .andNot => kk (.c (.i k (bitsV .andNot k a b)))
  | .eql => CondP (a = b) (kk tt) (kk ff)
  | .neq => CondP (a = b) (kk ff) (kk tt)
  | .lss => CondP (a < b) (kk tt) (kk ff)
  | .leq => CondP (a ≤ b) (kk tt) (kk ff)
  | .gtr => CondP (b < a) (kk tt) (kk ff)
  | .geq => CondP (b ≤ a) (kk tt) (kk ff)
  | .shl | .shr => False

def vcStr (op : BinOp) (a b : List UInt8) (kk : V → Prop) : Prop :=
  match op with
  | .add => SideP (a.length + b.length ≤ 9223372036854775807) (kk (.c (.s (a ++ b))))
  | .eql => CondP (a = b) (kk tt) (kk ff)
  | .neq => CondP (a = b) (kk ff) (kk tt)
  | .lss => CondP (Op.bytesLess a b = true) (kk tt) (kk ff)
  | .geq => CondP (Op.bytesLess a b = true) (kk ff) (kk tt)
  | .leq => CondP (Op.bytesLess a b = true ∨ a = b) (kk tt) (kk ff)
  | .gtr => CondP (Op.bytesLess a b = true ∨ a = b) (kk ff) (kk tt)
  | _ => False

def vcEq (op : BinOp) (p : Prop) (kk : V → Prop) : Prop :=
  match op with
  | .eql => CondP p (kk tt) (kk ff)
  | .neq => CondP p (kk ff) (kk tt)
  | _ => False

/-- A comparison whose result is known. -/
def vcEqB (op : BinOp) (b : Bool) (kk : V → Prop) : Prop :=
  match op with
  | .eql => kk (.c (.b b))
  | .neq => kk (.c (.b (!b)))
  | _ => False

def vcBin (T : Ty) (op : BinOp) (t : Nat) (x y : V) (kk : V → Prop) : Prop :=
  match x, y with
  | .c (.i k a), .c (.i k' b) =>
    match op with
    | .shl => SideP (0 ≤ b) (ArP k (a * 2 ^ (min b.toNat k.bits)) fun r => kk (.c (.i k r)))
    | .shr => SideP (0 ≤ b) (kk (.c (.i k (a.fdiv (2 ^ (min b.toNat k.bits))))))
    | op => match Nat.beq (kdN k) (kdN k') with
      | true => vcInt op k a b kk
      | false => False
  | .c (.s a), .c (.s b) => vcStr op a b kk
  | .c (.b a), .c (.b b) =>
    match find T t with
    | some i => match i.d with
      | .bool => vcEq op (a = b) kk
      | _ => False
    | none => False
  | .agg xs, .agg ys =>
    match find T t with
    | some i => match i.d with
      | .st _ => match eqTy T 20 t xs ys with
        | some p => vcEq op p kk
        | none => False
      | _ => False
    | none => False
  | .c (.sl a _ _), .c (.sl none _ _) =>
    match find T t with
    | some i => match i.d with
      | .sl _ => vcEq op (a = none) kk
      | _ => False
    | none => False
  | .c (.p _ a o), .c (.p _ a' o') =>
    match find T t with
    | some i => match i.d with
      | .ptr e => match find T e with
        | some _ => SideP (a = a' ∧ o = o') (vcEqB op true kk)
        | none => False
      | _ => False
    | none => False
  | .c (.p _ _ _), .c (.raw (.pointer none)) =>
    match find T t with
    | some i => match i.d with
      | .ptr _ => vcEqB op false kk
      | _ => False
    | none => False
  | .c (.raw (.pointer none)), .c (.raw (.pointer none)) =>
    match find T t with
    | some i => match i.d with
      | .ptr _ => vcEqB op true kk
      | _ => False
    | none => False
  | _, _ => False

theorem CondP.run {p : Prop} {kk : V → Prop} {b : Bool} (h : CondP p (kk tt) (kk ff)) (hb : b = true ↔ p) : kk (.c (.b b)) := by
  cases b
  · exact h.f (fun hp => by simpa using hb.2 hp)
  · exact h.t (hb.1 rfl)
theorem CondP.run' {p : Prop} {kk : V → Prop} {b : Bool} (h : CondP p (kk ff) (kk tt)) (hb : b = true ↔ p) : kk (.c (.b (!b))) := by
  cases b
  · exact h.f (fun hp => by simpa using hb.2 hp)
  · exact h.t (hb.1 rfl)

theorem equalIn_slnil {P : Program} (w : World) (d : Nat) (t e : TypeId) (a : Option Addr) (n c n' c' : Nat) (h : P.underlying t = some (.slice e)) : (Op.equalIn (d + 1) t (.slice a n c) (.slice none n' c')).run P w = .ok a.isNone w := by
  cases a <;> simp [Op.equalIn, run_underlying h]
theorem run_eql_slnil {P : Program} (w : World) (t e : TypeId) (a : Option Addr) (n c n' c' : Nat) (h : P.underlying t = some (.slice e)) : (binOp .eql t (.slice a n c) (.slice none n' c')).run P w = .ok (.bool a.isNone) w := by
  simp [binOp, Op.equal, Op.maxDepth, equalIn_slnil w 9999 t e a n c n' c' h]
theorem run_neq_slnil {P : Program} (w : World) (t e : TypeId) (a : Option Addr) (n c n' c' : Nat) (h : P.underlying t = some (.slice e)) : (binOp .neq t (.slice a n c) (.slice none n' c')).run P w = .ok (.bool (!a.isNone)) w := by
  simp [binOp, Op.equal, Op.maxDepth, equalIn_slnil w 9999 t e a n c n' c' h]
theorem run_eqGuard_plain {P : Program} {w : World} (op : BinOp) (t : TypeId) (x y : Operand) (a b : Value) (h : ∀ xs ys, a = .agg xs → b = .agg ys → False) (h' : a = .nilIface → False) : (eqGuard op t x y a b).run P w = .ok () w := by
  cases op <;> simp only [eqGuard] <;> first | rfl | (cases a <;> cases b <;> first | rfl | exact (h _ _ rfl rfl).elim | exact (h' rfl).elim)

/-- The run of a binary operation. -/
def BinRuns (P : Program) (op : BinOp) (t : TypeId) (x y : Operand) (a b : Value) (v : V) : Prop :=
  ∀ w, (do eqGuard op t x y a b; binOp op t a b : Sem Value).run P w = .ok v.enc w

theorem binRuns_of {P : Program} {op : BinOp} {t : TypeId} {x y : Operand} {a b : Value} {v : V} (h : ∀ xs ys, a = .agg xs → b = .agg ys → False) (h' : a = .nilIface → False)
    (hr : ∀ w, (binOp op t a b).run P w = .ok v.enc w) : BinRuns P op t x y a b v := fun w => by
  simp only [Sem.run_bind, run_eqGuard_plain op t x y a b h h', Result.andThen_ok, hr]

theorem vcInt_sound {P : Program} {op : BinOp} {k : IntKind} {a b : Int} {kk : V → Prop} {t : TypeId} (h : vcInt op k a b kk) : ∃ v, kk v ∧ ∀ w, (binOp op t (.int k a) (.int k b)).run P w = .ok v.enc w := by
  cases op <;> simp only [vcInt] at h
  case add => exact ⟨_, h.run, fun w => by simp [binOp_add, Op.intArith, V.enc, C.enc]⟩
  case sub => exact ⟨_, h.run, fun w => by simp [binOp_sub, Op.intArith, V.enc, C.enc]⟩
  case mul => exact ⟨_, h.run, fun w => by simp [binOp_mul, Op.intArith, V.enc, C.enc]⟩
  case quo => exact ⟨_, h.k.run, fun w => by simp [binOp_quo, Op.intDiv, h.h, V.enc, C.enc]⟩
  case rem => exact ⟨_, h.k, fun w => by simp [binOp_rem, Op.intDiv, h.h, V.enc, C.enc]⟩
  case and => exact ⟨_, h, fun w => by simp [binOp_and, Op.intBits, V.enc, C.enc, bitsV]⟩
  case or => exact ⟨_, h, fun w => by simp [binOp_or, Op.intBits, V.enc, C.enc, bitsV]⟩
  case xor => exact ⟨_, h, fun w => by simp [binOp_xor, Op.intBits, V.enc, C.enc, bitsV]⟩
  case andNot => exact ⟨_, h, fun w => by simp [binOp_andNot, Op.intBits, V.enc, C.enc, bitsV]⟩
  case eql => exact ⟨_, h.run (b := a == b) (by simp), fun w => by simp [binOp_eql, V.enc, C.enc]⟩
  case neq => exact ⟨_, h.run' (b := a == b) (by simp), fun w => by simp [binOp_neq, V.enc, C.enc]; rfl⟩
  case lss => exact ⟨_, h.run (b := decide (a < b)) (by simp), fun w => by simp [binOp_lss, V.enc, C.enc]⟩
  case leq => exact ⟨_, h.run (b := decide (a ≤ b)) (by simp), fun w => by simp [binOp_leq, V.enc, C.enc]⟩
  case gtr => exact ⟨_, h.run (b := decide (b < a)) (by simp), fun w => by simp [binOp_gtr, V.enc, C.enc]⟩
  case geq => exact ⟨_, h.run (b := decide (b ≤ a)) (by simp), fun w => by simp [binOp_geq, V.enc, C.enc]⟩

theorem mk_toList (a : List UInt8) : (⟨⟨a⟩⟩ : ByteArray).toList = a := by rw [ByteArray.toList_eq]
theorem mk_append (a b : List UInt8) : ((⟨⟨a⟩⟩ : ByteArray) ++ ⟨⟨b⟩⟩) = ⟨⟨a ++ b⟩⟩ := by
  apply ByteArray.ext
  simp
theorem mk_size (a : List UInt8) : (⟨⟨a⟩⟩ : ByteArray).size = a.length := rfl

theorem vcStr_sound {P : Program} {op : BinOp} {a b : List UInt8} {kk : V → Prop} {t : TypeId} (h : vcStr op a b kk) : ∃ v, kk v ∧ ∀ w, (binOp op t (.string ⟨⟨a⟩⟩) (.string ⟨⟨b⟩⟩)).run P w = .ok v.enc w := by
  cases op <;> simp only [vcStr] at h
  case add =>
    refine ⟨_, h.k, fun w => ?_⟩
    have h1 := h.h
    have hlt : ¬ (((⟨⟨a⟩⟩ : ByteArray).size + (⟨⟨b⟩⟩ : ByteArray).size : Nat) : Int) > IntKind.i64.max := by
      rw [mk_size, mk_size]
      simp [IntKind.max, IntKind.signed, IntKind.bits]
      omega
    simp only [binOp_string_add, Op.stringOp, hlt, if_false, Sem.run_pure, mk_append]
    rfl
  case eql => exact ⟨_, h.run (b := a == b) (by simp), fun w => by simp [binOp_string_eql, V.enc, C.enc, mk_toList]⟩
  case neq => exact ⟨_, h.run' (b := a == b) (by simp), fun w => by simp [binOp_string_neq, V.enc, C.enc, mk_toList]⟩
  case lss => exact ⟨_, h.run (b := Op.bytesLess a b) (by simp), fun w => by simp [binOp_string_lss, V.enc, C.enc, mk_toList]⟩
  case geq => exact ⟨_, h.run' (b := Op.bytesLess a b) (by simp), fun w => by simp [binOp, Op.stringOp, V.enc, C.enc, mk_toList]⟩
  case leq => exact ⟨_, h.run (b := Op.bytesLess a b || a == b) (by simp), fun w => by simp [binOp, Op.stringOp, V.enc, C.enc, mk_toList]⟩
  case gtr => exact ⟨_, h.run' (b := Op.bytesLess a b || a == b) (by simp), fun w => by simp [binOp, Op.stringOp, V.enc, C.enc, mk_toList]⟩

theorem vcPtr_sound {P : Program} {op : BinOp} {t : TypeId} {ox oy : Operand} {b : Bool} {p q : Option Addr} {kk : V → Prop} (h : vcEqB op b kk) (hr : ∀ w d, (Op.equalIn (d + 1) t (.pointer p) (.pointer q)).run P w = .ok b w) :
    ∃ v, kk v ∧ BinRuns P op t ox oy (.pointer p) (.pointer q) v := by
  unfold vcEqB at h
  split at h
  · exact ⟨_, h, binRuns_of (by intro xs ys h1; cases h1) (by intro h1; cases h1) fun w => by simp [binOp, Op.equal, Op.maxDepth, hr w 9999, V.enc, C.enc]⟩
  · exact ⟨_, h, binRuns_of (by intro xs ys h1; cases h1) (by intro h1; cases h1) fun w => by simp [binOp, Op.equal, Op.maxDepth, hr w 9999, V.enc, C.enc]⟩
  · exact h.elim

theorem vcBin_sound {P : Program} {T : Ty} (hT : TyOK P T) {op : BinOp} {t : Nat} {x y : V} {kk : V → Prop} {ox oy : Operand} (h : vcBin T op t x y kk) : ∃ v, kk v ∧ BinRuns P op t ox oy x.enc y.enc v := by
  unfold vcBin at h
  split at h
  · rename_i k a k' b
    split at h
    · refine ⟨_, h.k.run, binRuns_of (by intro xs ys h1; cases h1) (by intro h1; cases h1) fun w => ?_⟩
      have := h.h
      simp [V.enc, C.enc, binOp_shl, Op.shift, show ¬ b < 0 by omega]
    · refine ⟨_, h.k, binRuns_of (by intro xs ys h1; cases h1) (by intro h1; cases h1) fun w => ?_⟩
      have := h.h
      simp [V.enc, C.enc, binOp_shr, Op.shift, show ¬ b < 0 by omega]
    · split at h
      · rename_i hk
        have := kdN_inj hk
        subst this
        obtain ⟨v, hv, hr⟩ := vcInt_sound (P := P) (t := t) h
        exact ⟨v, hv, binRuns_of (by intro xs ys h1; cases h1) (by intro h1; cases h1) hr⟩
      · exact h.elim
  · obtain ⟨v, hv, hr⟩ := vcStr_sound (P := P) (t := t) h
    exact ⟨v, hv, binRuns_of (by intro xs ys h1; cases h1) (by intro h1; cases h1) hr⟩
  · rename_i a b
    split at h
    · rename_i i hi
      split at h
      · rename_i hd
        have hok := (hT t i hi).2.2.2
        rw [hd] at hok
        unfold vcEq at h
        split at h
        · exact ⟨_, h.run (b := a == b) (by simp), binRuns_of (by intro xs ys h1; cases h1) (by intro h1; cases h1) fun w => by simp [V.enc, C.enc, run_eql_bool w t a b hok]⟩
        · exact ⟨_, h.run' (b := a == b) (by simp), binRuns_of (by intro xs ys h1; cases h1) (by intro h1; cases h1) fun w => by simp [V.enc, C.enc, run_neq_bool w t a b hok]⟩
        · exact h.elim
      · exact h.elim
    · exact h.elim
  · rename_i xs ys
    split at h
    · rename_i i hi
      split at h
      · rename_i fs hd
        split at h
        · rename_i p hp
          have hok := (hT t i hi).2.2.2
          rw [hd] at hok
          have hrun : ∀ w, ∃ b, (Op.equalIn 10000 t (V.agg xs).enc (V.agg ys).enc).run P w = .ok b w ∧ (b = true ↔ p) := fun w => by
            have := run_eqTy hT 20 9980 t xs ys p w i hp hi
            rw [hd] at this
            exact this
          have hdec : ∃ b : Bool, (b = true ↔ p) := by
            obtain ⟨b, _, hb⟩ := hrun default
            exact ⟨b, hb⟩
          obtain ⟨b, hb⟩ := hdec
          have hrun' : ∀ w, (Op.equalIn 10000 t (V.agg xs).enc (V.agg ys).enc).run P w = .ok b w := fun w => by
            obtain ⟨b', h1, h2⟩ := hrun w
            have : b' = b := by rw [Bool.eq_iff_iff, h2, hb]
            rw [h1, this]
          unfold vcEq at h
          split at h
          · refine ⟨_, h.run hb, fun w => ?_⟩
            have h1 := hrun' w
            simp only [V.enc] at h1 ⊢
            rw [Sem.run_bind, run_eqGuard_agg w _ _ _ _ _ _ hok.2.2.2.2]
            simp only [Result.andThen_ok, run_eql_struct, h1]
            rfl
          · refine ⟨_, h.run' hb, fun w => ?_⟩
            have h1 := hrun' w
            simp only [V.enc] at h1 ⊢
            rw [Sem.run_bind, run_eqGuard_agg w _ _ _ _ _ _ hok.2.2.2.2]
            simp only [Result.andThen_ok, run_neq_struct, h1]
            rfl
          · exact h.elim
        · exact h.elim
      · exact h.elim
    · exact h.elim
  · rename_i a n c n' c'
    split at h
    · rename_i i hi
      split at h
      · rename_i e hd
        have hok := (hT t i hi).2.2.2
        rw [hd] at hok
        unfold vcEq at h
        have hb : a.isNone = true ↔ a = none := Option.isNone_iff_eq_none
        split at h
        · exact ⟨_, h.run hb, binRuns_of (by intro xs ys h1; cases h1) (by intro h1; cases h1) fun w => by simp [V.enc, C.enc, run_eql_slnil w t e a n c n' c' hok]⟩
        · exact ⟨_, h.run' hb, binRuns_of (by intro xs ys h1; cases h1) (by intro h1; cases h1) fun w => by simp [V.enc, C.enc, run_neq_slnil w t e a n c n' c' hok]⟩
        · exact h.elim
      · exact h.elim
    · exact h.elim
  · rename_i id a o id' a' o'
    split at h
    · rename_i i hi
      split at h
      · rename_i e hd
        have hok := (hT t i hi).2.2.2
        rw [hd] at hok
        simp only [TyD.ok] at hok
        split at h
        · rename_i j hj
          obtain ⟨⟨rfl, rfl⟩, h⟩ := h
          exact vcPtr_sound h fun w d => by simp [V.enc, C.enc, Op.equalIn, run_underlying hok, run_sizeOf (hT _ _ hj), run_sameAddr_same]
        · exact h.elim
      · exact h.elim
    · exact h.elim
  · split at h
    · rename_i i hi
      split at h
      · rename_i e hd
        have hok := (hT t i hi).2.2.2
        rw [hd] at hok
        simp only [TyD.ok] at hok
        exact vcPtr_sound h fun w d => by simp [V.enc, C.enc, Op.equalIn, run_underlying hok]
      · exact h.elim
    · exact h.elim
  · split at h
    · rename_i i hi
      split at h
      · rename_i e hd
        have hok := (hT t i hi).2.2.2
        rw [hd] at hok
        simp only [TyD.ok] at hok
        exact vcPtr_sound h fun w d => by simp [V.enc, C.enc, Op.equalIn, run_underlying hok]
      · exact h.elim
    · exact h.elim
  · exact h.elim

end Go.X
