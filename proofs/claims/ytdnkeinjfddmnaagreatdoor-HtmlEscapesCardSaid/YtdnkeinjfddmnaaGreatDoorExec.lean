/- This text proves that the executor's rules for operations on memory (boxes, rows of slices) and for calls are sound. -/
import Derived.Test.YtdnkeinjfddmnaaGreatDoorBin
set_option linter.all false

namespace Go.X
open Go
variable [Sm : Inhabited Manner] [Df : Inhabited (List Deferred)]

structure Ent where
  w : World
  L : List Chunk
  m : Im

def SatW (G : Ent) (w : World) (L : List Chunk) (D : List Fact) : Prop := ∃ m, Holds w m L D ∧ Fr G.w G.L G.m w L m

abbrev KV := V → List Chunk → List Fact → Nat → Prop

/-- One operation, carried out in this frame and world, gives a value and a world (a call: whatever its contract leaves). -/
def gives (P : Program) (o : Oper) (ρ : Operand → Value) (w : World) (R : Value → World → Prop) : Prop :=
  match (execOp ρ o).run P w with
  | .ok (.value v) w' => R v w'
  | .ok .skip w' => R undef w'
  | .ok (.enter f args) w' => Calls P f args w' fun e w'' => ∃ v, e = .returned v ∧ R v w''
  | _ => False

theorem gives.mono {P : Program} {o : Oper} {ρ : Operand → Value} {w : World} {R R' : Value → World → Prop} (h : gives P o ρ w R) (hr : ∀ v w', R v w' → R' v w') : gives P o ρ w R' := by
  unfold gives at *
  split at h
  · exact hr _ _ h
  · exact hr _ _ h
  · exact h.mono fun e w'' ⟨v, he, hv⟩ => ⟨v, he, hr _ _ hv⟩
  · exact h.elim

theorem gives.wp {P : Program} {o : Oper} {a : Act} {w : World} {R : Value → World → Prop} {next : Act → World → Prop} {Q : Exit → Act → World → Prop} (h : gives P o a.eval w R) (hn : ∀ v w', R v w' → next (a.put o.dst v) w') : o.wp P a w next Q := by
  unfold gives at h
  unfold Oper.wp
  generalize (execOp a.eval o).run P w = r at *
  split at h
  · exact hn _ _ h
  · exact hn _ _ h
  · rw [Oper.upon_enter]
    refine h.mono ?_
    rintro e w'' ⟨v, rfl, hv⟩
    exact hn _ _ hv
  · exact h.elim

/-- What one operation comes to. -/
def OpW (P : Program) (G : Ent) (o : Oper) (a : Act) (w : World) (k : KV) : Prop :=
  gives P o a.eval w fun u w' => ∃ v L D n, u = v.enc ∧ k v L D n ∧ SatW G w' L D

theorem opW_val {P : Program} {G : Ent} {o : Oper} {a : Act} {w w' : World} {k : KV} {v : V} {L : List Chunk} {D : List Fact} {n : Nat} (hr : (execOp a.eval o).run P w = .ok (.value v.enc) w') (hk : k v L D n) (hs : SatW G w' L D) : OpW P G o a w k := by
  unfold OpW gives
  rw [hr]
  exact ⟨v, L, D, n, rfl, hk, hs⟩

theorem opW_skip {P : Program} {G : Ent} {o : Oper} {a : Act} {w w' : World} {k : KV} {L : List Chunk} {D : List Fact} {n : Nat} (hr : (execOp a.eval o).run P w = .ok .skip w') (hk : k .t0 L D n) (hs : SatW G w' L D) : OpW P G o a w k := by
  unfold OpW gives
  rw [hr]
  exact ⟨.t0, L, D, n, rfl, hk, hs⟩

/-! ### Lists of cells, built in passing -/

def takeK : Nat → List C → (List C → Prop) → Prop
  | 0, _, k => k []
  | n + 1, x :: xs, k => takeK n xs fun r => k (x :: r)
  | _ + 1, [], _ => False

theorem takeK_sound : ∀ {n : Nat} {xs : List C} {k : List C → Prop}, takeK n xs k → n ≤ xs.length ∧ k (xs.take n)
  | 0, _, _, h => ⟨Nat.zero_le _, by simpa [takeK] using h⟩
  | n + 1, x :: xs, k, h => by
    have := takeK_sound (n := n) (xs := xs) h
    exact ⟨by simp; omega, by simpa using this.2⟩
  | n + 1, [], _, h => h.elim

def setK : Nat → List C → List C → (List C → Prop) → Prop
  | 0, [], cs, k => k cs
  | 0, x :: ns, _ :: cs, k => setK 0 ns cs fun r => k (x :: r)
  | 0, _ :: _, [], _ => False
  | o + 1, ns, c :: cs, k => setK o ns cs fun r => k (c :: r)
  | _ + 1, _, [], _ => False

def setC (o : Nat) (vs l : List C) : List C := l.take o ++ vs ++ l.drop (o + vs.length)

theorem setK_sound : ∀ {o : Nat} {ns cs : List C} {k : List C → Prop}, setK o ns cs k → o + ns.length ≤ cs.length ∧ k (setC o ns cs)
  | 0, [], cs, k, h => ⟨by simp, by simpa [setC, setK] using h⟩
  | 0, x :: ns, c :: cs, k, h => by
    have := setK_sound (o := 0) (ns := ns) (cs := cs) h
    refine ⟨by simpa using this.1, ?_⟩
    have h2 := this.2
    simp only [setC, List.take_zero, List.nil_append, Nat.zero_add, List.length_cons, List.drop_succ_cons, List.cons_append] at h2 ⊢
    exact h2
  | 0, _ :: _, [], _, h => h.elim
  | o + 1, ns, c :: cs, k, h => by
    have := setK_sound (o := o) (ns := ns) (cs := cs) h
    refine ⟨by simp; omega, ?_⟩
    have h2 := this.2
    simp only [setC, List.take_succ_cons, List.cons_append] at h2 ⊢
    rw [show o + 1 + ns.length = (o + ns.length) + 1 by omega, List.drop_succ_cons]
    exact h2
  | _ + 1, _, [], _, h => h.elim

theorem setL_enc (o : Nat) (vs l : List C) : setL o (vs.map C.enc) (l.map C.enc) = (setC o vs l).map C.enc := by
  simp [setL, setC, List.map_take, List.map_drop]

theorem setC_length {o : Nat} {vs l : List C} (h : o + vs.length ≤ l.length) : (setC o vs l).length = l.length := by
  simp [setC]; omega

theorem oneAll_setC {o : Nat} {vs l : List C} (h : oneAll vs) (h' : oneAll l) : oneAll (setC o vs l) := by
  intro x hx
  simp only [setC, List.append_assoc, List.mem_append] at hx
  rcases hx with hx | hx | hx
  · exact h' x (List.mem_of_mem_take hx)
  · exact h x hx
  · exact h' x (List.mem_of_mem_drop hx)

def allOneB : List C → Bool
  | [] => true
  | x :: r => match x.one with
    | true => allOneB r
    | false => false
theorem allOneB_sound : ∀ {cs : List C}, allOneB cs = true → oneAll cs
  | [], _ => fun x hx => by cases hx
  | c :: r, h => by
    simp only [allOneB] at h
    split at h
    · rename_i h1
      intro x hx
      rcases List.mem_cons.1 hx with rfl | hx
      · exact h1
      · exact allOneB_sound h x hx
    · cases h

def oneK (cs : List C) (A : Prop) : Prop := match allOneB cs with | true => A | false => False
theorem oneK_sound {cs : List C} {A : Prop} (h : oneK cs A) : oneAll cs ∧ A := by
  unfold oneK at h
  split at h
  · rename_i h1; exact ⟨allOneB_sound h1, h⟩
  · exact h.elim

def rdK (d : TyD) (cs : List C) (k : V → Prop) : Prop :=
  match d with
  | .st _ | .arr _ _ | .so _ => k (.agg cs)
  | .oth => False
  | _ => match cs with
    | [x] => k (.c x)
    | _ => False
theorem rdK_sound {d : TyD} {cs : List C} {k : V → Prop} (h : rdK d cs k) : ∃ v, k v ∧ v.enc = valOf d cs ∧ d ≠ .oth := by
  unfold rdK at h
  split at h
  · exact ⟨_, h, rfl, by simp⟩
  · exact ⟨_, h, rfl, by simp⟩
  · exact ⟨_, h, rfl, by simp⟩
  · exact h.elim
  · rename_i d h1 h2 h2' h3
    split at h
    · exact ⟨_, h, by unfold valOf; split <;> first | rfl | (exfalso; simp_all), h3⟩
    · exact h.elim

/-- The cells of a value that can be stored. -/
def cellsK (v : V) (k : List C → Prop) : Prop :=
  match v with
  | .c x => k [x]
  | .agg cs => k cs
  | _ => False
theorem cellsK_sound {v : V} {k : List C → Prop} (h : cellsK v k) : ∃ cs, k cs ∧ (oneAll cs → v.enc.cells = (cs.map C.enc).toArray) := by
  unfold cellsK at h
  split at h
  · rename_i x
    refine ⟨_, h, fun h1 => ?_⟩
    have h2 := C.enc_oneCell x (h1 x (by simp))
    simp only [V.enc, List.map_cons, List.map_nil]
    cases hx : x.enc <;> rw [hx] at h2 <;> first | rfl | (simp [Value.oneCell'] at h2)
  · exact ⟨_, h, fun _ => rfl⟩
  · exact h.elim

def natK (a b : Nat) (A : Prop) : Prop := match Nat.beq a b with | true => A | false => False
theorem natK_sound {a b : Nat} {A : Prop} (h : natK a b A) : a = b ∧ A := by
  unfold natK at h
  split at h
  · rename_i h1; exact ⟨Nat.eq_of_beq_eq_true h1, h⟩
  · exact h.elim

/-! ### New blocks -/

theorem kept_alloc {w : World} {o : Obj} : Kept w (w.alloc o) := ⟨rfl, rfl, by simp, fun _ => rfl, fun _ => Nat.le_refl _⟩
theorem kept_setBlk {w : World} {g : Nat} {o : Obj} : Kept w (setBlk w g o) := ⟨rfl, rfl, by rw [setBlk_size]; exact Nat.le_refl _, fun _ => rfl, fun _ => Nat.le_refl _⟩

theorem holds_alloc {w : World} {m : Im} {L : List Chunk} {D : List Fact} (h : Holds w m L D) (o : Obj) (ch : Chunk) (hf : ch.fp = [w.heap.size]) (hok : ch.ok (w.alloc o)) :
    Holds (w.alloc o) m (ch :: L) D ∧ Fr w L m (w.alloc o) (ch :: L) m := by
  have hlt := mem_fps_lt h.ok
  have hold : ∀ b, b < w.heap.size → (w.alloc o).heap[b]? = w.heap[b]? := fun b hb => heap_alloc_old w o hb
  refine ⟨⟨?_, ⟨hok, allOk_of_same h.ok fun b hb => hold b (hlt b hb)⟩, ?_, h.d⟩, ⟨by simp, fun b hb _ => hold b hb, ?_, fun _ _ h => h, fun _ _ h => .inl h, kept_alloc⟩⟩
  · simp only [fps, hf, List.cons_append, List.nil_append, List.nodup_cons]
    exact ⟨fun hc => Nat.lt_irrefl _ (hlt _ hc), h.nd⟩
  · intro b ob hb
    have h1 := h.im b ob hb
    have hlt' : b < w.heap.size := (Array.getElem?_eq_some_iff.1 h1.1).1
    refine ⟨by rw [hold b hlt']; exact h1.1, ?_⟩
    simp only [fps, hf, List.cons_append, List.nil_append, List.mem_cons, not_or]
    exact ⟨Nat.ne_of_lt hlt', h1.2⟩
  · intro b hb
    simp only [fps, hf, List.cons_append, List.nil_append, List.mem_cons] at hb
    rcases hb with rfl | hb
    · exact .inr (Nat.le_refl _)
    · exact .inl hb

theorem satW_alloc {G : Ent} {w : World} {L : List Chunk} {D : List Fact} (h : SatW G w L D) (o : Obj) (ch : Chunk) (hf : ch.fp = [w.heap.size]) (hok : ch.ok (w.alloc o)) : SatW G (w.alloc o) (ch :: L) D := by
  obtain ⟨m, h1, h2⟩ := h
  obtain ⟨h3, h4⟩ := holds_alloc h1 o ch hf hok
  exact ⟨m, h3, h2.trans h4⟩

theorem box_ok_alloc (w : World) (id ty : Nat) (cs : List C) (h1 : oneAll cs) : Chunk.ok (w.alloc (.cells (cs.map C.enc).toArray ty)) (.box id w.heap.size ty cs) :=
  ⟨h1, heap_alloc_new w _⟩

theorem run_newVar (P : Program) (w : World) (t : TypeId) (v : Value) : (newVar t v).run P w = .ok ⟨w.heap.size, 0, none⟩ (w.alloc (.cells v.cells t)) := rfl
theorem run_newRow (P : Program) (w : World) (t : TypeId) (cs : Array Value) : (newRow t cs).run P w = .ok ⟨w.heap.size, 0, none⟩ (w.alloc (.cells cs t)) := rfl

/-- A new box that holds v. -/
def vcBox (T : Ty) (t : Nat) (v : V) (L : List Chunk) (D : List Fact) (nid : Nat) (k : KV) : Prop :=
  cellsK v fun cs => oneK cs (NewP fun ad => k (.c (.p nid ad 0)) (.box nid ad t cs :: L) D (nid + 1))

theorem vcBox_sound {P : Program} {T : Ty} {G : Ent} {o : Oper} {a : Act} {w : World} {t : Nat} {v : V} {L : List Chunk} {D : List Fact} {nid : Nat} {k : KV} (h : vcBox T t v L D nid k) (hs : SatW G w L D)
    (hr : (execOp a.eval o).run P w = .ok (.value (.pointer (some ⟨w.heap.size, 0, none⟩))) (w.alloc (.cells v.enc.cells t))) : OpW P G o a w k := by
  obtain ⟨cs, h, hv⟩ := cellsK_sound h
  obtain ⟨h1, h⟩ := oneK_sound h
  rw [hv h1] at hr
  exact opW_val (v := .c (.p nid w.heap.size 0)) hr (h.k _) (satW_alloc hs _ (.box nid w.heap.size t cs) rfl (box_ok_alloc w nid t cs h1))

/-! ### Boxes -/

def findBox : List Chunk → Nat → Option (Nat × Nat × List C)
  | [], _ => none
  | .box id ad ty cs :: r, n => match Nat.beq id n with
    | true => some (ad, ty, cs)
    | false => findBox r n
  | .row _ _ _ _ _ _ :: r, n => findBox r n
  | .obj _ _ _ :: r, n => findBox r n

def setBoxK : List Chunk → Nat → List C → (List Chunk → Prop) → Prop
  | [], _, _, _ => False
  | .box id ad ty cs :: r, n, cs', k => match Nat.beq id n with
    | true => k (.box id ad ty cs' :: r)
    | false => setBoxK r n cs' fun r' => k (.box id ad ty cs :: r')
  | .row a b c d e f :: r, n, cs', k => setBoxK r n cs' fun r' => k (.row a b c d e f :: r')
  | .obj a b c :: r, n, cs', k => setBoxK r n cs' fun r' => k (.obj a b c :: r')

theorem findBox_split : ∀ {L : List Chunk} {n ad ty : Nat} {cs : List C}, findBox L n = some (ad, ty, cs) → ∃ A B id, L = A ++ .box id ad ty cs :: B ∧ ∀ cs' k, setBoxK L n cs' k → k (A ++ .box id ad ty cs' :: B)
  | .box id ad ty cs :: r, n, ad', ty', cs', h => by
    simp only [findBox] at h
    cases hb : Nat.beq id n with
    | true =>
      rw [hb] at h
      simp only [Option.some.injEq, Prod.mk.injEq] at h
      obtain ⟨rfl, rfl, rfl⟩ := h
      exact ⟨[], r, id, rfl, fun cs' k hk => by simpa [setBoxK, hb] using hk⟩
    | false =>
      rw [hb] at h
      obtain ⟨A, B, id', hL, hk⟩ := findBox_split h
      refine ⟨.box id ad ty cs :: A, B, id', by rw [hL]; rfl, fun cs' k h' => ?_⟩
      simp only [setBoxK, hb] at h'
      exact hk _ _ h'
  | .row a b c d e f :: r, n, ad', ty', cs', h => by
    simp only [findBox] at h
    obtain ⟨A, B, id', hL, hk⟩ := findBox_split h
    refine ⟨.row a b c d e f :: A, B, id', by rw [hL]; rfl, fun cs' k h' => ?_⟩
    simp only [setBoxK] at h'
    exact hk _ _ h'
  | .obj a b c :: r, n, ad', ty', cs', h => by
    simp only [findBox] at h
    obtain ⟨A, B, id', hL, hk⟩ := findBox_split h
    refine ⟨.obj a b c :: A, B, id', by rw [hL]; rfl, fun cs' k h' => ?_⟩
    simp only [setBoxK] at h'
    exact hk _ _ h'
  | [], _, _, _, _, h => by simp [findBox] at h

theorem satW_replace {G : Ent} {w : World} {A B : List Chunk} {ch ch' : Chunk} {D : List Fact} {g : Nat} {o : Obj} (h : SatW G w (A ++ ch :: B) D) (hg : ch.fp = [g]) (hf : ch'.fp = ch.fp) (hok : ch'.ok (setBlk w g o)) (hz : ∀ off, frO (some o) off = frO w.heap[g]? off) :
    SatW G (setBlk w g o) (A ++ ch' :: B) D := by
  obtain ⟨m, h1, h2⟩ := h
  have hfp : fps (A ++ ch' :: B) = fps (A ++ ch :: B) := by simp [fps_append, fps, hf]
  have hnd := h1.nd
  simp only [fps_append, fps, hg] at hnd
  have hmem : g ∈ fps (A ++ ch :: B) := by simp [fps_append, fps, hg]
  have hA : ∀ b ∈ fps A, b ≠ g := fun b hb hc => by
    subst hc
    exact (List.nodup_append.1 hnd).2.2 b hb b (by simp) rfl
  have hB : ∀ b ∈ fps B, b ≠ g := fun b hb hc => by
    subst hc
    have := (List.nodup_append.1 hnd).2.1
    simp at this
    exact this.1 hb
  have hok1 := (allOk_append _ _).1 h1.ok
  refine ⟨m, ⟨by rw [hfp]; exact h1.nd, (allOk_append _ _).2 ⟨allOk_of_same hok1.1 fun b hb => setBlk_ne (hA b hb), hok, allOk_of_same hok1.2.2 fun b hb => setBlk_ne (hB b hb)⟩, ?_, h1.d⟩, ?_⟩
  · intro b ob hb
    have h3 := h1.im b ob hb
    rw [hfp]
    exact ⟨by rw [setBlk_ne (by intro hc; subst hc; exact h3.2 hmem)]; exact h3.1, h3.2⟩
  · refine h2.trans ⟨by rw [setBlk_size]; exact Nat.le_refl _, fun b _ hb => setBlk_ne (by intro hc; subst hc; exact hb hmem), fun b hb => .inl (by rw [← hfp]; exact hb), fun _ _ h => h, fun _ _ h => .inl h, kept_setBlk⟩

/-- A chunk whose block changes is owned no longer. -/
theorem satW_free {G : Ent} {w : World} {A : List Chunk} {ch : Chunk} {D : List Fact} {g : Nat} {o : Obj} (h : SatW G w (ch :: A) D) (hg : ch.fp = [g]) : SatW G (setBlk w g o) A D := by
  obtain ⟨m, h1, h2⟩ := h
  have hnd := h1.nd
  simp only [fps, hg] at hnd
  have hA : ∀ b ∈ fps A, b ≠ g := fun b hb hc => by
    subst hc
    simp at hnd
    exact hnd.1 hb
  have hmem : g ∈ fps (ch :: A) := by simp [fps, hg]
  refine ⟨m, ⟨(by simp at hnd; exact hnd.2), allOk_of_same h1.ok.2 fun b hb => setBlk_ne (hA b hb), ?_, h1.d⟩, ?_⟩
  · intro b ob hb
    have h3 := h1.im b ob hb
    exact ⟨by rw [setBlk_ne (by intro hc; subst hc; exact h3.2 hmem)]; exact h3.1, fun hc => h3.2 (by simp only [fps, List.mem_append]; exact .inr hc)⟩
  · exact h2.trans ⟨by rw [setBlk_size]; exact Nat.le_refl _, fun b _ hb => setBlk_ne (by intro hc; subst hc; exact hb hmem), fun b hb => .inl (by simp only [fps, List.mem_append]; exact .inr hb), fun _ _ h => h, fun _ _ h => .inl h, kept_setBlk⟩

/-! ### Other objects -/

def findObj : List Chunk → Nat → Option (Nat × Obj)
  | [], _ => none
  | .obj id ad o :: r, n => match Nat.beq id n with
    | true => some (ad, o)
    | false => findObj r n
  | .box _ _ _ _ :: r, n => findObj r n
  | .row _ _ _ _ _ _ :: r, n => findObj r n

def setObjK : List Chunk → Nat → Obj → (List Chunk → Prop) → Prop
  | [], _, _, _ => False
  | .obj id ad o :: r, n, o', k => match Nat.beq id n with
    | true => k (.obj id ad o' :: r)
    | false => setObjK r n o' fun r' => k (.obj id ad o :: r')
  | .box a b c d :: r, n, o', k => setObjK r n o' fun r' => k (.box a b c d :: r')
  | .row a b c d e f :: r, n, o', k => setObjK r n o' fun r' => k (.row a b c d e f :: r')

theorem findObj_split : ∀ {L : List Chunk} {n ad : Nat} {o : Obj}, findObj L n = some (ad, o) → ∃ A B id, L = A ++ .obj id ad o :: B ∧ ∀ o' k, setObjK L n o' k → k (A ++ .obj id ad o' :: B)
  | .obj id ad o :: r, n, ad', o', h => by
    simp only [findObj] at h
    cases hb : Nat.beq id n with
    | true =>
      rw [hb] at h
      simp only [Option.some.injEq, Prod.mk.injEq] at h
      obtain ⟨rfl, rfl⟩ := h
      exact ⟨[], r, id, rfl, fun o' k hk => by simpa [setObjK, hb] using hk⟩
    | false =>
      rw [hb] at h
      obtain ⟨A, B, id', hL, hk⟩ := findObj_split h
      refine ⟨.obj id ad o :: A, B, id', by rw [hL]; rfl, fun o' k h' => ?_⟩
      simp only [setObjK, hb] at h'
      exact hk _ _ h'
  | .box a b c d :: r, n, ad', o', h => by
    simp only [findObj] at h
    obtain ⟨A, B, id', hL, hk⟩ := findObj_split h
    refine ⟨.box a b c d :: A, B, id', by rw [hL]; rfl, fun o' k h' => ?_⟩
    simp only [setObjK] at h'
    exact hk _ _ h'
  | .row a b c d e f :: r, n, ad', o', h => by
    simp only [findObj] at h
    obtain ⟨A, B, id', hL, hk⟩ := findObj_split h
    refine ⟨.row a b c d e f :: A, B, id', by rw [hL]; rfl, fun o' k h' => ?_⟩
    simp only [setObjK] at h'
    exact hk _ _ h'
  | [], _, _, _, h => by simp [findObj] at h

structure EqP (a b : Nat) (A : Prop) : Prop where
  h : a = b
  k : A

/-! ### Reading slices -/

def SlF (m : Im) (ety esz : Nat) (a : Option Addr) (n : Nat) (cs : List C) : Prop :=
  oneAll cs ∧ ((n = 0 ∧ cs = []) ∨ ∃ g off cur ty lo hi, a = some ⟨g, off, none⟩ ∧ m g = some (.cells cur ty (lo, hi)) ∧ cs.length = n * esz ∧ (cur.toList.drop off).take (n * esz) = cs.map C.enc)

def slFact (ety esz : Nat) (a : Option Addr) (n : Nat) (cs : List C) : Fact :=
  ⟨fun m => SlF m ety esz a n cs, fun m m' hm h => ⟨h.1, h.2.imp id fun ⟨g, off, cur, ty, lo, hi, h1, h2, h3⟩ => ⟨g, off, cur, ty, lo, hi, h1, hm _ _ h2, h3⟩⟩⟩

/-- The slice (a, n) holds the cells cs: a row of the call's own, or memory that does not change. -/
inductive Reads (L : List Chunk) (D : List Fact) (ety esz : Nat) (a : Option Addr) (n : Nat) (cs : List C) : Prop where
  | inl (h : ∃ c, Chunk.row ety esz a n c cs ∈ L)
  | inr (h : ∀ m, allD m D → SlF m ety esz a n cs)
  | sub (b : Option Addr) (lo N c : Nat) (cs0 : List C) (h : Chunk.row ety esz b N c cs0 ∈ L) (ha : a = b.map (·.add (lo * esz))) (hn : lo + n ≤ N) (hc : cs = (cs0.drop (lo * esz)).take (n * esz))

theorem allOk_mem {w : World} {ch : Chunk} : ∀ {L : List Chunk}, allOk w L → ch ∈ L → ch.ok w
  | c :: r, h, hm => by
    rcases List.mem_cons.1 hm with rfl | hm
    · exact h.1
    · exact allOk_mem h.2 hm
  | [], _, hm => by cases hm

theorem add_zero0 (g k : Nat) : (⟨g, 0, none⟩ : Addr).add k = ⟨g, k, none⟩ := by
  unfold Addr.add
  split
  · rename_i h; rw [h]
  · simp
theorem reads_at {G : Ent} {w : World} {L : List Chunk} {D : List Fact} {ety esz : Nat} {a : Option Addr} {n : Nat} {cs : List C} (h : Reads L D ety esz a n cs) (hs : SatW G w L D) :
    oneAll cs ∧ ((n = 0 ∧ cs = []) ∨ ∃ g off cur ty lo hi, a = some ⟨g, off, none⟩ ∧ w.heap[g]? = some (.cells cur ty (lo, hi)) ∧ cs.length = n * esz ∧ (cur.toList.drop off).take (n * esz) = cs.map C.enc) := by
  obtain ⟨m, h1, _⟩ := hs
  rcases h with ⟨c, hc⟩ | h | ⟨b, lo, N, c, cs0, hm, ha, hn, hcs⟩
  · have := allOk_mem h1.ok hc
    refine ⟨this.1, ?_⟩
    rcases this.2 with ⟨h3, h4, _, h5⟩ | ⟨g, hg, cur, lo, hi, h4, _, _, _, _, h5, h6⟩
    · exact .inl ⟨h4, h5⟩
    · exact .inr ⟨g, 0, cur, ety, lo, hi, hg, h4, h5, by simpa using h6⟩
  · have := h m h1.d
    exact ⟨this.1, this.2.imp id fun ⟨g, off, cur, ty, lo, hi, h3, h4, h5⟩ => ⟨g, off, cur, ty, lo, hi, h3, (h1.im _ _ h4).1, h5⟩⟩
  · have := allOk_mem h1.ok hm
    have hone : oneAll cs := fun x hx => this.1 x (List.mem_of_mem_drop (List.mem_of_mem_take (hcs ▸ hx)))
    refine ⟨hone, ?_⟩
    rcases this.2 with ⟨h3, h4, _, h5⟩ | ⟨g, hg, cur, lo', hi', h4, _, _, _, _, h5, h6⟩
    · exact .inl ⟨by omega, by rw [hcs, h5]; simp⟩
    · have hle : lo * esz + n * esz ≤ N * esz := by rw [← Nat.add_mul]; exact Nat.mul_le_mul_right _ hn
      refine .inr ⟨g, lo * esz, cur, ety, lo', hi', by rw [ha, hg, Option.map_some, add_zero0], h4, by rw [hcs]; simp; omega, ?_⟩
      rw [hcs, List.map_take, List.map_drop, ← h6, List.drop_take, List.take_take, Nat.min_eq_left (by omega)]

inductive LoadE (L : List Chunk) (D : List Fact) (a : Option Addr) (esz : Nat) (ix : Int) (off sz : Nat) (K : List C → Prop) : Prop where
  | mk (ety n : Nat) (cs r : List C) (h : Reads L D ety esz a n cs) (h0 : 0 ≤ ix) (h1 : ix < n) (h2 : off + sz ≤ esz) (hr : (cs.drop (ix.toNat * esz + off)).take sz = r) (k : K r)

inductive StoreE (L : List Chunk) (a : Option Addr) (esz : Nat) (ix : Int) (off : Nat) (ns : List C) (K : List Chunk → Prop) : Prop where
  | mk (A B : List Chunk) (ety n c : Nat) (cs cs' : List C) (h : L = A ++ .row ety esz a n c cs :: B) (h0 : 0 ≤ ix) (h1 : ix < n) (h2 : off + ns.length ≤ esz) (hr : setC (ix.toNat * esz + off) ns cs = cs') (k : K (A ++ .row ety esz a n c cs' :: B))

inductive IdxE (L : List Chunk) (D : List Fact) (a : Option Addr) (n : Nat) (ix : Int) (K : Prop) : Prop where
  | mk (ety esz : Nat) (cs : List C) (h : Reads L D ety esz a n cs) (h0 : 0 ≤ ix) (h1 : ix < n) (k : K)

/-! ### Loads and stores -/

def vcLoad (T : Ty) (t : Nat) (x : V) (L : List Chunk) (D : List Fact) (k : V → Prop) : Prop :=
  match find T t with
  | none => False
  | some i =>
    match x with
    | .c (.p id ad off) =>
      match findBox L id with
      | some (ad', _, cs) => EqP ad ad' (takeK i.size (cs.drop off) fun r => rdK i.d r k)
      | none => False
    | .c (.e a esz ix off) => LoadE L D a esz ix off i.size fun r => rdK i.d r k
    | .c (.raw (.pointer (some ⟨g, off, none⟩))) => LoadE L D (some ⟨g, off, none⟩) i.size 0 0 i.size fun r => rdK i.d r k
    | _ => False

theorem vcLoad_elem {P : Program} {G : Ent} {t : Nat} {i : TyI} (hok : i.ok P t) {a : Option Addr} {esz off : Nat} {ix : Int} {L : List Chunk} {D : List Fact} {k : V → Prop} (h : LoadE L D a esz ix off i.size fun r => rdK i.d r k) :
    ∃ v, k v ∧ ∀ w, SatW G w L D → (Instr.loadAt t (V.c (.e a esz ix off)).enc).run P w = .ok v.enc w := by
  obtain ⟨ety, n, cs, r, hrd, h0, h1, h2, hr, h⟩ := h
  obtain ⟨v, hk, hv, hd⟩ := rdK_sound h
  refine ⟨v, hk, fun w hs => ?_⟩
  rcases (reads_at hrd hs).2 with ⟨hn, _⟩ | ⟨g, off0, cur, ty, lo, hi, ha, hg, hl, hc⟩
  · omega
  · subst ha
    have hp : ix.toNat * esz + esz ≤ n * esz := by
      have : ix.toNat + 1 ≤ n := by omega
      calc ix.toNat * esz + esz = (ix.toNat + 1) * esz := by rw [Nat.add_mul]; simp
        _ ≤ n * esz := Nat.mul_le_mul_right _ this
    have hrl : r.length = i.size := by rw [← hr]; simp; omega
    simp only [Instr.loadAt, V.enc, C.enc, Option.map_some, elemAddr, Instr.sureAddr, Sem.run_bind, Sem.run_pure, Result.andThen_ok]
    rw [run_loadVar_blk hok hd hg _ r hrl ?_, hv]
    rw [hrl, ← hr, List.map_take, List.map_drop, ← hc, List.drop_take, List.take_take, List.drop_drop]
    congr 1
    omega
theorem vcLoad_uni {P : Program} {T : Ty} (hT : TyOK P T) {G : Ent} {t : Nat} {x : V} {L : List Chunk} {D : List Fact} {k : V → Prop} (h : vcLoad T t x L D k) :
    ∃ v, k v ∧ ∀ w, SatW G w L D → (Instr.loadAt t x.enc).run P w = .ok v.enc w := by
  unfold vcLoad at h
  split at h
  · exact h.elim
  · rename_i i hi
    have hok := hT t i hi
    split at h
    · rename_i id ad off
      split at h
      · rename_i ad' ty cs hb
        obtain ⟨h0, h⟩ := h
        subst h0
        obtain ⟨hlen, h⟩ := takeK_sound h
        obtain ⟨v, hk, hv, hd⟩ := rdK_sound h
        obtain ⟨A, B, id', hL, _⟩ := findBox_split hb
        refine ⟨v, hk, fun w hs => ?_⟩
        obtain ⟨m, h1, _⟩ := hs
        have hbx := allOk_mem h1.ok (ch := .box id' ad ty cs) (by rw [hL]; simp)
        simp only [Instr.loadAt, V.enc, C.enc, Instr.sureAddr, Sem.run_bind, Sem.run_pure, Result.andThen_ok]
        have hlen' : ((cs.drop off).take i.size).length = i.size := by simp at hlen ⊢; omega
        rw [run_loadVar_blk hok hd hbx.2 off ((cs.drop off).take i.size) hlen' (by rw [hlen']; simp [List.map_take, List.map_drop]), hv]
      · exact h.elim
    · exact vcLoad_elem hok h
    · rename_i g o
      have hx : V.enc (.c (.raw (.pointer (some ⟨g, o, none⟩)))) = V.enc (.c (.e (some ⟨g, o, none⟩) i.size 0 0)) := by simp [V.enc, C.enc, elemAddr]
      rw [hx]
      exact vcLoad_elem hok h
    · exact h.elim

theorem vcLoad_sound {P : Program} {T : Ty} (hT : TyOK P T) {G : Ent} {w : World} {t : Nat} {x : V} {L : List Chunk} {D : List Fact} {k : V → Prop} (h : vcLoad T t x L D k) (hs : SatW G w L D) :
    ∃ v, k v ∧ (Instr.loadAt t x.enc).run P w = .ok v.enc w := by
  obtain ⟨v, hk, hv⟩ := vcLoad_uni (G := G) hT h
  exact ⟨v, hk, hv w hs⟩

def vcStore (T : Ty) (t : Nat) (x v : V) (L : List Chunk) (k : List Chunk → Prop) : Prop :=
  match find T t with
  | none => False
  | some i =>
    cellsK v fun ns => oneK ns (natK ns.length i.size (
      match x with
      | .c (.p id ad off) =>
        match findBox L id with
        | some (ad', _, cs) => EqP ad ad' (setK off ns cs fun r => setBoxK L id r k)
        | none => False
      | .c (.e a esz ix off) => StoreE L a esz ix off ns k
      | _ => False))

theorem vcStore_sound {P : Program} {T : Ty} (hT : TyOK P T) {G : Ent} {w : World} {t : Nat} {x v : V} {L : List Chunk} {D : List Fact} {k : List Chunk → Prop} (h : vcStore T t x v L k) (hs : SatW G w L D) :
    ∃ L' w', k L' ∧ (Instr.storeAt t x.enc v.enc).run P w = .ok () w' ∧ SatW G w' L' D := by
  unfold vcStore at h
  split at h
  · exact h.elim
  · rename_i i hi
    have hok := hT t i hi
    obtain ⟨ns, hA1, hv⟩ := cellsK_sound h
    clear h
    obtain ⟨h1, hA2⟩ := oneK_sound hA1
    clear hA1
    obtain ⟨hl, h⟩ := natK_sound hA2
    clear hA2
    have hv' := hv h1
    split at h
    · rename_i id ad off
      split at h
      · rename_i ad' ty cs hb
        obtain ⟨h0, h⟩ := h
        subst h0
        obtain ⟨hlen, h⟩ := setK_sound h
        obtain ⟨A, B, id', hL, hset⟩ := findBox_split hb
        have hk := hset _ _ h
        have hs0 := hs
        obtain ⟨m, hh, _⟩ := hs
        have hbx := allOk_mem hh.ok (ch := .box id' ad ty cs) (by rw [hL]; simp)
        refine ⟨_, setBlk w ad (.cells (setL off (ns.map C.enc) (cs.map C.enc)).toArray ty (0, 0)), hk, ?_, ?_⟩
        · simp only [Instr.storeAt, V.enc, C.enc, Instr.sureAddr, Sem.run_bind, Sem.run_pure, Result.andThen_ok]
          exact run_storeVar_blk hok hbx.2 (.inr (Nat.le_refl _)) off ns v.enc hv' hl (by simpa using hlen) h1
        · rw [hL] at hs0
          refine satW_replace hs0 rfl rfl ⟨oneAll_setC h1 hbx.1, ?_⟩ (fun off => by rw [hbx.2]; rfl)
          rw [setBlk_same hbx.2, setL_enc]
      · exact h.elim
    · rename_i a esz ix off
      obtain ⟨A, B, ety, n, c, cs, cs', hL, h0, h2, h3, hr, hk⟩ := h
      subst hL
      have hs0 := hs
      obtain ⟨m, hh, _⟩ := hs
      have hrow := allOk_mem hh.ok (ch := .row ety esz a n c cs) (by simp)
      rcases hrow.2 with ⟨_, hn, _⟩ | ⟨g, ha, cur, lo, hi, hg, hnc, hcm, hsz, hfz, hcl, htk⟩
      · omega
      · subst ha
        have hp : ix.toNat * esz + esz ≤ n * esz := by
          have : ix.toNat + 1 ≤ n := by omega
          calc ix.toNat * esz + esz = (ix.toNat + 1) * esz := by rw [Nat.add_mul]; simp
            _ ≤ n * esz := Nat.mul_le_mul_right _ this
        have hncm : n * esz ≤ c * esz := Nat.mul_le_mul_right _ hnc
        refine ⟨_, setBlk w g (.cells (setL (0 + (ix.toNat * esz + off)) (ns.map C.enc) cur.toList).toArray ety (lo, hi)), hk, ?_, ?_⟩
        · simp only [Instr.storeAt, V.enc, C.enc, Option.map_some, elemAddr, Instr.sureAddr, Sem.run_bind, Sem.run_pure, Result.andThen_ok]
          exact run_storeVar_blk hok hg (hfz.imp_left And.left) _ ns v.enc hv' hl (by omega) h1
        · refine satW_replace hs0 (g := g) (by simp [Chunk.fp]) rfl ⟨by rw [← hr]; exact oneAll_setC h1 hrow.1, .inr ⟨g, rfl, ?_⟩⟩ (fun off => by rw [hg]; rfl)
          refine ⟨_, lo, hi, setBlk_same hg, hnc, hcm, ?_, ?_, ?_, ?_⟩
          · simp only [List.size_toArray, setL, List.length_append, List.length_take, List.length_map, List.length_drop, Array.length_toList]; omega
          · simp only [List.size_toArray, setL, List.length_append, List.length_take, List.length_map, List.length_drop, Array.length_toList]; omega
          · rw [← hr, setC_length (by omega)]; exact hcl
          · rw [← hr, ← setL_enc, ← htk]
            simp only [setL, List.length_map, Nat.zero_add]
            have hcur : cur.toList.length = c * esz := by simpa using hsz
            generalize cur.toList = l at *
            rw [List.append_assoc, List.take_append, List.take_append, List.append_assoc]
            have e1 : List.take (n * esz) (List.take (ix.toNat * esz + off) l) = List.take (ix.toNat * esz + off) (List.take (n * esz) l) := by
              rw [List.take_take, List.take_take, Nat.min_comm]
            have e2 : List.take (n * esz - (List.take (ix.toNat * esz + off) l).length) (ns.map C.enc) = ns.map C.enc := by
              apply List.take_of_length_le; simp; omega
            rw [e1, e2, List.drop_take]
            congr 3
            simp; omega
    · exact h.elim

end Go.X
