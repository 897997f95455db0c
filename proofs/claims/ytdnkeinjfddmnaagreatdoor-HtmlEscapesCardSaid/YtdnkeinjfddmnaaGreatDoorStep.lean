/- This text proves that one rule of the symbolic executor for every operation (the remaining ones among them: fields, indexes, aggregates, slices, conversions, calls) is sound. -/
import Derived.Test.YtdnkeinjfddmnaaGreatDoorExec
import Derived.Great.BuildSlice
set_option linter.all false

namespace Go.X
open Go
variable [Sm : Inhabited Manner] [Df : Inhabited (List Deferred)]

/-! ### Aggregates -/

def partsK (env : Env) : List (Nat × Operand) → (List (Nat × V) → Prop) → Prop
  | [], k => k []
  | (i, x) :: r, k => withE env x fun v => partsK env r fun l => k ((i, v) :: l)

theorem partsK_sound {N : Nat} {env : Env} {a : Act} (he : EnvOK N env a) : ∀ {ps : List (Nat × Operand)} {k : List (Nat × V) → Prop}, partsK env ps k → ∃ l, k l ∧ ps.map (fun (i, x) => (i, a.eval x)) = l.map fun (i, v) => (i, v.enc)
  | [], k, h => ⟨[], h, rfl⟩
  | (i, x) :: r, k, h => by
    obtain ⟨v, hv, h⟩ := withE_elim h
    obtain ⟨l, hl, he'⟩ := partsK_sound he h
    exact ⟨(i, v) :: l, hl, by simp only [List.map_cons, he.ev hv, he']⟩

def fillK (pl : Nat → Option (Nat × Nat)) : List (Nat × V) → List C → (List C → Prop) → Prop
  | [], cs, k => k cs
  | (i, v) :: r, cs, k =>
    match pl i with
    | some (off, size) => cellsK v fun ns => oneK ns (natK ns.length size (setK off ns cs fun cs' => fillK pl r cs' k))
    | none => False

theorem foldl_set (off : Nat) : ∀ (ns : List Value) (j : Nat) (cur : Array Value), off + j + ns.length ≤ cur.size →
    (ns.zipIdx j).foldl (fun cs (p : Value × Nat) => cs.setIfInBounds (off + p.2) p.1) cur = (setL (off + j) ns cur.toList).toArray
  | [], j, cur, _ => by simp [setL]
  | x :: ns, j, cur, h => by
    simp only [List.length_cons] at h
    simp only [List.zipIdx_cons, List.foldl_cons]
    rw [foldl_set off ns (j + 1) _ (by simp; omega)]
    simp only [setL, Array.toList_setIfInBounds]
    congr 1
    have ho' : off + j < cur.toList.length := by simp; omega
    rw [show off + (j + 1) = (off + j) + 1 from rfl, List.take_succ_eq_append_getElem (by simp; omega)]
    simp only [List.getElem_set_self, List.take_set_of_le (Nat.le_refl _), List.append_assoc, List.singleton_append, List.length_cons]
    rw [List.drop_set_of_lt (by omega)]
    congr 3
    omega

theorem fillK_sound {pl : Nat → Option (Nat × Nat)} : ∀ {l : List (Nat × V)} {cs : List C} {k : List C → Prop}, fillK pl l cs k → oneAll cs → ∃ cs', k cs' ∧ oneAll cs' ∧ cs'.length = cs.length ∧
    Instr.fill pl (cs.map C.enc).toArray (l.map fun (i, v) => (i, v.enc)) = some (cs'.map C.enc).toArray
  | [], cs, k, h, h1 => ⟨cs, h, h1, rfl, rfl⟩
  | (i, v) :: r, cs, k, h, h1 => by
    simp only [fillK] at h
    split at h
    · rename_i off size hp
      obtain ⟨ns, hA, hv⟩ := cellsK_sound h
      obtain ⟨h2, hB⟩ := oneK_sound hA
      obtain ⟨hl, hC⟩ := natK_sound hB
      obtain ⟨hlen, hD⟩ := setK_sound hC
      obtain ⟨cs', hk, h3, h4, h5⟩ := fillK_sound hD (oneAll_setC h2 h1)
      refine ⟨cs', hk, h3, by rw [h4, setC_length hlen], ?_⟩
      simp only [List.map_cons, Instr.fill, hp, hv h2]
      simp only [List.size_toArray, List.length_map, hl, ne_eq, not_true_eq_false, false_or, gt_iff_lt, show ¬ cs.length < off + size by omega, decide_false, Bool.false_or, Bool.or_false, decide_not, decide_true, Bool.not_true, Bool.false_eq_true, if_false]
      have := foldl_set off (ns.map C.enc) 0 (cs.map C.enc).toArray (by simpa using hlen)
      simp only [Nat.add_zero] at this
      rw [setL_enc] at this
      have e : (((ns.map C.enc).toArray.zipIdx).foldl (fun cs (p : Value × Nat) => cs.setIfInBounds (off + p.2) p.1) (cs.map C.enc).toArray) = ((setC off ns cs).map C.enc).toArray := by
        rw [← this]
        simp
      rw [← h5]
      congr 1
    · exact h.elim

def placesT (T : Ty) : List (Nat × Nat) → Option (List (Nat × Nat))
  | [] => some []
  | (off, ft) :: r =>
    match find T ft, placesT T r with
    | some i, some l => some ((off, i.size) :: l)
    | _, _ => none

theorem placesT_sound {P : Program} {T : Ty} (hT : TyOK P T) : ∀ {F : List Field} {l : List (Nat × Nat)}, placesT T (F.map fun f => (f.offset, f.type)) = some l → F.mapM (fun f => (P.info? f.type).map fun i => (f.offset, i.size)) = some l
  | [], l, h => by simp [placesT] at h; subst h; rfl
  | f :: F, l, h => by
    simp only [List.map_cons, placesT] at h
    split at h
    · rename_i i l' hi hl'
      simp only [Option.some.injEq] at h
      subst h
      obtain ⟨x, hx, h1, _⟩ := tyI_info (hT _ _ hi)
      have := placesT_sound hT hl'
      simp [List.mapM_cons, hx, this, h1]
    · cases h

def vcBuild (T : Ty) (t : Nat) (l : List (Nat × V)) (k : V → Prop) : Prop :=
  match find T t with
  | none => False
  | some i =>
    match i.d, i.zero with
    | .st fs, .agg z =>
      match placesT T fs with
      | some pl => oneK z (fillK (fun j => pl[j]?) l z fun cs => k (.agg cs))
      | none => False
    | .so fs, .agg z =>
      match placesT T fs with
      | some pl => oneK z (fillK (fun j => pl[j]?) l z fun cs => k (.agg cs))
      | none => False
    | .arr _ e, .agg z =>
      match find T e with
      | some ei => oneK z (fillK (fun j => some (j * ei.size, ei.size)) l z fun cs => k (.agg cs))
      | none => False
    | _, _ => False

theorem vcBuild_sound {P : Program} {T : Ty} (hT : TyOK P T) {t : Nat} {l : List (Nat × V)} {k : V → Prop} (h : vcBuild T t l k) : ∃ v, k v ∧ ∀ w, (Instr.build t (l.map fun (i, v) => (i, v.enc)).toArray).run P w = .ok v.enc w := by
  unfold vcBuild at h
  split at h
  · exact h.elim
  · rename_i i hi
    have hok := hT t i hi
    obtain ⟨x, hx, _, _, hz⟩ := tyI_info hok
    split at h
    · rename_i fs z hd hzz
      have hd' := hok.2.2.2
      rw [hd] at hd'
      split at h
      · rename_i pl hpl
        obtain ⟨h1, h⟩ := oneK_sound h
        obtain ⟨cs, hk, _, _, hf⟩ := fillK_sound h h1
        refine ⟨_, hk, fun w => run_build w t _ _ ?_⟩
        rw [← hd'.2.1] at hpl
        have hp := placesT_sound hT hpl
        simp only [Program.built, hx, hd'.1, hz, hp, hzz]
        simpa [V.enc, Value.cells] using hf
      · exact h.elim
    · rename_i fs z hd hzz
      have hd' := hok.2.2.2
      rw [hd] at hd'
      split at h
      · rename_i pl hpl
        obtain ⟨h1, h⟩ := oneK_sound h
        obtain ⟨cs, hk, _, _, hf⟩ := fillK_sound h h1
        refine ⟨_, hk, fun w => run_build w t _ _ ?_⟩
        rw [← hd'.2] at hpl
        have hp := placesT_sound hT hpl
        simp only [Program.built, hx, hd'.1, hz, hp, hzz]
        simpa [V.enc, Value.cells] using hf
      · exact h.elim
    · rename_i n e z hd hzz
      have hd' := hok.2.2.2
      rw [hd] at hd'
      split at h
      · rename_i ei hei
        obtain ⟨y, hy, hy1, _⟩ := tyI_info (hT _ _ hei)
        obtain ⟨h1, h⟩ := oneK_sound h
        obtain ⟨cs, hk, _, _, hf⟩ := fillK_sound h h1
        refine ⟨_, hk, fun w => run_build w t _ _ ?_⟩
        simp only [TyD.ok] at hd'
        simp only [Program.built, hx, hd', hz, hy, hzz, hy1]
        simpa [V.enc, Value.cells] using hf
      · exact h.elim
    · exact h.elim

/-! ### Fields -/

def vcField (T : Ty) (t : Nat) (x : V) (f : Nat) (k : V → Prop) : Prop :=
  match find T t with
  | none => False
  | some i =>
    match i.d, x with
    | .st fs, .agg cs =>
      match fs[f]? with
      | some (off, ft) =>
        match find T ft with
        | some fi => takeK fi.size (cs.drop off) fun r => rdK fi.d r k
        | none => False
      | none => False
    | _, _ => False

theorem fieldsOf_get {P : Program} {t : Nat} {fs : List (Nat × Nat)} {f off ft : Nat} (h : (P.fieldsOf t).toList.map (fun f => (f.offset, f.type)) = fs) (hf : fs[f]? = some (off, ft)) :
    ∃ x, (P.fieldsOf t)[f]? = some x ∧ x.offset = off ∧ x.type = ft := by
  rw [← h, List.getElem?_map] at hf
  cases hx : (P.fieldsOf t).toList[f]? with
  | none => rw [hx] at hf; simp at hf
  | some x =>
    rw [hx] at hf
    simp at hf
    exact ⟨x, by simpa using hx, hf.1, hf.2⟩

theorem rd_part {P : Program} {w : World} {ft : TypeId} {fi : TyI} (hok : fi.ok P ft) {cs : List C} {off : Nat} {k : V → Prop} (h : takeK fi.size (cs.drop off) fun r => rdK fi.d r k) :
    ∃ v, k v ∧ (part ft (cs.map C.enc).toArray off).run P w = .ok v.enc w := by
  obtain ⟨hlen, h⟩ := takeK_sound h
  obtain ⟨v, hk, hv, hd⟩ := rdK_sound h
  refine ⟨v, hk, ?_⟩
  rw [run_part hok hd cs off ?_ w, hv]
  cases ha : isAggD fi.d with
  | true => exact .inl rfl
  | false =>
    have := hok.2.2.1.resolve_left (by simp [ha])
    right
    simp at hlen
    omega

theorem vcField_sound {P : Program} {T : Ty} (hT : TyOK P T) {t : Nat} {x : V} {f : Nat} {k : V → Prop} (h : vcField T t x f k) : ∃ v, k v ∧ ∀ w, (Instr.field t x.enc f).run P w = .ok v.enc w := by
  unfold vcField at h
  split at h
  · exact h.elim
  · rename_i i hi
    split at h
    · rename_i fs cs hd
      have hd' := (hT t i hi).2.2.2
      rw [hd] at hd'
      split at h
      · rename_i off ft hf
        split at h
        · rename_i fi hfi
          obtain ⟨y, hy, h1, h2⟩ := fieldsOf_get hd'.2.1 hf
          have key := fun w => rd_part (P := P) (w := w) (hT _ _ hfi) h
          obtain ⟨v, hk, _⟩ := key default
          have hrun : ∀ w, (Instr.field t (V.agg cs).enc f).run P w = (part ft (cs.map C.enc).toArray off).run P w := fun w => by
            simp only [Instr.field, Sem.run_bind, run_underlying hd'.1, Result.andThen_ok, hy, V.enc, asAgg, Sem.run_pure, h1, h2]
          -- the cells read are the same in every world
          obtain ⟨hlen, h⟩ := takeK_sound h
          obtain ⟨v, hk, hv, hdd⟩ := rdK_sound h
          refine ⟨v, hk, fun w => ?_⟩
          rw [hrun w]
          have hok := hT _ _ hfi
          rw [run_part hok hdd cs off ?_ w, hv]
          cases ha : isAggD fi.d with
          | true => exact .inl rfl
          | false =>
            have := hok.2.2.1.resolve_left (by simp [ha])
            right
            simp at hlen
            omega
        · exact h.elim
      · exact h.elim
    · exact h.elim

def nzK (a : Nat) (A : Prop) : Prop := match a with | 0 => False | _ + 1 => A
theorem nzK_sound {a : Nat} {A : Prop} (h : nzK a A) : a ≠ 0 ∧ A := by cases a with | zero => exact h.elim | succ n => exact ⟨by simp, h⟩

/-- The slice whose base is 'a' holds something: the base is no nil. -/
inductive FldE (L : List Chunk) (D : List Fact) (a : Option Addr) (K : Prop) : Prop where
  | mk (ety esz n : Nat) (cs : List C) (h : Reads L D ety esz a n cs) (hn : 0 < n) (k : K)

theorem fldE_some {G : Ent} {L : List Chunk} {D : List Fact} {a : Option Addr} {K : Prop} (h : FldE L D a K) : K ∧ ∀ w, SatW G w L D → ∃ b, a = some b := by
  obtain ⟨ety, esz, n, cs, hr, hn, hk⟩ := h
  refine ⟨hk, fun w hs => ?_⟩
  rcases (reads_at hr hs).2 with ⟨h0, _⟩ | ⟨g, off, cur, ty, lo, hi, ha, _⟩
  · omega
  · exact ⟨_, ha⟩

def fldsD : TyD → Option (List (Nat × Nat))
  | .st fs => some fs
  | .so fs => some fs
  | _ => none

def vcFieldAddr (T : Ty) (t : Nat) (x : V) (f : Nat) (L : List Chunk) (D : List Fact) (k : V → Prop) : Prop :=
  match find T t with
  | none => False
  | some i =>
    match fldsD i.d with
    | some fs =>
      match fs[f]? with
      | some (off, ft) =>
        match find T ft with
        | some fi => nzK fi.size (
          match x with
          | .c (.p id ad o) => k (.c (.p id ad (o + off)))
          | .c (.e a esz ix o) => FldE L D a (k (.c (.e a esz ix (o + off))))
          | _ => False)
        | none => False
      | none => False
    | none => False

theorem run_fieldAt {P : Program} {w : World} {t f : Nat} {fs : List (Nat × Nat)} {off ft : Nat} {fi : TyI} (hd : TyD.ok P t (.so fs)) (hf : fs[f]? = some (off, ft)) (hok : fi.ok P ft) (hz : fi.size ≠ 0) (a : Addr) (hs : a.spot = none) :
    (Instr.fieldAt t (.pointer (some a)) f).run P w = .ok (.pointer (some ⟨a.block, a.off + off, none⟩)) w := by
  obtain ⟨y, hy, h1, h2⟩ := fieldsOf_get hd.2 hf
  have hok' : fi.ok P y.type := by rw [h2]; exact hok
  obtain ⟨b, o, s⟩ := a
  simp only at hs
  subst hs
  simp only [Instr.fieldAt, Sem.run_bind, run_underlying hd.1, Result.andThen_ok, hy, Instr.sureAddr, Sem.run_pure, fieldPlace, run_sizeOf hok', Sem.run_ite, hz, if_false, addr_add, h1]

theorem vcFieldAddr_uni {P : Program} {T : Ty} (hT : TyOK P T) {G : Ent} {t : Nat} {x : V} {f : Nat} {L : List Chunk} {D : List Fact} {k : V → Prop} (h : vcFieldAddr T t x f L D k) :
    ∃ v, k v ∧ ∀ w, SatW G w L D → (Instr.fieldAt t x.enc f).run P w = .ok v.enc w := by
  unfold vcFieldAddr at h
  split at h
  · exact h.elim
  · rename_i i hi
    split at h
    · rename_i fs hd
      have hd' : TyD.ok P t (.so fs) := by
        have h0 := (hT t i hi).2.2.2
        cases hdd : i.d <;> rw [hdd] at hd h0 <;> simp only [fldsD, Option.some.injEq] at hd <;> first | (cases hd; done) | (subst hd; first | exact h0 | exact ⟨h0.1, h0.2.1⟩)
      split at h
      · rename_i off ft hf
        split at h
        · rename_i fi hfi
          obtain ⟨hz, hA⟩ := nzK_sound h
          clear h
          split at hA
          · exact ⟨_, hA, fun w _ => run_fieldAt hd' hf (hT _ _ hfi) hz _ rfl⟩
          · rename_i a esz ix o
            obtain ⟨hk, ha⟩ := fldE_some (G := G) hA
            refine ⟨_, hk, fun w hs => ?_⟩
            obtain ⟨b, rfl⟩ := ha w hs
            have := run_fieldAt (w := w) hd' hf (hT _ _ hfi) hz (elemAddr esz ix o b) rfl
            simp only [V.enc, C.enc, Option.map_some, elemAddr] at this ⊢
            rw [this]
            simp only [Nat.add_assoc]
          · exact hA.elim
        · exact h.elim
      · exact h.elim
    · exact h.elim

/-! ### Indexes -/

/-- An index into an array's value. -/
inductive IdxA (cs : List C) (len esz : Nat) (ix : Int) (K : List C → Prop) : Prop where
  | mk (r : List C) (h0 : 0 ≤ ix) (h1 : ix < len) (hr : (cs.drop (ix.toNat * esz)).take esz = r) (hl : r.length = esz) (k : K r)

def vcIndex (T : Ty) (t : Nat) (x ix : V) (k : V → Prop) : Prop :=
  match find T t with
  | none => False
  | some i =>
    match i.d, x, ix with
    | .str, .c (.s l), .c (.i _ n) => SideP (0 ≤ n ∧ n < l.length) (k (.c (.i .u8 ((l.getD n.toNat 0).toNat : Int))))
    | .arr len e, .agg cs, .c (.i _ j) =>
      match find T e with
      | some ei => IdxA cs len ei.size j fun r => rdK ei.d r k
      | none => False
    | _, _, _ => False

theorem vcIndex_sound {P : Program} {T : Ty} (hT : TyOK P T) {t : Nat} {x ix : V} {k : V → Prop} (h : vcIndex T t x ix k) : ∃ v, k v ∧ ∀ w, (Instr.index t x.enc ix.enc).run P w = .ok v.enc w := by
  unfold vcIndex at h
  split at h
  · exact h.elim
  · rename_i i hi
    have hd' := (hT t i hi).2.2.2
    split at h
    · rename_i l kd n hd
      rw [hd] at hd'
      refine ⟨_, h.k, fun w => ?_⟩
      obtain ⟨h0, h1⟩ := h.h
      have hlt : n.toNat < l.length := by omega
      simp only [V.enc, C.enc]
      rw [run_index_string w t _ kd n hd']
      have hb : 0 ≤ n ∧ n < ((⟨⟨l⟩⟩ : ByteArray).size : Int) := ⟨h0, by rw [mk_size]; exact h1⟩
      rw [dif_pos hb]
      have e1 : (⟨⟨l⟩⟩ : ByteArray)[n.toNat]'(by rw [mk_size]; exact hlt) = l[n.toNat] := rfl
      have e2 : l.getD n.toNat 0 = l[n.toNat] := by simp [List.getD_eq_getElem?_getD, List.getElem?_eq_getElem hlt]
      rw [e1, e2]
    · rename_i len e cs kd j hd
      rw [hd] at hd'
      split at h
      · rename_i ei hei
        obtain ⟨r, h0, h1, hr, hl, h⟩ := h
        obtain ⟨v, hk, hv, hdd⟩ := rdK_sound h
        refine ⟨v, hk, fun w => ?_⟩
        have hok := hT _ _ hei
        simp only [TyD.ok] at hd'
        have hcond : 0 ≤ j ∧ j < (len : Int) := ⟨h0, h1⟩
        simp only [Instr.index, V.enc, C.enc, asIntOf, Sem.run_bind, Sem.run_pure, Result.andThen_ok, run_underlying hd', Sem.run_ite, run_sizeOf hok]
        rw [if_pos hcond, run_part hok hdd cs (j.toNat * ei.size) ?_ w, hr, hv]
        cases ha : isAggD ei.d with
        | true => exact .inl rfl
        | false =>
          have := hok.2.2.1.resolve_left (by simp [ha])
          right
          rw [← hr] at hl
          simp at hl
          omega
      · exact h.elim
    · exact h.elim

def vcIndexAddr (T : Ty) (t : Nat) (x ix : V) (L : List Chunk) (D : List Fact) (k : V → Prop) : Prop :=
  match find T t with
  | none => False
  | some i =>
    match i.d, x, ix with
    | .sl e, .c (.sl a n _), .c (.i _ j) =>
      match find T e with
      | some ei => IdxE L D a n j (k (.c (.e a ei.size j 0)))
      | none => False
    | .arr len e, .c (.p id ad o), .c (.i _ (.ofNat j)) =>
      match find T e, Nat.ble (j + 1) len with
      | some ei, true => k (.c (.p id ad (o + j * ei.size)))
      | _, _ => False
    | .arr len e, .c (.e a esz (.ofNat i) o), .c (.i _ j) =>
      match find T e with
      | some ei => FldE L D a (SideP (0 ≤ j ∧ j < len) (k (.c (.e a ei.size j (i * esz + o)))))
      | none => False
    | _, _, _ => False

theorem vcIndexAddr_uni {P : Program} {T : Ty} (hT : TyOK P T) {G : Ent} {t : Nat} {x ix : V} {L : List Chunk} {D : List Fact} {k : V → Prop} (h : vcIndexAddr T t x ix L D k) :
    ∃ v, k v ∧ ∀ w, SatW G w L D → (Instr.indexAt t x.enc ix.enc).run P w = .ok v.enc w := by
  unfold vcIndexAddr at h
  split at h
  · exact h.elim
  · rename_i i hi
    have hd' := (hT t i hi).2.2.2
    split at h
    · rename_i e a n c kd j hd
      rw [hd] at hd'
      simp only [TyD.ok] at hd'
      split at h
      · rename_i ei hei
        obtain ⟨ety, esz, cs, hr, h0, h1, hk⟩ := h
        refine ⟨_, hk, fun w hs => ?_⟩
        rcases (reads_at hr hs).2 with ⟨hn, _⟩ | ⟨g, off0, cur, ty, lo, hi, ha, _⟩
        · omega
        · subst ha
          have hcond : 0 ≤ j ∧ j < (n : Int) := ⟨h0, h1⟩
          simp only [Instr.indexAt, V.enc, C.enc, asIntOf, Sem.run_bind, Sem.run_pure, Result.andThen_ok, run_underlying hd', Sem.run_ite, run_sizeOf (hT _ _ hei), if_pos hcond, addr_add, Option.map_some, elemAddr, Nat.add_zero]
      · exact h.elim
    · rename_i len e id ad o kd j hd
      rw [hd] at hd'
      simp only [TyD.ok] at hd'
      split at h
      · rename_i ei hei hle
        have hj : j < len := Nat.le_of_ble_eq_true hle
        refine ⟨_, h, fun w hs => ?_⟩
        have hcond : 0 ≤ Int.ofNat j ∧ Int.ofNat j < (len : Int) := ⟨Int.natCast_nonneg _, by simpa using hj⟩
        have e1 : (Int.ofNat j).toNat = j := rfl
        simp only [Instr.indexAt, V.enc, C.enc, asIntOf, Sem.run_bind, Sem.run_pure, Result.andThen_ok, run_underlying hd', Instr.sureAddr, Sem.run_ite, run_sizeOf (hT _ _ hei), if_pos hcond, addr_add, e1]
      · exact h.elim
    · rename_i len e a esz i o kd j hd
      rw [hd] at hd'
      simp only [TyD.ok] at hd'
      split at h
      · rename_i ei hei
        obtain ⟨hk, ha⟩ := fldE_some (G := G) h
        refine ⟨_, hk.k, fun w hs => ?_⟩
        obtain ⟨b, rfl⟩ := ha w hs
        have hcond := hk.h
        have e1 : (Int.ofNat i).toNat = i := rfl
        simp only [Instr.indexAt, V.enc, C.enc, asIntOf, Sem.run_bind, Sem.run_pure, Result.andThen_ok, run_underlying hd', Instr.sureAddr, Sem.run_ite, run_sizeOf (hT _ _ hei), if_pos hcond, addr_add, Option.map_some, elemAddr, e1]
        congr 4
        omega
      · exact h.elim
    · exact h.elim

theorem vcIndexAddr_sound {P : Program} {T : Ty} (hT : TyOK P T) {G : Ent} {w : World} {t : Nat} {x ix : V} {L : List Chunk} {D : List Fact} {k : V → Prop} (h : vcIndexAddr T t x ix L D k) (hs : SatW G w L D) :
    ∃ v, k v ∧ (Instr.indexAt t x.enc ix.enc).run P w = .ok v.enc w := by
  obtain ⟨v, hk, hv⟩ := vcIndexAddr_uni (G := G) hT h
  exact ⟨v, hk, hv w hs⟩

end Go.X
