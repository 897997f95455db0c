/- This text proves, for any program, that a contract in the executor's form, whose result is true and whose memory is untouched, gives what a row asks of a law; and opens arguments of plain types. No condition. -/
import Derived.Test.YtdnkeinjfddmnaaGreatDoorLib
import Derived.ProofKit
import Derived.OpenShut
import Derived.Deep.DeepHandedRow
import Derived.WideKeyArgs
set_option linter.all false

namespace Go.X
open Go Go.ChangeShapes Go.WideShapes

section
variable {H : Type} {enc : TypeId × Value → H} {P : Program} {w : World} {base : Nat} {sp : Nat → Bool} {held : Bool}

/-- A reading of cells of type t yields a plain value g, whose cells they are. -/
def OpenS (P : Program) (w : World) (t : Nat) {α : Type} (F : α → List C) (Q : α → Prop) : Prop :=
  ∀ {H : Type} (enc : TypeId × Value → H) (base : Nat) (sp : Nat → Bool) (held : Bool) (n : Nat) (cs : List Value) (x : DataW H × List MemPlace), DataW.trod enc P w base sp held n t cs = some x → ∃ g, cs = (F g).map C.enc ∧ Q g

theorem lit_inR {k : IntKind} {n : Int} (h : (Lit.int k n).wf = true) : inR k n := by
  cases k <;> simp [Lit.wf, IntKind.min, IntKind.max, IntKind.bits, IntKind.signed] at h <;> simp only [inR] <;> omega

theorem openS_int {t : Nat} {k : IntKind} (ht : P.underlying t = some (.int k)) : OpenS P w t (fun n : Int => [.i k n]) (inR k) := by
  intro H enc base sp held n cs x h
  obtain ⟨m, hm, _, hw⟩ := DataW.trod_int ht (fuel := n) h
  exact ⟨m, hm, lit_inR hw⟩
theorem openS_str {t : Nat} (ht : P.underlying t = some .string) : OpenS P w t (fun l : List UInt8 => [.s l]) (fun l => l.length ≤ maxLen) := by
  intro H enc base sp held n cs x h
  obtain ⟨s, hs, _, hl⟩ := DataW.trod_string ht (fuel := n) h
  obtain ⟨⟨l⟩⟩ := s
  exact ⟨l, hs, hl⟩
theorem openS_bool {t : Nat} (ht : P.underlying t = some .bool) : OpenS P w t (fun b : Bool => [.b b]) (fun _ => True) := by
  intro H enc base sp held n cs x h
  obtain ⟨b, hb, _⟩ := DataW.trod_bool ht (fuel := n) h
  exact ⟨b, hb, trivial⟩

/-- The fields from cell o on. -/
def OpenF (P : Program) (w : World) (fs : List (Nat × Nat)) (o size : Nat) {α : Type} (F : α → List C) (Q : α → Prop) : Prop :=
  ∀ {H : Type} (enc : TypeId × Value → H) (base : Nat) (sp : Nat → Bool) (held : Bool) (n : Nat) (cs : List Value) (xs : List (DataW H × List MemPlace)), cs.length = size →
    (fs.mapM fun f => DataW.trod enc P w base sp held n f.2 ((cs.drop f.1).take (P.cellsOf f.2))) = some xs → ∃ g, cs.drop o = (F g).map C.enc ∧ Q g

theorem openF_nil {o : Nat} : OpenF P w [] o o (fun _ : Unit => []) (fun _ => True) := by
  intro H enc base sp held n cs xs hl h
  exact ⟨(), by rw [List.drop_of_length_le (by omega)]; rfl, trivial⟩
theorem openF_cons {ft o z size : Nat} {fs : List (Nat × Nat)} {α β : Type} {F : α → List C} {Q : α → Prop} {F' : β → List C} {Q' : β → Prop} (hz : P.cellsOf ft = z) (h1 : OpenS P w ft F' Q') (h2 : OpenF P w fs (o + z) size F Q) (hle : o + z ≤ size) :
    OpenF P w ((o, ft) :: fs) o size (fun g : β × α => F' g.1 ++ F g.2) (fun g => Q' g.1 ∧ Q g.2) := by
  intro H enc base sp held n cs xs hl h
  rw [List.mapM_cons] at h
  simp only [Option.bind_eq_bind, Option.bind_eq_some_iff] at h
  obtain ⟨x, hx, ys, hys, _⟩ := h
  obtain ⟨g', hg', hq'⟩ := h1 enc base sp held n _ x hx
  obtain ⟨g, hg, hq⟩ := h2 enc base sp held n cs ys hl hys
  refine ⟨(g', g), ?_, hq', hq⟩
  rw [List.map_append, ← hg', ← hg, hz, ← List.drop_drop]
  exact (List.take_append_drop _ _).symm

theorem openS_struct {t size : Nat} {fs : List (Nat × Nat)} {α : Type} {F : α → List C} {Q : α → Prop} (hd : TyD.ok P t (.st fs)) (hs : P.cellsOf t = size) (h : OpenF P w fs 0 size F Q) : OpenS P w t F Q := by
  intro H enc base sp held n cs x hx
  cases n with
  | zero => simp [DataW.trod] at hx
  | succ n =>
    simp only [DataW.trod, hd.1] at hx
    split at hx
    · rename_i hl
      simp only [Option.map_eq_some_iff] at hx
      obtain ⟨xs, hxs, _⟩ := hx
      have hmap : ((P.fieldsOf t).toList.map fun f => (f.offset, f.type)).mapM (fun f => DataW.trod enc P w base sp held n f.2 ((cs.drop f.1).take (P.cellsOf f.2))) = some xs := by
        rw [List.mapM_map]; exact hxs
      rw [hd.2.1] at hmap
      have := h enc base sp held n cs xs (by rw [hl, hs]) hmap
      simpa using this
    · cases hx

theorem cellsOf_ty {t : Nat} {i : TyI} (h : i.ok P t) : P.cellsOf t = i.size := by
  obtain ⟨x, hx, h1, _⟩ := tyI_info h
  simp [Program.cellsOf, hx, h1]

/-- What a slice that is read holds: the memory is that of the world. -/
structure SlOK (w : World) (esz : Nat) (cs : List C) (a : Option Addr) (n c : Nat) : Prop where
  le : n ≤ c
  max : c ≤ maxLen
  f : ∃ ety, SlF (fun b => w.heap[b]?) ety esz a n cs

theorem cells_get {w : World} {a : Addr} {base n : Nat} {cs : List Value} (ha : a.spot = none) (h : w.cells? base a n = some cs) (hn : n ≠ 0) : ∃ cur t fr, w.heap[a.block]? = some (.cells cur t fr) ∧ cs.length = n ∧ (cur.toList.drop a.off).take n = cs := by
  obtain ⟨b, off, _⟩ := a
  simp only at ha
  subst ha
  unfold World.cells? at h
  split at h
  · have hall : ∀ (m : Nat) (o : Nat) (l : List Value), ((List.range' o m).mapM fun i => w.cell? ((⟨b, off, none⟩ : Addr).add i)) = some l → l.length = m ∧ ∀ j : Nat, j < m → w.cell? ⟨b, off + (o + j), none⟩ = l[j]? := by
      intro m
      induction m with
      | zero => intro o l hl; simp at hl; subst hl; simp
      | succ m ih =>
        intro o l hl
        rw [List.range'_succ, List.mapM_cons] at hl
        simp only [Option.bind_eq_bind, Option.bind_eq_some_iff] at hl
        obtain ⟨x, hx, ys, hys, hl⟩ := hl
        simp at hl
        subst hl
        obtain ⟨h1, h2⟩ := ih (o + 1) ys hys
        refine ⟨by simp [h1], fun j hj => ?_⟩
        rw [addr_add] at hx
        cases j with
        | zero => simpa using hx
        | succ j =>
          have := h2 j (by omega)
          rw [List.getElem?_cons_succ, ← this]
          congr 2
          omega
    rw [List.range_eq_range'] at h
    obtain ⟨h1, h2⟩ := hall n 0 cs h
    have h0 := h2 0 (by omega)
    have hlt : 0 < cs.length := by omega
    rw [List.getElem?_eq_getElem hlt] at h0
    cases hb : w.heap[b]? with
    | none => simp [World.cell?, hb] at h0
    | some o =>
      cases o with
      | cells cur t fr =>
        refine ⟨cur, t, fr, rfl, h1, ?_⟩
        apply List.ext_getElem?
        intro j
        by_cases hj : j < n
        · have := h2 j hj
          simp only [World.cell?, hb] at this
          rw [List.getElem?_take_of_lt hj, List.getElem?_drop, ← this]
          simp
        · have hn1 : cs[j]? = none := List.getElem?_eq_none (by omega)
          rw [hn1]
          exact List.getElem?_eq_none (by simp; omega)
      | _ => simp [World.cell?, hb] at h0
  · cases h

theorem mapM_all {α β : Type} {f : α → Option β} : ∀ {l : List α} {ys : List β}, l.mapM f = some ys → ys.length = l.length ∧ ∀ (i : Nat) x, l[i]? = some x → ∃ y, ys[i]? = some y ∧ f x = some y
  | [], ys, h => by simp at h; subst h; simp
  | x :: l, ys, h => by
    rw [List.mapM_cons] at h
    simp only [Option.bind_eq_bind, Option.bind_eq_some_iff] at h
    obtain ⟨y, hy, zs, hzs, h⟩ := h
    simp at h
    subst h
    obtain ⟨h1, h2⟩ := mapM_all hzs
    refine ⟨by simp [h1], fun i u hu => ?_⟩
    cases i with
    | zero => simp at hu; subst hu; exact ⟨y, rfl, hy⟩
    | succ i => exact h2 i u (by simpa using hu)

theorem choose_list {α β : Type} {R : Nat → α → Prop} : ∀ (n : Nat), (∀ i, i < n → ∃ g, R i g) → ∃ gs : List α, gs.length = n ∧ ∀ (i : Nat) g, gs[i]? = some g → R i g
  | 0, _ => ⟨[], rfl, by simp⟩
  | n + 1, h => by
    obtain ⟨gs, h1, h2⟩ := choose_list (β := β) n fun i hi => h i (by omega)
    obtain ⟨g, hg⟩ := h n (by omega)
    refine ⟨gs ++ [g], by simp [h1], fun i u hu => ?_⟩
    by_cases hi : i < n
    · rw [List.getElem?_append_left (by omega)] at hu; exact h2 i u hu
    · by_cases hin : i = n
      · subst hin; rw [List.getElem?_append_right (by omega)] at hu; simp [h1] at hu; subst hu; exact hg
      · rw [List.getElem?_eq_none (by simp; omega)] at hu; cases hu

theorem flatMap_window {α : Type} (F : α → List C) (z : Nat) : ∀ (gs : List α) (l : List Value), (∀ (i : Nat) g, gs[i]? = some g → (l.drop (i * z)).take z = (F g).map C.enc ∧ (F g).length = z) → l.take (gs.length * z) = (gs.flatMap F).map C.enc
  | [], l, _ => by simp
  | g :: gs, l, h => by
    have h0 := (h 0 g rfl).1
    simp only [Nat.zero_mul, List.drop_zero] at h0
    have ih := flatMap_window F z gs (l.drop z) fun i u hu => by
      have := h (i + 1) u (by simpa using hu)
      rw [List.drop_drop, show z + i * z = (i + 1) * z by rw [Nat.add_mul]; omega]
      exact this
    rw [List.flatMap_cons, List.map_append, ← h0, ← ih, List.length_cons, Nat.add_mul, Nat.one_mul, Nat.add_comm, List.take_add]

theorem flatMap_len {α : Type} {F : α → List C} {z : Nat} : ∀ {gs : List α}, (∀ g ∈ gs, (F g).length = z) → (gs.flatMap F).length = gs.length * z
  | [], _ => by simp
  | g :: gs, h => by rw [List.flatMap_cons, List.length_append, h g (by simp), flatMap_len fun u hu => h u (by simp [hu]), List.length_cons, Nat.add_mul]; omega

/-- A slice whose elements open. -/
theorem openS_slice {t e z : Nat} {α : Type} {F : α → List C} {Q : α → Prop} (ht : P.underlying t = some (.slice e)) (hz : P.cellsOf e = z) (hz0 : z ≠ 0) (hone : ∀ g, oneAll (F g)) (h : OpenS P w e F Q) :
    OpenS P w t (fun g : Option Addr × Nat × Nat × List α => [.sl g.1 g.2.1 g.2.2.1]) (fun g => g.2.1 = g.2.2.2.length ∧ SlOK w z (g.2.2.2.flatMap F) g.1 g.2.1 g.2.2.1 ∧ ∀ x ∈ g.2.2.2, Q x ∧ (F x).length = z) := by
  intro H enc base sp held n cs x hx
  cases n with
  | zero => simp [DataW.trod] at hx
  | succ n =>
    unfold DataW.trod at hx
    rw [ht] at hx
    split at hx <;> try (rename_i h1 _; cases h1; done)
    all_goals try (cases hx; done)
    all_goals try (rename_i h1; cases h1; done)
    · exact ⟨(none, 0, 0, []), rfl, rfl, ⟨Nat.le_refl _, by simp [maxLen], 0, ⟨fun y hy => (by cases hy), .inl ⟨rfl, rfl⟩⟩⟩, by simp⟩
    · rename_i e' a len cap h1
      simp only [Option.some.injEq] at h1
      cases h1
      simp only at hx
      split at hx
      · rename_i hb
        obtain ⟨hb1, hb2, hb3⟩ := hb
        simp only [Option.bind_eq_some_iff] at hx
        obtain ⟨els, hels, _⟩ := hx
        obtain ⟨hlen, hall⟩ := mapM_all hels
        have hsp : len ≠ 0 → a.spot = none := fun h0 => by
          obtain ⟨y, _, hy⟩ := hall 0 0 (by rw [List.getElem?_range (by omega)])
          simp only [Option.bind_eq_some_iff] at hy
          obtain ⟨cs, hcs, _⟩ := hy
          rw [hz] at hcs
          unfold World.cells? at hcs
          split at hcs
          · obtain ⟨h1, h2⟩ := mapM_all hcs
            obtain ⟨y0, _, hy0⟩ := h2 0 0 (by rw [List.getElem?_range (by omega)])
            obtain ⟨b, off, so⟩ := a
            cases so with
            | none => rfl
            | some q => unfold World.cell? Addr.add at hy0; simp at hy0; split at hy0 <;> cases hy0
          · cases hcs
        have key : ∀ i, i < len → ∃ g, (∃ cur t fr, w.heap[a.block]? = some (.cells cur t fr) ∧ (cur.toList.drop (a.off + i * z)).take z = (F g).map C.enc) ∧ (F g).length = z ∧ Q g := fun i hi => by
          obtain ⟨y, _, hy⟩ := hall i i (by simp [hi])
          simp only [Option.bind_eq_some_iff] at hy
          obtain ⟨cs, hcs, hy⟩ := hy
          rw [hz] at hcs
          obtain ⟨b, off, so⟩ := a
          have hso := hsp (by omega)
          simp only at hso
          subst hso
          rw [addr_add] at hcs
          obtain ⟨cur, t, fr, hg, hl, hc⟩ := cells_get rfl hcs hz0
          obtain ⟨g, hg1, hg2⟩ := h enc base sp held n cs y hy
          have : (F g).length = z := by rw [← hl, hg1]; simp
          exact ⟨g, ⟨cur, t, fr, hg, by rw [hc, hg1]⟩, this, hg2⟩
        obtain ⟨gs, hgs, hR⟩ := choose_list (β := Unit) len key
        refine ⟨(some a, len, cap, gs), rfl, hgs.symm, ⟨hb2, hb3, ?_⟩, fun u hu => ?_⟩
        · by_cases h0 : len = 0
          · have : gs = [] := List.eq_nil_of_length_eq_zero (by omega)
            subst this
            exact ⟨0, ⟨fun y hy => (by cases hy), .inl ⟨h0, rfl⟩⟩⟩
          · obtain ⟨g0, hg0⟩ : ∃ g0, gs[0]? = some g0 := ⟨gs[0], by simp⟩
            obtain ⟨⟨cur, t, fr, hcur, _⟩, _, _⟩ := hR 0 g0 hg0
            obtain ⟨lo, hi⟩ := fr
            have hso := hsp h0
            obtain ⟨b, off, so⟩ := a
            simp only at hso hcur
            subst hso
            refine ⟨t, ⟨fun y hy => ?_, .inr ⟨b, off, cur, t, lo, hi, rfl, hcur, ?_, ?_⟩⟩⟩
            · obtain ⟨u, _, hu⟩ := List.mem_flatMap.1 hy
              exact hone u y hu
            · rw [flatMap_len fun u hu => ?_, hgs]
              obtain ⟨i, hi, rfl⟩ := List.getElem_of_mem hu
              exact (hR i _ (List.getElem?_eq_getElem hi)).2.1
            · rw [← hgs]
              refine flatMap_window F z gs _ fun i u hu => ?_
              obtain ⟨⟨cur', t', fr', hc', hw⟩, hl, _⟩ := hR i u hu
              rw [hcur] at hc'
              cases hc'
              rw [List.drop_drop]
              exact ⟨hw, hl⟩
        · obtain ⟨i, hi, rfl⟩ := List.getElem_of_mem hu
          have := hR i _ (List.getElem?_eq_getElem hi)
          exact ⟨this.2.2, this.2.1⟩
      · cases hx

/-! ### Arguments -/

/-- The types that arguments have. -/
def argD : TyD → Bool
  | .so _ | .ifc | .up | .oth => false
  | _ => true

theorem open_arg {r : Reach} {b0 : Nat} {t : Nat} {d : TyD} {α : Type} {F : α → List C} {Q : α → Prop} (hd : d.ok P t) (hsc : d ≠ .oth) {v : Value} {dd : DataW H} {ps : List MemPlace} (hval : Value.okWide P w r b0 t v) (hr : DataW.Trod enc P w base sp held t v dd ps)
    (h : OpenS P w t F Q) (hsa : argD d = true := by rfl) : ∃ g, Q g ∧ v = (match isAggD d with | true => V.agg (F g) | false => V.c ((F g).headD (.b false))).enc := by
  obtain ⟨n, hn⟩ := hr
  obtain ⟨g, hg, hq⟩ := h enc base sp held n _ _ hn
  refine ⟨g, hq, ?_⟩
  have one : v.cells = #[v] → v = (V.c ((F g).headD (.b false))).enc := fun h1 => by
    rw [h1] at hg
    cases hF : F g with
    | nil => rw [hF] at hg; simp at hg
    | cons x l => rw [hF] at hg; simp at hg; simpa [V.enc] using hg.1
  cases d <;> simp only [TyD.ok] at hd <;> simp only [isAggD]
  · obtain ⟨b, rfl⟩ := okWide_bool hd hval; exact one rfl
  · obtain ⟨b, rfl⟩ := okWide_int hd hval; exact one rfl
  · obtain ⟨b, rfl⟩ := okWide_string hd hval; exact one rfl
  · unfold Value.okWide at hval
    rw [hd.1] at hval
    obtain ⟨cs, rfl, _⟩ := hval
    simp only [Value.cells] at hg
    simp only [V.enc]
    rw [← hg]
  · unfold Value.okWide at hval
    rw [hd] at hval
    obtain ⟨cs, rfl, _⟩ := hval
    simp only [Value.cells] at hg
    simp only [V.enc]
    rw [← hg]
  · obtain ⟨a, b, c, rfl⟩ := okWide_slice hd hval; exact one rfl
  · obtain ⟨a, rfl⟩ := okWide_pointer hd hval; exact one rfl
  · obtain ⟨a, rfl⟩ := okWide_map hd hval; exact one rfl
  · cases hsa
  · cases hsa
  · cases hsa
  · exact absurd rfl hsc

end

/-! ### From a contract to a row -/

section
variable {H : Type} {enc : TypeId × Value → H} {P : Program}

theorem trodAll_stays (hl : laidOutB P = true) {W W' : World} {sp' : Nat → Bool} : ∀ {ts : List TypeId} {vs : List Value} {ds : List (DataW H)} {ps : List MemPlace}, (∀ t ∈ ts, P.readableRec t = true ∧ t < P.types.size) →
    DataW.TrodAll enc P W 0 (fun _ => true) true ts vs ds ps → (∀ p ∈ ps, W.sameAt W' p) → (∀ p ∈ ps, sp' p.block = true) → DataW.TrodAll enc P W' 0 sp' true ts vs ds ps
  | [], vs, ds, ps, _, h, _, _ => by
    obtain ⟨rfl, rfl, rfl⟩ := trodAll_nil h
    exact trodAll_mk0
  | t :: ts, vs, ds, ps, hr, h, hs, hp => by
    obtain ⟨v, vs', d, ds', p, q, rfl, rfl, rfl, h0, h1⟩ := trodAll_cons h
    exact trodAll_cons_mk (WideElems.Trod_stays hl (hr t (by simp)).1 (hr t (by simp)).2 h0 (fun x hx => hs x (by simp [hx])) (fun x hx => hp x (by simp [hx])))
      (trodAll_stays hl (fun u hu => hr u (by simp [hu])) h1 (fun x hx => hs x (by simp [hx])) (fun x hx => hp x (by simp [hx])))

/-- WHAT A LAW's CONTRACT COMES TO: it answers true, and leaves all that was there alone. -/
theorem law_post {f : Func} {s : ChangeSpec} {apart fresh handsOn : Bool} {W W' : World} {args : Array Value} {ds gs : List (DataW H)} {before : List MemPlace} {tb : TypeId}
    (hl : laidOutB P = true) (hr : ∀ t ∈ f.params.toList, P.readableRec t = true ∧ t < P.types.size) (hv : s.vars = []) (hrt : f.resultTypes = #[tb]) (hb : P.underlying tb = some .bool)
    (hW : DataW.Whole enc P f.params.toList s.vars apart W args.toList ds gs before) (hs : s.fn H ds = { results := [.lit (.bool true)], args := ds })
    (hos : W'.os = W.os) (hout : W'.output = W.output) (hsame : ∀ b : Nat, b < W.heap.size → W'.heap[b]? = W.heap[b]?) :
    s.post enc P f apart fresh handsOn false W args (.bool true) W' := by
  have hlt := hW.lt
  have hW0 := hW
  obtain ⟨p, q, hA, hV, rfl, _, _⟩ := hW
  rw [hv] at hV
  obtain ⟨rfl, rfl⟩ := trodVars_none hV
  have hat : ∀ x ∈ p, W.sameAt W' x := fun x hx => by
    have := hlt x (by simpa using hx)
    cases x with
    | cell b off => simp only [World.sameAt, World.cell?, hsame b this]
    | map b => exact hsame b this
  refine ⟨ds, [], _, [], p, [], hW0, ?_, ?_, ?_, ?_, fun h => by cases h⟩
  · rw [List.append_nil, hs, hrt]
    exact trodAll_cons_mk (p := []) (p' := []) (RowKit.shut_bool hb true) trodAll_mk0
  · rw [List.append_nil, hs]
    exact trodAll_stays hl hr hA hat fun x hx => by simpa using hlt x (by simpa using hx)
  · rw [hv, List.append_nil, hs]; rfl
  · refine ⟨hos, hout, fun i hi => ?_⟩
    rw [hsame i hi]
    cases hc : W.heap[i]? with
    | none => rfl
    | some o => cases o <;> first | exact ⟨rfl, rfl, rfl, fun _ _ => rfl⟩ | exact .inr ⟨rfl, rfl⟩ | rfl

/-- A law, called where its contract's facts hold. -/
theorem law_calls {f : FuncId} {fn : Func} {s : ChangeSpec} {apart fresh handsOn : Bool} {W : World} {args : Array Value} {ds gs : List (DataW H)} {before : List MemPlace} {tb : TypeId} {vs : List V} {D : List Fact}
    (hl : laidOutB P = true) (hr : ∀ t ∈ fn.params.toList, P.readableRec t = true ∧ t < P.types.size) (hv : s.vars = []) (hrt : fn.resultTypes = #[tb]) (hb : P.underlying tb = some .bool)
    (hW : DataW.Whole enc P fn.params.toList s.vars apart W args.toList ds gs before) (hs : s.fn H ds = { results := [.lit (.bool true)], args := ds })
    (hargs : args = (vs.map V.enc).toArray) (hD : allD (fun b => W.heap[b]?) D) (h : FnS P f vs [] D (Is tt)) :
    Calls P f args W fun e W' => ∃ v, e = .returned v ∧ s.post enc P fn apart fresh handsOn false W args v W' := by
  rw [hargs]
  refine (h.2 W (fun b => W.heap[b]?) ⟨by simp [fps], trivial, fun b o hb => ⟨hb, by simp [fps]⟩, hD⟩).mono ?_
  rintro e W' ⟨v, L', D', m', rfl, ⟨rfl, rfl, rfl⟩, _, hfr⟩
  rw [← hargs]
  exact ⟨_, rfl, law_post hl hr hv hrt hb hW hs hfr.kept.os hfr.kept.out fun b hb => hfr.same b hb (by simp [fps])⟩

theorem gInt_of_shape {W : World} {g : Nat} {t : TypeId} (h : W.ShapedOpen P) (hg : g < P.globals.size) (hz : ((begin P (fun _ _ => 0) default).world.heap[g]?).bind Obj.row? = some (#[.int .i64 0], t)) (hb : P.buildable t = true) (ht : P.cellTypes P.depth t = some [t]) (hu : P.underlying t = some (.int .i64)) :
    (gInt g).p (fun b => W.heap[b]?) := by
  obtain ⟨cs, hcs, hsz, hok⟩ := h.1 g _ t hg hz
  have hok := hok hb
  simp at hsz
  obtain ⟨ts, hts, _, hall⟩ := hok
  rw [ht] at hts
  cases hts
  obtain ⟨v, hv⟩ : ∃ v, cs[0]? = some v := ⟨cs[0], by simp [hsz]⟩
  obtain ⟨u, hu1, hu2⟩ := hall 0 v hv
  simp at hu1
  subst hu1
  unfold Cell.ok at hu2
  rw [hu] at hu2
  refine ⟨cs, t, (0, 0), ?_⟩
  cases v <;> simp at hu2
  rename_i k n
  obtain ⟨rfl, _⟩ := hu2
  exact ⟨n, hcs, hv⟩

end
end Go.X
