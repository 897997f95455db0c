/- This text proves, for any program, that a contract in the executor's form, whose result is true and whose memory is untouched, gives what a row asks of a law; and opens arguments of plain types. No condition. · This text holds the table of the program's types that the proofs use, and proves that it agrees with the program. · This text holds what all rows of this seat share: a world in which the listed tables lie, and closed facts of the program. · This text opens arguments of the type Title. · This text holds plain facts on lists of bytes, with no program in sight: what the library's string functions compute when the separator is one byte. -/
import Derived.Test.YtdnkeinjfddmnaaGreatDoorW04
import Derived.ProofKit
import Derived.OpenShut
import Derived.Deep.DeepHandedRow
import Derived.WideKeyArgs
import Derived.Test.YtdnkeinjfddmnaaGreatDoorProg
import Derived.Test.YtdnkeinjfddmnaaGreatDoorCards
import Derived.Test.YtdnkeinjfddmnaaGreatDoorTie
import Derived.Lib.LaidTab
import Derived.Lib.Replace
import Derived.Lib.Join
import Derived.Lib.TrimByte
import Derived.Lib.Small
set_option linter.all false
namespace Go.X
open Go Go.ChangeShapes Go.WideShapes
section
variable {H : Type} {enc : TypeId × Value → H} {P : Program} {w : World} {base : Nat} {sp : Nat → Bool} {held : Bool}
def OpenS (P : Program) (w : World) (t : Nat) {α : Type} (F : α → List C) (Q : α → Prop) : Prop :=
  ∀ {H : Type} (enc : TypeId × Value → H) (base : Nat) (sp : Nat → Bool) (held : Bool) (n : Nat) (cs : List Value) (x : DataW H × List MemPlace), DataW.trod enc P w base sp held n t cs = some x → ∃ g, cs = (F g).map C.enc ∧ Q g
theorem lit_inR {k : IntKind} {n : Int} (h : (Lit.int k n).wf = true) : inR k n := by
  cases k <;> simp [Lit.wf, IntKind.min, IntKind.max, IntKind.bits, IntKind.signed] at h <;> simp only [inR] <;> omega
theorem openS_int {t : Nat} {k : IntKind} (ht : P.underlying t = some (.int k)) : OpenS P w t (fun n : Int => [.i k n]) (inR k) := by
  intro H enc base sp held n cs x h
  obtain ⟨m, hm, _, hw⟩ := DataW.trod_int ht (fuel := n) h
  exact ⟨m, hm, lit_inR hw⟩
theorem cellsOf_ty {t : Nat} {i : TyI} (h : i.ok P t) : P.cellsOf t = i.size := by
  obtain ⟨x, hx, h1, _⟩ := tyI_info h
  simp [Program.cellsOf, hx, h1]
structure SlOK (w : World) (esz : Nat) (cs : List C) (a : Option Addr) (n c : Nat) : Prop where
  le : n ≤ c
  max : c ≤ maxLen
  f : ∃ ety, SlF (fun b => w.heap[b]?) ety esz a n cs
theorem cells_get {w : World} {a : Addr} {base n : Nat} {cs : List Value} (ha : a.spot = none) (h : w.cells? base a n = some cs) (hn : n ≠ 0) : ∃ cur t fr, w.heap[a.block]? = some (.cells cur t fr) ∧ cs.length = n ∧ (cur.toList.drop a.off).take n = cs := by
  obtain ⟨b, off, _⟩ := a
  simp only at ha
  subst ha
  unfold World.cells? at h
  split at h
  · have hall : ∀ (m : Nat) (o : Nat) (l : List Value), ((List.range' o m).mapM fun i => w.cell? ((⟨b, off, none⟩ : Addr).add i)) = some l → l.length = m ∧ ∀ j : Nat, j < m → w.cell? ⟨b, off + (o + j), none⟩ = l[j]? := by
      intro m
      induction m with
      | zero => intro o l hl; simp at hl; subst hl; simp
      | succ m ih =>
        intro o l hl
        rw [List.range'_succ, List.mapM_cons] at hl
        simp only [Option.bind_eq_bind, Option.bind_eq_some_iff] at hl
        obtain ⟨x, hx, ys, hys, hl⟩ := hl
        simp at hl
        subst hl
        obtain ⟨h1, h2⟩ := ih (o + 1) ys hys
        refine ⟨by simp [h1], fun j hj => ?_⟩
        rw [addr_add] at hx
        cases j with
        | zero => simpa using hx
        | succ j =>
          have := h2 j (by omega)
          rw [List.getElem?_cons_succ, ← this]
          congr 2
          omega
    rw [List.range_eq_range'] at h
    obtain ⟨h1, h2⟩ := hall n 0 cs h
    have h0 := h2 0 (by omega)
    have hlt : 0 < cs.length := by omega
    rw [List.getElem?_eq_getElem hlt] at h0
    cases hb : w.heap[b]? with
    | none => simp [World.cell?, hb] at h0
    | some o =>
      cases o with
      | cells cur t fr =>
        refine ⟨cur, t, fr, rfl, h1, ?_⟩
        apply List.ext_getElem?
        intro j
        by_cases hj : j < n
        · have := h2 j hj
          simp only [World.cell?, hb] at this
          rw [List.getElem?_take_of_lt hj, List.getElem?_drop, ← this]
          simp
        · have hn1 : cs[j]? = none := List.getElem?_eq_none (by omega)
          rw [hn1]
          exact List.getElem?_eq_none (by simp; omega)
      | _ => simp [World.cell?, hb] at h0
  · cases h
theorem mapM_all {α β : Type} {f : α → Option β} : ∀ {l : List α} {ys : List β}, l.mapM f = some ys → ys.length = l.length ∧ ∀ (i : Nat) x, l[i]? = some x → ∃ y, ys[i]? = some y ∧ f x = some y
  | [], ys, h => by simp at h; subst h; simp
  | x :: l, ys, h => by
    rw [List.mapM_cons] at h
    simp only [Option.bind_eq_bind, Option.bind_eq_some_iff] at h
    obtain ⟨y, hy, zs, hzs, h⟩ := h
    simp at h
    subst h
    obtain ⟨h1, h2⟩ := mapM_all hzs
    refine ⟨by simp [h1], fun i u hu => ?_⟩
    cases i with
    | zero => simp at hu; subst hu; exact ⟨y, rfl, hy⟩
    | succ i => exact h2 i u (by simpa using hu)
theorem choose_list {α β : Type} {R : Nat → α → Prop} : ∀ (n : Nat), (∀ i, i < n → ∃ g, R i g) → ∃ gs : List α, gs.length = n ∧ ∀ (i : Nat) g, gs[i]? = some g → R i g
  | 0, _ => ⟨[], rfl, by simp⟩
  | n + 1, h => by
    obtain ⟨gs, h1, h2⟩ := choose_list (β := β) n fun i hi => h i (by omega)
    obtain ⟨g, hg⟩ := h n (by omega)
    refine ⟨gs ++ [g], by simp [h1], fun i u hu => ?_⟩
    by_cases hi : i < n
    · rw [List.getElem?_append_left (by omega)] at hu; exact h2 i u hu
    · by_cases hin : i = n
      · subst hin; rw [List.getElem?_append_right (by omega)] at hu; simp [h1] at hu; subst hu; exact hg
      · rw [List.getElem?_eq_none (by simp; omega)] at hu; cases hu
theorem flatMap_window {α : Type} (F : α → List C) (z : Nat) : ∀ (gs : List α) (l : List Value), (∀ (i : Nat) g, gs[i]? = some g → (l.drop (i * z)).take z = (F g).map C.enc ∧ (F g).length = z) → l.take (gs.length * z) = (gs.flatMap F).map C.enc
  | [], l, _ => by simp
  | g :: gs, l, h => by
    have h0 := (h 0 g rfl).1
    simp only [Nat.zero_mul, List.drop_zero] at h0
    have ih := flatMap_window F z gs (l.drop z) fun i u hu => by
      have := h (i + 1) u (by simpa using hu)
      rw [List.drop_drop, show z + i * z = (i + 1) * z by rw [Nat.add_mul]; omega]
      exact this
    rw [List.flatMap_cons, List.map_append, ← h0, ← ih, List.length_cons, Nat.add_mul, Nat.one_mul, Nat.add_comm, List.take_add]
theorem flatMap_len {α : Type} {F : α → List C} {z : Nat} : ∀ {gs : List α}, (∀ g ∈ gs, (F g).length = z) → (gs.flatMap F).length = gs.length * z
  | [], _ => by simp
  | g :: gs, h => by rw [List.flatMap_cons, List.length_append, h g (by simp), flatMap_len fun u hu => h u (by simp [hu]), List.length_cons, Nat.add_mul]; omega
theorem openS_slice {t e z : Nat} {α : Type} {F : α → List C} {Q : α → Prop} (ht : P.underlying t = some (.slice e)) (hz : P.cellsOf e = z) (hz0 : z ≠ 0) (hone : ∀ g, oneAll (F g)) (h : OpenS P w e F Q) :
    OpenS P w t (fun g : Option Addr × Nat × Nat × List α => [.sl g.1 g.2.1 g.2.2.1]) (fun g => g.2.1 = g.2.2.2.length ∧ SlOK w z (g.2.2.2.flatMap F) g.1 g.2.1 g.2.2.1 ∧ ∀ x ∈ g.2.2.2, Q x ∧ (F x).length = z) := by
  intro H enc base sp held n cs x hx
  cases n with
  | zero => simp [DataW.trod] at hx
  | succ n =>
    unfold DataW.trod at hx
    rw [ht] at hx
    split at hx <;> try (rename_i h1 _; cases h1; done)
    all_goals try (cases hx; done)
    all_goals try (rename_i h1; cases h1; done)
    · exact ⟨(none, 0, 0, []), rfl, rfl, ⟨Nat.le_refl _, by simp [maxLen], 0, ⟨fun y hy => (by cases hy), .inl ⟨rfl, rfl⟩⟩⟩, by simp⟩
    · rename_i e' a len cap h1
      simp only [Option.some.injEq] at h1
      cases h1
      simp only at hx
      split at hx
      · rename_i hb
        obtain ⟨hb1, hb2, hb3⟩ := hb
        simp only [Option.bind_eq_some_iff] at hx
        obtain ⟨els, hels, _⟩ := hx
        obtain ⟨hlen, hall⟩ := mapM_all hels
        have hsp : len ≠ 0 → a.spot = none := fun h0 => by
          obtain ⟨y, _, hy⟩ := hall 0 0 (by rw [List.getElem?_range (by omega)])
          simp only [Option.bind_eq_some_iff] at hy
          obtain ⟨cs, hcs, _⟩ := hy
          rw [hz] at hcs
          unfold World.cells? at hcs
          split at hcs
          · obtain ⟨h1, h2⟩ := mapM_all hcs
            obtain ⟨y0, _, hy0⟩ := h2 0 0 (by rw [List.getElem?_range (by omega)])
            obtain ⟨b, off, so⟩ := a
            cases so with
            | none => rfl
            | some q => unfold World.cell? Addr.add at hy0; simp at hy0; split at hy0 <;> cases hy0
          · cases hcs
        have key : ∀ i, i < len → ∃ g, (∃ cur t fr, w.heap[a.block]? = some (.cells cur t fr) ∧ (cur.toList.drop (a.off + i * z)).take z = (F g).map C.enc) ∧ (F g).length = z ∧ Q g := fun i hi => by
          obtain ⟨y, _, hy⟩ := hall i i (by simp [hi])
          simp only [Option.bind_eq_some_iff] at hy
          obtain ⟨cs, hcs, hy⟩ := hy
          rw [hz] at hcs
          obtain ⟨b, off, so⟩ := a
          have hso := hsp (by omega)
          simp only at hso
          subst hso
          rw [addr_add] at hcs
          obtain ⟨cur, t, fr, hg, hl, hc⟩ := cells_get rfl hcs hz0
          obtain ⟨g, hg1, hg2⟩ := h enc base sp held n cs y hy
          have : (F g).length = z := by rw [← hl, hg1]; simp
          exact ⟨g, ⟨cur, t, fr, hg, by rw [hc, hg1]⟩, this, hg2⟩
        obtain ⟨gs, hgs, hR⟩ := choose_list (β := Unit) len key
        refine ⟨(some a, len, cap, gs), rfl, hgs.symm, ⟨hb2, hb3, ?_⟩, fun u hu => ?_⟩
        · by_cases h0 : len = 0
          · have : gs = [] := List.eq_nil_of_length_eq_zero (by omega)
            subst this
            exact ⟨0, ⟨fun y hy => (by cases hy), .inl ⟨h0, rfl⟩⟩⟩
          · obtain ⟨g0, hg0⟩ : ∃ g0, gs[0]? = some g0 := ⟨gs[0], by simp⟩
            obtain ⟨⟨cur, t, fr, hcur, _⟩, _, _⟩ := hR 0 g0 hg0
            obtain ⟨lo, hi⟩ := fr
            have hso := hsp h0
            obtain ⟨b, off, so⟩ := a
            simp only at hso hcur
            subst hso
            refine ⟨t, ⟨fun y hy => ?_, .inr ⟨b, off, cur, t, lo, hi, rfl, hcur, ?_, ?_⟩⟩⟩
            · obtain ⟨u, _, hu⟩ := List.mem_flatMap.1 hy
              exact hone u y hu
            · rw [flatMap_len fun u hu => ?_, hgs]
              obtain ⟨i, hi, rfl⟩ := List.getElem_of_mem hu
              exact (hR i _ (List.getElem?_eq_getElem hi)).2.1
            · rw [← hgs]
              refine flatMap_window F z gs _ fun i u hu => ?_
              obtain ⟨⟨cur', t', fr', hc', hw⟩, hl, _⟩ := hR i u hu
              rw [hcur] at hc'
              cases hc'
              rw [List.drop_drop]
              exact ⟨hw, hl⟩
        · obtain ⟨i, hi, rfl⟩ := List.getElem_of_mem hu
          have := hR i _ (List.getElem?_eq_getElem hi)
          exact ⟨this.2.2, this.2.1⟩
      · cases hx
def argD : TyD → Bool
  | .so _ | .ifc | .up | .oth => false
  | _ => true
theorem open_arg {r : Reach} {b0 : Nat} {t : Nat} {d : TyD} {α : Type} {F : α → List C} {Q : α → Prop} (hd : d.ok P t) (hsc : d ≠ .oth) {v : Value} {dd : DataW H} {ps : List MemPlace} (hval : Value.okWide P w r b0 t v) (hr : DataW.Trod enc P w base sp held t v dd ps)
    (h : OpenS P w t F Q) (hsa : argD d = true := by rfl) : ∃ g, Q g ∧ v = (match isAggD d with | true => V.agg (F g) | false => V.c ((F g).headD (.b false))).enc := by
  obtain ⟨n, hn⟩ := hr
  obtain ⟨g, hg, hq⟩ := h enc base sp held n _ _ hn
  refine ⟨g, hq, ?_⟩
  have one : v.cells = #[v] → v = (V.c ((F g).headD (.b false))).enc := fun h1 => by
    rw [h1] at hg
    cases hF : F g with
    | nil => rw [hF] at hg; simp at hg
    | cons x l => rw [hF] at hg; simp at hg; simpa [V.enc] using hg.1
  cases d <;> simp only [TyD.ok] at hd <;> simp only [isAggD]
  · obtain ⟨b, rfl⟩ := okWide_bool hd hval; exact one rfl
  · obtain ⟨b, rfl⟩ := okWide_int hd hval; exact one rfl
  · obtain ⟨b, rfl⟩ := okWide_string hd hval; exact one rfl
  · unfold Value.okWide at hval
    rw [hd.1] at hval
    obtain ⟨cs, rfl, _⟩ := hval
    simp only [Value.cells] at hg
    simp only [V.enc]
    rw [← hg]
  · unfold Value.okWide at hval
    rw [hd] at hval
    obtain ⟨cs, rfl, _⟩ := hval
    simp only [Value.cells] at hg
    simp only [V.enc]
    rw [← hg]
  · obtain ⟨a, b, c, rfl⟩ := okWide_slice hd hval; exact one rfl
  · obtain ⟨a, rfl⟩ := okWide_pointer hd hval; exact one rfl
  · obtain ⟨a, rfl⟩ := okWide_map hd hval; exact one rfl
  · cases hsa
  · cases hsa
  · cases hsa
  · exact absurd rfl hsc
end
section
variable {H : Type} {enc : TypeId × Value → H} {P : Program}
theorem trodAll_stays (hl : laidOutB P = true) {W W' : World} {sp' : Nat → Bool} : ∀ {ts : List TypeId} {vs : List Value} {ds : List (DataW H)} {ps : List MemPlace}, (∀ t ∈ ts, P.readableRec t = true ∧ t < P.types.size) →
    DataW.TrodAll enc P W 0 (fun _ => true) true ts vs ds ps → (∀ p ∈ ps, W.sameAt W' p) → (∀ p ∈ ps, sp' p.block = true) → DataW.TrodAll enc P W' 0 sp' true ts vs ds ps
  | [], vs, ds, ps, _, h, _, _ => by
    obtain ⟨rfl, rfl, rfl⟩ := trodAll_nil h
    exact trodAll_mk0
  | t :: ts, vs, ds, ps, hr, h, hs, hp => by
    obtain ⟨v, vs', d, ds', p, q, rfl, rfl, rfl, h0, h1⟩ := trodAll_cons h
    exact trodAll_cons_mk (WideElems.Trod_stays hl (hr t (by simp)).1 (hr t (by simp)).2 h0 (fun x hx => hs x (by simp [hx])) (fun x hx => hp x (by simp [hx])))
      (trodAll_stays hl (fun u hu => hr u (by simp [hu])) h1 (fun x hx => hs x (by simp [hx])) (fun x hx => hp x (by simp [hx])))
theorem law_post {f : Func} {s : ChangeSpec} {apart fresh handsOn : Bool} {W W' : World} {args : Array Value} {ds gs : List (DataW H)} {before : List MemPlace} {tb : TypeId}
    (hl : laidOutB P = true) (hr : ∀ t ∈ f.params.toList, P.readableRec t = true ∧ t < P.types.size) (hv : s.vars = []) (hrt : f.resultTypes = #[tb]) (hb : P.underlying tb = some .bool)
    (hW : DataW.Whole enc P f.params.toList s.vars apart W args.toList ds gs before) (hs : s.fn H ds = { results := [.lit (.bool true)], args := ds })
    (hos : W'.os = W.os) (hout : W'.output = W.output) (hsame : ∀ b : Nat, b < W.heap.size → W'.heap[b]? = W.heap[b]?) :
    s.post enc P f apart fresh handsOn false W args (.bool true) W' := by
  have hlt := hW.lt
  have hW0 := hW
  obtain ⟨p, q, hA, hV, rfl, _, _⟩ := hW
  rw [hv] at hV
  obtain ⟨rfl, rfl⟩ := trodVars_none hV
  have hat : ∀ x ∈ p, W.sameAt W' x := fun x hx => by
    have := hlt x (by simpa using hx)
    cases x with
    | cell b off => simp only [World.sameAt, World.cell?, hsame b this]
    | map b => exact hsame b this
  refine ⟨ds, [], _, [], p, [], hW0, ?_, ?_, ?_, ?_, fun h => by cases h⟩
  · rw [List.append_nil, hs, hrt]
    exact trodAll_cons_mk (p := []) (p' := []) (RowKit.shut_bool hb true) trodAll_mk0
  · rw [List.append_nil, hs]
    exact trodAll_stays hl hr hA hat fun x hx => by simpa using hlt x (by simpa using hx)
  · rw [hv, List.append_nil, hs]; rfl
  · refine ⟨hos, hout, fun i hi => ?_⟩
    rw [hsame i hi]
    cases hc : W.heap[i]? with
    | none => rfl
    | some o => cases o <;> first | exact ⟨rfl, rfl, rfl, fun _ _ => rfl⟩ | exact .inr ⟨rfl, rfl⟩ | rfl
theorem law_calls {f : FuncId} {fn : Func} {s : ChangeSpec} {apart fresh handsOn : Bool} {W : World} {args : Array Value} {ds gs : List (DataW H)} {before : List MemPlace} {tb : TypeId} {vs : List V} {D : List Fact}
    (hl : laidOutB P = true) (hr : ∀ t ∈ fn.params.toList, P.readableRec t = true ∧ t < P.types.size) (hv : s.vars = []) (hrt : fn.resultTypes = #[tb]) (hb : P.underlying tb = some .bool)
    (hW : DataW.Whole enc P fn.params.toList s.vars apart W args.toList ds gs before) (hs : s.fn H ds = { results := [.lit (.bool true)], args := ds })
    (hargs : args = (vs.map V.enc).toArray) (hD : allD (fun b => W.heap[b]?) D) (h : FnS P f vs [] D (Is tt)) :
    Calls P f args W fun e W' => ∃ v, e = .returned v ∧ s.post enc P fn apart fresh handsOn false W args v W' := by
  rw [hargs]
  refine (h.2 W (fun b => W.heap[b]?) ⟨by simp [fps], trivial, fun b o hb => ⟨hb, by simp [fps]⟩, hD⟩).mono ?_
  rintro e W' ⟨v, L', D', m', rfl, ⟨rfl, rfl, rfl⟩, _, hfr⟩
  rw [← hargs]
  exact ⟨_, rfl, law_post hl hr hv hrt hb hW hs hfr.kept.os hfr.kept.out fun b hb => hfr.same b hb (by simp [fps])⟩
theorem gInt_of_shape {W : World} {g : Nat} {t : TypeId} (h : W.ShapedOpen P) (hg : g < P.globals.size) (hz : ((begin P (fun _ _ => 0) default).world.heap[g]?).bind Obj.row? = some (#[.int .i64 0], t)) (hb : P.buildable t = true) (ht : P.cellTypes P.depth t = some [t]) (hu : P.underlying t = some (.int .i64)) :
    (gInt g).p (fun b => W.heap[b]?) := by
  obtain ⟨cs, hcs, hsz, hok⟩ := h.1 g _ t hg hz
  have hok := hok hb
  simp at hsz
  obtain ⟨ts, hts, _, hall⟩ := hok
  rw [ht] at hts
  cases hts
  obtain ⟨v, hv⟩ : ∃ v, cs[0]? = some v := ⟨cs[0], by simp [hsz]⟩
  obtain ⟨u, hu1, hu2⟩ := hall 0 v hv
  simp at hu1
  subst hu1
  unfold Cell.ok at hu2
  rw [hu] at hu2
  refine ⟨cs, t, (0, 0), ?_⟩
  cases v <;> simp at hu2
  rename_i k n
  obtain ⟨rfl, _⟩ := hu2
  exact ⟨n, hcs, hv⟩
end
end Go.X
namespace Go.Proofs
open Go Go.X
set_option maxRecDepth 100000
def Tryz.tyT : Ty := [
  (2, { d := .int .i64, size := 1, bytes := 8, zero := .c (.i .i64 0) }),
  (3, { d := .int .i64, size := 1, bytes := 8, zero := .c (.i .i64 0) }),
  (4, { d := .bool, size := 1, bytes := 1, zero := .c (.b false) }),
  (5, { d := .int .u8, size := 1, bytes := 1, zero := .c (.i .u8 0) }),
  (9, { d := .str, size := 1, bytes := 16, zero := .c (.s []) }),
  (12, { d := .int .u64, size := 1, bytes := 8, zero := .c (.i .u64 0) }),
  (20, { d := .ifc, size := 1, bytes := 16, zero := .c (.raw .nilIface) }),
  (21, { d := .int .i32, size := 1, bytes := 4, zero := .c (.i .i32 0) }),
  (22, { d := .st [(0, 3), (1, 9)], size := 2, bytes := 24, zero := .agg [.i .i64 0, .s []] }),
  (23, { d := .st [(0, 3), (1, 9)], size := 2, bytes := 24, zero := .agg [.i .i64 0, .s []] }),
  (24, { d := .sl 3, size := 1, bytes := 24, zero := .c (.sl none 0 0) }),
  (26, { d := .ptr 57, size := 1, bytes := 8, zero := .c (.raw (.pointer none)) }),
  (32, { d := .sl 81, size := 1, bytes := 24, zero := .c (.sl none 0 0) }),
  (33, { d := .sl 23, size := 1, bytes := 24, zero := .c (.sl none 0 0) }),
  (39, { d := .sl 42, size := 1, bytes := 24, zero := .c (.sl none 0 0) }),
  (41, { d := .st [(0, 3), (1, 9), (2, 9), (3, 9)], size := 4, bytes := 56, zero := .agg [.i .i64 0, .s [], .s [], .s []] }),
  (42, { d := .st [(0, 3), (1, 9), (2, 9), (3, 9)], size := 4, bytes := 56, zero := .agg [.i .i64 0, .s [], .s [], .s []] }),
  (43, { d := .sl 89, size := 1, bytes := 24, zero := .c (.sl none 0 0) }),
  (56, { d := .st [(0, 24), (1, 3)], size := 2, bytes := 32, zero := .agg [.sl none 0 0, .i .i64 0] }),
  (57, { d := .st [(0, 24), (1, 3)], size := 2, bytes := 32, zero := .agg [.sl none 0 0, .i .i64 0] }),
  (60, { d := .sl 9, size := 1, bytes := 24, zero := .c (.sl none 0 0) }),
  (61, { d := .ptr 130, size := 1, bytes := 8, zero := .c (.raw (.pointer none)) }),
  (63, { d := .ptr 66, size := 1, bytes := 8, zero := .c (.raw (.pointer none)) }),
  (64, { d := .sl 5, size := 1, bytes := 24, zero := .c (.sl none 0 0) }),
  (65, { d := .st [(0, 63), (1, 64)], size := 2, bytes := 32, zero := .agg [.raw (.pointer none), .sl none 0 0] }),
  (66, { d := .st [(0, 63), (1, 64)], size := 2, bytes := 32, zero := .agg [.raw (.pointer none), .sl none 0 0] }),
  (67, { d := .ifc, size := 1, bytes := 16, zero := .c (.raw .nilIface) }),
  (68, { d := .ifc, size := 1, bytes := 16, zero := .c (.raw .nilIface) }),
  (74, { d := .int .u64, size := 1, bytes := 8, zero := .c (.i .u64 0) }),
  (79, { d := .sl 102, size := 1, bytes := 24, zero := .c (.sl none 0 0) }),
  (80, { d := .st [(0, 3), (1, 3), (2, 9), (3, 79), (4, 32)], size := 5, bytes := 80, zero := .agg [.i .i64 0, .i .i64 0, .s [], .sl none 0 0, .sl none 0 0] }),
  (81, { d := .st [(0, 3), (1, 3), (2, 9), (3, 79), (4, 32)], size := 5, bytes := 80, zero := .agg [.i .i64 0, .i .i64 0, .s [], .sl none 0 0, .sl none 0 0] }),
  (83, { d := .ptr 87, size := 1, bytes := 8, zero := .c (.raw (.pointer none)) }),
  (84, { d := .mp 23 4, size := 1, bytes := 8, zero := .c (.raw (.map none)) }),
  (86, { d := .st [(0, 66), (2, 84), (3, 24), (4, 3), (5, 39), (6, 3)], size := 7, bytes := 104, zero := .agg [.raw (.pointer none), .sl none 0 0, .raw (.map none), .sl none 0 0, .i .i64 0, .sl none 0 0, .i .i64 0] }),
  (87, { d := .st [(0, 66), (2, 84), (3, 24), (4, 3), (5, 39), (6, 3)], size := 7, bytes := 104, zero := .agg [.raw (.pointer none), .sl none 0 0, .raw (.map none), .sl none 0 0, .i .i64 0, .sl none 0 0, .i .i64 0] }),
  (88, { d := .st [(0, 9), (1, 79), (2, 24)], size := 3, bytes := 64, zero := .agg [.s [], .sl none 0 0, .sl none 0 0] }),
  (89, { d := .st [(0, 9), (1, 79), (2, 24)], size := 3, bytes := 64, zero := .agg [.s [], .sl none 0 0, .sl none 0 0] }),
  (92, { d := .ptr 94, size := 1, bytes := 8, zero := .c (.raw (.pointer none)) }),
  (93, { d := .st [(0, 33), (1, 24), (2, 3), (3, 39), (4, 3), (5, 4)], size := 6, bytes := 96, zero := .agg [.sl none 0 0, .sl none 0 0, .i .i64 0, .sl none 0 0, .i .i64 0, .b false] }),
  (94, { d := .st [(0, 33), (1, 24), (2, 3), (3, 39), (4, 3), (5, 4)], size := 6, bytes := 96, zero := .agg [.sl none 0 0, .sl none 0 0, .i .i64 0, .sl none 0 0, .i .i64 0, .b false] }),
  (97, { d := .mp 9 4, size := 1, bytes := 8, zero := .c (.raw (.map none)) }),
  (98, { d := .mp 3 3, size := 1, bytes := 8, zero := .c (.raw (.map none)) }),
  (100, { d := .mp 9 3, size := 1, bytes := 8, zero := .c (.raw (.map none)) }),
  (101, { d := .st [(0, 3), (1, 9), (2, 23), (4, 9), (5, 79)], size := 6, bytes := 88, zero := .agg [.i .i64 0, .s [], .i .i64 0, .s [], .s [], .sl none 0 0] }),
  (102, { d := .st [(0, 3), (1, 9), (2, 23), (4, 9), (5, 79)], size := 6, bytes := 88, zero := .agg [.i .i64 0, .s [], .i .i64 0, .s [], .s [], .sl none 0 0] }),
  (104, { d := .ptr 89, size := 1, bytes := 8, zero := .c (.raw (.pointer none)) }),
  (118, { d := .int .u32, size := 1, bytes := 4, zero := .c (.i .u32 0) }),
  (119, { d := .so [(0, 117), (0, 118)], size := 1, bytes := 4, zero := .agg [.i .u32 0] }),
  (120, { d := .so [(0, 117), (0, 118)], size := 1, bytes := 4, zero := .agg [.i .u32 0] }),
  (122, { d := .st [(0, 21), (1, 118)], size := 2, bytes := 8, zero := .agg [.i .i32 0, .i .u32 0] }),
  (123, { d := .so [(0, 116), (0, 122)], size := 2, bytes := 8, zero := .agg [.i .i32 0, .i .u32 0] }),
  (124, { d := .so [(0, 116), (0, 122)], size := 2, bytes := 8, zero := .agg [.i .i32 0, .i .u32 0] }),
  (125, { d := .so [(0, 116), (0, 120), (1, 124)], size := 3, bytes := 12, zero := .agg [.i .u32 0, .i .i32 0, .i .u32 0] }),
  (126, { d := .so [(0, 116), (0, 120), (1, 124)], size := 3, bytes := 12, zero := .agg [.i .u32 0, .i .i32 0, .i .u32 0] }),
  (127, { d := .ifc, size := 1, bytes := 16, zero := .c (.raw .nilIface) }),
  (128, { d := .ifc, size := 1, bytes := 16, zero := .c (.raw .nilIface) }),
  (129, { d := .so [(0, 126), (3, 128), (4, 60)], size := 5, bytes := 56, zero := .agg [.i .u32 0, .i .i32 0, .i .u32 0, .raw .nilIface, .sl none 0 0] }),
  (130, { d := .so [(0, 126), (3, 128), (4, 60)], size := 5, bytes := 56, zero := .agg [.i .u32 0, .i .i32 0, .i .u32 0, .raw .nilIface, .sl none 0 0] }),
  (132, { d := .arr 6 9, size := 6, bytes := 96, zero := .agg [.s [], .s [], .s [], .s [], .s [], .s []] }),
  (134, { d := .ptr 5, size := 1, bytes := 8, zero := .c (.raw (.pointer none)) }),
  (160, { d := .ptr 126, size := 1, bytes := 8, zero := .c (.raw (.pointer none)) }),
  (162, { d := .up, size := 1, bytes := 8, zero := .c (.raw (.pointer none)) }),
  (173, { d := .ptr 147, size := 1, bytes := 8, zero := .c (.raw (.pointer none)) }),
  (176, { d := .int .i64, size := 1, bytes := 8, zero := .c (.i .i64 0) }),
  (184, { d := .int .u64, size := 1, bytes := 8, zero := .c (.i .u64 0) }),
  (186, { d := .ptr 120, size := 1, bytes := 8, zero := .c (.raw (.pointer none)) }),
  (188, { d := .ptr 118, size := 1, bytes := 8, zero := .c (.raw (.pointer none)) }),
  (190, { d := .ptr 229, size := 1, bytes := 8, zero := .c (.raw (.pointer none)) }),
  (192, { d := .ptr 235, size := 1, bytes := 8, zero := .c (.raw (.pointer none)) }),
  (196, { d := .ptr 195, size := 1, bytes := 8, zero := .c (.raw (.pointer none)) }),
  (197, { d := .arr 256 64, size := 256, bytes := 6144, zero := .agg [.sl none 0 0, .sl none 0 0, .sl none 0 0, .sl none 0 0, .sl none 0 0, .sl none 0 0, .sl none 0 0, .sl none 0 0, .sl none 0 0, .sl none 0 0, .sl none 0 0, .sl none 0 0, .sl none 0 0, .sl none 0 0, .sl none 0 0, .sl none 0 0, .sl none 0 0, .sl none 0 0, .sl none 0 0, .sl none 0 0, .sl none 0 0, .sl none 0 0, .sl none 0 0, .sl none 0 0, .sl none 0 0, .sl none 0 0, .sl none 0 0, .sl none 0 0, .sl none 0 0, .sl none 0 0, .sl none 0 0, .sl none 0 0, .sl none 0 0, .sl none 0 0, .sl none 0 0, .sl none 0 0, .sl none 0 0, .sl none 0 0, .sl none 0 0, .sl none 0 0, .sl none 0 0, .sl none 0 0, .sl none 0 0, .sl none 0 0, .sl none 0 0, .sl none 0 0, .sl none 0 0, .sl none 0 0, .sl none 0 0, .sl none 0 0, .sl none 0 0, .sl none 0 0, .sl none 0 0, .sl none 0 0, .sl none 0 0, .sl none 0 0, .sl none 0 0, .sl none 0 0, .sl none 0 0, .sl none 0 0, .sl none 0 0, .sl none 0 0, .sl none 0 0, .sl none 0 0, .sl none 0 0, .sl none 0 0, .sl none 0 0, .sl none 0 0, .sl none 0 0, .sl none 0 0, .sl none 0 0, .sl none 0 0, .sl none 0 0, .sl none 0 0, .sl none 0 0, .sl none 0 0, .sl none 0 0, .sl none 0 0, .sl none 0 0, .sl none 0 0, .sl none 0 0, .sl none 0 0, .sl none 0 0, .sl none 0 0, .sl none 0 0, .sl none 0 0, .sl none 0 0, .sl none 0 0, .sl none 0 0, .sl none 0 0, .sl none 0 0, .sl none 0 0, .sl none 0 0, .sl none 0 0, .sl none 0 0, .sl none 0 0, .sl none 0 0, .sl none 0 0, .sl none 0 0, .sl none 0 0, .sl none 0 0, .sl none 0 0, .sl none 0 0, .sl none 0 0, .sl none 0 0, .sl none 0 0, .sl none 0 0, .sl none 0 0, .sl none 0 0, .sl none 0 0, .sl none 0 0, .sl none 0 0, .sl none 0 0, .sl none 0 0, .sl none 0 0, .sl none 0 0, .sl none 0 0, .sl none 0 0, .sl none 0 0, .sl none 0 0, .sl none 0 0, .sl none 0 0, .sl none 0 0, .sl none 0 0, .sl none 0 0, .sl none 0 0, .sl none 0 0, .sl none 0 0, .sl none 0 0, .sl none 0 0, .sl none 0 0, .sl none 0 0, .sl none 0 0, .sl none 0 0, .sl none 0 0, .sl none 0 0, .sl none 0 0, .sl none 0 0, .sl none 0 0, .sl none 0 0, .sl none 0 0, .sl none 0 0, .sl none 0 0, .sl none 0 0, .sl none 0 0, .sl none 0 0, .sl none 0 0, .sl none 0 0, .sl none 0 0, .sl none 0 0, .sl none 0 0, .sl none 0 0, .sl none 0 0, .sl none 0 0, .sl none 0 0, .sl none 0 0, .sl none 0 0, .sl none 0 0, .sl none 0 0, .sl none 0 0, .sl none 0 0, .sl none 0 0, .sl none 0 0, .sl none 0 0, .sl none 0 0, .sl none 0 0, .sl none 0 0, .sl none 0 0, .sl none 0 0, .sl none 0 0, .sl none 0 0, .sl none 0 0, .sl none 0 0, .sl none 0 0, .sl none 0 0, .sl none 0 0, .sl none 0 0, .sl none 0 0, .sl none 0 0, .sl none 0 0, .sl none 0 0, .sl none 0 0, .sl none 0 0, .sl none 0 0, .sl none 0 0, .sl none 0 0, .sl none 0 0, .sl none 0 0, .sl none 0 0, .sl none 0 0, .sl none 0 0, .sl none 0 0, .sl none 0 0, .sl none 0 0, .sl none 0 0, .sl none 0 0, .sl none 0 0, .sl none 0 0, .sl none 0 0, .sl none 0 0, .sl none 0 0, .sl none 0 0, .sl none 0 0, .sl none 0 0, .sl none 0 0, .sl none 0 0, .sl none 0 0, .sl none 0 0, .sl none 0 0, .sl none 0 0, .sl none 0 0, .sl none 0 0, .sl none 0 0, .sl none 0 0, .sl none 0 0, .sl none 0 0, .sl none 0 0, .sl none 0 0, .sl none 0 0, .sl none 0 0, .sl none 0 0, .sl none 0 0, .sl none 0 0, .sl none 0 0, .sl none 0 0, .sl none 0 0, .sl none 0 0, .sl none 0 0, .sl none 0 0, .sl none 0 0, .sl none 0 0, .sl none 0 0, .sl none 0 0, .sl none 0 0, .sl none 0 0, .sl none 0 0, .sl none 0 0, .sl none 0 0, .sl none 0 0, .sl none 0 0, .sl none 0 0, .sl none 0 0, .sl none 0 0, .sl none 0 0, .sl none 0 0, .sl none 0 0, .sl none 0 0, .sl none 0 0, .sl none 0 0, .sl none 0 0, .sl none 0 0, .sl none 0 0, .sl none 0 0, .sl none 0 0, .sl none 0 0, .sl none 0 0] }),
  (199, { d := .st [(0, 197), (256, 60)], size := 257, bytes := 6168, zero := .agg [.sl none 0 0, .sl none 0 0, .sl none 0 0, .sl none 0 0, .sl none 0 0, .sl none 0 0, .sl none 0 0, .sl none 0 0, .sl none 0 0, .sl none 0 0, .sl none 0 0, .sl none 0 0, .sl none 0 0, .sl none 0 0, .sl none 0 0, .sl none 0 0, .sl none 0 0, .sl none 0 0, .sl none 0 0, .sl none 0 0, .sl none 0 0, .sl none 0 0, .sl none 0 0, .sl none 0 0, .sl none 0 0, .sl none 0 0, .sl none 0 0, .sl none 0 0, .sl none 0 0, .sl none 0 0, .sl none 0 0, .sl none 0 0, .sl none 0 0, .sl none 0 0, .sl none 0 0, .sl none 0 0, .sl none 0 0, .sl none 0 0, .sl none 0 0, .sl none 0 0, .sl none 0 0, .sl none 0 0, .sl none 0 0, .sl none 0 0, .sl none 0 0, .sl none 0 0, .sl none 0 0, .sl none 0 0, .sl none 0 0, .sl none 0 0, .sl none 0 0, .sl none 0 0, .sl none 0 0, .sl none 0 0, .sl none 0 0, .sl none 0 0, .sl none 0 0, .sl none 0 0, .sl none 0 0, .sl none 0 0, .sl none 0 0, .sl none 0 0, .sl none 0 0, .sl none 0 0, .sl none 0 0, .sl none 0 0, .sl none 0 0, .sl none 0 0, .sl none 0 0, .sl none 0 0, .sl none 0 0, .sl none 0 0, .sl none 0 0, .sl none 0 0, .sl none 0 0, .sl none 0 0, .sl none 0 0, .sl none 0 0, .sl none 0 0, .sl none 0 0, .sl none 0 0, .sl none 0 0, .sl none 0 0, .sl none 0 0, .sl none 0 0, .sl none 0 0, .sl none 0 0, .sl none 0 0, .sl none 0 0, .sl none 0 0, .sl none 0 0, .sl none 0 0, .sl none 0 0, .sl none 0 0, .sl none 0 0, .sl none 0 0, .sl none 0 0, .sl none 0 0, .sl none 0 0, .sl none 0 0, .sl none 0 0, .sl none 0 0, .sl none 0 0, .sl none 0 0, .sl none 0 0, .sl none 0 0, .sl none 0 0, .sl none 0 0, .sl none 0 0, .sl none 0 0, .sl none 0 0, .sl none 0 0, .sl none 0 0, .sl none 0 0, .sl none 0 0, .sl none 0 0, .sl none 0 0, .sl none 0 0, .sl none 0 0, .sl none 0 0, .sl none 0 0, .sl none 0 0, .sl none 0 0, .sl none 0 0, .sl none 0 0, .sl none 0 0, .sl none 0 0, .sl none 0 0, .sl none 0 0, .sl none 0 0, .sl none 0 0, .sl none 0 0, .sl none 0 0, .sl none 0 0, .sl none 0 0, .sl none 0 0, .sl none 0 0, .sl none 0 0, .sl none 0 0, .sl none 0 0, .sl none 0 0, .sl none 0 0, .sl none 0 0, .sl none 0 0, .sl none 0 0, .sl none 0 0, .sl none 0 0, .sl none 0 0, .sl none 0 0, .sl none 0 0, .sl none 0 0, .sl none 0 0, .sl none 0 0, .sl none 0 0, .sl none 0 0, .sl none 0 0, .sl none 0 0, .sl none 0 0, .sl none 0 0, .sl none 0 0, .sl none 0 0, .sl none 0 0, .sl none 0 0, .sl none 0 0, .sl none 0 0, .sl none 0 0, .sl none 0 0, .sl none 0 0, .sl none 0 0, .sl none 0 0, .sl none 0 0, .sl none 0 0, .sl none 0 0, .sl none 0 0, .sl none 0 0, .sl none 0 0, .sl none 0 0, .sl none 0 0, .sl none 0 0, .sl none 0 0, .sl none 0 0, .sl none 0 0, .sl none 0 0, .sl none 0 0, .sl none 0 0, .sl none 0 0, .sl none 0 0, .sl none 0 0, .sl none 0 0, .sl none 0 0, .sl none 0 0, .sl none 0 0, .sl none 0 0, .sl none 0 0, .sl none 0 0, .sl none 0 0, .sl none 0 0, .sl none 0 0, .sl none 0 0, .sl none 0 0, .sl none 0 0, .sl none 0 0, .sl none 0 0, .sl none 0 0, .sl none 0 0, .sl none 0 0, .sl none 0 0, .sl none 0 0, .sl none 0 0, .sl none 0 0, .sl none 0 0, .sl none 0 0, .sl none 0 0, .sl none 0 0, .sl none 0 0, .sl none 0 0, .sl none 0 0, .sl none 0 0, .sl none 0 0, .sl none 0 0, .sl none 0 0, .sl none 0 0, .sl none 0 0, .sl none 0 0, .sl none 0 0, .sl none 0 0, .sl none 0 0, .sl none 0 0, .sl none 0 0, .sl none 0 0, .sl none 0 0, .sl none 0 0, .sl none 0 0, .sl none 0 0, .sl none 0 0, .sl none 0 0, .sl none 0 0, .sl none 0 0, .sl none 0 0, .sl none 0 0, .sl none 0 0, .sl none 0 0, .sl none 0 0, .sl none 0 0, .sl none 0 0, .sl none 0 0, .sl none 0 0, .sl none 0 0, .sl none 0 0, .sl none 0 0, .sl none 0 0, .sl none 0 0, .sl none 0 0, .sl none 0 0, .sl none 0 0, .sl none 0 0, .sl none 0 0] }),
  (200, { d := .ptr 199, size := 1, bytes := 8, zero := .c (.raw (.pointer none)) }),
  (207, { d := .arr 24 5, size := 24, bytes := 24, zero := .agg [.i .u8 0, .i .u8 0, .i .u8 0, .i .u8 0, .i .u8 0, .i .u8 0, .i .u8 0, .i .u8 0, .i .u8 0, .i .u8 0, .i .u8 0, .i .u8 0, .i .u8 0, .i .u8 0, .i .u8 0, .i .u8 0, .i .u8 0, .i .u8 0, .i .u8 0, .i .u8 0, .i .u8 0, .i .u8 0, .i .u8 0, .i .u8 0] }),
  (213, { d := .int .u64, size := 1, bytes := 8, zero := .c (.i .u64 0) }),
  (217, { d := .ptr 3, size := 1, bytes := 8, zero := .c (.raw (.pointer none)) }),
  (220, { d := .st [(0, 5), (1, 5)], size := 2, bytes := 2, zero := .agg [.i .u8 0, .i .u8 0] }),
  (221, { d := .st [(0, 5), (1, 5)], size := 2, bytes := 2, zero := .agg [.i .u8 0, .i .u8 0] }),
  (222, { d := .arr 16 221, size := 32, bytes := 32, zero := .agg [.i .u8 0, .i .u8 0, .i .u8 0, .i .u8 0, .i .u8 0, .i .u8 0, .i .u8 0, .i .u8 0, .i .u8 0, .i .u8 0, .i .u8 0, .i .u8 0, .i .u8 0, .i .u8 0, .i .u8 0, .i .u8 0, .i .u8 0, .i .u8 0, .i .u8 0, .i .u8 0, .i .u8 0, .i .u8 0, .i .u8 0, .i .u8 0, .i .u8 0, .i .u8 0, .i .u8 0, .i .u8 0, .i .u8 0, .i .u8 0, .i .u8 0, .i .u8 0] }),
  (223, { d := .ptr 124, size := 1, bytes := 8, zero := .c (.raw (.pointer none)) }),
  (226, { d := .ptr 251, size := 1, bytes := 8, zero := .c (.raw (.pointer none)) }),
  (228, { d := .st [(0, 226), (1, 9)], size := 2, bytes := 24, zero := .agg [.raw (.pointer none), .s []] }),
  (229, { d := .st [(0, 226), (1, 9)], size := 2, bytes := 24, zero := .agg [.raw (.pointer none), .s []] }),
  (230, { d := .ptr 233, size := 1, bytes := 8, zero := .c (.raw (.pointer none)) }),
  (231, { d := .sl 230, size := 1, bytes := 24, zero := .c (.sl none 0 0) }),
  (232, { d := .st [(0, 9), (1, 3), (2, 9), (3, 230), (4, 231)], size := 5, bytes := 72, zero := .agg [.s [], .i .i64 0, .s [], .raw (.pointer none), .sl none 0 0] }),
  (233, { d := .st [(0, 9), (1, 3), (2, 9), (3, 230), (4, 231)], size := 5, bytes := 72, zero := .agg [.s [], .i .i64 0, .s [], .raw (.pointer none), .sl none 0 0] }),
  (239, { d := .arr 20 184, size := 20, bytes := 160, zero := .agg [.i .u64 0, .i .u64 0, .i .u64 0, .i .u64 0, .i .u64 0, .i .u64 0, .i .u64 0, .i .u64 0, .i .u64 0, .i .u64 0, .i .u64 0, .i .u64 0, .i .u64 0, .i .u64 0, .i .u64 0, .i .u64 0, .i .u64 0, .i .u64 0, .i .u64 0, .i .u64 0] }),
  (241, { d := .ptr 213, size := 1, bytes := 8, zero := .c (.raw (.pointer none)) }),
  (243, { d := .ptr 122, size := 1, bytes := 8, zero := .c (.raw (.pointer none)) }),
  (245, { d := .ptr 21, size := 1, bytes := 8, zero := .c (.raw (.pointer none)) }),
  (255, { d := .arr 32 5, size := 32, bytes := 32, zero := .agg [.i .u8 0, .i .u8 0, .i .u8 0, .i .u8 0, .i .u8 0, .i .u8 0, .i .u8 0, .i .u8 0, .i .u8 0, .i .u8 0, .i .u8 0, .i .u8 0, .i .u8 0, .i .u8 0, .i .u8 0, .i .u8 0, .i .u8 0, .i .u8 0, .i .u8 0, .i .u8 0, .i .u8 0, .i .u8 0, .i .u8 0, .i .u8 0, .i .u8 0, .i .u8 0, .i .u8 0, .i .u8 0, .i .u8 0, .i .u8 0, .i .u8 0, .i .u8 0] }),
  (256, { d := .arr 64 5, size := 64, bytes := 64, zero := .agg [.i .u8 0, .i .u8 0, .i .u8 0, .i .u8 0, .i .u8 0, .i .u8 0, .i .u8 0, .i .u8 0, .i .u8 0, .i .u8 0, .i .u8 0, .i .u8 0, .i .u8 0, .i .u8 0, .i .u8 0, .i .u8 0, .i .u8 0, .i .u8 0, .i .u8 0, .i .u8 0, .i .u8 0, .i .u8 0, .i .u8 0, .i .u8 0, .i .u8 0, .i .u8 0, .i .u8 0, .i .u8 0, .i .u8 0, .i .u8 0, .i .u8 0, .i .u8 0, .i .u8 0, .i .u8 0, .i .u8 0, .i .u8 0, .i .u8 0, .i .u8 0, .i .u8 0, .i .u8 0, .i .u8 0, .i .u8 0, .i .u8 0, .i .u8 0, .i .u8 0, .i .u8 0, .i .u8 0, .i .u8 0, .i .u8 0, .i .u8 0, .i .u8 0, .i .u8 0, .i .u8 0, .i .u8 0, .i .u8 0, .i .u8 0, .i .u8 0, .i .u8 0, .i .u8 0, .i .u8 0, .i .u8 0, .i .u8 0, .i .u8 0, .i .u8 0] }),
  (270, { d := .sl 5, size := 1, bytes := 24, zero := .c (.sl none 0 0) }),
  (271, { d := .ptr 270, size := 1, bytes := 8, zero := .c (.raw (.pointer none)) }),
  (272, { d := .ifc, size := 1, bytes := 16, zero := .c (.raw .nilIface) }),
  (273, { d := .ifc, size := 1, bytes := 16, zero := .c (.raw .nilIface) }),
  (274, { d := .ifc, size := 1, bytes := 16, zero := .c (.raw .nilIface) }),
  (275, { d := .ifc, size := 1, bytes := 16, zero := .c (.raw .nilIface) }),
  (280, { d := .so [(0, 273)], size := 1, bytes := 16, zero := .agg [.raw .nilIface] }),
  (281, { d := .so [(0, 273)], size := 1, bytes := 16, zero := .agg [.raw .nilIface] })]
theorem tyok2 : TyI.ok Tryz.prog 2 { d := .int .i64, size := 1, bytes := 8, zero := .c (.i .i64 0) } := ⟨by kernel_rfl, by kernel_rfl, .inr rfl, (by show Program.underlying _ _ = _; kernel_rfl)⟩
theorem tyok3 : TyI.ok Tryz.prog 3 { d := .int .i64, size := 1, bytes := 8, zero := .c (.i .i64 0) } := ⟨by kernel_rfl, by kernel_rfl, .inr rfl, (by show Program.underlying _ _ = _; kernel_rfl)⟩
theorem tyok4 : TyI.ok Tryz.prog 4 { d := .bool, size := 1, bytes := 1, zero := .c (.b false) } := ⟨by kernel_rfl, by kernel_rfl, .inr rfl, (by show Program.underlying _ _ = _; kernel_rfl)⟩
theorem tyok5 : TyI.ok Tryz.prog 5 { d := .int .u8, size := 1, bytes := 1, zero := .c (.i .u8 0) } := ⟨by kernel_rfl, by kernel_rfl, .inr rfl, (by show Program.underlying _ _ = _; kernel_rfl)⟩
theorem tyok9 : TyI.ok Tryz.prog 9 { d := .str, size := 1, bytes := 16, zero := .c (.s []) } := ⟨by kernel_rfl, by kernel_rfl, .inr rfl, (by show Program.underlying _ _ = _; kernel_rfl)⟩
theorem tyok12 : TyI.ok Tryz.prog 12 { d := .int .u64, size := 1, bytes := 8, zero := .c (.i .u64 0) } := ⟨by kernel_rfl, by kernel_rfl, .inr rfl, (by show Program.underlying _ _ = _; kernel_rfl)⟩
theorem tyok20 : TyI.ok Tryz.prog 20 { d := .ifc, size := 1, bytes := 16, zero := .c (.raw .nilIface) } := ⟨by kernel_rfl, by kernel_rfl, .inr rfl, ifc_ok (by kernel_rfl)⟩
theorem tyok21 : TyI.ok Tryz.prog 21 { d := .int .i32, size := 1, bytes := 4, zero := .c (.i .i32 0) } := ⟨by kernel_rfl, by kernel_rfl, .inr rfl, (by show Program.underlying _ _ = _; kernel_rfl)⟩
theorem tyok22 : TyI.ok Tryz.prog 22 { d := .st [(0, 3), (1, 9)], size := 2, bytes := 24, zero := .agg [.i .i64 0, .s []] } := ⟨by kernel_rfl, by kernel_rfl, .inl rfl, ⟨by kernel_rfl, by kernel_rfl, by kernel_rfl, by kernel_rfl, by kernel_rfl⟩⟩
theorem tyok23 : TyI.ok Tryz.prog 23 { d := .st [(0, 3), (1, 9)], size := 2, bytes := 24, zero := .agg [.i .i64 0, .s []] } := ⟨by kernel_rfl, by kernel_rfl, .inl rfl, ⟨by kernel_rfl, by kernel_rfl, by kernel_rfl, by kernel_rfl, by kernel_rfl⟩⟩
theorem tyok24 : TyI.ok Tryz.prog 24 { d := .sl 3, size := 1, bytes := 24, zero := .c (.sl none 0 0) } := ⟨by kernel_rfl, by kernel_rfl, .inr rfl, (by show Program.underlying _ _ = _; kernel_rfl)⟩
theorem tyok26 : TyI.ok Tryz.prog 26 { d := .ptr 57, size := 1, bytes := 8, zero := .c (.raw (.pointer none)) } := ⟨by kernel_rfl, by kernel_rfl, .inr rfl, (by show Program.underlying _ _ = _; kernel_rfl)⟩
theorem tyok32 : TyI.ok Tryz.prog 32 { d := .sl 81, size := 1, bytes := 24, zero := .c (.sl none 0 0) } := ⟨by kernel_rfl, by kernel_rfl, .inr rfl, (by show Program.underlying _ _ = _; kernel_rfl)⟩
theorem tyok33 : TyI.ok Tryz.prog 33 { d := .sl 23, size := 1, bytes := 24, zero := .c (.sl none 0 0) } := ⟨by kernel_rfl, by kernel_rfl, .inr rfl, (by show Program.underlying _ _ = _; kernel_rfl)⟩
theorem tyok39 : TyI.ok Tryz.prog 39 { d := .sl 42, size := 1, bytes := 24, zero := .c (.sl none 0 0) } := ⟨by kernel_rfl, by kernel_rfl, .inr rfl, (by show Program.underlying _ _ = _; kernel_rfl)⟩
theorem tyok41 : TyI.ok Tryz.prog 41 { d := .st [(0, 3), (1, 9), (2, 9), (3, 9)], size := 4, bytes := 56, zero := .agg [.i .i64 0, .s [], .s [], .s []] } := ⟨by kernel_rfl, by kernel_rfl, .inl rfl, ⟨by kernel_rfl, by kernel_rfl, by kernel_rfl, by kernel_rfl, by kernel_rfl⟩⟩
theorem tyok42 : TyI.ok Tryz.prog 42 { d := .st [(0, 3), (1, 9), (2, 9), (3, 9)], size := 4, bytes := 56, zero := .agg [.i .i64 0, .s [], .s [], .s []] } := ⟨by kernel_rfl, by kernel_rfl, .inl rfl, ⟨by kernel_rfl, by kernel_rfl, by kernel_rfl, by kernel_rfl, by kernel_rfl⟩⟩
theorem tyok43 : TyI.ok Tryz.prog 43 { d := .sl 89, size := 1, bytes := 24, zero := .c (.sl none 0 0) } := ⟨by kernel_rfl, by kernel_rfl, .inr rfl, (by show Program.underlying _ _ = _; kernel_rfl)⟩
theorem tyok56 : TyI.ok Tryz.prog 56 { d := .st [(0, 24), (1, 3)], size := 2, bytes := 32, zero := .agg [.sl none 0 0, .i .i64 0] } := ⟨by kernel_rfl, by kernel_rfl, .inl rfl, ⟨by kernel_rfl, by kernel_rfl, by kernel_rfl, by kernel_rfl, by kernel_rfl⟩⟩
theorem tyok57 : TyI.ok Tryz.prog 57 { d := .st [(0, 24), (1, 3)], size := 2, bytes := 32, zero := .agg [.sl none 0 0, .i .i64 0] } := ⟨by kernel_rfl, by kernel_rfl, .inl rfl, ⟨by kernel_rfl, by kernel_rfl, by kernel_rfl, by kernel_rfl, by kernel_rfl⟩⟩
theorem tyok60 : TyI.ok Tryz.prog 60 { d := .sl 9, size := 1, bytes := 24, zero := .c (.sl none 0 0) } := ⟨by kernel_rfl, by kernel_rfl, .inr rfl, (by show Program.underlying _ _ = _; kernel_rfl)⟩
theorem tyok61 : TyI.ok Tryz.prog 61 { d := .ptr 130, size := 1, bytes := 8, zero := .c (.raw (.pointer none)) } := ⟨by kernel_rfl, by kernel_rfl, .inr rfl, (by show Program.underlying _ _ = _; kernel_rfl)⟩
theorem tyok63 : TyI.ok Tryz.prog 63 { d := .ptr 66, size := 1, bytes := 8, zero := .c (.raw (.pointer none)) } := ⟨by kernel_rfl, by kernel_rfl, .inr rfl, (by show Program.underlying _ _ = _; kernel_rfl)⟩
theorem tyok64 : TyI.ok Tryz.prog 64 { d := .sl 5, size := 1, bytes := 24, zero := .c (.sl none 0 0) } := ⟨by kernel_rfl, by kernel_rfl, .inr rfl, (by show Program.underlying _ _ = _; kernel_rfl)⟩
theorem tyok65 : TyI.ok Tryz.prog 65 { d := .st [(0, 63), (1, 64)], size := 2, bytes := 32, zero := .agg [.raw (.pointer none), .sl none 0 0] } := ⟨by kernel_rfl, by kernel_rfl, .inl rfl, ⟨by kernel_rfl, by kernel_rfl, by kernel_rfl, by kernel_rfl, by kernel_rfl⟩⟩
theorem tyok66 : TyI.ok Tryz.prog 66 { d := .st [(0, 63), (1, 64)], size := 2, bytes := 32, zero := .agg [.raw (.pointer none), .sl none 0 0] } := ⟨by kernel_rfl, by kernel_rfl, .inl rfl, ⟨by kernel_rfl, by kernel_rfl, by kernel_rfl, by kernel_rfl, by kernel_rfl⟩⟩
theorem tyok67 : TyI.ok Tryz.prog 67 { d := .ifc, size := 1, bytes := 16, zero := .c (.raw .nilIface) } := ⟨by kernel_rfl, by kernel_rfl, .inr rfl, ifc_ok (by kernel_rfl)⟩
theorem tyok68 : TyI.ok Tryz.prog 68 { d := .ifc, size := 1, bytes := 16, zero := .c (.raw .nilIface) } := ⟨by kernel_rfl, by kernel_rfl, .inr rfl, ifc_ok (by kernel_rfl)⟩
theorem tyok74 : TyI.ok Tryz.prog 74 { d := .int .u64, size := 1, bytes := 8, zero := .c (.i .u64 0) } := ⟨by kernel_rfl, by kernel_rfl, .inr rfl, (by show Program.underlying _ _ = _; kernel_rfl)⟩
theorem tyok79 : TyI.ok Tryz.prog 79 { d := .sl 102, size := 1, bytes := 24, zero := .c (.sl none 0 0) } := ⟨by kernel_rfl, by kernel_rfl, .inr rfl, (by show Program.underlying _ _ = _; kernel_rfl)⟩
theorem tyok80 : TyI.ok Tryz.prog 80 { d := .st [(0, 3), (1, 3), (2, 9), (3, 79), (4, 32)], size := 5, bytes := 80, zero := .agg [.i .i64 0, .i .i64 0, .s [], .sl none 0 0, .sl none 0 0] } := ⟨by kernel_rfl, by kernel_rfl, .inl rfl, ⟨by kernel_rfl, by kernel_rfl, by kernel_rfl, by kernel_rfl, by kernel_rfl⟩⟩
theorem tyok81 : TyI.ok Tryz.prog 81 { d := .st [(0, 3), (1, 3), (2, 9), (3, 79), (4, 32)], size := 5, bytes := 80, zero := .agg [.i .i64 0, .i .i64 0, .s [], .sl none 0 0, .sl none 0 0] } := ⟨by kernel_rfl, by kernel_rfl, .inl rfl, ⟨by kernel_rfl, by kernel_rfl, by kernel_rfl, by kernel_rfl, by kernel_rfl⟩⟩
theorem tyok83 : TyI.ok Tryz.prog 83 { d := .ptr 87, size := 1, bytes := 8, zero := .c (.raw (.pointer none)) } := ⟨by kernel_rfl, by kernel_rfl, .inr rfl, (by show Program.underlying _ _ = _; kernel_rfl)⟩
theorem tyok84 : TyI.ok Tryz.prog 84 { d := .mp 23 4, size := 1, bytes := 8, zero := .c (.raw (.map none)) } := ⟨by kernel_rfl, by kernel_rfl, .inr rfl, (by show Program.underlying _ _ = _; kernel_rfl)⟩
theorem tyok86 : TyI.ok Tryz.prog 86 { d := .st [(0, 66), (2, 84), (3, 24), (4, 3), (5, 39), (6, 3)], size := 7, bytes := 104, zero := .agg [.raw (.pointer none), .sl none 0 0, .raw (.map none), .sl none 0 0, .i .i64 0, .sl none 0 0, .i .i64 0] } := ⟨by kernel_rfl, by kernel_rfl, .inl rfl, ⟨by kernel_rfl, by kernel_rfl, by kernel_rfl, by kernel_rfl, by kernel_rfl⟩⟩
theorem tyok87 : TyI.ok Tryz.prog 87 { d := .st [(0, 66), (2, 84), (3, 24), (4, 3), (5, 39), (6, 3)], size := 7, bytes := 104, zero := .agg [.raw (.pointer none), .sl none 0 0, .raw (.map none), .sl none 0 0, .i .i64 0, .sl none 0 0, .i .i64 0] } := ⟨by kernel_rfl, by kernel_rfl, .inl rfl, ⟨by kernel_rfl, by kernel_rfl, by kernel_rfl, by kernel_rfl, by kernel_rfl⟩⟩
theorem tyok88 : TyI.ok Tryz.prog 88 { d := .st [(0, 9), (1, 79), (2, 24)], size := 3, bytes := 64, zero := .agg [.s [], .sl none 0 0, .sl none 0 0] } := ⟨by kernel_rfl, by kernel_rfl, .inl rfl, ⟨by kernel_rfl, by kernel_rfl, by kernel_rfl, by kernel_rfl, by kernel_rfl⟩⟩
theorem tyok89 : TyI.ok Tryz.prog 89 { d := .st [(0, 9), (1, 79), (2, 24)], size := 3, bytes := 64, zero := .agg [.s [], .sl none 0 0, .sl none 0 0] } := ⟨by kernel_rfl, by kernel_rfl, .inl rfl, ⟨by kernel_rfl, by kernel_rfl, by kernel_rfl, by kernel_rfl, by kernel_rfl⟩⟩
theorem tyok92 : TyI.ok Tryz.prog 92 { d := .ptr 94, size := 1, bytes := 8, zero := .c (.raw (.pointer none)) } := ⟨by kernel_rfl, by kernel_rfl, .inr rfl, (by show Program.underlying _ _ = _; kernel_rfl)⟩
theorem tyok93 : TyI.ok Tryz.prog 93 { d := .st [(0, 33), (1, 24), (2, 3), (3, 39), (4, 3), (5, 4)], size := 6, bytes := 96, zero := .agg [.sl none 0 0, .sl none 0 0, .i .i64 0, .sl none 0 0, .i .i64 0, .b false] } := ⟨by kernel_rfl, by kernel_rfl, .inl rfl, ⟨by kernel_rfl, by kernel_rfl, by kernel_rfl, by kernel_rfl, by kernel_rfl⟩⟩
theorem tyok94 : TyI.ok Tryz.prog 94 { d := .st [(0, 33), (1, 24), (2, 3), (3, 39), (4, 3), (5, 4)], size := 6, bytes := 96, zero := .agg [.sl none 0 0, .sl none 0 0, .i .i64 0, .sl none 0 0, .i .i64 0, .b false] } := ⟨by kernel_rfl, by kernel_rfl, .inl rfl, ⟨by kernel_rfl, by kernel_rfl, by kernel_rfl, by kernel_rfl, by kernel_rfl⟩⟩
theorem tyok97 : TyI.ok Tryz.prog 97 { d := .mp 9 4, size := 1, bytes := 8, zero := .c (.raw (.map none)) } := ⟨by kernel_rfl, by kernel_rfl, .inr rfl, (by show Program.underlying _ _ = _; kernel_rfl)⟩
theorem tyok98 : TyI.ok Tryz.prog 98 { d := .mp 3 3, size := 1, bytes := 8, zero := .c (.raw (.map none)) } := ⟨by kernel_rfl, by kernel_rfl, .inr rfl, (by show Program.underlying _ _ = _; kernel_rfl)⟩
theorem tyok100 : TyI.ok Tryz.prog 100 { d := .mp 9 3, size := 1, bytes := 8, zero := .c (.raw (.map none)) } := ⟨by kernel_rfl, by kernel_rfl, .inr rfl, (by show Program.underlying _ _ = _; kernel_rfl)⟩
theorem tyok101 : TyI.ok Tryz.prog 101 { d := .st [(0, 3), (1, 9), (2, 23), (4, 9), (5, 79)], size := 6, bytes := 88, zero := .agg [.i .i64 0, .s [], .i .i64 0, .s [], .s [], .sl none 0 0] } := ⟨by kernel_rfl, by kernel_rfl, .inl rfl, ⟨by kernel_rfl, by kernel_rfl, by kernel_rfl, by kernel_rfl, by kernel_rfl⟩⟩
theorem tyok102 : TyI.ok Tryz.prog 102 { d := .st [(0, 3), (1, 9), (2, 23), (4, 9), (5, 79)], size := 6, bytes := 88, zero := .agg [.i .i64 0, .s [], .i .i64 0, .s [], .s [], .sl none 0 0] } := ⟨by kernel_rfl, by kernel_rfl, .inl rfl, ⟨by kernel_rfl, by kernel_rfl, by kernel_rfl, by kernel_rfl, by kernel_rfl⟩⟩
theorem tyok104 : TyI.ok Tryz.prog 104 { d := .ptr 89, size := 1, bytes := 8, zero := .c (.raw (.pointer none)) } := ⟨by kernel_rfl, by kernel_rfl, .inr rfl, (by show Program.underlying _ _ = _; kernel_rfl)⟩
theorem tyok118 : TyI.ok Tryz.prog 118 { d := .int .u32, size := 1, bytes := 4, zero := .c (.i .u32 0) } := ⟨by kernel_rfl, by kernel_rfl, .inr rfl, (by show Program.underlying _ _ = _; kernel_rfl)⟩
theorem tyok119 : TyI.ok Tryz.prog 119 { d := .so [(0, 117), (0, 118)], size := 1, bytes := 4, zero := .agg [.i .u32 0] } := ⟨by kernel_rfl, by kernel_rfl, .inl rfl, ⟨by kernel_rfl, by kernel_rfl⟩⟩
theorem tyok120 : TyI.ok Tryz.prog 120 { d := .so [(0, 117), (0, 118)], size := 1, bytes := 4, zero := .agg [.i .u32 0] } := ⟨by kernel_rfl, by kernel_rfl, .inl rfl, ⟨by kernel_rfl, by kernel_rfl⟩⟩
theorem tyok122 : TyI.ok Tryz.prog 122 { d := .st [(0, 21), (1, 118)], size := 2, bytes := 8, zero := .agg [.i .i32 0, .i .u32 0] } := ⟨by kernel_rfl, by kernel_rfl, .inl rfl, ⟨by kernel_rfl, by kernel_rfl, by kernel_rfl, by kernel_rfl, by kernel_rfl⟩⟩
theorem tyok123 : TyI.ok Tryz.prog 123 { d := .so [(0, 116), (0, 122)], size := 2, bytes := 8, zero := .agg [.i .i32 0, .i .u32 0] } := ⟨by kernel_rfl, by kernel_rfl, .inl rfl, ⟨by kernel_rfl, by kernel_rfl⟩⟩
theorem tyok124 : TyI.ok Tryz.prog 124 { d := .so [(0, 116), (0, 122)], size := 2, bytes := 8, zero := .agg [.i .i32 0, .i .u32 0] } := ⟨by kernel_rfl, by kernel_rfl, .inl rfl, ⟨by kernel_rfl, by kernel_rfl⟩⟩
theorem tyok125 : TyI.ok Tryz.prog 125 { d := .so [(0, 116), (0, 120), (1, 124)], size := 3, bytes := 12, zero := .agg [.i .u32 0, .i .i32 0, .i .u32 0] } := ⟨by kernel_rfl, by kernel_rfl, .inl rfl, ⟨by kernel_rfl, by kernel_rfl⟩⟩
theorem tyok126 : TyI.ok Tryz.prog 126 { d := .so [(0, 116), (0, 120), (1, 124)], size := 3, bytes := 12, zero := .agg [.i .u32 0, .i .i32 0, .i .u32 0] } := ⟨by kernel_rfl, by kernel_rfl, .inl rfl, ⟨by kernel_rfl, by kernel_rfl⟩⟩
theorem tyok127 : TyI.ok Tryz.prog 127 { d := .ifc, size := 1, bytes := 16, zero := .c (.raw .nilIface) } := ⟨by kernel_rfl, by kernel_rfl, .inr rfl, ifc_ok (by kernel_rfl)⟩
theorem tyok128 : TyI.ok Tryz.prog 128 { d := .ifc, size := 1, bytes := 16, zero := .c (.raw .nilIface) } := ⟨by kernel_rfl, by kernel_rfl, .inr rfl, ifc_ok (by kernel_rfl)⟩
theorem tyok129 : TyI.ok Tryz.prog 129 { d := .so [(0, 126), (3, 128), (4, 60)], size := 5, bytes := 56, zero := .agg [.i .u32 0, .i .i32 0, .i .u32 0, .raw .nilIface, .sl none 0 0] } := ⟨by kernel_rfl, by kernel_rfl, .inl rfl, ⟨by kernel_rfl, by kernel_rfl⟩⟩
theorem tyok130 : TyI.ok Tryz.prog 130 { d := .so [(0, 126), (3, 128), (4, 60)], size := 5, bytes := 56, zero := .agg [.i .u32 0, .i .i32 0, .i .u32 0, .raw .nilIface, .sl none 0 0] } := ⟨by kernel_rfl, by kernel_rfl, .inl rfl, ⟨by kernel_rfl, by kernel_rfl⟩⟩
theorem tyok132 : TyI.ok Tryz.prog 132 { d := .arr 6 9, size := 6, bytes := 96, zero := .agg [.s [], .s [], .s [], .s [], .s [], .s []] } := ⟨by kernel_rfl, by kernel_rfl, .inl rfl, (by show Program.underlying _ _ = _; kernel_rfl)⟩
theorem tyok134 : TyI.ok Tryz.prog 134 { d := .ptr 5, size := 1, bytes := 8, zero := .c (.raw (.pointer none)) } := ⟨by kernel_rfl, by kernel_rfl, .inr rfl, (by show Program.underlying _ _ = _; kernel_rfl)⟩
theorem tyok160 : TyI.ok Tryz.prog 160 { d := .ptr 126, size := 1, bytes := 8, zero := .c (.raw (.pointer none)) } := ⟨by kernel_rfl, by kernel_rfl, .inr rfl, (by show Program.underlying _ _ = _; kernel_rfl)⟩
theorem tyok162 : TyI.ok Tryz.prog 162 { d := .up, size := 1, bytes := 8, zero := .c (.raw (.pointer none)) } := ⟨by kernel_rfl, by kernel_rfl, .inr rfl, (by show Program.underlying _ _ = _; kernel_rfl)⟩
theorem tyok173 : TyI.ok Tryz.prog 173 { d := .ptr 147, size := 1, bytes := 8, zero := .c (.raw (.pointer none)) } := ⟨by kernel_rfl, by kernel_rfl, .inr rfl, (by show Program.underlying _ _ = _; kernel_rfl)⟩
theorem tyok176 : TyI.ok Tryz.prog 176 { d := .int .i64, size := 1, bytes := 8, zero := .c (.i .i64 0) } := ⟨by kernel_rfl, by kernel_rfl, .inr rfl, (by show Program.underlying _ _ = _; kernel_rfl)⟩
theorem tyok184 : TyI.ok Tryz.prog 184 { d := .int .u64, size := 1, bytes := 8, zero := .c (.i .u64 0) } := ⟨by kernel_rfl, by kernel_rfl, .inr rfl, (by show Program.underlying _ _ = _; kernel_rfl)⟩
theorem tyok186 : TyI.ok Tryz.prog 186 { d := .ptr 120, size := 1, bytes := 8, zero := .c (.raw (.pointer none)) } := ⟨by kernel_rfl, by kernel_rfl, .inr rfl, (by show Program.underlying _ _ = _; kernel_rfl)⟩
theorem tyok188 : TyI.ok Tryz.prog 188 { d := .ptr 118, size := 1, bytes := 8, zero := .c (.raw (.pointer none)) } := ⟨by kernel_rfl, by kernel_rfl, .inr rfl, (by show Program.underlying _ _ = _; kernel_rfl)⟩
theorem tyok190 : TyI.ok Tryz.prog 190 { d := .ptr 229, size := 1, bytes := 8, zero := .c (.raw (.pointer none)) } := ⟨by kernel_rfl, by kernel_rfl, .inr rfl, (by show Program.underlying _ _ = _; kernel_rfl)⟩
theorem tyok192 : TyI.ok Tryz.prog 192 { d := .ptr 235, size := 1, bytes := 8, zero := .c (.raw (.pointer none)) } := ⟨by kernel_rfl, by kernel_rfl, .inr rfl, (by show Program.underlying _ _ = _; kernel_rfl)⟩
theorem tyok196 : TyI.ok Tryz.prog 196 { d := .ptr 195, size := 1, bytes := 8, zero := .c (.raw (.pointer none)) } := ⟨by kernel_rfl, by kernel_rfl, .inr rfl, (by show Program.underlying _ _ = _; kernel_rfl)⟩
theorem tyok197 : TyI.ok Tryz.prog 197 { d := .arr 256 64, size := 256, bytes := 6144, zero := .agg [.sl none 0 0, .sl none 0 0, .sl none 0 0, .sl none 0 0, .sl none 0 0, .sl none 0 0, .sl none 0 0, .sl none 0 0, .sl none 0 0, .sl none 0 0, .sl none 0 0, .sl none 0 0, .sl none 0 0, .sl none 0 0, .sl none 0 0, .sl none 0 0, .sl none 0 0, .sl none 0 0, .sl none 0 0, .sl none 0 0, .sl none 0 0, .sl none 0 0, .sl none 0 0, .sl none 0 0, .sl none 0 0, .sl none 0 0, .sl none 0 0, .sl none 0 0, .sl none 0 0, .sl none 0 0, .sl none 0 0, .sl none 0 0, .sl none 0 0, .sl none 0 0, .sl none 0 0, .sl none 0 0, .sl none 0 0, .sl none 0 0, .sl none 0 0, .sl none 0 0, .sl none 0 0, .sl none 0 0, .sl none 0 0, .sl none 0 0, .sl none 0 0, .sl none 0 0, .sl none 0 0, .sl none 0 0, .sl none 0 0, .sl none 0 0, .sl none 0 0, .sl none 0 0, .sl none 0 0, .sl none 0 0, .sl none 0 0, .sl none 0 0, .sl none 0 0, .sl none 0 0, .sl none 0 0, .sl none 0 0, .sl none 0 0, .sl none 0 0, .sl none 0 0, .sl none 0 0, .sl none 0 0, .sl none 0 0, .sl none 0 0, .sl none 0 0, .sl none 0 0, .sl none 0 0, .sl none 0 0, .sl none 0 0, .sl none 0 0, .sl none 0 0, .sl none 0 0, .sl none 0 0, .sl none 0 0, .sl none 0 0, .sl none 0 0, .sl none 0 0, .sl none 0 0, .sl none 0 0, .sl none 0 0, .sl none 0 0, .sl none 0 0, .sl none 0 0, .sl none 0 0, .sl none 0 0, .sl none 0 0, .sl none 0 0, .sl none 0 0, .sl none 0 0, .sl none 0 0, .sl none 0 0, .sl none 0 0, .sl none 0 0, .sl none 0 0, .sl none 0 0, .sl none 0 0, .sl none 0 0, .sl none 0 0, .sl none 0 0, .sl none 0 0, .sl none 0 0, .sl none 0 0, .sl none 0 0, .sl none 0 0, .sl none 0 0, .sl none 0 0, .sl none 0 0, .sl none 0 0, .sl none 0 0, .sl none 0 0, .sl none 0 0, .sl none 0 0, .sl none 0 0, .sl none 0 0, .sl none 0 0, .sl none 0 0, .sl none 0 0, .sl none 0 0, .sl none 0 0, .sl none 0 0, .sl none 0 0, .sl none 0 0, .sl none 0 0, .sl none 0 0, .sl none 0 0, .sl none 0 0, .sl none 0 0, .sl none 0 0, .sl none 0 0, .sl none 0 0, .sl none 0 0, .sl none 0 0, .sl none 0 0, .sl none 0 0, .sl none 0 0, .sl none 0 0, .sl none 0 0, .sl none 0 0, .sl none 0 0, .sl none 0 0, .sl none 0 0, .sl none 0 0, .sl none 0 0, .sl none 0 0, .sl none 0 0, .sl none 0 0, .sl none 0 0, .sl none 0 0, .sl none 0 0, .sl none 0 0, .sl none 0 0, .sl none 0 0, .sl none 0 0, .sl none 0 0, .sl none 0 0, .sl none 0 0, .sl none 0 0, .sl none 0 0, .sl none 0 0, .sl none 0 0, .sl none 0 0, .sl none 0 0, .sl none 0 0, .sl none 0 0, .sl none 0 0, .sl none 0 0, .sl none 0 0, .sl none 0 0, .sl none 0 0, .sl none 0 0, .sl none 0 0, .sl none 0 0, .sl none 0 0, .sl none 0 0, .sl none 0 0, .sl none 0 0, .sl none 0 0, .sl none 0 0, .sl none 0 0, .sl none 0 0, .sl none 0 0, .sl none 0 0, .sl none 0 0, .sl none 0 0, .sl none 0 0, .sl none 0 0, .sl none 0 0, .sl none 0 0, .sl none 0 0, .sl none 0 0, .sl none 0 0, .sl none 0 0, .sl none 0 0, .sl none 0 0, .sl none 0 0, .sl none 0 0, .sl none 0 0, .sl none 0 0, .sl none 0 0, .sl none 0 0, .sl none 0 0, .sl none 0 0, .sl none 0 0, .sl none 0 0, .sl none 0 0, .sl none 0 0, .sl none 0 0, .sl none 0 0, .sl none 0 0, .sl none 0 0, .sl none 0 0, .sl none 0 0, .sl none 0 0, .sl none 0 0, .sl none 0 0, .sl none 0 0, .sl none 0 0, .sl none 0 0, .sl none 0 0, .sl none 0 0, .sl none 0 0, .sl none 0 0, .sl none 0 0, .sl none 0 0, .sl none 0 0, .sl none 0 0, .sl none 0 0, .sl none 0 0, .sl none 0 0, .sl none 0 0, .sl none 0 0, .sl none 0 0, .sl none 0 0, .sl none 0 0, .sl none 0 0, .sl none 0 0, .sl none 0 0, .sl none 0 0, .sl none 0 0, .sl none 0 0, .sl none 0 0, .sl none 0 0, .sl none 0 0, .sl none 0 0, .sl none 0 0, .sl none 0 0, .sl none 0 0, .sl none 0 0, .sl none 0 0, .sl none 0 0, .sl none 0 0, .sl none 0 0, .sl none 0 0] } := ⟨by kernel_rfl, by kernel_rfl, .inl rfl, (by show Program.underlying _ _ = _; kernel_rfl)⟩
theorem tyok199 : TyI.ok Tryz.prog 199 { d := .st [(0, 197), (256, 60)], size := 257, bytes := 6168, zero := .agg [.sl none 0 0, .sl none 0 0, .sl none 0 0, .sl none 0 0, .sl none 0 0, .sl none 0 0, .sl none 0 0, .sl none 0 0, .sl none 0 0, .sl none 0 0, .sl none 0 0, .sl none 0 0, .sl none 0 0, .sl none 0 0, .sl none 0 0, .sl none 0 0, .sl none 0 0, .sl none 0 0, .sl none 0 0, .sl none 0 0, .sl none 0 0, .sl none 0 0, .sl none 0 0, .sl none 0 0, .sl none 0 0, .sl none 0 0, .sl none 0 0, .sl none 0 0, .sl none 0 0, .sl none 0 0, .sl none 0 0, .sl none 0 0, .sl none 0 0, .sl none 0 0, .sl none 0 0, .sl none 0 0, .sl none 0 0, .sl none 0 0, .sl none 0 0, .sl none 0 0, .sl none 0 0, .sl none 0 0, .sl none 0 0, .sl none 0 0, .sl none 0 0, .sl none 0 0, .sl none 0 0, .sl none 0 0, .sl none 0 0, .sl none 0 0, .sl none 0 0, .sl none 0 0, .sl none 0 0, .sl none 0 0, .sl none 0 0, .sl none 0 0, .sl none 0 0, .sl none 0 0, .sl none 0 0, .sl none 0 0, .sl none 0 0, .sl none 0 0, .sl none 0 0, .sl none 0 0, .sl none 0 0, .sl none 0 0, .sl none 0 0, .sl none 0 0, .sl none 0 0, .sl none 0 0, .sl none 0 0, .sl none 0 0, .sl none 0 0, .sl none 0 0, .sl none 0 0, .sl none 0 0, .sl none 0 0, .sl none 0 0, .sl none 0 0, .sl none 0 0, .sl none 0 0, .sl none 0 0, .sl none 0 0, .sl none 0 0, .sl none 0 0, .sl none 0 0, .sl none 0 0, .sl none 0 0, .sl none 0 0, .sl none 0 0, .sl none 0 0, .sl none 0 0, .sl none 0 0, .sl none 0 0, .sl none 0 0, .sl none 0 0, .sl none 0 0, .sl none 0 0, .sl none 0 0, .sl none 0 0, .sl none 0 0, .sl none 0 0, .sl none 0 0, .sl none 0 0, .sl none 0 0, .sl none 0 0, .sl none 0 0, .sl none 0 0, .sl none 0 0, .sl none 0 0, .sl none 0 0, .sl none 0 0, .sl none 0 0, .sl none 0 0, .sl none 0 0, .sl none 0 0, .sl none 0 0, .sl none 0 0, .sl none 0 0, .sl none 0 0, .sl none 0 0, .sl none 0 0, .sl none 0 0, .sl none 0 0, .sl none 0 0, .sl none 0 0, .sl none 0 0, .sl none 0 0, .sl none 0 0, .sl none 0 0, .sl none 0 0, .sl none 0 0, .sl none 0 0, .sl none 0 0, .sl none 0 0, .sl none 0 0, .sl none 0 0, .sl none 0 0, .sl none 0 0, .sl none 0 0, .sl none 0 0, .sl none 0 0, .sl none 0 0, .sl none 0 0, .sl none 0 0, .sl none 0 0, .sl none 0 0, .sl none 0 0, .sl none 0 0, .sl none 0 0, .sl none 0 0, .sl none 0 0, .sl none 0 0, .sl none 0 0, .sl none 0 0, .sl none 0 0, .sl none 0 0, .sl none 0 0, .sl none 0 0, .sl none 0 0, .sl none 0 0, .sl none 0 0, .sl none 0 0, .sl none 0 0, .sl none 0 0, .sl none 0 0, .sl none 0 0, .sl none 0 0, .sl none 0 0, .sl none 0 0, .sl none 0 0, .sl none 0 0, .sl none 0 0, .sl none 0 0, .sl none 0 0, .sl none 0 0, .sl none 0 0, .sl none 0 0, .sl none 0 0, .sl none 0 0, .sl none 0 0, .sl none 0 0, .sl none 0 0, .sl none 0 0, .sl none 0 0, .sl none 0 0, .sl none 0 0, .sl none 0 0, .sl none 0 0, .sl none 0 0, .sl none 0 0, .sl none 0 0, .sl none 0 0, .sl none 0 0, .sl none 0 0, .sl none 0 0, .sl none 0 0, .sl none 0 0, .sl none 0 0, .sl none 0 0, .sl none 0 0, .sl none 0 0, .sl none 0 0, .sl none 0 0, .sl none 0 0, .sl none 0 0, .sl none 0 0, .sl none 0 0, .sl none 0 0, .sl none 0 0, .sl none 0 0, .sl none 0 0, .sl none 0 0, .sl none 0 0, .sl none 0 0, .sl none 0 0, .sl none 0 0, .sl none 0 0, .sl none 0 0, .sl none 0 0, .sl none 0 0, .sl none 0 0, .sl none 0 0, .sl none 0 0, .sl none 0 0, .sl none 0 0, .sl none 0 0, .sl none 0 0, .sl none 0 0, .sl none 0 0, .sl none 0 0, .sl none 0 0, .sl none 0 0, .sl none 0 0, .sl none 0 0, .sl none 0 0, .sl none 0 0, .sl none 0 0, .sl none 0 0, .sl none 0 0, .sl none 0 0, .sl none 0 0, .sl none 0 0, .sl none 0 0, .sl none 0 0, .sl none 0 0, .sl none 0 0, .sl none 0 0, .sl none 0 0, .sl none 0 0, .sl none 0 0, .sl none 0 0, .sl none 0 0, .sl none 0 0, .sl none 0 0, .sl none 0 0, .sl none 0 0] } := ⟨by kernel_rfl, by kernel_rfl, .inl rfl, ⟨by kernel_rfl, by kernel_rfl, by kernel_rfl, by kernel_rfl, by kernel_rfl⟩⟩
theorem tyok200 : TyI.ok Tryz.prog 200 { d := .ptr 199, size := 1, bytes := 8, zero := .c (.raw (.pointer none)) } := ⟨by kernel_rfl, by kernel_rfl, .inr rfl, (by show Program.underlying _ _ = _; kernel_rfl)⟩
theorem tyok207 : TyI.ok Tryz.prog 207 { d := .arr 24 5, size := 24, bytes := 24, zero := .agg [.i .u8 0, .i .u8 0, .i .u8 0, .i .u8 0, .i .u8 0, .i .u8 0, .i .u8 0, .i .u8 0, .i .u8 0, .i .u8 0, .i .u8 0, .i .u8 0, .i .u8 0, .i .u8 0, .i .u8 0, .i .u8 0, .i .u8 0, .i .u8 0, .i .u8 0, .i .u8 0, .i .u8 0, .i .u8 0, .i .u8 0, .i .u8 0] } := ⟨by kernel_rfl, by kernel_rfl, .inl rfl, (by show Program.underlying _ _ = _; kernel_rfl)⟩
theorem tyok213 : TyI.ok Tryz.prog 213 { d := .int .u64, size := 1, bytes := 8, zero := .c (.i .u64 0) } := ⟨by kernel_rfl, by kernel_rfl, .inr rfl, (by show Program.underlying _ _ = _; kernel_rfl)⟩
theorem tyok217 : TyI.ok Tryz.prog 217 { d := .ptr 3, size := 1, bytes := 8, zero := .c (.raw (.pointer none)) } := ⟨by kernel_rfl, by kernel_rfl, .inr rfl, (by show Program.underlying _ _ = _; kernel_rfl)⟩
theorem tyok220 : TyI.ok Tryz.prog 220 { d := .st [(0, 5), (1, 5)], size := 2, bytes := 2, zero := .agg [.i .u8 0, .i .u8 0] } := ⟨by kernel_rfl, by kernel_rfl, .inl rfl, ⟨by kernel_rfl, by kernel_rfl, by kernel_rfl, by kernel_rfl, by kernel_rfl⟩⟩
theorem tyok221 : TyI.ok Tryz.prog 221 { d := .st [(0, 5), (1, 5)], size := 2, bytes := 2, zero := .agg [.i .u8 0, .i .u8 0] } := ⟨by kernel_rfl, by kernel_rfl, .inl rfl, ⟨by kernel_rfl, by kernel_rfl, by kernel_rfl, by kernel_rfl, by kernel_rfl⟩⟩
theorem tyok222 : TyI.ok Tryz.prog 222 { d := .arr 16 221, size := 32, bytes := 32, zero := .agg [.i .u8 0, .i .u8 0, .i .u8 0, .i .u8 0, .i .u8 0, .i .u8 0, .i .u8 0, .i .u8 0, .i .u8 0, .i .u8 0, .i .u8 0, .i .u8 0, .i .u8 0, .i .u8 0, .i .u8 0, .i .u8 0, .i .u8 0, .i .u8 0, .i .u8 0, .i .u8 0, .i .u8 0, .i .u8 0, .i .u8 0, .i .u8 0, .i .u8 0, .i .u8 0, .i .u8 0, .i .u8 0, .i .u8 0, .i .u8 0, .i .u8 0, .i .u8 0] } := ⟨by kernel_rfl, by kernel_rfl, .inl rfl, (by show Program.underlying _ _ = _; kernel_rfl)⟩
theorem tyok223 : TyI.ok Tryz.prog 223 { d := .ptr 124, size := 1, bytes := 8, zero := .c (.raw (.pointer none)) } := ⟨by kernel_rfl, by kernel_rfl, .inr rfl, (by show Program.underlying _ _ = _; kernel_rfl)⟩
theorem tyok226 : TyI.ok Tryz.prog 226 { d := .ptr 251, size := 1, bytes := 8, zero := .c (.raw (.pointer none)) } := ⟨by kernel_rfl, by kernel_rfl, .inr rfl, (by show Program.underlying _ _ = _; kernel_rfl)⟩
theorem tyok228 : TyI.ok Tryz.prog 228 { d := .st [(0, 226), (1, 9)], size := 2, bytes := 24, zero := .agg [.raw (.pointer none), .s []] } := ⟨by kernel_rfl, by kernel_rfl, .inl rfl, ⟨by kernel_rfl, by kernel_rfl, by kernel_rfl, by kernel_rfl, by kernel_rfl⟩⟩
theorem tyok229 : TyI.ok Tryz.prog 229 { d := .st [(0, 226), (1, 9)], size := 2, bytes := 24, zero := .agg [.raw (.pointer none), .s []] } := ⟨by kernel_rfl, by kernel_rfl, .inl rfl, ⟨by kernel_rfl, by kernel_rfl, by kernel_rfl, by kernel_rfl, by kernel_rfl⟩⟩
theorem tyok230 : TyI.ok Tryz.prog 230 { d := .ptr 233, size := 1, bytes := 8, zero := .c (.raw (.pointer none)) } := ⟨by kernel_rfl, by kernel_rfl, .inr rfl, (by show Program.underlying _ _ = _; kernel_rfl)⟩
theorem tyok231 : TyI.ok Tryz.prog 231 { d := .sl 230, size := 1, bytes := 24, zero := .c (.sl none 0 0) } := ⟨by kernel_rfl, by kernel_rfl, .inr rfl, (by show Program.underlying _ _ = _; kernel_rfl)⟩
theorem tyok232 : TyI.ok Tryz.prog 232 { d := .st [(0, 9), (1, 3), (2, 9), (3, 230), (4, 231)], size := 5, bytes := 72, zero := .agg [.s [], .i .i64 0, .s [], .raw (.pointer none), .sl none 0 0] } := ⟨by kernel_rfl, by kernel_rfl, .inl rfl, ⟨by kernel_rfl, by kernel_rfl, by kernel_rfl, by kernel_rfl, by kernel_rfl⟩⟩
theorem tyok233 : TyI.ok Tryz.prog 233 { d := .st [(0, 9), (1, 3), (2, 9), (3, 230), (4, 231)], size := 5, bytes := 72, zero := .agg [.s [], .i .i64 0, .s [], .raw (.pointer none), .sl none 0 0] } := ⟨by kernel_rfl, by kernel_rfl, .inl rfl, ⟨by kernel_rfl, by kernel_rfl, by kernel_rfl, by kernel_rfl, by kernel_rfl⟩⟩
theorem tyok239 : TyI.ok Tryz.prog 239 { d := .arr 20 184, size := 20, bytes := 160, zero := .agg [.i .u64 0, .i .u64 0, .i .u64 0, .i .u64 0, .i .u64 0, .i .u64 0, .i .u64 0, .i .u64 0, .i .u64 0, .i .u64 0, .i .u64 0, .i .u64 0, .i .u64 0, .i .u64 0, .i .u64 0, .i .u64 0, .i .u64 0, .i .u64 0, .i .u64 0, .i .u64 0] } := ⟨by kernel_rfl, by kernel_rfl, .inl rfl, (by show Program.underlying _ _ = _; kernel_rfl)⟩
theorem tyok241 : TyI.ok Tryz.prog 241 { d := .ptr 213, size := 1, bytes := 8, zero := .c (.raw (.pointer none)) } := ⟨by kernel_rfl, by kernel_rfl, .inr rfl, (by show Program.underlying _ _ = _; kernel_rfl)⟩
theorem tyok243 : TyI.ok Tryz.prog 243 { d := .ptr 122, size := 1, bytes := 8, zero := .c (.raw (.pointer none)) } := ⟨by kernel_rfl, by kernel_rfl, .inr rfl, (by show Program.underlying _ _ = _; kernel_rfl)⟩
theorem tyok245 : TyI.ok Tryz.prog 245 { d := .ptr 21, size := 1, bytes := 8, zero := .c (.raw (.pointer none)) } := ⟨by kernel_rfl, by kernel_rfl, .inr rfl, (by show Program.underlying _ _ = _; kernel_rfl)⟩
theorem tyok255 : TyI.ok Tryz.prog 255 { d := .arr 32 5, size := 32, bytes := 32, zero := .agg [.i .u8 0, .i .u8 0, .i .u8 0, .i .u8 0, .i .u8 0, .i .u8 0, .i .u8 0, .i .u8 0, .i .u8 0, .i .u8 0, .i .u8 0, .i .u8 0, .i .u8 0, .i .u8 0, .i .u8 0, .i .u8 0, .i .u8 0, .i .u8 0, .i .u8 0, .i .u8 0, .i .u8 0, .i .u8 0, .i .u8 0, .i .u8 0, .i .u8 0, .i .u8 0, .i .u8 0, .i .u8 0, .i .u8 0, .i .u8 0, .i .u8 0, .i .u8 0] } := ⟨by kernel_rfl, by kernel_rfl, .inl rfl, (by show Program.underlying _ _ = _; kernel_rfl)⟩
theorem tyok256 : TyI.ok Tryz.prog 256 { d := .arr 64 5, size := 64, bytes := 64, zero := .agg [.i .u8 0, .i .u8 0, .i .u8 0, .i .u8 0, .i .u8 0, .i .u8 0, .i .u8 0, .i .u8 0, .i .u8 0, .i .u8 0, .i .u8 0, .i .u8 0, .i .u8 0, .i .u8 0, .i .u8 0, .i .u8 0, .i .u8 0, .i .u8 0, .i .u8 0, .i .u8 0, .i .u8 0, .i .u8 0, .i .u8 0, .i .u8 0, .i .u8 0, .i .u8 0, .i .u8 0, .i .u8 0, .i .u8 0, .i .u8 0, .i .u8 0, .i .u8 0, .i .u8 0, .i .u8 0, .i .u8 0, .i .u8 0, .i .u8 0, .i .u8 0, .i .u8 0, .i .u8 0, .i .u8 0, .i .u8 0, .i .u8 0, .i .u8 0, .i .u8 0, .i .u8 0, .i .u8 0, .i .u8 0, .i .u8 0, .i .u8 0, .i .u8 0, .i .u8 0, .i .u8 0, .i .u8 0, .i .u8 0, .i .u8 0, .i .u8 0, .i .u8 0, .i .u8 0, .i .u8 0, .i .u8 0, .i .u8 0, .i .u8 0, .i .u8 0] } := ⟨by kernel_rfl, by kernel_rfl, .inl rfl, (by show Program.underlying _ _ = _; kernel_rfl)⟩
theorem tyok270 : TyI.ok Tryz.prog 270 { d := .sl 5, size := 1, bytes := 24, zero := .c (.sl none 0 0) } := ⟨by kernel_rfl, by kernel_rfl, .inr rfl, (by show Program.underlying _ _ = _; kernel_rfl)⟩
theorem tyok271 : TyI.ok Tryz.prog 271 { d := .ptr 270, size := 1, bytes := 8, zero := .c (.raw (.pointer none)) } := ⟨by kernel_rfl, by kernel_rfl, .inr rfl, (by show Program.underlying _ _ = _; kernel_rfl)⟩
theorem tyok272 : TyI.ok Tryz.prog 272 { d := .ifc, size := 1, bytes := 16, zero := .c (.raw .nilIface) } := ⟨by kernel_rfl, by kernel_rfl, .inr rfl, ifc_ok (by kernel_rfl)⟩
theorem tyok273 : TyI.ok Tryz.prog 273 { d := .ifc, size := 1, bytes := 16, zero := .c (.raw .nilIface) } := ⟨by kernel_rfl, by kernel_rfl, .inr rfl, ifc_ok (by kernel_rfl)⟩
theorem tyok274 : TyI.ok Tryz.prog 274 { d := .ifc, size := 1, bytes := 16, zero := .c (.raw .nilIface) } := ⟨by kernel_rfl, by kernel_rfl, .inr rfl, ifc_ok (by kernel_rfl)⟩
theorem tyok275 : TyI.ok Tryz.prog 275 { d := .ifc, size := 1, bytes := 16, zero := .c (.raw .nilIface) } := ⟨by kernel_rfl, by kernel_rfl, .inr rfl, ifc_ok (by kernel_rfl)⟩
theorem tyok280 : TyI.ok Tryz.prog 280 { d := .so [(0, 273)], size := 1, bytes := 16, zero := .agg [.raw .nilIface] } := ⟨by kernel_rfl, by kernel_rfl, .inl rfl, ⟨by kernel_rfl, by kernel_rfl⟩⟩
theorem tyok281 : TyI.ok Tryz.prog 281 { d := .so [(0, 273)], size := 1, bytes := 16, zero := .agg [.raw .nilIface] } := ⟨by kernel_rfl, by kernel_rfl, .inl rfl, ⟨by kernel_rfl, by kernel_rfl⟩⟩
theorem Tryz.tyOK : TyOK Tryz.prog Tryz.tyT := tyOK_of_all ⟨tyok2, tyok3, tyok4, tyok5, tyok9, tyok12, tyok20, tyok21, tyok22, tyok23, tyok24, tyok26, tyok32, tyok33, tyok39, tyok41, tyok42, tyok43, tyok56, tyok57, tyok60, tyok61, tyok63, tyok64, tyok65, tyok66, tyok67, tyok68, tyok74, tyok79, tyok80, tyok81, tyok83, tyok84, tyok86, tyok87, tyok88, tyok89, tyok92, tyok93, tyok94, tyok97, tyok98, tyok100, tyok101, tyok102, tyok104, tyok118, tyok119, tyok120, tyok122, tyok123, tyok124, tyok125, tyok126, tyok127, tyok128, tyok129, tyok130, tyok132, tyok134, tyok160, tyok162, tyok173, tyok176, tyok184, tyok186, tyok188, tyok190, tyok192, tyok196, tyok197, tyok199, tyok200, tyok207, tyok213, tyok217, tyok220, tyok221, tyok222, tyok223, tyok226, tyok228, tyok229, tyok230, tyok231, tyok232, tyok233, tyok239, tyok241, tyok243, tyok245, tyok255, tyok256, tyok270, tyok271, tyok272, tyok273, tyok274, tyok275, tyok280, tyok281, trivial⟩
end Go.Proofs
namespace Go.Proofs.YtdnkeinjfddmnaaGreatDoor
open Go Go.X Go.ChangeShapes Go.WideShapes Go.ChangeAt Go.RowKit
set_option maxRecDepth 100000
theorem own : ownKnob Tryz.prog.godebug = none := by kernel_rfl
theorem laidOut : laidOutB Tryz.prog = true := by kernel_rfl
theorem no_looks : true = Tryz.pinned.checked.prog.looks [] := by kernel_rfl
noncomputable def cellsOfZ (l : List Nat) : Array Value := (l.map fun n : Nat => Value.int .u8 (Int.ofNat n)).toArray
noncomputable def setCells (cs : Array Value) : Obj → Obj
  | .cells _ t fr => .cells cs t fr
  | o => o
noncomputable def tabPow10 (h : Array Obj) : Array Obj := h.modify 3 (setCells (([1, 10, 100, 1000, 10000, 100000, 1000000, 10000000, 100000000, 1000000000, 10000000000, 100000000000, 1000000000000, 10000000000000, 100000000000000, 1000000000000000, 10000000000000000, 100000000000000000, 1000000000000000000, 10000000000000000000] : List Nat).map fun n : Nat => Value.int .u64 (Int.ofNat n)).toArray)
noncomputable def tabDb32 (h : Array Obj) : Array Obj := h.modify 4 (setCells (cellsOfZ [0, 1, 28, 2, 29, 14, 24, 3, 30, 22, 20, 15, 25, 17, 4, 8, 31, 27, 13, 23, 21, 19, 16, 7, 26, 12, 18, 6, 11, 5, 10, 9]))
noncomputable def tabDb64 (h : Array Obj) : Array Obj := h.modify 5 (setCells (cellsOfZ [0, 1, 56, 2, 57, 49, 28, 3, 61, 58, 42, 50, 38, 29, 17, 4, 62, 47, 59, 36, 45, 43, 51, 22, 53, 39, 33, 30, 24, 18, 12, 5, 63, 55, 48, 27, 60, 41, 37, 16, 46, 35, 44, 21, 52, 32, 23, 11, 54, 26, 40, 15, 34, 20, 31, 10, 25, 14, 19, 9, 13, 8, 7, 6]))
noncomputable def tabRules (h : Array Obj) : Array Obj := h
noncomputable def laidWorld (os : Os) : World :=
  { World.holding Tryz.prog os ⟨#[], #[], []⟩ with
    heap := tabRules (tabDb64 (tabDb32 (tabPow10 (((World.holding Tryz.prog os ⟨#[], #[], []⟩).heap.modify 1 (setCells (cellsOfZ Go.Pinned.utf8FirstZ))).modify 2 (setCells (cellsOfZ [128, 191, 160, 191, 128, 159, 144, 191, 128, 143, 0, 0, 0, 0, 0, 0, 0, 0, 0, 0, 0, 0, 0, 0, 0, 0, 0, 0, 0, 0, 0, 0])))))) }
theorem world_vars (os : Os) (args : Array Value) : ((laidWorld os).forCall (fun _ _ => 0) ⟨#[], args, []⟩).variablesB Tryz.checked.prog = true := by kernel_rfl
theorem world_rest (os : Os) (args : Array Value) : (((laidWorld os).forCall (fun _ _ => 0) ⟨#[], args, []⟩).heap.toList.drop Tryz.checked.prog.globals.size).take ((begin Tryz.checked.prog (fun _ _ => 0) default).world.heap.size - Tryz.checked.prog.globals.size) =
    (begin Tryz.checked.prog (fun _ _ => 0) default).world.heap.toList.drop Tryz.checked.prog.globals.size := by kernel_rfl
theorem laid_met (os : Os) (args : Array Value) : laidMet Tryz.prog Rows.htmlTextsRow.laid ((laidWorld os).forCall (fun _ _ => 0) ⟨#[], args, []⟩).memory :=
  laidMet_of_run' 8 (by kernel_rfl) (by kernel_rfl)
theorem maxLen_fact {W : World} (h : W.ShapedOpen Tryz.prog) : allD (fun b => W.heap[b]?) [gInt 0] :=
  ⟨gInt_of_shape (t := 3) h (of_decide_eq_true (by kernel_rfl)) (by kernel_rfl) (by kernel_rfl) (by kernel_rfl) Tryz.underlying3, trivial⟩
theorem okTy {t : Nat} {i : TyI} (h : find Tryz.tyT t = some i) : i.ok Tryz.prog t := Tryz.tyOK t i h
end Go.Proofs.YtdnkeinjfddmnaaGreatDoor
namespace Go.Proofs.YtdnkeinjfddmnaaGreatDoor
open Go Go.X
set_option maxRecDepth 100000
end Go.Proofs.YtdnkeinjfddmnaaGreatDoor
namespace Go.X
open Go.Lib
def cutAt (c : UInt8) : List UInt8 → List UInt8 × List UInt8 × Bool
  | [] => ([], [], false)
  | x :: r => if x = c then ([], r, true) else (x :: (cutAt c r).1, (cutAt c r).2.1, (cutAt c r).2.2)
def splitOn (c : UInt8) : List UInt8 → List (List UInt8)
  | [] => [[]]
  | x :: r => if x = c then [] :: splitOn c r else (x :: (splitOn c r).headD []) :: (splitOn c r).tail
theorem splitOn_ne (c : UInt8) (l : List UInt8) : splitOn c l ≠ [] := by
  cases l with
  | nil => simp [splitOn]
  | cons x r => simp only [splitOn]; split <;> simp
theorem splitOn_eq (c : UInt8) (l : List UInt8) : splitOn c l = (splitOn c l).headD [] :: (splitOn c l).tail := by
  have := splitOn_ne c l
  cases h : splitOn c l with
  | nil => exact absurd h this
  | cons a b => rfl
theorem index_nil (c : UInt8) : index [] [c] = -1 := by simp [index]
theorem index_same (c : UInt8) (l : List UInt8) : index (c :: l) [c] = 0 := by simp [index, List.isPrefixOf]
theorem index_other {b c : UInt8} (h : b ≠ c) (l : List UInt8) : index (b :: l) [c] = if index l [c] = -1 then -1 else index l [c] + 1 := by
  have hp : ([c] : List UInt8).isPrefixOf (b :: l) = false := by simp [List.isPrefixOf, Ne.symm h]
  rw [index, hp]; simp
theorem cut_one (c : UInt8) : ∀ l : List UInt8, cut l [c] = cutAt c l
  | [] => by simp [cut, cutAt, index_nil]
  | x :: r => by
    have ih := cut_one c r
    by_cases h : x = c
    · subst h; simp [cut, cutAt, index_same]
    · have hge := index_ge r [c]
      simp only [cutAt, if_neg h, ← ih]
      by_cases hm : index r [c] = -1
      · simp [cut, index_other h, hm]
      · obtain ⟨i, hi⟩ : ∃ i : Nat, index r [c] = i := ⟨(index r [c]).toNat, by omega⟩
        have h1 : index (x :: r) [c] = ((i + 1 : Nat) : Int) := by rw [index_other h, if_neg hm, hi]; omega
        have h2 : (0 : Int) ≤ ((i + 1 : Nat) : Int) := by omega
        have h3 : (0 : Int) ≤ ((i : Nat) : Int) := by omega
        simp only [cut, h1, hi, if_pos h2, if_pos h3, Int.toNat_natCast, List.take_succ_cons, List.length_singleton]
        simp [List.drop_succ_cons]
theorem splitK_one (c : UInt8) : ∀ l : List UInt8, splitK [c] 0 (count l [c]) l = splitOn c l
  | [] => by rw [count_miss (index_nil c)]; simp [splitK, splitOn]
  | x :: r => by
    have ih := splitK_one c r
    by_cases h : x = c
    · subst h
      rw [count_cons_eq, Nat.add_comm, splitK, index_same]
      simp [splitOn, ih]
    · rw [count_cons_ne _ _ _ h]
      have e := splitOn_eq c r
      simp only [splitOn, if_neg h]
      cases hk : count r [c] with
      | zero =>
        rw [hk] at ih
        simp only [splitK] at ih ⊢
        rw [← ih]
        rfl
      | succ k =>
        rw [hk] at ih
        have hge := index_ge r [c]
        by_cases hm : index r [c] = -1
        · rw [splitK, if_pos (by simp [hm])] at ih
          rw [splitK, index_other h, hm, ← ih]
          simp
        · obtain ⟨i, hi⟩ : ∃ i : Nat, index r [c] = i := ⟨(index r [c]).toNat, by omega⟩
          have h1 : index (x :: r) [c] = ((i + 1 : Nat) : Int) := by rw [index_other h, if_neg hm, hi]; omega
          rw [splitK, hi, if_neg (by simp)] at ih
          rw [splitK, h1, if_neg (by simp; omega), ← ih]
          simp
theorem splitOn_length_le (c : UInt8) : ∀ l : List UInt8, (splitOn c l).length ≤ l.length + 1
  | [] => by simp [splitOn]
  | x :: r => by
    have ih := splitOn_length_le c r
    simp only [splitOn]
    split
    · simp; omega
    · simp; omega
theorem mem_splitOn_le (c : UInt8) : ∀ (l p : List UInt8), p ∈ splitOn c l → p.length ≤ l.length
  | [], p, h => by simp [splitOn] at h; simp [h]
  | x :: r, p, h => by
    have ih := mem_splitOn_le c r
    have hh : ((splitOn c r).headD []).length ≤ r.length := by
      have := ih ((splitOn c r).headD []) (by rw [splitOn_eq c r]; simp)
      exact this
    simp only [splitOn] at h
    split at h
    · rcases List.mem_cons.1 h with rfl | h
      · simp
      · have := ih p h; simp; omega
    · rcases List.mem_cons.1 h with rfl | h
      · simp only [List.length_cons]; omega
      · have := ih p (List.mem_of_mem_tail h); simp; omega
section
variable {α : Type} {A B : List α} {i : Nat}
end
end Go.X
