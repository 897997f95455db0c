/- This text proves, for any program, that a contract in the executor's form, whose result is true and whose memory is untouched, gives what a row asks of a law; and opens arguments of plain types. No condition. -/
import Derived.Test.YtcddpbpbebkdmaaGreatDoorK02
import Derived.ProofKit
import Derived.OpenShut
import Derived.Deep.DeepHandedRow
import Derived.WideKeyArgs
import Derived.Test.YtcddpbpbebkdmaaGreatDoorCards
import Derived.Test.YtcddpbpbebkdmaaGreatDoorTie
import Derived.Lib.LaidTab
import Derived.Test.YtcddpbpbebkdmaaGreatDoorK05
import Derived.LaidSub
import Derived.JoinedOf
set_option linter.all false
namespace Go.X
open Go Go.ChangeShapes Go.WideShapes
section
variable {H : Type} {enc : TypeId × Value → H} {P : Program} {w : World} {base : Nat} {sp : Nat → Bool} {held : Bool}
def K5 (P : Program) (w : World) (t : Nat) {α : Type} (F : α → List C) (Q : α → Prop) : Prop :=
 ∀ {H : Type} (enc : TypeId × Value → H) (base : Nat) (sp : Nat → Bool) (held : Bool) (n : Nat) (cs : List Value) (x : DataW H × List MemPlace), DataW.trod enc P w base sp held n t cs = some x → ∃ g, cs = (F g).map C.enc ∧ Q g
theorem Nd {k : IntKind} {n : Int} (h : (Lit.int k n).wf = true) : jl k n := by
 cases k <;> simp [Lit.wf, IntKind.min, IntKind.max, IntKind.bits, IntKind.signed] at h <;> simp only [jl] <;> omega
theorem Q1 {t : Nat} {k : IntKind} (ht : P.underlying t = some (.int k)) : K5 P w t (fun n : Int => [.i k n]) (jl k) := by
 intro H enc base sp held n cs x h
 obtain ⟨m, hm, _, hw⟩ := DataW.trod_int ht (fuel := n) h
 exact ⟨m, hm, Nd hw⟩
theorem Z0 {t : Nat} (ht : P.underlying t = some .string) : K5 P w t (fun l : List UInt8 => [.s l]) (fun l => l.length ≤ maxLen) := by
 intro H enc base sp held n cs x h
 obtain ⟨s, hs, _, hl⟩ := DataW.trod_string ht (fuel := n) h
 obtain ⟨⟨l⟩⟩ := s
 exact ⟨l, hs, hl⟩
def Pg (P : Program) (w : World) (fs : List (Nat × Nat)) (o size : Nat) {α : Type} (F : α → List C) (Q : α → Prop) : Prop :=
 ∀ {H : Type} (enc : TypeId × Value → H) (base : Nat) (sp : Nat → Bool) (held : Bool) (n : Nat) (cs : List Value) (xs : List (DataW H × List MemPlace)), cs.length = size →
  (fs.mapM fun f => DataW.trod enc P w base sp held n f.2 ((cs.drop f.1).take (P.cellsOf f.2))) = some xs → ∃ g, cs.drop o = (F g).map C.enc ∧ Q g
theorem JQ {o : Nat} : Pg P w [] o o (fun _ : Unit => []) (fun _ => True) := by
 intro H enc base sp held n cs xs hl h
 exact ⟨(), by rw [List.drop_of_length_le (by omega)]; rfl, trivial⟩
theorem Qu {ft o z size : Nat} {fs : List (Nat × Nat)} {α β : Type} {F : α → List C} {Q : α → Prop} {F' : β → List C} {Q' : β → Prop} (hz : P.cellsOf ft = z) (h1 : K5 P w ft F' Q') (h2 : Pg P w fs (o + z) size F Q) (hle : o + z ≤ size) :
  Pg P w ((o, ft) :: fs) o size (fun g : β × α => F' g.1 ++ F g.2) (fun g => Q' g.1 ∧ Q g.2) := by
 intro H enc base sp held n cs xs hl h
 rw [List.mapM_cons] at h
 simp only [Option.bind_eq_bind, Option.bind_eq_some_iff] at h
 obtain ⟨x, hx, ys, hys, _⟩ := h
 obtain ⟨g', hg', hq'⟩ := h1 enc base sp held n _ x hx
 obtain ⟨g, hg, hq⟩ := h2 enc base sp held n cs ys hl hys
 refine ⟨(g', g), ?_, hq', hq⟩
 rw [List.map_append, ← hg', ← hg, hz, ← List.drop_drop]
 exact (List.take_append_drop _ _).symm
theorem Xk {t size : Nat} {fs : List (Nat × Nat)} {α : Type} {F : α → List C} {Q : α → Prop} (hd : YW.ok P t (.st fs)) (hs : P.cellsOf t = size) (h : Pg P w fs 0 size F Q) : K5 P w t F Q := by
 intro H enc base sp held n cs x hx
 cases n with
 | zero => simp [DataW.trod] at hx
 | succ n =>
  simp only [DataW.trod, hd.1] at hx
  split at hx
  ·rename_i hl
   simp only [Option.map_eq_some_iff] at hx
   obtain ⟨xs, hxs, _⟩ := hx
   have hmap : ((P.fieldsOf t).toList.map fun f => (f.offset, f.type)).mapM (fun f => DataW.trod enc P w base sp held n f.2 ((cs.drop f.1).take (P.cellsOf f.2))) = some xs := by
    rw [List.mapM_map]; exact hxs
   rw [hd.2.1] at hmap
   have := h enc base sp held n cs xs (by rw [hl, hs]) hmap
   simpa using this
  ·cases hx
theorem Qj {t : Nat} {i : Zy} (h : i.ok P t) : P.cellsOf t = i.size := by
 obtain ⟨x, hx, h1, _⟩ := X9 h
 simp [Program.cellsOf, hx, h1]
structure SlOK (w : World) (esz : Nat) (cs : List C) (a : Option Addr) (n c : Nat) : Prop where
 le : n ≤ c
 max : c ≤ maxLen
 f : ∃ ety, Z8 (fun b => w.heap[b]?) ety esz a n cs
theorem Rw {w : World} {a : Addr} {base n : Nat} {cs : List Value} (ha : a.spot = none) (h : w.cells? base a n = some cs) (hn : n ≠ 0) : ∃ cur t fr, w.heap[a.block]? = some (.cells cur t fr) ∧ cs.length = n ∧ (cur.toList.drop a.off).take n = cs := by
 obtain ⟨b, off, _⟩ := a
 simp only at ha
 subst ha
 unfold World.cells? at h
 split at h
 ·have hall : ∀ (m : Nat) (o : Nat) (l : List Value), ((List.range' o m).mapM fun i => w.cell? ((⟨b, off, none⟩ : Addr).add i)) = some l → l.length = m ∧ ∀ j : Nat, j < m → w.cell? ⟨b, off + (o + j), none⟩ = l[j]? := by
   intro m
   induction m with
   | zero => intro o l hl; simp at hl; subst hl; simp
   | succ m ih =>
    intro o l hl
    rw [List.range'_succ, List.mapM_cons] at hl
    simp only [Option.bind_eq_bind, Option.bind_eq_some_iff] at hl
    obtain ⟨x, hx, ys, hys, hl⟩ := hl
    simp at hl
    subst hl
    obtain ⟨h1, h2⟩ := ih (o + 1) ys hys
    refine ⟨by simp [h1], fun j hj => ?_⟩
    rw [XW] at hx
    cases j with
    | zero => simpa using hx
    | succ j =>
     have := h2 j (by omega)
     rw [List.getElem?_cons_succ, ← this]
     congr 2
     omega
  rw [List.range_eq_range'] at h
  obtain ⟨h1, h2⟩ := hall n 0 cs h
  have h0 := h2 0 (by omega)
  have hlt : 0 < cs.length := by omega
  rw [List.getElem?_eq_getElem hlt] at h0
  cases hb : w.heap[b]? with
  | none => simp [World.cell?, hb] at h0
  | some o =>
   cases o with
   | cells cur t fr =>
    refine ⟨cur, t, fr, rfl, h1, ?_⟩
    apply List.ext_getElem?
    intro j
    by_cases hj : j < n
    ·have := h2 j hj
     simp only [World.cell?, hb] at this
     rw [List.getElem?_take_of_lt hj, List.getElem?_drop, ← this]
     simp
    ·have hn1 : cs[j]? = none := List.getElem?_eq_none (by omega)
     rw [hn1]
     exact List.getElem?_eq_none (by simp; omega)
   | _ => simp [World.cell?, hb] at h0
 ·cases h
theorem yh {α β : Type} {f : α → Option β} : ∀ {l : List α} {ys : List β}, l.mapM f = some ys → ys.length = l.length ∧ ∀ (i : Nat) x, l[i]? = some x → ∃ y, ys[i]? = some y ∧ f x = some y
 | [], ys, h => by simp at h; subst h; simp
 | x :: l, ys, h => by
  rw [List.mapM_cons] at h
  simp only [Option.bind_eq_bind, Option.bind_eq_some_iff] at h
  obtain ⟨y, hy, zs, hzs, h⟩ := h
  simp at h
  subst h
  obtain ⟨h1, h2⟩ := yh hzs
  refine ⟨by simp [h1], fun i u hu => ?_⟩
  cases i with
  | zero => simp at hu; subst hu; exact ⟨y, rfl, hy⟩
  | succ i => exact h2 i u (by simpa using hu)
theorem ky {α β : Type} {R : Nat → α → Prop} : ∀ (n : Nat), (∀ i, i < n → ∃ g, R i g) → ∃ gs : List α, gs.length = n ∧ ∀ (i : Nat) g, gs[i]? = some g → R i g
 | 0, _ => ⟨[], rfl, by simp⟩
 | n + 1, h => by
  obtain ⟨gs, h1, h2⟩ := ky (β := β) n fun i hi => h i (by omega)
  obtain ⟨g, hg⟩ := h n (by omega)
  refine ⟨gs ++ [g], by simp [h1], fun i u hu => ?_⟩
  by_cases hi : i < n
  ·rw [List.getElem?_append_left (by omega)] at hu; exact h2 i u hu
  ·by_cases hin : i = n
   ·subst hin; rw [List.getElem?_append_right (by omega)] at hu; simp [h1] at hu; subst hu; exact hg
   ·rw [List.getElem?_eq_none (by simp; omega)] at hu; cases hu
theorem qp {α : Type} (F : α → List C) (z : Nat) : ∀ (gs : List α) (l : List Value), (∀ (i : Nat) g, gs[i]? = some g → (l.drop (i * z)).take z = (F g).map C.enc ∧ (F g).length = z) → l.take (gs.length * z) = (gs.flatMap F).map C.enc
 | [], l, _ => by simp
 | g :: gs, l, h => by
  have h0 := (h 0 g rfl).1
  simp only [Nat.zero_mul, List.drop_zero] at h0
  have ih := qp F z gs (l.drop z) fun i u hu => by
   have := h (i + 1) u (by simpa using hu)
   rw [List.drop_drop, show z + i * z = (i + 1) * z by rw [Nat.add_mul]; omega]
   exact this
  rw [List.flatMap_cons, List.map_append, ← h0, ← ih, List.length_cons, Nat.add_mul, Nat.one_mul, Nat.add_comm, List.take_add]
theorem ku {α : Type} {F : α → List C} {z : Nat} : ∀ {gs : List α}, (∀ g ∈ gs, (F g).length = z) → (gs.flatMap F).length = gs.length * z
 | [], _ => by simp
 | g :: gs, h => by rw [List.flatMap_cons, List.length_append, h g (by simp), ku fun u hu => h u (by simp [hu]), List.length_cons, Nat.add_mul]; omega
theorem Xl {t e z : Nat} {α : Type} {F : α → List C} {Q : α → Prop} (ht : P.underlying t = some (.slice e)) (hz : P.cellsOf e = z) (hz0 : z ≠ 0) (hone : ∀ g, ZO (F g)) (h : K5 P w e F Q) :
  K5 P w t (fun g : Option Addr × Nat × Nat × List α => [.sl g.1 g.2.1 g.2.2.1]) (fun g => g.2.1 = g.2.2.2.length ∧ SlOK w z (g.2.2.2.flatMap F) g.1 g.2.1 g.2.2.1 ∧ ∀ x ∈ g.2.2.2, Q x ∧ (F x).length = z) := by
 intro H enc base sp held n cs x hx
 cases n with
 | zero => simp [DataW.trod] at hx
 | succ n =>
  unfold DataW.trod at hx
  rw [ht] at hx
  split at hx <;> try (rename_i h1 _; cases h1; done)
  all_goals try (cases hx; done)
  all_goals try (rename_i h1; cases h1; done)
  ·exact ⟨(none, 0, 0, []), rfl, rfl, ⟨Nat.le_refl _, by simp [maxLen], 0, ⟨fun y hy => (by cases hy), .inl ⟨rfl, rfl⟩⟩⟩, by simp⟩
  ·rename_i e' a len cap h1
   simp only [Option.some.injEq] at h1
   cases h1
   simp only at hx
   split at hx
   ·rename_i hb
    obtain ⟨hb1, hb2, hb3⟩ := hb
    simp only [Option.bind_eq_some_iff] at hx
    obtain ⟨els, hels, _⟩ := hx
    obtain ⟨hlen, hall⟩ := yh hels
    have hsp : len ≠ 0 → a.spot = none := fun h0 => by
     obtain ⟨y, _, hy⟩ := hall 0 0 (by rw [List.getElem?_range (by omega)])
     simp only [Option.bind_eq_some_iff] at hy
     obtain ⟨cs, hcs, _⟩ := hy
     rw [hz] at hcs
     unfold World.cells? at hcs
     split at hcs
     ·obtain ⟨h1, h2⟩ := yh hcs
      obtain ⟨y0, _, hy0⟩ := h2 0 0 (by rw [List.getElem?_range (by omega)])
      obtain ⟨b, off, so⟩ := a
      cases so with
      | none => rfl
      | some q => unfold World.cell? Addr.add at hy0; simp at hy0; split at hy0 <;> cases hy0
     ·cases hcs
    have key : ∀ i, i < len → ∃ g, (∃ cur t fr, w.heap[a.block]? = some (.cells cur t fr) ∧ (cur.toList.drop (a.off + i * z)).take z = (F g).map C.enc) ∧ (F g).length = z ∧ Q g := fun i hi => by
     obtain ⟨y, _, hy⟩ := hall i i (by simp [hi])
     simp only [Option.bind_eq_some_iff] at hy
     obtain ⟨cs, hcs, hy⟩ := hy
     rw [hz] at hcs
     obtain ⟨b, off, so⟩ := a
     have hso := hsp (by omega)
     simp only at hso
     subst hso
     rw [XW] at hcs
     obtain ⟨cur, t, fr, hg, hl, hc⟩ := Rw rfl hcs hz0
     obtain ⟨g, hg1, hg2⟩ := h enc base sp held n cs y hy
     have : (F g).length = z := by rw [← hl, hg1]; simp
     exact ⟨g, ⟨cur, t, fr, hg, by rw [hc, hg1]⟩, this, hg2⟩
    obtain ⟨gs, hgs, hR⟩ := ky (β := Unit) len key
    refine ⟨(some a, len, cap, gs), rfl, hgs.symm, ⟨hb2, hb3, ?_⟩, fun u hu => ?_⟩
    ·by_cases h0 : len = 0
     ·have : gs = [] := List.eq_nil_of_length_eq_zero (by omega)
      subst this
      exact ⟨0, ⟨fun y hy => (by cases hy), .inl ⟨h0, rfl⟩⟩⟩
     ·obtain ⟨g0, hg0⟩ : ∃ g0, gs[0]? = some g0 := ⟨gs[0], by simp⟩
      obtain ⟨⟨cur, t, fr, hcur, _⟩, _, _⟩ := hR 0 g0 hg0
      obtain ⟨lo, hi⟩ := fr
      have hso := hsp h0
      obtain ⟨b, off, so⟩ := a
      simp only at hso hcur
      subst hso
      refine ⟨t, ⟨fun y hy => ?_, .inr ⟨b, off, cur, t, lo, hi, rfl, hcur, ?_, ?_⟩⟩⟩
      ·obtain ⟨u, _, hu⟩ := List.mem_flatMap.1 hy
       exact hone u y hu
      ·rw [ku fun u hu => ?_, hgs]
       obtain ⟨i, hi, rfl⟩ := List.getElem_of_mem hu
       exact (hR i _ (List.getElem?_eq_getElem hi)).2.1
      ·rw [← hgs]
       refine qp F z gs _ fun i u hu => ?_
       obtain ⟨⟨cur', t', fr', hc', hw⟩, hl, _⟩ := hR i u hu
       rw [hcur] at hc'
       cases hc'
       rw [List.drop_drop]
       exact ⟨hw, hl⟩
    ·obtain ⟨i, hi, rfl⟩ := List.getElem_of_mem hu
     have := hR i _ (List.getElem?_eq_getElem hi)
     exact ⟨this.2.2, this.2.1⟩
   ·cases hx
theorem Q6 {r : Reach} {b0 : Nat} {t : Nat} {d : YW} {α : Type} {F : α → List C} {Q : α → Prop} (hd : d.ok P t) (hsc : d ≠ .oth) {v : Value} {dd : DataW H} {ps : List MemPlace} (hval : Value.okWide P w r b0 t v) (hr : DataW.Trod enc P w base sp held t v dd ps)
  (h : K5 P w t F Q) : ∃ g, Q g ∧ v = (match XM d with | true => V.agg (F g) | false => V.c ((F g).headD (.b false))).enc := by
 obtain ⟨n, hn⟩ := hr
 obtain ⟨g, hg, hq⟩ := h enc base sp held n _ _ hn
 refine ⟨g, hq, ?_⟩
 have one : v.cells = #[v] → v = (V.c ((F g).headD (.b false))).enc := fun h1 => by
  rw [h1] at hg
  cases hF : F g with
  | nil => rw [hF] at hg; simp at hg
  | cons x l => rw [hF] at hg; simp at hg; simpa [V.enc] using hg.1
 cases d <;> simp only [YW.ok] at hd <;> simp only [XM]
 ·obtain ⟨b, rfl⟩ := okWide_bool hd hval; exact one rfl
 ·obtain ⟨b, rfl⟩ := okWide_int hd hval; exact one rfl
 ·obtain ⟨b, rfl⟩ := okWide_string hd hval; exact one rfl
 ·unfold Value.okWide at hval
  rw [hd.1] at hval
  obtain ⟨cs, rfl, _⟩ := hval
  simp only [Value.cells] at hg
  simp only [V.enc]
  rw [← hg]
 ·unfold Value.okWide at hval
  rw [hd] at hval
  obtain ⟨cs, rfl, _⟩ := hval
  simp only [Value.cells] at hg
  simp only [V.enc]
  rw [← hg]
 ·obtain ⟨a, b, c, rfl⟩ := okWide_slice hd hval; exact one rfl
 ·obtain ⟨a, rfl⟩ := okWide_pointer hd hval; exact one rfl
 ·obtain ⟨a, rfl⟩ := okWide_map hd hval; exact one rfl
 ·exact absurd rfl hsc
end
section
variable {H : Type} {enc : TypeId × Value → H} {P : Program}
theorem qY (hl : laidOutB P = true) {W W' : World} {sp' : Nat → Bool} : ∀ {ts : List TypeId} {vs : List Value} {ds : List (DataW H)} {ps : List MemPlace}, (∀ t ∈ ts, P.readableRec t = true ∧ t < P.types.size) →
  DataW.TrodAll enc P W 0 (fun _ => true) true ts vs ds ps → (∀ p ∈ ps, W.sameAt W' p) → (∀ p ∈ ps, sp' p.block = true) → DataW.TrodAll enc P W' 0 sp' true ts vs ds ps
 | [], vs, ds, ps, _, h, _, _ => by
  obtain ⟨rfl, rfl, rfl⟩ := trodAll_nil h
  exact trodAll_mk0
 | t :: ts, vs, ds, ps, hr, h, hs, hp => by
  obtain ⟨v, vs', d, ds', p, q, rfl, rfl, rfl, h0, h1⟩ := trodAll_cons h
  exact trodAll_cons_mk (WideElems.Trod_stays hl (hr t (by simp)).1 (hr t (by simp)).2 h0 (fun x hx => hs x (by simp [hx])) (fun x hx => hp x (by simp [hx])))
   (qY hl (fun u hu => hr u (by simp [hu])) h1 (fun x hx => hs x (by simp [hx])) (fun x hx => hp x (by simp [hx])))
theorem SJ {f : Func} {s : ChangeSpec} {apart fresh handsOn : Bool} {W W' : World} {args : Array Value} {ds gs : List (DataW H)} {before : List MemPlace} {tb : TypeId}
  (hl : laidOutB P = true) (hr : ∀ t ∈ f.params.toList, P.readableRec t = true ∧ t < P.types.size) (hv : s.vars = []) (hrt : f.resultTypes = #[tb]) (hb : P.underlying tb = some .bool)
  (hW : DataW.Whole enc P f.params.toList s.vars apart W args.toList ds gs before) (hs : s.fn H ds = { results := [.lit (.bool true)], args := ds })
  (hos : W'.os = W.os) (hout : W'.output = W.output) (hsame : ∀ b : Nat, b < W.heap.size → W'.heap[b]? = W.heap[b]?) :
  s.post enc P f apart fresh handsOn false W args (.bool true) W' := by
 have hlt := hW.lt
 have hW0 := hW
 obtain ⟨p, q, hA, hV, rfl, _, _⟩ := hW
 rw [hv] at hV
 obtain ⟨rfl, rfl⟩ := trodVars_none hV
 have hat : ∀ x ∈ p, W.sameAt W' x := fun x hx => by
  have := hlt x (by simpa using hx)
  cases x with
  | cell b off => simp only [World.sameAt, World.cell?, hsame b this]
  | map b => exact hsame b this
 refine ⟨ds, [], _, [], p, [], hW0, ?_, ?_, ?_, ?_, fun h => by cases h⟩
 ·rw [List.append_nil, hs, hrt]
  exact trodAll_cons_mk (p := []) (p' := []) (RowKit.shut_bool hb true) trodAll_mk0
 ·rw [List.append_nil, hs]
  exact qY hl hr hA hat fun x hx => by simpa using hlt x (by simpa using hx)
 ·rw [hv, List.append_nil, hs]; rfl
 ·refine ⟨hos, hout, fun i hi => ?_⟩
  rw [hsame i hi]
  cases hc : W.heap[i]? with
  | none => rfl
  | some o => cases o <;> first | exact ⟨rfl, rfl, rfl, fun _ _ => rfl⟩ | exact .inr ⟨rfl, rfl⟩ | rfl
theorem YM {f : FuncId} {fn : Func} {s : ChangeSpec} {apart fresh handsOn : Bool} {W : World} {args : Array Value} {ds gs : List (DataW H)} {before : List MemPlace} {tb : TypeId} {vs : List V} {D : List Fact}
  (hl : laidOutB P = true) (hr : ∀ t ∈ fn.params.toList, P.readableRec t = true ∧ t < P.types.size) (hv : s.vars = []) (hrt : fn.resultTypes = #[tb]) (hb : P.underlying tb = some .bool)
  (hW : DataW.Whole enc P fn.params.toList s.vars apart W args.toList ds gs before) (hs : s.fn H ds = { results := [.lit (.bool true)], args := ds })
  (hargs : args = (vs.map V.enc).toArray) (hD : QI (fun b => W.heap[b]?) D) (h : FnS P f vs [] D (Is tt)) :
  Calls P f args W fun e W' => ∃ v, e = .returned v ∧ s.post enc P fn apart fresh handsOn false W args v W' := by
 rw [hargs]
 refine (h.2 W (fun b => W.heap[b]?) ⟨by simp [Xy], trivial, fun b o hb => ⟨hb, by simp [Xy]⟩, hD⟩).mono ?_
 rintro e W' ⟨v, L', D', m', rfl, ⟨rfl, rfl, rfl⟩, _, hfr⟩
 rw [← hargs]
 exact ⟨_, rfl, SJ hl hr hv hrt hb hW hs hfr.kept.os hfr.kept.out fun b hb => hfr.same b hb (by simp [Xy])⟩
theorem vl {W : World} {g : Nat} {t : TypeId} (h : W.ShapedOpen P) (hg : g < P.globals.size) (hz : ((begin P (fun _ _ => 0) default).world.heap[g]?).bind Obj.row? = some (#[.int .i64 0], t)) (hb : P.buildable t = true) (ht : P.cellTypes P.depth t = some [t]) (hu : P.underlying t = some (.int .i64)) :
  (ZX g).p (fun b => W.heap[b]?) := by
 obtain ⟨cs, hcs, hsz, hok⟩ := h.1 g _ t hg hz
 have hok := hok hb
 simp at hsz
 obtain ⟨ts, hts, _, hall⟩ := hok
 rw [ht] at hts
 cases hts
 obtain ⟨v, hv⟩ : ∃ v, cs[0]? = some v := ⟨cs[0], by simp [hsz]⟩
 obtain ⟨u, hu1, hu2⟩ := hall 0 v hv
 simp at hu1
 subst hu1
 unfold Cell.ok at hu2
 rw [hu] at hu2
 refine ⟨cs, t, (0, 0), ?_⟩
 cases v <;> simp at hu2
 rename_i k n
 obtain ⟨rfl, _⟩ := hu2
 exact ⟨n, hcs, hv⟩
end
end Go.X
namespace Go.Proofs.YtcddpbpbebkdmaaGreatDoor
open Go Go.X Go.ChangeShapes Go.WideShapes Go.ChangeAt Go.RowKit
set_option maxRecDepth 100000
theorem own : ownKnob Tryz.prog.godebug = none := by kernel_rfl
theorem KE : laidOutB Tryz.prog = true := by kernel_rfl
theorem V2 : false = Tryz.pinned.checked.prog.looks [] := by kernel_rfl
noncomputable def HO (l : List Nat) : Array Value := (l.map fun n : Nat => Value.int .u8 (Int.ofNat n)).toArray
noncomputable def setCells (cs : Array Value) : Obj → Obj
 | .cells _ t fr => .cells cs t fr
 | o => o
noncomputable def RU (h : Array Obj) : Array Obj := h
noncomputable def Lu (h : Array Obj) : Array Obj := h
noncomputable def Lt (h : Array Obj) : Array Obj := h
noncomputable def RT (h : Array Obj) : Array Obj := h.modify 0 (setCells #[.int .i64 5, .string ⟨#[80, 111, 108, 105, 99, 121]⟩])
noncomputable def Z2 (os : Os) : World :=
 { World.holding Tryz.prog os ⟨#[], #[], []⟩ with
  heap := RT (Lt (Lu (RU (((World.holding Tryz.prog os ⟨#[], #[], []⟩).heap.modify 2 (setCells (HO Go.Pinned.utf8FirstZ))).modify 3 (setCells (HO [128, 191, 160, 191, 128, 159, 144, 191, 128, 143, 0, 0, 0, 0, 0, 0, 0, 0, 0, 0, 0, 0, 0, 0, 0, 0, 0, 0, 0, 0, 0, 0])))))) }
theorem Wt (os : Os) (args : Array Value) : ((Z2 os).forCall (fun _ _ => 0) ⟨#[], args, []⟩).variablesB Tryz.checked.prog = true := by kernel_rfl
theorem Wu (os : Os) (args : Array Value) : (((Z2 os).forCall (fun _ _ => 0) ⟨#[], args, []⟩).heap.toList.drop Tryz.checked.prog.globals.size).take ((begin Tryz.checked.prog (fun _ _ => 0) default).world.heap.size - Tryz.checked.prog.globals.size) =
  (begin Tryz.checked.prog (fun _ _ => 0) default).world.heap.toList.drop Tryz.checked.prog.globals.size := by kernel_rfl
theorem V4 (os : Os) (args : Array Value) : laidMet Tryz.prog Rows.stateValidRow.laid ((Z2 os).forCall (fun _ _ => 0) ⟨#[], args, []⟩).memory :=
 laidMet_of_run' 8 (by kernel_rfl) (by kernel_rfl)
theorem KU {W : World} (h : W.ShapedOpen Tryz.prog) : QI (fun b => W.heap[b]?) [ZX 1] :=
 ⟨vl (t := 3) h (of_decide_eq_true (by kernel_rfl)) (by kernel_rfl) (by kernel_rfl) (by kernel_rfl) Tryz.underlying3, trivial⟩
theorem QQ {t : Nat} {i : Zy} (h : find Tryz.tyT t = some i) : i.ok Tryz.prog t := Tryz.tyOK t i h
end Go.Proofs.YtcddpbpbebkdmaaGreatDoor
namespace Go.Proofs.YtcddpbpbebkdmaaGreatDoor
open Go Go.X Go.Proofs
set_option maxRecDepth 100000
abbrev Bt := List UInt8
abbrev RE {α : Type} (w : World) (z : Nat) (F : α → List C) (Q : α → Prop) (g : Option Addr × Nat × Nat × List α) : Prop := g.2.1 = g.2.2.2.length ∧ SlOK w z (g.2.2.2.flatMap F) g.1 g.2.1 g.2.2.1 ∧ ∀ x ∈ g.2.2.2, Q x ∧ (F x).length = z
theorem Jd {α β : Type} {F : α → List C} {G : β → List C} {f : α → β} : ∀ {l : List α}, (∀ x ∈ l, G (f x) = F x) → (l.map f).flatMap G = l.flatMap F
 | [], _ => rfl
 | x :: r, h => by
  rw [List.map_cons, List.flatMap_cons, List.flatMap_cons, h x (by simp), Jd fun y hy => h y (by simp [hy])]
theorem JP {w : World} : K5 Tryz.prog w 28 (fun g : Option Addr × Nat × Nat × List Int => [.sl g.1 g.2.1 g.2.2.1]) (RE w 1 (fun n : Int => [.i .i64 n]) (jl .i64)) :=
 Xl (z := 1) Tryz.underlying28 (Qj (QQ (t := 3) rfl)) (by decide) (fun g x hx => by simp at hx; subst hx; rfl) (Q1 Tryz.underlying3)
theorem Ye {w : World} {a : Option Addr} {n c : Nat} {l : List Int} (h : RE w 1 (fun n : Int => [.i .i64 n]) (jl .i64) (a, n, c, l)) :
  ∃ e : Nat, n = l.length ∧ l.length ≤ maxLen ∧ (Qf e 1 a l.length (l.map (C.i .i64))).p (fun b => w.heap[b]?) := by
 obtain ⟨h1, h2, h3⟩ := h
 dsimp only at h1 h2 h3
 subst h1
 obtain ⟨e, hf⟩ := h2.f
 exact ⟨e, rfl, Nat.le_trans h2.le h2.max, by rw [List.map_eq_flatMap]; exact hf⟩
theorem Hc {α : Type} {F : α → List C} (h : ∀ g, (F g).all (fun x => match x with | .b _ | .i _ _ | .s _ | .sl _ _ _ => true | _ => false) = true) : ∀ g, ZO (F g) := fun g x hx => by
 have := List.all_eq_true.1 (h g) x hx
 cases x <;> first | rfl | (cases this)
abbrev Tn := Int × Bt × Unit
abbrev Ps : Tn → List C := fun g => [.i .i64 g.1] ++ ([.s g.2.1] ++ ([]))
abbrev Pr (w : World) : Tn → Prop := fun g => jl .i64 g.1 ∧ g.2.1.length ≤ maxLen ∧ True
theorem YJ {w : World} : K5 Tryz.prog w 45 Ps (Pr w) :=
 Xk (QQ (t := 45) rfl).2.2.2 (Qj (QQ (t := 45) rfl))
  (Qu (Qj (QQ (t := 3) rfl)) (Q1 Tryz.underlying3) (Qu (Qj (QQ (t := 9) rfl)) (Z0 Tryz.underlying9) JQ (by decide)) (by decide))
abbrev WY := Int × Bt × Bt × Bt × Int × Int × Unit
abbrev revF : WY → List C := fun g => [.i .i64 g.1] ++ ([.s g.2.1] ++ ([.s g.2.2.1] ++ ([.s g.2.2.2.1] ++ ([.i .i64 g.2.2.2.2.1] ++ ([.i .i64 g.2.2.2.2.2.1] ++ ([]))))))
abbrev revQ (w : World) : WY → Prop := fun g => jl .i64 g.1 ∧ g.2.1.length ≤ maxLen ∧ g.2.2.1.length ≤ maxLen ∧ g.2.2.2.1.length ≤ maxLen ∧ jl .i64 g.2.2.2.2.1 ∧ jl .i64 g.2.2.2.2.2.1 ∧ True
theorem Ha {w : World} : K5 Tryz.prog w 73 revF (revQ w) :=
 Xk (QQ (t := 73) rfl).2.2.2 (Qj (QQ (t := 73) rfl))
  (Qu (Qj (QQ (t := 3) rfl)) (Q1 Tryz.underlying3) (Qu (Qj (QQ (t := 9) rfl)) (Z0 Tryz.underlying9) (Qu (Qj (QQ (t := 9) rfl)) (Z0 Tryz.underlying9) (Qu (Qj (QQ (t := 9) rfl)) (Z0 Tryz.underlying9) (Qu (Qj (QQ (t := 3) rfl)) (Q1 Tryz.underlying3) (Qu (Qj (QQ (t := 3) rfl)) (Q1 Tryz.underlying3) JQ (by decide)) (by decide)) (by decide)) (by decide)) (by decide)) (by decide))
abbrev Pu := Tn × (Option Addr × Nat × Nat × List WY) × Unit
abbrev stoF : Pu → List C := fun g => Ps g.1 ++ ([.sl g.2.1.1 g.2.1.2.1 g.2.1.2.2.1] ++ ([]))
abbrev Lv (w : World) : Pu → Prop := fun g => Pr w g.1 ∧ RE w 6 revF (revQ w) g.2.1 ∧ True
theorem G9 {w : World} : K5 Tryz.prog w 60 stoF (Lv w) :=
 Xk (QQ (t := 60) rfl).2.2.2 (Qj (QQ (t := 60) rfl))
  (Qu (Qj (QQ (t := 45) rfl)) YJ (Qu (Qj (QQ (t := 58) rfl)) (Xl (z := 6) Tryz.underlying58 (Qj (QQ (t := 73) rfl)) (by decide) (Hc fun _ => rfl) Ha) JQ (by decide)) (by decide))
abbrev LT := Int × Bt × Bt × Tn × Int × Bt × Int × Unit
abbrev proF : LT → List C := fun g => [.i .i64 g.1] ++ ([.s g.2.1] ++ ([.s g.2.2.1] ++ (Ps g.2.2.2.1 ++ ([.i .i64 g.2.2.2.2.1] ++ ([.s g.2.2.2.2.2.1] ++ ([.i .i64 g.2.2.2.2.2.2.1] ++ ([])))))))
abbrev proQ (w : World) : LT → Prop := fun g => jl .i64 g.1 ∧ g.2.1.length ≤ maxLen ∧ g.2.2.1.length ≤ maxLen ∧ Pr w g.2.2.2.1 ∧ jl .i64 g.2.2.2.2.1 ∧ g.2.2.2.2.2.1.length ≤ maxLen ∧ jl .i64 g.2.2.2.2.2.2.1 ∧ True
theorem Su {w : World} : K5 Tryz.prog w 122 proF (proQ w) :=
 Xk (QQ (t := 122) rfl).2.2.2 (Qj (QQ (t := 122) rfl))
  (Qu (Qj (QQ (t := 3) rfl)) (Q1 Tryz.underlying3) (Qu (Qj (QQ (t := 9) rfl)) (Z0 Tryz.underlying9) (Qu (Qj (QQ (t := 9) rfl)) (Z0 Tryz.underlying9) (Qu (Qj (QQ (t := 45) rfl)) YJ (Qu (Qj (QQ (t := 3) rfl)) (Q1 Tryz.underlying3) (Qu (Qj (QQ (t := 9) rfl)) (Z0 Tryz.underlying9) (Qu (Qj (QQ (t := 3) rfl)) (Q1 Tryz.underlying3) JQ (by decide)) (by decide)) (by decide)) (by decide)) (by decide)) (by decide)) (by decide))
abbrev Ey := Bt × Tn × Unit
abbrev watF : Ey → List C := fun g => [.s g.1] ++ (Ps g.2.1 ++ ([]))
abbrev watQ (w : World) : Ey → Prop := fun g => g.1.length ≤ maxLen ∧ Pr w g.2.1 ∧ True
theorem St {w : World} : K5 Tryz.prog w 69 watF (watQ w) :=
 Xk (QQ (t := 69) rfl).2.2.2 (Qj (QQ (t := 69) rfl))
  (Qu (Qj (QQ (t := 9) rfl)) (Z0 Tryz.underlying9) (Qu (Qj (QQ (t := 45) rfl)) YJ JQ (by decide)) (by decide))
abbrev Nf := Bt × Int × Unit
abbrev lasF : Nf → List C := fun g => [.s g.1] ++ ([.i .i64 g.2.1] ++ ([]))
abbrev lasQ (w : World) : Nf → Prop := fun g => g.1.length ≤ maxLen ∧ jl .i64 g.2.1 ∧ True
theorem Sv {w : World} : K5 Tryz.prog w 103 lasF (lasQ w) :=
 Xk (QQ (t := 103) rfl).2.2.2 (Qj (QQ (t := 103) rfl))
  (Qu (Qj (QQ (t := 9) rfl)) (Z0 Tryz.underlying9) (Qu (Qj (QQ (t := 3) rfl)) (Q1 Tryz.underlying3) JQ (by decide)) (by decide))
abbrev staT := Int × Int × (Option Addr × Nat × Nat × List Pu) × (Option Addr × Nat × Nat × List Pu) × (Option Addr × Nat × Nat × List LT) × Int × (Option Addr × Nat × Nat × List Ey) × (Option Addr × Nat × Nat × List Nf) × Unit
abbrev staF : staT → List C := fun g => [.i .i64 g.1] ++ ([.i .i64 g.2.1] ++ ([.sl g.2.2.1.1 g.2.2.1.2.1 g.2.2.1.2.2.1] ++ ([.sl g.2.2.2.1.1 g.2.2.2.1.2.1 g.2.2.2.1.2.2.1] ++ ([.sl g.2.2.2.2.1.1 g.2.2.2.2.1.2.1 g.2.2.2.2.1.2.2.1] ++ ([.i .i64 g.2.2.2.2.2.1] ++ ([.sl g.2.2.2.2.2.2.1.1 g.2.2.2.2.2.2.1.2.1 g.2.2.2.2.2.2.1.2.2.1] ++ ([.sl g.2.2.2.2.2.2.2.1.1 g.2.2.2.2.2.2.2.1.2.1 g.2.2.2.2.2.2.2.1.2.2.1] ++ ([]))))))))
abbrev staQ (w : World) : staT → Prop := fun g => jl .i64 g.1 ∧ jl .i64 g.2.1 ∧ RE w 3 stoF (Lv w) g.2.2.1 ∧ RE w 3 stoF (Lv w) g.2.2.2.1 ∧ RE w 8 proF (proQ w) g.2.2.2.2.1 ∧ jl .i64 g.2.2.2.2.2.1 ∧ RE w 3 watF (watQ w) g.2.2.2.2.2.2.1 ∧ RE w 2 lasF (lasQ w) g.2.2.2.2.2.2.2.1 ∧ True
theorem V1 {w : World} : K5 Tryz.prog w 27 staF (staQ w) :=
 Xk (QQ (t := 27) rfl).2.2.2 (Qj (QQ (t := 27) rfl))
  (Qu (Qj (QQ (t := 3) rfl)) (Q1 Tryz.underlying3) (Qu (Qj (QQ (t := 3) rfl)) (Q1 Tryz.underlying3) (Qu (Qj (QQ (t := 22) rfl)) (Xl (z := 3) Tryz.underlying22 (Qj (QQ (t := 60) rfl)) (by decide) (Hc fun _ => rfl) G9) (Qu (Qj (QQ (t := 22) rfl)) (Xl (z := 3) Tryz.underlying22 (Qj (QQ (t := 60) rfl)) (by decide) (Hc fun _ => rfl) G9) (Qu (Qj (QQ (t := 23) rfl)) (Xl (z := 8) Tryz.underlying23 (Qj (QQ (t := 122) rfl)) (by decide) (Hc fun _ => rfl) Su) (Qu (Qj (QQ (t := 3) rfl)) (Q1 Tryz.underlying3) (Qu (Qj (QQ (t := 24) rfl)) (Xl (z := 3) Tryz.underlying24 (Qj (QQ (t := 69) rfl)) (by decide) (Hc fun _ => rfl) St) (Qu (Qj (QQ (t := 25) rfl)) (Xl (z := 2) Tryz.underlying25 (Qj (QQ (t := 103) rfl)) (by decide) (Hc fun _ => rfl) Sv) JQ (by decide)) (by decide)) (by decide)) (by decide)) (by decide)) (by decide)) (by decide)) (by decide))
abbrev Em := Int × Bt × Bt × Tn × Tn × Bt × Int × (Option Addr × Nat × Nat × List WY) × Unit
abbrev chaF : Em → List C := fun g => [.i .i64 g.1] ++ ([.s g.2.1] ++ ([.s g.2.2.1] ++ (Ps g.2.2.2.1 ++ (Ps g.2.2.2.2.1 ++ ([.s g.2.2.2.2.2.1] ++ ([.i .i64 g.2.2.2.2.2.2.1] ++ ([.sl g.2.2.2.2.2.2.2.1.1 g.2.2.2.2.2.2.2.1.2.1 g.2.2.2.2.2.2.2.1.2.2.1] ++ ([]))))))))
abbrev chaQ (w : World) : Em → Prop := fun g => jl .i64 g.1 ∧ g.2.1.length ≤ maxLen ∧ g.2.2.1.length ≤ maxLen ∧ Pr w g.2.2.2.1 ∧ Pr w g.2.2.2.2.1 ∧ g.2.2.2.2.2.1.length ≤ maxLen ∧ jl .i64 g.2.2.2.2.2.2.1 ∧ RE w 6 revF (revQ w) g.2.2.2.2.2.2.2.1 ∧ True
theorem Sx {w : World} : K5 Tryz.prog w 64 chaF (chaQ w) :=
 Xk (QQ (t := 64) rfl).2.2.2 (Qj (QQ (t := 64) rfl))
  (Qu (Qj (QQ (t := 3) rfl)) (Q1 Tryz.underlying3) (Qu (Qj (QQ (t := 9) rfl)) (Z0 Tryz.underlying9) (Qu (Qj (QQ (t := 9) rfl)) (Z0 Tryz.underlying9) (Qu (Qj (QQ (t := 45) rfl)) YJ (Qu (Qj (QQ (t := 45) rfl)) YJ (Qu (Qj (QQ (t := 9) rfl)) (Z0 Tryz.underlying9) (Qu (Qj (QQ (t := 3) rfl)) (Q1 Tryz.underlying3) (Qu (Qj (QQ (t := 58) rfl)) (Xl (z := 6) Tryz.underlying58 (Qj (QQ (t := 73) rfl)) (by decide) (Hc fun _ => rfl) Ha) JQ (by decide)) (by decide)) (by decide)) (by decide)) (by decide)) (by decide)) (by decide)) (by decide))
theorem zB {α : Type} {w : World} {z e : Nat} {F : α → List C} {a : Option Addr} {n c : Nat} {l : List α} (h : SlOK w z (l.flatMap F) a n c) (hn : n = l.length) : Z8 (fun b => w.heap[b]?) e z a l.length (l.flatMap F) := by
 obtain ⟨_, f⟩ := h.f
 subst hn
 exact f
theorem Se {w : World} {a : Option Addr} {n c : Nat} {l0 : List Pu} (h : RE w 3 stoF (Lv w) (a, n, c, l0)) : ∃ l : List PGM, n = l.length ∧ n ≤ c ∧ l.length ≤ 9223372036854775807 ∧ (∀ p ∈ l, p.hist.length ≤ 9223372036854775807) ∧ Ew (fun b => w.heap[b]?) a l := by
 obtain ⟨h1, h2, h3⟩ := h
 dsimp only at h1 h2 h3
 have hM : maxLen ≤ 9223372036854775807 := by simp only [maxLen]; omega
 let fr : WY → RV := fun x => ⟨x.1, x.2.1, x.2.2.1, x.2.2.2.1, x.2.2.2.2.1, x.2.2.2.2.2.1⟩
 let f : Pu → PGM := fun x => ⟨x.1.1, x.1.2.1, x.2.1.1, x.2.1.2.2.1, x.2.1.2.2.2.map fr⟩
 have er : ∀ l : List WY, Zb (l.map fr) = l.flatMap revF := fun l => Jd fun x hx => rfl
 have ev : Qm (l0.map f) = l0.flatMap stoF := Jd fun x hx => by
  have h4 := (h3 x hx).1.2.1.1
  show [C.i .i64 x.1.1, C.s x.1.2.1, C.sl x.2.1.1 (x.2.1.2.2.2.map fr).length x.2.1.2.2.1] = _
  rw [List.length_map, ← h4]; rfl
 refine ⟨l0.map f, by simp [h1], h2.le, by rw [List.length_map, ← h1]; exact Nat.le_trans (Nat.le_trans h2.le h2.max) hM, fun p hp => ?_, ⟨?_, fun p hp => ?_⟩⟩
 ·obtain ⟨x, hx, rfl⟩ := List.mem_map.1 hp
  obtain ⟨h4, h5, _⟩ := (h3 x hx).1.2.1
  show (x.2.1.2.2.2.map fr).length ≤ _
  rw [List.length_map, ← h4]; exact Nat.le_trans (Nat.le_trans h5.le h5.max) hM
 ·rw [ev, List.length_map]; exact zB h2 h1
 ·obtain ⟨x, hx, rfl⟩ := List.mem_map.1 hp
  obtain ⟨h4, h5, _⟩ := (h3 x hx).1.2.1
  show Z8 _ 0 6 x.2.1.1 (x.2.1.2.2.2.map fr).length (Zb (x.2.1.2.2.2.map fr))
  rw [er, List.length_map]; exact zB h5 h4
theorem VS {w : World} {g : staT} (h : staQ w g) : ∃ s : STM, staF g = s.cells ∧ s.pages.length ≤ 9223372036854775807 ∧ (∀ p ∈ s.pages, p.hist.length ≤ 9223372036854775807) ∧ s.gone.length ≤ 9223372036854775807 ∧ (∀ p ∈ s.gone, p.hist.length ≤ 9223372036854775807) ∧ YA (fun b => w.heap[b]?) s := by
 obtain ⟨sq, ck, ⟨pa, pn, pc, pl⟩, ⟨ga, gn, gc, gl⟩, ⟨qa, qn, qc, ql⟩, pd, ⟨wa, wn, wc, wl⟩, ⟨la, ln, lc, ll⟩, u⟩ := g
 obtain ⟨_, _, hp, hg, ⟨q1, q2, q3⟩, _, ⟨w1, w2, w3⟩, ⟨l1, l2, l3⟩, _⟩ := h
 obtain ⟨P, p1, p2, p3, p4, p5⟩ := Se hp
 obtain ⟨G, g1, g2, g3, g4, g5⟩ := Se hg
 dsimp only at q1 q2 q3 w1 w2 w3 l1 l2 l3 p1 g1
 subst p1 g1
 let fq : LT → PP := fun x => ⟨x.1, x.2.1, x.2.2.1, x.2.2.2.1.1, x.2.2.2.1.2.1, x.2.2.2.2.1, x.2.2.2.2.2.1, x.2.2.2.2.2.2.1⟩
 let fw : Ey → WT := fun x => ⟨x.1, x.2.1.1, x.2.1.2.1⟩
 let fl : Nf → LU := fun x => ⟨x.1, x.2.1⟩
 have eq : XI (ql.map fq) = ql.flatMap proF := Jd fun x hx => rfl
 have ew : ZM (wl.map fw) = wl.flatMap watF := Jd fun x hx => rfl
 have el : ZV (ll.map fl) = ll.flatMap lasF := Jd fun x hx => rfl
 refine ⟨⟨sq, ck, pa, pc, P, ga, gc, G, qa, qc, ql.map fq, pd, wa, wc, wl.map fw, la, lc, ll.map fl⟩, ?_, p3, p4, g3, g4, ⟨p5, g5, ?_, ?_, ?_, ⟨p2, g2, ?_, ?_, ?_⟩⟩⟩
 ·subst q1 w1 l1; simp [staF, STM.cells]
 ·show Z8 _ 0 8 qa (ql.map fq).length (XI (ql.map fq)); rw [eq, List.length_map]; exact zB q2 q1
 ·show Z8 _ 0 3 wa (wl.map fw).length (ZM (wl.map fw)); rw [ew, List.length_map]; exact zB w2 w1
 ·show Z8 _ 0 2 la (ll.map fl).length (ZV (ll.map fl)); rw [el, List.length_map]; exact zB l2 l1
 ·show (ql.map fq).length ≤ qc; rw [List.length_map, ← q1]; exact q2.le
 ·show (wl.map fw).length ≤ wc; rw [List.length_map, ← w1]; exact w2.le
 ·show (ll.map fl).length ≤ lc; rw [List.length_map, ← l1]; exact l2.le
theorem Sw {w : World} : K5 Tryz.prog w 34 (fun g : Option Addr × Nat × Nat × List Em => [.sl g.1 g.2.1 g.2.2.1]) (RE w 10 chaF (chaQ w)) :=
 Xl (z := 10) Tryz.underlying34 (Qj (QQ (t := 64) rfl)) (by decide) (Hc fun _ => rfl) Sx
theorem chs_of {w : World} {a : Option Addr} {n c : Nat} {l0 : List Em} (h : RE w 10 chaF (chaQ w) (a, n, c, l0)) : ∃ l : List CHM, n = l.length ∧ l.length ≤ 9223372036854775807 ∧ (∀ x ∈ l, x.hist.length ≤ 9223372036854775807) ∧ NE (fun b => w.heap[b]?) a l := by
 obtain ⟨h1, h2, h3⟩ := h
 dsimp only at h1 h2 h3
 have hM : maxLen ≤ 9223372036854775807 := by simp only [maxLen]; omega
 let fr : WY → RV := fun x => ⟨x.1, x.2.1, x.2.2.1, x.2.2.2.1, x.2.2.2.2.1, x.2.2.2.2.2.1⟩
 let f : Em → CHM := fun x => ⟨x.1, x.2.1, x.2.2.1, x.2.2.2.1.1, x.2.2.2.1.2.1, x.2.2.2.2.1.1, x.2.2.2.2.1.2.1, x.2.2.2.2.2.1, x.2.2.2.2.2.2.1, x.2.2.2.2.2.2.2.1.1, x.2.2.2.2.2.2.2.1.2.2.1, x.2.2.2.2.2.2.2.1.2.2.2.map fr⟩
 have er : ∀ l : List WY, Zb (l.map fr) = l.flatMap revF := fun l => Jd fun x hx => rfl
 have ev : Wi (l0.map f) = l0.flatMap chaF := Jd fun x hx => by
  have h4 := (h3 x hx).1.2.2.2.2.2.2.2.1.1
  show [C.i .i64 x.1, C.s x.2.1, C.s x.2.2.1, C.i .i64 x.2.2.2.1.1, C.s x.2.2.2.1.2.1, C.i .i64 x.2.2.2.2.1.1, C.s x.2.2.2.2.1.2.1, C.s x.2.2.2.2.2.1, C.i .i64 x.2.2.2.2.2.2.1, C.sl x.2.2.2.2.2.2.2.1.1 (x.2.2.2.2.2.2.2.1.2.2.2.map fr).length x.2.2.2.2.2.2.2.1.2.2.1] = _
  rw [List.length_map, ← h4]; rfl
 refine ⟨l0.map f, by simp [h1], by rw [List.length_map, ← h1]; exact Nat.le_trans (Nat.le_trans h2.le h2.max) hM, fun p hp => ?_, ⟨?_, fun p hp => ?_⟩⟩
 ·obtain ⟨x, hx, rfl⟩ := List.mem_map.1 hp
  obtain ⟨h4, h5, _⟩ := (h3 x hx).1.2.2.2.2.2.2.2.1
  show (x.2.2.2.2.2.2.2.1.2.2.2.map fr).length ≤ _
  rw [List.length_map, ← h4]; exact Nat.le_trans (Nat.le_trans h5.le h5.max) hM
 ·rw [ev, List.length_map]; exact zB h2 h1
 ·obtain ⟨x, hx, rfl⟩ := List.mem_map.1 hp
  obtain ⟨h4, h5, _⟩ := (h3 x hx).1.2.2.2.2.2.2.2.1
  show Z8 _ 0 6 x.2.2.2.2.2.2.2.1.1 (x.2.2.2.2.2.2.2.1.2.2.2.map fr).length (Zb (x.2.2.2.2.2.2.2.1.2.2.2.map fr))
  rw [er, List.length_map]; exact zB h5 h4
end Go.Proofs.YtcddpbpbebkdmaaGreatDoor
namespace Go.Proofs.YtcddpbpbebkdmaaGreatDoor
open Go Go.X Go.Proofs
set_option maxRecDepth 100000
theorem j1 : Tryz.prog.globalNamed "transclude/state.rules" = some 0 := by kernel_rfl
theorem TC : (Tryz.prog.globals[0]?).map (·.type) = some 45 := by kernel_rfl
theorem WB {W : World} {laid : List (String × DataW Unit)} (h : laidMetH Tryz.prog laid W) (hin : (laid.filter fun x => x.1 == "transclude/state.rules") = [("transclude/state.rules", .agg [.lit (.int .i64 5), .lit (.string policyNm)])]) : XH.p (fun b => W.heap[b]?) := by
 have h1 := h.filter fun x => x.1 == "transclude/state.rules"
 rw [hin] at h1
 have h2 : laidMet Tryz.prog [("transclude/state.rules", .agg [.lit (.int .i64 5), .lit (.string policyNm)])] W := h1
 obtain ⟨ps, ⟨g, t, cs, fuel, p, q, hg, ht, hv, htr, _⟩, _⟩ := h2
 rw [j1] at hg
 obtain rfl := Option.some.inj hg
 rw [TC] at ht
 obtain rfl := Option.some.inj ht
 have hd : YW.ok Tryz.prog 45 (.st [(0, 3), (1, 9)]) := (QQ (t := 45) rfl).2.2.2
 have c1 : Tryz.prog.cellsOf 3 = 1 := Qj (QQ (t := 3) rfl)
 have c2 : Tryz.prog.cellsOf 9 = 1 := Qj (QQ (t := 9) rfl)
 have c3 : Tryz.prog.cellsOf 45 = 2 := Qj (QQ (t := 45) rfl)
 cases fuel with
 | zero => simp [DataW.trod] at htr
 | succ n =>
  simp only [DataW.trod, hd.1] at htr
  split at htr
  ·rename_i hl
   rw [c3] at hl
   simp only [Option.map_eq_some_iff] at htr
   obtain ⟨xs, hxs, hx⟩ := htr
   have hmap : ((Tryz.prog.fieldsOf 45).toList.map fun f => (f.offset, f.type)).mapM (fun f => DataW.trod (fun _ => ()) Tryz.prog W 0 (fun _ => true) false n f.2 ((cs.toList.drop f.1).take (Tryz.prog.cellsOf f.2))) = some xs := by
    rw [List.mapM_map]; exact hxs
   rw [hd.2.1] at hmap
   simp only [List.mapM_cons, List.mapM_nil, Option.bind_eq_bind, Option.bind_eq_some_iff, c1, c2, Option.pure_def, Option.some.injEq] at hmap
   obtain ⟨x, hx1, ys, ⟨y, hy1, _, rfl, rfl⟩, rfl⟩ := hmap
   obtain ⟨m, hm, hxm, _⟩ := DataW.trod_int Tryz.underlying3 hx1
   obtain ⟨s, hs, hys, _⟩ := DataW.trod_string Tryz.underlying9 hy1
   subst hxm hys
   simp only [List.map_cons, List.map_nil, Prod.mk.injEq, DataW.agg.injEq, List.cons.injEq, DataW.lit.injEq, Lit.int.injEq, Lit.string.injEq, true_and, and_true] at hx
   obtain ⟨⟨h5, h6⟩, _⟩ := hx
   have hcs : cs.toList = [.int .i64 5, .string ⟨⟨policyNm⟩⟩] := by
    match hc : cs.toList, hl with
    | [u, v], _ =>
     rw [hc] at hm hs
     simp at hm hs
     obtain ⟨⟨l⟩⟩ := s
     simp at h6
     rw [hm, hs, h5, h6]
   have hvc := hv
   unfold World.var? at hvc
   rw [j1] at hvc
   simp only [Option.bind_some] at hvc
   split at hvc
   ·rename_i c t0 fr hb
    simp only [Option.some.injEq] at hvc
    subst hvc
    obtain ⟨lo, hi⟩ := fr
    refine ⟨fun x hx => ?_, .inr ⟨0, 0, c, t0, lo, hi, rfl, hb, rfl, ?_⟩⟩
    ·rcases List.mem_cons.1 hx with rfl | hx
     ·rfl
     ·rw [List.mem_singleton.1 hx]; rfl
    ·rw [hcs]; rfl
   ·cases hvc
  ·cases htr
end Go.Proofs.YtcddpbpbebkdmaaGreatDoor
namespace Go.Proofs.YtcddpbpbebkdmaaGreatDoor
open Go Go.X Go.ChangeShapes Go.WideShapes Go.ChangeAt Go.RowKit
set_option maxRecDepth 100000
theorem Hm {P : Program} {f : FuncId} {fn : Func} {s : ChangeSpec} {c : OpenClaim} (h2 : laidOutB P = true) (h3 : mapsRowed P = true) (h7 : ((P.stops == []) && (P.stopKnobs == [])) = true)
  (h10 : (c.inPlace == P.inPlace f) = true) (h11 : (c.unfollowed == P.unfollowed f) = true) (h12 : (c.unfollowed && c.recurses) = true) (h13 : (c.named == P.varsNamed f) = true)
  (h23 : (c.plainKeys == P.plainKeys) = true) (h25 : (P.stopsHeard && P.mayEnter) = true) (h27 : ((c.lifted == P.liftsFinal) && (P.make == some c.make)) = true)
  (hr : (c.wf (OpenSpec.ofChange s) && fn.params.all (P.readableRec ·) && namedTie P c.named s.vars && (c.stops == []) && (c.knobs == []) &&
   (c.maps == (fn.params.toList ++ s.plain.varTypes P).any (P.mapsRec ·)) && (c.ifaces == (fn.params.toList ++ s.plain.varTypes P).any (P.ifacesRec ·)) && (c.mapsOut == P.mapsAmong fn.resultTypes.toList) &&
   (c.loops == (fn.params.toList ++ s.plain.varTypes P).any (P.loopsFrom ·)) && (c.wideKeys == (fn.params.toList ++ s.plain.varTypes P ++ fn.resultTypes.toList).any (P.wideKeysFrom ·)) &&
   s.vars.all (P.varReadable ·) && fn.resultTypes.all (fun t => P.readableRec t && decide (t < P.types.size)) && (c.ifacesOut == fn.resultTypes.toList.any (P.ifacesRec ·)) && (c.loopsOut == fn.resultTypes.toList.any (P.loopsFrom ·)) && c.shortTexts.isNone && (c.kinds == (if c.domain.isEmpty then [] else fn.params.toList.map fun t => match P.underlying t with | some (.int k) => some k | _ => none)) && (c.pinned == c.pinnedBy) &&
   (c.veiled == (fn.params.toList ++ s.plain.varTypes P ++ fn.resultTypes.toList).any (P.veiledRec ·)) && c.veiledFits P fn.params.toList (fn.params.toList ++ s.plain.varTypes P ++ fn.resultTypes.toList)) = true) :
  joinedFacts P f fn s c = true := by
 have k12 : (c.recurses == P.recurses f) = true := by
  rw [Bool.and_eq_true] at h12
  rw [h12.1, beq_iff_eq] at h11
  rw [h12.2, beq_iff_eq, Program.recurses, ← h11]; rfl
 rw [Bool.and_eq_true] at h7 h25 h27
 unfold joinedFacts
 rw [h2, h3, h7.1, h7.2, h10, h11, k12, h13, h23, h25.1, h25.2, h27.1, h27.2]
 simp only [Bool.and_eq_true, and_assoc, true_and, and_true] at hr ⊢
 exact hr
theorem xK : mapsRowed Tryz.prog = true := by kernel_rfl
theorem V6 : ((Tryz.prog.stops == []) && (Tryz.prog.stopKnobs == [])) = true := by kernel_rfl
theorem P7 : Tryz.prog.stopsHeard = true := by kernel_rfl
theorem P6 : Tryz.prog.mayEnter = true := by kernel_rfl
theorem V8 : (Tryz.prog.stopsHeard && Tryz.prog.mayEnter) = true := by rw [P7, P6]; rfl
theorem V7 : (Rows.stateValidRow.plainKeys == Tryz.prog.plainKeys) = true := by kernel_rfl
theorem SN : (Rows.stateValidRow.lifted == Tryz.prog.liftsFinal) = true := by kernel_rfl
theorem SM : (Tryz.prog.make == some Rows.stateValidRow.make) = true := by kernel_rfl
theorem xM : ((Rows.stateValidRow.lifted == Tryz.prog.liftsFinal) && (Tryz.prog.make == some Rows.stateValidRow.make)) = true := by rw [SN, SM]; rfl
theorem xL : Tryz.pinned.checked.prog.mainIs = some (Rows.stateValidCard.stood.harness.1, Rows.stateValidCard.stood.harness.2.toList) := by kernel_rfl
end Go.Proofs.YtcddpbpbebkdmaaGreatDoor
