/- This text proves that a region whose order the language leaves open may be executed in one order, under a check of the region that is computed. -/
import Derived.Test.YtcddpbpbebkdmaaGreatDoorK01
import Derived.Below
import Derived.Deep.Draws
import Derived.LoopN
import Derived.Test.YtcddpbpbebkdmaaGreatDoorProg
import Derived.Shelf.Strings.Builder1
import Derived.Shelf.Strings.Builder2
import Derived.Shelf.Strings.OnBuilder
import Derived.Shelf.Strings.Trim
import Derived.Shelf.Small.Utf8
import Derived.Shelf.Small.Bits
import Derived.Shelf.Small.Strs
import Derived.Shelf.Small.Wraps
import Derived.Shelf.Strings.BuilderF
import Derived.Shelf.Strconv.Itoa0
import Derived.Shelf.Strings.Search1
import Derived.Shelf.Strings.Search2
import Derived.Shelf.Strings.Search3
import Derived.Shelf.Strings.Cut
import Derived.Shelf.Strings.Count
import Derived.Shelf.LaysM
import Derived.Shelf.Strings.Shaped
import Derived.Shelf.Strings.Prefix
import Derived.Shelf.Strings.Split
import Derived.Shelf.Strings.Replace
import Derived.Shelf.Strings.SplitShaped
import Derived.Shelf.Strings.Runes
import Derived.Shelf.Strings.IndexAny
import Derived.Shelf.Strings.AsciiSet
import Derived.Shelf.Strings.IndexAnyAll
import Derived.Shelf.Unicode.DecodeSlow
import Derived.Shelf.Strings.SlTrimAscii
import Derived.Lib.DecodeN
import Derived.Lib.SlTrimSet
import Derived.Lib.IndexAny
set_option linter.all false
namespace Go.X
open Go
variable [Sm : Inhabited Jh]
section
variable {P : Program} {G : Js} {ops : Array Oper} {eff : Nat → Bool} {z : Nat} {L0 : List Chunk} {D0 : List Fact} {Te : Act → List Chunk → List Fact → Prop}
def UP (P : Program) (G : Js) (L0 : List Chunk) (D0 : List Fact) (o : Oper) (ρ : Operand → Value) (v : Value) : Prop :=
 ∀ L D, Qb L D L0 D0 → ∀ w, Qz G w L D → JW P o ρ w fun u w' => u = v ∧ Qz G w' L D
def Za (P : Program) (G : Js) (ops : Array Oper) (eff : Nat → Bool) (z : Nat) (L0 : List Chunk) (D0 : List Fact) (Te : Act → List Chunk → List Fact → Prop) : List Nat → Act → List Chunk → List Fact → Prop
  | [], a, L, D => Te a L D
  | i :: r, a, L, D =>
    match ops[i]? with
    | none => False
    | some o =>
      (Region.wanted o (yielded ops a.tmps) = true ∧
        ((eff i = false ∧ ∃ v, UP P G L0 D0 o a.eval v ∧ Za P G ops eff z L0 D0 Te r (a.put o.dst v) L D) ∨
         (eff i = true ∧ ∀ w, Qz G w L D → JW P o a.eval w fun u w' => ∃ L' D', Qz G w' L' D' ∧ (Qb L' D' L0 D0 ∨ i = z) ∧ Za P G ops eff z L0 D0 Te r (a.put o.dst u) L' D'))) ∨
      (Region.wanted o (yielded ops a.tmps) = false ∧ Za P G ops eff z L0 D0 Te r (a.put o.dst undef) L D)
def RW (P : Program) (ops : Array Oper) (o : Oper) (a : Act) (w : World) (R : Value → World → Prop) : Prop :=
 (Region.wanted o (yielded ops a.tmps) = true ∧ JW P o a.eval w R) ∨ (Region.wanted o (yielded ops a.tmps) = false ∧ R undef w)
def Yw (ops : Array Oper) (eff : Nat → Bool) (i : Nat) (o : Oper) : List Nat → Prop
 | [] => False
 | j :: r => j = i ∨ (j ≠ i ∧ eff j = false ∧ (∀ oj, ops[j]? = some oj → oj.apart ops o = true) ∧ Yw ops eff i o r)
theorem ko {o : Oper} {ρ ρ' : Operand → Value} {w : World} {R : Value → World → Prop} (h : execOp ρ o = execOp ρ' o) (hg : JW P o ρ w R) : JW P o ρ' w R := by
 unfold JW at *
 rw [← h]
 exact hg
theorem qz (hs : Region.noSelect ops = true) {i : Nat} {o : Oper} (ho : ops[i]? = some o) : ∀ (r : List Nat) (a : Act) (L : List Chunk) (D : List Fact) (w : World), Yw ops eff i o r → Za P G ops eff z L0 D0 Te r a L D → Qb L D L0 D0 → Qz G w L D →
  RW P ops o a w fun u w' => ∃ L' D', Qz G w' L' D' ∧ (Qb L' D' L0 D0 ∨ i = z) ∧ Za P G ops eff z L0 D0 Te (r.erase i) (a.put o.dst u) L' D'
 | [], _, _, _, _, hc, _, _, _ => hc.elim
 | j :: r, a, L, D, w, hc, h, hE, hw => by
  by_cases hji : j = i
  ·subst hji
   simp only [Za, ho] at h
   rw [List.erase_cons_head]
   rcases h with ⟨hwt, ⟨_, v, hq, hr⟩ | ⟨_, hg⟩⟩ | ⟨hwt, hr⟩
   ·refine .inl ⟨hwt, (hq L D hE w hw).mono ?_⟩
    rintro u w' ⟨rfl, hw'⟩
    exact ⟨L, D, hw', .inl hE, hr⟩
   ·exact .inl ⟨hwt, hg w hw⟩
   ·exact .inr ⟨hwt, L, D, hw, .inl hE, hr⟩
  ·rcases hc with hc | ⟨_, heff, hap, hc⟩
   ·exact absurd hc hji
   rw [List.erase_cons_tail (by simpa using hji)]
   simp only [Za] at h
   cases hj : ops[j]? with
   | none => rw [hj] at h; exact h.elim
   | some oj =>
    simp only [hj] at h
    obtain ⟨h1, h2, h3⟩ := Oper.apart_spec (hap oj hj)
    have hsi := fun cs b => Region.noSelect_spec hs i o cs b ho
    have hsj := fun cs b => Region.noSelect_spec hs j oj cs b hj
    -- the value of the operation that is passed
    have key : ∀ v, Za P G ops eff z L0 D0 Te r (a.put oj.dst v) L D →
      (∀ u L' D', Za P G ops eff z L0 D0 Te (r.erase i) ((a.put oj.dst v).put o.dst u) L' D' → Za P G ops eff z L0 D0 Te (j :: r.erase i) (a.put o.dst u) L' D') →
      RW P ops o a w fun u w' => ∃ L' D', Qz G w' L' D' ∧ (Qb L' D' L0 D0 ∨ i = z) ∧ Za P G ops eff z L0 D0 Te (j :: r.erase i) (a.put o.dst u) L' D' := by
     intro v hr hback
     have hi := qz hs ho r (a.put oj.dst v) L D w hc hr hE hw
     unfold RW at hi ⊢
     rw [wanted_put o a oj.dst v h1] at hi
     rcases hi with ⟨hwt, hg⟩ | ⟨hwt, L', D', ha, hb, hcc⟩
     ·refine .inl ⟨hwt, ko (execOp_put o hsi a oj.dst v h1) (hg.mono ?_)⟩
      rintro u w' ⟨L', D', ha, hb, hcc⟩
      exact ⟨L', D', ha, hb, hback u L' D' hcc⟩
     ·exact .inr ⟨hwt, L', D', ha, hb, hback _ L' D' hcc⟩
    rcases h with ⟨hwt, ⟨_, v, hq, hr⟩ | ⟨hbad, _⟩⟩ | ⟨hwt, hr⟩
    ·refine key v hr fun u L' D' hl => ?_
     simp only [Za, hj]
     refine .inl ⟨by rw [wanted_put oj a o.dst u h3]; exact hwt, .inl ⟨heff, v, ?_, by rw [← Act.put_comm a v u h2]; exact hl⟩⟩
     intro L1 D1 hE1 w1 hw1
     exact ko (execOp_put oj hsj a o.dst u h3).symm (hq L1 D1 hE1 w1 hw1)
    ·rw [heff] at hbad; cases hbad
    ·refine key undef hr fun u L' D' hl => ?_
     simp only [Za, hj]
     exact .inr ⟨by rw [wanted_put oj a o.dst u h3]; exact hwt, by rw [← Act.put_comm a undef u h2]; exact hl⟩
def XN (ops : Array Oper) (i j : Nat) : Bool :=
 match ops[i]? with
 | some o => o.after.any fun e => Region.binds .any e && e.on == j
 | none => false
def Rk (ops : Array Oper) : Nat → Nat → Nat → Bool
 | 0, _, _ => false
 | n + 1, i, j =>
  match ops[i]? with
  | some o => o.after.any fun e => Region.binds .any e && (e.on == j || Rk ops n e.on j)
  | none => false
def Xj (dep : Nat → Nat → Bool) (ops : Array Oper) (eff : Nat → Bool) (j i : Nat) : Bool :=
 j != i && !XN ops j i && (dep i j || (!eff j &&
  match ops[i]?, ops[j]? with
  | some oi, some oj => oj.apart ops oi
  | _, _ => false))
def Gg (ops : Array Oper) : Bool :=
 (List.range ops.size).all fun i => match ops[i]? with
  | some o => o.after.all fun e => !Region.binds .any e || (e.on != i && e.on < ops.size)
  | none => true
theorem qs (h : Gg ops = true) : ∀ i o, ops[i]? = some o → ∀ e ∈ o.after, Region.binds .any e = true → e.on ≠ i ∧ e.on < ops.size := by
 intro i o ho e he hb
 have hi : i < ops.size := (Array.getElem?_eq_some_iff.1 ho).1
 have := List.all_eq_true.1 h i (List.mem_range.2 hi)
 simp only [ho] at this
 rw [Array.all_eq_true'] at this
 have := this e he
 simpa [hb] using this
def X5 (ops : Array Oper) (listed : Array Bool) : Prop :=
 ∀ i o, ops[i]? = some o → listed.getD i true = true → ∀ e ∈ o.after, Region.binds .any e = true → listed.getD e.on false = true
def zq (ops : Array Oper) (dep : Nat → Nat → Bool) : Prop :=
 ∀ listed : Array Bool, X5 ops listed → ∀ i j, (∀ o, ops[i]? = some o → ∀ e ∈ o.after, Region.binds .any e = true → listed.getD e.on false = true) → dep i j = true → listed.getD j true = true
def SE (A : List Nat) (o : Oper) : Nat := o.after.toList.foldl (fun m e => match Region.binds .any e with
 | true => m ||| (2 ^ e.on ||| A.getD e.on 0)
 | false => m) 0
def backB (i : Nat) (o : Oper) : Bool := o.after.toList.all fun e => !Region.binds .any e || Nat.blt e.on i
def U2 (A : List Nat) (ops : Array Oper) : Bool :=
 (List.range ops.size).all fun i => match ops[i]? with
  | some o => backB i o && Nat.beq (A.getD i 0) (SE A o)
  | none => true
theorem xk {A : List Nat} {j : Nat} : ∀ (l : List Edge) (m : Nat), (l.foldl (fun m e => match Region.binds .any e with
 | true => m ||| (2 ^ e.on ||| A.getD e.on 0)
 | false => m) m).testBit j = true → m.testBit j = true ∨ ∃ e ∈ l, Region.binds .any e = true ∧ (e.on = j ∨ (A.getD e.on 0).testBit j = true)
 | [], m, h => .inl h
 | e :: l, m, h => by
  simp only [List.foldl_cons] at h
  rcases xk l _ h with h1 | ⟨x, hx, hb, hd⟩
  ·split at h1
   ·rename_i hb
    simp only [Nat.testBit_or, Bool.or_eq_true] at h1
    rcases h1 with h1 | h1 | h1
    ·exact .inl h1
    ·exact .inr ⟨e, by simp, hb, .inl (by rw [Nat.testBit_two_pow] at h1; simpa using h1)⟩
    ·exact .inr ⟨e, by simp, hb, .inr h1⟩
   ·exact .inl h1
  ·exact .inr ⟨x, by simp [hx], hb, hd⟩
theorem Yi {ops : Array Oper} {A : List Nat} (h : U2 A ops = true) (hA : Nat.ble A.length ops.size = true) : zq ops (fun i j => (A.getD i 0).testBit j) := by
 intro listed hc i
 induction i using Nat.strongRecOn with
 | _ i ih =>
  intro j hi hd
  have hlt : i < ops.size := by
   rcases Nat.lt_or_ge i ops.size with h | h'
   ·exact h
   ·have := Nat.le_of_ble_eq_true hA
    simp only at hd
    have e : A.getD i 0 = 0 := by rw [List.getD_eq_getElem?_getD, List.getElem?_eq_none (by omega)]; rfl
    rw [e] at hd
    simp at hd
  have h1 := List.all_eq_true.1 h i (List.mem_range.2 hlt)
  have ho : ops[i]? = some ops[i] := by simp [hlt]
  simp only [ho, Bool.and_eq_true] at h1
  have he := Nat.eq_of_beq_eq_true h1.2
  simp only [he] at hd
  unfold SE at hd
  rcases xk _ _ hd with h2 | ⟨e, hm, hb, h2⟩
  ·simp at h2
  ·have hl := hi _ ho e (by simpa using hm) hb
   rcases h2 with rfl | h2
   ·simp only [Array.getD_eq_getD_getElem?] at *
    cases hx : listed[e.on]? <;> rw [hx] at hl <;> simp_all
   ·have hbk := List.all_eq_true.1 h1.1 e (by simpa using hm)
    simp only [hb, Bool.not_true, Bool.false_or] at hbk
    have hlt2 : e.on < i := Nat.le_of_ble_eq_true hbk
    refine ih e.on hlt2 j (fun o' ho' e' he' hb' => hc e.on o' ho' ?_ e' he' hb') h2
    simp only [Array.getD_eq_getD_getElem?] at *
    cases hx : listed[e.on]? <;> rw [hx] at hl <;> simp_all
def RF (dep : Nat → Nat → Bool) (ops : Array Oper) (eff : Nat → Bool) (r : List Nat) : Bool :=
 Region.noSelect ops && Gg ops && r.all (· < ops.size) && (List.range ops.size).all (r.contains ·) && go r
 where
 go : List Nat → Bool
  | [] => true
  | j :: r => r.all (Xj dep ops eff j) && go r
def okB (ops : Array Oper) (eff : Nat → Bool) (r : List Nat) : Bool := RF (Rk ops ops.size) ops eff r
def okM (A : List Nat) (ops : Array Oper) (eff : Nat → Bool) (r : List Nat) : Bool := Nat.ble A.length ops.size && U2 A ops && RF (fun i j => (A.getD i 0).testBit j) ops eff r
variable {dep : Nat → Nat → Bool}
theorem XD : ∀ {r : List Nat}, RF.go dep ops eff r = true → r.Pairwise fun j i => Xj dep ops eff j i = true
 | [], _ => .nil
 | j :: r, h => by
  simp only [RF.go, Bool.and_eq_true, List.all_eq_true] at h
  exact .cons (fun i hi => h.1 i hi) (XD h.2)
theorem O4 {l : Array Bool} {i : Nat} (h : l.getD i false = true) : l.getD i true = true := by
 simp only [Array.getD_eq_getD_getElem?] at *
 cases hi : l[i]? <;> rw [hi] at h <;> simp_all
theorem yE {listed : Array Bool} (hc : X5 ops listed) : ∀ (n i j : Nat), (∀ o, ops[i]? = some o → ∀ e ∈ o.after, Region.binds .any e = true → listed.getD e.on false = true) → Rk ops n i j = true → listed.getD j true = true
 | 0, _, _, _, h => by simp [Rk] at h
 | n + 1, i, j, hi, h => by
  simp only [Rk] at h
  split at h
  ·rename_i o ho
   rw [Array.any_eq_true'] at h
   obtain ⟨e, he, hb⟩ := h
   simp only [Bool.and_eq_true, Bool.or_eq_true, beq_iff_eq] at hb
   obtain ⟨hbd, hb⟩ := hb
   have hl := hi o ho e he hbd
   rcases hb with rfl | hb
   ·exact O4 hl
   ·exact yE hc n e.on j (fun o' ho' e' he' hb' => hc e.on o' ho' (O4 hl) e' he' hb') hb
  ·cases h
theorem Nq : zq ops (Rk ops ops.size) := fun _ hc i j hi h => yE hc _ i j hi h
theorem qx (hdep : zq ops dep) {listed : Array Bool} (hc : X5 ops listed) {i : Nat} {o : Oper} (ho : ops[i]? = some o) (hready : ∀ e ∈ o.after, Region.binds .any e = true → listed.getD e.on false = true) :
  ∀ {r : List Nat}, i ∈ r → (∀ j ∈ r, listed.getD j true = false) → r.Pairwise (fun j i => Xj dep ops eff j i = true) → Yw ops eff i o r
 | j :: r, hm, hu, hp => by
  by_cases hji : j = i
  ·exact .inl hji
  ·have hm' : i ∈ r := by
    rcases List.mem_cons.1 hm with h | h
    ·exact absurd h.symm hji
    ·exact h
   have hpj := (List.pairwise_cons.1 hp).1 i hm'
   simp only [Xj, Bool.and_eq_true, Bool.or_eq_true, Bool.not_eq_true'] at hpj
   obtain ⟨_, hd⟩ := hpj
   rcases hd with hd | ⟨he, hap⟩
   ·exfalso
    have := hdep _ hc i j (fun o' ho' => by rw [ho] at ho'; cases ho'; exact hready) hd
    rw [hu j (by simp)] at this
    cases this
   ·refine .inr ⟨hji, he, fun oj hoj => ?_, qx hdep hc ho hready hm' (fun k hk => hu k (by simp [hk])) (List.pairwise_cons.1 hp).2⟩
    rw [ho, hoj] at hap
    exact hap
 | [], hm, _, _ => by cases hm
theorem Yj (hdep : zq ops dep) (hs : Region.noSelect ops = true) (hed : ∀ i o, ops[i]? = some o → ∀ e ∈ o.after, Region.binds .any e = true → e.on ≠ i ∧ e.on < ops.size) : ∀ (n : Nat) (r : List Nat) (listed : Array Bool) (a : Act) (L : List Chunk) (D : List Fact) (w : World) (Q' : Exit → Act → World → Prop), (∀ a L D w, Te a L D → Qz G w L D → Q' .normal a w) →
  r.length = n → listed.size = ops.size → (∀ i, listed.getD i true = false ↔ i ∈ r) → X5 ops listed → r.Pairwise (fun j i => Xj dep ops eff j i = true) → (z < ops.size → ∀ j ∈ r, j ≠ z → dep z j = true) → Za P G ops eff z L0 D0 Te r a L D → (Qb L D L0 D0 ∨ r = []) → Qz G w L D →
  wpAny P .any ops Q' n listed a w
 | 0, r, listed, a, L, D, w, Q', hQ, hlen, hsz, hr, hc, hp, hz, h, hE, hw => by
  have hnil : r = [] := List.eq_nil_of_length_eq_zero hlen
  subst hnil
  refine ⟨?_, hQ _ _ _ _ h hw⟩
  rw [List.eq_nil_iff_forall_not_mem]
  intro i hi
  have := (hr i).1 (mem_ready.1 hi).1
  cases this
 | n + 1, r, listed, a, L, D, w, Q', hQ, hlen, hsz, hr, hc, hp, hz, h, hE, hw => by
  replace hE : Qb L D L0 D0 := hE.resolve_right fun he => by rw [he] at hlen; cases hlen
  refine ⟨fun hnil => ?_, fun i hi => ?_⟩
  ·-- the first of r is ready
   exfalso
   match r, hlen with
   | j :: r, _ =>
    have hj : listed.getD j true = false := (hr j).2 (by simp)
    cases hoj : ops[j]? with
    | none => simp only [Za, hoj] at h
    | some oj =>
     have : j ∈ Region.ready .any ops listed := mem_ready.2 ⟨hj, oj, hoj, fun e he hb => by
      cases hl : listed.getD e.on false with
      | true => rfl
      | false =>
       exfalso
       by_cases hlt : e.on < listed.size
       ·have hl' : listed.getD e.on true = false := by
         simp only [Array.getD_eq_getD_getElem?, Array.getElem?_eq_getElem hlt, Option.getD_some] at hl ⊢
         exact hl
        have hmem := (hr e.on).1 hl'
        rcases List.mem_cons.1 hmem with hej | hmem
        ·exact (hed j oj hoj e he hb).1 hej
        ·have := (List.pairwise_cons.1 hp).1 e.on hmem
         simp only [Xj, Bool.and_eq_true, Bool.not_eq_true'] at this
         have hd := this.1.2
         simp only [XN, hoj] at hd
         rw [Array.any_eq_false'] at hd
         exact hd e he (by simp [hb])
       ·exact hlt (by rw [hsz]; exact (hed j oj hoj e he hb).2)⟩
     rw [hnil] at this
     cases this
  ·obtain ⟨hun, o, ho, hall⟩ := mem_ready.1 hi
   have hm := (hr i).1 hun
   have hcl := qx (eff := eff) hdep hc ho hall hm (fun j hj => (hr j).2 hj) hp
   have hst := qz hs ho r a L D w hcl h hE hw
   have hnd : r.Nodup := hp.imp fun hjk => by
    simp only [Xj, Bool.and_eq_true, bne_iff_ne] at hjk
    exact hjk.1.1
   have hlt : i < listed.size := by
    rcases Nat.lt_or_ge i listed.size with h | h
    ·exact h
    ·simp [Array.getElem?_eq_none h] at hun
   have next : ∀ u w', (∃ L' D', Qz G w' L' D' ∧ (Qb L' D' L0 D0 ∨ i = z) ∧ Za P G ops eff z L0 D0 Te (r.erase i) (a.put o.dst u) L' D') → wpAny P .any ops Q' n (listed.setIfInBounds i true) (a.put o.dst u) w' := by
    rintro u w' ⟨L', D', hw', hE', hl⟩
    have hE2 : Qb L' D' L0 D0 ∨ r.erase i = [] := hE'.imp_right fun hiz => by
     subst hiz
     rw [List.eq_nil_iff_forall_not_mem]
     intro j hj
     have hji : j ≠ i := (hnd.mem_erase_iff.1 hj).1
     have hjr : j ∈ r := (hnd.mem_erase_iff.1 hj).2
     have hd := hz (by rw [← hsz]; exact hlt) j hjr hji
     have hl1 := hdep _ hc i j (fun o' ho' => by rw [ho] at ho'; cases ho'; exact hall) hd
     rw [(hr j).2 hjr] at hl1
     cases hl1
    refine Yj hdep hs hed n (r.erase i) _ _ L' D' w' Q' hQ ?_ ?_ ?_ ?_ ?_ (fun hzs j hj hjz => hz hzs j (List.mem_of_mem_erase hj) hjz) hl hE2 hw'
    ·rw [List.length_erase_of_mem hm]; omega
    ·simpa using hsz
    ·intro k
     rw [hnd.mem_erase_iff, ← hr k]
     by_cases hki : k = i
     ·subst hki; simp [hlt]
     ·simp [Array.getD_eq_getD_getElem?, Array.getElem?_setIfInBounds_ne (Ne.symm hki), hki]
    ·intro k ok hok hk e he hb
     by_cases hei : e.on = i
     ·rw [hei]; simp [hlt]
     ·rw [show (listed.setIfInBounds i true).getD e.on false = listed.getD e.on false by simp [Array.getD_eq_getD_getElem?, Array.getElem?_setIfInBounds_ne (Ne.symm hei)]]
      by_cases hki : k = i
      ·subst hki
       rw [ho] at hok
       cases hok
       exact hall e he hb
      ·refine hc k ok hok ?_ e he hb
       simpa [Array.getD_eq_getD_getElem?, Array.getElem?_setIfInBounds_ne (Ne.symm hki)] using hk
    ·exact hp.sublist List.erase_sublist
   unfold wpOp
   simp only [ho]
   rcases hst with ⟨hwt, hg⟩ | ⟨hwt, hR⟩
   ·rw [if_pos hwt]
    exact .inl (hg.wp next)
   ·rw [if_neg (by simp [hwt])]
    exact next _ _ hR
theorem WD {id : Nat} {r : List Nat} {a : Act} {L : List Chunk} {D : List Fact} {w : World} {Q' : Exit → Act → World → Prop} (hm : P.follows .mixedOrders = true) (hdep : zq ops dep) (hB : RF dep ops eff r = true) (hz : z < ops.size → ∀ j ∈ r, j ≠ z → dep z j = true) (hQ : ∀ a L D w, Te a L D → Qz G w L D → Q' .normal a w)
  (h : Za P G ops eff z L0 D0 Te r a L D) (hE : Qb L D L0 D0) (hw : Qz G w L D) : (Code.region id ops true).wp P Q' a w := by
 simp only [RF, Bool.and_eq_true, List.all_eq_true, decide_eq_true_eq, List.mem_range] at hB
 obtain ⟨⟨⟨⟨hs, hed⟩, hlt⟩, hall⟩, hgo⟩ := hB
 have hp := XD hgo
 have hnd : r.Nodup := hp.imp fun hjk => by
  simp only [Xj, Bool.and_eq_true, bne_iff_ne] at hjk
  exact hjk.1.1
 have hperm : r.Perm (List.range ops.size) := by
  rw [List.perm_ext_iff_of_nodup hnd List.nodup_range]
  intro i
  rw [List.mem_range]
  exact ⟨fun hi => hlt i hi, fun hi => by simpa using hall i hi⟩
 refine wp_region_any hm (Yj hdep hs (qs hed) ops.size r _ a L D _ Q' hQ ?_ (by simp) ?_ ?_ hp hz h (.inl hE) ?_)
 ·simpa using hperm.length_eq
 ·intro i
  rw [hperm.mem_iff, List.mem_range]
  by_cases hi : i < ops.size
  ·simp [hi]
  ·simp [hi]
 ·intro i o ho hl
  exfalso
  have hi : i < ops.size := (Array.getElem?_eq_some_iff.1 ho).1
  simp [hi] at hl
 ·exact JO hw
theorem Zp {T2 : Act → List Chunk → List Fact → Prop} {q : List Nat} (hT : ∀ a L D, T2 a L D → Za P G ops eff z L0 D0 Te q a L D) : ∀ (r : List Nat) (a : Act) (L : List Chunk) (D : List Fact), Za P G ops eff z L0 D0 T2 r a L D → Za P G ops eff z L0 D0 Te (r ++ q) a L D
 | [], a, L, D, h => hT a L D h
 | i :: r, a, L, D, h => by
  simp only [List.cons_append, Za] at h ⊢
  cases hi : ops[i]? with
  | none => rw [hi] at h; exact h.elim
  | some o =>
   rw [hi] at h
   simp only at h ⊢
   rcases h with ⟨hw, ⟨he, v, hq, hr⟩ | ⟨he, hg⟩⟩ | ⟨hw, hr⟩
   ·exact .inl ⟨hw, .inl ⟨he, v, hq, Zp hT r _ _ _ hr⟩⟩
   ·exact .inl ⟨hw, .inr ⟨he, fun w hs => (hg w hs).mono fun u w' ⟨L', D', h1, h2, h3⟩ => ⟨L', D', h1, h2, Zp hT r _ _ _ h3⟩⟩⟩
   ·exact .inr ⟨hw, Zp hT r _ _ _ hr⟩
theorem JX {listed : Array Bool} (hed : ∀ i o, ops[i]? = some o → ∀ e ∈ o.after, Region.binds .any e = true → e.on ≠ i ∧ e.on < ops.size) (hsz : listed.size = ops.size) {j : Nat} {r : List Nat} (hr : ∀ i, listed.getD i true = false ↔ i ∈ j :: r)
  (hd : ∀ k ∈ r, XN ops j k = false) (hj : j < ops.size) : Region.ready .any ops listed ≠ [] := by
 intro hnil
 have hjl : listed.getD j true = false := (hr j).2 (by simp)
 obtain ⟨oj, hoj⟩ : ∃ o, ops[j]? = some o := ⟨_, Array.getElem?_eq_getElem hj⟩
 have : j ∈ Region.ready .any ops listed := mem_ready.2 ⟨hjl, oj, hoj, fun e he hb => by
  cases hl : listed.getD e.on false with
  | true => rfl
  | false =>
   exfalso
   by_cases hlt : e.on < listed.size
   ·have hl' : listed.getD e.on true = false := by
     simp only [Array.getD_eq_getD_getElem?, Array.getElem?_eq_getElem hlt, Option.getD_some] at hl ⊢
     exact hl
    have hmem := (hr e.on).1 hl'
    rcases List.mem_cons.1 hmem with hej | hmem
    ·exact (hed j oj hoj e he hb).1 hej
    ·have hd := hd e.on hmem
     simp only [XN, hoj] at hd
     rw [Array.any_eq_false'] at hd
     exact hd e he (by simp [hb])
   ·exact hlt (by rw [hsz]; exact (hed j oj hoj e he hb).2)⟩
 rw [hnil] at this
 cases this
theorem JU {listed : Array Bool} {i : Nat} {r : List Nat} (hnd : r.Nodup) (hlt : i < listed.size) (hr : ∀ k, listed.getD k true = false ↔ k ∈ r) (k : Nat) : (listed.setIfInBounds i true).getD k true = false ↔ k ∈ r.erase i := by
 rw [hnd.mem_erase_iff, ← hr k]
 by_cases hki : k = i
 ·subst hki; simp [hlt]
 ·simp [Array.getD_eq_getD_getElem?, Array.getElem?_setIfInBounds_ne (Ne.symm hki), hki]
theorem JY {listed : Array Bool} {i : Nat} {o : Oper} (hlt : i < listed.size) (ho : ops[i]? = some o) (hall : ∀ e ∈ o.after, Region.binds .any e = true → listed.getD e.on false = true) (hc : X5 ops listed) : X5 ops (listed.setIfInBounds i true) := by
 intro k ok hok hk e he hb
 by_cases hei : e.on = i
 ·rw [hei]; simp [hlt]
 ·rw [show (listed.setIfInBounds i true).getD e.on false = listed.getD e.on false by simp [Array.getD_eq_getD_getElem?, Array.getElem?_setIfInBounds_ne (Ne.symm hei)]]
  by_cases hki : k = i
  ·subst hki
   rw [ho] at hok
   cases hok
   exact hall e he hb
  ·refine hc k ok hok ?_ e he hb
   simpa [Array.getD_eq_getD_getElem?, Array.getElem?_setIfInBounds_ne (Ne.symm hki)] using hk
def xF (dep : Nat → Nat → Bool) (ops : Array Oper) (eff : Nat → Bool) (e j i : Nat) : Prop := Xj dep ops eff j i = true ∨ (j = e ∧ i ≠ e ∧ XN ops e i = false)
theorem WG {e j i : Nat} (h : xF dep ops eff e j i) : j ≠ i := by
 rcases h with h | ⟨rfl, h, _⟩
 ·simp only [Xj, Bool.and_eq_true, bne_iff_ne] at h; exact h.1.1
 ·exact Ne.symm h
theorem xE {e j i : Nat} (h : xF dep ops eff e j i) : XN ops j i = false := by
 rcases h with h | ⟨rfl, _, h⟩
 ·simp only [Xj, Bool.and_eq_true, Bool.not_eq_true'] at h; exact h.1.2
 ·exact h
theorem UV {e j i : Nat} (h : xF dep ops eff e j i) (hj : j ≠ e) : Xj dep ops eff j i = true := h.resolve_right fun hx => hj hx.1
theorem ZP (hdep : zq ops dep) {listed : Array Bool} (hc : X5 ops listed) {i : Nat} {o : Oper} (ho : ops[i]? = some o) (hready : ∀ e ∈ o.after, Region.binds .any e = true → listed.getD e.on false = true) :
  ∀ {r : List Nat}, i ∈ r → (∀ j ∈ r, listed.getD j true = false) → r.Pairwise (fun j k => k = i → Xj dep ops eff j k = true) → Yw ops eff i o r
 | j :: r, hm, hu, hp => by
  by_cases hji : j = i
  ·exact .inl hji
  ·have hm' : i ∈ r := by
    rcases List.mem_cons.1 hm with h | h
    ·exact absurd h.symm hji
    ·exact h
   have hpj := (List.pairwise_cons.1 hp).1 i hm' rfl
   simp only [Xj, Bool.and_eq_true, Bool.or_eq_true, Bool.not_eq_true'] at hpj
   obtain ⟨_, hd⟩ := hpj
   rcases hd with hd | ⟨he, hap⟩
   ·exfalso
    have := hdep _ hc i j (fun o' ho' => by rw [ho] at ho'; cases ho'; exact hready) hd
    rw [hu j (by simp)] at this
    cases this
   ·refine .inr ⟨hji, he, fun oj hoj => ?_, ZP hdep hc ho hready hm' (fun k hk => hu k (by simp [hk])) (List.pairwise_cons.1 hp).2⟩
    rw [ho, hoj] at hap
    exact hap
 | [], hm, _, _ => by cases hm
theorem xZ (hdep : zq ops dep) (hs : Region.noSelect ops = true) (hed : ∀ i o, ops[i]? = some o → ∀ e ∈ o.after, Region.binds .any e = true → e.on ≠ i ∧ e.on < ops.size) {e : Nat}
  {r : List Nat} {listed : Array Bool} {a : Act} {L : List Chunk} {D : List Fact} {w : World} {Q' : Exit → Act → World → Prop} (hQ : ∀ a L D w, Te a L D → Qz G w L D → Q' .normal a w) {n : Nat} (hlen : r.length = n + 1) (hsz : listed.size = ops.size) (hr : ∀ i, listed.getD i true = false ↔ i ∈ r)
  (hc : X5 ops listed) (hp : r.Pairwise (xF dep ops eff e)) (hz : z < ops.size → ∀ j ∈ r, j ≠ z → dep z j = true) (hez : e ≠ z) (h : Za P G ops eff z L0 D0 Te r a L D) (hE : Qb L D L0 D0) (hw : Qz G w L D) {o : Oper} (ho : ops[e]? = some o)
  (hall : ∀ e ∈ o.after, Region.binds .any e = true → listed.getD e.on false = true) (hun : listed.getD e true = false) : wpOp P ops Q' e (wpAny P .any ops Q' n (listed.setIfInBounds e true)) a w := by
 have hnd : r.Nodup := hp.imp fun h => WG h
 have hm := (hr e).1 hun
 have hcl : Yw ops eff e o r := ZP hdep hc ho hall hm (fun j hj => (hr j).2 hj) (hp.imp fun {j k} (h : xF dep ops eff e j k) (hk : k = e) => UV h fun hj : j = e => WG h (hj.trans hk.symm))
 have hst := qz hs ho r a L D w hcl h hE hw
 have hlt : e < listed.size := by
  rcases Nat.lt_or_ge e listed.size with h | h
  ·exact h
  ·simp [Array.getElem?_eq_none h] at hun
 have next : ∀ u w', (∃ L' D', Qz G w' L' D' ∧ (Qb L' D' L0 D0 ∨ e = z) ∧ Za P G ops eff z L0 D0 Te (r.erase e) (a.put o.dst u) L' D') → wpAny P .any ops Q' n (listed.setIfInBounds e true) (a.put o.dst u) w' := by
  rintro u w' ⟨L', D', hw', hE', hl⟩
  refine Yj hdep hs hed n (r.erase e) _ _ L' D' w' Q' hQ ?_ (by simpa using hsz) (JU hnd hlt hr) (JY hlt ho hall hc) ?_ (fun hzs j hj hjz => hz hzs j (List.mem_of_mem_erase hj) hjz) hl (.inl (hE'.resolve_right hez)) hw'
  ·rw [List.length_erase_of_mem hm]; omega
  ·exact (hp.sublist List.erase_sublist).imp_of_mem fun {j k} hj _ h => UV h (hnd.mem_erase_iff.1 hj).1
 unfold wpOp
 simp only [ho]
 rcases hst with ⟨hwt, hg⟩ | ⟨hwt, hR⟩
 ·rw [if_pos hwt]
  exact .inl (hg.wp next)
 ·rw [if_neg (by simp [hwt])]
  exact next _ _ hR
theorem Gm (hdep : zq ops dep) (hs : Region.noSelect ops = true) (hed : ∀ i o, ops[i]? = some o → ∀ e ∈ o.after, Region.binds .any e = true → e.on ≠ i ∧ e.on < ops.size) {e1 e2 : Nat} {q1 q2 : List Nat} (hq : q1.length = q2.length)
    (hd : ∀ i ∈ q1, i ≠ e2 → dep i e1 = true ∨ dep i e2 = true) {Q' : Exit → Act → World → Prop} (hQ : ∀ a L D w, Te a L D → Qz G w L D → Q' .normal a w) (hez1 : e1 ≠ z) (hez2 : e2 ≠ z) :
    ∀ (n : Nat) (pre : List Nat) (listed : Array Bool) (a : Act) (L : List Chunk) (D : List Fact) (w : World), pre.length = n → z ∉ pre → e1 ∉ pre → e2 ∉ pre → listed.size = ops.size → (∀ j ∈ pre ++ e1 :: q1, j < ops.size) → (∀ i, listed.getD i true = false ↔ i ∈ pre ++ e1 :: q1) → (∀ i, i ∈ pre ++ e1 :: q1 ↔ i ∈ pre ++ e2 :: q2) → X5 ops listed →
      (pre ++ e1 :: q1).Pairwise (xF dep ops eff e1) → (pre ++ e2 :: q2).Pairwise (xF dep ops eff e2) → (z < ops.size → ∀ j ∈ pre ++ e1 :: q1, j ≠ z → dep z j = true) →
      Za P G ops eff z L0 D0 (fun a L D => Za P G ops eff z L0 D0 Te (e1 :: q1) a L D ∧ Za P G ops eff z L0 D0 Te (e2 :: q2) a L D) pre a L D → Qb L D L0 D0 → Qz G w L D → wpAny P .any ops Q' (n + q1.length + 1) listed a w := by
  intro n
  induction n with
  | zero => ?_
  | succ n ih => ?_
  all_goals
    intro pre listed a L D w hlen hzp h1p h2p hsz hlt hr hperm hc hp1 hp2 hz h hE hw
    refine ⟨fun hnil => ?_, fun i hi => ?_⟩
    · exfalso
      cases pre with
      | nil => exact JX hed hsz hr (fun k hk => xE ((List.pairwise_cons.1 hp1).1 k hk)) (hlt _ (by simp)) hnil
      | cons j pre => exact JX hed hsz hr (fun k hk => xE ((List.pairwise_cons.1 hp1).1 k hk)) (hlt _ (by simp)) hnil
    · obtain ⟨hun, o, ho, hall⟩ := mem_ready.1 hi
      have hm := (hr i).1 hun
      by_cases hi1 : i = e1
      · subst hi1
        exact xZ hdep hs hed hQ (by rw [List.length_append, hlen]; simp only [List.length_cons]; omega) hsz hr hc hp1 hz hez1 (Zp (fun _ _ _ h => h.1) pre a L D h) hE hw ho hall hun
      by_cases hi2 : i = e2
      · subst hi2
        exact xZ hdep hs hed hQ (by rw [List.length_append, hlen]; simp only [List.length_cons]; omega) hsz (fun k => (hr k).trans (hperm k)) hc hp2 (fun hzs j hj hjz => hz hzs j ((hperm j).2 hj) hjz) hez2 (Zp (fun _ _ _ h => h.2) pre a L D h) hE hw ho hall hun
      have hmem : i ∈ pre ∨ i ∈ q1 := by
        simp only [List.mem_append, List.mem_cons] at hm
        rcases hm with h | h | h
        · exact .inl h
        · exact absurd h hi1
        · exact .inr h
      rcases hmem with hip | hip
      · have hppre := (List.pairwise_append.1 hp1).1
        have hnd : pre.Nodup := hppre.imp fun h => WG h
        have hnd1 : (pre ++ e1 :: q1).Nodup := hp1.imp fun h => WG h
        have hnd2 : (pre ++ e2 :: q2).Nodup := hp2.imp fun h => WG h
        have hcl : Yw ops eff i o pre := ZP hdep hc ho hall hip (fun j hj => (hr j).2 (by simp [hj])) (hppre.imp_of_mem fun {j k} (hj : j ∈ pre) _ (h : xF dep ops eff e1 j k) _ => UV h fun hx : j = e1 => h1p (hx ▸ hj))
        have hst := qz hs ho pre a L D w hcl h hE hw
        have hltl : i < listed.size := by
          rcases Nat.lt_or_ge i listed.size with h | h
          · exact h
          · simp [Array.getElem?_eq_none h] at hun
        have her : (pre ++ e1 :: q1).erase i = pre.erase i ++ e1 :: q1 := List.erase_append_left _ hip
        have her2 : (pre ++ e2 :: q2).erase i = pre.erase i ++ e2 :: q2 := List.erase_append_left _ hip
        first
          | (exfalso; rw [List.eq_nil_of_length_eq_zero hlen] at hip; cases hip)
          | (have next : ∀ u w', (∃ L' D', Qz G w' L' D' ∧ (Qb L' D' L0 D0 ∨ i = z) ∧ Za P G ops eff z L0 D0 (fun a L D => Za P G ops eff z L0 D0 Te (e1 :: q1) a L D ∧ Za P G ops eff z L0 D0 Te (e2 :: q2) a L D) (pre.erase i) (a.put o.dst u) L' D') → wpAny P .any ops Q' (n + 1 + q1.length) (listed.setIfInBounds i true) (a.put o.dst u) w' := by
              rintro u w' ⟨L', D', hw', hE', hl⟩
              have hiz : i ≠ z := fun hx => hzp (hx ▸ hip)
              rw [show n + 1 + q1.length = n + q1.length + 1 by omega]
              refine ih (pre.erase i) _ _ L' D' w' (by rw [List.length_erase_of_mem hip]; omega) (fun hx => hzp (List.mem_of_mem_erase hx)) (fun hx => h1p (List.mem_of_mem_erase hx)) (fun hx => h2p (List.mem_of_mem_erase hx)) (by simpa using hsz) (fun j hj => hlt j (List.mem_of_mem_erase (show j ∈ (pre ++ e1 :: q1).erase i by rw [her]; exact hj))) ?_ ?_ (JY hltl ho hall hc) ?_ ?_ (fun hzs j hj hjz => hz hzs j (List.mem_of_mem_erase (show j ∈ (pre ++ e1 :: q1).erase i by rw [her]; exact hj)) hjz) hl (hE'.resolve_right hiz) hw'
              · rw [← her]; exact JU hnd1 hltl hr
              · intro k
                rw [← her, ← her2, hnd1.mem_erase_iff, hnd2.mem_erase_iff, hperm k]
              · rw [← her]; exact hp1.sublist List.erase_sublist
              · rw [← her2]; exact hp2.sublist List.erase_sublist
             unfold wpOp
             simp only [ho]
             rcases hst with ⟨hwt, hg⟩ | ⟨hwt, hR⟩
             · rw [if_pos hwt]
               exact .inl (hg.wp next)
             · rw [if_neg (by simp [hwt])]
               exact next _ _ hR)
      · exfalso
        rcases hd i hip hi2 with hd | hd
        · have := hdep _ hc i e1 (fun o' ho' => by rw [ho] at ho'; cases ho'; exact hall) hd
          rw [(hr e1).2 (by simp)] at this
          cases this
        · have := hdep _ hc i e2 (fun o' ho' => by rw [ho] at ho'; cases ho'; exact hall) hd
          rw [(hr e2).2 ((hperm e2).2 (by simp))] at this
          cases this
def Sz (dep : Nat → Nat → Bool) (ops : Array Oper) (eff : Nat → Bool) (pre : List Nat) (e1 : Nat) (q1 : List Nat) (e2 : Nat) (q2 : List Nat) (z : Nat) : Bool :=
 Region.noSelect ops && Gg ops && (pre ++ e1 :: q1).all (· < ops.size) && (List.range ops.size).all ((pre ++ e1 :: q1).contains ·) && (pre ++ e2 :: q2).all (· < ops.size) && (List.range ops.size).all ((pre ++ e2 :: q2).contains ·) && go e1 (pre ++ e1 :: q1) && go e2 (pre ++ e2 :: q2)
  && (q1.all fun i => Nat.beq i e2 || dep i e1 || dep i e2) && !pre.contains z && !pre.contains e1 && !pre.contains e2 && (e1 != z) && (e2 != z) && (Nat.ble ops.size z || (pre ++ e1 :: q1).all fun j => Nat.beq j z || dep z j)
 where
 go (x : Nat) : List Nat → Bool
  | [] => true
  | j :: r => r.all (fun i => Xj dep ops eff j i || (Nat.beq j x && !Nat.beq i x && !XN ops x i)) && go x r
theorem yp {e : Nat} : ∀ {r : List Nat}, Sz.go dep ops eff e r = true → r.Pairwise (xF dep ops eff e)
 | [], _ => .nil
 | j :: r, h => by
  simp only [Sz.go, Bool.and_eq_true, List.all_eq_true, Bool.or_eq_true, Bool.not_eq_true'] at h
  refine .cons (fun i hi => (h.1 i hi).imp_right fun hx => ⟨Nat.eq_of_beq_eq_true hx.1.1, fun hie => ?_, hx.2⟩) (yp h.2)
  have := hx.1.2
  rw [hie, Nat.beq_refl] at this
  cases this
theorem Jn {l : List Nat} {x : Nat} (h : l.contains x = false) : x ∉ l := fun hx => by
 rw [← List.contains_iff_mem] at hx
 rw [hx] at h; cases h
theorem kL {id : Nat} {pre q1 q2 : List Nat} {e1 e2 : Nat} {a : Act} {L : List Chunk} {D : List Fact} {w : World} {Q' : Exit → Act → World → Prop} (hm : P.follows .mixedOrders = true) (hdep : zq ops dep) (hB : Sz dep ops eff pre e1 q1 e2 q2 z = true) (hQ : ∀ a L D w, Te a L D → Qz G w L D → Q' .normal a w)
  (h : Za P G ops eff z L0 D0 (fun a L D => Za P G ops eff z L0 D0 Te (e1 :: q1) a L D ∧ Za P G ops eff z L0 D0 Te (e2 :: q2) a L D) pre a L D) (hE : Qb L D L0 D0) (hw : Qz G w L D) : (Code.region id ops true).wp P Q' a w := by
 simp only [Sz, Bool.and_eq_true, Bool.not_eq_true', bne_iff_ne, Bool.or_eq_true] at hB
 obtain ⟨⟨⟨⟨⟨⟨⟨⟨⟨⟨⟨⟨⟨⟨hs, hed⟩, hlt⟩, hall⟩, hlt2⟩, hall2⟩, hgo1⟩, hgo2⟩, hd⟩, hzp⟩, h1p⟩, h2p⟩, hez1⟩, hez2⟩, hz⟩ := hB
 have hp1 := yp hgo1
 have hp2 := yp hgo2
 have key : ∀ {r : List Nat}, r.Nodup → r.all (· < ops.size) = true → (List.range ops.size).all (r.contains ·) = true → r.Perm (List.range ops.size) := fun {r} hnd h1 h2 => by
  rw [List.perm_ext_iff_of_nodup hnd List.nodup_range]
  intro i
  rw [List.mem_range]
  refine ⟨fun hi => by simpa using List.all_eq_true.1 h1 i hi, fun hi => ?_⟩
  have := List.all_eq_true.1 h2 i (List.mem_range.2 hi)
  rwa [List.contains_iff_mem] at this
 have hperm1 := key (hp1.imp fun h => WG h) hlt hall
 have hperm2 := key (hp2.imp fun h => WG h) hlt2 hall2
 have hlen : pre.length + q1.length + 1 = ops.size := by
  have := hperm1.length_eq
  simp at this
  omega
 have hq : q1.length = q2.length := by
  have := hperm1.length_eq
  have := hperm2.length_eq
  simp at *
  omega
 refine wp_region_any hm ?_
 rw [← hlen]
 refine Gm hdep hs (qs hed) hq (fun i hi hie => ?_) hQ hez1 hez2 pre.length pre _ a L D _ rfl (Jn hzp) (Jn h1p) (Jn h2p) (by simp; omega) (fun j hj => by rw [hperm1.mem_iff, List.mem_range] at hj; exact hj) ?_ (fun i => by rw [hperm1.mem_iff, hperm2.mem_iff]) ?_ hp1 hp2 ?_ h hE (JO hw)
 ·have := List.all_eq_true.1 hd i hi
  rcases Bool.or_eq_true_iff.1 this with h1 | h1
  ·rcases Bool.or_eq_true_iff.1 h1 with h2 | h2
   ·exact absurd (Nat.eq_of_beq_eq_true h2) hie
   ·exact .inl h2
  ·exact .inr h1
 ·intro i
  rw [hperm1.mem_iff, List.mem_range]
  by_cases hi : i < ops.size
  ·simp [hi, hlen]
  ·simp [hi, hlen]
 ·intro i o ho hl
  exfalso
  have hi : i < ops.size := (Array.getElem?_eq_some_iff.1 ho).1
  simp [hi, hlen] at hl
 ·intro hzs j hj hjz
  rcases hz with hz | hz
  ·exact absurd (Nat.le_of_ble_eq_true hz) (by omega)
  ·have := List.all_eq_true.1 hz j hj
   rcases Bool.or_eq_true_iff.1 this with h1 | h1
   ·exact absurd (Nat.eq_of_beq_eq_true h1) hjz
   ·exact h1
end
def Is (v : V) : V → List Chunk → List Fact → Prop := fun v' L D => v' = v ∧ L = [] ∧ D = []
inductive Qx (P : Program) (f : FuncId) (vs : List V) (D : List Fact) (k : V → Prop) : Prop where
 | mk (D1 : List Fact) (v : V) (h : FnS P f vs [] D1 (Is v)) (hd : ∀ m, QI m D → QI m D1) (k : k v)
def zt (T : Ty) (b : Builtin) (ts : List TypeId) (vs : List V) (k : V → Prop) : Prop :=
 match b, ts, vs with
 | .len, [t], [x] =>
  match find T t with
  | some i =>
   match i.d, x with
   | .str, .c (.s l) => k (qQ l.length)
   | .sl _, .c (.sl _ n _) => k (qQ n)
   | .arr n _, _ => k (qQ n)
   | _, _ => False
  | none => False
 | .max, _, [.c (.i ka a), .c (.i _ b)] => Qa (a < b) (k (.c (.i ka b))) (k (.c (.i ka a)))
 | .min, _, [.c (.i ka a), .c (.i _ b)] => Qa (b < a) (k (.c (.i ka b))) (k (.c (.i ka a)))
 | _, _, _ => False
def OD (P : Program) (T : Ty) (c : Call) (env : XR) (D : List Fact) (k : V → Prop) : Prop :=
 match c.callee with
 | .value (.func f) => yM env c.args.toList fun vs => Qx P f vs D k
 | .builtin b => yM env c.args.toList fun vs => zt T b c.argTypes.toList vs k
 | _ => False
def ww (T : Ty) (s d : Nat) (v : V) (k : V → Prop) : Prop :=
 match find T s, find T d with
 | some si, some di =>
  match si.d, di.d, v with
  | .int _, .int kd, .c (.i _ n) => Gt kd n fun r => k (.c (.i kd r))
  | .str, .str, .c (.s l) => k (.c (.s l))
  | _, _, _ => False
 | _, _ => False
def vcQ (P : Program) (T : Ty) (op : Op) (env : XR) (L : List Chunk) (D : List Fact) (k : V → Prop) : Prop :=
 match op with
 | .move x => QZ env x k
 | .assign x => QZ env x k
 | .pick c a b => pickK env c a b k
 | .build t ps => w5 env ps.toList fun l => kV T t l k
 | .load t x => QZ env x fun a => jo T t a L D k
 | .binOp op t x y _ => QZ env x fun a => QZ env y fun b => OE T op t a b k
 | .unOp op _ x => QZ env x fun a => EA op a k
 | .convert s d x => QZ env x fun a => ww T s d a k
 | .slice t x lo hi none => QZ env x fun a => PX env lo fun lo => PX env hi fun hi => kS T t a lo hi k
 | .fieldAddr s x f => QZ env x fun a => W0 T s a f L D k
 | .field t x f => QZ env x fun a => kU T t a f k
 | .indexAddr t x i => QZ env x fun a => QZ env i fun i => KK T t a i L D k
 | .index t x i => QZ env x fun a => QZ env i fun i => kT T t a i k
 | .extract x i => QZ env x fun v => xY v i k
 | .call c => OD P T c env D k
 | .nilCheck x => QZ env x fun v => L4 v L D k
 | _ => False
section
variable {P : Program} {G : Js} {L0 : List Chunk} {D0 : List Fact} {N : Nat} {env : XR}
theorem Zh {o : Oper} {a : Act} {v : V} (hr : ∀ w, Qz G w L0 D0 → (execOp a.eval o).run P w = .ok (.value v.enc) w) : UP P G L0 D0 o a.eval v.enc := by
 intro L D hE w hw
 unfold JW
 rw [hr w (hE G w hw)]
 exact ⟨rfl, hw⟩
theorem PH {w w' : World} {L : List Chunk} {D : List Fact} (h : Qz G w L D) (hsz : w.heap.size ≤ w'.heap.size) (hsame : ∀ b, b < w.heap.size → w'.heap[b]? = w.heap[b]?) (hk : kQ w w') : Qz G w' L D := by
 obtain ⟨m, h1, h2⟩ := h
 have hlt := JG h1.ok
 refine ⟨m, ⟨h1.nd, Zk h1.ok fun b hb => hsame b (hlt b hb), fun b o hb => ?_, h1.d⟩, h2.trans ⟨hsz, fun b hb _ => hsame b hb, fun b hb => .inl hb, fun _ _ h => h, fun _ _ h => .inl h, hk⟩⟩
 have h3 := h1.im b o hb
 exact ⟨by rw [hsame b (Array.getElem?_eq_some_iff.1 h3.1).1]; exact h3.1, h3.2⟩
theorem TI {o : Oper} {a : Act} {f : FuncId} {vs : List V} {D1 : List Fact} {v : V} (hrun : ∀ w, (execOp a.eval o).run P w = .ok (.enter f (vs.map V.enc).toArray) w) (h : FnS P f vs [] D1 (Is v)) (hd : ∀ m, QI m D0 → QI m D1) :
  UP P G L0 D0 o a.eval v.enc := by
 intro L D hE w hw
 unfold JW
 rw [hrun w]
 obtain ⟨m, h1, h2⟩ := hE G w hw
 refine (h.2 w m ⟨by simp [Xy], trivial, fun b o hb => ⟨(h1.im b o hb).1, by simp [Xy]⟩, hd m h1.d⟩).mono ?_
 rintro e w' ⟨v', L', D', m', rfl, ⟨rfl, rfl, rfl⟩, _, hfr⟩
 exact ⟨_, rfl, rfl, PH hw hfr.size (fun b hb => hfr.same b hb (by simp [Xy])) hfr.kept⟩
theorem jq {T : Ty} (hT : Z4 P T) {b : Builtin} {ts : List TypeId} {vs : List V} {ty : TypeId} {k : V → Prop} (h : zt T b ts vs k) :
  ∃ v, k v ∧ ∀ w (consts : Array Bool), (builtin b ts.toArray ty consts (vs.map V.enc).toArray).run P w = .ok (.value v.enc) w := by
 unfold zt at h
 split at h
 ·rename_i t x
  split at h
  ·rename_i i hi
   have hd' := (hT _ _ hi).2.2.2
   split at h
   ·rename_i l hd
    rw [hd] at hd'
    refine ⟨_, h, fun w consts => ?_⟩
    simp only [builtin, List.map_cons, List.map_nil, V.enc, C.enc, Sem.run_bind]
    rw [run_len_string w t _ _ hd']
    rfl
   ·rename_i e a n c hd
    rw [hd] at hd'
    simp only [YW.ok] at hd'
    exact ⟨_, h, fun w consts => by simp [builtin, V.enc, C.enc, qQ, Builtin.len_, run_underlying hd', goInt]⟩
   ·rename_i n e hd
    rw [hd] at hd'
    simp only [YW.ok] at hd'
    exact ⟨_, h, fun w consts => by simp [builtin, V.enc, C.enc, qQ, Builtin.len_, run_underlying hd', goInt]⟩
   ·exact h.elim
  ·exact h.elim
 ·rename_i ts ka x kb y
  by_cases hab : x < y
  ·exact ⟨_, h.t hab, fun w consts => by simp only [builtin, List.map_cons, List.map_nil, V.enc, C.enc, Sem.run_bind, run_max_int2, Result.andThen_ok, Sem.run_pure, gt_iff_lt, hab, if_true]⟩
  ·exact ⟨_, h.f hab, fun w consts => by simp only [builtin, List.map_cons, List.map_nil, V.enc, C.enc, Sem.run_bind, run_max_int2, Result.andThen_ok, Sem.run_pure, gt_iff_lt, hab, if_false]⟩
 ·rename_i ts ka x kb y
  by_cases hab : y < x
  ·exact ⟨_, h.t hab, fun w consts => by simp only [builtin, List.map_cons, List.map_nil, V.enc, C.enc, Sem.run_bind, run_min_int2, Result.andThen_ok, Sem.run_pure, hab, if_true]⟩
  ·exact ⟨_, h.f hab, fun w consts => by simp only [builtin, List.map_cons, List.map_nil, V.enc, C.enc, Sem.run_bind, run_min_int2, Result.andThen_ok, Sem.run_pure, hab, if_false]⟩
 ·exact h.elim
theorem Pl {T : Ty} (hT : Z4 P T) {o : Oper} {a : Act} {k : V → Prop} (he : XF N env a) (h : vcQ P T o.op env L0 D0 k) : ∃ v, k v ∧ UP P G L0 D0 o a.eval v.enc := by
 unfold vcQ at h
 split at h
 ·rename_i x ho
  obtain ⟨v, hv, h⟩ := Ql h
  exact ⟨v, h, Zh fun w _ => by simp only [execOp, ho, he.ev hv, Sem.run_pure]⟩
 ·rename_i x ho
  obtain ⟨v, hv, h⟩ := Ql h
  exact ⟨v, h, Zh fun w _ => by simp only [execOp, ho, he.ev hv, Sem.run_pure]⟩
 ·rename_i c x y ho
  obtain ⟨cv, hc, h⟩ := Ql h
  split at h
  ·obtain ⟨v, hv, h⟩ := Ql h
   exact ⟨v, h, Zh fun w _ => by simp only [execOp, ho, he.ev hc, he.ev hv, V.enc, C.enc, asBool, Sem.run_bind, Sem.run_pure, Result.andThen_ok, if_true]⟩
  ·obtain ⟨v, hv, h⟩ := Ql h
   exact ⟨v, h, Zh fun w _ => by simp only [execOp, ho, he.ev hc, he.ev hv, V.enc, C.enc, asBool, Sem.run_bind, Sem.run_pure, Result.andThen_ok, Bool.false_eq_true, if_false]⟩
  ·exact h.elim
 ·rename_i t ps ho
  obtain ⟨l, h, hl⟩ := Wf he h
  obtain ⟨v, hk, hr⟩ := qX hT h
  have e : (ps.map fun (i, x) => (i, a.eval x)) = (l.map fun (i, v) => (i, v.enc)).toArray := by
   rw [← hl, ← Array.toList_map, Array.toArray_toList]
  exact ⟨v, hk, Zh fun w _ => by simp only [execOp, ho, e, Sem.run_bind, hr w, Result.andThen_ok, Sem.run_pure]⟩
 ·rename_i t x ho
  obtain ⟨v, hv, h⟩ := Ql h
  obtain ⟨r, hk, hr⟩ := wv (G := G) hT h
  exact ⟨r, hk, Zh fun w hw => by simp only [execOp, ho, he.ev hv, Sem.run_bind, hr w hw, Result.andThen_ok, Sem.run_pure]⟩
 ·rename_i op t x y yt ho
  obtain ⟨v, hv, h⟩ := Ql h
  obtain ⟨u, hu, h⟩ := Ql h
  obtain ⟨r, hk, hr⟩ := jT hT (ox := x) (oy := y) h
  refine ⟨r, hk, Zh fun w _ => ?_⟩
  have := hr w
  simp only [execOp, ho, he.ev hv, he.ev hu]
  rw [Sem.run_bind, this]
  rfl
 ·rename_i op t x ho
  obtain ⟨v, hv, h⟩ := Ql h
  obtain ⟨r, hk, hr⟩ := wo (P := P) h
  exact ⟨r, hk, Zh fun w _ => by simp only [execOp, ho, he.ev hv, Sem.run_bind, hr w, Result.andThen_ok, Sem.run_pure]⟩
 ·rename_i s d x ho
  obtain ⟨v, hv, h⟩ := Ql h
  unfold ww at h
  split at h
  ·rename_i si di hsi hdi
   have h1 := (hT _ _ hsi).2.2.2
   have h2 := (hT _ _ hdi).2.2.2
   split at h
   ·rename_i ks kd kv n hd1 hd2
    rw [hd1] at h1
    rw [hd2] at h2
    simp only [YW.ok] at h1 h2
    refine ⟨_, h.run, Zh fun w _ => ?_⟩
    simp [execOp, ho, he.ev hv, convert, run_underlying h1, run_underlying h2, V.enc, C.enc, Conv.intToInt]
   ·rename_i l hd1 hd2
    rw [hd1] at h1
    rw [hd2] at h2
    simp only [YW.ok] at h1 h2
    refine ⟨_, h, Zh fun w _ => ?_⟩
    simp [execOp, ho, he.ev hv, convert, run_underlying h1, run_underlying h2, V.enc, C.enc]
   ·exact h.elim
  ·exact h.elim
 ·rename_i t x lo hi ho
  obtain ⟨v, hv, h⟩ := Ql h
  obtain ⟨l, h, hl⟩ := Ve he h
  obtain ⟨u, h, hu⟩ := Ve he h
  obtain ⟨r, hk, hr⟩ := qU hT h
  exact ⟨r, hk, Zh fun w _ => by simp only [execOp, ho, he.ev hv, hl, hu, Option.map_none, Sem.run_bind, hr w, Result.andThen_ok, Sem.run_pure]⟩
 ·rename_i s x f ho
  obtain ⟨v, hv, h⟩ := Ql h
  obtain ⟨r, hk, hr⟩ := Vv (G := G) hT h
  exact ⟨r, hk, Zh fun w hw => by simp only [execOp, ho, he.ev hv, Sem.run_bind, hr w hw, Result.andThen_ok, Sem.run_pure]⟩
 ·rename_i t x f ho
  obtain ⟨v, hv, h⟩ := Ql h
  obtain ⟨r, hk, hr⟩ := qW hT h
  exact ⟨r, hk, Zh fun w _ => by simp only [execOp, ho, he.ev hv, Sem.run_bind, hr w, Result.andThen_ok, Sem.run_pure]⟩
 ·rename_i t x i ho
  obtain ⟨v, hv, h⟩ := Ql h
  obtain ⟨u, hu, h⟩ := Ql h
  obtain ⟨r, hk, hr⟩ := Vu (G := G) hT h
  exact ⟨r, hk, Zh fun w hw => by simp only [execOp, ho, he.ev hv, he.ev hu, Sem.run_bind, hr w hw, Result.andThen_ok, Sem.run_pure]⟩
 ·rename_i t x i ho
  obtain ⟨v, hv, h⟩ := Ql h
  obtain ⟨u, hu, h⟩ := Ql h
  obtain ⟨r, hk, hr⟩ := qV hT h
  exact ⟨r, hk, Zh fun w _ => by simp only [execOp, ho, he.ev hv, he.ev hu, Sem.run_bind, hr w, Result.andThen_ok, Sem.run_pure]⟩
 ·rename_i x i ho
  obtain ⟨v, hv, h⟩ := Ql h
  obtain ⟨r, hk, hr⟩ := qr (P := P) h
  exact ⟨r, hk, Zh fun w _ => by simp only [execOp, ho, he.ev hv, Sem.run_bind, hr w, Result.andThen_ok, Sem.run_pure]⟩
 ·rename_i c ho
  unfold OD at h
  split at h
  ·rename_i f hc
   obtain ⟨vs, h, hvs⟩ := JZ he h
   obtain ⟨D1, v, hf, hd, hk⟩ := h
   have hargs : c.args.map a.eval = (vs.map V.enc).toArray := by rw [← hvs, ← Array.toList_map, Array.toArray_toList]
   refine ⟨v, hk, TI (fun w => ?_) hf hd⟩
   simp only [execOp, ho, resolve, hc, Act.eval, Deferred.ofValue, Sem.run_bind, Sem.run_pure, Result.andThen_ok, invoke, hargs]
   simp [Y6 hf.1]
  ·rename_i b hc
   obtain ⟨vs, h, hvs⟩ := JZ he h
   have hargs : c.args.map a.eval = (vs.map V.enc).toArray := by rw [← hvs, ← Array.toList_map, Array.toArray_toList]
   have key := jq (P := P) (ty := o.type) hT h
   rw [Array.toArray_toList] at key
   obtain ⟨v, hk, hr⟩ := key
   refine ⟨v, hk, Zh fun w _ => ?_⟩
   simp only [execOp, ho, resolve, hc, Sem.run_bind, Sem.run_pure, Result.andThen_ok, invoke, hargs]
   exact hr w _
  ·exact h.elim
 ·rename_i x ho
  obtain ⟨v, hv, h⟩ := Ql h
  obtain ⟨hk, ha⟩ := ye (G := G) h
  exact ⟨v, hk, Zh fun w hw => by obtain ⟨a', ha⟩ := ha w hw; simp only [execOp, ho, he.ev hv, ha, Sem.run_pure]⟩
 ·exact h.elim
structure Qt (L : List Chunk) (D : List Fact) (L' : List Chunk) (D' : List Fact) (A : Prop) : Prop where
 h : Qb L D L' D'
 k : A
def jj (P : Program) (T : Ty) (N : Nat) (ops : List Oper) (eff : List Nat) (z : Nat) (L0 : List Chunk) (D0 : List Fact) : List Nat → XR → List Chunk → List Fact → Nat → RD → Prop
 | [], env, L, D, nid, k => k env L D nid
 | i :: r, env, L, D, nid, k =>
  match ops[i]? with
  | none => False
  | some o =>
   OB ops env o.guard
    (match eff.contains i with
    | false => vcQ P T o.op env L0 D0 fun v => GZ N o.dst v env fun env' => jj P T N ops eff z L0 D0 r env' L D nid k
    | true => EB P T o.op env L D nid fun v L' D' n' => match Nat.beq i z with
     | true => GZ N o.dst v env fun env' => jj P T N ops eff z L0 D0 r env' L' D' n' k
     | false => Qt L' D' L0 D0 (GZ N o.dst v env fun env' => jj P T N ops eff z L0 D0 r env' L' D' n' k))
    (GZ N o.dst .t0 env fun env' => jj P T N ops eff z L0 D0 r env' L D nid k)
theorem Zn {T : Ty} {z : Nat} (hT : Z4 P T) (ops : List Oper) (eff : List Nat) {k : RD} {Te : Act → List Chunk → List Fact → Prop} (hQ : ∀ env' L' D' n' a', k env' L' D' n' → XF N env' a' → Te a' L' D') :
  ∀ (r : List Nat) (env : XR) (L : List Chunk) (D : List Fact) (nid : Nat) (a : Act), jj P T N ops eff z L0 D0 r env L D nid k → XF N env a → Za P G ops.toArray (fun i => eff.contains i) z L0 D0 Te r a L D
 | [], env, L, D, nid, a, h, he => hQ _ _ _ _ _ h he
 | i :: r, env, L, D, nid, a, h, he => by
  simp only [jj] at h
  simp only [Za]
  cases ho : ops[i]? with
  | none => rw [ho] at h; exact h.elim
  | some o =>
   rw [ho] at h
   simp only [List.getElem?_toArray, ho]
   simp only at h
   rcases jQ he h with ⟨hw, h⟩ | ⟨hw, h⟩
   ·refine .inl ⟨hw, ?_⟩
    cases hef : eff.contains i with
    | false =>
     rw [hef] at h
     obtain ⟨v, hk, hq⟩ := Pl (G := G) hT he h
     obtain ⟨env', hk', he'⟩ := Kp hk he
     exact .inl ⟨rfl, v.enc, hq, Zn hT ops eff hQ r env' L D nid _ hk' he'⟩
    | true =>
     rw [hef] at h
     refine .inr ⟨rfl, fun w hw' => (wt hT h he hw').mono ?_⟩
     rintro u w' ⟨v, L', D', n', rfl, hk, hs'⟩
     cases hiz : Nat.beq i z with
     | true =>
      rw [hiz] at hk
      obtain ⟨env', hk', he'⟩ := Kp hk he
      exact ⟨L', D', hs', .inr (Nat.eq_of_beq_eq_true hiz), Zn hT ops eff hQ r env' L' D' n' _ hk' he'⟩
     | false =>
      rw [hiz] at hk
      obtain ⟨env', hk', he'⟩ := Kp hk.k he
      exact ⟨L', D', hs', .inl hk.h, Zn hT ops eff hQ r env' L' D' n' _ hk' he'⟩
   ·obtain ⟨env', hk', he'⟩ := Kp h he
    exact .inr ⟨hw, Zn hT ops eff hQ r env' L D nid _ hk' he'⟩
theorem Vt {T : Ty} (hT : Z4 P T) (hm : P.follows .mixedOrders = true) {id : Nat} {ops : List Oper} {L : List Chunk} {D : List Fact} {nid : Nat} {K : Kt} (r eff : List Nat) (L0 : List Chunk) (D0 : List Fact) (hB : okB ops.toArray (fun i => eff.contains i) r = true) (hE : Qb L D L0 D0)
  (h : jj P T N ops eff ops.length L0 D0 r env L D nid (K .normal)) : J P G N (.region id ops.toArray true) env L D nid K :=
 ⟨fun a w he hs => WD (z := ops.length) (Te := fun a' L' D' => ∀ w', Qz G w' L' D' → yP G N K .normal a' w') hm Nq hB (fun h => absurd h (by simp)) (fun _ _ _ w' h hw => h w' hw) (Zn hT ops eff (fun env' L' D' n' a' hk he' w' hs' => ⟨env', L', D', n', hk, he', hs'⟩) r env L D nid a h he) hE hs⟩
theorem NB {T : Ty} (hT : Z4 P T) (hm : P.follows .mixedOrders = true) {id : Nat} {ops : List Oper} {L : List Chunk} {D : List Fact} {nid : Nat} {K : Kt} (A r eff : List Nat) (L0 : List Chunk) (D0 : List Fact) (hB : okM A ops.toArray (fun i => eff.contains i) r = true) (hE : Qb L D L0 D0)
  (h : jj P T N ops eff ops.length L0 D0 r env L D nid (K .normal)) : J P G N (.region id ops.toArray true) env L D nid K := by
 simp only [okM, Bool.and_eq_true] at hB
 exact ⟨fun a w he hs => WD (z := ops.length) (Te := fun a' L' D' => ∀ w', Qz G w' L' D' → yP G N K .normal a' w') hm (Yi hB.1.2 hB.1.1) hB.2 (fun h => absurd h (by simp)) (fun _ _ _ w' h hw => h w' hw) (Zn hT ops eff (fun env' L' D' n' a' hk he' w' hs' => ⟨env', L', D', n', hk, he', hs'⟩) r env L D nid a h he) hE hs⟩
def SK (A : List Nat) (z : Nat) (r : List Nat) : Bool := r.all fun j => Nat.beq j z || (A.getD z 0).testBit j
theorem Et {T : Ty} (hT : Z4 P T) (hm : P.follows .mixedOrders = true) {id : Nat} {ops : List Oper} {L : List Chunk} {D : List Fact} {nid : Nat} {K : Kt} (A r eff : List Nat) (z : Nat) (L0 : List Chunk) (D0 : List Fact) (hB : (okM A ops.toArray (fun i => eff.contains i) r && SK A z r) = true) (hE : Qb L D L0 D0)
  (h : jj P T N ops eff z L0 D0 r env L D nid (K .normal)) : J P G N (.region id ops.toArray true) env L D nid K := by
 simp only [okM, Bool.and_eq_true] at hB
 refine ⟨fun a w he hs => WD (z := z) (Te := fun a' L' D' => ∀ w', Qz G w' L' D' → yP G N K .normal a' w') hm (Yi hB.1.1.2 hB.1.1.1) hB.1.2 (fun _ j hj hjz => ?_) (fun _ _ _ w' h hw => h w' hw) (Zn hT ops eff (fun env' L' D' n' a' hk he' w' hs' => ⟨env', L', D', n', hk, he', hs'⟩) r env L D nid a h he) hE hs⟩
 have := List.all_eq_true.1 hB.2 j hj
 rcases Bool.or_eq_true_iff.1 this with h1 | h1
 ·exact absurd (Nat.eq_of_beq_eq_true h1) hjz
 ·exact h1
structure X3 (A B : Prop) : Prop where
 l : A
 r : B
def okM2 (A : List Nat) (ops : Array Oper) (eff : Nat → Bool) (pre : List Nat) (e1 : Nat) (q1 : List Nat) (e2 : Nat) (q2 : List Nat) (z : Nat) : Bool := Nat.ble A.length ops.size && U2 A ops && Sz (fun i j => (A.getD i 0).testBit j) ops eff pre e1 q1 e2 q2 z
theorem Eu {T : Ty} (hT : Z4 P T) (hm : P.follows .mixedOrders = true) {id : Nat} {ops : List Oper} {L : List Chunk} {D : List Fact} {nid : Nat} {K : Kt} (A pre : List Nat) (e1 : Nat) (q1 : List Nat) (e2 : Nat) (q2 eff : List Nat) (z : Nat) (L0 : List Chunk) (D0 : List Fact) (hB : okM2 A ops.toArray (fun i => eff.contains i) pre e1 q1 e2 q2 z = true) (hE : Qb L D L0 D0)
  (h : jj P T N ops eff z L0 D0 pre env L D nid fun env' L' D' n' => X3 (jj P T N ops eff z L0 D0 (e1 :: q1) env' L' D' n' (K .normal)) (jj P T N ops eff z L0 D0 (e2 :: q2) env' L' D' n' (K .normal))) : J P G N (.region id ops.toArray true) env L D nid K := by
 simp only [okM2, Bool.and_eq_true] at hB
 have key : ∀ (r : List Nat) (env' : XR) (L' : List Chunk) (D' : List Fact) (n' : Nat) (a' : Act), jj P T N ops eff z L0 D0 r env' L' D' n' (K .normal) → XF N env' a' → Za P G ops.toArray (fun i => eff.contains i) z L0 D0 (fun a' L' D' => ∀ w', Qz G w' L' D' → yP G N K .normal a' w') r a' L' D' := fun r env' L' D' n' a' h he =>
  Zn hT ops eff (fun env' L' D' n' a' hk he' w' hs' => ⟨env', L', D', n', hk, he', hs'⟩) r env' L' D' n' a' h he
 exact ⟨fun a w he hs => kL (z := z) (Te := fun a' L' D' => ∀ w', Qz G w' L' D' → yP G N K .normal a' w') hm (Yi hB.1.2 hB.1.1) hB.2 (fun _ _ _ w' h hw => h w' hw) (Zn hT ops eff (fun env' L' D' n' a' hk he' => ⟨key _ _ _ _ _ _ hk.l he', key _ _ _ _ _ _ hk.r he'⟩) pre env L D nid a h he) hE hs⟩
end
end Go.X
namespace Go.X
open Go Go.RowKit
variable [Sm : Inhabited Jh]
theorem Qa.yes {p A B : Prop} (h : p) (k : A) : Qa p A B := ⟨fun _ => k, fun hn => absurd h hn⟩
theorem Qa.no {p A B : Prop} (h : ¬ p) (k : B) : Qa p A B := ⟨fun hp => absurd hp h, fun _ => k⟩
def Kt.round (R : XR → List Chunk → List Fact → Nat → Prop) (K : Kt) : Kt := fun e env L D n =>
 match e with
 | .normal => R env L D n
 | e => K e env L D n
def JR (P : Program) (G : Js) (N : Nat) (c : Code) (K : Kt) : Nat → XR → List Chunk → List Fact → Nat → Prop
 | 0, _, _, _, _ => False
 | n + 1, env, L, D, nid => J P G N c env L D nid (Kt.round (JR P G N c K n) K)
theorem Kf {P : Program} {G : Js} {N : Nat} {c : Code} {K : Kt} {n : Nat} {env : XR} {L : List Chunk} {D : List Fact} {nid : Nat} (h : J P G N c env L D nid (Kt.round (JR P G N c K n) K)) : JR P G N c K (n + 1) env L D nid := h
theorem Ji {P : Program} {G : Js} {N : Nat} {env : XR} {L : List Chunk} {D : List Fact} {nid : Nat} {K : Kt} {c : Code} (n : Nat) (h : JR P G N c K n env L D nid) : J P G N (.loop c) env L D nid K :=
 ⟨fun a w he hs => wp_loop_rounds n (by
  induction n generalizing env L D nid a w with
  | zero => exact h.elim
  | succ n ih =>
   rw [rounds_succ]
   refine wp_mono (J.run h a w he hs) fun e a' w' hq => ?_
   obtain ⟨env', L', D', n', hk, he', hs'⟩ := hq
   cases e with
   | normal => exact ih hk a' w' he' hs'
   | exit id => exact ⟨env', L', D', n', hk, he', hs'⟩
   | goto l => exact ⟨env', L', D', n', hk, he', hs'⟩
   | ret => exact ⟨env', L', D', n', hk, he', hs'⟩
   | panic ch => exact ⟨env', L', D', n', hk, he', hs'⟩
   | outgrown => exact ⟨env', L', D', n', hk, he', hs'⟩)⟩
structure JS (P : Program) (G : Js) (N : Nat) (c : Code) (env : XR) (L : List Chunk) (D : List Fact) (nid : Nat) (K : Kt) : Prop where
 h : J P G N c env L D nid K
theorem QF {P : Program} {G : Js} {N : Nat} {c : Code} {env : XR} {L : List Chunk} {D : List Fact} {nid : Nat} {K : Kt} (h : JS P G N c env L D nid K) : J P G N c env L D nid K := h.h
theorem Wa.ofBelow {w w' : World} {m : Im} {L : List Chunk} {D : List Fact} (h : Wa w m L D) (hb : Below w.heap.size w w') (hS : Sm.default ≠ .strict) : Wa w' m L D ∧ Fr w L m w' L m := by
 have hlt := JG h.ok
 refine ⟨⟨h.nd, Zk h.ok fun b hb' => hb.block b (hlt b hb'), fun b o ho => ?_, h.d⟩,
  ⟨hb.size, fun b hb' _ => hb.block b hb', fun _ hb' => .inl hb', fun _ _ h => h, fun _ _ h => .inl h, ⟨hb.os, hb.output, hb.size, fun e => absurd e hS, fun e => absurd e hS⟩⟩⟩
 have h1 := h.im b o ho
 exact ⟨by rw [hb.block b (Array.getElem?_eq_some_iff.1 h1.1).1]; exact h1.1, h1.2⟩
theorem qo {P : Program} {f : FuncId} {args : List V} {D : List Fact} {v : V} (hE : zZ P f)
  (h : ∀ w m, QI m D → (∀ b o, m b = some o → w.heap[b]? = some o) → Calls P f (args.map V.enc).toArray w fun e w' => e = .returned v.enc ∧ Below w.heap.size w w') (hS : Sm.default ≠ .strict := by decide) : FnS P f args [] D (Is v) := by
 refine ⟨hE, fun w m hh => (h w m hh.d (fun b o hb => (hh.im b o hb).1)).mono ?_⟩
 rintro e w' ⟨rfl, hb⟩
 have hh' : Wa w m [] [] := ⟨hh.nd, hh.ok, hh.im, trivial⟩
 obtain ⟨h1, h2⟩ := hh'.ofBelow hb hS
 exact ⟨v, [], [], m, rfl, ⟨rfl, rfl, rfl⟩, h1, h2⟩
theorem JD {P : Program} {f : FuncId} {args : List V} {D : List Fact} {v : V} (hE : zZ P f) (h : ∀ w, Calls P f (args.map V.enc).toArray w fun e w' => e = .returned v.enc ∧ w' = w) : FnS P f args [] D (Is v) := by
 refine ⟨hE, fun w m hh => (h w).mono ?_⟩
 rintro e w' ⟨rfl, rfl⟩
 exact ⟨v, [], [], m, rfl, ⟨rfl, rfl, rfl⟩, ⟨hh.nd, hh.ok, hh.im, trivial⟩, Fr.refl _ _ _⟩
theorem HV (w : World) (n : Nat) : Below w.heap.size w (w.drewN n) := ⟨rfl, rfl, rfl, Nat.le_refl _, fun _ _ => rfl⟩
theorem Qc.is {P : Program} {f : FuncId} {args : List V} {L : List Chunk} {D D0 : List Fact} {v : V} {K : V → List Chunk → List Fact → Prop} (h : FnS P f args [] D0 (Is v)) (k : K v L D)
  (hd : ∀ m, QI m D → QI m D0 := by first | exact fun _ _ => trivial | exact fun _ h => h | exact fun _ h => ⟨h.1, trivial⟩ | exact fun _ h => ⟨h.2.1, trivial⟩) : Qc P f args L D K :=
 Qc.mk [] L D0 (Is v) h (.refl _) hd ( by rintro _ _ _ ⟨rfl, rfl, rfl⟩; exact k)
theorem Qc.isE {P : Program} {f : FuncId} {args : List V} {L L1 : List Chunk} {D D0 D1 : List Fact} {v : V} {K : V → List Chunk → List Fact → Prop} (h : FnS P f args [] D0 (Is v)) (hE : Qb L D L1 D1) (hd : ∀ m, QI m D1 → QI m D0) (k : K v L1 D1) : Qc P f args L D K :=
 .mkE [] L1 D0 D1 (Is v) h hE hd (by rintro _ _ _ ⟨rfl, rfl, rfl⟩; exact k)
theorem Qc.isF {P : Program} {f : FuncId} {args : List V} {L : List Chunk} {D D0 : List Fact} {K : V → List Chunk → List Fact → Prop} (b : Bool) (g : Bool → V) (h : FnS P f args [] D0 (Is (g b)))
  (kt : b = true → K (g true) L D) (kf : b = false → K (g false) L D)
  (hd : ∀ m, QI m D → QI m D0 := by first | exact fun _ _ => trivial | exact fun _ h => h | exact fun _ h => ⟨h.1, trivial⟩ | exact fun _ h => ⟨h.2.1, trivial⟩) : Qc P f args L D K := by
 cases b with
 | true => exact Qc.is h (kt rfl) hd
 | false => exact Qc.is h (kf rfl) hd
theorem Qc.isB {P : Program} {f : FuncId} {args : List V} {L : List Chunk} {D D0 : List Fact} {K : V → List Chunk → List Fact → Prop} {b : Bool} (h : FnS P f args [] D0 (Is (.c (.b b))))
  (kt : b = true → K (.c (.b true)) L D) (kf : b = false → K (.c (.b false)) L D)
  (hd : ∀ m, QI m D → QI m D0 := by first | exact fun _ _ => trivial | exact fun _ h => h | exact fun _ h => ⟨h.1, trivial⟩ | exact fun _ h => ⟨h.2.1, trivial⟩) : Qc P f args L D K :=
 Qc.isF b (fun b => .c (.b b)) h kt kf hd
theorem Qe.is {L : List Chunk} {D : List Fact} {v v' : V} (h : v' = v) : Qe (Is v) L D v' := ⟨[], [], ⟨h, rfl, rfl⟩, Qb.dropAll.trans (Qb.facts fun _ _ => trivial)⟩
theorem Qe.bool {L : List Chunk} {D : List Fact} {b b' : Bool} (h : b' = b) : Qe (Is (.c (.b b'))) L D (.c (.b b)) := Qe.is (by rw [h])
theorem Qe.str {L : List Chunk} {D : List Fact} {b b' : List UInt8} (h : b' = b) : Qe (Is (.c (.s b'))) L D (.c (.s b)) := Qe.is (by rw [h])
theorem Qe.int {L : List Chunk} {D : List Fact} {k : IntKind} {b b' : Int} (h : b' = b) : Qe (Is (.c (.i k b'))) L D (.c (.i k b)) := Qe.is (by rw [h])
theorem Qb.ofSub {L L0 : List Chunk} {D D0 : List Fact} (h : L0.Sublist L) (hd : ∀ m, QI m D → QI m D0) : Qb L D L0 D0 := by
 obtain ⟨R, hR⟩ := h.exists_perm_append
 exact (Qb.sub ⟨R, hR.trans List.perm_append_comm⟩).trans (Qb.facts hd)
def KB (env : XR) : List Nat → List Nat
 | [] => []
 | s :: r => match look env s with
  | some (.c (.p id _ _)) => id :: KB env r
  | _ => KB env r
def SZ (n : Nat) : List Nat → Bool
 | [] => false
 | i :: r => match Nat.beq i n with
  | true => true
  | false => SZ n r
def Ki (b : Bool) (ids : List Nat) : List Chunk → List Chunk
 | [] => []
 | .box id ad ty cs :: r => match SZ id ids with
  | true => .box id ad ty cs :: Ki b ids r
  | false => Ki b ids r
 | .row e z a n c cs :: r => match b with
  | true => .row e z a n c cs :: Ki b ids r
  | false => Ki b ids r
 | .obj id ad o :: r => match SZ id ids with
  | true => .obj id ad o :: Ki b ids r
  | false => Ki b ids r
theorem Xw (b : Bool) (ids : List Nat) : ∀ L : List Chunk, (Ki b ids L).Sublist L
 | [] => .slnil
 | .box id ad ty cs :: r => by
  simp only [Ki]; split
  ·exact (Xw b ids r).cons_cons _
  ·exact (Xw b ids r).cons _
 | .row e z a n c cs :: r => by
  simp only [Ki]; split
  ·exact (Xw _ ids r).cons_cons _
  ·exact (Xw _ ids r).cons _
 | .obj id ad o :: r => by
  simp only [Ki]; split
  ·exact (Xw _ ids r).cons_cons _
  ·exact (Xw _ ids r).cons _
theorem NA {P : Program} {G : Js} {N : Nat} {env : XR} {T : Ty} (hT : Z4 P T) (hm : P.follows .mixedOrders = true) {id : Nat} {ops : List Oper} {L : List Chunk} {D : List Fact} {nid : Nat} {K : Kt} (A r eff slots : List Nat) (b : Bool)
  (hB : okM A ops.toArray (fun i => eff.contains i) r = true) (h : jj P T N ops eff ops.length (Ki b (KB env slots) L) D r env L D nid (K .normal)) : J P G N (.region id ops.toArray true) env L D nid K :=
 NB hT hm A r eff _ D hB (Qb.ofSub (Xw _ _ _) fun _ h => h) h
theorem Nz {P : Program} {G : Js} {N : Nat} {env : XR} {T : Ty} (hT : Z4 P T) (hm : P.follows .mixedOrders = true) {id : Nat} {ops : List Oper} {L : List Chunk} {D : List Fact} {nid : Nat} {K : Kt} (A r eff slots : List Nat) (z : Nat) (b : Bool)
  (hB : (okM A ops.toArray (fun i => eff.contains i) r && SK A z r) = true) (h : jj P T N ops eff z (Ki b (KB env slots) L) D r env L D nid (K .normal)) : J P G N (.region id ops.toArray true) env L D nid K :=
 Et hT hm A r eff z _ D hB (Qb.ofSub (Xw _ _ _) fun _ h => h) h
theorem ZF {P : Program} {G : Js} {N : Nat} {env : XR} {T : Ty} (hT : Z4 P T) (hm : P.follows .mixedOrders = true) {id : Nat} {ops : List Oper} {L : List Chunk} {D : List Fact} {nid : Nat} {K : Kt} (A pre : List Nat) (e1 : Nat) (q1 : List Nat) (e2 : Nat) (q2 eff slots : List Nat) (z : Nat) (b : Bool)
  (hB : okM2 A ops.toArray (fun i => eff.contains i) pre e1 q1 e2 q2 z = true) (h : jj P T N ops eff z (Ki b (KB env slots) L) D pre env L D nid fun env' L' D' n' => X3 (jj P T N ops eff z (Ki b (KB env slots) L) D (e1 :: q1) env' L' D' n' (K .normal)) (jj P T N ops eff z (Ki b (KB env slots) L) D (e2 :: q2) env' L' D' n' (K .normal))) :
  J P G N (.region id ops.toArray true) env L D nid K :=
 Eu hT hm A pre e1 q1 e2 q2 eff z _ D hB (Qb.ofSub (Xw _ _ _) fun _ h => h) h
def ZX (g : Nat) : Fact :=
 ⟨fun m => ∃ cs t fr n, m g = some (.cells cs t fr) ∧ cs[0]? = some (.int .i64 n), fun _ _ hm ⟨cs, t, fr, n, h1, h2⟩ => ⟨cs, t, fr, n, hm _ _ h1, h2⟩⟩
theorem jD {g : Nat} {m : Im} {w : World} (h : QI m [ZX g]) (hw : ∀ b o, m b = some o → w.heap[b]? = some o) : ∃ n, w.cell? ⟨g, 0, none⟩ = some (.int .i64 n) := by
 obtain ⟨⟨cs, t, fr, n, h1, h2⟩, _⟩ := h
 refine ⟨n, ?_⟩
 have := hw _ _ h1
 simp [World.cell?, this, h2]
theorem PA {m : Im} {w : World} {ety esz : Nat} {a : Option Addr} {n : Nat} {cs : List C} (h : Z8 m ety esz a n cs) (hn : n ≠ 0) (hw : ∀ b o, m b = some o → w.heap[b]? = some o) :
  ∃ g off, a = some ⟨g, off, none⟩ ∧ g < w.heap.size ∧ cs.length = n * esz ∧ ∀ (j : Nat) (x : C), cs[j]? = some x → w.cell? ⟨g, off + j, none⟩ = some x.enc := by
 obtain ⟨h1, ⟨hn0, _⟩ | ⟨g, off, cur, ty, lo, hi, ha, hm, hl, ht⟩⟩ := h
 ·exact absurd hn0 hn
 ·have hg := hw _ _ hm
  refine ⟨g, off, ha, (Array.getElem?_eq_some_iff.1 hg).1, hl, fun j x hx => ?_⟩
  have : ((cur.toList.drop off).take (n * esz))[j]? = some x.enc := by rw [ht]; simp [hx]
  have hj : j < n * esz := by
   have := (List.getElem?_eq_some_iff.1 hx).1
   omega
  rw [List.getElem?_take_of_lt hj, List.getElem?_drop] at this
  simp only [World.cell?, hg]
  simpa using this
theorem Zw {α : Type} {f : α → C} {l : List α} {i : Nat} (h : i < l.length) : ((l.map f).drop (i * 1 + 0)).take 1 = [f l[i]] := by
 rw [Nat.mul_one, Nat.add_zero, ← List.map_drop, ← List.map_take, List.drop_eq_getElem_cons h]; rfl
theorem Ot {l : List UInt8} {i : Nat} (h : i < l.length) : ((l.map byteC).drop (i * 1 + 0)).take 1 = [byteC (l.getD i 0)] := by
 rw [Zw h]; simp [h]
theorem xp {α : Type} {f : α → C} {l : List α} {i : Nat} {x : α} (h : i < l.length) : QP (i * 1 + 0) [f x] (l.map f) = (l.set i x).map f := by
 rw [Nat.mul_one, Nat.add_zero, List.map_set, List.set_eq_take_append_cons_drop, if_pos (by simpa using h)]; simp [QP]
theorem XX {P : Program} {G : Js} {N : Nat} {c0 : Code} {env : XR} {L : List Chunk} {D : List Fact} {nid : Nat} {K : Kt} {e z : Nat} {a : Option Addr} {n c : Nat} {cs : List C} (hm : .row e z a n c cs ∈ L) (k : n ≤ c → c ≤ maxLen → cs.length = n * z → J P G N c0 env L D nid K) : J P G N c0 env L D nid K :=
 ⟨fun ac w he hs => by
  obtain ⟨m, h1, _⟩ := id hs
  have hr := (ZE h1.ok hm).2
  have h : n ≤ c ∧ c ≤ maxLen ∧ cs.length = n * z := by
   rcases hr with ⟨_, rfl, rfl, rfl⟩ | ⟨g, _, cur, lo, hi, _, h2, h3, _, _, h4, _⟩
   ·exact ⟨Nat.le_refl _, Nat.zero_le _, by simp⟩
   ·exact ⟨h2, h3, h4⟩
  exact (k h.1 h.2.1 h.2.2).run ac w he hs⟩
theorem wE {m : Im} {e z : Nat} {a : Option Addr} {n c lo hi : Nat} {cs : List C} (h : (Qf e z a n cs).p m) (hl : lo ≤ hi) (hn : hi ≤ n) (hc : n ≤ c) : (Qf e z (Z9 a lo c z) (hi - lo) ((cs.take (hi * z)).drop (lo * z))).p m := by
 obtain ⟨h1, h2⟩ := h
 have hone : ZO ((cs.take (hi * z)).drop (lo * z)) := fun x hx => h1 x (List.mem_of_mem_take (List.mem_of_mem_drop hx))
 refine ⟨hone, ?_⟩
 rcases h2 with ⟨h3, h4⟩ | ⟨g, off, cur, ty, lo', hi', h3, h4, h5, h6⟩
 ·exact .inl ⟨by omega, by rw [h4]; simp⟩
 ·have hlz : lo * z ≤ hi * z := Nat.mul_le_mul_right _ hl
  have hnz : hi * z ≤ n * z := Nat.mul_le_mul_right _ hn
  have hlen : ((cs.take (hi * z)).drop (lo * z)).length = (hi - lo) * z := by rw [List.length_drop, List.length_take, h5, Nat.min_eq_left hnz, Nat.sub_mul]
  by_cases hcl : c = lo
  ·have : hi - lo = 0 := by omega
   refine .inl ⟨this, List.eq_nil_of_length_eq_zero (by rw [hlen, this]; simp)⟩
  ·refine .inr ⟨g, off + lo * z, cur, ty, lo', hi', ?_, h4, hlen, ?_⟩
   ·unfold Z9
    rw [if_neg hcl, h3]
    simp [XW]
   ·rw [List.map_drop, List.map_take, ← h6, List.take_take, Nat.min_eq_left hnz, List.drop_take, List.drop_drop, ← Nat.sub_mul]
theorem Wz {m : Im} {e z : Nat} {a : Option Addr} {n hi : Nat} (c : Nat) {cs : List C} (h : (Qf e z a n cs).p m) (hn : hi ≤ n) : (Qf e z (Z9 a 0 c z) hi (cs.take (hi * z))).p m := by
 obtain ⟨h1, h2⟩ := h
 refine ⟨fun x hx => h1 x (List.mem_of_mem_take hx), ?_⟩
 rcases h2 with ⟨h3, h4⟩ | ⟨g, off, cur, ty, lo', hi', h3, h4, h5, h6⟩
 ·exact .inl ⟨by omega, by rw [h4]; simp⟩
 ·have hnz : hi * z ≤ n * z := Nat.mul_le_mul_right _ hn
  refine .inr ⟨g, off, cur, ty, lo', hi', ?_, h4, by rw [List.length_take, h5, Nat.min_eq_left hnz], ?_⟩
  ·unfold Z9
   rw [h3]
   split
   ·rfl
   ·simp [XW]
  ·rw [List.map_take, ← h6, List.take_take, Nat.min_eq_left hnz]
structure Same (L L' : List Chunk) : Prop where
 f : Xy L' = Xy L
 ok : ∀ w, WV w L' ↔ WV w L
theorem FnS.same {P : Program} {f : FuncId} {args args' : List V} {L L' : List Chunk} {D : List Fact} {post post' : V → List Chunk → List Fact → Prop} (h : FnS P f args L D post) (ha : args'.map V.enc = args.map V.enc) (hL : Same L L')
  (hp : ∀ v L1 D1, post v L1 D1 → ∃ L2, Same L1 L2 ∧ post' v L2 D1) : FnS P f args' L' D post' := by
 refine ⟨h.en, fun w m hh => ?_⟩
 rw [ha]
 refine (h.run w m ⟨by rw [← hL.f]; exact hh.nd, (hL.ok w).1 hh.ok, fun b o hb => by rw [← hL.f]; exact hh.im b o hb, hh.d⟩).mono ?_
 rintro e w' ⟨v, L1, D1, m', he, hpost, h3, h4⟩
 obtain ⟨L2, hs, hp2⟩ := hp v L1 D1 hpost
 exact ⟨v, L2, D1, m', he, hp2, ⟨by rw [hs.f]; exact h3.nd, (hs.ok w').2 h3.ok, fun b o hb => by rw [hs.f]; exact h3.im b o hb, h3.d⟩,
  ⟨h4.size, fun b hb hn => h4.same b hb (by rw [← hL.f]; exact hn), fun b hb => by rw [hL.f]; exact h4.own b (by rw [← hs.f]; exact hb), h4.im, fun b o hb => by rw [hL.f]; exact h4.new b o hb, h4.kept⟩⟩
theorem Q7 {α : Type} {F : α → List C} {z : Nat} (hz : ∀ g, (F g).length = z) (l : List α) : (l.flatMap F).length = l.length * z := by
 induction l with
 | nil => simp
 | cons x r ih => rw [List.flatMap_cons, List.length_append, hz, ih, List.length_cons, Nat.add_mul]; omega
theorem QL {α : Type} {F : α → List C} {z : Nat} (hz : ∀ g, (F g).length = z) : ∀ {l : List α} {i : Nat} (h : i < l.length) {o k : Nat}, o + k ≤ z → ((l.flatMap F).drop (i * z + o)).take k = ((F l[i]).drop o).take k
 | x :: r, 0, _, o, k, hk => by
  rw [List.flatMap_cons, Nat.zero_mul, Nat.zero_add, List.drop_append_of_le_length (by rw [hz]; omega), List.take_append_of_le_length (by rw [List.length_drop, hz]; omega)]
  rfl
 | x :: r, i + 1, h, o, k, hk => by
  have ih := QL (F := F) hz (l := r) (i := i) (by simpa using h) hk
  rw [List.flatMap_cons, show (i + 1) * z + o = z + (i * z + o) by rw [Nat.add_mul]; omega, ← List.drop_drop, show (F x ++ r.flatMap F).drop z = r.flatMap F by rw [← hz x]; simp, ih]
  simp
theorem YU {α : Type} {F : α → List C} {z : Nat} (hz : ∀ g, (F g).length = z) (l : List α) (i : Nat) (h : i ≤ l.length) : (l.flatMap F).take (i * z) = (l.take i).flatMap F := by
 induction l generalizing i with
 | nil => simp
 | cons x r ih =>
  cases i with
  | zero => simp
  | succ i =>
   rw [List.flatMap_cons, show (i + 1) * z = z + i * z by rw [Nat.add_mul]; omega, List.take_add, show (F x ++ r.flatMap F).take z = F x by rw [← hz x]; simp, show (F x ++ r.flatMap F).drop z = r.flatMap F by rw [← hz x]; simp, ih i (by simpa using h)]
   simp
theorem PF {o : Nat} {ns a b : List C} (h : o + ns.length ≤ a.length) : QP o ns (a ++ b) = QP o ns a ++ b := by
 unfold QP
 rw [List.take_append_of_le_length (by omega), List.drop_append_of_le_length (by omega)]
 simp
theorem TA {o : Nat} {ns a b : List C} : QP (a.length + o) ns (a ++ b) = a ++ QP o ns b := by
 unfold QP
 rw [List.take_append, List.drop_append, List.take_of_length_le (by omega), List.drop_eq_nil_of_le (by omega)]
 simp [Nat.add_sub_cancel_left, show a.length + o + ns.length - a.length = o + ns.length by omega]
theorem Wo {α : Type} {F : α → List C} {z : Nat} (hF : ∀ x, (F x).length = z) : ∀ {l : List α} {j : Nat} (hj : j < l.length) {o : Nat} {ns : List C} {x' : α}, o + ns.length ≤ z → QP o ns (F l[j]) = F x' → QP (j * z + o) ns (l.flatMap F) = (l.set j x').flatMap F
 | [], j, hj, _, _, _, _, _ => by simp at hj
 | x :: r, 0, _, o, ns, x', ho, hx => by
  rw [Nat.zero_mul, Nat.zero_add, List.flatMap_cons, PF (by rw [hF]; exact ho)]
  show _ = (x' :: r).flatMap F
  rw [List.flatMap_cons, ← hx]
  rfl
 | x :: r, j + 1, hj, o, ns, x', ho, hx => by
  have ih := Wo hF (l := r) (j := j) (by simpa using hj) ho hx
  rw [List.flatMap_cons, show (j + 1) * z + o = (F x).length + (j * z + o) by rw [hF, Nat.succ_mul]; omega, TA, ih]
  rfl
theorem FnS.entsP {P : Program} {f : FuncId} {args : List V} {L : List Chunk} {D : List Fact} {post post' : V → List Chunk → List Fact → Prop} (h : FnS P f args L D post) (hp : ∀ v L1 D1, post v L1 D1 → ∃ L2 D2, Qb L1 D1 L2 D2 ∧ post' v L2 D2) : FnS P f args L D post' :=
 ⟨h.en, fun w m hh => (h.run w m hh).mono (by
  rintro e w' ⟨v, L1, D1, m', he, hpost, h3, h4⟩
  obtain ⟨L2, D2, hE, hp2⟩ := hp v L1 D1 hpost
  obtain ⟨m2, h5, h6⟩ := hE ⟨w, L, m⟩ w' ⟨m', h3, h4⟩
  exact ⟨v, L2, D2, m2, he, hp2, h5, h6⟩)⟩
theorem Kr {α : Type} {l : List α} (h : ¬ l = []) : 0 < l.length := List.length_pos_iff.2 h
end Go.X
namespace Go.Proofs
open Go Go.X
set_option maxRecDepth 100000
def Tryz.tyT : Ty := [
 (2, { d := .int .i64, size := 1, bytes := 8, zero := .c (.i .i64 0) }),
 (3, { d := .int .i64, size := 1, bytes := 8, zero := .c (.i .i64 0) }),
 (4, { d := .bool, size := 1, bytes := 1, zero := .c (.b false) }),
 (5, { d := .int .u8, size := 1, bytes := 1, zero := .c (.i .u8 0) }),
 (9, { d := .str, size := 1, bytes := 16, zero := .c (.s []) }),
 (12, { d := .int .u64, size := 1, bytes := 8, zero := .c (.i .u64 0) }),
 (21, { d := .int .i32, size := 1, bytes := 4, zero := .c (.i .i32 0) }),
 (22, { d := .sl 60, size := 1, bytes := 24, zero := .c (.sl none 0 0) }),
 (23, { d := .sl 122, size := 1, bytes := 24, zero := .c (.sl none 0 0) }),
 (24, { d := .sl 69, size := 1, bytes := 24, zero := .c (.sl none 0 0) }),
 (25, { d := .sl 103, size := 1, bytes := 24, zero := .c (.sl none 0 0) }),
 (26, { d := .st [(0, 3), (1, 3), (2, 22), (3, 22), (4, 23), (5, 3), (6, 24), (7, 25)], size := 8, bytes := 144, zero := .agg [.i .i64 0, .i .i64 0, .sl none 0 0, .sl none 0 0, .sl none 0 0, .i .i64 0, .sl none 0 0, .sl none 0 0] }),
 (27, { d := .st [(0, 3), (1, 3), (2, 22), (3, 22), (4, 23), (5, 3), (6, 24), (7, 25)], size := 8, bytes := 144, zero := .agg [.i .i64 0, .i .i64 0, .sl none 0 0, .sl none 0 0, .sl none 0 0, .i .i64 0, .sl none 0 0, .sl none 0 0] }),
 (28, { d := .sl 3, size := 1, bytes := 24, zero := .c (.sl none 0 0) }),
 (34, { d := .sl 64, size := 1, bytes := 24, zero := .c (.sl none 0 0) }),
 (38, { d := .ptr 109, size := 1, bytes := 8, zero := .c (.raw (.pointer none)) }),
 (44, { d := .st [(0, 3), (1, 9)], size := 2, bytes := 24, zero := .agg [.i .i64 0, .s []] }),
 (45, { d := .st [(0, 3), (1, 9)], size := 2, bytes := 24, zero := .agg [.i .i64 0, .s []] }),
 (46, { d := .sl 45, size := 1, bytes := 24, zero := .c (.sl none 0 0) }),
 (49, { d := .int .i64, size := 1, bytes := 8, zero := .c (.i .i64 0) }),
 (58, { d := .sl 73, size := 1, bytes := 24, zero := .c (.sl none 0 0) }),
 (59, { d := .st [(0, 45), (2, 58)], size := 3, bytes := 48, zero := .agg [.i .i64 0, .s [], .sl none 0 0] }),
 (60, { d := .st [(0, 45), (2, 58)], size := 3, bytes := 48, zero := .agg [.i .i64 0, .s [], .sl none 0 0] }),
 (63, { d := .st [(0, 3), (1, 9), (2, 9), (3, 45), (5, 45), (7, 9), (8, 3), (9, 58)], size := 10, bytes := 136, zero := .agg [.i .i64 0, .s [], .s [], .i .i64 0, .s [], .i .i64 0, .s [], .s [], .i .i64 0, .sl none 0 0] }),
 (64, { d := .st [(0, 3), (1, 9), (2, 9), (3, 45), (5, 45), (7, 9), (8, 3), (9, 58)], size := 10, bytes := 136, zero := .agg [.i .i64 0, .s [], .s [], .i .i64 0, .s [], .i .i64 0, .s [], .s [], .i .i64 0, .sl none 0 0] }),
 (68, { d := .st [(0, 9), (1, 45)], size := 3, bytes := 40, zero := .agg [.s [], .i .i64 0, .s []] }),
 (69, { d := .st [(0, 9), (1, 45)], size := 3, bytes := 40, zero := .agg [.s [], .i .i64 0, .s []] }),
 (72, { d := .st [(0, 3), (1, 9), (2, 9), (3, 9), (4, 3), (5, 3)], size := 6, bytes := 72, zero := .agg [.i .i64 0, .s [], .s [], .s [], .i .i64 0, .i .i64 0] }),
 (73, { d := .st [(0, 3), (1, 9), (2, 9), (3, 9), (4, 3), (5, 3)], size := 6, bytes := 72, zero := .agg [.i .i64 0, .s [], .s [], .s [], .i .i64 0, .i .i64 0] }),
 (80, { d := .arr 6 64, size := 60, bytes := 816, zero := .agg [.i .i64 0, .s [], .s [], .i .i64 0, .s [], .i .i64 0, .s [], .s [], .i .i64 0, .sl none 0 0, .i .i64 0, .s [], .s [], .i .i64 0, .s [], .i .i64 0, .s [], .s [], .i .i64 0, .sl none 0 0, .i .i64 0, .s [], .s [], .i .i64 0, .s [], .i .i64 0, .s [], .s [], .i .i64 0, .sl none 0 0, .i .i64 0, .s [], .s [], .i .i64 0, .s [], .i .i64 0, .s [], .s [], .i .i64 0, .sl none 0 0, .i .i64 0, .s [], .s [], .i .i64 0, .s [], .i .i64 0, .s [], .s [], .i .i64 0, .sl none 0 0, .i .i64 0, .s [], .s [], .i .i64 0, .s [], .i .i64 0, .s [], .s [], .i .i64 0, .sl none 0 0] }),
 (81, { d := .sl 163, size := 1, bytes := 24, zero := .c (.sl none 0 0) }),
 (82, { d := .sl 171, size := 1, bytes := 24, zero := .c (.sl none 0 0) }),
 (83, { d := .sl 175, size := 1, bytes := 24, zero := .c (.sl none 0 0) }),
 (84, { d := .st [(0, 81), (1, 82), (2, 83)], size := 3, bytes := 72, zero := .agg [.sl none 0 0, .sl none 0 0, .sl none 0 0] }),
 (85, { d := .st [(0, 81), (1, 82), (2, 83)], size := 3, bytes := 72, zero := .agg [.sl none 0 0, .sl none 0 0, .sl none 0 0] }),
 (90, { d := .sl 9, size := 1, bytes := 24, zero := .c (.sl none 0 0) }),
 (93, { d := .sl 5, size := 1, bytes := 24, zero := .c (.sl none 0 0) }),
 (101, { d := .arr 4 3, size := 4, bytes := 32, zero := .agg [.i .i64 0, .i .i64 0, .i .i64 0, .i .i64 0] }),
 (102, { d := .st [(0, 9), (1, 3)], size := 2, bytes := 24, zero := .agg [.s [], .i .i64 0] }),
 (103, { d := .st [(0, 9), (1, 3)], size := 2, bytes := 24, zero := .agg [.s [], .i .i64 0] }),
 (104, { d := .arr 2 9, size := 2, bytes := 32, zero := .agg [.s [], .s []] }),
 (107, { d := .int .u64, size := 1, bytes := 8, zero := .c (.i .u64 0) }),
 (108, { d := .st [(0, 28), (1, 3), (2, 107)], size := 3, bytes := 40, zero := .agg [.sl none 0 0, .i .i64 0, .i .u64 0] }),
 (109, { d := .st [(0, 28), (1, 3), (2, 107)], size := 3, bytes := 40, zero := .agg [.sl none 0 0, .i .i64 0, .i .u64 0] }),
 (110, { d := .int .u64, size := 1, bytes := 8, zero := .c (.i .u64 0) }),
 (117, { d := .ptr 119, size := 1, bytes := 8, zero := .c (.raw (.pointer none)) }),
 (118, { d := .st [(0, 27), (8, 3)], size := 9, bytes := 152, zero := .agg [.i .i64 0, .i .i64 0, .sl none 0 0, .sl none 0 0, .sl none 0 0, .i .i64 0, .sl none 0 0, .sl none 0 0, .i .i64 0] }),
 (119, { d := .st [(0, 27), (8, 3)], size := 9, bytes := 152, zero := .agg [.i .i64 0, .i .i64 0, .sl none 0 0, .sl none 0 0, .sl none 0 0, .i .i64 0, .sl none 0 0, .sl none 0 0, .i .i64 0] }),
 (121, { d := .st [(0, 3), (1, 9), (2, 9), (3, 45), (5, 3), (6, 9), (7, 3)], size := 8, bytes := 96, zero := .agg [.i .i64 0, .s [], .s [], .i .i64 0, .s [], .i .i64 0, .s [], .i .i64 0] }),
 (122, { d := .st [(0, 3), (1, 9), (2, 9), (3, 45), (5, 3), (6, 9), (7, 3)], size := 8, bytes := 96, zero := .agg [.i .i64 0, .s [], .s [], .i .i64 0, .s [], .i .i64 0, .s [], .i .i64 0] }),
 (129, { d := .arr 8 9, size := 8, bytes := 128, zero := .agg [.s [], .s [], .s [], .s [], .s [], .s [], .s [], .s []] }),
 (139, { d := .arr 5 9, size := 5, bytes := 80, zero := .agg [.s [], .s [], .s [], .s [], .s []] }),
 (140, { d := .arr 3 9, size := 3, bytes := 48, zero := .agg [.s [], .s [], .s []] }),
 (145, { d := .arr 14 3, size := 14, bytes := 112, zero := .agg [.i .i64 0, .i .i64 0, .i .i64 0, .i .i64 0, .i .i64 0, .i .i64 0, .i .i64 0, .i .i64 0, .i .i64 0, .i .i64 0, .i .i64 0, .i .i64 0, .i .i64 0, .i .i64 0] }),
 (148, { d := .sl 22, size := 1, bytes := 24, zero := .c (.sl none 0 0) }),
 (162, { d := .st [(0, 9), (1, 90)], size := 2, bytes := 40, zero := .agg [.s [], .sl none 0 0] }),
 (163, { d := .st [(0, 9), (1, 90)], size := 2, bytes := 40, zero := .agg [.s [], .sl none 0 0] }),
 (165, { d := .st [(0, 3), (1, 45)], size := 3, bytes := 32, zero := .agg [.i .i64 0, .i .i64 0, .s []] }),
 (166, { d := .st [(0, 3), (1, 45)], size := 3, bytes := 32, zero := .agg [.i .i64 0, .i .i64 0, .s []] }),
 (170, { d := .st [(0, 4), (1, 3), (2, 9), (3, 166)], size := 6, bytes := 64, zero := .agg [.b false, .i .i64 0, .s [], .i .i64 0, .i .i64 0, .s []] }),
 (171, { d := .st [(0, 4), (1, 3), (2, 9), (3, 166)], size := 6, bytes := 64, zero := .agg [.b false, .i .i64 0, .s [], .i .i64 0, .i .i64 0, .s []] }),
 (174, { d := .st [(0, 4), (1, 9), (2, 45), (4, 9)], size := 5, bytes := 64, zero := .agg [.b false, .s [], .i .i64 0, .s [], .s []] }),
 (175, { d := .st [(0, 4), (1, 9), (2, 45), (4, 9)], size := 5, bytes := 64, zero := .agg [.b false, .s [], .i .i64 0, .s [], .s []] }),
 (181, { d := .arr 28 9, size := 28, bytes := 448, zero := .agg [.s [], .s [], .s [], .s [], .s [], .s [], .s [], .s [], .s [], .s [], .s [], .s [], .s [], .s [], .s [], .s [], .s [], .s [], .s [], .s [], .s [], .s [], .s [], .s [], .s [], .s [], .s [], .s []] }),
 (186, { d := .ptr 85, size := 1, bytes := 8, zero := .c (.raw (.pointer none)) }),
 (188, { d := .int .i64, size := 1, bytes := 8, zero := .c (.i .i64 0) }),
 (196, { d := .int .u32, size := 1, bytes := 4, zero := .c (.i .u32 0) }),
 (199, { d := .st [(0, 4), (1, 4), (2, 4), (3, 4), (4, 4), (5, 4), (6, 4)], size := 7, bytes := 7, zero := .agg [.b false, .b false, .b false, .b false, .b false, .b false, .b false] }),
 (200, { d := .st [(0, 4), (1, 4), (2, 4), (3, 4), (4, 4), (5, 4), (6, 4)], size := 7, bytes := 7, zero := .agg [.b false, .b false, .b false, .b false, .b false, .b false, .b false] }),
 (219, { d := .arr 6 9, size := 6, bytes := 96, zero := .agg [.s [], .s [], .s [], .s [], .s [], .s []] }),
 (227, { d := .int .u64, size := 1, bytes := 8, zero := .c (.i .u64 0) }),
 (231, { d := .ptr 3, size := 1, bytes := 8, zero := .c (.raw (.pointer none)) }),
 (254, { d := .ptr 227, size := 1, bytes := 8, zero := .c (.raw (.pointer none)) }),
 (269, { d := .ptr 265, size := 1, bytes := 8, zero := .c (.raw (.pointer none)) }),
 (272, { d := .sl 274, size := 1, bytes := 24, zero := .c (.sl none 0 0) }),
 (273, { d := .st [(0, 3), (1, 3)], size := 2, bytes := 16, zero := .agg [.i .i64 0, .i .i64 0] }),
 (274, { d := .st [(0, 3), (1, 3)], size := 2, bytes := 16, zero := .agg [.i .i64 0, .i .i64 0] }),
 (284, { d := .st [(0, 5), (1, 5)], size := 2, bytes := 2, zero := .agg [.i .u8 0, .i .u8 0] }),
 (285, { d := .st [(0, 5), (1, 5)], size := 2, bytes := 2, zero := .agg [.i .u8 0, .i .u8 0] }),
 (286, { d := .arr 16 285, size := 32, bytes := 32, zero := .agg [.i .u8 0, .i .u8 0, .i .u8 0, .i .u8 0, .i .u8 0, .i .u8 0, .i .u8 0, .i .u8 0, .i .u8 0, .i .u8 0, .i .u8 0, .i .u8 0, .i .u8 0, .i .u8 0, .i .u8 0, .i .u8 0, .i .u8 0, .i .u8 0, .i .u8 0, .i .u8 0, .i .u8 0, .i .u8 0, .i .u8 0, .i .u8 0, .i .u8 0, .i .u8 0, .i .u8 0, .i .u8 0, .i .u8 0, .i .u8 0, .i .u8 0, .i .u8 0] }),
 (289, { d := .ptr 291, size := 1, bytes := 8, zero := .c (.raw (.pointer none)) }),
 (290, { d := .st [(0, 289), (1, 93)], size := 2, bytes := 32, zero := .agg [.raw (.pointer none), .sl none 0 0] }),
 (291, { d := .st [(0, 289), (1, 93)], size := 2, bytes := 32, zero := .agg [.raw (.pointer none), .sl none 0 0] }),
 (299, { d := .ptr 5, size := 1, bytes := 8, zero := .c (.raw (.pointer none)) })]
theorem Xr {a b c d : Prop} (h3 : c) (h1 : a := by kernel_rfl) (h2 : b := by kernel_rfl) (h4 : d := by first | (show Program.underlying _ _ = _; kernel_rfl) | exact ⟨by kernel_rfl, by kernel_rfl, by kernel_rfl, by kernel_rfl, by kernel_rfl⟩ | trivial) : a ∧ b ∧ c ∧ d := ⟨h1, h2, h3, h4⟩
theorem tyok2 : Zy.ok Tryz.prog 2 { d := .int .i64, size := 1, bytes := 8, zero := .c (.i .i64 0) } := Xr (.inr rfl)
theorem tyok3 : Zy.ok Tryz.prog 3 { d := .int .i64, size := 1, bytes := 8, zero := .c (.i .i64 0) } := Xr (.inr rfl)
theorem tyok4 : Zy.ok Tryz.prog 4 { d := .bool, size := 1, bytes := 1, zero := .c (.b false) } := Xr (.inr rfl)
theorem tyok5 : Zy.ok Tryz.prog 5 { d := .int .u8, size := 1, bytes := 1, zero := .c (.i .u8 0) } := Xr (.inr rfl)
theorem tyok9 : Zy.ok Tryz.prog 9 { d := .str, size := 1, bytes := 16, zero := .c (.s []) } := Xr (.inr rfl)
theorem tyok12 : Zy.ok Tryz.prog 12 { d := .int .u64, size := 1, bytes := 8, zero := .c (.i .u64 0) } := Xr (.inr rfl)
theorem tyok21 : Zy.ok Tryz.prog 21 { d := .int .i32, size := 1, bytes := 4, zero := .c (.i .i32 0) } := Xr (.inr rfl)
theorem tyok22 : Zy.ok Tryz.prog 22 { d := .sl 60, size := 1, bytes := 24, zero := .c (.sl none 0 0) } := Xr (.inr rfl)
theorem tyok23 : Zy.ok Tryz.prog 23 { d := .sl 122, size := 1, bytes := 24, zero := .c (.sl none 0 0) } := Xr (.inr rfl)
theorem tyok24 : Zy.ok Tryz.prog 24 { d := .sl 69, size := 1, bytes := 24, zero := .c (.sl none 0 0) } := Xr (.inr rfl)
theorem tyok25 : Zy.ok Tryz.prog 25 { d := .sl 103, size := 1, bytes := 24, zero := .c (.sl none 0 0) } := Xr (.inr rfl)
theorem tyok26 : Zy.ok Tryz.prog 26 { d := .st [(0, 3), (1, 3), (2, 22), (3, 22), (4, 23), (5, 3), (6, 24), (7, 25)], size := 8, bytes := 144, zero := .agg [.i .i64 0, .i .i64 0, .sl none 0 0, .sl none 0 0, .sl none 0 0, .i .i64 0, .sl none 0 0, .sl none 0 0] } := Xr (.inl rfl)
theorem tyok27 : Zy.ok Tryz.prog 27 { d := .st [(0, 3), (1, 3), (2, 22), (3, 22), (4, 23), (5, 3), (6, 24), (7, 25)], size := 8, bytes := 144, zero := .agg [.i .i64 0, .i .i64 0, .sl none 0 0, .sl none 0 0, .sl none 0 0, .i .i64 0, .sl none 0 0, .sl none 0 0] } := Xr (.inl rfl)
theorem tyok28 : Zy.ok Tryz.prog 28 { d := .sl 3, size := 1, bytes := 24, zero := .c (.sl none 0 0) } := Xr (.inr rfl)
theorem tyok34 : Zy.ok Tryz.prog 34 { d := .sl 64, size := 1, bytes := 24, zero := .c (.sl none 0 0) } := Xr (.inr rfl)
theorem tyok38 : Zy.ok Tryz.prog 38 { d := .ptr 109, size := 1, bytes := 8, zero := .c (.raw (.pointer none)) } := Xr (.inr rfl)
theorem tyok44 : Zy.ok Tryz.prog 44 { d := .st [(0, 3), (1, 9)], size := 2, bytes := 24, zero := .agg [.i .i64 0, .s []] } := Xr (.inl rfl)
theorem tyok45 : Zy.ok Tryz.prog 45 { d := .st [(0, 3), (1, 9)], size := 2, bytes := 24, zero := .agg [.i .i64 0, .s []] } := Xr (.inl rfl)
theorem tyok46 : Zy.ok Tryz.prog 46 { d := .sl 45, size := 1, bytes := 24, zero := .c (.sl none 0 0) } := Xr (.inr rfl)
theorem tyok49 : Zy.ok Tryz.prog 49 { d := .int .i64, size := 1, bytes := 8, zero := .c (.i .i64 0) } := Xr (.inr rfl)
theorem tyok58 : Zy.ok Tryz.prog 58 { d := .sl 73, size := 1, bytes := 24, zero := .c (.sl none 0 0) } := Xr (.inr rfl)
theorem tyok59 : Zy.ok Tryz.prog 59 { d := .st [(0, 45), (2, 58)], size := 3, bytes := 48, zero := .agg [.i .i64 0, .s [], .sl none 0 0] } := Xr (.inl rfl)
theorem tyok60 : Zy.ok Tryz.prog 60 { d := .st [(0, 45), (2, 58)], size := 3, bytes := 48, zero := .agg [.i .i64 0, .s [], .sl none 0 0] } := Xr (.inl rfl)
theorem tyok63 : Zy.ok Tryz.prog 63 { d := .st [(0, 3), (1, 9), (2, 9), (3, 45), (5, 45), (7, 9), (8, 3), (9, 58)], size := 10, bytes := 136, zero := .agg [.i .i64 0, .s [], .s [], .i .i64 0, .s [], .i .i64 0, .s [], .s [], .i .i64 0, .sl none 0 0] } := Xr (.inl rfl)
theorem tyok64 : Zy.ok Tryz.prog 64 { d := .st [(0, 3), (1, 9), (2, 9), (3, 45), (5, 45), (7, 9), (8, 3), (9, 58)], size := 10, bytes := 136, zero := .agg [.i .i64 0, .s [], .s [], .i .i64 0, .s [], .i .i64 0, .s [], .s [], .i .i64 0, .sl none 0 0] } := Xr (.inl rfl)
theorem tyok68 : Zy.ok Tryz.prog 68 { d := .st [(0, 9), (1, 45)], size := 3, bytes := 40, zero := .agg [.s [], .i .i64 0, .s []] } := Xr (.inl rfl)
theorem tyok69 : Zy.ok Tryz.prog 69 { d := .st [(0, 9), (1, 45)], size := 3, bytes := 40, zero := .agg [.s [], .i .i64 0, .s []] } := Xr (.inl rfl)
theorem tyok72 : Zy.ok Tryz.prog 72 { d := .st [(0, 3), (1, 9), (2, 9), (3, 9), (4, 3), (5, 3)], size := 6, bytes := 72, zero := .agg [.i .i64 0, .s [], .s [], .s [], .i .i64 0, .i .i64 0] } := Xr (.inl rfl)
theorem tyok73 : Zy.ok Tryz.prog 73 { d := .st [(0, 3), (1, 9), (2, 9), (3, 9), (4, 3), (5, 3)], size := 6, bytes := 72, zero := .agg [.i .i64 0, .s [], .s [], .s [], .i .i64 0, .i .i64 0] } := Xr (.inl rfl)
theorem tyok80 : Zy.ok Tryz.prog 80 { d := .arr 6 64, size := 60, bytes := 816, zero := .agg [.i .i64 0, .s [], .s [], .i .i64 0, .s [], .i .i64 0, .s [], .s [], .i .i64 0, .sl none 0 0, .i .i64 0, .s [], .s [], .i .i64 0, .s [], .i .i64 0, .s [], .s [], .i .i64 0, .sl none 0 0, .i .i64 0, .s [], .s [], .i .i64 0, .s [], .i .i64 0, .s [], .s [], .i .i64 0, .sl none 0 0, .i .i64 0, .s [], .s [], .i .i64 0, .s [], .i .i64 0, .s [], .s [], .i .i64 0, .sl none 0 0, .i .i64 0, .s [], .s [], .i .i64 0, .s [], .i .i64 0, .s [], .s [], .i .i64 0, .sl none 0 0, .i .i64 0, .s [], .s [], .i .i64 0, .s [], .i .i64 0, .s [], .s [], .i .i64 0, .sl none 0 0] } := Xr (.inl rfl)
theorem tyok81 : Zy.ok Tryz.prog 81 { d := .sl 163, size := 1, bytes := 24, zero := .c (.sl none 0 0) } := Xr (.inr rfl)
theorem tyok82 : Zy.ok Tryz.prog 82 { d := .sl 171, size := 1, bytes := 24, zero := .c (.sl none 0 0) } := Xr (.inr rfl)
theorem tyok83 : Zy.ok Tryz.prog 83 { d := .sl 175, size := 1, bytes := 24, zero := .c (.sl none 0 0) } := Xr (.inr rfl)
theorem tyok84 : Zy.ok Tryz.prog 84 { d := .st [(0, 81), (1, 82), (2, 83)], size := 3, bytes := 72, zero := .agg [.sl none 0 0, .sl none 0 0, .sl none 0 0] } := Xr (.inl rfl)
theorem tyok85 : Zy.ok Tryz.prog 85 { d := .st [(0, 81), (1, 82), (2, 83)], size := 3, bytes := 72, zero := .agg [.sl none 0 0, .sl none 0 0, .sl none 0 0] } := Xr (.inl rfl)
theorem tyok90 : Zy.ok Tryz.prog 90 { d := .sl 9, size := 1, bytes := 24, zero := .c (.sl none 0 0) } := Xr (.inr rfl)
theorem tyok93 : Zy.ok Tryz.prog 93 { d := .sl 5, size := 1, bytes := 24, zero := .c (.sl none 0 0) } := Xr (.inr rfl)
theorem Lq : Zy.ok Tryz.prog 101 { d := .arr 4 3, size := 4, bytes := 32, zero := .agg [.i .i64 0, .i .i64 0, .i .i64 0, .i .i64 0] } := Xr (.inl rfl)
theorem Lp : Zy.ok Tryz.prog 102 { d := .st [(0, 9), (1, 3)], size := 2, bytes := 24, zero := .agg [.s [], .i .i64 0] } := Xr (.inl rfl)
theorem Lo : Zy.ok Tryz.prog 103 { d := .st [(0, 9), (1, 3)], size := 2, bytes := 24, zero := .agg [.s [], .i .i64 0] } := Xr (.inl rfl)
theorem Ln : Zy.ok Tryz.prog 104 { d := .arr 2 9, size := 2, bytes := 32, zero := .agg [.s [], .s []] } := Xr (.inl rfl)
theorem Lm : Zy.ok Tryz.prog 107 { d := .int .u64, size := 1, bytes := 8, zero := .c (.i .u64 0) } := Xr (.inr rfl)
theorem Ll : Zy.ok Tryz.prog 108 { d := .st [(0, 28), (1, 3), (2, 107)], size := 3, bytes := 40, zero := .agg [.sl none 0 0, .i .i64 0, .i .u64 0] } := Xr (.inl rfl)
theorem Lk : Zy.ok Tryz.prog 109 { d := .st [(0, 28), (1, 3), (2, 107)], size := 3, bytes := 40, zero := .agg [.sl none 0 0, .i .i64 0, .i .u64 0] } := Xr (.inl rfl)
theorem Lj : Zy.ok Tryz.prog 110 { d := .int .u64, size := 1, bytes := 8, zero := .c (.i .u64 0) } := Xr (.inr rfl)
theorem Li : Zy.ok Tryz.prog 117 { d := .ptr 119, size := 1, bytes := 8, zero := .c (.raw (.pointer none)) } := Xr (.inr rfl)
theorem Lh : Zy.ok Tryz.prog 118 { d := .st [(0, 27), (8, 3)], size := 9, bytes := 152, zero := .agg [.i .i64 0, .i .i64 0, .sl none 0 0, .sl none 0 0, .sl none 0 0, .i .i64 0, .sl none 0 0, .sl none 0 0, .i .i64 0] } := Xr (.inl rfl)
theorem Lg : Zy.ok Tryz.prog 119 { d := .st [(0, 27), (8, 3)], size := 9, bytes := 152, zero := .agg [.i .i64 0, .i .i64 0, .sl none 0 0, .sl none 0 0, .sl none 0 0, .i .i64 0, .sl none 0 0, .sl none 0 0, .i .i64 0] } := Xr (.inl rfl)
theorem Lf : Zy.ok Tryz.prog 121 { d := .st [(0, 3), (1, 9), (2, 9), (3, 45), (5, 3), (6, 9), (7, 3)], size := 8, bytes := 96, zero := .agg [.i .i64 0, .s [], .s [], .i .i64 0, .s [], .i .i64 0, .s [], .i .i64 0] } := Xr (.inl rfl)
theorem Le : Zy.ok Tryz.prog 122 { d := .st [(0, 3), (1, 9), (2, 9), (3, 45), (5, 3), (6, 9), (7, 3)], size := 8, bytes := 96, zero := .agg [.i .i64 0, .s [], .s [], .i .i64 0, .s [], .i .i64 0, .s [], .i .i64 0] } := Xr (.inl rfl)
theorem Ld : Zy.ok Tryz.prog 129 { d := .arr 8 9, size := 8, bytes := 128, zero := .agg [.s [], .s [], .s [], .s [], .s [], .s [], .s [], .s []] } := Xr (.inl rfl)
theorem Lb : Zy.ok Tryz.prog 139 { d := .arr 5 9, size := 5, bytes := 80, zero := .agg [.s [], .s [], .s [], .s [], .s []] } := Xr (.inl rfl)
theorem La : Zy.ok Tryz.prog 140 { d := .arr 3 9, size := 3, bytes := 48, zero := .agg [.s [], .s [], .s []] } := Xr (.inl rfl)
theorem E9 : Zy.ok Tryz.prog 145 { d := .arr 14 3, size := 14, bytes := 112, zero := .agg [.i .i64 0, .i .i64 0, .i .i64 0, .i .i64 0, .i .i64 0, .i .i64 0, .i .i64 0, .i .i64 0, .i .i64 0, .i .i64 0, .i .i64 0, .i .i64 0, .i .i64 0, .i .i64 0] } := Xr (.inl rfl)
theorem E8 : Zy.ok Tryz.prog 148 { d := .sl 22, size := 1, bytes := 24, zero := .c (.sl none 0 0) } := Xr (.inr rfl)
theorem E7 : Zy.ok Tryz.prog 162 { d := .st [(0, 9), (1, 90)], size := 2, bytes := 40, zero := .agg [.s [], .sl none 0 0] } := Xr (.inl rfl)
theorem E6 : Zy.ok Tryz.prog 163 { d := .st [(0, 9), (1, 90)], size := 2, bytes := 40, zero := .agg [.s [], .sl none 0 0] } := Xr (.inl rfl)
theorem E5 : Zy.ok Tryz.prog 165 { d := .st [(0, 3), (1, 45)], size := 3, bytes := 32, zero := .agg [.i .i64 0, .i .i64 0, .s []] } := Xr (.inl rfl)
theorem E4 : Zy.ok Tryz.prog 166 { d := .st [(0, 3), (1, 45)], size := 3, bytes := 32, zero := .agg [.i .i64 0, .i .i64 0, .s []] } := Xr (.inl rfl)
theorem E3 : Zy.ok Tryz.prog 170 { d := .st [(0, 4), (1, 3), (2, 9), (3, 166)], size := 6, bytes := 64, zero := .agg [.b false, .i .i64 0, .s [], .i .i64 0, .i .i64 0, .s []] } := Xr (.inl rfl)
theorem E2 : Zy.ok Tryz.prog 171 { d := .st [(0, 4), (1, 3), (2, 9), (3, 166)], size := 6, bytes := 64, zero := .agg [.b false, .i .i64 0, .s [], .i .i64 0, .i .i64 0, .s []] } := Xr (.inl rfl)
theorem E1 : Zy.ok Tryz.prog 174 { d := .st [(0, 4), (1, 9), (2, 45), (4, 9)], size := 5, bytes := 64, zero := .agg [.b false, .s [], .i .i64 0, .s [], .s []] } := Xr (.inl rfl)
theorem E0 : Zy.ok Tryz.prog 175 { d := .st [(0, 4), (1, 9), (2, 45), (4, 9)], size := 5, bytes := 64, zero := .agg [.b false, .s [], .i .i64 0, .s [], .s []] } := Xr (.inl rfl)
theorem EZ : Zy.ok Tryz.prog 181 { d := .arr 28 9, size := 28, bytes := 448, zero := .agg [.s [], .s [], .s [], .s [], .s [], .s [], .s [], .s [], .s [], .s [], .s [], .s [], .s [], .s [], .s [], .s [], .s [], .s [], .s [], .s [], .s [], .s [], .s [], .s [], .s [], .s [], .s [], .s []] } := Xr (.inl rfl)
theorem EY : Zy.ok Tryz.prog 186 { d := .ptr 85, size := 1, bytes := 8, zero := .c (.raw (.pointer none)) } := Xr (.inr rfl)
theorem EX : Zy.ok Tryz.prog 188 { d := .int .i64, size := 1, bytes := 8, zero := .c (.i .i64 0) } := Xr (.inr rfl)
theorem EW : Zy.ok Tryz.prog 196 { d := .int .u32, size := 1, bytes := 4, zero := .c (.i .u32 0) } := Xr (.inr rfl)
theorem EV : Zy.ok Tryz.prog 199 { d := .st [(0, 4), (1, 4), (2, 4), (3, 4), (4, 4), (5, 4), (6, 4)], size := 7, bytes := 7, zero := .agg [.b false, .b false, .b false, .b false, .b false, .b false, .b false] } := Xr (.inl rfl)
theorem EU : Zy.ok Tryz.prog 200 { d := .st [(0, 4), (1, 4), (2, 4), (3, 4), (4, 4), (5, 4), (6, 4)], size := 7, bytes := 7, zero := .agg [.b false, .b false, .b false, .b false, .b false, .b false, .b false] } := Xr (.inl rfl)
theorem ET : Zy.ok Tryz.prog 219 { d := .arr 6 9, size := 6, bytes := 96, zero := .agg [.s [], .s [], .s [], .s [], .s [], .s []] } := Xr (.inl rfl)
theorem ES : Zy.ok Tryz.prog 227 { d := .int .u64, size := 1, bytes := 8, zero := .c (.i .u64 0) } := Xr (.inr rfl)
theorem ER : Zy.ok Tryz.prog 231 { d := .ptr 3, size := 1, bytes := 8, zero := .c (.raw (.pointer none)) } := Xr (.inr rfl)
theorem EQ : Zy.ok Tryz.prog 254 { d := .ptr 227, size := 1, bytes := 8, zero := .c (.raw (.pointer none)) } := Xr (.inr rfl)
theorem EP : Zy.ok Tryz.prog 269 { d := .ptr 265, size := 1, bytes := 8, zero := .c (.raw (.pointer none)) } := Xr (.inr rfl)
theorem EO : Zy.ok Tryz.prog 272 { d := .sl 274, size := 1, bytes := 24, zero := .c (.sl none 0 0) } := Xr (.inr rfl)
theorem EN : Zy.ok Tryz.prog 273 { d := .st [(0, 3), (1, 3)], size := 2, bytes := 16, zero := .agg [.i .i64 0, .i .i64 0] } := Xr (.inl rfl)
theorem EM : Zy.ok Tryz.prog 274 { d := .st [(0, 3), (1, 3)], size := 2, bytes := 16, zero := .agg [.i .i64 0, .i .i64 0] } := Xr (.inl rfl)
theorem EL : Zy.ok Tryz.prog 284 { d := .st [(0, 5), (1, 5)], size := 2, bytes := 2, zero := .agg [.i .u8 0, .i .u8 0] } := Xr (.inl rfl)
theorem EK : Zy.ok Tryz.prog 285 { d := .st [(0, 5), (1, 5)], size := 2, bytes := 2, zero := .agg [.i .u8 0, .i .u8 0] } := Xr (.inl rfl)
theorem EJ : Zy.ok Tryz.prog 286 { d := .arr 16 285, size := 32, bytes := 32, zero := .agg [.i .u8 0, .i .u8 0, .i .u8 0, .i .u8 0, .i .u8 0, .i .u8 0, .i .u8 0, .i .u8 0, .i .u8 0, .i .u8 0, .i .u8 0, .i .u8 0, .i .u8 0, .i .u8 0, .i .u8 0, .i .u8 0, .i .u8 0, .i .u8 0, .i .u8 0, .i .u8 0, .i .u8 0, .i .u8 0, .i .u8 0, .i .u8 0, .i .u8 0, .i .u8 0, .i .u8 0, .i .u8 0, .i .u8 0, .i .u8 0, .i .u8 0, .i .u8 0] } := Xr (.inl rfl)
theorem EI : Zy.ok Tryz.prog 289 { d := .ptr 291, size := 1, bytes := 8, zero := .c (.raw (.pointer none)) } := Xr (.inr rfl)
theorem EH : Zy.ok Tryz.prog 290 { d := .st [(0, 289), (1, 93)], size := 2, bytes := 32, zero := .agg [.raw (.pointer none), .sl none 0 0] } := Xr (.inl rfl)
theorem EG : Zy.ok Tryz.prog 291 { d := .st [(0, 289), (1, 93)], size := 2, bytes := 32, zero := .agg [.raw (.pointer none), .sl none 0 0] } := Xr (.inl rfl)
theorem EF : Zy.ok Tryz.prog 299 { d := .ptr 5, size := 1, bytes := 8, zero := .c (.raw (.pointer none)) } := Xr (.inr rfl)
theorem Tryz.tyOK : Z4 Tryz.prog Tryz.tyT := jV ⟨tyok2, tyok3, tyok4, tyok5, tyok9, tyok12, tyok21, tyok22, tyok23, tyok24, tyok25, tyok26, tyok27, tyok28, tyok34, tyok38, tyok44, tyok45, tyok46, tyok49, tyok58, tyok59, tyok60, tyok63, tyok64, tyok68, tyok69, tyok72, tyok73, tyok80, tyok81, tyok82, tyok83, tyok84, tyok85, tyok90, tyok93, Lq, Lp, Lo, Ln, Lm, Ll, Lk, Lj, Li, Lh, Lg, Lf, Le, Ld, Lb, La, E9, E8, E7, E6, E5, E4, E3, E2, E1, E0, EZ, EY, EX, EW, EV, EU, ET, ES, ER, EQ, EP, EO, EN, EM, EL, EK, EJ, EI, EH, EG, EF, trivial⟩
end Go.Proofs
namespace Go.X
open Go
section
variable [Sm : Inhabited Jh]
theorem Qb.a {L L0 : List Chunk} {D D0 : List Fact} (h : L0.Sublist L := by repeat (first | exact List.Sublist.slnil | refine List.Sublist.cons_cons _ ?_ | refine List.Sublist.cons _ ?_)) (hd : ∀ m, QI m D → QI m D0 := by first | exact fun _ h => h | exact fun _ _ => trivial | exact fun _ h => h.2 | exact fun _ h => h.2.2.2.2 | exact fun _ h => h.2.2 | exact fun _ h => h.2.2.2 | exact fun _ h => h.2.2.2.2.2 | exact fun _ h => h.2.2.2.2.2.2 | exact fun _ h => h.2.2.2.2.2.2.2 | exact fun _ h => h.2.2.2.2.2.2.2.2 | exact fun _ h => h.2.2.2.2.2.2.2.2.2 | exact fun _ h => h.2.2.2.2.2.2.2.2.2.2 | exact fun _ h => ((Qs _ _).1 h).2) : Qb L D L0 D0 := Qb.ofSub h hd
theorem Qh.a {env env' : XR} (h : Qh env env' := by repeat' first | exact Qh.nil | refine Qh.cons rfl ?_ ?_ | exact ZB.refl _ | refine ZB.int (by omega) | refine ZB.sl rfl (by first | rfl | omega | (rw [List.length_append]; rfl) | (simp; omega)) rfl) : Qh env env' := h
end
theorem QX {D : List Fact} : ∀ m, QI m D → QI m [] := fun _ _ => trivial
theorem Kh {F : Fact} {D : List Fact} : ∀ m, QI m (F :: D) → QI m [F] := fun _ h => ⟨h.1, trivial⟩
theorem vt {E F : Fact} {D : List Fact} : ∀ m, QI m (E :: F :: D) → QI m [F] := fun _ h => ⟨h.2.1, trivial⟩
theorem Qb.z {L : List Chunk} {D : List Fact} : Qb L D [] [] := Qb.dropAll.trans (Qb.facts fun _ _ => trivial)
theorem QW {L : List Chunk} : L.Perm L := List.Perm.refl _
theorem Qi.a {L : List Chunk} {D : List Fact} {a : Option Addr} {esz : Nat} {ix : Int} {off sz : Nat} {K : List C → Prop} (ety n : Nat) (cs r : List C) (h : Qp L D ety esz a n cs) (hr : (cs.drop (ix.toNat * esz + off)).take sz = r) (k : K r) (h0 : 0 ≤ ix := by omega) (h1 : ix < n := by omega) (h2 : off + sz ≤ esz := by first | omega | decide) : Qi L D a esz ix off sz K := .mk ety n cs r h h0 h1 h2 hr k
theorem Qr.a {L : List Chunk} {D : List Fact} {a : Option Addr} {n : Nat} {ix : Int} {K : Prop} (ety esz : Nat) (cs : List C) (h : Qp L D ety esz a n cs) (k : K) (h0 : 0 ≤ ix := by omega) (h1 : ix < n := by omega) : Qr L D a n ix K := .mk ety esz cs h h0 h1 k
theorem QT {α : Type} {a : α} {l : List α} : a ∈ a :: l := (.head _)
theorem ZR {α : Type} {a x0 : α} {l : List α} : a ∈ x0 :: a :: l := (.tail _ (.head _))
theorem XQ {α : Type} {a x0 x1 : α} {l : List α} : a ∈ x0 :: x1 :: a :: l := (.tail _ (.tail _ (.head _)))
theorem X8 {α : Type} {a x0 x1 x2 : α} {l : List α} : a ∈ x0 :: x1 :: x2 :: a :: l := (.tail _ (.tail _ (.tail _ (.head _))))
theorem Mm4 {α : Type} {a x0 x1 x2 x3 : α} {l : List α} : a ∈ x0 :: x1 :: x2 :: x3 :: a :: l := (.tail _ (.tail _ (.tail _ (.tail _ (.head _)))))
theorem Mm5 {α : Type} {a x0 x1 x2 x3 x4 : α} {l : List α} : a ∈ x0 :: x1 :: x2 :: x3 :: x4 :: a :: l := (.tail _ (.tail _ (.tail _ (.tail _ (.tail _ (.head _))))))
theorem Mm6 {α : Type} {a x0 x1 x2 x3 x4 x5 : α} {l : List α} : a ∈ x0 :: x1 :: x2 :: x3 :: x4 :: x5 :: a :: l := (.tail _ (.tail _ (.tail _ (.tail _ (.tail _ (.tail _ (.head _)))))))
theorem Mm7 {α : Type} {a x0 x1 x2 x3 x4 x5 x6 : α} {l : List α} : a ∈ x0 :: x1 :: x2 :: x3 :: x4 :: x5 :: x6 :: a :: l := (.tail _ (.tail _ (.tail _ (.tail _ (.tail _ (.tail _ (.tail _ (.head _))))))))
theorem Mm8 {α : Type} {a x0 x1 x2 x3 x4 x5 x6 x7 : α} {l : List α} : a ∈ x0 :: x1 :: x2 :: x3 :: x4 :: x5 :: x6 :: x7 :: a :: l := (.tail _ (.tail _ (.tail _ (.tail _ (.tail _ (.tail _ (.tail _ (.tail _ (.head _)))))))))
theorem Mm9 {α : Type} {a x0 x1 x2 x3 x4 x5 x6 x7 x8 : α} {l : List α} : a ∈ x0 :: x1 :: x2 :: x3 :: x4 :: x5 :: x6 :: x7 :: x8 :: a :: l := (.tail _ (.tail _ (.tail _ (.tail _ (.tail _ (.tail _ (.tail _ (.tail _ (.tail _ (.head _))))))))))
end Go.X
namespace Go.Proofs
open Go Go.X
theorem Wk {p q : Prop} (k : q) (h : q → p := by first | exact Yk | exact Es Tryz.tyOK | exact NC | exact J_cond | exact J_ret | exact J_skip | exact J_exit | exact Ny | exact Qa.yes (by omega) | exact Qa.no (by omega) | exact EqP.mk rfl | exact fun k => Gt.exact (by simp only [jl]; omega) k | exact fun k => Xq.mk (by first | omega | (dsimp only; omega) | (simp; omega)) k) : p := h k
theorem FJ {f : FuncId} {fn : Func} {args : List V} {L : List Chunk} {D : List Fact} {post : V → List Chunk → List Fact → Prop} {N : Nat} (nid : Nat) (hf : Tryz.prog.funcs[f]? = some fn) (hN : fn.ntmps = N)
  (h : ∀ G, J Tryz.prog G N (fn.body.getD .skip) (zW 0 args) L D nid (Kt.fin Tryz.tyT fn.results.toList post)) (hnm : (fn.name == "runtime.NumGoroutine") = false := by kernel_rfl) (hb : fn.body = some (fn.body.getD .skip) := by kernel_rfl) (hlen : args.length ≤ N := by simp) : FnS Tryz.prog f args L D post := Nl Tryz.tyOK nid hf hnm hb hN rfl hlen h
theorem Ds {G : Js} {N : Nat} {env : XR} {id : Nat} {ops : List Oper} {L : List Chunk} {D : List Fact} {nid : Nat} {K : Kt} (Am r eff slots : List Nat) (b : Bool)
  (h : jj Tryz.prog Tryz.tyT N ops eff ops.length (Ki b (KB env slots) L) D r env L D nid (K .normal)) (hm : Tryz.prog.follows .mixedOrders = true := by kernel_rfl) (hB : okM Am ops.toArray (fun i => eff.contains i) r = true := by kernel_rfl) : J Tryz.prog G N (.region id ops.toArray true) env L D nid K := NA Tryz.tyOK hm Am r eff slots b hB h
theorem Dz {G : Js} {N : Nat} {env : XR} {id : Nat} {ops : List Oper} {L : List Chunk} {D : List Fact} {nid : Nat} {K : Kt} (Am r eff slots : List Nat) (z : Nat) (b : Bool)
  (h : jj Tryz.prog Tryz.tyT N ops eff z (Ki b (KB env slots) L) D r env L D nid (K .normal)) (hm : Tryz.prog.follows .mixedOrders = true := by kernel_rfl) (hB : (okM Am ops.toArray (fun i => eff.contains i) r && SK Am z r) = true := by kernel_rfl) : J Tryz.prog G N (.region id ops.toArray true) env L D nid K := Nz Tryz.tyOK hm Am r eff slots z b hB h
end Go.Proofs
namespace Go.Proofs
open Go.Shelf
def Tryz.lays156_ren : Go.Shelf.Ren := ⟨fun | 156 => 296 | 165 => 301 | 166 => 302 | 169 => 303 | 240 => 305 | 241 => 306 | 276 => 307 | 277 => 308 | n => n, fun | 31 => 90 | 9 => 9 | 3 => 3 | 4 => 4 | 0 => 0 | 20 => 20 | 72 => 291 | 76 => 295 | 70 => 289 | 37 => 93 | 75 => 294 | 127 => 299 | 164 => 300 | 5 => 5 | 80 => 297 | n => n, fun | n => n⟩
theorem Tryz.lays156 : Go.Proofs.Lays.n156 Tryz.prog Tryz.lays156_ren := {
 mixed := by kernel_rfl
 f156 := Tryz.func296.trans (congrArg some (by kernel_rfl))
 f165 := Tryz.func301.trans (congrArg some (by kernel_rfl))
 f166 := Tryz.func302.trans (congrArg some (by kernel_rfl))
 f169 := Tryz.func303.trans (congrArg some (by kernel_rfl))
 f240 := Tryz.func305.trans (congrArg some (by kernel_rfl))
 f241 := Tryz.func306.trans (congrArg some (by kernel_rfl))
 f276 := Tryz.func307.trans (congrArg some (by kernel_rfl))
 f277 := Tryz.func308.trans (congrArg some (by kernel_rfl))
 t0 := Tryz.underlying0
 a0 := Tryz.isAgg0
 z0 := Tryz.sizeOf0
 v0 := Tryz.zeroValue0
 t3 := Tryz.underlying3
 a3 := Tryz.isAgg3
 z3 := Tryz.sizeOf3
 v3 := Tryz.zeroValue3
 t4 := Tryz.underlying4
 a4 := Tryz.isAgg4
 z4 := Tryz.sizeOf4
 v4 := Tryz.zeroValue4
 t9 := Tryz.underlying9
 a9 := Tryz.isAgg9
 z9 := Tryz.sizeOf9
 v9 := Tryz.zeroValue9
 t20 := Tryz.underlying20
 a20 := Tryz.isAgg20
 z20 := Tryz.sizeOf20
 v20 := Tryz.zeroValue20
 t31 := Tryz.underlying90
 a31 := Tryz.isAgg90
 z31 := Tryz.sizeOf90
 v31 := Tryz.zeroValue90
 t37 := Tryz.underlying93
 a37 := Tryz.isAgg93
 z37 := Tryz.sizeOf93
 v37 := Tryz.zeroValue93
 t70 := Tryz.underlying289
 a70 := Tryz.isAgg289
 z70 := Tryz.sizeOf289
 v70 := Tryz.zeroValue289
 t72 := Tryz.underlying291
 a72 := Tryz.isAgg291
 z72 := Tryz.sizeOf291
 v72 := Tryz.zeroValue291
 t75 := Tryz.underlying294
 a75 := Tryz.isAgg294
 z75 := Tryz.sizeOf294
 v75 := Tryz.zeroValue294
 t76 := Tryz.underlying295
 a76 := Tryz.isAgg295
 z76 := Tryz.sizeOf295
 v76 := Tryz.zeroValue295
 t127 := Tryz.underlying299
 a127 := Tryz.isAgg299
 z127 := Tryz.sizeOf299
 v127 := Tryz.zeroValue299
 t164 := Tryz.underlying300
 a164 := Tryz.isAgg300
 z164 := Tryz.sizeOf300
 v164 := Tryz.zeroValue300 }
theorem Tryz.Builder_Extra_156 : Builder.Extra Tryz.prog Tryz.lays156_ren := {
 sizeBuilder := by kernel_rfl
 liesBuilder := by kernel_rfl
 t5 := Tryz.underlying5
 a5 := Tryz.isAgg5
 z5 := Tryz.sizeOf5
 v5 := Tryz.zeroValue5
 infoByte := by kernel_rfl
 cellsByte := by kernel_rfl
 sizeByte := by kernel_rfl
 neB5 := by decide }
open Go.RowKit in
theorem Tryz.strings_Join_none (a : Option Addr) (c : Nat) (sep : ByteArray) (w : World) :
  Calls Tryz.prog 296 #[.slice a 0 c, .string sep] w fun e w' => e = .returned (.string ⟨#[]⟩) ∧ w' = w := Any.strings_Join_none Tryz.lays156 Tryz.Builder_Extra_156 a c sep w
open Go.RowKit in
theorem Tryz.strings_Join (bk o c : Nat) (xs : List ByteArray) (sep : ByteArray) (w : World) (hcells : ∀ (j : Nat) x, xs[j]? = some x → w.cell? ⟨bk, o + j, none⟩ = some (.string x)) (hbk : bk < w.heap.size) (hN : xs.length ≤ 140737488355328) (hcap : xs.length ≤ c) (hlen : (Lib.join (xs.map (·.data.toList)) sep.data.toList).length ≤ 140737488355328) :
  Calls Tryz.prog 296 #[.slice (some ⟨bk, o, none⟩) xs.length c, .string sep] w fun e w' => e = .returned (.string ⟨(Lib.join (xs.map (·.data.toList)) sep.data.toList).toArray⟩) ∧ Below w.heap.size w w' := Any.strings_Join Tryz.lays156 Tryz.Builder_Extra_156 bk o c xs sep w hcells hbk hN hcap hlen
def Tryz.lays161_ren : Go.Shelf.Ren := ⟨fun | 161 => 294 | 231 => 262 | 227 => 264 | 233 => 265 | 235 => 267 | 228 => 271 | 197 => 258 | 151 => 288 | 260 => 284 | 152 => 269 | 137 => 187 | 119 => 290 | 224 => 286 | 225 => 285 | 217 => 227 | 266 => 256 | n => n, fun | 9 => 9 | 4 => 4 | 3 => 3 | 5 => 5 | 117 => 266 | 116 => 265 | 0 => 0 | 124 => 269 | 105 => 261 | 21 => 21 | 119 => 283 | 46 => 110 | 139 => 286 | 138 => 285 | n => n, fun | 3 => 2 | 4 => 3 | n => n⟩
theorem Tryz.lays161 : Go.Proofs.Lays.n161 Tryz.prog Tryz.lays161_ren := {
 mixed := by kernel_rfl
 f119 := Tryz.func290.trans (congrArg some (by kernel_rfl))
 f137 := Tryz.func187.trans (congrArg some (by kernel_rfl))
 f151 := Tryz.func288.trans (congrArg some (by kernel_rfl))
 f152 := Tryz.func269.trans (congrArg some (by kernel_rfl))
 f161 := Tryz.func294.trans (congrArg some (by kernel_rfl))
 f197 := Tryz.func258.trans (congrArg some (by kernel_rfl))
 f217 := Tryz.func227.trans (congrArg some (by kernel_rfl))
 f224 := Tryz.func286.trans (congrArg some (by kernel_rfl))
 f225 := Tryz.func285.trans (congrArg some (by kernel_rfl))
 f227 := Tryz.func264.trans (congrArg some (by kernel_rfl))
 f228 := Tryz.func271.trans (congrArg some (by kernel_rfl))
 f231 := Tryz.func262.trans (congrArg some (by kernel_rfl))
 f233 := Tryz.func265.trans (congrArg some (by kernel_rfl))
 f235 := Tryz.func267.trans (congrArg some (by kernel_rfl))
 f260 := Tryz.func284.trans (congrArg some (by kernel_rfl))
 f266 := Tryz.func256.trans (congrArg some (by kernel_rfl))
 t0 := Tryz.underlying0
 a0 := Tryz.isAgg0
 z0 := Tryz.sizeOf0
 v0 := Tryz.zeroValue0
 t3 := Tryz.underlying3
 a3 := Tryz.isAgg3
 z3 := Tryz.sizeOf3
 v3 := Tryz.zeroValue3
 t4 := Tryz.underlying4
 a4 := Tryz.isAgg4
 z4 := Tryz.sizeOf4
 v4 := Tryz.zeroValue4
 t5 := Tryz.underlying5
 a5 := Tryz.isAgg5
 z5 := Tryz.sizeOf5
 v5 := Tryz.zeroValue5
 t9 := Tryz.underlying9
 a9 := Tryz.isAgg9
 z9 := Tryz.sizeOf9
 v9 := Tryz.zeroValue9
 t21 := Tryz.underlying21
 a21 := Tryz.isAgg21
 z21 := Tryz.sizeOf21
 v21 := Tryz.zeroValue21
 t46 := Tryz.underlying110
 a46 := Tryz.isAgg110
 z46 := Tryz.sizeOf110
 v46 := Tryz.zeroValue110
 t105 := Tryz.underlying261
 a105 := Tryz.isAgg261
 z105 := Tryz.sizeOf261
 v105 := Tryz.zeroValue261
 t116 := Tryz.underlying265
 a116 := Tryz.isAgg265
 z116 := Tryz.sizeOf265
 t117 := Tryz.underlying266
 a117 := Tryz.isAgg266
 z117 := Tryz.sizeOf266
 v117 := Tryz.zeroValue266
 t119 := Tryz.underlying283
 a119 := Tryz.isAgg283
 z119 := Tryz.sizeOf283
 t124 := Tryz.underlying269
 a124 := Tryz.isAgg269
 z124 := Tryz.sizeOf269
 v124 := Tryz.zeroValue269
 t138 := Tryz.underlying285
 a138 := Tryz.isAgg285
 z138 := Tryz.sizeOf285
 v138 := Tryz.zeroValue285
 t139 := Tryz.underlying286
 a139 := Tryz.isAgg286
 z139 := Tryz.sizeOf286
 v139 := Tryz.zeroValue286
 g3 := by kernel_rfl
 g4 := by kernel_rfl }
open Go.RowKit in
theorem Tryz.strings_TrimLeft_one (s : ByteArray) (c : UInt8) (hc : c.toNat < 128) (w : World) :
  Calls Tryz.prog 294 #[.string s, .string ⟨#[c]⟩] w fun e w' => e = .returned (.string ⟨(Lib.trimLeftB s.data.toList c).toArray⟩) ∧ w' = w := Any.strings_TrimLeft_one Tryz.lays161 s c hc w
def Tryz.lays162_ren : Go.Shelf.Ren := ⟨fun | 162 => 295 | 232 => 263 | 227 => 264 | 234 => 266 | 236 => 268 | 228 => 271 | 271 => 289 | 151 => 288 | 120 => 300 | 197 => 258 | 152 => 269 | 260 => 284 | 137 => 187 | 119 => 290 | 224 => 286 | 225 => 285 | 217 => 227 | 266 => 256 | n => n, fun | 9 => 9 | 4 => 4 | 3 => 3 | 5 => 5 | 117 => 266 | 116 => 265 | 0 => 0 | 124 => 269 | 21 => 21 | 105 => 261 | 46 => 110 | 119 => 283 | 139 => 286 | 138 => 285 | n => n, fun | 3 => 2 | 4 => 3 | n => n⟩
theorem Tryz.lays162 : Go.Proofs.Lays.n162 Tryz.prog Tryz.lays162_ren := {
 mixed := by kernel_rfl
 f119 := Tryz.func290.trans (congrArg some (by kernel_rfl))
 f120 := Tryz.func300.trans (congrArg some (by kernel_rfl))
 f137 := Tryz.func187.trans (congrArg some (by kernel_rfl))
 f151 := Tryz.func288.trans (congrArg some (by kernel_rfl))
 f152 := Tryz.func269.trans (congrArg some (by kernel_rfl))
 f162 := Tryz.func295.trans (congrArg some (by kernel_rfl))
 f197 := Tryz.func258.trans (congrArg some (by kernel_rfl))
 f217 := Tryz.func227.trans (congrArg some (by kernel_rfl))
 f224 := Tryz.func286.trans (congrArg some (by kernel_rfl))
 f225 := Tryz.func285.trans (congrArg some (by kernel_rfl))
 f227 := Tryz.func264.trans (congrArg some (by kernel_rfl))
 f228 := Tryz.func271.trans (congrArg some (by kernel_rfl))
 f232 := Tryz.func263.trans (congrArg some (by kernel_rfl))
 f234 := Tryz.func266.trans (congrArg some (by kernel_rfl))
 f236 := Tryz.func268.trans (congrArg some (by kernel_rfl))
 f260 := Tryz.func284.trans (congrArg some (by kernel_rfl))
 f266 := Tryz.func256.trans (congrArg some (by kernel_rfl))
 f271 := Tryz.func289.trans (congrArg some (by kernel_rfl))
 t0 := Tryz.underlying0
 a0 := Tryz.isAgg0
 z0 := Tryz.sizeOf0
 v0 := Tryz.zeroValue0
 t3 := Tryz.underlying3
 a3 := Tryz.isAgg3
 z3 := Tryz.sizeOf3
 v3 := Tryz.zeroValue3
 t4 := Tryz.underlying4
 a4 := Tryz.isAgg4
 z4 := Tryz.sizeOf4
 v4 := Tryz.zeroValue4
 t5 := Tryz.underlying5
 a5 := Tryz.isAgg5
 z5 := Tryz.sizeOf5
 v5 := Tryz.zeroValue5
 t9 := Tryz.underlying9
 a9 := Tryz.isAgg9
 z9 := Tryz.sizeOf9
 v9 := Tryz.zeroValue9
 t21 := Tryz.underlying21
 a21 := Tryz.isAgg21
 z21 := Tryz.sizeOf21
 v21 := Tryz.zeroValue21
 t46 := Tryz.underlying110
 a46 := Tryz.isAgg110
 z46 := Tryz.sizeOf110
 v46 := Tryz.zeroValue110
 t105 := Tryz.underlying261
 a105 := Tryz.isAgg261
 z105 := Tryz.sizeOf261
 v105 := Tryz.zeroValue261
 t116 := Tryz.underlying265
 a116 := Tryz.isAgg265
 z116 := Tryz.sizeOf265
 t117 := Tryz.underlying266
 a117 := Tryz.isAgg266
 z117 := Tryz.sizeOf266
 v117 := Tryz.zeroValue266
 t119 := Tryz.underlying283
 a119 := Tryz.isAgg283
 z119 := Tryz.sizeOf283
 t124 := Tryz.underlying269
 a124 := Tryz.isAgg269
 z124 := Tryz.sizeOf269
 v124 := Tryz.zeroValue269
 t138 := Tryz.underlying285
 a138 := Tryz.isAgg285
 z138 := Tryz.sizeOf285
 v138 := Tryz.zeroValue285
 t139 := Tryz.underlying286
 a139 := Tryz.isAgg286
 z139 := Tryz.sizeOf286
 v139 := Tryz.zeroValue286
 g3 := by kernel_rfl
 g4 := by kernel_rfl }
open Go.RowKit in
theorem Tryz.strings_TrimRight_one (s : ByteArray) (c : UInt8) (hc : c.toNat < 128) (w : World) (hs : s.size ≤ 9223372036854775807) :
  Calls Tryz.prog 295 #[.string s, .string ⟨#[c]⟩] w fun e w' => e = .returned (.string ⟨(Lib.trimRightB s.data.toList c).toArray⟩) ∧ w' = w := Any.strings_TrimRight_one Tryz.lays162 s c hc w hs
def Tryz.lays160_ren : Go.Shelf.Ren := ⟨fun | 160 => 233 | 232 => 263 | 231 => 262 | 227 => 264 | 234 => 266 | 233 => 265 | 236 => 268 | 235 => 267 | 228 => 271 | 271 => 289 | 151 => 288 | 197 => 258 | 120 => 300 | 152 => 269 | 260 => 284 | 137 => 187 | 119 => 290 | 224 => 286 | 225 => 285 | 217 => 227 | 266 => 256 | n => n, fun | 9 => 9 | 4 => 4 | 3 => 3 | 5 => 5 | 117 => 266 | 116 => 265 | 0 => 0 | 124 => 269 | 21 => 21 | 105 => 261 | 46 => 110 | 119 => 283 | 139 => 286 | 138 => 285 | n => n, fun | 3 => 2 | 4 => 3 | n => n⟩
theorem Tryz.lays160 : Go.Proofs.Lays.n160 Tryz.prog Tryz.lays160_ren := {
 mixed := by kernel_rfl
 f119 := Tryz.func290.trans (congrArg some (by kernel_rfl))
 f120 := Tryz.func300.trans (congrArg some (by kernel_rfl))
 f137 := Tryz.func187.trans (congrArg some (by kernel_rfl))
 f151 := Tryz.func288.trans (congrArg some (by kernel_rfl))
 f152 := Tryz.func269.trans (congrArg some (by kernel_rfl))
 f160 := Tryz.func233.trans (congrArg some (by kernel_rfl))
 f197 := Tryz.func258.trans (congrArg some (by kernel_rfl))
 f217 := Tryz.func227.trans (congrArg some (by kernel_rfl))
 f224 := Tryz.func286.trans (congrArg some (by kernel_rfl))
 f225 := Tryz.func285.trans (congrArg some (by kernel_rfl))
 f227 := Tryz.func264.trans (congrArg some (by kernel_rfl))
 f228 := Tryz.func271.trans (congrArg some (by kernel_rfl))
 f231 := Tryz.func262.trans (congrArg some (by kernel_rfl))
 f232 := Tryz.func263.trans (congrArg some (by kernel_rfl))
 f233 := Tryz.func265.trans (congrArg some (by kernel_rfl))
 f234 := Tryz.func266.trans (congrArg some (by kernel_rfl))
 f235 := Tryz.func267.trans (congrArg some (by kernel_rfl))
 f236 := Tryz.func268.trans (congrArg some (by kernel_rfl))
 f260 := Tryz.func284.trans (congrArg some (by kernel_rfl))
 f266 := Tryz.func256.trans (congrArg some (by kernel_rfl))
 f271 := Tryz.func289.trans (congrArg some (by kernel_rfl))
 t0 := Tryz.underlying0
 a0 := Tryz.isAgg0
 z0 := Tryz.sizeOf0
 v0 := Tryz.zeroValue0
 t3 := Tryz.underlying3
 a3 := Tryz.isAgg3
 z3 := Tryz.sizeOf3
 v3 := Tryz.zeroValue3
 t4 := Tryz.underlying4
 a4 := Tryz.isAgg4
 z4 := Tryz.sizeOf4
 v4 := Tryz.zeroValue4
 t5 := Tryz.underlying5
 a5 := Tryz.isAgg5
 z5 := Tryz.sizeOf5
 v5 := Tryz.zeroValue5
 t9 := Tryz.underlying9
 a9 := Tryz.isAgg9
 z9 := Tryz.sizeOf9
 v9 := Tryz.zeroValue9
 t21 := Tryz.underlying21
 a21 := Tryz.isAgg21
 z21 := Tryz.sizeOf21
 v21 := Tryz.zeroValue21
 t46 := Tryz.underlying110
 a46 := Tryz.isAgg110
 z46 := Tryz.sizeOf110
 v46 := Tryz.zeroValue110
 t105 := Tryz.underlying261
 a105 := Tryz.isAgg261
 z105 := Tryz.sizeOf261
 v105 := Tryz.zeroValue261
 t116 := Tryz.underlying265
 a116 := Tryz.isAgg265
 z116 := Tryz.sizeOf265
 t117 := Tryz.underlying266
 a117 := Tryz.isAgg266
 z117 := Tryz.sizeOf266
 v117 := Tryz.zeroValue266
 t119 := Tryz.underlying283
 a119 := Tryz.isAgg283
 z119 := Tryz.sizeOf283
 t124 := Tryz.underlying269
 a124 := Tryz.isAgg269
 z124 := Tryz.sizeOf269
 v124 := Tryz.zeroValue269
 t138 := Tryz.underlying285
 a138 := Tryz.isAgg285
 z138 := Tryz.sizeOf285
 v138 := Tryz.zeroValue285
 t139 := Tryz.underlying286
 a139 := Tryz.isAgg286
 z139 := Tryz.sizeOf286
 v139 := Tryz.zeroValue286
 g3 := by kernel_rfl
 g4 := by kernel_rfl }
def Tryz.lays106_ren : Go.Shelf.Ren := ⟨fun | 106 => 112 | 213 => 160 | 265 => 205 | n => n, fun | 9 => 9 | 3 => 3 | n => n, fun | n => n⟩
theorem Tryz.lays106 : Go.Proofs.Lays.n106 Tryz.prog Tryz.lays106_ren := {
 mixed := by kernel_rfl
 f106 := Tryz.func112.trans (congrArg some (by kernel_rfl))
 f213 := Tryz.func160.trans (congrArg some (by kernel_rfl))
 f265 := Tryz.func205.trans (congrArg some (by kernel_rfl))
 t3 := Tryz.underlying3
 a3 := Tryz.isAgg3
 z3 := Tryz.sizeOf3
 v3 := Tryz.zeroValue3
 t9 := Tryz.underlying9
 a9 := Tryz.isAgg9
 z9 := Tryz.sizeOf9
 v9 := Tryz.zeroValue9 }
open Go.RowKit in
theorem Tryz.strings_Compare (a b : ByteArray) (w : World) :
  Calls Tryz.prog 112 #[.string a, .string b] w fun e w' => e = .returned (.int .i64 (Lib.compareBytes a.data.toList b.data.toList)) ∧ w' = w := Any.strings_Compare Tryz.lays106 a b w
def Tryz.lays137_ren : Go.Shelf.Ren := ⟨fun | 137 => 187 | 217 => 227 | 266 => 256 | n => n, fun | 9 => 9 | 5 => 5 | 3 => 3 | n => n, fun | n => n⟩
theorem Tryz.lays137 : Go.Proofs.Lays.n137 Tryz.prog Tryz.lays137_ren := {
 mixed := by kernel_rfl
 f137 := Tryz.func187.trans (congrArg some (by kernel_rfl))
 f217 := Tryz.func227.trans (congrArg some (by kernel_rfl))
 f266 := Tryz.func256.trans (congrArg some (by kernel_rfl))
 t3 := Tryz.underlying3
 a3 := Tryz.isAgg3
 z3 := Tryz.sizeOf3
 v3 := Tryz.zeroValue3
 t5 := Tryz.underlying5
 a5 := Tryz.isAgg5
 z5 := Tryz.sizeOf5
 v5 := Tryz.zeroValue5
 t9 := Tryz.underlying9
 a9 := Tryz.isAgg9
 z9 := Tryz.sizeOf9
 v9 := Tryz.zeroValue9 }
open Go.RowKit in
theorem Tryz.strings_IndexByte (s : ByteArray) (c : Int) (w : World) :
  Calls Tryz.prog 187 #[.string s, .int .u8 c] w fun e w' => e = .returned (.int .i64 (Lib.indexByte s.data.toList c.toNat.toUInt8)) ∧ w' = w := Any.strings_IndexByte Tryz.lays137 s c w
def Tryz.lays103_ren : Go.Shelf.Ren := ⟨fun | 103 => 244 | 210 => 278 | 206 => 292 | n => n, fun | 9 => 9 | 4 => 4 | 24 => 115 | 3 => 3 | n => n, fun | n => n⟩
theorem Tryz.lays103 : Go.Proofs.Lays.n103 Tryz.prog Tryz.lays103_ren := {
 mixed := by kernel_rfl
 f103 := Tryz.func244.trans (congrArg some (by kernel_rfl))
 f206 := Tryz.func292.trans (congrArg some (by kernel_rfl))
 f210 := Tryz.func278.trans (congrArg some (by kernel_rfl))
 t3 := Tryz.underlying3
 a3 := Tryz.isAgg3
 z3 := Tryz.sizeOf3
 v3 := Tryz.zeroValue3
 t4 := Tryz.underlying4
 a4 := Tryz.isAgg4
 z4 := Tryz.sizeOf4
 v4 := Tryz.zeroValue4
 t9 := Tryz.underlying9
 a9 := Tryz.isAgg9
 z9 := Tryz.sizeOf9
 v9 := Tryz.zeroValue9
 t24 := Tryz.underlying115
 a24 := Tryz.isAgg115
 z24 := Tryz.sizeOf115
 v24 := Tryz.zeroValue115 }
open Go.RowKit in
theorem Tryz.strings_CutPrefix (s p : ByteArray) (w : World) :
  Calls Tryz.prog 244 #[.string s, .string p] w fun e w' => e = .returned (.tuple #[.string ⟨(Lib.trimPrefix s.data.toList p.data.toList).toArray⟩, .bool (Lib.hasPrefix s.data.toList p.data.toList)]) ∧ w' = w := Any.strings_CutPrefix Tryz.lays103 s p w
def Tryz.lays122_ren : Go.Shelf.Ren := ⟨fun | 122 => 111 | 215 => 159 | n => n, fun | 3 => 3 | 4 => 4 | n => n, fun | n => n⟩
theorem Tryz.lays122 : Go.Proofs.Lays.n122 Tryz.prog Tryz.lays122_ren := {
 mixed := by kernel_rfl
 f122 := Tryz.func111.trans (congrArg some (by kernel_rfl))
 f215 := Tryz.func159.trans (congrArg some (by kernel_rfl))
 t3 := Tryz.underlying3
 a3 := Tryz.isAgg3
 z3 := Tryz.sizeOf3
 v3 := Tryz.zeroValue3
 t4 := Tryz.underlying4
 a4 := Tryz.isAgg4
 z4 := Tryz.sizeOf4
 v4 := Tryz.zeroValue4 }
open Go.RowKit in
theorem Tryz.cmp_Compare_int (x y : Int) (w : World) :
  Calls Tryz.prog 111 #[.int .i64 x, .int .i64 y] w fun e w' => e = .returned (.int .i64 (Lib.compareInt x y)) ∧ w' = w := Any.cmp_Compare_int Tryz.lays122 x y w
def Tryz.lays145_ren : Go.Shelf.Ren := ⟨fun | 145 => 189 | 220 => 231 | 219 => 260 | 217 => 227 | 225 => 285 | 224 => 286 | 267 => 287 | 266 => 256 | 314 => 299 | n => n, fun | 9 => 9 | 4 => 4 | 59 => 216 | 3 => 3 | 5 => 5 | 46 => 110 | 146 => 287 | 51 => 196 | n => n, fun | 1 => 1 | n => n⟩
theorem Tryz.lays145 : Go.Proofs.Lays.n145 Tryz.prog Tryz.lays145_ren := {
 mixed := by kernel_rfl
 f145 := Tryz.func189.trans (congrArg some (by kernel_rfl))
 f217 := Tryz.func227.trans (congrArg some (by kernel_rfl))
 f219 := Tryz.func260.trans (congrArg some (by kernel_rfl))
 f220 := Tryz.func231.trans (congrArg some (by kernel_rfl))
 f224 := Tryz.func286.trans (congrArg some (by kernel_rfl))
 f225 := Tryz.func285.trans (congrArg some (by kernel_rfl))
 f266 := Tryz.func256.trans (congrArg some (by kernel_rfl))
 f267 := Tryz.func287.trans (congrArg some (by kernel_rfl))
 f314 := Tryz.func299.trans (congrArg some (by kernel_rfl))
 t3 := Tryz.underlying3
 a3 := Tryz.isAgg3
 z3 := Tryz.sizeOf3
 v3 := Tryz.zeroValue3
 t4 := Tryz.underlying4
 a4 := Tryz.isAgg4
 z4 := Tryz.sizeOf4
 v4 := Tryz.zeroValue4
 t5 := Tryz.underlying5
 a5 := Tryz.isAgg5
 z5 := Tryz.sizeOf5
 v5 := Tryz.zeroValue5
 t9 := Tryz.underlying9
 a9 := Tryz.isAgg9
 z9 := Tryz.sizeOf9
 v9 := Tryz.zeroValue9
 t46 := Tryz.underlying110
 a46 := Tryz.isAgg110
 z46 := Tryz.sizeOf110
 v46 := Tryz.zeroValue110
 t51 := Tryz.underlying196
 a51 := Tryz.isAgg196
 z51 := Tryz.sizeOf196
 v51 := Tryz.zeroValue196
 t59 := Tryz.underlying216
 a59 := Tryz.isAgg216
 z59 := Tryz.sizeOf216
 v59 := Tryz.zeroValue216
 t146 := Tryz.underlying287
 a146 := Tryz.isAgg287
 z146 := Tryz.sizeOf287
 v146 := Tryz.zeroValue287
 g1 := by kernel_rfl }
open Go.RowKit Go.Lib in
theorem Tryz.strings_Cut (s sep : ByteArray) (m : Int) (w : World) (hs : s.size < 4294967281) (hm : w.cell? ⟨1, 0, none⟩ = some (.int .i64 m)) :
  Calls Tryz.prog 189 #[.string s, .string sep] w fun e w' => e = .returned (.tuple #[.string ⟨(Lib.cut s.data.toList sep.data.toList).1.toArray⟩, .string ⟨(Lib.cut s.data.toList sep.data.toList).2.1.toArray⟩, .bool (Lib.cut s.data.toList sep.data.toList).2.2]) ∧ ∃ n, w' = w.drewN n := Any.strings_Cut Tryz.lays145 s sep m w hs hm
def Tryz.lays99_ren : Go.Shelf.Ren := ⟨fun | 99 => 274 | 206 => 292 | n => n, fun | 9 => 9 | 4 => 4 | 3 => 3 | n => n, fun | n => n⟩
theorem Tryz.lays99 : Go.Proofs.Lays.n99 Tryz.prog Tryz.lays99_ren := {
 mixed := by kernel_rfl
 f99 := Tryz.func274.trans (congrArg some (by kernel_rfl))
 f206 := Tryz.func292.trans (congrArg some (by kernel_rfl))
 t3 := Tryz.underlying3
 a3 := Tryz.isAgg3
 z3 := Tryz.sizeOf3
 v3 := Tryz.zeroValue3
 t4 := Tryz.underlying4
 a4 := Tryz.isAgg4
 z4 := Tryz.sizeOf4
 v4 := Tryz.zeroValue4
 t9 := Tryz.underlying9
 a9 := Tryz.isAgg9
 z9 := Tryz.sizeOf9
 v9 := Tryz.zeroValue9 }
open Go.RowKit Go.Lib in
theorem Tryz.strings_HasPrefix (s p : ByteArray) (w : World) :
  Calls Tryz.prog 274 #[.string s, .string p] w fun e w' => e = .returned (.bool (Lib.hasPrefix s.data.toList p.data.toList)) ∧ w' = w := Any.strings_HasPrefix Tryz.lays99 s p w
def Tryz.lays101_ren : Go.Shelf.Ren := ⟨fun | 101 => 275 | 208 => 293 | 206 => 292 | n => n, fun | 9 => 9 | 4 => 4 | 3 => 3 | n => n, fun | n => n⟩
theorem Tryz.lays101 : Go.Proofs.Lays.n101 Tryz.prog Tryz.lays101_ren := {
 mixed := by kernel_rfl
 f101 := Tryz.func275.trans (congrArg some (by kernel_rfl))
 f206 := Tryz.func292.trans (congrArg some (by kernel_rfl))
 f208 := Tryz.func293.trans (congrArg some (by kernel_rfl))
 t3 := Tryz.underlying3
 a3 := Tryz.isAgg3
 z3 := Tryz.sizeOf3
 v3 := Tryz.zeroValue3
 t4 := Tryz.underlying4
 a4 := Tryz.isAgg4
 z4 := Tryz.sizeOf4
 v4 := Tryz.zeroValue4
 t9 := Tryz.underlying9
 a9 := Tryz.isAgg9
 z9 := Tryz.sizeOf9
 v9 := Tryz.zeroValue9 }
open Go.RowKit Go.Lib in
theorem Tryz.strings_TrimPrefix (s p : ByteArray) (w : World) :
  Calls Tryz.prog 275 #[.string s, .string p] w fun e w' => e = .returned (.string ⟨(Lib.trimPrefix s.data.toList p.data.toList).toArray⟩) ∧ w' = w := Any.strings_TrimPrefix Tryz.lays101 s p w
def Tryz.lays102_ren : Go.Shelf.Ren := ⟨fun | 102 => 191 | 209 => 232 | 207 => 261 | n => n, fun | 9 => 9 | 4 => 4 | 3 => 3 | n => n, fun | n => n⟩
theorem Tryz.lays102 : Go.Proofs.Lays.n102 Tryz.prog Tryz.lays102_ren := {
 mixed := by kernel_rfl
 f102 := Tryz.func191.trans (congrArg some (by kernel_rfl))
 f207 := Tryz.func261.trans (congrArg some (by kernel_rfl))
 f209 := Tryz.func232.trans (congrArg some (by kernel_rfl))
 t3 := Tryz.underlying3
 a3 := Tryz.isAgg3
 z3 := Tryz.sizeOf3
 v3 := Tryz.zeroValue3
 t4 := Tryz.underlying4
 a4 := Tryz.isAgg4
 z4 := Tryz.sizeOf4
 v4 := Tryz.zeroValue4
 t9 := Tryz.underlying9
 a9 := Tryz.isAgg9
 z9 := Tryz.sizeOf9
 v9 := Tryz.zeroValue9 }
open Go.RowKit Go.Lib in
theorem Tryz.strings_TrimSuffix (s p : ByteArray) (w : World) (hs : s.size ≤ 9223372036854775807) :
  Calls Tryz.prog 191 #[.string s, .string p] w fun e w' => e = .returned (.string ⟨(Lib.trimSuffix s.data.toList p.data.toList).toArray⟩) ∧ w' = w := Any.strings_TrimSuffix Tryz.lays102 s p w hs
def Tryz.lays146_ren : Go.Shelf.Ren := ⟨fun | 146 => 145 | 221 => 188 | 268 => 228 | 138 => 229 | 143 => 230 | 195 => 257 | 197 => 258 | 218 => 259 | 219 => 260 | 260 => 284 | 217 => 227 | 225 => 285 | 224 => 286 | 267 => 287 | 266 => 256 | 314 => 299 | n => n, fun | 9 => 9 | 31 => 90 | 3 => 3 | 4 => 4 | 0 => 0 | 105 => 261 | 21 => 21 | 5 => 5 | 46 => 110 | 119 => 283 | 139 => 286 | 138 => 285 | 146 => 287 | 51 => 196 | n => n, fun | 1 => 1 | 3 => 2 | 4 => 3 | n => n⟩
theorem Tryz.lays146 : Go.Proofs.Lays.n146 Tryz.prog Tryz.lays146_ren := {
 mixed := by kernel_rfl
 f138 := Tryz.func229.trans (congrArg some (by kernel_rfl))
 f143 := Tryz.func230.trans (congrArg some (by kernel_rfl))
 f146 := Tryz.func145.trans (congrArg some (by kernel_rfl))
 f195 := Tryz.func257.trans (congrArg some (by kernel_rfl))
 f197 := Tryz.func258.trans (congrArg some (by kernel_rfl))
 f217 := Tryz.func227.trans (congrArg some (by kernel_rfl))
 f218 := Tryz.func259.trans (congrArg some (by kernel_rfl))
 f219 := Tryz.func260.trans (congrArg some (by kernel_rfl))
 f221 := Tryz.func188.trans (congrArg some (by kernel_rfl))
 f224 := Tryz.func286.trans (congrArg some (by kernel_rfl))
 f225 := Tryz.func285.trans (congrArg some (by kernel_rfl))
 f260 := Tryz.func284.trans (congrArg some (by kernel_rfl))
 f266 := Tryz.func256.trans (congrArg some (by kernel_rfl))
 f267 := Tryz.func287.trans (congrArg some (by kernel_rfl))
 f268 := Tryz.func228.trans (congrArg some (by kernel_rfl))
 f314 := Tryz.func299.trans (congrArg some (by kernel_rfl))
 t0 := Tryz.underlying0
 a0 := Tryz.isAgg0
 z0 := Tryz.sizeOf0
 v0 := Tryz.zeroValue0
 t3 := Tryz.underlying3
 a3 := Tryz.isAgg3
 z3 := Tryz.sizeOf3
 v3 := Tryz.zeroValue3
 t4 := Tryz.underlying4
 a4 := Tryz.isAgg4
 z4 := Tryz.sizeOf4
 v4 := Tryz.zeroValue4
 t5 := Tryz.underlying5
 a5 := Tryz.isAgg5
 z5 := Tryz.sizeOf5
 v5 := Tryz.zeroValue5
 t9 := Tryz.underlying9
 a9 := Tryz.isAgg9
 z9 := Tryz.sizeOf9
 v9 := Tryz.zeroValue9
 t21 := Tryz.underlying21
 a21 := Tryz.isAgg21
 z21 := Tryz.sizeOf21
 v21 := Tryz.zeroValue21
 t31 := Tryz.underlying90
 a31 := Tryz.isAgg90
 z31 := Tryz.sizeOf90
 v31 := Tryz.zeroValue90
 t46 := Tryz.underlying110
 a46 := Tryz.isAgg110
 z46 := Tryz.sizeOf110
 v46 := Tryz.zeroValue110
 t51 := Tryz.underlying196
 a51 := Tryz.isAgg196
 z51 := Tryz.sizeOf196
 v51 := Tryz.zeroValue196
 t105 := Tryz.underlying261
 a105 := Tryz.isAgg261
 z105 := Tryz.sizeOf261
 v105 := Tryz.zeroValue261
 t119 := Tryz.underlying283
 a119 := Tryz.isAgg283
 z119 := Tryz.sizeOf283
 t138 := Tryz.underlying285
 a138 := Tryz.isAgg285
 z138 := Tryz.sizeOf285
 v138 := Tryz.zeroValue285
 t139 := Tryz.underlying286
 a139 := Tryz.isAgg286
 z139 := Tryz.sizeOf286
 v139 := Tryz.zeroValue286
 t146 := Tryz.underlying287
 a146 := Tryz.isAgg287
 z146 := Tryz.sizeOf287
 v146 := Tryz.zeroValue287
 g1 := by kernel_rfl
 g3 := by kernel_rfl
 g4 := by kernel_rfl }
open Go.RowKit Go.Lib in
theorem Tryz.strings_Split (s sep : ByteArray) (m : Int) (w : World) (hs : s.size < 4294967281) (hm : w.cell? ⟨1, 0, none⟩ = some (.int .i64 m)) (h1 : 1 ≤ sep.size) :
  Calls Tryz.prog 145 #[.string s, .string sep] w fun e w' =>
   e = .returned (.slice (some ⟨w.heap.size, 0, none⟩) (Lib.countB s sep + 1) (Lib.countB s sep + 1)) ∧ w' = w.alloc (.cells ((Lib.splitB sep 0 (Lib.countB s sep) s).map Value.string).toArray 9) := Any.strings_Split Tryz.lays146 (by kernel_rfl) s sep m w hs hm h1
def Tryz.lays155_ren : Go.Shelf.Ren := ⟨fun | 155 => 273 | 154 => 291 | 138 => 229 | 165 => 301 | 143 => 230 | 166 => 302 | 197 => 258 | 169 => 303 | 195 => 257 | 218 => 259 | 240 => 305 | 241 => 306 | 219 => 260 | 260 => 284 | 276 => 307 | 277 => 308 | 217 => 227 | 225 => 285 | 224 => 286 | 267 => 287 | 266 => 256 | 314 => 299 | n => n, fun | 9 => 9 | 3 => 3 | 4 => 4 | 72 => 291 | 0 => 0 | 76 => 295 | 105 => 261 | 21 => 21 | 5 => 5 | 70 => 289 | 20 => 20 | 37 => 93 | 75 => 294 | 127 => 299 | 164 => 300 | 46 => 110 | 119 => 283 | 139 => 286 | 138 => 285 | 146 => 287 | 51 => 196 | 80 => 297 | n => n, fun | 1 => 1 | 3 => 2 | 4 => 3 | n => n⟩
theorem Tryz.lays155 : Go.Proofs.Lays.n155 Tryz.prog Tryz.lays155_ren := {
 mixed := by kernel_rfl
 f138 := Tryz.func229.trans (congrArg some (by kernel_rfl))
 f143 := Tryz.func230.trans (congrArg some (by kernel_rfl))
 f154 := Tryz.func291.trans (congrArg some (by kernel_rfl))
 f155 := Tryz.func273.trans (congrArg some (by kernel_rfl))
 f165 := Tryz.func301.trans (congrArg some (by kernel_rfl))
 f166 := Tryz.func302.trans (congrArg some (by kernel_rfl))
 f169 := Tryz.func303.trans (congrArg some (by kernel_rfl))
 f195 := Tryz.func257.trans (congrArg some (by kernel_rfl))
 f197 := Tryz.func258.trans (congrArg some (by kernel_rfl))
 f217 := Tryz.func227.trans (congrArg some (by kernel_rfl))
 f218 := Tryz.func259.trans (congrArg some (by kernel_rfl))
 f219 := Tryz.func260.trans (congrArg some (by kernel_rfl))
 f224 := Tryz.func286.trans (congrArg some (by kernel_rfl))
 f225 := Tryz.func285.trans (congrArg some (by kernel_rfl))
 f240 := Tryz.func305.trans (congrArg some (by kernel_rfl))
 f241 := Tryz.func306.trans (congrArg some (by kernel_rfl))
 f260 := Tryz.func284.trans (congrArg some (by kernel_rfl))
 f266 := Tryz.func256.trans (congrArg some (by kernel_rfl))
 f267 := Tryz.func287.trans (congrArg some (by kernel_rfl))
 f276 := Tryz.func307.trans (congrArg some (by kernel_rfl))
 f277 := Tryz.func308.trans (congrArg some (by kernel_rfl))
 f314 := Tryz.func299.trans (congrArg some (by kernel_rfl))
 t0 := Tryz.underlying0
 a0 := Tryz.isAgg0
 z0 := Tryz.sizeOf0
 v0 := Tryz.zeroValue0
 t3 := Tryz.underlying3
 a3 := Tryz.isAgg3
 z3 := Tryz.sizeOf3
 v3 := Tryz.zeroValue3
 t4 := Tryz.underlying4
 a4 := Tryz.isAgg4
 z4 := Tryz.sizeOf4
 v4 := Tryz.zeroValue4
 t5 := Tryz.underlying5
 a5 := Tryz.isAgg5
 z5 := Tryz.sizeOf5
 v5 := Tryz.zeroValue5
 t9 := Tryz.underlying9
 a9 := Tryz.isAgg9
 z9 := Tryz.sizeOf9
 v9 := Tryz.zeroValue9
 t20 := Tryz.underlying20
 a20 := Tryz.isAgg20
 z20 := Tryz.sizeOf20
 v20 := Tryz.zeroValue20
 t21 := Tryz.underlying21
 a21 := Tryz.isAgg21
 z21 := Tryz.sizeOf21
 v21 := Tryz.zeroValue21
 t37 := Tryz.underlying93
 a37 := Tryz.isAgg93
 z37 := Tryz.sizeOf93
 v37 := Tryz.zeroValue93
 t46 := Tryz.underlying110
 a46 := Tryz.isAgg110
 z46 := Tryz.sizeOf110
 v46 := Tryz.zeroValue110
 t51 := Tryz.underlying196
 a51 := Tryz.isAgg196
 z51 := Tryz.sizeOf196
 v51 := Tryz.zeroValue196
 t70 := Tryz.underlying289
 a70 := Tryz.isAgg289
 z70 := Tryz.sizeOf289
 v70 := Tryz.zeroValue289
 t72 := Tryz.underlying291
 a72 := Tryz.isAgg291
 z72 := Tryz.sizeOf291
 v72 := Tryz.zeroValue291
 t75 := Tryz.underlying294
 a75 := Tryz.isAgg294
 z75 := Tryz.sizeOf294
 v75 := Tryz.zeroValue294
 t76 := Tryz.underlying295
 a76 := Tryz.isAgg295
 z76 := Tryz.sizeOf295
 v76 := Tryz.zeroValue295
 t105 := Tryz.underlying261
 a105 := Tryz.isAgg261
 z105 := Tryz.sizeOf261
 v105 := Tryz.zeroValue261
 t119 := Tryz.underlying283
 a119 := Tryz.isAgg283
 z119 := Tryz.sizeOf283
 t127 := Tryz.underlying299
 a127 := Tryz.isAgg299
 z127 := Tryz.sizeOf299
 v127 := Tryz.zeroValue299
 t138 := Tryz.underlying285
 a138 := Tryz.isAgg285
 z138 := Tryz.sizeOf285
 v138 := Tryz.zeroValue285
 t139 := Tryz.underlying286
 a139 := Tryz.isAgg286
 z139 := Tryz.sizeOf286
 v139 := Tryz.zeroValue286
 t146 := Tryz.underlying287
 a146 := Tryz.isAgg287
 z146 := Tryz.sizeOf287
 v146 := Tryz.zeroValue287
 t164 := Tryz.underlying300
 a164 := Tryz.isAgg300
 z164 := Tryz.sizeOf300
 v164 := Tryz.zeroValue300
 g1 := by kernel_rfl
 g3 := by kernel_rfl
 g4 := by kernel_rfl }
theorem Tryz.Builder_Extra_155 : Builder.Extra Tryz.prog Tryz.lays155_ren := {
 sizeBuilder := by kernel_rfl
 liesBuilder := by kernel_rfl
 t5 := Tryz.underlying5
 a5 := Tryz.isAgg5
 z5 := Tryz.sizeOf5
 v5 := Tryz.zeroValue5
 infoByte := by kernel_rfl
 cellsByte := by kernel_rfl
 sizeByte := by kernel_rfl
 neB5 := by decide }
open Go.RowKit Go.Lib in
theorem Tryz.strings_ReplaceAll (s old new : ByteArray) (m : Int) (w : World) (hs : s.size < 4294967281) (hm : w.cell? ⟨1, 0, none⟩ = some (.int .i64 m)) (h1 : 1 ≤ old.size) (hlen : s.size + Lib.countB s old * new.size ≤ 140737488355328) :
  Calls Tryz.prog 273 #[.string s, .string old, .string new] w fun e w' =>
   e = .returned (.string ⟨(Lib.replaceAll s.data.toList old.data.toList new.data.toList).toArray⟩) ∧ Below w.heap.size w w' := Any.strings_ReplaceAll Tryz.lays155 Tryz.Builder_Extra_155 s old new m w hs hm h1 hlen
def Tryz.lays152_ren : Go.Shelf.Ren := ⟨fun | 152 => 269 | 137 => 187 | 119 => 290 | 224 => 286 | 225 => 285 | 217 => 227 | 266 => 256 | n => n, fun | 9 => 9 | 21 => 21 | 3 => 3 | 4 => 4 | 5 => 5 | 0 => 0 | 46 => 110 | n => n, fun | n => n⟩
theorem Tryz.lays152 : Go.Proofs.Lays.n152 Tryz.prog Tryz.lays152_ren := {
 mixed := by kernel_rfl
 f119 := Tryz.func290.trans (congrArg some (by kernel_rfl))
 f137 := Tryz.func187.trans (congrArg some (by kernel_rfl))
 f152 := Tryz.func269.trans (congrArg some (by kernel_rfl))
 f217 := Tryz.func227.trans (congrArg some (by kernel_rfl))
 f224 := Tryz.func286.trans (congrArg some (by kernel_rfl))
 f225 := Tryz.func285.trans (congrArg some (by kernel_rfl))
 f266 := Tryz.func256.trans (congrArg some (by kernel_rfl))
 t0 := Tryz.underlying0
 a0 := Tryz.isAgg0
 z0 := Tryz.sizeOf0
 v0 := Tryz.zeroValue0
 t3 := Tryz.underlying3
 a3 := Tryz.isAgg3
 z3 := Tryz.sizeOf3
 v3 := Tryz.zeroValue3
 t4 := Tryz.underlying4
 a4 := Tryz.isAgg4
 z4 := Tryz.sizeOf4
 v4 := Tryz.zeroValue4
 t5 := Tryz.underlying5
 a5 := Tryz.isAgg5
 z5 := Tryz.sizeOf5
 v5 := Tryz.zeroValue5
 t9 := Tryz.underlying9
 a9 := Tryz.isAgg9
 z9 := Tryz.sizeOf9
 v9 := Tryz.zeroValue9
 t21 := Tryz.underlying21
 a21 := Tryz.isAgg21
 z21 := Tryz.sizeOf21
 v21 := Tryz.zeroValue21
 t46 := Tryz.underlying110
 a46 := Tryz.isAgg110
 z46 := Tryz.sizeOf110
 v46 := Tryz.zeroValue110 }
open Go.RowKit Go.Lib in
theorem Tryz.strings_IndexRune_ascii (s : ByteArray) (r : Int) (w : World) (h0 : 0 ≤ r) (h1 : r < 128) :
  Calls Tryz.prog 269 #[.string s, .int .i32 r] w fun e w' => e = .returned (.int .i64 (Lib.indexByte s.data.toList r.toNat.toUInt8)) ∧ w' = w := Any.strings_IndexRune_ascii Tryz.lays152 s r w h0 h1
def Tryz.lays153_ren : Go.Shelf.Ren := ⟨fun | 153 => 234 | 152 => 269 | 226 => 270 | 227 => 264 | 228 => 271 | 137 => 187 | 119 => 290 | 224 => 286 | 225 => 285 | 217 => 227 | 266 => 256 | n => n, fun | 9 => 9 | 3 => 3 | 4 => 4 | 5 => 5 | 21 => 21 | 117 => 266 | 116 => 265 | 0 => 0 | 46 => 110 | 124 => 269 | n => n, fun | n => n⟩
theorem Tryz.lays153 : Go.Proofs.Lays.n153 Tryz.prog Tryz.lays153_ren := {
 mixed := by kernel_rfl
 f119 := Tryz.func290.trans (congrArg some (by kernel_rfl))
 f137 := Tryz.func187.trans (congrArg some (by kernel_rfl))
 f152 := Tryz.func269.trans (congrArg some (by kernel_rfl))
 f153 := Tryz.func234.trans (congrArg some (by kernel_rfl))
 f217 := Tryz.func227.trans (congrArg some (by kernel_rfl))
 f224 := Tryz.func286.trans (congrArg some (by kernel_rfl))
 f225 := Tryz.func285.trans (congrArg some (by kernel_rfl))
 f226 := Tryz.func270.trans (congrArg some (by kernel_rfl))
 f227 := Tryz.func264.trans (congrArg some (by kernel_rfl))
 f228 := Tryz.func271.trans (congrArg some (by kernel_rfl))
 f266 := Tryz.func256.trans (congrArg some (by kernel_rfl))
 t0 := Tryz.underlying0
 a0 := Tryz.isAgg0
 z0 := Tryz.sizeOf0
 v0 := Tryz.zeroValue0
 t3 := Tryz.underlying3
 a3 := Tryz.isAgg3
 z3 := Tryz.sizeOf3
 v3 := Tryz.zeroValue3
 t4 := Tryz.underlying4
 a4 := Tryz.isAgg4
 z4 := Tryz.sizeOf4
 v4 := Tryz.zeroValue4
 t5 := Tryz.underlying5
 a5 := Tryz.isAgg5
 z5 := Tryz.sizeOf5
 v5 := Tryz.zeroValue5
 t9 := Tryz.underlying9
 a9 := Tryz.isAgg9
 z9 := Tryz.sizeOf9
 v9 := Tryz.zeroValue9
 t21 := Tryz.underlying21
 a21 := Tryz.isAgg21
 z21 := Tryz.sizeOf21
 v21 := Tryz.zeroValue21
 t46 := Tryz.underlying110
 a46 := Tryz.isAgg110
 z46 := Tryz.sizeOf110
 v46 := Tryz.zeroValue110
 t116 := Tryz.underlying265
 a116 := Tryz.isAgg265
 z116 := Tryz.sizeOf265
 t117 := Tryz.underlying266
 a117 := Tryz.isAgg266
 z117 := Tryz.sizeOf266
 v117 := Tryz.zeroValue266
 t124 := Tryz.underlying269
 a124 := Tryz.isAgg269
 z124 := Tryz.sizeOf269
 v124 := Tryz.zeroValue269 }
open Go.RowKit Go.Lib in
theorem Tryz.strings_IndexAny_long (hv116 : ∀ w, (zeroValue 265).run Tryz.prog w = .ok (.agg (Array.replicate 256 (.bool false))) w) (s chars : ByteArray) (w : World) (h2 : 2 ≤ chars.size) (h8 : 8 < s.size) (hs : s.size < 4294967281) (hcs : chars.size < 4294967281) (hascii : ∀ (j : Nat) b, chars.data.toList[j]? = some b → b.toNat < 128) :
  Calls Tryz.prog 234 #[.string s, .string chars] w fun e w' => e = .returned (.int .i64 (Lib.indexAny s.data.toList chars.data.toList)) ∧ w' = ((w.alloc (.cells (Lib.setCells chars.data.toList) 265)).alloc (.cells (Lib.setCells chars.data.toList) 265)) := Any.strings_IndexAny_long Tryz.lays153 hv116 (by kernel_rfl) s chars w h2 h8 hs hcs hascii
end Go.Proofs
namespace Go.Proofs
open Go Go.X Go.RowKit Go.Shelf Tryz
theorem Gb (s p : List UInt8) : FnS prog 274 [.c (.s s), .c (.s p)] [] [] (Is (.c (.b (p.isPrefixOf s)))) :=
 JD ⟨_, func274, by kernel_rfl, by kernel_rfl⟩ (Tryz.strings_HasPrefix ⟨⟨s⟩⟩ ⟨⟨p⟩⟩)
theorem zc (s p : List UInt8) : FnS prog 275 [.c (.s s), .c (.s p)] [] [] (Is (.c (.s (Lib.trimPrefix s p)))) :=
 JD ⟨_, func275, by kernel_rfl, by kernel_rfl⟩ (Tryz.strings_TrimPrefix ⟨⟨s⟩⟩ ⟨⟨p⟩⟩)
theorem qZ (s p : List UInt8) (hs : s.length ≤ 9223372036854775807) : FnS prog 191 [.c (.s s), .c (.s p)] [] [] (Is (.c (.s (Lib.trimSuffix s p)))) :=
 JD ⟨_, func191, by kernel_rfl, by kernel_rfl⟩ (fun w => Tryz.strings_TrimSuffix ⟨⟨s⟩⟩ ⟨⟨p⟩⟩ w hs)
theorem xP (s : List UInt8) (c : UInt8) : FnS prog 187 [.c (.s s), .c (.i .u8 c.toNat)] [] [] (Is (.c (.i .i64 (Lib.indexByte s c)))) :=
 JD ⟨_, func187, by kernel_rfl, by kernel_rfl⟩ (fun w => by
  have := Tryz.strings_IndexByte ⟨⟨s⟩⟩ c.toNat w
  simpa [V.enc, C.enc] using this)
theorem Xh (a b : List UInt8) : FnS prog 112 [.c (.s a), .c (.s b)] [] [] (Is (.c (.i .i64 (Lib.compareBytes a b)))) :=
 JD ⟨_, func112, by kernel_rfl, by kernel_rfl⟩ (Tryz.strings_Compare ⟨⟨a⟩⟩ ⟨⟨b⟩⟩)
theorem Yv (a b : Int) : FnS prog 111 [.c (.i .i64 a), .c (.i .i64 b)] [] [] (Is (.c (.i .i64 (Lib.compareInt a b)))) :=
 JD ⟨_, func111, by kernel_rfl, by kernel_rfl⟩ (Tryz.cmp_Compare_int a b)
theorem GC (s : List UInt8) (c : UInt8) (hc : c.toNat < 128) : FnS prog 294 [.c (.s s), .c (.s [c])] [] [] (Is (.c (.s (Lib.trimLeftB s c)))) :=
 JD ⟨_, func294, by kernel_rfl, by kernel_rfl⟩ (Tryz.strings_TrimLeft_one ⟨⟨s⟩⟩ c hc)
theorem OI (s cs : List UInt8) (hs : s.length ≤ 9223372036854775807) (hc : cs.length < 4294967281) (ha : ∀ (j : Nat) b, cs[j]? = some b → b.toNat < 128) : FnS prog 233 [.c (.s s), .c (.s cs)] [] [] (Is (.c (.s (Lib.trimS s cs)))) :=
 qo ⟨_, func233, by kernel_rfl, by kernel_rfl⟩ (fun w _ _ _ => Any.strings_Trim_laid Tryz.lays160 (by kernel_rfl) ⟨⟨s⟩⟩ ⟨⟨cs⟩⟩ w hs hc ha)
theorem Gi (s p : List UInt8) : FnS prog 244 [.c (.s s), .c (.s p)] [] [] (Is (.t2 (.c (.s (Lib.trimPrefix s p))) (.c (.b (Lib.hasPrefix s p))))) :=
 JD ⟨_, func244, by kernel_rfl, by kernel_rfl⟩ (Tryz.strings_CutPrefix ⟨⟨s⟩⟩ ⟨⟨p⟩⟩)
theorem Ux (s : List UInt8) (c : UInt8) (hc : c.toNat < 128) (hs : s.length ≤ 9223372036854775807) : FnS prog 295 [.c (.s s), .c (.s [c])] [] [] (Is (.c (.s (Lib.trimRightB s c)))) :=
 JD ⟨_, func295, by kernel_rfl, by kernel_rfl⟩ (fun w => Tryz.strings_TrimRight_one ⟨⟨s⟩⟩ c hc w hs)
theorem cut_ok (s sep : List UInt8) (hs : s.length < 4294967281) : FnS prog 189 [.c (.s s), .c (.s sep)] [] [ZX 1]
  (Is (.t3 (.c (.s (Lib.cut s sep).1)) (.c (.s (Lib.cut s sep).2.1)) (.c (.b (Lib.cut s sep).2.2)))) :=
 qo ⟨_, func189, by kernel_rfl, by kernel_rfl⟩ (fun w m hd hw => by
  obtain ⟨n, hn⟩ := jD hd hw
  refine (Tryz.strings_Cut ⟨⟨s⟩⟩ ⟨⟨sep⟩⟩ n w hs hn).mono ?_
  rintro e w' ⟨rfl, k, rfl⟩
  exact ⟨rfl, HV w k⟩)
theorem jJ (s : List UInt8) (c : UInt8) (hs : s.length < 4294967281) : FnS prog 189 [.c (.s s), .c (.s [c])] [] [ZX 1]
  (Is (.t3 (.c (.s (QD c s).1)) (.c (.s (QD c s).2.1)) (.c (.b (QD c s).2.2)))) := by
 rw [← Pa]; exact cut_ok s [c] hs
theorem y5 (s old new : List UInt8) (hs : s.length < 4294967281) (h1 : 1 ≤ old.length) (hlen : s.length + Lib.count s old * new.length ≤ 140737488355328) :
  FnS prog 273 [.c (.s s), .c (.s old), .c (.s new)] [] [ZX 1] (Is (.c (.s (Lib.replaceAll s old new)))) :=
 qo ⟨_, func273, by kernel_rfl, by kernel_rfl⟩ (fun w m hd hw => by
  obtain ⟨n, hn⟩ := jD hd hw
  exact Tryz.strings_ReplaceAll ⟨⟨s⟩⟩ ⟨⟨old⟩⟩ ⟨⟨new⟩⟩ n w hs hn h1 hlen)
theorem y4 (s : List UInt8) (a b : UInt8) (hab : a ≠ b) (hs : s.length < 4294967281) :
  FnS prog 273 [.c (.s s), .c (.s [a]), .c (.s [b])] [] [ZX 1] (Is (.c (.s (s.map fun x => if x = a then b else x)))) := by
 rw [← wP a b hab]
 refine y5 s [a] [b] hs (by simp) ?_
 have : Lib.count s [a] ≤ s.length := by rw [Lib.count_one]; exact List.count_le_length
 simp; omega
theorem VT (s : List UInt8) (c : UInt8) (hs : s.length < 4294967281) : FnS prog 145 [.c (.s s), .c (.s [c])] [] [ZX 1]
  (fun v L D => ∃ g, v = .c (.sl (some ⟨g, 0, none⟩) (Qg c s).length (Qg c s).length) ∧
   L = [.row 9 1 (some ⟨g, 0, none⟩) (Qg c s).length (Qg c s).length ((Qg c s).map C.s)] ∧ D = []) := by
 refine ⟨⟨_, func145, by kernel_rfl, by kernel_rfl⟩, fun w m hh => ?_⟩
 obtain ⟨n, hn⟩ := jD hh.d (fun b o hb => (hh.im b o hb).1)
 refine (Tryz.strings_Split ⟨⟨s⟩⟩ ⟨⟨[c]⟩⟩ n w hs hn (Nat.le_refl 1)).mono ?_
 rintro e w' ⟨rfl, rfl⟩
 have hlen : (Qg c s).length = Lib.countB ⟨⟨s⟩⟩ ⟨⟨[c]⟩⟩ + 1 := by
  have h1 := Lib.splitB_all ⟨⟨[c]⟩⟩ (Nat.le_refl 1) 0 (Lib.countB ⟨⟨s⟩⟩ ⟨⟨[c]⟩⟩) ⟨⟨s⟩⟩ rfl
  rw [← h1, ← zA]
  show (Lib.splitK _ _ _ _).length = _
  rw [show Lib.splitK [c] 0 (Lib.count s [c]) s = Lib.splitK (ByteArray.mk ⟨[c]⟩).data.toList 0 (Lib.countB ⟨⟨s⟩⟩ ⟨⟨[c]⟩⟩) (ByteArray.mk ⟨s⟩).data.toList from rfl, ← Lib.splitB_data, List.length_map]
 have hcells : (Lib.splitB ⟨⟨[c]⟩⟩ 0 (Lib.countB ⟨⟨s⟩⟩ ⟨⟨[c]⟩⟩) ⟨⟨s⟩⟩).map Value.string = ((Qg c s).map C.s).map C.enc := by
  rw [← zA, show Lib.splitK [c] 0 (Lib.count s [c]) s = Lib.splitK (ByteArray.mk ⟨[c]⟩).data.toList 0 (Lib.countB ⟨⟨s⟩⟩ ⟨⟨[c]⟩⟩) (ByteArray.mk ⟨s⟩).data.toList from rfl, ← Lib.splitB_data,
   List.map_map, List.map_map]
  refine List.map_congr_left fun x _ => ?_
  obtain ⟨⟨x⟩⟩ := x
  rfl
 have h0 : Wa w m [] [] := ⟨hh.nd, hh.ok, hh.im, trivial⟩
 have hrow : Chunk.ok (w.alloc (.cells ((Lib.splitB ⟨⟨[c]⟩⟩ 0 (Lib.countB ⟨⟨s⟩⟩ ⟨⟨[c]⟩⟩) ⟨⟨s⟩⟩).map Value.string).toArray 9))
   (.row 9 1 (some ⟨w.heap.size, 0, none⟩) (Qg c s).length (Qg c s).length ((Qg c s).map C.s)) := by
  refine ⟨fun x hx => ?_, .inr ⟨w.heap.size, rfl, _, 0, 0, heap_alloc_new w _, Nat.le_refl _, ?_, ?_, .inr (Nat.le_refl _), by simp, ?_⟩⟩
  ·obtain ⟨y, _, rfl⟩ := List.mem_map.1 hx
   rfl
  ·have := Q5 c s
   have h3 : (4294967281 : Nat) ≤ maxLen := by decide
   omega
  ·rw [hcells]; simp
  ·rw [hcells]; simp only [Nat.mul_one]; exact List.take_of_length_le (by simp)
 obtain ⟨h1, h2⟩ := kg h0 _ _ rfl hrow
 exact ⟨_, _, [], m, by rw [← hlen]; rfl, ⟨w.heap.size, rfl, rfl, rfl⟩, h1, h2⟩
theorem T5 (a : Option Addr) (n c : Nat) (xs : List (List UInt8)) (b : UInt8) (hn : n = xs.length) (hc : n ≤ c) (hN : n ≤ 140737488355328) (hlen : (Z3 b xs).length ≤ 140737488355328) :
  FnS prog 296 [.c (.sl a n c), .c (.s [b])] [] [Qf 9 1 a n (xs.map C.s)] (Is (.c (.s (Z3 b xs)))) :=
 qo ⟨_, func296, by kernel_rfl, by kernel_rfl⟩ (fun w m hd hw => by
  subst hn
  by_cases h0 : xs = []
  ·subst h0
   refine (Tryz.strings_Join_none a c ⟨⟨[b]⟩⟩ w).mono ?_
   rintro e w' ⟨rfl, rfl⟩
   exact ⟨rfl, Below.refl _ _⟩
  ·obtain ⟨g, off, ha, hg, hl, hcl⟩ := PA (ety := 9) hd.1 (fun h => h0 (List.eq_nil_of_length_eq_zero h)) hw
   subst ha
   have e : ((xs.map fun l => (ByteArray.mk ⟨l⟩)).map fun x => x.data.toList) = xs := by
    rw [List.map_map]; exact List.map_id'' (fun _ => rfl) xs
   have hlen' : (xs.map fun l => (ByteArray.mk ⟨l⟩)).length = xs.length := by simp
   refine (show Calls _ _ _ w _ from ?_)
   have := Tryz.strings_Join g off c (xs.map fun l => (ByteArray.mk ⟨l⟩)) ⟨⟨[b]⟩⟩ w (fun j x hx => ?_) hg (by rw [hlen']; exact hN) (by rw [hlen']; exact hc) (by rw [e, Yr]; exact hlen)
   ·rw [e, Yr, hlen'] at this
    exact this
   ·simp only [List.getElem?_map, Option.map_eq_some_iff] at hx
    obtain ⟨l, hl, rfl⟩ := hx
    exact hcl j (.s l) (by simp [hl]))
end Go.Proofs
namespace Go.X
open Go
theorem Oj {n b0 b1 b2 b3 r w : Nat} (h : 128 ≤ b0) (hn : 1 ≤ n) (hb0 : b0 < 256) (hd : Lib.decodeN n b0 b1 b2 b3 = (r, w)) : 128 ≤ r ∧ r ≤ 1114111 ∧ 1 ≤ w ∧ w ≤ n ∧ w ≤ 4 ∧ (2 ≤ w → 128 ≤ b1) ∧ (3 ≤ w → 128 ≤ b2) ∧ (4 ≤ w → 128 ≤ b3) := by
 unfold Lib.decodeN at hd
 rw [if_neg (by omega)] at hd
 split at hd
 ·split at hd <;> (simp only [Prod.mk.injEq] at hd; omega)
 ·split at hd
  ·split at hd <;> (simp only [Prod.mk.injEq] at hd; omega)
  ·split at hd
   ·split at hd <;> (simp only [Prod.mk.injEq] at hd; omega)
   ·simp only [Prod.mk.injEq] at hd; omega
theorem qk (l : List UInt8) (i : Nat) : (⟨⟨l⟩⟩ : ByteArray).get! i = l.getD i 0 := by
 simp [ByteArray.get!, List.getD_eq_getElem?_getD, getElem!_def]
 cases l[i]? <;> rfl
theorem yF {l : List UInt8} {pos : Nat} (h : pos < l.length) (hb : (l.getD pos 0).toNat < 128) : qu l pos = ((l.getD pos 0).toNat, 1) := by
 unfold qu
 rw [Lib.decode_at, qk, Lib.decodeN, if_pos hb]
theorem Eg {l : List UInt8} {pos r n : Nat} (h : pos < l.length) (hb : 128 ≤ (l.getD pos 0).toNat) (hd : qu l pos = (r, n)) :
  128 ≤ r ∧ r ≤ 1114111 ∧ 1 ≤ n ∧ pos + n ≤ l.length ∧ ∀ j, pos ≤ j → j < pos + n → 128 ≤ (l.getD j 0).toNat := by
 unfold qu at hd
 rw [Lib.decode_at, qk, qk, qk, qk] at hd
 have hsz : (⟨⟨l⟩⟩ : ByteArray).size = l.length := rfl
 rw [hsz] at hd
 obtain ⟨h1, h2, h3, h4, h5, h6, h7, h8⟩ := Oj hb (by omega) (by have := (l.getD pos 0).toNat_lt; omega) hd
 refine ⟨h1, h2, h3, by omega, fun j hj hj2 => ?_⟩
 rcases (by omega : j = pos ∨ j = pos + 1 ∨ j = pos + 2 ∨ j = pos + 3) with rfl | rfl | rfl | rfl
 ·exact hb
 ·exact h6 (by omega)
 ·exact h7 (by omega)
 ·exact h8 (by omega)
theorem No {r : Int} {l : List UInt8} (hv : Utf8.valid r = true) (hr : 128 ≤ r) (hl : l = (Utf8.encode r).data.toList) : 2 ≤ l.length ∧ l.length ≤ 4 ∧ 128 ≤ (l.getD ((l.length : Int) - 1).toNat 0).toNat := by
 subst hl
 obtain ⟨h1, h2, h3⟩ := encode_facts r hv hr
 have h0 : (Utf8.encode r).size - 1 < (Utf8.encode r).size := by omega
 have h4 := h3 h0
 have hsz : (Utf8.encode r).data.toList.length = (Utf8.encode r).size := rfl
 rw [hsz]
 refine ⟨h1, h2, ?_⟩
 have h5 : (((Utf8.encode r).size : Int) - 1).toNat = (Utf8.encode r).size - 1 := by omega
 have h6 : (Utf8.encode r).data.toList.getD (((Utf8.encode r).size : Int) - 1).toNat 0 = (Utf8.encode r)[(Utf8.encode r).size - 1]'h0 := by
  rw [h5, List.getD_eq_getElem?_getD, Array.getElem?_toList]
  have : (Utf8.encode r).data[(Utf8.encode r).size - 1]? = some ((Utf8.encode r)[(Utf8.encode r).size - 1]'h0) := Array.getElem?_eq_some_iff.2 ⟨h0, rfl⟩
  rw [this]; rfl
 rw [h6]; exact h4
end Go.X
namespace Go.Proofs
open Go Go.X Go.RowKit Go.Shelf Tryz
set_option maxRecDepth 100000
theorem Uv (r : Int) : FnS prog 290 [.c (.i .i32 r)] [] [] (Is (.c (.b (Utf8.valid r)))) := by
 refine FJ 0 func290 ntmps290 (fun G => ?_)
 repeat' first | refine Wk ?_ | refine Qa.mk (fun h => ?_) (fun h => ?_) | refine Qd.mk (fun ad => ?_) | refine Qe.bool ?_
 all_goals (unfold Utf8.valid; simp; omega)
theorem PN (a b : UInt8) (ha : a.toNat < 128) (hb : b.toNat < 128) (x : UInt8) (hx : x.toNat < 128) : FnS prog 269 [.c (.s [a, b]), .c (.i .i32 x.toNat)] [] [] (fun v L D => ∃ k : Int, v = .c (.i .i64 k) ∧ decide (0 ≤ k) = [a, b].contains x ∧ L = [] ∧ D = []) := by
 have h := JD (D := []) (args := [.c (.s [a, b]), .c (.i .i32 x.toNat)]) (v := .c (.i .i64 (Lib.indexByte [a, b] x))) ⟨_, func269, by kernel_rfl, by kernel_rfl⟩ (fun w => by
  have := Tryz.strings_IndexRune_ascii ⟨⟨[a, b]⟩⟩ x.toNat w (by omega) (by omega)
  simpa [V.enc, C.enc] using this)
 refine h.mono ?_
 rintro v L D ⟨rfl, rfl, rfl⟩
 refine ⟨_, rfl, ?_, rfl, rfl⟩
 simp only [Lib.indexByte]
 by_cases h1 : a = x
 ·subst h1; simp
 ·by_cases h2 : b = x
  ·subst h2; simp [h1]
  ·simp [h1, h2, Ne.symm h1, Ne.symm h2]
theorem PO (a b : UInt8) (ha : a.toNat < 128) (hb : b.toNat < 128) (r : Int) (hr : 128 ≤ r) : FnS prog 269 [.c (.s [a, b]), .c (.i .i32 r)] [] [] (fun v L D => v = .c (.i .i64 (-1)) ∧ L = [] ∧ D = []) := by
 have d0 : qu [a, b] 0 = (a.toNat, 1) := yF (by simp) ha
 have d1 : qu [a, b] 1 = (b.toNat, 1) := yF (by simp) hb
 have hi0 : ∀ y : UInt8, Lib.indexByte [] y = -1 := fun y => rfl
 refine FJ 3000 func269 ntmps269 (fun G => ?_)
 repeat' first | refine QF (c := .seq (.region 37 _ _) _) ?_ | refine QF (c := .scope _) ?_ | refine Wk ?_ | refine Qa.mk (fun h => ?_) (fun h => ?_) | refine Qd.mk (fun ad => ?_) | exact Qe.mk _ [] ⟨rfl, rfl, rfl⟩ Qb.dropAll | refine Qc.isB (Uv r) (fun hv => ?_) (fun hv => ?_)
 ·refine ⟨?_⟩
  repeat' first | refine Wk ?_ | refine Qa.mk (fun h => ?_) (fun h => ?_) | refine Qd.mk (fun ad => ?_) | refine yQ.of d0 ?_ | refine yQ.of d1 ?_ | refine Ji 3 ?_ | refine Kf ?_ | exact Qe.mk _ [] ⟨rfl, rfl, rfl⟩ Qb.dropAll
  exact absurd h (by simp)
 ·refine ⟨?_⟩
  have hab : [a, b].length = 2 := rfl
  have hlo : ∀ i, ([a, b].getD i 0).toNat < 128 := fun i => by
   rcases i with _ | _ | i
   ·exact ha
   ·exact hb
   ·simp
  have hz : ∀ m c, 2 ≤ m → Lib.indexByte (List.drop m [a, b]) c < 0 := fun m c hm => by
   rw [List.drop_eq_nil_of_le (by simp; omega)]; show (-1 : Int) < 0; decide
  repeat' first | refine Wk ?_ | refine Qa.mk (fun h => ?_) (fun h => ?_) | refine Qd.mk (fun ad => ?_) | refine EncE.mk (fun rs hrs => ?_); obtain ⟨h2, h4, hy⟩ := No hv hr hrs; have hx := hlo ((rs.length : Int) - 1).toNat | refine Ji 1 ?_ | refine Kf ?_ | refine Ds (id := 6) [0,0,3,0,0,24,63] [0,1,2,3,4,5,6] [] [] true ?_ | refine Ds (id := 7) [0,0,2,7,0,0,48,127,255] [0,1,2,3,4,5,6,7,8] [] [] true ?_ | refine Ds (id := 14) [0,0,0,6,15,0,0,0,192,480,1023] [0,1,2,3,4,5,6,7,8,9,10] [] [] true ?_ | refine Ds (id := 31) [0,0,0,6,15,0,0,0,192,480,1023] [0,1,2,3,4,5,6,7,8,9,10] [] [] true ?_ | refine Qt.mk Qb.a ?_ | refine Qx.mk [] _ (xP _ _) QX ?_ | refine Qa.yes (hz _ _ (by omega)) ?_ | exact Qe.mk _ [] ⟨rfl, rfl, rfl⟩ Qb.dropAll
  exact absurd (hz _ _ (by omega)) h
theorem UI (n : Int) : FnS prog 270 [.c (.i .i64 n)] [] [] (Is (.c (.b (decide (8 < n))))) := by
 refine FJ 0 func270 ntmps270 (fun G => ?_)
 repeat' first | refine Wk ?_ | refine Qa.mk (fun h => ?_) (fun h => ?_) | refine Qd.mk (fun ad => ?_) | refine Qe.bool ?_
 all_goals (first | exact decide_eq_true (by omega) | exact decide_eq_false (by omega))
theorem Ex : ∀ w, (zeroValue 265).run prog w = .ok (.agg (Array.replicate 256 (.bool false))) w :=
 fun w => (KC (i := ⟨.arr 256 4, 256, 256, .agg (List.replicate 256 (.b false))⟩) ⟨by kernel_rfl, by kernel_rfl, .inl rfl, by show prog.underlying _ = some (.array 256 4); kernel_rfl⟩ w).trans
  (congrArg (fun v => Result.ok v w) (by kernel_rfl))
theorem vh (s : List UInt8) (a b : UInt8) (ha : a.toNat < 128) (hb : b.toNat < 128) (hs : s.length ≤ 8) : FnS prog 234 [.c (.s s), .c (.s [a, b])] [] [] (Is (.c (.i .i64 (Lib.indexAny s [a, b])))) := by
 have hab : [a, b].length = 2 := rfl
 have hnil : ¬ [a, b] = [] := by simp
 refine FJ 2000 func234 ntmps234 (fun G => ?_)
 repeat' first | refine QF (c := .seq (.block 2 _) _) ?_ | refine Wk ?_ | refine Qa.mk (fun h => ?_) (fun h => ?_) | refine Qd.mk (fun ad => ?_) | refine Qa.no hnil ?_ | refine Qc.isB (UI _) (fun hu => absurd (of_decide_eq_true hu) (by omega)) (fun hu => ?_)
 refine Qn (α := Nat) (fun _ => [(1, .c (.s [a, b])), (45, .c (.p 2000 ad 0))]) (fun i => [.obj 2000 ad (.stringIter ⟨⟨s⟩⟩ i)]) (fun _ => []) 2001 (fun i => i ≤ s.length ∧ Lib.NoAny s [a, b] i) (fun i => s.length - i)
  (Qq.mk 0 ⟨by omega, fun j b h => absurd h (by omega)⟩ Qh.a (Qb.refl _ _)) (fun i hi => ?_)
 obtain ⟨hi, hno⟩ := hi
 by_cases hlt : i < s.length
 ·have hg : s[i]? = some (s.getD i 0) := by simp [hlt]
  by_cases hc : (s.getD i 0).toNat < 128
  ·have hcall := PN a b ha hb (s.getD i 0) hc
   have hn : [a, b].contains (s.getD i 0) = false → Lib.NoAny s [a, b] (i + 1) := fun h j x hj hx => by
    by_cases hji : j = i
    ·subst hji; rw [hg] at hx; cases hx; exact h
    ·exact hno j x (by omega) hx
   have hh : [a, b].contains (s.getD i 0) = true → Lib.indexAny s [a, b] = i := fun h => Lib.indexAny_hit hno hg h
   generalize [a, b].contains (s.getD i 0) = z at hcall hn hh
   have hd := yF hlt hc
   generalize (s.getD i 0).toNat = x at *
   repeat' first | refine Wk ?_ | refine Qa.mk (fun h => ?_) (fun h => ?_) | refine Qd.mk (fun ad => ?_) | refine yQ.of hd ?_ | refine Qc.mk [] [_] [] _ hcall QW QX (fun v L' D' hp => ?_); obtain ⟨k, rfl, hk, rfl, rfl⟩ := hp | refine Qe.int ?_ | refine Qo.mk (i + 1) (by omega) ⟨by omega, ?_⟩ Qh.a (Qb.refl _ _)
   ·rw [decide_eq_true (by assumption)] at hk
    exact hh hk.symm
   ·rw [decide_eq_false (by assumption)] at hk
    exact hn hk.symm
  ·repeat' first | refine Wk ?_ | refine Qa.mk (fun h => ?_) (fun h => ?_) | refine Qd.mk (fun ad => ?_) | refine yQ.mk (fun r n hd => ?_); obtain ⟨h1, h2, h3, h4, h5⟩ := Eg hlt (by omega) hd | refine Qc.mk [] [_] [] _ (PO a b ha hb _ (by omega)) QW QX (fun v L' D' hp => ?_); obtain ⟨rfl, rfl, rfl⟩ := hp | refine Qe.int ?_ | refine Qo.mk (i + n) (by omega) ⟨by omega, ?_⟩ Qh.a (Qb.refl _ _)
   intro j x hj hx
   by_cases hji : j < i
   ·exact hno j x hji hx
   ·have h6 := h5 j (by omega) (by omega)
    have h7 : s.getD j 0 = x := by simp [hx]
    rw [h7] at h6
    have h8 : x ≠ a := fun h => by subst h; omega
    have h9 : x ≠ b := fun h => by subst h; omega
    simp [h8, h9]
 ·have hil : i = s.length := by omega
  subst hil
  repeat' first | refine Wk ?_ | refine Qa.mk (fun h => ?_) (fun h => ?_) | refine Qd.mk (fun ad => ?_) | refine Qe.int ?_
  exact Lib.indexAny_none hno
theorem ke (s : List UInt8) (a b : UInt8) (ha : a.toNat < 128) (hb : b.toNat < 128) (hs : s.length < 4294967281) : FnS prog 234 [.c (.s s), .c (.s [a, b])] [] [] (Is (.c (.i .i64 (Lib.indexAny s [a, b])))) := by
 by_cases h8 : s.length ≤ 8
 ·exact vh s a b ha hb h8
 ·refine qo ⟨_, func234, by kernel_rfl, by kernel_rfl⟩ (fun w _ _ _ => ?_)
  refine (Tryz.strings_IndexAny_long Ex ⟨⟨s⟩⟩ ⟨⟨[a, b]⟩⟩ w (Nat.le_refl 2) (by show 8 < s.length; omega) hs (by show 2 < _; decide) (fun j x hx => ?_)).mono ?_
  ·have hm := List.mem_of_getElem? hx
   simp only [List.mem_cons, List.not_mem_nil, or_false] at hm
   rcases hm with rfl | rfl <;> assumption
  ·rintro e w' ⟨rfl, rfl⟩
   refine ⟨rfl, rfl, rfl, rfl, by simp <;> omega, fun k hk => ?_⟩
   rw [heap_alloc_old _ _ (by simp; omega), heap_alloc_old _ _ hk]
theorem yG (s : List UInt8) (a b : UInt8) (ha : a.toNat < 128) (hb : b.toNat < 128) (hs : s.length < 4294967281) : FnS prog 246 [.c (.s s), .c (.s [a, b])] [] [] (Is (.c (.b (decide (0 ≤ Lib.indexAny s [a, b]))))) := by
 refine FJ 0 func246 ntmps246 (fun G => ?_)
 repeat' first | refine Wk ?_ | refine Qa.mk (fun h => ?_) (fun h => ?_) | refine Qd.mk (fun ad => ?_) | refine Qc.is (ke s a b ha hb hs) ?_ | refine Qe.bool ?_
 ·exact decide_eq_true (by assumption)
 ·exact decide_eq_false (by assumption)
end Go.Proofs
namespace Go.X
open Go
theorem notI {n : Int} (h0 : 0 ≤ n) (h1 : n ≤ 9223372036854775807) : K4 .xor .i64 (if IntKind.i64.signed = true then -1 else IntKind.i64.max) n = -1 - n := by
 have e : (if IntKind.i64.signed = true then (-1 : Int) else IntKind.i64.max) = -1 := rfl
 rw [e]
 have hn : (BitVec.ofInt 64 (-1) ^^^ BitVec.ofInt 64 n).toNat = 18446744073709551615 - n.toNat := by
  have h2 : BitVec.ofInt 64 (-1) = BitVec.allOnes 64 := rfl
  rw [h2, BitVec.allOnes_xor, BitVec.toNat_not, BitVec.toNat_ofInt]
  simp
  omega
 have : K4 .xor .i64 (-1) n = IntKind.i64.wrap (BitVec.ofInt 64 (-1) ^^^ BitVec.ofInt 64 n).toNat := rfl
 rw [this, hn]
 have hw : ∀ m : Int, IntKind.i64.wrap m = if m % 18446744073709551616 ≥ 9223372036854775808 then m % 18446744073709551616 - 18446744073709551616 else m % 18446744073709551616 := fun m => by
  unfold IntKind.wrap
  simp [IntKind.signed, IntKind.bits]
 rw [hw]
 split <;> omega
def QB (p : UInt8 → Bool) : List UInt8 → List UInt8 → List (List UInt8)
 | cur, [] => if cur = [] then [] else [cur]
 | cur, b :: r => match p b with
  | true => if cur = [] then QB p [] r else cur :: QB p [] r
  | false => QB p (cur ++ [b]) r
def QA (p : UInt8 → Bool) (s : List UInt8) : List (List UInt8) := QB p [] s
theorem jP {p : UInt8 → Bool} (b : List UInt8) : ∀ (cur r : List UInt8), (∀ x ∈ b, p x = false) → QB p cur (b ++ r) = QB p (cur ++ b) r := by
 induction b with
 | nil => intro cur r _; simp
 | cons x b ih =>
  intro cur r h
  rw [List.cons_append, QB, h x (by simp)]
  show QB p (cur ++ [x]) (b ++ r) = _
  rw [ih _ _ fun y hy => h y (by simp [hy]), List.append_assoc]; rfl
def part (s : List UInt8) (i j : Nat) : List UInt8 := (s.take j).drop i
theorem Sn (s : List UInt8) (i : Nat) : part s i i = [] := by
 unfold part; rw [List.drop_eq_nil_of_le]; simp; omega
theorem G4 {s : List UInt8} {i j k : Nat} (h1 : i ≤ j) (h2 : j ≤ k) (h3 : k ≤ s.length) : part s i k = part s i j ++ part s j k := by
 unfold part
 have e : s.take k = s.take j ++ (s.take k).drop j := by
  conv => lhs; rw [← List.take_append_drop j (s.take k)]
  rw [List.take_take, Nat.min_eq_left h2]
 conv => lhs; rw [e]
 exact List.drop_append_of_le_length (by simp; omega)
theorem Rg {s : List UInt8} {i j : Nat} (h1 : i ≤ j) (h2 : j ≤ s.length) : s.drop i = part s i j ++ s.drop j := by
 unfold part
 conv => lhs; rw [← List.take_append_drop j s]
 exact List.drop_append_of_le_length (by simp; omega)
theorem G3 {s : List UInt8} {i j : Nat} (h1 : i ≤ j) (h2 : j ≤ s.length) : (part s i j).length = j - i := by
 unfold part; simp; omega
theorem SD {s : List UInt8} {i j : Nat} {x : UInt8} (h : x ∈ part s i j) : ∃ k, i ≤ k ∧ k < j ∧ k < s.length ∧ s.getD k 0 = x := by
 unfold part at h
 obtain ⟨k, hk, rfl⟩ := List.mem_iff_getElem.1 h
 simp at hk
 exact ⟨i + k, by omega, by omega, by omega, by simp [show i + k < s.length by omega]⟩
structure zY (p : UInt8 → Bool) (s : List UInt8) (pos : Nat) (sp : List (Nat × Nat)) (st : Int) : Prop where
 ple : pos ≤ s.length
 spl : ∀ x ∈ sp, x.1 ≤ x.2 ∧ x.2 ≤ s.length
 len : sp.length ≤ pos
 lo : -1 - (s.length : Int) ≤ st
 hi : st < pos ∨ st < 0
 w : sp.map (fun x => part s x.1 x.2) ++ QB p (if 0 ≤ st then part s st.toNat pos else []) (s.drop pos) = QA p s
theorem zY.start (p : UInt8 → Bool) (s : List UInt8) : zY p s 0 [] (-1) :=
 ⟨Nat.zero_le _, (fun x hx => by cases hx), Nat.le_refl _, by omega, .inr (by omega), by simp [QA]⟩
theorem zY.plain {p : UInt8 → Bool} {s : List UInt8} {pos : Nat} {sp : List (Nat × Nat)} {st : Int} (h : zY p s pos sp st) {n : Nat} (hn : 1 ≤ n) (hl : pos + n ≤ s.length) (hb : ∀ j, pos ≤ j → j < pos + n → p (s.getD j 0) = false) :
  zY p s (pos + n) sp (if 0 ≤ st then st else pos) := by
 have hw := h.w
 have hall : ∀ x ∈ part s pos (pos + n), p x = false := fun x hx => by
  obtain ⟨k, h1, h2, _, rfl⟩ := SD hx
  exact hb k h1 h2
 rw [Rg (show pos ≤ pos + n by omega) hl, jP _ _ _ hall] at hw
 refine ⟨hl, h.spl, by have := h.len; omega, by have := h.lo; split <;> omega, ?_, ?_⟩
 ·rcases h.hi with h1 | h1 <;> (split <;> omega)
 ·by_cases hs : 0 ≤ st
  ·rw [if_pos hs] at hw ⊢
   have h1 : st < pos := by rcases h.hi with h1 | h1 <;> omega
   rw [if_pos hs, G4 (show st.toNat ≤ pos by omega) (show pos ≤ pos + n by omega) hl]
   exact hw
  ·rw [if_neg hs] at hw ⊢
   rw [if_pos (by omega)]
   simpa using hw
theorem zY.sep {p : UInt8 → Bool} {s : List UInt8} {pos : Nat} {sp : List (Nat × Nat)} {st : Int} (h : zY p s pos sp st) (hl : pos < s.length) (hb : p (s.getD pos 0) = true) (hs : 0 ≤ st) : zY p s (pos + 1) (sp ++ [(st.toNat, pos)]) (-1 - st) := by
 have hw := h.w
 have h1 : st < pos := by rcases h.hi with h1 | h1 <;> omega
 have hd : s.drop pos = s.getD pos 0 :: s.drop (pos + 1) := by rw [List.drop_eq_getElem_cons hl]; simp [hl]
 rw [if_pos hs, hd, QB, hb] at hw
 have hne : part s st.toNat pos ≠ [] := fun hc => by
  have := G3 (s := s) (show st.toNat ≤ pos by omega) h.ple
  rw [hc] at this
  simp at this; omega
 simp only [hne, if_false] at hw
 refine ⟨by omega, fun x hx => ?_, by have := h.len; simp; omega, by have := h.lo; omega, .inr (by omega), ?_⟩
 ·simp only [List.mem_append, List.mem_singleton] at hx
  rcases hx with hx | rfl
  ·exact h.spl x hx
  ·exact ⟨by simp only; omega, h.ple⟩
 ·rw [if_neg (by omega), List.map_append, List.append_assoc]
  exact hw
theorem zY.skip {p : UInt8 → Bool} {s : List UInt8} {pos : Nat} {sp : List (Nat × Nat)} {st : Int} (h : zY p s pos sp st) (hl : pos < s.length) (hb : p (s.getD pos 0) = true) (hs : ¬ 0 ≤ st) : zY p s (pos + 1) sp st := by
 have hw := h.w
 have hd : s.drop pos = s.getD pos 0 :: s.drop (pos + 1) := by rw [List.drop_eq_getElem_cons hl]; simp [hl]
 rw [if_neg hs, hd, QB, hb] at hw
 refine ⟨by omega, h.spl, by have := h.len; omega, h.lo, .inr (by omega), ?_⟩
 rw [if_neg hs]
 simpa using hw
theorem zY.done {p : UInt8 → Bool} {s : List UInt8} {sp : List (Nat × Nat)} {st : Int} (h : zY p s s.length sp st) :
  if 0 ≤ st then (sp ++ [(st.toNat, s.length)]).map (fun x => part s x.1 x.2) = QA p s else sp.map (fun x => part s x.1 x.2) = QA p s := by
 have hw := h.w
 split
 ·rename_i hs
  have h1 : st < s.length := by rcases h.hi with h1 | h1 <;> omega
  have hne : part s st.toNat s.length ≠ [] := fun hc => by
   have := G3 (s := s) (show st.toNat ≤ s.length by omega) (Nat.le_refl _)
   rw [hc] at this
   simp at this; omega
  rw [if_pos hs, List.drop_length, QB, if_neg hne] at hw
  rw [List.map_append]
  exact hw
 ·rename_i hs
  rw [if_neg hs, List.drop_length, QB, if_pos rfl, List.append_nil] at hw
  exact hw
def Qk (c : UInt8) : Bool := c == 32 || c == 9
theorem Rn {l : List UInt8} {pos : Nat} (h : pos < l.length) (hb : Qk (l.getD pos 0) = false) : ∃ r n, qu l pos = (r, n) ∧ r ≠ 32 ∧ r ≠ 9 ∧ r ≤ 1114111 ∧ 1 ≤ n ∧ pos + n ≤ l.length ∧ ∀ j, pos ≤ j → j < pos + n → Qk (l.getD j 0) = false := by
 by_cases hc : (l.getD pos 0).toNat < 128
 ·refine ⟨_, _, yF h hc, ?_, ?_, by omega, Nat.le_refl _, by omega, fun j h1 h2 => ?_⟩
  ·intro he
   have : l.getD pos 0 = 32 := UInt8.toNat_inj.1 he
   rw [this] at hb; cases hb
  ·intro he
   have : l.getD pos 0 = 9 := UInt8.toNat_inj.1 he
   rw [this] at hb; cases hb
  ·have : j = pos := by omega
   subst this; exact hb
 ·rcases hd : qu l pos with ⟨r, n⟩
  obtain ⟨h1, h2, h3, h4, h5⟩ := Eg h (by omega) hd
  refine ⟨r, n, rfl, by omega, by omega, h2, h3, h4, fun j h6 h7 => ?_⟩
  have h8 := h5 j h6 h7
  have h9 : l.getD j 0 ≠ 32 := fun hc => by rw [hc] at h8; exact absurd h8 (by decide)
  have h10 : l.getD j 0 ≠ 9 := fun hc => by rw [hc] at h8; exact absurd h8 (by decide)
  simp only [Qk, Bool.or_eq_false_iff, beq_eq_false_iff_ne]
  exact ⟨h9, h10⟩
theorem Ro {l : List UInt8} {pos : Nat} (h : pos < l.length) (hb : Qk (l.getD pos 0) = true) : ∃ r : Nat, qu l pos = (r, 1) ∧ (r = 32 ∨ r = 9) := by
 have h1 : l.getD pos 0 = 32 ∨ l.getD pos 0 = 9 := by simpa [Qk] using hb
 have hc : (l.getD pos 0).toNat < 128 := by rcases h1 with h1 | h1 <;> (rw [h1]; decide)
 refine ⟨_, yF h hc, ?_⟩
 rcases h1 with h1 | h1 <;> rw [h1]
 ·exact .inl rfl
 ·exact .inr rfl
end Go.X
namespace Go.Proofs
open Go Go.X Go.RowKit Go.Shelf Tryz
set_option maxRecDepth 100000
theorem S5 {ws : List (List UInt8)} {i : Nat} (h : i < ws.length) : ((ws.take i ++ List.replicate (ws.length - i) []).set i ws[i]) = ws.take (i + 1) ++ List.replicate (ws.length - (i + 1)) [] := by
 rw [List.set_append_right _ _ (by simp; omega), List.length_take, Nat.min_eq_left (by omega), Nat.sub_self, show ws.length - i = (ws.length - (i + 1)) + 1 by omega, List.replicate_succ, List.set_cons_zero, List.take_succ_eq_append_getElem h, List.append_assoc]
 rfl
theorem S6 {ws : List (List UInt8)} {i : Nat} (h : i ≤ ws.length) : (ws.take i ++ List.replicate (ws.length - i) []).length = ws.length := by simp; omega
def Lw (sp : List (Nat × Nat)) : List C := sp.flatMap fun x => [.i .i64 x.1, .i .i64 x.2]
theorem vm (f : Nat) (s : List UInt8) (hs : s.length ≤ 4294967296) (hf : ∀ r : Nat, r ≤ 1114111 → FnS prog f [.c (.i .i32 r)] [] [] (Is (.c (.b (decide (r = 32) || decide (r = 9)))))) :
  FnS prog 235 [.c (.s s), .c (.fn f [])] [] [] (fun v L D => ∃ a, v = .c (.sl a (QA Qk s).length (QA Qk s).length) ∧
   L = [.row 9 1 a (QA Qk s).length (QA Qk s).length ((QA Qk s).map C.s)] ∧ D = []) := by
 refine FJ 4000 func235 ntmps235 (fun G => ?_)
 repeat' first | refine Wk ?_ | refine Qa.mk (fun h => ?_) (fun h => ?_) | refine Qd.mk (fun ad => ?_)
 rename_i ad0
 refine Qn (α := Nat × List (Nat × Nat) × Int × Option Addr × Nat) (fun x => [(0, .c (.s s)), (1, .c (.fn f [])), (5, .c (.sl x.2.2.2.1 x.2.1.length x.2.2.2.2)), (6, .c (.i .i64 x.2.2.1)), (14, .c (.p 4000 ad 0))])
  (fun x => [.obj 4000 ad (.stringIter ⟨⟨s⟩⟩ x.1), .row 274 2 x.2.2.2.1 x.2.1.length x.2.2.2.2 (Lw x.2.1)]) (fun _ => []) 4001 (fun x => zY Qk s x.1 x.2.1 x.2.2.1) (fun x => s.length - x.1)
  (Qq.mk (0, [], -1, some ⟨ad0, 0, none⟩, 32) (zY.start _ _) Qh.a (Qb.refl _ _)) (fun x hi => ?_)
 obtain ⟨pos, sp, st, a, c⟩ := x
 simp only at hi ⊢
 have hple := hi.ple
 have hlo := hi.lo
 have hhi := hi.hi
 have hlen := hi.len
 by_cases hlt : pos < s.length
 ·cases hb : Qk (s.getD pos 0) with
  | true =>
   obtain ⟨r, hd, hr⟩ := Ro hlt hb
   have hc := hf r (by omega)
   have hz : (decide (r = 32) || decide (r = 9)) = true := by simpa using hr
   rw [hz] at hc
   by_cases h0 : 0 ≤ st
   ·have hn := notI h0 (by omega)
    have hi2 := hi.sep hlt hb h0
    repeat' first | refine Wk ?_ | refine Qa.mk (fun h => ?_) (fun h => ?_) | refine Qd.mk (fun ad => ?_) | refine yQ.of hd ?_ | refine Qc.is hc ?_ | refine QK.row [_, _] [] (Lw sp) [.i .i64 st, .i .i64 pos] 1 rfl (QJ.sl 274 274 _ _ 1 1 _ rfl rfl (.inl ⟨1, QT⟩) rfl) (by show (sp.length + 1) * 16 ≤ _; omega) (fun a' c' => ?_) | refine Qo.mk (pos + 1, sp ++ [(st.toNat, pos)], -1 - st, a', c') (by show s.length - (pos + 1) < s.length - pos; omega) hi2 Qh.a (Qb.drop.trans (Qb.of (by simp [Lw, Int.toNat_of_nonneg h0])))
   ·have hi2 := hi.skip hlt hb h0
    repeat' first | refine Wk ?_ | refine Qa.mk (fun h => ?_) (fun h => ?_) | refine Qd.mk (fun ad => ?_) | refine yQ.of hd ?_ | refine Qc.is hc ?_ | refine Qo.mk (pos + 1, sp, st, a, c) (by show s.length - (pos + 1) < s.length - pos; omega) hi2 Qh.a (Qb.refl _ _)
  | false =>
   obtain ⟨r, n, hd, h32, h9, hr, hn, hpn, hall⟩ := Rn hlt hb
   have hc := hf r hr
   have hz : (decide (r = 32) || decide (r = 9)) = false := by simp [h32, h9]
   rw [hz] at hc
   have hi2 := hi.plain hn hpn hall
   by_cases h0 : 0 ≤ st
   ·rw [if_pos h0] at hi2
    repeat' first | refine Wk ?_ | refine Qa.mk (fun h => ?_) (fun h => ?_) | refine Qd.mk (fun ad => ?_) | refine yQ.of hd ?_ | refine Qc.is hc ?_ | refine Qo.mk (pos + n, sp, st, a, c) (by show s.length - (pos + n) < s.length - pos; omega) hi2 Qh.a (Qb.refl _ _)
   ·rw [if_neg h0] at hi2
    repeat' first | refine Wk ?_ | refine Qa.mk (fun h => ?_) (fun h => ?_) | refine Qd.mk (fun ad => ?_) | refine yQ.of hd ?_ | refine Qc.is hc ?_ | refine Qo.mk (pos + n, sp, (pos : Int), a, c) (by show s.length - (pos + n) < s.length - pos; omega) hi2 Qh.a (Qb.refl _ _)
 ·have hil : pos = s.length := by omega
  subst hil
  have hdone := hi.done
  have hspl := hi.spl
  repeat' first | refine Kj (x := .seq (.region 12 _ _) _) (α := List (Nat × Nat) × Option Addr × Nat) (fun y => [(0, .c (.s s)), (5, .c (.sl y.2.1 y.1.length y.2.2))]) (fun y => [.row 274 2 y.2.1 y.1.length y.2.2 (Lw y.1)]) (fun _ => []) 4001 (fun y => y.1.map (fun x => X.part s x.1 x.2) = QA Qk s ∧ (∀ x ∈ y.1, x.1 ≤ x.2 ∧ x.2 ≤ s.length) ∧ y.1.length ≤ s.length + 1) ?_ (fun y hy => ?_) | refine QF (c := .seq (.region 14 _ _) _) ?_ | refine Wk ?_ | refine Qa.mk (fun h => ?_) (fun h => ?_) | refine Qd.mk (fun ad => ?_) | refine QK.row [_, _] [] (Lw sp) [.i .i64 st, .i .i64 s.length] 1 rfl (QJ.sl 274 274 _ _ 1 1 _ rfl rfl (.inl ⟨1, QT⟩) rfl) (by show (sp.length + 1) * 16 ≤ _; omega) (fun a' c' => ?_) | refine Qq.mk (sp, a, c) ⟨?_, hspl, ?_⟩ Qh.a Qb.drop | refine Qq.mk (sp ++ [(st.toNat, s.length)], a', c') ⟨?_, ?_, ?_⟩ Qh.a (Qb.drop.trans (Qb.drop.trans (Qb.of (by simp [Lw, Int.toNat_of_nonneg ‹0 ≤ st›]))))
  ·rw [if_pos (by assumption)] at hdone; exact hdone
  ·intro x hx
   simp only [List.mem_append, List.mem_singleton] at hx
   rcases hx with hx | rfl
   ·exact hspl x hx
   ·exact ⟨by simp only; omega, Nat.le_refl _⟩
  ·simp; omega
  ·rw [if_neg (by assumption)] at hdone; exact hdone
  ·simp only; omega
  ·refine ⟨?_⟩
   clear hi hspl hdone
   obtain ⟨sp, a, c⟩ := y
   obtain ⟨hw, hsp, hl⟩ := hy
   simp only at hw hsp hl ⊢
   have hwl : (QA Qk s).length = sp.length := by rw [← hw]; simp
   have hrep : ∀ n, XA n [C.s []] = (List.replicate n []).map C.s := fun n => by
    induction n with
    | zero => rfl
    | succ n ih => rw [XA, ih, List.replicate_succ]; rfl
   rw [hwl]
   generalize hws : QA Qk s = ws at *
   repeat' first | refine Wk ?_ | refine Qa.mk (fun h => ?_) (fun h => ?_) | refine Qd.mk (fun ad => ?_)
   refine Qn (α := Nat) (fun i => [(0, .c (.s s)), (9, .c (.sl (some ⟨ad, 0, none⟩) sp.length sp.length)), (47, .c (.sl a sp.length c)), (48, .c (.i .i64 sp.length)), (49, .c (.i .i64 i))])
    (fun i => [.row 9 1 (some ⟨ad, 0, none⟩) sp.length sp.length ((ws.take i ++ List.replicate (ws.length - i) []).map C.s), .row 274 2 a sp.length c (Lw sp)]) (fun _ => []) 4001 (fun i => i ≤ sp.length) (fun i => sp.length - i)
    (Qq.mk 0 (Nat.zero_le _) Qh.a (Qb.of (by rw [hrep]; simp [hwl]))) (fun i hi => ?_)
   by_cases hlt : i < sp.length
   ·have hx := hsp sp[i] (List.getElem_mem hlt)
    have hcell : ((Lw sp).drop (i * 2 + 0)).take 2 = [.i .i64 sp[i].1, .i .i64 sp[i].2] := by rw [Lw, QL (F := fun x : Nat × Nat => [C.i .i64 (x.1 : Int), .i .i64 (x.2 : Int)]) (z := 2) (fun _ => rfl) hlt (by omega)]; rfl
    have hwi : ws[i]'(by omega) = X.part s sp[i].1 sp[i].2 := by simp [← hw]
    have hfs := S5 (ws := ws) (i := i) (by omega)
    have hfl := S6 (ws := ws) (i := i) (by omega)
    rw [hwi] at hfs
    generalize sp[i] = x at *
    repeat' first | refine Wk ?_ | refine Qa.mk (fun h => ?_) (fun h => ?_) | refine Qd.mk (fun ad => ?_) | refine Qr.a 274 2 _ (.inl ⟨c, ZR⟩) ?_ | refine Qi.mk 274 _ _ _ (.inl ⟨c, ZR⟩) (by omega) (by omega) (by omega) hcell ?_ | refine Qr.a 9 1 _ (.inl ⟨sp.length, ZR⟩) ?_ | refine Xp.mk [_] [_] 9 _ _ ((ws.take i ++ List.replicate (ws.length - i) []).map C.s) _ rfl (by omega) (by omega) (by simp) (xp (f := C.s) (by omega)) ?_ | refine Qo.mk (i + 1) (by omega) (by omega) Qh.a (Qb.drop.trans (Qb.of ?_))
    rw [← hfs]; rfl
   ·have hil : i = sp.length := by omega
    subst hil
    repeat' first | refine Wk ?_ | refine Qa.mk (fun h => ?_) (fun h => ?_) | refine Qd.mk (fun ad => ?_) | refine Qe.mk _ [] ⟨_, rfl, ?_, rfl⟩ ((Qb.perm (List.Perm.swap _ _ _)).trans Qb.drop)
    rw [← hwl]; simp
end Go.Proofs
namespace Go.X
abbrev Bs := List UInt8
structure JL where
 name : Bs
 a : Option Addr
 c : Nat
 mem : List Bs
structure Pf where
 allow : Bool
 right : Int
 group : Bs
 kind : Int
 sp : Int
 nm : Bs
structure Ph where
 strict : Bool
 group : Bs
 sp : Int
 nm : Bs
 sect : Bs
def JL.cells (g : JL) : List C := [.s g.name, .sl g.a g.mem.length g.c]
def Pf.cells (r : Pf) : List C := [.b r.allow, .i .i64 r.right, .s r.group, .i .i64 r.kind, .i .i64 r.sp, .s r.nm]
def Ph.cells (g : Ph) : List C := [.b g.strict, .s g.group, .i .i64 g.sp, .s g.nm, .s g.sect]
def YR (l : List JL) : List C := l.flatMap JL.cells
def wO (l : List Pf) : List C := l.flatMap Pf.cells
def kD (l : List Ph) : List C := l.flatMap Ph.cells
def Zz (gs : List JL) : Fact :=
 ⟨fun m => ∀ g ∈ gs, Z8 m 0 1 g.a g.mem.length (g.mem.map C.s), fun m m' hm h g hg => (Qf 0 1 g.a g.mem.length (g.mem.map C.s)).mono m m' hm (h g hg)⟩
def VA (c : UInt8) : Bool :=
 !((decide ((c.toNat : Int) < 97) || decide (122 < (c.toNat : Int))) && (decide ((c.toNat : Int) < 48) || decide (57 < (c.toNat : Int))) && !decide ((c.toNat : Int) = 45) && !decide ((c.toNat : Int) = 95))
def QV (s : Bs) : Bool :=
 !decide ((s.length : Int) < 1) && !decide (30 < (s.length : Int)) && !decide (((s.getD 0 0).toNat : Int) < 97) && !decide (122 < ((s.getD 0 0).toNat : Int)) && s.all VA
def bAll : Bs := [97, 108, 108]
def Ou : Bs := [117, 115, 101, 114, 115]
def zV (s : Bs) : Bool := decide (s = bAll) || decide (s = Ou)
def ZY (ns : List Bs) (s : Bs) : Bool := zV s || ns.any fun x => decide (x = s)
def WI (ns : List Bs) : List Bs → Int
 | [] => 0
 | m :: r => if QV (Lib.trimPrefix m [64]) = false then 1 else if Lib.hasPrefix m [64] = true ∧ ZY ns (Lib.trimPrefix m [64]) = false then 4 else WI ns r
def Kw (ns ahead : List Bs) (name : Bs) (mem : List Bs) : Int :=
 if QV name = false then 1 else if ZY ahead name = true then 5 else if 24 < (mem.length : Int) then 3 else WI ns mem
def xq (kind sp : Int) (nm : Bs) : Bool :=
 if kind = 1 then decide (sp = 0 ∧ nm = []) else if kind = 2 then decide (0 ≤ sp) && decide (sp < 6) && decide (nm = []) else if kind = 3 then Qw sp nm else false
def WC (ns : List Bs) (r : Pf) : Int :=
 if r.right < 1 ∨ 5 < r.right then 2 else if ZY ns r.group = false then 4 else if xq r.kind r.sp r.nm = false then 7 else 0
def Qy (s : Bs) : Bs := Lib.trimS s [32, 9]
def Y5 (s : Bs) : Bool := !decide (100 < (s.length : Int)) && !s.any (fun c => c == 10 || c == 124) && decide (Qy s = s)
def JI (ns : List Bs) (g : Ph) : Int :=
 if ZY ns g.group = false then 4 else if (Qw g.sp g.nm && Y5 g.sect) = false then 7 else 0
def ZU : List Int → Int
 | [] => 0
 | e :: r => if e = 0 then ZU r else e
abbrev GP := List (Bs × List Bs)
def Ka (gs : GP) : List Int := gs.mapIdx fun i g => Kw (gs.map (·.1)) ((gs.map (·.1)).take i) g.1 g.2
def Zg (gs : GP) (rs : List Pf) (xs : List Ph) : Int :=
 if 24 < (gs.length : Int) ∨ 64 < (rs.length : Int) ∨ 64 < (xs.length : Int) then 3
 else ZU (Ka gs ++ rs.map (WC (gs.map (·.1))) ++ xs.map (JI (gs.map (·.1))))
def XU (gs : List JL) : GP := gs.map fun g => (g.name, g.mem)
end Go.X
namespace Go.X
theorem xg (s cs : Bs) : (Lib.trimS s cs).length ≤ s.length := by
 unfold Lib.trimS Lib.trimLeftS Lib.trimRightS
 refine Nat.le_trans (List.dropWhile_sublist _).length_le ?_
 rw [List.length_reverse]
 refine Nat.le_trans (List.dropWhile_sublist _).length_le ?_
 rw [List.length_reverse]; exact Nat.le_refl _
theorem KL (s : Bs) : (Qy s).length ≤ s.length := xg s _
def Qv (s : Bs) : Bs × Bs :=
 if Lib.indexAny (Qy s) [32, 9] < 0 then (Qy s, []) else ((Qy s).take (Lib.indexAny (Qy s) [32, 9]).toNat, Qy ((Qy s).drop (Lib.indexAny (Qy s) [32, 9]).toNat))
theorem Jw (s : Bs) : (Qv s).1.length ≤ s.length ∧ (Qv s).2.length ≤ s.length := by
 have h := xg s [32, 9]
 unfold Qv
 split
 ·exact ⟨h, Nat.zero_le _⟩
 ·refine ⟨?_, ?_⟩
  ·exact Nat.le_trans (by rw [List.length_take]; exact Nat.min_le_right _ _) h
  ·refine Nat.le_trans (xg _ _) (Nat.le_trans ?_ h)
   rw [List.length_drop]; exact Nat.sub_le _ _
theorem Ho (s : Bs) (cs : Bs) : Lib.indexAny s cs < s.length := by
 induction s with
 | nil => show (-1 : Int) < _; simp
 | cons x r ih =>
  rw [Lib.indexAny]
  split
  ·simp
  ·split
   ·simp; omega
   ·simp; omega
def Xc : List Bs → Bs → Int
 | [], _ => -1
 | y :: r, x => if x = y then 0 else if Xc r x < 0 then -1 else Xc r x + 1
theorem Wg (xs : List Bs) (x : Bs) : -1 ≤ Xc xs x ∧ Xc xs x < xs.length := by
 induction xs with
 | nil => exact ⟨Int.le_refl _, by show (-1 : Int) < _; simp⟩
 | cons y r ih =>
  rw [Xc]
  split
  ·simp
  ·split
   ·simp; omega
   ·simp; omega
def QU : List Bs := [[114, 101, 97, 100], [101, 100, 105, 116], [109, 111, 118, 101], [100, 101, 108, 101, 116, 101], [114, 101, 118, 105, 101, 119]]
def ZN : List Bs := [[60, 77, 97, 105, 110, 62], [60, 84, 97, 108, 107, 62], [60, 85, 115, 101, 114, 62], [60, 84, 101, 109, 112, 108, 97, 116, 101, 62], [60, 67, 97, 116, 101, 103, 111, 114, 121, 62], [60, 80, 114, 111, 106, 101, 99, 116, 62]]
def Ez : Bs := [60, 97, 108, 108, 62]
abbrev P3 := GP × List Pf × List Ph
def Ys (q : P3) (rest : Bs) : Bool × P3 :=
 (!decide ((Qv rest).1 = []), (q.1 ++ [((Qv rest).1, QA Qk (Qv rest).2)], q.2.1, q.2.2))
def Yn (s : Bs) : Option (Int × Int × Bs) :=
 if s = Ez then some (1, 0, []) else if 0 ≤ Xc ZN s then some (2, Xc ZN s, []) else if (Zd s).2.2 = 0 then some (3, (Zd s).1, (Zd s).2.1) else none
def xA (q : P3) (rest : Bs) (allow : Bool) : Bool × P3 :=
 let w := Qv rest
 let n := Qv w.2
 if Xc QU w.1 + 1 = 0 then (false, q) else match Yn n.2 with
  | none => (false, q)
  | some (k, sp, nm) => (true, (q.1, q.2.1 ++ [⟨allow, Xc QU w.1 + 1, n.1, k, sp, nm⟩], q.2.2))
def Vj (q : P3) (rest : Bs) (strict : Bool) : Bool × P3 :=
 let w := Qv rest
 let c := QD 124 w.2
 let t := Zd (Qy c.1)
 if t.2.2 ≠ 0 ∨ (c.2.2 = true ∧ Qy c.2.1 = []) then (false, q) else (true, (q.1, q.2.1, q.2.2 ++ [⟨strict, w.1, t.1, t.2.1, Qy c.2.1⟩]))
def wGroup : Bs := [103, 114, 111, 117, 112]
def wAllow : Bs := [97, 108, 108, 111, 119]
def wDeny : Bs := [100, 101, 110, 121]
def wGuard : Bs := [103, 117, 97, 114, 100]
def wStrict : Bs := [115, 116, 114, 105, 99, 116]
def Ju (q : P3) (line : Bs) : Bool × P3 :=
 let w := Qv line
 if w.1 = [] ∨ w.1.getD 0 0 = 35 then (true, q)
 else if w.1 = wGroup then Ys q w.2
 else if w.1 = wAllow ∨ w.1 = wDeny then xA q w.2 (decide (w.1 = wAllow))
 else if w.1 = wGuard ∨ w.1 = wStrict then Vj q w.2 (decide (w.1 = wStrict))
 else (false, q)
def XE (s : Bs) : Bs := s.dropWhile Qk
def Zu (s : Bs) : Bs := (s.reverse.dropWhile Qk).reverse
def nb (c : UInt8) : Bool := !Qk c
theorem Kc (c : UInt8) : ([32, 9] : Bs).contains c = Qk c := by
 unfold Qk
 simp only [List.contains_cons, List.contains_nil, Bool.or_false]
theorem Jt (s : Bs) : Qy s = XE (Zu s) := by
 unfold Qy Lib.trimS Lib.trimLeftS Lib.trimRightS XE Zu
 rw [show (([32, 9] : Bs).contains ·) = Qk from funext Kc]
theorem Yt {p : UInt8 → Bool} {a b : Bs} (h : ∀ x ∈ a, p x = true) : (a ++ b).dropWhile p = b.dropWhile p := by
 induction a with
 | nil => rfl
 | cons x r ih => rw [List.cons_append, List.dropWhile_cons, if_pos (h x (by simp)), ih fun y hy => h y (by simp [hy])]
theorem yA {p : UInt8 → Bool} {a : Bs} (h : ∀ x ∈ a, p x = false) : a.dropWhile p = a := by
 cases a with
 | nil => rfl
 | cons x r => rw [List.dropWhile_cons, if_neg (by rw [h x (by simp)]; simp)]
theorem Ym {p : UInt8 → Bool} {a : Bs} {x : UInt8} (h : x ∈ a.takeWhile p) : p x = true := by
 induction a with
 | nil => cases h
 | cons y r ih =>
  rw [List.takeWhile_cons] at h
  split at h
  ·rcases List.mem_cons.1 h with rfl | h
   ·assumption
   ·exact ih h
  ·cases h
theorem Xz {p : UInt8 → Bool} (a : Bs) : a.dropWhile p = [] ∨ ∃ x r, a.dropWhile p = x :: r ∧ p x = false := by
 induction a with
 | nil => exact .inl rfl
 | cons y r ih =>
  rw [List.dropWhile_cons]
  split
  ·exact ih
  ·rename_i h; exact .inr ⟨y, r, rfl, by simpa using h⟩
theorem Uj {w : Bs} (h : ∀ x ∈ w, Qk x = false) (x : Bs) : Zu (w ++ x) = w ++ Zu x := by
 unfold Zu
 rw [List.reverse_append, List.dropWhile_append]
 split
 ·rename_i he
  rw [yA fun y hy => h y (by simpa using hy)]
  simp at he
  rw [List.reverse_reverse, show x.reverse.dropWhile Qk = [] from by simpa using he]; simp
 ·rw [List.reverse_append, List.reverse_reverse]
theorem kx (s : Bs) : ∃ B, s = Zu s ++ B ∧ ∀ x ∈ B, Qk x = true := by
 refine ⟨(s.reverse.takeWhile Qk).reverse, ?_, fun x hx => Ym (by simpa using hx)⟩
 unfold Zu
 rw [← List.reverse_append, List.takeWhile_append_dropWhile, List.reverse_reverse]
theorem qt (s : Bs) : ∃ A, s = A ++ XE s ∧ ∀ x ∈ A, Qk x = true := ⟨s.takeWhile Qk, (List.takeWhile_append_dropWhile).symm, fun _ h => Ym h⟩
theorem HF {s : Bs} (h : ∀ x ∈ s, Qk x = true) : Zu s = [] := by
 unfold Zu
 have := Yt (p := Qk) (a := s.reverse) (b := []) (fun x hx => h x (by simpa using hx))
 rw [List.append_nil] at this
 rw [this]; rfl
theorem yC (s : Bs) : Zu (Zu s) = Zu s := by
 unfold Zu
 rw [List.reverse_reverse]
 rcases Xz (p := Qk) s.reverse with h | ⟨x, r, h, hx⟩
 ·rw [h]; rfl
 ·rw [h, List.dropWhile_cons, if_neg (by rw [hx]; simp)]
theorem Og (s : Bs) : XE (XE s) = XE s := by
 unfold XE
 rcases Xz (p := Qk) s with h | ⟨x, r, h, hx⟩
 ·rw [h]; rfl
 ·rw [h, List.dropWhile_cons, if_neg (by rw [hx]; simp)]
theorem zS (s : Bs) : XE (Zu s) = Zu (XE s) := by
 obtain ⟨A, hA, hb⟩ := qt s
 rcases Xz (p := Qk) s with h | ⟨x, r, h, hx⟩
 ·have hs : XE s = [] := h
  rw [hs] at hA ⊢
  rw [List.append_nil] at hA
  rw [hA, HF hb]; rfl
 ·have hs : XE s = x :: r := h
  rw [hs] at hA ⊢
  have h1 : Zu (x :: r) = x :: Zu r := Uj (w := [x]) (fun y hy => by simp at hy; rw [hy]; exact hx) r
  have h2 : Zu (A ++ (x :: r)) = A ++ Zu (x :: r) := by
   rw [h1]
   unfold Zu
   rw [List.reverse_append, List.dropWhile_append, if_neg, List.reverse_append, List.reverse_reverse]
   ·have h3 := h1
    unfold Zu at h3
    rw [h3]
   ·intro he
    have h3 := h1
    unfold Zu at h3
    have h4 : (x :: r).reverse.dropWhile Qk = [] := by simpa using he
    rw [h4] at h3
    cases h3
  rw [hA, h2, h1]
  unfold XE
  rw [Yt hb, List.dropWhile_cons, if_neg (by rw [hx]; simp)]
theorem zw (s : Bs) : Qy (Qy s) = Qy s := by
 rw [Jt, Jt s, zS s, yC, zS, Og]
theorem VO (s : Bs) : Qy (Zu s) = Qy s := by rw [Jt, Jt, yC]
theorem VJ {A : Bs} (h : ∀ x ∈ A, Qk x = true) (x : Bs) : QB Qk [] (A ++ x) = QB Qk [] x := by
 induction A with
 | nil => rfl
 | cons a A ih => rw [List.cons_append, QB, h a (by simp)]; exact ih fun y hy => h y (by simp [hy])
theorem Ur {B : Bs} (h : ∀ x ∈ B, Qk x = true) (x : Bs) : ∀ cur, QB Qk cur (x ++ B) = QB Qk cur x := by
 induction x with
 | nil =>
  intro cur
  cases B with
  | nil => rfl
  | cons b B =>
   have := VJ (A := B) (fun y hy => h y (by simp [hy])) []
   rw [List.append_nil] at this
   have e : QB Qk cur (b :: B) = if cur = [] then QB Qk [] B else cur :: QB Qk [] B := by rw [QB, h b (by simp)]
   rw [List.nil_append, e, this]
   by_cases hc : cur = [] <;> simp [QB, hc]
 | cons y x ih =>
  intro cur
  rw [List.cons_append, QB, QB, ih, ih]
theorem H9 (s : Bs) : QA Qk (Qy s) = QA Qk s := by
 rw [Jt]
 obtain ⟨B, hB, hb⟩ := kx s
 obtain ⟨A, hA, ha⟩ := qt (Zu s)
 unfold QA
 conv => rhs; rw [hB, Ur hb, hA, VJ ha]
theorem Ga {w : Bs} (h : ∀ x ∈ w, Qk x = false) {x : UInt8} (hx : Qk x = true) (r : Bs) : Lib.indexAny (w ++ x :: r) [32, 9] = w.length := by
 induction w with
 | nil => rw [List.nil_append, Lib.indexAny, if_pos (by rw [Kc]; exact hx)]; rfl
 | cons y w ih =>
  have := ih fun z hz => h z (by simp [hz])
  rw [List.cons_append, Lib.indexAny, if_neg (by rw [Kc, h y (by simp)]; simp), this, if_neg (by simp), List.length_cons]
  omega
theorem indexAny_none {w : Bs} (h : ∀ x ∈ w, Qk x = false) : Lib.indexAny w [32, 9] = -1 := by
 induction w with
 | nil => rfl
 | cons y w ih =>
  have := ih fun z hz => h z (by simp [hz])
  rw [Lib.indexAny, if_neg (by rw [Kc, h y (by simp)]; simp), this, if_pos (by simp)]
def wd (s : Bs) : Bs := (XE s).takeWhile nb
def X6 (s : Bs) : Bs := (XE s).dropWhile nb
theorem Gv {s : Bs} {x : UInt8} (h : x ∈ wd s) : Qk x = false := by
 have := Ym h
 simpa [nb] using this
theorem wA (s : Bs) : Qy s = wd s ++ Zu (X6 s) := by
 rw [Jt, zS]
 conv => lhs; rw [← List.takeWhile_append_dropWhile (p := nb) (l := XE s)]
 exact Uj (fun x hx => Gv hx) _
theorem yD {s : Bs} (h : s = [] ∨ ∃ x r, s = x :: r ∧ Qk x = true) : Zu s = [] ∨ ∃ x r, Zu s = x :: r ∧ Qk x = true := by
 obtain ⟨B, hB, _⟩ := kx s
 rcases h with h | ⟨x, r, h, hx⟩
 ·subst h; exact .inl rfl
 ·cases hd : Zu s with
  | nil => exact .inl rfl
  | cons y q =>
   rw [hd, h] at hB
   injection hB with h1 _
   exact .inr ⟨y, q, rfl, by rw [← h1]; exact hx⟩
theorem Wj (s : Bs) : X6 s = [] ∨ ∃ x r, X6 s = x :: r ∧ Qk x = true := by
 rcases Xz (p := nb) (XE s) with h | ⟨x, r, h, hx⟩
 ·exact .inl h
 ·exact .inr ⟨x, r, h, by simpa [nb] using hx⟩
theorem YK (s : Bs) : Qv s = (wd s, Qy (X6 s)) := by
 unfold Qv
 rw [wA s]
 rcases yD (Wj s) with h | ⟨x, r, h, hx⟩
 ·rw [h, List.append_nil, if_pos (by rw [indexAny_none fun x hx => Gv hx]; decide)]
  rw [← VO, h]; rfl
 ·rw [h, Ga (fun x hx => Gv hx) hx, if_neg (by omega), Int.toNat_natCast, List.take_left', List.drop_left', ← h, VO]
  ·rfl
  ·rfl
theorem Ta (s : Bs) : QA Qk s = if (Qv s).1 = [] then [] else (Qv s).1 :: QA Qk (Qv s).2 := by
 rw [YK]
 show _ = if wd s = [] then [] else wd s :: QA Qk (Qy (X6 s))
 rw [H9]
 obtain ⟨A, hA, ha⟩ := qt s
 have h1 : QA Qk s = QB Qk (wd s) (X6 s) := by
  unfold QA
  conv => lhs; rw [hA, VJ ha, ← List.takeWhile_append_dropWhile (p := nb) (l := XE s)]
  have := jP (p := Qk) (wd s) [] (X6 s) (fun x hx => Gv hx)
  rw [List.nil_append] at this
  exact this
 rw [h1]
 rcases Wj s with h | ⟨x, r, h, hx⟩
 ·rw [h]; unfold QA QB; rfl
 ·rw [h]
  unfold QA
  rw [QB, QB, hx]
  simp only [if_true]
  split
  ·rename_i hw
   exfalso
   have h2 : XE s = wd s ++ X6 s := (List.takeWhile_append_dropWhile).symm
   rw [hw, h, List.nil_append] at h2
   rcases Xz (p := Qk) s with h3 | ⟨y, q, h3, hy⟩
   ·rw [show XE s = [] from h3] at h2; cases h2
   ·rw [show XE s = y :: q from h3] at h2
    injection h2 with h4 _
    rw [h4, hx] at hy; cases hy
  ·rfl
def Q8 : Bs → Nat → Bs
 | s, 0 => Qy s
 | s, n + 1 => Q8 ((Qy s).dropWhile nb) n
theorem zD (s : Bs) : ∀ n, Q8 (Qy s) n = Q8 s n
 | 0 => zw s
 | n + 1 => by rw [Q8, Q8, zw]
theorem zE (s : Bs) (n : Nat) : Q8 s (n + 1) = Q8 (Qv s).2 n := by
 rw [Q8, YK, wA]
 show _ = Q8 (Qy (X6 s)) n
 rw [zD]
 have h : (wd s ++ Zu (X6 s)).dropWhile nb = Zu (X6 s) := by
  rw [Yt fun x hx => by have := Gv hx; simp [nb, this]]
  rcases yD (Wj s) with h | ⟨x, r, h, hx⟩
  ·rw [h]; rfl
  ·rw [h, List.dropWhile_cons, if_neg (by simp [nb, hx])]
 rw [h, ← zD, VO, zD]
theorem GT (s : Bs) : ∀ n, (Q8 s n).length ≤ s.length := by
 intro n
 induction n generalizing s with
 | zero => exact KL s
 | succ n ih =>
  rw [Q8]
  exact Nat.le_trans (ih _) (Nat.le_trans (List.dropWhile_sublist _).length_le (KL s))
theorem zK (s : Bs) : Qy (Qv s).2 = (Qv s).2 := by rw [YK]; exact zw _
theorem PS (s : Bs) : Q8 s 1 = (Qv s).2 := by rw [zE, Q8, zK]
theorem vM (s : Bs) : Q8 s 2 = (Qv (Qv s).2).2 := by rw [zE, PS]
theorem GR (s : Bs) : Q8 s 3 = (Qv (Qv (Qv s).2).2).2 := by rw [zE, vM]
theorem Tb {s : Bs} (h : wd s = []) : XE s = [] := by
 have h2 : XE s = wd s ++ X6 s := (List.takeWhile_append_dropWhile).symm
 rw [h, List.nil_append] at h2
 rcases Xz (p := Qk) s with h3 | ⟨y, q, h3, hy⟩
 ·exact h3
 ·rcases Wj s with h4 | ⟨x, r, h4, hx⟩
  ·rw [h2, h4]
  ·rw [h4, show XE s = y :: q from h3] at h2
   injection h2 with h5 _
   rw [h5, hx] at hy; cases hy
theorem XB (s : Bs) : (QA Qk s = [] ∧ (Qv s).1 = [] ∧ (Qv s).2 = []) ∨ ((Qv s).1 ≠ [] ∧ QA Qk s = (Qv s).1 :: QA Qk (Qv s).2) := by
 have h := Ta s
 by_cases hw : (Qv s).1 = []
 ·rw [if_pos hw] at h
  refine .inl ⟨h, hw, ?_⟩
  rw [YK] at hw ⊢
  have h2 := Tb hw
  show Qy (X6 s) = []
  unfold X6
  rw [h2]; rfl
 ·rw [if_neg hw] at h
  exact .inr ⟨hw, h⟩
theorem zH : (Zd []).2.2 ≠ 0 := by
 have hv : Qw (Y2 []) (Vz []) = false := by
  cases h : Qw (Y2 []) (Vz []) with
  | false => rfl
  | true =>
   have h1 := XZ h
   have h2 := yf []
   simp at h2
   rw [h2] at h1
   simp at h1
 have hn := yf []
 unfold Zd
 rw [hv]
 split <;> simp
theorem wH : Yn [] = none := by
 unfold Yn
 rw [if_neg (by decide), if_neg (by decide), if_neg zH]
theorem Pw {q : P3} {s : Bs} (h : QA Qk s = []) : Ju q s = (true, q) := by
 rcases XB s with ⟨_, h1, _⟩ | ⟨_, h2⟩
 ·unfold Ju; simp only; rw [if_pos (.inl h1)]
 ·rw [h] at h2; cases h2
theorem Wm {s a : Bs} {w : List Bs} (h : QA Qk s = a :: w) : a ≠ [] ∧ (Qv s).1 = a ∧ QA Qk (Qv s).2 = w := by
 rcases XB s with ⟨h1, _⟩ | ⟨h1, h2⟩
 ·rw [h] at h1; cases h1
 ·rw [h] at h2
  injection h2 with h3 h4
  exact ⟨h3 ▸ h1, h3.symm, h4.symm⟩
theorem Px {q : P3} {s a : Bs} {w : List Bs} (h : QA Qk s = a :: w) (ha : a.getD 0 0 = 35) : Ju q s = (true, q) := by
 obtain ⟨_, h1, _⟩ := Wm h
 unfold Ju; simp only; rw [if_pos (.inr (by rw [h1]; exact ha))]
theorem Tr {q : P3} {s : Bs} {w : List Bs} (h : QA Qk s = wGroup :: w) : Ju q s = (!decide (w = []), (q.1 ++ [(w.getD 0 [], w.drop 1)], q.2.1, q.2.2)) := by
 obtain ⟨_, h1, h2⟩ := Wm h
 unfold Ju
 simp only [h1]
 rw [if_neg (by decide), if_pos trivial]
 unfold Ys
 rcases XB (Qv s).2 with ⟨h3, h4, h5⟩ | ⟨h3, h4⟩
 ·rw [h2] at h3
  subst h3
  rw [h4, h5]; rfl
 ·rw [h2] at h4
  subst h4
  simp [h3]
def wM (q : P3) (allow : Bool) (w : List Bs) (x : Bs) : Bool × P3 :=
 if w.length < 3 ∨ Xc QU (w.getD 0 []) + 1 = 0 then (false, q) else match Yn x with
  | none => (false, q)
  | some (k, sp, nm) => (true, (q.1, q.2.1 ++ [⟨allow, Xc QU (w.getD 0 []) + 1, w.getD 1 [], k, sp, nm⟩], q.2.2))
def qg (q : P3) (strict : Bool) (w : List Bs) (x : Bs) : Bool × P3 :=
 if w.length < 2 then (false, q) else
 let c := QD 124 x
 let t := Zd (Qy c.1)
 if t.2.2 ≠ 0 ∨ (c.2.2 = true ∧ Qy c.2.1 = []) then (false, q) else (true, (q.1, q.2.1, q.2.2 ++ [⟨strict, w.getD 0 [], t.1, t.2.1, Qy c.2.1⟩]))
theorem Pq : Qy [] = [] := rfl
theorem Pv {q : P3} {s a : Bs} {w : List Bs} (h : QA Qk s = a :: w) (ha : a = wAllow ∨ a = wDeny) : Ju q s = wM q (decide (a = wAllow)) w (Q8 s 3) := by
 obtain ⟨_, h1, h2⟩ := Wm h
 have hx : a.getD 0 0 ≠ 35 ∧ a ≠ wGroup := by rcases ha with rfl | rfl <;> decide
 unfold Ju
 simp only [h1]
 rw [if_neg (fun hc => hc.elim (fun h0 => by rcases ha with rfl | rfl <;> cases h0) hx.1), if_neg hx.2, if_pos ha, GR]
 unfold xA wM
 simp only
 rcases XB (Qv s).2 with ⟨h3, h4, h5⟩ | ⟨h3, h4⟩
 ·rw [h2] at h3; subst h3
  rw [h4, h5, if_pos (by decide), if_pos (by simp)]
 rw [h2] at h4
 have e0 : w.getD 0 [] = (Qv (Qv s).2).1 := by rw [h4]; rfl
 rw [e0]
 generalize Qv (Qv s).2 = n1 at *
 obtain ⟨w1, r1⟩ := n1
 simp only at *
 by_cases hi : Xc QU w1 + 1 = 0
 ·rw [if_pos hi, if_pos (.inr hi)]
 rw [if_neg hi]
 rcases XB r1 with ⟨h5, h6, h7⟩ | ⟨h5, h6⟩
 ·rw [if_pos (.inl (by rw [h4, h5]; simp)), h7, wH]
 rcases XB (Qv r1).2 with ⟨h7, h8, h9⟩ | ⟨h7, h8⟩
 ·rw [if_pos (.inl (by rw [h4, h6, h7]; simp))]
  have : (Qv r1).2 = [] := by
   have := zK r1
   have h10 := wA (Qv r1).2
   rw [YK] at h8
   have h11 := Tb h8
   rw [← this, Jt, zS, h11]; rfl
  rw [this, wH]
 ·have hl : ¬ (w.length < 3 ∨ Xc QU w1 + 1 = 0) := by
   rw [h4, h6, h8]; simp; omega
  rw [if_neg hl]
  have e1 : w.getD 1 [] = (Qv r1).1 := by rw [h4, h6]; rfl
  rw [e1]
theorem Tq {q : P3} {s a : Bs} {w : List Bs} (h : QA Qk s = a :: w) (ha : a = wGuard ∨ a = wStrict) : Ju q s = qg q (decide (a = wStrict)) w (Q8 s 2) := by
 obtain ⟨_, h1, h2⟩ := Wm h
 have hx : a.getD 0 0 ≠ 35 ∧ a ≠ wGroup ∧ a ≠ wAllow ∧ a ≠ wDeny ∧ a ≠ [] := by rcases ha with rfl | rfl <;> decide
 unfold Ju
 simp only [h1]
 rw [if_neg (by intro hc; exact hc.elim hx.2.2.2.2 hx.1), if_neg hx.2.1, if_neg (by intro hc; exact hc.elim hx.2.2.1 hx.2.2.2.1), if_pos ha, vM]
 unfold Vj qg
 simp only
 rcases XB (Qv s).2 with ⟨h3, h4, h5⟩ | ⟨h3, h4⟩
 ·rw [h2] at h3; subst h3
  rw [h5, if_pos (show ([] : List Bs).length < 2 by decide), if_pos (.inl zH)]
 rw [h2] at h4
 have e0 : w.getD 0 [] = (Qv (Qv s).2).1 := by rw [h4]; rfl
 rw [e0]
 generalize hn : Qv (Qv s).2 = n1 at *
 obtain ⟨w1, r1⟩ := n1
 simp only at *
 rcases XB r1 with ⟨h5, h6, h7⟩ | ⟨h5, h6⟩
 ·rw [if_pos (show w.length < 2 by rw [h4, h5]; simp)]
  have : r1 = [] := by
   have := zK (Qv s).2
   rw [hn] at this
   rw [YK] at h6
   have h11 := Tb h6
   simp only at this
   rw [← this, Jt, zS, h11]; rfl
  rw [this, if_pos (.inl zH)]
 ·rw [if_neg (show ¬ w.length < 2 by rw [h4, h6]; simp)]
theorem Tp {q : P3} {s a : Bs} {w : List Bs} (h : QA Qk s = a :: w) (h0 : a.getD 0 0 ≠ 35) (h1 : a ≠ wGroup) (h2 : a ≠ wAllow) (h3 : a ≠ wDeny) (h4 : a ≠ wGuard) (h5 : a ≠ wStrict) : Ju q s = (false, q) := by
 obtain ⟨h7, h6, _⟩ := Wm h
 unfold Ju
 simp only [h6]
 rw [if_neg (not_or.2 ⟨h7, h0⟩), if_neg h1, if_neg (not_or.2 ⟨h2, h3⟩), if_neg (not_or.2 ⟨h4, h5⟩)]
theorem RH {p : UInt8 → Bool} (r : Bs) : ∀ cur w, w ∈ QB p cur r → w.length ≤ cur.length + r.length := by
 induction r with
 | nil =>
  intro cur w h
  rw [QB] at h
  split at h
  ·cases h
  ·rw [List.mem_singleton.1 h]; simp
 | cons b r ih =>
  intro cur w h
  rw [QB] at h
  split at h
  ·split at h
   ·have := ih _ _ h; simp at this ⊢; omega
   ·rcases List.mem_cons.1 h with rfl | h
    ·omega
    ·have := ih _ _ h; simp at this ⊢; omega
  ·have := ih _ _ h; simp at this ⊢; omega
theorem vw {p : UInt8 → Bool} (r : Bs) : ∀ cur, (QB p cur r).length ≤ r.length + 1 := by
 induction r with
 | nil => intro cur; rw [QB]; split <;> simp
 | cons b r ih =>
  intro cur
  rw [QB]
  split
  ·split
   ·have := ih []; simp; omega
   ·have := ih []; simp; omega
  ·have := ih (cur ++ [b]); simp; omega
theorem vQ (s : Bs) : (Zd s).2.1.length ≤ s.length := by
 have := yf s
 unfold Zd
 split
 ·exact Nat.zero_le _
 ·split
  ·exact this
  ·exact Nat.zero_le _
structure jg (B n : Nat) (q : P3) : Prop where
 gl : q.1.length ≤ n
 rl : q.2.1.length ≤ n
 xl : q.2.2.length ≤ n
 gb : ∀ g ∈ q.1, g.1.length ≤ B ∧ g.2.length ≤ B + 1 ∧ ∀ m ∈ g.2, m.length ≤ B
 rb : ∀ r ∈ q.2.1, r.nm.length ≤ B
 xb : ∀ x ∈ q.2.2, x.nm.length ≤ B ∧ x.sect.length ≤ B
theorem jg.nil (B : Nat) : jg B 0 ([], [], []) := ⟨Nat.le_refl _, Nat.le_refl _, Nat.le_refl _, fun _ h => (by cases h), fun _ h => (by cases h), fun _ h => (by cases h)⟩
theorem jg.more {B n m : Nat} {q : P3} (h : jg B n q) (hm : n ≤ m) : jg B m q := ⟨Nat.le_trans h.gl hm, Nat.le_trans h.rl hm, Nat.le_trans h.xl hm, h.gb, h.rb, h.xb⟩
theorem jg.group {B n : Nat} {q : P3} (h : jg B n q) {s : Bs} (hs : s.length ≤ B) : jg B (n + 1) (Ys q s).2 := by
 have hn := Jw s
 refine ⟨by simp [Ys]; exact h.gl, by have := h.rl; simp only [Ys]; omega, by have := h.xl; simp only [Ys]; omega, fun g hg => ?_, h.rb, h.xb⟩
 rcases List.mem_append.1 hg with hg | hg
 ·exact h.gb g hg
 ·rw [List.mem_singleton.1 hg]
  refine ⟨by simp only; omega, ?_, fun m hm => ?_⟩
  ·have := vw (p := Qk) (Qv s).2 []
   simp only; unfold QA; omega
  ·have := RH (p := Qk) (Qv s).2 [] m hm
   simp at this; omega
theorem PG {s : Bs} {k sp : Int} {nm : Bs} (h : Yn s = some (k, sp, nm)) : nm.length ≤ s.length := by
 unfold Yn at h
 have := vQ s
 split at h
 ·cases h; simp
 ·split at h
  ·cases h; simp
  ·split at h
   ·cases h; exact this
   ·cases h
theorem jg.rule {B n : Nat} {q : P3} (h : jg B n q) {s : Bs} (hs : s.length ≤ B) (al : Bool) : jg B (n + 1) (xA q s al).2 := by
 have hn := Jw s
 have hn2 := Jw (Qv s).2
 have h1 := h.more (Nat.le_succ n)
 unfold xA
 simp only
 split
 ·exact h1
 ·split
  ·exact h1
  ·rename_i k sp nm hsc
   have := PG hsc
   refine ⟨h1.gl, by simp; exact h.rl, h1.xl, h.gb, fun r hr => ?_, h.xb⟩
   rcases List.mem_append.1 hr with hr | hr
   ·exact h.rb r hr
   ·rw [List.mem_singleton.1 hr]; simp only; omega
theorem jg.guard {B n : Nat} {q : P3} (h : jg B n q) {s : Bs} (hs : s.length ≤ B) (st : Bool) : jg B (n + 1) (Vj q s st).2 := by
 have hn := Jw s
 have hc1 := JJ 124 (Qv s).2
 have hc2 := WO 124 (Qv s).2
 have h1 := h.more (Nat.le_succ n)
 unfold Vj
 simp only
 split
 ·exact h1
 ·refine ⟨h1.gl, h1.rl, by simp; exact h.xl, h.gb, h.rb, fun x hx => ?_⟩
  rcases List.mem_append.1 hx with hx | hx
  ·exact h.xb x hx
  ·rw [List.mem_singleton.1 hx]
   have h2 := vQ (Qy (QD 124 (Qv s).2).1)
   have h3 := KL (QD 124 (Qv s).2).1
   have h4 := KL (QD 124 (Qv s).2).2.1
   exact ⟨by simp only; omega, by simp only; omega⟩
theorem jg.stmt {B n : Nat} {q : P3} (h : jg B n q) {s : Bs} (hs : s.length ≤ B) : jg B (n + 1) (Ju q s).2 := by
 have hn := Jw s
 have h1 := h.more (Nat.le_succ n)
 unfold Ju
 simp only
 split
 ·exact h1
 ·split
  ·exact h.group (by omega)
  ·split
   ·exact h.rule (by omega) _
   ·split
    ·exact h.guard (by omega) _
    ·exact h1
def K8 : P3 → Nat → List Bs → P3 × Nat
 | q, _, [] => (q, 0)
 | q, i, l :: r => if (Ju q l).1 = true then K8 (Ju q l).2 (i + 1) r else (([], [], []), i + 1)
def Oe (r : P3 × Nat) : P3 × Int × Int :=
 if r.2 ≠ 0 then (([], [], []), (r.2 : Int), 1) else if Zg r.1.1 r.1.2.1 r.1.2.2 ≠ 0 then (([], [], []), 0, Zg r.1.1 r.1.2.1 r.1.2.2) else (r.1, 0, 0)
def Zi (s : Bs) : P3 × Int × Int :=
 if 8192 < (s.length : Int) then (([], [], []), 0, 3) else Oe (K8 ([], [], []) 0 (Qg 10 s))
end Go.X
namespace Go.X
open Go.Lib
theorem Ky : ∀ a b : List UInt8, compareBytes a b = -1 ∨ compareBytes a b = 0 ∨ compareBytes a b = 1
 | [], [] => by simp [compareBytes]
 | [], _ :: _ => by simp [compareBytes]
 | _ :: _, [] => by simp [compareBytes]
 | x :: a, y :: b => by
  have := Ky a b
  simp only [compareBytes]
  split
  ·simp
  ·split
   ·simp
   ·exact this
theorem OH {x y : UInt8} : x < y ↔ x.toNat < y.toNat := UInt8.lt_iff_toNat_lt
theorem u8_eq {x y : UInt8} : x = y ↔ x.toNat = y.toNat := ⟨fun h => by rw [h], UInt8.toNat_inj.1⟩
theorem YL : ∀ a b : List UInt8, Op.bytesLess a b = true ↔ compareBytes a b = -1
 | [], [] => by simp [compareBytes, Op.bytesLess]
 | [], _ :: _ => by simp [compareBytes, Op.bytesLess]
 | _ :: _, [] => by simp [compareBytes, Op.bytesLess]
 | x :: a, y :: b => by
  have ih := YL a b
  simp only [Op.bytesLess, compareBytes, Bool.or_eq_true, decide_eq_true_eq, Bool.and_eq_true, beq_iff_eq, ih, OH, u8_eq]
  split
  ·simp_all
  ·split
   ·constructor
    ·rintro (h | ⟨h, _⟩) <;> omega
    ·intro h; omega
   ·constructor
    ·rintro (h | ⟨_, h⟩)
     ·omega
     ·exact h
    ·intro h; exact .inr ⟨by omega, h⟩
theorem KJ : ∀ a b : List UInt8, compareBytes a b = 0 ↔ a = b
 | [], [] => by simp [compareBytes]
 | [], _ :: _ => by simp [compareBytes]
 | _ :: _, [] => by simp [compareBytes]
 | x :: a, y :: b => by
  have ih := KJ a b
  simp only [compareBytes, List.cons.injEq, OH, u8_eq]
  split
  ·constructor
   ·intro h; omega
   ·rintro ⟨h, _⟩; omega
  ·split
   ·constructor
    ·intro h; omega
    ·rintro ⟨h, _⟩; omega
   ·rw [ih]
    exact ⟨fun h => ⟨by omega, h⟩, fun h => h.2⟩
theorem jK : ∀ a b : List UInt8, compareBytes a b = - compareBytes b a
 | [], [] => by simp [compareBytes]
 | [], _ :: _ => by simp [compareBytes]
 | _ :: _, [] => by simp [compareBytes]
 | x :: a, y :: b => by
  have ih := jK a b
  simp only [compareBytes, OH]
  split
  ·rw [if_neg (by omega)]
  ·split
   ·rfl
   ·exact ih
theorem zU : ∀ a b c : List UInt8, compareBytes a b ≤ 0 → compareBytes b c ≤ 0 → compareBytes a c ≤ 0
 | [], [], _, _, h => h
 | [], _ :: _, [], _, h => by simp [compareBytes] at h
 | [], _ :: _, _ :: _, _, _ => by simp [compareBytes]
 | _ :: _, [], _, h, _ => by simp [compareBytes] at h
 | _ :: _, _ :: _, [], _, h => by simp [compareBytes] at h
 | x :: a, y :: b, z :: c, h1, h2 => by
  have ih := zU a b c
  simp only [compareBytes, OH] at *
  split at h1
  ·split at h2
   ·rw [if_pos (by omega)]; omega
   ·split at h2
    ·omega
    ·rw [if_pos (by omega)]; omega
  ·split at h1
   ·omega
   ·split at h2
    ·rw [if_pos (by omega)]; omega
    ·split at h2
     ·omega
     ·rw [if_neg (by omega), if_neg (by omega)]; exact ih h1 h2
theorem Om (a b : Int) : (a < b ∧ compareInt a b = -1) ∨ (a = b ∧ compareInt a b = 0) ∨ (b < a ∧ compareInt a b = 1) := by
 unfold compareInt
 rcases Int.lt_trichotomy a b with h | h | h
 ·rw [if_pos h]; exact .inl ⟨h, rfl⟩
 ·rw [if_neg (by omega), if_neg (by omega)]; exact .inr (.inl ⟨h, rfl⟩)
 ·rw [if_neg (by omega), if_pos h]; exact .inr (.inr ⟨h, rfl⟩)
theorem Je (a : Int) (x : List UInt8) (b : Int) (y : List UInt8) : QH a x b y = 0 ↔ a = b ∧ x = y := by
 have h := KJ x y
 unfold QH
 rcases Om a b with ⟨h0, h1⟩ | ⟨h0, h1⟩ | ⟨h0, h1⟩ <;> rw [h1] <;> simp
 ·omega
 ·rw [h]; exact ⟨fun e => ⟨h0, e⟩, fun e => e.2⟩
 ·omega
theorem Yu (a : Int) (x : List UInt8) (b : Int) (y : List UInt8) : QH a x b y = - QH b y a x := by
 have h := jK x y
 unfold QH
 rcases Om a b with ⟨h0, h1⟩ | ⟨h0, h1⟩ | ⟨h0, h1⟩ <;> rcases Om b a with ⟨h2, h3⟩ | ⟨h2, h3⟩ | ⟨h2, h3⟩ <;> rw [h1, h3] <;> simp <;> first | omega | exact h
theorem WP {a : Int} {x : List UInt8} {b : Int} {y : List UInt8} {c : Int} {z : List UInt8} (h1 : QH a x b y ≤ 0) (h2 : QH b y c z ≤ 0) : QH a x c z ≤ 0 := by
 have h := zU x y z
 unfold QH at *
 rcases Om a b with ⟨p0, p1⟩ | ⟨p0, p1⟩ | ⟨p0, p1⟩ <;> rcases Om b c with ⟨q0, q1⟩ | ⟨q0, q1⟩ | ⟨q0, q1⟩ <;> rcases Om a c with ⟨r0, r1⟩ | ⟨r0, r1⟩ | ⟨r0, r1⟩ <;> rw [p1] at h1 <;> rw [q1] at h2 <;> rw [r1] <;> simp at * <;> first | omega | exact h h1 h2 | skip
structure RV where
 num : Int
 user : Bs
 note : Bs
 text : Bs
 min : Int
 seq : Int
 deriving DecidableEq
instance : Inhabited RV := ⟨⟨0, [], [], [], 0, 0⟩⟩
def RV.cells (r : RV) : List C := [.i .i64 r.num, .s r.user, .s r.note, .s r.text, .i .i64 r.min, .i .i64 r.seq]
def Zb (l : List RV) : List C := l.flatMap RV.cells
structure SP where
 sp : Int
 nm : Bs
 hist : List RV
 deriving DecidableEq
instance : Inhabited SP := ⟨⟨0, [], []⟩⟩
structure PP where
 id : Int
 user : Bs
 note : Bs
 sp : Int
 nm : Bs
 base : Int
 text : Bs
 min : Int
 deriving DecidableEq
def PP.cells (p : PP) : List C := [.i .i64 p.id, .s p.user, .s p.note, .i .i64 p.sp, .s p.nm, .i .i64 p.base, .s p.text, .i .i64 p.min]
def XI (l : List PP) : List C := l.flatMap PP.cells
structure WT where
 user : Bs
 sp : Int
 nm : Bs
 deriving DecidableEq
def WT.cells (p : WT) : List C := [.s p.user, .i .i64 p.sp, .s p.nm]
def ZM (l : List WT) : List C := l.flatMap WT.cells
structure LU where
 user : Bs
 seq : Int
 deriving DecidableEq
def LU.cells (p : LU) : List C := [.s p.user, .i .i64 p.seq]
def ZV (l : List LU) : List C := l.flatMap LU.cells
structure ST where
 seq : Int
 clk : Int
 pages : List SP
 gone : List SP
 props : List PP
 proposed : Int
 watches : List WT
 lasts : List LU
 deriving DecidableEq
def ST.nil : ST := ⟨0, 0, [], [], [], 0, [], []⟩
structure CH where
 kind : Int
 user : Bs
 note : Bs
 sp : Int
 nm : Bs
 tsp : Int
 tnm : Bs
 text : Bs
 n : Int
 hist : List RV
 deriving DecidableEq
def Xg (s : Bs) : Bool := decide (s = []) || QV s
def policyNm : Bs := [80, 111, 108, 105, 99, 121]
def Q2 {α : Type} (p : α → Bool) : List α → Int
 | [] => -1
 | x :: r => if p x = true then 0 else if Q2 p r < 0 then -1 else Q2 p r + 1
def YX (sp : Int) (nm : Bs) (p : SP) : Bool := decide (p.sp = sp ∧ p.nm = nm)
def Kv {α : Type} (lt : α → Bool) (l : List α) (x : α) : List α := l.takeWhile lt ++ x :: l.dropWhile lt
def je (sp : Int) (nm : Bs) (p : SP) : Bool := decide (QH p.sp p.nm sp nm < 0)
def GN (clk sq i mi se : Int) (r : RV) : Bool :=
 decide (r.num = i + 1) && decide ((r.text.length : Int) ≤ 8192) && decide ((r.note.length : Int) ≤ 200) && Xg r.user && decide (mi ≤ r.min) && decide (r.min ≤ clk) && decide (se ≤ r.seq) && decide (r.seq ≤ sq)
def ZK (clk sq : Int) : Int → Int → Int → List RV → Bool
 | _, _, _, [] => true
 | i, mi, se, r :: l => GN clk sq i mi se r && ZK clk sq (i + 1) r.min r.seq l
def Yg (clk sq : Int) (l : List RV) : Bool := decide (1 ≤ (l.length : Int)) && decide ((l.length : Int) ≤ 40) && ZK clk sq 0 0 1 l
def XK (clk sq : Int) (p : SP) : Bool := Qw p.sp p.nm && Yg clk sq p.hist
def qS {α : Type} (lt : α → α → Bool) : List α → Bool
 | [] => true
 | [_] => true
 | x :: y :: r => lt x y && qS lt (y :: r)
def ltP (a b : SP) : Bool := decide (QH a.sp a.nm b.sp b.nm < 0)
def qv (p : SP) : RV := p.hist.getLast?.getD default
def OO (s : ST) (sp : Int) (nm : Bs) : Option SP := s.pages.find? (YX sp nm)
def Ko (s : ST) : Bool :=
 match OO s 5 policyNm with
 | none => true
 | some p => decide ((Zi (qv p).text).2.2 = 0)
def Va (s : ST) : Bool := decide ((s.pages.length : Int) ≤ 200) && decide ((s.gone.length : Int) ≤ 100) && s.pages.all (XK s.clk s.seq) && qS ltP s.pages && s.gone.all (XK s.clk s.seq) && Ko s
def vd (clk proposed last : Int) (p : PP) : Bool :=
 decide (last < p.id) && decide (p.id ≤ proposed) && Xg p.user && Qw p.sp p.nm && decide (0 ≤ p.base) && decide (p.base ≤ 40) && decide ((p.text.length : Int) ≤ 8192) && decide ((p.note.length : Int) ≤ 200) && decide (0 ≤ p.min) && decide (p.min ≤ clk)
def KR (clk proposed : Int) : Int → List PP → Bool
 | _, [] => true
 | last, p :: l => vd clk proposed last p && KR clk proposed p.id l
def Kq (s : ST) : Bool := decide ((s.props.length : Int) ≤ 40) && decide (0 ≤ s.proposed) && decide (s.proposed ≤ 1073741824) && KR s.clk s.proposed 0 s.props
def U6 (a b : Bs) : Bool := decide (Lib.compareBytes a b < 0)
def kP (a b : WT) : Bool := U6 a.user b.user || (decide (a.user = b.user) && decide (QH a.sp a.nm b.sp b.nm < 0))
def Pj (w : WT) : Bool := QV w.user && Qw w.sp w.nm
def Hf (sq : Int) (x : LU) : Bool := QV x.user && decide (1 ≤ x.seq) && decide (x.seq ≤ sq)
def Ku (s : ST) : Bool := decide ((s.watches.length : Int) ≤ 100) && decide ((s.lasts.length : Int) ≤ 60) && s.watches.all Pj && qS kP s.watches && s.lasts.all (Hf s.seq) && qS (fun a b => U6 a.user b.user) s.lasts
def Zl (s : ST) : Bool := decide (0 ≤ s.seq) && decide (s.seq ≤ 1073741824) && decide (0 ≤ s.clk) && decide (s.clk ≤ 52595999) && Va s && Kq s && Ku s
def noteK (c : CH) : Bool := decide (c.kind = 1) || decide (c.kind = 9)
def numK (c : CH) : Bool := decide (c.kind = 4) || decide (c.kind = 6) || decide (c.kind = 9) || decide (c.kind = 10)
def jt (c : CH) : Bool := !decide (c.kind = 6) && !decide (c.kind = 10)
def KZ (c : CH) : Bool :=
 decide (1 ≤ c.kind) && decide (c.kind ≤ 10) && (noteK c || (decide (c.note = []) && decide (c.text = []))) && (numK c || decide (c.n = 0)) && (jt c || decide (c.sp = 0 ∧ c.nm = [])) && (!decide (c.kind = 6) || decide (c.user = [])) && (decide (c.kind = 4) || decide (c.tsp = 0 ∧ c.tnm = [])) && (decide (c.kind = 5) || decide (c.hist = []))
def Yx (i mi : Int) (r : RV) : Bool := decide (r.num = i + 1) && decide (r.seq = 0) && Xg r.user && decide (0 ≤ r.min) && decide (r.min ≤ 52595999) && decide (mi ≤ r.min)
def XV : Int → Int → List RV → Bool
 | _, _, [] => true
 | i, mi, r :: l => Yx i mi r && XV (i + 1) r.min l
def Z7 (l : List RV) : Bool := decide (1 ≤ (l.length : Int)) && decide ((l.length : Int) ≤ 40) && XV 0 0 l
def Xf (c : CH) : Bool :=
 (!jt c || Qw c.sp c.nm) && Xg c.user &&
 (if c.kind = 7 ∨ c.kind = 8 then !decide (c.user = []) else if c.kind = 4 then Qw c.tsp c.tnm && (decide (c.n = 0) || decide (c.n = 1)) else if c.kind = 6 then decide (1 ≤ c.n) && decide (c.n ≤ 52596000) else if c.kind = 9 then decide (0 ≤ c.n) && decide (c.n ≤ 40) else if c.kind = 10 then decide (1 ≤ c.n) && decide (c.n ≤ 1073741824) else if c.kind = 5 then Z7 c.hist else true)
def rvLong (r : RV) : Bool := decide (8192 < (r.text.length : Int)) || decide (200 < (r.note.length : Int))
def QM (c : CH) : Int :=
 if KZ c = false then 7 else if Xf c = false then 2 else if 8192 < (c.text.length : Int) ∨ 200 < (c.note.length : Int) then 3 else if c.hist.any rvLong = true then 3 else 0
def Vc (s : ST) (i : Int) : SP := s.pages.getD i.toNat default
def K7 (s : ST) (c : CH) (sq : Int) : ST × Int :=
 if Q2 (YX c.sp c.nm) s.pages < 0 then
  (if 200 ≤ (s.pages.length : Int) then (s, 8) else ({ s with pages := Kv (je c.sp c.nm) s.pages ⟨c.sp, c.nm, [⟨1, c.user, c.note, c.text, s.clk, sq⟩]⟩ }, 0))
 else
  (if 40 ≤ ((Vc s (Q2 (YX c.sp c.nm) s.pages)).hist.length : Int) then (s, 8) else
   ({ s with pages := s.pages.modify (Q2 (YX c.sp c.nm) s.pages).toNat fun p => { p with hist := p.hist ++ [⟨(p.hist.length : Int) + 1, c.user, c.note, c.text, s.clk, sq⟩] } }, 0))
def Xa (l : List PP) (sp : Int) (nm : Bs) : List PP := l.filter fun p => !decide (p.sp = sp ∧ p.nm = nm)
def JA (s : ST) (c : CH) : ST × Int :=
 if Q2 (YX c.sp c.nm) s.pages < 0 then (s, 4) else if 100 ≤ (s.gone.length : Int) then (s, 8) else
  ({ s with gone := s.gone ++ [Vc s (Q2 (YX c.sp c.nm) s.pages)], pages := s.pages.eraseIdx (Q2 (YX c.sp c.nm) s.pages).toNat, props := Xa s.props c.sp c.nm }, 0)
def Jr {α : Type} (p : α → Bool) : List α → Int
 | [] => -1
 | x :: r => if 0 ≤ Jr p r then Jr p r + 1 else if p x = true then 0 else -1
def XS (s : ST) (c : CH) : ST × Int :=
 if 0 ≤ Q2 (YX c.sp c.nm) s.pages then (s, 5) else if Jr (YX c.sp c.nm) s.gone < 0 then (s, 4) else if 200 ≤ (s.pages.length : Int) then (s, 8) else
  ({ s with pages := Kv (je c.sp c.nm) s.pages (s.gone.getD (Jr (YX c.sp c.nm) s.gone).toNat default), gone := s.gone.eraseIdx (Jr (YX c.sp c.nm) s.gone).toNat }, 0)
def JF (sp : Int) (nm : Bs) : Bs := [35, 82, 69, 68, 73, 82, 69, 67, 84, 32, 91, 91] ++ JC sp nm ++ [93, 93]
def VB (s : ST) (c : CH) (sq : Int) : ST × Int :=
 if Q2 (YX c.sp c.nm) s.pages < 0 then (s, 4) else if 0 ≤ Q2 (YX c.tsp c.tnm) s.pages then (s, 5) else if c.n = 1 ∧ 200 ≤ (s.pages.length : Int) then (s, 8) else
  let l := Kv (je c.tsp c.tnm) (s.pages.eraseIdx (Q2 (YX c.sp c.nm) s.pages).toNat) ⟨c.tsp, c.tnm, (Vc s (Q2 (YX c.sp c.nm) s.pages)).hist⟩
  ({ s with pages := if c.n = 1 then Kv (je c.sp c.nm) l ⟨c.sp, c.nm, [⟨1, c.user, [], JF c.tsp c.tnm, s.clk, sq⟩]⟩ else l, props := Xa s.props c.sp c.nm }, 0)
def Vw (s : ST) (c : CH) (sq : Int) : ST × Int :=
 if 0 ≤ Q2 (YX c.sp c.nm) s.pages then (s, 5) else if s.clk < (c.hist.getLast?.getD default).min then (s, 2) else if 200 ≤ (s.pages.length : Int) then (s, 8) else
  ({ s with pages := Kv (je c.sp c.nm) s.pages ⟨c.sp, c.nm, c.hist.map fun r => { r with seq := sq }⟩ }, 0)
def zd (s : ST) (c : CH) : ST × Int := if 52595999 - s.clk < c.n then (s, 2) else ({ s with clk := s.clk + c.n }, 0)
def Xm (s : ST) (c : CH) : ST × Int :=
 let w : WT := ⟨c.user, c.sp, c.nm⟩
 let a := s.watches.takeWhile fun x => kP x w
 let b := s.watches.dropWhile fun x => kP x w
 if c.kind = 8 then (if b.head? = some w then ({ s with watches := a ++ b.tail }, 0) else (s, 4))
 else if b.head? = some w then (s, 5) else if 100 ≤ (s.watches.length : Int) then (s, 8) else ({ s with watches := a ++ w :: b }, 0)
def Jc (s : ST) (c : CH) : ST × Int :=
 if 40 ≤ (s.props.length : Int) ∨ 1073741824 ≤ s.proposed then (s, 8) else
  ({ s with proposed := s.proposed + 1, props := s.props ++ [⟨s.proposed + 1, c.user, c.note, c.sp, c.nm, c.n, c.text, s.clk⟩] }, 0)
def WA (s : ST) (c : CH) : ST × Int :=
 let l := s.props.filter fun p => !decide (p.id = c.n)
 if l.length = s.props.length then (s, 4) else ({ s with props := l }, 0)
def Zm (s : ST) (c : CH) (sq : Int) : ST × Int :=
 if c.kind = 1 then K7 s c sq else if c.kind = 2 then JA s c else if c.kind = 3 then XS s c else if c.kind = 4 then VB s c sq else if c.kind = 5 then Vw s c sq else if c.kind = 6 then zd s c else if c.kind = 7 ∨ c.kind = 8 then Xm s c else if c.kind = 9 then Jc s c else WA s c
def xN (sp : Int) (nm : Bs) : Bool := decide (sp = 5 ∧ nm = policyNm)
def Zx (c : CH) : Bool :=
 if c.kind = 1 then xN c.sp c.nm && !decide ((Zi c.text).2.2 = 0) else if c.kind = 2 ∨ c.kind = 3 ∨ c.kind = 5 then xN c.sp c.nm else if c.kind = 4 then xN c.sp c.nm || xN c.tsp c.tnm else false
def Q9 (s : ST) (user : Bs) (sq : Int) : ST × Int :=
 if user = [] then (s, 0) else
  let a := s.lasts.takeWhile fun x => U6 x.user user
  let b := s.lasts.dropWhile fun x => U6 x.user user
  if (b.head?.map (·.user)) = some user then ({ s with lasts := a ++ ⟨user, sq⟩ :: b.tail }, 0)
  else if 60 ≤ (s.lasts.length : Int) then (s, 8) else ({ s with lasts := a ++ ⟨user, sq⟩ :: b }, 0)
def X4 (s : ST) (c : CH) (sq : Int) : ST × Int :=
 if QM c ≠ 0 then (ST.nil, QM c) else if (Zm s c sq).2 ≠ 0 then (ST.nil, (Zm s c sq).2) else if Zx c = true then (ST.nil, 7) else
  if (Q9 (Zm s c sq).1 c.user sq).2 ≠ 0 then (ST.nil, (Q9 (Zm s c sq).1 c.user sq).2) else Q9 (Zm s c sq).1 c.user sq
def Ja (sq : Int) : ST → List CH → ST × Int
 | s, [] => (s, 0)
 | s, c :: l => if (X4 s c sq).2 ≠ 0 then (ST.nil, (X4 s c sq).2) else Ja sq (X4 s c sq).1 l
def Q0 (s : ST) (l : List CH) : ST × Int :=
 if Zl s = false then (ST.nil, 11) else if (l.length : Int) < 1 ∨ 16 < (l.length : Int) then (ST.nil, 2) else
  if (Ja (s.seq + 1) s l).2 ≠ 0 then (ST.nil, (Ja (s.seq + 1) s l).2) else if 1073741824 < s.seq + 1 then (ST.nil, 8) else ({ (Ja (s.seq + 1) s l).1 with seq := s.seq + 1 }, 0)
structure PGM where
 sp : Int
 nm : Bs
 ha : Option Addr
 hc : Nat
 hist : List RV
instance : Inhabited PGM := ⟨⟨0, [], none, 0, []⟩⟩
def PGM.cells (p : PGM) : List C := [.i .i64 p.sp, .s p.nm, .sl p.ha p.hist.length p.hc]
def Qm (l : List PGM) : List C := l.flatMap PGM.cells
def PGM.pl (p : PGM) : SP := ⟨p.sp, p.nm, p.hist⟩
structure STM where
 seq : Int
 clk : Int
 pa : Option Addr
 pc : Nat
 pages : List PGM
 ga : Option Addr
 gc : Nat
 gone : List PGM
 qa : Option Addr
 qc : Nat
 props : List PP
 proposed : Int
 wa : Option Addr
 wc : Nat
 watches : List WT
 la : Option Addr
 lc : Nat
 lasts : List LU
def STM.cells (s : STM) : List C := [.i .i64 s.seq, .i .i64 s.clk, .sl s.pa s.pages.length s.pc, .sl s.ga s.gone.length s.gc, .sl s.qa s.props.length s.qc, .i .i64 s.proposed, .sl s.wa s.watches.length s.wc, .sl s.la s.lasts.length s.lc]
def STM.pl (s : STM) : ST := ⟨s.seq, s.clk, s.pages.map PGM.pl, s.gone.map PGM.pl, s.props, s.proposed, s.watches, s.lasts⟩
def STM.nil : STM := ⟨0, 0, none, 0, [], none, 0, [], none, 0, [], 0, none, 0, [], none, 0, []⟩
structure CHM where
 kind : Int
 user : Bs
 note : Bs
 sp : Int
 nm : Bs
 tsp : Int
 tnm : Bs
 text : Bs
 n : Int
 ha : Option Addr
 hc : Nat
 hist : List RV
instance : Inhabited CHM := ⟨⟨0, [], [], 0, [], 0, [], [], 0, none, 0, []⟩⟩
def CHM.cells (c : CHM) : List C := [.i .i64 c.kind, .s c.user, .s c.note, .i .i64 c.sp, .s c.nm, .i .i64 c.tsp, .s c.tnm, .s c.text, .i .i64 c.n, .sl c.ha c.hist.length c.hc]
def CHM.pl (c : CHM) : CH := ⟨c.kind, c.user, c.note, c.sp, c.nm, c.tsp, c.tnm, c.text, c.n, c.hist⟩
def Wi (l : List CHM) : List C := l.flatMap CHM.cells
theorem Z8.mono {m m' : Im} {e z : Nat} {a : Option Addr} {n : Nat} {cs : List C} (hm : ∀ b o, m b = some o → m' b = some o) (h : Z8 m e z a n cs) : Z8 m' e z a n cs := (Qf e z a n cs).mono m m' hm h
theorem Z8.nil {m : Im} {e z : Nat} {a : Option Addr} : Z8 m e z a 0 [] := ⟨fun x hx => (by cases hx), .inl ⟨rfl, rfl⟩⟩
theorem Z8.label {m : Im} {e e' z : Nat} {a : Option Addr} {n : Nat} {cs : List C} (h : Z8 m e z a n cs) : Z8 m e' z a n cs := h
def J2 (z : Nat) (a : Option Addr) (n c : Nat) (cs : List C) : Fact := ⟨fun m => n ≤ c ∧ Z8 m 0 z a n cs, fun _ _ hm h => ⟨h.1, h.2.mono hm⟩⟩
theorem Qb.toFactC {ety esz : Nat} {a : Option Addr} {n c : Nat} {cs : List C} {L : List Chunk} {D : List Fact} : Qb (.row ety esz a n c cs :: L) D L (J2 esz a n c cs :: D) := fun G w hs => by
 have hn : n ≤ c := by
  obtain ⟨m, h1, _⟩ := id hs
  rcases (ZE h1.ok QT).2 with ⟨_, rfl, rfl, _⟩ | ⟨g, _, cur, lo, hi, _, h2, _⟩
  ·exact Nat.le_refl _
  ·exact h2
 exact Qb.facts (D := Qf ety esz a n cs :: D) (D' := J2 esz a n c cs :: D) (fun m h => ⟨⟨hn, h.1⟩, h.2⟩) G w (Qb.toFact G w hs)
theorem Gq {P : Program} {G : Js} {N : Nat} {c0 : Code} {env : XR} {L : List Chunk} {D : List Fact} {nid : Nat} {K : Kt} {p : Prop} (hp : ∀ m, QI m D → p) (k : p → J P G N c0 env L D nid K) : J P G N c0 env L D nid K :=
 ⟨fun a w he hs => (k (by obtain ⟨m, h1, _⟩ := hs; exact hp m h1.d)).run a w he hs⟩
def J8 (m : Im) (l : List PGM) : Prop := ∀ p ∈ l, Z8 m 0 6 p.ha p.hist.length (Zb p.hist)
theorem J8.mono {m m' : Im} {l : List PGM} (hm : ∀ b o, m b = some o → m' b = some o) (h : J8 m l) : J8 m' l := fun p hp => (h p hp).mono hm
theorem J8.sub {m : Im} {l l' : List PGM} (h : J8 m l) (hs : ∀ p ∈ l', p ∈ l) : J8 m l' := fun p hp => h p (hs p hp)
def pgsF (l : List PGM) : Fact := ⟨fun m => J8 m l, fun _ _ hm h => h.mono hm⟩
structure Ew (m : Im) (a : Option Addr) (l : List PGM) : Prop where
 row : Z8 m 0 3 a l.length (Qm l)
 his : J8 m l
def H7 (a : Option Addr) (l : List PGM) : Fact := ⟨fun m => Ew m a l, fun _ _ hm h => ⟨h.row.mono hm, h.his.mono hm⟩⟩
structure StC (s : STM) : Prop where
 pages : s.pages.length ≤ s.pc
 gone : s.gone.length ≤ s.gc
 props : s.props.length ≤ s.qc
 watches : s.watches.length ≤ s.wc
 lasts : s.lasts.length ≤ s.lc
structure YA (m : Im) (s : STM) : Prop where
 pages : Ew m s.pa s.pages
 gone : Ew m s.ga s.gone
 props : Z8 m 0 8 s.qa s.props.length (XI s.props)
 watches : Z8 m 0 3 s.wa s.watches.length (ZM s.watches)
 lasts : Z8 m 0 2 s.la s.lasts.length (ZV s.lasts)
 room : StC s
def QG (s : STM) : Fact := ⟨fun m => YA m s, fun _ _ hm h => ⟨⟨h.pages.row.mono hm, h.pages.his.mono hm⟩, ⟨h.gone.row.mono hm, h.gone.his.mono hm⟩, h.props.mono hm, h.watches.mono hm, h.lasts.mono hm, h.room⟩⟩
theorem YA.nil {m : Im} : YA m STM.nil := ⟨⟨Z8.nil, fun _ h => (by cases h)⟩, ⟨Z8.nil, fun _ h => (by cases h)⟩, Z8.nil, Z8.nil, Z8.nil, ⟨Nat.le_refl _, Nat.le_refl _, Nat.le_refl _, Nat.le_refl _, Nat.le_refl _⟩⟩
def Ej (m : Im) (l : List CHM) : Prop := ∀ c ∈ l, Z8 m 0 6 c.ha c.hist.length (Zb c.hist)
def Yy (c : CHM) : Fact := Qf 0 6 c.ha c.hist.length (Zb c.hist)
structure NE (m : Im) (a : Option Addr) (l : List CHM) : Prop where
 row : Z8 m 0 10 a l.length (Wi l)
 his : Ej m l
def WQ (a : Option Addr) (l : List CHM) : Fact := ⟨fun m => NE m a l, fun _ _ hm h => ⟨h.row.mono hm, fun c hc => (h.his c hc).mono hm⟩⟩
theorem kW (l : List RV) : (Zb l).length = l.length * 6 := Q7 (F := RV.cells) (z := 6) (fun _ => rfl) l
theorem Zs (l : List PGM) : (Qm l).length = l.length * 3 := Q7 (F := PGM.cells) (z := 3) (fun _ => rfl) l
theorem xC (l : List PP) : (XI l).length = l.length * 8 := Q7 (F := PP.cells) (z := 8) (fun _ => rfl) l
theorem WZ (l : List WT) : (ZM l).length = l.length * 3 := Q7 (F := WT.cells) (z := 3) (fun _ => rfl) l
theorem qJ (l : List LU) : (ZV l).length = l.length * 2 := Q7 (F := LU.cells) (z := 2) (fun _ => rfl) l
theorem Yo {l : List RV} {i : Nat} (h : i < l.length) : ((Zb l).drop (i * 6 + 0)).take 6 = [.i .i64 l[i].num, .s l[i].user, .s l[i].note, .s l[i].text, .i .i64 l[i].min, .i .i64 l[i].seq] := by
 rw [Zb, QL (F := RV.cells) (z := 6) (fun _ => rfl) h (by omega)]; rfl
theorem Z5 {l : List PGM} {i : Nat} (h : i < l.length) : ((Qm l).drop (i * 3 + 0)).take 3 = [.i .i64 l[i].sp, .s l[i].nm, .sl l[i].ha l[i].hist.length l[i].hc] := by
 rw [Qm, QL (F := PGM.cells) (z := 3) (fun _ => rfl) h (by omega)]; rfl
theorem XT {l : List PGM} {i : Nat} (h : i < l.length) : ((Qm l).drop (i * 3 + 0)).take 2 = [.i .i64 l[i].sp, .s l[i].nm] := by
 rw [Qm, QL (F := PGM.cells) (z := 3) (fun _ => rfl) h (by omega)]; rfl
theorem YH {l : List PGM} {i : Nat} (h : i < l.length) : ((Qm l).drop (i * 3 + 2)).take 1 = [.sl l[i].ha l[i].hist.length l[i].hc] := by
 rw [Qm, QL (F := PGM.cells) (z := 3) (fun _ => rfl) h (by omega)]; rfl
theorem zG {l : List PP} {i : Nat} (h : i < l.length) : ((XI l).drop (i * 8 + 0)).take 8 = [.i .i64 l[i].id, .s l[i].user, .s l[i].note, .i .i64 l[i].sp, .s l[i].nm, .i .i64 l[i].base, .s l[i].text, .i .i64 l[i].min] := by
 rw [XI, QL (F := PP.cells) (z := 8) (fun _ => rfl) h (by omega)]; rfl
theorem VH {l : List WT} {i : Nat} (h : i < l.length) : ((ZM l).drop (i * 3 + 0)).take 3 = [.s l[i].user, .i .i64 l[i].sp, .s l[i].nm] := by
 rw [ZM, QL (F := WT.cells) (z := 3) (fun _ => rfl) h (by omega)]; rfl
theorem zL {l : List LU} {i : Nat} (h : i < l.length) : ((ZV l).drop (i * 2 + 0)).take 2 = [.s l[i].user, .i .i64 l[i].seq] := by
 rw [ZV, QL (F := LU.cells) (z := 2) (fun _ => rfl) h (by omega)]; rfl
theorem Pb {l : List CHM} {i : Nat} (h : i < l.length) : ((Wi l).drop (i * 10 + 0)).take 10 = l[i].cells := by
 rw [Wi, QL (F := CHM.cells) (z := 10) (fun _ => rfl) h (by omega)]; rfl
theorem qN {sp : Int} {nm : Bs} {p : SP} : YX sp nm p = true ↔ p.sp = sp ∧ p.nm = nm := by simp [YX]
theorem JV {α : Type} (p : α → Bool) : ∀ l : List α, (Q2 p l = -1 ∧ ∀ x ∈ l, p x = false) ∨ ∃ i : Nat, ∃ h : i < l.length, Q2 p l = i ∧ p l[i] = true
 | [] => .inl ⟨rfl, fun _ h => (by cases h)⟩
 | x :: r => by
  simp only [Q2]
  split
  ·rename_i h
   exact .inr ⟨0, by simp, rfl, h⟩
  ·rename_i h
   rcases JV p r with ⟨h1, h2⟩ | ⟨i, h1, h2, h3⟩
   ·rw [h1, if_pos (by omega)]
    refine .inl ⟨rfl, fun y hy => ?_⟩
    rcases List.mem_cons.1 hy with rfl | hy
    ·simpa using h
    ·exact h2 y hy
   ·rw [h2, if_neg (by omega)]
    exact .inr ⟨i + 1, by simpa using h1, by omega, by simpa using h3⟩
theorem Wr {α : Type} (lt : α → Bool) (y : α) (t : List α) (x : α) : Kv lt (y :: t) x = if lt y = true then y :: Kv lt t x else x :: y :: t := by
 unfold Kv
 by_cases h : lt y = true
 ·rw [if_pos h, List.takeWhile_cons_of_pos h, List.dropWhile_cons_of_pos h]; rfl
 ·rw [if_neg h, List.takeWhile_cons_of_neg h, List.dropWhile_cons_of_neg h]; rfl
theorem WH {α : Type} (lt : α → Bool) (l : List α) (x z : α) : z ∈ Kv lt l x ↔ z = x ∨ z ∈ l := by
 induction l with
 | nil => simp [Kv]
 | cons y t ih =>
  rw [Wr]
  split
  ·simp only [List.mem_cons, ih, or_left_comm]
  ·simp only [List.mem_cons]
theorem V9 {α : Type} (lt : α → Bool) (l : List α) (x : α) : (Kv lt l x).length = l.length + 1 := by
 have := congrArg List.length (List.takeWhile_append_dropWhile (p := lt) (l := l))
 unfold Kv
 rw [List.length_append, List.length_cons] 
 rw [List.length_append] at this
 omega
structure vr {α : Type} (cf : α → α → Int) : Prop where
 swap : ∀ x y, cf x y = - cf y x
 trans : ∀ x y z, cf x y ≤ 0 → cf y z ≤ 0 → cf x z ≤ 0
theorem vr.lt {α : Type} {cf : α → α → Int} (h : vr cf) {x y z : α} (h1 : cf x y < 0) (h2 : cf y z < 0) : cf x z < 0 := by
 have a1 := h.swap x z; have a2 := h.swap y z; have a3 := h.swap x y
 have t1 := h.trans x y z (by omega) (by omega)
 have t2 := h.trans y z x
 omega
theorem T6 {α : Type} {cf : α → α → Int} (h : vr cf) (l : List α) (x : α) (hl : l.Pairwise fun a b => cf a b < 0) (hn : ∀ y ∈ l, cf y x ≠ 0) : (Kv (fun y => decide (cf y x < 0)) l x).Pairwise fun a b => cf a b < 0 := by
 induction l with
 | nil => exact List.pairwise_cons.2 ⟨fun _ h => (by cases h), List.Pairwise.nil⟩
 | cons y t ih =>
  have hl' := List.pairwise_cons.1 hl
  rw [Wr]
  split
  ·rename_i hy
   refine List.pairwise_cons.2 ⟨fun z hz => ?_, ih hl'.2 fun z hz => hn z (List.mem_cons_of_mem _ hz)⟩
   rcases (WH _ _ _ _).1 hz with rfl | hz
   ·simpa using hy
   ·exact hl'.1 z hz
  ·rename_i hy
   have hxy : cf x y < 0 := by
    have := h.swap x y
    have := hn y (List.mem_cons_self ..)
    simp at hy
    omega
   refine List.pairwise_cons.2 ⟨fun z hz => ?_, hl⟩
   rcases List.mem_cons.1 hz with rfl | hz
   ·exact hxy
   ·exact h.lt hxy (hl'.1 z hz)
theorem wg {α : Type} {cf : α → α → Int} (h : vr cf) : ∀ l : List α, qS (fun a b => decide (cf a b < 0)) l = true ↔ l.Pairwise fun a b => cf a b < 0
 | [] => by simp [qS]
 | [x] => by simp [qS]
 | x :: y :: r => by
  have ih := wg h (y :: r)
  rw [qS, Bool.and_eq_true, ih]
  constructor
  ·rintro ⟨h1, h2⟩
   refine List.pairwise_cons.2 ⟨fun z hz => ?_, h2⟩
   rcases List.mem_cons.1 hz with rfl | hz
   ·simpa using h1
   ·exact h.lt (by simpa using h1) ((List.pairwise_cons.1 h2).1 z hz)
  ·intro h0
   obtain ⟨h1, h2⟩ := List.pairwise_cons.1 h0
   exact ⟨by simpa using h1 y (List.mem_cons_self ..), h2⟩
def cfP (a b : SP) : Int := QH a.sp a.nm b.sp b.nm
theorem L3 : vr cfP := ⟨fun x y => Yu _ _ _ _, fun x y z => WP⟩
theorem WS (x y : Bs) : Lib.compareBytes x y = - Lib.compareBytes y x := jK x y
theorem Jf {x y z : Bs} (h1 : Lib.compareBytes x y ≤ 0) (h2 : Lib.compareBytes y z ≤ 0) : Lib.compareBytes x z ≤ 0 := zU x y z h1 h2
def cfW (a b : WT) : Int := if Lib.compareBytes a.user b.user ≠ 0 then Lib.compareBytes a.user b.user else QH a.sp a.nm b.sp b.nm
theorem w9 : vr cfW := by
 refine ⟨fun x y => ?_, fun x y z h1 h2 => ?_⟩
 ·have := WS x.user y.user
  have := Yu x.sp x.nm y.sp y.nm
  unfold cfW
  split <;> split <;> omega
 ·unfold cfW at *
  have a1 := WS x.user y.user; have a2 := WS y.user z.user; have a3 := WS x.user z.user
  have t1 := Jf (x := x.user) (y := y.user) (z := z.user); have t2 := Jf (x := z.user) (y := x.user) (z := y.user); have t3 := Jf (x := y.user) (y := z.user) (z := x.user); have t4 := Jf (x := z.user) (y := y.user) (z := x.user); have t5 := Jf (x := x.user) (y := z.user) (z := y.user); have t6 := Jf (x := y.user) (y := x.user) (z := z.user)
  have g1 := @WP x.sp x.nm y.sp y.nm z.sp z.nm
  split at h1 <;> split at h2 <;> split <;> omega
theorem T0 (a b : WT) : kP a b = decide (cfW a b < 0) := by
 have he := KJ a.user b.user
 unfold kP U6 cfW
 by_cases h : Lib.compareBytes a.user b.user = 0
 ·have hu := he.1 h
  have h0 : Lib.compareBytes b.user b.user = 0 := (KJ _ _).2 rfl
  rw [hu, h0]
  simp
 ·have : a.user ≠ b.user := fun e => h (he.2 e)
  simp [h, this]
def cfL (a b : LU) : Int := Lib.compareBytes a.user b.user
theorem UX : vr cfL := ⟨fun x y => WS _ _, fun x y z => Jf⟩
theorem Xs {clk sq i mi se : Int} {r : RV} : GN clk sq i mi se r = true ↔ r.num = i + 1 ∧ (r.text.length : Int) ≤ 8192 ∧ (r.note.length : Int) ≤ 200 ∧ Xg r.user = true ∧ mi ≤ r.min ∧ r.min ≤ clk ∧ se ≤ r.seq ∧ r.seq ≤ sq := by
 simp only [GN, Bool.and_eq_true, decide_eq_true_eq, and_assoc]
theorem Xx {clk sq : Int} {l : List RV} : Yg clk sq l = true ↔ 1 ≤ (l.length : Int) ∧ (l.length : Int) ≤ 40 ∧ ZK clk sq 0 0 1 l = true := by
 simp only [Yg, Bool.and_eq_true, decide_eq_true_eq, and_assoc]
theorem kj {clk sq clk' sq' : Int} (hc : clk ≤ clk') (hs : sq ≤ sq') : ∀ (l : List RV) (i mi se : Int), ZK clk sq i mi se l = true → ZK clk' sq' i mi se l = true
 | [], _, _, _, _ => rfl
 | r :: l, i, mi, se, h => by
  simp only [ZK, Bool.and_eq_true] at h ⊢
  obtain ⟨h1, h2⟩ := h
  have h1 := Xs.1 h1
  exact ⟨Xs.2 ⟨h1.1, h1.2.1, h1.2.2.1, h1.2.2.2.1, h1.2.2.2.2.1, by omega, h1.2.2.2.2.2.2.1, by omega⟩, kj hc hs l _ _ _ h2⟩
theorem ki {clk sq : Int} {x : RV} (h2 : (x.text.length : Int) ≤ 8192) (h3 : (x.note.length : Int) ≤ 200) (h4 : Xg x.user = true) (h5 : x.min = clk) (h6 : x.seq = sq) : ∀ (l : List RV) (i mi se : Int), mi ≤ clk → se ≤ sq → ZK clk sq i mi se l = true → x.num = i + l.length + 1 → ZK clk sq i mi se (l ++ [x]) = true
 | [], i, mi, se, hm, hs, _, hn => by
  simp only [List.nil_append, ZK, Bool.and_true]
  exact Xs.2 ⟨by simp at hn; omega, h2, h3, h4, by omega, by omega, by omega, by omega⟩
 | r :: l, i, mi, se, hm, hs, h, hn => by
  simp only [List.cons_append, ZK, Bool.and_eq_true] at h ⊢
  have h1 := Xs.1 h.1
  exact ⟨h.1, ki h2 h3 h4 h5 h6 l _ _ _ h1.2.2.2.2.2.1 h1.2.2.2.2.2.2.2 h.2 (by simp at hn; omega)⟩
theorem Q4 {clk sq : Int} {p : SP} : XK clk sq p = true ↔ Qw p.sp p.nm = true ∧ Yg clk sq p.hist = true := by
 simp only [XK, Bool.and_eq_true]
theorem Yb {clk sq clk' sq' : Int} (hc : clk ≤ clk') (hs : sq ≤ sq') {p : SP} (h : XK clk sq p = true) : XK clk' sq' p = true := by
 obtain ⟨h1, h2⟩ := Q4.1 h
 obtain ⟨h3, h4, h5⟩ := Xx.1 h2
 exact Q4.2 ⟨h1, Xx.2 ⟨h3, h4, kj hc hs _ _ _ _ h5⟩⟩
theorem Xu {clk pr la : Int} {p : PP} : vd clk pr la p = true ↔ la < p.id ∧ p.id ≤ pr ∧ Xg p.user = true ∧ Qw p.sp p.nm = true ∧ 0 ≤ p.base ∧ p.base ≤ 40 ∧ (p.text.length : Int) ≤ 8192 ∧ (p.note.length : Int) ≤ 200 ∧ 0 ≤ p.min ∧ p.min ≤ clk := by
 simp only [vd, Bool.and_eq_true, decide_eq_true_eq, and_assoc]
theorem jw {clk pr clk' pr' : Int} (hc : clk ≤ clk') (hs : pr ≤ pr') : ∀ (l : List PP) (la la' : Int), la' ≤ la → KR clk pr la l = true → KR clk' pr' la' l = true
 | [], _, _, _, _ => rfl
 | p :: l, la, la', hl, h => by
  simp only [KR, Bool.and_eq_true] at h ⊢
  obtain ⟨h1, h2⟩ := h
  have h1 := Xu.1 h1
  exact ⟨Xu.2 ⟨by omega, by omega, h1.2.2.1, h1.2.2.2.1, h1.2.2.2.2.1, h1.2.2.2.2.2.1, h1.2.2.2.2.2.2.1, h1.2.2.2.2.2.2.2.1, h1.2.2.2.2.2.2.2.2.1, by omega⟩, jw hc hs l _ _ (Int.le_refl _) h2⟩
theorem j3 {clk pr : Int} (q : PP → Bool) : ∀ (l : List PP) (la : Int), KR clk pr la l = true → KR clk pr la (l.filter q) = true
 | [], _, _ => rfl
 | p :: l, la, h => by
  simp only [KR, Bool.and_eq_true] at h
  have h3 := j3 q l _ h.2
  have h1 := Xu.1 h.1
  rw [List.filter_cons]
  split
  ·simp only [KR, Bool.and_eq_true]; exact ⟨h.1, h3⟩
  ·exact jw (Int.le_refl _) (Int.le_refl _) _ _ _ (by omega) h3
theorem vP {clk pr : Int} {x : PP} (hx : vd clk pr (pr - 1) x = true) : ∀ (l : List PP) (la : Int), la ≤ pr - 1 → KR clk (pr - 1) la l = true → KR clk pr la (l ++ [x]) = true
 | [], la, hl, _ => by
  have h1 := Xu.1 hx
  simp only [List.nil_append, KR, Bool.and_true]
  exact Xu.2 ⟨by omega, h1.2⟩
 | p :: l, la, hl, h => by
  simp only [List.cons_append, KR, Bool.and_eq_true] at h ⊢
  have h1 := Xu.1 h.1
  exact ⟨Xu.2 ⟨h1.1, by omega, h1.2.2⟩, vP hx l _ (by omega) h.2⟩
structure VK (sq : Int) (s : ST) : Prop where
 c0 : 0 ≤ s.clk
 c1 : s.clk ≤ 52595999
 np : (s.pages.length : Int) ≤ 200
 ng : (s.gone.length : Int) ≤ 100
 pg : ∀ p ∈ s.pages, XK s.clk sq p = true
 asc : s.pages.Pairwise fun a b => cfP a b < 0
 gn : ∀ p ∈ s.gone, XK s.clk sq p = true
 rul : ∀ p ∈ s.pages, YX 5 policyNm p = true → (Zi (qv p).text).2.2 = 0
 nq : (s.props.length : Int) ≤ 40
 q0 : 0 ≤ s.proposed
 q1 : s.proposed ≤ 1073741824
 pp : KR s.clk s.proposed 0 s.props = true
 nw : (s.watches.length : Int) ≤ 100
 ws : ∀ w ∈ s.watches, Pj w = true
 wa : s.watches.Pairwise fun a b => cfW a b < 0
 nl : (s.lasts.length : Int) ≤ 60
 ls : ∀ x ∈ s.lasts, Hf sq x = true
 la : s.lasts.Pairwise fun a b => cfL a b < 0
theorem VK.mono {sq sq' : Int} {s : ST} (h : VK sq s) (hs : sq ≤ sq') : VK sq' s where
 c0 := h.c0
 c1 := h.c1
 np := h.np
 ng := h.ng
 pg p hp := Yb (Int.le_refl _) hs (h.pg p hp)
 asc := h.asc
 gn p hp := Yb (Int.le_refl _) hs (h.gn p hp)
 rul := h.rul
 nq := h.nq
 q0 := h.q0
 q1 := h.q1
 pp := h.pp
 nw := h.nw
 ws := h.ws
 wa := h.wa
 nl := h.nl
 ls x hx := by
  have := h.ls x hx
  simp only [Hf, Bool.and_eq_true, decide_eq_true_eq] at this ⊢
  exact ⟨this.1, by omega⟩
 la := h.la
theorem TB {l : List SP} (h : l.Pairwise fun a b => cfP a b < 0) {p q : SP} (hp : p ∈ l) (hq : q ∈ l) (h1 : p.sp = q.sp) (h2 : p.nm = q.nm) : p = q := by
 have h0 : cfP p q = 0 := (Je _ _ _ _).2 ⟨h1, h2⟩
 have h0' : cfP q p = 0 := (Je _ _ _ _).2 ⟨h1.symm, h2.symm⟩
 induction l with
 | nil => cases hp
 | cons x t ih =>
  have h' := List.pairwise_cons.1 h
  rcases List.mem_cons.1 hp with e | hp'
  ·rcases List.mem_cons.1 hq with e' | hq'
   ·rw [e, e']
   ·subst e; have := h'.1 q hq'; omega
  ·rcases List.mem_cons.1 hq with e' | hq'
   ·subst e'; have := h'.1 p hp'; omega
   ·exact ih h'.2 hp' hq'
theorem vL {s : ST} (h : s.pages.Pairwise fun a b => cfP a b < 0) : Ko s = true ↔ ∀ p ∈ s.pages, YX 5 policyNm p = true → (Zi (qv p).text).2.2 = 0 := by
 unfold Ko OO
 constructor
 ·intro hr p hp ha
  cases hf : s.pages.find? (YX 5 policyNm) with
  | none => exact absurd ha (by simpa using List.find?_eq_none.1 hf p hp)
  | some q =>
   rw [hf] at hr
   have hq := List.find?_some hf
   have hqm := List.mem_of_find?_eq_some hf
   have e1 := qN.1 ha
   have e2 := qN.1 hq
   have : p = q := TB h hp hqm (e1.1.trans e2.1.symm) (e1.2.trans e2.2.symm)
   subst this
   simpa using hr
 ·intro hall
  cases hf : s.pages.find? (YX 5 policyNm) with
  | none => rfl
  | some q => simpa using hall q (List.mem_of_find?_eq_some hf) (List.find?_some hf)
theorem JM {s : ST} : Zl s = true ↔ 0 ≤ s.seq ∧ s.seq ≤ 1073741824 ∧ VK s.seq s := by
 have e1 : qS ltP s.pages = true ↔ s.pages.Pairwise fun a b => cfP a b < 0 := wg L3 s.pages
 have e2 : qS kP s.watches = true ↔ s.watches.Pairwise fun a b => cfW a b < 0 := by
  rw [← wg w9 s.watches, show kP = fun a b => decide (cfW a b < 0) from by funext a b; exact T0 a b]
 have e3 : qS (fun a b : LU => U6 a.user b.user) s.lasts = true ↔ s.lasts.Pairwise fun a b => cfL a b < 0 := wg UX s.lasts
 simp only [Zl, Va, Kq, Ku, Bool.and_eq_true, decide_eq_true_eq, List.all_eq_true, e1, e2, e3, and_assoc]
 constructor
 ·rintro ⟨a, b, c, d, e, f, g, h, i, j, k, l, m, n, o, p, q, r, t, u⟩
  exact ⟨a, b, ⟨c, d, e, f, g, h, i, (vL h).1 j, k, l, m, n, o, q, r, p, t, u⟩⟩
 ·rintro ⟨a, b, v⟩
  exact ⟨a, b, v.c0, v.c1, v.np, v.ng, v.pg, v.asc, v.gn, (vL v.asc).2 v.rul, v.nq, v.q0, v.q1, v.pp, v.nw, v.nl, v.ws, v.wa, v.ls, v.la⟩
end Go.X
