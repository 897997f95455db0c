/- This text proves that a region whose order the language leaves open may be executed in one order, under a check of the region that is computed. · This text turns contracts of the kit's shelf into contracts of the symbolic executor, and adds a few rules to it. · This text proves, for any program, that a contract in the executor's form, whose result is true and whose memory is untouched, gives what a row asks of a law; and opens arguments of plain types. No condition. -/
import Derived.Test.YtdnkeinjfddmnaaGreatDoorR03
import Derived.Below
import Derived.Deep.Draws
import Derived.LoopN
import Derived.ProofKit
import Derived.OpenShut
import Derived.Deep.DeepHandedRow
import Derived.WideKeyArgs
set_option linter.all false

namespace Go.X
open Go
variable [Sm : Inhabited Manner] [Df : Inhabited (List Deferred)]

section
variable {P : Program} {G : Ent} {ops : Array Oper} {eff : Nat → Bool} {z : Nat} {L0 : List Chunk} {D0 : List Fact} {Te : Act → List Chunk → List Fact → Prop}

/-- One value in every world of the class; what the call owns and knows stays. -/
def quietG (P : Program) (G : Ent) (L0 : List Chunk) (D0 : List Fact) (o : Oper) (ρ : Operand → Value) (v : Value) : Prop :=
  ∀ L D, Ents L D L0 D0 → ∀ w, SatW G w L D → gives P o ρ w fun u w' => u = v ∧ SatW G w' L D

def lexM (P : Program) (G : Ent) (ops : Array Oper) (eff : Nat → Bool) (z : Nat) (L0 : List Chunk) (D0 : List Fact) (Te : Act → List Chunk → List Fact → Prop) : List Nat → Act → List Chunk → List Fact → Prop
  | [], a, L, D => Te a L D
  | i :: r, a, L, D =>
    match ops[i]? with
    | none => False
    | some o =>
      (Region.wanted o (yielded ops a.tmps) = true ∧
        ((eff i = false ∧ ∃ v, quietG P G L0 D0 o a.eval v ∧ lexM P G ops eff z L0 D0 Te r (a.put o.dst v) L D) ∨
         (eff i = true ∧ ∀ w, SatW G w L D → gives P o a.eval w fun u w' => ∃ L' D', SatW G w' L' D' ∧ (Ents L' D' L0 D0 ∨ i = z) ∧ lexM P G ops eff z L0 D0 Te r (a.put o.dst u) L' D'))) ∨
      (Region.wanted o (yielded ops a.tmps) = false ∧ lexM P G ops eff z L0 D0 Te r (a.put o.dst undef) L D)

def stepM (P : Program) (ops : Array Oper) (o : Oper) (a : Act) (w : World) (R : Value → World → Prop) : Prop :=
  (Region.wanted o (yielded ops a.tmps) = true ∧ gives P o a.eval w R) ∨ (Region.wanted o (yielded ops a.tmps) = false ∧ R undef w)

/-- i may be taken ahead of those that stand before it in r. -/
def clearM (ops : Array Oper) (eff : Nat → Bool) (i : Nat) (o : Oper) : List Nat → Prop
  | [] => False
  | j :: r => j = i ∨ (j ≠ i ∧ eff j = false ∧ (∀ oj, ops[j]? = some oj → oj.apart ops o = true) ∧ clearM ops eff i o r)

theorem gives_congr {o : Oper} {ρ ρ' : Operand → Value} {w : World} {R : Value → World → Prop} (h : execOp ρ o = execOp ρ' o) (hg : gives P o ρ w R) : gives P o ρ' w R := by
  unfold gives at *
  rw [← h]
  exact hg

theorem bubble (hs : Region.noSelect ops = true) {i : Nat} {o : Oper} (ho : ops[i]? = some o) : ∀ (r : List Nat) (a : Act) (L : List Chunk) (D : List Fact) (w : World), clearM ops eff i o r → lexM P G ops eff z L0 D0 Te r a L D → Ents L D L0 D0 → SatW G w L D →
    stepM P ops o a w fun u w' => ∃ L' D', SatW G w' L' D' ∧ (Ents L' D' L0 D0 ∨ i = z) ∧ lexM P G ops eff z L0 D0 Te (r.erase i) (a.put o.dst u) L' D'
  | [], _, _, _, _, hc, _, _, _ => hc.elim
  | j :: r, a, L, D, w, hc, h, hE, hw => by
    by_cases hji : j = i
    · subst hji
      simp only [lexM, ho] at h
      rw [List.erase_cons_head]
      rcases h with ⟨hwt, ⟨_, v, hq, hr⟩ | ⟨_, hg⟩⟩ | ⟨hwt, hr⟩
      · refine .inl ⟨hwt, (hq L D hE w hw).mono ?_⟩
        rintro u w' ⟨rfl, hw'⟩
        exact ⟨L, D, hw', .inl hE, hr⟩
      · exact .inl ⟨hwt, hg w hw⟩
      · exact .inr ⟨hwt, L, D, hw, .inl hE, hr⟩
    · rcases hc with hc | ⟨_, heff, hap, hc⟩
      · exact absurd hc hji
      rw [List.erase_cons_tail (by simpa using hji)]
      simp only [lexM] at h
      cases hj : ops[j]? with
      | none => rw [hj] at h; exact h.elim
      | some oj =>
        simp only [hj] at h
        obtain ⟨h1, h2, h3⟩ := Oper.apart_spec (hap oj hj)
        have hsi := fun cs b => Region.noSelect_spec hs i o cs b ho
        have hsj := fun cs b => Region.noSelect_spec hs j oj cs b hj
        -- the value of the operation that is passed
        have key : ∀ v, lexM P G ops eff z L0 D0 Te r (a.put oj.dst v) L D →
            (∀ u L' D', lexM P G ops eff z L0 D0 Te (r.erase i) ((a.put oj.dst v).put o.dst u) L' D' → lexM P G ops eff z L0 D0 Te (j :: r.erase i) (a.put o.dst u) L' D') →
            stepM P ops o a w fun u w' => ∃ L' D', SatW G w' L' D' ∧ (Ents L' D' L0 D0 ∨ i = z) ∧ lexM P G ops eff z L0 D0 Te (j :: r.erase i) (a.put o.dst u) L' D' := by
          intro v hr hback
          have hi := bubble hs ho r (a.put oj.dst v) L D w hc hr hE hw
          unfold stepM at hi ⊢
          rw [wanted_put o a oj.dst v h1] at hi
          rcases hi with ⟨hwt, hg⟩ | ⟨hwt, L', D', ha, hb, hcc⟩
          · refine .inl ⟨hwt, gives_congr (execOp_put o hsi a oj.dst v h1) (hg.mono ?_)⟩
            rintro u w' ⟨L', D', ha, hb, hcc⟩
            exact ⟨L', D', ha, hb, hback u L' D' hcc⟩
          · exact .inr ⟨hwt, L', D', ha, hb, hback _ L' D' hcc⟩
        rcases h with ⟨hwt, ⟨_, v, hq, hr⟩ | ⟨hbad, _⟩⟩ | ⟨hwt, hr⟩
        · refine key v hr fun u L' D' hl => ?_
          simp only [lexM, hj]
          refine .inl ⟨by rw [wanted_put oj a o.dst u h3]; exact hwt, .inl ⟨heff, v, ?_, by rw [← Act.put_comm a v u h2]; exact hl⟩⟩
          intro L1 D1 hE1 w1 hw1
          exact gives_congr (execOp_put oj hsj a o.dst u h3).symm (hq L1 D1 hE1 w1 hw1)
        · rw [heff] at hbad; cases hbad
        · refine key undef hr fun u L' D' hl => ?_
          simp only [lexM, hj]
          exact .inr ⟨by rw [wanted_put oj a o.dst u h3]; exact hwt, by rw [← Act.put_comm a undef u h2]; exact hl⟩

/-! ### The check -/

def directB (ops : Array Oper) (i j : Nat) : Bool :=
  match ops[i]? with
  | some o => o.after.any fun e => Region.binds .any e && e.on == j
  | none => false

def depB (ops : Array Oper) : Nat → Nat → Nat → Bool
  | 0, _, _ => false
  | n + 1, i, j =>
    match ops[i]? with
    | some o => o.after.any fun e => Region.binds .any e && (e.on == j || depB ops n e.on j)
    | none => false

def pairB (dep : Nat → Nat → Bool) (ops : Array Oper) (eff : Nat → Bool) (j i : Nat) : Bool :=
  j != i && !directB ops j i && (dep i j || (!eff j &&
    match ops[i]?, ops[j]? with
    | some oi, some oj => oj.apart ops oi
    | _, _ => false))

def edgesB (ops : Array Oper) : Bool :=
  (List.range ops.size).all fun i => match ops[i]? with
    | some o => o.after.all fun e => !Region.binds .any e || (e.on != i && e.on < ops.size)
    | none => true

theorem edgesB_spec (h : edgesB ops = true) : ∀ i o, ops[i]? = some o → ∀ e ∈ o.after, Region.binds .any e = true → e.on ≠ i ∧ e.on < ops.size := by
  intro i o ho e he hb
  have hi : i < ops.size := (Array.getElem?_eq_some_iff.1 ho).1
  have := List.all_eq_true.1 h i (List.mem_range.2 hi)
  simp only [ho] at this
  rw [Array.all_eq_true'] at this
  have := this e he
  simpa [hb] using this

def closedL (ops : Array Oper) (listed : Array Bool) : Prop :=
  ∀ i o, ops[i]? = some o → listed.getD i true = true → ∀ e ∈ o.after, Region.binds .any e = true → listed.getD e.on false = true

/-- A dependency that is listed with what depends on it. -/
def DepOK (ops : Array Oper) (dep : Nat → Nat → Bool) : Prop :=
  ∀ listed : Array Bool, closedL ops listed → ∀ i j, (∀ o, ops[i]? = some o → ∀ e ∈ o.after, Region.binds .any e = true → listed.getD e.on false = true) → dep i j = true → listed.getD j true = true

/-- The dependencies as masks of bits: 'A' lists them, and the check holds it against the operations. -/
def maskOf (A : List Nat) (o : Oper) : Nat := o.after.toList.foldl (fun m e => match Region.binds .any e with
  | true => m ||| (2 ^ e.on ||| A.getD e.on 0)
  | false => m) 0
def backB (i : Nat) (o : Oper) : Bool := o.after.toList.all fun e => !Region.binds .any e || Nat.blt e.on i
def masksB (A : List Nat) (ops : Array Oper) : Bool :=
  (List.range ops.size).all fun i => match ops[i]? with
    | some o => backB i o && Nat.beq (A.getD i 0) (maskOf A o)
    | none => true

theorem testBit_mask {A : List Nat} {j : Nat} : ∀ (l : List Edge) (m : Nat), (l.foldl (fun m e => match Region.binds .any e with
  | true => m ||| (2 ^ e.on ||| A.getD e.on 0)
  | false => m) m).testBit j = true → m.testBit j = true ∨ ∃ e ∈ l, Region.binds .any e = true ∧ (e.on = j ∨ (A.getD e.on 0).testBit j = true)
  | [], m, h => .inl h
  | e :: l, m, h => by
    simp only [List.foldl_cons] at h
    rcases testBit_mask l _ h with h1 | ⟨x, hx, hb, hd⟩
    · split at h1
      · rename_i hb
        simp only [Nat.testBit_or, Bool.or_eq_true] at h1
        rcases h1 with h1 | h1 | h1
        · exact .inl h1
        · exact .inr ⟨e, by simp, hb, .inl (by rw [Nat.testBit_two_pow] at h1; simpa using h1)⟩
        · exact .inr ⟨e, by simp, hb, .inr h1⟩
      · exact .inl h1
    · exact .inr ⟨x, by simp [hx], hb, hd⟩

theorem depOK_masks {ops : Array Oper} {A : List Nat} (h : masksB A ops = true) (hA : Nat.ble A.length ops.size = true) : DepOK ops (fun i j => (A.getD i 0).testBit j) := by
  intro listed hc i
  induction i using Nat.strongRecOn with
  | _ i ih =>
    intro j hi hd
    have hlt : i < ops.size := by
      rcases Nat.lt_or_ge i ops.size with h | h'
      · exact h
      · have := Nat.le_of_ble_eq_true hA
        simp only at hd
        have e : A.getD i 0 = 0 := by rw [List.getD_eq_getElem?_getD, List.getElem?_eq_none (by omega)]; rfl
        rw [e] at hd
        simp at hd
    have h1 := List.all_eq_true.1 h i (List.mem_range.2 hlt)
    have ho : ops[i]? = some ops[i] := by simp [hlt]
    simp only [ho, Bool.and_eq_true] at h1
    have he := Nat.eq_of_beq_eq_true h1.2
    simp only [he] at hd
    unfold maskOf at hd
    rcases testBit_mask _ _ hd with h2 | ⟨e, hm, hb, h2⟩
    · simp at h2
    · have hl := hi _ ho e (by simpa using hm) hb
      rcases h2 with rfl | h2
      · simp only [Array.getD_eq_getD_getElem?] at *
        cases hx : listed[e.on]? <;> rw [hx] at hl <;> simp_all
      · have hbk := List.all_eq_true.1 h1.1 e (by simpa using hm)
        simp only [hb, Bool.not_true, Bool.false_or] at hbk
        have hlt2 : e.on < i := Nat.le_of_ble_eq_true hbk
        refine ih e.on hlt2 j (fun o' ho' e' he' hb' => hc e.on o' ho' ?_ e' he' hb') h2
        simp only [Array.getD_eq_getD_getElem?] at *
        cases hx : listed[e.on]? <;> rw [hx] at hl <;> simp_all

def okD (dep : Nat → Nat → Bool) (ops : Array Oper) (eff : Nat → Bool) (r : List Nat) : Bool :=
  Region.noSelect ops && edgesB ops && r.all (· < ops.size) && (List.range ops.size).all (r.contains ·) && go r
  where
  go : List Nat → Bool
    | [] => true
    | j :: r => r.all (pairB dep ops eff j) && go r
def okB (ops : Array Oper) (eff : Nat → Bool) (r : List Nat) : Bool := okD (depB ops ops.size) ops eff r
/-- The check with masks. -/
def okM (A : List Nat) (ops : Array Oper) (eff : Nat → Bool) (r : List Nat) : Bool := Nat.ble A.length ops.size && masksB A ops && okD (fun i j => (A.getD i 0).testBit j) ops eff r

variable {dep : Nat → Nat → Bool}
theorem go_pairwise : ∀ {r : List Nat}, okD.go dep ops eff r = true → r.Pairwise fun j i => pairB dep ops eff j i = true
  | [], _ => .nil
  | j :: r, h => by
    simp only [okD.go, Bool.and_eq_true, List.all_eq_true] at h
    exact .cons (fun i hi => h.1 i hi) (go_pairwise h.2)

theorem getD_ft {l : Array Bool} {i : Nat} (h : l.getD i false = true) : l.getD i true = true := by
  simp only [Array.getD_eq_getD_getElem?] at *
  cases hi : l[i]? <;> rw [hi] at h <;> simp_all

theorem dep_listed {listed : Array Bool} (hc : closedL ops listed) : ∀ (n i j : Nat), (∀ o, ops[i]? = some o → ∀ e ∈ o.after, Region.binds .any e = true → listed.getD e.on false = true) → depB ops n i j = true → listed.getD j true = true
  | 0, _, _, _, h => by simp [depB] at h
  | n + 1, i, j, hi, h => by
    simp only [depB] at h
    split at h
    · rename_i o ho
      rw [Array.any_eq_true'] at h
      obtain ⟨e, he, hb⟩ := h
      simp only [Bool.and_eq_true, Bool.or_eq_true, beq_iff_eq] at hb
      obtain ⟨hbd, hb⟩ := hb
      have hl := hi o ho e he hbd
      rcases hb with rfl | hb
      · exact getD_ft hl
      · exact dep_listed hc n e.on j (fun o' ho' e' he' hb' => hc e.on o' ho' (getD_ft hl) e' he' hb') hb
    · cases h

theorem depOK_B : DepOK ops (depB ops ops.size) := fun _ hc i j hi h => dep_listed hc _ i j hi h

theorem clear_of_pairs (hdep : DepOK ops dep) {listed : Array Bool} (hc : closedL ops listed) {i : Nat} {o : Oper} (ho : ops[i]? = some o) (hready : ∀ e ∈ o.after, Region.binds .any e = true → listed.getD e.on false = true) :
    ∀ {r : List Nat}, i ∈ r → (∀ j ∈ r, listed.getD j true = false) → r.Pairwise (fun j i => pairB dep ops eff j i = true) → clearM ops eff i o r
  | j :: r, hm, hu, hp => by
    by_cases hji : j = i
    · exact .inl hji
    · have hm' : i ∈ r := by
        rcases List.mem_cons.1 hm with h | h
        · exact absurd h.symm hji
        · exact h
      have hpj := (List.pairwise_cons.1 hp).1 i hm'
      simp only [pairB, Bool.and_eq_true, Bool.or_eq_true, Bool.not_eq_true'] at hpj
      obtain ⟨_, hd⟩ := hpj
      rcases hd with hd | ⟨he, hap⟩
      · exfalso
        have := hdep _ hc i j (fun o' ho' => by rw [ho] at ho'; cases ho'; exact hready) hd
        rw [hu j (by simp)] at this
        cases this
      · refine .inr ⟨hji, he, fun oj hoj => ?_, clear_of_pairs hdep hc ho hready hm' (fun k hk => hu k (by simp [hk])) (List.pairwise_cons.1 hp).2⟩
        rw [ho, hoj] at hap
        exact hap
  | [], hm, _, _ => by cases hm

theorem any_of_lexM (hdep : DepOK ops dep) (hs : Region.noSelect ops = true) (hed : ∀ i o, ops[i]? = some o → ∀ e ∈ o.after, Region.binds .any e = true → e.on ≠ i ∧ e.on < ops.size) : ∀ (n : Nat) (r : List Nat) (listed : Array Bool) (a : Act) (L : List Chunk) (D : List Fact) (w : World) (Q' : Exit → Act → World → Prop), (∀ a L D w, Te a L D → SatW G w L D → Q' .normal a w) →
    r.length = n → listed.size = ops.size → (∀ i, listed.getD i true = false ↔ i ∈ r) → closedL ops listed → r.Pairwise (fun j i => pairB dep ops eff j i = true) → (z < ops.size → ∀ j ∈ r, j ≠ z → dep z j = true) → lexM P G ops eff z L0 D0 Te r a L D → (Ents L D L0 D0 ∨ r = []) → SatW G w L D →
    wpAny P .any ops Q' n listed a w
  | 0, r, listed, a, L, D, w, Q', hQ, hlen, hsz, hr, hc, hp, hz, h, hE, hw => by
    have hnil : r = [] := List.eq_nil_of_length_eq_zero hlen
    subst hnil
    refine ⟨?_, hQ _ _ _ _ h hw⟩
    rw [List.eq_nil_iff_forall_not_mem]
    intro i hi
    have := (hr i).1 (mem_ready.1 hi).1
    cases this
  | n + 1, r, listed, a, L, D, w, Q', hQ, hlen, hsz, hr, hc, hp, hz, h, hE, hw => by
    replace hE : Ents L D L0 D0 := hE.resolve_right fun he => by rw [he] at hlen; cases hlen
    refine ⟨fun hnil => ?_, fun i hi => ?_⟩
    · -- the first of r is ready
      exfalso
      match r, hlen with
      | j :: r, _ =>
        have hj : listed.getD j true = false := (hr j).2 (by simp)
        cases hoj : ops[j]? with
        | none => simp only [lexM, hoj] at h
        | some oj =>
          have : j ∈ Region.ready .any ops listed := mem_ready.2 ⟨hj, oj, hoj, fun e he hb => by
            cases hl : listed.getD e.on false with
            | true => rfl
            | false =>
              exfalso
              by_cases hlt : e.on < listed.size
              · have hl' : listed.getD e.on true = false := by
                  simp only [Array.getD_eq_getD_getElem?, Array.getElem?_eq_getElem hlt, Option.getD_some] at hl ⊢
                  exact hl
                have hmem := (hr e.on).1 hl'
                rcases List.mem_cons.1 hmem with hej | hmem
                · exact (hed j oj hoj e he hb).1 hej
                · have := (List.pairwise_cons.1 hp).1 e.on hmem
                  simp only [pairB, Bool.and_eq_true, Bool.not_eq_true'] at this
                  have hd := this.1.2
                  simp only [directB, hoj] at hd
                  rw [Array.any_eq_false'] at hd
                  exact hd e he (by simp [hb])
              · exact hlt (by rw [hsz]; exact (hed j oj hoj e he hb).2)⟩
          rw [hnil] at this
          cases this
    · obtain ⟨hun, o, ho, hall⟩ := mem_ready.1 hi
      have hm := (hr i).1 hun
      have hcl := clear_of_pairs (eff := eff) hdep hc ho hall hm (fun j hj => (hr j).2 hj) hp
      have hst := bubble hs ho r a L D w hcl h hE hw
      have hnd : r.Nodup := hp.imp fun hjk => by
        simp only [pairB, Bool.and_eq_true, bne_iff_ne] at hjk
        exact hjk.1.1
      have hlt : i < listed.size := by
        rcases Nat.lt_or_ge i listed.size with h | h
        · exact h
        · simp [Array.getElem?_eq_none h] at hun
      have next : ∀ u w', (∃ L' D', SatW G w' L' D' ∧ (Ents L' D' L0 D0 ∨ i = z) ∧ lexM P G ops eff z L0 D0 Te (r.erase i) (a.put o.dst u) L' D') → wpAny P .any ops Q' n (listed.setIfInBounds i true) (a.put o.dst u) w' := by
        rintro u w' ⟨L', D', hw', hE', hl⟩
        have hE2 : Ents L' D' L0 D0 ∨ r.erase i = [] := hE'.imp_right fun hiz => by
          subst hiz
          rw [List.eq_nil_iff_forall_not_mem]
          intro j hj
          have hji : j ≠ i := (hnd.mem_erase_iff.1 hj).1
          have hjr : j ∈ r := (hnd.mem_erase_iff.1 hj).2
          have hd := hz (by rw [← hsz]; exact hlt) j hjr hji
          have hl1 := hdep _ hc i j (fun o' ho' => by rw [ho] at ho'; cases ho'; exact hall) hd
          rw [(hr j).2 hjr] at hl1
          cases hl1
        refine any_of_lexM hdep hs hed n (r.erase i) _ _ L' D' w' Q' hQ ?_ ?_ ?_ ?_ ?_ (fun hzs j hj hjz => hz hzs j (List.mem_of_mem_erase hj) hjz) hl hE2 hw'
        · rw [List.length_erase_of_mem hm]; omega
        · simpa using hsz
        · intro k
          rw [hnd.mem_erase_iff, ← hr k]
          by_cases hki : k = i
          · subst hki; simp [hlt]
          · simp [Array.getD_eq_getD_getElem?, Array.getElem?_setIfInBounds_ne (Ne.symm hki), hki]
        · intro k ok hok hk e he hb
          by_cases hei : e.on = i
          · rw [hei]; simp [hlt]
          · rw [show (listed.setIfInBounds i true).getD e.on false = listed.getD e.on false by simp [Array.getD_eq_getD_getElem?, Array.getElem?_setIfInBounds_ne (Ne.symm hei)]]
            by_cases hki : k = i
            · subst hki
              rw [ho] at hok
              cases hok
              exact hall e he hb
            · refine hc k ok hok ?_ e he hb
              simpa [Array.getD_eq_getD_getElem?, Array.getElem?_setIfInBounds_ne (Ne.symm hki)] using hk
        · exact hp.sublist List.erase_sublist
      unfold wpOp
      simp only [ho]
      rcases hst with ⟨hwt, hg⟩ | ⟨hwt, hR⟩
      · rw [if_pos hwt]
        exact .inl (hg.wp next)
      · rw [if_neg (by simp [hwt])]
        exact next _ _ hR

theorem region_of_lexM {id : Nat} {r : List Nat} {a : Act} {L : List Chunk} {D : List Fact} {w : World} {Q' : Exit → Act → World → Prop} (hm : P.follows .mixedOrders = true) (hdep : DepOK ops dep) (hB : okD dep ops eff r = true) (hz : z < ops.size → ∀ j ∈ r, j ≠ z → dep z j = true) (hQ : ∀ a L D w, Te a L D → SatW G w L D → Q' .normal a w)
    (h : lexM P G ops eff z L0 D0 Te r a L D) (hE : Ents L D L0 D0) (hw : SatW G w L D) : (Code.region id ops true).wp P Q' a w := by
  simp only [okD, Bool.and_eq_true, List.all_eq_true, decide_eq_true_eq, List.mem_range] at hB
  obtain ⟨⟨⟨⟨hs, hed⟩, hlt⟩, hall⟩, hgo⟩ := hB
  have hp := go_pairwise hgo
  have hnd : r.Nodup := hp.imp fun hjk => by
    simp only [pairB, Bool.and_eq_true, bne_iff_ne] at hjk
    exact hjk.1.1
  have hperm : r.Perm (List.range ops.size) := by
    rw [List.perm_ext_iff_of_nodup hnd List.nodup_range]
    intro i
    rw [List.mem_range]
    exact ⟨fun hi => hlt i hi, fun hi => by simpa using hall i hi⟩
  refine wp_region_any hm (any_of_lexM hdep hs (edgesB_spec hed) ops.size r _ a L D _ Q' hQ ?_ (by simp) ?_ ?_ hp hz h (.inl hE) ?_)
  · simpa using hperm.length_eq
  · intro i
    rw [hperm.mem_iff, List.mem_range]
    by_cases hi : i < ops.size
    · simp [hi]
    · simp [hi]
  · intro i o ho hl
    exfalso
    have hi : i < ops.size := (Array.getElem?_eq_some_iff.1 ho).1
    simp [hi] at hl
  · exact satW_drew hw

/-! ### Two operations that work on memory, in either order -/

theorem lexM_append {T2 : Act → List Chunk → List Fact → Prop} {q : List Nat} (hT : ∀ a L D, T2 a L D → lexM P G ops eff z L0 D0 Te q a L D) : ∀ (r : List Nat) (a : Act) (L : List Chunk) (D : List Fact), lexM P G ops eff z L0 D0 T2 r a L D → lexM P G ops eff z L0 D0 Te (r ++ q) a L D
  | [], a, L, D, h => hT a L D h
  | i :: r, a, L, D, h => by
    simp only [List.cons_append, lexM] at h ⊢
    cases hi : ops[i]? with
    | none => rw [hi] at h; exact h.elim
    | some o =>
      rw [hi] at h
      simp only at h ⊢
      rcases h with ⟨hw, ⟨he, v, hq, hr⟩ | ⟨he, hg⟩⟩ | ⟨hw, hr⟩
      · exact .inl ⟨hw, .inl ⟨he, v, hq, lexM_append hT r _ _ _ hr⟩⟩
      · exact .inl ⟨hw, .inr ⟨he, fun w hs => (hg w hs).mono fun u w' ⟨L', D', h1, h2, h3⟩ => ⟨L', D', h1, h2, lexM_append hT r _ _ _ h3⟩⟩⟩
      · exact .inr ⟨hw, lexM_append hT r _ _ _ hr⟩

theorem first_ready {listed : Array Bool} (hed : ∀ i o, ops[i]? = some o → ∀ e ∈ o.after, Region.binds .any e = true → e.on ≠ i ∧ e.on < ops.size) (hsz : listed.size = ops.size) {j : Nat} {r : List Nat} (hr : ∀ i, listed.getD i true = false ↔ i ∈ j :: r)
    (hd : ∀ k ∈ r, directB ops j k = false) (hj : j < ops.size) : Region.ready .any ops listed ≠ [] := by
  intro hnil
  have hjl : listed.getD j true = false := (hr j).2 (by simp)
  obtain ⟨oj, hoj⟩ : ∃ o, ops[j]? = some o := ⟨_, Array.getElem?_eq_getElem hj⟩
  have : j ∈ Region.ready .any ops listed := mem_ready.2 ⟨hjl, oj, hoj, fun e he hb => by
    cases hl : listed.getD e.on false with
    | true => rfl
    | false =>
      exfalso
      by_cases hlt : e.on < listed.size
      · have hl' : listed.getD e.on true = false := by
          simp only [Array.getD_eq_getD_getElem?, Array.getElem?_eq_getElem hlt, Option.getD_some] at hl ⊢
          exact hl
        have hmem := (hr e.on).1 hl'
        rcases List.mem_cons.1 hmem with hej | hmem
        · exact (hed j oj hoj e he hb).1 hej
        · have hd := hd e.on hmem
          simp only [directB, hoj] at hd
          rw [Array.any_eq_false'] at hd
          exact hd e he (by simp [hb])
      · exact hlt (by rw [hsz]; exact (hed j oj hoj e he hb).2)⟩
  rw [hnil] at this
  cases this

theorem listed_step {listed : Array Bool} {i : Nat} {r : List Nat} (hnd : r.Nodup) (hlt : i < listed.size) (hr : ∀ k, listed.getD k true = false ↔ k ∈ r) (k : Nat) : (listed.setIfInBounds i true).getD k true = false ↔ k ∈ r.erase i := by
  rw [hnd.mem_erase_iff, ← hr k]
  by_cases hki : k = i
  · subst hki; simp [hlt]
  · simp [Array.getD_eq_getD_getElem?, Array.getElem?_setIfInBounds_ne (Ne.symm hki), hki]
theorem closed_step {listed : Array Bool} {i : Nat} {o : Oper} (hlt : i < listed.size) (ho : ops[i]? = some o) (hall : ∀ e ∈ o.after, Region.binds .any e = true → listed.getD e.on false = true) (hc : closedL ops listed) : closedL ops (listed.setIfInBounds i true) := by
  intro k ok hok hk e he hb
  by_cases hei : e.on = i
  · rw [hei]; simp [hlt]
  · rw [show (listed.setIfInBounds i true).getD e.on false = listed.getD e.on false by simp [Array.getD_eq_getD_getElem?, Array.getElem?_setIfInBounds_ne (Ne.symm hei)]]
    by_cases hki : k = i
    · subst hki
      rw [ho] at hok
      cases hok
      exact hall e he hb
    · refine hc k ok hok ?_ e he hb
      simpa [Array.getD_eq_getD_getElem?, Array.getElem?_setIfInBounds_ne (Ne.symm hki)] using hk

/-- What is asked of two places in an order where e may be taken at any time. -/
def pairX (dep : Nat → Nat → Bool) (ops : Array Oper) (eff : Nat → Bool) (e j i : Nat) : Prop := pairB dep ops eff j i = true ∨ (j = e ∧ i ≠ e ∧ directB ops e i = false)

theorem pairX_ne {e j i : Nat} (h : pairX dep ops eff e j i) : j ≠ i := by
  rcases h with h | ⟨rfl, h, _⟩
  · simp only [pairB, Bool.and_eq_true, bne_iff_ne] at h; exact h.1.1
  · exact Ne.symm h
theorem pairX_direct {e j i : Nat} (h : pairX dep ops eff e j i) : directB ops j i = false := by
  rcases h with h | ⟨rfl, _, h⟩
  · simp only [pairB, Bool.and_eq_true, Bool.not_eq_true'] at h; exact h.1.2
  · exact h
theorem pairX_B {e j i : Nat} (h : pairX dep ops eff e j i) (hj : j ≠ e) : pairB dep ops eff j i = true := h.resolve_right fun hx => hj hx.1

theorem clear_of_pairsX (hdep : DepOK ops dep) {listed : Array Bool} (hc : closedL ops listed) {i : Nat} {o : Oper} (ho : ops[i]? = some o) (hready : ∀ e ∈ o.after, Region.binds .any e = true → listed.getD e.on false = true) :
    ∀ {r : List Nat}, i ∈ r → (∀ j ∈ r, listed.getD j true = false) → r.Pairwise (fun j k => k = i → pairB dep ops eff j k = true) → clearM ops eff i o r
  | j :: r, hm, hu, hp => by
    by_cases hji : j = i
    · exact .inl hji
    · have hm' : i ∈ r := by
        rcases List.mem_cons.1 hm with h | h
        · exact absurd h.symm hji
        · exact h
      have hpj := (List.pairwise_cons.1 hp).1 i hm' rfl
      simp only [pairB, Bool.and_eq_true, Bool.or_eq_true, Bool.not_eq_true'] at hpj
      obtain ⟨_, hd⟩ := hpj
      rcases hd with hd | ⟨he, hap⟩
      · exfalso
        have := hdep _ hc i j (fun o' ho' => by rw [ho] at ho'; cases ho'; exact hready) hd
        rw [hu j (by simp)] at this
        cases this
      · refine .inr ⟨hji, he, fun oj hoj => ?_, clear_of_pairsX hdep hc ho hready hm' (fun k hk => hu k (by simp [hk])) (List.pairwise_cons.1 hp).2⟩
        rw [ho, hoj] at hap
        exact hap
  | [], hm, _, _ => by cases hm

/-- One of the two comes: all that stands ahead of it may wait. -/
theorem either_first (hdep : DepOK ops dep) (hs : Region.noSelect ops = true) (hed : ∀ i o, ops[i]? = some o → ∀ e ∈ o.after, Region.binds .any e = true → e.on ≠ i ∧ e.on < ops.size) {e : Nat}
    {r : List Nat} {listed : Array Bool} {a : Act} {L : List Chunk} {D : List Fact} {w : World} {Q' : Exit → Act → World → Prop} (hQ : ∀ a L D w, Te a L D → SatW G w L D → Q' .normal a w) {n : Nat} (hlen : r.length = n + 1) (hsz : listed.size = ops.size) (hr : ∀ i, listed.getD i true = false ↔ i ∈ r)
    (hc : closedL ops listed) (hp : r.Pairwise (pairX dep ops eff e)) (hz : z < ops.size → ∀ j ∈ r, j ≠ z → dep z j = true) (hez : e ≠ z) (h : lexM P G ops eff z L0 D0 Te r a L D) (hE : Ents L D L0 D0) (hw : SatW G w L D) {o : Oper} (ho : ops[e]? = some o)
    (hall : ∀ e ∈ o.after, Region.binds .any e = true → listed.getD e.on false = true) (hun : listed.getD e true = false) : wpOp P ops Q' e (wpAny P .any ops Q' n (listed.setIfInBounds e true)) a w := by
  have hnd : r.Nodup := hp.imp fun h => pairX_ne h
  have hm := (hr e).1 hun
  have hcl : clearM ops eff e o r := clear_of_pairsX hdep hc ho hall hm (fun j hj => (hr j).2 hj) (hp.imp fun {j k} (h : pairX dep ops eff e j k) (hk : k = e) => pairX_B h fun hj : j = e => pairX_ne h (hj.trans hk.symm))
  have hst := bubble hs ho r a L D w hcl h hE hw
  have hlt : e < listed.size := by
    rcases Nat.lt_or_ge e listed.size with h | h
    · exact h
    · simp [Array.getElem?_eq_none h] at hun
  have next : ∀ u w', (∃ L' D', SatW G w' L' D' ∧ (Ents L' D' L0 D0 ∨ e = z) ∧ lexM P G ops eff z L0 D0 Te (r.erase e) (a.put o.dst u) L' D') → wpAny P .any ops Q' n (listed.setIfInBounds e true) (a.put o.dst u) w' := by
    rintro u w' ⟨L', D', hw', hE', hl⟩
    refine any_of_lexM hdep hs hed n (r.erase e) _ _ L' D' w' Q' hQ ?_ (by simpa using hsz) (listed_step hnd hlt hr) (closed_step hlt ho hall hc) ?_ (fun hzs j hj hjz => hz hzs j (List.mem_of_mem_erase hj) hjz) hl (.inl (hE'.resolve_right hez)) hw'
    · rw [List.length_erase_of_mem hm]; omega
    · exact (hp.sublist List.erase_sublist).imp_of_mem fun {j k} hj _ h => pairX_B h (hnd.mem_erase_iff.1 hj).1
  unfold wpOp
  simp only [ho]
  rcases hst with ⟨hwt, hg⟩ | ⟨hwt, hR⟩
  · rw [if_pos hwt]
    exact .inl (hg.wp next)
  · rw [if_neg (by simp [hwt])]
    exact next _ _ hR

/-- Two that work on memory, in either order; what stands ahead of them is quiet. -/
theorem any_of_lexM2 (hdep : DepOK ops dep) (hs : Region.noSelect ops = true) (hed : ∀ i o, ops[i]? = some o → ∀ e ∈ o.after, Region.binds .any e = true → e.on ≠ i ∧ e.on < ops.size) {e1 e2 : Nat} {q1 q2 : List Nat} (hq : q1.length = q2.length)
    (hd : ∀ i ∈ q1, i ≠ e2 → dep i e1 = true ∨ dep i e2 = true) {Q' : Exit → Act → World → Prop} (hQ : ∀ a L D w, Te a L D → SatW G w L D → Q' .normal a w) (hez1 : e1 ≠ z) (hez2 : e2 ≠ z) :
    ∀ (n : Nat) (pre : List Nat) (listed : Array Bool) (a : Act) (L : List Chunk) (D : List Fact) (w : World), pre.length = n → z ∉ pre → e1 ∉ pre → e2 ∉ pre → listed.size = ops.size → (∀ j ∈ pre ++ e1 :: q1, j < ops.size) → (∀ i, listed.getD i true = false ↔ i ∈ pre ++ e1 :: q1) → (∀ i, i ∈ pre ++ e1 :: q1 ↔ i ∈ pre ++ e2 :: q2) → closedL ops listed →
      (pre ++ e1 :: q1).Pairwise (pairX dep ops eff e1) → (pre ++ e2 :: q2).Pairwise (pairX dep ops eff e2) → (z < ops.size → ∀ j ∈ pre ++ e1 :: q1, j ≠ z → dep z j = true) →
      lexM P G ops eff z L0 D0 (fun a L D => lexM P G ops eff z L0 D0 Te (e1 :: q1) a L D ∧ lexM P G ops eff z L0 D0 Te (e2 :: q2) a L D) pre a L D → Ents L D L0 D0 → SatW G w L D → wpAny P .any ops Q' (n + q1.length + 1) listed a w := by
  intro n
  induction n with
  | zero => ?_
  | succ n ih => ?_
  all_goals
    intro pre listed a L D w hlen hzp h1p h2p hsz hlt hr hperm hc hp1 hp2 hz h hE hw
    refine ⟨fun hnil => ?_, fun i hi => ?_⟩
    · exfalso
      cases pre with
      | nil => exact first_ready hed hsz hr (fun k hk => pairX_direct ((List.pairwise_cons.1 hp1).1 k hk)) (hlt _ (by simp)) hnil
      | cons j pre => exact first_ready hed hsz hr (fun k hk => pairX_direct ((List.pairwise_cons.1 hp1).1 k hk)) (hlt _ (by simp)) hnil
    · obtain ⟨hun, o, ho, hall⟩ := mem_ready.1 hi
      have hm := (hr i).1 hun
      by_cases hi1 : i = e1
      · subst hi1
        exact either_first hdep hs hed hQ (by rw [List.length_append, hlen]; simp only [List.length_cons]; omega) hsz hr hc hp1 hz hez1 (lexM_append (fun _ _ _ h => h.1) pre a L D h) hE hw ho hall hun
      by_cases hi2 : i = e2
      · subst hi2
        exact either_first hdep hs hed hQ (by rw [List.length_append, hlen]; simp only [List.length_cons]; omega) hsz (fun k => (hr k).trans (hperm k)) hc hp2 (fun hzs j hj hjz => hz hzs j ((hperm j).2 hj) hjz) hez2 (lexM_append (fun _ _ _ h => h.2) pre a L D h) hE hw ho hall hun
      have hmem : i ∈ pre ∨ i ∈ q1 := by
        simp only [List.mem_append, List.mem_cons] at hm
        rcases hm with h | h | h
        · exact .inl h
        · exact absurd h hi1
        · exact .inr h
      rcases hmem with hip | hip
      · have hppre := (List.pairwise_append.1 hp1).1
        have hnd : pre.Nodup := hppre.imp fun h => pairX_ne h
        have hnd1 : (pre ++ e1 :: q1).Nodup := hp1.imp fun h => pairX_ne h
        have hnd2 : (pre ++ e2 :: q2).Nodup := hp2.imp fun h => pairX_ne h
        have hcl : clearM ops eff i o pre := clear_of_pairsX hdep hc ho hall hip (fun j hj => (hr j).2 (by simp [hj])) (hppre.imp_of_mem fun {j k} (hj : j ∈ pre) _ (h : pairX dep ops eff e1 j k) _ => pairX_B h fun hx : j = e1 => h1p (hx ▸ hj))
        have hst := bubble hs ho pre a L D w hcl h hE hw
        have hltl : i < listed.size := by
          rcases Nat.lt_or_ge i listed.size with h | h
          · exact h
          · simp [Array.getElem?_eq_none h] at hun
        have her : (pre ++ e1 :: q1).erase i = pre.erase i ++ e1 :: q1 := List.erase_append_left _ hip
        have her2 : (pre ++ e2 :: q2).erase i = pre.erase i ++ e2 :: q2 := List.erase_append_left _ hip
        first
          | (exfalso; rw [List.eq_nil_of_length_eq_zero hlen] at hip; cases hip)
          | (have next : ∀ u w', (∃ L' D', SatW G w' L' D' ∧ (Ents L' D' L0 D0 ∨ i = z) ∧ lexM P G ops eff z L0 D0 (fun a L D => lexM P G ops eff z L0 D0 Te (e1 :: q1) a L D ∧ lexM P G ops eff z L0 D0 Te (e2 :: q2) a L D) (pre.erase i) (a.put o.dst u) L' D') → wpAny P .any ops Q' (n + 1 + q1.length) (listed.setIfInBounds i true) (a.put o.dst u) w' := by
              rintro u w' ⟨L', D', hw', hE', hl⟩
              have hiz : i ≠ z := fun hx => hzp (hx ▸ hip)
              rw [show n + 1 + q1.length = n + q1.length + 1 by omega]
              refine ih (pre.erase i) _ _ L' D' w' (by rw [List.length_erase_of_mem hip]; omega) (fun hx => hzp (List.mem_of_mem_erase hx)) (fun hx => h1p (List.mem_of_mem_erase hx)) (fun hx => h2p (List.mem_of_mem_erase hx)) (by simpa using hsz) (fun j hj => hlt j (List.mem_of_mem_erase (show j ∈ (pre ++ e1 :: q1).erase i by rw [her]; exact hj))) ?_ ?_ (closed_step hltl ho hall hc) ?_ ?_ (fun hzs j hj hjz => hz hzs j (List.mem_of_mem_erase (show j ∈ (pre ++ e1 :: q1).erase i by rw [her]; exact hj)) hjz) hl (hE'.resolve_right hiz) hw'
              · rw [← her]; exact listed_step hnd1 hltl hr
              · intro k
                rw [← her, ← her2, hnd1.mem_erase_iff, hnd2.mem_erase_iff, hperm k]
              · rw [← her]; exact hp1.sublist List.erase_sublist
              · rw [← her2]; exact hp2.sublist List.erase_sublist
             unfold wpOp
             simp only [ho]
             rcases hst with ⟨hwt, hg⟩ | ⟨hwt, hR⟩
             · rw [if_pos hwt]
               exact .inl (hg.wp next)
             · rw [if_neg (by simp [hwt])]
               exact next _ _ hR)
      · exfalso
        rcases hd i hip hi2 with hd | hd
        · have := hdep _ hc i e1 (fun o' ho' => by rw [ho] at ho'; cases ho'; exact hall) hd
          rw [(hr e1).2 (by simp)] at this
          cases this
        · have := hdep _ hc i e2 (fun o' ho' => by rw [ho] at ho'; cases ho'; exact hall) hd
          rw [(hr e2).2 ((hperm e2).2 (by simp))] at this
          cases this

/-- The check, with the two places. -/
def okD2 (dep : Nat → Nat → Bool) (ops : Array Oper) (eff : Nat → Bool) (pre : List Nat) (e1 : Nat) (q1 : List Nat) (e2 : Nat) (q2 : List Nat) (z : Nat) : Bool :=
  Region.noSelect ops && edgesB ops && (pre ++ e1 :: q1).all (· < ops.size) && (List.range ops.size).all ((pre ++ e1 :: q1).contains ·) && (pre ++ e2 :: q2).all (· < ops.size) && (List.range ops.size).all ((pre ++ e2 :: q2).contains ·) && go e1 (pre ++ e1 :: q1) && go e2 (pre ++ e2 :: q2)
    && (q1.all fun i => Nat.beq i e2 || dep i e1 || dep i e2) && !pre.contains z && !pre.contains e1 && !pre.contains e2 && (e1 != z) && (e2 != z) && (Nat.ble ops.size z || (pre ++ e1 :: q1).all fun j => Nat.beq j z || dep z j)
  where
  go (x : Nat) : List Nat → Bool
    | [] => true
    | j :: r => r.all (fun i => pairB dep ops eff j i || (Nat.beq j x && !Nat.beq i x && !directB ops x i)) && go x r
theorem go_pairX {e : Nat} : ∀ {r : List Nat}, okD2.go dep ops eff e r = true → r.Pairwise (pairX dep ops eff e)
  | [], _ => .nil
  | j :: r, h => by
    simp only [okD2.go, Bool.and_eq_true, List.all_eq_true, Bool.or_eq_true, Bool.not_eq_true'] at h
    refine .cons (fun i hi => (h.1 i hi).imp_right fun hx => ⟨Nat.eq_of_beq_eq_true hx.1.1, fun hie => ?_, hx.2⟩) (go_pairX h.2)
    have := hx.1.2
    rw [hie, Nat.beq_refl] at this
    cases this

theorem contains_not {l : List Nat} {x : Nat} (h : l.contains x = false) : x ∉ l := fun hx => by
  rw [← List.contains_iff_mem] at hx
  rw [hx] at h; cases h

theorem region_of_lexM2 {id : Nat} {pre q1 q2 : List Nat} {e1 e2 : Nat} {a : Act} {L : List Chunk} {D : List Fact} {w : World} {Q' : Exit → Act → World → Prop} (hm : P.follows .mixedOrders = true) (hdep : DepOK ops dep) (hB : okD2 dep ops eff pre e1 q1 e2 q2 z = true) (hQ : ∀ a L D w, Te a L D → SatW G w L D → Q' .normal a w)
    (h : lexM P G ops eff z L0 D0 (fun a L D => lexM P G ops eff z L0 D0 Te (e1 :: q1) a L D ∧ lexM P G ops eff z L0 D0 Te (e2 :: q2) a L D) pre a L D) (hE : Ents L D L0 D0) (hw : SatW G w L D) : (Code.region id ops true).wp P Q' a w := by
  simp only [okD2, Bool.and_eq_true, Bool.not_eq_true', bne_iff_ne, Bool.or_eq_true] at hB
  obtain ⟨⟨⟨⟨⟨⟨⟨⟨⟨⟨⟨⟨⟨⟨hs, hed⟩, hlt⟩, hall⟩, hlt2⟩, hall2⟩, hgo1⟩, hgo2⟩, hd⟩, hzp⟩, h1p⟩, h2p⟩, hez1⟩, hez2⟩, hz⟩ := hB
  have hp1 := go_pairX hgo1
  have hp2 := go_pairX hgo2
  have key : ∀ {r : List Nat}, r.Nodup → r.all (· < ops.size) = true → (List.range ops.size).all (r.contains ·) = true → r.Perm (List.range ops.size) := fun {r} hnd h1 h2 => by
    rw [List.perm_ext_iff_of_nodup hnd List.nodup_range]
    intro i
    rw [List.mem_range]
    refine ⟨fun hi => by simpa using List.all_eq_true.1 h1 i hi, fun hi => ?_⟩
    have := List.all_eq_true.1 h2 i (List.mem_range.2 hi)
    rwa [List.contains_iff_mem] at this
  have hperm1 := key (hp1.imp fun h => pairX_ne h) hlt hall
  have hperm2 := key (hp2.imp fun h => pairX_ne h) hlt2 hall2
  have hlen : pre.length + q1.length + 1 = ops.size := by
    have := hperm1.length_eq
    simp at this
    omega
  have hq : q1.length = q2.length := by
    have := hperm1.length_eq
    have := hperm2.length_eq
    simp at *
    omega
  refine wp_region_any hm ?_
  rw [← hlen]
  refine any_of_lexM2 hdep hs (edgesB_spec hed) hq (fun i hi hie => ?_) hQ hez1 hez2 pre.length pre _ a L D _ rfl (contains_not hzp) (contains_not h1p) (contains_not h2p) (by simp; omega) (fun j hj => by rw [hperm1.mem_iff, List.mem_range] at hj; exact hj) ?_ (fun i => by rw [hperm1.mem_iff, hperm2.mem_iff]) ?_ hp1 hp2 ?_ h hE (satW_drew hw)
  · have := List.all_eq_true.1 hd i hi
    rcases Bool.or_eq_true_iff.1 this with h1 | h1
    · rcases Bool.or_eq_true_iff.1 h1 with h2 | h2
      · exact absurd (Nat.eq_of_beq_eq_true h2) hie
      · exact .inl h2
    · exact .inr h1
  · intro i
    rw [hperm1.mem_iff, List.mem_range]
    by_cases hi : i < ops.size
    · simp [hi, hlen]
    · simp [hi, hlen]
  · intro i o ho hl
    exfalso
    have hi : i < ops.size := (Array.getElem?_eq_some_iff.1 ho).1
    simp [hi, hlen] at hl
  · intro hzs j hj hjz
    rcases hz with hz | hz
    · exact absurd (Nat.le_of_ble_eq_true hz) (by omega)
    · have := List.all_eq_true.1 hz j hj
      rcases Bool.or_eq_true_iff.1 this with h1 | h1
      · exact absurd (Nat.eq_of_beq_eq_true h1) hjz
      · exact h1

end

/-! ### The executor -/

/-- A result without memory. -/
def Is (v : V) : V → List Chunk → List Fact → Prop := fun v' L D => v' = v ∧ L = [] ∧ D = []

inductive CallQ (P : Program) (f : FuncId) (vs : List V) (D : List Fact) (k : V → Prop) : Prop where
  | mk (D1 : List Fact) (v : V) (h : FnS P f vs [] D1 (Is v)) (hd : ∀ m, allD m D → allD m D1) (k : k v)

def vcBuiltinQ (T : Ty) (b : Builtin) (ts : List TypeId) (vs : List V) (k : V → Prop) : Prop :=
  match b, ts, vs with
  | .len, [t], [x] =>
    match find T t with
    | some i =>
      match i.d, x with
      | .str, .c (.s l) => k (lenV l.length)
      | .sl _, .c (.sl _ n _) => k (lenV n)
      | .arr n _, _ => k (lenV n)
      | _, _ => False
    | none => False
  | .max, _, [.c (.i ka a), .c (.i _ b)] => CondP (a < b) (k (.c (.i ka b))) (k (.c (.i ka a)))
  | .min, _, [.c (.i ka a), .c (.i _ b)] => CondP (b < a) (k (.c (.i ka b))) (k (.c (.i ka a)))
  | _, _, _ => False

def vcCallQ (P : Program) (T : Ty) (c : Call) (env : Env) (D : List Fact) (k : V → Prop) : Prop :=
  match c.callee with
  | .value (.func f) => argsK env c.args.toList fun vs => CallQ P f vs D k
  | .builtin b => argsK env c.args.toList fun vs => vcBuiltinQ T b c.argTypes.toList vs k
  | _ => False

def vcConvertQ (T : Ty) (s d : Nat) (v : V) (k : V → Prop) : Prop :=
  match find T s, find T d with
  | some si, some di =>
    match si.d, di.d, v with
    | .int _, .int kd, .c (.i _ n) => ArP kd n fun r => k (.c (.i kd r))
    | .str, .str, .c (.s l) => k (.c (.s l))
    | _, _, _ => False
  | _, _ => False

/-- The operations that only look. -/
def vcQ (P : Program) (T : Ty) (op : Op) (env : Env) (L : List Chunk) (D : List Fact) (k : V → Prop) : Prop :=
  match op with
  | .move x => withE env x k
  | .assign x => withE env x k
  | .pick c a b => pickK env c a b k
  | .build t ps => partsK env ps.toList fun l => vcBuild T t l k
  | .load t x => withE env x fun a => vcLoad T t a L D k
  | .binOp op t x y _ => withE env x fun a => withE env y fun b => vcBin T op t a b k
  | .unOp op _ x => withE env x fun a => vcUn op a k
  | .convert s d x => withE env x fun a => vcConvertQ T s d a k
  | .slice t x lo hi none => withE env x fun a => optK env lo fun lo => optK env hi fun hi => vcSlice T t a lo hi k
  | .fieldAddr s x f => withE env x fun a => vcFieldAddr T s a f L D k
  | .field t x f => withE env x fun a => vcField T t a f k
  | .indexAddr t x i => withE env x fun a => withE env i fun i => vcIndexAddr T t a i L D k
  | .index t x i => withE env x fun a => withE env i fun i => vcIndex T t a i k
  | .extract x i => withE env x fun v => extractK v i k
  | .call c => vcCallQ P T c env D k
  | .nilCheck x => withE env x fun v => nilK v L D k
  | _ => False

section
variable {P : Program} {G : Ent} {L0 : List Chunk} {D0 : List Fact} {N : Nat} {env : Env}

theorem quiet_val {o : Oper} {a : Act} {v : V} (hr : ∀ w, SatW G w L0 D0 → (execOp a.eval o).run P w = .ok (.value v.enc) w) : quietG P G L0 D0 o a.eval v.enc := by
  intro L D hE w hw
  unfold gives
  rw [hr w (hE G w hw)]
  exact ⟨rfl, hw⟩

theorem satW_keep {w w' : World} {L : List Chunk} {D : List Fact} (h : SatW G w L D) (hsz : w.heap.size ≤ w'.heap.size) (hsame : ∀ b, b < w.heap.size → w'.heap[b]? = w.heap[b]?) (hk : Kept w w') : SatW G w' L D := by
  obtain ⟨m, h1, h2⟩ := h
  have hlt := mem_fps_lt h1.ok
  refine ⟨m, ⟨h1.nd, allOk_of_same h1.ok fun b hb => hsame b (hlt b hb), fun b o hb => ?_, h1.d⟩, h2.trans ⟨hsz, fun b hb _ => hsame b hb, fun b hb => .inl hb, fun _ _ h => h, fun _ _ h => .inl h, hk⟩⟩
  have h3 := h1.im b o hb
  exact ⟨by rw [hsame b (Array.getElem?_eq_some_iff.1 h3.1).1]; exact h3.1, h3.2⟩

theorem quiet_call {o : Oper} {a : Act} {f : FuncId} {vs : List V} {D1 : List Fact} {v : V} (hrun : ∀ w, (execOp a.eval o).run P w = .ok (.enter f (vs.map V.enc).toArray) w) (h : FnS P f vs [] D1 (Is v)) (hd : ∀ m, allD m D0 → allD m D1) :
    quietG P G L0 D0 o a.eval v.enc := by
  intro L D hE w hw
  unfold gives
  rw [hrun w]
  obtain ⟨m, h1, h2⟩ := hE G w hw
  refine (h.2 w m ⟨by simp [fps], trivial, fun b o hb => ⟨(h1.im b o hb).1, by simp [fps]⟩, hd m h1.d⟩).mono ?_
  rintro e w' ⟨v', L', D', m', rfl, ⟨rfl, rfl, rfl⟩, _, hfr⟩
  exact ⟨_, rfl, rfl, satW_keep hw hfr.size (fun b hb => hfr.same b hb (by simp [fps])) hfr.kept⟩

theorem vcBuiltinQ_sound {T : Ty} (hT : TyOK P T) {b : Builtin} {ts : List TypeId} {vs : List V} {ty : TypeId} {k : V → Prop} (h : vcBuiltinQ T b ts vs k) :
    ∃ v, k v ∧ ∀ w (consts : Array Bool), (builtin b ts.toArray ty consts (vs.map V.enc).toArray).run P w = .ok (.value v.enc) w := by
  unfold vcBuiltinQ at h
  split at h
  · rename_i t x
    split at h
    · rename_i i hi
      have hd' := (hT _ _ hi).2.2.2
      split at h
      · rename_i l hd
        rw [hd] at hd'
        refine ⟨_, h, fun w consts => ?_⟩
        simp only [builtin, List.map_cons, List.map_nil, V.enc, C.enc, Sem.run_bind]
        rw [run_len_string w t _ _ hd']
        rfl
      · rename_i e a n c hd
        rw [hd] at hd'
        simp only [TyD.ok] at hd'
        exact ⟨_, h, fun w consts => by simp [builtin, V.enc, C.enc, lenV, Builtin.len_, run_underlying hd', goInt]⟩
      · rename_i n e hd
        rw [hd] at hd'
        simp only [TyD.ok] at hd'
        exact ⟨_, h, fun w consts => by simp [builtin, V.enc, C.enc, lenV, Builtin.len_, run_underlying hd', goInt]⟩
      · exact h.elim
    · exact h.elim
  · rename_i ts ka x kb y
    by_cases hab : x < y
    · exact ⟨_, h.t hab, fun w consts => by simp only [builtin, List.map_cons, List.map_nil, V.enc, C.enc, Sem.run_bind, run_max_int2, Result.andThen_ok, Sem.run_pure, gt_iff_lt, hab, if_true]⟩
    · exact ⟨_, h.f hab, fun w consts => by simp only [builtin, List.map_cons, List.map_nil, V.enc, C.enc, Sem.run_bind, run_max_int2, Result.andThen_ok, Sem.run_pure, gt_iff_lt, hab, if_false]⟩
  · rename_i ts ka x kb y
    by_cases hab : y < x
    · exact ⟨_, h.t hab, fun w consts => by simp only [builtin, List.map_cons, List.map_nil, V.enc, C.enc, Sem.run_bind, run_min_int2, Result.andThen_ok, Sem.run_pure, hab, if_true]⟩
    · exact ⟨_, h.f hab, fun w consts => by simp only [builtin, List.map_cons, List.map_nil, V.enc, C.enc, Sem.run_bind, run_min_int2, Result.andThen_ok, Sem.run_pure, hab, if_false]⟩
  · exact h.elim

theorem vcQ_sound {T : Ty} (hT : TyOK P T) {o : Oper} {a : Act} {k : V → Prop} (he : EnvOK N env a) (h : vcQ P T o.op env L0 D0 k) : ∃ v, k v ∧ quietG P G L0 D0 o a.eval v.enc := by
  unfold vcQ at h
  split at h
  · rename_i x ho
    obtain ⟨v, hv, h⟩ := withE_elim h
    exact ⟨v, h, quiet_val fun w _ => by simp only [execOp, ho, he.ev hv, Sem.run_pure]⟩
  · rename_i x ho
    obtain ⟨v, hv, h⟩ := withE_elim h
    exact ⟨v, h, quiet_val fun w _ => by simp only [execOp, ho, he.ev hv, Sem.run_pure]⟩
  · rename_i c x y ho
    obtain ⟨cv, hc, h⟩ := withE_elim h
    split at h
    · obtain ⟨v, hv, h⟩ := withE_elim h
      exact ⟨v, h, quiet_val fun w _ => by simp only [execOp, ho, he.ev hc, he.ev hv, V.enc, C.enc, asBool, Sem.run_bind, Sem.run_pure, Result.andThen_ok, if_true]⟩
    · obtain ⟨v, hv, h⟩ := withE_elim h
      exact ⟨v, h, quiet_val fun w _ => by simp only [execOp, ho, he.ev hc, he.ev hv, V.enc, C.enc, asBool, Sem.run_bind, Sem.run_pure, Result.andThen_ok, Bool.false_eq_true, if_false]⟩
    · exact h.elim
  · rename_i t ps ho
    obtain ⟨l, h, hl⟩ := partsK_sound he h
    obtain ⟨v, hk, hr⟩ := vcBuild_sound hT h
    have e : (ps.map fun (i, x) => (i, a.eval x)) = (l.map fun (i, v) => (i, v.enc)).toArray := by
      rw [← hl, ← Array.toList_map, Array.toArray_toList]
    exact ⟨v, hk, quiet_val fun w _ => by simp only [execOp, ho, e, Sem.run_bind, hr w, Result.andThen_ok, Sem.run_pure]⟩
  · rename_i t x ho
    obtain ⟨v, hv, h⟩ := withE_elim h
    obtain ⟨r, hk, hr⟩ := vcLoad_uni (G := G) hT h
    exact ⟨r, hk, quiet_val fun w hw => by simp only [execOp, ho, he.ev hv, Sem.run_bind, hr w hw, Result.andThen_ok, Sem.run_pure]⟩
  · rename_i op t x y yt ho
    obtain ⟨v, hv, h⟩ := withE_elim h
    obtain ⟨u, hu, h⟩ := withE_elim h
    obtain ⟨r, hk, hr⟩ := vcBin_sound hT (ox := x) (oy := y) h
    refine ⟨r, hk, quiet_val fun w _ => ?_⟩
    have := hr w
    simp only [execOp, ho, he.ev hv, he.ev hu]
    rw [Sem.run_bind, this]
    rfl
  · rename_i op t x ho
    obtain ⟨v, hv, h⟩ := withE_elim h
    obtain ⟨r, hk, hr⟩ := vcUn_sound (P := P) h
    exact ⟨r, hk, quiet_val fun w _ => by simp only [execOp, ho, he.ev hv, Sem.run_bind, hr w, Result.andThen_ok, Sem.run_pure]⟩
  · rename_i s d x ho
    obtain ⟨v, hv, h⟩ := withE_elim h
    unfold vcConvertQ at h
    split at h
    · rename_i si di hsi hdi
      have h1 := (hT _ _ hsi).2.2.2
      have h2 := (hT _ _ hdi).2.2.2
      split at h
      · rename_i ks kd kv n hd1 hd2
        rw [hd1] at h1
        rw [hd2] at h2
        simp only [TyD.ok] at h1 h2
        refine ⟨_, h.run, quiet_val fun w _ => ?_⟩
        simp [execOp, ho, he.ev hv, convert, run_underlying h1, run_underlying h2, V.enc, C.enc, Conv.intToInt]
      · rename_i l hd1 hd2
        rw [hd1] at h1
        rw [hd2] at h2
        simp only [TyD.ok] at h1 h2
        refine ⟨_, h, quiet_val fun w _ => ?_⟩
        simp [execOp, ho, he.ev hv, convert, run_underlying h1, run_underlying h2, V.enc, C.enc]
      · exact h.elim
    · exact h.elim
  · rename_i t x lo hi ho
    obtain ⟨v, hv, h⟩ := withE_elim h
    obtain ⟨l, h, hl⟩ := optK_sound he h
    obtain ⟨u, h, hu⟩ := optK_sound he h
    obtain ⟨r, hk, hr⟩ := vcSlice_sound hT h
    exact ⟨r, hk, quiet_val fun w _ => by simp only [execOp, ho, he.ev hv, hl, hu, Option.map_none, Sem.run_bind, hr w, Result.andThen_ok, Sem.run_pure]⟩
  · rename_i s x f ho
    obtain ⟨v, hv, h⟩ := withE_elim h
    obtain ⟨r, hk, hr⟩ := vcFieldAddr_uni (G := G) hT h
    exact ⟨r, hk, quiet_val fun w hw => by simp only [execOp, ho, he.ev hv, Sem.run_bind, hr w hw, Result.andThen_ok, Sem.run_pure]⟩
  · rename_i t x f ho
    obtain ⟨v, hv, h⟩ := withE_elim h
    obtain ⟨r, hk, hr⟩ := vcField_sound hT h
    exact ⟨r, hk, quiet_val fun w _ => by simp only [execOp, ho, he.ev hv, Sem.run_bind, hr w, Result.andThen_ok, Sem.run_pure]⟩
  · rename_i t x i ho
    obtain ⟨v, hv, h⟩ := withE_elim h
    obtain ⟨u, hu, h⟩ := withE_elim h
    obtain ⟨r, hk, hr⟩ := vcIndexAddr_uni (G := G) hT h
    exact ⟨r, hk, quiet_val fun w hw => by simp only [execOp, ho, he.ev hv, he.ev hu, Sem.run_bind, hr w hw, Result.andThen_ok, Sem.run_pure]⟩
  · rename_i t x i ho
    obtain ⟨v, hv, h⟩ := withE_elim h
    obtain ⟨u, hu, h⟩ := withE_elim h
    obtain ⟨r, hk, hr⟩ := vcIndex_sound hT h
    exact ⟨r, hk, quiet_val fun w _ => by simp only [execOp, ho, he.ev hv, he.ev hu, Sem.run_bind, hr w, Result.andThen_ok, Sem.run_pure]⟩
  · rename_i x i ho
    obtain ⟨v, hv, h⟩ := withE_elim h
    obtain ⟨r, hk, hr⟩ := extractK_sound (P := P) h
    exact ⟨r, hk, quiet_val fun w _ => by simp only [execOp, ho, he.ev hv, Sem.run_bind, hr w, Result.andThen_ok, Sem.run_pure]⟩
  · rename_i c ho
    unfold vcCallQ at h
    split at h
    · rename_i f hc
      obtain ⟨vs, h, hvs⟩ := argsK_sound he h
      obtain ⟨D1, v, hf, hd, hk⟩ := h
      have hargs : c.args.map a.eval = (vs.map V.enc).toArray := by rw [← hvs, ← Array.toList_map, Array.toArray_toList]
      refine ⟨v, hk, quiet_call (fun w => ?_) hf hd⟩
      simp only [execOp, ho, resolve, hc, Act.eval, Deferred.ofValue, Sem.run_bind, Sem.run_pure, Result.andThen_ok, invoke, hargs]
      simp [run_callFunc hf.1]
    · rename_i b hc
      obtain ⟨vs, h, hvs⟩ := argsK_sound he h
      have hargs : c.args.map a.eval = (vs.map V.enc).toArray := by rw [← hvs, ← Array.toList_map, Array.toArray_toList]
      have key := vcBuiltinQ_sound (P := P) (ty := o.type) hT h
      rw [Array.toArray_toList] at key
      obtain ⟨v, hk, hr⟩ := key
      refine ⟨v, hk, quiet_val fun w _ => ?_⟩
      simp only [execOp, ho, resolve, hc, Sem.run_bind, Sem.run_pure, Result.andThen_ok, invoke, hargs]
      exact hr w _
    · exact h.elim
  · rename_i x ho
    obtain ⟨v, hv, h⟩ := withE_elim h
    obtain ⟨hk, ha⟩ := nilK_sound (G := G) h
    exact ⟨v, hk, quiet_val fun w hw => by obtain ⟨a', ha⟩ := ha w hw; simp only [execOp, ho, he.ev hv, ha, Sem.run_pure]⟩
  · exact h.elim

/-- After an operation that works on memory, what the others look at is still there. -/
structure EntP (L : List Chunk) (D : List Fact) (L' : List Chunk) (D' : List Fact) (A : Prop) : Prop where
  h : Ents L D L' D'
  k : A

def vcM (P : Program) (T : Ty) (N : Nat) (ops : List Oper) (eff : List Nat) (z : Nat) (L0 : List Chunk) (D0 : List Fact) : List Nat → Env → List Chunk → List Fact → Nat → Kont → Prop
  | [], env, L, D, nid, k => k env L D nid
  | i :: r, env, L, D, nid, k =>
    match ops[i]? with
    | none => False
    | some o =>
      wantK ops env o.guard
        (match eff.contains i with
        | false => vcQ P T o.op env L0 D0 fun v => putK N o.dst v env fun env' => vcM P T N ops eff z L0 D0 r env' L D nid k
        | true => vcOp P T o.op env L D nid fun v L' D' n' => match Nat.beq i z with
          | true => putK N o.dst v env fun env' => vcM P T N ops eff z L0 D0 r env' L' D' n' k
          | false => EntP L' D' L0 D0 (putK N o.dst v env fun env' => vcM P T N ops eff z L0 D0 r env' L' D' n' k))
        (putK N o.dst .t0 env fun env' => vcM P T N ops eff z L0 D0 r env' L D nid k)

theorem vcM_sound {T : Ty} {z : Nat} (hT : TyOK P T) (ops : List Oper) (eff : List Nat) {k : Kont} {Te : Act → List Chunk → List Fact → Prop} (hQ : ∀ env' L' D' n' a', k env' L' D' n' → EnvOK N env' a' → Te a' L' D') :
    ∀ (r : List Nat) (env : Env) (L : List Chunk) (D : List Fact) (nid : Nat) (a : Act), vcM P T N ops eff z L0 D0 r env L D nid k → EnvOK N env a → lexM P G ops.toArray (fun i => eff.contains i) z L0 D0 Te r a L D
  | [], env, L, D, nid, a, h, he => hQ _ _ _ _ _ h he
  | i :: r, env, L, D, nid, a, h, he => by
    simp only [vcM] at h
    simp only [lexM]
    cases ho : ops[i]? with
    | none => rw [ho] at h; exact h.elim
    | some o =>
      rw [ho] at h
      simp only [List.getElem?_toArray, ho]
      simp only at h
      rcases wantK_sound he h with ⟨hw, h⟩ | ⟨hw, h⟩
      · refine .inl ⟨hw, ?_⟩
        cases hef : eff.contains i with
        | false =>
          rw [hef] at h
          obtain ⟨v, hk, hq⟩ := vcQ_sound (G := G) hT he h
          obtain ⟨env', hk', he'⟩ := putK_sound hk he
          exact .inl ⟨rfl, v.enc, hq, vcM_sound hT ops eff hQ r env' L D nid _ hk' he'⟩
        | true =>
          rw [hef] at h
          refine .inr ⟨rfl, fun w hw' => (vcOp_sound hT h he hw').mono ?_⟩
          rintro u w' ⟨v, L', D', n', rfl, hk, hs'⟩
          cases hiz : Nat.beq i z with
          | true =>
            rw [hiz] at hk
            obtain ⟨env', hk', he'⟩ := putK_sound hk he
            exact ⟨L', D', hs', .inr (Nat.eq_of_beq_eq_true hiz), vcM_sound hT ops eff hQ r env' L' D' n' _ hk' he'⟩
          | false =>
            rw [hiz] at hk
            obtain ⟨env', hk', he'⟩ := putK_sound hk.k he
            exact ⟨L', D', hs', .inl hk.h, vcM_sound hT ops eff hQ r env' L' D' n' _ hk' he'⟩
      · obtain ⟨env', hk', he'⟩ := putK_sound h he
        exact .inr ⟨hw, vcM_sound hT ops eff hQ r env' L D nid _ hk' he'⟩

/-- A region that draws its order, executed in the order 'r'; 'eff': the operations that work on memory. -/
theorem J_draw {T : Ty} (hT : TyOK P T) (hm : P.follows .mixedOrders = true) {id : Nat} {ops : List Oper} {L : List Chunk} {D : List Fact} {nid : Nat} {K : Kt} (r eff : List Nat) (L0 : List Chunk) (D0 : List Fact) (hB : okB ops.toArray (fun i => eff.contains i) r = true) (hE : Ents L D L0 D0)
    (h : vcM P T N ops eff ops.length L0 D0 r env L D nid (K .normal)) : J P G N (.region id ops.toArray true) env L D nid K :=
  ⟨fun a w he hs => region_of_lexM (z := ops.length) (Te := fun a' L' D' => ∀ w', SatW G w' L' D' → PostK G N K .normal a' w') hm depOK_B hB (fun h => absurd h (by simp)) (fun _ _ _ w' h hw => h w' hw) (vcM_sound hT ops eff (fun env' L' D' n' a' hk he' w' hs' => ⟨env', L', D', n', hk, he', hs'⟩) r env L D nid a h he) hE hs⟩

theorem J_drawM {T : Ty} (hT : TyOK P T) (hm : P.follows .mixedOrders = true) {id : Nat} {ops : List Oper} {L : List Chunk} {D : List Fact} {nid : Nat} {K : Kt} (A r eff : List Nat) (L0 : List Chunk) (D0 : List Fact) (hB : okM A ops.toArray (fun i => eff.contains i) r = true) (hE : Ents L D L0 D0)
    (h : vcM P T N ops eff ops.length L0 D0 r env L D nid (K .normal)) : J P G N (.region id ops.toArray true) env L D nid K := by
  simp only [okM, Bool.and_eq_true] at hB
  exact ⟨fun a w he hs => region_of_lexM (z := ops.length) (Te := fun a' L' D' => ∀ w', SatW G w' L' D' → PostK G N K .normal a' w') hm (depOK_masks hB.1.2 hB.1.1) hB.2 (fun h => absurd h (by simp)) (fun _ _ _ w' h hw => h w' hw) (vcM_sound hT ops eff (fun env' L' D' n' a' hk he' w' hs' => ⟨env', L', D', n', hk, he', hs'⟩) r env L D nid a h he) hE hs⟩

/-- All operations come before z in every order. -/
def lastB (A : List Nat) (z : Nat) (r : List Nat) : Bool := r.all fun j => Nat.beq j z || (A.getD z 0).testBit j

/-- A region that draws its order, where the last operation always is z: what the quiet ones look at may change with it. -/
theorem J_drawZ0 {T : Ty} (hT : TyOK P T) (hm : P.follows .mixedOrders = true) {id : Nat} {ops : List Oper} {L : List Chunk} {D : List Fact} {nid : Nat} {K : Kt} (A r eff : List Nat) (z : Nat) (L0 : List Chunk) (D0 : List Fact) (hB : (okM A ops.toArray (fun i => eff.contains i) r && lastB A z r) = true) (hE : Ents L D L0 D0)
    (h : vcM P T N ops eff z L0 D0 r env L D nid (K .normal)) : J P G N (.region id ops.toArray true) env L D nid K := by
  simp only [okM, Bool.and_eq_true] at hB
  refine ⟨fun a w he hs => region_of_lexM (z := z) (Te := fun a' L' D' => ∀ w', SatW G w' L' D' → PostK G N K .normal a' w') hm (depOK_masks hB.1.1.2 hB.1.1.1) hB.1.2 (fun _ j hj hjz => ?_) (fun _ _ _ w' h hw => h w' hw) (vcM_sound hT ops eff (fun env' L' D' n' a' hk he' w' hs' => ⟨env', L', D', n', hk, he', hs'⟩) r env L D nid a h he) hE hs⟩
  have := List.all_eq_true.1 hB.2 j hj
  rcases Bool.or_eq_true_iff.1 this with h1 | h1
  · exact absurd (Nat.eq_of_beq_eq_true h1) hjz
  · exact h1


/-- Two things to do. -/
structure TwoP (A B : Prop) : Prop where
  l : A
  r : B

/-- The check with masks. -/
def okM2 (A : List Nat) (ops : Array Oper) (eff : Nat → Bool) (pre : List Nat) (e1 : Nat) (q1 : List Nat) (e2 : Nat) (q2 : List Nat) (z : Nat) : Bool := Nat.ble A.length ops.size && masksB A ops && okD2 (fun i j => (A.getD i 0).testBit j) ops eff pre e1 q1 e2 q2 z

/-- A region that draws its order, where two operations that work on memory may come in either order. -/
theorem J_drawT0 {T : Ty} (hT : TyOK P T) (hm : P.follows .mixedOrders = true) {id : Nat} {ops : List Oper} {L : List Chunk} {D : List Fact} {nid : Nat} {K : Kt} (A pre : List Nat) (e1 : Nat) (q1 : List Nat) (e2 : Nat) (q2 eff : List Nat) (z : Nat) (L0 : List Chunk) (D0 : List Fact) (hB : okM2 A ops.toArray (fun i => eff.contains i) pre e1 q1 e2 q2 z = true) (hE : Ents L D L0 D0)
    (h : vcM P T N ops eff z L0 D0 pre env L D nid fun env' L' D' n' => TwoP (vcM P T N ops eff z L0 D0 (e1 :: q1) env' L' D' n' (K .normal)) (vcM P T N ops eff z L0 D0 (e2 :: q2) env' L' D' n' (K .normal))) : J P G N (.region id ops.toArray true) env L D nid K := by
  simp only [okM2, Bool.and_eq_true] at hB
  have key : ∀ (r : List Nat) (env' : Env) (L' : List Chunk) (D' : List Fact) (n' : Nat) (a' : Act), vcM P T N ops eff z L0 D0 r env' L' D' n' (K .normal) → EnvOK N env' a' → lexM P G ops.toArray (fun i => eff.contains i) z L0 D0 (fun a' L' D' => ∀ w', SatW G w' L' D' → PostK G N K .normal a' w') r a' L' D' := fun r env' L' D' n' a' h he =>
    vcM_sound hT ops eff (fun env' L' D' n' a' hk he' w' hs' => ⟨env', L', D', n', hk, he', hs'⟩) r env' L' D' n' a' h he
  exact ⟨fun a w he hs => region_of_lexM2 (z := z) (Te := fun a' L' D' => ∀ w', SatW G w' L' D' → PostK G N K .normal a' w') hm (depOK_masks hB.1.2 hB.1.1) hB.2 (fun _ _ _ w' h hw => h w' hw) (vcM_sound hT ops eff (fun env' L' D' n' a' hk he' => ⟨key _ _ _ _ _ _ hk.l he', key _ _ _ _ _ _ hk.r he'⟩) pre env L D nid a h he) hE hs⟩

end
end Go.X

namespace Go.X
open Go Go.RowKit
variable [Sm : Inhabited Manner] [Df : Inhabited (List Deferred)]

theorem CondP.yes {p A B : Prop} (h : p) (k : A) : CondP p A B := ⟨fun _ => k, fun hn => absurd h hn⟩
theorem CondP.no {p A B : Prop} (h : ¬ p) (k : B) : CondP p A B := ⟨fun hp => absurd hp h, fun _ => k⟩

/-- A loop of few rounds, walked round by round. -/
def Kt.round (R : Env → List Chunk → List Fact → Nat → Prop) (K : Kt) : Kt := fun e env L D n =>
  match e with
  | .normal => R env L D n
  | e => K e env L D n

def JR (P : Program) (G : Ent) (N : Nat) (c : Code) (K : Kt) : Nat → Env → List Chunk → List Fact → Nat → Prop
  | 0, _, _, _, _ => False
  | n + 1, env, L, D, nid => J P G N c env L D nid (Kt.round (JR P G N c K n) K)

theorem JR_succ {P : Program} {G : Ent} {N : Nat} {c : Code} {K : Kt} {n : Nat} {env : Env} {L : List Chunk} {D : List Fact} {nid : Nat} (h : J P G N c env L D nid (Kt.round (JR P G N c K n) K)) : JR P G N c K (n + 1) env L D nid := h

theorem J_rounds {P : Program} {G : Ent} {N : Nat} {env : Env} {L : List Chunk} {D : List Fact} {nid : Nat} {K : Kt} {c : Code} (n : Nat) (h : JR P G N c K n env L D nid) : J P G N (.loop c) env L D nid K :=
  ⟨fun a w he hs => wp_loop_rounds n (by
    induction n generalizing env L D nid a w with
    | zero => exact h.elim
    | succ n ih =>
      rw [rounds_succ]
      refine wp_mono (J.run h a w he hs) fun e a' w' hq => ?_
      obtain ⟨env', L', D', n', hk, he', hs'⟩ := hq
      cases e with
      | normal => exact ih hk a' w' he' hs'
      | exit id => exact ⟨env', L', D', n', hk, he', hs'⟩
      | goto l => exact ⟨env', L', D', n', hk, he', hs'⟩
      | ret => exact ⟨env', L', D', n', hk, he', hs'⟩
      | panic ch => exact ⟨env', L', D', n', hk, he', hs'⟩
      | outgrown => exact ⟨env', L', D', n', hk, he', hs'⟩)⟩

/-- A place at which the walk is to stop. -/
structure JS (P : Program) (G : Ent) (N : Nat) (c : Code) (env : Env) (L : List Chunk) (D : List Fact) (nid : Nat) (K : Kt) : Prop where
  h : J P G N c env L D nid K
theorem J_stop {P : Program} {G : Ent} {N : Nat} {c : Code} {env : Env} {L : List Chunk} {D : List Fact} {nid : Nat} {K : Kt} (h : JS P G N c env L D nid K) : J P G N c env L D nid K := h.h

theorem Holds.ofBelow {w w' : World} {m : Im} {L : List Chunk} {D : List Fact} (h : Holds w m L D) (hb : Below w.heap.size w w') (hS : Sm.default ≠ .strict) : Holds w' m L D ∧ Fr w L m w' L m := by
  have hlt := mem_fps_lt h.ok
  refine ⟨⟨h.nd, allOk_of_same h.ok fun b hb' => hb.block b (hlt b hb'), fun b o ho => ?_, h.d⟩,
    ⟨hb.size, fun b hb' _ => hb.block b hb', fun _ hb' => .inl hb', fun _ _ h => h, fun _ _ h => .inl h, ⟨hb.os, hb.output, hb.size, fun e => absurd e hS, fun e => absurd e hS⟩⟩⟩
  have h1 := h.im b o ho
  exact ⟨by rw [hb.block b (Array.getElem?_eq_some_iff.1 h1.1).1]; exact h1.1, h1.2⟩

/-- A call that touches nothing that was there. -/
theorem fn_below {P : Program} {f : FuncId} {args : List V} {D : List Fact} {v : V} (hE : Enters P f)
    (h : ∀ w m, allD m D → (∀ b o, m b = some o → w.heap[b]? = some o) → Calls P f (args.map V.enc).toArray w fun e w' => e = .returned v.enc ∧ Below w.heap.size w w') (hS : Sm.default ≠ .strict := by decide) : FnS P f args [] D (Is v) := by
  refine ⟨hE, fun w m hh => (h w m hh.d (fun b o hb => (hh.im b o hb).1)).mono ?_⟩
  rintro e w' ⟨rfl, hb⟩
  have hh' : Holds w m [] [] := ⟨hh.nd, hh.ok, hh.im, trivial⟩
  obtain ⟨h1, h2⟩ := hh'.ofBelow hb hS
  exact ⟨v, [], [], m, rfl, ⟨rfl, rfl, rfl⟩, h1, h2⟩

theorem fn_pure {P : Program} {f : FuncId} {args : List V} {D : List Fact} {v : V} (hE : Enters P f) (h : ∀ w, Calls P f (args.map V.enc).toArray w fun e w' => e = .returned v.enc ∧ w' = w) : FnS P f args [] D (Is v) := by
  refine ⟨hE, fun w m hh => (h w).mono ?_⟩
  rintro e w' ⟨rfl, rfl⟩
  exact ⟨v, [], [], m, rfl, ⟨rfl, rfl, rfl⟩, ⟨hh.nd, hh.ok, hh.im, trivial⟩, Fr.refl _ _ _⟩
theorem below_drewN (w : World) (n : Nat) : Below w.heap.size w (w.drewN n) := ⟨rfl, rfl, rfl, Nat.le_refl _, fun _ _ => rfl⟩

/-- A call whose result is known and that leaves nothing behind. -/
theorem CallP.is {P : Program} {f : FuncId} {args : List V} {L : List Chunk} {D D0 : List Fact} {v : V} {K : V → List Chunk → List Fact → Prop} (h : FnS P f args [] D0 (Is v)) (k : K v L D)
    (hd : ∀ m, allD m D → allD m D0 := by first | exact fun _ _ => trivial | exact fun _ h => h | exact fun _ h => ⟨h.1, trivial⟩ | exact fun _ h => ⟨h.2.1, trivial⟩) : CallP P f args L D K :=
  CallP.mk [] L D0 (Is v) h (.refl _) hd ( by rintro _ _ _ ⟨rfl, rfl, rfl⟩; exact k)

/-- Likewise, after what is owned was seen anew. -/
theorem CallP.isE {P : Program} {f : FuncId} {args : List V} {L L1 : List Chunk} {D D0 D1 : List Fact} {v : V} {K : V → List Chunk → List Fact → Prop} (h : FnS P f args [] D0 (Is v)) (hE : Ents L D L1 D1) (hd : ∀ m, allD m D1 → allD m D0) (k : K v L1 D1) : CallP P f args L D K :=
  .mkE [] L1 D0 D1 (Is v) h hE hd (by rintro _ _ _ ⟨rfl, rfl, rfl⟩; exact k)

/-- A call whose result depends on a truth value, which is decided here. -/
theorem CallP.isF {P : Program} {f : FuncId} {args : List V} {L : List Chunk} {D D0 : List Fact} {K : V → List Chunk → List Fact → Prop} (b : Bool) (g : Bool → V) (h : FnS P f args [] D0 (Is (g b)))
    (kt : b = true → K (g true) L D) (kf : b = false → K (g false) L D)
    (hd : ∀ m, allD m D → allD m D0 := by first | exact fun _ _ => trivial | exact fun _ h => h | exact fun _ h => ⟨h.1, trivial⟩ | exact fun _ h => ⟨h.2.1, trivial⟩) : CallP P f args L D K := by
  cases b with
  | true => exact CallP.is h (kt rfl) hd
  | false => exact CallP.is h (kf rfl) hd
theorem CallP.isB {P : Program} {f : FuncId} {args : List V} {L : List Chunk} {D D0 : List Fact} {K : V → List Chunk → List Fact → Prop} {b : Bool} (h : FnS P f args [] D0 (Is (.c (.b b))))
    (kt : b = true → K (.c (.b true)) L D) (kf : b = false → K (.c (.b false)) L D)
    (hd : ∀ m, allD m D → allD m D0 := by first | exact fun _ _ => trivial | exact fun _ h => h | exact fun _ h => ⟨h.1, trivial⟩ | exact fun _ h => ⟨h.2.1, trivial⟩) : CallP P f args L D K :=
  CallP.isF b (fun b => .c (.b b)) h kt kf hd

/-- The end of a function that gives v and leaves nothing behind. -/
theorem FinE.is {L : List Chunk} {D : List Fact} {v v' : V} (h : v' = v) : FinE (Is v) L D v' := ⟨[], [], ⟨h, rfl, rfl⟩, Ents.dropAll.trans (Ents.facts fun _ _ => trivial)⟩

theorem FinE.bool {L : List Chunk} {D : List Fact} {b b' : Bool} (h : b' = b) : FinE (Is (.c (.b b'))) L D (.c (.b b)) := FinE.is (by rw [h])
theorem FinE.str {L : List Chunk} {D : List Fact} {b b' : List UInt8} (h : b' = b) : FinE (Is (.c (.s b'))) L D (.c (.s b)) := FinE.is (by rw [h])
theorem FinE.int {L : List Chunk} {D : List Fact} {k : IntKind} {b b' : Int} (h : b' = b) : FinE (Is (.c (.i k b'))) L D (.c (.i k b)) := FinE.is (by rw [h])

theorem Ents.ofSub {L L0 : List Chunk} {D D0 : List Fact} (h : L0.Sublist L) (hd : ∀ m, allD m D → allD m D0) : Ents L D L0 D0 := by
  obtain ⟨R, hR⟩ := h.exists_perm_append
  exact (Ents.sub ⟨R, hR.trans List.perm_append_comm⟩).trans (Ents.facts hd)

/-- The boxes to which the slots point. -/
def slotIds (env : Env) : List Nat → List Nat
  | [] => []
  | s :: r => match look env s with
    | some (.c (.p id _ _)) => id :: slotIds env r
    | _ => slotIds env r
def hasId (n : Nat) : List Nat → Bool
  | [] => false
  | i :: r => match Nat.beq i n with
    | true => true
    | false => hasId n r
/-- The boxes of the slots, and (b) all rows. -/
def keepC (b : Bool) (ids : List Nat) : List Chunk → List Chunk
  | [] => []
  | .box id ad ty cs :: r => match hasId id ids with
    | true => .box id ad ty cs :: keepC b ids r
    | false => keepC b ids r
  | .row e z a n c cs :: r => match b with
    | true => .row e z a n c cs :: keepC b ids r
    | false => keepC b ids r
  | .obj id ad o :: r => match hasId id ids with
    | true => .obj id ad o :: keepC b ids r
    | false => keepC b ids r
theorem keepC_sub (b : Bool) (ids : List Nat) : ∀ L : List Chunk, (keepC b ids L).Sublist L
  | [] => .slnil
  | .box id ad ty cs :: r => by
    simp only [keepC]; split
    · exact (keepC_sub b ids r).cons_cons _
    · exact (keepC_sub b ids r).cons _
  | .row e z a n c cs :: r => by
    simp only [keepC]; split
    · exact (keepC_sub _ ids r).cons_cons _
    · exact (keepC_sub _ ids r).cons _
  | .obj id ad o :: r => by
    simp only [keepC]; split
    · exact (keepC_sub _ ids r).cons_cons _
    · exact (keepC_sub _ ids r).cons _

/-- A region that draws its order; what its quiet operations look at is named by slots. -/
theorem J_drawS {P : Program} {G : Ent} {N : Nat} {env : Env} {T : Ty} (hT : TyOK P T) (hm : P.follows .mixedOrders = true) {id : Nat} {ops : List Oper} {L : List Chunk} {D : List Fact} {nid : Nat} {K : Kt} (A r eff slots : List Nat) (b : Bool)
    (hB : okM A ops.toArray (fun i => eff.contains i) r = true) (h : vcM P T N ops eff ops.length (keepC b (slotIds env slots) L) D r env L D nid (K .normal)) : J P G N (.region id ops.toArray true) env L D nid K :=
  J_drawM hT hm A r eff _ D hB (Ents.ofSub (keepC_sub _ _ _) fun _ h => h) h
/-- The same, where z is the last operation in every order. -/
theorem J_drawZ {P : Program} {G : Ent} {N : Nat} {env : Env} {T : Ty} (hT : TyOK P T) (hm : P.follows .mixedOrders = true) {id : Nat} {ops : List Oper} {L : List Chunk} {D : List Fact} {nid : Nat} {K : Kt} (A r eff slots : List Nat) (z : Nat) (b : Bool)
    (hB : (okM A ops.toArray (fun i => eff.contains i) r && lastB A z r) = true) (h : vcM P T N ops eff z (keepC b (slotIds env slots) L) D r env L D nid (K .normal)) : J P G N (.region id ops.toArray true) env L D nid K :=
  J_drawZ0 hT hm A r eff z _ D hB (Ents.ofSub (keepC_sub _ _ _) fun _ h => h) h
/-- The same, where two operations that work on memory may come in either order. -/
theorem J_drawT {P : Program} {G : Ent} {N : Nat} {env : Env} {T : Ty} (hT : TyOK P T) (hm : P.follows .mixedOrders = true) {id : Nat} {ops : List Oper} {L : List Chunk} {D : List Fact} {nid : Nat} {K : Kt} (A pre : List Nat) (e1 : Nat) (q1 : List Nat) (e2 : Nat) (q2 eff slots : List Nat) (z : Nat) (b : Bool)
    (hB : okM2 A ops.toArray (fun i => eff.contains i) pre e1 q1 e2 q2 z = true) (h : vcM P T N ops eff z (keepC b (slotIds env slots) L) D pre env L D nid fun env' L' D' n' => TwoP (vcM P T N ops eff z (keepC b (slotIds env slots) L) D (e1 :: q1) env' L' D' n' (K .normal)) (vcM P T N ops eff z (keepC b (slotIds env slots) L) D (e2 :: q2) env' L' D' n' (K .normal))) :
    J P G N (.region id ops.toArray true) env L D nid K :=
  J_drawT0 hT hm A pre e1 q1 e2 q2 eff z _ D hB (Ents.ofSub (keepC_sub _ _ _) fun _ h => h) h

/-- A whole number of Go's library that starts as anything: block g holds an int. -/
def gInt (g : Nat) : Fact :=
  ⟨fun m => ∃ cs t fr n, m g = some (.cells cs t fr) ∧ cs[0]? = some (.int .i64 n), fun _ _ hm ⟨cs, t, fr, n, h1, h2⟩ => ⟨cs, t, fr, n, hm _ _ h1, h2⟩⟩

theorem gInt_cell {g : Nat} {m : Im} {w : World} (h : allD m [gInt g]) (hw : ∀ b o, m b = some o → w.heap[b]? = some o) : ∃ n, w.cell? ⟨g, 0, none⟩ = some (.int .i64 n) := by
  obtain ⟨⟨cs, t, fr, n, h1, h2⟩, _⟩ := h
  refine ⟨n, ?_⟩
  have := hw _ _ h1
  simp [World.cell?, this, h2]

/-- The cells of a slice that does not change, in a world. -/
theorem slF_cells {m : Im} {w : World} {ety esz : Nat} {a : Option Addr} {n : Nat} {cs : List C} (h : SlF m ety esz a n cs) (hn : n ≠ 0) (hw : ∀ b o, m b = some o → w.heap[b]? = some o) :
    ∃ g off, a = some ⟨g, off, none⟩ ∧ g < w.heap.size ∧ cs.length = n * esz ∧ ∀ (j : Nat) (x : C), cs[j]? = some x → w.cell? ⟨g, off + j, none⟩ = some x.enc := by
  obtain ⟨h1, ⟨hn0, _⟩ | ⟨g, off, cur, ty, lo, hi, ha, hm, hl, ht⟩⟩ := h
  · exact absurd hn0 hn
  · have hg := hw _ _ hm
    refine ⟨g, off, ha, (Array.getElem?_eq_some_iff.1 hg).1, hl, fun j x hx => ?_⟩
    have : ((cur.toList.drop off).take (n * esz))[j]? = some x.enc := by rw [ht]; simp [hx]
    have hj : j < n * esz := by
      have := (List.getElem?_eq_some_iff.1 hx).1
      omega
    rw [List.getElem?_take_of_lt hj, List.getElem?_drop] at this
    simp only [World.cell?, hg]
    simpa using this

theorem map_take1 {α : Type} {f : α → C} {l : List α} {i : Nat} (h : i < l.length) : ((l.map f).drop (i * 1 + 0)).take 1 = [f l[i]] := by
  rw [Nat.mul_one, Nat.add_zero, ← List.map_drop, ← List.map_take, List.drop_eq_getElem_cons h]; rfl
theorem byte_take1 {l : List UInt8} {i : Nat} (h : i < l.length) : ((l.map byteC).drop (i * 1 + 0)).take 1 = [byteC (l.getD i 0)] := by
  rw [map_take1 h]; simp [h]
theorem setC_map {α : Type} {f : α → C} {l : List α} {i : Nat} {x : α} (h : i < l.length) : setC (i * 1 + 0) [f x] (l.map f) = (l.set i x).map f := by
  rw [Nat.mul_one, Nat.add_zero, List.map_set, List.set_eq_take_append_cons_drop, if_pos (by simpa using h)]; simp [setC]
/-- A row's length is at most its room. -/
theorem J_cap {P : Program} {G : Ent} {N : Nat} {c0 : Code} {env : Env} {L : List Chunk} {D : List Fact} {nid : Nat} {K : Kt} {e z : Nat} {a : Option Addr} {n c : Nat} {cs : List C} (hm : .row e z a n c cs ∈ L) (k : n ≤ c → c ≤ maxLen → cs.length = n * z → J P G N c0 env L D nid K) : J P G N c0 env L D nid K :=
  ⟨fun ac w he hs => by
    obtain ⟨m, h1, _⟩ := id hs
    have hr := (allOk_mem h1.ok hm).2
    have h : n ≤ c ∧ c ≤ maxLen ∧ cs.length = n * z := by
      rcases hr with ⟨_, rfl, rfl, rfl⟩ | ⟨g, _, cur, lo, hi, _, h2, h3, _, _, h4, _⟩
      · exact ⟨Nat.le_refl _, Nat.zero_le _, by simp⟩
      · exact ⟨h2, h3, h4⟩
    exact (k h.1 h.2.1 h.2.2).run ac w he hs⟩

/-- A part of a slice that does not change. -/
theorem slFact_sub {m : Im} {e z : Nat} {a : Option Addr} {n c lo hi : Nat} {cs : List C} (h : (slFact e z a n cs).p m) (hl : lo ≤ hi) (hn : hi ≤ n) (hc : n ≤ c) : (slFact e z (resl a lo c z) (hi - lo) ((cs.take (hi * z)).drop (lo * z))).p m := by
  obtain ⟨h1, h2⟩ := h
  have hone : oneAll ((cs.take (hi * z)).drop (lo * z)) := fun x hx => h1 x (List.mem_of_mem_take (List.mem_of_mem_drop hx))
  refine ⟨hone, ?_⟩
  rcases h2 with ⟨h3, h4⟩ | ⟨g, off, cur, ty, lo', hi', h3, h4, h5, h6⟩
  · exact .inl ⟨by omega, by rw [h4]; simp⟩
  · have hlz : lo * z ≤ hi * z := Nat.mul_le_mul_right _ hl
    have hnz : hi * z ≤ n * z := Nat.mul_le_mul_right _ hn
    have hlen : ((cs.take (hi * z)).drop (lo * z)).length = (hi - lo) * z := by rw [List.length_drop, List.length_take, h5, Nat.min_eq_left hnz, Nat.sub_mul]
    by_cases hcl : c = lo
    · have : hi - lo = 0 := by omega
      refine .inl ⟨this, List.eq_nil_of_length_eq_zero (by rw [hlen, this]; simp)⟩
    · refine .inr ⟨g, off + lo * z, cur, ty, lo', hi', ?_, h4, hlen, ?_⟩
      · unfold resl
        rw [if_neg hcl, h3]
        simp [addr_add]
      · rw [List.map_drop, List.map_take, ← h6, List.take_take, Nat.min_eq_left hnz, List.drop_take, List.drop_drop, ← Nat.sub_mul]

theorem slFact_pre {m : Im} {e z : Nat} {a : Option Addr} {n hi : Nat} (c : Nat) {cs : List C} (h : (slFact e z a n cs).p m) (hn : hi ≤ n) : (slFact e z (resl a 0 c z) hi (cs.take (hi * z))).p m := by
  obtain ⟨h1, h2⟩ := h
  refine ⟨fun x hx => h1 x (List.mem_of_mem_take hx), ?_⟩
  rcases h2 with ⟨h3, h4⟩ | ⟨g, off, cur, ty, lo', hi', h3, h4, h5, h6⟩
  · exact .inl ⟨by omega, by rw [h4]; simp⟩
  · have hnz : hi * z ≤ n * z := Nat.mul_le_mul_right _ hn
    refine .inr ⟨g, off, cur, ty, lo', hi', ?_, h4, by rw [List.length_take, h5, Nat.min_eq_left hnz], ?_⟩
    · unfold resl
      rw [h3]
      split
      · rfl
      · simp [addr_add]
    · rw [List.map_take, ← h6, List.take_take, Nat.min_eq_left hnz]

/-- The same memory under other names. -/
structure Same (L L' : List Chunk) : Prop where
  f : fps L' = fps L
  ok : ∀ w, allOk w L' ↔ allOk w L
theorem FnS.same {P : Program} {f : FuncId} {args args' : List V} {L L' : List Chunk} {D : List Fact} {post post' : V → List Chunk → List Fact → Prop} (h : FnS P f args L D post) (ha : args'.map V.enc = args.map V.enc) (hL : Same L L')
    (hp : ∀ v L1 D1, post v L1 D1 → ∃ L2, Same L1 L2 ∧ post' v L2 D1) : FnS P f args' L' D post' := by
  refine ⟨h.en, fun w m hh => ?_⟩
  rw [ha]
  refine (h.run w m ⟨by rw [← hL.f]; exact hh.nd, (hL.ok w).1 hh.ok, fun b o hb => by rw [← hL.f]; exact hh.im b o hb, hh.d⟩).mono ?_
  rintro e w' ⟨v, L1, D1, m', he, hpost, h3, h4⟩
  obtain ⟨L2, hs, hp2⟩ := hp v L1 D1 hpost
  exact ⟨v, L2, D1, m', he, hp2, ⟨by rw [hs.f]; exact h3.nd, (hs.ok w').2 h3.ok, fun b o hb => by rw [hs.f]; exact h3.im b o hb, h3.d⟩,
    ⟨h4.size, fun b hb hn => h4.same b hb (by rw [← hL.f]; exact hn), fun b hb => by rw [hL.f]; exact h4.own b (by rw [← hs.f]; exact hb), h4.im, fun b o hb => by rw [hL.f]; exact h4.new b o hb, h4.kept⟩⟩

theorem flat_len {α : Type} {F : α → List C} {z : Nat} (hz : ∀ g, (F g).length = z) (l : List α) : (l.flatMap F).length = l.length * z := by
  induction l with
  | nil => simp
  | cons x r ih => rw [List.flatMap_cons, List.length_append, hz, ih, List.length_cons, Nat.add_mul]; omega
/-- The cells of one element. -/
theorem flat_get {α : Type} {F : α → List C} {z : Nat} (hz : ∀ g, (F g).length = z) : ∀ {l : List α} {i : Nat} (h : i < l.length) {o k : Nat}, o + k ≤ z → ((l.flatMap F).drop (i * z + o)).take k = ((F l[i]).drop o).take k
  | x :: r, 0, _, o, k, hk => by
    rw [List.flatMap_cons, Nat.zero_mul, Nat.zero_add, List.drop_append_of_le_length (by rw [hz]; omega), List.take_append_of_le_length (by rw [List.length_drop, hz]; omega)]
    rfl
  | x :: r, i + 1, h, o, k, hk => by
    have ih := flat_get (F := F) hz (l := r) (i := i) (by simpa using h) hk
    rw [List.flatMap_cons, show (i + 1) * z + o = z + (i * z + o) by rw [Nat.add_mul]; omega, ← List.drop_drop, show (F x ++ r.flatMap F).drop z = r.flatMap F by rw [← hz x]; simp, ih]
    simp
theorem flat_take {α : Type} {F : α → List C} {z : Nat} (hz : ∀ g, (F g).length = z) (l : List α) (i : Nat) (h : i ≤ l.length) : (l.flatMap F).take (i * z) = (l.take i).flatMap F := by
  induction l generalizing i with
  | nil => simp
  | cons x r ih =>
    cases i with
    | zero => simp
    | succ i =>
      rw [List.flatMap_cons, show (i + 1) * z = z + i * z by rw [Nat.add_mul]; omega, List.take_add, show (F x ++ r.flatMap F).take z = F x by rw [← hz x]; simp, show (F x ++ r.flatMap F).drop z = r.flatMap F by rw [← hz x]; simp, ih i (by simpa using h)]
      simp

theorem setC_left {o : Nat} {ns a b : List C} (h : o + ns.length ≤ a.length) : setC o ns (a ++ b) = setC o ns a ++ b := by
  unfold setC
  rw [List.take_append_of_le_length (by omega), List.drop_append_of_le_length (by omega)]
  simp
theorem setC_right {o : Nat} {ns a b : List C} : setC (a.length + o) ns (a ++ b) = a ++ setC o ns b := by
  unfold setC
  rw [List.take_append, List.drop_append, List.take_of_length_le (by omega), List.drop_eq_nil_of_le (by omega)]
  simp [Nat.add_sub_cancel_left, show a.length + o + ns.length - a.length = o + ns.length by omega]
/-- One element of a row is changed. -/
theorem setC_flat {α : Type} {F : α → List C} {z : Nat} (hF : ∀ x, (F x).length = z) : ∀ {l : List α} {j : Nat} (hj : j < l.length) {o : Nat} {ns : List C} {x' : α}, o + ns.length ≤ z → setC o ns (F l[j]) = F x' → setC (j * z + o) ns (l.flatMap F) = (l.set j x').flatMap F
  | [], j, hj, _, _, _, _, _ => by simp at hj
  | x :: r, 0, _, o, ns, x', ho, hx => by
    rw [Nat.zero_mul, Nat.zero_add, List.flatMap_cons, setC_left (by rw [hF]; exact ho)]
    show _ = (x' :: r).flatMap F
    rw [List.flatMap_cons, ← hx]
    rfl
  | x :: r, j + 1, hj, o, ns, x', ho, hx => by
    have ih := setC_flat hF (l := r) (j := j) (by simpa using hj) ho hx
    rw [List.flatMap_cons, show (j + 1) * z + o = (F x).length + (j * z + o) by rw [hF, Nat.succ_mul]; omega, setC_right, ih]
    rfl
/-- What a call leaves may be seen anew. -/
theorem FnS.entsP {P : Program} {f : FuncId} {args : List V} {L : List Chunk} {D : List Fact} {post post' : V → List Chunk → List Fact → Prop} (h : FnS P f args L D post) (hp : ∀ v L1 D1, post v L1 D1 → ∃ L2 D2, Ents L1 D1 L2 D2 ∧ post' v L2 D2) : FnS P f args L D post' :=
  ⟨h.en, fun w m hh => (h.run w m hh).mono (by
    rintro e w' ⟨v, L1, D1, m', he, hpost, h3, h4⟩
    obtain ⟨L2, D2, hE, hp2⟩ := hp v L1 D1 hpost
    obtain ⟨m2, h5, h6⟩ := hE ⟨w, L, m⟩ w' ⟨m', h3, h4⟩
    exact ⟨v, L2, D2, m2, he, hp2, h5, h6⟩)⟩

theorem pos_of_ne {α : Type} {l : List α} (h : ¬ l = []) : 0 < l.length := List.length_pos_iff.2 h

end Go.X

namespace Go.X
open Go Go.ChangeShapes Go.WideShapes

section
variable {H : Type} {enc : TypeId × Value → H} {P : Program} {w : World} {base : Nat} {sp : Nat → Bool} {held : Bool}

/-- A reading of cells of type t yields a plain value g, whose cells they are. -/
def OpenS (P : Program) (w : World) (t : Nat) {α : Type} (F : α → List C) (Q : α → Prop) : Prop :=
  ∀ {H : Type} (enc : TypeId × Value → H) (base : Nat) (sp : Nat → Bool) (held : Bool) (n : Nat) (cs : List Value) (x : DataW H × List MemPlace), DataW.trod enc P w base sp held n t cs = some x → ∃ g, cs = (F g).map C.enc ∧ Q g

theorem lit_inR {k : IntKind} {n : Int} (h : (Lit.int k n).wf = true) : inR k n := by
  cases k <;> simp [Lit.wf, IntKind.min, IntKind.max, IntKind.bits, IntKind.signed] at h <;> simp only [inR] <;> omega

theorem openS_int {t : Nat} {k : IntKind} (ht : P.underlying t = some (.int k)) : OpenS P w t (fun n : Int => [.i k n]) (inR k) := by
  intro H enc base sp held n cs x h
  obtain ⟨m, hm, _, hw⟩ := DataW.trod_int ht (fuel := n) h
  exact ⟨m, hm, lit_inR hw⟩
theorem openS_str {t : Nat} (ht : P.underlying t = some .string) : OpenS P w t (fun l : List UInt8 => [.s l]) (fun l => l.length ≤ maxLen) := by
  intro H enc base sp held n cs x h
  obtain ⟨s, hs, _, hl⟩ := DataW.trod_string ht (fuel := n) h
  obtain ⟨⟨l⟩⟩ := s
  exact ⟨l, hs, hl⟩
theorem openS_bool {t : Nat} (ht : P.underlying t = some .bool) : OpenS P w t (fun b : Bool => [.b b]) (fun _ => True) := by
  intro H enc base sp held n cs x h
  obtain ⟨b, hb, _⟩ := DataW.trod_bool ht (fuel := n) h
  exact ⟨b, hb, trivial⟩

/-- The fields from cell o on. -/
def OpenF (P : Program) (w : World) (fs : List (Nat × Nat)) (o size : Nat) {α : Type} (F : α → List C) (Q : α → Prop) : Prop :=
  ∀ {H : Type} (enc : TypeId × Value → H) (base : Nat) (sp : Nat → Bool) (held : Bool) (n : Nat) (cs : List Value) (xs : List (DataW H × List MemPlace)), cs.length = size →
    (fs.mapM fun f => DataW.trod enc P w base sp held n f.2 ((cs.drop f.1).take (P.cellsOf f.2))) = some xs → ∃ g, cs.drop o = (F g).map C.enc ∧ Q g

theorem openF_nil {o : Nat} : OpenF P w [] o o (fun _ : Unit => []) (fun _ => True) := by
  intro H enc base sp held n cs xs hl h
  exact ⟨(), by rw [List.drop_of_length_le (by omega)]; rfl, trivial⟩
theorem openF_cons {ft o z size : Nat} {fs : List (Nat × Nat)} {α β : Type} {F : α → List C} {Q : α → Prop} {F' : β → List C} {Q' : β → Prop} (hz : P.cellsOf ft = z) (h1 : OpenS P w ft F' Q') (h2 : OpenF P w fs (o + z) size F Q) (hle : o + z ≤ size) :
    OpenF P w ((o, ft) :: fs) o size (fun g : β × α => F' g.1 ++ F g.2) (fun g => Q' g.1 ∧ Q g.2) := by
  intro H enc base sp held n cs xs hl h
  rw [List.mapM_cons] at h
  simp only [Option.bind_eq_bind, Option.bind_eq_some_iff] at h
  obtain ⟨x, hx, ys, hys, _⟩ := h
  obtain ⟨g', hg', hq'⟩ := h1 enc base sp held n _ x hx
  obtain ⟨g, hg, hq⟩ := h2 enc base sp held n cs ys hl hys
  refine ⟨(g', g), ?_, hq', hq⟩
  rw [List.map_append, ← hg', ← hg, hz, ← List.drop_drop]
  exact (List.take_append_drop _ _).symm

theorem openS_struct {t size : Nat} {fs : List (Nat × Nat)} {α : Type} {F : α → List C} {Q : α → Prop} (hd : TyD.ok P t (.st fs)) (hs : P.cellsOf t = size) (h : OpenF P w fs 0 size F Q) : OpenS P w t F Q := by
  intro H enc base sp held n cs x hx
  cases n with
  | zero => simp [DataW.trod] at hx
  | succ n =>
    simp only [DataW.trod, hd.1] at hx
    split at hx
    · rename_i hl
      simp only [Option.map_eq_some_iff] at hx
      obtain ⟨xs, hxs, _⟩ := hx
      have hmap : ((P.fieldsOf t).toList.map fun f => (f.offset, f.type)).mapM (fun f => DataW.trod enc P w base sp held n f.2 ((cs.drop f.1).take (P.cellsOf f.2))) = some xs := by
        rw [List.mapM_map]; exact hxs
      rw [hd.2.1] at hmap
      have := h enc base sp held n cs xs (by rw [hl, hs]) hmap
      simpa using this
    · cases hx

theorem cellsOf_ty {t : Nat} {i : TyI} (h : i.ok P t) : P.cellsOf t = i.size := by
  obtain ⟨x, hx, h1, _⟩ := tyI_info h
  simp [Program.cellsOf, hx, h1]

/-- What a slice that is read holds: the memory is that of the world. -/
structure SlOK (w : World) (esz : Nat) (cs : List C) (a : Option Addr) (n c : Nat) : Prop where
  le : n ≤ c
  max : c ≤ maxLen
  f : ∃ ety, SlF (fun b => w.heap[b]?) ety esz a n cs

theorem cells_get {w : World} {a : Addr} {base n : Nat} {cs : List Value} (ha : a.spot = none) (h : w.cells? base a n = some cs) (hn : n ≠ 0) : ∃ cur t fr, w.heap[a.block]? = some (.cells cur t fr) ∧ cs.length = n ∧ (cur.toList.drop a.off).take n = cs := by
  obtain ⟨b, off, _⟩ := a
  simp only at ha
  subst ha
  unfold World.cells? at h
  split at h
  · have hall : ∀ (m : Nat) (o : Nat) (l : List Value), ((List.range' o m).mapM fun i => w.cell? ((⟨b, off, none⟩ : Addr).add i)) = some l → l.length = m ∧ ∀ j : Nat, j < m → w.cell? ⟨b, off + (o + j), none⟩ = l[j]? := by
      intro m
      induction m with
      | zero => intro o l hl; simp at hl; subst hl; simp
      | succ m ih =>
        intro o l hl
        rw [List.range'_succ, List.mapM_cons] at hl
        simp only [Option.bind_eq_bind, Option.bind_eq_some_iff] at hl
        obtain ⟨x, hx, ys, hys, hl⟩ := hl
        simp at hl
        subst hl
        obtain ⟨h1, h2⟩ := ih (o + 1) ys hys
        refine ⟨by simp [h1], fun j hj => ?_⟩
        rw [addr_add] at hx
        cases j with
        | zero => simpa using hx
        | succ j =>
          have := h2 j (by omega)
          rw [List.getElem?_cons_succ, ← this]
          congr 2
          omega
    rw [List.range_eq_range'] at h
    obtain ⟨h1, h2⟩ := hall n 0 cs h
    have h0 := h2 0 (by omega)
    have hlt : 0 < cs.length := by omega
    rw [List.getElem?_eq_getElem hlt] at h0
    cases hb : w.heap[b]? with
    | none => simp [World.cell?, hb] at h0
    | some o =>
      cases o with
      | cells cur t fr =>
        refine ⟨cur, t, fr, rfl, h1, ?_⟩
        apply List.ext_getElem?
        intro j
        by_cases hj : j < n
        · have := h2 j hj
          simp only [World.cell?, hb] at this
          rw [List.getElem?_take_of_lt hj, List.getElem?_drop, ← this]
          simp
        · have hn1 : cs[j]? = none := List.getElem?_eq_none (by omega)
          rw [hn1]
          exact List.getElem?_eq_none (by simp; omega)
      | _ => simp [World.cell?, hb] at h0
  · cases h

theorem mapM_all {α β : Type} {f : α → Option β} : ∀ {l : List α} {ys : List β}, l.mapM f = some ys → ys.length = l.length ∧ ∀ (i : Nat) x, l[i]? = some x → ∃ y, ys[i]? = some y ∧ f x = some y
  | [], ys, h => by simp at h; subst h; simp
  | x :: l, ys, h => by
    rw [List.mapM_cons] at h
    simp only [Option.bind_eq_bind, Option.bind_eq_some_iff] at h
    obtain ⟨y, hy, zs, hzs, h⟩ := h
    simp at h
    subst h
    obtain ⟨h1, h2⟩ := mapM_all hzs
    refine ⟨by simp [h1], fun i u hu => ?_⟩
    cases i with
    | zero => simp at hu; subst hu; exact ⟨y, rfl, hy⟩
    | succ i => exact h2 i u (by simpa using hu)

theorem choose_list {α β : Type} {R : Nat → α → Prop} : ∀ (n : Nat), (∀ i, i < n → ∃ g, R i g) → ∃ gs : List α, gs.length = n ∧ ∀ (i : Nat) g, gs[i]? = some g → R i g
  | 0, _ => ⟨[], rfl, by simp⟩
  | n + 1, h => by
    obtain ⟨gs, h1, h2⟩ := choose_list (β := β) n fun i hi => h i (by omega)
    obtain ⟨g, hg⟩ := h n (by omega)
    refine ⟨gs ++ [g], by simp [h1], fun i u hu => ?_⟩
    by_cases hi : i < n
    · rw [List.getElem?_append_left (by omega)] at hu; exact h2 i u hu
    · by_cases hin : i = n
      · subst hin; rw [List.getElem?_append_right (by omega)] at hu; simp [h1] at hu; subst hu; exact hg
      · rw [List.getElem?_eq_none (by simp; omega)] at hu; cases hu

theorem flatMap_window {α : Type} (F : α → List C) (z : Nat) : ∀ (gs : List α) (l : List Value), (∀ (i : Nat) g, gs[i]? = some g → (l.drop (i * z)).take z = (F g).map C.enc ∧ (F g).length = z) → l.take (gs.length * z) = (gs.flatMap F).map C.enc
  | [], l, _ => by simp
  | g :: gs, l, h => by
    have h0 := (h 0 g rfl).1
    simp only [Nat.zero_mul, List.drop_zero] at h0
    have ih := flatMap_window F z gs (l.drop z) fun i u hu => by
      have := h (i + 1) u (by simpa using hu)
      rw [List.drop_drop, show z + i * z = (i + 1) * z by rw [Nat.add_mul]; omega]
      exact this
    rw [List.flatMap_cons, List.map_append, ← h0, ← ih, List.length_cons, Nat.add_mul, Nat.one_mul, Nat.add_comm, List.take_add]

theorem flatMap_len {α : Type} {F : α → List C} {z : Nat} : ∀ {gs : List α}, (∀ g ∈ gs, (F g).length = z) → (gs.flatMap F).length = gs.length * z
  | [], _ => by simp
  | g :: gs, h => by rw [List.flatMap_cons, List.length_append, h g (by simp), flatMap_len fun u hu => h u (by simp [hu]), List.length_cons, Nat.add_mul]; omega

/-- A slice whose elements open. -/
theorem openS_slice {t e z : Nat} {α : Type} {F : α → List C} {Q : α → Prop} (ht : P.underlying t = some (.slice e)) (hz : P.cellsOf e = z) (hz0 : z ≠ 0) (hone : ∀ g, oneAll (F g)) (h : OpenS P w e F Q) :
    OpenS P w t (fun g : Option Addr × Nat × Nat × List α => [.sl g.1 g.2.1 g.2.2.1]) (fun g => g.2.1 = g.2.2.2.length ∧ SlOK w z (g.2.2.2.flatMap F) g.1 g.2.1 g.2.2.1 ∧ ∀ x ∈ g.2.2.2, Q x ∧ (F x).length = z) := by
  intro H enc base sp held n cs x hx
  cases n with
  | zero => simp [DataW.trod] at hx
  | succ n =>
    unfold DataW.trod at hx
    rw [ht] at hx
    split at hx <;> try (rename_i h1 _; cases h1; done)
    all_goals try (cases hx; done)
    all_goals try (rename_i h1; cases h1; done)
    · exact ⟨(none, 0, 0, []), rfl, rfl, ⟨Nat.le_refl _, by simp [maxLen], 0, ⟨fun y hy => (by cases hy), .inl ⟨rfl, rfl⟩⟩⟩, by simp⟩
    · rename_i e' a len cap h1
      simp only [Option.some.injEq] at h1
      cases h1
      simp only at hx
      split at hx
      · rename_i hb
        obtain ⟨hb1, hb2, hb3⟩ := hb
        simp only [Option.bind_eq_some_iff] at hx
        obtain ⟨els, hels, _⟩ := hx
        obtain ⟨hlen, hall⟩ := mapM_all hels
        have hsp : len ≠ 0 → a.spot = none := fun h0 => by
          obtain ⟨y, _, hy⟩ := hall 0 0 (by rw [List.getElem?_range (by omega)])
          simp only [Option.bind_eq_some_iff] at hy
          obtain ⟨cs, hcs, _⟩ := hy
          rw [hz] at hcs
          unfold World.cells? at hcs
          split at hcs
          · obtain ⟨h1, h2⟩ := mapM_all hcs
            obtain ⟨y0, _, hy0⟩ := h2 0 0 (by rw [List.getElem?_range (by omega)])
            obtain ⟨b, off, so⟩ := a
            cases so with
            | none => rfl
            | some q => unfold World.cell? Addr.add at hy0; simp at hy0; split at hy0 <;> cases hy0
          · cases hcs
        have key : ∀ i, i < len → ∃ g, (∃ cur t fr, w.heap[a.block]? = some (.cells cur t fr) ∧ (cur.toList.drop (a.off + i * z)).take z = (F g).map C.enc) ∧ (F g).length = z ∧ Q g := fun i hi => by
          obtain ⟨y, _, hy⟩ := hall i i (by simp [hi])
          simp only [Option.bind_eq_some_iff] at hy
          obtain ⟨cs, hcs, hy⟩ := hy
          rw [hz] at hcs
          obtain ⟨b, off, so⟩ := a
          have hso := hsp (by omega)
          simp only at hso
          subst hso
          rw [addr_add] at hcs
          obtain ⟨cur, t, fr, hg, hl, hc⟩ := cells_get rfl hcs hz0
          obtain ⟨g, hg1, hg2⟩ := h enc base sp held n cs y hy
          have : (F g).length = z := by rw [← hl, hg1]; simp
          exact ⟨g, ⟨cur, t, fr, hg, by rw [hc, hg1]⟩, this, hg2⟩
        obtain ⟨gs, hgs, hR⟩ := choose_list (β := Unit) len key
        refine ⟨(some a, len, cap, gs), rfl, hgs.symm, ⟨hb2, hb3, ?_⟩, fun u hu => ?_⟩
        · by_cases h0 : len = 0
          · have : gs = [] := List.eq_nil_of_length_eq_zero (by omega)
            subst this
            exact ⟨0, ⟨fun y hy => (by cases hy), .inl ⟨h0, rfl⟩⟩⟩
          · obtain ⟨g0, hg0⟩ : ∃ g0, gs[0]? = some g0 := ⟨gs[0], by simp⟩
            obtain ⟨⟨cur, t, fr, hcur, _⟩, _, _⟩ := hR 0 g0 hg0
            obtain ⟨lo, hi⟩ := fr
            have hso := hsp h0
            obtain ⟨b, off, so⟩ := a
            simp only at hso hcur
            subst hso
            refine ⟨t, ⟨fun y hy => ?_, .inr ⟨b, off, cur, t, lo, hi, rfl, hcur, ?_, ?_⟩⟩⟩
            · obtain ⟨u, _, hu⟩ := List.mem_flatMap.1 hy
              exact hone u y hu
            · rw [flatMap_len fun u hu => ?_, hgs]
              obtain ⟨i, hi, rfl⟩ := List.getElem_of_mem hu
              exact (hR i _ (List.getElem?_eq_getElem hi)).2.1
            · rw [← hgs]
              refine flatMap_window F z gs _ fun i u hu => ?_
              obtain ⟨⟨cur', t', fr', hc', hw⟩, hl, _⟩ := hR i u hu
              rw [hcur] at hc'
              cases hc'
              rw [List.drop_drop]
              exact ⟨hw, hl⟩
        · obtain ⟨i, hi, rfl⟩ := List.getElem_of_mem hu
          have := hR i _ (List.getElem?_eq_getElem hi)
          exact ⟨this.2.2, this.2.1⟩
      · cases hx

/-! ### Arguments -/

/-- The types that arguments have. -/
def argD : TyD → Bool
  | .so _ | .ifc | .up | .oth => false
  | _ => true

theorem open_arg {r : Reach} {b0 : Nat} {t : Nat} {d : TyD} {α : Type} {F : α → List C} {Q : α → Prop} (hd : d.ok P t) (hsc : d ≠ .oth) {v : Value} {dd : DataW H} {ps : List MemPlace} (hval : Value.okWide P w r b0 t v) (hr : DataW.Trod enc P w base sp held t v dd ps)
    (h : OpenS P w t F Q) (hsa : argD d = true := by rfl) : ∃ g, Q g ∧ v = (match isAggD d with | true => V.agg (F g) | false => V.c ((F g).headD (.b false))).enc := by
  obtain ⟨n, hn⟩ := hr
  obtain ⟨g, hg, hq⟩ := h enc base sp held n _ _ hn
  refine ⟨g, hq, ?_⟩
  have one : v.cells = #[v] → v = (V.c ((F g).headD (.b false))).enc := fun h1 => by
    rw [h1] at hg
    cases hF : F g with
    | nil => rw [hF] at hg; simp at hg
    | cons x l => rw [hF] at hg; simp at hg; simpa [V.enc] using hg.1
  cases d <;> simp only [TyD.ok] at hd <;> simp only [isAggD]
  · obtain ⟨b, rfl⟩ := okWide_bool hd hval; exact one rfl
  · obtain ⟨b, rfl⟩ := okWide_int hd hval; exact one rfl
  · obtain ⟨b, rfl⟩ := okWide_string hd hval; exact one rfl
  · unfold Value.okWide at hval
    rw [hd.1] at hval
    obtain ⟨cs, rfl, _⟩ := hval
    simp only [Value.cells] at hg
    simp only [V.enc]
    rw [← hg]
  · unfold Value.okWide at hval
    rw [hd] at hval
    obtain ⟨cs, rfl, _⟩ := hval
    simp only [Value.cells] at hg
    simp only [V.enc]
    rw [← hg]
  · obtain ⟨a, b, c, rfl⟩ := okWide_slice hd hval; exact one rfl
  · obtain ⟨a, rfl⟩ := okWide_pointer hd hval; exact one rfl
  · obtain ⟨a, rfl⟩ := okWide_map hd hval; exact one rfl
  · cases hsa
  · cases hsa
  · cases hsa
  · exact absurd rfl hsc

end

/-! ### From a contract to a row -/

section
variable {H : Type} {enc : TypeId × Value → H} {P : Program}

theorem trodAll_stays (hl : laidOutB P = true) {W W' : World} {sp' : Nat → Bool} : ∀ {ts : List TypeId} {vs : List Value} {ds : List (DataW H)} {ps : List MemPlace}, (∀ t ∈ ts, P.readableRec t = true ∧ t < P.types.size) →
    DataW.TrodAll enc P W 0 (fun _ => true) true ts vs ds ps → (∀ p ∈ ps, W.sameAt W' p) → (∀ p ∈ ps, sp' p.block = true) → DataW.TrodAll enc P W' 0 sp' true ts vs ds ps
  | [], vs, ds, ps, _, h, _, _ => by
    obtain ⟨rfl, rfl, rfl⟩ := trodAll_nil h
    exact trodAll_mk0
  | t :: ts, vs, ds, ps, hr, h, hs, hp => by
    obtain ⟨v, vs', d, ds', p, q, rfl, rfl, rfl, h0, h1⟩ := trodAll_cons h
    exact trodAll_cons_mk (WideElems.Trod_stays hl (hr t (by simp)).1 (hr t (by simp)).2 h0 (fun x hx => hs x (by simp [hx])) (fun x hx => hp x (by simp [hx])))
      (trodAll_stays hl (fun u hu => hr u (by simp [hu])) h1 (fun x hx => hs x (by simp [hx])) (fun x hx => hp x (by simp [hx])))

/-- WHAT A LAW's CONTRACT COMES TO: it answers true, and leaves all that was there alone. -/
theorem law_post {f : Func} {s : ChangeSpec} {apart fresh handsOn : Bool} {W W' : World} {args : Array Value} {ds gs : List (DataW H)} {before : List MemPlace} {tb : TypeId}
    (hl : laidOutB P = true) (hr : ∀ t ∈ f.params.toList, P.readableRec t = true ∧ t < P.types.size) (hv : s.vars = []) (hrt : f.resultTypes = #[tb]) (hb : P.underlying tb = some .bool)
    (hW : DataW.Whole enc P f.params.toList s.vars apart W args.toList ds gs before) (hs : s.fn H ds = { results := [.lit (.bool true)], args := ds })
    (hos : W'.os = W.os) (hout : W'.output = W.output) (hsame : ∀ b : Nat, b < W.heap.size → W'.heap[b]? = W.heap[b]?) :
    s.post enc P f apart fresh handsOn false W args (.bool true) W' := by
  have hlt := hW.lt
  have hW0 := hW
  obtain ⟨p, q, hA, hV, rfl, _, _⟩ := hW
  rw [hv] at hV
  obtain ⟨rfl, rfl⟩ := trodVars_none hV
  have hat : ∀ x ∈ p, W.sameAt W' x := fun x hx => by
    have := hlt x (by simpa using hx)
    cases x with
    | cell b off => simp only [World.sameAt, World.cell?, hsame b this]
    | map b => exact hsame b this
  refine ⟨ds, [], _, [], p, [], hW0, ?_, ?_, ?_, ?_, fun h => by cases h⟩
  · rw [List.append_nil, hs, hrt]
    exact trodAll_cons_mk (p := []) (p' := []) (RowKit.shut_bool hb true) trodAll_mk0
  · rw [List.append_nil, hs]
    exact trodAll_stays hl hr hA hat fun x hx => by simpa using hlt x (by simpa using hx)
  · rw [hv, List.append_nil, hs]; rfl
  · refine ⟨hos, hout, fun i hi => ?_⟩
    rw [hsame i hi]
    cases hc : W.heap[i]? with
    | none => rfl
    | some o => cases o <;> first | exact ⟨rfl, rfl, rfl, fun _ _ => rfl⟩ | exact .inr ⟨rfl, rfl⟩ | rfl

/-- A law, called where its contract's facts hold. -/
theorem law_calls {f : FuncId} {fn : Func} {s : ChangeSpec} {apart fresh handsOn : Bool} {W : World} {args : Array Value} {ds gs : List (DataW H)} {before : List MemPlace} {tb : TypeId} {vs : List V} {D : List Fact}
    (hl : laidOutB P = true) (hr : ∀ t ∈ fn.params.toList, P.readableRec t = true ∧ t < P.types.size) (hv : s.vars = []) (hrt : fn.resultTypes = #[tb]) (hb : P.underlying tb = some .bool)
    (hW : DataW.Whole enc P fn.params.toList s.vars apart W args.toList ds gs before) (hs : s.fn H ds = { results := [.lit (.bool true)], args := ds })
    (hargs : args = (vs.map V.enc).toArray) (hD : allD (fun b => W.heap[b]?) D) (h : FnS P f vs [] D (Is tt)) :
    Calls P f args W fun e W' => ∃ v, e = .returned v ∧ s.post enc P fn apart fresh handsOn false W args v W' := by
  rw [hargs]
  refine (h.2 W (fun b => W.heap[b]?) ⟨by simp [fps], trivial, fun b o hb => ⟨hb, by simp [fps]⟩, hD⟩).mono ?_
  rintro e W' ⟨v, L', D', m', rfl, ⟨rfl, rfl, rfl⟩, _, hfr⟩
  rw [← hargs]
  exact ⟨_, rfl, law_post hl hr hv hrt hb hW hs hfr.kept.os hfr.kept.out fun b hb => hfr.same b hb (by simp [fps])⟩

theorem gInt_of_shape {W : World} {g : Nat} {t : TypeId} (h : W.ShapedOpen P) (hg : g < P.globals.size) (hz : ((begin P (fun _ _ => 0) default).world.heap[g]?).bind Obj.row? = some (#[.int .i64 0], t)) (hb : P.buildable t = true) (ht : P.cellTypes P.depth t = some [t]) (hu : P.underlying t = some (.int .i64)) :
    (gInt g).p (fun b => W.heap[b]?) := by
  obtain ⟨cs, hcs, hsz, hok⟩ := h.1 g _ t hg hz
  have hok := hok hb
  simp at hsz
  obtain ⟨ts, hts, _, hall⟩ := hok
  rw [ht] at hts
  cases hts
  obtain ⟨v, hv⟩ : ∃ v, cs[0]? = some v := ⟨cs[0], by simp [hsz]⟩
  obtain ⟨u, hu1, hu2⟩ := hall 0 v hv
  simp at hu1
  subst hu1
  unfold Cell.ok at hu2
  rw [hu] at hu2
  refine ⟨cs, t, (0, 0), ?_⟩
  cases v <;> simp at hu2
  rename_i k n
  obtain ⟨rfl, _⟩ := hu2
  exact ⟨n, hcs, hv⟩

end
end Go.X
