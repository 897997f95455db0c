/- This text proves that a region whose order the language leaves open may be executed in one order, under a check of the region that is computed. -/
import Derived.Test.YtdnkeinjfddmnaaGreatDoorJ
set_option linter.all false

namespace Go.X
open Go
variable [Sm : Inhabited Manner] [Df : Inhabited (List Deferred)]

section
variable {P : Program} {G : Ent} {ops : Array Oper} {eff : Nat → Bool} {z : Nat} {L0 : List Chunk} {D0 : List Fact} {Te : Act → List Chunk → List Fact → Prop}

/-- One value in every world of the class; what the call owns and knows stays. -/
def quietG (P : Program) (G : Ent) (L0 : List Chunk) (D0 : List Fact) (o : Oper) (ρ : Operand → Value) (v : Value) : Prop :=
  ∀ L D, Ents L D L0 D0 → ∀ w, SatW G w L D → gives P o ρ w fun u w' => u = v ∧ SatW G w' L D

def lexM (P : Program) (G : Ent) (ops : Array Oper) (eff : Nat → Bool) (z : Nat) (L0 : List Chunk) (D0 : List Fact) (Te : Act → List Chunk → List Fact → Prop) : List Nat → Act → List Chunk → List Fact → Prop
  | [], a, L, D => Te a L D
  | i :: r, a, L, D =>
    match ops[i]? with
    | none => False
    | some o =>
      (Region.wanted o (yielded ops a.tmps) = true ∧
        ((eff i = false ∧ ∃ v, quietG P G L0 D0 o a.eval v ∧ lexM P G ops eff z L0 D0 Te r (a.put o.dst v) L D) ∨
         (eff i = true ∧ ∀ w, SatW G w L D → gives P o a.eval w fun u w' => ∃ L' D', SatW G w' L' D' ∧ (Ents L' D' L0 D0 ∨ i = z) ∧ lexM P G ops eff z L0 D0 Te r (a.put o.dst u) L' D'))) ∨
      (Region.wanted o (yielded ops a.tmps) = false ∧ lexM P G ops eff z L0 D0 Te r (a.put o.dst undef) L D)

def stepM (P : Program) (ops : Array Oper) (o : Oper) (a : Act) (w : World) (R : Value → World → Prop) : Prop :=
  (Region.wanted o (yielded ops a.tmps) = true ∧ gives P o a.eval w R) ∨ (Region.wanted o (yielded ops a.tmps) = false ∧ R undef w)

/-- i may be taken ahead of those that stand before it in r. -/
def clearM (ops : Array Oper) (eff : Nat → Bool) (i : Nat) (o : Oper) : List Nat → Prop
  | [] => False
  | j :: r => j = i ∨ (j ≠ i ∧ eff j = false ∧ (∀ oj, ops[j]? = some oj → oj.apart ops o = true) ∧ clearM ops eff i o r)

theorem gives_congr {o : Oper} {ρ ρ' : Operand → Value} {w : World} {R : Value → World → Prop} (h : execOp ρ o = execOp ρ' o) (hg : gives P o ρ w R) : gives P o ρ' w R := by
  unfold gives at *
  rw [← h]
  exact hg

theorem bubble (hs : Region.noSelect ops = true) {i : Nat} {o : Oper} (ho : ops[i]? = some o) : ∀ (r : List Nat) (a : Act) (L : List Chunk) (D : List Fact) (w : World), clearM ops eff i o r → lexM P G ops eff z L0 D0 Te r a L D → Ents L D L0 D0 → SatW G w L D →
    stepM P ops o a w fun u w' => ∃ L' D', SatW G w' L' D' ∧ (Ents L' D' L0 D0 ∨ i = z) ∧ lexM P G ops eff z L0 D0 Te (r.erase i) (a.put o.dst u) L' D'
  | [], _, _, _, _, hc, _, _, _ => hc.elim
  | j :: r, a, L, D, w, hc, h, hE, hw => by
    by_cases hji : j = i
    · subst hji
      simp only [lexM, ho] at h
      rw [List.erase_cons_head]
      rcases h with ⟨hwt, ⟨_, v, hq, hr⟩ | ⟨_, hg⟩⟩ | ⟨hwt, hr⟩
      · refine .inl ⟨hwt, (hq L D hE w hw).mono ?_⟩
        rintro u w' ⟨rfl, hw'⟩
        exact ⟨L, D, hw', .inl hE, hr⟩
      · exact .inl ⟨hwt, hg w hw⟩
      · exact .inr ⟨hwt, L, D, hw, .inl hE, hr⟩
    · rcases hc with hc | ⟨_, heff, hap, hc⟩
      · exact absurd hc hji
      rw [List.erase_cons_tail (by simpa using hji)]
      simp only [lexM] at h
      cases hj : ops[j]? with
      | none => rw [hj] at h; exact h.elim
      | some oj =>
        simp only [hj] at h
        obtain ⟨h1, h2, h3⟩ := Oper.apart_spec (hap oj hj)
        have hsi := fun cs b => Region.noSelect_spec hs i o cs b ho
        have hsj := fun cs b => Region.noSelect_spec hs j oj cs b hj
        -- the value of the operation that is passed
        have key : ∀ v, lexM P G ops eff z L0 D0 Te r (a.put oj.dst v) L D →
            (∀ u L' D', lexM P G ops eff z L0 D0 Te (r.erase i) ((a.put oj.dst v).put o.dst u) L' D' → lexM P G ops eff z L0 D0 Te (j :: r.erase i) (a.put o.dst u) L' D') →
            stepM P ops o a w fun u w' => ∃ L' D', SatW G w' L' D' ∧ (Ents L' D' L0 D0 ∨ i = z) ∧ lexM P G ops eff z L0 D0 Te (j :: r.erase i) (a.put o.dst u) L' D' := by
          intro v hr hback
          have hi := bubble hs ho r (a.put oj.dst v) L D w hc hr hE hw
          unfold stepM at hi ⊢
          rw [wanted_put o a oj.dst v h1] at hi
          rcases hi with ⟨hwt, hg⟩ | ⟨hwt, L', D', ha, hb, hcc⟩
          · refine .inl ⟨hwt, gives_congr (execOp_put o hsi a oj.dst v h1) (hg.mono ?_)⟩
            rintro u w' ⟨L', D', ha, hb, hcc⟩
            exact ⟨L', D', ha, hb, hback u L' D' hcc⟩
          · exact .inr ⟨hwt, L', D', ha, hb, hback _ L' D' hcc⟩
        rcases h with ⟨hwt, ⟨_, v, hq, hr⟩ | ⟨hbad, _⟩⟩ | ⟨hwt, hr⟩
        · refine key v hr fun u L' D' hl => ?_
          simp only [lexM, hj]
          refine .inl ⟨by rw [wanted_put oj a o.dst u h3]; exact hwt, .inl ⟨heff, v, ?_, by rw [← Act.put_comm a v u h2]; exact hl⟩⟩
          intro L1 D1 hE1 w1 hw1
          exact gives_congr (execOp_put oj hsj a o.dst u h3).symm (hq L1 D1 hE1 w1 hw1)
        · rw [heff] at hbad; cases hbad
        · refine key undef hr fun u L' D' hl => ?_
          simp only [lexM, hj]
          exact .inr ⟨by rw [wanted_put oj a o.dst u h3]; exact hwt, by rw [← Act.put_comm a undef u h2]; exact hl⟩

/-! ### The check -/

def directB (ops : Array Oper) (i j : Nat) : Bool :=
  match ops[i]? with
  | some o => o.after.any fun e => Region.binds .any e && e.on == j
  | none => false

def depB (ops : Array Oper) : Nat → Nat → Nat → Bool
  | 0, _, _ => false
  | n + 1, i, j =>
    match ops[i]? with
    | some o => o.after.any fun e => Region.binds .any e && (e.on == j || depB ops n e.on j)
    | none => false

def pairB (dep : Nat → Nat → Bool) (ops : Array Oper) (eff : Nat → Bool) (j i : Nat) : Bool :=
  j != i && !directB ops j i && (dep i j || (!eff j &&
    match ops[i]?, ops[j]? with
    | some oi, some oj => oj.apart ops oi
    | _, _ => false))

def edgesB (ops : Array Oper) : Bool :=
  (List.range ops.size).all fun i => match ops[i]? with
    | some o => o.after.all fun e => !Region.binds .any e || (e.on != i && e.on < ops.size)
    | none => true

theorem edgesB_spec (h : edgesB ops = true) : ∀ i o, ops[i]? = some o → ∀ e ∈ o.after, Region.binds .any e = true → e.on ≠ i ∧ e.on < ops.size := by
  intro i o ho e he hb
  have hi : i < ops.size := (Array.getElem?_eq_some_iff.1 ho).1
  have := List.all_eq_true.1 h i (List.mem_range.2 hi)
  simp only [ho] at this
  rw [Array.all_eq_true'] at this
  have := this e he
  simpa [hb] using this

def closedL (ops : Array Oper) (listed : Array Bool) : Prop :=
  ∀ i o, ops[i]? = some o → listed.getD i true = true → ∀ e ∈ o.after, Region.binds .any e = true → listed.getD e.on false = true

/-- A dependency that is listed with what depends on it. -/
def DepOK (ops : Array Oper) (dep : Nat → Nat → Bool) : Prop :=
  ∀ listed : Array Bool, closedL ops listed → ∀ i j, (∀ o, ops[i]? = some o → ∀ e ∈ o.after, Region.binds .any e = true → listed.getD e.on false = true) → dep i j = true → listed.getD j true = true

/-- The dependencies as masks of bits: 'A' lists them, and the check holds it against the operations. -/
def maskOf (A : List Nat) (o : Oper) : Nat := o.after.toList.foldl (fun m e => match Region.binds .any e with
  | true => m ||| (2 ^ e.on ||| A.getD e.on 0)
  | false => m) 0
def backB (i : Nat) (o : Oper) : Bool := o.after.toList.all fun e => !Region.binds .any e || Nat.blt e.on i
def masksB (A : List Nat) (ops : Array Oper) : Bool :=
  (List.range ops.size).all fun i => match ops[i]? with
    | some o => backB i o && Nat.beq (A.getD i 0) (maskOf A o)
    | none => true

theorem testBit_mask {A : List Nat} {j : Nat} : ∀ (l : List Edge) (m : Nat), (l.foldl (fun m e => match Region.binds .any e with
  | true => m ||| (2 ^ e.on ||| A.getD e.on 0)
  | false => m) m).testBit j = true → m.testBit j = true ∨ ∃ e ∈ l, Region.binds .any e = true ∧ (e.on = j ∨ (A.getD e.on 0).testBit j = true)
  | [], m, h => .inl h
  | e :: l, m, h => by
    simp only [List.foldl_cons] at h
    rcases testBit_mask l _ h with h1 | ⟨x, hx, hb, hd⟩
    · split at h1
      · rename_i hb
        simp only [Nat.testBit_or, Bool.or_eq_true] at h1
        rcases h1 with h1 | h1 | h1
        · exact .inl h1
        · exact .inr ⟨e, by simp, hb, .inl (by rw [Nat.testBit_two_pow] at h1; simpa using h1)⟩
        · exact .inr ⟨e, by simp, hb, .inr h1⟩
      · exact .inl h1
    · exact .inr ⟨x, by simp [hx], hb, hd⟩

theorem depOK_masks {ops : Array Oper} {A : List Nat} (h : masksB A ops = true) (hA : Nat.ble A.length ops.size = true) : DepOK ops (fun i j => (A.getD i 0).testBit j) := by
  intro listed hc i
  induction i using Nat.strongRecOn with
  | _ i ih =>
    intro j hi hd
    have hlt : i < ops.size := by
      rcases Nat.lt_or_ge i ops.size with h | h'
      · exact h
      · have := Nat.le_of_ble_eq_true hA
        simp only at hd
        have e : A.getD i 0 = 0 := by rw [List.getD_eq_getElem?_getD, List.getElem?_eq_none (by omega)]; rfl
        rw [e] at hd
        simp at hd
    have h1 := List.all_eq_true.1 h i (List.mem_range.2 hlt)
    have ho : ops[i]? = some ops[i] := by simp [hlt]
    simp only [ho, Bool.and_eq_true] at h1
    have he := Nat.eq_of_beq_eq_true h1.2
    simp only [he] at hd
    unfold maskOf at hd
    rcases testBit_mask _ _ hd with h2 | ⟨e, hm, hb, h2⟩
    · simp at h2
    · have hl := hi _ ho e (by simpa using hm) hb
      rcases h2 with rfl | h2
      · simp only [Array.getD_eq_getD_getElem?] at *
        cases hx : listed[e.on]? <;> rw [hx] at hl <;> simp_all
      · have hbk := List.all_eq_true.1 h1.1 e (by simpa using hm)
        simp only [hb, Bool.not_true, Bool.false_or] at hbk
        have hlt2 : e.on < i := Nat.le_of_ble_eq_true hbk
        refine ih e.on hlt2 j (fun o' ho' e' he' hb' => hc e.on o' ho' ?_ e' he' hb') h2
        simp only [Array.getD_eq_getD_getElem?] at *
        cases hx : listed[e.on]? <;> rw [hx] at hl <;> simp_all

def okD (dep : Nat → Nat → Bool) (ops : Array Oper) (eff : Nat → Bool) (r : List Nat) : Bool :=
  Region.noSelect ops && edgesB ops && r.all (· < ops.size) && (List.range ops.size).all (r.contains ·) && go r
  where
  go : List Nat → Bool
    | [] => true
    | j :: r => r.all (pairB dep ops eff j) && go r
def okB (ops : Array Oper) (eff : Nat → Bool) (r : List Nat) : Bool := okD (depB ops ops.size) ops eff r
/-- The check with masks. -/
def okM (A : List Nat) (ops : Array Oper) (eff : Nat → Bool) (r : List Nat) : Bool := Nat.ble A.length ops.size && masksB A ops && okD (fun i j => (A.getD i 0).testBit j) ops eff r

variable {dep : Nat → Nat → Bool}
theorem go_pairwise : ∀ {r : List Nat}, okD.go dep ops eff r = true → r.Pairwise fun j i => pairB dep ops eff j i = true
  | [], _ => .nil
  | j :: r, h => by
    simp only [okD.go, Bool.and_eq_true, List.all_eq_true] at h
    exact .cons (fun i hi => h.1 i hi) (go_pairwise h.2)

theorem getD_ft {l : Array Bool} {i : Nat} (h : l.getD i false = true) : l.getD i true = true := by
  simp only [Array.getD_eq_getD_getElem?] at *
  cases hi : l[i]? <;> rw [hi] at h <;> simp_all

theorem dep_listed {listed : Array Bool} (hc : closedL ops listed) : ∀ (n i j : Nat), (∀ o, ops[i]? = some o → ∀ e ∈ o.after, Region.binds .any e = true → listed.getD e.on false = true) → depB ops n i j = true → listed.getD j true = true
  | 0, _, _, _, h => by simp [depB] at h
  | n + 1, i, j, hi, h => by
    simp only [depB] at h
    split at h
    · rename_i o ho
      rw [Array.any_eq_true'] at h
      obtain ⟨e, he, hb⟩ := h
      simp only [Bool.and_eq_true, Bool.or_eq_true, beq_iff_eq] at hb
      obtain ⟨hbd, hb⟩ := hb
      have hl := hi o ho e he hbd
      rcases hb with rfl | hb
      · exact getD_ft hl
      · exact dep_listed hc n e.on j (fun o' ho' e' he' hb' => hc e.on o' ho' (getD_ft hl) e' he' hb') hb
    · cases h

theorem depOK_B : DepOK ops (depB ops ops.size) := fun _ hc i j hi h => dep_listed hc _ i j hi h

theorem clear_of_pairs (hdep : DepOK ops dep) {listed : Array Bool} (hc : closedL ops listed) {i : Nat} {o : Oper} (ho : ops[i]? = some o) (hready : ∀ e ∈ o.after, Region.binds .any e = true → listed.getD e.on false = true) :
    ∀ {r : List Nat}, i ∈ r → (∀ j ∈ r, listed.getD j true = false) → r.Pairwise (fun j i => pairB dep ops eff j i = true) → clearM ops eff i o r
  | j :: r, hm, hu, hp => by
    by_cases hji : j = i
    · exact .inl hji
    · have hm' : i ∈ r := by
        rcases List.mem_cons.1 hm with h | h
        · exact absurd h.symm hji
        · exact h
      have hpj := (List.pairwise_cons.1 hp).1 i hm'
      simp only [pairB, Bool.and_eq_true, Bool.or_eq_true, Bool.not_eq_true'] at hpj
      obtain ⟨_, hd⟩ := hpj
      rcases hd with hd | ⟨he, hap⟩
      · exfalso
        have := hdep _ hc i j (fun o' ho' => by rw [ho] at ho'; cases ho'; exact hready) hd
        rw [hu j (by simp)] at this
        cases this
      · refine .inr ⟨hji, he, fun oj hoj => ?_, clear_of_pairs hdep hc ho hready hm' (fun k hk => hu k (by simp [hk])) (List.pairwise_cons.1 hp).2⟩
        rw [ho, hoj] at hap
        exact hap
  | [], hm, _, _ => by cases hm

theorem any_of_lexM (hdep : DepOK ops dep) (hs : Region.noSelect ops = true) (hed : ∀ i o, ops[i]? = some o → ∀ e ∈ o.after, Region.binds .any e = true → e.on ≠ i ∧ e.on < ops.size) : ∀ (n : Nat) (r : List Nat) (listed : Array Bool) (a : Act) (L : List Chunk) (D : List Fact) (w : World) (Q' : Exit → Act → World → Prop), (∀ a L D w, Te a L D → SatW G w L D → Q' .normal a w) →
    r.length = n → listed.size = ops.size → (∀ i, listed.getD i true = false ↔ i ∈ r) → closedL ops listed → r.Pairwise (fun j i => pairB dep ops eff j i = true) → (z < ops.size → ∀ j ∈ r, j ≠ z → dep z j = true) → lexM P G ops eff z L0 D0 Te r a L D → (Ents L D L0 D0 ∨ r = []) → SatW G w L D →
    wpAny P .any ops Q' n listed a w
  | 0, r, listed, a, L, D, w, Q', hQ, hlen, hsz, hr, hc, hp, hz, h, hE, hw => by
    have hnil : r = [] := List.eq_nil_of_length_eq_zero hlen
    subst hnil
    refine ⟨?_, hQ _ _ _ _ h hw⟩
    rw [List.eq_nil_iff_forall_not_mem]
    intro i hi
    have := (hr i).1 (mem_ready.1 hi).1
    cases this
  | n + 1, r, listed, a, L, D, w, Q', hQ, hlen, hsz, hr, hc, hp, hz, h, hE, hw => by
    replace hE : Ents L D L0 D0 := hE.resolve_right fun he => by rw [he] at hlen; cases hlen
    refine ⟨fun hnil => ?_, fun i hi => ?_⟩
    · -- the first of r is ready
      exfalso
      match r, hlen with
      | j :: r, _ =>
        have hj : listed.getD j true = false := (hr j).2 (by simp)
        cases hoj : ops[j]? with
        | none => simp only [lexM, hoj] at h
        | some oj =>
          have : j ∈ Region.ready .any ops listed := mem_ready.2 ⟨hj, oj, hoj, fun e he hb => by
            cases hl : listed.getD e.on false with
            | true => rfl
            | false =>
              exfalso
              by_cases hlt : e.on < listed.size
              · have hl' : listed.getD e.on true = false := by
                  simp only [Array.getD_eq_getD_getElem?, Array.getElem?_eq_getElem hlt, Option.getD_some] at hl ⊢
                  exact hl
                have hmem := (hr e.on).1 hl'
                rcases List.mem_cons.1 hmem with hej | hmem
                · exact (hed j oj hoj e he hb).1 hej
                · have := (List.pairwise_cons.1 hp).1 e.on hmem
                  simp only [pairB, Bool.and_eq_true, Bool.not_eq_true'] at this
                  have hd := this.1.2
                  simp only [directB, hoj] at hd
                  rw [Array.any_eq_false'] at hd
                  exact hd e he (by simp [hb])
              · exact hlt (by rw [hsz]; exact (hed j oj hoj e he hb).2)⟩
          rw [hnil] at this
          cases this
    · obtain ⟨hun, o, ho, hall⟩ := mem_ready.1 hi
      have hm := (hr i).1 hun
      have hcl := clear_of_pairs (eff := eff) hdep hc ho hall hm (fun j hj => (hr j).2 hj) hp
      have hst := bubble hs ho r a L D w hcl h hE hw
      have hnd : r.Nodup := hp.imp fun hjk => by
        simp only [pairB, Bool.and_eq_true, bne_iff_ne] at hjk
        exact hjk.1.1
      have hlt : i < listed.size := by
        rcases Nat.lt_or_ge i listed.size with h | h
        · exact h
        · simp [Array.getElem?_eq_none h] at hun
      have next : ∀ u w', (∃ L' D', SatW G w' L' D' ∧ (Ents L' D' L0 D0 ∨ i = z) ∧ lexM P G ops eff z L0 D0 Te (r.erase i) (a.put o.dst u) L' D') → wpAny P .any ops Q' n (listed.setIfInBounds i true) (a.put o.dst u) w' := by
        rintro u w' ⟨L', D', hw', hE', hl⟩
        have hE2 : Ents L' D' L0 D0 ∨ r.erase i = [] := hE'.imp_right fun hiz => by
          subst hiz
          rw [List.eq_nil_iff_forall_not_mem]
          intro j hj
          have hji : j ≠ i := (hnd.mem_erase_iff.1 hj).1
          have hjr : j ∈ r := (hnd.mem_erase_iff.1 hj).2
          have hd := hz (by rw [← hsz]; exact hlt) j hjr hji
          have hl1 := hdep _ hc i j (fun o' ho' => by rw [ho] at ho'; cases ho'; exact hall) hd
          rw [(hr j).2 hjr] at hl1
          cases hl1
        refine any_of_lexM hdep hs hed n (r.erase i) _ _ L' D' w' Q' hQ ?_ ?_ ?_ ?_ ?_ (fun hzs j hj hjz => hz hzs j (List.mem_of_mem_erase hj) hjz) hl hE2 hw'
        · rw [List.length_erase_of_mem hm]; omega
        · simpa using hsz
        · intro k
          rw [hnd.mem_erase_iff, ← hr k]
          by_cases hki : k = i
          · subst hki; simp [hlt]
          · simp [Array.getD_eq_getD_getElem?, Array.getElem?_setIfInBounds_ne (Ne.symm hki), hki]
        · intro k ok hok hk e he hb
          by_cases hei : e.on = i
          · rw [hei]; simp [hlt]
          · rw [show (listed.setIfInBounds i true).getD e.on false = listed.getD e.on false by simp [Array.getD_eq_getD_getElem?, Array.getElem?_setIfInBounds_ne (Ne.symm hei)]]
            by_cases hki : k = i
            · subst hki
              rw [ho] at hok
              cases hok
              exact hall e he hb
            · refine hc k ok hok ?_ e he hb
              simpa [Array.getD_eq_getD_getElem?, Array.getElem?_setIfInBounds_ne (Ne.symm hki)] using hk
        · exact hp.sublist List.erase_sublist
      unfold wpOp
      simp only [ho]
      rcases hst with ⟨hwt, hg⟩ | ⟨hwt, hR⟩
      · rw [if_pos hwt]
        exact .inl (hg.wp next)
      · rw [if_neg (by simp [hwt])]
        exact next _ _ hR

theorem region_of_lexM {id : Nat} {r : List Nat} {a : Act} {L : List Chunk} {D : List Fact} {w : World} {Q' : Exit → Act → World → Prop} (hm : P.follows .mixedOrders = true) (hdep : DepOK ops dep) (hB : okD dep ops eff r = true) (hz : z < ops.size → ∀ j ∈ r, j ≠ z → dep z j = true) (hQ : ∀ a L D w, Te a L D → SatW G w L D → Q' .normal a w)
    (h : lexM P G ops eff z L0 D0 Te r a L D) (hE : Ents L D L0 D0) (hw : SatW G w L D) : (Code.region id ops true).wp P Q' a w := by
  simp only [okD, Bool.and_eq_true, List.all_eq_true, decide_eq_true_eq, List.mem_range] at hB
  obtain ⟨⟨⟨⟨hs, hed⟩, hlt⟩, hall⟩, hgo⟩ := hB
  have hp := go_pairwise hgo
  have hnd : r.Nodup := hp.imp fun hjk => by
    simp only [pairB, Bool.and_eq_true, bne_iff_ne] at hjk
    exact hjk.1.1
  have hperm : r.Perm (List.range ops.size) := by
    rw [List.perm_ext_iff_of_nodup hnd List.nodup_range]
    intro i
    rw [List.mem_range]
    exact ⟨fun hi => hlt i hi, fun hi => by simpa using hall i hi⟩
  refine wp_region_any hm (any_of_lexM hdep hs (edgesB_spec hed) ops.size r _ a L D _ Q' hQ ?_ (by simp) ?_ ?_ hp hz h (.inl hE) ?_)
  · simpa using hperm.length_eq
  · intro i
    rw [hperm.mem_iff, List.mem_range]
    by_cases hi : i < ops.size
    · simp [hi]
    · simp [hi]
  · intro i o ho hl
    exfalso
    have hi : i < ops.size := (Array.getElem?_eq_some_iff.1 ho).1
    simp [hi] at hl
  · exact satW_drew hw

/-! ### Two operations that work on memory, in either order -/

theorem lexM_append {T2 : Act → List Chunk → List Fact → Prop} {q : List Nat} (hT : ∀ a L D, T2 a L D → lexM P G ops eff z L0 D0 Te q a L D) : ∀ (r : List Nat) (a : Act) (L : List Chunk) (D : List Fact), lexM P G ops eff z L0 D0 T2 r a L D → lexM P G ops eff z L0 D0 Te (r ++ q) a L D
  | [], a, L, D, h => hT a L D h
  | i :: r, a, L, D, h => by
    simp only [List.cons_append, lexM] at h ⊢
    cases hi : ops[i]? with
    | none => rw [hi] at h; exact h.elim
    | some o =>
      rw [hi] at h
      simp only at h ⊢
      rcases h with ⟨hw, ⟨he, v, hq, hr⟩ | ⟨he, hg⟩⟩ | ⟨hw, hr⟩
      · exact .inl ⟨hw, .inl ⟨he, v, hq, lexM_append hT r _ _ _ hr⟩⟩
      · exact .inl ⟨hw, .inr ⟨he, fun w hs => (hg w hs).mono fun u w' ⟨L', D', h1, h2, h3⟩ => ⟨L', D', h1, h2, lexM_append hT r _ _ _ h3⟩⟩⟩
      · exact .inr ⟨hw, lexM_append hT r _ _ _ hr⟩

theorem first_ready {listed : Array Bool} (hed : ∀ i o, ops[i]? = some o → ∀ e ∈ o.after, Region.binds .any e = true → e.on ≠ i ∧ e.on < ops.size) (hsz : listed.size = ops.size) {j : Nat} {r : List Nat} (hr : ∀ i, listed.getD i true = false ↔ i ∈ j :: r)
    (hd : ∀ k ∈ r, directB ops j k = false) (hj : j < ops.size) : Region.ready .any ops listed ≠ [] := by
  intro hnil
  have hjl : listed.getD j true = false := (hr j).2 (by simp)
  obtain ⟨oj, hoj⟩ : ∃ o, ops[j]? = some o := ⟨_, Array.getElem?_eq_getElem hj⟩
  have : j ∈ Region.ready .any ops listed := mem_ready.2 ⟨hjl, oj, hoj, fun e he hb => by
    cases hl : listed.getD e.on false with
    | true => rfl
    | false =>
      exfalso
      by_cases hlt : e.on < listed.size
      · have hl' : listed.getD e.on true = false := by
          simp only [Array.getD_eq_getD_getElem?, Array.getElem?_eq_getElem hlt, Option.getD_some] at hl ⊢
          exact hl
        have hmem := (hr e.on).1 hl'
        rcases List.mem_cons.1 hmem with hej | hmem
        · exact (hed j oj hoj e he hb).1 hej
        · have hd := hd e.on hmem
          simp only [directB, hoj] at hd
          rw [Array.any_eq_false'] at hd
          exact hd e he (by simp [hb])
      · exact hlt (by rw [hsz]; exact (hed j oj hoj e he hb).2)⟩
  rw [hnil] at this
  cases this

theorem listed_step {listed : Array Bool} {i : Nat} {r : List Nat} (hnd : r.Nodup) (hlt : i < listed.size) (hr : ∀ k, listed.getD k true = false ↔ k ∈ r) (k : Nat) : (listed.setIfInBounds i true).getD k true = false ↔ k ∈ r.erase i := by
  rw [hnd.mem_erase_iff, ← hr k]
  by_cases hki : k = i
  · subst hki; simp [hlt]
  · simp [Array.getD_eq_getD_getElem?, Array.getElem?_setIfInBounds_ne (Ne.symm hki), hki]
theorem closed_step {listed : Array Bool} {i : Nat} {o : Oper} (hlt : i < listed.size) (ho : ops[i]? = some o) (hall : ∀ e ∈ o.after, Region.binds .any e = true → listed.getD e.on false = true) (hc : closedL ops listed) : closedL ops (listed.setIfInBounds i true) := by
  intro k ok hok hk e he hb
  by_cases hei : e.on = i
  · rw [hei]; simp [hlt]
  · rw [show (listed.setIfInBounds i true).getD e.on false = listed.getD e.on false by simp [Array.getD_eq_getD_getElem?, Array.getElem?_setIfInBounds_ne (Ne.symm hei)]]
    by_cases hki : k = i
    · subst hki
      rw [ho] at hok
      cases hok
      exact hall e he hb
    · refine hc k ok hok ?_ e he hb
      simpa [Array.getD_eq_getD_getElem?, Array.getElem?_setIfInBounds_ne (Ne.symm hki)] using hk

/-- What is asked of two places in an order where e may be taken at any time. -/
def pairX (dep : Nat → Nat → Bool) (ops : Array Oper) (eff : Nat → Bool) (e j i : Nat) : Prop := pairB dep ops eff j i = true ∨ (j = e ∧ i ≠ e ∧ directB ops e i = false)

theorem pairX_ne {e j i : Nat} (h : pairX dep ops eff e j i) : j ≠ i := by
  rcases h with h | ⟨rfl, h, _⟩
  · simp only [pairB, Bool.and_eq_true, bne_iff_ne] at h; exact h.1.1
  · exact Ne.symm h
theorem pairX_direct {e j i : Nat} (h : pairX dep ops eff e j i) : directB ops j i = false := by
  rcases h with h | ⟨rfl, _, h⟩
  · simp only [pairB, Bool.and_eq_true, Bool.not_eq_true'] at h; exact h.1.2
  · exact h
theorem pairX_B {e j i : Nat} (h : pairX dep ops eff e j i) (hj : j ≠ e) : pairB dep ops eff j i = true := h.resolve_right fun hx => hj hx.1

theorem clear_of_pairsX (hdep : DepOK ops dep) {listed : Array Bool} (hc : closedL ops listed) {i : Nat} {o : Oper} (ho : ops[i]? = some o) (hready : ∀ e ∈ o.after, Region.binds .any e = true → listed.getD e.on false = true) :
    ∀ {r : List Nat}, i ∈ r → (∀ j ∈ r, listed.getD j true = false) → r.Pairwise (fun j k => k = i → pairB dep ops eff j k = true) → clearM ops eff i o r
  | j :: r, hm, hu, hp => by
    by_cases hji : j = i
    · exact .inl hji
    · have hm' : i ∈ r := by
        rcases List.mem_cons.1 hm with h | h
        · exact absurd h.symm hji
        · exact h
      have hpj := (List.pairwise_cons.1 hp).1 i hm' rfl
      simp only [pairB, Bool.and_eq_true, Bool.or_eq_true, Bool.not_eq_true'] at hpj
      obtain ⟨_, hd⟩ := hpj
      rcases hd with hd | ⟨he, hap⟩
      · exfalso
        have := hdep _ hc i j (fun o' ho' => by rw [ho] at ho'; cases ho'; exact hready) hd
        rw [hu j (by simp)] at this
        cases this
      · refine .inr ⟨hji, he, fun oj hoj => ?_, clear_of_pairsX hdep hc ho hready hm' (fun k hk => hu k (by simp [hk])) (List.pairwise_cons.1 hp).2⟩
        rw [ho, hoj] at hap
        exact hap
  | [], hm, _, _ => by cases hm

/-- One of the two comes: all that stands ahead of it may wait. -/
theorem either_first (hdep : DepOK ops dep) (hs : Region.noSelect ops = true) (hed : ∀ i o, ops[i]? = some o → ∀ e ∈ o.after, Region.binds .any e = true → e.on ≠ i ∧ e.on < ops.size) {e : Nat}
    {r : List Nat} {listed : Array Bool} {a : Act} {L : List Chunk} {D : List Fact} {w : World} {Q' : Exit → Act → World → Prop} (hQ : ∀ a L D w, Te a L D → SatW G w L D → Q' .normal a w) {n : Nat} (hlen : r.length = n + 1) (hsz : listed.size = ops.size) (hr : ∀ i, listed.getD i true = false ↔ i ∈ r)
    (hc : closedL ops listed) (hp : r.Pairwise (pairX dep ops eff e)) (hz : z < ops.size → ∀ j ∈ r, j ≠ z → dep z j = true) (hez : e ≠ z) (h : lexM P G ops eff z L0 D0 Te r a L D) (hE : Ents L D L0 D0) (hw : SatW G w L D) {o : Oper} (ho : ops[e]? = some o)
    (hall : ∀ e ∈ o.after, Region.binds .any e = true → listed.getD e.on false = true) (hun : listed.getD e true = false) : wpOp P ops Q' e (wpAny P .any ops Q' n (listed.setIfInBounds e true)) a w := by
  have hnd : r.Nodup := hp.imp fun h => pairX_ne h
  have hm := (hr e).1 hun
  have hcl : clearM ops eff e o r := clear_of_pairsX hdep hc ho hall hm (fun j hj => (hr j).2 hj) (hp.imp fun {j k} (h : pairX dep ops eff e j k) (hk : k = e) => pairX_B h fun hj : j = e => pairX_ne h (hj.trans hk.symm))
  have hst := bubble hs ho r a L D w hcl h hE hw
  have hlt : e < listed.size := by
    rcases Nat.lt_or_ge e listed.size with h | h
    · exact h
    · simp [Array.getElem?_eq_none h] at hun
  have next : ∀ u w', (∃ L' D', SatW G w' L' D' ∧ (Ents L' D' L0 D0 ∨ e = z) ∧ lexM P G ops eff z L0 D0 Te (r.erase e) (a.put o.dst u) L' D') → wpAny P .any ops Q' n (listed.setIfInBounds e true) (a.put o.dst u) w' := by
    rintro u w' ⟨L', D', hw', hE', hl⟩
    refine any_of_lexM hdep hs hed n (r.erase e) _ _ L' D' w' Q' hQ ?_ (by simpa using hsz) (listed_step hnd hlt hr) (closed_step hlt ho hall hc) ?_ (fun hzs j hj hjz => hz hzs j (List.mem_of_mem_erase hj) hjz) hl (.inl (hE'.resolve_right hez)) hw'
    · rw [List.length_erase_of_mem hm]; omega
    · exact (hp.sublist List.erase_sublist).imp_of_mem fun {j k} hj _ h => pairX_B h (hnd.mem_erase_iff.1 hj).1
  unfold wpOp
  simp only [ho]
  rcases hst with ⟨hwt, hg⟩ | ⟨hwt, hR⟩
  · rw [if_pos hwt]
    exact .inl (hg.wp next)
  · rw [if_neg (by simp [hwt])]
    exact next _ _ hR

/-- Two that work on memory, in either order; what stands ahead of them is quiet. -/
theorem any_of_lexM2 (hdep : DepOK ops dep) (hs : Region.noSelect ops = true) (hed : ∀ i o, ops[i]? = some o → ∀ e ∈ o.after, Region.binds .any e = true → e.on ≠ i ∧ e.on < ops.size) {e1 e2 : Nat} {q1 q2 : List Nat} (hq : q1.length = q2.length)
    (hd : ∀ i ∈ q1, i ≠ e2 → dep i e1 = true ∨ dep i e2 = true) {Q' : Exit → Act → World → Prop} (hQ : ∀ a L D w, Te a L D → SatW G w L D → Q' .normal a w) (hez1 : e1 ≠ z) (hez2 : e2 ≠ z) :
    ∀ (n : Nat) (pre : List Nat) (listed : Array Bool) (a : Act) (L : List Chunk) (D : List Fact) (w : World), pre.length = n → z ∉ pre → e1 ∉ pre → e2 ∉ pre → listed.size = ops.size → (∀ j ∈ pre ++ e1 :: q1, j < ops.size) → (∀ i, listed.getD i true = false ↔ i ∈ pre ++ e1 :: q1) → (∀ i, i ∈ pre ++ e1 :: q1 ↔ i ∈ pre ++ e2 :: q2) → closedL ops listed →
      (pre ++ e1 :: q1).Pairwise (pairX dep ops eff e1) → (pre ++ e2 :: q2).Pairwise (pairX dep ops eff e2) → (z < ops.size → ∀ j ∈ pre ++ e1 :: q1, j ≠ z → dep z j = true) →
      lexM P G ops eff z L0 D0 (fun a L D => lexM P G ops eff z L0 D0 Te (e1 :: q1) a L D ∧ lexM P G ops eff z L0 D0 Te (e2 :: q2) a L D) pre a L D → Ents L D L0 D0 → SatW G w L D → wpAny P .any ops Q' (n + q1.length + 1) listed a w := by
  intro n
  induction n with
  | zero => ?_
  | succ n ih => ?_
  all_goals
    intro pre listed a L D w hlen hzp h1p h2p hsz hlt hr hperm hc hp1 hp2 hz h hE hw
    refine ⟨fun hnil => ?_, fun i hi => ?_⟩
    · exfalso
      cases pre with
      | nil => exact first_ready hed hsz hr (fun k hk => pairX_direct ((List.pairwise_cons.1 hp1).1 k hk)) (hlt _ (by simp)) hnil
      | cons j pre => exact first_ready hed hsz hr (fun k hk => pairX_direct ((List.pairwise_cons.1 hp1).1 k hk)) (hlt _ (by simp)) hnil
    · obtain ⟨hun, o, ho, hall⟩ := mem_ready.1 hi
      have hm := (hr i).1 hun
      by_cases hi1 : i = e1
      · subst hi1
        exact either_first hdep hs hed hQ (by rw [List.length_append, hlen]; simp only [List.length_cons]; omega) hsz hr hc hp1 hz hez1 (lexM_append (fun _ _ _ h => h.1) pre a L D h) hE hw ho hall hun
      by_cases hi2 : i = e2
      · subst hi2
        exact either_first hdep hs hed hQ (by rw [List.length_append, hlen]; simp only [List.length_cons]; omega) hsz (fun k => (hr k).trans (hperm k)) hc hp2 (fun hzs j hj hjz => hz hzs j ((hperm j).2 hj) hjz) hez2 (lexM_append (fun _ _ _ h => h.2) pre a L D h) hE hw ho hall hun
      have hmem : i ∈ pre ∨ i ∈ q1 := by
        simp only [List.mem_append, List.mem_cons] at hm
        rcases hm with h | h | h
        · exact .inl h
        · exact absurd h hi1
        · exact .inr h
      rcases hmem with hip | hip
      · have hppre := (List.pairwise_append.1 hp1).1
        have hnd : pre.Nodup := hppre.imp fun h => pairX_ne h
        have hnd1 : (pre ++ e1 :: q1).Nodup := hp1.imp fun h => pairX_ne h
        have hnd2 : (pre ++ e2 :: q2).Nodup := hp2.imp fun h => pairX_ne h
        have hcl : clearM ops eff i o pre := clear_of_pairsX hdep hc ho hall hip (fun j hj => (hr j).2 (by simp [hj])) (hppre.imp_of_mem fun {j k} (hj : j ∈ pre) _ (h : pairX dep ops eff e1 j k) _ => pairX_B h fun hx : j = e1 => h1p (hx ▸ hj))
        have hst := bubble hs ho pre a L D w hcl h hE hw
        have hltl : i < listed.size := by
          rcases Nat.lt_or_ge i listed.size with h | h
          · exact h
          · simp [Array.getElem?_eq_none h] at hun
        have her : (pre ++ e1 :: q1).erase i = pre.erase i ++ e1 :: q1 := List.erase_append_left _ hip
        have her2 : (pre ++ e2 :: q2).erase i = pre.erase i ++ e2 :: q2 := List.erase_append_left _ hip
        first
          | (exfalso; rw [List.eq_nil_of_length_eq_zero hlen] at hip; cases hip)
          | (have next : ∀ u w', (∃ L' D', SatW G w' L' D' ∧ (Ents L' D' L0 D0 ∨ i = z) ∧ lexM P G ops eff z L0 D0 (fun a L D => lexM P G ops eff z L0 D0 Te (e1 :: q1) a L D ∧ lexM P G ops eff z L0 D0 Te (e2 :: q2) a L D) (pre.erase i) (a.put o.dst u) L' D') → wpAny P .any ops Q' (n + 1 + q1.length) (listed.setIfInBounds i true) (a.put o.dst u) w' := by
              rintro u w' ⟨L', D', hw', hE', hl⟩
              have hiz : i ≠ z := fun hx => hzp (hx ▸ hip)
              rw [show n + 1 + q1.length = n + q1.length + 1 by omega]
              refine ih (pre.erase i) _ _ L' D' w' (by rw [List.length_erase_of_mem hip]; omega) (fun hx => hzp (List.mem_of_mem_erase hx)) (fun hx => h1p (List.mem_of_mem_erase hx)) (fun hx => h2p (List.mem_of_mem_erase hx)) (by simpa using hsz) (fun j hj => hlt j (List.mem_of_mem_erase (show j ∈ (pre ++ e1 :: q1).erase i by rw [her]; exact hj))) ?_ ?_ (closed_step hltl ho hall hc) ?_ ?_ (fun hzs j hj hjz => hz hzs j (List.mem_of_mem_erase (show j ∈ (pre ++ e1 :: q1).erase i by rw [her]; exact hj)) hjz) hl (hE'.resolve_right hiz) hw'
              · rw [← her]; exact listed_step hnd1 hltl hr
              · intro k
                rw [← her, ← her2, hnd1.mem_erase_iff, hnd2.mem_erase_iff, hperm k]
              · rw [← her]; exact hp1.sublist List.erase_sublist
              · rw [← her2]; exact hp2.sublist List.erase_sublist
             unfold wpOp
             simp only [ho]
             rcases hst with ⟨hwt, hg⟩ | ⟨hwt, hR⟩
             · rw [if_pos hwt]
               exact .inl (hg.wp next)
             · rw [if_neg (by simp [hwt])]
               exact next _ _ hR)
      · exfalso
        rcases hd i hip hi2 with hd | hd
        · have := hdep _ hc i e1 (fun o' ho' => by rw [ho] at ho'; cases ho'; exact hall) hd
          rw [(hr e1).2 (by simp)] at this
          cases this
        · have := hdep _ hc i e2 (fun o' ho' => by rw [ho] at ho'; cases ho'; exact hall) hd
          rw [(hr e2).2 ((hperm e2).2 (by simp))] at this
          cases this

/-- The check, with the two places. -/
def okD2 (dep : Nat → Nat → Bool) (ops : Array Oper) (eff : Nat → Bool) (pre : List Nat) (e1 : Nat) (q1 : List Nat) (e2 : Nat) (q2 : List Nat) (z : Nat) : Bool :=
  Region.noSelect ops && edgesB ops && (pre ++ e1 :: q1).all (· < ops.size) && (List.range ops.size).all ((pre ++ e1 :: q1).contains ·) && (pre ++ e2 :: q2).all (· < ops.size) && (List.range ops.size).all ((pre ++ e2 :: q2).contains ·) && go e1 (pre ++ e1 :: q1) && go e2 (pre ++ e2 :: q2)
    && (q1.all fun i => Nat.beq i e2 || dep i e1 || dep i e2) && !pre.contains z && !pre.contains e1 && !pre.contains e2 && (e1 != z) && (e2 != z) && (Nat.ble ops.size z || (pre ++ e1 :: q1).all fun j => Nat.beq j z || dep z j)
  where
  go (x : Nat) : List Nat → Bool
    | [] => true
    | j :: r => r.all (fun i => pairB dep ops eff j i || (Nat.beq j x && !Nat.beq i x && !directB ops x i)) && go x r
theorem go_pairX {e : Nat} : ∀ {r : List Nat}, okD2.go dep ops eff e r = true → r.Pairwise (pairX dep ops eff e)
  | [], _ => .nil
  | j :: r, h => by
    simp only [okD2.go, Bool.and_eq_true, List.all_eq_true, Bool.or_eq_true, Bool.not_eq_true'] at h
    refine .cons (fun i hi => (h.1 i hi).imp_right fun hx => ⟨Nat.eq_of_beq_eq_true hx.1.1, fun hie => ?_, hx.2⟩) (go_pairX h.2)
    have := hx.1.2
    rw [hie, Nat.beq_refl] at this
    cases this

theorem contains_not {l : List Nat} {x : Nat} (h : l.contains x = false) : x ∉ l := fun hx => by
  rw [← List.contains_iff_mem] at hx
  rw [hx] at h; cases h

theorem region_of_lexM2 {id : Nat} {pre q1 q2 : List Nat} {e1 e2 : Nat} {a : Act} {L : List Chunk} {D : List Fact} {w : World} {Q' : Exit → Act → World → Prop} (hm : P.follows .mixedOrders = true) (hdep : DepOK ops dep) (hB : okD2 dep ops eff pre e1 q1 e2 q2 z = true) (hQ : ∀ a L D w, Te a L D → SatW G w L D → Q' .normal a w)
    (h : lexM P G ops eff z L0 D0 (fun a L D => lexM P G ops eff z L0 D0 Te (e1 :: q1) a L D ∧ lexM P G ops eff z L0 D0 Te (e2 :: q2) a L D) pre a L D) (hE : Ents L D L0 D0) (hw : SatW G w L D) : (Code.region id ops true).wp P Q' a w := by
  simp only [okD2, Bool.and_eq_true, Bool.not_eq_true', bne_iff_ne, Bool.or_eq_true] at hB
  obtain ⟨⟨⟨⟨⟨⟨⟨⟨⟨⟨⟨⟨⟨⟨hs, hed⟩, hlt⟩, hall⟩, hlt2⟩, hall2⟩, hgo1⟩, hgo2⟩, hd⟩, hzp⟩, h1p⟩, h2p⟩, hez1⟩, hez2⟩, hz⟩ := hB
  have hp1 := go_pairX hgo1
  have hp2 := go_pairX hgo2
  have key : ∀ {r : List Nat}, r.Nodup → r.all (· < ops.size) = true → (List.range ops.size).all (r.contains ·) = true → r.Perm (List.range ops.size) := fun {r} hnd h1 h2 => by
    rw [List.perm_ext_iff_of_nodup hnd List.nodup_range]
    intro i
    rw [List.mem_range]
    refine ⟨fun hi => by simpa using List.all_eq_true.1 h1 i hi, fun hi => ?_⟩
    have := List.all_eq_true.1 h2 i (List.mem_range.2 hi)
    rwa [List.contains_iff_mem] at this
  have hperm1 := key (hp1.imp fun h => pairX_ne h) hlt hall
  have hperm2 := key (hp2.imp fun h => pairX_ne h) hlt2 hall2
  have hlen : pre.length + q1.length + 1 = ops.size := by
    have := hperm1.length_eq
    simp at this
    omega
  have hq : q1.length = q2.length := by
    have := hperm1.length_eq
    have := hperm2.length_eq
    simp at *
    omega
  refine wp_region_any hm ?_
  rw [← hlen]
  refine any_of_lexM2 hdep hs (edgesB_spec hed) hq (fun i hi hie => ?_) hQ hez1 hez2 pre.length pre _ a L D _ rfl (contains_not hzp) (contains_not h1p) (contains_not h2p) (by simp; omega) (fun j hj => by rw [hperm1.mem_iff, List.mem_range] at hj; exact hj) ?_ (fun i => by rw [hperm1.mem_iff, hperm2.mem_iff]) ?_ hp1 hp2 ?_ h hE (satW_drew hw)
  · have := List.all_eq_true.1 hd i hi
    rcases Bool.or_eq_true_iff.1 this with h1 | h1
    · rcases Bool.or_eq_true_iff.1 h1 with h2 | h2
      · exact absurd (Nat.eq_of_beq_eq_true h2) hie
      · exact .inl h2
    · exact .inr h1
  · intro i
    rw [hperm1.mem_iff, List.mem_range]
    by_cases hi : i < ops.size
    · simp [hi, hlen]
    · simp [hi, hlen]
  · intro i o ho hl
    exfalso
    have hi : i < ops.size := (Array.getElem?_eq_some_iff.1 ho).1
    simp [hi, hlen] at hl
  · intro hzs j hj hjz
    rcases hz with hz | hz
    · exact absurd (Nat.le_of_ble_eq_true hz) (by omega)
    · have := List.all_eq_true.1 hz j hj
      rcases Bool.or_eq_true_iff.1 this with h1 | h1
      · exact absurd (Nat.eq_of_beq_eq_true h1) hjz
      · exact h1

end

/-! ### The executor -/

/-- A result without memory. -/
def Is (v : V) : V → List Chunk → List Fact → Prop := fun v' L D => v' = v ∧ L = [] ∧ D = []

inductive CallQ (P : Program) (f : FuncId) (vs : List V) (D : List Fact) (k : V → Prop) : Prop where
  | mk (D1 : List Fact) (v : V) (h : FnS P f vs [] D1 (Is v)) (hd : ∀ m, allD m D → allD m D1) (k : k v)

def vcBuiltinQ (T : Ty) (b : Builtin) (ts : List TypeId) (vs : List V) (k : V → Prop) : Prop :=
  match b, ts, vs with
  | .len, [t], [x] =>
    match find T t with
    | some i =>
      match i.d, x with
      | .str, .c (.s l) => k (lenV l.length)
      | .sl _, .c (.sl _ n _) => k (lenV n)
      | .arr n _, _ => k (lenV n)
      | _, _ => False
    | none => False
  | .max, _, [.c (.i ka a), .c (.i _ b)] => CondP (a < b) (k (.c (.i ka b))) (k (.c (.i ka a)))
  | .min, _, [.c (.i ka a), .c (.i _ b)] => CondP (b < a) (k (.c (.i ka b))) (k (.c (.i ka a)))
  | _, _, _ => False

def vcCallQ (P : Program) (T : Ty) (c : Call) (env : Env) (D : List Fact) (k : V → Prop) : Prop :=
  match c.callee with
  | .value (.func f) => argsK env c.args.toList fun vs => CallQ P f vs D k
  | .builtin b => argsK env c.args.toList fun vs => vcBuiltinQ T b c.argTypes.toList vs k
  | _ => False

def vcConvertQ (T : Ty) (s d : Nat) (v : V) (k : V → Prop) : Prop :=
  match find T s, find T d with
  | some si, some di =>
    match si.d, di.d, v with
    | .int _, .int kd, .c (.i _ n) => ArP kd n fun r => k (.c (.i kd r))
    | .str, .str, .c (.s l) => k (.c (.s l))
    | _, _, _ => False
  | _, _ => False

/-- The operations that only look. -/
def vcQ (P : Program) (T : Ty) (op : Op) (env : Env) (L : List Chunk) (D : List Fact) (k : V → Prop) : Prop :=
  match op with
  | .move x => withE env x k
  | .assign x => withE env x k
  | .pick c a b => pickK env c a b k
  | .build t ps => partsK env ps.toList fun l => vcBuild T t l k
  | .load t x => withE env x fun a => vcLoad T t a L D k
  | .binOp op t x y _ => withE env x fun a => withE env y fun b => vcBin T op t a b k
  | .unOp op _ x => withE env x fun a => vcUn op a k
  | .convert s d x => withE env x fun a => vcConvertQ T s d a k
  | .slice t x lo hi none => withE env x fun a => optK env lo fun lo => optK env hi fun hi => vcSlice T t a lo hi k
  | .fieldAddr s x f => withE env x fun a => vcFieldAddr T s a f L D k
  | .field t x f => withE env x fun a => vcField T t a f k
  | .indexAddr t x i => withE env x fun a => withE env i fun i => vcIndexAddr T t a i L D k
  | .index t x i => withE env x fun a => withE env i fun i => vcIndex T t a i k
  | .extract x i => withE env x fun v => extractK v i k
  | .call c => vcCallQ P T c env D k
  | .nilCheck x => withE env x fun v => nilK v L D k
  | _ => False

section
variable {P : Program} {G : Ent} {L0 : List Chunk} {D0 : List Fact} {N : Nat} {env : Env}

theorem quiet_val {o : Oper} {a : Act} {v : V} (hr : ∀ w, SatW G w L0 D0 → (execOp a.eval o).run P w = .ok (.value v.enc) w) : quietG P G L0 D0 o a.eval v.enc := by
  intro L D hE w hw
  unfold gives
  rw [hr w (hE G w hw)]
  exact ⟨rfl, hw⟩

theorem satW_keep {w w' : World} {L : List Chunk} {D : List Fact} (h : SatW G w L D) (hsz : w.heap.size ≤ w'.heap.size) (hsame : ∀ b, b < w.heap.size → w'.heap[b]? = w.heap[b]?) (hk : Kept w w') : SatW G w' L D := by
  obtain ⟨m, h1, h2⟩ := h
  have hlt := mem_fps_lt h1.ok
  refine ⟨m, ⟨h1.nd, allOk_of_same h1.ok fun b hb => hsame b (hlt b hb), fun b o hb => ?_, h1.d⟩, h2.trans ⟨hsz, fun b hb _ => hsame b hb, fun b hb => .inl hb, fun _ _ h => h, fun _ _ h => .inl h, hk⟩⟩
  have h3 := h1.im b o hb
  exact ⟨by rw [hsame b (Array.getElem?_eq_some_iff.1 h3.1).1]; exact h3.1, h3.2⟩

theorem quiet_call {o : Oper} {a : Act} {f : FuncId} {vs : List V} {D1 : List Fact} {v : V} (hrun : ∀ w, (execOp a.eval o).run P w = .ok (.enter f (vs.map V.enc).toArray) w) (h : FnS P f vs [] D1 (Is v)) (hd : ∀ m, allD m D0 → allD m D1) :
    quietG P G L0 D0 o a.eval v.enc := by
  intro L D hE w hw
  unfold gives
  rw [hrun w]
  obtain ⟨m, h1, h2⟩ := hE G w hw
  refine (h.2 w m ⟨by simp [fps], trivial, fun b o hb => ⟨(h1.im b o hb).1, by simp [fps]⟩, hd m h1.d⟩).mono ?_
  rintro e w' ⟨v', L', D', m', rfl, ⟨rfl, rfl, rfl⟩, _, hfr⟩
  exact ⟨_, rfl, rfl, satW_keep hw hfr.size (fun b hb => hfr.same b hb (by simp [fps])) hfr.kept⟩

theorem vcBuiltinQ_sound {T : Ty} (hT : TyOK P T) {b : Builtin} {ts : List TypeId} {vs : List V} {ty : TypeId} {k : V → Prop} (h : vcBuiltinQ T b ts vs k) :
    ∃ v, k v ∧ ∀ w (consts : Array Bool), (builtin b ts.toArray ty consts (vs.map V.enc).toArray).run P w = .ok (.value v.enc) w := by
  unfold vcBuiltinQ at h
  split at h
  · rename_i t x
    split at h
    · rename_i i hi
      have hd' := (hT _ _ hi).2.2.2
      split at h
      · rename_i l hd
        rw [hd] at hd'
        refine ⟨_, h, fun w consts => ?_⟩
        simp only [builtin, List.map_cons, List.map_nil, V.enc, C.enc, Sem.run_bind]
        rw [run_len_string w t _ _ hd']
        rfl
      · rename_i e a n c hd
        rw [hd] at hd'
        simp only [TyD.ok] at hd'
        exact ⟨_, h, fun w consts => by simp [builtin, V.enc, C.enc, lenV, Builtin.len_, run_underlying hd', goInt]⟩
      · rename_i n e hd
        rw [hd] at hd'
        simp only [TyD.ok] at hd'
        exact ⟨_, h, fun w consts => by simp [builtin, V.enc, C.enc, lenV, Builtin.len_, run_underlying hd', goInt]⟩
      · exact h.elim
    · exact h.elim
  · rename_i ts ka x kb y
    by_cases hab : x < y
    · exact ⟨_, h.t hab, fun w consts => by simp only [builtin, List.map_cons, List.map_nil, V.enc, C.enc, Sem.run_bind, run_max_int2, Result.andThen_ok, Sem.run_pure, gt_iff_lt, hab, if_true]⟩
    · exact ⟨_, h.f hab, fun w consts => by simp only [builtin, List.map_cons, List.map_nil, V.enc, C.enc, Sem.run_bind, run_max_int2, Result.andThen_ok, Sem.run_pure, gt_iff_lt, hab, if_false]⟩
  · rename_i ts ka x kb y
    by_cases hab : y < x
    · exact ⟨_, h.t hab, fun w consts => by simp only [builtin, List.map_cons, List.map_nil, V.enc, C.enc, Sem.run_bind, run_min_int2, Result.andThen_ok, Sem.run_pure, hab, if_true]⟩
    · exact ⟨_, h.f hab, fun w consts => by simp only [builtin, List.map_cons, List.map_nil, V.enc, C.enc, Sem.run_bind, run_min_int2, Result.andThen_ok, Sem.run_pure, hab, if_false]⟩
  · exact h.elim

theorem vcQ_sound {T : Ty} (hT : TyOK P T) {o : Oper} {a : Act} {k : V → Prop} (he : EnvOK N env a) (h : vcQ P T o.op env L0 D0 k) : ∃ v, k v ∧ quietG P G L0 D0 o a.eval v.enc := by
  unfold vcQ at h
  split at h
  · rename_i x ho
    obtain ⟨v, hv, h⟩ := withE_elim h
    exact ⟨v, h, quiet_val fun w _ => by simp only [execOp, ho, he.ev hv, Sem.run_pure]⟩
  · rename_i x ho
    obtain ⟨v, hv, h⟩ := withE_elim h
    exact ⟨v, h, quiet_val fun w _ => by simp only [execOp, ho, he.ev hv, Sem.run_pure]⟩
  · rename_i c x y ho
    obtain ⟨cv, hc, h⟩ := withE_elim h
    split at h
    · obtain ⟨v, hv, h⟩ := withE_elim h
      exact ⟨v, h, quiet_val fun w _ => by simp only [execOp, ho, he.ev hc, he.ev hv, V.enc, C.enc, asBool, Sem.run_bind, Sem.run_pure, Result.andThen_ok, if_true]⟩
    · obtain ⟨v, hv, h⟩ := withE_elim h
      exact ⟨v, h, quiet_val fun w _ => by simp only [execOp, ho, he.ev hc, he.ev hv, V.enc, C.enc, asBool, Sem.run_bind, Sem.run_pure, Result.andThen_ok, Bool.false_eq_true, if_false]⟩
    · exact h.elim
  · rename_i t ps ho
    obtain ⟨l, h, hl⟩ := partsK_sound he h
    obtain ⟨v, hk, hr⟩ := vcBuild_sound hT h
    have e : (ps.map fun (i, x) => (i, a.eval x)) = (l.map fun (i, v) => (i, v.enc)).toArray := by
      rw [← hl, ← Array.toList_map, Array.toArray_toList]
    exact ⟨v, hk, quiet_val fun w _ => by simp only [execOp, ho, e, Sem.run_bind, hr w, Result.andThen_ok, Sem.run_pure]⟩
  · rename_i t x ho
    obtain ⟨v, hv, h⟩ := withE_elim h
    obtain ⟨r, hk, hr⟩ := vcLoad_uni (G := G) hT h
    exact ⟨r, hk, quiet_val fun w hw => by simp only [execOp, ho, he.ev hv, Sem.run_bind, hr w hw, Result.andThen_ok, Sem.run_pure]⟩
  · rename_i op t x y yt ho
    obtain ⟨v, hv, h⟩ := withE_elim h
    obtain ⟨u, hu, h⟩ := withE_elim h
    obtain ⟨r, hk, hr⟩ := vcBin_sound hT (ox := x) (oy := y) h
    refine ⟨r, hk, quiet_val fun w _ => ?_⟩
    have := hr w
    simp only [execOp, ho, he.ev hv, he.ev hu]
    rw [Sem.run_bind, this]
    rfl
  · rename_i op t x ho
    obtain ⟨v, hv, h⟩ := withE_elim h
    obtain ⟨r, hk, hr⟩ := vcUn_sound (P := P) h
    exact ⟨r, hk, quiet_val fun w _ => by simp only [execOp, ho, he.ev hv, Sem.run_bind, hr w, Result.andThen_ok, Sem.run_pure]⟩
  · rename_i s d x ho
    obtain ⟨v, hv, h⟩ := withE_elim h
    unfold vcConvertQ at h
    split at h
    · rename_i si di hsi hdi
      have h1 := (hT _ _ hsi).2.2.2
      have h2 := (hT _ _ hdi).2.2.2
      split at h
      · rename_i ks kd kv n hd1 hd2
        rw [hd1] at h1
        rw [hd2] at h2
        simp only [TyD.ok] at h1 h2
        refine ⟨_, h.run, quiet_val fun w _ => ?_⟩
        simp [execOp, ho, he.ev hv, convert, run_underlying h1, run_underlying h2, V.enc, C.enc, Conv.intToInt]
      · rename_i l hd1 hd2
        rw [hd1] at h1
        rw [hd2] at h2
        simp only [TyD.ok] at h1 h2
        refine ⟨_, h, quiet_val fun w _ => ?_⟩
        simp [execOp, ho, he.ev hv, convert, run_underlying h1, run_underlying h2, V.enc, C.enc]
      · exact h.elim
    · exact h.elim
  · rename_i t x lo hi ho
    obtain ⟨v, hv, h⟩ := withE_elim h
    obtain ⟨l, h, hl⟩ := optK_sound he h
    obtain ⟨u, h, hu⟩ := optK_sound he h
    obtain ⟨r, hk, hr⟩ := vcSlice_sound hT h
    exact ⟨r, hk, quiet_val fun w _ => by simp only [execOp, ho, he.ev hv, hl, hu, Option.map_none, Sem.run_bind, hr w, Result.andThen_ok, Sem.run_pure]⟩
  · rename_i s x f ho
    obtain ⟨v, hv, h⟩ := withE_elim h
    obtain ⟨r, hk, hr⟩ := vcFieldAddr_uni (G := G) hT h
    exact ⟨r, hk, quiet_val fun w hw => by simp only [execOp, ho, he.ev hv, Sem.run_bind, hr w hw, Result.andThen_ok, Sem.run_pure]⟩
  · rename_i t x f ho
    obtain ⟨v, hv, h⟩ := withE_elim h
    obtain ⟨r, hk, hr⟩ := vcField_sound hT h
    exact ⟨r, hk, quiet_val fun w _ => by simp only [execOp, ho, he.ev hv, Sem.run_bind, hr w, Result.andThen_ok, Sem.run_pure]⟩
  · rename_i t x i ho
    obtain ⟨v, hv, h⟩ := withE_elim h
    obtain ⟨u, hu, h⟩ := withE_elim h
    obtain ⟨r, hk, hr⟩ := vcIndexAddr_uni (G := G) hT h
    exact ⟨r, hk, quiet_val fun w hw => by simp only [execOp, ho, he.ev hv, he.ev hu, Sem.run_bind, hr w hw, Result.andThen_ok, Sem.run_pure]⟩
  · rename_i t x i ho
    obtain ⟨v, hv, h⟩ := withE_elim h
    obtain ⟨u, hu, h⟩ := withE_elim h
    obtain ⟨r, hk, hr⟩ := vcIndex_sound hT h
    exact ⟨r, hk, quiet_val fun w _ => by simp only [execOp, ho, he.ev hv, he.ev hu, Sem.run_bind, hr w, Result.andThen_ok, Sem.run_pure]⟩
  · rename_i x i ho
    obtain ⟨v, hv, h⟩ := withE_elim h
    obtain ⟨r, hk, hr⟩ := extractK_sound (P := P) h
    exact ⟨r, hk, quiet_val fun w _ => by simp only [execOp, ho, he.ev hv, Sem.run_bind, hr w, Result.andThen_ok, Sem.run_pure]⟩
  · rename_i c ho
    unfold vcCallQ at h
    split at h
    · rename_i f hc
      obtain ⟨vs, h, hvs⟩ := argsK_sound he h
      obtain ⟨D1, v, hf, hd, hk⟩ := h
      have hargs : c.args.map a.eval = (vs.map V.enc).toArray := by rw [← hvs, ← Array.toList_map, Array.toArray_toList]
      refine ⟨v, hk, quiet_call (fun w => ?_) hf hd⟩
      simp only [execOp, ho, resolve, hc, Act.eval, Deferred.ofValue, Sem.run_bind, Sem.run_pure, Result.andThen_ok, invoke, hargs]
      simp [run_callFunc hf.1]
    · rename_i b hc
      obtain ⟨vs, h, hvs⟩ := argsK_sound he h
      have hargs : c.args.map a.eval = (vs.map V.enc).toArray := by rw [← hvs, ← Array.toList_map, Array.toArray_toList]
      have key := vcBuiltinQ_sound (P := P) (ty := o.type) hT h
      rw [Array.toArray_toList] at key
      obtain ⟨v, hk, hr⟩ := key
      refine ⟨v, hk, quiet_val fun w _ => ?_⟩
      simp only [execOp, ho, resolve, hc, Sem.run_bind, Sem.run_pure, Result.andThen_ok, invoke, hargs]
      exact hr w _
    · exact h.elim
  · rename_i x ho
    obtain ⟨v, hv, h⟩ := withE_elim h
    obtain ⟨hk, ha⟩ := nilK_sound (G := G) h
    exact ⟨v, hk, quiet_val fun w hw => by obtain ⟨a', ha⟩ := ha w hw; simp only [execOp, ho, he.ev hv, ha, Sem.run_pure]⟩
  · exact h.elim

/-- After an operation that works on memory, what the others look at is still there. -/
structure EntP (L : List Chunk) (D : List Fact) (L' : List Chunk) (D' : List Fact) (A : Prop) : Prop where
  h : Ents L D L' D'
  k : A

def vcM (P : Program) (T : Ty) (N : Nat) (ops : List Oper) (eff : List Nat) (z : Nat) (L0 : List Chunk) (D0 : List Fact) : List Nat → Env → List Chunk → List Fact → Nat → Kont → Prop
  | [], env, L, D, nid, k => k env L D nid
  | i :: r, env, L, D, nid, k =>
    match ops[i]? with
    | none => False
    | some o =>
      wantK ops env o.guard
        (match eff.contains i with
        | false => vcQ P T o.op env L0 D0 fun v => putK N o.dst v env fun env' => vcM P T N ops eff z L0 D0 r env' L D nid k
        | true => vcOp P T o.op env L D nid fun v L' D' n' => match Nat.beq i z with
          | true => putK N o.dst v env fun env' => vcM P T N ops eff z L0 D0 r env' L' D' n' k
          | false => EntP L' D' L0 D0 (putK N o.dst v env fun env' => vcM P T N ops eff z L0 D0 r env' L' D' n' k))
        (putK N o.dst .t0 env fun env' => vcM P T N ops eff z L0 D0 r env' L D nid k)

theorem vcM_sound {T : Ty} {z : Nat} (hT : TyOK P T) (ops : List Oper) (eff : List Nat) {k : Kont} {Te : Act → List Chunk → List Fact → Prop} (hQ : ∀ env' L' D' n' a', k env' L' D' n' → EnvOK N env' a' → Te a' L' D') :
    ∀ (r : List Nat) (env : Env) (L : List Chunk) (D : List Fact) (nid : Nat) (a : Act), vcM P T N ops eff z L0 D0 r env L D nid k → EnvOK N env a → lexM P G ops.toArray (fun i => eff.contains i) z L0 D0 Te r a L D
  | [], env, L, D, nid, a, h, he => hQ _ _ _ _ _ h he
  | i :: r, env, L, D, nid, a, h, he => by
    simp only [vcM] at h
    simp only [lexM]
    cases ho : ops[i]? with
    | none => rw [ho] at h; exact h.elim
    | some o =>
      rw [ho] at h
      simp only [List.getElem?_toArray, ho]
      simp only at h
      rcases wantK_sound he h with ⟨hw, h⟩ | ⟨hw, h⟩
      · refine .inl ⟨hw, ?_⟩
        cases hef : eff.contains i with
        | false =>
          rw [hef] at h
          obtain ⟨v, hk, hq⟩ := vcQ_sound (G := G) hT he h
          obtain ⟨env', hk', he'⟩ := putK_sound hk he
          exact .inl ⟨rfl, v.enc, hq, vcM_sound hT ops eff hQ r env' L D nid _ hk' he'⟩
        | true =>
          rw [hef] at h
          refine .inr ⟨rfl, fun w hw' => (vcOp_sound hT h he hw').mono ?_⟩
          rintro u w' ⟨v, L', D', n', rfl, hk, hs'⟩
          cases hiz : Nat.beq i z with
          | true =>
            rw [hiz] at hk
            obtain ⟨env', hk', he'⟩ := putK_sound hk he
            exact ⟨L', D', hs', .inr (Nat.eq_of_beq_eq_true hiz), vcM_sound hT ops eff hQ r env' L' D' n' _ hk' he'⟩
          | false =>
            rw [hiz] at hk
            obtain ⟨env', hk', he'⟩ := putK_sound hk.k he
            exact ⟨L', D', hs', .inl hk.h, vcM_sound hT ops eff hQ r env' L' D' n' _ hk' he'⟩
      · obtain ⟨env', hk', he'⟩ := putK_sound h he
        exact .inr ⟨hw, vcM_sound hT ops eff hQ r env' L D nid _ hk' he'⟩

/-- A region that draws its order, executed in the order 'r'; 'eff': the operations that work on memory. -/
theorem J_draw {T : Ty} (hT : TyOK P T) (hm : P.follows .mixedOrders = true) {id : Nat} {ops : List Oper} {L : List Chunk} {D : List Fact} {nid : Nat} {K : Kt} (r eff : List Nat) (L0 : List Chunk) (D0 : List Fact) (hB : okB ops.toArray (fun i => eff.contains i) r = true) (hE : Ents L D L0 D0)
    (h : vcM P T N ops eff ops.length L0 D0 r env L D nid (K .normal)) : J P G N (.region id ops.toArray true) env L D nid K :=
  ⟨fun a w he hs => region_of_lexM (z := ops.length) (Te := fun a' L' D' => ∀ w', SatW G w' L' D' → PostK G N K .normal a' w') hm depOK_B hB (fun h => absurd h (by simp)) (fun _ _ _ w' h hw => h w' hw) (vcM_sound hT ops eff (fun env' L' D' n' a' hk he' w' hs' => ⟨env', L', D', n', hk, he', hs'⟩) r env L D nid a h he) hE hs⟩

theorem J_drawM {T : Ty} (hT : TyOK P T) (hm : P.follows .mixedOrders = true) {id : Nat} {ops : List Oper} {L : List Chunk} {D : List Fact} {nid : Nat} {K : Kt} (A r eff : List Nat) (L0 : List Chunk) (D0 : List Fact) (hB : okM A ops.toArray (fun i => eff.contains i) r = true) (hE : Ents L D L0 D0)
    (h : vcM P T N ops eff ops.length L0 D0 r env L D nid (K .normal)) : J P G N (.region id ops.toArray true) env L D nid K := by
  simp only [okM, Bool.and_eq_true] at hB
  exact ⟨fun a w he hs => region_of_lexM (z := ops.length) (Te := fun a' L' D' => ∀ w', SatW G w' L' D' → PostK G N K .normal a' w') hm (depOK_masks hB.1.2 hB.1.1) hB.2 (fun h => absurd h (by simp)) (fun _ _ _ w' h hw => h w' hw) (vcM_sound hT ops eff (fun env' L' D' n' a' hk he' w' hs' => ⟨env', L', D', n', hk, he', hs'⟩) r env L D nid a h he) hE hs⟩

/-- All operations come before z in every order. -/
def lastB (A : List Nat) (z : Nat) (r : List Nat) : Bool := r.all fun j => Nat.beq j z || (A.getD z 0).testBit j

/-- A region that draws its order, where the last operation always is z: what the quiet ones look at may change with it. -/
theorem J_drawZ0 {T : Ty} (hT : TyOK P T) (hm : P.follows .mixedOrders = true) {id : Nat} {ops : List Oper} {L : List Chunk} {D : List Fact} {nid : Nat} {K : Kt} (A r eff : List Nat) (z : Nat) (L0 : List Chunk) (D0 : List Fact) (hB : (okM A ops.toArray (fun i => eff.contains i) r && lastB A z r) = true) (hE : Ents L D L0 D0)
    (h : vcM P T N ops eff z L0 D0 r env L D nid (K .normal)) : J P G N (.region id ops.toArray true) env L D nid K := by
  simp only [okM, Bool.and_eq_true] at hB
  refine ⟨fun a w he hs => region_of_lexM (z := z) (Te := fun a' L' D' => ∀ w', SatW G w' L' D' → PostK G N K .normal a' w') hm (depOK_masks hB.1.1.2 hB.1.1.1) hB.1.2 (fun _ j hj hjz => ?_) (fun _ _ _ w' h hw => h w' hw) (vcM_sound hT ops eff (fun env' L' D' n' a' hk he' w' hs' => ⟨env', L', D', n', hk, he', hs'⟩) r env L D nid a h he) hE hs⟩
  have := List.all_eq_true.1 hB.2 j hj
  rcases Bool.or_eq_true_iff.1 this with h1 | h1
  · exact absurd (Nat.eq_of_beq_eq_true h1) hjz
  · exact h1


/-- Two things to do. -/
structure TwoP (A B : Prop) : Prop where
  l : A
  r : B

/-- The check with masks. -/
def okM2 (A : List Nat) (ops : Array Oper) (eff : Nat → Bool) (pre : List Nat) (e1 : Nat) (q1 : List Nat) (e2 : Nat) (q2 : List Nat) (z : Nat) : Bool := Nat.ble A.length ops.size && masksB A ops && okD2 (fun i j => (A.getD i 0).testBit j) ops eff pre e1 q1 e2 q2 z

/-- A region that draws its order, where two operations that work on memory may come in either order. -/
theorem J_drawT0 {T : Ty} (hT : TyOK P T) (hm : P.follows .mixedOrders = true) {id : Nat} {ops : List Oper} {L : List Chunk} {D : List Fact} {nid : Nat} {K : Kt} (A pre : List Nat) (e1 : Nat) (q1 : List Nat) (e2 : Nat) (q2 eff : List Nat) (z : Nat) (L0 : List Chunk) (D0 : List Fact) (hB : okM2 A ops.toArray (fun i => eff.contains i) pre e1 q1 e2 q2 z = true) (hE : Ents L D L0 D0)
    (h : vcM P T N ops eff z L0 D0 pre env L D nid fun env' L' D' n' => TwoP (vcM P T N ops eff z L0 D0 (e1 :: q1) env' L' D' n' (K .normal)) (vcM P T N ops eff z L0 D0 (e2 :: q2) env' L' D' n' (K .normal))) : J P G N (.region id ops.toArray true) env L D nid K := by
  simp only [okM2, Bool.and_eq_true] at hB
  have key : ∀ (r : List Nat) (env' : Env) (L' : List Chunk) (D' : List Fact) (n' : Nat) (a' : Act), vcM P T N ops eff z L0 D0 r env' L' D' n' (K .normal) → EnvOK N env' a' → lexM P G ops.toArray (fun i => eff.contains i) z L0 D0 (fun a' L' D' => ∀ w', SatW G w' L' D' → PostK G N K .normal a' w') r a' L' D' := fun r env' L' D' n' a' h he =>
    vcM_sound hT ops eff (fun env' L' D' n' a' hk he' w' hs' => ⟨env', L', D', n', hk, he', hs'⟩) r env' L' D' n' a' h he
  exact ⟨fun a w he hs => region_of_lexM2 (z := z) (Te := fun a' L' D' => ∀ w', SatW G w' L' D' → PostK G N K .normal a' w') hm (depOK_masks hB.1.2 hB.1.1) hB.2 (fun _ _ _ w' h hw => h w' hw) (vcM_sound hT ops eff (fun env' L' D' n' a' hk he' => ⟨key _ _ _ _ _ _ hk.l he', key _ _ _ _ _ _ hk.r he'⟩) pre env L D nid a h he) hE hs⟩

end
end Go.X
