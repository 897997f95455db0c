/- This text proves that a region whose order the language leaves open may be executed in one order, under a check of the region that is computed. -/
import Derived.Test.YtimekkilmffpiaaDoorJ
set_option linter.all false

namespace Go.X
open Go

section
variable {P : Program} {G : Ent} {ops : Array Oper} {eff : Nat → Bool} {L0 : List Chunk} {D0 : List Fact} {Q : Act → World → Prop}

/-- One value in every world of the class; what the call owns and knows stays. -/
def quietG (P : Program) (G : Ent) (L0 : List Chunk) (D0 : List Fact) (o : Oper) (ρ : Operand → Value) (v : Value) : Prop :=
  ∀ L D, Ents L D L0 D0 → ∀ w, SatW G w L D → gives P o ρ w fun u w' => u = v ∧ SatW G w' L D

def lexM (P : Program) (G : Ent) (ops : Array Oper) (eff : Nat → Bool) (L0 : List Chunk) (D0 : List Fact) (Q : Act → World → Prop) : List Nat → Act → List Chunk → List Fact → Prop
  | [], a, L, D => ∀ w, SatW G w L D → Q a w
  | i :: r, a, L, D =>
    match ops[i]? with
    | none => False
    | some o =>
      (Region.wanted o (yielded ops a.tmps) = true ∧
        ((eff i = false ∧ ∃ v, quietG P G L0 D0 o a.eval v ∧ lexM P G ops eff L0 D0 Q r (a.put o.dst v) L D) ∨
         (eff i = true ∧ ∀ w, SatW G w L D → gives P o a.eval w fun u w' => ∃ L' D', SatW G w' L' D' ∧ Ents L' D' L0 D0 ∧ lexM P G ops eff L0 D0 Q r (a.put o.dst u) L' D'))) ∨
      (Region.wanted o (yielded ops a.tmps) = false ∧ lexM P G ops eff L0 D0 Q r (a.put o.dst undef) L D)

def stepM (P : Program) (ops : Array Oper) (o : Oper) (a : Act) (w : World) (R : Value → World → Prop) : Prop :=
  (Region.wanted o (yielded ops a.tmps) = true ∧ gives P o a.eval w R) ∨ (Region.wanted o (yielded ops a.tmps) = false ∧ R undef w)

/-- i may be taken ahead of those that stand before it in r. -/
def clearM (ops : Array Oper) (eff : Nat → Bool) (i : Nat) (o : Oper) : List Nat → Prop
  | [] => False
  | j :: r => j = i ∨ (j ≠ i ∧ eff j = false ∧ (∀ oj, ops[j]? = some oj → oj.apart ops o = true) ∧ clearM ops eff i o r)

theorem gives_congr {o : Oper} {ρ ρ' : Operand → Value} {w : World} {R : Value → World → Prop} (h : execOp ρ o = execOp ρ' o) (hg : gives P o ρ w R) : gives P o ρ' w R := by
  unfold gives at *
  rw [← h]
  exact hg

theorem bubble (hs : Region.noSelect ops = true) {i : Nat} {o : Oper} (ho : ops[i]? = some o) : ∀ (r : List Nat) (a : Act) (L : List Chunk) (D : List Fact) (w : World), clearM ops eff i o r → lexM P G ops eff L0 D0 Q r a L D → Ents L D L0 D0 → SatW G w L D →
    stepM P ops o a w fun u w' => ∃ L' D', SatW G w' L' D' ∧ Ents L' D' L0 D0 ∧ lexM P G ops eff L0 D0 Q (r.erase i) (a.put o.dst u) L' D'
  | [], _, _, _, _, hc, _, _, _ => hc.elim
  | j :: r, a, L, D, w, hc, h, hE, hw => by
    by_cases hji : j = i
    · subst hji
      simp only [lexM, ho] at h
      rw [List.erase_cons_head]
      rcases h with ⟨hwt, ⟨_, v, hq, hr⟩ | ⟨_, hg⟩⟩ | ⟨hwt, hr⟩
      · refine .inl ⟨hwt, (hq L D hE w hw).mono ?_⟩
        rintro u w' ⟨rfl, hw'⟩
        exact ⟨L, D, hw', hE, hr⟩
      · exact .inl ⟨hwt, hg w hw⟩
      · exact .inr ⟨hwt, L, D, hw, hE, hr⟩
    · rcases hc with hc | ⟨_, heff, hap, hc⟩
      · exact absurd hc hji
      rw [List.erase_cons_tail (by simpa using hji)]
      simp only [lexM] at h
      cases hj : ops[j]? with
      | none => rw [hj] at h; exact h.elim
      | some oj =>
        simp only [hj] at h
        obtain ⟨h1, h2, h3⟩ := Oper.apart_spec (hap oj hj)
        have hsi := fun cs b => Region.noSelect_spec hs i o cs b ho
        have hsj := fun cs b => Region.noSelect_spec hs j oj cs b hj
        -- the value of the operation that is passed
        have key : ∀ v, lexM P G ops eff L0 D0 Q r (a.put oj.dst v) L D →
            (∀ u L' D', lexM P G ops eff L0 D0 Q (r.erase i) ((a.put oj.dst v).put o.dst u) L' D' → lexM P G ops eff L0 D0 Q (j :: r.erase i) (a.put o.dst u) L' D') →
            stepM P ops o a w fun u w' => ∃ L' D', SatW G w' L' D' ∧ Ents L' D' L0 D0 ∧ lexM P G ops eff L0 D0 Q (j :: r.erase i) (a.put o.dst u) L' D' := by
          intro v hr hback
          have hi := bubble hs ho r (a.put oj.dst v) L D w hc hr hE hw
          unfold stepM at hi ⊢
          rw [wanted_put o a oj.dst v h1] at hi
          rcases hi with ⟨hwt, hg⟩ | ⟨hwt, L', D', ha, hb, hcc⟩
          · refine .inl ⟨hwt, gives_congr (execOp_put o hsi a oj.dst v h1) (hg.mono ?_)⟩
            rintro u w' ⟨L', D', ha, hb, hcc⟩
            exact ⟨L', D', ha, hb, hback u L' D' hcc⟩
          · exact .inr ⟨hwt, L', D', ha, hb, hback _ L' D' hcc⟩
        rcases h with ⟨hwt, ⟨_, v, hq, hr⟩ | ⟨hbad, _⟩⟩ | ⟨hwt, hr⟩
        · refine key v hr fun u L' D' hl => ?_
          simp only [lexM, hj]
          refine .inl ⟨by rw [wanted_put oj a o.dst u h3]; exact hwt, .inl ⟨heff, v, ?_, by rw [← Act.put_comm a v u h2]; exact hl⟩⟩
          intro L1 D1 hE1 w1 hw1
          exact gives_congr (execOp_put oj hsj a o.dst u h3).symm (hq L1 D1 hE1 w1 hw1)
        · rw [heff] at hbad; cases hbad
        · refine key undef hr fun u L' D' hl => ?_
          simp only [lexM, hj]
          exact .inr ⟨by rw [wanted_put oj a o.dst u h3]; exact hwt, by rw [← Act.put_comm a undef u h2]; exact hl⟩

/-! ### The check -/

def directB (ops : Array Oper) (i j : Nat) : Bool :=
  match ops[i]? with
  | some o => o.after.any fun e => Region.binds .any e && e.on == j
  | none => false

def depB (ops : Array Oper) : Nat → Nat → Nat → Bool
  | 0, _, _ => false
  | n + 1, i, j =>
    match ops[i]? with
    | some o => o.after.any fun e => Region.binds .any e && (e.on == j || depB ops n e.on j)
    | none => false

def pairB (dep : Nat → Nat → Bool) (ops : Array Oper) (eff : Nat → Bool) (j i : Nat) : Bool :=
  j != i && !directB ops j i && (dep i j || (!eff j &&
    match ops[i]?, ops[j]? with
    | some oi, some oj => oj.apart ops oi
    | _, _ => false))

def edgesB (ops : Array Oper) : Bool :=
  (List.range ops.size).all fun i => match ops[i]? with
    | some o => o.after.all fun e => !Region.binds .any e || (e.on != i && e.on < ops.size)
    | none => true

theorem edgesB_spec (h : edgesB ops = true) : ∀ i o, ops[i]? = some o → ∀ e ∈ o.after, Region.binds .any e = true → e.on ≠ i ∧ e.on < ops.size := by
  intro i o ho e he hb
  have hi : i < ops.size := (Array.getElem?_eq_some_iff.1 ho).1
  have := List.all_eq_true.1 h i (List.mem_range.2 hi)
  simp only [ho] at this
  rw [Array.all_eq_true'] at this
  have := this e he
  simpa [hb] using this

def closedL (ops : Array Oper) (listed : Array Bool) : Prop :=
  ∀ i o, ops[i]? = some o → listed.getD i true = true → ∀ e ∈ o.after, Region.binds .any e = true → listed.getD e.on false = true

/-- A dependency that is listed with what depends on it. -/
def DepOK (ops : Array Oper) (dep : Nat → Nat → Bool) : Prop :=
  ∀ listed : Array Bool, closedL ops listed → ∀ i j, (∀ o, ops[i]? = some o → ∀ e ∈ o.after, Region.binds .any e = true → listed.getD e.on false = true) → dep i j = true → listed.getD j true = true

/-- The dependencies as masks of bits: 'A' lists them, and the check holds it against the operations. -/
def maskOf (A : List Nat) (o : Oper) : Nat := o.after.toList.foldl (fun m e => match Region.binds .any e with
  | true => m ||| (2 ^ e.on ||| A.getD e.on 0)
  | false => m) 0
def backB (i : Nat) (o : Oper) : Bool := o.after.toList.all fun e => !Region.binds .any e || Nat.blt e.on i
def masksB (A : List Nat) (ops : Array Oper) : Bool :=
  (List.range ops.size).all fun i => match ops[i]? with
    | some o => backB i o && Nat.beq (A.getD i 0) (maskOf A o)
    | none => true

theorem testBit_mask {A : List Nat} {j : Nat} : ∀ (l : List Edge) (m : Nat), (l.foldl (fun m e => match Region.binds .any e with
  | true => m ||| (2 ^ e.on ||| A.getD e.on 0)
  | false => m) m).testBit j = true → m.testBit j = true ∨ ∃ e ∈ l, Region.binds .any e = true ∧ (e.on = j ∨ (A.getD e.on 0).testBit j = true)
  | [], m, h => .inl h
  | e :: l, m, h => by
    simp only [List.foldl_cons] at h
    rcases testBit_mask l _ h with h1 | ⟨x, hx, hb, hd⟩
    · split at h1
      · rename_i hb
        simp only [Nat.testBit_or, Bool.or_eq_true] at h1
        rcases h1 with h1 | h1 | h1
        · exact .inl h1
        · exact .inr ⟨e, by simp, hb, .inl (by rw [Nat.testBit_two_pow] at h1; simpa using h1)⟩
        · exact .inr ⟨e, by simp, hb, .inr h1⟩
      · exact .inl h1
    · exact .inr ⟨x, by simp [hx], hb, hd⟩

theorem depOK_masks {ops : Array Oper} {A : List Nat} (h : masksB A ops = true) (hA : Nat.ble A.length ops.size = true) : DepOK ops (fun i j => (A.getD i 0).testBit j) := by
  intro listed hc i
  induction i using Nat.strongRecOn with
  | _ i ih =>
    intro j hi hd
    have hlt : i < ops.size := by
      rcases Nat.lt_or_ge i ops.size with h | h'
      · exact h
      · have := Nat.le_of_ble_eq_true hA
        simp only at hd
        have e : A.getD i 0 = 0 := by rw [List.getD_eq_getElem?_getD, List.getElem?_eq_none (by omega)]; rfl
        rw [e] at hd
        simp at hd
    have h1 := List.all_eq_true.1 h i (List.mem_range.2 hlt)
    have ho : ops[i]? = some ops[i] := by simp [hlt]
    simp only [ho, Bool.and_eq_true] at h1
    have he := Nat.eq_of_beq_eq_true h1.2
    simp only [he] at hd
    unfold maskOf at hd
    rcases testBit_mask _ _ hd with h2 | ⟨e, hm, hb, h2⟩
    · simp at h2
    · have hl := hi _ ho e (by simpa using hm) hb
      rcases h2 with rfl | h2
      · simp only [Array.getD_eq_getD_getElem?] at *
        cases hx : listed[e.on]? <;> rw [hx] at hl <;> simp_all
      · have hbk := List.all_eq_true.1 h1.1 e (by simpa using hm)
        simp only [hb, Bool.not_true, Bool.false_or] at hbk
        have hlt2 : e.on < i := Nat.le_of_ble_eq_true hbk
        refine ih e.on hlt2 j (fun o' ho' e' he' hb' => hc e.on o' ho' ?_ e' he' hb') h2
        simp only [Array.getD_eq_getD_getElem?] at *
        cases hx : listed[e.on]? <;> rw [hx] at hl <;> simp_all

def okD (dep : Nat → Nat → Bool) (ops : Array Oper) (eff : Nat → Bool) (r : List Nat) : Bool :=
  Region.noSelect ops && edgesB ops && r.all (· < ops.size) && (List.range ops.size).all (r.contains ·) && go r
where
  go : List Nat → Bool
    | [] => true
    | j :: r => r.all (pairB dep ops eff j) && go r
def okB (ops : Array Oper) (eff : Nat → Bool) (r : List Nat) : Bool := okD (depB ops ops.size) ops eff r
/-- The check with masks. -/
def okM (A : List Nat) (ops : Array Oper) (eff : Nat → Bool) (r : List Nat) : Bool := Nat.ble A.length ops.size && masksB A ops && okD (fun i j => (A.getD i 0).testBit j) ops eff r

variable {dep : Nat → Nat → Bool}
theorem go_pairwise : ∀ {r : List Nat}, okD.go dep ops eff r = true → r.Pairwise fun j i => pairB dep ops eff j i = true
  | [], _ => .nil
  | j :: r, h => by
    simp only [okD.go, Bool.and_eq_true, List.all_eq_true] at h
    exact .cons (fun i hi => h.1 i hi) (go_pairwise h.2)

theorem getD_ft {l : Array Bool} {i : Nat} (h : l.getD i false = true) : l.getD i true = true := by
  simp only [Array.getD_eq_getD_getElem?] at *
  cases hi : l[i]? <;> rw [hi] at h <;> simp_all

theorem dep_listed {listed : Array Bool} (hc : closedL ops listed) : ∀ (n i j : Nat), (∀ o, ops[i]? = some o → ∀ e ∈ o.after, Region.binds .any e = true → listed.getD e.on false = true) → depB ops n i j = true → listed.getD j true = true
  | 0, _, _, _, h => by simp [depB] at h
  | n + 1, i, j, hi, h => by
    simp only [depB] at h
    split at h
    · rename_i o ho
      rw [Array.any_eq_true'] at h
      obtain ⟨e, he, hb⟩ := h
      simp only [Bool.and_eq_true, Bool.or_eq_true, beq_iff_eq] at hb
      obtain ⟨hbd, hb⟩ := hb
      have hl := hi o ho e he hbd
      rcases hb with rfl | hb
      · exact getD_ft hl
      · exact dep_listed hc n e.on j (fun o' ho' e' he' hb' => hc e.on o' ho' (getD_ft hl) e' he' hb') hb
    · cases h

theorem depOK_B : DepOK ops (depB ops ops.size) := fun _ hc i j hi h => dep_listed hc _ i j hi h

theorem clear_of_pairs (hdep : DepOK ops dep) {listed : Array Bool} (hc : closedL ops listed) {i : Nat} {o : Oper} (ho : ops[i]? = some o) (hready : ∀ e ∈ o.after, Region.binds .any e = true → listed.getD e.on false = true) :
    ∀ {r : List Nat}, i ∈ r → (∀ j ∈ r, listed.getD j true = false) → r.Pairwise (fun j i => pairB dep ops eff j i = true) → clearM ops eff i o r
  | j :: r, hm, hu, hp => by
    by_cases hji : j = i
    · exact .inl hji
    · have hm' : i ∈ r := by
        rcases List.mem_cons.1 hm with h | h
        · exact absurd h.symm hji
        · exact h
      have hpj := (List.pairwise_cons.1 hp).1 i hm'
      simp only [pairB, Bool.and_eq_true, Bool.or_eq_true, Bool.not_eq_true'] at hpj
      obtain ⟨_, hd⟩ := hpj
      rcases hd with hd | ⟨he, hap⟩
      · exfalso
        have := hdep _ hc i j (fun o' ho' => by rw [ho] at ho'; cases ho'; exact hready) hd
        rw [hu j (by simp)] at this
        cases this
      · refine .inr ⟨hji, he, fun oj hoj => ?_, clear_of_pairs hdep hc ho hready hm' (fun k hk => hu k (by simp [hk])) (List.pairwise_cons.1 hp).2⟩
        rw [ho, hoj] at hap
        exact hap
  | [], hm, _, _ => by cases hm

theorem any_of_lexM (hdep : DepOK ops dep) (hs : Region.noSelect ops = true) (hed : ∀ i o, ops[i]? = some o → ∀ e ∈ o.after, Region.binds .any e = true → e.on ≠ i ∧ e.on < ops.size) : ∀ (n : Nat) (r : List Nat) (listed : Array Bool) (a : Act) (L : List Chunk) (D : List Fact) (w : World) (Q' : Exit → Act → World → Prop), (∀ a w, Q a w → Q' .normal a w) →
    r.length = n → listed.size = ops.size → (∀ i, listed.getD i true = false ↔ i ∈ r) → closedL ops listed → r.Pairwise (fun j i => pairB dep ops eff j i = true) → lexM P G ops eff L0 D0 Q r a L D → Ents L D L0 D0 → SatW G w L D →
    wpAny P .any ops Q' n listed a w
  | 0, r, listed, a, L, D, w, Q', hQ, hlen, hsz, hr, hc, hp, h, hE, hw => by
    have hnil : r = [] := List.eq_nil_of_length_eq_zero hlen
    subst hnil
    refine ⟨?_, hQ _ _ (h w hw)⟩
    rw [List.eq_nil_iff_forall_not_mem]
    intro i hi
    have := (hr i).1 (mem_ready.1 hi).1
    cases this
  | n + 1, r, listed, a, L, D, w, Q', hQ, hlen, hsz, hr, hc, hp, h, hE, hw => by
    refine ⟨fun hnil => ?_, fun i hi => ?_⟩
    · -- the first of r is ready
      exfalso
      match r, hlen with
      | j :: r, _ =>
        have hj : listed.getD j true = false := (hr j).2 (by simp)
        cases hoj : ops[j]? with
        | none => simp only [lexM, hoj] at h
        | some oj =>
          have : j ∈ Region.ready .any ops listed := mem_ready.2 ⟨hj, oj, hoj, fun e he hb => by
            cases hl : listed.getD e.on false with
            | true => rfl
            | false =>
              exfalso
              by_cases hlt : e.on < listed.size
              · have hl' : listed.getD e.on true = false := by
                  simp only [Array.getD_eq_getD_getElem?, Array.getElem?_eq_getElem hlt, Option.getD_some] at hl ⊢
                  exact hl
                have hmem := (hr e.on).1 hl'
                rcases List.mem_cons.1 hmem with hej | hmem
                · exact (hed j oj hoj e he hb).1 hej
                · have := (List.pairwise_cons.1 hp).1 e.on hmem
                  simp only [pairB, Bool.and_eq_true, Bool.not_eq_true'] at this
                  have hd := this.1.2
                  simp only [directB, hoj] at hd
                  rw [Array.any_eq_false'] at hd
                  exact hd e he (by simp [hb])
              · exact hlt (by rw [hsz]; exact (hed j oj hoj e he hb).2)⟩
          rw [hnil] at this
          cases this
    · obtain ⟨hun, o, ho, hall⟩ := mem_ready.1 hi
      have hm := (hr i).1 hun
      have hcl := clear_of_pairs (eff := eff) hdep hc ho hall hm (fun j hj => (hr j).2 hj) hp
      have hst := bubble hs ho r a L D w hcl h hE hw
      have hnd : r.Nodup := hp.imp fun hjk => by
        simp only [pairB, Bool.and_eq_true, bne_iff_ne] at hjk
        exact hjk.1.1
      have hlt : i < listed.size := by
        rcases Nat.lt_or_ge i listed.size with h | h
        · exact h
        · simp [Array.getElem?_eq_none h] at hun
      have next : ∀ u w', (∃ L' D', SatW G w' L' D' ∧ Ents L' D' L0 D0 ∧ lexM P G ops eff L0 D0 Q (r.erase i) (a.put o.dst u) L' D') → wpAny P .any ops Q' n (listed.setIfInBounds i true) (a.put o.dst u) w' := by
        rintro u w' ⟨L', D', hw', hE', hl⟩
        refine any_of_lexM hdep hs hed n (r.erase i) _ _ L' D' w' Q' hQ ?_ ?_ ?_ ?_ ?_ hl hE' hw'
        · rw [List.length_erase_of_mem hm]; omega
        · simpa using hsz
        · intro k
          rw [hnd.mem_erase_iff, ← hr k]
          by_cases hki : k = i
          · subst hki; simp [hlt]
          · simp [Array.getD_eq_getD_getElem?, Array.getElem?_setIfInBounds_ne (Ne.symm hki), hki]
        · intro k ok hok hk e he hb
          by_cases hei : e.on = i
          · rw [hei]; simp [hlt]
          · rw [show (listed.setIfInBounds i true).getD e.on false = listed.getD e.on false by simp [Array.getD_eq_getD_getElem?, Array.getElem?_setIfInBounds_ne (Ne.symm hei)]]
            by_cases hki : k = i
            · subst hki
              rw [ho] at hok
              cases hok
              exact hall e he hb
            · refine hc k ok hok ?_ e he hb
              simpa [Array.getD_eq_getD_getElem?, Array.getElem?_setIfInBounds_ne (Ne.symm hki)] using hk
        · exact hp.sublist List.erase_sublist
      unfold wpOp
      simp only [ho]
      rcases hst with ⟨hwt, hg⟩ | ⟨hwt, hR⟩
      · rw [if_pos hwt]
        exact .inl (hg.wp next)
      · rw [if_neg (by simp [hwt])]
        exact next _ _ hR

theorem region_of_lexM {id : Nat} {r : List Nat} {a : Act} {L : List Chunk} {D : List Fact} {w : World} {Q' : Exit → Act → World → Prop} (hm : P.follows .mixedOrders = true) (hdep : DepOK ops dep) (hB : okD dep ops eff r = true) (hQ : ∀ a w, Q a w → Q' .normal a w)
    (h : lexM P G ops eff L0 D0 Q r a L D) (hE : Ents L D L0 D0) (hw : SatW G w L D) : (Code.region id ops true).wp P Q' a w := by
  simp only [okD, Bool.and_eq_true, List.all_eq_true, decide_eq_true_eq, List.mem_range] at hB
  obtain ⟨⟨⟨⟨hs, hed⟩, hlt⟩, hall⟩, hgo⟩ := hB
  have hp := go_pairwise hgo
  have hnd : r.Nodup := hp.imp fun hjk => by
    simp only [pairB, Bool.and_eq_true, bne_iff_ne] at hjk
    exact hjk.1.1
  have hperm : r.Perm (List.range ops.size) := by
    rw [List.perm_ext_iff_of_nodup hnd List.nodup_range]
    intro i
    rw [List.mem_range]
    exact ⟨fun hi => hlt i hi, fun hi => by simpa using hall i hi⟩
  refine wp_region_any hm (any_of_lexM hdep hs (edgesB_spec hed) ops.size r _ a L D _ Q' hQ ?_ (by simp) ?_ ?_ hp h hE ?_)
  · simpa using hperm.length_eq
  · intro i
    rw [hperm.mem_iff, List.mem_range]
    by_cases hi : i < ops.size
    · simp [hi]
    · simp [hi]
  · intro i o ho hl
    exfalso
    have hi : i < ops.size := (Array.getElem?_eq_some_iff.1 ho).1
    simp [hi] at hl
  · exact satW_drew hw

end

/-! ### The executor -/

/-- A result without memory. -/
def Is (v : V) : V → List Chunk → List Fact → Prop := fun v' L D => v' = v ∧ L = [] ∧ D = []

inductive CallQ (P : Program) (f : FuncId) (vs : List V) (D : List Fact) (k : V → Prop) : Prop where
  | mk (D1 : List Fact) (v : V) (h : FnS P f vs [] D1 (Is v)) (hd : ∀ m, allD m D → allD m D1) (k : k v)

def vcBuiltinQ (T : Ty) (b : Builtin) (ts : List TypeId) (vs : List V) (k : V → Prop) : Prop :=
  match b, ts, vs with
  | .len, [t], [x] =>
    match find T t with
    | some i =>
      match i.d, x with
      | .str, .c (.s l) => k (lenV l.length)
      | .sl _, .c (.sl _ n _) => k (lenV n)
      | .arr n _, _ => k (lenV n)
      | _, _ => False
    | none => False
  | .max, _, [.c (.i ka a), .c (.i _ b)] => CondP (a < b) (k (.c (.i ka b))) (k (.c (.i ka a)))
  | .min, _, [.c (.i ka a), .c (.i _ b)] => CondP (b < a) (k (.c (.i ka b))) (k (.c (.i ka a)))
  | _, _, _ => False

def vcCallQ (P : Program) (T : Ty) (c : Call) (env : Env) (D : List Fact) (k : V → Prop) : Prop :=
  match c.callee with
  | .value (.func f) => argsK env c.args.toList fun vs => CallQ P f vs D k
  | .builtin b => argsK env c.args.toList fun vs => vcBuiltinQ T b c.argTypes.toList vs k
  | _ => False

def vcConvertQ (T : Ty) (s d : Nat) (v : V) (k : V → Prop) : Prop :=
  match find T s, find T d with
  | some si, some di =>
    match si.d, di.d, v with
    | .int _, .int kd, .c (.i _ n) => ArP kd n fun r => k (.c (.i kd r))
    | .str, .str, .c (.s l) => k (.c (.s l))
    | _, _, _ => False
  | _, _ => False

/-- The operations that only look. -/
def vcQ (P : Program) (T : Ty) (op : Op) (env : Env) (L : List Chunk) (D : List Fact) (k : V → Prop) : Prop :=
  match op with
  | .move x => withE env x k
  | .assign x => withE env x k
  | .pick c a b => pickK env c a b k
  | .build t ps => partsK env ps.toList fun l => vcBuild T t l k
  | .load t x => withE env x fun a => vcLoad T t a L D k
  | .binOp op t x y _ => withE env x fun a => withE env y fun b => vcBin T op t a b k
  | .unOp op _ x => withE env x fun a => vcUn op a k
  | .convert s d x => withE env x fun a => vcConvertQ T s d a k
  | .slice t x lo hi none => withE env x fun a => optK env lo fun lo => optK env hi fun hi => vcSlice T t a lo hi k
  | .fieldAddr s x f => withE env x fun a => vcFieldAddr T s a f L D k
  | .field t x f => withE env x fun a => vcField T t a f k
  | .indexAddr t x i => withE env x fun a => withE env i fun i => vcIndexAddr T t a i L D k
  | .index t x i => withE env x fun a => withE env i fun i => vcIndex T t a i k
  | .extract x i => withE env x fun v => extractK v i k
  | .call c => vcCallQ P T c env D k
  | .nilCheck x => withE env x fun v => nilK v L D k
  | _ => False

section
variable {P : Program} {G : Ent} {L0 : List Chunk} {D0 : List Fact} {N : Nat} {env : Env}

theorem quiet_val {o : Oper} {a : Act} {v : V} (hr : ∀ w, SatW G w L0 D0 → (execOp a.eval o).run P w = .ok (.value v.enc) w) : quietG P G L0 D0 o a.eval v.enc := by
  intro L D hE w hw
  unfold gives
  rw [hr w (hE G w hw)]
  exact ⟨rfl, hw⟩

theorem satW_keep {w w' : World} {L : List Chunk} {D : List Fact} (h : SatW G w L D) (hsz : w.heap.size ≤ w'.heap.size) (hsame : ∀ b, b < w.heap.size → w'.heap[b]? = w.heap[b]?) (hk : Kept w w') : SatW G w' L D := by
  obtain ⟨m, h1, h2⟩ := h
  have hlt := mem_fps_lt h1.ok
  refine ⟨m, ⟨h1.nd, allOk_of_same h1.ok fun b hb => hsame b (hlt b hb), fun b o hb => ?_, h1.d⟩, h2.trans ⟨hsz, fun b hb _ => hsame b hb, fun b hb => .inl hb, fun _ _ h => h, fun _ _ h => .inl h, hk⟩⟩
  have h3 := h1.im b o hb
  exact ⟨by rw [hsame b (Array.getElem?_eq_some_iff.1 h3.1).1]; exact h3.1, h3.2⟩

theorem quiet_call {o : Oper} {a : Act} {f : FuncId} {vs : List V} {D1 : List Fact} {v : V} (hrun : ∀ w, (execOp a.eval o).run P w = .ok (.enter f (vs.map V.enc).toArray) w) (h : FnS P f vs [] D1 (Is v)) (hd : ∀ m, allD m D0 → allD m D1) :
    quietG P G L0 D0 o a.eval v.enc := by
  intro L D hE w hw
  unfold gives
  rw [hrun w]
  obtain ⟨m, h1, h2⟩ := hE G w hw
  refine (h.2 w m ⟨by simp [fps], trivial, fun b o hb => ⟨(h1.im b o hb).1, by simp [fps]⟩, hd m h1.d⟩).mono ?_
  rintro e w' ⟨v', L', D', m', rfl, ⟨rfl, rfl, rfl⟩, _, hfr⟩
  exact ⟨_, rfl, rfl, satW_keep hw hfr.size (fun b hb => hfr.same b hb (by simp [fps])) hfr.kept⟩

theorem vcBuiltinQ_sound {T : Ty} (hT : TyOK P T) {b : Builtin} {ts : List TypeId} {vs : List V} {ty : TypeId} {k : V → Prop} (h : vcBuiltinQ T b ts vs k) :
    ∃ v, k v ∧ ∀ w (consts : Array Bool), (builtin b ts.toArray ty consts (vs.map V.enc).toArray).run P w = .ok (.value v.enc) w := by
  unfold vcBuiltinQ at h
  split at h
  · rename_i t x
    split at h
    · rename_i i hi
      have hd' := (hT _ _ hi).2.2.2
      split at h
      · rename_i l hd
        rw [hd] at hd'
        refine ⟨_, h, fun w consts => ?_⟩
        simp only [builtin, List.map_cons, List.map_nil, V.enc, C.enc, Sem.run_bind]
        rw [run_len_string w t _ _ hd']
        rfl
      · rename_i e a n c hd
        rw [hd] at hd'
        simp only [TyD.ok] at hd'
        exact ⟨_, h, fun w consts => by simp [builtin, V.enc, C.enc, lenV, Builtin.len_, run_underlying hd', goInt]⟩
      · rename_i n e hd
        rw [hd] at hd'
        simp only [TyD.ok] at hd'
        exact ⟨_, h, fun w consts => by simp [builtin, V.enc, C.enc, lenV, Builtin.len_, run_underlying hd', goInt]⟩
      · exact h.elim
    · exact h.elim
  · rename_i ts ka x kb y
    by_cases hab : x < y
    · exact ⟨_, h.t hab, fun w consts => by simp only [builtin, List.map_cons, List.map_nil, V.enc, C.enc, Sem.run_bind, run_max_int2, Result.andThen_ok, Sem.run_pure, gt_iff_lt, hab, if_true]⟩
    · exact ⟨_, h.f hab, fun w consts => by simp only [builtin, List.map_cons, List.map_nil, V.enc, C.enc, Sem.run_bind, run_max_int2, Result.andThen_ok, Sem.run_pure, gt_iff_lt, hab, if_false]⟩
  · rename_i ts ka x kb y
    by_cases hab : y < x
    · exact ⟨_, h.t hab, fun w consts => by simp only [builtin, List.map_cons, List.map_nil, V.enc, C.enc, Sem.run_bind, run_min_int2, Result.andThen_ok, Sem.run_pure, hab, if_true]⟩
    · exact ⟨_, h.f hab, fun w consts => by simp only [builtin, List.map_cons, List.map_nil, V.enc, C.enc, Sem.run_bind, run_min_int2, Result.andThen_ok, Sem.run_pure, hab, if_false]⟩
  · exact h.elim

theorem vcQ_sound {T : Ty} (hT : TyOK P T) {o : Oper} {a : Act} {k : V → Prop} (he : EnvOK N env a) (h : vcQ P T o.op env L0 D0 k) : ∃ v, k v ∧ quietG P G L0 D0 o a.eval v.enc := by
  unfold vcQ at h
  split at h
  · rename_i x ho
    obtain ⟨v, hv, h⟩ := withE_elim h
    exact ⟨v, h, quiet_val fun w _ => by simp only [execOp, ho, he.ev hv, Sem.run_pure]⟩
  · rename_i x ho
    obtain ⟨v, hv, h⟩ := withE_elim h
    exact ⟨v, h, quiet_val fun w _ => by simp only [execOp, ho, he.ev hv, Sem.run_pure]⟩
  · rename_i c x y ho
    obtain ⟨cv, hc, h⟩ := withE_elim h
    split at h
    · obtain ⟨v, hv, h⟩ := withE_elim h
      exact ⟨v, h, quiet_val fun w _ => by simp only [execOp, ho, he.ev hc, he.ev hv, V.enc, C.enc, asBool, Sem.run_bind, Sem.run_pure, Result.andThen_ok, if_true]⟩
    · obtain ⟨v, hv, h⟩ := withE_elim h
      exact ⟨v, h, quiet_val fun w _ => by simp only [execOp, ho, he.ev hc, he.ev hv, V.enc, C.enc, asBool, Sem.run_bind, Sem.run_pure, Result.andThen_ok, Bool.false_eq_true, if_false]⟩
    · exact h.elim
  · rename_i t ps ho
    obtain ⟨l, h, hl⟩ := partsK_sound he h
    obtain ⟨v, hk, hr⟩ := vcBuild_sound hT h
    have e : (ps.map fun (i, x) => (i, a.eval x)) = (l.map fun (i, v) => (i, v.enc)).toArray := by
      rw [← hl, ← Array.toList_map, Array.toArray_toList]
    exact ⟨v, hk, quiet_val fun w _ => by simp only [execOp, ho, e, Sem.run_bind, hr w, Result.andThen_ok, Sem.run_pure]⟩
  · rename_i t x ho
    obtain ⟨v, hv, h⟩ := withE_elim h
    obtain ⟨r, hk, hr⟩ := vcLoad_uni (G := G) hT h
    exact ⟨r, hk, quiet_val fun w hw => by simp only [execOp, ho, he.ev hv, Sem.run_bind, hr w hw, Result.andThen_ok, Sem.run_pure]⟩
  · rename_i op t x y yt ho
    obtain ⟨v, hv, h⟩ := withE_elim h
    obtain ⟨u, hu, h⟩ := withE_elim h
    obtain ⟨r, hk, hr⟩ := vcBin_sound hT (ox := x) (oy := y) h
    refine ⟨r, hk, quiet_val fun w _ => ?_⟩
    have := hr w
    simp only [execOp, ho, he.ev hv, he.ev hu]
    rw [Sem.run_bind, this]
    rfl
  · rename_i op t x ho
    obtain ⟨v, hv, h⟩ := withE_elim h
    obtain ⟨r, hk, hr⟩ := vcUn_sound (P := P) h
    exact ⟨r, hk, quiet_val fun w _ => by simp only [execOp, ho, he.ev hv, Sem.run_bind, hr w, Result.andThen_ok, Sem.run_pure]⟩
  · rename_i s d x ho
    obtain ⟨v, hv, h⟩ := withE_elim h
    unfold vcConvertQ at h
    split at h
    · rename_i si di hsi hdi
      have h1 := (hT _ _ hsi).2.2.2
      have h2 := (hT _ _ hdi).2.2.2
      split at h
      · rename_i ks kd kv n hd1 hd2
        rw [hd1] at h1
        rw [hd2] at h2
        simp only [TyD.ok] at h1 h2
        refine ⟨_, h.run, quiet_val fun w _ => ?_⟩
        simp [execOp, ho, he.ev hv, convert, run_underlying h1, run_underlying h2, V.enc, C.enc, Conv.intToInt]
      · rename_i l hd1 hd2
        rw [hd1] at h1
        rw [hd2] at h2
        simp only [TyD.ok] at h1 h2
        refine ⟨_, h, quiet_val fun w _ => ?_⟩
        simp [execOp, ho, he.ev hv, convert, run_underlying h1, run_underlying h2, V.enc, C.enc]
      · exact h.elim
    · exact h.elim
  · rename_i t x lo hi ho
    obtain ⟨v, hv, h⟩ := withE_elim h
    obtain ⟨l, h, hl⟩ := optK_sound he h
    obtain ⟨u, h, hu⟩ := optK_sound he h
    obtain ⟨r, hk, hr⟩ := vcSlice_sound hT h
    exact ⟨r, hk, quiet_val fun w _ => by simp only [execOp, ho, he.ev hv, hl, hu, Option.map_none, Sem.run_bind, hr w, Result.andThen_ok, Sem.run_pure]⟩
  · rename_i s x f ho
    obtain ⟨v, hv, h⟩ := withE_elim h
    obtain ⟨r, hk, hr⟩ := vcFieldAddr_uni (G := G) hT h
    exact ⟨r, hk, quiet_val fun w hw => by simp only [execOp, ho, he.ev hv, Sem.run_bind, hr w hw, Result.andThen_ok, Sem.run_pure]⟩
  · rename_i t x f ho
    obtain ⟨v, hv, h⟩ := withE_elim h
    obtain ⟨r, hk, hr⟩ := vcField_sound hT h
    exact ⟨r, hk, quiet_val fun w _ => by simp only [execOp, ho, he.ev hv, Sem.run_bind, hr w, Result.andThen_ok, Sem.run_pure]⟩
  · rename_i t x i ho
    obtain ⟨v, hv, h⟩ := withE_elim h
    obtain ⟨u, hu, h⟩ := withE_elim h
    obtain ⟨r, hk, hr⟩ := vcIndexAddr_uni (G := G) hT h
    exact ⟨r, hk, quiet_val fun w hw => by simp only [execOp, ho, he.ev hv, he.ev hu, Sem.run_bind, hr w hw, Result.andThen_ok, Sem.run_pure]⟩
  · rename_i t x i ho
    obtain ⟨v, hv, h⟩ := withE_elim h
    obtain ⟨u, hu, h⟩ := withE_elim h
    obtain ⟨r, hk, hr⟩ := vcIndex_sound hT h
    exact ⟨r, hk, quiet_val fun w _ => by simp only [execOp, ho, he.ev hv, he.ev hu, Sem.run_bind, hr w, Result.andThen_ok, Sem.run_pure]⟩
  · rename_i x i ho
    obtain ⟨v, hv, h⟩ := withE_elim h
    obtain ⟨r, hk, hr⟩ := extractK_sound (P := P) h
    exact ⟨r, hk, quiet_val fun w _ => by simp only [execOp, ho, he.ev hv, Sem.run_bind, hr w, Result.andThen_ok, Sem.run_pure]⟩
  · rename_i c ho
    unfold vcCallQ at h
    split at h
    · rename_i f hc
      obtain ⟨vs, h, hvs⟩ := argsK_sound he h
      obtain ⟨D1, v, hf, hd, hk⟩ := h
      have hargs : c.args.map a.eval = (vs.map V.enc).toArray := by rw [← hvs, ← Array.toList_map, Array.toArray_toList]
      refine ⟨v, hk, quiet_call (fun w => ?_) hf hd⟩
      simp only [execOp, ho, resolve, hc, Act.eval, Deferred.ofValue, Sem.run_bind, Sem.run_pure, Result.andThen_ok, invoke, hargs]
      simp [run_callFunc hf.1]
    · rename_i b hc
      obtain ⟨vs, h, hvs⟩ := argsK_sound he h
      have hargs : c.args.map a.eval = (vs.map V.enc).toArray := by rw [← hvs, ← Array.toList_map, Array.toArray_toList]
      have key := vcBuiltinQ_sound (P := P) (ty := o.type) hT h
      rw [Array.toArray_toList] at key
      obtain ⟨v, hk, hr⟩ := key
      refine ⟨v, hk, quiet_val fun w _ => ?_⟩
      simp only [execOp, ho, resolve, hc, Sem.run_bind, Sem.run_pure, Result.andThen_ok, invoke, hargs]
      exact hr w _
    · exact h.elim
  · rename_i x ho
    obtain ⟨v, hv, h⟩ := withE_elim h
    obtain ⟨hk, ha⟩ := nilK_sound (G := G) h
    exact ⟨v, hk, quiet_val fun w hw => by obtain ⟨a', ha⟩ := ha w hw; simp only [execOp, ho, he.ev hv, ha, Sem.run_pure]⟩
  · exact h.elim

/-- After an operation that works on memory, what the others look at is still there. -/
structure EntP (L : List Chunk) (D : List Fact) (L' : List Chunk) (D' : List Fact) (A : Prop) : Prop where
  h : Ents L D L' D'
  k : A

def vcM (P : Program) (T : Ty) (N : Nat) (ops : List Oper) (eff : List Nat) (L0 : List Chunk) (D0 : List Fact) : List Nat → Env → List Chunk → List Fact → Nat → Kont → Prop
  | [], env, L, D, nid, k => k env L D nid
  | i :: r, env, L, D, nid, k =>
    match ops[i]? with
    | none => False
    | some o =>
      wantK ops env o.guard
        (match eff.contains i with
        | false => vcQ P T o.op env L0 D0 fun v => putK N o.dst v env fun env' => vcM P T N ops eff L0 D0 r env' L D nid k
        | true => vcOp P T o.op env L D nid fun v L' D' n' => EntP L' D' L0 D0 (putK N o.dst v env fun env' => vcM P T N ops eff L0 D0 r env' L' D' n' k))
        (putK N o.dst .t0 env fun env' => vcM P T N ops eff L0 D0 r env' L D nid k)

theorem vcM_sound {T : Ty} (hT : TyOK P T) (ops : List Oper) (eff : List Nat) {k : Kont} {Q : Act → World → Prop} (hQ : ∀ env' L' D' n' a' w', k env' L' D' n' → EnvOK N env' a' → SatW G w' L' D' → Q a' w') :
    ∀ (r : List Nat) (env : Env) (L : List Chunk) (D : List Fact) (nid : Nat) (a : Act), vcM P T N ops eff L0 D0 r env L D nid k → EnvOK N env a → lexM P G ops.toArray (fun i => eff.contains i) L0 D0 Q r a L D
  | [], env, L, D, nid, a, h, he => fun w hw => hQ _ _ _ _ _ _ h he hw
  | i :: r, env, L, D, nid, a, h, he => by
    simp only [vcM] at h
    simp only [lexM]
    cases ho : ops[i]? with
    | none => rw [ho] at h; exact h.elim
    | some o =>
      rw [ho] at h
      simp only [List.getElem?_toArray, ho]
      simp only at h
      rcases wantK_sound he h with ⟨hw, h⟩ | ⟨hw, h⟩
      · refine .inl ⟨hw, ?_⟩
        cases hef : eff.contains i with
        | false =>
          rw [hef] at h
          obtain ⟨v, hk, hq⟩ := vcQ_sound (G := G) hT he h
          obtain ⟨env', hk', he'⟩ := putK_sound hk he
          exact .inl ⟨rfl, v.enc, hq, vcM_sound hT ops eff hQ r env' L D nid _ hk' he'⟩
        | true =>
          rw [hef] at h
          refine .inr ⟨rfl, fun w hw' => (vcOp_sound hT h he hw').mono ?_⟩
          rintro u w' ⟨v, L', D', n', rfl, hk, hs'⟩
          obtain ⟨env', hk', he'⟩ := putK_sound hk.k he
          exact ⟨L', D', hs', hk.h, vcM_sound hT ops eff hQ r env' L' D' n' _ hk' he'⟩
      · obtain ⟨env', hk', he'⟩ := putK_sound h he
        exact .inr ⟨hw, vcM_sound hT ops eff hQ r env' L D nid _ hk' he'⟩

/-- A region that draws its order, executed in the order 'r'; 'eff': the operations that work on memory. -/
theorem J_draw {T : Ty} (hT : TyOK P T) (hm : P.follows .mixedOrders = true) {id : Nat} {ops : List Oper} {L : List Chunk} {D : List Fact} {nid : Nat} {K : Kt} (r eff : List Nat) (L0 : List Chunk) (D0 : List Fact) (hB : okB ops.toArray (fun i => eff.contains i) r = true) (hE : Ents L D L0 D0)
    (h : vcM P T N ops eff L0 D0 r env L D nid (K .normal)) : J P G N (.region id ops.toArray true) env L D nid K :=
  ⟨fun a w he hs => region_of_lexM (Q := fun a' w' => PostK G N K .normal a' w') hm depOK_B hB (fun _ _ h => h) (vcM_sound hT ops eff (fun env' L' D' n' a' w' hk he' hs' => ⟨env', L', D', n', hk, he', hs'⟩) r env L D nid a h he) hE hs⟩

theorem J_drawM {T : Ty} (hT : TyOK P T) (hm : P.follows .mixedOrders = true) {id : Nat} {ops : List Oper} {L : List Chunk} {D : List Fact} {nid : Nat} {K : Kt} (A r eff : List Nat) (L0 : List Chunk) (D0 : List Fact) (hB : okM A ops.toArray (fun i => eff.contains i) r = true) (hE : Ents L D L0 D0)
    (h : vcM P T N ops eff L0 D0 r env L D nid (K .normal)) : J P G N (.region id ops.toArray true) env L D nid K := by
  simp only [okM, Bool.and_eq_true] at hB
  exact ⟨fun a w he hs => region_of_lexM (Q := fun a' w' => PostK G N K .normal a' w') hm (depOK_masks hB.1.2 hB.1.1) hB.2 (fun _ _ h => h) (vcM_sound hT ops eff (fun env' L' D' n' a' w' hk he' hs' => ⟨env', L', D', n', hk, he', hs'⟩) r env L D nid a h he) hE hs⟩

end
end Go.X
