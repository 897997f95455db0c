/- This text proves, for any program, that a region that draws its order may be executed along a tree of orders in which the quiet operations behind a branch see the facts that the branch's operation has made. No condition. -/
import Derived.Test.YtdnkeinjfddmnaaGreatDoorDrawP
set_option linter.all false

namespace Go.X
open Go
variable [Sm : Inhabited Manner] [Df : Inhabited (List Deferred)]
variable {P : Program} {G : Ent} {ops : Array Oper} {eff : Nat → Bool} {z : Nat} {L0 : List Chunk} {Te : Act → List Chunk → List Fact → Prop} {dep : Nat → Nat → Bool}

/-- A tree of orders: a list to its end; a list and then one of several operations; these. -/
inductive OTr where
  | leaf (r : List Nat)
  | fork (pre : List Nat) (t : OTr)
  | alt (e : Nat) (p : OTr) (t : OTr)
  | stop

def OTr.flat : OTr → List Nat
  | .leaf r => r
  | .fork pre t => pre ++ t.flat
  | .alt e p _ => e :: p.flat
  | .stop => []
def OTr.alts : OTr → List (Nat × OTr)
  | .alt e p t => (e, p) :: t.alts
  | _ => []
def OTr.isN : OTr → Bool
  | .leaf _ => true
  | .fork _ _ => true
  | _ => false
def OTr.headB (ops : Array Oper) : OTr → Bool
  | .alt e p _ => p.flat.all (apartB ops e)
  | _ => false

def lexU (P : Program) (G : Ent) (ops : Array Oper) (eff : Nat → Bool) (z : Nat) (L0 : List Chunk) (Te : Act → List Chunk → List Fact → Prop) : OTr → List Fact → Act → List Chunk → List Fact → Prop
  | .leaf r, D0, a, L, D => lexM P G ops eff z L0 D0 Te r a L D
  | .fork pre t, D0, a, L, D => lexM P G ops eff z L0 D0 (lexU P G ops eff z L0 Te t D0) pre a L D
  | .alt e p t, D0, a, L, D => lexM P G ops eff z L0 D0 (fun a' L' D' => (Ents L' D' L0 D' ∧ ∀ m, allD m D' → allD m D0) ∧ lexU P G ops eff z L0 Te p D' a' L' D') [e] a L D ∧ lexU P G ops eff z L0 Te t D0 a L D
  | .stop, _, _, _, _ => True

theorem lexM_end {D0 : List Fact} : ∀ (q : List Nat) (_ : ∀ j ∈ q, eff j = false) (a : Act) (L : List Chunk) (D : List Fact), lexM P G ops eff z L0 D0 Te q a L D → ∃ a', Te a' L D
  | [], _, a, _, _, h => ⟨a, h⟩
  | i :: r, hq, a, L, D, h => by
    simp only [lexM] at h
    cases hi : ops[i]? with
    | none => rw [hi] at h; exact h.elim
    | some o =>
      rw [hi] at h
      rcases h with ⟨_, ⟨_, v, _, hr⟩ | ⟨he, _⟩⟩ | ⟨_, hr⟩
      · exact lexM_end r (fun j hj => hq j (List.mem_cons_of_mem _ hj)) _ L D hr
      · rw [hq i (List.mem_cons_self ..)] at he; cases he
      · exact lexM_end r (fun j hj => hq j (List.mem_cons_of_mem _ hj)) _ L D hr
theorem lexM_q {T2 : Act → List Chunk → List Fact → Prop} {D0 D1 : List Fact} {L : List Chunk} {D : List Fact} (hD : ∀ m, allD m D1 → allD m D0) (hT : ∀ a', Te a' L D → T2 a' L D) : ∀ (q : List Nat) (_ : ∀ j ∈ q, eff j = false) (a : Act), lexM P G ops eff z L0 D0 Te q a L D → lexM P G ops eff z L0 D1 T2 q a L D
  | [], _, a, h => hT a h
  | i :: r, hq, a, h => by
    simp only [lexM] at h ⊢
    cases hi : ops[i]? with
    | none => rw [hi] at h; exact h.elim
    | some o =>
      rw [hi] at h
      simp only at h ⊢
      rcases h with ⟨hw, ⟨he, v, hv, hr⟩ | ⟨he, _⟩⟩ | ⟨hw, hr⟩
      · exact .inl ⟨hw, .inl ⟨he, v, fun L D hE w hs => hv L D (hE.trans (Ents.facts hD)) w hs, lexM_q hD hT r (fun j hj => hq j (List.mem_cons_of_mem _ hj)) _ hr⟩⟩
      · rw [hq i (List.mem_cons_self ..)] at he; cases he
      · exact .inr ⟨hw, lexM_q hD hT r (fun j hj => hq j (List.mem_cons_of_mem _ hj)) _ hr⟩
theorem lexU_pick {D0 : List Fact} {e : Nat} {p : OTr} {a : Act} {L : List Chunk} {D : List Fact} : ∀ (t : OTr), (e, p) ∈ t.alts → lexU P G ops eff z L0 Te t D0 a L D → lexM P G ops eff z L0 D0 (fun a' L' D' => (Ents L' D' L0 D' ∧ ∀ m, allD m D' → allD m D0) ∧ lexU P G ops eff z L0 Te p D' a' L' D') [e] a L D
  | .alt e' p' t, hm, h => by
    rcases List.mem_cons.1 hm with hm | hm
    · cases hm; exact h.1
    · exact lexU_pick t hm h.2
  | .leaf _, hm, _ => by cases hm
  | .fork _ _, hm, _ => by cases hm
  | .stop, hm, _ => by cases hm

/-- The check of a tree behind the operations A; F: the operations that are left. -/
def okU (dep : Nat → Nat → Bool) (ops : Array Oper) (eff : Nat → Bool) (z : Nat) : OTr → List Nat → List Nat → Bool
  | .leaf r, _, A => okD.go dep ops eff (A ++ r)
  | .fork pre t, _, A => pre.all (fun j => !eff j) && ((A ++ pre).all (fun j => t.flat.all (apartB ops j)) && (!(A ++ pre).contains z && (t.flat.all (fun i => t.alts.any fun x => Nat.beq x.1 i || dep i x.1) && (okD.go dep ops eff (A ++ pre) && (t.headB ops && okU dep ops eff z t t.flat (A ++ pre))))))
  | .alt e p t, F, A => p.isN && (okD.go dep ops eff (A ++ [e]) && (e != z && (F.all (fun i => (e :: p.flat).contains i) && ((e :: p.flat).all (fun i => F.contains i) && (Nat.beq F.length (p.flat.length + 1) && (ndB (A ++ e :: p.flat) && (okU dep ops eff z p [] A && okU dep ops eff z t F A)))))))
  | .stop, _, _ => true
theorem okU_alt {e : Nat} {p : OTr} {F A : List Nat} : ∀ (t : OTr), okU dep ops eff z t F A = true → (e, p) ∈ t.alts → p.isN = true ∧ ((A ++ [e]).Pairwise fun j i => pairB dep ops eff j i = true) ∧ e ≠ z ∧ (∀ i, i ∈ F ↔ i ∈ e :: p.flat) ∧ F.length = p.flat.length + 1 ∧ (A ++ e :: p.flat).Nodup ∧ okU dep ops eff z p [] A = true
  | .alt e' p' t, h, hm => by
    simp only [okU, Bool.and_eq_true] at h
    obtain ⟨h1, h2, h3, h4, h5, h6, h7, h8, h9⟩ := h
    rcases List.mem_cons.1 hm with hm | hm
    · cases hm
      exact ⟨h1, go_pairwise h2, bne_iff_ne.1 h3, fun i => ⟨fun hi => List.contains_iff_mem.1 (List.all_eq_true.1 h4 i hi), fun hi => List.contains_iff_mem.1 (List.all_eq_true.1 h5 i hi)⟩, Nat.eq_of_beq_eq_true h6, nd_spec h7, h8⟩
    · exact okU_alt t h9 hm
  | .leaf _, _, hm => by cases hm
  | .fork _ _, _, hm => by cases hm
  | .stop, _, hm => by cases hm

/-- What is to be shown of a tree. -/
def MU (P : Program) (G : Ent) (ops : Array Oper) (eff : Nat → Bool) (z : Nat) (L0 : List Chunk) (Te : Act → List Chunk → List Fact → Prop) (dep : Nat → Nat → Bool) (Q' : Exit → Act → World → Prop) (p : OTr) : Prop :=
  ∀ (A : List Nat), okU dep ops eff z p [] A = true → (∀ j ∈ A, eff j = false) → ∀ (D0 : List Fact) (n : Nat) (acc' : List Nat) (listed : Array Bool) (a : Act) (L : List Chunk) (D : List Fact) (w : World), acc'.Sublist A → (acc' ++ p.flat).length = n → (acc' ++ p.flat).Nodup → listed.size = ops.size → (∀ j ∈ acc' ++ p.flat, j < ops.size) → (∀ i, listed.getD i true = false ↔ i ∈ acc' ++ p.flat) → closedL ops listed →
    (z < ops.size → ∀ j ∈ acc' ++ p.flat, j ≠ z → dep z j = true) → lexM P G ops eff z L0 D0 (lexU P G ops eff z L0 Te p D0) acc' a L D → (Ents L D L0 D0 ∨ acc' ++ p.flat = []) → SatW G w L D → wpAny P .any ops Q' n listed a w

theorem any_of_lexU (hdep : DepOK ops dep) (hs : Region.noSelect ops = true) (hed : ∀ i o, ops[i]? = some o → ∀ e ∈ o.after, Region.binds .any e = true → e.on ≠ i ∧ e.on < ops.size) {Q' : Exit → Act → World → Prop} (hQ : ∀ a L D w, Te a L D → SatW G w L D → Q' .normal a w) (p : OTr) :
    (p.isN = true → MU P G ops eff z L0 Te dep Q' p) ∧ ∀ x ∈ p.alts, x.2.isN = true → MU P G ops eff z L0 Te dep Q' x.2 := by
  induction p with
  | leaf r =>
    refine ⟨fun _ => ?_, fun x hx => by cases hx⟩
    intro A hok hA D0 n acc' listed a L D w hsub hlen hnd hsz hlt hr hc hz h hE hw
    exact any_of_lexM hdep hs hed n (acc' ++ r) listed a L D w Q' hQ hlen hsz hr hc ((go_pairwise hok).sublist (hsub.append (List.Sublist.refl _))) hz (lexM_append (fun _ _ _ h => h) acc' a L D h) hE hw
  | stop => exact ⟨fun h => (by cases h), fun x hx => (by cases hx)⟩
  | alt e p t ihp iht =>
    refine ⟨fun h => (by cases h), fun x hx => ?_⟩
    rcases List.mem_cons.1 hx with rfl | hx
    · exact ihp.1
    · exact iht.2 x hx
  | fork pre t ih =>
    refine ⟨fun _ => ?_, fun x hx => by cases hx⟩
    intro A hok hA D0 n acc' listed a L D w hsub hlen hnd hsz hlt hr hc hz h hE hw
    simp only [okU, Bool.and_eq_true] at hok
    obtain ⟨k1, k2, k3, k4, k5, k6, k7⟩ := hok
    have k5 := go_pairwise k5
    have k3 : z ∉ A ++ pre := contains_not (by simpa using k3)
    have hAq : ∀ j ∈ A ++ pre, eff j = false := fun j hj => by
      rcases List.mem_append.1 hj with hj | hj
      · exact hA j hj
      · simpa using List.all_eq_true.1 k1 j hj
    obtain ⟨e1, p1, t1, ht⟩ : ∃ e1 p1 t1, t = .alt e1 p1 t1 := by
      cases t with
      | alt e p t => exact ⟨_, _, _, rfl⟩
      | leaf _ => cases k6
      | fork _ _ => cases k6
      | stop => cases k6
    have hfl1 : t.flat = e1 :: p1.flat := by rw [ht]; rfl
    have k6' : ∀ k ∈ p1.flat, e1 ≠ k ∧ directB ops e1 k = false := by
      rw [ht] at k6
      exact fun k hk => apart_spec (List.all_eq_true.1 k6 k hk)
    have key : ∀ (m : Nat) (q : List Nat) (n : Nat) (listed : Array Bool) (a : Act) (L : List Chunk) (D : List Fact) (w : World), q.length = m → q.Sublist (A ++ pre) → (q ++ t.flat).length = n → (q ++ t.flat).Nodup → listed.size = ops.size → (∀ j ∈ q ++ t.flat, j < ops.size) → (∀ i, listed.getD i true = false ↔ i ∈ q ++ t.flat) → closedL ops listed →
        (z < ops.size → ∀ j ∈ q ++ t.flat, j ≠ z → dep z j = true) → lexM P G ops eff z L0 D0 (lexU P G ops eff z L0 Te t D0) q a L D → Ents L D L0 D0 → SatW G w L D → wpAny P .any ops Q' n listed a w := by
      intro m
      induction m with
      | zero => ?_
      | succ m ihm => ?_
      all_goals
        intro q n listed a L D w hqm hqs hln hdu hsz hlt hr hc hz h hE hw
        obtain ⟨n, rfl⟩ : ∃ n', n = n' + 1 := ⟨q.length + p1.flat.length, by rw [← hln, hfl1]; simp; omega⟩
        have hq3 : ∀ j ∈ q, ∀ k ∈ t.flat, j ≠ k ∧ directB ops j k = false := fun j hj k hk => apart_spec (List.all_eq_true.1 (List.all_eq_true.1 k2 j (hqs.subset hj)) k hk)
        have hpq := k5.sublist hqs
        have hzq : z ∉ q := fun hx => k3 (hqs.subset hx)
        have hqe : ∀ j ∈ q, eff j = false := fun j hj => hAq j (hqs.subset hj)
        -- one of the operations is taken
        have take : ∀ (e : Nat) (pp : OTr), (e, pp) ∈ t.alts → e ∈ Region.ready .any ops listed → wpOp P ops Q' e (wpAny P .any ops Q' n (listed.setIfInBounds e true)) a w := by
          intro e pp hm hi
          obtain ⟨a1, a2, a3, a4, a5, a6, a7⟩ := okU_alt t k7 hm
          have hef : e ∈ t.flat := (a4 e).2 (List.mem_cons_self ..)
          have hlex := lexM_append (fun _ _ _ h => h) q a L D (lexM_q (T2 := fun a L D => lexM P G ops eff z L0 D0 (fun a' L' D' => (Ents L' D' L0 D' ∧ ∀ m, allD m D' → allD m D0) ∧ lexU P G ops eff z L0 Te pp D' a' L' D') [e] a L D) (fun _ h => h) (fun a' ha => lexU_pick t hm ha) q hqe a h)
          obtain ⟨hun, o, ho, hall⟩ := mem_ready.1 hi
          have hcl : clearM ops eff e o (q ++ [e]) := clear_of_pairsX hdep hc ho hall (by simp) (fun j hj => (hr j).2 (by
            rcases List.mem_append.1 hj with hj | hj
            · simp [hj]
            · rw [List.mem_singleton.1 hj]; simp [hef])) ((a2.sublist (hqs.append (List.Sublist.refl [e]))).imp fun {j k} (h : pairB dep ops eff j k = true) (_ : k = e) => h)
          have hst := bubble hs ho (q ++ [e]) a L D w hcl hlex hE hw
          have hnq : e ∉ q := fun hx => (hq3 e hx e hef).1 rfl
          have her : (q ++ [e]).erase e = q := by
            rw [List.erase_append_right _ hnq]; simp
          have hlte : e < listed.size := by
            rcases Nat.lt_or_ge e listed.size with h | h
            · exact h
            · simp [Array.getElem?_eq_none h] at hun
          have her2 : (q ++ e :: pp.flat).erase e = q ++ pp.flat := by
            rw [List.erase_append_right _ hnq, List.erase_cons_head]
          have hpm : ∀ i, i ∈ q ++ t.flat ↔ i ∈ q ++ e :: pp.flat := fun i => by rw [List.mem_append, List.mem_append, a4 i]
          have hndp : (q ++ e :: pp.flat).Nodup := a6.sublist (hqs.append (List.Sublist.refl _))
          have next : ∀ u w', (∃ L' D', SatW G w' L' D' ∧ (Ents L' D' L0 D0 ∨ e = z) ∧ lexM P G ops eff z L0 D0 (fun a' L' D' => (Ents L' D' L0 D' ∧ ∀ m, allD m D' → allD m D0) ∧ lexU P G ops eff z L0 Te pp D' a' L' D') ((q ++ [e]).erase e) (a.put o.dst u) L' D') → wpAny P .any ops Q' n (listed.setIfInBounds e true) (a.put o.dst u) w' := by
            rintro u w' ⟨L', D', hw', _, hl⟩
            rw [her] at hl
            obtain ⟨_, ⟨hE2, hD2⟩, _⟩ := lexM_end q hqe _ _ _ hl
            have hin : ∀ j ∈ q ++ pp.flat, j ∈ q ++ t.flat := fun j hj => (hpm j).2 (by
              rcases List.mem_append.1 hj with hj | hj
              · exact List.mem_append_left _ hj
              · exact List.mem_append_right _ (List.mem_cons_of_mem _ hj))
            refine ih.2 (e, pp) hm a1 (A ++ pre) a7 hAq D' n q _ _ L' D' w' hqs ?_ (hndp.sublist (List.Sublist.append (List.Sublist.refl _) (List.sublist_cons_self _ _))) (by simpa using hsz) (fun j hj => hlt j (hin j hj)) ?_ (closed_step hlte ho hall hc) (fun hzs j hj hjz => hz hzs j (hin j hj) hjz) (lexM_q hD2 (fun a' ha => ha.2) q hqe _ hl) (.inl hE2) hw'
            · have h9 := hln
              rw [List.length_append] at h9 ⊢
              dsimp only
              omega
            · rw [← her2]
              exact listed_step hndp hlte fun k => (hr k).trans (hpm k)
          unfold wpOp
          simp only [ho]
          rcases hst with ⟨hwt, hg⟩ | ⟨hwt, hR⟩
          · rw [if_pos hwt]
            exact .inl (hg.wp next)
          · rw [if_neg (by simp [hwt])]
            exact next _ _ hR
        refine ⟨fun hnil => ?_, fun i hi => ?_⟩
        · exfalso
          cases q with
          | nil => exact first_ready hed hsz (j := e1) (r := p1.flat) (fun i => by rw [hr i, hfl1]; rfl) (fun k hk => (k6' k hk).2) (hlt _ (by rw [hfl1]; simp)) hnil
          | cons j q =>
            refine first_ready hed hsz hr (fun k hk => ?_) (hlt _ (by simp)) hnil
            rcases List.mem_append.1 hk with hk | hk
            · have := (List.pairwise_cons.1 hpq).1 k hk
              simp only [pairB, Bool.and_eq_true, Bool.not_eq_true'] at this
              exact this.1.2
            · exact (hq3 j (by simp) k hk).2
        · obtain ⟨hun, o, ho, hall⟩ := mem_ready.1 hi
          have hm := (hr i).1 hun
          rcases List.mem_append.1 hm with hip | hip
          · have hcl : clearM ops eff i o q := clear_of_pairsX hdep hc ho hall hip (fun j hj => (hr j).2 (by simp [hj])) (hpq.imp fun {j k} (h : pairB dep ops eff j k = true) (_ : k = i) => h)
            have hst := bubble hs ho q a L D w hcl h hE hw
            have hltl : i < listed.size := by
              rcases Nat.lt_or_ge i listed.size with h | h
              · exact h
              · simp [Array.getElem?_eq_none h] at hun
            have her : (q ++ t.flat).erase i = q.erase i ++ t.flat := List.erase_append_left _ hip
            first
              | (exfalso; rw [List.eq_nil_of_length_eq_zero hqm] at hip; cases hip)
              | (have next : ∀ u w', (∃ L' D', SatW G w' L' D' ∧ (Ents L' D' L0 D0 ∨ i = z) ∧ lexM P G ops eff z L0 D0 (lexU P G ops eff z L0 Te t D0) (q.erase i) (a.put o.dst u) L' D') → wpAny P .any ops Q' n (listed.setIfInBounds i true) (a.put o.dst u) w' := by
                  rintro u w' ⟨L', D', hw', hE', hl⟩
                  have hiz : i ≠ z := fun hx => hzq (hx ▸ hip)
                  have hle : (q.erase i).length = m := by rw [List.length_erase_of_mem hip]; omega
                  have hqpos : 0 < q.length := List.length_pos_of_mem hip
                  refine ihm (q.erase i) n _ _ L' D' w' hle (List.erase_sublist.trans hqs) (by have := hln; simp only [List.length_append] at this ⊢; omega) (by rw [← her]; exact hdu.sublist List.erase_sublist) (by simpa using hsz) (fun j hj => hlt j (List.mem_of_mem_erase (show j ∈ (q ++ t.flat).erase i by rw [her]; exact hj))) ?_ (closed_step hltl ho hall hc) (fun hzs j hj hjz => hz hzs j (List.mem_of_mem_erase (show j ∈ (q ++ t.flat).erase i by rw [her]; exact hj)) hjz) hl (hE'.resolve_right hiz) hw'
                  rw [← her]; exact listed_step hdu hltl hr
                 unfold wpOp
                 simp only [ho]
                 rcases hst with ⟨hwt, hg⟩ | ⟨hwt, hR⟩
                 · rw [if_pos hwt]
                   exact .inl (hg.wp next)
                 · rw [if_neg (by simp [hwt])]
                   exact next _ _ hR)
          · obtain ⟨⟨e, pp⟩, hx, hd⟩ := List.any_eq_true.1 (List.all_eq_true.1 k4 i hip)
            rcases Bool.or_eq_true_iff.1 hd with hd | hd
            · have he := Nat.eq_of_beq_eq_true hd
              dsimp only at he
              subst he
              exact take e pp hx hi
            · exfalso
              have := hdep _ hc i e (fun o' ho' => by rw [ho] at ho'; cases ho'; exact hall) hd
              rw [(hr e).2 (List.mem_append_right _ (((okU_alt t k7 hx).2.2.2.1 e).2 (List.mem_cons_self ..)))] at this
              cases this
    have hfl : acc' ++ (OTr.fork pre t).flat = (acc' ++ pre) ++ t.flat := by simp [OTr.flat]
    rw [hfl] at hlen hnd hlt hr hz hE
    exact key _ (acc' ++ pre) n listed a L D w rfl (hsub.append (List.Sublist.refl _)) hlen hnd hsz hlt hr hc hz (lexM_append (fun _ _ _ h => h) acc' a L D h) (hE.resolve_right fun h => by rw [hfl1] at h; simp at h) hw

/-- The check of a whole region. -/
def okUT (A : List Nat) (ops : Array Oper) (eff : Nat → Bool) (z : Nat) (p : OTr) : Bool :=
  p.isN && (Nat.ble A.length ops.size && (masksB A ops && (Region.noSelect ops && (edgesB ops && (p.flat.all (· < ops.size) && ((List.range ops.size).all (p.flat.contains ·) && (ndB p.flat && ((Nat.ble ops.size z || p.flat.all fun j => Nat.beq j z || (A.getD z 0).testBit j)
    && okU (fun i j => (A.getD i 0).testBit j) ops eff z p [] []))))))))

theorem region_of_lexU {A : List Nat} {id : Nat} {p : OTr} {a : Act} {L : List Chunk} {D D0 : List Fact} {w : World} {Q' : Exit → Act → World → Prop} (hm : P.follows .mixedOrders = true) (hB : okUT A ops eff z p = true) (hQ : ∀ a L D w, Te a L D → SatW G w L D → Q' .normal a w)
    (h : lexU P G ops eff z L0 Te p D0 a L D) (hE : Ents L D L0 D0) (hw : SatW G w L D) : (Code.region id ops true).wp P Q' a w := by
  simp only [okUT, Bool.and_eq_true] at hB
  obtain ⟨hN, hA, hmk, hs, hed, hlt, hall, hnd, hz, hok⟩ := hB
  have hnd := nd_spec hnd
  have hperm : p.flat.Perm (List.range ops.size) := by
    rw [List.perm_ext_iff_of_nodup hnd List.nodup_range]
    intro i
    rw [List.mem_range]
    refine ⟨fun hi => by simpa using List.all_eq_true.1 hlt i hi, fun hi => ?_⟩
    have := List.all_eq_true.1 hall i (List.mem_range.2 hi)
    rwa [List.contains_iff_mem] at this
  have hlen : p.flat.length = ops.size := by
    have := hperm.length_eq
    simpa using this
  refine wp_region_any hm ?_
  refine (any_of_lexU (depOK_masks hmk hA) hs (edgesB_spec hed) hQ p).1 hN [] hok (fun j hj => by cases hj) D0 ops.size [] _ a L D _ (List.Sublist.refl _) (by simpa using hlen) (by simpa using hnd) (by simp) (fun j hj => by rw [List.nil_append, hperm.mem_iff, List.mem_range] at hj; exact hj) (fun i => ?_) ?_ ?_ h (.inl hE) (satW_drew hw)
  · rw [List.nil_append, hperm.mem_iff, List.mem_range]
    by_cases hi : i < ops.size
    · simp [hi]
    · simp [hi]
  · intro i o ho hl
    exfalso
    have hi : i < ops.size := (Array.getElem?_eq_some_iff.1 ho).1
    simp [hi] at hl
  · intro hzs j hj hjz
    rw [List.nil_append] at hj
    rcases Bool.or_eq_true_iff.1 hz with hz | hz
    · exact absurd (Nat.le_of_ble_eq_true hz) (by omega)
    · have := List.all_eq_true.1 hz j hj
      rcases Bool.or_eq_true_iff.1 this with h1 | h1
      · exact absurd (Nat.eq_of_beq_eq_true h1) hjz
      · exact h1

/-- Behind a branch the facts are those of the moment. -/
structure GoP (L : List Chunk) (D : List Fact) (L0 : List Chunk) (D0 : List Fact) (A : Prop) : Prop where
  hL : L0.Sublist L
  hD : ∀ m, allD m D → allD m D0
  k : A

/-- The execution along a tree. -/
def vcU (P : Program) (T : Ty) (N : Nat) (ops : List Oper) (eff : List Nat) (z : Nat) (L0 : List Chunk) : OTr → List Fact → Env → List Chunk → List Fact → Nat → Kont → Prop
  | .leaf r, D0, env, L, D, nid, k => vcM P T N ops eff z L0 D0 r env L D nid k
  | .fork pre t, D0, env, L, D, nid, k => vcM P T N ops eff z L0 D0 pre env L D nid fun env' L' D' n' => vcU P T N ops eff z L0 t D0 env' L' D' n' k
  | .alt e p t, D0, env, L, D, nid, k => TwoP (vcM P T N ops eff z L0 D0 [e] env L D nid fun env' L' D' n' => GoP L' D' L0 D0 (vcU P T N ops eff z L0 p D' env' L' D' n' k)) (vcU P T N ops eff z L0 t D0 env L D nid k)
  | .stop, _, _, _, _, _, _ => True

theorem vcU_sound {N : Nat} {T : Ty} (hT : TyOK P T) (ops : List Oper) (eff : List Nat) {k : Kont} {Te : Act → List Chunk → List Fact → Prop} (hQ : ∀ env' L' D' n' a', k env' L' D' n' → EnvOK N env' a' → Te a' L' D') :
    ∀ (p : OTr) (D0 : List Fact) (env : Env) (L : List Chunk) (D : List Fact) (nid : Nat) (a : Act), vcU P T N ops eff z L0 p D0 env L D nid k → EnvOK N env a → lexU P G ops.toArray (fun i => eff.contains i) z L0 Te p D0 a L D
  | .leaf r, D0, env, L, D, nid, a, h, he => vcM_sound hT ops eff hQ r env L D nid a h he
  | .fork pre t, D0, env, L, D, nid, a, h, he => vcM_sound (Te := lexU P G ops.toArray (fun i => eff.contains i) z L0 Te t D0) hT ops eff (fun env' L' D' n' a' hk he' => vcU_sound hT ops eff hQ t D0 env' L' D' n' a' hk he') pre env L D nid a h he
  | .alt e p t, D0, env, L, D, nid, a, h, he =>
    ⟨vcM_sound (Te := fun a' L' D' => (Ents L' D' L0 D' ∧ ∀ m, allD m D' → allD m D0) ∧ lexU P G ops.toArray (fun i => eff.contains i) z L0 Te p D' a' L' D') hT ops eff (fun env' L' D' n' a' hk he' => ⟨⟨Ents.ofSub hk.hL fun _ h => h, hk.hD⟩, vcU_sound hT ops eff hQ p D' env' L' D' n' a' hk.k he'⟩) [e] env L D nid a h.l he,
     vcU_sound hT ops eff hQ t D0 env L D nid a h.r he⟩
  | .stop, _, _, _, _, _, _, _, _ => trivial

/-- A region that draws its order, executed along a tree of orders; behind a branch the quiet operations see the facts of the moment. -/
theorem J_drawU {N : Nat} {env : Env} {T : Ty} (hT : TyOK P T) (hm : P.follows .mixedOrders = true) {id : Nat} {ops : List Oper} {L : List Chunk} {D : List Fact} {nid : Nat} {K : Kt} (A : List Nat) (p : OTr) (eff slots : List Nat) (z : Nat) (b : Bool) (hB : okUT A ops.toArray (fun i => eff.contains i) z p = true)
    (h : vcU P T N ops eff z (keepC b (slotIds env slots) L) p D env L D nid (K .normal)) : J P G N (.region id ops.toArray true) env L D nid K :=
  ⟨fun a w he hs => region_of_lexU (z := z) (Te := fun a' L' D' => ∀ w', SatW G w' L' D' → PostK G N K .normal a' w') hm hB (fun _ _ _ w' h hw => h w' hw)
    (vcU_sound hT ops eff (fun env' L' D' n' a' hk he' w' hs' => ⟨env', L', D', n', hk, he', hs'⟩) p D env L D nid a h he) (Ents.ofSub (keepC_sub _ _ _) fun _ h => h) hs⟩

end Go.X
