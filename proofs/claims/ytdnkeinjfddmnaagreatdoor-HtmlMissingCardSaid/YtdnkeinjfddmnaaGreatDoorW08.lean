/- This text proves, for any program, that a region that draws its order may be executed along a tree of orders: where two operations that work on memory stand in no order, both ways are looked at. No condition. · This text proves, for any program, that a region that draws its order may be executed along a tree of orders in which the quiet operations behind a branch see the facts that the branch's operation has made. No condition. · This text walks through the functions that make documents from a tape: what they make is some document of bounded size. -/
import Derived.Test.YtdnkeinjfddmnaaGreatDoorW04
import Derived.Test.YtdnkeinjfddmnaaGreatDoorW06
import Derived.Test.YtdnkeinjfddmnaaGreatDoorW07
set_option linter.all false
namespace Go.X
open Go
variable [Sm : Inhabited Manner] [Df : Inhabited (List Deferred)]
variable {P : Program} {G : Ent} {ops : Array Oper} {eff : Nat → Bool} {z : Nat} {L0 : List Chunk} {D0 : List Fact} {Te : Act → List Chunk → List Fact → Prop} {dep : Nat → Nat → Bool}
inductive Plan where
  | leaf (r : List Nat)
  | node (pre : List Nat) (e1 : Nat) (p1 : Plan) (e2 : Nat) (p2 : Plan)
  | node3 (pre : List Nat) (e1 : Nat) (p1 : Plan) (e2 : Nat) (p2 : Plan) (e3 : Nat) (p3 : Plan)
def Plan.flat : Plan → List Nat
  | .leaf r => r
  | .node pre e1 p1 _ _ => pre ++ e1 :: p1.flat
  | .node3 pre e1 p1 _ _ _ _ => pre ++ e1 :: p1.flat
def ndB : List Nat → Bool
  | [] => true
  | x :: r => !r.contains x && ndB r
theorem nd_spec : ∀ {l : List Nat}, ndB l = true → l.Nodup
  | [], _ => .nil
  | x :: r, h => by
    simp only [ndB, Bool.and_eq_true, Bool.not_eq_true'] at h
    exact List.nodup_cons.2 ⟨contains_not h.1, nd_spec h.2⟩
def apartB (ops : Array Oper) (j k : Nat) : Bool := j != k && !directB ops j k
theorem apart_spec {j k : Nat} (h : apartB ops j k = true) : j ≠ k ∧ directB ops j k = false := by
  simp only [apartB, Bool.and_eq_true, bne_iff_ne, Bool.not_eq_true'] at h; exact h
end Go.X
namespace Go.X
open Go
variable [Sm : Inhabited Manner] [Df : Inhabited (List Deferred)]
variable {P : Program} {G : Ent} {ops : Array Oper} {eff : Nat → Bool} {z : Nat} {L0 : List Chunk} {Te : Act → List Chunk → List Fact → Prop} {dep : Nat → Nat → Bool}
inductive OTr where
  | leaf (r : List Nat)
  | fork (pre : List Nat) (t : OTr)
  | alt (e : Nat) (p : OTr) (t : OTr)
  | stop
def OTr.flat : OTr → List Nat
  | .leaf r => r
  | .fork pre t => pre ++ t.flat
  | .alt e p _ => e :: p.flat
  | .stop => []
def OTr.alts : OTr → List (Nat × OTr)
  | .alt e p t => (e, p) :: t.alts
  | _ => []
def OTr.isN : OTr → Bool
  | .leaf _ => true
  | .fork _ _ => true
  | _ => false
def OTr.headB (ops : Array Oper) : OTr → Bool
  | .alt e p _ => p.flat.all (apartB ops e)
  | _ => false
def lexU (P : Program) (G : Ent) (ops : Array Oper) (eff : Nat → Bool) (z : Nat) (L0 : List Chunk) (Te : Act → List Chunk → List Fact → Prop) : OTr → List Fact → Act → List Chunk → List Fact → Prop
  | .leaf r, D0, a, L, D => lexM P G ops eff z L0 D0 Te r a L D
  | .fork pre t, D0, a, L, D => lexM P G ops eff z L0 D0 (lexU P G ops eff z L0 Te t D0) pre a L D
  | .alt e p t, D0, a, L, D => lexM P G ops eff z L0 D0 (fun a' L' D' => (Ents L' D' L0 D' ∧ ∀ m, allD m D' → allD m D0) ∧ lexU P G ops eff z L0 Te p D' a' L' D') [e] a L D ∧ lexU P G ops eff z L0 Te t D0 a L D
  | .stop, _, _, _, _ => True
theorem lexM_end {D0 : List Fact} : ∀ (q : List Nat) (_ : ∀ j ∈ q, eff j = false) (a : Act) (L : List Chunk) (D : List Fact), lexM P G ops eff z L0 D0 Te q a L D → ∃ a', Te a' L D
  | [], _, a, _, _, h => ⟨a, h⟩
  | i :: r, hq, a, L, D, h => by
    simp only [lexM] at h
    cases hi : ops[i]? with
    | none => rw [hi] at h; exact h.elim
    | some o =>
      rw [hi] at h
      rcases h with ⟨_, ⟨_, v, _, hr⟩ | ⟨he, _⟩⟩ | ⟨_, hr⟩
      · exact lexM_end r (fun j hj => hq j (List.mem_cons_of_mem _ hj)) _ L D hr
      · rw [hq i (List.mem_cons_self ..)] at he; cases he
      · exact lexM_end r (fun j hj => hq j (List.mem_cons_of_mem _ hj)) _ L D hr
theorem lexM_q {T2 : Act → List Chunk → List Fact → Prop} {D0 D1 : List Fact} {L : List Chunk} {D : List Fact} (hD : ∀ m, allD m D1 → allD m D0) (hT : ∀ a', Te a' L D → T2 a' L D) : ∀ (q : List Nat) (_ : ∀ j ∈ q, eff j = false) (a : Act), lexM P G ops eff z L0 D0 Te q a L D → lexM P G ops eff z L0 D1 T2 q a L D
  | [], _, a, h => hT a h
  | i :: r, hq, a, h => by
    simp only [lexM] at h ⊢
    cases hi : ops[i]? with
    | none => rw [hi] at h; exact h.elim
    | some o =>
      rw [hi] at h
      simp only at h ⊢
      rcases h with ⟨hw, ⟨he, v, hv, hr⟩ | ⟨he, _⟩⟩ | ⟨hw, hr⟩
      · exact .inl ⟨hw, .inl ⟨he, v, fun L D hE w hs => hv L D (hE.trans (Ents.facts hD)) w hs, lexM_q hD hT r (fun j hj => hq j (List.mem_cons_of_mem _ hj)) _ hr⟩⟩
      · rw [hq i (List.mem_cons_self ..)] at he; cases he
      · exact .inr ⟨hw, lexM_q hD hT r (fun j hj => hq j (List.mem_cons_of_mem _ hj)) _ hr⟩
theorem lexU_pick {D0 : List Fact} {e : Nat} {p : OTr} {a : Act} {L : List Chunk} {D : List Fact} : ∀ (t : OTr), (e, p) ∈ t.alts → lexU P G ops eff z L0 Te t D0 a L D → lexM P G ops eff z L0 D0 (fun a' L' D' => (Ents L' D' L0 D' ∧ ∀ m, allD m D' → allD m D0) ∧ lexU P G ops eff z L0 Te p D' a' L' D') [e] a L D
  | .alt e' p' t, hm, h => by
    rcases List.mem_cons.1 hm with hm | hm
    · cases hm; exact h.1
    · exact lexU_pick t hm h.2
  | .leaf _, hm, _ => by cases hm
  | .fork _ _, hm, _ => by cases hm
  | .stop, hm, _ => by cases hm
def okU (dep : Nat → Nat → Bool) (ops : Array Oper) (eff : Nat → Bool) (z : Nat) : OTr → List Nat → List Nat → Bool
  | .leaf r, _, A => okD.go dep ops eff (A ++ r)
  | .fork pre t, _, A => pre.all (fun j => !eff j) && ((A ++ pre).all (fun j => t.flat.all (apartB ops j)) && (!(A ++ pre).contains z && (t.flat.all (fun i => t.alts.any fun x => Nat.beq x.1 i || dep i x.1) && (okD.go dep ops eff (A ++ pre) && (t.headB ops && okU dep ops eff z t t.flat (A ++ pre))))))
  | .alt e p t, F, A => p.isN && (okD.go dep ops eff (A ++ [e]) && (e != z && (F.all (fun i => (e :: p.flat).contains i) && ((e :: p.flat).all (fun i => F.contains i) && (Nat.beq F.length (p.flat.length + 1) && (ndB (A ++ e :: p.flat) && (okU dep ops eff z p [] A && okU dep ops eff z t F A)))))))
  | .stop, _, _ => true
theorem okU_alt {e : Nat} {p : OTr} {F A : List Nat} : ∀ (t : OTr), okU dep ops eff z t F A = true → (e, p) ∈ t.alts → p.isN = true ∧ ((A ++ [e]).Pairwise fun j i => pairB dep ops eff j i = true) ∧ e ≠ z ∧ (∀ i, i ∈ F ↔ i ∈ e :: p.flat) ∧ F.length = p.flat.length + 1 ∧ (A ++ e :: p.flat).Nodup ∧ okU dep ops eff z p [] A = true
  | .alt e' p' t, h, hm => by
    simp only [okU, Bool.and_eq_true] at h
    obtain ⟨h1, h2, h3, h4, h5, h6, h7, h8, h9⟩ := h
    rcases List.mem_cons.1 hm with hm | hm
    · cases hm
      exact ⟨h1, go_pairwise h2, bne_iff_ne.1 h3, fun i => ⟨fun hi => List.contains_iff_mem.1 (List.all_eq_true.1 h4 i hi), fun hi => List.contains_iff_mem.1 (List.all_eq_true.1 h5 i hi)⟩, Nat.eq_of_beq_eq_true h6, nd_spec h7, h8⟩
    · exact okU_alt t h9 hm
  | .leaf _, _, hm => by cases hm
  | .fork _ _, _, hm => by cases hm
  | .stop, _, hm => by cases hm
def MU (P : Program) (G : Ent) (ops : Array Oper) (eff : Nat → Bool) (z : Nat) (L0 : List Chunk) (Te : Act → List Chunk → List Fact → Prop) (dep : Nat → Nat → Bool) (Q' : Exit → Act → World → Prop) (p : OTr) : Prop :=
  ∀ (A : List Nat), okU dep ops eff z p [] A = true → (∀ j ∈ A, eff j = false) → ∀ (D0 : List Fact) (n : Nat) (acc' : List Nat) (listed : Array Bool) (a : Act) (L : List Chunk) (D : List Fact) (w : World), acc'.Sublist A → (acc' ++ p.flat).length = n → (acc' ++ p.flat).Nodup → listed.size = ops.size → (∀ j ∈ acc' ++ p.flat, j < ops.size) → (∀ i, listed.getD i true = false ↔ i ∈ acc' ++ p.flat) → closedL ops listed →
    (z < ops.size → ∀ j ∈ acc' ++ p.flat, j ≠ z → dep z j = true) → lexM P G ops eff z L0 D0 (lexU P G ops eff z L0 Te p D0) acc' a L D → (Ents L D L0 D0 ∨ acc' ++ p.flat = []) → SatW G w L D → wpAny P .any ops Q' n listed a w
theorem any_of_lexU (hdep : DepOK ops dep) (hs : Region.noSelect ops = true) (hed : ∀ i o, ops[i]? = some o → ∀ e ∈ o.after, Region.binds .any e = true → e.on ≠ i ∧ e.on < ops.size) {Q' : Exit → Act → World → Prop} (hQ : ∀ a L D w, Te a L D → SatW G w L D → Q' .normal a w) (p : OTr) :
    (p.isN = true → MU P G ops eff z L0 Te dep Q' p) ∧ ∀ x ∈ p.alts, x.2.isN = true → MU P G ops eff z L0 Te dep Q' x.2 := by
  induction p with
  | leaf r =>
    refine ⟨fun _ => ?_, fun x hx => by cases hx⟩
    intro A hok hA D0 n acc' listed a L D w hsub hlen hnd hsz hlt hr hc hz h hE hw
    exact any_of_lexM hdep hs hed n (acc' ++ r) listed a L D w Q' hQ hlen hsz hr hc ((go_pairwise hok).sublist (hsub.append (List.Sublist.refl _))) hz (lexM_append (fun _ _ _ h => h) acc' a L D h) hE hw
  | stop => exact ⟨fun h => (by cases h), fun x hx => (by cases hx)⟩
  | alt e p t ihp iht =>
    refine ⟨fun h => (by cases h), fun x hx => ?_⟩
    rcases List.mem_cons.1 hx with rfl | hx
    · exact ihp.1
    · exact iht.2 x hx
  | fork pre t ih =>
    refine ⟨fun _ => ?_, fun x hx => by cases hx⟩
    intro A hok hA D0 n acc' listed a L D w hsub hlen hnd hsz hlt hr hc hz h hE hw
    simp only [okU, Bool.and_eq_true] at hok
    obtain ⟨k1, k2, k3, k4, k5, k6, k7⟩ := hok
    have k5 := go_pairwise k5
    have k3 : z ∉ A ++ pre := contains_not (by simpa using k3)
    have hAq : ∀ j ∈ A ++ pre, eff j = false := fun j hj => by
      rcases List.mem_append.1 hj with hj | hj
      · exact hA j hj
      · simpa using List.all_eq_true.1 k1 j hj
    obtain ⟨e1, p1, t1, ht⟩ : ∃ e1 p1 t1, t = .alt e1 p1 t1 := by
      cases t with
      | alt e p t => exact ⟨_, _, _, rfl⟩
      | leaf _ => cases k6
      | fork _ _ => cases k6
      | stop => cases k6
    have hfl1 : t.flat = e1 :: p1.flat := by rw [ht]; rfl
    have k6' : ∀ k ∈ p1.flat, e1 ≠ k ∧ directB ops e1 k = false := by
      rw [ht] at k6
      exact fun k hk => apart_spec (List.all_eq_true.1 k6 k hk)
    have key : ∀ (m : Nat) (q : List Nat) (n : Nat) (listed : Array Bool) (a : Act) (L : List Chunk) (D : List Fact) (w : World), q.length = m → q.Sublist (A ++ pre) → (q ++ t.flat).length = n → (q ++ t.flat).Nodup → listed.size = ops.size → (∀ j ∈ q ++ t.flat, j < ops.size) → (∀ i, listed.getD i true = false ↔ i ∈ q ++ t.flat) → closedL ops listed →
        (z < ops.size → ∀ j ∈ q ++ t.flat, j ≠ z → dep z j = true) → lexM P G ops eff z L0 D0 (lexU P G ops eff z L0 Te t D0) q a L D → Ents L D L0 D0 → SatW G w L D → wpAny P .any ops Q' n listed a w := by
      intro m
      induction m with
      | zero => ?_
      | succ m ihm => ?_
      all_goals
        intro q n listed a L D w hqm hqs hln hdu hsz hlt hr hc hz h hE hw
        obtain ⟨n, rfl⟩ : ∃ n', n = n' + 1 := ⟨q.length + p1.flat.length, by rw [← hln, hfl1]; simp; omega⟩
        have hq3 : ∀ j ∈ q, ∀ k ∈ t.flat, j ≠ k ∧ directB ops j k = false := fun j hj k hk => apart_spec (List.all_eq_true.1 (List.all_eq_true.1 k2 j (hqs.subset hj)) k hk)
        have hpq := k5.sublist hqs
        have hzq : z ∉ q := fun hx => k3 (hqs.subset hx)
        have hqe : ∀ j ∈ q, eff j = false := fun j hj => hAq j (hqs.subset hj)
        -- one of the operations is taken
        have take : ∀ (e : Nat) (pp : OTr), (e, pp) ∈ t.alts → e ∈ Region.ready .any ops listed → wpOp P ops Q' e (wpAny P .any ops Q' n (listed.setIfInBounds e true)) a w := by
          intro e pp hm hi
          obtain ⟨a1, a2, a3, a4, a5, a6, a7⟩ := okU_alt t k7 hm
          have hef : e ∈ t.flat := (a4 e).2 (List.mem_cons_self ..)
          have hlex := lexM_append (fun _ _ _ h => h) q a L D (lexM_q (T2 := fun a L D => lexM P G ops eff z L0 D0 (fun a' L' D' => (Ents L' D' L0 D' ∧ ∀ m, allD m D' → allD m D0) ∧ lexU P G ops eff z L0 Te pp D' a' L' D') [e] a L D) (fun _ h => h) (fun a' ha => lexU_pick t hm ha) q hqe a h)
          obtain ⟨hun, o, ho, hall⟩ := mem_ready.1 hi
          have hcl : clearM ops eff e o (q ++ [e]) := clear_of_pairsX hdep hc ho hall (by simp) (fun j hj => (hr j).2 (by
            rcases List.mem_append.1 hj with hj | hj
            · simp [hj]
            · rw [List.mem_singleton.1 hj]; simp [hef])) ((a2.sublist (hqs.append (List.Sublist.refl [e]))).imp fun {j k} (h : pairB dep ops eff j k = true) (_ : k = e) => h)
          have hst := bubble hs ho (q ++ [e]) a L D w hcl hlex hE hw
          have hnq : e ∉ q := fun hx => (hq3 e hx e hef).1 rfl
          have her : (q ++ [e]).erase e = q := by
            rw [List.erase_append_right _ hnq]; simp
          have hlte : e < listed.size := by
            rcases Nat.lt_or_ge e listed.size with h | h
            · exact h
            · simp [Array.getElem?_eq_none h] at hun
          have her2 : (q ++ e :: pp.flat).erase e = q ++ pp.flat := by
            rw [List.erase_append_right _ hnq, List.erase_cons_head]
          have hpm : ∀ i, i ∈ q ++ t.flat ↔ i ∈ q ++ e :: pp.flat := fun i => by rw [List.mem_append, List.mem_append, a4 i]
          have hndp : (q ++ e :: pp.flat).Nodup := a6.sublist (hqs.append (List.Sublist.refl _))
          have next : ∀ u w', (∃ L' D', SatW G w' L' D' ∧ (Ents L' D' L0 D0 ∨ e = z) ∧ lexM P G ops eff z L0 D0 (fun a' L' D' => (Ents L' D' L0 D' ∧ ∀ m, allD m D' → allD m D0) ∧ lexU P G ops eff z L0 Te pp D' a' L' D') ((q ++ [e]).erase e) (a.put o.dst u) L' D') → wpAny P .any ops Q' n (listed.setIfInBounds e true) (a.put o.dst u) w' := by
            rintro u w' ⟨L', D', hw', _, hl⟩
            rw [her] at hl
            obtain ⟨_, ⟨hE2, hD2⟩, _⟩ := lexM_end q hqe _ _ _ hl
            have hin : ∀ j ∈ q ++ pp.flat, j ∈ q ++ t.flat := fun j hj => (hpm j).2 (by
              rcases List.mem_append.1 hj with hj | hj
              · exact List.mem_append_left _ hj
              · exact List.mem_append_right _ (List.mem_cons_of_mem _ hj))
            refine ih.2 (e, pp) hm a1 (A ++ pre) a7 hAq D' n q _ _ L' D' w' hqs ?_ (hndp.sublist (List.Sublist.append (List.Sublist.refl _) (List.sublist_cons_self _ _))) (by simpa using hsz) (fun j hj => hlt j (hin j hj)) ?_ (closed_step hlte ho hall hc) (fun hzs j hj hjz => hz hzs j (hin j hj) hjz) (lexM_q hD2 (fun a' ha => ha.2) q hqe _ hl) (.inl hE2) hw'
            · have h9 := hln
              rw [List.length_append] at h9 ⊢
              dsimp only
              omega
            · rw [← her2]
              exact listed_step hndp hlte fun k => (hr k).trans (hpm k)
          unfold wpOp
          simp only [ho]
          rcases hst with ⟨hwt, hg⟩ | ⟨hwt, hR⟩
          · rw [if_pos hwt]
            exact .inl (hg.wp next)
          · rw [if_neg (by simp [hwt])]
            exact next _ _ hR
        refine ⟨fun hnil => ?_, fun i hi => ?_⟩
        · exfalso
          cases q with
          | nil => exact first_ready hed hsz (j := e1) (r := p1.flat) (fun i => by rw [hr i, hfl1]; rfl) (fun k hk => (k6' k hk).2) (hlt _ (by rw [hfl1]; simp)) hnil
          | cons j q =>
            refine first_ready hed hsz hr (fun k hk => ?_) (hlt _ (by simp)) hnil
            rcases List.mem_append.1 hk with hk | hk
            · have := (List.pairwise_cons.1 hpq).1 k hk
              simp only [pairB, Bool.and_eq_true, Bool.not_eq_true'] at this
              exact this.1.2
            · exact (hq3 j (by simp) k hk).2
        · obtain ⟨hun, o, ho, hall⟩ := mem_ready.1 hi
          have hm := (hr i).1 hun
          rcases List.mem_append.1 hm with hip | hip
          · have hcl : clearM ops eff i o q := clear_of_pairsX hdep hc ho hall hip (fun j hj => (hr j).2 (by simp [hj])) (hpq.imp fun {j k} (h : pairB dep ops eff j k = true) (_ : k = i) => h)
            have hst := bubble hs ho q a L D w hcl h hE hw
            have hltl : i < listed.size := by
              rcases Nat.lt_or_ge i listed.size with h | h
              · exact h
              · simp [Array.getElem?_eq_none h] at hun
            have her : (q ++ t.flat).erase i = q.erase i ++ t.flat := List.erase_append_left _ hip
            first
              | (exfalso; rw [List.eq_nil_of_length_eq_zero hqm] at hip; cases hip)
              | (have next : ∀ u w', (∃ L' D', SatW G w' L' D' ∧ (Ents L' D' L0 D0 ∨ i = z) ∧ lexM P G ops eff z L0 D0 (lexU P G ops eff z L0 Te t D0) (q.erase i) (a.put o.dst u) L' D') → wpAny P .any ops Q' n (listed.setIfInBounds i true) (a.put o.dst u) w' := by
                  rintro u w' ⟨L', D', hw', hE', hl⟩
                  have hiz : i ≠ z := fun hx => hzq (hx ▸ hip)
                  have hle : (q.erase i).length = m := by rw [List.length_erase_of_mem hip]; omega
                  have hqpos : 0 < q.length := List.length_pos_of_mem hip
                  refine ihm (q.erase i) n _ _ L' D' w' hle (List.erase_sublist.trans hqs) (by have := hln; simp only [List.length_append] at this ⊢; omega) (by rw [← her]; exact hdu.sublist List.erase_sublist) (by simpa using hsz) (fun j hj => hlt j (List.mem_of_mem_erase (show j ∈ (q ++ t.flat).erase i by rw [her]; exact hj))) ?_ (closed_step hltl ho hall hc) (fun hzs j hj hjz => hz hzs j (List.mem_of_mem_erase (show j ∈ (q ++ t.flat).erase i by rw [her]; exact hj)) hjz) hl (hE'.resolve_right hiz) hw'
                  rw [← her]; exact listed_step hdu hltl hr
                 unfold wpOp
                 simp only [ho]
                 rcases hst with ⟨hwt, hg⟩ | ⟨hwt, hR⟩
                 · rw [if_pos hwt]
                   exact .inl (hg.wp next)
                 · rw [if_neg (by simp [hwt])]
                   exact next _ _ hR)
          · obtain ⟨⟨e, pp⟩, hx, hd⟩ := List.any_eq_true.1 (List.all_eq_true.1 k4 i hip)
            rcases Bool.or_eq_true_iff.1 hd with hd | hd
            · have he := Nat.eq_of_beq_eq_true hd
              dsimp only at he
              subst he
              exact take e pp hx hi
            · exfalso
              have := hdep _ hc i e (fun o' ho' => by rw [ho] at ho'; cases ho'; exact hall) hd
              rw [(hr e).2 (List.mem_append_right _ (((okU_alt t k7 hx).2.2.2.1 e).2 (List.mem_cons_self ..)))] at this
              cases this
    have hfl : acc' ++ (OTr.fork pre t).flat = (acc' ++ pre) ++ t.flat := by simp [OTr.flat]
    rw [hfl] at hlen hnd hlt hr hz hE
    exact key _ (acc' ++ pre) n listed a L D w rfl (hsub.append (List.Sublist.refl _)) hlen hnd hsz hlt hr hc hz (lexM_append (fun _ _ _ h => h) acc' a L D h) (hE.resolve_right fun h => by rw [hfl1] at h; simp at h) hw
def okUT (A : List Nat) (ops : Array Oper) (eff : Nat → Bool) (z : Nat) (p : OTr) : Bool :=
  p.isN && (Nat.ble A.length ops.size && (masksB A ops && (Region.noSelect ops && (edgesB ops && (p.flat.all (· < ops.size) && ((List.range ops.size).all (p.flat.contains ·) && (ndB p.flat && ((Nat.ble ops.size z || p.flat.all fun j => Nat.beq j z || (A.getD z 0).testBit j)
    && okU (fun i j => (A.getD i 0).testBit j) ops eff z p [] []))))))))
theorem region_of_lexU {A : List Nat} {id : Nat} {p : OTr} {a : Act} {L : List Chunk} {D D0 : List Fact} {w : World} {Q' : Exit → Act → World → Prop} (hm : P.follows .mixedOrders = true) (hB : okUT A ops eff z p = true) (hQ : ∀ a L D w, Te a L D → SatW G w L D → Q' .normal a w)
    (h : lexU P G ops eff z L0 Te p D0 a L D) (hE : Ents L D L0 D0) (hw : SatW G w L D) : (Code.region id ops true).wp P Q' a w := by
  simp only [okUT, Bool.and_eq_true] at hB
  obtain ⟨hN, hA, hmk, hs, hed, hlt, hall, hnd, hz, hok⟩ := hB
  have hnd := nd_spec hnd
  have hperm : p.flat.Perm (List.range ops.size) := by
    rw [List.perm_ext_iff_of_nodup hnd List.nodup_range]
    intro i
    rw [List.mem_range]
    refine ⟨fun hi => by simpa using List.all_eq_true.1 hlt i hi, fun hi => ?_⟩
    have := List.all_eq_true.1 hall i (List.mem_range.2 hi)
    rwa [List.contains_iff_mem] at this
  have hlen : p.flat.length = ops.size := by
    have := hperm.length_eq
    simpa using this
  refine wp_region_any hm ?_
  refine (any_of_lexU (depOK_masks hmk hA) hs (edgesB_spec hed) hQ p).1 hN [] hok (fun j hj => by cases hj) D0 ops.size [] _ a L D _ (List.Sublist.refl _) (by simpa using hlen) (by simpa using hnd) (by simp) (fun j hj => by rw [List.nil_append, hperm.mem_iff, List.mem_range] at hj; exact hj) (fun i => ?_) ?_ ?_ h (.inl hE) (satW_drew hw)
  · rw [List.nil_append, hperm.mem_iff, List.mem_range]
    by_cases hi : i < ops.size
    · simp [hi]
    · simp [hi]
  · intro i o ho hl
    exfalso
    have hi : i < ops.size := (Array.getElem?_eq_some_iff.1 ho).1
    simp [hi] at hl
  · intro hzs j hj hjz
    rw [List.nil_append] at hj
    rcases Bool.or_eq_true_iff.1 hz with hz | hz
    · exact absurd (Nat.le_of_ble_eq_true hz) (by omega)
    · have := List.all_eq_true.1 hz j hj
      rcases Bool.or_eq_true_iff.1 this with h1 | h1
      · exact absurd (Nat.eq_of_beq_eq_true h1) hjz
      · exact h1
structure GoP (L : List Chunk) (D : List Fact) (L0 : List Chunk) (D0 : List Fact) (A : Prop) : Prop where
  hL : L0.Sublist L
  hD : ∀ m, allD m D → allD m D0
  k : A
def vcU (P : Program) (T : Ty) (N : Nat) (ops : List Oper) (eff : List Nat) (z : Nat) (L0 : List Chunk) : OTr → List Fact → Env → List Chunk → List Fact → Nat → Kont → Prop
  | .leaf r, D0, env, L, D, nid, k => vcM P T N ops eff z L0 D0 r env L D nid k
  | .fork pre t, D0, env, L, D, nid, k => vcM P T N ops eff z L0 D0 pre env L D nid fun env' L' D' n' => vcU P T N ops eff z L0 t D0 env' L' D' n' k
  | .alt e p t, D0, env, L, D, nid, k => TwoP (vcM P T N ops eff z L0 D0 [e] env L D nid fun env' L' D' n' => GoP L' D' L0 D0 (vcU P T N ops eff z L0 p D' env' L' D' n' k)) (vcU P T N ops eff z L0 t D0 env L D nid k)
  | .stop, _, _, _, _, _, _ => True
theorem vcU_sound {N : Nat} {T : Ty} (hT : TyOK P T) (ops : List Oper) (eff : List Nat) {k : Kont} {Te : Act → List Chunk → List Fact → Prop} (hQ : ∀ env' L' D' n' a', k env' L' D' n' → EnvOK N env' a' → Te a' L' D') :
    ∀ (p : OTr) (D0 : List Fact) (env : Env) (L : List Chunk) (D : List Fact) (nid : Nat) (a : Act), vcU P T N ops eff z L0 p D0 env L D nid k → EnvOK N env a → lexU P G ops.toArray (fun i => eff.contains i) z L0 Te p D0 a L D
  | .leaf r, D0, env, L, D, nid, a, h, he => vcM_sound hT ops eff hQ r env L D nid a h he
  | .fork pre t, D0, env, L, D, nid, a, h, he => vcM_sound (Te := lexU P G ops.toArray (fun i => eff.contains i) z L0 Te t D0) hT ops eff (fun env' L' D' n' a' hk he' => vcU_sound hT ops eff hQ t D0 env' L' D' n' a' hk he') pre env L D nid a h he
  | .alt e p t, D0, env, L, D, nid, a, h, he =>
    ⟨vcM_sound (Te := fun a' L' D' => (Ents L' D' L0 D' ∧ ∀ m, allD m D' → allD m D0) ∧ lexU P G ops.toArray (fun i => eff.contains i) z L0 Te p D' a' L' D') hT ops eff (fun env' L' D' n' a' hk he' => ⟨⟨Ents.ofSub hk.hL fun _ h => h, hk.hD⟩, vcU_sound hT ops eff hQ p D' env' L' D' n' a' hk.k he'⟩) [e] env L D nid a h.l he,
     vcU_sound hT ops eff hQ t D0 env L D nid a h.r he⟩
  | .stop, _, _, _, _, _, _, _, _ => trivial
theorem J_drawU {N : Nat} {env : Env} {T : Ty} (hT : TyOK P T) (hm : P.follows .mixedOrders = true) {id : Nat} {ops : List Oper} {L : List Chunk} {D : List Fact} {nid : Nat} {K : Kt} (A : List Nat) (p : OTr) (eff slots : List Nat) (z : Nat) (b : Bool) (hB : okUT A ops.toArray (fun i => eff.contains i) z p = true)
    (h : vcU P T N ops eff z (keepC b (slotIds env slots) L) p D env L D nid (K .normal)) : J P G N (.region id ops.toArray true) env L D nid K :=
  ⟨fun a w he hs => region_of_lexU (z := z) (Te := fun a' L' D' => ∀ w', SatW G w' L' D' → PostK G N K .normal a' w') hm hB (fun _ _ _ w' h hw => h w' hw)
    (vcU_sound hT ops eff (fun env' L' D' n' a' hk he' w' hs' => ⟨env', L', D', n', hk, he', hs'⟩) p D env L D nid a h he) (Ents.ofSub (keepC_sub _ _ _) fun _ h => h) hs⟩
end Go.X
namespace Go.Proofs
open Go Go.X
set_option maxRecDepth 100000
mutual
def Inl.bulk : Inl → Nat
  | .mk _ t _ n a _ _ kids => 1 + t.length + n.length + a.length + inlBulk kids
def inlBulk : List Inl → Nat
  | [] => 0
  | x :: r => x.bulk + inlBulk r
end
mutual
def Blk.bulk : Blk → Nat
  | .mk _ _ t _ _ inl _ _ kids => 1 + t.length + inlBulk inl + blkBulk kids
def blkBulk : List Blk → Nat
  | [] => 0
  | x :: r => x.bulk + blkBulk r
end
mutual
def Blk.fit : Blk → Prop
  | .mk _ v _ _ _ _ _ _ kids => inR .i64 v ∧ blkFit kids
def blkFit : List Blk → Prop
  | [] => True
  | x :: r => x.fit ∧ blkFit r
end
theorem inlBulk_append : ∀ (l k : List Inl), inlBulk (l ++ k) = inlBulk l + inlBulk k
  | [], k => by simp [inlBulk]
  | x :: r, k => by simp only [List.cons_append, inlBulk, inlBulk_append r k]; omega
theorem blkBulk_append : ∀ (l k : List Blk), blkBulk (l ++ k) = blkBulk l + blkBulk k
  | [], k => by simp [blkBulk]
  | x :: r, k => by simp only [List.cons_append, blkBulk, blkBulk_append r k]; omega
theorem blkFit_append : ∀ (l k : List Blk), blkFit (l ++ k) ↔ blkFit l ∧ blkFit k
  | [], k => by simp [blkFit]
  | x :: r, k => by simp only [List.cons_append, blkFit, blkFit_append r k, and_assoc]
mutual
theorem Inl.nodes_bulk : ∀ x : Inl, x.nodes ≤ x.bulk
  | .mk _ _ _ _ _ _ _ kids => by
    have := inlNodes_bulk kids
    rw [Inl.nodes, Inl.bulk]; omega
theorem inlNodes_bulk : ∀ l : List Inl, inlNodes l ≤ inlBulk l
  | [] => Nat.le_refl _
  | x :: r => by
    have h1 := Inl.nodes_bulk x
    have h2 := inlNodes_bulk r
    rw [inlNodes, inlBulk]; omega
end
mutual
theorem Blk.nodes_bulk : ∀ x : Blk, x.nodes ≤ x.bulk
  | .mk _ _ _ _ _ inl _ _ kids => by
    have h1 := inlNodes_bulk inl
    have h2 := blkNodes_bulk kids
    rw [Blk.nodes, Blk.bulk]; omega
theorem blkNodes_bulk : ∀ l : List Blk, blkNodes l ≤ blkBulk l
  | [] => Nat.le_refl _
  | x :: r => by
    have h1 := Blk.nodes_bulk x
    have h2 := blkNodes_bulk r
    rw [blkNodes, blkBulk]; omega
end
def inlsF (l : List Inl) : Fact := ⟨fun m => inlsLie m l, fun _ _ hm h => inlsLie_mono hm l h⟩
def blksF (l : List Blk) : Fact := ⟨fun m => blksLie m l, fun _ _ hm h => blksLie_mono hm l h⟩
abbrev tapeF (e : Nat) (a : Option Addr) (l : List Int) : Fact := slFact e 1 a l.length (l.map (C.i .i64))
theorem nextE (e : Nat) (a : Option Addr) (c ad at_ : Nat) (l : List Int) (n : Int) (hn : 0 < n) (hat : at_ ≤ l.length) (hl : l.length ≤ maxLen) : FnS Tryz.prog 35 [.c (.p 1000 ad 0), .c (.i .i64 n)] [tapeC ad a l.length c at_] [tapeF e a l]
    (fun v L D => ∃ k q, 0 ≤ k ∧ k < n ∧ q ≤ l.length ∧ v = .c (.i .i64 k) ∧ L = [tapeC ad a l.length c q] ∧ D = []) := by
  have hr := tNext_range l at_ hn
  have hq := tAt_le hat
  exact (next_ok e a c ad at_ l n hn hat hl).mono fun v L D ⟨h1, h2, h3⟩ => ⟨_, _, hr.1, hr.2, hq, h1, h2, h3⟩
theorem ofE (e e2 : Nat) (a b : Option Addr) (c d m ad at_ : Nat) (l : List Int) (xs : List (List UInt8)) (hm : m = xs.length) (h0 : 0 < m) (hat : at_ ≤ l.length) (hl : l.length ≤ maxLen) (B : Nat) (hB : ∀ x ∈ xs, x.length ≤ B) :
    FnS Tryz.prog 36 [.c (.p 1000 ad 0), .c (.sl b m d)] [tapeC ad a l.length c at_] [tapeF e a l, slFact e2 1 b m (xs.map C.s)]
    (fun v L D => ∃ s q, s.length ≤ B ∧ q ≤ l.length ∧ v = .c (.s s) ∧ L = [tapeC ad a l.length c q] ∧ D = []) := by
  have hr := tNext_range l at_ (n := (m : Int)) (by omega)
  have hq := tAt_le hat
  refine (of_ok e e2 a b c d m ad at_ l xs hm h0 hat hl).mono fun v L D ⟨h1, h2, h3⟩ => ⟨_, _, ?_, hq, h1, h2, h3⟩
  have : (tNext l at_ m).toNat < xs.length := by omega
  rw [List.getD_eq_getElem?_getD, List.getElem?_eq_getElem this]
  exact hB _ (List.getElem_mem this)
theorem titleE (e : Nat) (a : Option Addr) (c ad at_ : Nat) (l : List Int) (hat : at_ ≤ l.length) (hl : l.length ≤ maxLen) : FnS Tryz.prog 13 [.c (.p 1000 ad 0)] [tapeC ad a l.length c at_] [tapeF e a l]
    (fun v L D => ∃ sp nm q, nm.length ≤ 9 ∧ q ≤ l.length ∧ v = .agg [.i .i64 sp, .s nm] ∧ L = [tapeC ad a l.length c q] ∧ D = []) := by
  have hq := tAt_le (tAt_le hat)
  have hr := tNext_range l (tAt l at_) (n := 10) (by omega)
  have hB : ∀ x ∈ tapeNames, x.length ≤ 9 := by decide
  refine (tapeTitle_ok e a c ad at_ l hat hl).mono fun v L D ⟨h1, h2, h3⟩ => ⟨_, _, _, ?_, hq, h1, h2, h3⟩
  have : (tNext l (tAt l at_) 10).toNat < tapeNames.length := by show _ < 10; omega
  rw [List.getD_eq_getElem?_getD, List.getElem?_eq_getElem this]
  exact hB _ (List.getElem_mem this)
def gB : Nat → Nat
  | 0 => 0
  | d + 1 => 2 * (18 + gB d)
def hB : Nat → Nat
  | 0 => 0
  | d + 1 => 4 * (6 + gB 3 + hB d)
theorem inl_more {els : List Inl} {x : Inl} {B : Nat} (h : inlBulk els ≤ els.length * B) (hx : x.bulk ≤ B) : inlBulk (els ++ [x]) ≤ (els ++ [x]).length * B := by
  have h1 : inlBulk [x] = x.bulk := by simp [inlBulk]
  rw [inlBulk_append, List.length_append, List.length_singleton, Nat.add_mul, Nat.one_mul, h1]; omega
theorem inls_snoc {m : Im} {els : List Inl} {x : Inl} (h : (inlsF els).p m) (hx : x.lies m) : (inlsF (els ++ [x])).p m := inlsLie_append.2 ⟨h, by unfold inlsLie; exact ⟨hx, by unfold inlsLie; trivial⟩⟩
theorem inl_lies {m : Im} {k : Int} {tx : List UInt8} {sp : Int} {nm an : List UInt8} {ka : Option Addr} {kc : Nat} {kids : List Inl} (h : (inlF ka kids).p m) : (Inl.mk k tx sp nm an ka kc kids).lies m := by unfold Inl.lies; exact h
theorem inlF_none {m : Im} : (inlF none []).p m := ⟨⟨fun x hx => (by cases hx), .inl ⟨rfl, rfl⟩⟩, by unfold inlsLie; trivial⟩
theorem inlC_snoc (els : List Inl) (x : Inl) : inlC els ++ x.cells = inlC (els ++ [x]) := by simp [inlC]
def lit1 : List (List UInt8) := [[97], [98, 32, 60, 99, 62], [38], [34], [32]]
def lit2 : List (List UInt8) := [[], [], [110], [109]]
def lit3 : List (List UInt8) := [[], [], [115], [97, 32, 98]]
set_option maxHeartbeats 2000000 in
theorem genInline_step (e : Nat) (a : Option Addr) (c tb : Nat) (l : List Int) (hl : l.length ≤ maxLen) (d : Nat) (hd : d ≤ 3)
    (ih : 0 < d → ∀ (q : Nat), q ≤ l.length → FnS Tryz.prog 49 [.c (.p 1000 tb 0), .c (.i .i64 ((d : Int) - 1))] [tapeC tb a l.length c q] [tapeF e a l] (fun v L D => ∃ ia ic els q, q ≤ l.length ∧ inlBulk els ≤ gB d ∧ v = .c (.sl ia els.length ic) ∧ L = [tapeC tb a l.length c q] ∧ D = [inlF ia els]))
    (q : Nat) (hq : q ≤ l.length) :
    FnS Tryz.prog 49 [.c (.p 1000 tb 0), .c (.i .i64 d)] [tapeC tb a l.length c q] [tapeF e a l] (fun v L D => ∃ ia ic els q, q ≤ l.length ∧ inlBulk els ≤ gB (d + 1) ∧ v = .c (.sl ia els.length ic) ∧ L = [tapeC tb a l.length c q] ∧ D = [inlF ia els]) := by
  have hgB : gB (d + 1) = 2 * (18 + gB d) := rfl
  have hge : 0 < d → 0 ≤ gB d := fun _ => Nat.zero_le _
  generalize gB (d + 1) = B1 at *
  generalize gB d = B0 at *
  refine fn_of_J Tryz.tyOK 2000 Tryz.func49 (by kernel_rfl) (c := Tryz.f49.body.getD .skip) (by kernel_rfl) Tryz.ntmps49 (rs := Tryz.f49.results.toList) rfl (by simp) (fun G => ?_)
  repeat' first
    | refine J_seq ?_ | refine J_region Tryz.tyOK ?_ | refine J_block ?_ | refine J_cond ?_ | refine J_ret ?_ | refine J_skip ?_ | refine J_exit ?_ | refine J_scope ?_
    | refine CondP.yes (by omega) ?_ | refine CondP.no (by omega) ?_ | refine CondP.mk (fun h => ?_) (fun h => ?_) | refine EqP.mk rfl ?_ | refine NewP.mk (fun ad => ?_) | refine ArP.exact (by simp only [inR]; omega) ?_ | refine SideP.mk (by first | omega | (dsimp only; omega) | (simp; omega)) ?_
    | fail
  refine J_loop (α := List Inl × Option Addr × Nat × Nat) (fun x => [(0, .c (.p 1000 tb 0)), (1, .c (.i .i64 d)), (5, .c (.sl x.2.1 x.1.length x.2.2.1)), (6, .c (.i .i64 x.1.length))])
    (fun x => [tapeC tb a l.length c x.2.2.2, .row 102 6 x.2.1 x.1.length x.2.2.1 (inlC x.1)]) (fun x => [inlsF x.1, tapeF e a l]) 2000
    (fun x => x.1.length ≤ 2 ∧ inlBulk x.1 ≤ x.1.length * (18 + B0) ∧ x.2.2.2 ≤ l.length) (fun x => 3 - x.1.length)
    (InFam.mk ([], none, 0, q) ⟨Nat.zero_le _, by simp [inlBulk], hq⟩ (by repeat' first | exact SubE.nil | refine SubE.cons rfl ?_ ?_ | exact VEq.refl _ | refine VEq.int (by omega) | refine VEq.sl rfl (by first | rfl | omega | (rw [List.length_append]; rfl) | (simp; omega)) rfl) ((Ents.nilRow (ety := 102) (esz := 6)).trans ((Ents.perm (List.Perm.swap _ _ _)).trans (Ents.facts fun m h => ⟨(by show inlsLie m []; unfold inlsLie; trivial), h.1, trivial⟩)))) (fun x hx => ?_)
  obtain ⟨els, ia, ic, q⟩ := x
  obtain ⟨hle, hbu, hq⟩ := hx
  dsimp only at hle hbu hq ⊢
  have hbb : els.length * (18 + B0) ≤ 2 * (18 + B0) := Nat.mul_le_mul_right _ hle
  have n3 := nextE e a c tb q l 3 (by omega) hq hl
  repeat' first
    | refine J_stop (c := .seq (.seq (.region 6 _ _) _) _) ?_
    | refine J_seq ?_ | refine J_region Tryz.tyOK ?_ | refine J_block ?_ | refine J_cond ?_ | refine J_ret ?_ | refine J_skip ?_ | refine J_exit ?_ | refine J_scope ?_
    | refine CondP.yes (by omega) ?_ | refine CondP.no (by omega) ?_ | refine CondP.mk (fun h => ?_) (fun h => ?_) | refine EqP.mk rfl ?_ | refine NewP.mk (fun ad => ?_) | refine ArP.exact (by simp only [inR]; omega) ?_ | refine SideP.mk (by first | omega | (dsimp only; omega) | (simp; omega)) ?_
    | (refine CallP.mk [_] _ [_] _ n3 (List.Perm.refl _) (fun _ h => ⟨h.2.1, trivial⟩) (fun v L' D' hp => ?_); obtain ⟨k3, q3, h30, h31, h32, rfl, rfl, rfl⟩ := hp) | (refine CallP.mk [_] _ [_] _ (nextE e a c tb q3 l 6 (by omega) h32 hl) (List.Perm.refl _) (fun _ h => ⟨h.2.1, trivial⟩) (fun v L' D' hp => ?_); obtain ⟨k6, q6, h60, h61, h62, rfl, rfl, rfl⟩ := hp) | refine FinE.mk [_] [inlF ia els] ⟨ia, ic, els, q3, h32, by omega, rfl, rfl, rfl⟩ ((Ents.perm (List.Perm.swap _ _ _)).trans (Ents.toFact.trans (Ents.facts fun _ h => ⟨⟨h.1, h.2.1⟩, trivial⟩)))
    | fail
  have hle1 : els.length ≤ 1 := by omega
  refine ⟨?_⟩
  refine J_ent (n' := 2001) (env' := [(0, .c (.p 1000 tb 0)), (1, .c (.i .i64 d)), (5, .c (.sl ia els.length ic)), (6, .c (.i .i64 els.length)), (7, .c (.p 2000 ad 0))]) (L' := [.box 2000 ad 102 [.i .i64 (1 + k6), .s [], .i .i64 0, .s [], .s [], .sl none 0 0], tapeC tb a l.length c q6, .row 102 6 ia els.length ic (inlC els)]) (D' := [inlsF els, tapeF e a l]) (by repeat' first | exact SubE.nil | refine SubE.cons rfl ?_ ?_ | exact VEq.refl _ | refine VEq.int (by omega) | refine VEq.sl rfl (by first | rfl | omega | (rw [List.length_append]; rfl) | (simp; omega)) rfl) (Ents.refl _ _) ?_
  refine J_cut (α := List UInt8 × Int × List UInt8 × List UInt8 × Nat) (fun y => [(0, .c (.p 1000 tb 0)), (1, .c (.i .i64 d)), (5, .c (.sl ia els.length ic)), (6, .c (.i .i64 els.length)), (7, .c (.p 2000 ad 0))]) (fun y => [.box 2000 ad 102 [.i .i64 (1 + k6), .s y.1, .i .i64 y.2.1, .s y.2.2.1, .s y.2.2.2.1, .sl none 0 0], tapeC tb a l.length c y.2.2.2.2, .row 102 6 ia els.length ic (inlC els)]) (fun _ => [inlsF els, tapeF e a l]) 2002 (fun y => y.1.length + y.2.2.1.length + y.2.2.2.1.length ≤ 17 ∧ y.2.2.2.2 ≤ l.length) ?_ (fun z hz => ?_)
  · repeat' first
      | refine J_seq ?_ | refine J_region Tryz.tyOK ?_ | refine J_block ?_ | refine J_cond ?_ | refine J_ret ?_ | refine J_skip ?_ | refine J_exit ?_ | refine J_scope ?_
      | refine CondP.yes (by omega) ?_ | refine CondP.no (by omega) ?_ | refine CondP.mk (fun h => ?_) (fun h => ?_) | refine EqP.mk rfl ?_ | refine NewP.mk (fun ad => ?_) | refine ArP.exact (by simp only [inR]; omega) ?_ | refine SideP.mk (by first | omega | (dsimp only; omega) | (simp; omega)) ?_
      | (refine CallP.mkE [_] _ _ _ _ (ofE e 9 a _ c _ 5 tb _ l lit1 rfl (by decide) (by assumption) hl 5 (by decide)) (Ents.toFact.trans (Ents.perm (List.Perm.swap _ _ _))) (fun _ h => ⟨h.2.2.1, h.1, trivial⟩) (fun v L' D' hp => ?_); obtain ⟨s1, q8, h80, h81, rfl, rfl, rfl⟩ := hp) | (refine CallP.mkE [_] _ _ _ _ (ofE e 9 a _ c _ 4 tb _ l lit2 rfl (by decide) (by assumption) hl 1 (by decide)) (Ents.toFact.trans (Ents.perm (List.Perm.swap _ _ _))) (fun _ h => ⟨h.2.2.1, h.1, trivial⟩) (fun v L' D' hp => ?_); obtain ⟨s1, q8, h80, h81, rfl, rfl, rfl⟩ := hp) | (refine CallP.mkE [_] _ _ _ _ (ofE e 9 a _ c _ 4 tb _ l lit3 rfl (by decide) (by assumption) hl 3 (by decide)) (Ents.toFact.trans (Ents.perm (List.Perm.swap _ _ _))) (fun _ h => ⟨h.2.2.1, h.1, trivial⟩) (fun v L' D' hp => ?_); obtain ⟨s3, q8, h80, h81, rfl, rfl, rfl⟩ := hp) | (refine CallP.mk [_] [_, _] [_] _ (titleE e a c tb q6 l h62 hl) (List.Perm.swap _ _ _) (fun _ h => ⟨h.2.1, trivial⟩) (fun v L' D' hp => ?_); obtain ⟨sp4, nm4, q4, h40, h41, rfl, rfl, rfl⟩ := hp) | (refine CallP.mkE [_] _ _ _ _ (ofE e 9 a _ c _ 4 tb _ l lit3 rfl (by decide) (by assumption) hl 3 (by decide)) Ents.toFact (fun _ h => ⟨h.2.2.1, h.1, trivial⟩) (fun v L' D' hp => ?_); obtain ⟨s3, q8, h80, h81, rfl, rfl, rfl⟩ := hp) | (refine CallP.mk [_] [_, _] [_] _ (nextE e a c tb q8 l 5 (by omega) h81 hl) (List.Perm.refl _) (fun _ h => ⟨h.2.2.1, trivial⟩) (fun v L' D' hp => ?_); obtain ⟨k5, q5, h50, h51, h52, rfl, rfl, rfl⟩ := hp)
      | fail
    · exact InFam.mk (s1, 0, [], [], q8) ⟨by dsimp only [List.length_nil]; omega, h81⟩ (by repeat' first | exact SubE.nil | refine SubE.cons rfl ?_ ?_ | exact VEq.refl _ | refine VEq.int (by omega) | refine VEq.sl rfl (by first | rfl | omega | (rw [List.length_append]; rfl) | (simp; omega)) rfl) ((Ents.perm (List.Perm.swap _ _ _)).trans (Ents.ofSub (List.Sublist.cons_cons _ (List.Sublist.cons_cons _ (List.Sublist.cons_cons _ List.Sublist.slnil))) (fun _ h => h.2)))
    · exact InFam.mk (s1, 0, [], [], q8) ⟨by dsimp only [List.length_nil]; omega, h81⟩ (by repeat' first | exact SubE.nil | refine SubE.cons rfl ?_ ?_ | exact VEq.refl _ | refine VEq.int (by omega) | refine VEq.sl rfl (by first | rfl | omega | (rw [List.length_append]; rfl) | (simp; omega)) rfl) ((Ents.perm (List.Perm.swap _ _ _)).trans (Ents.ofSub (List.Sublist.cons_cons _ (List.Sublist.cons_cons _ (List.Sublist.cons_cons _ List.Sublist.slnil))) (fun _ h => h.2)))
    · exact InFam.mk ([], 0, [], s3, q5) ⟨by dsimp only [List.length_nil]; omega, h52⟩ (by repeat' first | exact SubE.nil | refine SubE.cons rfl ?_ ?_ | exact VEq.refl _ | refine VEq.int (by omega) | refine VEq.sl rfl (by first | rfl | omega | (rw [List.length_append]; rfl) | (simp; omega)) rfl) ((Ents.perm (List.Perm.swap _ _ _)).trans (Ents.ofSub (List.Sublist.cons_cons _ (List.Sublist.cons_cons _ (List.Sublist.cons_cons _ List.Sublist.slnil))) (fun _ h => h.2)))
    · exact InFam.mk ([], sp4, nm4, s3, q5) ⟨by dsimp only [List.length_nil]; omega, h52⟩ (by repeat' first | exact SubE.nil | refine SubE.cons rfl ?_ ?_ | exact VEq.refl _ | refine VEq.int (by omega) | refine VEq.sl rfl (by first | rfl | omega | (rw [List.length_append]; rfl) | (simp; omega)) rfl) ((Ents.perm (List.Perm.swap _ _ _)).trans (Ents.ofSub (List.Sublist.cons_cons _ (List.Sublist.cons_cons _ (List.Sublist.cons_cons _ List.Sublist.slnil))) (fun _ h => h.2)))
    · exact InFam.mk ([], 0, [], [], q6) ⟨by dsimp only [List.length_nil]; omega, h62⟩ (by repeat' first | exact SubE.nil | refine SubE.cons rfl ?_ ?_ | exact VEq.refl _ | refine VEq.int (by omega) | refine VEq.sl rfl (by first | rfl | omega | (rw [List.length_append]; rfl) | (simp; omega)) rfl) (Ents.ofSub (List.Sublist.cons_cons _ (List.Sublist.cons_cons _ (List.Sublist.cons_cons _ List.Sublist.slnil))) (fun _ h => h))
  obtain ⟨tx, sp, nm, an, q7⟩ := z
  obtain ⟨hz, hq7⟩ := hz
  dsimp only at hz hq7 ⊢
  have hx0 : ∃ x : Inl, x = .mk (1 + k6) tx sp nm an none 0 [] := ⟨_, rfl⟩
  obtain ⟨x0, hx0⟩ := hx0
  have hxb0 : x0.bulk ≤ 18 + B0 := by subst hx0; simp only [Inl.bulk, inlBulk]; omega
  have hap0 : inlC els ++ [.i .i64 (1 + k6), .s tx, .i .i64 sp, .s nm, .s an, .sl none 0 0] = inlC (els ++ [x0]) := by subst hx0; exact inlC_snoc els (.mk (1 + k6) tx sp nm an none 0 [])
  have hla0 : els.length + 1 = (els ++ [x0]).length := by simp
  have hli0 : ∀ m, x0.lies m := fun m => by subst hx0; exact inl_lies inlF_none
  clear hx0
  by_cases hkid : 0 < d ∧ ¬ (1 + k6 = 1) ∧ ¬ (1 + k6 = 6)
  · obtain ⟨hd0, hk1, hk6⟩ := hkid
    have ihh := ih hd0 q7 hq7
    repeat' first
      | refine CondP.no hk1 ?_ | refine CondP.yes hk1 ?_ | refine CondP.yes hk6 ?_
      | refine J_seq ?_ | refine J_region Tryz.tyOK ?_ | refine J_block ?_ | refine J_cond ?_ | refine J_ret ?_ | refine J_skip ?_ | refine J_exit ?_ | refine J_scope ?_
      | refine CondP.yes (by omega) ?_ | refine CondP.no (by omega) ?_ | refine CondP.mk (fun h => ?_) (fun h => ?_) | refine EqP.mk rfl ?_ | refine NewP.mk (fun ad => ?_) | refine ArP.exact (by simp only [inR]; omega) ?_ | refine SideP.mk (by first | omega | (dsimp only; omega) | (simp; omega)) ?_
      | refine J_stop (c := .region 17 _ _) ?_ | (refine CallP.mk [_] [_, _] [_] _ ihh (List.Perm.swap _ _ _) (fun _ h => ⟨h.2.1, trivial⟩) (fun v L' D' hp => ?_); obtain ⟨ka, kc, kids, q9, h90, h91, rfl, rfl, rfl⟩ := hp)
      | fail
    all_goals
      obtain ⟨x1, hx1⟩ : ∃ x : Inl, x = .mk (1 + k6) tx sp nm an ka kc kids := ⟨_, rfl⟩
      have hxb1 : x1.bulk ≤ 18 + B0 := by subst hx1; simp only [Inl.bulk]; omega
      have hap1 : inlC els ++ [.i .i64 (1 + k6), .s tx, .i .i64 sp, .s nm, .s an, .sl ka kids.length kc] = inlC (els ++ [x1]) := by subst hx1; exact inlC_snoc els (.mk (1 + k6) tx sp nm an ka kc kids)
      have hla1 : els.length + 1 = (els ++ [x1]).length := by simp
      have hli1 : ∀ m, (inlF ka kids).p m → x1.lies m := fun m h => by subst hx1; exact inl_lies h
      clear hx1
      refine AppE.row [_, _, _] _ (inlC els) [.i .i64 (1 + k6), .s tx, .i .i64 sp, .s nm, .s an, .sl ka kids.length kc] 1 rfl (SrcE.sl 102 102 _ _ 1 _ _ rfl rfl (.inl ⟨_, List.Mem.head _⟩) rfl) (by dsimp only; omega) (fun a' c' => ?_)
      rw [hap1, hla1]
      repeat' first
        | refine J_seq ?_ | refine J_region Tryz.tyOK ?_ | refine J_block ?_ | refine J_cond ?_ | refine J_ret ?_ | refine J_skip ?_ | refine J_exit ?_ | refine J_scope ?_
        | refine CondP.yes (by omega) ?_ | refine CondP.no (by omega) ?_ | refine CondP.mk (fun h => ?_) (fun h => ?_) | refine EqP.mk rfl ?_ | refine NewP.mk (fun ad => ?_) | refine ArP.exact (by simp only [inR]; omega) ?_ | refine SideP.mk (by first | omega | (dsimp only; omega) | (simp; omega)) ?_
        | refine Round.mk (els ++ [x1], a', c', q9) (by dsimp only; omega) ⟨by dsimp only; omega, inl_more hbu hxb1, h90⟩ (by repeat' first | exact SubE.nil | refine SubE.cons rfl ?_ ?_ | exact VEq.refl _ | exact VEq.int (by dsimp only; rw [← hla1]; omega)) (Ents.ofSub (List.Sublist.cons _ (List.Sublist.cons_cons _ (List.Sublist.cons _ (List.Sublist.cons_cons _ List.Sublist.slnil)))) (fun _ h => ⟨inls_snoc h.2.1 (hli1 _ h.1), h.2.2.1, trivial⟩))
        | fail
  · have hno : 0 < (d : Int) → ¬ (1 + k6 = 1) → 1 + k6 = 6 := fun h1 h2 => Classical.byContradiction fun h3 => hkid ⟨by omega, h2, h3⟩
    repeat' first
      | refine J_seq ?_ | refine J_region Tryz.tyOK ?_ | refine J_block ?_ | refine J_cond ?_ | refine J_ret ?_ | refine J_skip ?_ | refine J_exit ?_ | refine J_scope ?_
      | refine CondP.yes (by omega) ?_ | refine CondP.no (by omega) ?_ | refine CondP.mk (fun h => ?_) (fun h => ?_) | refine EqP.mk rfl ?_ | refine NewP.mk (fun ad => ?_) | refine ArP.exact (by simp only [inR]; omega) ?_ | refine SideP.mk (by first | omega | (dsimp only; omega) | (simp; omega)) ?_
      | (refine AppE.row [_, _, _] _ (inlC els) [.i .i64 (1 + k6), .s tx, .i .i64 sp, .s nm, .s an, .sl none 0 0] 1 rfl (SrcE.sl 102 102 _ _ 1 _ _ rfl rfl (.inl ⟨_, List.Mem.head _⟩) rfl) (by dsimp only; omega) (fun a' c' => ?_); rw [hap0, hla0]) | refine Round.mk (els ++ [x0], a', c', q7) (by dsimp only; omega) ⟨by dsimp only; omega, inl_more hbu hxb0, hq7⟩ (by repeat' first | exact SubE.nil | refine SubE.cons rfl ?_ ?_ | exact VEq.refl _ | exact VEq.int (by dsimp only; rw [← hla0]; omega)) (Ents.ofSub (List.Sublist.cons _ (List.Sublist.cons _ (List.Sublist.cons_cons _ (List.Sublist.cons_cons _ List.Sublist.slnil)))) (fun _ h => ⟨inls_snoc h.1 (hli0 _), h.2.1, trivial⟩)) | exact absurd (hno (by assumption) (by assumption)) (by assumption)
      | fail
    all_goals trace_state
theorem genInline_ok (e : Nat) (a : Option Addr) (c tb : Nat) (l : List Int) (hl : l.length ≤ maxLen) (d : Nat) (hd : d ≤ 3) : ∀ (q : Nat), q ≤ l.length → 
    FnS Tryz.prog 49 [.c (.p 1000 tb 0), .c (.i .i64 d)] [tapeC tb a l.length c q] [tapeF e a l] (fun v L D => ∃ ia ic els q, q ≤ l.length ∧ inlBulk els ≤ gB (d + 1) ∧ v = .c (.sl ia els.length ic) ∧ L = [tapeC tb a l.length c q] ∧ D = [inlF ia els]) := by
  induction d with
  | zero => exact genInline_step e a c tb l hl 0 hd (fun h => absurd h (by omega))
  | succ d ih =>
    refine genInline_step e a c tb l hl (d + 1) hd (fun _ q hq => ?_)
    have := ih (by omega) q hq
    rw [show (((d + 1 : Nat) : Int) - 1) = (d : Int) by omega]
    exact this
theorem blk_more {bs : List Blk} {x : Blk} {B : Nat} (h : blkBulk bs ≤ bs.length * B) (hx : x.bulk ≤ B) : blkBulk (bs ++ [x]) ≤ (bs ++ [x]).length * B := by
  have h1 : blkBulk [x] = x.bulk := by simp [blkBulk]
  rw [blkBulk_append, List.length_append, List.length_singleton, Nat.add_mul, Nat.one_mul, h1]; omega
theorem blks_snoc {m : Im} {bs : List Blk} {x : Blk} (h : (blksF bs).p m) (hx : x.lies m) : (blksF (bs ++ [x])).p m := blksLie_append.2 ⟨h, by unfold blksLie; exact ⟨hx, by unfold blksLie; trivial⟩⟩
theorem blk_lies {m : Im} {k v : Int} {tx : List UInt8} {ia : Option Addr} {ic : Nat} {els : List Inl} {ka : Option Addr} {kc : Nat} {kids : List Blk} (h1 : (inlF ia els).p m) (h : (blkF ka kids).p m) : (Blk.mk k v tx ia ic els ka kc kids).lies m := by unfold Blk.lies; exact ⟨h1, h⟩
theorem blkF_none {m : Im} : (blkF none []).p m := ⟨⟨fun x hx => (by cases hx), .inl ⟨rfl, rfl⟩⟩, by unfold blksLie; trivial⟩
theorem blkC_snoc (bs : List Blk) (x : Blk) : blkC bs ++ x.cells = blkC (bs ++ [x]) := by simp [blkC]
theorem fit_snoc {bs : List Blk} {x : Blk} (h : blkFit bs) (hx : x.fit) : blkFit (bs ++ [x]) := (blkFit_append _ _).2 ⟨h, by unfold blkFit; exact ⟨hx, by unfold blkFit; trivial⟩⟩
def lit4 : List (List UInt8) := [[120], [97, 10, 60, 98, 62], []]
set_option maxHeartbeats 2000000 in
theorem genBlocks_step (e : Nat) (a : Option Addr) (c tb : Nat) (l : List Int) (hl : l.length ≤ maxLen) (d : Nat) (hd : d ≤ 3)
    (ih : 0 < d → ∀ (q : Nat), q ≤ l.length → FnS Tryz.prog 19 [.c (.p 1000 tb 0), .c (.i .i64 ((d : Int) - 1))] [tapeC tb a l.length c q] [tapeF e a l] (fun v L D => ∃ ba bc bs q, q ≤ l.length ∧ blkBulk bs ≤ hB d ∧ blkFit bs ∧ v = .c (.sl ba bs.length bc) ∧ L = [tapeC tb a l.length c q] ∧ D = [blkF ba bs]))
    (q : Nat) (hq : q ≤ l.length) :
    FnS Tryz.prog 19 [.c (.p 1000 tb 0), .c (.i .i64 d)] [tapeC tb a l.length c q] [tapeF e a l] (fun v L D => ∃ ba bc bs q, q ≤ l.length ∧ blkBulk bs ≤ hB (d + 1) ∧ blkFit bs ∧ v = .c (.sl ba bs.length bc) ∧ L = [tapeC tb a l.length c q] ∧ D = [blkF ba bs]) := by
  have hgB : hB (d + 1) = 4 * (6 + gB 3 + hB d) := rfl
  have hge : 0 < d → 0 ≤ hB d := fun _ => Nat.zero_le _
  have hin := genInline_ok e a c tb l hl 2 (by omega)
  generalize hB (d + 1) = B1 at *
  generalize hB d = B0 at *
  change ∀ q : Nat, q ≤ l.length → FnS _ _ [_, .c (.i .i64 2)] _ _ (fun v L D => ∃ ia ic els q, q ≤ l.length ∧ inlBulk els ≤ gB 3 ∧ v = .c (.sl ia els.length ic) ∧ L = [tapeC tb a l.length c q] ∧ D = [inlF ia els]) at hin
  generalize gB 3 = B3 at *
  refine fn_of_J Tryz.tyOK 2000 Tryz.func19 (by kernel_rfl) (c := Tryz.f19.body.getD .skip) (by kernel_rfl) Tryz.ntmps19 (rs := Tryz.f19.results.toList) rfl (by simp) (fun G => ?_)
  repeat' first
    | refine J_seq ?_ | refine J_region Tryz.tyOK ?_ | refine J_block ?_ | refine J_cond ?_ | refine J_ret ?_ | refine J_skip ?_ | refine J_exit ?_ | refine J_scope ?_
    | refine CondP.yes (by omega) ?_ | refine CondP.no (by omega) ?_ | refine CondP.mk (fun h => ?_) (fun h => ?_) | refine EqP.mk rfl ?_ | refine NewP.mk (fun ad => ?_) | refine ArP.exact (by simp only [inR]; omega) ?_ | refine SideP.mk (by first | omega | (dsimp only; omega) | (simp; omega)) ?_
    | fail
  refine J_loop (α := List Blk × Option Addr × Nat × Nat) (fun x => [(0, .c (.p 1000 tb 0)), (1, .c (.i .i64 d)), (5, .c (.sl x.2.1 x.1.length x.2.2.1)), (6, .c (.i .i64 x.1.length))])
    (fun x => [tapeC tb a l.length c x.2.2.2, .row 81 5 x.2.1 x.1.length x.2.2.1 (blkC x.1)]) (fun x => [blksF x.1, tapeF e a l]) 2000
    (fun x => x.1.length ≤ 4 ∧ blkBulk x.1 ≤ x.1.length * (6 + B3 + B0) ∧ blkFit x.1 ∧ x.2.2.2 ≤ l.length) (fun x => 5 - x.1.length)
    (InFam.mk ([], none, 0, q) ⟨Nat.zero_le _, by simp [blkBulk], by unfold blkFit; trivial, hq⟩ (by repeat' first | exact SubE.nil | refine SubE.cons rfl ?_ ?_ | exact VEq.refl _ | refine VEq.int (by omega) | refine VEq.sl rfl (by first | rfl | omega | (rw [List.length_append]; rfl) | (simp; omega)) rfl) ((Ents.nilRow (ety := 81) (esz := 5)).trans ((Ents.perm (List.Perm.swap _ _ _)).trans (Ents.facts fun m h => ⟨(by show blksLie m []; unfold blksLie; trivial), h.1, trivial⟩)))) (fun x hx => ?_)
  obtain ⟨bs, ba, bc, q⟩ := x
  obtain ⟨hle, hbu, hft, hq⟩ := hx
  dsimp only at hle hbu hft hq ⊢
  have hbb : bs.length * (6 + B3 + B0) ≤ 4 * (6 + B3 + B0) := Nat.mul_le_mul_right _ hle
  have n3 := nextE e a c tb q l 5 (by omega) hq hl
  repeat' first
    | refine J_stop (c := .seq (.seq (.region 6 _ _) _) _) ?_
    | refine J_seq ?_ | refine J_region Tryz.tyOK ?_ | refine J_block ?_ | refine J_cond ?_ | refine J_ret ?_ | refine J_skip ?_ | refine J_exit ?_ | refine J_scope ?_
    | refine CondP.yes (by omega) ?_ | refine CondP.no (by omega) ?_ | refine CondP.mk (fun h => ?_) (fun h => ?_) | refine EqP.mk rfl ?_ | refine NewP.mk (fun ad => ?_) | refine ArP.exact (by simp only [inR]; omega) ?_ | refine SideP.mk (by first | omega | (dsimp only; omega) | (simp; omega)) ?_
    | (refine CallP.mk [_] _ [_] _ n3 (List.Perm.refl _) (fun _ h => ⟨h.2.1, trivial⟩) (fun v L' D' hp => ?_); obtain ⟨k3, q3, h30, h31, h32, rfl, rfl, rfl⟩ := hp) | (refine CallP.mk [_] _ [_] _ (nextE e a c tb q3 l 9 (by omega) h32 hl) (List.Perm.refl _) (fun _ h => ⟨h.2.1, trivial⟩) (fun v L' D' hp => ?_); obtain ⟨k6, q6, h60, h61, h62, rfl, rfl, rfl⟩ := hp) | (refine CallP.mk [_] _ [_] _ (nextE e a c tb q6 l 4 (by omega) h62 hl) (List.Perm.refl _) (fun _ h => ⟨h.2.1, trivial⟩) (fun v L' D' hp => ?_); obtain ⟨k4, q4, h40, h41, h42, rfl, rfl, rfl⟩ := hp) | (refine CallP.mk [_] _ [_] _ (hin q4 h42) (List.Perm.refl _) (fun _ h => ⟨h.2.1, trivial⟩) (fun v L' D' hp => ?_); obtain ⟨ia, ic, els, q5, h50, h51, rfl, rfl, rfl⟩ := hp) | refine FinE.mk [_] [blkF ba bs] ⟨ba, bc, bs, q3, h32, by omega, hft, rfl, rfl, rfl⟩ ((Ents.perm (List.Perm.swap _ _ _)).trans (Ents.toFact.trans (Ents.facts fun _ h => ⟨⟨h.1, h.2.1⟩, trivial⟩)))
    | fail
  have hle1 : bs.length ≤ 3 := by omega
  refine ⟨?_⟩
  refine J_cut (α := List UInt8 × Nat) (fun y => [(0, .c (.p 1000 tb 0)), (1, .c (.i .i64 d)), (5, .c (.sl ba bs.length bc)), (6, .c (.i .i64 bs.length)), (7, .c (.p 2000 ad 0))]) (fun y => [.box 2000 ad 81 [.i .i64 (1 + k6), .i .i64 k4, .s y.1, .sl ia els.length ic, .sl none 0 0], tapeC tb a l.length c y.2, .row 81 5 ba bs.length bc (blkC bs)]) (fun _ => [inlF ia els, blksF bs, tapeF e a l]) 2002 (fun y => y.1.length ≤ 5 ∧ y.2 ≤ l.length) ?_ (fun z hz => ?_)
  · repeat' first
      | refine J_seq ?_ | refine J_region Tryz.tyOK ?_ | refine J_block ?_ | refine J_cond ?_ | refine J_ret ?_ | refine J_skip ?_ | refine J_exit ?_ | refine J_scope ?_
      | refine CondP.yes (by omega) ?_ | refine CondP.no (by omega) ?_ | refine CondP.mk (fun h => ?_) (fun h => ?_) | refine EqP.mk rfl ?_ | refine NewP.mk (fun ad => ?_) | refine ArP.exact (by simp only [inR]; omega) ?_ | refine SideP.mk (by first | omega | (dsimp only; omega) | (simp; omega)) ?_
      | (refine CallP.mkE [_] _ _ _ _ (ofE e 9 a _ c _ 3 tb _ l lit4 rfl (by decide) (by assumption) hl 5 (by decide)) (Ents.toFact.trans (Ents.perm (List.Perm.swap _ _ _))) (fun _ h => ⟨h.2.2.2.1, h.1, trivial⟩) (fun v L' D' hp => ?_); obtain ⟨s1, q8, h80, h81, rfl, rfl, rfl⟩ := hp)
      | fail
    · exact InFam.mk (s1, q8) ⟨h80, h81⟩ (by repeat' first | exact SubE.nil | refine SubE.cons rfl ?_ ?_ | exact VEq.refl _ | refine VEq.int (by omega) | refine VEq.sl rfl (by first | rfl | omega | (rw [List.length_append]; rfl) | (simp; omega)) rfl) ((Ents.perm (List.Perm.swap _ _ _)).trans (Ents.ofSub (List.Sublist.cons_cons _ (List.Sublist.cons_cons _ (List.Sublist.cons_cons _ List.Sublist.slnil))) (fun _ h => h.2)))
    · exact InFam.mk ([], q5) ⟨by dsimp only [List.length_nil]; omega, h50⟩ (by repeat' first | exact SubE.nil | refine SubE.cons rfl ?_ ?_ | exact VEq.refl _ | refine VEq.int (by omega) | refine VEq.sl rfl (by first | rfl | omega | (rw [List.length_append]; rfl) | (simp; omega)) rfl) (Ents.ofSub (List.Sublist.cons_cons _ (List.Sublist.cons_cons _ (List.Sublist.cons_cons _ List.Sublist.slnil))) (fun _ h => h))
  obtain ⟨tx, q7⟩ := z
  obtain ⟨hz, hq7⟩ := hz
  dsimp only at hz hq7 ⊢
  have hx0 : ∃ x : Blk, x = .mk (1 + k6) k4 tx ia ic els none 0 [] := ⟨_, rfl⟩
  obtain ⟨x0, hx0⟩ := hx0
  have hxb0 : x0.bulk ≤ 6 + B3 + B0 := by subst hx0; simp only [Blk.bulk, blkBulk]; omega
  have hap0 : blkC bs ++ [.i .i64 (1 + k6), .i .i64 k4, .s tx, .sl ia els.length ic, .sl none 0 0] = blkC (bs ++ [x0]) := by subst hx0; exact blkC_snoc bs (.mk (1 + k6) k4 tx ia ic els none 0 [])
  have hla0 : bs.length + 1 = (bs ++ [x0]).length := by simp
  have hli0 : ∀ m, (inlF ia els).p m → x0.lies m := fun m h => by subst hx0; exact blk_lies h blkF_none
  have hfx0 : x0.fit := by subst hx0; unfold Blk.fit; exact ⟨by simp only [inR]; omega, by unfold blkFit; trivial⟩
  clear hx0
  by_cases hkid : 0 < d ∧ 3 ≤ 1 + k6 ∧ ¬ (1 + k6 = 6) ∧ ¬ (1 + k6 = 5)
  · obtain ⟨hd0, hk3, hk6, hk5⟩ := hkid
    have ihh := ih hd0 q7 hq7
    repeat' first
      | refine CondP.yes hk5 ?_ | refine CondP.yes hk6 ?_
      | refine J_seq ?_ | refine J_region Tryz.tyOK ?_ | refine J_block ?_ | refine J_cond ?_ | refine J_ret ?_ | refine J_skip ?_ | refine J_exit ?_ | refine J_scope ?_
      | refine CondP.yes (by omega) ?_ | refine CondP.no (by omega) ?_ | refine CondP.mk (fun h => ?_) (fun h => ?_) | refine EqP.mk rfl ?_ | refine NewP.mk (fun ad => ?_) | refine ArP.exact (by simp only [inR]; omega) ?_ | refine SideP.mk (by first | omega | (dsimp only; omega) | (simp; omega)) ?_
      | refine J_stop (c := .region 10 _ _) ?_ | (refine CallP.mk [_] [_, _] [_] _ ihh (List.Perm.swap _ _ _) (fun _ h => ⟨h.2.2.1, trivial⟩) (fun v L' D' hp => ?_); obtain ⟨ka, kc, kids, q9, h90, h91, h92, rfl, rfl, rfl⟩ := hp)
      | fail
    all_goals
      obtain ⟨x1, hx1⟩ : ∃ x : Blk, x = .mk (1 + k6) k4 tx ia ic els ka kc kids := ⟨_, rfl⟩
      have hxb1 : x1.bulk ≤ 6 + B3 + B0 := by subst hx1; simp only [Blk.bulk]; omega
      have hap1 : blkC bs ++ [.i .i64 (1 + k6), .i .i64 k4, .s tx, .sl ia els.length ic, .sl ka kids.length kc] = blkC (bs ++ [x1]) := by subst hx1; exact blkC_snoc bs (.mk (1 + k6) k4 tx ia ic els ka kc kids)
      have hla1 : bs.length + 1 = (bs ++ [x1]).length := by simp
      have hli1 : ∀ m, (inlF ia els).p m → (blkF ka kids).p m → x1.lies m := fun m h h' => by subst hx1; exact blk_lies h h'
      have hfx1 : x1.fit := by subst hx1; unfold Blk.fit; exact ⟨by simp only [inR]; omega, h92⟩
      clear hx1
      refine AppE.row [_, _, _] _ (blkC bs) [.i .i64 (1 + k6), .i .i64 k4, .s tx, .sl ia els.length ic, .sl ka kids.length kc] 1 rfl (SrcE.sl 81 81 _ _ 1 _ _ rfl rfl (.inl ⟨_, List.Mem.head _⟩) rfl) (by dsimp only; omega) (fun a' c' => ?_)
      rw [hap1, hla1]
      repeat' first
        | refine J_seq ?_ | refine J_region Tryz.tyOK ?_ | refine J_block ?_ | refine J_cond ?_ | refine J_ret ?_ | refine J_skip ?_ | refine J_exit ?_ | refine J_scope ?_
        | refine CondP.yes (by omega) ?_ | refine CondP.no (by omega) ?_ | refine CondP.mk (fun h => ?_) (fun h => ?_) | refine EqP.mk rfl ?_ | refine NewP.mk (fun ad => ?_) | refine ArP.exact (by simp only [inR]; omega) ?_ | refine SideP.mk (by first | omega | (dsimp only; omega) | (simp; omega)) ?_
        | refine Round.mk (bs ++ [x1], a', c', q9) (by dsimp only; omega) ⟨by dsimp only; omega, blk_more hbu hxb1, fit_snoc hft hfx1, h90⟩ (by repeat' first | exact SubE.nil | refine SubE.cons rfl ?_ ?_ | exact VEq.refl _ | exact VEq.int (by dsimp only; rw [← hla1]; omega)) (Ents.ofSub (List.Sublist.cons _ (List.Sublist.cons_cons _ (List.Sublist.cons _ (List.Sublist.cons_cons _ List.Sublist.slnil)))) (fun _ h => ⟨blks_snoc h.2.2.1 (hli1 _ h.2.1 h.1), h.2.2.2.1, trivial⟩))
        | fail
  · have hno : 0 < (d : Int) → 3 ≤ 1 + k6 → ¬ (1 + k6 = 6) → 1 + k6 = 5 := fun h1 h2 h3 => Classical.byContradiction fun h4 => hkid ⟨by omega, h2, h3, h4⟩
    repeat' first
      | refine J_seq ?_ | refine J_region Tryz.tyOK ?_ | refine J_block ?_ | refine J_cond ?_ | refine J_ret ?_ | refine J_skip ?_ | refine J_exit ?_ | refine J_scope ?_
      | refine CondP.yes (by omega) ?_ | refine CondP.no (by omega) ?_ | refine CondP.mk (fun h => ?_) (fun h => ?_) | refine EqP.mk rfl ?_ | refine NewP.mk (fun ad => ?_) | refine ArP.exact (by simp only [inR]; omega) ?_ | refine SideP.mk (by first | omega | (dsimp only; omega) | (simp; omega)) ?_
      | (refine AppE.row [_, _, _] _ (blkC bs) [.i .i64 (1 + k6), .i .i64 k4, .s tx, .sl ia els.length ic, .sl none 0 0] 1 rfl (SrcE.sl 81 81 _ _ 1 _ _ rfl rfl (.inl ⟨_, List.Mem.head _⟩) rfl) (by dsimp only; omega) (fun a' c' => ?_); rw [hap0, hla0]) | refine Round.mk (bs ++ [x0], a', c', q7) (by dsimp only; omega) ⟨by dsimp only; omega, blk_more hbu hxb0, fit_snoc hft hfx0, hq7⟩ (by repeat' first | exact SubE.nil | refine SubE.cons rfl ?_ ?_ | exact VEq.refl _ | exact VEq.int (by dsimp only; rw [← hla0]; omega)) (Ents.ofSub (List.Sublist.cons _ (List.Sublist.cons _ (List.Sublist.cons_cons _ (List.Sublist.cons_cons _ List.Sublist.slnil)))) (fun _ h => ⟨blks_snoc h.2.1 (hli0 _ h.1), h.2.2.1, trivial⟩)) | exact absurd (hno (by assumption) (by assumption) (by assumption)) (by assumption)
      | fail
    all_goals trace_state
theorem genBlocks_ok (e : Nat) (a : Option Addr) (c tb : Nat) (l : List Int) (hl : l.length ≤ maxLen) (d : Nat) (hd : d ≤ 3) : ∀ (q : Nat), q ≤ l.length → 
    FnS Tryz.prog 19 [.c (.p 1000 tb 0), .c (.i .i64 d)] [tapeC tb a l.length c q] [tapeF e a l] (fun v L D => ∃ ba bc bs q, q ≤ l.length ∧ blkBulk bs ≤ hB (d + 1) ∧ blkFit bs ∧ v = .c (.sl ba bs.length bc) ∧ L = [tapeC tb a l.length c q] ∧ D = [blkF ba bs]) := by
  induction d with
  | zero => exact genBlocks_step e a c tb l hl 0 hd (fun h => absurd h (by omega))
  | succ d ih =>
    refine genBlocks_step e a c tb l hl (d + 1) hd (fun _ q hq => ?_)
    have := ih (by omega) q hq
    rw [show (((d + 1 : Nat) : Int) - 1) = (d : Int) by omega]
    exact this
end Go.Proofs
