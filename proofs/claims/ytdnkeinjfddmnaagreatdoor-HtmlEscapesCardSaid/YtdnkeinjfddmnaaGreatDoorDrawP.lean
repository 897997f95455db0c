/- This text proves, for any program, that a region that draws its order may be executed along a tree of orders: where two operations that work on memory stand in no order, both ways are looked at. No condition. -/
import Derived.Test.YtdnkeinjfddmnaaGreatDoorLib
set_option linter.all false

namespace Go.X
open Go
variable [Sm : Inhabited Manner] [Df : Inhabited (List Deferred)]
variable {P : Program} {G : Ent} {ops : Array Oper} {eff : Nat → Bool} {z : Nat} {L0 : List Chunk} {D0 : List Fact} {Te : Act → List Chunk → List Fact → Prop} {dep : Nat → Nat → Bool}

/-- A tree of orders. -/
inductive Plan where
  | leaf (r : List Nat)
  | node (pre : List Nat) (e1 : Nat) (p1 : Plan) (e2 : Nat) (p2 : Plan)
  | node3 (pre : List Nat) (e1 : Nat) (p1 : Plan) (e2 : Nat) (p2 : Plan) (e3 : Nat) (p3 : Plan)

/-- The operations of a tree, along its first branches. -/
def Plan.flat : Plan → List Nat
  | .leaf r => r
  | .node pre e1 p1 _ _ => pre ++ e1 :: p1.flat
  | .node3 pre e1 p1 _ _ _ _ => pre ++ e1 :: p1.flat

def lexP (P : Program) (G : Ent) (ops : Array Oper) (eff : Nat → Bool) (z : Nat) (L0 : List Chunk) (D0 : List Fact) (Te : Act → List Chunk → List Fact → Prop) : Plan → Act → List Chunk → List Fact → Prop
  | .leaf r => lexM P G ops eff z L0 D0 Te r
  | .node pre e1 p1 e2 p2 => lexM P G ops eff z L0 D0 (fun a L D => lexM P G ops eff z L0 D0 (lexP P G ops eff z L0 D0 Te p1) [e1] a L D ∧ lexM P G ops eff z L0 D0 (lexP P G ops eff z L0 D0 Te p2) [e2] a L D) pre
  | .node3 pre e1 p1 e2 p2 e3 p3 => lexM P G ops eff z L0 D0 (fun a L D => lexM P G ops eff z L0 D0 (lexP P G ops eff z L0 D0 Te p1) [e1] a L D ∧ lexM P G ops eff z L0 D0 (lexP P G ops eff z L0 D0 Te p2) [e2] a L D ∧ lexM P G ops eff z L0 D0 (lexP P G ops eff z L0 D0 Te p3) [e3] a L D) pre

/-- The check of a tree behind the operations 'acc'. -/
def okP (dep : Nat → Nat → Bool) (ops : Array Oper) (eff : Nat → Bool) (z : Nat) : List Nat → Plan → Prop
  | acc, .leaf r => (acc ++ r).Pairwise fun j i => pairB dep ops eff j i = true
  | acc, .node pre e1 p1 e2 p2 =>
    ((acc ++ pre) ++ [e1]).Pairwise (fun j i => pairB dep ops eff j i = true) ∧ ((acc ++ pre) ++ [e2]).Pairwise (fun j i => pairB dep ops eff j i = true) ∧
    (∀ j ∈ acc ++ pre, ∀ k ∈ e1 :: p1.flat, j ≠ k ∧ directB ops j k = false) ∧ (∀ k ∈ p1.flat, e1 ≠ k ∧ directB ops e1 k = false) ∧ (∀ k ∈ p2.flat, e2 ≠ k) ∧ e1 ≠ e2 ∧
    (∀ i ∈ p1.flat, i ≠ e2 → dep i e1 = true ∨ dep i e2 = true) ∧ (∀ i, i ∈ e1 :: p1.flat ↔ i ∈ e2 :: p2.flat) ∧ e1 ≠ z ∧ e2 ≠ z ∧ z ∉ acc ++ pre ∧ p1.flat.length = p2.flat.length ∧ ((acc ++ pre) ++ e2 :: p2.flat).Nodup ∧
    okP dep ops eff z (acc ++ pre) p1 ∧ okP dep ops eff z (acc ++ pre) p2
  | acc, .node3 pre e1 p1 e2 p2 e3 p3 =>
    ((acc ++ pre) ++ [e1]).Pairwise (fun j i => pairB dep ops eff j i = true) ∧ ((acc ++ pre) ++ [e2]).Pairwise (fun j i => pairB dep ops eff j i = true) ∧ ((acc ++ pre) ++ [e3]).Pairwise (fun j i => pairB dep ops eff j i = true) ∧
    (∀ j ∈ acc ++ pre, ∀ k ∈ e1 :: p1.flat, j ≠ k ∧ directB ops j k = false) ∧ (∀ k ∈ p1.flat, e1 ≠ k ∧ directB ops e1 k = false) ∧
    (∀ i ∈ p1.flat, i ≠ e2 → i ≠ e3 → dep i e1 = true ∨ dep i e2 = true ∨ dep i e3 = true) ∧ (∀ i, i ∈ e1 :: p1.flat ↔ i ∈ e2 :: p2.flat) ∧ (∀ i, i ∈ e1 :: p1.flat ↔ i ∈ e3 :: p3.flat) ∧ e1 ≠ z ∧ e2 ≠ z ∧ e3 ≠ z ∧ z ∉ acc ++ pre ∧ p1.flat.length = p2.flat.length ∧ p1.flat.length = p3.flat.length ∧ ((acc ++ pre) ++ e2 :: p2.flat).Nodup ∧ ((acc ++ pre) ++ e3 :: p3.flat).Nodup ∧
    okP dep ops eff z (acc ++ pre) p1 ∧ okP dep ops eff z (acc ++ pre) p2 ∧ okP dep ops eff z (acc ++ pre) p3

theorem pairB_ne {j i : Nat} (h : pairB dep ops eff j i = true) : j ≠ i := by
  simp only [pairB, Bool.and_eq_true, bne_iff_ne] at h; exact h.1.1

theorem any_of_lexP (hdep : DepOK ops dep) (hs : Region.noSelect ops = true) (hed : ∀ i o, ops[i]? = some o → ∀ e ∈ o.after, Region.binds .any e = true → e.on ≠ i ∧ e.on < ops.size) {Q' : Exit → Act → World → Prop} (hQ : ∀ a L D w, Te a L D → SatW G w L D → Q' .normal a w) :
    ∀ (p : Plan) (acc : List Nat), okP dep ops eff z acc p → ∀ (n : Nat) (acc' : List Nat) (listed : Array Bool) (a : Act) (L : List Chunk) (D : List Fact) (w : World), acc'.Sublist acc → (acc' ++ p.flat).length = n → (acc' ++ p.flat).Nodup → listed.size = ops.size → (∀ j ∈ acc' ++ p.flat, j < ops.size) → (∀ i, listed.getD i true = false ↔ i ∈ acc' ++ p.flat) → closedL ops listed →
      (z < ops.size → ∀ j ∈ acc' ++ p.flat, j ≠ z → dep z j = true) → lexM P G ops eff z L0 D0 (lexP P G ops eff z L0 D0 Te p) acc' a L D → (Ents L D L0 D0 ∨ acc' ++ p.flat = []) → SatW G w L D → wpAny P .any ops Q' n listed a w := by
  intro p
  induction p with
  | leaf r =>
    intro acc hok n acc' listed a L D w hsub hlen hnd hsz hlt hr hc hz h hE hw
    exact any_of_lexM hdep hs hed n (acc' ++ r) listed a L D w Q' hQ hlen hsz hr hc (hok.sublist (hsub.append (List.Sublist.refl _))) hz (lexM_append (fun _ _ _ h => h) acc' a L D h) hE hw
  | node pre e1 p1 e2 p2 ih1 ih2 =>
    intro acc hok n acc' listed a L D w hsub hlen hnd hsz hlt hr hc hz h hE hw
    obtain ⟨k1, k2, k3, k4, k5, k12, k6, k7, k8, k9, k10, k11, k13, o1, o2⟩ := hok
    -- all that stands ahead of the two
    have key : ∀ (m : Nat) (q : List Nat) (n : Nat) (listed : Array Bool) (a : Act) (L : List Chunk) (D : List Fact) (w : World), q.length = m → q.Sublist (acc ++ pre) → (q ++ e1 :: p1.flat).length = n → (q ++ e1 :: p1.flat).Nodup → listed.size = ops.size → (∀ j ∈ q ++ e1 :: p1.flat, j < ops.size) → (∀ i, listed.getD i true = false ↔ i ∈ q ++ e1 :: p1.flat) → closedL ops listed →
        (z < ops.size → ∀ j ∈ q ++ e1 :: p1.flat, j ≠ z → dep z j = true) → lexM P G ops eff z L0 D0 (fun a L D => lexM P G ops eff z L0 D0 (lexP P G ops eff z L0 D0 Te p1) [e1] a L D ∧ lexM P G ops eff z L0 D0 (lexP P G ops eff z L0 D0 Te p2) [e2] a L D) q a L D → Ents L D L0 D0 → SatW G w L D → wpAny P .any ops Q' n listed a w := by
      intro m
      induction m with
      | zero => ?_
      | succ m ihm => ?_
      all_goals
        intro q n listed a L D w hqm hqs hln hdu hsz hlt hr hc hz h hE hw
        have hperm : ∀ i, i ∈ q ++ e1 :: p1.flat ↔ i ∈ q ++ e2 :: p2.flat := fun i => by
          rw [List.mem_append, List.mem_append, k7 i]
        obtain ⟨n, rfl⟩ : ∃ n', n = n' + 1 := ⟨q.length + p1.flat.length, by rw [← hln]; simp; omega⟩
        have hq3 : ∀ j ∈ q, ∀ k ∈ e1 :: p1.flat, j ≠ k ∧ directB ops j k = false := fun j hj => k3 j (hqs.subset hj)
        have hp1 := k1.sublist (hqs.append (List.Sublist.refl [e1]))
        have hp2 := k2.sublist (hqs.append (List.Sublist.refl [e2]))
        have hpq := (List.pairwise_append.1 hp1).1
        have hzq : z ∉ q := fun hx => k10 (hqs.subset hx)
        have hnq : ∀ e, (e = e1 ∨ e = e2) → e ∉ q := fun e he hx => by
          rcases he with rfl | rfl
          · exact (hq3 e hx e (by simp)).1 rfl
          · exact (hq3 e hx e ((k7 e).2 (by simp))).1 rfl
        -- one of the two is taken
        have take : ∀ (e : Nat) (pp : Plan), (e = e1 ∨ e = e2) → e ≠ z → (q ++ [e]).Pairwise (fun j i => pairB dep ops eff j i = true) → (∀ i, i ∈ q ++ e1 :: p1.flat ↔ i ∈ q ++ e :: pp.flat) → (q ++ e :: pp.flat).length = n + 1 → (q ++ e :: pp.flat).Nodup →
            (∀ (n : Nat) (acc' : List Nat) (listed : Array Bool) (a : Act) (L : List Chunk) (D : List Fact) (w : World), acc'.Sublist (acc ++ pre) → (acc' ++ pp.flat).length = n → (acc' ++ pp.flat).Nodup → listed.size = ops.size → (∀ j ∈ acc' ++ pp.flat, j < ops.size) → (∀ i, listed.getD i true = false ↔ i ∈ acc' ++ pp.flat) → closedL ops listed →
              (z < ops.size → ∀ j ∈ acc' ++ pp.flat, j ≠ z → dep z j = true) → lexM P G ops eff z L0 D0 (lexP P G ops eff z L0 D0 Te pp) acc' a L D → (Ents L D L0 D0 ∨ acc' ++ pp.flat = []) → SatW G w L D → wpAny P .any ops Q' n listed a w) →
            lexM P G ops eff z L0 D0 (lexP P G ops eff z L0 D0 Te pp) (q ++ [e]) a L D → e ∈ Region.ready .any ops listed → wpOp P ops Q' e (wpAny P .any ops Q' n (listed.setIfInBounds e true)) a w := by
          intro e pp he hez hpe hpm hle hndp ihp hlex hi
          obtain ⟨hun, o, ho, hall⟩ := mem_ready.1 hi
          have hcl : clearM ops eff e o (q ++ [e]) := clear_of_pairsX hdep hc ho hall (by simp) (fun j hj => (hr j).2 ((hpm j).2 (by
            rcases List.mem_append.1 hj with hj | hj
            · simp [hj]
            · rw [List.mem_singleton.1 hj]; simp))) (hpe.imp fun {j k} (h : pairB dep ops eff j k = true) (_ : k = e) => h)
          have hst := bubble hs ho (q ++ [e]) a L D w hcl hlex hE hw
          have her : (q ++ [e]).erase e = q := by
            rw [List.erase_append_right _ (hnq e he)]; simp
          have hlte : e < listed.size := by
            rcases Nat.lt_or_ge e listed.size with h | h
            · exact h
            · simp [Array.getElem?_eq_none h] at hun
          have her2 : (q ++ e :: pp.flat).erase e = q ++ pp.flat := by
            rw [List.erase_append_right _ (hnq e he), List.erase_cons_head]
          have next : ∀ u w', (∃ L' D', SatW G w' L' D' ∧ (Ents L' D' L0 D0 ∨ e = z) ∧ lexM P G ops eff z L0 D0 (lexP P G ops eff z L0 D0 Te pp) ((q ++ [e]).erase e) (a.put o.dst u) L' D') → wpAny P .any ops Q' n (listed.setIfInBounds e true) (a.put o.dst u) w' := by
            rintro u w' ⟨L', D', hw', hE', hl⟩
            rw [her] at hl
            have hin : ∀ j ∈ q ++ pp.flat, j ∈ q ++ e1 :: p1.flat := fun j hj => (hpm j).2 (by
              rcases List.mem_append.1 hj with hj | hj
              · exact List.mem_append_left _ hj
              · exact List.mem_append_right _ (List.mem_cons_of_mem _ hj))
            refine ihp n q _ _ L' D' w' hqs (by simp at hle ⊢; omega) (hndp.sublist (List.Sublist.append (List.Sublist.refl _) (List.sublist_cons_self _ _))) (by simpa using hsz) (fun j hj => hlt j (hin j hj)) ?_ (closed_step hlte ho hall hc) (fun hzs j hj hjz => hz hzs j (hin j hj) hjz) hl (.inl (hE'.resolve_right hez)) hw'
            rw [← her2]
            exact listed_step hndp hlte fun k => (hr k).trans (hpm k)
          unfold wpOp
          simp only [ho]
          rcases hst with ⟨hwt, hg⟩ | ⟨hwt, hR⟩
          · rw [if_pos hwt]
            exact .inl (hg.wp next)
          · rw [if_neg (by simp [hwt])]
            exact next _ _ hR
        refine ⟨fun hnil => ?_, fun i hi => ?_⟩
        · exfalso
          cases q with
          | nil => exact first_ready hed hsz hr (fun k hk => (k4 k hk).2) (hlt _ (by simp)) hnil
          | cons j q =>
            refine first_ready hed hsz hr (fun k hk => ?_) (hlt _ (by simp)) hnil
            rcases List.mem_append.1 hk with hk | hk
            · have := (List.pairwise_cons.1 hpq).1 k hk
              simp only [pairB, Bool.and_eq_true, Bool.not_eq_true'] at this
              exact this.1.2
            · exact (hq3 j (by simp) k hk).2
        · by_cases hi1 : i = e1
          · subst hi1
            exact take i p1 (.inl rfl) k8 hp1 (fun _ => Iff.rfl) hln hdu (ih1 _ o1) (lexM_append (fun _ _ _ h => h.1) q a L D h) hi
          by_cases hi2 : i = e2
          · subst hi2
            have hle2 : (q ++ i :: p2.flat).length = n + 1 := by
              have h9 := hln
              simp only [List.length_append, List.length_cons] at h9 ⊢
              omega
            have hnd2 : (q ++ i :: p2.flat).Nodup := k13.sublist (hqs.append (List.Sublist.refl _))
            exact take i p2 (.inr rfl) k9 hp2 hperm hle2 hnd2 (ih2 _ o2) (lexM_append (fun _ _ _ h => h.2) q a L D h) hi
          obtain ⟨hun, o, ho, hall⟩ := mem_ready.1 hi
          have hm := (hr i).1 hun
          have hmem : i ∈ q ∨ i ∈ p1.flat := by
            simp only [List.mem_append, List.mem_cons] at hm
            rcases hm with h | h | h
            · exact .inl h
            · exact absurd h hi1
            · exact .inr h
          rcases hmem with hip | hip
          · have hcl : clearM ops eff i o q := clear_of_pairsX hdep hc ho hall hip (fun j hj => (hr j).2 (by simp [hj])) (hpq.imp fun {j k} (h : pairB dep ops eff j k = true) (_ : k = i) => h)
            have hst := bubble hs ho q a L D w hcl h hE hw
            have hltl : i < listed.size := by
              rcases Nat.lt_or_ge i listed.size with h | h
              · exact h
              · simp [Array.getElem?_eq_none h] at hun
            have her : (q ++ e1 :: p1.flat).erase i = q.erase i ++ e1 :: p1.flat := List.erase_append_left _ hip
            first
              | (exfalso; rw [List.eq_nil_of_length_eq_zero hqm] at hip; cases hip)
              | (have next : ∀ u w', (∃ L' D', SatW G w' L' D' ∧ (Ents L' D' L0 D0 ∨ i = z) ∧ lexM P G ops eff z L0 D0 (fun a L D => lexM P G ops eff z L0 D0 (lexP P G ops eff z L0 D0 Te p1) [e1] a L D ∧ lexM P G ops eff z L0 D0 (lexP P G ops eff z L0 D0 Te p2) [e2] a L D) (q.erase i) (a.put o.dst u) L' D') → wpAny P .any ops Q' n (listed.setIfInBounds i true) (a.put o.dst u) w' := by
                  rintro u w' ⟨L', D', hw', hE', hl⟩
                  have hiz : i ≠ z := fun hx => hzq (hx ▸ hip)
                  have hle : (q.erase i).length = m := by rw [List.length_erase_of_mem hip]; omega
                  have hqpos : 0 < q.length := List.length_pos_of_mem hip
                  refine ihm (q.erase i) n _ _ L' D' w' hle (List.erase_sublist.trans hqs) (by have := hln; simp only [List.length_append, List.length_cons] at this ⊢; omega) (by rw [← her]; exact hdu.sublist List.erase_sublist) (by simpa using hsz) (fun j hj => hlt j (List.mem_of_mem_erase (show j ∈ (q ++ e1 :: p1.flat).erase i by rw [her]; exact hj))) ?_ (closed_step hltl ho hall hc) (fun hzs j hj hjz => hz hzs j (List.mem_of_mem_erase (show j ∈ (q ++ e1 :: p1.flat).erase i by rw [her]; exact hj)) hjz) hl (hE'.resolve_right hiz) hw'
                  rw [← her]; exact listed_step hdu hltl hr
                 unfold wpOp
                 simp only [ho]
                 rcases hst with ⟨hwt, hg⟩ | ⟨hwt, hR⟩
                 · rw [if_pos hwt]
                   exact .inl (hg.wp next)
                 · rw [if_neg (by simp [hwt])]
                   exact next _ _ hR)
          · exfalso
            rcases k6 i hip hi2 with hd | hd
            · have := hdep _ hc i e1 (fun o' ho' => by rw [ho] at ho'; cases ho'; exact hall) hd
              rw [(hr e1).2 (by simp)] at this
              cases this
            · have := hdep _ hc i e2 (fun o' ho' => by rw [ho] at ho'; cases ho'; exact hall) hd
              rw [(hr e2).2 ((hperm e2).2 (by simp))] at this
              cases this
    have hfl : acc' ++ (Plan.node pre e1 p1 e2 p2).flat = (acc' ++ pre) ++ e1 :: p1.flat := by simp [Plan.flat]
    rw [hfl] at hlen hnd hlt hr hz hE
    exact key _ (acc' ++ pre) n listed a L D w rfl (hsub.append (List.Sublist.refl _)) hlen hnd hsz hlt hr hc hz (lexM_append (fun _ _ _ h => h) acc' a L D h) (hE.resolve_right fun h => by simp at h) hw
  | node3 pre e1 p1 e2 p2 e3 p3 ih1 ih2 ih3 =>
    intro acc hok n acc' listed a L D w hsub hlen hnd hsz hlt hr hc hz h hE hw
    obtain ⟨k1, k2, k2c, k3, k4, k6, k7, k7c, k8, k9, k9c, k10, k11, k11c, k13, k13c, o1, o2, o3⟩ := hok
    -- all that stands ahead of the two
    have key : ∀ (m : Nat) (q : List Nat) (n : Nat) (listed : Array Bool) (a : Act) (L : List Chunk) (D : List Fact) (w : World), q.length = m → q.Sublist (acc ++ pre) → (q ++ e1 :: p1.flat).length = n → (q ++ e1 :: p1.flat).Nodup → listed.size = ops.size → (∀ j ∈ q ++ e1 :: p1.flat, j < ops.size) → (∀ i, listed.getD i true = false ↔ i ∈ q ++ e1 :: p1.flat) → closedL ops listed →
        (z < ops.size → ∀ j ∈ q ++ e1 :: p1.flat, j ≠ z → dep z j = true) → lexM P G ops eff z L0 D0 (fun a L D => lexM P G ops eff z L0 D0 (lexP P G ops eff z L0 D0 Te p1) [e1] a L D ∧ lexM P G ops eff z L0 D0 (lexP P G ops eff z L0 D0 Te p2) [e2] a L D ∧ lexM P G ops eff z L0 D0 (lexP P G ops eff z L0 D0 Te p3) [e3] a L D) q a L D → Ents L D L0 D0 → SatW G w L D → wpAny P .any ops Q' n listed a w := by
      intro m
      induction m with
      | zero => ?_
      | succ m ihm => ?_
      all_goals
        intro q n listed a L D w hqm hqs hln hdu hsz hlt hr hc hz h hE hw
        have hperm : ∀ i, i ∈ q ++ e1 :: p1.flat ↔ i ∈ q ++ e2 :: p2.flat := fun i => by
          rw [List.mem_append, List.mem_append, k7 i]
        have hpermc : ∀ i, i ∈ q ++ e1 :: p1.flat ↔ i ∈ q ++ e3 :: p3.flat := fun i => by
          rw [List.mem_append, List.mem_append, k7c i]
        obtain ⟨n, rfl⟩ : ∃ n', n = n' + 1 := ⟨q.length + p1.flat.length, by rw [← hln]; simp; omega⟩
        have hq3 : ∀ j ∈ q, ∀ k ∈ e1 :: p1.flat, j ≠ k ∧ directB ops j k = false := fun j hj => k3 j (hqs.subset hj)
        have hp1 := k1.sublist (hqs.append (List.Sublist.refl [e1]))
        have hp2 := k2.sublist (hqs.append (List.Sublist.refl [e2]))
        have hp3 := k2c.sublist (hqs.append (List.Sublist.refl [e3]))
        have hpq := (List.pairwise_append.1 hp1).1
        have hzq : z ∉ q := fun hx => k10 (hqs.subset hx)
        have hnq : ∀ e, (e = e1 ∨ e = e2 ∨ e = e3) → e ∉ q := fun e he hx => by
          rcases he with rfl | rfl | rfl
          · exact (hq3 e hx e (by simp)).1 rfl
          · exact (hq3 e hx e ((k7 e).2 (by simp))).1 rfl
          · exact (hq3 e hx e ((k7c e).2 (by simp))).1 rfl
        -- one of the two is taken
        have take : ∀ (e : Nat) (pp : Plan), (e = e1 ∨ e = e2 ∨ e = e3) → e ≠ z → (q ++ [e]).Pairwise (fun j i => pairB dep ops eff j i = true) → (∀ i, i ∈ q ++ e1 :: p1.flat ↔ i ∈ q ++ e :: pp.flat) → (q ++ e :: pp.flat).length = n + 1 → (q ++ e :: pp.flat).Nodup →
            (∀ (n : Nat) (acc' : List Nat) (listed : Array Bool) (a : Act) (L : List Chunk) (D : List Fact) (w : World), acc'.Sublist (acc ++ pre) → (acc' ++ pp.flat).length = n → (acc' ++ pp.flat).Nodup → listed.size = ops.size → (∀ j ∈ acc' ++ pp.flat, j < ops.size) → (∀ i, listed.getD i true = false ↔ i ∈ acc' ++ pp.flat) → closedL ops listed →
              (z < ops.size → ∀ j ∈ acc' ++ pp.flat, j ≠ z → dep z j = true) → lexM P G ops eff z L0 D0 (lexP P G ops eff z L0 D0 Te pp) acc' a L D → (Ents L D L0 D0 ∨ acc' ++ pp.flat = []) → SatW G w L D → wpAny P .any ops Q' n listed a w) →
            lexM P G ops eff z L0 D0 (lexP P G ops eff z L0 D0 Te pp) (q ++ [e]) a L D → e ∈ Region.ready .any ops listed → wpOp P ops Q' e (wpAny P .any ops Q' n (listed.setIfInBounds e true)) a w := by
          intro e pp he hez hpe hpm hle hndp ihp hlex hi
          obtain ⟨hun, o, ho, hall⟩ := mem_ready.1 hi
          have hcl : clearM ops eff e o (q ++ [e]) := clear_of_pairsX hdep hc ho hall (by simp) (fun j hj => (hr j).2 ((hpm j).2 (by
            rcases List.mem_append.1 hj with hj | hj
            · simp [hj]
            · rw [List.mem_singleton.1 hj]; simp))) (hpe.imp fun {j k} (h : pairB dep ops eff j k = true) (_ : k = e) => h)
          have hst := bubble hs ho (q ++ [e]) a L D w hcl hlex hE hw
          have her : (q ++ [e]).erase e = q := by
            rw [List.erase_append_right _ (hnq e he)]; simp
          have hlte : e < listed.size := by
            rcases Nat.lt_or_ge e listed.size with h | h
            · exact h
            · simp [Array.getElem?_eq_none h] at hun
          have her2 : (q ++ e :: pp.flat).erase e = q ++ pp.flat := by
            rw [List.erase_append_right _ (hnq e he), List.erase_cons_head]
          have next : ∀ u w', (∃ L' D', SatW G w' L' D' ∧ (Ents L' D' L0 D0 ∨ e = z) ∧ lexM P G ops eff z L0 D0 (lexP P G ops eff z L0 D0 Te pp) ((q ++ [e]).erase e) (a.put o.dst u) L' D') → wpAny P .any ops Q' n (listed.setIfInBounds e true) (a.put o.dst u) w' := by
            rintro u w' ⟨L', D', hw', hE', hl⟩
            rw [her] at hl
            have hin : ∀ j ∈ q ++ pp.flat, j ∈ q ++ e1 :: p1.flat := fun j hj => (hpm j).2 (by
              rcases List.mem_append.1 hj with hj | hj
              · exact List.mem_append_left _ hj
              · exact List.mem_append_right _ (List.mem_cons_of_mem _ hj))
            refine ihp n q _ _ L' D' w' hqs (by simp at hle ⊢; omega) (hndp.sublist (List.Sublist.append (List.Sublist.refl _) (List.sublist_cons_self _ _))) (by simpa using hsz) (fun j hj => hlt j (hin j hj)) ?_ (closed_step hlte ho hall hc) (fun hzs j hj hjz => hz hzs j (hin j hj) hjz) hl (.inl (hE'.resolve_right hez)) hw'
            rw [← her2]
            exact listed_step hndp hlte fun k => (hr k).trans (hpm k)
          unfold wpOp
          simp only [ho]
          rcases hst with ⟨hwt, hg⟩ | ⟨hwt, hR⟩
          · rw [if_pos hwt]
            exact .inl (hg.wp next)
          · rw [if_neg (by simp [hwt])]
            exact next _ _ hR
        refine ⟨fun hnil => ?_, fun i hi => ?_⟩
        · exfalso
          cases q with
          | nil => exact first_ready hed hsz hr (fun k hk => (k4 k hk).2) (hlt _ (by simp)) hnil
          | cons j q =>
            refine first_ready hed hsz hr (fun k hk => ?_) (hlt _ (by simp)) hnil
            rcases List.mem_append.1 hk with hk | hk
            · have := (List.pairwise_cons.1 hpq).1 k hk
              simp only [pairB, Bool.and_eq_true, Bool.not_eq_true'] at this
              exact this.1.2
            · exact (hq3 j (by simp) k hk).2
        · by_cases hi1 : i = e1
          · subst hi1
            exact take i p1 (.inl rfl) k8 hp1 (fun _ => Iff.rfl) hln hdu (ih1 _ o1) (lexM_append (fun _ _ _ h => h.1) q a L D h) hi
          by_cases hi2 : i = e2
          · subst hi2
            have hle2 : (q ++ i :: p2.flat).length = n + 1 := by
              have h9 := hln
              simp only [List.length_append, List.length_cons] at h9 ⊢
              omega
            have hnd2 : (q ++ i :: p2.flat).Nodup := k13.sublist (hqs.append (List.Sublist.refl _))
            exact take i p2 (.inr (.inl rfl)) k9 hp2 hperm hle2 hnd2 (ih2 _ o2) (lexM_append (fun _ _ _ h => h.2.1) q a L D h) hi
          by_cases hi3 : i = e3
          · subst hi3
            have hle3 : (q ++ i :: p3.flat).length = n + 1 := by
              have h9 := hln
              simp only [List.length_append, List.length_cons] at h9 ⊢
              omega
            have hnd3 : (q ++ i :: p3.flat).Nodup := k13c.sublist (hqs.append (List.Sublist.refl _))
            exact take i p3 (.inr (.inr rfl)) k9c hp3 hpermc hle3 hnd3 (ih3 _ o3) (lexM_append (fun _ _ _ h => h.2.2) q a L D h) hi
          obtain ⟨hun, o, ho, hall⟩ := mem_ready.1 hi
          have hm := (hr i).1 hun
          have hmem : i ∈ q ∨ i ∈ p1.flat := by
            simp only [List.mem_append, List.mem_cons] at hm
            rcases hm with h | h | h
            · exact .inl h
            · exact absurd h hi1
            · exact .inr h
          rcases hmem with hip | hip
          · have hcl : clearM ops eff i o q := clear_of_pairsX hdep hc ho hall hip (fun j hj => (hr j).2 (by simp [hj])) (hpq.imp fun {j k} (h : pairB dep ops eff j k = true) (_ : k = i) => h)
            have hst := bubble hs ho q a L D w hcl h hE hw
            have hltl : i < listed.size := by
              rcases Nat.lt_or_ge i listed.size with h | h
              · exact h
              · simp [Array.getElem?_eq_none h] at hun
            have her : (q ++ e1 :: p1.flat).erase i = q.erase i ++ e1 :: p1.flat := List.erase_append_left _ hip
            first
              | (exfalso; rw [List.eq_nil_of_length_eq_zero hqm] at hip; cases hip)
              | (have next : ∀ u w', (∃ L' D', SatW G w' L' D' ∧ (Ents L' D' L0 D0 ∨ i = z) ∧ lexM P G ops eff z L0 D0 (fun a L D => lexM P G ops eff z L0 D0 (lexP P G ops eff z L0 D0 Te p1) [e1] a L D ∧ lexM P G ops eff z L0 D0 (lexP P G ops eff z L0 D0 Te p2) [e2] a L D ∧ lexM P G ops eff z L0 D0 (lexP P G ops eff z L0 D0 Te p3) [e3] a L D) (q.erase i) (a.put o.dst u) L' D') → wpAny P .any ops Q' n (listed.setIfInBounds i true) (a.put o.dst u) w' := by
                  rintro u w' ⟨L', D', hw', hE', hl⟩
                  have hiz : i ≠ z := fun hx => hzq (hx ▸ hip)
                  have hle : (q.erase i).length = m := by rw [List.length_erase_of_mem hip]; omega
                  have hqpos : 0 < q.length := List.length_pos_of_mem hip
                  refine ihm (q.erase i) n _ _ L' D' w' hle (List.erase_sublist.trans hqs) (by have := hln; simp only [List.length_append, List.length_cons] at this ⊢; omega) (by rw [← her]; exact hdu.sublist List.erase_sublist) (by simpa using hsz) (fun j hj => hlt j (List.mem_of_mem_erase (show j ∈ (q ++ e1 :: p1.flat).erase i by rw [her]; exact hj))) ?_ (closed_step hltl ho hall hc) (fun hzs j hj hjz => hz hzs j (List.mem_of_mem_erase (show j ∈ (q ++ e1 :: p1.flat).erase i by rw [her]; exact hj)) hjz) hl (hE'.resolve_right hiz) hw'
                  rw [← her]; exact listed_step hdu hltl hr
                 unfold wpOp
                 simp only [ho]
                 rcases hst with ⟨hwt, hg⟩ | ⟨hwt, hR⟩
                 · rw [if_pos hwt]
                   exact .inl (hg.wp next)
                 · rw [if_neg (by simp [hwt])]
                   exact next _ _ hR)
          · exfalso
            rcases k6 i hip hi2 hi3 with hd | hd | hd
            · have := hdep _ hc i e1 (fun o' ho' => by rw [ho] at ho'; cases ho'; exact hall) hd
              rw [(hr e1).2 (by simp)] at this
              cases this
            · have := hdep _ hc i e2 (fun o' ho' => by rw [ho] at ho'; cases ho'; exact hall) hd
              rw [(hr e2).2 ((hperm e2).2 (by simp))] at this
              cases this
            · have := hdep _ hc i e3 (fun o' ho' => by rw [ho] at ho'; cases ho'; exact hall) hd
              rw [(hr e3).2 ((hpermc e3).2 (by simp))] at this
              cases this
    have hfl : acc' ++ (Plan.node3 pre e1 p1 e2 p2 e3 p3).flat = (acc' ++ pre) ++ e1 :: p1.flat := by simp [Plan.flat]
    rw [hfl] at hlen hnd hlt hr hz hE
    exact key _ (acc' ++ pre) n listed a L D w rfl (hsub.append (List.Sublist.refl _)) hlen hnd hsz hlt hr hc hz (lexM_append (fun _ _ _ h => h) acc' a L D h) (hE.resolve_right fun h => by simp at h) hw

/-! ### The check -/

def ndB : List Nat → Bool
  | [] => true
  | x :: r => !r.contains x && ndB r
theorem nd_spec : ∀ {l : List Nat}, ndB l = true → l.Nodup
  | [], _ => .nil
  | x :: r, h => by
    simp only [ndB, Bool.and_eq_true, Bool.not_eq_true'] at h
    exact List.nodup_cons.2 ⟨contains_not h.1, nd_spec h.2⟩
def apartB (ops : Array Oper) (j k : Nat) : Bool := j != k && !directB ops j k
theorem apart_spec {j k : Nat} (h : apartB ops j k = true) : j ≠ k ∧ directB ops j k = false := by
  simp only [apartB, Bool.and_eq_true, bne_iff_ne, Bool.not_eq_true'] at h; exact h

def okPB (dep : Nat → Nat → Bool) (ops : Array Oper) (eff : Nat → Bool) (z : Nat) : List Nat → Plan → Bool
  | acc, .leaf r => okD.go dep ops eff (acc ++ r)
  | acc, .node pre e1 p1 e2 p2 =>
    okD.go dep ops eff ((acc ++ pre) ++ [e1]) && okD.go dep ops eff ((acc ++ pre) ++ [e2]) && (acc ++ pre).all (fun j => (e1 :: p1.flat).all (apartB ops j)) && p1.flat.all (apartB ops e1) && p2.flat.all (fun k => e2 != k) && (e1 != e2)
      && p1.flat.all (fun i => Nat.beq i e2 || dep i e1 || dep i e2) && (e1 :: p1.flat).all (fun i => (e2 :: p2.flat).contains i) && (e2 :: p2.flat).all (fun i => (e1 :: p1.flat).contains i) && (e1 != z) && (e2 != z) && !(acc ++ pre).contains z
      && Nat.beq p1.flat.length p2.flat.length && ndB ((acc ++ pre) ++ e2 :: p2.flat) && okPB dep ops eff z (acc ++ pre) p1 && okPB dep ops eff z (acc ++ pre) p2
  | acc, .node3 pre e1 p1 e2 p2 e3 p3 =>
    (okD.go dep ops eff ((acc ++ pre) ++ [e1]) && (okD.go dep ops eff ((acc ++ pre) ++ [e2]) && (okD.go dep ops eff ((acc ++ pre) ++ [e3]) && ((acc ++ pre).all (fun j => (e1 :: p1.flat).all (apartB ops j)) && (p1.flat.all (apartB ops e1) && (p1.flat.all (fun i => Nat.beq i e2 || (Nat.beq i e3 || (dep i e1 || (dep i e2 || dep i e3))))
      && ((e1 :: p1.flat).all (fun i => (e2 :: p2.flat).contains i) && ((e2 :: p2.flat).all (fun i => (e1 :: p1.flat).contains i) && ((e1 :: p1.flat).all (fun i => (e3 :: p3.flat).contains i) && ((e3 :: p3.flat).all (fun i => (e1 :: p1.flat).contains i) && ((e1 != z) && ((e2 != z) && ((e3 != z) && (!(acc ++ pre).contains z && (Nat.beq p1.flat.length p2.flat.length && (Nat.beq p1.flat.length p3.flat.length && (ndB ((acc ++ pre) ++ e2 :: p2.flat) && (ndB ((acc ++ pre) ++ e3 :: p3.flat)
      && (okPB dep ops eff z (acc ++ pre) p1 && (okPB dep ops eff z (acc ++ pre) p2 && okPB dep ops eff z (acc ++ pre) p3))))))))))))))))))))

theorem okP_of : ∀ (p : Plan) (acc : List Nat), okPB dep ops eff z acc p = true → okP dep ops eff z acc p
  | .leaf r, acc, h => go_pairwise h
  | .node pre e1 p1 e2 p2, acc, h => by
    simp only [okPB, Bool.and_eq_true] at h
    obtain ⟨⟨⟨⟨⟨⟨⟨⟨⟨⟨⟨⟨⟨⟨⟨h1, h2⟩, h3⟩, h4⟩, h5⟩, h6⟩, h7⟩, h8⟩, h9⟩, h10⟩, h11⟩, h12⟩, h13⟩, h14⟩, h15⟩, h16⟩ := h
    refine ⟨go_pairwise h1, go_pairwise h2, fun j hj k hk => apart_spec (List.all_eq_true.1 (List.all_eq_true.1 h3 j hj) k hk), fun k hk => apart_spec (List.all_eq_true.1 h4 k hk), fun k hk => bne_iff_ne.1 (List.all_eq_true.1 h5 k hk), bne_iff_ne.1 h6, fun i hi hie => ?_, fun i => ⟨fun hi => ?_, fun hi => ?_⟩, bne_iff_ne.1 h10, bne_iff_ne.1 h11, contains_not (by simpa using h12), Nat.eq_of_beq_eq_true h13, nd_spec h14, okP_of p1 _ h15, okP_of p2 _ h16⟩
    · have := List.all_eq_true.1 h7 i hi
      rcases Bool.or_eq_true_iff.1 this with hx | hx
      · rcases Bool.or_eq_true_iff.1 hx with hy | hy
        · exact absurd (Nat.eq_of_beq_eq_true hy) hie
        · exact .inl hy
      · exact .inr hx
    · exact List.contains_iff_mem.1 (List.all_eq_true.1 h8 i hi)
    · exact List.contains_iff_mem.1 (List.all_eq_true.1 h9 i hi)
  | .node3 pre e1 p1 e2 p2 e3 p3, acc, h => by
    simp only [okPB, Bool.and_eq_true] at h
    obtain ⟨h1, h2, h2c, h3, h4, h7, h8, h9, h8c, h9c, h10, h11, h11c, h12, h13, h13c, h14, h14c, h15, h16, h17⟩ := h
    refine ⟨go_pairwise h1, go_pairwise h2, go_pairwise h2c, fun j hj k hk => apart_spec (List.all_eq_true.1 (List.all_eq_true.1 h3 j hj) k hk), fun k hk => apart_spec (List.all_eq_true.1 h4 k hk), fun i hi hie hic => ?_, fun i => ⟨fun hi => ?_, fun hi => ?_⟩, fun i => ⟨fun hi => ?_, fun hi => ?_⟩, bne_iff_ne.1 h10, bne_iff_ne.1 h11, bne_iff_ne.1 h11c, contains_not (by simpa using h12), Nat.eq_of_beq_eq_true h13, Nat.eq_of_beq_eq_true h13c, nd_spec h14, nd_spec h14c, okP_of p1 _ h15, okP_of p2 _ h16, okP_of p3 _ h17⟩
    · have := List.all_eq_true.1 h7 i hi
      rcases Bool.or_eq_true_iff.1 this with hx | hx
      · exact absurd (Nat.eq_of_beq_eq_true hx) hie
      · rcases Bool.or_eq_true_iff.1 hx with hy | hy
        · exact absurd (Nat.eq_of_beq_eq_true hy) hic
        · rcases Bool.or_eq_true_iff.1 hy with hz | hz
          · exact .inl hz
          · exact .inr (Bool.or_eq_true_iff.1 hz)
    · exact List.contains_iff_mem.1 (List.all_eq_true.1 h8 i hi)
    · exact List.contains_iff_mem.1 (List.all_eq_true.1 h9 i hi)
    · exact List.contains_iff_mem.1 (List.all_eq_true.1 h8c i hi)
    · exact List.contains_iff_mem.1 (List.all_eq_true.1 h9c i hi)

/-- The check of a whole region. -/
def okT (A : List Nat) (ops : Array Oper) (eff : Nat → Bool) (z : Nat) (p : Plan) : Bool :=
  Nat.ble A.length ops.size && masksB A ops && Region.noSelect ops && edgesB ops && p.flat.all (· < ops.size) && (List.range ops.size).all (p.flat.contains ·) && ndB p.flat && (Nat.ble ops.size z || p.flat.all fun j => Nat.beq j z || (A.getD z 0).testBit j)
    && okPB (fun i j => (A.getD i 0).testBit j) ops eff z [] p

theorem region_of_lexP {A : List Nat} {id : Nat} {p : Plan} {a : Act} {L : List Chunk} {D : List Fact} {w : World} {Q' : Exit → Act → World → Prop} (hm : P.follows .mixedOrders = true) (hB : okT A ops eff z p = true) (hQ : ∀ a L D w, Te a L D → SatW G w L D → Q' .normal a w)
    (h : lexP P G ops eff z L0 D0 Te p a L D) (hE : Ents L D L0 D0) (hw : SatW G w L D) : (Code.region id ops true).wp P Q' a w := by
  simp only [okT, Bool.and_eq_true, Bool.or_eq_true] at hB
  obtain ⟨⟨⟨⟨⟨⟨⟨⟨hA, hmk⟩, hs⟩, hed⟩, hlt⟩, hall⟩, hnd⟩, hz⟩, hok⟩ := hB
  have hnd := nd_spec hnd
  have hperm : p.flat.Perm (List.range ops.size) := by
    rw [List.perm_ext_iff_of_nodup hnd List.nodup_range]
    intro i
    rw [List.mem_range]
    refine ⟨fun hi => by simpa using List.all_eq_true.1 hlt i hi, fun hi => ?_⟩
    have := List.all_eq_true.1 hall i (List.mem_range.2 hi)
    rwa [List.contains_iff_mem] at this
  have hlen : p.flat.length = ops.size := by
    have := hperm.length_eq
    simpa using this
  refine wp_region_any hm ?_
  refine any_of_lexP (depOK_masks hmk hA) hs (edgesB_spec hed) hQ p [] (okP_of p [] hok) ops.size [] _ a L D _ (List.Sublist.refl _) (by simpa using hlen) (by simpa using hnd) (by simp) (fun j hj => by rw [List.nil_append, hperm.mem_iff, List.mem_range] at hj; exact hj) (fun i => ?_) ?_ ?_ h (.inl hE) (satW_drew hw)
  · rw [List.nil_append, hperm.mem_iff, List.mem_range]
    by_cases hi : i < ops.size
    · simp [hi]
    · simp [hi]
  · intro i o ho hl
    exfalso
    have hi : i < ops.size := (Array.getElem?_eq_some_iff.1 ho).1
    simp [hi] at hl
  · intro hzs j hj hjz
    rw [List.nil_append] at hj
    rcases hz with hz | hz
    · exact absurd (Nat.le_of_ble_eq_true hz) (by omega)
    · have := List.all_eq_true.1 hz j hj
      rcases Bool.or_eq_true_iff.1 this with h1 | h1
      · exact absurd (Nat.eq_of_beq_eq_true h1) hjz
      · exact h1

/-- The execution along a tree. -/
def vcP (P : Program) (T : Ty) (N : Nat) (ops : List Oper) (eff : List Nat) (z : Nat) (L0 : List Chunk) (D0 : List Fact) : Plan → Env → List Chunk → List Fact → Nat → Kont → Prop
  | .leaf r, env, L, D, nid, k => vcM P T N ops eff z L0 D0 r env L D nid k
  | .node pre e1 p1 e2 p2, env, L, D, nid, k => vcM P T N ops eff z L0 D0 pre env L D nid fun env' L' D' n' => TwoP (vcM P T N ops eff z L0 D0 [e1] env' L' D' n' (vcP P T N ops eff z L0 D0 p1 · · · · k)) (vcM P T N ops eff z L0 D0 [e2] env' L' D' n' (vcP P T N ops eff z L0 D0 p2 · · · · k))
  | .node3 pre e1 p1 e2 p2 e3 p3, env, L, D, nid, k => vcM P T N ops eff z L0 D0 pre env L D nid fun env' L' D' n' => TwoP (vcM P T N ops eff z L0 D0 [e1] env' L' D' n' (vcP P T N ops eff z L0 D0 p1 · · · · k)) (TwoP (vcM P T N ops eff z L0 D0 [e2] env' L' D' n' (vcP P T N ops eff z L0 D0 p2 · · · · k)) (vcM P T N ops eff z L0 D0 [e3] env' L' D' n' (vcP P T N ops eff z L0 D0 p3 · · · · k)))

theorem vcP_sound {N : Nat} {T : Ty} (hT : TyOK P T) (ops : List Oper) (eff : List Nat) {k : Kont} {Te : Act → List Chunk → List Fact → Prop} (hQ : ∀ env' L' D' n' a', k env' L' D' n' → EnvOK N env' a' → Te a' L' D') :
    ∀ (p : Plan) (env : Env) (L : List Chunk) (D : List Fact) (nid : Nat) (a : Act), vcP P T N ops eff z L0 D0 p env L D nid k → EnvOK N env a → lexP P G ops.toArray (fun i => eff.contains i) z L0 D0 Te p a L D
  | .leaf r, env, L, D, nid, a, h, he => vcM_sound hT ops eff hQ r env L D nid a h he
  | .node pre e1 p1 e2 p2, env, L, D, nid, a, h, he =>
    vcM_sound (Te := fun a L D => lexM P G ops.toArray (fun i => eff.contains i) z L0 D0 (lexP P G ops.toArray (fun i => eff.contains i) z L0 D0 Te p1) [e1] a L D ∧ lexM P G ops.toArray (fun i => eff.contains i) z L0 D0 (lexP P G ops.toArray (fun i => eff.contains i) z L0 D0 Te p2) [e2] a L D)
      hT ops eff (fun env' L' D' n' a' hk he' =>
        ⟨vcM_sound (Te := lexP P G ops.toArray (fun i => eff.contains i) z L0 D0 Te p1) hT ops eff (fun env2 L2 D2 n2 a2 hk2 he2 => vcP_sound hT ops eff hQ p1 env2 L2 D2 n2 a2 hk2 he2) [e1] env' L' D' n' a' hk.l he',
         vcM_sound (Te := lexP P G ops.toArray (fun i => eff.contains i) z L0 D0 Te p2) hT ops eff (fun env2 L2 D2 n2 a2 hk2 he2 => vcP_sound hT ops eff hQ p2 env2 L2 D2 n2 a2 hk2 he2) [e2] env' L' D' n' a' hk.r he'⟩) pre env L D nid a h he
  | .node3 pre e1 p1 e2 p2 e3 p3, env, L, D, nid, a, h, he =>
    vcM_sound (Te := fun a L D => lexM P G ops.toArray (fun i => eff.contains i) z L0 D0 (lexP P G ops.toArray (fun i => eff.contains i) z L0 D0 Te p1) [e1] a L D ∧ lexM P G ops.toArray (fun i => eff.contains i) z L0 D0 (lexP P G ops.toArray (fun i => eff.contains i) z L0 D0 Te p2) [e2] a L D ∧ lexM P G ops.toArray (fun i => eff.contains i) z L0 D0 (lexP P G ops.toArray (fun i => eff.contains i) z L0 D0 Te p3) [e3] a L D)
      hT ops eff (fun env' L' D' n' a' hk he' =>
        ⟨vcM_sound (Te := lexP P G ops.toArray (fun i => eff.contains i) z L0 D0 Te p1) hT ops eff (fun env2 L2 D2 n2 a2 hk2 he2 => vcP_sound hT ops eff hQ p1 env2 L2 D2 n2 a2 hk2 he2) [e1] env' L' D' n' a' hk.l he',
         vcM_sound (Te := lexP P G ops.toArray (fun i => eff.contains i) z L0 D0 Te p2) hT ops eff (fun env2 L2 D2 n2 a2 hk2 he2 => vcP_sound hT ops eff hQ p2 env2 L2 D2 n2 a2 hk2 he2) [e2] env' L' D' n' a' hk.r.l he',
         vcM_sound (Te := lexP P G ops.toArray (fun i => eff.contains i) z L0 D0 Te p3) hT ops eff (fun env2 L2 D2 n2 a2 hk2 he2 => vcP_sound hT ops eff hQ p3 env2 L2 D2 n2 a2 hk2 he2) [e3] env' L' D' n' a' hk.r.r he'⟩) pre env L D nid a h he

/-- A region that draws its order, executed along a tree of orders; what its quiet operations look at is named by slots. -/
theorem J_drawP {N : Nat} {env : Env} {T : Ty} (hT : TyOK P T) (hm : P.follows .mixedOrders = true) {id : Nat} {ops : List Oper} {L : List Chunk} {D : List Fact} {nid : Nat} {K : Kt} (A : List Nat) (p : Plan) (eff slots : List Nat) (z : Nat) (b : Bool) (hB : okT A ops.toArray (fun i => eff.contains i) z p = true)
    (h : vcP P T N ops eff z (keepC b (slotIds env slots) L) D p env L D nid (K .normal)) : J P G N (.region id ops.toArray true) env L D nid K :=
  ⟨fun a w he hs => region_of_lexP (z := z) (Te := fun a' L' D' => ∀ w', SatW G w' L' D' → PostK G N K .normal a' w') hm hB (fun _ _ _ w' h hw => h w' hw)
    (vcP_sound hT ops eff (fun env' L' D' n' a' hk he' w' hs' => ⟨env', L', D', n', hk, he', hs'⟩) p env L D nid a h he) (Ents.ofSub (keepC_sub _ _ _) fun _ h => h) hs⟩

end Go.X
