/- This text proves the statement HtmlRender for every input of bulk at most 1048576: the call returns true, and leaves its arguments alone. -/
import Derived.Test.YtdnkeinjfddmnaaGreatDoorV15
import Derived.Test.YtdnkeinjfddmnaaGreatDoorV05
import Derived.Test.YtdnkeinjfddmnaaGreatDoorV08
import Derived.Test.YtdnkeinjfddmnaaGreatDoorV14
set_option linter.all false
namespace Go.Proofs
open Go Go.X Go.Lib
set_option maxRecDepth 100000
set_option maxHeartbeats 16000000 in
theorem refRender_ok (bs : List Blk) (hb : blkBulk bs ≤ 1048576) (hq : blkNodes bs * blkBulk bs ≤ 1000000000) (hf : blkFit bs) (ms : List (Int × List UInt8)) (hml : ms.length ≤ 100000000) (ba ma : Option Addr) (bc mc : Nat) :
    FnS Tryz.prog 21 [.c (.sl ba bs.length bc), .c (.sl ma ms.length mc)] [] [blkF ba bs, misF ma ms] (Is (.c (.s (renT (misP ms) bs)))) := by
  have hbl := blkNodes_len bs
  have hbk := blkNodes_bulk bs
  have hmn := blkMarks_nodes bs
  have c1 := refContents_ok bs (by omega) ba bc
  have c2 := refMarks_ok _ bs rfl ba bc (by omega)
  have c3 := refNotes_ok bs (by omega) ba bc
  have hdn := docNotes bs
  have hdc := docConts bs hf (by omega)
  refine fn_of_J Tryz.tyOK 0 Tryz.func21 (by kernel_rfl) (c := Tryz.f21.body.getD .skip) (by kernel_rfl) Tryz.ntmps21 (rs := Tryz.f21.results.toList) rfl (by simp) (fun G => ?_)
  repeat' first
    | refine J_stop (c := .seq (.seq (.region 4 _ _) _) _) ?_
    | refine J_seq ?_ | refine J_region Tryz.tyOK ?_ | refine J_block ?_ | refine J_cond ?_ | refine J_ret ?_ | refine J_skip ?_ | refine J_exit ?_ | refine J_scope ?_
    | refine CondP.yes (by omega) ?_ | refine CondP.no (by omega) ?_ | refine CondP.mk (fun h => ?_) (fun h => ?_) | refine EqP.mk rfl ?_ | refine NewP.mk (fun ad => ?_) | refine ArP.exact (by simp only [inR]; omega) ?_ | refine SideP.mk (by first | omega | (dsimp only; omega) | (simp; omega)) ?_
    | (refine CallP.mk [] _ [blkF ba bs] _ c1 (List.Perm.refl _) (fun _ h => ⟨h.1, trivial⟩) (fun v L' D' hp => ?_); obtain ⟨ea, ec, rfl, rfl, rfl⟩ := hp) | (refine CallP.mk [] _ [blkF ba bs] _ c3 (List.Perm.refl _) (fun _ h => ⟨h.2.1, trivial⟩) (fun v L' D' hp => ?_); obtain ⟨na, nc, ns, hps, rfl, rfl, rfl⟩ := hp) | (refine CallP.mk [] _ [blkF ba bs] _ c2 (List.Perm.refl _) (fun _ h => ⟨h.2.2.1, trivial⟩) (fun v L' D' hp => ?_); obtain ⟨ka, kc, rfl, rfl, rfl⟩ := hp)
    | fail
  refine ⟨?_⟩
  rename_i adB
  obtain ⟨adN, hadN⟩ : ∃ y, y = ad := ⟨_, rfl⟩
  subst hadN
  obtain ⟨M, hM⟩ : ∃ y, y = (blkMarks bs).length := ⟨_, rfl⟩
  rw [← hM] at hmn hdn
  have hnsl : ns.length = (notesP (inlEra (blkMarks bs))).length := by rw [← hps]; simp
  have hnM : ns.length ≤ M := by rw [hnsl]; exact hdn.1
  have hun : ∀ n ∈ ns, inlBulk n.inl ≤ blkBulk bs ∧ n.uses.length ≤ M ∧ ∀ k ∈ n.uses, 1 ≤ k ∧ k ≤ M := fun n hn => by
    have := hdn.2 n.pure (by rw [← hps]; exact List.mem_map_of_mem hn)
    rw [show n.pure.inl = inlEra n.inl from rfl, inlEra_bulk] at this
    exact this
  have hpl : (pureN ns).length = ns.length := by simp
  obtain ⟨W, hW⟩ : ∃ W, W = docW (misP ms) bs := ⟨_, rfl⟩
  have hWn : W.ns = numsFrom 0 (pureN ns) (List.replicate M 0) := by rw [hW, hps, hM]; rfl
  have hWl : W.ns.length = M := by rw [hW, hM]; exact numsT_len _ _
  have hWa : W.an = ancs (contT bs) := by rw [hW]; rfl
  have hWb : ∀ j ∈ W.ns, 0 ≤ j ∧ j ≤ 100000000 := by rw [hW]; exact numsT_b _ _ (by omega)
  obtain ⟨K, hK⟩ : ∃ K : RfK, K = ⟨adB, ma, mc, ms, some ⟨adN, 0, none⟩, M, ea, ec, (contT bs).length⟩ := ⟨_, rfl⟩
  have hWP : ∀ t, W.P t = misP K.ms t := fun t => by rw [hW, hK]; rfl
  have hre : renT (misP ms) bs = contsT (contT bs) ++ blksRen W true 0 0 bs ++ listT W (pureN ns) := by rw [hps, hW]; rfl
  rw [hre]
  clear c1 c2 c3 hre
  refine J_cut (α := Unit) (fun _ => [(0, .c (.sl ba bs.length bc)), (5, .c (.p 0 K.ab 0)), (6, .c (.sl na ns.length nc))]) (fun _ => rfM K W true 0 0) (fun _ => [notesF na ns, entF K.ea (contT bs), blkF ba bs, misF K.ma K.ms, noteG K W]) 1 (fun _ => True) ?_ (fun _ _ => ?_)
  · repeat' first
      | refine J_seq ?_ | refine J_region Tryz.tyOK ?_ | refine J_block ?_ | refine J_cond ?_ | refine J_ret ?_ | refine J_skip ?_ | refine J_exit ?_ | refine J_scope ?_
      | refine CondP.yes (by omega) ?_ | refine CondP.no (by omega) ?_ | refine CondP.mk (fun h => ?_) (fun h => ?_) | refine EqP.mk rfl ?_ | refine NewP.mk (fun ad => ?_) | refine ArP.exact (by simp only [inR]; omega) ?_ | refine SideP.mk (by first | omega | (dsimp only; omega) | (simp; omega)) ?_
      | fail
    refine J_loop (α := Nat × List Int) (fun x => [(0, .c (.sl ba bs.length bc)), (5, .c (.p 0 adB 0)), (6, .c (.sl na ns.length nc)), (7, .c (.i .i64 x.1))])
      (fun x => [.box 0 adB 94 [.sl ma ms.length mc, .sl (some ⟨adN, 0, none⟩) M M, .i .i64 0, .sl ea (contT bs).length ec, .i .i64 0, .b false], .row 3 1 (some ⟨adN, 0, none⟩) M M (x.2.map (C.i .i64))]) (fun _ => [notesF na ns, entF ea (contT bs), blkF ba bs, misF ma ms]) 1
      (fun x => x.1 ≤ ns.length ∧ x.2 = numsFrom 0 ((pureN ns).take x.1) (List.replicate M 0)) (fun x => ns.length - x.1)
      (InFam.mk (0, List.replicate M 0) ⟨Nat.zero_le _, by simp [numsFrom]⟩ (by repeat' first | exact SubE.nil | refine SubE.cons rfl ?_ ?_ | exact VEq.refl _ | refine VEq.int (by omega) | refine VEq.sl rfl (by first | rfl | omega | (rw [List.length_append]; rfl) | (simp; omega)) rfl) ((Ents.perm (List.Perm.swap _ _ _)).trans ((Ents.of (by rw [Int.toNat_natCast, ← hM, repC_ints]; rfl)).trans (Ents.facts fun _ h => ⟨h.2.1, h.2.2.1, h.2.2.2.1, h.2.2.2.2.1, trivial⟩)))) (fun x hx => ?_)
    obtain ⟨i, vs⟩ := x
    obtain ⟨hi, hvs⟩ := hx
    dsimp only at hi hvs ⊢
    by_cases hlt : i < ns.length
    · have hst := numsFrom_succ (ps := pureN ns) (i := i) (List.replicate M 0) (by omega)
      have hgp : ((pureN ns)[i]'(by omega)).uses = ns[i].uses := by simp [NoM.pure]
      rw [hgp, ← hvs] at hst
      have hvl : vs.length = M := by rw [hvs, numsFrom_len, List.length_replicate]
      have hg2 : ((noC ns).drop (i * 3 + 2)).take 1 = [.sl ns[i].ua ns[i].uses.length ns[i].uc] := noC_get (o := 2) (k := 1) hlt (by omega)
      have hrd : ∀ L, Reads L [notesF na ns, entF ea (contT bs), blkF ba bs, misF ma ms] 89 3 na ns.length (noC ns) := fun _ => .inr fun m hm => hm.1.1
      have hru : ∀ L, Reads L [notesF na ns, entF ea (contT bs), blkF ba bs, misF ma ms] 3 1 ns[i].ua ns[i].uses.length (ns[i].uses.map (C.i .i64)) := fun _ => .inr fun m hm => (hm.1.2 ns[i] (List.getElem_mem hlt)).2
      have hev1 := hun ns[i] (List.getElem_mem hlt)
      clear hdn hdc hgp hun hvs hWn hWP hWa hWb
      generalize ns[i] = n at *
      repeat' first
        | refine J_seq ?_ | refine J_region Tryz.tyOK ?_ | refine J_block ?_ | refine J_cond ?_ | refine J_ret ?_ | refine J_skip ?_ | refine J_exit ?_ | refine J_scope ?_
        | refine CondP.yes (by omega) ?_ | refine CondP.no (by omega) ?_ | refine CondP.mk (fun h => ?_) (fun h => ?_) | refine EqP.mk rfl ?_ | refine NewP.mk (fun ad => ?_) | refine ArP.exact (by simp only [inR]; omega) ?_ | refine SideP.mk (by first | omega | (dsimp only; omega) | (simp; omega)) ?_
        | fail
      have hrt : ∀ (j : Nat) (hj : j < n.uses.length), ((n.uses.map (C.i .i64)).drop (j * 1 + 0)).take 1 = [.i .i64 n.uses[j]] := fun j hj => by
        rw [show j * 1 + 0 = j by omega, ← List.map_drop, ← List.map_take, List.drop_eq_getElem_cons hj]; rfl
      refine J_loop (α := Nat × List Int) (fun x => [(0, .c (.sl ba bs.length bc)), (5, .c (.p 0 adB 0)), (6, .c (.sl na ns.length nc)), (7, .c (.i .i64 i)), (8, .c (.i .i64 x.1))])
        (fun x => [.box 0 adB 94 [.sl ma ms.length mc, .sl (some ⟨adN, 0, none⟩) M M, .i .i64 0, .sl ea (contT bs).length ec, .i .i64 0, .b false], .row 3 1 (some ⟨adN, 0, none⟩) M M (x.2.map (C.i .i64))]) (fun _ => [notesF na ns, entF ea (contT bs), blkF ba bs, misF ma ms]) 1
        (fun x => x.1 ≤ n.uses.length ∧ x.2 = setU i vs (n.uses.take x.1)) (fun x => n.uses.length - x.1)
        (InFam.mk (0, vs) ⟨Nat.zero_le _, by simp [setU]⟩ (by repeat' first | exact SubE.nil | refine SubE.cons rfl ?_ ?_ | exact VEq.refl _ | refine VEq.int (by omega) | refine VEq.sl rfl (by first | rfl | omega | (rw [List.length_append]; rfl) | (simp; omega)) rfl) (Ents.refl _ _)) (fun x hx => ?_)
      obtain ⟨j, us⟩ := x
      obtain ⟨hj, hus⟩ := hx
      dsimp only at hj hus ⊢
      by_cases hjl : j < n.uses.length
      · have hsu := setU_succ i vs hjl
        rw [← hus] at hsu
        have hgu := hrt j hjl
        have huv := hev1.2.2 n.uses[j] (List.getElem_mem hjl)
        have hul : us.length = M := by rw [hus, setU_len, hvl]
        clear hus
        generalize n.uses[j] = k at *
        have hsc := setC_ints (ns := us) (k := (k - 1).toNat) (by omega) ((i : Int) + 1)
        repeat' first
          | refine J_seq ?_ | refine J_region Tryz.tyOK ?_ | refine J_block ?_ | refine J_cond ?_ | refine J_ret ?_ | refine J_skip ?_ | refine J_exit ?_ | refine J_scope ?_
          | refine CondP.yes (by omega) ?_ | refine CondP.no (by omega) ?_ | refine CondP.mk (fun h => ?_) (fun h => ?_) | refine EqP.mk rfl ?_ | refine NewP.mk (fun ad => ?_) | refine ArP.exact (by simp only [inR]; omega) ?_ | refine SideP.mk (by first | omega | (dsimp only; omega) | (simp; omega)) ?_
          | refine J_drawS (id := 10) Tryz.tyOK (by kernel_rfl) [0, 1, 3, 7, 0, 0, 48, 112, 240, 0, 1008, 2032, 4080, 0, 8192, 32767, 65535] [0, 1, 2, 3, 4, 5, 6, 7, 8, 9, 10, 11, 12, 13, 14, 15, 16] [15, 16] [5, 50, 54] false (by kernel_rfl) ?_ | refine J_drawS (id := 18) Tryz.tyOK (by kernel_rfl) [0, 1, 0, 4, 12, 31, 63, 0, 128, 412, 1023, 2047, 0, 4096, 16383, 32767, 0, 65536, 197532, 524287, 1048575, 2097151] [0, 1, 2, 3, 7, 8, 12, 13, 16, 17, 4, 5, 6, 9, 10, 11, 14, 15, 18, 19, 20, 21] [4, 9, 18] [11] false (by kernel_rfl) ?_ | refine J_drawS (id := 28) Tryz.tyOK (by kernel_rfl) [0, 1, 0, 4, 12, 31, 63, 0, 0, 0, 768, 1792, 3840, 8092, 16383, 32767] [0, 1, 2, 3, 7, 8, 9, 10, 11, 12, 4, 5, 6, 13, 14, 15] [4, 13] [135] false (by kernel_rfl) ?_ | refine EntP.mk (Ents.ofSub (by repeat (first | exact keepC_sub _ _ _ | exact List.Sublist.slnil | refine List.Sublist.cons_cons _ ?_ | refine List.Sublist.cons _ ?_)) (by first | exact fun _ h => h | exact fun _ _ => trivial | exact fun _ h => h.2 | exact fun _ h => h.2.2.2.2 | exact fun _ h => h.2.2 | exact fun _ h => h.2.2.2 | exact fun _ h => h.2.2.2.2.2 | exact fun _ h => h.2.2.2.2.2.2 | exact fun _ h => h.2.2.2.2.2.2.2 | exact fun _ h => h.2.2.2.2.2.2.2.2 | exact fun _ h => h.2.2.2.2.2.2.2.2.2 | exact fun _ h => h.2.2.2.2.2.2.2.2.2.2 | exact fun _ h => ((allD_append _ _).1 h).2)) ?_ | refine IdxE.mk 89 3 _ (hrd _) (by omega) (by omega) ?_ | refine FldE.mk 89 3 _ _ (hrd _) (by omega) ?_ | refine LoadE.mk 89 ns.length _ _ (hrd _) (by omega) (by omega) (by decide) (by exact hg2) ?_ | refine IdxE.mk 3 1 _ (hru _) (by omega) (by omega) ?_ | refine LoadE.mk 3 n.uses.length _ _ (hru _) (by omega) (by omega) (by decide) (by exact hgu) ?_ | refine IdxE.mk 3 1 _ (.inl ⟨_, List.Mem.tail _ (List.Mem.head _)⟩) (by omega) (by omega) ?_ | refine StoreE.mk [_] _ _ _ _ _ ((us.set (k - 1).toNat ((i : Int) + 1)).map (C.i .i64)) rfl (by omega) (by omega) (Nat.le_refl 1) (by exact hsc) ?_
          | fail
        exact Round.mk (j + 1, us.set (k - 1).toNat ((i : Int) + 1)) (by dsimp only; omega) ⟨by dsimp only; omega, by dsimp only; rw [hsu]⟩ (by repeat' first | exact SubE.nil | refine SubE.cons rfl ?_ ?_ | exact VEq.refl _ | refine VEq.int (by omega)) (Ents.refl _ _)
      · have hje : j = n.uses.length := by omega
        subst hje
        rw [List.take_length] at hus
        repeat' first
          | refine J_seq ?_ | refine J_region Tryz.tyOK ?_ | refine J_block ?_ | refine J_cond ?_ | refine J_ret ?_ | refine J_skip ?_ | refine J_exit ?_ | refine J_scope ?_
          | refine CondP.yes (by omega) ?_ | refine CondP.no (by omega) ?_ | refine CondP.mk (fun h => ?_) (fun h => ?_) | refine EqP.mk rfl ?_ | refine NewP.mk (fun ad => ?_) | refine ArP.exact (by simp only [inR]; omega) ?_ | refine SideP.mk (by first | omega | (dsimp only; omega) | (simp; omega)) ?_
          | refine J_drawS (id := 10) Tryz.tyOK (by kernel_rfl) [0, 1, 3, 7, 0, 0, 48, 112, 240, 0, 1008, 2032, 4080, 0, 8192, 32767, 65535] [0, 1, 2, 3, 4, 5, 6, 7, 8, 9, 10, 11, 12, 13, 14, 15, 16] [15, 16] [5, 50, 54] false (by kernel_rfl) ?_ | refine J_drawS (id := 18) Tryz.tyOK (by kernel_rfl) [0, 1, 0, 4, 12, 31, 63, 0, 128, 412, 1023, 2047, 0, 4096, 16383, 32767, 0, 65536, 197532, 524287, 1048575, 2097151] [0, 1, 2, 3, 7, 8, 12, 13, 16, 17, 4, 5, 6, 9, 10, 11, 14, 15, 18, 19, 20, 21] [4, 9, 18] [11] false (by kernel_rfl) ?_ | refine J_drawS (id := 28) Tryz.tyOK (by kernel_rfl) [0, 1, 0, 4, 12, 31, 63, 0, 0, 0, 768, 1792, 3840, 8092, 16383, 32767] [0, 1, 2, 3, 7, 8, 9, 10, 11, 12, 4, 5, 6, 13, 14, 15] [4, 13] [135] false (by kernel_rfl) ?_ | refine EntP.mk (Ents.ofSub (by repeat (first | exact keepC_sub _ _ _ | exact List.Sublist.slnil | refine List.Sublist.cons_cons _ ?_ | refine List.Sublist.cons _ ?_)) (by first | exact fun _ h => h | exact fun _ _ => trivial | exact fun _ h => h.2 | exact fun _ h => h.2.2.2.2 | exact fun _ h => h.2.2 | exact fun _ h => h.2.2.2 | exact fun _ h => h.2.2.2.2.2 | exact fun _ h => h.2.2.2.2.2.2 | exact fun _ h => h.2.2.2.2.2.2.2 | exact fun _ h => h.2.2.2.2.2.2.2.2 | exact fun _ h => h.2.2.2.2.2.2.2.2.2 | exact fun _ h => h.2.2.2.2.2.2.2.2.2.2 | exact fun _ h => ((allD_append _ _).1 h).2)) ?_ | refine IdxE.mk 89 3 _ (hrd _) (by omega) (by omega) ?_ | refine FldE.mk 89 3 _ _ (hrd _) (by omega) ?_ | refine LoadE.mk 89 ns.length _ _ (hrd _) (by omega) (by omega) (by decide) (by exact hg2) ?_
          | fail
        exact Round.mk (i + 1, us) (by dsimp only; omega) ⟨by dsimp only; omega, by dsimp only; rw [hus, hst]⟩ (by repeat' first | exact SubE.nil | refine SubE.cons rfl ?_ ?_ | exact VEq.refl _ | refine VEq.int (by omega)) (Ents.refl _ _)
    · have hil : i = ns.length := by omega
      subst hil
      rw [List.take_of_length_le (by omega), ← hWn] at hvs
      subst hvs
      repeat' first
        | refine J_seq ?_ | refine J_region Tryz.tyOK ?_ | refine J_block ?_ | refine J_cond ?_ | refine J_ret ?_ | refine J_skip ?_ | refine J_exit ?_ | refine J_scope ?_
        | refine CondP.yes (by omega) ?_ | refine CondP.no (by omega) ?_ | refine CondP.mk (fun h => ?_) (fun h => ?_) | refine EqP.mk rfl ?_ | refine NewP.mk (fun ad => ?_) | refine ArP.exact (by simp only [inR]; omega) ?_ | refine SideP.mk (by first | omega | (dsimp only; omega) | (simp; omega)) ?_
        | fail
      refine InFam.mk () trivial ?_ ?_
      · rw [hK]
        repeat' first | exact SubE.nil | refine SubE.cons rfl ?_ ?_ | exact VEq.refl _ | refine VEq.int (by omega) | refine VEq.sl rfl (by first | rfl | omega | (rw [List.length_append]; rfl) | (simp; omega)) rfl
      · rw [hK]
        unfold rfM noteG
        dsimp only
        rw [hWl]
        exact (Ents.perm (List.Perm.swap _ _ _)).trans (Ents.toFact.trans (Ents.facts fun m h => ⟨h.2.1, h.2.2.1, h.2.2.2.1, h.2.2.2.2.1, h.1, trivial⟩))
  have hT1 : ∀ e ∈ contT bs, (entT e).length ≤ 46 * blkBulk bs + 300 := fun e he => by
    obtain ⟨e1, e2, e3, e4⟩ := hdc.2 e he
    have := entT_le e1 e2 e3 e4
    omega
  have hNB : ∀ x y : Nat, x ≤ 1000 → y ≤ 1000 → blkNodes bs * (x * blkBulk bs + y) ≤ 1000000000000 + 2000000000 := fun x y hx hy => by
    rw [Nat.mul_add, Nat.mul_left_comm]
    have h1 : x * (blkNodes bs * blkBulk bs) ≤ 1000 * 1000000000 := Nat.mul_le_mul hx hq
    have h2 : blkNodes bs * y ≤ 1048576 * 1000 := Nat.mul_le_mul (by omega) hy
    omega
  have hTT1 : (contT bs).length * (46 * blkBulk bs + 300) ≤ 2000000000000 := by
    have := Nat.mul_le_mul_right (46 * blkBulk bs + 300) (Nat.le_trans hdc.1 hbl)
    have := hNB 46 300 (by omega) (by omega)
    omega
  have hcl := contsT_le hT1
  have hA := hId_le W (contT bs) hWa (3 * blkBulk bs + 22) (fun e he => (hdc.2 e he).2.2.2)
  have hdA : hdsN bs * (6 * (3 * blkBulk bs + 22) + 20) ≤ 2000000000000 := by
    have h1 := Nat.mul_le_mul_right (6 * (3 * blkBulk bs + 22) + 20) (Nat.le_trans (hdsN_le bs) hbl)
    have h2 := hNB 18 152 (by omega) (by omega)
    rw [show 6 * (3 * blkBulk bs + 22) + 20 = 18 * blkBulk bs + 152 by omega] at h1 ⊢
    omega
  have hrl := blksRen_le W hWb _ hA true 0 0 bs (by omega)
  rw [if_pos rfl] at hrl
  have hT2 : ∀ n ∈ ns, 600 * inlBulk n.inl + 60 * n.uses.length + 60 ≤ 660 * blkBulk bs + 60 := fun n hn => by
    have := hun n hn
    omega
  have hTT2 : ns.length * (660 * blkBulk bs + 60) ≤ 2000000000000 := by
    have h1 := Nat.mul_le_mul_right (660 * blkBulk bs + 60) (show ns.length ≤ blkNodes bs by omega)
    have h2 := hNB 660 60 (by omega) (by omega)
    omega
  have hen : K.en = (contT bs).length := by rw [hK]
  have hch := contT_hds bs
  have hKm : K.ms = ms := by rw [hK]
  have hTes : ∀ i, i ≤ (contT bs).length → i * (46 * blkBulk bs + 300) ≤ 2000000000000 := fun i hi => Nat.le_trans (Nat.mul_le_mul_right _ hi) hTT1
  have hTns : ∀ i, i ≤ ns.length → i * (660 * blkBulk bs + 60) ≤ 2000000000000 := fun i hi => Nat.le_trans (Nat.mul_le_mul_right _ hi) hTT2
  have s2 := rblocks_ok K W hWP hWb (by omega) (by rw [hKm]; exact hml) (contT bs) hen hWa _ hA (by omega) (by omega) (fun e he => by have := (hdc.2 e he).2.2.2; omega) _ bs rfl ba bc true 0 0 (by omega) (by omega) (by rw [hWl, hM]; omega) (fun _ => by omega) (by rw [if_pos rfl]; omega)
  have s3 := fun (n : NoM) (hn : n ∈ ns) => rinl_ok K W hWP hWb (by omega) (by rw [hKm]; exact hml) false (hUp true 0 (hdsN bs)) _ n.inl rfl n.ia n.ic (0 + (blkMarks bs).length) (by have := hun n hn; omega) (by have := hun n hn; omega) (fun hc => by cases hc)
  simp only [mkN_off] at s3
  obtain ⟨hN, hhN⟩ : ∃ x, x = hUp true 0 (hdsN bs) := ⟨_, rfl⟩
  rw [← hhN] at s2 s3
  rw [← hM] at s2 s3
  obtain ⟨m0, hm0⟩ : ∃ x, x = 0 + M := ⟨_, rfl⟩
  rw [← hm0] at s2 s3
  obtain ⟨S1, hS1⟩ : ∃ x, x = contsT (contT bs) := ⟨_, rfl⟩
  rw [← hS1] at hcl ⊢
  obtain ⟨S2, hS2⟩ : ∃ x, x = blksRen W true 0 0 bs := ⟨_, rfl⟩
  rw [← hS2] at s2 hrl ⊢
  have h12l : (S1 ++ S2).length ≤ 10000000000000 := by rw [List.length_append]; omega
  have h12m : S1.length + S2.length ≤ 10000000000000 := by rw [← List.length_append]; exact h12l
  clear hNB hdA hch hWP
  unfold rfM at s2 s3 ⊢
  rw [hen] at s2 s3 ⊢
  repeat' first
    | refine J_stop (c := .seq (.seq (.region 12 _ _) _) _) ?_
    | refine J_seq ?_ | refine J_region Tryz.tyOK ?_ | refine J_block ?_ | refine J_cond ?_ | refine J_ret ?_ | refine J_skip ?_ | refine J_exit ?_ | refine J_scope ?_
    | refine CondP.yes (by omega) ?_ | refine CondP.no (by omega) ?_ | refine CondP.mk (fun h => ?_) (fun h => ?_) | refine EqP.mk rfl ?_ | refine NewP.mk (fun ad => ?_) | refine ArP.exact (by simp only [inR]; omega) ?_ | refine SideP.mk (by first | omega | (dsimp only; omega) | (simp; omega)) ?_
    | fail
  refine ⟨?_⟩
  refine J_cut (α := Unit) (fun _ => [(0, .c (.sl ba bs.length bc)), (5, .c (.p 0 K.ab 0)), (6, .c (.sl na ns.length nc)), (9, .c (.s S1))]) (fun _ => [.box 0 K.ab 94 [.sl K.ma K.ms.length K.mc, .sl K.na W.ns.length K.nc, .i .i64 ((0 : Nat) : Int), .sl K.ea (contT bs).length K.ec, .i .i64 ((0 : Nat) : Int), .b (!true)]]) (fun _ => [notesF na ns, entF K.ea (contT bs), blkF ba bs, misF K.ma K.ms, noteG K W]) 2 (fun _ => True) ?_ (fun _ _ => ?_)
  · clear s2 s3 hrl hT2 hTT2 hTns
    unfold contsT at hS1
    by_cases l2 : (contT bs).length < 2
    · rw [if_pos l2] at hS1
      subst hS1
      repeat' first
        | refine J_seq ?_ | refine J_region Tryz.tyOK ?_ | refine J_block ?_ | refine J_cond ?_ | refine J_ret ?_ | refine J_skip ?_ | refine J_exit ?_ | refine J_scope ?_
        | refine CondP.yes (by omega) ?_ | refine CondP.no (by omega) ?_ | refine CondP.mk (fun h => ?_) (fun h => ?_) | refine EqP.mk rfl ?_ | refine NewP.mk (fun ad => ?_) | refine ArP.exact (by simp only [inR]; omega) ?_ | refine SideP.mk (by first | omega | (dsimp only; omega) | (simp; omega)) ?_
        | fail
      exact InFam.mk () trivial (by repeat' first | exact SubE.nil | refine SubE.cons rfl ?_ ?_ | exact VEq.refl _ | refine VEq.int (by omega) | refine VEq.sl rfl (by first | rfl | omega | (rw [List.length_append]; rfl) | (simp; omega)) rfl) (Ents.refl _ _)
    rw [if_neg l2] at hS1
    repeat' first
      | refine J_seq ?_ | refine J_region Tryz.tyOK ?_ | refine J_block ?_ | refine J_cond ?_ | refine J_ret ?_ | refine J_skip ?_ | refine J_exit ?_ | refine J_scope ?_
      | refine CondP.yes (by omega) ?_ | refine CondP.no (by omega) ?_ | refine CondP.mk (fun h => ?_) (fun h => ?_) | refine EqP.mk rfl ?_ | refine NewP.mk (fun ad => ?_) | refine ArP.exact (by simp only [inR]; omega) ?_ | refine SideP.mk (by first | omega | (dsimp only; omega) | (simp; omega)) ?_
      | fail
    refine J_loop (α := Nat × List UInt8) (fun x => [(0, .c (.sl ba bs.length bc)), (5, .c (.p 0 K.ab 0)), (6, .c (.sl na ns.length nc)), (9, .c (.s x.2)), (10, .c (.i .i64 x.1))])
      (fun x => [.box 0 K.ab 94 [.sl K.ma K.ms.length K.mc, .sl K.na W.ns.length K.nc, .i .i64 ((0 : Nat) : Int), .sl K.ea (contT bs).length K.ec, .i .i64 ((0 : Nat) : Int), .b (!true)]]) (fun _ => [notesF na ns, entF K.ea (contT bs), blkF ba bs, misF K.ma K.ms, noteG K W]) 1
      (fun x => x.1 ≤ (contT bs).length ∧ x.2 = [60, 117, 108, 32, 99, 108, 97, 115, 115, 61, 34, 99, 111, 110, 116, 101, 110, 116, 115, 34, 62, 10] ++ entsT ((contT bs).take x.1) ∧ x.2.length ≤ 30 + x.1 * (46 * blkBulk bs + 300)) (fun x => (contT bs).length - x.1)
      (InFam.mk (0, [60, 117, 108, 32, 99, 108, 97, 115, 115, 61, 34, 99, 111, 110, 116, 101, 110, 116, 115, 34, 62, 10]) ⟨Nat.zero_le _, by simp [entsT], by simp⟩ (by repeat' first | exact SubE.nil | refine SubE.cons rfl ?_ ?_ | exact VEq.refl _ | refine VEq.int (by omega) | refine VEq.sl rfl (by first | rfl | omega | (rw [List.length_append]; rfl) | (simp; omega)) rfl) (Ents.refl _ _)) (fun x hx => ?_)
    obtain ⟨i, w⟩ := x
    obtain ⟨hi, hw, hwl⟩ := hx
    dsimp only at hi hw hwl ⊢
    have hTi := hTes i hi
    by_cases hlt : i < (contT bs).length
    · have hst := entsT_succ hlt
      have hcg : ((entC (contT bs)).drop (i * 4 + 0)).take 4 = (contT bs)[i].cells := entC_get (o := 0) (k := 4) hlt (by omega)
      have hrd : ∀ L, Reads L [notesF na ns, entF K.ea (contT bs), blkF ba bs, misF K.ma K.ms, noteG K W] 42 4 K.ea (contT bs).length (entC (contT bs)) := fun _ => .inr fun m hm => hm.2.1
      have hev1 := hdc.2 (contT bs)[i] (List.getElem_mem hlt)
      have hT3 := hT1 (contT bs)[i] (List.getElem_mem hlt)
      have hstep : w ++ entT (contT bs)[i] = [60, 117, 108, 32, 99, 108, 97, 115, 115, 61, 34, 99, 111, 110, 116, 101, 110, 116, 115, 34, 62, 10] ++ entsT ((contT bs).take (i + 1)) := by rw [hst, hw]; simp only [List.append_assoc]
      have hdc1 := hdc.1
      clear hst hdn hdc hun hWn hWa hWb hT1 hTes
      generalize (contT bs)[i] = e at *
      have hi3 := number_ok e.level hev1.1.1 hev1.1.2
      have hil := itoa_le (n := e.level) hev1.1.1 hev1.1.2
      have hl3 := hev1.2.1
      have hl4 := hev1.2.2.1
      have hl5 := hev1.2.2.2
      have he1 := refEscape_ok e.anchor (by omega)
      have he2 := refEscape_ok e.text (by omega)
      have hl1 := escT_le e.anchor
      have hl2 := escT_le e.text
      unfold EntT.cells at hcg
      repeat' first
        | refine J_seq ?_ | refine J_region Tryz.tyOK ?_ | refine J_block ?_ | refine J_cond ?_ | refine J_ret ?_ | refine J_skip ?_ | refine J_exit ?_ | refine J_scope ?_
        | refine CondP.yes (by omega) ?_ | refine CondP.no (by omega) ?_ | refine CondP.mk (fun h => ?_) (fun h => ?_) | refine EqP.mk rfl ?_ | refine NewP.mk (fun ad => ?_) | refine ArP.exact (by simp only [inR]; omega) ?_ | refine SideP.mk (by first | omega | (dsimp only; omega) | (simp; omega)) ?_
        | refine J_drawS (id := 10) Tryz.tyOK (by kernel_rfl) [0, 1, 3, 7, 0, 0, 48, 112, 240, 0, 1008, 2032, 4080, 0, 8192, 32767, 65535] [0, 1, 2, 3, 4, 5, 6, 7, 8, 9, 10, 11, 12, 13, 14, 15, 16] [15, 16] [5, 50, 54] false (by kernel_rfl) ?_ | refine J_drawS (id := 18) Tryz.tyOK (by kernel_rfl) [0, 1, 0, 4, 12, 31, 63, 0, 128, 412, 1023, 2047, 0, 4096, 16383, 32767, 0, 65536, 197532, 524287, 1048575, 2097151] [0, 1, 2, 3, 7, 8, 12, 13, 16, 17, 4, 5, 6, 9, 10, 11, 14, 15, 18, 19, 20, 21] [4, 9, 18] [11] false (by kernel_rfl) ?_ | refine J_drawS (id := 28) Tryz.tyOK (by kernel_rfl) [0, 1, 0, 4, 12, 31, 63, 0, 0, 0, 768, 1792, 3840, 8092, 16383, 32767] [0, 1, 2, 3, 7, 8, 9, 10, 11, 12, 4, 5, 6, 13, 14, 15] [4, 13] [135] false (by kernel_rfl) ?_ | refine EntP.mk (Ents.ofSub (by repeat (first | exact keepC_sub _ _ _ | exact List.Sublist.slnil | refine List.Sublist.cons_cons _ ?_ | refine List.Sublist.cons _ ?_)) (by first | exact fun _ h => h | exact fun _ _ => trivial | exact fun _ h => h.2 | exact fun _ h => h.2.2.2.2 | exact fun _ h => h.2.2 | exact fun _ h => h.2.2.2 | exact fun _ h => h.2.2.2.2.2 | exact fun _ h => h.2.2.2.2.2.2 | exact fun _ h => h.2.2.2.2.2.2.2 | exact fun _ h => h.2.2.2.2.2.2.2.2 | exact fun _ h => h.2.2.2.2.2.2.2.2.2 | exact fun _ h => h.2.2.2.2.2.2.2.2.2.2 | exact fun _ h => ((allD_append _ _).1 h).2)) ?_ | refine IdxE.mk 42 4 _ (hrd _) (by omega) (by omega) ?_ | refine LoadE.mk 42 (contT bs).length _ _ (hrd _) (by omega) (by omega) (by decide) (by exact hcg) ?_ | refine CallP.is hi3 ?_ (fun _ _ => trivial) | refine CallP.is he1 ?_ (fun _ _ => trivial) | refine CallP.is he2 ?_ (fun _ _ => trivial)
        | fail
      have hwe : w ++ [60, 108, 105, 32, 99, 108, 97, 115, 115, 61, 34, 108, 101, 118, 101, 108, 45] ++ itoa e.level ++ [34, 62, 60, 97, 32, 104, 114, 101, 102, 61, 34, 35] ++ escT e.anchor ++ [34, 62] ++ e.number ++ [32] ++ escT e.text ++ [60, 47, 97, 62, 60, 47, 108, 105, 62, 10] = w ++ entT e := by unfold entT; simp only [List.append_assoc]
      exact Round.mk (i + 1, w ++ [60, 108, 105, 32, 99, 108, 97, 115, 115, 61, 34, 108, 101, 118, 101, 108, 45] ++ itoa e.level ++ [34, 62, 60, 97, 32, 104, 114, 101, 102, 61, 34, 35] ++ escT e.anchor ++ [34, 62] ++ e.number ++ [32] ++ escT e.text ++ [60, 47, 97, 62, 60, 47, 108, 105, 62, 10]) (by dsimp only; omega) ⟨by dsimp only; omega, by dsimp only; rw [hwe, hstep], by dsimp only; rw [hwe, List.length_append, Nat.add_mul, Nat.one_mul]; omega⟩ (by repeat' first | exact SubE.nil | refine SubE.cons rfl ?_ ?_ | exact VEq.refl _ | refine VEq.int (by omega)) (Ents.sub ⟨[_], List.Perm.refl _⟩)
    · have hil : i = (contT bs).length := by omega
      rw [hil, List.take_length] at hw
      have e : S1 = w ++ [60, 47, 117, 108, 62, 10] := by rw [hS1, hw]
      clear hS1
      subst e
      repeat' first
        | refine J_seq ?_ | refine J_region Tryz.tyOK ?_ | refine J_block ?_ | refine J_cond ?_ | refine J_ret ?_ | refine J_skip ?_ | refine J_exit ?_ | refine J_scope ?_
        | refine CondP.yes (by omega) ?_ | refine CondP.no (by omega) ?_ | refine CondP.mk (fun h => ?_) (fun h => ?_) | refine EqP.mk rfl ?_ | refine NewP.mk (fun ad => ?_) | refine ArP.exact (by simp only [inR]; omega) ?_ | refine SideP.mk (by first | omega | (dsimp only; omega) | (simp; omega)) ?_
        | fail
      exact InFam.mk () trivial (by repeat' first | exact SubE.nil | refine SubE.cons rfl ?_ ?_ | exact VEq.refl _ | refine VEq.int (by omega) | refine VEq.sl rfl (by first | rfl | omega | (rw [List.length_append]; rfl) | (simp; omega)) rfl) (Ents.refl _ _)
  repeat' first
    | refine J_stop (c := .seq (.seq (.region 21 _ _) _) _) ?_
    | refine J_seq ?_ | refine J_region Tryz.tyOK ?_ | refine J_block ?_ | refine J_cond ?_ | refine J_ret ?_ | refine J_skip ?_ | refine J_exit ?_ | refine J_scope ?_
    | refine CondP.yes (by omega) ?_ | refine CondP.no (by omega) ?_ | refine CondP.mk (fun h => ?_) (fun h => ?_) | refine EqP.mk rfl ?_ | refine NewP.mk (fun ad => ?_) | refine ArP.exact (by simp only [inR]; omega) ?_ | refine SideP.mk (by first | omega | (dsimp only; omega) | (simp; omega)) ?_
    | (refine CallP.mk _ [] [blkF ba bs, misF K.ma K.ms, entF K.ea (contT bs), noteG K W] _ s2 (List.Perm.refl _) (fun _ h => ⟨h.2.2.1, h.2.2.2.1, h.2.1, h.2.2.2.2.1, trivial⟩) (fun v L' D' hp => ?_); obtain ⟨rfl, rfl, rfl⟩ := hp; unfold rfM; rw [hen])
    | fail
  refine ⟨?_⟩
  clear h12m
  unfold listT
  by_cases n0 : ns = []
  · have n1 : ns.length = 0 := by rw [n0]; rfl
    rw [if_pos (by rw [n0]; rfl)]
    repeat' first
      | refine J_seq ?_ | refine J_region Tryz.tyOK ?_ | refine J_block ?_ | refine J_cond ?_ | refine J_ret ?_ | refine J_skip ?_ | refine J_exit ?_ | refine J_scope ?_
      | refine CondP.yes (by omega) ?_ | refine CondP.no (by omega) ?_ | refine CondP.mk (fun h => ?_) (fun h => ?_) | refine EqP.mk rfl ?_ | refine NewP.mk (fun ad => ?_) | refine ArP.exact (by simp only [inR]; omega) ?_ | refine SideP.mk (by first | omega | (dsimp only; omega) | (simp; omega)) ?_
      | fail
    exact FinE.mk [] [] ⟨congrArg (fun s => V.c (C.s s)) (List.append_nil _).symm, rfl, rfl⟩ (Ents.dropAll.trans (Ents.facts fun _ _ => trivial))
  have n1 : ¬ ns.length = 0 := fun e => n0 (List.eq_nil_of_length_eq_zero e)
  rw [if_neg (fun e => n1 (by rw [← hpl, e]; rfl))]
  generalize S1 ++ S2 = S at *
  clear s2
  repeat' first
    | refine J_seq ?_ | refine J_region Tryz.tyOK ?_ | refine J_block ?_ | refine J_cond ?_ | refine J_ret ?_ | refine J_skip ?_ | refine J_exit ?_ | refine J_scope ?_
    | refine CondP.yes (by omega) ?_ | refine CondP.no (by omega) ?_ | refine CondP.mk (fun h => ?_) (fun h => ?_) | refine EqP.mk rfl ?_ | refine NewP.mk (fun ad => ?_) | refine ArP.exact (by simp only [inR]; omega) ?_ | refine SideP.mk (by first | omega | (dsimp only; omega) | (simp; omega)) ?_
    | fail
  refine J_loop (α := Nat × List UInt8) (fun x => [(5, .c (.p 0 K.ab 0)), (6, .c (.sl na ns.length nc)), (9, .c (.s x.2)), (12, .c (.i .i64 x.1))])
    (fun x => [.box 0 K.ab 94 [.sl K.ma K.ms.length K.mc, .sl K.na W.ns.length K.nc, .i .i64 (m0 : Nat), .sl K.ea (contT bs).length K.ec, .i .i64 (hN : Nat), .b (!false)]]) (fun _ => [notesF na ns, entF K.ea (contT bs), blkF ba bs, misF K.ma K.ms, noteG K W]) 2
    (fun x => x.1 ≤ ns.length ∧ x.2 = S ++ [60, 111, 108, 32, 99, 108, 97, 115, 115, 61, 34, 110, 111, 116, 101, 115, 34, 62, 10] ++ notesT W 0 ((pureN ns).take x.1) ∧ x.2.length ≤ S.length + 30 + x.1 * (660 * blkBulk bs + 60)) (fun x => ns.length - x.1)
    (InFam.mk (0, S ++ [60, 111, 108, 32, 99, 108, 97, 115, 115, 61, 34, 110, 111, 116, 101, 115, 34, 62, 10]) ⟨Nat.zero_le _, by simp [notesT], by simp⟩ (by repeat' first | exact SubE.nil | refine SubE.cons rfl ?_ ?_ | exact VEq.refl _ | refine VEq.int (by omega) | refine VEq.sl rfl (by first | rfl | omega | (rw [List.length_append]; rfl) | (simp; omega)) rfl) (Ents.refl _ _)) (fun x hx => ?_)
  obtain ⟨i, w⟩ := x
  obtain ⟨hi, hw, hwl⟩ := hx
  dsimp only at hi hw hwl ⊢
  have hTi := hTns i hi
  by_cases hlt : i < ns.length
  · have hst := notesT_succ W (ps := pureN ns) (i := i) (by omega)
    have hgp : (pureN ns)[i]'(by omega) = ns[i].pure := by simp
    rw [hgp] at hst
    have hg1 : ((noC ns).drop (i * 3 + 1)).take 1 = [.sl ns[i].ia ns[i].inl.length ns[i].ic] := noC_get (o := 1) (k := 1) hlt (by omega)
    have hg2 : ((noC ns).drop (i * 3 + 2)).take 1 = [.sl ns[i].ua ns[i].uses.length ns[i].uc] := noC_get (o := 2) (k := 1) hlt (by omega)
    have hrd : ∀ L, Reads L [notesF na ns, entF K.ea (contT bs), blkF ba bs, misF K.ma K.ms, noteG K W] 89 3 na ns.length (noC ns) := fun _ => .inr fun m hm => hm.1.1
    have hfi : ∀ m, allD m [notesF na ns, entF K.ea (contT bs), blkF ba bs, misF K.ma K.ms, noteG K W] → (inlF ns[i].ia ns[i].inl).p m := fun m hm => (hm.1.2 ns[i] (List.getElem_mem hlt)).1
    have hru : ∀ L, Reads L [notesF na ns, entF K.ea (contT bs), blkF ba bs, misF K.ma K.ms, noteG K W] 3 1 ns[i].ua ns[i].uses.length (ns[i].uses.map (C.i .i64)) := fun _ => .inr fun m hm => (hm.1.2 ns[i] (List.getElem_mem hlt)).2
    have hev1 := hun ns[i] (List.getElem_mem hlt)
    have huv0 : ∀ k ∈ ns[i].uses, 0 ≤ k ∧ k ≤ 1000000000 := fun k hk => by have := hev1.2.2 k hk; omega
    have hT3 := hT2 ns[i] (List.getElem_mem hlt)
    have s4 := s3 ns[i] (List.getElem_mem hlt)
    have hntl := noteT_le W hWb (i := i) (p := ns[i].pure) (by omega) (by show inlBulk (inlEra _) ≤ _; rw [inlEra_bulk]; omega) huv0
    rw [show inlBulk ns[i].pure.inl = inlBulk ns[i].inl from inlEra_bulk _, show ns[i].pure.uses = ns[i].uses from rfl] at hntl
    have hpt : noteT W i ns[i].pure = [60, 108, 105, 32, 105, 100, 61, 34, 110, 111, 116, 101, 45] ++ itoa ((i : Int) + 1) ++ [34, 62] ++ inlRen W false m0 ns[i].inl ++ usesT ns[i].uses ++ [60, 47, 108, 105, 62, 10] := by
      unfold noteT
      rw [show ns[i].pure.inl = inlEra ns[i].inl from rfl, inlRen_era, inlRen_off W 0 m0, show ns[i].pure.uses = ns[i].uses from rfl]
    have hstep : w ++ noteT W i ns[i].pure = S ++ [60, 111, 108, 32, 99, 108, 97, 115, 115, 61, 34, 110, 111, 116, 101, 115, 34, 62, 10] ++ notesT W 0 ((pureN ns).take (i + 1)) := by rw [hst, hw]; simp only [List.append_assoc]
    rw [hpt] at hstep hntl
    have hrl3 := inlRen_le W hWb false m0 ns[i].inl (by omega)
    clear hst hun hT2 hgp hpt s3 hdn hdc hT1 hWn hWa hTns hTes
    generalize ns[i] = n at *
    have hi3 := dec_ok ((i : Int) + 1) (by omega) (by omega)
    have hil := itoa_le (n := (i : Int) + 1) (by omega) (by omega)
    have hul := usesT_le huv0
    repeat' first
      | refine J_stop (c := .seq (.seq (.region 29 _ _) _) _) ?_
      | refine J_seq ?_ | refine J_region Tryz.tyOK ?_ | refine J_block ?_ | refine J_cond ?_ | refine J_ret ?_ | refine J_skip ?_ | refine J_exit ?_ | refine J_scope ?_
      | refine CondP.yes (by omega) ?_ | refine CondP.no (by omega) ?_ | refine CondP.mk (fun h => ?_) (fun h => ?_) | refine EqP.mk rfl ?_ | refine NewP.mk (fun ad => ?_) | refine ArP.exact (by simp only [inR]; omega) ?_ | refine SideP.mk (by first | omega | (dsimp only; omega) | (simp; omega)) ?_
      | refine J_drawS (id := 10) Tryz.tyOK (by kernel_rfl) [0, 1, 3, 7, 0, 0, 48, 112, 240, 0, 1008, 2032, 4080, 0, 8192, 32767, 65535] [0, 1, 2, 3, 4, 5, 6, 7, 8, 9, 10, 11, 12, 13, 14, 15, 16] [15, 16] [5, 50, 54] false (by kernel_rfl) ?_ | refine J_drawS (id := 18) Tryz.tyOK (by kernel_rfl) [0, 1, 0, 4, 12, 31, 63, 0, 128, 412, 1023, 2047, 0, 4096, 16383, 32767, 0, 65536, 197532, 524287, 1048575, 2097151] [0, 1, 2, 3, 7, 8, 12, 13, 16, 17, 4, 5, 6, 9, 10, 11, 14, 15, 18, 19, 20, 21] [4, 9, 18] [11] false (by kernel_rfl) ?_ | refine J_drawS (id := 28) Tryz.tyOK (by kernel_rfl) [0, 1, 0, 4, 12, 31, 63, 0, 0, 0, 768, 1792, 3840, 8092, 16383, 32767] [0, 1, 2, 3, 7, 8, 9, 10, 11, 12, 4, 5, 6, 13, 14, 15] [4, 13] [135] false (by kernel_rfl) ?_ | refine EntP.mk (Ents.ofSub (by repeat (first | exact keepC_sub _ _ _ | exact List.Sublist.slnil | refine List.Sublist.cons_cons _ ?_ | refine List.Sublist.cons _ ?_)) (by first | exact fun _ h => h | exact fun _ _ => trivial | exact fun _ h => h.2 | exact fun _ h => h.2.2.2.2 | exact fun _ h => h.2.2 | exact fun _ h => h.2.2.2 | exact fun _ h => h.2.2.2.2.2 | exact fun _ h => h.2.2.2.2.2.2 | exact fun _ h => h.2.2.2.2.2.2.2 | exact fun _ h => h.2.2.2.2.2.2.2.2 | exact fun _ h => h.2.2.2.2.2.2.2.2.2 | exact fun _ h => h.2.2.2.2.2.2.2.2.2.2 | exact fun _ h => ((allD_append _ _).1 h).2)) ?_ | refine IdxE.mk 89 3 _ (hrd _) (by omega) (by omega) ?_ | refine FldE.mk 89 3 _ _ (hrd _) (by omega) ?_ | refine LoadE.mk 89 ns.length _ _ (hrd _) (by omega) (by omega) (by decide) (by exact hg1) ?_ | refine CallP.is hi3 ?_ (fun _ _ => trivial) | (refine CallP.mk _ [] [inlF n.ia n.inl, misF K.ma K.ms, noteG K W] _ s4 (List.Perm.refl _) (fun m h => ⟨hfi m h, h.2.2.2.1, h.2.2.2.2.1, trivial⟩) (fun v L' D' hp => ?_); obtain ⟨rfl, rfl, rfl⟩ := hp; unfold rfM; rw [hen])
      | fail
    refine ⟨?_⟩
    obtain ⟨w1, hw1⟩ : ∃ w1, w1 = w ++ [60, 108, 105, 32, 105, 100, 61, 34, 110, 111, 116, 101, 45] ++ itoa ((i : Int) + 1) ++ [34, 62] ++ inlRen W false m0 n.inl := ⟨_, rfl⟩
    have hw1l : w1.length ≤ w.length + 100 + 600 * inlBulk n.inl := by rw [hw1]; simp only [List.length_append, List.length_cons, List.length_nil]; omega
    repeat' first
      | refine J_seq ?_ | refine J_region Tryz.tyOK ?_ | refine J_block ?_ | refine J_cond ?_ | refine J_ret ?_ | refine J_skip ?_ | refine J_exit ?_ | refine J_scope ?_
      | refine CondP.yes (by omega) ?_ | refine CondP.no (by omega) ?_ | refine CondP.mk (fun h => ?_) (fun h => ?_) | refine EqP.mk rfl ?_ | refine NewP.mk (fun ad => ?_) | refine ArP.exact (by simp only [inR]; omega) ?_ | refine SideP.mk (by first | omega | (dsimp only; omega) | (simp; omega)) ?_
      | fail
    have hrt : ∀ (j : Nat) (hj : j < n.uses.length), ((n.uses.map (C.i .i64)).drop (j * 1 + 0)).take 1 = [.i .i64 n.uses[j]] := fun j hj => by
      rw [show j * 1 + 0 = j by omega, ← List.map_drop, ← List.map_take, List.drop_eq_getElem_cons hj]; rfl
    refine J_loop (α := Nat × List UInt8) (fun x => [(5, .c (.p 0 K.ab 0)), (6, .c (.sl na ns.length nc)), (9, .c (.s x.2)), (12, .c (.i .i64 i)), (13, .c (.i .i64 x.1))])
      (fun x => [.box 0 K.ab 94 [.sl K.ma K.ms.length K.mc, .sl K.na W.ns.length K.nc, .i .i64 (m0 : Nat), .sl K.ea (contT bs).length K.ec, .i .i64 (hN : Nat), .b (!false)]]) (fun _ => [notesF na ns, entF K.ea (contT bs), blkF ba bs, misF K.ma K.ms, noteG K W]) 2
      (fun x => x.1 ≤ n.uses.length ∧ x.2 = w1 ++ usesT (n.uses.take x.1)) (fun x => n.uses.length - x.1)
      (InFam.mk (0, w1) ⟨Nat.zero_le _, by simp [usesT]⟩ (by rw [hw1]; repeat' first | exact SubE.nil | refine SubE.cons rfl ?_ ?_ | exact VEq.refl _ | refine VEq.int (by omega) | refine VEq.sl rfl (by first | rfl | omega | (rw [List.length_append]; rfl) | (simp; omega)) rfl) (Ents.refl _ _)) (fun x hx => ?_)
    obtain ⟨j, w2⟩ := x
    obtain ⟨hj, hw2⟩ := hx
    dsimp only at hj hw2 ⊢
    have htk : (usesT (n.uses.take j)).length ≤ 60 * j := by
      have := usesT_le (ks := n.uses.take j) fun k hk => huv0 k (List.mem_of_mem_take hk)
      rw [List.length_take, Nat.min_eq_left hj] at this; exact this
    have hw2l : w2.length ≤ w1.length + 60 * j := by rw [hw2]; simp only [List.length_append]; omega
    by_cases hjl : j < n.uses.length
    · have hsu := usesT_succ hjl
      have hgu := hrt j hjl
      have huv := huv0 n.uses[j] (List.getElem_mem hjl)
      have hw3 : w2 ++ useT n.uses[j] = w1 ++ usesT (n.uses.take (j + 1)) := by rw [hsu, hw2]; simp only [List.append_assoc]
      clear hsu
      generalize n.uses[j] = k at *
      have hi5 := dec_ok k (by omega) (by omega)
      have hil5 := itoa_le (n := k) (by omega) (by omega)
      repeat' first
        | refine J_seq ?_ | refine J_region Tryz.tyOK ?_ | refine J_block ?_ | refine J_cond ?_ | refine J_ret ?_ | refine J_skip ?_ | refine J_exit ?_ | refine J_scope ?_
        | refine CondP.yes (by omega) ?_ | refine CondP.no (by omega) ?_ | refine CondP.mk (fun h => ?_) (fun h => ?_) | refine EqP.mk rfl ?_ | refine NewP.mk (fun ad => ?_) | refine ArP.exact (by simp only [inR]; omega) ?_ | refine SideP.mk (by first | omega | (dsimp only; omega) | (simp; omega)) ?_
        | refine J_drawS (id := 10) Tryz.tyOK (by kernel_rfl) [0, 1, 3, 7, 0, 0, 48, 112, 240, 0, 1008, 2032, 4080, 0, 8192, 32767, 65535] [0, 1, 2, 3, 4, 5, 6, 7, 8, 9, 10, 11, 12, 13, 14, 15, 16] [15, 16] [5, 50, 54] false (by kernel_rfl) ?_ | refine J_drawS (id := 18) Tryz.tyOK (by kernel_rfl) [0, 1, 0, 4, 12, 31, 63, 0, 128, 412, 1023, 2047, 0, 4096, 16383, 32767, 0, 65536, 197532, 524287, 1048575, 2097151] [0, 1, 2, 3, 7, 8, 12, 13, 16, 17, 4, 5, 6, 9, 10, 11, 14, 15, 18, 19, 20, 21] [4, 9, 18] [11] false (by kernel_rfl) ?_ | refine J_drawS (id := 28) Tryz.tyOK (by kernel_rfl) [0, 1, 0, 4, 12, 31, 63, 0, 0, 0, 768, 1792, 3840, 8092, 16383, 32767] [0, 1, 2, 3, 7, 8, 9, 10, 11, 12, 4, 5, 6, 13, 14, 15] [4, 13] [135] false (by kernel_rfl) ?_ | refine EntP.mk (Ents.ofSub (by repeat (first | exact keepC_sub _ _ _ | exact List.Sublist.slnil | refine List.Sublist.cons_cons _ ?_ | refine List.Sublist.cons _ ?_)) (by first | exact fun _ h => h | exact fun _ _ => trivial | exact fun _ h => h.2 | exact fun _ h => h.2.2.2.2 | exact fun _ h => h.2.2 | exact fun _ h => h.2.2.2 | exact fun _ h => h.2.2.2.2.2 | exact fun _ h => h.2.2.2.2.2.2 | exact fun _ h => h.2.2.2.2.2.2.2 | exact fun _ h => h.2.2.2.2.2.2.2.2 | exact fun _ h => h.2.2.2.2.2.2.2.2.2 | exact fun _ h => h.2.2.2.2.2.2.2.2.2.2 | exact fun _ h => ((allD_append _ _).1 h).2)) ?_ | refine IdxE.mk 89 3 _ (hrd _) (by omega) (by omega) ?_ | refine FldE.mk 89 3 _ _ (hrd _) (by omega) ?_ | refine LoadE.mk 89 ns.length _ _ (hrd _) (by omega) (by omega) (by decide) (by exact hg2) ?_ | refine IdxE.mk 3 1 _ (hru _) (by omega) (by omega) ?_ | refine LoadE.mk 3 n.uses.length _ _ (hru _) (by omega) (by omega) (by decide) (by exact hgu) ?_ | refine CallP.is hi5 ?_ (fun _ _ => trivial)
        | fail
      exact Round.mk (j + 1, w2 ++ [32, 60, 97, 32, 104, 114, 101, 102, 61, 34, 35, 109, 97, 114, 107, 45] ++ itoa k ++ [34, 62, 94, 60, 47, 97, 62]) (by dsimp only; omega) ⟨by dsimp only; omega, by dsimp only; rw [← hw3]; unfold useT; simp only [List.append_assoc]⟩ (by repeat' first | exact SubE.nil | refine SubE.cons rfl ?_ ?_ | exact VEq.refl _ | refine VEq.int (by omega)) (Ents.refl _ _)
    · have hje : j = n.uses.length := by omega
      subst hje
      rw [List.take_length] at hw2
      repeat' first
        | refine J_seq ?_ | refine J_region Tryz.tyOK ?_ | refine J_block ?_ | refine J_cond ?_ | refine J_ret ?_ | refine J_skip ?_ | refine J_exit ?_ | refine J_scope ?_
        | refine CondP.yes (by omega) ?_ | refine CondP.no (by omega) ?_ | refine CondP.mk (fun h => ?_) (fun h => ?_) | refine EqP.mk rfl ?_ | refine NewP.mk (fun ad => ?_) | refine ArP.exact (by simp only [inR]; omega) ?_ | refine SideP.mk (by first | omega | (dsimp only; omega) | (simp; omega)) ?_
        | refine J_drawS (id := 10) Tryz.tyOK (by kernel_rfl) [0, 1, 3, 7, 0, 0, 48, 112, 240, 0, 1008, 2032, 4080, 0, 8192, 32767, 65535] [0, 1, 2, 3, 4, 5, 6, 7, 8, 9, 10, 11, 12, 13, 14, 15, 16] [15, 16] [5, 50, 54] false (by kernel_rfl) ?_ | refine J_drawS (id := 18) Tryz.tyOK (by kernel_rfl) [0, 1, 0, 4, 12, 31, 63, 0, 128, 412, 1023, 2047, 0, 4096, 16383, 32767, 0, 65536, 197532, 524287, 1048575, 2097151] [0, 1, 2, 3, 7, 8, 12, 13, 16, 17, 4, 5, 6, 9, 10, 11, 14, 15, 18, 19, 20, 21] [4, 9, 18] [11] false (by kernel_rfl) ?_ | refine J_drawS (id := 28) Tryz.tyOK (by kernel_rfl) [0, 1, 0, 4, 12, 31, 63, 0, 0, 0, 768, 1792, 3840, 8092, 16383, 32767] [0, 1, 2, 3, 7, 8, 9, 10, 11, 12, 4, 5, 6, 13, 14, 15] [4, 13] [135] false (by kernel_rfl) ?_ | refine EntP.mk (Ents.ofSub (by repeat (first | exact keepC_sub _ _ _ | exact List.Sublist.slnil | refine List.Sublist.cons_cons _ ?_ | refine List.Sublist.cons _ ?_)) (by first | exact fun _ h => h | exact fun _ _ => trivial | exact fun _ h => h.2 | exact fun _ h => h.2.2.2.2 | exact fun _ h => h.2.2 | exact fun _ h => h.2.2.2 | exact fun _ h => h.2.2.2.2.2 | exact fun _ h => h.2.2.2.2.2.2 | exact fun _ h => h.2.2.2.2.2.2.2 | exact fun _ h => h.2.2.2.2.2.2.2.2 | exact fun _ h => h.2.2.2.2.2.2.2.2.2 | exact fun _ h => h.2.2.2.2.2.2.2.2.2.2 | exact fun _ h => ((allD_append _ _).1 h).2)) ?_ | refine IdxE.mk 89 3 _ (hrd _) (by omega) (by omega) ?_ | refine FldE.mk 89 3 _ _ (hrd _) (by omega) ?_ | refine LoadE.mk 89 ns.length _ _ (hrd _) (by omega) (by omega) (by decide) (by exact hg2) ?_
        | fail
      have hw4 : w2 ++ [60, 47, 108, 105, 62, 10] = w ++ ([60, 108, 105, 32, 105, 100, 61, 34, 110, 111, 116, 101, 45] ++ itoa ((i : Int) + 1) ++ [34, 62] ++ inlRen W false m0 n.inl ++ usesT n.uses ++ [60, 47, 108, 105, 62, 10]) := by rw [hw2, hw1]; simp only [List.append_assoc]
      exact Round.mk (i + 1, w2 ++ [60, 47, 108, 105, 62, 10]) (by dsimp only; omega) ⟨by dsimp only; omega, by dsimp only; rw [hw4, hstep], by dsimp only; rw [hw4, List.length_append, Nat.add_mul, Nat.one_mul]; omega⟩ (by repeat' first | exact SubE.nil | refine SubE.cons rfl ?_ ?_ | exact VEq.refl _ | refine VEq.int (by omega)) (Ents.refl _ _)
  · have hil : i = ns.length := by omega
    rw [hil, List.take_of_length_le (by omega)] at hw
    rw [show S ++ ([60, 111, 108, 32, 99, 108, 97, 115, 115, 61, 34, 110, 111, 116, 101, 115, 34, 62, 10] ++ notesT W 0 (pureN ns) ++ [60, 47, 111, 108, 62, 10]) = w ++ [60, 47, 111, 108, 62, 10] by rw [hw]; simp only [List.append_assoc]]
    repeat' first
      | refine J_seq ?_ | refine J_region Tryz.tyOK ?_ | refine J_block ?_ | refine J_cond ?_ | refine J_ret ?_ | refine J_skip ?_ | refine J_exit ?_ | refine J_scope ?_
      | refine CondP.yes (by omega) ?_ | refine CondP.no (by omega) ?_ | refine CondP.mk (fun h => ?_) (fun h => ?_) | refine EqP.mk rfl ?_ | refine NewP.mk (fun ad => ?_) | refine ArP.exact (by simp only [inR]; omega) ?_ | refine SideP.mk (by first | omega | (dsimp only; omega) | (simp; omega)) ?_
      | fail
    exact FinE.mk [] [] ⟨rfl, rfl, rfl⟩ (Ents.dropAll.trans (Ents.facts fun _ _ => trivial))
end Go.Proofs
namespace Go.Proofs
open Go Go.X
set_option maxRecDepth 100000
theorem elements_ok (n : Nat) : ∀ (bs : List Inl), inlNodes bs = n → ∀ (ba : Option Addr) (bc : Nat), n ≤ 10000000 → FnS Tryz.prog 48 [.c (.sl ba bs.length bc)] [] [inlF ba bs] (fun v L D => ∃ s : Int, 0 ≤ s ∧ s ≤ inlNodes bs ∧ (s < 500 → s = inlNodes bs) ∧ v = .c (.i .i64 s) ∧ L = [] ∧ D = []) := by
  induction n using Nat.strongRecOn with | _ n ih
  intro bs hn ba bc hb
  have hel := inlNodes_len bs
  refine fn_of_J Tryz.tyOK 0 Tryz.func48 (by kernel_rfl) (c := Tryz.f48.body.getD .skip) (by kernel_rfl) Tryz.ntmps48 (rs := Tryz.f48.results.toList) rfl (by simp) (fun G => ?_)
  repeat' first
    | refine J_seq ?_ | refine J_region Tryz.tyOK ?_ | refine J_block ?_ | refine J_cond ?_ | refine J_ret ?_ | refine J_skip ?_ | refine J_exit ?_ | refine J_scope ?_
    | refine CondP.yes (by omega) ?_ | refine CondP.no (by omega) ?_ | refine CondP.mk (fun h => ?_) (fun h => ?_) | refine EqP.mk rfl ?_ | refine NewP.mk (fun ad => ?_) | refine ArP.exact (by simp only [inR]; omega) ?_ | refine SideP.mk (by first | omega | (dsimp only; omega) | (simp; omega)) ?_
    | fail
  refine J_loop (α := Nat × Int) (fun x => [(0, .c (.sl ba bs.length bc)), (3, .c (.i .i64 x.2)), (4, .c (.i .i64 x.1))]) (fun _ => []) (fun _ => [inlF ba bs]) 0
    (fun x => x.1 ≤ bs.length ∧ 0 ≤ x.2 ∧ x.2 ≤ inlNodes (bs.take x.1) ∧ (x.2 < 500 → x.2 = inlNodes (bs.take x.1))) (fun x => bs.length - x.1) (InFam.mk (0, 0) ⟨Nat.zero_le _, Int.le_refl _, by simp [inlNodes], fun _ => by simp [inlNodes]⟩ (by repeat' first | exact SubE.nil | refine SubE.cons rfl ?_ ?_ | exact VEq.refl _ | refine VEq.int (by omega) | refine VEq.sl rfl (by first | rfl | omega | (rw [List.length_append]; rfl) | (simp; omega)) rfl) (Ents.refl _ _)) (fun x hx => ?_)
  obtain ⟨i, s⟩ := x
  obtain ⟨hi, hs0, hs1, hs2⟩ := hx
  dsimp only at hi hs0 hs1 hs2 ⊢
  have hnt0 := inlNodes_take_le bs i
  by_cases hlt : i < bs.length
  · have hk := inlNodes_kid hlt
    have hnt := inlNodes_succ hlt
    have hnl := inlNodes_take_le bs (i + 1)
    have hrd : ∀ L, Reads L [inlF ba bs] 102 6 ba bs.length (inlC bs) := fun _ => inl_reads (fun _ h => h)
    have hfk := inl_kids (a := ba) hlt
    have hg5 : ((inlC bs).drop (i * 6 + 5)).take 1 = [.sl bs[i].ka bs[i].kids.length bs[i].kc] := inlC_get (o := 5) (k := 1) hlt (by omega)
    have hca := ih (inlNodes bs[i].kids) (by omega) bs[i].kids rfl bs[i].ka bs[i].kc (by omega)
    clear ih
    generalize bs[i] = x at *
    repeat' first
      | refine J_seq ?_ | refine J_region Tryz.tyOK ?_ | refine J_block ?_ | refine J_cond ?_ | refine J_ret ?_ | refine J_skip ?_ | refine J_exit ?_ | refine J_scope ?_
      | refine CondP.yes (by omega) ?_ | refine CondP.no (by omega) ?_ | refine CondP.mk (fun h => ?_) (fun h => ?_) | refine EqP.mk rfl ?_ | refine NewP.mk (fun ad => ?_) | refine ArP.exact (by simp only [inR]; omega) ?_ | refine SideP.mk (by first | omega | (dsimp only; omega) | (simp; omega)) ?_
      | refine IdxE.mk 102 6 _ (hrd _) (by omega) (by omega) ?_ | refine FldE.mk 102 6 _ _ (hrd _) (by omega) ?_ | refine LoadE.mk 102 bs.length _ _ (hrd _) (by omega) (by omega) (by decide) (by exact hg5) ?_ | (refine CallP.mk [] [] [_] _ hca (List.Perm.refl _) hfk (fun v L' D' hp => ?_); obtain ⟨r, hr0, hr1, hr2, rfl, rfl, rfl⟩ := hp) | refine Round.mk (i + 1, s + 1 + r) (by dsimp only; omega) ⟨by dsimp only; omega, by dsimp only; omega, by dsimp only; omega, by dsimp only; omega⟩ (by repeat' first | exact SubE.nil | refine SubE.cons rfl ?_ ?_ | exact VEq.refl _ | refine VEq.int (by omega) | refine VEq.sl rfl (by first | rfl | omega | (rw [List.length_append]; rfl) | (simp; omega)) rfl) (Ents.facts fun _ h => h) | refine FinE.mk [] [] ⟨s, hs0, by omega, by omega, rfl, rfl, rfl⟩ (Ents.facts fun _ _ => trivial)
      | fail
    all_goals trace_state
  · have hil : i = bs.length := by omega
    subst hil
    rw [List.take_length] at hs1 hs2
    repeat' first
      | refine J_seq ?_ | refine J_region Tryz.tyOK ?_ | refine J_block ?_ | refine J_cond ?_ | refine J_ret ?_ | refine J_skip ?_ | refine J_exit ?_ | refine J_scope ?_
      | refine CondP.yes (by omega) ?_ | refine CondP.no (by omega) ?_ | refine CondP.mk (fun h => ?_) (fun h => ?_) | refine EqP.mk rfl ?_ | refine NewP.mk (fun ad => ?_) | refine ArP.exact (by simp only [inR]; omega) ?_ | refine SideP.mk (by first | omega | (dsimp only; omega) | (simp; omega)) ?_
      | refine FinE.mk [] [] ⟨s, hs0, hs1, hs2, rfl, rfl, rfl⟩ (Ents.facts fun _ _ => trivial)
      | fail
theorem size_ok (n : Nat) : ∀ (bs : List Blk), blkNodes bs = n → ∀ (ba : Option Addr) (bc : Nat), n ≤ 10000000 → FnS Tryz.prog 18 [.c (.sl ba bs.length bc)] [] [blkF ba bs] (fun v L D => ∃ s : Int, 0 ≤ s ∧ s ≤ blkNodes bs ∧ (s < 500 → s = blkNodes bs) ∧ v = .c (.i .i64 s) ∧ L = [] ∧ D = []) := by
  induction n using Nat.strongRecOn with | _ n ih
  intro bs hn ba bc hb
  have hel := blkNodes_len bs
  refine fn_of_J Tryz.tyOK 0 Tryz.func18 (by kernel_rfl) (c := Tryz.f18.body.getD .skip) (by kernel_rfl) Tryz.ntmps18 (rs := Tryz.f18.results.toList) rfl (by simp) (fun G => ?_)
  repeat' first
    | refine J_seq ?_ | refine J_region Tryz.tyOK ?_ | refine J_block ?_ | refine J_cond ?_ | refine J_ret ?_ | refine J_skip ?_ | refine J_exit ?_ | refine J_scope ?_
    | refine CondP.yes (by omega) ?_ | refine CondP.no (by omega) ?_ | refine CondP.mk (fun h => ?_) (fun h => ?_) | refine EqP.mk rfl ?_ | refine NewP.mk (fun ad => ?_) | refine ArP.exact (by simp only [inR]; omega) ?_ | refine SideP.mk (by first | omega | (dsimp only; omega) | (simp; omega)) ?_
    | fail
  refine J_loop (α := Nat × Int) (fun x => [(0, .c (.sl ba bs.length bc)), (3, .c (.i .i64 x.2)), (4, .c (.i .i64 x.1))]) (fun _ => []) (fun _ => [blkF ba bs]) 0
    (fun x => x.1 ≤ bs.length ∧ 0 ≤ x.2 ∧ x.2 ≤ blkNodes (bs.take x.1) ∧ (x.2 < 500 → x.2 = blkNodes (bs.take x.1))) (fun x => bs.length - x.1) (InFam.mk (0, 0) ⟨Nat.zero_le _, Int.le_refl _, by simp [blkNodes], fun _ => by simp [blkNodes]⟩ (by repeat' first | exact SubE.nil | refine SubE.cons rfl ?_ ?_ | exact VEq.refl _ | refine VEq.int (by omega) | refine VEq.sl rfl (by first | rfl | omega | (rw [List.length_append]; rfl) | (simp; omega)) rfl) (Ents.refl _ _)) (fun x hx => ?_)
  obtain ⟨i, s⟩ := x
  obtain ⟨hi, hs0, hs1, hs2⟩ := hx
  dsimp only at hi hs0 hs1 hs2 ⊢
  have hnt0 := blkNodes_take_le bs i
  by_cases hlt : i < bs.length
  · have hk := blkNodes_kid hlt
    have hnt := blkNodes_succ hlt
    have hnl := blkNodes_take_le bs (i + 1)
    have hrd : ∀ L, Reads L [blkF ba bs] 81 5 ba bs.length (blkC bs) := fun _ => blk_reads (fun _ h => h)
    have hfi := blk_inl (a := ba) hlt
    have hfk := blk_kids (a := ba) hlt
    have hg3 : ((blkC bs).drop (i * 5 + 3)).take 1 = [.sl bs[i].ia bs[i].inl.length bs[i].ic] := blkC_get (o := 3) (k := 1) hlt (by omega)
    have hg4 : ((blkC bs).drop (i * 5 + 4)).take 1 = [.sl bs[i].ka bs[i].kids.length bs[i].kc] := blkC_get (o := 4) (k := 1) hlt (by omega)
    have hca := elements_ok _ bs[i].inl rfl bs[i].ia bs[i].ic (by omega)
    have hcb := ih (blkNodes bs[i].kids) (by omega) bs[i].kids rfl bs[i].ka bs[i].kc (by omega)
    clear ih
    generalize bs[i] = x at *
    repeat' first
      | refine J_seq ?_ | refine J_region Tryz.tyOK ?_ | refine J_block ?_ | refine J_cond ?_ | refine J_ret ?_ | refine J_skip ?_ | refine J_exit ?_ | refine J_scope ?_
      | refine CondP.yes (by omega) ?_ | refine CondP.no (by omega) ?_ | refine CondP.mk (fun h => ?_) (fun h => ?_) | refine EqP.mk rfl ?_ | refine NewP.mk (fun ad => ?_) | refine ArP.exact (by simp only [inR]; omega) ?_ | refine SideP.mk (by first | omega | (dsimp only; omega) | (simp; omega)) ?_
      | refine J_drawU (id := 5) Tryz.tyOK (by kernel_rfl) [0, 1, 0, 0, 12, 28, 60, 124, 255, 0, 0, 1536, 3584, 7680, 16124, 32767, 65535] (.fork [0, 1, 2, 3, 4, 5, 6, 9, 10, 11, 12, 13] (.alt 7 (.fork [8] (.alt 14 (.leaf [15, 16]) (.stop))) (.stop))) [7, 14] [19, 26] 17 true (by kernel_rfl) ?_ | refine TwoP.mk ?_ ?_ | refine GoP.mk (by repeat (first | exact List.Sublist.slnil | refine List.Sublist.cons_cons _ ?_ | refine List.Sublist.cons _ ?_)) (by first | exact fun _ h => h | exact fun _ h => h.2 | exact fun _ h => ((allD_append _ _).1 h).2) ?_ | exact trivial | refine EntP.mk (Ents.ofSub (by repeat (first | exact List.Sublist.slnil | refine List.Sublist.cons_cons _ ?_ | refine List.Sublist.cons _ ?_)) (by first | exact fun _ h => h | exact fun _ _ => trivial | exact fun _ h => h.2 | exact fun _ h => h.2.2.2.2 | exact fun _ h => h.2.2 | exact fun _ h => h.2.2.2 | exact fun _ h => h.2.2.2.2.2 | exact fun _ h => h.2.2.2.2.2.2 | exact fun _ h => h.2.2.2.2.2.2.2 | exact fun _ h => h.2.2.2.2.2.2.2.2 | exact fun _ h => h.2.2.2.2.2.2.2.2.2 | exact fun _ h => h.2.2.2.2.2.2.2.2.2.2 | exact fun _ h => ((allD_append _ _).1 h).2)) ?_ | refine IdxE.mk 81 5 _ (hrd _) (by omega) (by omega) ?_ | refine FldE.mk 81 5 _ _ (hrd _) (by omega) ?_ | refine LoadE.mk 81 bs.length _ _ (hrd _) (by omega) (by omega) (by decide) (by exact hg3) ?_ | refine LoadE.mk 81 bs.length _ _ (hrd _) (by omega) (by omega) (by decide) (by exact hg4) ?_ | (refine CallP.mk [] [] [_] _ hca (List.Perm.refl _) hfi (fun v L' D' hp => ?_); obtain ⟨r, hr0, hr1, hr2, rfl, rfl, rfl⟩ := hp) | (refine CallP.mk [] [] [_] _ hcb (List.Perm.refl _) hfk (fun v L' D' hp => ?_); obtain ⟨u, hu0, hu1, hu2, rfl, rfl, rfl⟩ := hp) | refine Round.mk (i + 1, s + 1 + r + u) (by dsimp only; omega) ⟨by dsimp only; omega, by dsimp only; omega, by dsimp only; omega, by dsimp only; omega⟩ (by repeat' first | exact SubE.nil | refine SubE.cons rfl ?_ ?_ | exact VEq.refl _ | refine VEq.int (by omega) | refine VEq.sl rfl (by first | rfl | omega | (rw [List.length_append]; rfl) | (simp; omega)) rfl) (Ents.facts fun _ h => h) | refine FinE.mk [] [] ⟨s, hs0, by omega, by omega, rfl, rfl, rfl⟩ (Ents.facts fun _ _ => trivial)
      | fail
    all_goals trace_state
  · have hil : i = bs.length := by omega
    subst hil
    rw [List.take_length] at hs1 hs2
    repeat' first
      | refine J_seq ?_ | refine J_region Tryz.tyOK ?_ | refine J_block ?_ | refine J_cond ?_ | refine J_ret ?_ | refine J_skip ?_ | refine J_exit ?_ | refine J_scope ?_
      | refine CondP.yes (by omega) ?_ | refine CondP.no (by omega) ?_ | refine CondP.mk (fun h => ?_) (fun h => ?_) | refine EqP.mk rfl ?_ | refine NewP.mk (fun ad => ?_) | refine ArP.exact (by simp only [inR]; omega) ?_ | refine SideP.mk (by first | omega | (dsimp only; omega) | (simp; omega)) ?_
      | refine FinE.mk [] [] ⟨s, hs0, hs1, hs2, rfl, rfl, rfl⟩ (Ents.facts fun _ _ => trivial)
      | fail
end Go.Proofs
namespace Go.Proofs
open Go Go.X
set_option maxRecDepth 100000
theorem hB3_le : hB (2 + 1) ≤ 21672 := by decide
theorem genQ {n b : Nat} (h1 : n ≤ b) (h2 : b ≤ 21672) : n * b ≤ 1000000000 := Nat.le_trans (Nat.mul_le_mul (Nat.le_trans h1 h2) h2) (by decide)
set_option maxHeartbeats 4000000 in
theorem htmlRender_law (ba ma : Option Addr) (bc mc : Nat) (bs : List Blk) (ms : List (Int × List UInt8)) (hb : blkBulk bs ≤ 1048576) (hf : blkFit bs) (hml : ms.length ≤ 9223372036854775807) (e : Nat) (a : Option Addr) (c : Nat) (l : List Int) (hl : l.length ≤ maxLen) :
    FnS Tryz.prog 4 [.c (.sl ba bs.length bc), .c (.sl ma ms.length mc), .c (.sl a l.length c)] [] [blkF ba bs, misF ma ms, slFact e 1 a l.length (l.map (C.i .i64)), tabF, gInt 0] (Is (.c (.b true))) := by
  have hnb := blkNodes_bulk bs
  have c1 := size_ok _ bs rfl ba bc (by omega)
  have g1 := fun tb => genBlocks_ok e a c tb l hl 2 (by omega) 0 (Nat.zero_le _)
  have hB3 := hB3_le
  generalize hB (2 + 1) = B3 at *
  change ∀ tb, FnS _ _ [_, .c (.i .i64 2)] _ _ _ at g1
  have t1 := fun ad q hq => titleE e a c ad q l hq hl
  refine fn_of_J Tryz.tyOK 0 Tryz.func4 (by kernel_rfl) (c := Tryz.f4.body.getD .skip) (by kernel_rfl) Tryz.ntmps4 (rs := Tryz.f4.results.toList) rfl (by simp) (fun G => ?_)
  repeat' first
    | refine J_stop (c := .seq (.region 6 _ _) _) ?_ | refine CondP.yes rfl ?_
    | refine J_seq ?_ | refine J_region Tryz.tyOK ?_ | refine J_block ?_ | refine J_cond ?_ | refine J_ret ?_ | refine J_skip ?_ | refine J_exit ?_ | refine J_scope ?_
    | refine CondP.yes (by omega) ?_ | refine CondP.no (by omega) ?_ | refine CondP.mk (fun h => ?_) (fun h => ?_) | refine EqP.mk rfl ?_ | refine NewP.mk (fun ad => ?_) | refine ArP.exact (by simp only [inR]; omega) ?_ | refine SideP.mk (by first | omega | (dsimp only; omega) | (simp; omega)) ?_
    | (refine CallP.mk [] [] [_] _ c1 (List.Perm.refl _) (fun _ h => ⟨h.1, trivial⟩) (fun v L' D' hp => ?_); obtain ⟨s, hs0, hs1, hs2, rfl, rfl, rfl⟩ := hp) | (refine CallP.mk [] _ [] _ (new_ok a l.length c) (List.Perm.refl _) (fun _ _ => trivial) (fun v L' D' hp => ?_); obtain ⟨ab, rfl, rfl, rfl⟩ := hp) | (refine CallP.mk [_] _ [_] _ (g1 _) (List.Perm.refl _) (fun _ h => ⟨h.2.2.1, trivial⟩) (fun v L' D' hp => ?_); obtain ⟨ga, gc, gs, q, hq, hgb, hgf, rfl, rfl, rfl⟩ := hp) | (refine CallP.mk [_] _ [_] _ (t1 _ _ (by assumption)) (List.Perm.refl _) (fun _ h => ⟨h.2.2.2.1, trivial⟩) (fun v L' D' hp => ?_); obtain ⟨sp1, nm1, q1, hn1, hq1, rfl, rfl, rfl⟩ := hp) | refine CallP.is known_ok ?_ (fun _ h => ⟨h.2.2.2.2.1, trivial⟩) | refine FinE.bool rfl
    | fail
  refine ⟨?_⟩
  rename_i hs150 sp0 nm0 q0 hn0 hq0
  have hqb : blkNodes bs * blkBulk bs ≤ 1000000000 := Nat.le_trans (Nat.mul_le_mul (show blkNodes bs ≤ 150 by omega) hb) (by decide)
  have hqg := genQ (blkNodes_bulk gs) (Nat.le_trans hgb hB3)
  have r1 := render_ok bs hb hqb hf ms (by omega) ba ma bc mc
  have r2 := refRender_ok bs hb hqb hf ms (by omega) ba ma bc mc
  have r3 := render_ok gs (by omega) hqg hgf [(sp0, nm0), (sp1, nm1)] (by simp) ga (some ⟨ad, 0, none⟩) gc 2
  have r4 := refRender_ok gs (by omega) hqg hgf [(sp0, nm0), (sp1, nm1)] (by simp) ga (some ⟨ad, 0, none⟩) gc 2
  refine J_ent (env' := [(0, .c (.sl ba bs.length bc)), (1, .c (.sl ma ms.length mc)), (8, .c (.sl ga gs.length gc)), (9, .c (.sl (some ⟨ad, 0, none⟩) 2 2))]) (L' := []) (D' := [blkF ga gs, misF (some ⟨ad, 0, none⟩) [(sp0, nm0), (sp1, nm1)], blkF ba bs, misF ma ms, tabF, gInt 0]) (n' := 0) (by repeat' first | exact SubE.nil | refine SubE.cons rfl ?_ ?_ | exact VEq.refl _ | refine VEq.int (by omega) | refine VEq.sl rfl (by first | rfl | omega | (rw [List.length_append]; rfl) | (simp; omega)) rfl) (Ents.toFact.trans (Ents.dropAll.trans (Ents.facts fun m h => ⟨h.2.1, h.1, h.2.2.1, h.2.2.2.1, h.2.2.2.2.2.1, h.2.2.2.2.2.2⟩))) ?_
  generalize renT (misP ms) bs = R1 at *
  generalize renT (misP [(sp0, nm0), (sp1, nm1)]) gs = R2 at *
  clear c1 g1 t1
  repeat' first
    | refine CondP.yes rfl ?_
    | refine J_seq ?_ | refine J_region Tryz.tyOK ?_ | refine J_block ?_ | refine J_cond ?_ | refine J_ret ?_ | refine J_skip ?_ | refine J_exit ?_ | refine J_scope ?_
    | refine CondP.yes (by omega) ?_ | refine CondP.no (by omega) ?_ | refine CondP.mk (fun h => ?_) (fun h => ?_) | refine EqP.mk rfl ?_ | refine NewP.mk (fun ad => ?_) | refine ArP.exact (by simp only [inR]; omega) ?_ | refine SideP.mk (by first | omega | (dsimp only; omega) | (simp; omega)) ?_
    | refine CallP.is r1 ?_ (fun _ h => ⟨h.2.2.1, h.2.2.2.1, h.2.2.2.2.1, h.2.2.2.2.2.1, trivial⟩) | refine CallP.is r2 ?_ (fun _ h => ⟨h.2.2.1, h.2.2.2.1, trivial⟩) | refine CallP.is r3 ?_ (fun _ h => ⟨h.1, h.2.1, h.2.2.2.2.1, h.2.2.2.2.2.1, trivial⟩) | refine CallP.is r4 ?_ (fun _ h => ⟨h.1, h.2.1, trivial⟩) | refine CallP.is known_ok ?_ (fun _ h => ⟨h.2.2.2.2.2.1, trivial⟩) | refine FinE.bool rfl
    | fail
  all_goals trace_state
end Go.Proofs
namespace Go.Proofs.YtdnkeinjfddmnaaGreatDoor
open Go Go.X Go.ChangeShapes Go.WideShapes Go.ChangeAt Go.RowKit
set_option maxRecDepth 100000
namespace htmlRenderUpto
theorem reads (os : Os) {H : Type} (enc : TypeId × Value → H) : ∃ places, DataW.whole enc Tryz.prog ((laidWorld os).forCall (fun _ _ => 0) ⟨#[], #[.slice none 0 0, .slice none 0 0, .slice none 0 0], []⟩).memory Tryz.f4.params.toList Rows.htmlRenderSpec.vars false (#[.slice none 0 0, .slice none 0 0, .slice none 0 0] : Array Value).toList 8 = some ([.nil, .nil, .nil], [], places) :=
  ⟨[], by kernel_rfl⟩
theorem contract (H : Type) (enc : TypeId × Value → H) (W : World) (base : Nat) (args : Array Value) (ds gs : List (DataW H)) (before : List MemPlace) (hcond : Rows.uptoSmall H (ds ++ gs) = true) (hlm : laidMetH Tryz.prog Rows.htmlRenderUptoRow.laid W)
    (hval : ∀ (j : Nat) t v, Tryz.f4.params[j]? = some t → args[j]? = some v → Value.okWide Tryz.prog W .any base t v)
    (hW : DataW.Whole enc Tryz.prog Tryz.f4.params.toList Rows.htmlRenderSpec.vars false W args.toList ds gs before) (hsh : W.ShapedOpen Tryz.prog) :
    Calls Tryz.prog 4 args W fun e W' => ∃ v, e = .returned v ∧ Rows.htmlRenderSpec.post enc Tryz.prog Tryz.f4 false true false false W args v W' := by
  have hW' := hW
  obtain ⟨p, q, hA0, hV, rfl, hfz, hnd⟩ := hW
  have hA : DataW.TrodAll enc Tryz.prog W 0 (fun _ => true) true Tryz.f4.params.toList args.toList ds p := hA0
  rw [Tryz.params4] at hA hval
  obtain ⟨v0, vs0, d0, ds0, p0, q0, hargs0, rfl, rfl, h0, r0⟩ := trodAll_cons hA
  obtain ⟨v1, vs1, d1, ds1, p1, q1, hargs1, rfl, rfl, h1, r1⟩ := trodAll_cons r0
  obtain ⟨v2, vs2, d2, ds2, p2, q2, hargs2, rfl, rfl, h2, r2⟩ := trodAll_cons r1
  obtain ⟨rfl, rfl, rfl⟩ := trodAll_nil r2
  obtain rfl : args = #[v0, v1, v2] := by cases args; simp_all
  obtain ⟨b, hqb, rfl⟩ := arg_blks (hval 0 _ v0 rfl rfl) h0
  obtain ⟨mm, hqmm, rfl⟩ := open_arg (okTy (t := 33) rfl).2.2.2 (by simp) (hval 1 _ v1 rfl rfl) h1 (openS_slice (z := 2) Tryz.underlying33 (cellsOf_ty (okTy (t := 23) rfl)) (by decide) (fun g x hx => by simp at hx; rcases hx with rfl | rfl <;> rfl) open_title)
  obtain ⟨a, hqa, rfl⟩ := open_arg (okTy (t := 24) rfl).2.2.2 (by simp) (hval 2 _ v2 rfl rfl) h2 (openS_slice (z := 1) Tryz.underlying24 (cellsOf_ty (okTy (t := 3) rfl)) (by decide) (fun g x hx => by simp at hx; subst hx; rfl) (openS_int Tryz.underlying3))
  obtain ⟨ad, n, c, l⟩ := a
  obtain ⟨hn, hs, _⟩ := hqa
  dsimp only at hn hs
  subst hn
  obtain ⟨e, hf⟩ := hs.f
  have hf2 : (slFact e 1 ad l.length (l.map (C.i .i64))).p (fun b => W.heap[b]?) := by rw [List.map_eq_flatMap]; exact hf
  obtain ⟨md, mn, mc, ml⟩ := mm
  obtain ⟨hmn, hms, _⟩ := hqmm
  dsimp only at hmn hms
  subst hmn
  have hm2 := mis_fact hms
  have hml : ml.length = (ml.map fun x => (x.1, x.2.1)).length := by rw [List.length_map]
  obtain ⟨ba, bc, bs⟩ := b
  obtain ⟨hb1, hb2, hb3⟩ := hqb
  dsimp only at hb1 hb2 hb3
  have hbk : blkBulk bs ≤ 1048576 := by
    have h := of_decide_eq_true hcond
    simp only [List.cons_append, List.nil_append, Rows.uptoBulkAll] at h
    omega
  have hlaw := htmlRender_law ba md bc mc bs (ml.map fun x => (x.1, x.2.1)) hbk hb2 (by rw [List.length_map]; have := hms.le; have := hms.max; simp only [maxLen] at this; omega) e ad c l (Nat.le_trans hs.le hs.max)
  rw [← hml] at hlaw
  exact law_calls laidOut (by rw [Tryz.params4]; decide +kernel) rfl (by kernel_rfl) Tryz.underlying4 hW' rfl rfl (show allD _ [blkF ba bs, misF md (ml.map fun x => (x.1, x.2.1)), slFact e 1 ad l.length (l.map (C.i .i64)), tabF, gInt 0] from ⟨hb1, hm2, hf2, tab_fact hlm rfl, maxLen_fact hsh⟩) (hlaw)
theorem lifted (os : Os) (started : os.Started) (H : Type) (enc : TypeId × Value → H) (F : Stop.Interp) :
    ReturnsInHanded {} Tryz.checked os 4 .any ((Rows.OpenSpec.upto Rows.htmlRenderSpec).preRow enc Tryz.prog Tryz.f4 Rows.htmlRenderUptoRow.domain false Rows.htmlRenderUptoRow.laid) (((Rows.OpenSpec.upto Rows.htmlRenderSpec).at F).post enc Tryz.prog Tryz.f4 false true false false) := by
  obtain ⟨places, hx⟩ := reads os enc
  refine returnsInHanded_of_row (C := Tryz.checked) (s := (Rows.OpenSpec.upto Rows.htmlRenderSpec)) own started (by kernel_rfl) Tryz.func4
    (witness_row_at (enc := enc) (C := Tryz.checked) false (laidWorld os) #[.slice none 0 0, .slice none 0 0, .slice none 0 0] rfl (world_vars os _) (world_rest os _) (by kernel_rfl)
      (OpenSpec.preRow_of_cond 8 hx (by kernel_rfl) (fun k hk => by cases hk; kernel_rfl) (by kernel_rfl) (laid_met os _))) ?_
  intro W base args ds gs before hval hW _ hcond _ hlm hsh _
  exact contract H enc W base args ds gs before (hcond _ rfl) hlm hval hW hsh
theorem said : Rows.HtmlRenderUptoSaid :=
  OpenClaim.holds_of_cond 4 Tryz.f4 rfl rfl rfl rfl rfl rfl rfl ⟨rfl, rfl, rfl, rfl, rfl⟩ rfl rfl rfl rfl rfl (by kernel_rfl) Tryz.func4 (by kernel_rfl)
    (of_decide_eq_true (by kernel_rfl)) (by unfold Func.isWrapper; first | (rw [if_pos (by decide +kernel)]; kernel_rfl) | (rw [if_neg (by decide +kernel)]; exact ⟨rfl, rfl⟩))
    (fun os started H enc _ F => by rw [OpenClaim.pre_eq_preRow]; exact lifted os started H enc F)
theorem plain (f : FuncId) (fn : Func) (hf : Tryz.pinned.checked.prog.funcNamed Rows.htmlRenderUptoRow.func = some f) (hfn : Tryz.pinned.checked.prog.funcs[f]? = some fn) :
    true = Tryz.pinned.checked.prog.looks [] ∧ ∀ (j : Nat) t, fn.params[j]? = some t → Tryz.pinned.checked.prog.wantsStandIn t = false := by
  obtain rfl : f = 4 := Option.some.inj ((show Tryz.prog.funcNamed Rows.htmlRenderUptoRow.func = some 4 by kernel_rfl).symm.trans hf) |>.symm
  obtain rfl : fn = Tryz.f4 := (Option.some.inj (Tryz.func4.symm.trans hfn)).symm
  refine ⟨no_looks, fun j t ht => ?_⟩
  rw [Tryz.params4] at ht
  have hm := Array.mem_of_getElem? ht
  have hall : ∀ t ∈ (#[32, 33, 24] : Array Nat), Tryz.prog.wantsStandIn t = false := by decide +kernel
  exact hall t hm
theorem card : Rows.HtmlRenderUptoCardSaid :=
  Claim7.holds_tied_plain_at .later [] _ _ _ _ said (fun _ h => by cases h) (by kernel_rfl) (fun _ h => by cases h) htmlRenderUpto_row_tie rfl ⟨rfl, rfl⟩ (by kernel_rfl) rfl plain (by kernel_rfl)
end htmlRenderUpto
end Go.Proofs.YtdnkeinjfddmnaaGreatDoor
