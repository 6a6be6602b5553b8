import Derived.Test.YtoeeiaconpagaaaC3
import Derived.Test.YtoeeiaconpagaaaDec
import Derived.Test.YtoeeiaconpagaaaAwakeA
set_option linter.unusedVariables false
set_option linter.unusedSimpArgs false
namespace Go.Proofs.Ytoeeiaconpagaaa
open Go.AM

theorem refHost_c (t : Topo) (s : Port) (ht : t.fits) : CallsA Try.prog 23 [eTopo t, ePort s] [] (fun o _ => o = .ret (.bool (t.hosts.contains s))) := by
  refine callsA_of_code mixed Try.func23 k23 (show (2 : Nat) ≤ 20 by decide) ?_
  simp only [↓reduceIte, go_sem, Nat.reduceEqDiff, Nat.reduceLeDiff, Nat.reduceLT, Nat.reduceAdd, Nat.reduceMul, Nat.reduceSub, Int.reduceToNat, Int.reduceLE, Int.reduceLT, Int.reduceEq, Int.reduceAdd, Int.reduceSub, Int.reduceBEq, Int.reduceBNe, Int.reduceNeg, Int.cast_ofNat_Int, decide_true, decide_false, reduceCtorEq, Nat.zero_add, Nat.add_zero, Nat.zero_mul, Nat.reduceBEq, beq_self_eq_true, Nat.lt_irrefl, F23]
  refine code_loop (fun n te h => ∃ i, i ≤ t.hosts.length ∧ n = t.hosts.length - i ∧ (∀ j (hj : j < t.hosts.length), j < i → t.hosts[j] ≠ s) ∧ te = [(2, .ptr 0 0), (3, .ptr 1 0), (5, .int .i64 i)] ∧ h = [some (.cells (cTopo t)), some (.cells (cPort s))])
    t.hosts.length (wk_slots (Nat.zero_le _) ?_) ⟨0, Nat.zero_le _, rfl, by omega, rfl, rfl⟩ ?_
  · simp only [↓reduceIte, go_sem, Nat.reduceEqDiff, Nat.reduceLeDiff, Nat.reduceLT, Nat.reduceAdd, Nat.reduceMul, Nat.reduceSub, Int.reduceToNat, Int.reduceLE, Int.reduceLT, Int.reduceEq, Int.reduceAdd, Int.reduceSub, Int.reduceBEq, Int.reduceBNe, Int.reduceNeg, Int.cast_ofNat_Int, decide_true, decide_false, reduceCtorEq, Nat.zero_add, Nat.add_zero, Nat.zero_mul, Nat.reduceBEq, beq_self_eq_true, Nat.lt_irrefl]
  rintro n te h ⟨i, hi, rfl, hp, rfl, rfl⟩
  by_cases hlt : i < t.hosts.length
  · simp only [↓reduceIte, go_sem, Nat.reduceEqDiff, Nat.reduceLeDiff, Nat.reduceLT, Nat.reduceAdd, Nat.reduceMul, Nat.reduceSub, Int.reduceToNat, Int.reduceLE, Int.reduceLT, Int.reduceEq, Int.reduceAdd, Int.reduceSub, Int.reduceBEq, Int.reduceBNe, Int.reduceNeg, Int.cast_ofNat_Int, decide_true, decide_false, reduceCtorEq, Nat.zero_add, Nat.add_zero, Nat.zero_mul, Nat.reduceBEq, beq_self_eq_true, Nat.lt_irrefl, lt_t hlt, code_draw]
    refine draw_rd ?_
    simp only [↓reduceIte, go_sem, Nat.reduceEqDiff, Nat.reduceLeDiff, Nat.reduceLT, Nat.reduceAdd, Nat.reduceMul, Nat.reduceSub, Int.reduceToNat, Int.reduceLE, Int.reduceLT, Int.reduceEq, Int.reduceAdd, Int.reduceSub, Int.reduceBEq, Int.reduceBNe, Int.reduceNeg, Int.cast_ofNat_Int, decide_true, decide_false, reduceCtorEq, Nat.zero_add, Nat.add_zero, Nat.zero_mul, Nat.reduceBEq, beq_self_eq_true, Nat.lt_irrefl, getD_map hlt, idx hlt]
    refine condK_split (fun hc => ?_) (fun hc => ?_)
    · simp only [↓reduceIte, go_sem, Nat.reduceEqDiff, Nat.reduceLeDiff, Nat.reduceLT, Nat.reduceAdd, Nat.reduceMul, Nat.reduceSub, Int.reduceToNat, Int.reduceLE, Int.reduceLT, Int.reduceEq, Int.reduceAdd, Int.reduceSub, Int.reduceBEq, Int.reduceBNe, Int.reduceNeg, Int.cast_ofNat_Int, decide_true, decide_false, reduceCtorEq, Nat.zero_add, Nat.add_zero, Nat.zero_mul, Nat.reduceBEq, beq_self_eq_true, Nat.lt_irrefl]
      have hb : t.hosts[i] = s := by simpa using hc
      exact ret_r rfl (by
        have : t.hosts.contains s = true := by rw [List.contains_iff_mem, ← hb]; exact List.getElem_mem hlt
        rw [this]; rfl)
    · simp only [↓reduceIte, go_sem, Nat.reduceEqDiff, Nat.reduceLeDiff, Nat.reduceLT, Nat.reduceAdd, Nat.reduceMul, Nat.reduceSub, Int.reduceToNat, Int.reduceLE, Int.reduceLT, Int.reduceEq, Int.reduceAdd, Int.reduceSub, Int.reduceBEq, Int.reduceBNe, Int.reduceNeg, Int.cast_ofNat_Int, decide_true, decide_false, reduceCtorEq, Nat.zero_add, Nat.add_zero, Nat.zero_mul, Nat.reduceBEq, beq_self_eq_true, Nat.lt_irrefl, wrap_succ hlt ht.h]
      have hb : t.hosts[i] ≠ s := by simpa using hc
      refine round_of (t.hosts.length - (i + 1)) (by omega) (wk_slots (Nat.zero_le _) ?_) ⟨i + 1, by omega, rfl, fun j hj hji => ?_, rfl, rfl⟩
      · simp only [↓reduceIte, go_sem, Nat.reduceEqDiff, Nat.reduceLeDiff, Nat.reduceLT, Nat.reduceAdd, Nat.reduceMul, Nat.reduceSub, Int.reduceToNat, Int.reduceLE, Int.reduceLT, Int.reduceEq, Int.reduceAdd, Int.reduceSub, Int.reduceBEq, Int.reduceBNe, Int.reduceNeg, Int.cast_ofNat_Int, decide_true, decide_false, reduceCtorEq, Nat.zero_add, Nat.add_zero, Nat.zero_mul, Nat.reduceBEq, beq_self_eq_true, Nat.lt_irrefl]
      · rcases Nat.lt_or_eq_of_le (Nat.le_of_lt_succ hji) with h1 | rfl
        · exact hp j hj h1
        · exact hb
  · simp only [↓reduceIte, go_sem, Nat.reduceEqDiff, Nat.reduceLeDiff, Nat.reduceLT, Nat.reduceAdd, Nat.reduceMul, Nat.reduceSub, Int.reduceToNat, Int.reduceLE, Int.reduceLT, Int.reduceEq, Int.reduceAdd, Int.reduceSub, Int.reduceBEq, Int.reduceBNe, Int.reduceNeg, Int.cast_ofNat_Int, decide_true, decide_false, reduceCtorEq, Nat.zero_add, Nat.add_zero, Nat.zero_mul, Nat.reduceBEq, beq_self_eq_true, Nat.lt_irrefl, lt_f hlt]
    exact ret_r rfl (by
      have : t.hosts.contains s = false := by
        rw [Bool.eq_false_iff]; intro hc
        rw [List.contains_iff_mem] at hc
        obtain ⟨j, hj, e⟩ := List.getElem_of_mem hc
        exact hp j hj (by omega) e
      rw [this]; rfl)

set_option maxHeartbeats 1000000 in
theorem refOther_c (t : Topo) (p : Port) (ht : t.fits) : CallsA Try.prog 24 [eTopo t, ePort p] [] (fun o _ => o = .ret (eOther (otherF t.links p))) := by
  refine callsA_of_code mixed Try.func24 k24 (show (2 : Nat) ≤ 43 by decide) ?_
  simp only [↓reduceIte, go_sem, Nat.reduceEqDiff, Nat.reduceLeDiff, Nat.reduceLT, Nat.reduceAdd, Nat.reduceMul, Nat.reduceSub, Int.reduceToNat, Int.reduceLE, Int.reduceLT, Int.reduceEq, Int.reduceAdd, Int.reduceSub, Int.reduceBEq, Int.reduceBNe, Int.reduceNeg, Int.cast_ofNat_Int, decide_true, decide_false, reduceCtorEq, Nat.zero_add, Nat.add_zero, Nat.zero_mul, Nat.reduceBEq, beq_self_eq_true, Nat.lt_irrefl, F24]
  refine code_loop (fun n te h => ∃ i, i ≤ t.links.length ∧ n = t.links.length - i ∧ otherF t.links p = otherF (t.links.drop i) p ∧
      te = [(2, .ptr 0 0), (3, .ptr 1 0), (4, .ptr 2 0), (6, .int .i64 i)] ∧ h = [some (.cells (cTopo t)), some (.cells (cPort p)), some (.cells [.int .u16 0, .int .u16 0])])
    t.links.length (wk_slots (Nat.zero_le _) ?_) ⟨0, Nat.zero_le _, rfl, rfl, rfl, rfl⟩ ?_
  · simp only [↓reduceIte, go_sem, Nat.reduceEqDiff, Nat.reduceLeDiff, Nat.reduceLT, Nat.reduceAdd, Nat.reduceMul, Nat.reduceSub, Int.reduceToNat, Int.reduceLE, Int.reduceLT, Int.reduceEq, Int.reduceAdd, Int.reduceSub, Int.reduceBEq, Int.reduceBNe, Int.reduceNeg, Int.cast_ofNat_Int, decide_true, decide_false, reduceCtorEq, Nat.zero_add, Nat.add_zero, Nat.zero_mul, Nat.reduceBEq, beq_self_eq_true, Nat.lt_irrefl]
  rintro n te h ⟨i, hi, rfl, hp, rfl, rfl⟩
  by_cases hlt : i < t.links.length
  · rw [otherF_drop hlt] at hp
    simp only [↓reduceIte, go_sem, Nat.reduceEqDiff, Nat.reduceLeDiff, Nat.reduceLT, Nat.reduceAdd, Nat.reduceMul, Nat.reduceSub, Int.reduceToNat, Int.reduceLE, Int.reduceLT, Int.reduceEq, Int.reduceAdd, Int.reduceSub, Int.reduceBEq, Int.reduceBNe, Int.reduceNeg, Int.cast_ofNat_Int, decide_true, decide_false, reduceCtorEq, Nat.zero_add, Nat.add_zero, Nat.zero_mul, Nat.reduceBEq, beq_self_eq_true, Nat.lt_irrefl, lt_t hlt, code_draw]
    refine draw_rd ?_
    simp only [↓reduceIte, go_sem, Nat.reduceEqDiff, Nat.reduceLeDiff, Nat.reduceLT, Nat.reduceAdd, Nat.reduceMul, Nat.reduceSub, Int.reduceToNat, Int.reduceLE, Int.reduceLT, Int.reduceEq, Int.reduceAdd, Int.reduceSub, Int.reduceBEq, Int.reduceBNe, Int.reduceNeg, Int.cast_ofNat_Int, decide_true, decide_false, reduceCtorEq, Nat.zero_add, Nat.add_zero, Nat.zero_mul, Nat.reduceBEq, beq_self_eq_true, Nat.lt_irrefl, getD_map hlt, idx hlt]
    refine condK_split (fun hc => ?_) (fun hc => ?_)
    · simp only [↓reduceIte, go_sem, Nat.reduceEqDiff, Nat.reduceLeDiff, Nat.reduceLT, Nat.reduceAdd, Nat.reduceMul, Nat.reduceSub, Int.reduceToNat, Int.reduceLE, Int.reduceLT, Int.reduceEq, Int.reduceAdd, Int.reduceSub, Int.reduceBEq, Int.reduceBNe, Int.reduceNeg, Int.cast_ofNat_Int, decide_true, decide_false, reduceCtorEq, Nat.zero_add, Nat.add_zero, Nat.zero_mul, Nat.reduceBEq, beq_self_eq_true, Nat.lt_irrefl, getD_map hlt, idx hlt]
      have hb : t.links[i].1 = p := by simpa using hc
      exact ret_r rfl (by rw [hp, if_pos hb.symm]; rfl)
    · simp only [↓reduceIte, go_sem, Nat.reduceEqDiff, Nat.reduceLeDiff, Nat.reduceLT, Nat.reduceAdd, Nat.reduceMul, Nat.reduceSub, Int.reduceToNat, Int.reduceLE, Int.reduceLT, Int.reduceEq, Int.reduceAdd, Int.reduceSub, Int.reduceBEq, Int.reduceBNe, Int.reduceNeg, Int.cast_ofNat_Int, decide_true, decide_false, reduceCtorEq, Nat.zero_add, Nat.add_zero, Nat.zero_mul, Nat.reduceBEq, beq_self_eq_true, Nat.lt_irrefl, code_draw]
      have hb : t.links[i].1 ≠ p := by simpa using hc
      refine draw_rd ?_
      simp only [↓reduceIte, go_sem, Nat.reduceEqDiff, Nat.reduceLeDiff, Nat.reduceLT, Nat.reduceAdd, Nat.reduceMul, Nat.reduceSub, Int.reduceToNat, Int.reduceLE, Int.reduceLT, Int.reduceEq, Int.reduceAdd, Int.reduceSub, Int.reduceBEq, Int.reduceBNe, Int.reduceNeg, Int.cast_ofNat_Int, decide_true, decide_false, reduceCtorEq, Nat.zero_add, Nat.add_zero, Nat.zero_mul, Nat.reduceBEq, beq_self_eq_true, Nat.lt_irrefl, getD_map hlt, idx hlt]
      refine condK_split (fun hc => ?_) (fun hc => ?_)
      · simp only [↓reduceIte, go_sem, Nat.reduceEqDiff, Nat.reduceLeDiff, Nat.reduceLT, Nat.reduceAdd, Nat.reduceMul, Nat.reduceSub, Int.reduceToNat, Int.reduceLE, Int.reduceLT, Int.reduceEq, Int.reduceAdd, Int.reduceSub, Int.reduceBEq, Int.reduceBNe, Int.reduceNeg, Int.cast_ofNat_Int, decide_true, decide_false, reduceCtorEq, Nat.zero_add, Nat.add_zero, Nat.zero_mul, Nat.reduceBEq, beq_self_eq_true, Nat.lt_irrefl, getD_map hlt, idx hlt]
        have hb2 : t.links[i].2 = p := by simpa using hc
        exact ret_r rfl (by rw [hp, if_neg (Ne.symm hb), if_pos hb2.symm]; rfl)
      · simp only [↓reduceIte, go_sem, Nat.reduceEqDiff, Nat.reduceLeDiff, Nat.reduceLT, Nat.reduceAdd, Nat.reduceMul, Nat.reduceSub, Int.reduceToNat, Int.reduceLE, Int.reduceLT, Int.reduceEq, Int.reduceAdd, Int.reduceSub, Int.reduceBEq, Int.reduceBNe, Int.reduceNeg, Int.cast_ofNat_Int, decide_true, decide_false, reduceCtorEq, Nat.zero_add, Nat.add_zero, Nat.zero_mul, Nat.reduceBEq, beq_self_eq_true, Nat.lt_irrefl, wrap_succ hlt ht.l]
        have hb2 : t.links[i].2 ≠ p := by simpa using hc
        rw [if_neg (Ne.symm hb), if_neg (Ne.symm hb2)] at hp
        refine round_of (t.links.length - (i + 1)) (by omega) (wk_slots (Nat.zero_le _) ?_) ⟨i + 1, by omega, rfl, hp, rfl, rfl⟩
        simp only [↓reduceIte, go_sem, Nat.reduceEqDiff, Nat.reduceLeDiff, Nat.reduceLT, Nat.reduceAdd, Nat.reduceMul, Nat.reduceSub, Int.reduceToNat, Int.reduceLE, Int.reduceLT, Int.reduceEq, Int.reduceAdd, Int.reduceSub, Int.reduceBEq, Int.reduceBNe, Int.reduceNeg, Int.cast_ofNat_Int, decide_true, decide_false, reduceCtorEq, Nat.zero_add, Nat.add_zero, Nat.zero_mul, Nat.reduceBEq, beq_self_eq_true, Nat.lt_irrefl]
  · simp only [↓reduceIte, go_sem, Nat.reduceEqDiff, Nat.reduceLeDiff, Nat.reduceLT, Nat.reduceAdd, Nat.reduceMul, Nat.reduceSub, Int.reduceToNat, Int.reduceLE, Int.reduceLT, Int.reduceEq, Int.reduceAdd, Int.reduceSub, Int.reduceBEq, Int.reduceBNe, Int.reduceNeg, Int.cast_ofNat_Int, decide_true, decide_false, reduceCtorEq, Nat.zero_add, Nat.add_zero, Nat.zero_mul, Nat.reduceBEq, beq_self_eq_true, Nat.lt_irrefl, lt_f hlt]
    rw [List.drop_of_length_le (by omega)] at hp
    exact ret_r rfl (by rw [hp]; rfl)

/-- The plain law: over a link and back. -/
theorem otherF_mem {l : List (Port × Port)} {p q : Port} (h : otherF l p = some q) : p ∈ linkPts l ∧ q ∈ linkPts l := by
  induction l with
  | nil => cases h
  | cons x r ih =>
    unfold linkPts at ih ⊢
    simp only [otherF] at h
    split at h
    · rename_i e; injection h with h; simp [e, h]
    · split at h
      · rename_i e; injection h with h; simp [e, h]
      · have := ih h; simp only [List.flatMap_cons, List.mem_append]; exact ⟨.inr this.1, .inr this.2⟩
theorem otherF_back {l : List (Port × Port)} {p q : Port} (hn : (linkPts l).Nodup) (h : otherF l p = some q) : otherF l q = some p := by
  induction l with
  | nil => cases h
  | cons x r ih =>
    have hc : linkPts (x :: r) = [x.1, x.2] ++ linkPts r := rfl
    rw [hc, List.nodup_append] at hn
    obtain ⟨h1, h2, h3⟩ := hn
    have hne : x.1 ≠ x.2 := by simpa using h1
    simp only [otherF] at h ⊢
    split at h
    · rename_i e; injection h with h; subst h
      rw [if_neg (Ne.symm hne), if_pos rfl, e]
    · rename_i e1
      split at h
      · rename_i e; injection h with h; subst h
        rw [if_pos rfl, e]
      · rename_i e2
        have hm := otherF_mem h
        rw [if_neg (fun e => h3 x.1 (by simp) q hm.2 e.symm), if_neg (fun e => h3 x.2 (by simp) q hm.2 e.symm)]
        exact ih h2 h

theorem toF_0 (p : Pk) (a : Port) : (toF p a)[0] = a.sw := by simp [toF]
theorem toF_1 (p : Pk) (a : Port) : (toF p a)[1] = a.pt := by simp [toF]
theorem toF_back (p : Pk) (a : Port) : toF (toF p a) ⟨p[0], p[1]⟩ = p := by
  unfold toF
  apply Vector.ext
  intro i hi
  simp only [Vector.getElem_set]
  by_cases h1 : 1 = i
  · subst h1; simp
  · by_cases h0 : 0 = i
    · subst h0; simp
    · simp [h1, h0]
theorem checkF_nodup {t : Topo} (h : checkF t = 0) : (linkPts t.links).Nodup := by
  unfold checkF at h
  split at h
  · cases h
  · split at h
    · cases h
    · split at h
      · cases h
      · split at h
        · cases h
        · rename_i hn
          have hn : (portsF t).Nodup := by simpa using hn
          unfold portsF at hn
          exact (List.nodup_append.1 hn).1

def walkEnds_types : List Ty := [topoT, packetT]

set_option maxHeartbeats 4000000 in
theorem walkEnds_law (xs : List AV) (hx : tyVals walkEnds_types xs) : CallsA Try.prog 6 xs [] (fun o _ => o = .ret (.bool true)) := by
  obtain ⟨a, r, rfl, ha, hx⟩ := hx
  obtain ⟨b, r, rfl, hb, hx⟩ := hx
  simp only [tyVals] at hx
  subst hx
  obtain ⟨t, rfl, ht⟩ := dec_topo ha
  obtain ⟨q, rfl⟩ := dec_packet hb
  refine callsA_of_code mixed Try.func6 k6 (show (2 : Nat) ≤ 73 by decide) ?_
  simp only [↓reduceIte, go_sem, Nat.reduceEqDiff, Nat.reduceLeDiff, Nat.reduceLT, Nat.reduceAdd, Nat.reduceMul, Nat.reduceSub, Int.reduceToNat, Int.reduceLE, Int.reduceLT, Int.reduceEq, Int.reduceAdd, Int.reduceSub, Int.reduceBEq, Int.reduceBNe, Int.reduceNeg, Int.cast_ofNat_Int, decide_true, decide_false, reduceCtorEq, Nat.zero_add, Nat.add_zero, Nat.zero_mul, Nat.reduceBEq, beq_self_eq_true, Nat.lt_irrefl, F6]
  refine call_pure awake14_c rfl rfl rfl (by simp only [↓reduceIte, go_sem, Nat.reduceEqDiff, Nat.reduceLeDiff, Nat.reduceLT, Nat.reduceAdd, Nat.reduceMul, Nat.reduceSub, Int.reduceToNat, Int.reduceLE, Int.reduceLT, Int.reduceEq, Int.reduceAdd, Int.reduceSub, Int.reduceBEq, Int.reduceBNe, Int.reduceNeg, Int.cast_ofNat_Int, decide_true, decide_false, reduceCtorEq, Nat.zero_add, Nat.add_zero, Nat.zero_mul, Nat.reduceBEq, beq_self_eq_true, Nat.lt_irrefl]) ?_
  simp only [↓reduceIte, go_sem, Nat.reduceEqDiff, Nat.reduceLeDiff, Nat.reduceLT, Nat.reduceAdd, Nat.reduceMul, Nat.reduceSub, Int.reduceToNat, Int.reduceLE, Int.reduceLT, Int.reduceEq, Int.reduceAdd, Int.reduceSub, Int.reduceBEq, Int.reduceBNe, Int.reduceNeg, Int.cast_ofNat_Int, decide_true, decide_false, reduceCtorEq, Nat.zero_add, Nat.add_zero, Nat.zero_mul, Nat.reduceBEq, beq_self_eq_true, Nat.lt_irrefl]
  refine call_pure (check_c t ht) rfl rfl rfl (by simp only [↓reduceIte, go_sem, Nat.reduceEqDiff, Nat.reduceLeDiff, Nat.reduceLT, Nat.reduceAdd, Nat.reduceMul, Nat.reduceSub, Int.reduceToNat, Int.reduceLE, Int.reduceLT, Int.reduceEq, Int.reduceAdd, Int.reduceSub, Int.reduceBEq, Int.reduceBNe, Int.reduceNeg, Int.cast_ofNat_Int, decide_true, decide_false, reduceCtorEq, Nat.zero_add, Nat.add_zero, Nat.zero_mul, Nat.reduceBEq, beq_self_eq_true, Nat.lt_irrefl]) ?_
  by_cases hck : checkF t = 0
  · simp only [↓reduceIte, go_sem, Nat.reduceEqDiff, Nat.reduceLeDiff, Nat.reduceLT, Nat.reduceAdd, Nat.reduceMul, Nat.reduceSub, Int.reduceToNat, Int.reduceLE, Int.reduceLT, Int.reduceEq, Int.reduceAdd, Int.reduceSub, Int.reduceBEq, Int.reduceBNe, Int.reduceNeg, Int.cast_ofNat_Int, decide_true, decide_false, reduceCtorEq, Nat.zero_add, Nat.add_zero, Nat.zero_mul, Nat.reduceBEq, beq_self_eq_true, Nat.lt_irrefl, hck, eqv_i]
    refine call_pure (next_c t q ht) rfl rfl rfl (by simp only [↓reduceIte, go_sem, Nat.reduceEqDiff, Nat.reduceLeDiff, Nat.reduceLT, Nat.reduceAdd, Nat.reduceMul, Nat.reduceSub, Int.reduceToNat, Int.reduceLE, Int.reduceLT, Int.reduceEq, Int.reduceAdd, Int.reduceSub, Int.reduceBEq, Int.reduceBNe, Int.reduceNeg, Int.cast_ofNat_Int, decide_true, decide_false, reduceCtorEq, Nat.zero_add, Nat.add_zero, Nat.zero_mul, Nat.reduceBEq, beq_self_eq_true, Nat.lt_irrefl]) ?_
    cases ho : otherF t.links ⟨q[0], q[1]⟩ with
    | some o =>
      have hb := otherF_back (checkF_nodup hck) ho
      have hn : nextF t q = (toF q o, 0) := by simp only [nextF, ho]
      have hn2 : nextF t (toF q o) = (q, 0) := by simp only [nextF, toF_0, toF_1, hb, toF_back]
      simp only [↓reduceIte, go_sem, Nat.reduceEqDiff, Nat.reduceLeDiff, Nat.reduceLT, Nat.reduceAdd, Nat.reduceMul, Nat.reduceSub, Int.reduceToNat, Int.reduceLE, Int.reduceLT, Int.reduceEq, Int.reduceAdd, Int.reduceSub, Int.reduceBEq, Int.reduceBNe, Int.reduceNeg, Int.cast_ofNat_Int, decide_true, decide_false, reduceCtorEq, Nat.zero_add, Nat.add_zero, Nat.zero_mul, Nat.reduceBEq, beq_self_eq_true, Nat.lt_irrefl, hn, eqv_i]
      refine call_pure (next_c t (toF q o) ht) rfl rfl rfl (by simp only [↓reduceIte, go_sem, Nat.reduceEqDiff, Nat.reduceLeDiff, Nat.reduceLT, Nat.reduceAdd, Nat.reduceMul, Nat.reduceSub, Int.reduceToNat, Int.reduceLE, Int.reduceLT, Int.reduceEq, Int.reduceAdd, Int.reduceSub, Int.reduceBEq, Int.reduceBNe, Int.reduceNeg, Int.cast_ofNat_Int, decide_true, decide_false, reduceCtorEq, Nat.zero_add, Nat.add_zero, Nat.zero_mul, Nat.reduceBEq, beq_self_eq_true, Nat.lt_irrefl]) ?_
      simp only [↓reduceIte, go_sem, Nat.reduceEqDiff, Nat.reduceLeDiff, Nat.reduceLT, Nat.reduceAdd, Nat.reduceMul, Nat.reduceSub, Int.reduceToNat, Int.reduceLE, Int.reduceLT, Int.reduceEq, Int.reduceAdd, Int.reduceSub, Int.reduceBEq, Int.reduceBNe, Int.reduceNeg, Int.cast_ofNat_Int, decide_true, decide_false, reduceCtorEq, Nat.zero_add, Nat.add_zero, Nat.zero_mul, Nat.reduceBEq, beq_self_eq_true, Nat.lt_irrefl, hn2, eqv_i]
      exact ret_r rfl rfl
    | none =>
      cases hh : t.hosts.contains ⟨q[0], q[1]⟩ with
      | true =>
        have hn : nextF t q = (q, 1) := by simp only [nextF, ho, hh, if_true]
        simp only [↓reduceIte, go_sem, Nat.reduceEqDiff, Nat.reduceLeDiff, Nat.reduceLT, Nat.reduceAdd, Nat.reduceMul, Nat.reduceSub, Int.reduceToNat, Int.reduceLE, Int.reduceLT, Int.reduceEq, Int.reduceAdd, Int.reduceSub, Int.reduceBEq, Int.reduceBNe, Int.reduceNeg, Int.cast_ofNat_Int, decide_true, decide_false, reduceCtorEq, Nat.zero_add, Nat.add_zero, Nat.zero_mul, Nat.reduceBEq, beq_self_eq_true, Nat.lt_irrefl, hn, eqv_i, part_cPk]
        refine call_pure (refHost_c t ⟨q[0], q[1]⟩ ht) rfl rfl rfl (by simp only [↓reduceIte, go_sem, Nat.reduceEqDiff, Nat.reduceLeDiff, Nat.reduceLT, Nat.reduceAdd, Nat.reduceMul, Nat.reduceSub, Int.reduceToNat, Int.reduceLE, Int.reduceLT, Int.reduceEq, Int.reduceAdd, Int.reduceSub, Int.reduceBEq, Int.reduceBNe, Int.reduceNeg, Int.cast_ofNat_Int, decide_true, decide_false, reduceCtorEq, Nat.zero_add, Nat.add_zero, Nat.zero_mul, Nat.reduceBEq, beq_self_eq_true, Nat.lt_irrefl]) ?_
        simp only [↓reduceIte, go_sem, Nat.reduceEqDiff, Nat.reduceLeDiff, Nat.reduceLT, Nat.reduceAdd, Nat.reduceMul, Nat.reduceSub, Int.reduceToNat, Int.reduceLE, Int.reduceLT, Int.reduceEq, Int.reduceAdd, Int.reduceSub, Int.reduceBEq, Int.reduceBNe, Int.reduceNeg, Int.cast_ofNat_Int, decide_true, decide_false, reduceCtorEq, Nat.zero_add, Nat.add_zero, Nat.zero_mul, Nat.reduceBEq, beq_self_eq_true, Nat.lt_irrefl, hh]
        exact ret_r rfl rfl
      | false =>
        have hn : nextF t q = (q, 2) := by simp only [nextF, ho, hh]; rfl
        simp only [↓reduceIte, go_sem, Nat.reduceEqDiff, Nat.reduceLeDiff, Nat.reduceLT, Nat.reduceAdd, Nat.reduceMul, Nat.reduceSub, Int.reduceToNat, Int.reduceLE, Int.reduceLT, Int.reduceEq, Int.reduceAdd, Int.reduceSub, Int.reduceBEq, Int.reduceBNe, Int.reduceNeg, Int.cast_ofNat_Int, decide_true, decide_false, reduceCtorEq, Nat.zero_add, Nat.add_zero, Nat.zero_mul, Nat.reduceBEq, beq_self_eq_true, Nat.lt_irrefl, hn, eqv_i, part_cPk]
        refine call_pure (refOther_c t ⟨q[0], q[1]⟩ ht) rfl rfl rfl (by simp only [↓reduceIte, go_sem, Nat.reduceEqDiff, Nat.reduceLeDiff, Nat.reduceLT, Nat.reduceAdd, Nat.reduceMul, Nat.reduceSub, Int.reduceToNat, Int.reduceLE, Int.reduceLT, Int.reduceEq, Int.reduceAdd, Int.reduceSub, Int.reduceBEq, Int.reduceBNe, Int.reduceNeg, Int.cast_ofNat_Int, decide_true, decide_false, reduceCtorEq, Nat.zero_add, Nat.add_zero, Nat.zero_mul, Nat.reduceBEq, beq_self_eq_true, Nat.lt_irrefl, ho, eOther]) ?_
        simp only [↓reduceIte, go_sem, Nat.reduceEqDiff, Nat.reduceLeDiff, Nat.reduceLT, Nat.reduceAdd, Nat.reduceMul, Nat.reduceSub, Int.reduceToNat, Int.reduceLE, Int.reduceLT, Int.reduceEq, Int.reduceAdd, Int.reduceSub, Int.reduceBEq, Int.reduceBNe, Int.reduceNeg, Int.cast_ofNat_Int, decide_true, decide_false, reduceCtorEq, Nat.zero_add, Nat.add_zero, Nat.zero_mul, Nat.reduceBEq, beq_self_eq_true, Nat.lt_irrefl, ho, eOther]
        exact ret_r rfl rfl
  · have : (checkF t == 0) = false := by simpa using hck
    simp only [↓reduceIte, go_sem, Nat.reduceEqDiff, Nat.reduceLeDiff, Nat.reduceLT, Nat.reduceAdd, Nat.reduceMul, Nat.reduceSub, Int.reduceToNat, Int.reduceLE, Int.reduceLT, Int.reduceEq, Int.reduceAdd, Int.reduceSub, Int.reduceBEq, Int.reduceBNe, Int.reduceNeg, Int.cast_ofNat_Int, decide_true, decide_false, reduceCtorEq, Nat.zero_add, Nat.add_zero, Nat.zero_mul, Nat.reduceBEq, beq_self_eq_true, Nat.lt_irrefl, eqv_i, this]
    exact ret_r rfl rfl
end Go.Proofs.Ytoeeiaconpagaaa
