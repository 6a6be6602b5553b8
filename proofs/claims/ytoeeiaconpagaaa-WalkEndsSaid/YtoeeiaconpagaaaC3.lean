import Derived.Test.YtoeeiaconpagaaaC2
set_option linter.unusedVariables false
set_option linter.unusedSimpArgs false
namespace Go.Proofs.Ytoeeiaconpagaaa
open Go.AM

/-- pointsmanref13.Check -/
def checkF (t : Topo) : Int :=
  if 12 < t.sws.length ∨ 24 < t.links.length ∨ 24 < t.hosts.length then 2
  else if ¬ t.sws.Nodup then 12
  else if ¬ (∀ p ∈ portsF t, p.sw ∈ t.sws) then 12
  else if ¬ (portsF t).Nodup then 11
  else 0

theorem placeF_bad {l : List UInt16} {i : Nat} (hi : i < l.length) (h : placeF l l[i] ≠ i) : ¬ l.Nodup := by
  intro hn
  apply h
  refine placeF_at hi (fun j hj e => ?_) rfl
  have := (List.getElem_inj hn).1 e
  omega
theorem placeF_good {l : List UInt16} (h : ∀ i (hi : i < l.length), placeF l l[i] = i) : l.Nodup := by
  rw [List.nodup_iff_pairwise_ne, List.pairwise_iff_getElem]
  intro i j hi hj hij e
  have h1 := h i hi
  have h2 := h j hj
  rw [← e, h1] at h2
  omega
theorem placeF_neg (l : List UInt16) (s : UInt16) : (placeF l s < 0) ↔ s ∉ l := by
  unfold placeF placeN
  cases h : l.findIdx? (· == s) with
  | some i =>
    rw [List.findIdx?_eq_some_iff_getElem] at h
    obtain ⟨hi, h2, _⟩ := h
    have : s ∈ l := (by simpa using h2 : l[i] = s) ▸ List.getElem_mem hi
    simp [this]
  | none =>
    rw [List.findIdx?_eq_none_iff] at h
    have : s ∉ l := fun hc => by have := h s hc; simp at this
    simp [this]

theorem gt_t {a b : Nat} (h : b < a) : decide ((a : Int) > (b : Int)) = true := by simp; omega

set_option maxHeartbeats 4000000 in
theorem check_c (t : Topo) (ht : t.fits) : CallsA Try.prog 12 [eTopo t] [] (fun o _ => o = .ret (.int .i64 (checkF t))) := by
  refine callsA_of_code mixed Try.func12 k12 (show (1 : Nat) ≤ 76 by decide) ?_
  by_cases h1 : 12 < t.sws.length
  · have e1 : decide ((t.sws.length : Int) > 12) = true := by simp; omega
    simp only [↓reduceIte, go_sem, Nat.reduceEqDiff, Nat.reduceLeDiff, Nat.reduceLT, Nat.reduceAdd, Nat.reduceMul, Nat.reduceSub, Int.reduceToNat, Int.reduceLE, Int.reduceLT, Int.reduceEq, Int.reduceAdd, Int.reduceSub, Int.reduceBEq, Int.reduceBNe, Int.reduceNeg, Int.cast_ofNat_Int, decide_true, decide_false, reduceCtorEq, Nat.zero_add, Nat.add_zero, Nat.zero_mul, Nat.reduceBEq, beq_self_eq_true, Nat.lt_irrefl, F12, e1, pickR_t]
    exact ret_r rfl (by simp [checkF, h1]; rfl)
  have e1 : decide ((t.sws.length : Int) > 12) = false := by simp; omega
  by_cases h2 : 24 < t.links.length
  · have e2 : decide ((t.links.length : Int) > 24) = true := by simp; omega
    simp only [↓reduceIte, go_sem, Nat.reduceEqDiff, Nat.reduceLeDiff, Nat.reduceLT, Nat.reduceAdd, Nat.reduceMul, Nat.reduceSub, Int.reduceToNat, Int.reduceLE, Int.reduceLT, Int.reduceEq, Int.reduceAdd, Int.reduceSub, Int.reduceBEq, Int.reduceBNe, Int.reduceNeg, Int.cast_ofNat_Int, decide_true, decide_false, reduceCtorEq, Nat.zero_add, Nat.add_zero, Nat.zero_mul, Nat.reduceBEq, beq_self_eq_true, Nat.lt_irrefl, F12, e1, e2]
    exact ret_r rfl (by simp [checkF, h2]; rfl)
  have e2 : decide ((t.links.length : Int) > 24) = false := by simp; omega
  by_cases h3 : 24 < t.hosts.length
  · have e3 : decide ((t.hosts.length : Int) > 24) = true := by simp; omega
    simp only [↓reduceIte, go_sem, Nat.reduceEqDiff, Nat.reduceLeDiff, Nat.reduceLT, Nat.reduceAdd, Nat.reduceMul, Nat.reduceSub, Int.reduceToNat, Int.reduceLE, Int.reduceLT, Int.reduceEq, Int.reduceAdd, Int.reduceSub, Int.reduceBEq, Int.reduceBNe, Int.reduceNeg, Int.cast_ofNat_Int, decide_true, decide_false, reduceCtorEq, Nat.zero_add, Nat.add_zero, Nat.zero_mul, Nat.reduceBEq, beq_self_eq_true, Nat.lt_irrefl, F12, e1, e2, e3]
    exact ret_r rfl (by simp [checkF, h3]; rfl)
  have e3 : decide ((t.hosts.length : Int) > 24) = false := by simp; omega
  have h0 : ¬ (12 < t.sws.length ∨ 24 < t.links.length ∨ 24 < t.hosts.length) := by omega
  simp only [↓reduceIte, go_sem, Nat.reduceEqDiff, Nat.reduceLeDiff, Nat.reduceLT, Nat.reduceAdd, Nat.reduceMul, Nat.reduceSub, Int.reduceToNat, Int.reduceLE, Int.reduceLT, Int.reduceEq, Int.reduceAdd, Int.reduceSub, Int.reduceBEq, Int.reduceBNe, Int.reduceNeg, Int.cast_ofNat_Int, decide_true, decide_false, reduceCtorEq, Nat.zero_add, Nat.add_zero, Nat.zero_mul, Nat.reduceBEq, beq_self_eq_true, Nat.lt_irrefl, F12, e1, e2, e3]
  clear e1 e2 e3
  refine code_loop (fun n te h => ∃ i, i ≤ t.sws.length ∧ n = t.sws.length - i ∧ (∀ j (hj : j < t.sws.length), j < i → placeF t.sws t.sws[j] = j) ∧ te = [(1, .ptr 0 0), (3, .int .i64 i)] ∧ h = [some (.cells (cTopo t))])
    t.sws.length (wk_slots (Nat.zero_le _) ?_) ⟨0, Nat.zero_le _, rfl, by omega, rfl, rfl⟩ ?_
  · simp only [↓reduceIte, go_sem, Nat.reduceEqDiff, Nat.reduceLeDiff, Nat.reduceLT, Nat.reduceAdd, Nat.reduceMul, Nat.reduceSub, Int.reduceToNat, Int.reduceLE, Int.reduceLT, Int.reduceEq, Int.reduceAdd, Int.reduceSub, Int.reduceBEq, Int.reduceBNe, Int.reduceNeg, Int.cast_ofNat_Int, decide_true, decide_false, reduceCtorEq, Nat.zero_add, Nat.add_zero, Nat.zero_mul, Nat.reduceBEq, beq_self_eq_true, Nat.lt_irrefl]
  rintro n te h ⟨i, hi, rfl, hp, rfl, rfl⟩
  by_cases hlt : i < t.sws.length
  · simp only [↓reduceIte, go_sem, Nat.reduceEqDiff, Nat.reduceLeDiff, Nat.reduceLT, Nat.reduceAdd, Nat.reduceMul, Nat.reduceSub, Int.reduceToNat, Int.reduceLE, Int.reduceLT, Int.reduceEq, Int.reduceAdd, Int.reduceSub, Int.reduceBEq, Int.reduceBNe, Int.reduceNeg, Int.cast_ofNat_Int, decide_true, decide_false, reduceCtorEq, Nat.zero_add, Nat.add_zero, Nat.zero_mul, Nat.reduceBEq, beq_self_eq_true, Nat.lt_irrefl, lt_t hlt, code_draw]
    refine draw_rd ?_
    simp only [↓reduceIte, go_sem, Nat.reduceEqDiff, Nat.reduceLeDiff, Nat.reduceLT, Nat.reduceAdd, Nat.reduceMul, Nat.reduceSub, Int.reduceToNat, Int.reduceLE, Int.reduceLT, Int.reduceEq, Int.reduceAdd, Int.reduceSub, Int.reduceBEq, Int.reduceBNe, Int.reduceNeg, Int.cast_ofNat_Int, decide_true, decide_false, reduceCtorEq, Nat.zero_add, Nat.add_zero, Nat.zero_mul, Nat.reduceBEq, beq_self_eq_true, Nat.lt_irrefl, getD_map hlt, idx hlt]
    refine rcall_pure (place_c t t.sws[i] ht) rfl rfl rfl (by simp only [↓reduceIte, go_sem, Nat.reduceEqDiff, Nat.reduceLeDiff, Nat.reduceLT, Nat.reduceAdd, Nat.reduceMul, Nat.reduceSub, Int.reduceToNat, Int.reduceLE, Int.reduceLT, Int.reduceEq, Int.reduceAdd, Int.reduceSub, Int.reduceBEq, Int.reduceBNe, Int.reduceNeg, Int.cast_ofNat_Int, decide_true, decide_false, reduceCtorEq, Nat.zero_add, Nat.add_zero, Nat.zero_mul, Nat.reduceBEq, beq_self_eq_true, Nat.lt_irrefl]) ?_
    simp only [↓reduceIte, go_sem, Nat.reduceEqDiff, Nat.reduceLeDiff, Nat.reduceLT, Nat.reduceAdd, Nat.reduceMul, Nat.reduceSub, Int.reduceToNat, Int.reduceLE, Int.reduceLT, Int.reduceEq, Int.reduceAdd, Int.reduceSub, Int.reduceBEq, Int.reduceBNe, Int.reduceNeg, Int.cast_ofNat_Int, decide_true, decide_false, reduceCtorEq, Nat.zero_add, Nat.add_zero, Nat.zero_mul, Nat.reduceBEq, beq_self_eq_true, Nat.lt_irrefl, eqv_i]
    refine condK_split (fun hc => ?_) (fun hc => ?_)
    · simp only [↓reduceIte, go_sem, Nat.reduceEqDiff, Nat.reduceLeDiff, Nat.reduceLT, Nat.reduceAdd, Nat.reduceMul, Nat.reduceSub, Int.reduceToNat, Int.reduceLE, Int.reduceLT, Int.reduceEq, Int.reduceAdd, Int.reduceSub, Int.reduceBEq, Int.reduceBNe, Int.reduceNeg, Int.cast_ofNat_Int, decide_true, decide_false, reduceCtorEq, Nat.zero_add, Nat.add_zero, Nat.zero_mul, Nat.reduceBEq, beq_self_eq_true, Nat.lt_irrefl]
      have hb : placeF t.sws t.sws[i] ≠ i := by simpa using hc
      exact ret_r rfl (by simp only [checkF]; rw [if_neg h0, if_pos (placeF_bad hlt hb)]; rfl)
    · simp only [↓reduceIte, go_sem, Nat.reduceEqDiff, Nat.reduceLeDiff, Nat.reduceLT, Nat.reduceAdd, Nat.reduceMul, Nat.reduceSub, Int.reduceToNat, Int.reduceLE, Int.reduceLT, Int.reduceEq, Int.reduceAdd, Int.reduceSub, Int.reduceBEq, Int.reduceBNe, Int.reduceNeg, Int.cast_ofNat_Int, decide_true, decide_false, reduceCtorEq, Nat.zero_add, Nat.add_zero, Nat.zero_mul, Nat.reduceBEq, beq_self_eq_true, Nat.lt_irrefl, wrap_succ hlt ht.s]
      have hb : placeF t.sws t.sws[i] = i := by simpa using hc
      refine round_of (t.sws.length - (i + 1)) (by omega) (wk_slots (Nat.zero_le _) ?_) ⟨i + 1, by omega, rfl, fun j hj hji => ?_, rfl, rfl⟩
      · simp only [↓reduceIte, go_sem, Nat.reduceEqDiff, Nat.reduceLeDiff, Nat.reduceLT, Nat.reduceAdd, Nat.reduceMul, Nat.reduceSub, Int.reduceToNat, Int.reduceLE, Int.reduceLT, Int.reduceEq, Int.reduceAdd, Int.reduceSub, Int.reduceBEq, Int.reduceBNe, Int.reduceNeg, Int.cast_ofNat_Int, decide_true, decide_false, reduceCtorEq, Nat.zero_add, Nat.add_zero, Nat.zero_mul, Nat.reduceBEq, beq_self_eq_true, Nat.lt_irrefl]
      · rcases Nat.lt_or_eq_of_le (Nat.le_of_lt_succ hji) with h1 | rfl
        · exact hp j hj h1
        · exact hb
  simp only [↓reduceIte, go_sem, Nat.reduceEqDiff, Nat.reduceLeDiff, Nat.reduceLT, Nat.reduceAdd, Nat.reduceMul, Nat.reduceSub, Int.reduceToNat, Int.reduceLE, Int.reduceLT, Int.reduceEq, Int.reduceAdd, Int.reduceSub, Int.reduceBEq, Int.reduceBNe, Int.reduceNeg, Int.cast_ofNat_Int, decide_true, decide_false, reduceCtorEq, Nat.zero_add, Nat.add_zero, Nat.zero_mul, Nat.reduceBEq, beq_self_eq_true, Nat.lt_irrefl, lt_f hlt]
  have hnd : t.sws.Nodup := placeF_good fun j hj => hp j hj (by omega)
  refine call_pure (ports_c t (by omega) (by omega)) rfl rfl rfl (by simp only [↓reduceIte, go_sem, Nat.reduceEqDiff, Nat.reduceLeDiff, Nat.reduceLT, Nat.reduceAdd, Nat.reduceMul, Nat.reduceSub, Int.reduceToNat, Int.reduceLE, Int.reduceLT, Int.reduceEq, Int.reduceAdd, Int.reduceSub, Int.reduceBEq, Int.reduceBNe, Int.reduceNeg, Int.cast_ofNat_Int, decide_true, decide_false, reduceCtorEq, Nat.zero_add, Nat.add_zero, Nat.zero_mul, Nat.reduceBEq, beq_self_eq_true, Nat.lt_irrefl]) ?_
  clear hlt hp hi
  simp only [↓reduceIte, go_sem, Nat.reduceEqDiff, Nat.reduceLeDiff, Nat.reduceLT, Nat.reduceAdd, Nat.reduceMul, Nat.reduceSub, Int.reduceToNat, Int.reduceLE, Int.reduceLT, Int.reduceEq, Int.reduceAdd, Int.reduceSub, Int.reduceBEq, Int.reduceBNe, Int.reduceNeg, Int.cast_ofNat_Int, decide_true, decide_false, reduceCtorEq, Nat.zero_add, Nat.add_zero, Nat.zero_mul, Nat.reduceBEq, beq_self_eq_true, Nat.lt_irrefl]
  have hpl : (portsF t).length ≤ maxLen := by unfold portsF maxLen; rw [List.length_append, linkPts_len]; omega
  generalize hl : portsF t = l at *
  refine code_loop (fun n te h => ∃ i, i ≤ l.length ∧ n = l.length - i ∧ (∀ j (hj : j < l.length), j < i → l[j].sw ∈ t.sws) ∧ te = [(1, .ptr 0 0), (4, .lit 2 (l.map ePort)), (5, .int .i64 i)] ∧ h = [some (.cells (cTopo t))])
    l.length (wk_slots (Nat.zero_le _) ?_) ⟨0, Nat.zero_le _, rfl, by omega, rfl, rfl⟩ ?_
  · simp only [↓reduceIte, go_sem, Nat.reduceEqDiff, Nat.reduceLeDiff, Nat.reduceLT, Nat.reduceAdd, Nat.reduceMul, Nat.reduceSub, Int.reduceToNat, Int.reduceLE, Int.reduceLT, Int.reduceEq, Int.reduceAdd, Int.reduceSub, Int.reduceBEq, Int.reduceBNe, Int.reduceNeg, Int.cast_ofNat_Int, decide_true, decide_false, reduceCtorEq, Nat.zero_add, Nat.add_zero, Nat.zero_mul, Nat.reduceBEq, beq_self_eq_true, Nat.lt_irrefl]
  rintro n te h ⟨i, hi, rfl, hp, rfl, rfl⟩
  by_cases hlt : i < l.length
  · simp only [↓reduceIte, go_sem, Nat.reduceEqDiff, Nat.reduceLeDiff, Nat.reduceLT, Nat.reduceAdd, Nat.reduceMul, Nat.reduceSub, Int.reduceToNat, Int.reduceLE, Int.reduceLT, Int.reduceEq, Int.reduceAdd, Int.reduceSub, Int.reduceBEq, Int.reduceBNe, Int.reduceNeg, Int.cast_ofNat_Int, decide_true, decide_false, reduceCtorEq, Nat.zero_add, Nat.add_zero, Nat.zero_mul, Nat.reduceBEq, beq_self_eq_true, Nat.lt_irrefl, lt_t hlt, code_draw]
    refine draw_rd ?_
    simp only [↓reduceIte, go_sem, Nat.reduceEqDiff, Nat.reduceLeDiff, Nat.reduceLT, Nat.reduceAdd, Nat.reduceMul, Nat.reduceSub, Int.reduceToNat, Int.reduceLE, Int.reduceLT, Int.reduceEq, Int.reduceAdd, Int.reduceSub, Int.reduceBEq, Int.reduceBNe, Int.reduceNeg, Int.cast_ofNat_Int, decide_true, decide_false, reduceCtorEq, Nat.zero_add, Nat.add_zero, Nat.zero_mul, Nat.reduceBEq, beq_self_eq_true, Nat.lt_irrefl, getD_map hlt, idx hlt]
    refine rcall_pure (place_c t l[i].sw ht) rfl rfl rfl (by simp only [↓reduceIte, go_sem, Nat.reduceEqDiff, Nat.reduceLeDiff, Nat.reduceLT, Nat.reduceAdd, Nat.reduceMul, Nat.reduceSub, Int.reduceToNat, Int.reduceLE, Int.reduceLT, Int.reduceEq, Int.reduceAdd, Int.reduceSub, Int.reduceBEq, Int.reduceBNe, Int.reduceNeg, Int.cast_ofNat_Int, decide_true, decide_false, reduceCtorEq, Nat.zero_add, Nat.add_zero, Nat.zero_mul, Nat.reduceBEq, beq_self_eq_true, Nat.lt_irrefl]) ?_
    simp only [↓reduceIte, go_sem, Nat.reduceEqDiff, Nat.reduceLeDiff, Nat.reduceLT, Nat.reduceAdd, Nat.reduceMul, Nat.reduceSub, Int.reduceToNat, Int.reduceLE, Int.reduceLT, Int.reduceEq, Int.reduceAdd, Int.reduceSub, Int.reduceBEq, Int.reduceBNe, Int.reduceNeg, Int.cast_ofNat_Int, decide_true, decide_false, reduceCtorEq, Nat.zero_add, Nat.add_zero, Nat.zero_mul, Nat.reduceBEq, beq_self_eq_true, Nat.lt_irrefl]
    refine condK_split (fun hc => ?_) (fun hc => ?_)
    · simp only [↓reduceIte, go_sem, Nat.reduceEqDiff, Nat.reduceLeDiff, Nat.reduceLT, Nat.reduceAdd, Nat.reduceMul, Nat.reduceSub, Int.reduceToNat, Int.reduceLE, Int.reduceLT, Int.reduceEq, Int.reduceAdd, Int.reduceSub, Int.reduceBEq, Int.reduceBNe, Int.reduceNeg, Int.cast_ofNat_Int, decide_true, decide_false, reduceCtorEq, Nat.zero_add, Nat.add_zero, Nat.zero_mul, Nat.reduceBEq, beq_self_eq_true, Nat.lt_irrefl]
      have hb : l[i].sw ∉ t.sws := (placeF_neg _ _).1 (by simpa using hc)
      exact ret_r rfl (by simp only [checkF]; rw [if_neg h0, if_neg (by simpa using hnd), if_pos (by rw [hl]; intro q; exact hb (q _ (List.getElem_mem hlt)))]; rfl)
    · simp only [↓reduceIte, go_sem, Nat.reduceEqDiff, Nat.reduceLeDiff, Nat.reduceLT, Nat.reduceAdd, Nat.reduceMul, Nat.reduceSub, Int.reduceToNat, Int.reduceLE, Int.reduceLT, Int.reduceEq, Int.reduceAdd, Int.reduceSub, Int.reduceBEq, Int.reduceBNe, Int.reduceNeg, Int.cast_ofNat_Int, decide_true, decide_false, reduceCtorEq, Nat.zero_add, Nat.add_zero, Nat.zero_mul, Nat.reduceBEq, beq_self_eq_true, Nat.lt_irrefl, wrap_succ hlt hpl]
      have hb : l[i].sw ∈ t.sws := by
        have := mt (placeF_neg t.sws l[i].sw).2
        simp at hc
        by_cases hm : l[i].sw ∈ t.sws
        · exact hm
        · have := (placeF_neg t.sws l[i].sw).2 hm; omega
      refine round_of (l.length - (i + 1)) (by omega) (wk_slots (Nat.zero_le _) ?_) ⟨i + 1, by omega, rfl, fun j hj hji => ?_, rfl, rfl⟩
      · simp only [↓reduceIte, go_sem, Nat.reduceEqDiff, Nat.reduceLeDiff, Nat.reduceLT, Nat.reduceAdd, Nat.reduceMul, Nat.reduceSub, Int.reduceToNat, Int.reduceLE, Int.reduceLT, Int.reduceEq, Int.reduceAdd, Int.reduceSub, Int.reduceBEq, Int.reduceBNe, Int.reduceNeg, Int.cast_ofNat_Int, decide_true, decide_false, reduceCtorEq, Nat.zero_add, Nat.add_zero, Nat.zero_mul, Nat.reduceBEq, beq_self_eq_true, Nat.lt_irrefl]
      · rcases Nat.lt_or_eq_of_le (Nat.le_of_lt_succ hji) with h1 | rfl
        · exact hp j hj h1
        · exact hb
  simp only [↓reduceIte, go_sem, Nat.reduceEqDiff, Nat.reduceLeDiff, Nat.reduceLT, Nat.reduceAdd, Nat.reduceMul, Nat.reduceSub, Int.reduceToNat, Int.reduceLE, Int.reduceLT, Int.reduceEq, Int.reduceAdd, Int.reduceSub, Int.reduceBEq, Int.reduceBNe, Int.reduceNeg, Int.cast_ofNat_Int, decide_true, decide_false, reduceCtorEq, Nat.zero_add, Nat.add_zero, Nat.zero_mul, Nat.reduceBEq, beq_self_eq_true, Nat.lt_irrefl, lt_f hlt]
  have hsw : ∀ p ∈ l, p.sw ∈ t.sws := by
    intro p hpm
    obtain ⟨j, hj, rfl⟩ := List.getElem_of_mem hpm
    exact hp j hj (by omega)
  clear hlt hp hi
  refine code_loop (fun n te h => ∃ i, i ≤ l.length ∧ n = l.length - i ∧ (∀ j k (hj : j < l.length) (hk : k < j), j < i → l[j] ≠ l[k]) ∧ te = [(4, .lit 2 (l.map ePort)), (6, .int .i64 i)] ∧ h = [some (.cells (cTopo t))])
    l.length (wk_slots (Nat.zero_le _) ?_) ⟨0, Nat.zero_le _, rfl, by omega, rfl, rfl⟩ ?_
  · simp only [↓reduceIte, go_sem, Nat.reduceEqDiff, Nat.reduceLeDiff, Nat.reduceLT, Nat.reduceAdd, Nat.reduceMul, Nat.reduceSub, Int.reduceToNat, Int.reduceLE, Int.reduceLT, Int.reduceEq, Int.reduceAdd, Int.reduceSub, Int.reduceBEq, Int.reduceBNe, Int.reduceNeg, Int.cast_ofNat_Int, decide_true, decide_false, reduceCtorEq, Nat.zero_add, Nat.add_zero, Nat.zero_mul, Nat.reduceBEq, beq_self_eq_true, Nat.lt_irrefl]
  rintro n te h ⟨i, hi, rfl, hp, rfl, rfl⟩
  by_cases hlt : i < l.length
  · simp only [↓reduceIte, go_sem, Nat.reduceEqDiff, Nat.reduceLeDiff, Nat.reduceLT, Nat.reduceAdd, Nat.reduceMul, Nat.reduceSub, Int.reduceToNat, Int.reduceLE, Int.reduceLT, Int.reduceEq, Int.reduceAdd, Int.reduceSub, Int.reduceBEq, Int.reduceBNe, Int.reduceNeg, Int.cast_ofNat_Int, decide_true, decide_false, reduceCtorEq, Nat.zero_add, Nat.add_zero, Nat.zero_mul, Nat.reduceBEq, beq_self_eq_true, Nat.lt_irrefl, lt_t hlt]
    refine code_loop (fun n te h => ∃ k, k ≤ i ∧ n = i - k ∧ (∀ j (hj : j < k) (hk : j < i), l[i] ≠ l[j]) ∧ te = [(4, .lit 2 (l.map ePort)), (6, .int .i64 i), (7, .int .i64 k)] ∧ h = [some (.cells (cTopo t))])
      i (wk_slots (Nat.zero_le _) ?_) ⟨0, Nat.zero_le _, rfl, by omega, rfl, rfl⟩ ?_
    · simp only [↓reduceIte, go_sem, Nat.reduceEqDiff, Nat.reduceLeDiff, Nat.reduceLT, Nat.reduceAdd, Nat.reduceMul, Nat.reduceSub, Int.reduceToNat, Int.reduceLE, Int.reduceLT, Int.reduceEq, Int.reduceAdd, Int.reduceSub, Int.reduceBEq, Int.reduceBNe, Int.reduceNeg, Int.cast_ofNat_Int, decide_true, decide_false, reduceCtorEq, Nat.zero_add, Nat.add_zero, Nat.zero_mul, Nat.reduceBEq, beq_self_eq_true, Nat.lt_irrefl]
    rintro n te h ⟨k, hk, rfl, hq, rfl, rfl⟩
    by_cases hkt : k < i
    · have hkl : k < l.length := by omega
      simp only [↓reduceIte, go_sem, Nat.reduceEqDiff, Nat.reduceLeDiff, Nat.reduceLT, Nat.reduceAdd, Nat.reduceMul, Nat.reduceSub, Int.reduceToNat, Int.reduceLE, Int.reduceLT, Int.reduceEq, Int.reduceAdd, Int.reduceSub, Int.reduceBEq, Int.reduceBNe, Int.reduceNeg, Int.cast_ofNat_Int, decide_true, decide_false, reduceCtorEq, Nat.zero_add, Nat.add_zero, Nat.zero_mul, Nat.reduceBEq, beq_self_eq_true, Nat.lt_irrefl, lt_t hkt, code_draw]
      refine draw_rd ?_
      simp only [↓reduceIte, go_sem, Nat.reduceEqDiff, Nat.reduceLeDiff, Nat.reduceLT, Nat.reduceAdd, Nat.reduceMul, Nat.reduceSub, Int.reduceToNat, Int.reduceLE, Int.reduceLT, Int.reduceEq, Int.reduceAdd, Int.reduceSub, Int.reduceBEq, Int.reduceBNe, Int.reduceNeg, Int.cast_ofNat_Int, decide_true, decide_false, reduceCtorEq, Nat.zero_add, Nat.add_zero, Nat.zero_mul, Nat.reduceBEq, beq_self_eq_true, Nat.lt_irrefl, getD_map hlt, idx hlt, getD_map hkl, idx hkl]
      refine condK_split (fun hc => ?_) (fun hc => ?_)
      · simp only [↓reduceIte, go_sem, Nat.reduceEqDiff, Nat.reduceLeDiff, Nat.reduceLT, Nat.reduceAdd, Nat.reduceMul, Nat.reduceSub, Int.reduceToNat, Int.reduceLE, Int.reduceLT, Int.reduceEq, Int.reduceAdd, Int.reduceSub, Int.reduceBEq, Int.reduceBNe, Int.reduceNeg, Int.cast_ofNat_Int, decide_true, decide_false, reduceCtorEq, Nat.zero_add, Nat.add_zero, Nat.zero_mul, Nat.reduceBEq, beq_self_eq_true, Nat.lt_irrefl]
        have hb : l[i] = l[k] := by simpa using hc
        have hnn : ¬ l.Nodup := fun hn => by have := (List.getElem_inj hn).1 hb; omega
        exact ret_r rfl (by simp only [checkF]; rw [if_neg h0, if_neg (by simpa using hnd), hl, if_neg (by simpa using hsw), if_pos hnn]; rfl)
      · simp only [↓reduceIte, go_sem, Nat.reduceEqDiff, Nat.reduceLeDiff, Nat.reduceLT, Nat.reduceAdd, Nat.reduceMul, Nat.reduceSub, Int.reduceToNat, Int.reduceLE, Int.reduceLT, Int.reduceEq, Int.reduceAdd, Int.reduceSub, Int.reduceBEq, Int.reduceBNe, Int.reduceNeg, Int.cast_ofNat_Int, decide_true, decide_false, reduceCtorEq, Nat.zero_add, Nat.add_zero, Nat.zero_mul, Nat.reduceBEq, beq_self_eq_true, Nat.lt_irrefl, wrap_succ hkl hpl]
        have hb : l[i] ≠ l[k] := by simpa using hc
        refine round_of (i - (k + 1)) (by omega) (wk_slots (Nat.zero_le _) ?_) ⟨k + 1, by omega, rfl, fun j hj hji => ?_, rfl, rfl⟩
        · simp only [↓reduceIte, go_sem, Nat.reduceEqDiff, Nat.reduceLeDiff, Nat.reduceLT, Nat.reduceAdd, Nat.reduceMul, Nat.reduceSub, Int.reduceToNat, Int.reduceLE, Int.reduceLT, Int.reduceEq, Int.reduceAdd, Int.reduceSub, Int.reduceBEq, Int.reduceBNe, Int.reduceNeg, Int.cast_ofNat_Int, decide_true, decide_false, reduceCtorEq, Nat.zero_add, Nat.add_zero, Nat.zero_mul, Nat.reduceBEq, beq_self_eq_true, Nat.lt_irrefl]
        · rcases Nat.lt_or_eq_of_le (Nat.le_of_lt_succ hj) with h1 | rfl
          · exact hq j h1 hji
          · exact hb
    · simp only [↓reduceIte, go_sem, Nat.reduceEqDiff, Nat.reduceLeDiff, Nat.reduceLT, Nat.reduceAdd, Nat.reduceMul, Nat.reduceSub, Int.reduceToNat, Int.reduceLE, Int.reduceLT, Int.reduceEq, Int.reduceAdd, Int.reduceSub, Int.reduceBEq, Int.reduceBNe, Int.reduceNeg, Int.cast_ofNat_Int, decide_true, decide_false, reduceCtorEq, Nat.zero_add, Nat.add_zero, Nat.zero_mul, Nat.reduceBEq, beq_self_eq_true, Nat.lt_irrefl, lt_f hkt, wrap_succ hlt hpl]
      refine round_of (l.length - (i + 1)) (by omega) (wk_slots (Nat.zero_le _) ?_) ⟨i + 1, by omega, rfl, fun j k' hj hk' hji => ?_, rfl, rfl⟩
      · simp only [↓reduceIte, go_sem, Nat.reduceEqDiff, Nat.reduceLeDiff, Nat.reduceLT, Nat.reduceAdd, Nat.reduceMul, Nat.reduceSub, Int.reduceToNat, Int.reduceLE, Int.reduceLT, Int.reduceEq, Int.reduceAdd, Int.reduceSub, Int.reduceBEq, Int.reduceBNe, Int.reduceNeg, Int.cast_ofNat_Int, decide_true, decide_false, reduceCtorEq, Nat.zero_add, Nat.add_zero, Nat.zero_mul, Nat.reduceBEq, beq_self_eq_true, Nat.lt_irrefl]
      · rcases Nat.lt_or_eq_of_le (Nat.le_of_lt_succ hji) with h1 | rfl
        · exact hp j k' hj hk' h1
        · exact hq k' (by omega) hk'
  · simp only [↓reduceIte, go_sem, Nat.reduceEqDiff, Nat.reduceLeDiff, Nat.reduceLT, Nat.reduceAdd, Nat.reduceMul, Nat.reduceSub, Int.reduceToNat, Int.reduceLE, Int.reduceLT, Int.reduceEq, Int.reduceAdd, Int.reduceSub, Int.reduceBEq, Int.reduceBNe, Int.reduceNeg, Int.cast_ofNat_Int, decide_true, decide_false, reduceCtorEq, Nat.zero_add, Nat.add_zero, Nat.zero_mul, Nat.reduceBEq, beq_self_eq_true, Nat.lt_irrefl, lt_f hlt]
    have hnn : l.Nodup := by
      rw [List.nodup_iff_pairwise_ne, List.pairwise_iff_getElem]
      intro a b ha hb hab e
      exact hp b a hb hab (by omega) e.symm
    exact ret_r rfl (by simp only [checkF]; rw [if_neg h0, if_neg (by simpa using hnd), hl, if_neg (by simpa using hsw), if_neg (by simpa using hnn)]; rfl)
end Go.Proofs.Ytoeeiaconpagaaa
