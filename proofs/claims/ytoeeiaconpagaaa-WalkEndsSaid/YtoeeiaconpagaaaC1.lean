import Derived.Test.YtoeeiaconpagaaaCodeA
import Derived.Test.YtoeeiaconpagaaaData
set_option linter.unusedVariables false
set_option linter.unusedSimpArgs false
namespace Go.Proofs.Ytoeeiaconpagaaa
open Go.AM
theorem mixed : Try.prog.follows .mixedOrders = true := by kernel_rfl

theorem at_c (p : Pk) : CallsA Try.prog 44 [ePk p] [] (fun o _ => o = .ret (ePort ⟨p[0], p[1]⟩)) := by
  refine callsA_of_code mixed Try.func44 k44 (show (1 : Nat) ≤ 8 by decide) ?_
  simp only [↓reduceIte, go_sem, Nat.reduceEqDiff, Nat.reduceLeDiff, Nat.reduceLT, Nat.reduceAdd, Nat.reduceMul, Nat.reduceSub, Int.reduceToNat, Int.reduceLE, Int.reduceLT, Int.reduceEq, Int.reduceAdd, Int.reduceSub, Int.reduceBEq, Int.reduceBNe, Int.reduceNeg, Int.cast_ofNat_Int, decide_true, decide_false, reduceCtorEq, Nat.zero_add, Nat.add_zero, Nat.zero_mul, Nat.reduceBEq, beq_self_eq_true, Nat.lt_irrefl, F44, part_cPk]
  exact ret_r rfl rfl

/-- The first place. -/
def placeN (l : List UInt16) (s : UInt16) : Option Nat := l.findIdx? (· == s)
def placeF (l : List UInt16) (s : UInt16) : Int := match placeN l s with | some i => i | none => -1
theorem placeF_at {l : List UInt16} {s : UInt16} {i : Nat} (hi : i < l.length) (h1 : ∀ j (hj : j < i), l[j] ≠ s) (h2 : l[i] = s) : placeF l s = i := by
  have : placeN l s = some i := by
    unfold placeN
    rw [List.findIdx?_eq_some_iff_getElem]
    exact ⟨hi, by simp [h2], fun j hj => by simp [h1 j hj]⟩
  unfold placeF; rw [this]
theorem placeF_no {l : List UInt16} {s : UInt16} (h1 : ∀ j (hj : j < l.length), l[j] ≠ s) : placeF l s = -1 := by
  have : placeN l s = none := by
    unfold placeN
    rw [List.findIdx?_eq_none_iff]
    intro x hx
    obtain ⟨j, hj, rfl⟩ := List.getElem_of_mem hx
    simp [h1 j hj]
  unfold placeF; rw [this]

set_option maxHeartbeats 1000000 in
theorem place_c (t : Topo) (s : UInt16) (ht : t.fits) : CallsA Try.prog 36 [eTopo t, eU s] [] (fun o _ => o = .ret (.int .i64 (placeF t.sws s))) := by
  refine callsA_of_code mixed Try.func36 k36 (show (2 : Nat) ≤ 21 by decide) ?_
  simp only [↓reduceIte, go_sem, Nat.reduceEqDiff, Nat.reduceLeDiff, Nat.reduceLT, Nat.reduceAdd, Nat.reduceMul, Nat.reduceSub, Int.reduceToNat, Int.reduceLE, Int.reduceLT, Int.reduceEq, Int.reduceAdd, Int.reduceSub, Int.reduceBEq, Int.reduceBNe, Int.reduceNeg, Int.cast_ofNat_Int, decide_true, decide_false, reduceCtorEq, Nat.zero_add, Nat.add_zero, Nat.zero_mul, Nat.reduceBEq, beq_self_eq_true, Nat.lt_irrefl, F36]
  refine code_loop (fun n te h => ∃ i, i ≤ t.sws.length ∧ n = t.sws.length - i ∧ (∀ j (hj : j < t.sws.length), j < i → t.sws[j] ≠ s) ∧ te = [(1, eU s), (2, .ptr 0 0), (5, .int .i64 i)] ∧ h = [some (.cells (cTopo t))])
    t.sws.length (wk_slots (Nat.zero_le _) ?_) ⟨0, Nat.zero_le _, rfl, by omega, rfl, rfl⟩ ?_
  · simp only [↓reduceIte, go_sem, Nat.reduceEqDiff, Nat.reduceLeDiff, Nat.reduceLT, Nat.reduceAdd, Nat.reduceMul, Nat.reduceSub, Int.reduceToNat, Int.reduceLE, Int.reduceLT, Int.reduceEq, Int.reduceAdd, Int.reduceSub, Int.reduceBEq, Int.reduceBNe, Int.reduceNeg, Int.cast_ofNat_Int, decide_true, decide_false, reduceCtorEq, Nat.zero_add, Nat.add_zero, Nat.zero_mul, Nat.reduceBEq, beq_self_eq_true, Nat.lt_irrefl]
  · rintro n te h ⟨i, hi, rfl, hp, rfl, rfl⟩
    by_cases hlt : i < t.sws.length
    · simp only [↓reduceIte, go_sem, Nat.reduceEqDiff, Nat.reduceLeDiff, Nat.reduceLT, Nat.reduceAdd, Nat.reduceMul, Nat.reduceSub, Int.reduceToNat, Int.reduceLE, Int.reduceLT, Int.reduceEq, Int.reduceAdd, Int.reduceSub, Int.reduceBEq, Int.reduceBNe, Int.reduceNeg, Int.cast_ofNat_Int, decide_true, decide_false, reduceCtorEq, Nat.zero_add, Nat.add_zero, Nat.zero_mul, Nat.reduceBEq, beq_self_eq_true, Nat.lt_irrefl, lt_t hlt, getD_map hlt, wrap_succ hlt ht.s, idx hlt]
      refine condK_split (fun hc => ?_) (fun hc => ?_)
      · simp only [↓reduceIte, go_sem, Nat.reduceEqDiff, Nat.reduceLeDiff, Nat.reduceLT, Nat.reduceAdd, Nat.reduceMul, Nat.reduceSub, Int.reduceToNat, Int.reduceLE, Int.reduceLT, Int.reduceEq, Int.reduceAdd, Int.reduceSub, Int.reduceBEq, Int.reduceBNe, Int.reduceNeg, Int.cast_ofNat_Int, decide_true, decide_false, reduceCtorEq, Nat.zero_add, Nat.add_zero, Nat.zero_mul, Nat.reduceBEq, beq_self_eq_true, Nat.lt_irrefl]
        exact ret_r rfl (by rw [placeF_at hlt (fun j hj => hp j (by omega) hj) (by simpa using hc)]; rfl)
      · simp only [↓reduceIte, go_sem, Nat.reduceEqDiff, Nat.reduceLeDiff, Nat.reduceLT, Nat.reduceAdd, Nat.reduceMul, Nat.reduceSub, Int.reduceToNat, Int.reduceLE, Int.reduceLT, Int.reduceEq, Int.reduceAdd, Int.reduceSub, Int.reduceBEq, Int.reduceBNe, Int.reduceNeg, Int.cast_ofNat_Int, decide_true, decide_false, reduceCtorEq, Nat.zero_add, Nat.add_zero, Nat.zero_mul, Nat.reduceBEq, beq_self_eq_true, Nat.lt_irrefl, wrap_succ hlt ht.s]
        refine round_of (t.sws.length - (i + 1)) (by omega) (wk_slots (Nat.zero_le _) ?_) ⟨i + 1, by omega, rfl, fun j hj hji => ?_, rfl, rfl⟩
        · simp only [↓reduceIte, go_sem, Nat.reduceEqDiff, Nat.reduceLeDiff, Nat.reduceLT, Nat.reduceAdd, Nat.reduceMul, Nat.reduceSub, Int.reduceToNat, Int.reduceLE, Int.reduceLT, Int.reduceEq, Int.reduceAdd, Int.reduceSub, Int.reduceBEq, Int.reduceBNe, Int.reduceNeg, Int.cast_ofNat_Int, decide_true, decide_false, reduceCtorEq, Nat.zero_add, Nat.add_zero, Nat.zero_mul, Nat.reduceBEq, beq_self_eq_true, Nat.lt_irrefl]
        · rcases Nat.lt_or_eq_of_le (Nat.le_of_lt_succ hji) with h1 | rfl
          · exact hp j hj h1
          · simpa using hc
    · simp only [↓reduceIte, go_sem, Nat.reduceEqDiff, Nat.reduceLeDiff, Nat.reduceLT, Nat.reduceAdd, Nat.reduceMul, Nat.reduceSub, Int.reduceToNat, Int.reduceLE, Int.reduceLT, Int.reduceEq, Int.reduceAdd, Int.reduceSub, Int.reduceBEq, Int.reduceBNe, Int.reduceNeg, Int.cast_ofNat_Int, decide_true, decide_false, reduceCtorEq, Nat.zero_add, Nat.add_zero, Nat.zero_mul, Nat.reduceBEq, beq_self_eq_true, Nat.lt_irrefl, lt_f hlt]
      exact ret_r rfl (by rw [placeF_no (fun j hj => hp j hj (by omega))]; rfl)

/-- slices.Index at ports. -/
def idxF (l : List Port) (s : Port) : Int := match l.findIdx? (· == s) with | some i => i | none => -1
theorem idxF_at {l : List Port} {s : Port} {i : Nat} (hi : i < l.length) (h1 : ∀ j (hj : j < l.length), j < i → l[j] ≠ s) (h2 : l[i] = s) : idxF l s = i := by
  have : l.findIdx? (· == s) = some i := by
    rw [List.findIdx?_eq_some_iff_getElem]
    exact ⟨hi, by simp [h2], fun j hj => by simp [h1 j (by omega) hj]⟩
  unfold idxF; rw [this]
theorem idxF_no {l : List Port} {s : Port} (h1 : ∀ j (hj : j < l.length), l[j] ≠ s) : idxF l s = -1 := by
  have : l.findIdx? (· == s) = none := by
    rw [List.findIdx?_eq_none_iff]
    intro x hx
    obtain ⟨j, hj, rfl⟩ := List.getElem_of_mem hx
    simp [h1 j hj]
  unfold idxF; rw [this]
theorem idxF_mem (l : List Port) (s : Port) : decide (idxF l s ≥ 0) = l.contains s := by
  unfold idxF
  cases h : l.findIdx? (· == s) with
  | some i =>
    rw [List.findIdx?_eq_some_iff_getElem] at h
    obtain ⟨hi, h2, _⟩ := h
    have : l.contains s = true := by
      rw [List.contains_iff_mem]
      exact (by simpa using h2 : l[i] = s) ▸ List.getElem_mem hi
    rw [this]; simp
  | none =>
    rw [List.findIdx?_eq_none_iff] at h
    have : l.contains s = false := by
      rw [Bool.eq_false_iff]
      intro hc
      rw [List.contains_iff_mem] at hc
      have := h s hc
      simp at this
    rw [this]; rfl

theorem index_c (l : List Port) (s : Port) (hl : l.length ≤ maxLen) : CallsA Try.prog 79 [.lit 2 (l.map ePort), ePort s] [] (fun o _ => o = .ret (.int .i64 (idxF l s))) := by
  refine callsA_of_code mixed Try.func79 k79 (show (2 : Nat) ≤ 19 by decide) ?_
  simp only [↓reduceIte, go_sem, Nat.reduceEqDiff, Nat.reduceLeDiff, Nat.reduceLT, Nat.reduceAdd, Nat.reduceMul, Nat.reduceSub, Int.reduceToNat, Int.reduceLE, Int.reduceLT, Int.reduceEq, Int.reduceAdd, Int.reduceSub, Int.reduceBEq, Int.reduceBNe, Int.reduceNeg, Int.cast_ofNat_Int, decide_true, decide_false, reduceCtorEq, Nat.zero_add, Nat.add_zero, Nat.zero_mul, Nat.reduceBEq, beq_self_eq_true, Nat.lt_irrefl, F79]
  refine code_loop (fun n te h => ∃ i, i ≤ l.length ∧ n = l.length - i ∧ (∀ j (hj : j < l.length), j < i → l[j] ≠ s) ∧ te = [(0, .lit 2 (l.map ePort)), (3, .ptr 0 0), (7, .int .i64 l.length), (8, .int .i64 i)] ∧ h = [some (.cells (cPort s))])
    l.length (wk_slots (Nat.zero_le _) ?_) ⟨0, Nat.zero_le _, rfl, by omega, rfl, rfl⟩ ?_
  · simp only [↓reduceIte, go_sem, Nat.reduceEqDiff, Nat.reduceLeDiff, Nat.reduceLT, Nat.reduceAdd, Nat.reduceMul, Nat.reduceSub, Int.reduceToNat, Int.reduceLE, Int.reduceLT, Int.reduceEq, Int.reduceAdd, Int.reduceSub, Int.reduceBEq, Int.reduceBNe, Int.reduceNeg, Int.cast_ofNat_Int, decide_true, decide_false, reduceCtorEq, Nat.zero_add, Nat.add_zero, Nat.zero_mul, Nat.reduceBEq, beq_self_eq_true, Nat.lt_irrefl]
  · rintro n te h ⟨i, hi, rfl, hp, rfl, rfl⟩
    by_cases hlt : i < l.length
    · simp only [↓reduceIte, go_sem, Nat.reduceEqDiff, Nat.reduceLeDiff, Nat.reduceLT, Nat.reduceAdd, Nat.reduceMul, Nat.reduceSub, Int.reduceToNat, Int.reduceLE, Int.reduceLT, Int.reduceEq, Int.reduceAdd, Int.reduceSub, Int.reduceBEq, Int.reduceBNe, Int.reduceNeg, Int.cast_ofNat_Int, decide_true, decide_false, reduceCtorEq, Nat.zero_add, Nat.add_zero, Nat.zero_mul, Nat.reduceBEq, beq_self_eq_true, Nat.lt_irrefl, lt_t hlt, code_draw]
      refine draw_rd ?_
      simp only [↓reduceIte, go_sem, Nat.reduceEqDiff, Nat.reduceLeDiff, Nat.reduceLT, Nat.reduceAdd, Nat.reduceMul, Nat.reduceSub, Int.reduceToNat, Int.reduceLE, Int.reduceLT, Int.reduceEq, Int.reduceAdd, Int.reduceSub, Int.reduceBEq, Int.reduceBNe, Int.reduceNeg, Int.cast_ofNat_Int, decide_true, decide_false, reduceCtorEq, Nat.zero_add, Nat.add_zero, Nat.zero_mul, Nat.reduceBEq, beq_self_eq_true, Nat.lt_irrefl, getD_map hlt, idx hlt]
      refine condK_split (fun hc => ?_) (fun hc => ?_)
      · simp only [↓reduceIte, go_sem, Nat.reduceEqDiff, Nat.reduceLeDiff, Nat.reduceLT, Nat.reduceAdd, Nat.reduceMul, Nat.reduceSub, Int.reduceToNat, Int.reduceLE, Int.reduceLT, Int.reduceEq, Int.reduceAdd, Int.reduceSub, Int.reduceBEq, Int.reduceBNe, Int.reduceNeg, Int.cast_ofNat_Int, decide_true, decide_false, reduceCtorEq, Nat.zero_add, Nat.add_zero, Nat.zero_mul, Nat.reduceBEq, beq_self_eq_true, Nat.lt_irrefl]
        exact ret_r rfl (by rw [idxF_at hlt hp (by simpa using (beq_iff_eq.1 hc).symm)]; rfl)
      · simp only [↓reduceIte, go_sem, Nat.reduceEqDiff, Nat.reduceLeDiff, Nat.reduceLT, Nat.reduceAdd, Nat.reduceMul, Nat.reduceSub, Int.reduceToNat, Int.reduceLE, Int.reduceLT, Int.reduceEq, Int.reduceAdd, Int.reduceSub, Int.reduceBEq, Int.reduceBNe, Int.reduceNeg, Int.cast_ofNat_Int, decide_true, decide_false, reduceCtorEq, Nat.zero_add, Nat.add_zero, Nat.zero_mul, Nat.reduceBEq, beq_self_eq_true, Nat.lt_irrefl, wrap_succ hlt hl]
        refine round_of (l.length - (i + 1)) (by omega) (wk_slots (Nat.zero_le _) ?_) ⟨i + 1, by omega, rfl, fun j hj hji => ?_, rfl, rfl⟩
        · simp only [↓reduceIte, go_sem, Nat.reduceEqDiff, Nat.reduceLeDiff, Nat.reduceLT, Nat.reduceAdd, Nat.reduceMul, Nat.reduceSub, Int.reduceToNat, Int.reduceLE, Int.reduceLT, Int.reduceEq, Int.reduceAdd, Int.reduceSub, Int.reduceBEq, Int.reduceBNe, Int.reduceNeg, Int.cast_ofNat_Int, decide_true, decide_false, reduceCtorEq, Nat.zero_add, Nat.add_zero, Nat.zero_mul, Nat.reduceBEq, beq_self_eq_true, Nat.lt_irrefl]
        · rcases Nat.lt_or_eq_of_le (Nat.le_of_lt_succ hji) with h1 | rfl
          · exact hp j hj h1
          · intro e; rw [e] at hc; simp at hc
    · simp only [↓reduceIte, go_sem, Nat.reduceEqDiff, Nat.reduceLeDiff, Nat.reduceLT, Nat.reduceAdd, Nat.reduceMul, Nat.reduceSub, Int.reduceToNat, Int.reduceLE, Int.reduceLT, Int.reduceEq, Int.reduceAdd, Int.reduceSub, Int.reduceBEq, Int.reduceBNe, Int.reduceNeg, Int.cast_ofNat_Int, decide_true, decide_false, reduceCtorEq, Nat.zero_add, Nat.add_zero, Nat.zero_mul, Nat.reduceBEq, beq_self_eq_true, Nat.lt_irrefl, lt_f hlt]
      exact ret_r rfl (by rw [idxF_no (fun j hj => hp j hj (by omega))]; rfl)


theorem containsPort_c (l : List Port) (s : Port) (hl : l.length ≤ maxLen) : CallsA Try.prog 65 [.lit 2 (l.map ePort), ePort s] [] (fun o _ => o = .ret (.bool (l.contains s))) := by
  refine callsA_of_code mixed Try.func65 k65 (show (2 : Nat) ≤ 9 by decide) ?_
  simp only [↓reduceIte, go_sem, Nat.reduceEqDiff, Nat.reduceLeDiff, Nat.reduceLT, Nat.reduceAdd, Nat.reduceMul, Nat.reduceSub, Int.reduceToNat, Int.reduceLE, Int.reduceLT, Int.reduceEq, Int.reduceAdd, Int.reduceSub, Int.reduceBEq, Int.reduceBNe, Int.reduceNeg, Int.cast_ofNat_Int, decide_true, decide_false, reduceCtorEq, Nat.zero_add, Nat.add_zero, Nat.zero_mul, Nat.reduceBEq, beq_self_eq_true, Nat.lt_irrefl, F65]
  refine call_pure (index_c l s hl) rfl rfl rfl (by simp only [↓reduceIte, go_sem, Nat.reduceEqDiff, Nat.reduceLeDiff, Nat.reduceLT, Nat.reduceAdd, Nat.reduceMul, Nat.reduceSub, Int.reduceToNat, Int.reduceLE, Int.reduceLT, Int.reduceEq, Int.reduceAdd, Int.reduceSub, Int.reduceBEq, Int.reduceBNe, Int.reduceNeg, Int.cast_ofNat_Int, decide_true, decide_false, reduceCtorEq, Nat.zero_add, Nat.add_zero, Nat.zero_mul, Nat.reduceBEq, beq_self_eq_true, Nat.lt_irrefl]) ?_
  simp only [↓reduceIte, go_sem, Nat.reduceEqDiff, Nat.reduceLeDiff, Nat.reduceLT, Nat.reduceAdd, Nat.reduceMul, Nat.reduceSub, Int.reduceToNat, Int.reduceLE, Int.reduceLT, Int.reduceEq, Int.reduceAdd, Int.reduceSub, Int.reduceBEq, Int.reduceBNe, Int.reduceNeg, Int.cast_ofNat_Int, decide_true, decide_false, reduceCtorEq, Nat.zero_add, Nat.add_zero, Nat.zero_mul, Nat.reduceBEq, beq_self_eq_true, Nat.lt_irrefl]
  exact ret_r rfl (by rw [← idxF_mem]; rfl)

theorem topoHost_c (t : Topo) (s : Port) (ht : t.fits) : CallsA Try.prog 47 [eTopo t, ePort s] [] (fun o _ => o = .ret (.bool (t.hosts.contains s))) := by
  refine callsA_of_code mixed Try.func47 k47 (show (2 : Nat) ≤ 9 by decide) ?_
  simp only [↓reduceIte, go_sem, Nat.reduceEqDiff, Nat.reduceLeDiff, Nat.reduceLT, Nat.reduceAdd, Nat.reduceMul, Nat.reduceSub, Int.reduceToNat, Int.reduceLE, Int.reduceLT, Int.reduceEq, Int.reduceAdd, Int.reduceSub, Int.reduceBEq, Int.reduceBNe, Int.reduceNeg, Int.cast_ofNat_Int, decide_true, decide_false, reduceCtorEq, Nat.zero_add, Nat.add_zero, Nat.zero_mul, Nat.reduceBEq, beq_self_eq_true, Nat.lt_irrefl, F47]
  refine call_pure (containsPort_c t.hosts s ht.h) rfl rfl rfl (by simp only [↓reduceIte, go_sem, Nat.reduceEqDiff, Nat.reduceLeDiff, Nat.reduceLT, Nat.reduceAdd, Nat.reduceMul, Nat.reduceSub, Int.reduceToNat, Int.reduceLE, Int.reduceLT, Int.reduceEq, Int.reduceAdd, Int.reduceSub, Int.reduceBEq, Int.reduceBNe, Int.reduceNeg, Int.cast_ofNat_Int, decide_true, decide_false, reduceCtorEq, Nat.zero_add, Nat.add_zero, Nat.zero_mul, Nat.reduceBEq, beq_self_eq_true, Nat.lt_irrefl]) ?_
  simp only [↓reduceIte, go_sem, Nat.reduceEqDiff, Nat.reduceLeDiff, Nat.reduceLT, Nat.reduceAdd, Nat.reduceMul, Nat.reduceSub, Int.reduceToNat, Int.reduceLE, Int.reduceLT, Int.reduceEq, Int.reduceAdd, Int.reduceSub, Int.reduceBEq, Int.reduceBNe, Int.reduceNeg, Int.cast_ofNat_Int, decide_true, decide_false, reduceCtorEq, Nat.zero_add, Nat.add_zero, Nat.zero_mul, Nat.reduceBEq, beq_self_eq_true, Nat.lt_irrefl]
  exact ret_r rfl rfl

/-- The other end of a link. -/
def otherF (l : List (Port × Port)) (p : Port) : Option Port :=
  match l with
  | [] => none
  | x :: r => if p = x.1 then some x.2 else if p = x.2 then some x.1 else otherF r p
theorem otherF_drop {l : List (Port × Port)} {p : Port} {i : Nat} (hi : i < l.length) : otherF (l.drop i) p = if p = l[i].1 then some l[i].2 else if p = l[i].2 then some l[i].1 else otherF (l.drop (i + 1)) p := by
  rw [List.drop_eq_getElem_cons hi]; rfl
def eOther : Option Port → AV
  | some p => .tup [ePort p, .bool true]
  | none => .tup [ePort ⟨0, 0⟩, .bool false]

set_option maxHeartbeats 1000000 in
theorem topoOther_c (t : Topo) (p : Port) (ht : t.fits) : CallsA Try.prog 45 [eTopo t, ePort p] [] (fun o _ => o = .ret (eOther (otherF t.links p))) := by
  refine callsA_of_code mixed Try.func45 k45 (show (2 : Nat) ≤ 30 by decide) ?_
  simp only [↓reduceIte, go_sem, Nat.reduceEqDiff, Nat.reduceLeDiff, Nat.reduceLT, Nat.reduceAdd, Nat.reduceMul, Nat.reduceSub, Int.reduceToNat, Int.reduceLE, Int.reduceLT, Int.reduceEq, Int.reduceAdd, Int.reduceSub, Int.reduceBEq, Int.reduceBNe, Int.reduceNeg, Int.cast_ofNat_Int, decide_true, decide_false, reduceCtorEq, Nat.zero_add, Nat.add_zero, Nat.zero_mul, Nat.reduceBEq, beq_self_eq_true, Nat.lt_irrefl, F45]
  refine code_loop (fun n te h => ∃ i, i ≤ t.links.length ∧ n = t.links.length - i ∧ otherF t.links p = otherF (t.links.drop i) p ∧
      te = [(3, .ptr 1 0), (4, .ptr 2 0), (9, .lit 4 (t.links.map eLink)), (10, .int .i64 t.links.length), (11, .int .i64 i)] ∧ h = [some (.cells (cTopo t)), some (.cells (cPort p)), some (.cells [.int .u16 0, .int .u16 0])])
    t.links.length (wk_slots (Nat.zero_le _) ?_) ⟨0, Nat.zero_le _, rfl, rfl, rfl, rfl⟩ ?_
  · simp only [↓reduceIte, go_sem, Nat.reduceEqDiff, Nat.reduceLeDiff, Nat.reduceLT, Nat.reduceAdd, Nat.reduceMul, Nat.reduceSub, Int.reduceToNat, Int.reduceLE, Int.reduceLT, Int.reduceEq, Int.reduceAdd, Int.reduceSub, Int.reduceBEq, Int.reduceBNe, Int.reduceNeg, Int.cast_ofNat_Int, decide_true, decide_false, reduceCtorEq, Nat.zero_add, Nat.add_zero, Nat.zero_mul, Nat.reduceBEq, beq_self_eq_true, Nat.lt_irrefl]
  · rintro n te h ⟨i, hi, rfl, hp, rfl, rfl⟩
    by_cases hlt : i < t.links.length
    · rw [otherF_drop hlt] at hp
      simp only [↓reduceIte, go_sem, Nat.reduceEqDiff, Nat.reduceLeDiff, Nat.reduceLT, Nat.reduceAdd, Nat.reduceMul, Nat.reduceSub, Int.reduceToNat, Int.reduceLE, Int.reduceLT, Int.reduceEq, Int.reduceAdd, Int.reduceSub, Int.reduceBEq, Int.reduceBNe, Int.reduceNeg, Int.cast_ofNat_Int, decide_true, decide_false, reduceCtorEq, Nat.zero_add, Nat.add_zero, Nat.zero_mul, Nat.reduceBEq, beq_self_eq_true, Nat.lt_irrefl, lt_t hlt, getD_map hlt, idx hlt]
      refine condK_split (fun hc => ?_) (fun hc => ?_)
      · simp only [↓reduceIte, go_sem, Nat.reduceEqDiff, Nat.reduceLeDiff, Nat.reduceLT, Nat.reduceAdd, Nat.reduceMul, Nat.reduceSub, Int.reduceToNat, Int.reduceLE, Int.reduceLT, Int.reduceEq, Int.reduceAdd, Int.reduceSub, Int.reduceBEq, Int.reduceBNe, Int.reduceNeg, Int.cast_ofNat_Int, decide_true, decide_false, reduceCtorEq, Nat.zero_add, Nat.add_zero, Nat.zero_mul, Nat.reduceBEq, beq_self_eq_true, Nat.lt_irrefl]
        exact ret_r rfl (by rw [hp, if_pos (by simpa using hc)]; rfl)
      · simp only [↓reduceIte, go_sem, Nat.reduceEqDiff, Nat.reduceLeDiff, Nat.reduceLT, Nat.reduceAdd, Nat.reduceMul, Nat.reduceSub, Int.reduceToNat, Int.reduceLE, Int.reduceLT, Int.reduceEq, Int.reduceAdd, Int.reduceSub, Int.reduceBEq, Int.reduceBNe, Int.reduceNeg, Int.cast_ofNat_Int, decide_true, decide_false, reduceCtorEq, Nat.zero_add, Nat.add_zero, Nat.zero_mul, Nat.reduceBEq, beq_self_eq_true, Nat.lt_irrefl]
        refine condK_split (fun hc2 => ?_) (fun hc2 => ?_)
        · simp only [↓reduceIte, go_sem, Nat.reduceEqDiff, Nat.reduceLeDiff, Nat.reduceLT, Nat.reduceAdd, Nat.reduceMul, Nat.reduceSub, Int.reduceToNat, Int.reduceLE, Int.reduceLT, Int.reduceEq, Int.reduceAdd, Int.reduceSub, Int.reduceBEq, Int.reduceBNe, Int.reduceNeg, Int.cast_ofNat_Int, decide_true, decide_false, reduceCtorEq, Nat.zero_add, Nat.add_zero, Nat.zero_mul, Nat.reduceBEq, beq_self_eq_true, Nat.lt_irrefl]
          exact ret_r rfl (by rw [hp, if_neg (by simpa using hc), if_pos (by simpa using hc2)]; rfl)
        · simp only [↓reduceIte, go_sem, Nat.reduceEqDiff, Nat.reduceLeDiff, Nat.reduceLT, Nat.reduceAdd, Nat.reduceMul, Nat.reduceSub, Int.reduceToNat, Int.reduceLE, Int.reduceLT, Int.reduceEq, Int.reduceAdd, Int.reduceSub, Int.reduceBEq, Int.reduceBNe, Int.reduceNeg, Int.cast_ofNat_Int, decide_true, decide_false, reduceCtorEq, Nat.zero_add, Nat.add_zero, Nat.zero_mul, Nat.reduceBEq, beq_self_eq_true, Nat.lt_irrefl, wrap_succ hlt ht.l]
          rw [if_neg (by simpa using hc), if_neg (by simpa using hc2)] at hp
          refine round_of (t.links.length - (i + 1)) (by omega) (WkE.of [0, 1, 2] [] (by decide) (by simp) (by omega) ?_ ?_) ⟨i + 1, by omega, rfl, hp, rfl, rfl⟩
          · simp only [↓reduceIte, go_sem, Nat.reduceEqDiff, Nat.reduceLeDiff, Nat.reduceLT, Nat.reduceAdd, Nat.reduceMul, Nat.reduceSub, Int.reduceToNat, Int.reduceLE, Int.reduceLT, Int.reduceEq, Int.reduceAdd, Int.reduceSub, Int.reduceBEq, Int.reduceBNe, Int.reduceNeg, Int.cast_ofNat_Int, decide_true, decide_false, reduceCtorEq, Nat.zero_add, Nat.add_zero, Nat.zero_mul, Nat.reduceBEq, beq_self_eq_true, Nat.lt_irrefl]
          · simp only [↓reduceIte, go_sem, Nat.reduceEqDiff, Nat.reduceLeDiff, Nat.reduceLT, Nat.reduceAdd, Nat.reduceMul, Nat.reduceSub, Int.reduceToNat, Int.reduceLE, Int.reduceLT, Int.reduceEq, Int.reduceAdd, Int.reduceSub, Int.reduceBEq, Int.reduceBNe, Int.reduceNeg, Int.cast_ofNat_Int, decide_true, decide_false, reduceCtorEq, Nat.zero_add, Nat.add_zero, Nat.zero_mul, Nat.reduceBEq, beq_self_eq_true, Nat.lt_irrefl]
    · simp only [↓reduceIte, go_sem, Nat.reduceEqDiff, Nat.reduceLeDiff, Nat.reduceLT, Nat.reduceAdd, Nat.reduceMul, Nat.reduceSub, Int.reduceToNat, Int.reduceLE, Int.reduceLT, Int.reduceEq, Int.reduceAdd, Int.reduceSub, Int.reduceBEq, Int.reduceBNe, Int.reduceNeg, Int.cast_ofNat_Int, decide_true, decide_false, reduceCtorEq, Nat.zero_add, Nat.add_zero, Nat.zero_mul, Nat.reduceBEq, beq_self_eq_true, Nat.lt_irrefl, lt_f hlt]
      rw [List.drop_of_length_le (by omega)] at hp
      exact ret_r rfl (by rw [hp]; rfl)


def toF (p : Pk) (a : Port) : Pk := (p.set 0 a.sw).set 1 a.pt
theorem to_c (p : Pk) (a : Port) : CallsA Try.prog 46 [ePk p, ePort a] [] (fun o _ => o = .ret (ePk (toF p a))) := by
  refine callsA_of_code mixed Try.func46 k46 (show (2 : Nat) ≤ 12 by decide) ?_
  simp only [↓reduceIte, go_sem, Nat.reduceEqDiff, Nat.reduceLeDiff, Nat.reduceLT, Nat.reduceAdd, Nat.reduceMul, Nat.reduceSub, Int.reduceToNat, Int.reduceLE, Int.reduceLT, Int.reduceEq, Int.reduceAdd, Int.reduceSub, Int.reduceBEq, Int.reduceBNe, Int.reduceNeg, Int.cast_ofNat_Int, decide_true, decide_false, reduceCtorEq, Nat.zero_add, Nat.add_zero, Nat.zero_mul, Nat.reduceBEq, beq_self_eq_true, Nat.lt_irrefl, F46, code_draw]
  refine draw_sd ?_
  simp only [↓reduceIte, go_sem, Nat.reduceEqDiff, Nat.reduceLeDiff, Nat.reduceLT, Nat.reduceAdd, Nat.reduceMul, Nat.reduceSub, Int.reduceToNat, Int.reduceLE, Int.reduceLT, Int.reduceEq, Int.reduceAdd, Int.reduceSub, Int.reduceBEq, Int.reduceBNe, Int.reduceNeg, Int.cast_ofNat_Int, decide_true, decide_false, reduceCtorEq, Nat.zero_add, Nat.add_zero, Nat.zero_mul, Nat.reduceBEq, beq_self_eq_true, Nat.lt_irrefl, overwrite_cPk]
  refine ⟨by decide, ?_⟩
  exact ret_r (by simp only [↓reduceIte, go_sem, Nat.reduceEqDiff, Nat.reduceLeDiff, Nat.reduceLT, Nat.reduceAdd, Nat.reduceMul, Nat.reduceSub, Int.reduceToNat, Int.reduceLE, Int.reduceLT, Int.reduceEq, Int.reduceAdd, Int.reduceSub, Int.reduceBEq, Int.reduceBNe, Int.reduceNeg, Int.cast_ofNat_Int, decide_true, decide_false, reduceCtorEq, Nat.zero_add, Nat.add_zero, Nat.zero_mul, Nat.reduceBEq, beq_self_eq_true, Nat.lt_irrefl]; exact rfl) rfl

/-- walk.Next -/
def nextF (t : Topo) (q : Pk) : Pk × Int :=
  match otherF t.links ⟨q[0], q[1]⟩ with
  | some o => (toF q o, 0)
  | none => if t.hosts.contains ⟨q[0], q[1]⟩ then (q, 1) else (q, 2)
theorem next_c (t : Topo) (q : Pk) (ht : t.fits) : CallsA Try.prog 22 [eTopo t, ePk q] [] (fun o _ => o = .ret (.tup [ePk (nextF t q).1, .int .i64 (nextF t q).2])) := by
  refine callsA_of_code mixed Try.func22 k22 (show (2 : Nat) ≤ 26 by decide) ?_
  simp only [↓reduceIte, go_sem, Nat.reduceEqDiff, Nat.reduceLeDiff, Nat.reduceLT, Nat.reduceAdd, Nat.reduceMul, Nat.reduceSub, Int.reduceToNat, Int.reduceLE, Int.reduceLT, Int.reduceEq, Int.reduceAdd, Int.reduceSub, Int.reduceBEq, Int.reduceBNe, Int.reduceNeg, Int.cast_ofNat_Int, decide_true, decide_false, reduceCtorEq, Nat.zero_add, Nat.add_zero, Nat.zero_mul, Nat.reduceBEq, beq_self_eq_true, Nat.lt_irrefl, F22]
  refine call_pure (at_c q) rfl rfl rfl (by simp only [↓reduceIte, go_sem, Nat.reduceEqDiff, Nat.reduceLeDiff, Nat.reduceLT, Nat.reduceAdd, Nat.reduceMul, Nat.reduceSub, Int.reduceToNat, Int.reduceLE, Int.reduceLT, Int.reduceEq, Int.reduceAdd, Int.reduceSub, Int.reduceBEq, Int.reduceBNe, Int.reduceNeg, Int.cast_ofNat_Int, decide_true, decide_false, reduceCtorEq, Nat.zero_add, Nat.add_zero, Nat.zero_mul, Nat.reduceBEq, beq_self_eq_true, Nat.lt_irrefl]) ?_
  simp only [↓reduceIte, go_sem, Nat.reduceEqDiff, Nat.reduceLeDiff, Nat.reduceLT, Nat.reduceAdd, Nat.reduceMul, Nat.reduceSub, Int.reduceToNat, Int.reduceLE, Int.reduceLT, Int.reduceEq, Int.reduceAdd, Int.reduceSub, Int.reduceBEq, Int.reduceBNe, Int.reduceNeg, Int.cast_ofNat_Int, decide_true, decide_false, reduceCtorEq, Nat.zero_add, Nat.add_zero, Nat.zero_mul, Nat.reduceBEq, beq_self_eq_true, Nat.lt_irrefl]
  refine call_pure (topoOther_c t _ ht) rfl rfl rfl (by simp only [↓reduceIte, go_sem, Nat.reduceEqDiff, Nat.reduceLeDiff, Nat.reduceLT, Nat.reduceAdd, Nat.reduceMul, Nat.reduceSub, Int.reduceToNat, Int.reduceLE, Int.reduceLT, Int.reduceEq, Int.reduceAdd, Int.reduceSub, Int.reduceBEq, Int.reduceBNe, Int.reduceNeg, Int.cast_ofNat_Int, decide_true, decide_false, reduceCtorEq, Nat.zero_add, Nat.add_zero, Nat.zero_mul, Nat.reduceBEq, beq_self_eq_true, Nat.lt_irrefl]; cases otherF t.links ⟨q[0], q[1]⟩ <;> simp only [eOther, ↓reduceIte, go_sem, Nat.reduceEqDiff, Nat.reduceLeDiff, Nat.reduceLT, Nat.reduceAdd, Nat.reduceMul, Nat.reduceSub, Int.reduceToNat, Int.reduceLE, Int.reduceLT, Int.reduceEq, Int.reduceAdd, Int.reduceSub, Int.reduceBEq, Int.reduceBNe, Int.reduceNeg, Int.cast_ofNat_Int, decide_true, decide_false, reduceCtorEq, Nat.zero_add, Nat.add_zero, Nat.zero_mul, Nat.reduceBEq, beq_self_eq_true, Nat.lt_irrefl]) ?_
  cases ho : otherF t.links ⟨q[0], q[1]⟩ with
  | some o =>
    simp only [↓reduceIte, go_sem, Nat.reduceEqDiff, Nat.reduceLeDiff, Nat.reduceLT, Nat.reduceAdd, Nat.reduceMul, Nat.reduceSub, Int.reduceToNat, Int.reduceLE, Int.reduceLT, Int.reduceEq, Int.reduceAdd, Int.reduceSub, Int.reduceBEq, Int.reduceBNe, Int.reduceNeg, Int.cast_ofNat_Int, decide_true, decide_false, reduceCtorEq, Nat.zero_add, Nat.add_zero, Nat.zero_mul, Nat.reduceBEq, beq_self_eq_true, Nat.lt_irrefl, eOther]
    refine call_pure (to_c q o) rfl rfl rfl (by simp only [↓reduceIte, go_sem, Nat.reduceEqDiff, Nat.reduceLeDiff, Nat.reduceLT, Nat.reduceAdd, Nat.reduceMul, Nat.reduceSub, Int.reduceToNat, Int.reduceLE, Int.reduceLT, Int.reduceEq, Int.reduceAdd, Int.reduceSub, Int.reduceBEq, Int.reduceBNe, Int.reduceNeg, Int.cast_ofNat_Int, decide_true, decide_false, reduceCtorEq, Nat.zero_add, Nat.add_zero, Nat.zero_mul, Nat.reduceBEq, beq_self_eq_true, Nat.lt_irrefl]) ?_
    simp only [↓reduceIte, go_sem, Nat.reduceEqDiff, Nat.reduceLeDiff, Nat.reduceLT, Nat.reduceAdd, Nat.reduceMul, Nat.reduceSub, Int.reduceToNat, Int.reduceLE, Int.reduceLT, Int.reduceEq, Int.reduceAdd, Int.reduceSub, Int.reduceBEq, Int.reduceBNe, Int.reduceNeg, Int.cast_ofNat_Int, decide_true, decide_false, reduceCtorEq, Nat.zero_add, Nat.add_zero, Nat.zero_mul, Nat.reduceBEq, beq_self_eq_true, Nat.lt_irrefl]
    exact ret_r (by simp only [↓reduceIte, go_sem, Nat.reduceEqDiff, Nat.reduceLeDiff, Nat.reduceLT, Nat.reduceAdd, Nat.reduceMul, Nat.reduceSub, Int.reduceToNat, Int.reduceLE, Int.reduceLT, Int.reduceEq, Int.reduceAdd, Int.reduceSub, Int.reduceBEq, Int.reduceBNe, Int.reduceNeg, Int.cast_ofNat_Int, decide_true, decide_false, reduceCtorEq, Nat.zero_add, Nat.add_zero, Nat.zero_mul, Nat.reduceBEq, beq_self_eq_true, Nat.lt_irrefl]; exact rfl) (by simp only [nextF, ho])
  | none =>
    simp only [↓reduceIte, go_sem, Nat.reduceEqDiff, Nat.reduceLeDiff, Nat.reduceLT, Nat.reduceAdd, Nat.reduceMul, Nat.reduceSub, Int.reduceToNat, Int.reduceLE, Int.reduceLT, Int.reduceEq, Int.reduceAdd, Int.reduceSub, Int.reduceBEq, Int.reduceBNe, Int.reduceNeg, Int.cast_ofNat_Int, decide_true, decide_false, reduceCtorEq, Nat.zero_add, Nat.add_zero, Nat.zero_mul, Nat.reduceBEq, beq_self_eq_true, Nat.lt_irrefl, eOther]
    refine call_pure (topoHost_c t _ ht) rfl rfl rfl (by simp only [↓reduceIte, go_sem, Nat.reduceEqDiff, Nat.reduceLeDiff, Nat.reduceLT, Nat.reduceAdd, Nat.reduceMul, Nat.reduceSub, Int.reduceToNat, Int.reduceLE, Int.reduceLT, Int.reduceEq, Int.reduceAdd, Int.reduceSub, Int.reduceBEq, Int.reduceBNe, Int.reduceNeg, Int.cast_ofNat_Int, decide_true, decide_false, reduceCtorEq, Nat.zero_add, Nat.add_zero, Nat.zero_mul, Nat.reduceBEq, beq_self_eq_true, Nat.lt_irrefl]) ?_
    cases hh : t.hosts.contains ⟨q[0], q[1]⟩ with
    | true =>
      simp only [↓reduceIte, go_sem, Nat.reduceEqDiff, Nat.reduceLeDiff, Nat.reduceLT, Nat.reduceAdd, Nat.reduceMul, Nat.reduceSub, Int.reduceToNat, Int.reduceLE, Int.reduceLT, Int.reduceEq, Int.reduceAdd, Int.reduceSub, Int.reduceBEq, Int.reduceBNe, Int.reduceNeg, Int.cast_ofNat_Int, decide_true, decide_false, reduceCtorEq, Nat.zero_add, Nat.add_zero, Nat.zero_mul, Nat.reduceBEq, beq_self_eq_true, Nat.lt_irrefl]
      exact ret_r (by simp only [↓reduceIte, go_sem, Nat.reduceEqDiff, Nat.reduceLeDiff, Nat.reduceLT, Nat.reduceAdd, Nat.reduceMul, Nat.reduceSub, Int.reduceToNat, Int.reduceLE, Int.reduceLT, Int.reduceEq, Int.reduceAdd, Int.reduceSub, Int.reduceBEq, Int.reduceBNe, Int.reduceNeg, Int.cast_ofNat_Int, decide_true, decide_false, reduceCtorEq, Nat.zero_add, Nat.add_zero, Nat.zero_mul, Nat.reduceBEq, beq_self_eq_true, Nat.lt_irrefl]; exact rfl) (by simp only [nextF, ho, hh, if_true])
    | false =>
      simp only [↓reduceIte, go_sem, Nat.reduceEqDiff, Nat.reduceLeDiff, Nat.reduceLT, Nat.reduceAdd, Nat.reduceMul, Nat.reduceSub, Int.reduceToNat, Int.reduceLE, Int.reduceLT, Int.reduceEq, Int.reduceAdd, Int.reduceSub, Int.reduceBEq, Int.reduceBNe, Int.reduceNeg, Int.cast_ofNat_Int, decide_true, decide_false, reduceCtorEq, Nat.zero_add, Nat.add_zero, Nat.zero_mul, Nat.reduceBEq, beq_self_eq_true, Nat.lt_irrefl]
      exact ret_r (by simp only [↓reduceIte, go_sem, Nat.reduceEqDiff, Nat.reduceLeDiff, Nat.reduceLT, Nat.reduceAdd, Nat.reduceMul, Nat.reduceSub, Int.reduceToNat, Int.reduceLE, Int.reduceLT, Int.reduceEq, Int.reduceAdd, Int.reduceSub, Int.reduceBEq, Int.reduceBNe, Int.reduceNeg, Int.cast_ofNat_Int, decide_true, decide_false, reduceCtorEq, Nat.zero_add, Nat.add_zero, Nat.zero_mul, Nat.reduceBEq, beq_self_eq_true, Nat.lt_irrefl]; exact rfl) (by simp only [nextF, ho, hh]; rfl)

end Go.Proofs.Ytoeeiaconpagaaa
