import Derived.Test.YtoeeiaconpagaaaC1
set_option linter.unusedVariables false
set_option linter.unusedSimpArgs false
namespace Go.Proofs.Ytoeeiaconpagaaa
open Go.AM

def linkPts (l : List (Port × Port)) : List Port := l.flatMap fun x => [x.1, x.2]
def portsF (t : Topo) : List Port := linkPts t.links ++ t.hosts
theorem linkPts_len (l : List (Port × Port)) : (linkPts l).length = 2 * l.length := by
  induction l with
  | nil => rfl
  | cons a l ih => unfold linkPts at ih ⊢; rw [List.flatMap_cons, List.length_append, ih]; simp; omega
theorem linkPts_succ {l : List (Port × Port)} {i : Nat} (hi : i < l.length) : linkPts (l.take (i + 1)) = linkPts (l.take i) ++ [l[i].1, l[i].2] := by
  unfold linkPts
  rw [List.take_succ_eq_append_getElem hi, List.flatMap_append]
  rfl
theorem linkPts_zero (l : List (Port × Port)) : linkPts (l.take 0) = [] := rfl
theorem linkPts_nil : linkPts [] = [] := rfl

set_option maxHeartbeats 1000000 in
theorem ports_c (t : Topo) (h1 : t.links.length ≤ 1000) (h2 : t.hosts.length ≤ 1000) : CallsA Try.prog 37 [eTopo t] [] (fun o _ => o = .ret (.lit 2 ((portsF t).map ePort))) := by
  have hm : t.links.length ≤ maxLen := by unfold maxLen; omega
  refine callsA_of_code mixed Try.func37 k37 (show (1 : Nat) ≤ 31 by decide) ?_
  simp only [↓reduceIte, go_sem, Nat.reduceEqDiff, Nat.reduceLeDiff, Nat.reduceLT, Nat.reduceAdd, Nat.reduceMul, Nat.reduceSub, Int.reduceToNat, Int.reduceLE, Int.reduceLT, Int.reduceEq, Int.reduceAdd, Int.reduceSub, Int.reduceBEq, Int.reduceBNe, Int.reduceNeg, Int.cast_ofNat_Int, decide_true, decide_false, reduceCtorEq, Nat.zero_add, Nat.add_zero, Nat.zero_mul, Nat.reduceBEq, beq_self_eq_true, Nat.lt_irrefl, F37]
  refine code_loop (fun n te h => ∃ i, i ≤ t.links.length ∧ n = t.links.length - i ∧
      te = [(1, .ptr 0 0), (3, .slice 1 0 (linkPts (t.links.take i)).length 2), (4, .int .i64 i)] ∧ h = [some (.cells (cTopo t)), some (.cells (cPorts (linkPts (t.links.take i))))])
    t.links.length (WkE.of [0, 100] [] (by decide) (by simp) (by omega) ?_ ?_) ⟨0, Nat.zero_le _, rfl, rfl, rfl⟩ ?_
  · simp only [↓reduceIte, go_sem, Nat.reduceEqDiff, Nat.reduceLeDiff, Nat.reduceLT, Nat.reduceAdd, Nat.reduceMul, Nat.reduceSub, Int.reduceToNat, Int.reduceLE, Int.reduceLT, Int.reduceEq, Int.reduceAdd, Int.reduceSub, Int.reduceBEq, Int.reduceBNe, Int.reduceNeg, Int.cast_ofNat_Int, decide_true, decide_false, reduceCtorEq, Nat.zero_add, Nat.add_zero, Nat.zero_mul, Nat.reduceBEq, beq_self_eq_true, Nat.lt_irrefl, linkPts_nil, cPorts, List.flatMap_nil]
  · simp only [↓reduceIte, go_sem, Nat.reduceEqDiff, Nat.reduceLeDiff, Nat.reduceLT, Nat.reduceAdd, Nat.reduceMul, Nat.reduceSub, Int.reduceToNat, Int.reduceLE, Int.reduceLT, Int.reduceEq, Int.reduceAdd, Int.reduceSub, Int.reduceBEq, Int.reduceBNe, Int.reduceNeg, Int.cast_ofNat_Int, decide_true, decide_false, reduceCtorEq, Nat.zero_add, Nat.add_zero, Nat.zero_mul, Nat.reduceBEq, beq_self_eq_true, Nat.lt_irrefl, linkPts_nil]
  · rintro n te h ⟨i, hi, rfl, rfl, rfl⟩
    by_cases hlt : i < t.links.length
    · simp only [↓reduceIte, go_sem, Nat.reduceEqDiff, Nat.reduceLeDiff, Nat.reduceLT, Nat.reduceAdd, Nat.reduceMul, Nat.reduceSub, Int.reduceToNat, Int.reduceLE, Int.reduceLT, Int.reduceEq, Int.reduceAdd, Int.reduceSub, Int.reduceBEq, Int.reduceBNe, Int.reduceNeg, Int.cast_ofNat_Int, decide_true, decide_false, reduceCtorEq, Nat.zero_add, Nat.add_zero, Nat.zero_mul, Nat.reduceBEq, beq_self_eq_true, Nat.lt_irrefl, lt_t hlt, code_draw]
      refine draw_sd ?_
      simp only [↓reduceIte, go_sem, Nat.reduceEqDiff, Nat.reduceLeDiff, Nat.reduceLT, Nat.reduceAdd, Nat.reduceMul, Nat.reduceSub, Int.reduceToNat, Int.reduceLE, Int.reduceLT, Int.reduceEq, Int.reduceAdd, Int.reduceSub, Int.reduceBEq, Int.reduceBNe, Int.reduceNeg, Int.cast_ofNat_Int, decide_true, decide_false, reduceCtorEq, Nat.zero_add, Nat.add_zero, Nat.zero_mul, Nat.reduceBEq, beq_self_eq_true, Nat.lt_irrefl, getD_map hlt, idx hlt, wrap_succ hlt hm]
      refine ⟨by rw [linkPts_len, List.length_take]; omega, by decide, ?_⟩
      refine round_of (t.links.length - (i + 1)) (by omega) (WkE.of [0, 3] [] (by decide) (by simp) (by omega) ?_ ?_) ⟨i + 1, by omega, rfl, rfl, rfl⟩
      · simp only [↓reduceIte, go_sem, Nat.reduceEqDiff, Nat.reduceLeDiff, Nat.reduceLT, Nat.reduceAdd, Nat.reduceMul, Nat.reduceSub, Int.reduceToNat, Int.reduceLE, Int.reduceLT, Int.reduceEq, Int.reduceAdd, Int.reduceSub, Int.reduceBEq, Int.reduceBNe, Int.reduceNeg, Int.cast_ofNat_Int, decide_true, decide_false, reduceCtorEq, Nat.zero_add, Nat.add_zero, Nat.zero_mul, Nat.reduceBEq, beq_self_eq_true, Nat.lt_irrefl, linkPts_succ hlt]
      · simp only [↓reduceIte, go_sem, Nat.reduceEqDiff, Nat.reduceLeDiff, Nat.reduceLT, Nat.reduceAdd, Nat.reduceMul, Nat.reduceSub, Int.reduceToNat, Int.reduceLE, Int.reduceLT, Int.reduceEq, Int.reduceAdd, Int.reduceSub, Int.reduceBEq, Int.reduceBNe, Int.reduceNeg, Int.cast_ofNat_Int, decide_true, decide_false, reduceCtorEq, Nat.zero_add, Nat.add_zero, Nat.zero_mul, Nat.reduceBEq, beq_self_eq_true, Nat.lt_irrefl, linkPts_succ hlt]
    · simp only [↓reduceIte, go_sem, Nat.reduceEqDiff, Nat.reduceLeDiff, Nat.reduceLT, Nat.reduceAdd, Nat.reduceMul, Nat.reduceSub, Int.reduceToNat, Int.reduceLE, Int.reduceLT, Int.reduceEq, Int.reduceAdd, Int.reduceSub, Int.reduceBEq, Int.reduceBNe, Int.reduceNeg, Int.cast_ofNat_Int, decide_true, decide_false, reduceCtorEq, Nat.zero_add, Nat.add_zero, Nat.zero_mul, Nat.reduceBEq, beq_self_eq_true, Nat.lt_irrefl, lt_f hlt]
      have e : i = t.links.length := by omega
      subst e
      refine ⟨by rw [linkPts_len, List.length_take]; omega, ?_⟩
      refine ⟨[(2, .lit 2 ((portsF t).map ePort))], [], _, WkE.of [] [2] (by decide) (by simp) (by omega) ?_ ?_, rfl, rfl⟩
      · simp only [↓reduceIte, go_sem, Nat.reduceEqDiff, Nat.reduceLeDiff, Nat.reduceLT, Nat.reduceAdd, Nat.reduceMul, Nat.reduceSub, Int.reduceToNat, Int.reduceLE, Int.reduceLT, Int.reduceEq, Int.reduceAdd, Int.reduceSub, Int.reduceBEq, Int.reduceBNe, Int.reduceNeg, Int.cast_ofNat_Int, decide_true, decide_false, reduceCtorEq, Nat.zero_add, Nat.add_zero, Nat.zero_mul, Nat.reduceBEq, beq_self_eq_true, Nat.lt_irrefl]
      · simp only [↓reduceIte, go_sem, Nat.reduceEqDiff, Nat.reduceLeDiff, Nat.reduceLT, Nat.reduceAdd, Nat.reduceMul, Nat.reduceSub, Int.reduceToNat, Int.reduceLE, Int.reduceLT, Int.reduceEq, Int.reduceAdd, Int.reduceSub, Int.reduceBEq, Int.reduceBNe, Int.reduceNeg, Int.cast_ofNat_Int, decide_true, decide_false, reduceCtorEq, Nat.zero_add, Nat.add_zero, Nat.zero_mul, Nat.reduceBEq, beq_self_eq_true, Nat.lt_irrefl, portsF, List.take_length]
end Go.Proofs.Ytoeeiaconpagaaa
