/- 'WalkEnds': for every input the law returns true, and each argument reads afterwards as it read before. No condition. -/
import Derived.Test.YtoeeiaconpagaaaRows
import Derived.Test.YtoeeiaconpagaaaWalkEndsLaw
namespace Go.Proofs.Ytoeeiaconpagaaa
open Go.ChangeShapes Go.WideShapes Go.ChangeAt Go.RowKit
set_option linter.unusedVariables false

theorem walkEnds_own : ownKnob Try.prog.godebug = none := by kernel_rfl
theorem walkEnds_laidOut : laidOutB Try.prog = true := by kernel_rfl

set_option maxRecDepth 100000 in
theorem walkEnds_lifted (os : Os) (started : os.Started) (H : Type) (enc : TypeId × Value → H) :
    ReturnsInHanded {} Try.checked os 6 .any (Rows.walkEndsSpec.pre6 enc Try.prog Try.f6 Rows.walkEndsRow.domain false) (Rows.walkEndsSpec.post enc Try.prog Try.f6 false true false false) := by
  refine returnsInHanded_of_change (C := Try.checked) walkEnds_own started (by kernel_rfl) Try.func6
    (ChangeSpec.witness6 (enc := enc) (C := Try.checked) false ⟨#[], #[.agg #[.slice none 0 0, .slice none 0 0, .slice none 0 0], .agg #[.int .u16 0, .int .u16 0, .int .u16 0, .int .u16 0, .int .u16 0, .int .u16 0, .int .u16 0, .int .u16 0]], []⟩ 9 (by kernel_rfl) (by kernel_rfl) (by kernel_rfl) (by kernel_rfl)) ?_
  intro W base args ds gs before hval0 hW hcnd _
  have hval : ∀ (j : Nat) t v, Try.f6.params[j]? = some t → args[j]? = some v → Value.okWide Try.prog W .any base t v := hval0
  have hW' := hW
  obtain ⟨p, q, hA0, hV, rfl, hfz, hnd⟩ := hW
  have hA : DataW.TrodAll enc Try.prog W 0 (fun _ => true) true Try.f6.params.toList args.toList ds p := hA0
  obtain ⟨rfl, rfl⟩ := trodVars_none hV
  obtain ⟨d0, d1, rfl⟩ : ∃ d0 d1, ds = [d0, d1] := by
    have hl : ds.length = 2 := AM.trodAll_len hA
    rcases ds with _ | ⟨d0, _ | ⟨d1, _ | ⟨d2, r⟩⟩⟩ <;> simp at hl
    exact ⟨d0, d1, rfl⟩
  refine (AM.law_calls (k := 12) (Ts := walkEnds_types) hA (by kernel_rfl) (fun j t v h1 h2 => hval j t v (by simpa using h1) h2) walkEnds_law).mono fun e W' ⟨he, bel⟩ => ?_
  subst he
  refine ⟨_, rfl, _, _, _, [], p, [], hW', trodAll_mk1 (shut_bool Try.underlying4 _), ?_, rfl, bel.frame _, fun h => by cases h⟩
  have := AM.below_trodAll walkEnds_laidOut bel (by
    have h : Try.f6.params.toList.all (fun t => Try.prog.readableRec t && decide (t < Try.prog.types.size)) = true := by kernel_rfl
    intro t ht
    simpa using (List.all_eq_true.1 h) t ht) hA
  exact this

theorem walkEnds_over : Rows.walkEndsRow.holds Try.pinned (OpenSpec.ofChange Rows.walkEndsSpec) :=
  OpenClaim.holds_of_wide 6 Try.f6 rfl rfl rfl rfl rfl rfl rfl ⟨rfl, rfl, rfl, rfl, rfl⟩ rfl rfl rfl rfl rfl (by kernel_rfl) Try.func6 (by kernel_rfl)
    (of_decide_eq_true (by kernel_rfl)) (by unfold Func.isWrapper; first | (rw [if_pos (by decide +kernel)]; kernel_rfl) | (rw [if_neg (by decide +kernel)]; exact ⟨rfl, rfl⟩))
    (fun os started H enc _ => walkEnds_lifted os started H enc)

theorem walkEnds_holds : Rows.WalkEndsSaid := walkEnds_over
#print axioms walkEnds_holds
end Go.Proofs.Ytoeeiaconpagaaa
