import Derived.Test.YtoeeiaconpagaaaTabA
namespace Go.Proofs.Ytoeeiaconpagaaa
open Go.AM
def isT : Option (Out × AHeap × List Nat) → Bool
  | some (.ret (.bool true), _, []) => true
  | _ => false
theorem isT_spec {r : Option (Out × AHeap × List Nat)} (h : isT r = true) : ∃ th, r = some (.ret (.bool true), th, []) := by
  unfold isT at h
  split at h
  · exact ⟨_, rfl⟩
  · cases h
theorem awake14_c : CallsA Try.prog 15 [] [] (fun o _ => o = .ret (.bool true)) :=
  closed_run (by kernel_rfl) tabA_ok (n := 1000) (tc := []) (isT_spec (by decide +kernel))
end Go.Proofs.Ytoeeiaconpagaaa
