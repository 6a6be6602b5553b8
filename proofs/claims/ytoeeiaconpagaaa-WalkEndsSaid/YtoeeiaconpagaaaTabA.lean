/- A table of compiled functions, for closed runs; written by program. -/
import Derived.Test.YtoeeiaconpagaaaCodeA
set_option linter.unusedVariables false
namespace Go.Proofs.Ytoeeiaconpagaaa
open Go.AM
def tabA : Nat → Option XF
  | 15 => some (.fn F15)
  | 17 => some (.fn F17)
  | 18 => some (.fn F18)
  | 20 => some (.fn F20)
  | 21 => some (.fn F21)
  | 22 => some (.fn F22)
  | 31 => some (.fn F31)
  | 32 => some (.fn F32)
  | 40 => some (.fn F40)
  | 42 => some (.fn F42)
  | 43 => some (.guard G43 H63)
  | 44 => some (.fn F44)
  | 45 => some (.fn F45)
  | 46 => some (.fn F46)
  | 47 => some (.fn F47)
  | 59 => some (.fn F59)
  | 60 => some (.fn F60)
  | 61 => some (.fn F61)
  | 62 => some (.fn F62)
  | 64 => some (.fn F64)
  | 65 => some (.fn F65)
  | 73 => some (.fn F73)
  | 74 => some (.fn F74)
  | 75 => some (.fn F75)
  | 76 => some (.fn F76)
  | 77 => some (.fn F77)
  | 78 => some (.fn F78)
  | 79 => some (.fn F79)
  | 82 => some (.fn F82)
  | 94 => some (.fn F94)
  | 95 => some (.fn F95)
  | 96 => some (.fn F96)
  | 97 => some (.fn F97)
  | 102 => some (.fn F102)
  | 103 => some (.fn F103)
  | 104 => some (.fn F104)
  | 105 => some (.fn F105)
  | 106 => some (.fn F106)
  | 108 => some (.fn F108)
  | 109 => some (.fn F109)
  | 110 => some (.fn F110)
  | 120 => some (.fn F120)
  | 121 => some (.fn F121)
  | 122 => some (.fn F122)
  | 130 => some (.fn F130)
  | _ => none
theorem tabA_ok : ∀ f x, tabA f = some x → x.OK Try.prog f := by
  intro f x h
  unfold tabA at h
  split at h
  · injection h with h; subst h; exact ⟨_, Try.func15, k15⟩
  · injection h with h; subst h; exact ⟨_, Try.func17, k17⟩
  · injection h with h; subst h; exact ⟨_, Try.func18, k18⟩
  · injection h with h; subst h; exact ⟨_, Try.func20, k20⟩
  · injection h with h; subst h; exact ⟨_, Try.func21, k21⟩
  · injection h with h; subst h; exact ⟨_, Try.func22, k22⟩
  · injection h with h; subst h; exact ⟨_, Try.func31, k31⟩
  · injection h with h; subst h; exact ⟨_, Try.func32, k32⟩
  · injection h with h; subst h; exact ⟨_, Try.func40, k40⟩
  · injection h with h; subst h; exact ⟨_, Try.func42, k42⟩
  · injection h with h; subst h; exact ⟨_, _, Try.func43, k43, Try.func63, k63⟩
  · injection h with h; subst h; exact ⟨_, Try.func44, k44⟩
  · injection h with h; subst h; exact ⟨_, Try.func45, k45⟩
  · injection h with h; subst h; exact ⟨_, Try.func46, k46⟩
  · injection h with h; subst h; exact ⟨_, Try.func47, k47⟩
  · injection h with h; subst h; exact ⟨_, Try.func59, k59⟩
  · injection h with h; subst h; exact ⟨_, Try.func60, k60⟩
  · injection h with h; subst h; exact ⟨_, Try.func61, k61⟩
  · injection h with h; subst h; exact ⟨_, Try.func62, k62⟩
  · injection h with h; subst h; exact ⟨_, Try.func64, k64⟩
  · injection h with h; subst h; exact ⟨_, Try.func65, k65⟩
  · injection h with h; subst h; exact ⟨_, Try.func73, k73⟩
  · injection h with h; subst h; exact ⟨_, Try.func74, k74⟩
  · injection h with h; subst h; exact ⟨_, Try.func75, k75⟩
  · injection h with h; subst h; exact ⟨_, Try.func76, k76⟩
  · injection h with h; subst h; exact ⟨_, Try.func77, k77⟩
  · injection h with h; subst h; exact ⟨_, Try.func78, k78⟩
  · injection h with h; subst h; exact ⟨_, Try.func79, k79⟩
  · injection h with h; subst h; exact ⟨_, Try.func82, k82⟩
  · injection h with h; subst h; exact ⟨_, Try.func94, k94⟩
  · injection h with h; subst h; exact ⟨_, Try.func95, k95⟩
  · injection h with h; subst h; exact ⟨_, Try.func96, k96⟩
  · injection h with h; subst h; exact ⟨_, Try.func97, k97⟩
  · injection h with h; subst h; exact ⟨_, Try.func102, k102⟩
  · injection h with h; subst h; exact ⟨_, Try.func103, k103⟩
  · injection h with h; subst h; exact ⟨_, Try.func104, k104⟩
  · injection h with h; subst h; exact ⟨_, Try.func105, k105⟩
  · injection h with h; subst h; exact ⟨_, Try.func106, k106⟩
  · injection h with h; subst h; exact ⟨_, Try.func108, k108⟩
  · injection h with h; subst h; exact ⟨_, Try.func109, k109⟩
  · injection h with h; subst h; exact ⟨_, Try.func110, k110⟩
  · injection h with h; subst h; exact ⟨_, Try.func120, k120⟩
  · injection h with h; subst h; exact ⟨_, Try.func121, k121⟩
  · injection h with h; subst h; exact ⟨_, Try.func122, k122⟩
  · injection h with h; subst h; exact ⟨_, Try.func130, k130⟩
  · cases h
end Go.Proofs.Ytoeeiaconpagaaa
