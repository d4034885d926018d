/- Rules for a frame's own variables. -/
import Derived.Test.YtfamnghjibckbaaCu1
namespace Go.Vm
set_option linter.unusedVariables false
set_option linter.unusedSimpArgs false
section
variable {M : Mem} {t g ix off : Nat} {v : AV}
theorem la_faC : faC (.la t g ix off) := trivial
theorem la_faV {o : Nat} : faV o (.la t g ix off) = .la t g ix (off + o) := rfl
theorem la_ldC {n : Option Nat} : ldC M n (.la t g ix off) = (M.hasL t g 0 = true ∧ ix < (M.getL t g 0).length ∧ partFits ((M.getL t g 0).getD ix .u).cells off n) := rfl
theorem la_ldX {n : Option Nat} : ldX M n (.la t g ix off) = partOf ((M.getL t g 0).getD ix .u).cells off n := by
  cases n with
  | none => rfl
  | some n => cases n <;> rfl
theorem la_stC : stC M v (.la t g ix off) = (M.hasL t g 0 = true ∧ ix < (M.getL t g 0).length ∧ off + v.cells.length ≤ ((M.getL t g 0).getD ix .u).cells.length) := rfl
theorem la_stM : stM M v (.la t g ix off) = ⟨setL M.l t ((M.getL t g 0).set ix (setEl ((M.getL t g 0).getD ix .u) off v)), M.g, M.h⟩ := rfl
theorem la_out : (AV.la t g ix off).outs = false := rfl
end
end Go.Vm
