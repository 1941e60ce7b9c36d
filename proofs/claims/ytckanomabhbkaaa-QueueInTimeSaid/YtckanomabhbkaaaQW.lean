/- The chapter's example in plain words. -/
import Derived.Test.YtckanomabhbkaaaQSpec
import Derived.Test.YtckanomabhbkaaaQB
import Derived.Test.YtckanomabhbkaaaQV
import Derived.Test.YtckanomabhbkaaaQC2
import Derived.KernelRfl
namespace Go.Proofs.Ytckanomabhbkaaa
open Go.RowKit
set_option linter.unusedVariables false
def P1 : Pk := ⟨1, 4, 1, 0, 5, ⟨#[]⟩⟩
def P2 : Pk := ⟨2, 4, 2, 0, 5, ⟨#[]⟩⟩
def P3 : Pk := ⟨3, 4, 0, 0, 5, ⟨#[]⟩⟩
theorem w1E : putE 2 [] P1 = 0 := by kernel_rfl
theorem w1L : putL 2 [] P1 = 2 := by kernel_rfl
theorem w1Q : putQ 2 [] P1 = [P1] := by kernel_rfl
theorem w1G : putG 2 [] P1 = [] := by kernel_rfl
theorem w2E : putE 2 [P1] P2 = 0 := by kernel_rfl
theorem w2L : putL 2 [P1] P2 = 2 := by kernel_rfl
theorem w2Q : putQ 2 [P1] P2 = [P1, P2] := by kernel_rfl
theorem w2G : putG 2 [P1] P2 = [] := by kernel_rfl
theorem w3E : putE 2 [P1, P2] P3 = 0 := by kernel_rfl
theorem w3L : putL 2 [P1, P2] P3 = 2 := by kernel_rfl
theorem w3Q : putQ 2 [P1, P2] P3 = [P3, P1] := by kernel_rfl
theorem w3G : putG 2 [P1, P2] P3 = [P2] := by kernel_rfl
theorem wBE : boundE 2 [P3, P1] 1 3 = 0 := by kernel_rfl
theorem wBV : boundV 2 [P3, P1] 1 3 = 6 := by kernel_rfl
theorem wSE : serveE 2 [P3, P1] 2 [-2, 4, -2, -2] = 0 := by kernel_rfl
theorem wSL : serveL 2 [P3, P1] 2 [-2, 4, -2, -2] = 2 := by kernel_rfl
theorem wSQ : serveQ 2 [P3, P1] 2 [-2, 4, -2, -2] = [] := by kernel_rfl
theorem wSD : serveD 2 [P3, P1] 2 [-2, 4, -2, -2] = [⟨3, 3, false⟩, ⟨1, 5, true⟩] := by kernel_rfl
theorem ids0 : IdsOk [] := by intro p h; cases h
theorem ids1 : IdsOk [P1] := by intro p h; simp at h; subst h; rfl
theorem ids2 : IdsOk [P1, P2] := by intro p h; simp at h; rcases h with rfl | rfl <;> rfl
theorem ids3 : IdsOk [P3, P1] := by intro p h; simp at h; rcases h with rfl | rfl <;> rfl
end Go.Proofs.Ytckanomabhbkaaa
