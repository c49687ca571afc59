/- The rows. -/
import Derived.Test.YtjhbkbbmhmfkbaaS25
import Derived.Test.YtjhbkbbmhmfkbaaV14
import Derived.Test.YtjhbkbbmhmfkbaaRows
namespace Go.Proofs.Ytjhbkbbmhmfkbaa
open VL
theorem own0 : ownKnob Try.prog.godebug = none := by kernel_rfl
theorem func3 : Try.prog.funcs[3]? = some Try.f3 := by kernel_rfl
theorem func4 : Try.prog.funcs[4]? = some Try.f4 := by kernel_rfl
theorem under22 : Try.prog.underlying 22 = some (.slice 3) := by kernel_rfl
theorem under3 : Try.prog.underlying 3 = some (.int .i64) := by kernel_rfl
theorem under4 : Try.prog.underlying 4 = some .bool := by kernel_rfl
theorem cells3 : Try.prog.cellsOf 3 = 1 := by kernel_rfl
theorem foldBack_holds : Rows.FoldBackSaid :=
  OpenClaim.holds_of_wide 3 Try.f3 rfl rfl rfl rfl rfl rfl rfl ⟨rfl, rfl, rfl, rfl, rfl⟩ rfl rfl rfl rfl rfl (by kernel_rfl) func3 (by kernel_rfl)
    (of_decide_eq_true (by kernel_rfl)) (by unfold Func.isWrapper; rw [if_neg (by decide +kernel)]; exact ⟨rfl, rfl⟩)
    (fun os started H enc _ => law_tape (C := Try.checked) (s := Rows.foldBackSpec) own0 started (by kernel_rfl) func3 (by kernel_rfl) (by kernel_rfl) under22 under3 under3 under4 cells3 (fun _ _ _ => rfl) rfl
      (ChangeSpec.witness6 (enc := enc) (C := Try.checked) false ⟨#[], #[.slice none 0 0, .int .i64 0], []⟩ 8 (by kernel_rfl) (by kernel_rfl) (by kernel_rfl) (by kernel_rfl))
      (fun _ _ hx _ => FoldBack_c hx))
theorem foldSaves_holds : Rows.FoldSavesSaid :=
  OpenClaim.holds_of_wide 4 Try.f4 rfl rfl rfl rfl rfl rfl rfl ⟨rfl, rfl, rfl, rfl, rfl⟩ rfl rfl rfl rfl rfl (by kernel_rfl) func4 (by kernel_rfl)
    (of_decide_eq_true (by kernel_rfl)) (by unfold Func.isWrapper; rw [if_neg (by decide +kernel)]; exact ⟨rfl, rfl⟩)
    (fun os started H enc _ => law_tape (C := Try.checked) (s := Rows.foldSavesSpec) own0 started (by kernel_rfl) func4 (by kernel_rfl) (by kernel_rfl) under22 under3 under3 under4 cells3 (fun _ _ _ => rfl) rfl
      (ChangeSpec.witness6 (enc := enc) (C := Try.checked) false ⟨#[], #[.slice none 0 0, .int .i64 0], []⟩ 8 (by kernel_rfl) (by kernel_rfl) (by kernel_rfl) (by kernel_rfl))
      (fun _ _ hx _ => FoldSaves_c hx))
#print axioms foldBack_holds
#print axioms foldSaves_holds
end Go.Proofs.Ytjhbkbbmhmfkbaa
