/-
  How formulas lie in the program.
-/
import Derived.Test.YtpjhpcclbenfbaaTopB
import Derived.Test.YtpjhpcclbenfbaaProg
import Derived.KernelRfl
set_option linter.unusedVariables false
namespace Go.Proofs.Ytpjhpcclbenfbaa
open Go.Sy
theorem nodeLay : NodeLay Try.prog 71 := ⟨⟨_, _, _, _, Try.underlying71, ⟨rfl, rfl, rfl⟩, Try.underlying3, Try.underlying3, Try.underlying45, Try.underlying3, ⟨by kernel_rfl, by kernel_rfl, by kernel_rfl, by kernel_rfl, by kernel_rfl⟩⟩⟩
theorem formLay : FormLay Try.prog 24 := ⟨⟨_, _, _, _, Try.underlying24, ⟨rfl, rfl, rfl⟩, Try.underlying3, Try.underlying22, Try.underlying3, ⟨by kernel_rfl, by kernel_rfl, by kernel_rfl, by kernel_rfl⟩, nodeLay⟩⟩
end Go.Proofs.Ytpjhpcclbenfbaa
