/-
  How trees lie in the program.
-/
import Derived.Test.YtpkjbchplkfmhaaDoorTopT
import Derived.Test.YtpkjbchplkfmhaaDoorProg
import Derived.KernelRfl
set_option linter.unusedVariables false
namespace Go.Proofs.YtpkjbchplkfmhaaDoor
open Go.Sy
theorem treeLay : TreeLay Tryd.prog 25 := ⟨⟨_, _, _, Tryd.underlying25, ⟨rfl, rfl, rfl⟩, Tryd.underlying3, Tryd.underlying23, Tryd.underlying3, ⟨by kernel_rfl, by kernel_rfl, by kernel_rfl, by kernel_rfl⟩⟩⟩
end Go.Proofs.YtpkjbchplkfmhaaDoor
