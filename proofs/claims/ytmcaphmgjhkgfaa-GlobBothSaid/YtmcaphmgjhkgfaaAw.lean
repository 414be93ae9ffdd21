/-
  DERIVED. What the document's example comes to, reckoned by the plain functions. No program in sight.
-/
import Derived.Test.YtmcaphmgjhkgfaaGg
import Derived.Test.YtmcaphmgjhkgfaaRp
import Derived.KernelRfl
namespace Go.Proofs.Ytmcaphmgjhkgfaa
open Go Gl
theorem aw1 : matchF ⟨#[97, 42, 91, 48, 45, 57, 93]⟩ ⟨#[]⟩ (bl ⟨#[97, 55]⟩) = true := by kernel_rfl
theorem aw2 : matchF ⟨#[97, 42, 91, 48, 45, 57, 93]⟩ ⟨#[]⟩ (bl ⟨#[97, 98, 99, 55]⟩) = true := by kernel_rfl
theorem aw3 : matchF ⟨#[97, 42, 91, 48, 45, 57, 93]⟩ ⟨#[]⟩ (bl ⟨#[97, 55, 98]⟩) = false := by kernel_rfl
theorem aw4 : plainF ⟨#[97, 42, 91, 48, 45, 57, 93]⟩ ⟨#[]⟩ = false := by kernel_rfl
theorem aw5 : plainF ⟨#[97, 42]⟩ ⟨#[108, 113]⟩ = true := by kernel_rfl
theorem aw6 : cutF ⟨#[42, 98]⟩ ⟨#[]⟩ ⟨#[97, 98, 97, 98]⟩ false false = ⟨#[97, 98]⟩ := by kernel_rfl
end Go.Proofs.Ytmcaphmgjhkgfaa
