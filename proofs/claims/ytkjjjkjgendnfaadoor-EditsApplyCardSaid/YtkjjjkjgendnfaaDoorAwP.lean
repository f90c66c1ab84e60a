/- What Diff says of the two lists that each law of layer 2 asks first: plain. -/
import Derived.Test.YtkjjjkjgendnfaaDoorEdP
import Derived.KernelRfl
import Derived.Lib.Strings
namespace Go.Proofs.YtkjjjkjgendnfaaDoorE
def awA : List ByteArray := [⟨#[97]⟩, ⟨#[98]⟩, ⟨#[99]⟩]
def awB : List ByteArray := [⟨#[97]⟩, ⟨#[120]⟩, ⟨#[99]⟩]
theorem aw_diff : diffL awA awB = [(1, 1, [⟨#[120]⟩])] := by kernel_rfl
theorem aw_ok : (walkL (diffX awA awB) (diffY awA awB)).2 = true → stepsOk (preL awA awB) (walkL (diffX awA awB) (diffY awA awB)).1 (diffY awA awB) = true := fun _ => by kernel_rfl
#print axioms aw_diff
end Go.Proofs.YtkjjjkjgendnfaaDoorE
