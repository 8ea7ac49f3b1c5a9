/-
  The compiled code of the functions, all parts.
-/
import Derived.Test.YthdbmoflbnggpaaSoda
import Derived.Test.YthdbmoflbnggpaaSodb
import Derived.Test.YthdbmoflbnggpaaSodc
namespace Go.Proofs.Ythdbmoflbnggpaa
end Go.Proofs.Ythdbmoflbnggpaa
