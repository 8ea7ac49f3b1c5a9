/-
  The compiled code of the functions, all parts.
-/
import Derived.Test.YtheffllmccomiaaCoda
import Derived.Test.YtheffllmccomiaaCodb
import Derived.Test.YtheffllmccomiaaCodc
namespace Go.Proofs.Ytheffllmccomiaa
end Go.Proofs.Ytheffllmccomiaa
