/-
  The compiled code of the functions, all parts.
-/
import Derived.Test.YtjinjbcdbkgedaaOoda
import Derived.Test.YtjinjbcdbkgedaaOodb
import Derived.Test.YtjinjbcdbkgedaaOodc
namespace Go.Proofs.Ytjinjbcdbkgedaa
end Go.Proofs.Ytjinjbcdbkgedaa
