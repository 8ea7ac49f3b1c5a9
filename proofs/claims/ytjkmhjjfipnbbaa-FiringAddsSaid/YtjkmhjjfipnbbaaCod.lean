/-
  The compiled code of the functions, all parts.
-/
import Derived.Test.YtjkmhjjfipnbbaaCoda
import Derived.Test.YtjkmhjjfipnbbaaCodb
import Derived.Test.YtjkmhjjfipnbbaaCodc
namespace Go.Proofs.Ytjkmhjjfipnbbaa
end Go.Proofs.Ytjkmhjjfipnbbaa
