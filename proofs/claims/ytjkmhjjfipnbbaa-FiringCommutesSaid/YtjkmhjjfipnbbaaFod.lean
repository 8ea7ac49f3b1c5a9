/-
  The compiled code of the functions, all parts.
-/
import Derived.Test.YtjkmhjjfipnbbaaFoda
import Derived.Test.YtjkmhjjfipnbbaaFodb
import Derived.Test.YtjkmhjjfipnbbaaFodc
namespace Go.Proofs.Ytjkmhjjfipnbbaa
end Go.Proofs.Ytjkmhjjfipnbbaa
