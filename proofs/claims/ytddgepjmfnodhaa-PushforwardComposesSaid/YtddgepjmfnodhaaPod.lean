/-
  The compiled code of the functions, all parts.
-/
import Derived.Test.YtddgepjmfnodhaaPoda
import Derived.Test.YtddgepjmfnodhaaPodb
import Derived.Test.YtddgepjmfnodhaaPodc
import Derived.Test.YtddgepjmfnodhaaPodd
namespace Go.Proofs.Ytddgepjmfnodhaa
end Go.Proofs.Ytddgepjmfnodhaa
