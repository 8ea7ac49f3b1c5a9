/-
  The compiled code of the functions, all parts.
-/
import Derived.Test.YtgjaekbbdmhjlaaLoda
import Derived.Test.YtgjaekbbdmhjlaaLodb
import Derived.Test.YtgjaekbbdmhjlaaLodc
namespace Go.Proofs.Ytgjaekbbdmhjlaa
end Go.Proofs.Ytgjaekbbdmhjlaa
