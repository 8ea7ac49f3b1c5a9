/-
  The compiled code of the functions, all parts.
-/
import Derived.Test.YtgbmdikkdjogpaaToda
import Derived.Test.YtgbmdikkdjogpaaTodb
namespace Go.Proofs.Ytgbmdikkdjogpaa
end Go.Proofs.Ytgbmdikkdjogpaa
