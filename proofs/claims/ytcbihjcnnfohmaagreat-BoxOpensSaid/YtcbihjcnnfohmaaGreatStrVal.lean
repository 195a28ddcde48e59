/- Two values of the pad that the small case asks for. No program in sight. -/
import Derived.Test.YtcbihjcnnfohmaaGreatAesPlain
namespace Go.Proofs.YtcbihjcnnfohmaaGreat.Str
open Go Go.Proofs.YtcbihjcnnfohmaaGreat.Aes
def K0 : Blk := List.replicate 16 0
theorem val1 : (enc K0 [0, 0, 0, 0, 0, 0, 0, 1, 0, 0, 0, 0, 0, 0, 0, 0]).take 3 ≠ [0, 0, 0] := by decide +kernel
theorem val2 : (enc K0 [0, 0, 0, 0, 0, 0, 0, 0, 0, 0, 0, 0, 0, 0, 0, 0]).take 1 = [102] := by decide +kernel
end Go.Proofs.YtcbihjcnnfohmaaGreat.Str
