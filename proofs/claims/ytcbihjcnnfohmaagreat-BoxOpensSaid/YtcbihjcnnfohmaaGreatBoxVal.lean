/- Two values that the small case asks for. No program in sight. -/
import Derived.Test.YtcbihjcnnfohmaaGreatAesPlain
import Derived.Test.YtcbihjcnnfohmaaGreatShaRight
namespace Go.Proofs.YtcbihjcnnfohmaaGreat.Box
open Go Go.Proofs.YtcbihjcnnfohmaaGreat.Aes
theorem val5 : (enc (List.replicate 16 0) [0, 0, 0, 0, 0, 0, 0, 5, 0, 0, 0, 0, 0, 0, 0, 0]).take 3 = [140, 13, 97] := by decide +kernel
def hm (a : List UInt8) (b : List UInt8) : List UInt8 := Sha.sha (List.replicate 64 92 ++ Sha.sha (List.replicate 64 54 ++ ([0, 0, 0, 0, 0, 0, 0, 1] ++ (a ++ b))))
theorem hm_ne : (hm [121] [0, 0, 0, 0, 0, 0, 0, 5, 237, 111, 2]).take 16 ≠ (hm [120] [0, 0, 0, 0, 0, 0, 0, 5, 237, 111, 2]).take 16 := by decide +kernel
end Go.Proofs.YtcbihjcnnfohmaaGreat.Box
