/- Whatever four stamps and whole number of 32 bits come in, foliotlaw10.PeerShifted returns true; no condition. -/
import Derived.Test.YtgbffggaifnalaaCorePeerShifted
namespace Go.Proofs.Ytgbffggaifnalaa.Pure
theorem PeerShifted : Go.Proofs.Ytgbffggaifnalaa.PPeerShifted.foliotlaw10_PeerShifted.Pure := Go.Proofs.Ytgbffggaifnalaa.CPeerShifted.PeerShifted
end Go.Proofs.Ytgbffggaifnalaa.Pure
