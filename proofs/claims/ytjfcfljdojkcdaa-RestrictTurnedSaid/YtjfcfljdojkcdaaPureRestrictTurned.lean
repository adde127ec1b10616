/- Whatever list of rules, list of whole numbers and address come in, foliotlaw06.RestrictTurned returns true; no condition. -/
import Derived.Test.YtjfcfljdojkcdaaCoreRestrictTurned
namespace Go.Proofs.Ytjfcfljdojkcdaa.Pure
theorem RestrictTurned : Go.Proofs.Ytjfcfljdojkcdaa.PRestrictTurned.foliotlaw06_RestrictTurned.Pure := Go.Proofs.Ytjfcfljdojkcdaa.CRestrictTurned.RestrictTurned
end Go.Proofs.Ytjfcfljdojkcdaa.Pure
