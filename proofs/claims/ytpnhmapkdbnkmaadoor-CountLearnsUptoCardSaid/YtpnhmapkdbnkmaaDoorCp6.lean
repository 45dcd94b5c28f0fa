/- CountPairs walked. No condition. -/
import Derived.Test.YtpnhmapkdbnkmaaDoorPrs
import Derived.Test.YtpnhmapkdbnkmaaDoorRowP
namespace Go.Proofs.YtpnhmapkdbnkmaaDoor
open Go Go.RowKit
end Go.Proofs.YtpnhmapkdbnkmaaDoor
