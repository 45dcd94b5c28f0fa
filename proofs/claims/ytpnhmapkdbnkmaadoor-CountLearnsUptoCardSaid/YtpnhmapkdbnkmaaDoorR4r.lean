/- errataref04.Read. No condition. -/
import Derived.Test.YtpnhmapkdbnkmaaDoorStp
namespace Go.Proofs.YtpnhmapkdbnkmaaDoor
open Go Go.RowKit
end Go.Proofs.YtpnhmapkdbnkmaaDoor
