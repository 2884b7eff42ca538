/- Package brandt: the plan of the region of products (second half). -/
import Derived.Test.YtdjpeimecfhdjaaGreatTc
namespace Go.Proofs.YtdjpeimecfhdjaaGreat
open Go.RowKit
theorem tmC4_ok : rdP .any tmO [] tmC4 (lsA 134 [34, 35, 67, 68, 84, 85, 86, 87, 88, 89, 90, 91, 92, 93, 94, 95, 96, 97, 98, 99, 100, 101, 102, 103, 104, 105, 106, 107, 108, 109, 110, 111, 112, 113, 114, 115, 116, 117, 118, 119, 120, 121, 122, 123, 124, 125, 126, 127, 128, 129, 130, 131, 132, 133]) = true := by decide +kernel
theorem tmC5_ok : rdP .any tmO [] tmC5 (lsA 134 [34, 35, 67, 68, 100, 101, 106, 107, 108, 109, 110, 111, 112, 113, 114, 115, 116, 117, 118, 119, 120, 121, 122, 123, 124, 125, 126, 127, 128, 129, 130, 131, 132, 133]) = true := by decide +kernel
theorem tmC6_ok : rdP .any tmO [] tmC6 (lsA 134 [34, 35, 67, 68, 100, 101, 126, 127, 128, 129, 130, 131, 132, 133]) = true := by decide +kernel
end Go.Proofs.YtdjpeimecfhdjaaGreat
