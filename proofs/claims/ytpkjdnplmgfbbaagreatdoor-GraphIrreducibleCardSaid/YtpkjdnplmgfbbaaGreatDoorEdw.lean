/- (Seats without Undirected: in the place of Edw.) -/
import Derived.Test.YtpkjdnplmgfbbaaGreatDoorCkp
import Derived.Test.YtpkjdnplmgfbbaaGreatDoorDsp
namespace Go.Proofs.YtpkjdnplmgfbbaaGreatDoor
end Go.Proofs.YtpkjdnplmgfbbaaGreatDoor
