/- Reading a reply: both sides alike. Plain. -/
import Derived.Test.YtbfefdedjcppaaaGreatDoorDY6
namespace Go.Proofs.YtbfefdedjcppaaaGreatDoor
open Go.RowKit Go.Deep
end Go.Proofs.YtbfefdedjcppaaaGreatDoor
