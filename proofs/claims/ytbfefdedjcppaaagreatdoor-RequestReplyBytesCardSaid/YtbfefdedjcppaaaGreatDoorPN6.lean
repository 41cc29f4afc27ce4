/- Reading a reply's events: both sides alike. Plain. -/
import Derived.Test.YtbfefdedjcppaaaGreatDoorPM6
namespace Go.Proofs.YtbfefdedjcppaaaGreatDoor
open Go.RowKit Go.Deep
end Go.Proofs.YtbfefdedjcppaaaGreatDoor
