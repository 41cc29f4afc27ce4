/- The document's Reader: a number read. -/
import Derived.Test.YtbfefdedjcppaaaGreatDoorRF
namespace Go.Proofs.YtbfefdedjcppaaaGreatDoor
open Go.RowKit
end Go.Proofs.YtbfefdedjcppaaaGreatDoor
