import Derived.Test.YtcdcbkopapedhaaGreatDoorSize
/- The rows of the document, put: all of it. -/
namespace Go.Proofs.Tryz.Vl
end Go.Proofs.Tryz.Vl
