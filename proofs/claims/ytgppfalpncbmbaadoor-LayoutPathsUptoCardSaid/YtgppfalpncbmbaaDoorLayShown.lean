/- The head of chapter 3's statements: the document's examples are as told. -/
import Derived.Test.YtgppfalpncbmbaaDoorPXx5
namespace Go.Proofs.YtgppfalpncbmbaaDoor.PX
open Go.RowKit Go.Proofs.YtgppfalpncbmbaaDoorW.PrintWords Go.Proofs.YtgppfalpncbmbaaDoorW.PrintLast Go.Proofs.YtgppfalpncbmbaaDoorW.PrintMore
theorem ev_shown : Ev (fun k => majordomolaw03_shown.f k) true := by
  refine Ev.of (majordomolaw03_shown.mono) (k := 60) ?_
  decide +kernel
end Go.Proofs.YtgppfalpncbmbaaDoor.PX
