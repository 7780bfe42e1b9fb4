/- The program's Quote returns what the reference's returns, for every string that the reading lets in. -/
import Derived.Test.YtdfoedjfnoiboaaPAx3
namespace Go.Proofs.Ytdfoedjfnoiboaa.Pure
open Go.RowKit Go.Proofs.Ytdfoedjfnoiboaa.PA Go.Proofs.YtdfoedjfnoiboaaW.PrintWords Go.Proofs.YtdfoedjfnoiboaaW.PrintLast

theorem FnExactQuote : laws_FnExactQuote.Pure := by
  intro a0 hs
  have h1 : a0.size ≤ 9223372036854775807 := by omega
  unfold laws_FnExactQuote.f spec_Quote.f impl_Quote.f
  simp [h1]

end Go.Proofs.Ytdfoedjfnoiboaa.Pure
