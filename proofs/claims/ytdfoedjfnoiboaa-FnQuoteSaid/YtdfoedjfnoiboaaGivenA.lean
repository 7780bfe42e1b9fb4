/- Three contracts in the print's own shape: spec.Quote and impl.Quote return 'quoteF', strings.IndexByte the shelf's 'indexByte'. -/
import Derived.Test.YtdfoedjfnoiboaaPAx0
import Derived.Test.YtdfoedjfnoiboaaIQ
import Derived.Test.YtdfoedjfnoiboaaSQ
namespace Go.Proofs.Ytdfoedjfnoiboaa.PA
open Go.RowKit Go.Proofs.YtdfoedjfnoiboaaW.PrintWords
def spec_Quote.f (a0 : ByteArray) : Option ByteArray := if a0.size ≤ 9223372036854775807 then some (quoteF a0) else none
def impl_Quote.f (a0 : ByteArray) : Option ByteArray := if a0.size ≤ 9223372036854775807 then some (quoteF a0) else none
def strings_IndexByte.f (a0 : ByteArray) (a1 : Int) : Option Int := some (Lib.indexByte a0.data.toList a1.toNat.toUInt8)
theorem spec_Quote.calls (a0 : ByteArray) (r : ByteArray) (w : World) (h : spec_Quote.f a0 = some r) :
    Calls Try.prog 6 #[.string a0] w fun e w' => e = .returned (.string r) ∧ Below w.heap.size w w' := by
  unfold spec_Quote.f at h
  by_cases hs : a0.size ≤ 9223372036854775807
  · rw [if_pos hs] at h; obtain rfl := Option.some.inj h; exact squote_any a0 w (by unfold maxLen; omega)
  · rw [if_neg hs] at h; cases h
theorem impl_Quote.calls (a0 : ByteArray) (r : ByteArray) (w : World) (h : impl_Quote.f a0 = some r) :
    Calls Try.prog 7 #[.string a0] w fun e w' => e = .returned (.string r) ∧ Below w.heap.size w w' := by
  unfold impl_Quote.f at h
  by_cases hs : a0.size ≤ 9223372036854775807
  · rw [if_pos hs] at h; obtain rfl := Option.some.inj h; exact quote_any a0 w (by unfold maxLen; omega)
  · rw [if_neg hs] at h; cases h
theorem strings_IndexByte.calls (a0 : ByteArray) (a1 : Int) (r : Int) (w : World) (h : strings_IndexByte.f a0 a1 = some r) :
    Calls Try.prog 19 #[.string a0, .int .u8 a1] w fun e w' => e = .returned (.int .i64 r) ∧ Drawn0 w w' := by
  obtain rfl := Option.some.inj h
  refine (Try.strings_IndexByte a0 a1 w).mono ?_
  rintro e w' ⟨rfl, rfl⟩
  exact ⟨rfl, Drawn0.refl _⟩
end Go.Proofs.Ytdfoedjfnoiboaa.PA
