/- impl.DecodeCommit's contract in the print's shape (with the worlds' premise Glob). -/
import Derived.Test.YticeddapnafomaaDoorHeld
import Derived.Test.YticeddapnafomaaDoorPEx6
import Derived.Deep.RegionHeld3
set_option linter.unusedVariables false
namespace Go.Proofs.YticeddapnafomaaDoor
open Go.RowKit Go.Proofs.YticeddapnafomaaDoorW.PrintWords Go.Proofs.YticeddapnafomaaDoorW.PrintLast Go.Proofs.YticeddapnafomaaDoorW.PrintMore
theorem parse_bad (s : Addr) (A0 : Option Addr) (c0 : Nat) (l0 : List Int) (kind k0 : Int) (w : World) (hr0 : Kd.C (Kd.int .u8) w A0 l0.length l0) (hc0 : l0.length ≤ c0) (hG : Glob s w) (hk : PE.impl_BlockKind.f l0 = some k0) (h1 : ¬ k0 = kind) :
    Calls Tryd.prog 26 #[.slice A0 l0.length c0, .int .i64 kind] w (BadParse s w) := by
  by_cases h0 : k0 = 0
  · subst h0; exact parse_zero s A0 c0 l0 kind w hr0 hc0 hG hk
  · exact parse_kind s A0 c0 l0 kind k0 w hr0 hc0 hG hk h0 h1
theorem good_of_bad {s : Addr} {w w1 : World} {v : Value} (hv : IsBad s w v w1) (hG : Glob s w) (W : World) (hb : Below w1.heap.size w1 W) : Calls Tryd.prog 27 #[v] W fun e w' => e = .returned (.bool false) ∧ Below w1.heap.size w1 w' := by
  obtain ⟨b, rfl, hlt, h1, hB⟩ := hv
  have hG1 : Glob s W := (hG.below hB).below hb
  exact (good_bad b s W (Nat.lt_of_lt_of_le hlt hb.size) hG1.et hG1.ef (pw_cell_below hb h1)).mono fun e w' ⟨h1, h2⟩ => ⟨h1, below_then hb hb.size h2⟩
theorem blk4 {w : World} {g : Nat} {t : TypeId} {a b c d : Value} (h : w.heap[g]? = some (.cells #[a, b, c, d] t (0, 0))) :
    (w.cell? ⟨g, 0, none⟩ = some a ∧ w.cell? ⟨g, 1, none⟩ = some b ∧ w.cell? ⟨g, 2, none⟩ = some c ∧ w.cell? ⟨g, 3, none⟩ = some d) ∧ w.frozen? ⟨g, 0, none⟩ = false ∧ w.frozen? ⟨g, 1, none⟩ = false ∧ w.frozen? ⟨g, 2, none⟩ = false ∧ w.frozen? ⟨g, 3, none⟩ = false :=
  ⟨⟨blk_cell h 0, blk_cell h 1, blk_cell h 2, blk_cell h 3⟩, blk_frozen h 0, blk_frozen h 1, blk_frozen h 2, blk_frozen h 3⟩
theorem below_at {w W : World} (h : Below w.heap.size w W) {p : Addr} (hp : w.heap.size ≤ p.block) (u : Value) : Below w.heap.size w (W.setCell p u) := h.setCell hp u
namespace PE
end PE
end Go.Proofs.YticeddapnafomaaDoor
