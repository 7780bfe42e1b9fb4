/- strings.Split's contract (the shelf's) in the print's own shape. -/
import Derived.Test.YtlnjphkcnkdmlaaDoorPDx0
import Derived.Test.YtlnjphkcnkdmlaaDoorShelf
set_option linter.unusedVariables false
namespace Go.Proofs.YtlnjphkcnkdmlaaDoor
open Go.RowKit Go.Proofs.YtlnjphkcnkdmlaaDoorW.PrintWords Go.Proofs.YtlnjphkcnkdmlaaDoorW.PrintLast Go.Proofs.YtlnjphkcnkdmlaaDoorW.PrintMore
/-- internal/bytealg.MaxLen holds some number. -/
structure Glob (s : Int) (w : World) : Prop where
  ml : w.cell? ⟨0, 0, none⟩ = some (.int .i64 s)
theorem Glob.below {s : Int} {w w1 : World} (h : Glob s w) (hb : Below w.heap.size w w1) : Glob s w1 := ⟨pw_cell_below hb h.ml⟩
namespace PD
def strings_Split.f (a0 a1 : ByteArray) : Option (List ByteArray) := if a0.size < 4294967281 ∧ 1 ≤ a1.size then some (Lib.splitB a1 0 (Lib.countB a0 a1) a0) else none
theorem strings_Split.calls (a0 a1 : ByteArray) (r : List ByteArray) (w : World) (h : strings_Split.f a0 a1 = some r) (s : Int) (hG : Glob s w) :
    Calls Tryd.prog 15 #[.string a0, .string a1] w fun e w' => ∃ v0_ : Value, e = .returned (v0_) ∧ Kd.R Kd.string 9 w' w.heap.size (fun _ => True) v0_ r ∧ Below w.heap.size w w' := by
  unfold strings_Split.f at h
  by_cases hc : a0.size < 4294967281 ∧ 1 ≤ a1.size
  · rw [if_pos hc] at h
    obtain rfl := Option.some.inj h
    refine (Tryd.strings_Split a0 a1 s w hc.1 hG.ml hc.2).mono ?_
    rintro e w' ⟨rfl, rfl⟩
    have hlen := Lib.splitB_all a1 hc.2 0 _ a0 rfl
    have hle := Lib.countB_le a1 hc.2 a0.size a0 (Nat.le_refl _)
    refine ⟨_, rfl, ?_, below_alloc (Below.refl _ _) _⟩
    rw [← hlen]
    exact Kd.R_of_own (by
      have := own_lit_of (enc := Value.string) w w.heap.size 9 (Lib.splitB a1 0 (Lib.countB a0 a1) a0) (Nat.le_refl _) (by omega)
      exact this) (fun _ _ => trivial)
  · rw [if_neg hc] at h; cases h
end PD
end Go.Proofs.YtlnjphkcnkdmlaaDoor
