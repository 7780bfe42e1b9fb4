/- The program's DecodeCommit answers what the reference's does, at every input of bytes: the plain law. -/
import Derived.OpenShut
import Derived.Test.YticeddapnafomaaDoorPEx7
import Derived.Test.YticeddapnafomaaDoorPureEnc
import Derived.Test.YticeddapnafomaaDoorPureBytes
namespace Go.Proofs.YticeddapnafomaaDoor.Pure
open Go.RowKit Go.Proofs.YticeddapnafomaaDoor.PE Go.Proofs.YticeddapnafomaaDoorW.PrintWords Go.Proofs.YticeddapnafomaaDoorW.PrintLast Go.Proofs.YticeddapnafomaaDoorW.PrintMore
theorem wf_bytes {l : List Int} (h : ∀ x ∈ l, (Lit.int .u8 x).wf = true) : isBytes l := by
  intro x hx
  exact bounds_u8 (h x hx)
theorem eqCommit_self (r : Bool × Int × Int × Int) : laws_eqCommitResult.f r.1 r.2.1 r.2.2.1 r.2.2.2 r.1 r.2.1 r.2.2.1 r.2.2.2 = some true := by
  unfold laws_eqCommitResult.f laws_eqCommit.f
  simp
theorem FnExactDecodeCommit : laws_FnExactDecodeCommit.Pure := by
  intro l hm hl hw
  obtain ⟨r, h1, h2⟩ := decodeCommit l (wf_bytes hw) (l.length + 20) (by omega)
  refine ⟨l.length + 20, ?_⟩
  unfold laws_FnExactDecodeCommit.f
  by_cases hbig : (l.length : Int) > 1048576
  · rw [if_pos hbig]
  · rw [if_neg hbig, toByteS_f l (by omega) _ (by omega), Option.bind_some, h1, Option.bind_some, Option.bind_some, h2, Option.bind_some, eqCommit_self, Option.bind_some, if_pos rfl, Option.bind_some, eqByteS_f l (by omega) _ (by omega), Option.bind_some, if_pos rfl]
end Go.Proofs.YticeddapnafomaaDoor.Pure
