/- impl.head's contract in the print's own shape: a journal block's header. -/
import Derived.Test.YticeddapnafomaaDoorGivenP
import Derived.Lib.BufferWrite
import Derived.Deep.WholeRow
import Derived.Laws.MakeOwn
set_option linter.unusedVariables false
namespace Go.Proofs.YticeddapnafomaaDoor
open Go.RowKit Go.Proofs.YticeddapnafomaaDoorW.PrintWords Go.Proofs.YticeddapnafomaaDoorW.PrintLast Go.Proofs.YticeddapnafomaaDoorW.PrintMore
namespace PE
def headRow (a0 : Int) : List Int := [106, 108, 111, 103, a0 % 256] ++ List.replicate 59 0
def impl_head.f (k : Nat) (a0 a1 a2 : Int) : Option (List Int) := (impl_put.f k (headRow a0) 6 a1 2).bind fun x => impl_put.f k x 8 a2 4
theorem impl_head.mono : ∀ a0 a1 a2 k, LeO (impl_head.f k a0 a1 a2) (impl_head.f (k + 1) a0 a1 a2) := by
  intro a0 a1 a2 k
  exact LeO.bind (impl_put.mono _ _ _ _ _) (fun _ => impl_put.mono _ _ _ _ _)
def zRow : Array Value := Array.replicate 64 (.int .u8 0)
def jRow : Array Value := (#[.int .u8 106, .int .u8 108, .int .u8 111, .int .u8 103] : Array Value) ++ Array.replicate 60 (.int .u8 0)
theorem make64 (W : World) : (Instr.makeSlice 22 (.int .i64 64) (.int .i64 64)).run Tryd.prog W = .ok (.slice (some ⟨W.heap.size, 0, none⟩) 64 64) (W.alloc (.cells zRow 5)) := by kernel_rfl
set_option maxRecDepth 100000 in
theorem copy4 (W : World) : (Builtin.copy_ #[22, 9] 3 #[.slice (some ⟨W.heap.size, 0, none⟩) 64 64, .string ⟨#[106, 108, 111, 103]⟩]).run Tryd.prog (W.alloc (.cells zRow 5)) = .ok (.int .i64 4) (W.alloc (.cells jRow 5)) := by
  have := Lib.run_copy_row_string (P := Tryd.prog) (W.alloc (.cells zRow 5)) 22 9 3 5 W.heap.size 0 64 64 ⟨#[106, 108, 111, 103]⟩ zRow 5 Tryd.underlying22 Tryd.byteSize (heap_alloc_new W _) (by decide) (by decide)
  rw [World.setRow_alloc_new] at this
  exact this
set_option maxRecDepth 100000 in
theorem head_own (w W : World) (a0 : Int) (hW : W.heap[w.heap.size + 1]? = some (.cells (jRow.setIfInBounds 4 (.int .u8 (a0 % 256))) 5)) : Kd.R (Kd.int .u8) 5 W w.heap.size (fun k_ => k_ = w.heap.size + 1) (.slice (some ⟨w.heap.size + 1, 0, none⟩) 64 64) (headRow a0) :=
  Kd.R_of_own ⟨rfl, .inr ⟨w.heap.size + 1, 64, jRow.setIfInBounds 4 (.int .u8 (a0 % 256)), rfl, by omega, hW, Nat.le_refl 64, by decide, by simp [jRow], rfl⟩⟩ (fun k hk => by simp [Value.ownBlock] at hk; exact hk.symm)
set_option maxHeartbeats 1000000 in
set_option maxRecDepth 100000 in
theorem image_calls (k : Nat) (a0 a1 a2 : Int) (r : List Int) (w : World) (h : impl_head.f k a0 a1 a2 = some r) :
    Calls Tryd.prog 73 #[.agg #[.int .i64 a0, .int .i64 a1, .int .i64 a2]] w fun e w' => ∃ v0_ : Value, e = .returned (v0_) ∧ Kd.R (Kd.int .u8) 5 w' w.heap.size (fun _ => True) v0_ r ∧ Below w.heap.size w w' := by
  obtain ⟨x, hx, hr⟩ := Option.bind_eq_some_iff.mp h
  have hmk := make64
  have hcp := copy4 (w.alloc (.cells #[.int .i64 a0, .int .i64 a1, .int .i64 a2] 52))
  simp only [World.size_alloc] at hcp
  go_enter Tryd.func73, Tryd.ntmps73
  have hW : ((w.alloc (.cells #[.int .i64 a0, .int .i64 a1, .int .i64 a2] 52)).alloc (.cells (jRow.setIfInBounds 4 (.int .u8 (a0 % 256))) 5)).heap[w.heap.size + 1]? = some (.cells (jRow.setIfInBounds 4 (.int .u8 (a0 % 256))) 5) := by
    have := heap_alloc_new (w.alloc (.cells #[.int .i64 a0, .int .i64 a1, .int .i64 a2] 52)) (.cells (jRow.setIfInBounds 4 (.int .u8 (a0 % 256))) 5)
    rwa [World.size_alloc] at this
  have HO := Lib.hid (head_own w _ a0 hW)
  have HB : Hid (Below w.heap.size w ((w.alloc (.cells #[.int .i64 a0, .int .i64 a1, .int .i64 a2] 52)).alloc (.cells (jRow.setIfInBounds 4 (.int .u8 (a0 % 256))) 5))) := Lib.hid (((Below.refl _ _).alloc (Nat.le_refl _) _).alloc (by simp) _)
  have HX := Lib.hid hx
  have HR := Lib.hid hr
  clear hx hr hW h
  go_wp2_with (first | (go_at_call 55; ((with_reducible refine (impl_put.calls k _ _ (headRow a0) 6 a1 2 x w _ HB.out HO.out HX.out).mono ?_); rintro e w4 ⟨rfl, hR4, hB4, hK4⟩; have hbx : w4.heap[w.heap.size]? = some (.cells #[.int .i64 a0, .int .i64 a1, .int .i64 a2] 52) := (hK4.2 w.heap.size (by simp; omega) (by omega)).trans ((Below.heap_alloc _ _ _ (by simp)).trans (heap_alloc_new w _)); have hc2 : w4.cell? ⟨w.heap.size, 2, none⟩ = some (.int .i64 a2) := by simp [World.cell?, hbx])) | (go_at_call 55; (with_reducible refine (impl_put.calls k _ _ x 8 a2 4 r w _ hB4 hR4 HR.out).mono ?_); rintro e w5 ⟨rfl, hR5, hB5, hK5⟩))
  go_ret
  exact ⟨_, rfl, Kd.R_mono hR5 (fun _ _ => trivial), hB5⟩
set_option maxRecDepth 100000 in
theorem impl_head.calls (k : Nat) (a0 a1 a2 : Int) (r : List Int) (w : World) (h : impl_head.f k a0 a1 a2 = some r) :
    Calls Tryd.prog 54 #[.int .i64 a0, .int .i64 a1, .int .i64 a2] w fun e w' => ∃ v0_ : Value, e = .returned (v0_) ∧ Kd.R (Kd.int .u8) 5 w' w.heap.size (fun _ => True) v0_ r ∧ Below w.heap.size w w' := by
  have H := Lib.hid (image_calls k a0 a1 a2 r w h)
  clear h
  have hfl : ∀ W : World, (Instr.field 54 (.agg #[.int .i64 a0, .int .i64 a1, .int .i64 a2, .slice none 0 0]) 0).run Tryd.prog W = .ok (.agg #[.int .i64 a0, .int .i64 a1, .int .i64 a2]) W := fun W => by kernel_rfl
  go_enter Tryd.func54, Tryd.ntmps54
  go_wp2_with (first | (go_at_call 73; refine H.out.mono ?_; rintro e w5 ⟨v0, rfl, hR5, hB5⟩))
  go_ret
  exact ⟨_, rfl, hR5, hB5⟩
end PE
end Go.Proofs.YticeddapnafomaaDoor
