/- (impl.jblock).held: nil where the bytes are the same, else an error that wraps errForm. -/
import Derived.Test.YticeddapnafomaaDoorParse
set_option linter.unusedVariables false
namespace Go.Proofs.YticeddapnafomaaDoor
open Go.RowKit Go.Proofs.YticeddapnafomaaDoorW.PrintWords Go.Proofs.YticeddapnafomaaDoorW.PrintLast Go.Proofs.YticeddapnafomaaDoorW.PrintMore
set_option maxHeartbeats 1000000 in
set_option maxRecDepth 100000 in
theorem held_eq (a0 a1 a2 : Int) (A0 A1 : Option Addr) (c0 c1 : Nat) (l0 l1 : List Int) (w : World) (hr0 : Kd.C (Kd.int .u8) w A0 l0.length l0) (hc0 : l0.length ≤ c0) (hr1 : Kd.C (Kd.int .u8) w A1 l1.length l1) (hc1 : l1.length ≤ c1) (hq : PE.bytes_Equal.f l1 l0 = some true) :
    Calls Tryd.prog 29 #[.agg #[.int .i64 a0, .int .i64 a1, .int .i64 a2, .slice A0 l0.length c0], .slice A1 l1.length c1] w fun e w' => e = .returned (.nilIface) ∧ Below w.heap.size w w' := by
  have HC := Lib.hid (fun (W : World) (hb : Below w.heap.size w W) => PE.bytes_Equal.calls A1 c1 l1 A0 c0 l0 true W (Kd.C_below hr1 hb) hc1 (Kd.C_below hr0 hb) hc0 hq)
  clear hr0 hc0 hr1 hc1 hq
  go_enter Tryd.func29, Tryd.ntmps29
  go_wp2_with (go_at_call 52; with_reducible refine (HC.out _ (below_alloc (Below.refl _ _) _)).mono ?_; rintro e w1 ⟨rfl, ⟨n, rfl⟩⟩)
  go_ret
  exact ⟨rfl, pw_below_drewN (below_alloc (Below.refl _ _) _) _⟩
set_option maxHeartbeats 1000000 in
set_option maxRecDepth 100000 in
theorem held_ne (s : Addr) (a0 a1 a2 : Int) (A0 A1 : Option Addr) (c0 c1 : Nat) (l0 l1 : List Int) (w : World) (hr0 : Kd.C (Kd.int .u8) w A0 l0.length l0) (hc0 : l0.length ≤ c0) (hr1 : Kd.C (Kd.int .u8) w A1 l1.length l1) (hc1 : l1.length ≤ c1) (hG : Glob s w) (hq : PE.bytes_Equal.f l1 l0 = some false) :
    Calls Tryd.prog 29 #[.agg #[.int .i64 a0, .int .i64 a1, .int .i64 a2, .slice A0 l0.length c0], .slice A1 l1.length c1] w fun e w' => ∃ v, e = .returned v ∧ IsBad s w v w' := by
  have HC := Lib.hid (fun (W : World) (hb : Below w.heap.size w W) => PE.bytes_Equal.calls A1 c1 l1 A0 c0 l0 false W (Kd.C_below hr1 hb) hc1 (Kd.C_below hr0 hb) hc0 hq)
  have hlt := hG.lt
  have hf : (w.alloc (.cells #[.int .i64 a0, .int .i64 a1, .int .i64 a2, .slice A0 l0.length c0] 54)).cell? ⟨0, 0, none⟩ = some (.iface 122 (.pointer (some s))) := (World.cell?_alloc_lt _ _ _ (by show 0 < _; omega)).trans hG.ef
  have hne : ¬ w.heap.size = 0 := by omega
  clear hr0 hc0 hr1 hc1 hG hq
  go_enter Tryd.func29, Tryd.ntmps29
  go_wp2_with (go_at_call 52; with_reducible refine (HC.out _ (below_alloc (Below.refl _ _) _)).mono ?_; rintro e w1 ⟨rfl, ⟨n, rfl⟩⟩)
  go_ret
  refine ⟨_, rfl, w.heap.size + 1, rfl, by simp, by rw [World.cell?_alloc_at _ _ _ _ (by simp)]; rfl, ?_⟩
  exact below_alloc (pw_below_drewN (below_alloc (Below.refl _ _) _) _) _
end Go.Proofs.YticeddapnafomaaDoor
