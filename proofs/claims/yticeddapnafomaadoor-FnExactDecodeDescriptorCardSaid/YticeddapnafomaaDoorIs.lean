/- errors.Is of a *blockError that wraps the sentinel (turned from the worked example Sentry); impl.good at nil and at such an error. -/
import Derived.Test.YticeddapnafomaaDoorAs
import Derived.Below
import Derived.Stop.IfaceNil
import Derived.Lib.Hide
namespace Go.Proofs.YticeddapnafomaaDoor
open Go.RowKit Go.Extern.Stop Go.Stop Go.Extern
theorem Tryd.isTypeOf (v : Value) (w : World) : (Extern.ReflectliteType.typeOf #[.iface 122 v]).run Tryd.prog w = .ok (.iface 108 (.agg #[.pointer (some ⟨2, 122, none⟩)])) w := by kernel_rfl
theorem Tryd.isComparable (w : World) : ((Extern.ReflectliteType.method fun t => do Extern.Rtype.noPackHeld "Comparable" t; (fun a => Value.bool a.comparable) <$> typeInfo t) #[.agg #[.pointer (some ⟨2, 122, none⟩)]]).run Tryd.prog w = .ok (.bool true) w := by kernel_rfl
theorem Tryd.isMethodComparable (v : Value) (w : World) : (Go.method 256 108 v "Comparable").run Tryd.prog w = .ok (102, v) w := by kernel_rfl
theorem Tryd.isComp : (Tryd.prog.info? 122).map (·.comparable) = some true := by kernel_rfl
theorem Tryd.isSize : (Tryd.prog.info? 144).map (·.size) = some 1 := by kernel_rfl
theorem Tryd.noIsW (v : Value) (xT : TypeId) (w : World) : (Instr.typeAssert (.iface 75 v) xT 120 true).run Tryd.prog w = .ok (.tuple #[.nilIface, .bool false]) w := run_typeAssert_lacksB Tryd.underlying120 (by kernel_rfl) (by kernel_rfl) v xT w
theorem Tryd.hasUnwrapW (v : Value) (xT : TypeId) (w : World) : (Instr.typeAssert (.iface 75 v) xT 115 true).run Tryd.prog w = .ok (.tuple #[.iface 75 v, .bool true]) w := run_typeAssert_hasB Tryd.underlying115 (by kernel_rfl) v xT w
theorem Tryd.methodUnwrap (v : Value) (w : World) : (Go.method 256 75 v "Unwrap").run Tryd.prog w = .ok (96, v) w := by kernel_rfl
set_option maxRecDepth 100000 in
set_option maxHeartbeats 4000000 in
theorem is_wrap_same (pb po : Nat) (b : Addr) (w : World) (h1 : w.cell? ⟨pb, po + 1, none⟩ = some (.iface 122 (.pointer (some b)))) :
    Calls Tryd.prog 50 #[.iface 75 (.pointer (some ⟨pb, po, none⟩)), .iface 122 (.pointer (some b))] w fun e w' => e = .returned (.bool true) ∧ w' = w := by
  obtain ⟨i, hi, hcmp⟩ := Option.map_eq_some_iff.1 Tryd.isComp
  obtain ⟨j, hj, hjs⟩ := Option.map_eq_some_iff.1 Tryd.isSize
  have h8 := @run_callFunc_extern Tryd.prog 71 _ Extern.ReflectliteType.typeOf Tryd.func71 (by kernel_rfl) (by kernel_rfl) (by kernel_rfl) (by kernel_rfl)
  have h32 := @run_callFunc_extern Tryd.prog 102 _ (Extern.ReflectliteType.method fun t => do Extern.Rtype.noPackHeld "Comparable" t; pure (.bool (← typeInfo t).comparable)) Tryd.func102 (by kernel_rfl) (by kernel_rfl) (by kernel_rfl) (by kernel_rfl)
  have tT := Tryd.isTypeOf
  have cT := Tryd.isComparable
  have mR := Tryd.isMethodComparable
  have nW := Tryd.noIsW
  have uW := Tryd.hasUnwrapW
  have mU := Tryd.methodUnwrap
  have heq := run_eql_iface_ptr_same (P := Tryd.prog) w b Tryd.underlying56 Tryd.underlying122 hi hcmp hj
  have hty := run_eql_iface_types (P := Tryd.prog) 75 122 (.pointer (some ⟨pb, po, none⟩)) (.pointer (some b)) Tryd.underlying56 (by decide) w
  go_enter Tryd.func50, Tryd.ntmps50
  go_wp2
  refine wp_loop_rounds 2 ?_
  rw [rounds_succ]
  go_wp2
  rw [rounds_succ]
  go_wp2
  go_ret
  exact ⟨rfl, rfl⟩
theorem good_nil (w : World) : Calls Tryd.prog 27 #[.nilIface] w fun e w' => e = .returned (.bool true) ∧ Below w.heap.size w w' := by
  have hn : Tryd.prog.isIface 56 = true := by kernel_rfl
  go_enter Tryd.func27, Tryd.ntmps27
  go_wp2_with (first | (go_at_call 49; refine (as_nil _ _).mono ?_; rintro e w' ⟨rfl, rfl⟩))
  go_ret
  exact ⟨by first | rfl | simp, (Below.refl _ _).alloc (Nat.le_refl _) _⟩
set_option maxRecDepth 100000 in
theorem as_good (b : Nat) (s : Addr) (w : World) (hb : b < w.heap.size) (hg : w.cell? ⟨1, 0, none⟩ = some (.iface 108 (.agg #[.pointer (some ⟨2, 56, none⟩)]))) (hf : w.cell? ⟨0, 0, none⟩ = some (.iface 122 (.pointer (some s)))) (h1 : w.cell? ⟨b, 1, none⟩ = some (.iface 122 (.pointer (some s)))) :
    Calls Tryd.prog 49 #[.iface 75 (.pointer (some ⟨b, 0, none⟩)), .iface 79 (.pointer (some ⟨w.heap.size, 0, none⟩))] (w.alloc (.cells #[.pointer none] 75)) fun e w' => e = .returned (.bool true) ∧ w'.cell? ⟨0, 0, none⟩ = some (.iface 122 (.pointer (some s))) ∧ w'.cell? ⟨w.heap.size, 0, none⟩ = some (.pointer (some ⟨b, 0, none⟩)) ∧ w'.cell? ⟨b, 0 + 1, none⟩ = some (.iface 122 (.pointer (some s))) ∧ Below w.heap.size w w' := by
  have hlt : 1 < w.heap.size := by
    rcases Nat.lt_or_ge 1 w.heap.size with h | h
    · exact h
    · simp [World.cell?, Array.getElem?_eq_none h] at hg
  have hgA : (w.alloc (.cells #[.pointer none] 75)).cell? ⟨1, 0, none⟩ = some (.iface 108 (.agg #[.pointer (some ⟨2, 56, none⟩)])) := by rw [World.cell?_alloc_lt _ _ ⟨1, 0, none⟩ hlt]; exact hg
  have htA : (w.alloc (.cells #[.pointer none] 75)).cell? ⟨w.heap.size, 0, none⟩ = some (.pointer none) := by simp
  have hfA : (w.alloc (.cells #[.pointer none] 75)).frozen? ⟨w.heap.size, 0, none⟩ = false := by simp
  refine (as_hit ⟨b, 0, none⟩ ⟨w.heap.size, 0, none⟩ (.pointer none) _ hgA htA hfA).mono ?_
  rintro e w' ⟨rfl, hw⟩
  have hB : Below w.heap.size w w' := by
    rw [hw]
    refine Below.setCell (p := ⟨w.heap.size, 0, none⟩) ?_ (Nat.le_refl _) _
    refine (((((Below.refl _ _).alloc (Nat.le_refl _) _).alloc ?_ _).alloc ?_ _).alloc ?_ _).alloc ?_ _ <;> (simp only [World.size_alloc]; omega)
  refine ⟨rfl, (hB.cell (p := ⟨0, 0, none⟩) (by show 0 < _; omega)).trans hf, ?_, (hB.cell (p := ⟨b, 1, none⟩) hb).trans h1, hB⟩
  rw [hw]
  refine World.cell?_setCell_same (u := .pointer none) _ _ _ ?_
  rw [World.cell?_alloc_lt _ _ ⟨w.heap.size, 0, none⟩ (by simp; omega), World.cell?_alloc_lt _ _ ⟨w.heap.size, 0, none⟩ (by simp; omega), World.cell?_alloc_lt _ _ ⟨w.heap.size, 0, none⟩ (by simp; omega), World.cell?_alloc_lt _ _ ⟨w.heap.size, 0, none⟩ (by simp)]
  exact htA
set_option maxRecDepth 100000 in
set_option maxHeartbeats 4000000 in
theorem good_bad (b : Nat) (s : Addr) (w : World) (hb : b < w.heap.size) (hg : w.cell? ⟨1, 0, none⟩ = some (.iface 108 (.agg #[.pointer (some ⟨2, 56, none⟩)]))) (hf : w.cell? ⟨0, 0, none⟩ = some (.iface 122 (.pointer (some s)))) (h1 : w.cell? ⟨b, 1, none⟩ = some (.iface 122 (.pointer (some s)))) :
    Calls Tryd.prog 27 #[.iface 75 (.pointer (some ⟨b, 0, none⟩))] w fun e w' => e = .returned (.bool false) ∧ Below w.heap.size w w' := by
  have hAs := Lib.hid (as_good b s w hb hg hf h1)
  clear hg hf h1
  go_enter Tryd.func27, Tryd.ntmps27
  go_wp2_with (first | (go_at_call 49; refine hAs.out.mono ?_; rintro e w' ⟨rfl, hc0, ht, h1', hB⟩) | (go_at_call 50; refine (is_wrap_same b 0 s _ h1').mono ?_; rintro e w2 ⟨rfl, rfl⟩))
  go_ret
  exact ⟨by first | rfl | simp, hB⟩
end Go.Proofs.YticeddapnafomaaDoor
