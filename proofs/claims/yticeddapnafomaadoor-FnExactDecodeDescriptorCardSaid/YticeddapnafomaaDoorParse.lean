/- impl.parse and (impl.jblock).held: a block's header, and the errors that wrap errForm. -/
import Derived.Test.YticeddapnafomaaDoorPEx4
import Derived.Test.YticeddapnafomaaDoorIs
import Derived.Lib.Hide
import Derived.Outline
set_option linter.unusedVariables false
namespace Go.Proofs.YticeddapnafomaaDoor
open Go.RowKit Go.Proofs.YticeddapnafomaaDoorW.PrintWords Go.Proofs.YticeddapnafomaaDoorW.PrintLast Go.Proofs.YticeddapnafomaaDoorW.PrintMore
structure Glob (s : Addr) (w : World) : Prop where
  et : w.cell? ⟨1, 0, none⟩ = some (.iface 108 (.agg #[.pointer (some ⟨2, 56, none⟩)]))
  ef : w.cell? ⟨0, 0, none⟩ = some (.iface 122 (.pointer (some s)))
theorem Glob.below {s : Addr} {w w1 : World} (h : Glob s w) (hb : Below w.heap.size w w1) : Glob s w1 := ⟨pw_cell_below hb h.et, pw_cell_below hb h.ef⟩
theorem Glob.lt {s : Addr} {w : World} (h : Glob s w) : 1 < w.heap.size := World.block_lt_of_cell? w _ h.et
def IsBad (s : Addr) (w : World) (v : Value) (w' : World) : Prop := ∃ b, v = .iface 75 (.pointer (some ⟨b, 0, none⟩)) ∧ b < w'.heap.size ∧ w'.cell? ⟨b, 1, none⟩ = some (.iface 122 (.pointer (some s))) ∧ Below w.heap.size w w'
def BadParse (s : Addr) (w : World) (e : Ending) (w' : World) : Prop := ∃ v, e = .returned (.tuple #[.agg #[.int .i64 0, .int .i64 0, .int .i64 0, .slice none 0 0], v]) ∧ IsBad s w v w'
set_option maxHeartbeats 1000000 in
set_option maxRecDepth 100000 in
theorem parse_zero (s : Addr) (A0 : Option Addr) (c0 : Nat) (l0 : List Int) (kind : Int) (w : World) (hr0 : Kd.C (Kd.int .u8) w A0 l0.length l0) (hc0 : l0.length ≤ c0) (hG : Glob s w) (hk : PE.impl_BlockKind.f l0 = some 0) :
    Calls Tryd.prog 26 #[.slice A0 l0.length c0, .int .i64 kind] w (BadParse s w) := by
  have HC := Lib.hid (fun (W : World) (hb : Below w.heap.size w W) => PE.impl_BlockKind.calls A0 c0 l0 0 W (Kd.C_below hr0 hb) hc0 hk)
  have hlt := hG.lt
  have hf : (w.alloc (.cells #[.int .i64 0, .int .i64 0, .int .i64 0, .slice none 0 0] 54)).cell? ⟨0, 0, none⟩ = some (.iface 122 (.pointer (some s))) := (World.cell?_alloc_lt _ _ _ (by show 0 < _; omega)).trans hG.ef
  have hne : ¬ w.heap.size = 0 := by omega
  clear hr0 hc0 hG hk
  go_enter Tryd.func26, Tryd.ntmps26
  go_wp2_with (go_at_call 48; with_reducible refine (HC.out _ (below_alloc (Below.refl _ _) _)).mono ?_; rintro e w1 ⟨rfl, ⟨n, rfl⟩⟩)
  go_region
  go_wp2
  refine bodyPost_ret (v := .tuple #[.agg #[.int .i64 0, .int .i64 0, .int .i64 0, .slice none 0 0], .iface 75 (.pointer (some ⟨w.heap.size + 1, 0, none⟩))]) (by simp [results, Tryd.results26, go_sem]) rfl ⟨_, rfl, w.heap.size + 1, rfl, by simp, by rw [World.cell?_alloc_at _ _ _ _ (by simp)]; rfl, ?_⟩
  repeat (first | (with_reducible first | exact Below.refl _ _ | apply below_alloc | apply pw_below_drewN | apply below_drew1) | (refine Below.setCell ?_ (by simp) _))
set_option maxHeartbeats 1000000 in
set_option maxRecDepth 100000 in
theorem parse_kind (s : Addr) (A0 : Option Addr) (c0 : Nat) (l0 : List Int) (kind k0 : Int) (w : World) (hr0 : Kd.C (Kd.int .u8) w A0 l0.length l0) (hc0 : l0.length ≤ c0) (hG : Glob s w) (hk : PE.impl_BlockKind.f l0 = some k0) (h0 : ¬ k0 = 0) (h1 : ¬ k0 = kind) :
    Calls Tryd.prog 26 #[.slice A0 l0.length c0, .int .i64 kind] w (BadParse s w) := by
  have HC := Lib.hid (fun (W : World) (hb : Below w.heap.size w W) => PE.impl_BlockKind.calls A0 c0 l0 k0 W (Kd.C_below hr0 hb) hc0 hk)
  have hlt := hG.lt
  have hf : (w.alloc (.cells #[.int .i64 0, .int .i64 0, .int .i64 0, .slice none 0 0] 54)).cell? ⟨0, 0, none⟩ = some (.iface 122 (.pointer (some s))) := (World.cell?_alloc_lt _ _ _ (by show 0 < _; omega)).trans hG.ef
  have hne : ¬ w.heap.size = 0 := by omega
  have c0b : (k0 == 0) = false := beq_eq_false_iff_ne.mpr h0
  have c1b : (k0 != kind) = true := bne_iff_ne.mpr h1
  clear hr0 hc0 hG hk h0 h1
  go_enter Tryd.func26, Tryd.ntmps26
  go_wp2_with (go_at_call 48; with_reducible refine (HC.out _ (below_alloc (Below.refl _ _) _)).mono ?_; rintro e w1 ⟨rfl, ⟨n, rfl⟩⟩)
  go_region
  go_wp2
  refine bodyPost_ret (v := .tuple #[.agg #[.int .i64 0, .int .i64 0, .int .i64 0, .slice none 0 0], .iface 75 (.pointer (some ⟨w.heap.size + 1, 0, none⟩))]) (by simp [results, Tryd.results26, go_sem]) rfl ⟨_, rfl, w.heap.size + 1, rfl, by simp, by rw [World.cell?_alloc_at _ _ _ _ (by simp)]; rfl, ?_⟩
  repeat (first | (with_reducible first | exact Below.refl _ _ | apply below_alloc | apply pw_below_drewN | apply below_drew1) | (refine Below.setCell ?_ (by simp) _))
def OkParse (w : World) (k0 count seq : Int) (A0 : Option Addr) (n c0 : Nat) (e : Ending) (w' : World) : Prop := e = .returned (.tuple #[.agg #[.int .i64 k0, .int .i64 count, .int .i64 seq, .slice A0 n c0], .nilIface]) ∧ Below w.heap.size w w'
set_option maxHeartbeats 1000000 in
set_option maxRecDepth 100000 in
theorem parse_ok (k : Nat) (A0 : Option Addr) (c0 : Nat) (l0 : List Int) (k0 count seq : Int) (w : World) (hr0 : Kd.C (Kd.int .u8) w A0 l0.length l0) (hc0 : l0.length ≤ c0) (hk : PE.impl_BlockKind.f l0 = some k0) (h0 : ¬ k0 = 0) (h1 : PE.impl_num.f k l0 6 2 = some count) (h2 : PE.impl_num.f k l0 8 4 = some seq) :
    Calls Tryd.prog 26 #[.slice A0 l0.length c0, .int .i64 k0] w (OkParse w k0 count seq A0 l0.length c0) := by
  have HC := Lib.hid (fun (W : World) (hb : Below w.heap.size w W) => PE.impl_BlockKind.calls A0 c0 l0 k0 W (Kd.C_below hr0 hb) hc0 hk)
  have HN1 := Lib.hid (fun (W : World) (hb : Below w.heap.size w W) => PE.impl_num.calls k A0 c0 l0 6 2 count W (Kd.C_below hr0 hb) hc0 h1)
  have HN2 := Lib.hid (fun (W : World) (hb : Below w.heap.size w W) => PE.impl_num.calls k A0 c0 l0 8 4 seq W (Kd.C_below hr0 hb) hc0 h2)
  have c0b : (k0 == 0) = false := beq_eq_false_iff_ne.mpr h0
  have c1b : (k0 != k0) = false := bne_eq_false_iff_eq.mpr rfl
  clear hr0 hc0 hk h0 h1 h2
  go_enter Tryd.func26, Tryd.ntmps26
  go_wp2_with (first | (go_at_call 48; with_reducible refine (HC.out _ (below_alloc (Below.refl _ _) _)).mono ?_; rintro e w1 ⟨rfl, ⟨n, rfl⟩⟩) | (go_at_call 28; (with_reducible refine (HN1.out _ ?b1).mono ?_); (case b1 => repeat (first | (with_reducible first | exact Below.refl _ _ | apply below_alloc | apply pw_below_drewN | apply below_drew1))); rintro e w2 ⟨rfl, ⟨n1, rfl⟩⟩) | (go_at_call 28; (with_reducible refine (HN2.out _ ?b2).mono ?_); (case b2 => repeat (first | (with_reducible first | exact Below.refl _ _ | apply below_alloc | apply pw_below_drewN | apply below_drew1))); rintro e w2 ⟨rfl, ⟨n2, rfl⟩⟩))

  refine bodyPost_ret (v := .tuple #[.agg #[.int .i64 k0, .int .i64 count, .int .i64 seq, .slice A0 l0.length c0], .nilIface]) (by simp [results, Tryd.results26, go_sem]) rfl ⟨rfl, ?_⟩
  repeat (first | (with_reducible first | exact Below.refl _ _ | apply below_alloc | apply pw_below_drewN | apply below_drew1) | (refine Below.setCell ?_ (by simp) _))
end Go.Proofs.YticeddapnafomaaDoor
