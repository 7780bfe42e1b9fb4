/- laws.FnExactDecodeDescriptor: the row (the variables errors.errorType and impl.errForm laid as the row lists them) and its tied card. -/
import Derived.Test.YticeddapnafomaaDoorRows
import Derived.Test.YticeddapnafomaaDoorTie
import Derived.Test.YticeddapnafomaaDoorCards
import Derived.Test.YticeddapnafomaaDoorPEx16
import Derived.Test.YticeddapnafomaaDoorPureFnExactDecodeDescriptor
import Derived.Test.YticeddapnafomaaDoorParse
import Derived.Test.YticeddapnafomaaDoorWSized
import Derived.ChangeSame
import Derived.ChangeVars
import Derived.JoinedOf
import Derived.RowKit
import Derived.RowKitTokens
import Derived.LaidLaws
import Derived.LaidHandle
import Derived.Stop.Joined
import Derived.Stop.LaidErr
import Derived.ProofKit
import Derived.OpenShut
import Derived.ChangeOld
import Derived.SizedLaws
import Derived.SevenTiedAt
namespace Go.Proofs.YticeddapnafomaaDoor.fnExactDecodeDescriptor
open Go.ChangeShapes Go.WideShapes Go.ChangeAt Go.RowKit
set_option linter.unusedVariables false
theorem own : ownKnob Tryd.prog.godebug = none := by kernel_rfl
theorem laidOut : laidOutB Tryd.prog = true := by kernel_rfl
theorem et : Tryd.prog.globalNamed "errors.errorType" = some 1 := by kernel_rfl
theorem rt : (Tryd.prog.cutTypes.find? (·.1 == "internal/reflectlite.rtype")).map (·.2) = some 108 := by kernel_rfl
theorem size : Tryd.prog.types.size = 156 := by kernel_rfl
theorem oneRow : ((List.range 156).filter fun t => Tryd.prog.rowNamed t [101, 114, 114, 111, 114]) = [56] := by kernel_rfl
theorem ef : Tryd.prog.globalNamed "loop.example/s01525/impl.errForm" = some 0 := by kernel_rfl
theorem efType : (Tryd.prog.globals[0]?).map (·.type) = some 56 := by kernel_rfl
theorem cells144 : Tryd.prog.cellsOf 144 = 1 := by kernel_rfl
theorem cells9 : Tryd.prog.cellsOf 9 = 1 := by kernel_rfl
theorem star : "*" ++ "errors.errorString" = "*errors.errorString" := by decide
theorem row122 (u : TypeId) (h : Tryd.prog.typeName? 3 u = some "*errors.errorString") : u = 122 :=
  typeName_ptr_named (nm := "errors.errorString") (by rw [star]; kernel_rfl) (by kernel_rfl) (by decide) u (by rw [star]; exact h)
abbrev laid : List (String × DataW Unit) := [("errors.errorType", Rows.laid_errors_errorType), ("loop.example/s01525/impl.errForm", Rows.laid_loop_example_s01525_impl_errForm)]
/-- What the two variables hold. -/
theorem glob_of_laid {W : World} (h : laidMetH Tryd.prog laid W) : ∃ s, Glob s W ∧ W.var? Tryd.prog "loop.example/s01525/impl.errForm" = some #[.iface 122 (.pointer (some s))] := by
  have h' : laidMet Tryd.prog [("loop.example/s01525/impl.errForm", Rows.laid_loop_example_s01525_impl_errForm)] W ∧ handlesMet Tryd.prog [("errors.errorType", Rows.laid_errors_errorType)] W := h
  obtain ⟨a, s, hv, _, _, _⟩ := laid_sentinel h'.1 ef efType Tryd.underlying56 row122 Tryd.underlying122 Tryd.underlying144 rfl rfl Tryd.underlying9 cells144 cells9
  obtain ⟨name, u, ty, e1, e2, e3, e4, e5⟩ := h'.2 _ (List.mem_singleton.2 rfl)
  have en : name = [101, 114, 114, 111, 114] := (Option.some.inj e1).symm
  subst en
  obtain rfl := Option.some.inj (rt.symm.trans e2)
  have hm : ty ∈ (List.range 156).filter fun t => Tryd.prog.rowNamed t [101, 114, 114, 111, 114] := List.mem_filter.2 ⟨List.mem_range.2 (by rw [← size]; exact e3), e4⟩
  rw [oneRow] at hm
  obtain rfl := List.mem_singleton.1 hm
  have hh : typeHandle Tryd.prog 56 = .pointer (some ⟨2, 56, none⟩) := by kernel_rfl
  rw [hh] at e5
  exact ⟨a, ⟨by simpa using World.var?_cell et e5 0, by simpa using World.var?_cell ef hv 0⟩, hv⟩
abbrev msg : ByteArray := { data := #[110, 111, 116, 32, 116, 104, 101, 32, 111, 110, 101, 32, 102, 111, 114, 109, 32, 111, 102, 32, 105, 116, 115, 32, 107, 105, 110, 100] }
noncomputable def low : Nat := (World.holding Tryd.prog default ⟨#[], #[], []⟩).heap.size
/-- A world that meets the condition: the settled one, the two variables laid. -/
noncomputable def laidWorld (os : Os) : World :=
  let w0 := World.holding Tryd.prog os ⟨#[.cells #[.string msg] 144], #[], []⟩
  { w0 with heap := (w0.heap.modify 0 fun
      | .cells _ t frozen => .cells #[.iface 122 (.pointer (some ⟨low, 0, none⟩))] t frozen
      | o => o).modify 1 fun
      | .cells _ t frozen => .cells #[.iface 108 (.agg #[.pointer (some ⟨2, 56, none⟩)])] t frozen
      | o => o }
theorem laidWorld_met (os : Os) (args : Array Value) : laidMetH Tryd.prog laid ((laidWorld os).forCall (fun _ _ => 0) ⟨#[], args, []⟩).memory :=
  laidMetH_of_parts (laidMet_of_run (ps := [.cell 0 0, .cell low 0]) 8 (by kernel_rfl) (by kernel_rfl) (by kernel_rfl)) (by kernel_rfl)
theorem var_below {W W' : World} {v : Value} (hb : Below W.heap.size W W') (h : W.var? Tryd.prog "loop.example/s01525/impl.errForm" = some #[v]) : W'.var? Tryd.prog "loop.example/s01525/impl.errForm" = some #[v] := by
  unfold World.var? at h ⊢
  rw [ef] at h ⊢
  simp only [Option.bind_some] at h ⊢
  have hlt : 0 < W.heap.size := by
    rcases Nat.lt_or_ge 0 W.heap.size with h' | h'
    · exact h'
    · simp [Array.getElem?_eq_none h'] at h
  rw [hb.block 0 hlt]
  exact h
theorem vars_read {H : Type} (enc : TypeId × Value → H) {W : World} {x0 : Value} (h0 : W.var? Tryd.prog "loop.example/s01525/impl.errForm" = some #[x0]) (i0 : IsIface x0) (sp : Nat → Bool) :
    DataW.TrodVars enc Tryd.prog W sp ["loop.example/s01525/impl.errForm"] [tok enc x0] [.cell 0 0] :=
  ⟨0, 56, #[x0], 1, [], [], ef, efType, h0, trod_held Tryd.underlying56 i0 0, rfl, rfl⟩
def IsRow (k : IntKind) (w : World) (a : Option Addr) (len cap : Nat) (zs : List Int) : Prop :=
  (a = none ∧ len = 0 ∧ cap = 0 ∧ zs = []) ∨
  ∃ x, a = some x ∧ len ≤ cap ∧ cap ≤ maxLen ∧ zs.length = cap ∧ (∀ i, i < zs.length → w.cell? (x.add i) = some (.int k (zs.getD i 0))) ∧ ∀ n ∈ zs, (Lit.int k n).wf = true
set_option maxRecDepth 100000 in
theorem lifted (os : Os) (started : os.Started) (H : Type) (enc : TypeId × Value → H) :
    ReturnsInHanded {} Tryd.checked os 5 .any (fun w args => (Rows.fnExactDecodeDescriptorSpec.pre enc Tryd.prog Tryd.f5 [] false w args ∧ laidMetH Tryd.prog laid w) ∧ sizedMet enc Tryd.prog Tryd.f5 (OpenSpec.ofChange Rows.fnExactDecodeDescriptorSpec) false w args)
      (Rows.fnExactDecodeDescriptorSpec.post enc Tryd.prog Tryd.f5 false true false false) := by
  refine returnsInHanded_of_change_and (C := Tryd.checked) (X := fun w _ => laidMetH Tryd.prog laid w) (fun _ _ _ hh h => h.of_heap hh) own started (by kernel_rfl) Tryd.func5
    (ChangeSpec.witness_at (enc := enc) (C := Tryd.checked) (os := os) (X := fun w _ => laidMetH Tryd.prog laid w) false (laidWorld os) #[.slice none 0 0] 8 rfl (by kernel_rfl) (by kernel_rfl) (by kernel_rfl) (by kernel_rfl) (by kernel_rfl) (laidWorld_met os _)) ?_
  intro W base args ds gs before hval0 hW _ hsz0 hL _
  have hsz : (DataW.weightsEach Tryd.prog (Tryd.f5.params.toList ++ Rows.fnExactDecodeDescriptorSpec.plain.varTypes Tryd.prog) (ds ++ gs)).all (· ≤ reachBytes) = true := hsz0
  have hval : ∀ (j : Nat) t v, Tryd.f5.params[j]? = some t → args[j]? = some v → Value.okWide Tryd.prog W .any base t v := hval0
  have hW' := hW
  obtain ⟨p, q, hA0, hV0, rfl, hfz, hnd⟩ := hW
  have hA : DataW.TrodAll enc Tryd.prog W 0 (fun _ => true) true Tryd.f5.params.toList args.toList ds p := hA0
  have hV : DataW.TrodVars enc Tryd.prog W (fun _ => true) ["loop.example/s01525/impl.errForm"] gs q := hV0
  obtain ⟨s, hG, hvar⟩ := glob_of_laid hL
  obtain ⟨rfl, rfl⟩ := hV.unique (vars_read enc hvar trivial _)
  rw [Tryd.params5] at hA hval hsz
  obtain ⟨v0, vs0, d0, ds0, p0, q0, hargs, rfl, rfl, h0, r0⟩ := trodAll_cons hA
  obtain ⟨rfl, rfl, rfl⟩ := trodAll_nil r0
  obtain rfl : args = #[v0] := by cases args; simp_all
  obtain ⟨a0, len0, cap0, rfl⟩ := okWide_slice Tryd.underlying22 (hval 0 22 v0 rfl rfl)
  have k0 := h0
  have lt0 : ∀ x ∈ p0, x.block < W.heap.size := by obtain ⟨m, hm⟩ := k0; exact DataW.trod_lt m _ _ _ hm
  obtain ⟨z0, w0⟩ : ∃ zs, IsRow .u8 W a0 len0 cap0 zs := by
    obtain ⟨fuel, hf⟩ := h0
    rcases open_ints Tryd.underlying22 Tryd.underlying5 (by kernel_rfl) hf with ⟨hcs, _⟩ | ⟨x, l, c, zs, hcs, _, hl, hm, hz, _, hcell, hwz⟩
    · simp [Value.cells] at hcs
      obtain ⟨rfl, rfl, rfl⟩ := hcs
      exact ⟨[], .inl ⟨rfl, rfl, rfl, rfl⟩⟩
    · simp [Value.cells] at hcs
      obtain ⟨rfl, rfl, rfl⟩ := hcs
      exact ⟨zs, .inr ⟨_, rfl, hl, hm, by simpa using hz, hcell, hwz⟩⟩
  have y0 : len0 * 1 ≤ 140737488351232 := Go.Proofs.YticeddapnafomaaDoorW.PrintWords.sized_ints hsz (j := 0) (t := 22) rfl rfl Tryd.underlying22 Tryd.underlying5 (by kernel_rfl) (by kernel_rfl) h0
  clear hA0 hval0 hsz0 hsz hV hV0
  refine (PE.laws_FnExactDecodeDescriptor.walk Pure.FnExactDecodeDescriptor a0 len0 cap0 z0 W w0 y0 s hG).mono fun e W' ⟨he, bel⟩ => ?_
  subst he
  exact ⟨_, rfl, _, _, _, [], _, [.cell 0 0], hW', trodAll_mk1 (shut_bool Tryd.underlying4 _), (trodAll_cons_mk (Below.trod laidOut (by kernel_rfl) (of_decide_eq_true (by kernel_rfl)) k0 bel lt0) trodAll_mk0), vars_read enc (var_below bel hvar) trivial _, bel.frame _, fun h => by cases h⟩
theorem over : Rows.FnExactDecodeDescriptorSaid :=
  OpenClaim.holds_of_wide 5 Tryd.f5 rfl rfl rfl rfl rfl rfl rfl ⟨rfl, rfl, rfl, rfl, rfl⟩ rfl rfl rfl rfl rfl (by kernel_rfl) Tryd.func5 (by kernel_rfl)
    (of_decide_eq_true (by kernel_rfl)) (by unfold Func.isWrapper; first | (rw [if_pos (by decide +kernel)]; kernel_rfl) | (rw [if_neg (by decide +kernel)]; exact ⟨rfl, rfl⟩))
    (fun os started H enc _ => lifted os started H enc)
theorem proved : Rows.FnExactDecodeDescriptorCardSaid :=
  Claim7.holds_tied_plain_at .later [] [.handle, .sentinel] true (true, "bfef60ea7615089664a64b73117fda5d2c2257c73169dd2ee87cbe989fb3ea77") true
    over (fun _ h => by cases h) (by kernel_rfl) (fun _ h => by cases h) fnExactDecodeDescriptor_row_tie rfl ⟨rfl, rfl⟩ (by kernel_rfl) rfl
    (fun f fn hf hfn => by
      obtain rfl : f = 5 := Option.some.inj ((show Tryd.prog.funcNamed "loop.example/s01525/laws.FnExactDecodeDescriptor" = some 5 by kernel_rfl).symm.trans hf) |>.symm
      obtain rfl : fn = Tryd.f5 := (Option.some.inj (Tryd.func5.symm.trans hfn)).symm
      exact ⟨by kernel_rfl, fun j t ht => by
        rw [Tryd.params5] at ht
        have h22 : t = 22 := by
          rcases j with _ | j
          · simpa using ht.symm
          · simp at ht
        subst h22
        exact (show Tryd.prog.wantsStandIn 22 = false by kernel_rfl)⟩)
    (by kernel_rfl)
#print axioms proved
end Go.Proofs.YticeddapnafomaaDoor.fnExactDecodeDescriptor
namespace Go.Proofs.YticeddapnafomaaDoor
/-- The card, under a short name, for the claim. -/
theorem fnExactDecodeDescriptor_card : Rows.FnExactDecodeDescriptorCardSaid := fnExactDecodeDescriptor.proved
end Go.Proofs.YticeddapnafomaaDoor
