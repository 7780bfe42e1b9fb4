/- impl.BitRuns at this translation: a slice of its own that holds the runs, in order. -/
import Derived.Test.YtkjcffhmjfdnmaaRuns
import Derived.WalkSmall
set_option linter.unusedVariables false
namespace Go.Proofs.Ytkjcffhmjfdnmaa
open Go.RowKit Go.Shelf Go.Proofs.YtkjcffhmjfdnmaaW.PrintWords Go.Proofs.YtkjcffhmjfdnmaaW.PrintLast Go.Proofs.YtkjcffhmjfdnmaaW.PrintMore
attribute [local go_sem] Oper.semAt_some max2_int min2_int max_two min_two
theorem Try.info35 : (Try.prog.info? 35).map (fun i => (i.zero, i.size, i.bytes)) = some (some (.agg #[.int .i64 0, .int .i64 0]), 2, 16) := by kernel_rfl
def cellsOf (l : List (Nat × Nat)) : List Value := l.flatMap fun x => [.int .i64 x.1, .int .i64 x.2]
theorem cellsOf_snoc (l : List (Nat × Nat)) (x : Nat × Nat) : cellsOf l ++ [.int .i64 x.1, .int .i64 x.2] = cellsOf (l ++ [x]) := by simp [cellsOf]
theorem runs_any (A0 : Option Addr) (len c0 : Nat) (lo hiI : Int) (w : World) :
    Calls Try.prog 22 #[.slice A0 len c0, .int .i64 lo, .int .i64 hiI] w fun e w' =>
      e = .returned (.func (.func 28) #[] #[.pointer (some ⟨w.heap.size + 1, 0, none⟩), .pointer (some ⟨w.heap.size + 1 + 1, 0, none⟩), .pointer (some ⟨w.heap.size, 0, none⟩)]) ∧
      w' = ((w.alloc (.cells #[.slice A0 len c0] 22)).alloc (.cells #[.int .i64 lo] 2)).alloc (.cells #[.int .i64 hiI] 2) := by
  go_enter Try.func22, Try.ntmps22
  go_wp2
  go_ret
  exact ⟨rfl, rfl⟩
set_option maxRecDepth 100000 in
set_option maxHeartbeats 4000000 in
theorem bitRuns_in (n : Nat) (hn : 3 ≤ n) (A0 : Option Addr) (c0 : Nat) (bits : List Int) (b : Nat → Bool) (frm til : Int) (len lo hi f : Nat) (hiI : Int) (hH : Hid (∀ k : Nat, (k : Int) < hiI ↔ k < hi)) (w : World) (hhi : hi ≤ 16384) (hf : hi ≤ lo + f)
    (hr : Kd.C (Kd.int .u8) w A0 bits.length bits) (hc0 : bits.length ≤ c0) (hbit : ∀ i : Nat, i < hi → PB.impl_BitGet.f bits i = some (b i))
    (hlen : PB.impl_bitlen.f bits = some len) (hlo : (if frm < 0 then 0 else frm) = (lo : Int)) (hhi2 : (if (len : Int) < til then (len : Int) else til) = hiI) :
    CallsIn Fence.wide n Try.prog 7 #[.slice A0 bits.length c0, .int .i64 frm, .int .i64 til] w fun e W' =>
      ∃ v, e = .returned v ∧ W'.ownsRow w.heap.size 35 2 v (runsN b hi f lo).length (cellsOf (runsN b hi f lo)) ∧ Below w.heap.size w W' := by
  have h1 : 1 ≤ n := by omega
  obtain ⟨i0, hi0, hz0, hz1, hz2⟩ := info_parts Try.info35
  refine callsIn_of_wp_marks Try.func7 rfl trivial ?_ rfl
  simp only [Try.ntmps7, List.size_toArray, List.length_cons, List.length_nil, Nat.reduceAdd, Nat.reduceSub, Array.replicate_succ, Array.replicate_zero, List.push_toArray, List.append_toArray, List.nil_append, List.cons_append]
  have hrr := Kd.C_below hr ((Below.refl w.heap.size w).alloc (Nat.le_refl _) (.cells #[.slice none 0 0] 23))
  gi_wp2_with (first | (refine ⟨trivial, ?_⟩; gi_at_call 23; refine (callsIn_wide.2 (PB.impl_bitlen.calls A0 c0 bits len _ hrr hc0 hlen)).mono ?_; rintro e w' ⟨rfl, hd⟩; clear hlen hrr) | (refine ⟨trivial, ?_⟩; gi_at_call 22; refine (callsIn_wide.2 (runs_any _ _ _ _ _ _)).mono ?_; rintro e w2 ⟨rfl, rfl⟩))
  clear hlo hhi2
  have hsw : w'.heap.size = w.heap.size + 1 := by rw [drawn_heap hd]; simp
  have bL : Boxed w' w.heap.size 23 (.slice none 0 0) := by
    have := Boxed.new w 23 (.slice none 0 0)
    unfold Boxed at this ⊢
    rw [drawn_heap hd]; exact this
  have hB' : Below w.heap.size w w' := below_grownBy ((Below.refl _ w).alloc (Nat.le_refl _) _) (by simp) (drawn_grown hd)
  have bL3 := ((bL.alloc (.cells #[.slice A0 bits.length c0] 22)).alloc (.cells #[.int .i64 lo] 2)).alloc (.cells #[.int .i64 hiI] 2)
  have b3 := ((Boxed.new w' 22 (.slice A0 bits.length c0)).alloc (.cells #[.int .i64 lo] 2)).alloc (.cells #[.int .i64 hiI] 2)
  have b1 := (Boxed.new (w'.alloc (.cells #[.slice A0 bits.length c0] 22)) 2 (.int .i64 lo)).alloc (.cells #[.int .i64 hiI] 2)
  have b2 := Boxed.new ((w'.alloc (.cells #[.slice A0 bits.length c0] 22)).alloc (.cells #[.int .i64 lo] 2)) 2 (.int .i64 hiI)
  simp only [World.size_alloc] at b1 b2
  have hB0 : Below w.heap.size w (((w'.alloc (.cells #[.slice A0 bits.length c0] 22)).alloc (.cells #[.int .i64 lo] 2)).alloc (.cells #[.int .i64 hiI] 2)) :=
    ((hB'.alloc (by omega) _).alloc (by simp; omega) _).alloc (by simp; omega) _
  have hsz : (((w'.alloc (.cells #[.slice A0 bits.length c0] 22)).alloc (.cells #[.int .i64 lo] 2)).alloc (.cells #[.int .i64 hiI] 2)).heap.size = w.heap.size + 4 := by simp; omega
  obtain ⟨W0, hW0⟩ : ∃ W0, ((w'.alloc (.cells #[.slice A0 bits.length c0] 22)).alloc (.cells #[.int .i64 lo] 2)).alloc (.cells #[.int .i64 hiI] 2) = W0 := ⟨_, rfl⟩
  rw [hW0] at bL3 b1 b2 b3 hB0 hsz ⊢
  clear hW0 bL hB' hd
  rw [hsw] at b1 b2 b3 ⊢
  clear hsw w'
  have hrl := runsN_len b hi f lo
  refine wpIn_rangeFunc_ownH (encs := encRun) (Kp := keepP w (w.heap.size + 1 + 1 + 1) (w.heap.size + 1)) (S := fun ys => ys = runsN b hi f lo) (Sp := fun pre => pre <+: runsN b hi f lo) (N := (runsN b hi f lo).length) (w0 := W0) rfl h1 (gf := 28)
    (lb := #[.pointer (some ⟨w.heap.size + 1 + 1, 0, none⟩), .pointer (some ⟨w.heap.size + 1 + 1 + 1, 0, none⟩), .pointer (some ⟨w.heap.size + 1, 0, none⟩)]) rfl trivial (enters_of Try.func28 (by kernel_rfl) rfl)
    (fun l J Jx W hW hJ _ hY h0 => runs1_in (n - 1) (by omega) l _ _ _ A0 c0 bits b lo hi f hiI hH w hhi hf hr hc0 hbit J Jx hY W hJ (hB0.trans (hW.mono hB0.size)) ((hW.cell (p := ⟨w.heap.size + 1 + 1, 0, none⟩) (by simp; omega)).trans b1.cell) ((hW.cell (p := ⟨w.heap.size + 1 + 1 + 1, 0, none⟩) (by simp; omega)).trans b2.cell) ((hW.cell (p := ⟨w.heap.size + 1, 0, none⟩) (by simp; omega)).trans b3.cell) h0)
    (fun {A B C} h k => ⟨h.1.trans k.1, k.2.1.trans h.2.1, k.2.2.trans h.2.2⟩)
    (fun W l o o' hl hh hc hw => ⟨belowK_b (w := w) (Nat.le_refl _) W l o o' (by omega) hh hc hw, World.cell?_of_block (World.putObj_heap_other (by simp; omega)), World.cell?_of_block (World.putObj_heap_other (by simp; omega))⟩)
    (Below.refl _ _) (fun _ => rfl)
    (fun pre W => ((∃ v, Boxed W w.heap.size 23 v ∧ W.ownsRow w.heap.size 35 2 v pre.length (cellsOf pre) ∧ True) ∧ (Boxed W (w.heap.size + 1 + 1 + 1) 2 (.int .i64 hiI) ∧ Boxed W (w.heap.size + 1) 22 (.slice A0 bits.length c0))) ∧ Below w.heap.size w W)
    (fun _ _ _ => False)
    (OwnFrom.and (OwnFrom.and (Own.from (holdsRow_own w.heap.size w.heap.size 23 35 2 (fun pre => pre.length) cellsOf (fun _ _ => True)) _) (OwnFrom.and (Own.from (boxed_own _ _ _) _) (Own.from (boxed_own _ _ _) _))) (ownFrom_below (Nat.le_refl _) (by omega)))
    (fun _ _ _ _ _ hs _ _ => hs)
    ⟨⟨⟨_, bL3, World.ownsRow_nil _ _ _ _, trivial⟩, b2, b3⟩, hB0⟩
    (fun x a' W => ∃ Bx, w.heap.size + 4 ≤ Bx ∧ W.heap[Bx]? = some (.cells #[.int .i64 x.1, .int .i64 x.2] 35 (0, 0)) ∧ a' = { tmps := #[.slice A0 bits.length c0, .int .i64 frm, .int .i64 til, undef, undef, undef, .slice none 0 0, .pointer (some ⟨w.heap.size, 0, none⟩), .pointer (some ⟨Bx, 0, none⟩), .slice A0 bits.length c0, .int .i64 frm, .int .i64 lo, .int .i64 til, .slice A0 bits.length c0, .int .i64 len, .int .i64 hiI, .func (.func 28) #[] #[.pointer (some ⟨w.heap.size + 1 + 1, 0, none⟩), .pointer (some ⟨w.heap.size + 1 + 1 + 1, 0, none⟩), .pointer (some ⟨w.heap.size + 1, 0, none⟩)], .agg #[.int .i64 x.1, .int .i64 x.2], undef, undef, undef, undef, undef], defers := [] })
    (fun x a' _ X Y row hs hg hr => by
      obtain ⟨Bx, h1, h2, h3⟩ := hs
      exact ⟨Bx, h1, (hg.block Bx (Array.getElem?_eq_some_iff.1 h2).1 (fun e => by obtain ⟨_, o, ho, hc⟩ := hr Bx e.symm; rw [h2] at ho; cases ho; simp [Obj.isCells] at hc)).trans h2, h3⟩)
    ?assign ?body ?done ?stop
  case assign =>
    rintro l pre x W K ⟨⟨⟨v, hv, hrow, _⟩, hb2, hb3⟩, hB⟩ hK
    simp only [encRun]
    gi_wp2
    refine hK _ _ ((KeepsOthers.alloc _ _).from _) ⟨(Below.refl _ W).alloc hB.size _, World.cell?_alloc_lt _ _ ⟨w.heap.size + 1 + 1 + 1, 0, none⟩ hb2.lt, World.cell?_alloc_lt _ _ ⟨w.heap.size + 1, 0, none⟩ hb3.lt⟩ ⟨⟨⟨v, hv.alloc _, hrow.alloc _, trivial⟩, hb2.alloc _, hb3.alloc _⟩, hB.alloc hB.size _⟩ ⟨W.heap.size, ?_, heap_alloc_new W _, ?_⟩
    · have := hb2.lt
      omega
    · rfl
  case body =>
    rintro l pre x a' W hl ⟨r, hr⟩ ⟨⟨⟨v, hv, hrow, _⟩, hb2, hb3⟩, hB⟩ ⟨Bx, hBx, bX, rfl⟩ hlt
    have hc := hv.cell
    have x0 : W.cell? ⟨Bx, 0, none⟩ = some (.int .i64 x.1) := by simp [World.cell?, bX]
    have x1 : W.cell? ⟨Bx, 1, none⟩ = some (.int .i64 x.2) := by simp [World.cell?, bX]
    gi_wp2_with (gi_at_builtin; refine wpListIn_append_own _ rfl _ _ 23 rfl w.heap.size 35 i0 (.agg #[.int .i64 0, .int .i64 0]) 2 16 Try.underlying23 hi0 hz0 hz1 hz2 rfl (by decide) _ _ _ rfl (hrow.alloc _) ⟨W.heap.size, 0, none⟩ 1 1 [.int .i64 x.1, .int .i64 x.2] rfl rfl ?c1 ?c2 ?c3 ?c4 ?c5 ?_)
    case c1 => exact cell_two_new _ _ _ _
    case c2 => simp [Value.oneCell']
    case c3 => unfold maxLen; omega
    case c4 => omega
    case c5 => have := hB.size; simp; omega
    intro v' w1 hown' hgrow _
    obtain ⟨g', cap', rfl⟩ := ownsRow_succ hown'
    obtain ⟨hv1, hv2, hr2, hk2, hb2'⟩ := hv.appended (by decide) hrow hB.size (Nat.le_refl _) hown' hgrow
    have hc1 := hv1.cell
    have hf1 := hv1.frozen
    have q2 := ((hb2.alloc (.cells #[.int .i64 x.1, .int .i64 x.2] 35)).kept hgrow (hb2.not_row (by decide) hrow)).other (B' := w.heap.size) (by omega) (.slice (some ⟨g', 0, none⟩) (pre.length + 1) cap')
    have q3 := ((hb3.alloc (.cells #[.int .i64 x.1, .int .i64 x.2] 35)).kept hgrow (hb3.not_row (by decide) hrow)).other (B' := w.heap.size) (by omega) (.slice (some ⟨g', 0, none⟩) (pre.length + 1) cap')
    gi_wp2
    exact ⟨hk2.from _, ⟨hb2', q2.cell.trans hb2.cell.symm, q3.cell.trans hb3.cell.symm⟩, ⟨⟨_, hv2, by rw [← cellsOf_snoc]; simpa using hr2, trivial⟩, q2, q3⟩, hB.trans hb2'⟩
  case done =>
    rintro D ys W hD rfl ⟨⟨⟨v, hv, hrow, _⟩, hb2, hb3⟩, hB⟩ hK
    have hc := hv.cell
    gi_wp2
    refine ⟨by simp, .inl ⟨_, _, rfl, run_takeDeferred hK, ?_⟩⟩
    exact ⟨_, results_tmp rfl _ _ _, v, rfl, ownsRow_putObj hrow _ hK rfl, hB.trans (belowK_b (w := w) (Nat.le_refl _) W D _ _ (by omega) hK rfl rfl)⟩
  case stop =>
    rintro D c pre W _ _ h _
    exact h.elim
end Go.Proofs.Ytkjcffhmjfdnmaa
