-- Written by a program of this session (gprint.py, over the kit's print). Not trusted: Lean checks it.
import Derived.Test.YticeddapnafomaaDoorPEx0
import Derived.Test.YticeddapnafomaaDoorPEx4
import Derived.Test.YticeddapnafomaaDoorGivenH
import Derived.Test.YticeddapnafomaaDoorGivenP
namespace Go.Proofs.YticeddapnafomaaDoor.PE
open Go.RowKit Go.Proofs.YticeddapnafomaaDoorW.PrintWords Go.Proofs.YticeddapnafomaaDoorW.PrintLast Go.Proofs.YticeddapnafomaaDoorW.PrintMore
attribute [local go_sem] max2_int min2_int max_two min_two max_three min_three max_four min_four   -- for this text's walks alone
set_option linter.unusedVariables false
set_option linter.unusedSimpArgs false

/-! ### impl_EncodeCommit: function 30 -/
def impl_EncodeCommit.j0 : Nat → Bool → Int → Int → Int → Option (List Int)
  | 0, _, _, _, _ => none
  | k + 1, x19, x226000, x226001, x226002 => if x19 = true then (some ([] : List Int)) else ((impl_head.f k 4 x226001 x226000).bind fun t229 => ((impl_put.f k t229 12 x226002 4).bind fun t232 => (some t232)))
def impl_EncodeCommit.f (k : Nat) (a0_0 : Int) (a0_1 : Int) (a0_2 : Int) : Option (List Int) := (impl_in.f a0_0 1 4294967295).bind fun t226 => (if t226 = true then ((impl_in.f a0_1 1 511).bind fun t227 => (if t227 = true then ((impl_in.f a0_2 0 4294967295).bind fun t228 => (impl_EncodeCommit.j0 k (!t228) a0_0 a0_1 a0_2)) else (impl_EncodeCommit.j0 k true a0_0 a0_1 a0_2))) else (impl_EncodeCommit.j0 k true a0_0 a0_1 a0_2))
theorem impl_EncodeCommit.mono_l : ∀ k, (∀ y0 y1 y2 y3, LeO (impl_EncodeCommit.j0 k y0 y1 y2 y3) (impl_EncodeCommit.j0 (k + 1) y0 y1 y2 y3))
  | 0 => fun _ _ _ _ r h => by simp [impl_EncodeCommit.j0] at h
  | k + 1 => by
    have ih0 := impl_EncodeCommit.mono_l k
    · intro y0 y1 y2 y3
      unfold impl_EncodeCommit.j0
      repeat' first
      | (with_reducible exact ih0 _ _ _ _)
      | (with_reducible exact impl_head.mono _ _ _ _)
      | (with_reducible exact impl_put.mono _ _ _ _ _)
      | (with_reducible exact LeO.refl _)
      | (with_reducible exact LeO.none _)
      | (with_reducible refine LeO.ite ?_ ?_)
      | (with_reducible refine LeO.bind ?_ (fun _ => ?_))
      | exact ih0 _ _ _ _
      | exact impl_head.mono _ _ _ _
      | exact impl_put.mono _ _ _ _ _
      | exact LeO.none _
      | refine LeO.ite ?_ ?_
      | refine LeO.bind ?_ (fun _ => ?_)
theorem impl_EncodeCommit.mono : ∀ a0 a1 a2 k, LeO (impl_EncodeCommit.f k a0 a1 a2) (impl_EncodeCommit.f (k + 1) a0 a1 a2) := by
  intro a0 a1 a2 k
  have ih0 := impl_EncodeCommit.mono_l k
  unfold impl_EncodeCommit.f
  repeat' first
      | (with_reducible exact ih0 _ _ _ _)
      | (with_reducible exact impl_head.mono _ _ _ _)
      | (with_reducible exact impl_put.mono _ _ _ _ _)
      | (with_reducible exact LeO.refl _)
      | (with_reducible exact LeO.none _)
      | (with_reducible refine LeO.ite ?_ ?_)
      | (with_reducible refine LeO.bind ?_ (fun _ => ?_))
      | exact ih0 _ _ _ _
      | exact impl_head.mono _ _ _ _
      | exact impl_put.mono _ _ _ _ _
      | exact LeO.none _
      | refine LeO.ite ?_ ?_
      | refine LeO.bind ?_ (fun _ => ?_)
set_option maxHeartbeats 8000000 in
set_option maxRecDepth 100000 in
theorem impl_EncodeCommit.calls (k : Nat) (a0_0 : Int) (a0_1 : Int) (a0_2 : Int) (r : List Int) (w : World) (h : impl_EncodeCommit.f k a0_0 a0_1 a0_2 = some r) :
    Calls Tryd.prog 30 #[.agg #[.int .i64 a0_0, .int .i64 a0_1, .int .i64 a0_2]] w fun e w' => ∃ v0_ : Value, e = .returned (v0_) ∧ Kd.R (Kd.int .u8) 5 w' w.heap.size (fun _ => True) v0_ r ∧ Below w.heap.size w w' := by
  have hu24 := Tryd.underlying24
  have HB := Aside0.mk (Below.refl w.heap.size w)
  have H : ((impl_in.f a0_0 1 4294967295).bind fun t226 => (if t226 = true then ((impl_in.f a0_1 1 511).bind fun t227 => (if t227 = true then ((impl_in.f a0_2 0 4294967295).bind fun t228 => (impl_EncodeCommit.j0 k (!t228) a0_0 a0_1 a0_2)) else (impl_EncodeCommit.j0 k true a0_0 a0_1 a0_2))) else (impl_EncodeCommit.j0 k true a0_0 a0_1 a0_2))) = some r := h
  clear h
  have HC2 := Aside0.mk H
  clear H
  go_enter Tryd.func30, Tryd.ntmps30
  go_upto_region 1 with (first | ((with_reducible refine gate_dst (N := 1) rfl ?_); refine box_event ?hg (N := 1) ?hd (cs := #[.int .i64 a0_0, .int .i64 a0_1, .int .i64 a0_2]) (t := 24) ?hr ?_; (case hd => rfl); (case hg => rfl); (case hr => first | (go_simp; done) | (go_simp; rfl)); intro gb225 hg w3 hbox hb; have n0_ := Aside0.mk (below_step (by repeat (first | (with_reducible first | exact HB.out | apply below_alloc | apply pw_below_drewN | apply below_drew1) | exact HB.out)) hb); have n1_ := Aside0.mk (hbox); have n2_ := Aside0.mk ((by rw [hg]; exact (below_size (by repeat (first | (with_reducible first | exact HB.out | apply below_alloc | apply pw_below_drewN | apply below_drew1) | exact HB.out))) : w.heap.size ≤ gb225)); have n3_ := Aside0.mk ((by rw [hg]; exact (below_size (by repeat (first | (with_reducible first | exact HB.out | apply below_alloc | apply pw_below_drewN | apply below_drew1) | exact HB.out))) : w.heap.size ≤ gb225)); clear HB; have HB := n0_; have BK225 := n1_; have GW225 := n2_; have GE225 := n3_; clear n0_ n1_ n2_ n3_; clear hb hbox hg))
  (try simp only [Act.put, List.setIfInBounds_toArray, List.set_cons_zero, List.set_cons_succ])
  go_cut [19] (fun v19 wc => ∃ (kq : Nat) (x19_1 : Bool), v19 = .bool x19_1 ∧ Aside0 (impl_EncodeCommit.j0 kq x19_1 a0_0 a0_1 a0_2 = some r) ∧ Aside0 (kq ≤ k) ∧ Aside0 (wc.heap[gb225]? = some (.cells #[.int .i64 a0_0, .int .i64 a0_1, .int .i64 a0_2] 24 (0, 0))) ∧ Aside0 (Below w.heap.size w wc))
  case first =>
    have H := HC2.out
    clear HC2
    replace H := Option.bind_eq_some_iff.mp H
    obtain ⟨t226, A40, H⟩ := H
    replace H : (if t226 = true then ((impl_in.f a0_1 1 511).bind fun t227 => (if t227 = true then ((impl_in.f a0_2 0 4294967295).bind fun t228 => (impl_EncodeCommit.j0 k (!t228) a0_0 a0_1 a0_2)) else (impl_EncodeCommit.j0 k true a0_0 a0_1 a0_2))) else (impl_EncodeCommit.j0 k true a0_0 a0_1 a0_2)) = some r := H
    have A4 := Aside0.mk A40
    clear A40
    by_cases c5 : t226 = true
    · subst c5
      have H1 : ((impl_in.f a0_1 1 511).bind fun t227 => (if t227 = true then ((impl_in.f a0_2 0 4294967295).bind fun t228 => (impl_EncodeCommit.j0 k (!t228) a0_0 a0_1 a0_2)) else (impl_EncodeCommit.j0 k true a0_0 a0_1 a0_2))) = some r := by rw [if_pos rfl] at H; exact H
      clear H
      have H := H1
      clear H1
      replace H := Option.bind_eq_some_iff.mp H
      obtain ⟨t227, A60, H⟩ := H
      replace H : (if t227 = true then ((impl_in.f a0_2 0 4294967295).bind fun t228 => (impl_EncodeCommit.j0 k (!t228) a0_0 a0_1 a0_2)) else (impl_EncodeCommit.j0 k true a0_0 a0_1 a0_2)) = some r := H
      have A6 := Aside0.mk A60
      clear A60
      by_cases c7 : t227 = true
      · subst c7
        have H1 : ((impl_in.f a0_2 0 4294967295).bind fun t228 => (impl_EncodeCommit.j0 k (!t228) a0_0 a0_1 a0_2)) = some r := by rw [if_pos rfl] at H; exact H
        clear H
        have H := H1
        clear H1
        replace H := Option.bind_eq_some_iff.mp H
        obtain ⟨t228, A80, H⟩ := H
        replace H : (impl_EncodeCommit.j0 k (!t228) a0_0 a0_1 a0_2) = some r := H
        have A8 := Aside0.mk A80
        clear A80
        have H' := Aside0.mk H
        clear H
        have hcz9_0 : w3.cell? ⟨gb225, 0, none⟩ = some (.int .i64 a0_0) := (blk_cell BK225.out 0).trans rfl
        have hcz9_1 : w3.cell? ⟨gb225, 1, none⟩ = some (.int .i64 a0_1) := (blk_cell BK225.out 1).trans rfl
        have hcz9_2 : w3.cell? ⟨gb225, 2, none⟩ = some (.int .i64 a0_2) := (blk_cell BK225.out 2).trans rfl
        have hfz9_0 := blk_frozen BK225.out 0
        have hfz9_1 := blk_frozen BK225.out 1
        have hfz9_2 := blk_frozen BK225.out 2
        go_wp2_with (first | ((with_reducible refine gate_callee (f := 53) rfl ?_); refine goesL_ (some 6) rfl rfl Tryd.func53 (by kernel_rfl) rfl #[.int .i64 a0_0, .int .i64 1, .int .i64 4294967295] rfl (by (try simp only [List.map_toArray, List.map_cons, List.map_nil]); first | done | rfl | (simp only [List.length_drop, List.length_take]; rfl)) ?_; (with_reducible refine (impl_in.calls a0_0 1 4294967295 true _ A4.out).mono ?_); rintro e w' ⟨rfl, ⟨nd, rfl⟩⟩; refine ⟨_, rfl, ?_⟩) | (go_at_call 53; (with_reducible refine (impl_in.calls a0_1 1 511 true _ A6.out).mono ?_); rintro e w' ⟨rfl, ⟨nd, rfl⟩⟩) | (go_at_call 53; (with_reducible refine (impl_in.calls a0_2 0 4294967295 t228 _ A8.out).mono ?_); rintro e w' ⟨rfl, ⟨nd, rfl⟩⟩))
        go_meet
        case rel => exact ⟨_, (!t228), (by first | rfl | (simp; done) | (simp [*]; done)), H', ⟨by first | omega | exact Nat.le_refl _⟩, ⟨by (with_reducible repeat (first | refine blk_drewN ?_ _ | refine blk_drew ?_ | refine blk_alloc ?_ _)); exact BK225.out⟩, ⟨by repeat (first | (with_reducible first | exact HB.out | apply below_alloc | apply pw_below_drewN | apply below_drew1 | refine below_set ?_ GE225.out) | exact HB.out)⟩⟩
      · replace c7 := Bool.eq_false_iff.mpr c7
        subst c7
        have H1 : (impl_EncodeCommit.j0 k true a0_0 a0_1 a0_2) = some r := by rw [if_neg (show ¬ (false = true) by decide)] at H; exact H
        clear H
        have H := H1
        clear H1
        have H' := Aside0.mk H
        clear H
        have hcz10_0 : w3.cell? ⟨gb225, 0, none⟩ = some (.int .i64 a0_0) := (blk_cell BK225.out 0).trans rfl
        have hcz10_1 : w3.cell? ⟨gb225, 1, none⟩ = some (.int .i64 a0_1) := (blk_cell BK225.out 1).trans rfl
        have hcz10_2 : w3.cell? ⟨gb225, 2, none⟩ = some (.int .i64 a0_2) := (blk_cell BK225.out 2).trans rfl
        have hfz10_0 := blk_frozen BK225.out 0
        have hfz10_1 := blk_frozen BK225.out 1
        have hfz10_2 := blk_frozen BK225.out 2
        go_wp2_with (first | ((with_reducible refine gate_callee (f := 53) rfl ?_); refine goesL_ (some 6) rfl rfl Tryd.func53 (by kernel_rfl) rfl #[.int .i64 a0_0, .int .i64 1, .int .i64 4294967295] rfl (by (try simp only [List.map_toArray, List.map_cons, List.map_nil]); first | done | rfl | (simp only [List.length_drop, List.length_take]; rfl)) ?_; (with_reducible refine (impl_in.calls a0_0 1 4294967295 true _ A4.out).mono ?_); rintro e w' ⟨rfl, ⟨nd, rfl⟩⟩; refine ⟨_, rfl, ?_⟩) | (go_at_call 53; (with_reducible refine (impl_in.calls a0_1 1 511 false _ A6.out).mono ?_); rintro e w' ⟨rfl, ⟨nd, rfl⟩⟩))
        go_meet
        case rel => exact ⟨_, (true), (by first | rfl | (simp; done) | (simp [*]; done)), H', ⟨by first | omega | exact Nat.le_refl _⟩, ⟨by (with_reducible repeat (first | refine blk_drewN ?_ _ | refine blk_drew ?_ | refine blk_alloc ?_ _)); exact BK225.out⟩, ⟨by repeat (first | (with_reducible first | exact HB.out | apply below_alloc | apply pw_below_drewN | apply below_drew1 | refine below_set ?_ GE225.out) | exact HB.out)⟩⟩
    · replace c5 := Bool.eq_false_iff.mpr c5
      subst c5
      have H1 : (impl_EncodeCommit.j0 k true a0_0 a0_1 a0_2) = some r := by rw [if_neg (show ¬ (false = true) by decide)] at H; exact H
      clear H
      have H := H1
      clear H1
      have H' := Aside0.mk H
      clear H
      have hcz11_0 : w3.cell? ⟨gb225, 0, none⟩ = some (.int .i64 a0_0) := (blk_cell BK225.out 0).trans rfl
      have hcz11_1 : w3.cell? ⟨gb225, 1, none⟩ = some (.int .i64 a0_1) := (blk_cell BK225.out 1).trans rfl
      have hcz11_2 : w3.cell? ⟨gb225, 2, none⟩ = some (.int .i64 a0_2) := (blk_cell BK225.out 2).trans rfl
      have hfz11_0 := blk_frozen BK225.out 0
      have hfz11_1 := blk_frozen BK225.out 1
      have hfz11_2 := blk_frozen BK225.out 2
      go_wp2_with (first | ((with_reducible refine gate_callee (f := 53) rfl ?_); refine goesL_ (some 6) rfl rfl Tryd.func53 (by kernel_rfl) rfl #[.int .i64 a0_0, .int .i64 1, .int .i64 4294967295] rfl (by (try simp only [List.map_toArray, List.map_cons, List.map_nil]); first | done | rfl | (simp only [List.length_drop, List.length_take]; rfl)) ?_; (with_reducible refine (impl_in.calls a0_0 1 4294967295 false _ A4.out).mono ?_); rintro e w' ⟨rfl, ⟨nd, rfl⟩⟩; refine ⟨_, rfl, ?_⟩))
      go_meet
      case rel => exact ⟨_, (true), (by first | rfl | (simp; done) | (simp [*]; done)), H', ⟨by first | omega | exact Nat.le_refl _⟩, ⟨by (with_reducible repeat (first | refine blk_drewN ?_ _ | refine blk_drew ?_ | refine blk_alloc ?_ _)); exact BK225.out⟩, ⟨by repeat (first | (with_reducible first | exact HB.out | apply below_alloc | apply pw_below_drewN | apply below_drew1 | refine below_set ?_ GE225.out) | exact HB.out)⟩⟩
  case rest =>
    clear HC2
    try clear p2
    try clear c3
    try clear c5
    try clear c7
    try clear hcz10_0
    try clear hcz10_1
    try clear hcz10_2
    try clear hcz11_0
    try clear hcz11_1
    try clear hcz11_2
    try clear hcz9_0
    try clear hcz9_1
    try clear hcz9_2
    try clear hfz10_0
    try clear hfz10_1
    try clear hfz10_2
    try clear hfz11_0
    try clear hfz11_1
    try clear hfz11_2
    try clear hfz9_0
    try clear hfz9_1
    try clear hfz9_2
    obtain ⟨kq, x19_1, rfl, HA, HJ1, BK225, HB⟩ := hcut
    cases kq with
    | zero => exact absurd HA.out (by simp [impl_EncodeCommit.j0])
    | succ kj1 =>
      have H := HA.out
      clear HA
      simp only [impl_EncodeCommit.j0] at H
      by_cases c12 : x19_1 = true
      · subst c12
        have H1 : (some ([] : List Int)) = some r := by rw [if_pos rfl] at H; exact H
        clear H
        have H := H1
        clear H1
        obtain rfl := Option.some.inj H
        go_wp2
        go_ret
        exact ⟨_, by first | rfl | (simp [errW_none, errW_some] <;> rfl) | (simp [*, errW_none, errW_some] <;> rfl), by first | exact Kd.R_nil _ _ _ _ _ | exact Kd.N_nil _ _ _ _ _ | exact Kd.V_nil _ _ _ _ _ | exact Kd.Q_nil _ _ _ _ _ | exact Kd.S_nil _ _ _ _ _, by repeat (first | (with_reducible first | exact HB.out | apply below_alloc | apply pw_below_drewN | apply below_drew1 | refine below_set ?_ GE225.out) | exact HB.out)⟩
      · replace c12 := Bool.eq_false_iff.mpr c12
        subst c12
        have H1 : ((impl_head.f kj1 4 a0_1 a0_0).bind fun t229 => ((impl_put.f kj1 t229 12 a0_2 4).bind fun t232 => (some t232))) = some r := by rw [if_neg (show ¬ (false = true) by decide)] at H; exact H
        clear H
        have H := H1
        clear H1
        replace H := Option.bind_eq_some_iff.mp H
        obtain ⟨t229, A130, H⟩ := H
        replace H : ((impl_put.f kj1 t229 12 a0_2 4).bind fun t232 => (some t232)) = some r := H
        have A13 := Aside0.mk A130
        clear A130
        replace H := Option.bind_eq_some_iff.mp H
        obtain ⟨t232, A140, H⟩ := H
        replace H : (some t232) = some r := H
        have A14 := Aside0.mk A140
        clear A140
        obtain rfl := Option.some.inj H
        have hcz15_0 : wc.cell? ⟨gb225, 0, none⟩ = some (.int .i64 a0_0) := (blk_cell BK225.out 0).trans rfl
        have hcz15_1 : wc.cell? ⟨gb225, 1, none⟩ = some (.int .i64 a0_1) := (blk_cell BK225.out 1).trans rfl
        have hcz15_2 : wc.cell? ⟨gb225, 2, none⟩ = some (.int .i64 a0_2) := (blk_cell BK225.out 2).trans rfl
        have hfz15_0 := blk_frozen BK225.out 0
        have hfz15_1 := blk_frozen BK225.out 1
        have hfz15_2 := blk_frozen BK225.out 2
        go_wp2_with (first | ((with_reducible refine gate_callee (f := 54) rfl ?_); refine goesL_ (some 24) rfl rfl Tryd.func54 (by kernel_rfl) rfl #[.int .i64 4, .int .i64 a0_1, .int .i64 a0_0] rfl (by (try simp only [List.map_toArray, List.map_cons, List.map_nil]); first | done | rfl | (simp only [List.length_drop, List.length_take]; rfl)) ?_; (with_reducible refine (impl_head.calls kj1 4 a0_1 a0_0 t229 _ A13.out).mono ?_); rintro e w16 ⟨v230, rfl, ho0, hb⟩; refine ⟨_, rfl, ?_⟩; have n0_ := Aside0.mk (Kd.R_lower ho0 (below_size (by repeat (first | (with_reducible first | exact HB.out | apply below_alloc | apply pw_below_drewN | apply below_drew1 | refine below_set ?_ GE225.out) | exact HB.out)))); have n1_ := Aside0.mk (blk_below (g := gb225) (o := .cells #[.int .i64 a0_0, .int .i64 a0_1, .int .i64 a0_2] 24 (0, 0)) (by (with_reducible repeat (first | refine blk_drewN ?_ _ | refine blk_drew ?_ | refine blk_alloc ?_ _)); exact BK225.out) hb); have n2_ := Aside0.mk (below_step (by repeat (first | (with_reducible first | exact HB.out | apply below_alloc | apply pw_below_drewN | apply below_drew1 | refine below_set ?_ GE225.out) | exact HB.out)) hb); clear BK225; clear HB; have HO231 := n0_; have BK225 := n1_; have HB := n2_; clear n0_ n1_ n2_; (try clear hb); (try clear hb2); (try clear hk); (try clear hi); (try clear ho0); have hcz17_0 : w16.cell? ⟨gb225, 0, none⟩ = some (.int .i64 a0_0) := (blk_cell BK225.out 0).trans rfl; have hcz17_1 : w16.cell? ⟨gb225, 1, none⟩ = some (.int .i64 a0_1) := (blk_cell BK225.out 1).trans rfl; have hcz17_2 : w16.cell? ⟨gb225, 2, none⟩ = some (.int .i64 a0_2) := (blk_cell BK225.out 2).trans rfl; have hfz17_0 := blk_frozen BK225.out 0; have hfz17_1 := blk_frozen BK225.out 1; have hfz17_2 := blk_frozen BK225.out 2; obtain ⟨Ao18, co18, eo18⟩ := Kd.R_slice HO231.out; subst eo18) | ((with_reducible refine gate_callee (f := 55) rfl ?_); refine goesL_ (some 28) rfl rfl Tryd.func55 (by kernel_rfl) rfl #[.slice Ao18 t229.length co18, .int .i64 12, .int .i64 a0_2, .int .i64 4] rfl (by (try simp only [List.map_toArray, List.map_cons, List.map_nil]); first | done | rfl | (simp only [List.length_drop, List.length_take]; rfl)) ?_; (with_reducible refine (impl_put.calls kj1 (fun k_ => some k_ = (.slice Ao18 t229.length co18 : Value).ownBlock) (.slice Ao18 t229.length co18) t229 12 a0_2 4 t232 w _ ?side1 ?side2 A14.out).mono ?_); (case side1 => repeat (first | (with_reducible first | exact HB.out | apply below_alloc | apply pw_below_drewN | apply below_drew1 | refine below_set ?_ GE225.out) | exact HB.out)); (case side2 => exact Kd.R_tight rfl HO231.out); rintro e w19 ⟨rfl, hy0, hb, hkp⟩; refine ⟨_, rfl, ?_⟩; have n0_ := Aside0.mk (blk_kept (by (with_reducible repeat (first | refine blk_drewN ?_ _ | refine blk_drew ?_ | refine blk_alloc ?_ _)); exact BK225.out) hkp (fun hs_ => (fun e_ => (Kd.R_ne HO231.out BK225.out (by decide)) e_) hs_)); have n1_ := Aside0.mk (Kd.R_reok rfl hy0 (fun k_ e_ => HO231.out.1 k_ e_)); have n2_ := Aside0.mk (hb); clear BK225; clear HO231; clear HB; have BK225 := n0_; have HO231 := n1_; have HB := n2_; clear n0_ n1_ n2_; (try clear hb); (try clear hkp); (try clear hy0)))
        go_ret
        exact ⟨_, by first | rfl | (simp [errW_none, errW_some] <;> rfl) | (simp [*, errW_none, errW_some] <;> rfl), by (with_reducible repeat (first | apply Kd.R_alloc | apply Kd.R_drewN | apply Kd.R_drew)); exact HO231.out, by repeat (first | (with_reducible first | exact HB.out | apply below_alloc | apply pw_below_drewN | apply below_drew1 | refine below_set ?_ GE225.out) | exact HB.out)⟩

end Go.Proofs.YticeddapnafomaaDoor.PE
