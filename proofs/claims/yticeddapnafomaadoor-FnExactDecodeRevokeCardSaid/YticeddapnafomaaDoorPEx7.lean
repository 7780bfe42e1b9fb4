-- Written by a program of this session (gprint.py, over the kit's print). Not trusted: Lean checks it.
import Derived.Test.YticeddapnafomaaDoorPEx0
import Derived.Test.YticeddapnafomaaDoorPEx1
import Derived.Test.YticeddapnafomaaDoorPEx2
import Derived.Test.YticeddapnafomaaDoorPEx3
import Derived.Test.YticeddapnafomaaDoorPEx4
import Derived.Test.YticeddapnafomaaDoorDC
namespace Go.Proofs.YticeddapnafomaaDoor.PE
open Go.RowKit Go.Proofs.YticeddapnafomaaDoorW.PrintWords Go.Proofs.YticeddapnafomaaDoorW.PrintLast Go.Proofs.YticeddapnafomaaDoorW.PrintMore
attribute [local go_sem] max2_int min2_int max_two min_two max_three min_three max_four min_four   -- for this text's walks alone
set_option linter.unusedVariables false
set_option linter.unusedSimpArgs false
def laws_eqByteS.l0 : Nat → List Int → List Int → Int → Option (Bool)
  | 0, _, _, _ => none
  | k + 1, x0, x1, x5 => if x5 < (x0.length : Int) then (if 0 ≤ x5 then (if x5 < (x1.length : Int) then (if (rd x0 x5) = (rd x1 x5) then (laws_eqByteS.l0 k x0 x1 (wrap64 (x5 + 1))) else (some false)) else (none)) else (none)) else (some true)
def laws_eqByteS.f (k : Nat) (l0 : List Int) (l1 : List Int) : Option (Bool) := if (l0.length : Int) = (l1.length : Int) then (laws_eqByteS.l0 k l0 l1 0) else (some false)
theorem laws_eqByteS.mono_l : ∀ k, (∀ y0 y1 y2, LeO (laws_eqByteS.l0 k y0 y1 y2) (laws_eqByteS.l0 (k + 1) y0 y1 y2))
  | 0 => fun _ _ _ r h => by simp [laws_eqByteS.l0] at h
  | k + 1 => by
    have ih0 := laws_eqByteS.mono_l k
    · intro y0 y1 y2
      unfold laws_eqByteS.l0
      repeat' first
      | (with_reducible exact ih0 _ _ _)
      | (with_reducible exact LeO.refl _)
      | (with_reducible exact LeO.none _)
      | (with_reducible refine LeO.ite ?_ ?_)
      | (with_reducible refine LeO.bind ?_ (fun _ => ?_))
      | exact ih0 _ _ _
      | exact LeO.none _
      | refine LeO.ite ?_ ?_
      | refine LeO.bind ?_ (fun _ => ?_)
theorem laws_eqByteS.mono : ∀ a0 a1 k, LeO (laws_eqByteS.f k a0 a1) (laws_eqByteS.f (k + 1) a0 a1) := by
  intro a0 a1 k
  have ih0 := laws_eqByteS.mono_l k
  unfold laws_eqByteS.f
  repeat' first
      | (with_reducible exact ih0 _ _ _)
      | (with_reducible exact LeO.refl _)
      | (with_reducible exact LeO.none _)
      | (with_reducible refine LeO.ite ?_ ?_)
      | (with_reducible refine LeO.bind ?_ (fun _ => ?_))
      | exact ih0 _ _ _
      | exact LeO.none _
      | refine LeO.ite ?_ ?_
      | refine LeO.bind ?_ (fun _ => ?_)
set_option maxHeartbeats 8000000 in
set_option maxRecDepth 100000 in
theorem laws_eqByteS.calls (k : Nat) (A0 : Option Addr) (c0 : Nat) (l0 : List Int) (A1 : Option Addr) (c1 : Nat) (l1 : List Int) (r : Bool) (w : World) (hr0 : Kd.C (Kd.int .u8) w A0 l0.length l0) (hc0 : l0.length ≤ c0) (hr1 : Kd.C (Kd.int .u8) w A1 l1.length l1) (hc1 : l1.length ≤ c1) (h : laws_eqByteS.f k l0 l1 = some r) :
    Calls Tryd.prog 10 #[.slice A0 l0.length c0, .slice A1 l1.length c1] w fun e w' => e = .returned (.bool r) ∧ Drawn0 w w' := by
  have HR0 := Aside0.mk hr0
  have HC0 := Aside0.mk hc0
  clear hr0 hc0
  have HR1 := Aside0.mk hr1
  have HC1 := Aside0.mk hc1
  clear hr1 hc1
  have H : (if (l0.length : Int) = (l1.length : Int) then (laws_eqByteS.l0 k l0 l1 0) else (some false)) = some r := h
  clear h
  by_cases c3 : (l0.length : Int) = (l1.length : Int)
  · rw [if_pos c3] at H
    have c3b0 : ((l0.length : Int) == (l1.length : Int)) = true := beq_iff_eq.mpr c3
    have c3b1 : ((l0.length : Int) != (l1.length : Int)) = false := bne_eq_false_iff_eq.mpr c3
    have c3b2 : (l0.length == l1.length) = true := by first | simpa using c3 | (simp at c3 ⊢; omega)
    clear c3
    have H' := Aside0.mk H
    clear H
    go_enter Tryd.func10, Tryd.ntmps10
    go_wp2
    repeat (go_quiet (fail); try go_wp2)
    go_loopg [5] k (fun kq v5 w' => ∃ (x5_1 : Int), v5 = .int .i64 x5_1 ∧ Aside0 (laws_eqByteS.l0 kq l0 l1 x5_1 = some r) ∧ Aside0 (kq ≤ k) ∧ Drawn0 w w')
    case atStart => exact ⟨(0), (by first | rfl | (simp; done) | (simp [*]; done)), H', ⟨Nat.le_refl _⟩, by repeat (first | exact Drawn0.refl _ | apply Drawn0.step)⟩
    case round =>
      clear H'
      try clear c1
      try clear p2
      try clear c3
      try clear c3b0
      try clear c3b1
      try clear c3b2
      obtain ⟨x5_1, rfl, HA, HK1, ⟨m1, rfl⟩⟩ := hrel
      cases gk with
      | zero => exact absurd HA.out (by simp [laws_eqByteS.l0])
      | succ k1 =>
        have H := HA.out
        clear HA
        simp only [laws_eqByteS.l0] at H
        by_cases c4 : x5_1 < (l0.length : Int)
        · rw [if_pos c4] at H
          have c4b0 : decide (x5_1 < (l0.length : Int)) = true := decide_eq_true c4
          clear c4
          by_cases c5 : 0 ≤ x5_1
          · rw [if_pos c5] at H
            have c5b0 : decide (0 ≤ x5_1) = true := decide_eq_true c5
            clear c5
            by_cases c6 : x5_1 < (l1.length : Int)
            · rw [if_pos c6] at H
              have c6b0 : decide (x5_1 < (l1.length : Int)) = true := decide_eq_true c6
              clear c6
              by_cases c7 : (rd l0 x5_1) = (rd l1 x5_1)
              · rw [if_pos c7] at H
                have c7b0 : ((rd l0 x5_1) == (rd l1 x5_1)) = true := beq_iff_eq.mpr c7
                have c7b1 : ((rd l0 x5_1) != (rd l1 x5_1)) = false := bne_eq_false_iff_eq.mpr c7
                clear c7
                have H' := Aside0.mk H
                clear H
                have p238 : 0 ≤ (x5_1 : Int) := of_decide_eq_true (by first | (with_reducible assumption) | assumption)
                have q238 : x5_1 < (l0.length : Int) := of_decide_eq_true (by first | (with_reducible assumption) | assumption)
                obtain ⟨ad238, e238, hx238_0⟩ := Kd.at_int HR0.out x5_1 p238 q238
                cases e238
                replace p238 := eq_true p238
                replace q238 := eq_true q238
                have p239 : 0 ≤ (x5_1 : Int) := of_decide_eq_true (by first | (with_reducible assumption) | assumption)
                have q239 : x5_1 < (l1.length : Int) := of_decide_eq_true (by first | (with_reducible assumption) | assumption)
                obtain ⟨ad239, e239, hx239_0⟩ := Kd.at_int HR1.out x5_1 p239 q239
                cases e239
                replace p239 := eq_true p239
                replace q239 := eq_true q239
                go_wp2
                repeat (go_quiet (fail); try go_wp2)
                go_roundg k1
                case measure => have := HK1.out; omega
                case rel => exact ⟨(wrap64 (x5_1 + 1)), (by first | rfl | (simp; done) | (simp [*]; done)), H', ⟨by have := HK1.out; omega⟩, by repeat (first | exact Drawn0.refl _ | apply Drawn0.step)⟩
              · rw [if_neg c7] at H
                have c7b0 : ((rd l0 x5_1) == (rd l1 x5_1)) = false := beq_eq_false_iff_ne.mpr c7
                have c7b1 : ((rd l0 x5_1) != (rd l1 x5_1)) = true := bne_iff_ne.mpr c7
                obtain rfl := Option.some.inj H
                have p238 : 0 ≤ (x5_1 : Int) := of_decide_eq_true (by first | (with_reducible assumption) | assumption)
                have q238 : x5_1 < (l0.length : Int) := of_decide_eq_true (by first | (with_reducible assumption) | assumption)
                obtain ⟨ad238, e238, hx238_0⟩ := Kd.at_int HR0.out x5_1 p238 q238
                cases e238
                replace p238 := eq_true p238
                replace q238 := eq_true q238
                have p239 : 0 ≤ (x5_1 : Int) := of_decide_eq_true (by first | (with_reducible assumption) | assumption)
                have q239 : x5_1 < (l1.length : Int) := of_decide_eq_true (by first | (with_reducible assumption) | assumption)
                obtain ⟨ad239, e239, hx239_0⟩ := Kd.at_int HR1.out x5_1 p239 q239
                cases e239
                replace p239 := eq_true p239
                replace q239 := eq_true q239
                go_wp2
                repeat (go_quiet (fail); try go_wp2)
                go_ret
                exact ⟨by first | rfl | (simp; done) | (simp [*]; done), by repeat (first | exact Drawn0.refl _ | apply Drawn0.step)⟩
            · rw [if_neg c6] at H
              exact absurd H (by simp)
          · rw [if_neg c5] at H
            exact absurd H (by simp)
        · rw [if_neg c4] at H
          have c4b0 : decide (x5_1 < (l0.length : Int)) = false := decide_eq_false c4
          clear c4
          obtain rfl := Option.some.inj H
          go_wp2
          repeat (go_quiet (fail); try go_wp2)
          go_ret
          exact ⟨by first | rfl | (simp; done) | (simp [*]; done), by repeat (first | exact Drawn0.refl _ | apply Drawn0.step)⟩
  · rw [if_neg c3] at H
    have c3b0 : ((l0.length : Int) == (l1.length : Int)) = false := beq_eq_false_iff_ne.mpr c3
    have c3b1 : ((l0.length : Int) != (l1.length : Int)) = true := bne_iff_ne.mpr c3
    have c3b2 : (l0.length == l1.length) = false := by first | simpa using c3 | (simp at c3 ⊢; omega)
    obtain rfl := Option.some.inj H
    go_enter Tryd.func10, Tryd.ntmps10
    go_wp2
    repeat (go_quiet (fail); try go_wp2)
    go_ret
    exact ⟨by first | rfl | (simp; done) | (simp [*]; done), by repeat (first | exact Drawn0.refl _ | apply Drawn0.step)⟩
def spec_l3GoodBlock.f (a0 : Int) : Option (Bool) := if a0 ≥ 0 then (some (decide (a0 < 2048))) else (some false)
set_option maxHeartbeats 8000000 in
set_option maxRecDepth 100000 in
theorem spec_l3GoodBlock.calls (a0 : Int) (r : Bool) (w : World) (h : spec_l3GoodBlock.f a0 = some r) :
    Calls Tryd.prog 56 #[.int .i64 a0] w fun e w' => e = .returned (.bool r) ∧ Drawn0 w w' := by
  have H : (if a0 ≥ 0 then (some (decide (a0 < 2048))) else (some false)) = some r := h
  clear h
  by_cases c2 : a0 ≥ 0
  · rw [if_pos c2] at H
    have c2b0 : decide (0 ≤ a0) = true := decide_eq_true c2
    clear c2
    obtain rfl := Option.some.inj H
    go_enter Tryd.func56, Tryd.ntmps56
    go_wp2
    go_ret
    exact ⟨by first | rfl | (simp; done) | (simp [*]; done), by repeat (first | exact Drawn0.refl _ | apply Drawn0.step)⟩
  · rw [if_neg c2] at H
    have c2b0 : decide (0 ≤ a0) = false := decide_eq_false c2
    clear c2
    obtain rfl := Option.some.inj H
    go_enter Tryd.func56, Tryd.ntmps56
    go_wp2
    go_ret
    exact ⟨by first | rfl | (simp; done) | (simp [*]; done), by repeat (first | exact Drawn0.refl _ | apply Drawn0.step)⟩
mutual
def spec_EncodeRevoke.j0 : Nat → Int → Bool → Int → List Int → Option (List Int)
  | 0, _, _, _, _ => none
  | k + 1, x3, x23, x262000, x262001 => if x23 = true then (some (([] : List Int))) else ((spec_l3Head.f k 3 x3 x262000).bind fun t266 => (spec_EncodeRevoke.l0 k x3 t266 0 x262000 x262001))
def spec_EncodeRevoke.l0 : Nat → Int → List Int → Int → Int → List Int → Option (List Int)
  | 0, _, _, _, _, _ => none
  | k + 1, x3, x5, x6, x262000, x262001 => if x6 < x3 then (if 0 ≤ x6 then (if x6 < (x262001.length : Int) then ((spec_l3GoodBlock.f (rd x262001 x6)).bind fun t273 => (if t273 = true then (if x6 > 0 then (if 0 ≤ (wrap64 (x6 - 1)) then (if (wrap64 (x6 - 1)) < (x262001.length : Int) then (if (rd x262001 (wrap64 (x6 - 1))) ≥ (rd x262001 x6) then (some (([] : List Int))) else ((spec_PutNumber.f k (rd x262001 x6) 2).bind fun t280 => (if x5.length + t280.length < 140737488355328 then (spec_EncodeRevoke.l0 k x3 (x5 ++ t280) (wrap64 (x6 + 1)) x262000 x262001) else (none)))) else (none)) else (none)) else ((spec_PutNumber.f k (rd x262001 x6) 2).bind fun t287 => (if x5.length + t287.length < 140737488355328 then (spec_EncodeRevoke.l0 k x3 (x5 ++ t287) (wrap64 (x6 + 1)) x262000 x262001) else (none)))) else (some (([] : List Int))))) else (none)) else (none)) else ((spec_l3Pad.f x5).bind fun t269 => (some t269))
end
def spec_EncodeRevoke.f (k : Nat) (a0_0 : Int) (l0_1 : List Int) : Option (List Int) := (spec_l3GoodSeq.f a0_0).bind fun t262 => (if t262 = true then (if (l0_1.length : Int) < 1 then (spec_EncodeRevoke.j0 k (l0_1.length : Int) true a0_0 l0_1) else (spec_EncodeRevoke.j0 k (l0_1.length : Int) (decide ((l0_1.length : Int) > 26)) a0_0 l0_1)) else (spec_EncodeRevoke.j0 k (l0_1.length : Int) true a0_0 l0_1))
theorem spec_EncodeRevoke.mono_l : ∀ k, (∀ y0 y1 y2 y3, LeO (spec_EncodeRevoke.j0 k y0 y1 y2 y3) (spec_EncodeRevoke.j0 (k + 1) y0 y1 y2 y3)) ∧ (∀ y0 y1 y2 y3 y4, LeO (spec_EncodeRevoke.l0 k y0 y1 y2 y3 y4) (spec_EncodeRevoke.l0 (k + 1) y0 y1 y2 y3 y4))
  | 0 => ⟨fun _ _ _ _ r h => by simp [spec_EncodeRevoke.j0] at h, fun _ _ _ _ _ r h => by simp [spec_EncodeRevoke.l0] at h⟩
  | k + 1 => by
    obtain ⟨ih0, ih1⟩ := spec_EncodeRevoke.mono_l k
    refine ⟨?_, ?_⟩
    · intro y0 y1 y2 y3
      unfold spec_EncodeRevoke.j0
      repeat' first
      | (with_reducible exact ih0 _ _ _ _)
      | (with_reducible exact ih1 _ _ _ _ _)
      | (with_reducible exact spec_PutNumber.mono _ _ _)
      | (with_reducible exact spec_l3Head.mono _ _ _ _)
      | (with_reducible exact LeO.refl _)
      | (with_reducible exact LeO.none _)
      | (with_reducible refine LeO.ite ?_ ?_)
      | (with_reducible refine LeO.bind ?_ (fun _ => ?_))
      | exact ih0 _ _ _ _
      | exact ih1 _ _ _ _ _
      | exact spec_PutNumber.mono _ _ _
      | exact spec_l3Head.mono _ _ _ _
      | exact LeO.none _
      | refine LeO.ite ?_ ?_
      | refine LeO.bind ?_ (fun _ => ?_)
    · intro y0 y1 y2 y3 y4
      unfold spec_EncodeRevoke.l0
      repeat' first
      | (with_reducible exact ih0 _ _ _ _)
      | (with_reducible exact ih1 _ _ _ _ _)
      | (with_reducible exact spec_PutNumber.mono _ _ _)
      | (with_reducible exact spec_l3Head.mono _ _ _ _)
      | (with_reducible exact LeO.refl _)
      | (with_reducible exact LeO.none _)
      | (with_reducible refine LeO.ite ?_ ?_)
      | (with_reducible refine LeO.bind ?_ (fun _ => ?_))
      | exact ih0 _ _ _ _
      | exact ih1 _ _ _ _ _
      | exact spec_PutNumber.mono _ _ _
      | exact spec_l3Head.mono _ _ _ _
      | exact LeO.none _
      | refine LeO.ite ?_ ?_
      | refine LeO.bind ?_ (fun _ => ?_)
theorem spec_EncodeRevoke.mono : ∀ a0 a1 k, LeO (spec_EncodeRevoke.f k a0 a1) (spec_EncodeRevoke.f (k + 1) a0 a1) := by
  intro a0 a1 k
  obtain ⟨ih0, ih1⟩ := spec_EncodeRevoke.mono_l k
  unfold spec_EncodeRevoke.f
  repeat' first
      | (with_reducible exact ih0 _ _ _ _)
      | (with_reducible exact ih1 _ _ _ _ _)
      | (with_reducible exact spec_PutNumber.mono _ _ _)
      | (with_reducible exact spec_l3Head.mono _ _ _ _)
      | (with_reducible exact LeO.refl _)
      | (with_reducible exact LeO.none _)
      | (with_reducible refine LeO.ite ?_ ?_)
      | (with_reducible refine LeO.bind ?_ (fun _ => ?_))
      | exact ih0 _ _ _ _
      | exact ih1 _ _ _ _ _
      | exact spec_PutNumber.mono _ _ _
      | exact spec_l3Head.mono _ _ _ _
      | exact LeO.none _
      | refine LeO.ite ?_ ?_
      | refine LeO.bind ?_ (fun _ => ?_)
set_option maxHeartbeats 8000000 in
set_option maxRecDepth 100000 in
theorem spec_EncodeRevoke.calls (k : Nat) (a0_0 : Int) (A0_1 : Option Addr) (c0_1 : Nat) (l0_1 : List Int) (r : List Int) (w : World) (hr0_1 : Kd.C (Kd.int .i64) w A0_1 l0_1.length l0_1) (hc0_1 : l0_1.length ≤ c0_1) (h : spec_EncodeRevoke.f k a0_0 l0_1 = some r) :
    Calls Tryd.prog 32 #[.agg #[.int .i64 a0_0, .slice A0_1 l0_1.length c0_1]] w fun e w' => ∃ v0_ : Value, e = .returned (v0_) ∧ Kd.R (Kd.int .u8) 5 w' w.heap.size (fun _ => True) v0_ r ∧ Below w.heap.size w w' := by
  have hu34 := Tryd.underlying34
  have HR0_1 := Aside0.mk hr0_1
  have HC0_1 := Aside0.mk hc0_1
  clear hr0_1 hc0_1
  have HB := Aside0.mk (Below.refl w.heap.size w)
  have H : ((spec_l3GoodSeq.f a0_0).bind fun t262 => (if t262 = true then (if (l0_1.length : Int) < 1 then (spec_EncodeRevoke.j0 k (l0_1.length : Int) true a0_0 l0_1) else (spec_EncodeRevoke.j0 k (l0_1.length : Int) (decide ((l0_1.length : Int) > 26)) a0_0 l0_1)) else (spec_EncodeRevoke.j0 k (l0_1.length : Int) true a0_0 l0_1))) = some r := h
  clear h
  replace H := Option.bind_eq_some_iff.mp H
  obtain ⟨t262, A20, H⟩ := H
  replace H : (if t262 = true then (if (l0_1.length : Int) < 1 then (spec_EncodeRevoke.j0 k (l0_1.length : Int) true a0_0 l0_1) else (spec_EncodeRevoke.j0 k (l0_1.length : Int) (decide ((l0_1.length : Int) > 26)) a0_0 l0_1)) else (spec_EncodeRevoke.j0 k (l0_1.length : Int) true a0_0 l0_1)) = some r := H
  have A2 := Aside0.mk A20
  clear A20
  have HC3 := Aside0.mk H
  clear H
  go_enter Tryd.func32, Tryd.ntmps32
  go_upto_region 3 with (first | ((with_reducible refine gate_dst (N := 1) rfl ?_); refine box_event ?hg (N := 1) ?hd (cs := #[.int .i64 a0_0, .slice A0_1 l0_1.length c0_1]) (t := 34) ?hr ?_; (case hd => rfl); (case hg => rfl); (case hr => first | (go_simp; done) | (go_simp; rfl)); intro gb261 hg w4 hbox hb; have n0_ := Aside0.mk (below_step (by repeat (first | (with_reducible first | exact HB.out | apply below_alloc | apply pw_below_drewN | apply below_drew1) | exact HB.out)) hb); have n1_ := Aside0.mk (hbox); have n2_ := Aside0.mk ((by rw [hg]; exact (below_size (by repeat (first | (with_reducible first | exact HB.out | apply below_alloc | apply pw_below_drewN | apply below_drew1) | exact HB.out))) : w.heap.size ≤ gb261)); have n3_ := Aside0.mk ((by rw [hg]; exact (below_size (by repeat (first | (with_reducible first | exact HB.out | apply below_alloc | apply pw_below_drewN | apply below_drew1) | exact HB.out))) : w.heap.size ≤ gb261)); clear HB; have HB := n0_; have BK261 := n1_; have GW261 := n2_; have GE261 := n3_; clear n0_ n1_ n2_ n3_; clear hb hbox hg; have hcz5_0 : w4.cell? ⟨gb261, 0, none⟩ = some (.int .i64 a0_0) := (blk_cell BK261.out 0).trans rfl; have hcz5_1 : w4.cell? ⟨gb261, 1, none⟩ = some (.slice A0_1 l0_1.length c0_1) := (blk_cell BK261.out 1).trans rfl; have hfz5_0 := blk_frozen BK261.out 0; have hfz5_1 := blk_frozen BK261.out 1) | (go_at_call 43; (with_reducible refine (spec_l3GoodSeq.calls a0_0 t262 _ A2.out).mono ?_); rintro e w' ⟨rfl, ⟨nd, rfl⟩⟩; (try first | exact ⟨rfl, _, World.drewN_drewN _ _ _⟩ | exact ⟨rfl, _, Eq.trans (World.drewN_drewN _ _ _) (congrArg (World.drewN _) (Nat.add_assoc _ _ _))⟩)))
  repeat (go_quiet (first | ((with_reducible refine gate_dst (N := 1) rfl ?_); refine box_event ?hg (N := 1) ?hd (cs := #[.int .i64 a0_0, .slice A0_1 l0_1.length c0_1]) (t := 34) ?hr ?_; (case hd => rfl); (case hg => rfl); (case hr => first | (go_simp; done) | (go_simp; rfl)); intro gb261 hg w4 hbox hb; have n0_ := Aside0.mk (below_step (by repeat (first | (with_reducible first | exact HB.out | apply below_alloc | apply pw_below_drewN | apply below_drew1) | exact HB.out)) hb); have n1_ := Aside0.mk (hbox); have n2_ := Aside0.mk ((by rw [hg]; exact (below_size (by repeat (first | (with_reducible first | exact HB.out | apply below_alloc | apply pw_below_drewN | apply below_drew1) | exact HB.out))) : w.heap.size ≤ gb261)); have n3_ := Aside0.mk ((by rw [hg]; exact (below_size (by repeat (first | (with_reducible first | exact HB.out | apply below_alloc | apply pw_below_drewN | apply below_drew1) | exact HB.out))) : w.heap.size ≤ gb261)); clear HB; have HB := n0_; have BK261 := n1_; have GW261 := n2_; have GE261 := n3_; clear n0_ n1_ n2_ n3_; clear hb hbox hg; have hcz5_0 : w4.cell? ⟨gb261, 0, none⟩ = some (.int .i64 a0_0) := (blk_cell BK261.out 0).trans rfl; have hcz5_1 : w4.cell? ⟨gb261, 1, none⟩ = some (.slice A0_1 l0_1.length c0_1) := (blk_cell BK261.out 1).trans rfl; have hfz5_0 := blk_frozen BK261.out 0; have hfz5_1 := blk_frozen BK261.out 1) | (go_at_call 43; (with_reducible refine (spec_l3GoodSeq.calls a0_0 t262 _ A2.out).mono ?_); rintro e w' ⟨rfl, ⟨nd, rfl⟩⟩; (try first | exact ⟨rfl, _, World.drewN_drewN _ _ _⟩ | exact ⟨rfl, _, Eq.trans (World.drewN_drewN _ _ _) (congrArg (World.drewN _) (Nat.add_assoc _ _ _))⟩))); go_upto_region 3 with (first | ((with_reducible refine gate_dst (N := 1) rfl ?_); refine box_event ?hg (N := 1) ?hd (cs := #[.int .i64 a0_0, .slice A0_1 l0_1.length c0_1]) (t := 34) ?hr ?_; (case hd => rfl); (case hg => rfl); (case hr => first | (go_simp; done) | (go_simp; rfl)); intro gb261 hg w4 hbox hb; have n0_ := Aside0.mk (below_step (by repeat (first | (with_reducible first | exact HB.out | apply below_alloc | apply pw_below_drewN | apply below_drew1) | exact HB.out)) hb); have n1_ := Aside0.mk (hbox); have n2_ := Aside0.mk ((by rw [hg]; exact (below_size (by repeat (first | (with_reducible first | exact HB.out | apply below_alloc | apply pw_below_drewN | apply below_drew1) | exact HB.out))) : w.heap.size ≤ gb261)); have n3_ := Aside0.mk ((by rw [hg]; exact (below_size (by repeat (first | (with_reducible first | exact HB.out | apply below_alloc | apply pw_below_drewN | apply below_drew1) | exact HB.out))) : w.heap.size ≤ gb261)); clear HB; have HB := n0_; have BK261 := n1_; have GW261 := n2_; have GE261 := n3_; clear n0_ n1_ n2_ n3_; clear hb hbox hg; have hcz5_0 : w4.cell? ⟨gb261, 0, none⟩ = some (.int .i64 a0_0) := (blk_cell BK261.out 0).trans rfl; have hcz5_1 : w4.cell? ⟨gb261, 1, none⟩ = some (.slice A0_1 l0_1.length c0_1) := (blk_cell BK261.out 1).trans rfl; have hfz5_0 := blk_frozen BK261.out 0; have hfz5_1 := blk_frozen BK261.out 1) | (go_at_call 43; (with_reducible refine (spec_l3GoodSeq.calls a0_0 t262 _ A2.out).mono ?_); rintro e w' ⟨rfl, ⟨nd, rfl⟩⟩; (try first | exact ⟨rfl, _, World.drewN_drewN _ _ _⟩ | exact ⟨rfl, _, Eq.trans (World.drewN_drewN _ _ _) (congrArg (World.drewN _) (Nat.add_assoc _ _ _))⟩))))
  (try simp only [Act.put, List.setIfInBounds_toArray, List.set_cons_zero, List.set_cons_succ])
  go_cut [23] (fun v23 wc => ∃ (kq : Nat) (x23_2 : Bool), v23 = .bool x23_2 ∧ Aside0 (spec_EncodeRevoke.j0 kq (l0_1.length : Int) x23_2 a0_0 l0_1 = some r) ∧ Aside0 (kq ≤ k) ∧ Aside0 (wc.heap[gb261]? = some (.cells #[.int .i64 a0_0, (.slice A0_1 l0_1.length c0_1)] 34 (0, 0))) ∧ Aside0 (Below w.heap.size w wc))
  case first =>
    have H := HC3.out
    clear HC3
    by_cases c6 : t262 = true
    · subst c6
      have H1 : (if (l0_1.length : Int) < 1 then (spec_EncodeRevoke.j0 k (l0_1.length : Int) true a0_0 l0_1) else (spec_EncodeRevoke.j0 k (l0_1.length : Int) (decide ((l0_1.length : Int) > 26)) a0_0 l0_1)) = some r := by rw [if_pos rfl] at H; exact H
      clear H
      have H := H1
      clear H1
      by_cases c7 : (l0_1.length : Int) < 1
      · rw [if_pos c7] at H
        have c7b0 : decide ((l0_1.length : Int) < 1) = true := decide_eq_true c7
        have c7b1 : decide (l0_1.length < 1) = true := decide_eq_true (by omega)
        clear c7
        (first | rw [c7b0] | (simp only [i64_w, i32_w]; rw [c7b0]) | skip)
        have H' := Aside0.mk H
        clear H
        go_wp2
        repeat (go_quiet (fail); try go_wp2)
        go_meet
        case rel => exact ⟨_, (true), (by first | rfl | (simp; done) | (simp [*]; done)), H', ⟨by first | omega | exact Nat.le_refl _⟩, ⟨by (with_reducible repeat (first | refine blk_drewN ?_ _ | refine blk_drew ?_ | refine blk_alloc ?_ _)); exact BK261.out⟩, ⟨by repeat (first | (with_reducible first | exact HB.out | apply below_alloc | apply pw_below_drewN | apply below_drew1 | refine below_set ?_ GE261.out) | exact HB.out)⟩⟩
      · rw [if_neg c7] at H
        have c7b0 : decide ((l0_1.length : Int) < 1) = false := decide_eq_false c7
        have c7b1 : decide (l0_1.length < 1) = false := decide_eq_false (by omega)
        clear c7
        (first | rw [c7b0] | (simp only [i64_w, i32_w]; rw [c7b0]) | skip)
        have H' := Aside0.mk H
        clear H
        go_wp2
        repeat (go_quiet (fail); try go_wp2)
        go_meet
        case rel => exact ⟨_, (decide ((l0_1.length : Int) > 26)), (by first | rfl | (simp; done) | (simp [*]; done)), H', ⟨by first | omega | exact Nat.le_refl _⟩, ⟨by (with_reducible repeat (first | refine blk_drewN ?_ _ | refine blk_drew ?_ | refine blk_alloc ?_ _)); exact BK261.out⟩, ⟨by repeat (first | (with_reducible first | exact HB.out | apply below_alloc | apply pw_below_drewN | apply below_drew1 | refine below_set ?_ GE261.out) | exact HB.out)⟩⟩
    · replace c6 := Bool.eq_false_iff.mpr c6
      subst c6
      have H1 : (spec_EncodeRevoke.j0 k (l0_1.length : Int) true a0_0 l0_1) = some r := by rw [if_neg (show ¬ (false = true) by decide)] at H; exact H
      clear H
      have H := H1
      clear H1
      have H' := Aside0.mk H
      clear H
      go_wp2
      repeat (go_quiet (fail); try go_wp2)
      go_meet
      case rel => exact ⟨_, (true), (by first | rfl | (simp; done) | (simp [*]; done)), H', ⟨by first | omega | exact Nat.le_refl _⟩, ⟨by (with_reducible repeat (first | refine blk_drewN ?_ _ | refine blk_drew ?_ | refine blk_alloc ?_ _)); exact BK261.out⟩, ⟨by repeat (first | (with_reducible first | exact HB.out | apply below_alloc | apply pw_below_drewN | apply below_drew1 | refine below_set ?_ GE261.out) | exact HB.out)⟩⟩
  case rest =>
    clear HC3
    try clear p2
    try clear c3
    try clear c6
    try clear c7
    try clear c7b0
    try clear c7b1
    try clear hcz5_0
    try clear hcz5_1
    try clear hfz5_0
    try clear hfz5_1
    obtain ⟨kq, x23_2, rfl, HA, HJ2, BK261, HB⟩ := hcut
    cases kq with
    | zero => exact absurd HA.out (by simp [spec_EncodeRevoke.j0])
    | succ kj2 =>
      have H := HA.out
      clear HA
      simp only [spec_EncodeRevoke.j0] at H
      by_cases c8 : x23_2 = true
      · subst c8
        have H1 : (some (([] : List Int))) = some r := by rw [if_pos rfl] at H; exact H
        clear H
        have H := H1
        clear H1
        obtain ⟨y263, hy263⟩ : ∃ y_ : List Int, y_ = (([] : List Int)) := ⟨_, rfl⟩
        replace H : (some y263) = some r := by first | (rw [hy263]; with_reducible exact H) | (have H2_ := (Option.bind_some _ _).symm.trans H; rw [hy263]; with_reducible exact H2_) | (have H2_ := (Option.bind_some _ _).symm.trans H; with_reducible exact H2_) | with_reducible exact H | (rw [hy263]; exact H) | exact H
        have Ny263 := Aside0.mk hy263
        clear hy263
        obtain rfl := Option.some.inj H
        go_wp2_with (first | ((with_reducible refine gate_dst (N := 24) rfl ?_); refine Kd.R_lit (Kd.int .u8) _ 5 ?hg (N := 24) ?hd (xs := ([] : List Int)) (inner := []) (ok := fun _ => True) (okp := fun _ => True) ?hr ?hp (fun _ hk => hk) trivial (Below.refl _ _) (Nat.le_refl _) (by simp) ?_; (case hd => rfl); (case hg => rfl); (case hr => first | (go_simp; done) | (go_simp; rfl)); (case hp => exact (Reps.none _ _)); intro v264 w9 ho10 hb hg_ hnew_; clear hg_ hnew_; (first | rw [← Ny263.out] at ho10 | (simp only [Int.reduceToNat] at ho10; rw [← Ny263.out] at ho10)); have n0_ := Aside0.mk (Kd.R_lower ho10 (below_size (by repeat (first | (with_reducible first | exact HB.out | apply below_alloc | apply pw_below_drewN | apply below_drew1 | refine below_set ?_ GE261.out) | exact HB.out)))); have n1_ := Aside0.mk (blk_below (g := gb261) (o := .cells #[.int .i64 a0_0, .slice A0_1 l0_1.length c0_1] 34 (0, 0)) (by (with_reducible repeat (first | refine blk_drewN ?_ _ | refine blk_drew ?_ | refine blk_alloc ?_ _)); exact BK261.out) hb); have n2_ := Aside0.mk (below_step (by repeat (first | (with_reducible first | exact HB.out | apply below_alloc | apply pw_below_drewN | apply below_drew1 | refine below_set ?_ GE261.out) | exact HB.out)) hb); clear BK261; clear HB; have HO265 := n0_; have BK261 := n1_; have HB := n2_; clear n0_ n1_ n2_; clear hb ho10))
        repeat (go_quiet (first | ((with_reducible refine gate_dst (N := 24) rfl ?_); refine Kd.R_lit (Kd.int .u8) _ 5 ?hg (N := 24) ?hd (xs := ([] : List Int)) (inner := []) (ok := fun _ => True) (okp := fun _ => True) ?hr ?hp (fun _ hk => hk) trivial (Below.refl _ _) (Nat.le_refl _) (by simp) ?_; (case hd => rfl); (case hg => rfl); (case hr => first | (go_simp; done) | (go_simp; rfl)); (case hp => exact (Reps.none _ _)); intro v264 w9 ho10 hb hg_ hnew_; clear hg_ hnew_; (first | rw [← Ny263.out] at ho10 | (simp only [Int.reduceToNat] at ho10; rw [← Ny263.out] at ho10)); have n0_ := Aside0.mk (Kd.R_lower ho10 (below_size (by repeat (first | (with_reducible first | exact HB.out | apply below_alloc | apply pw_below_drewN | apply below_drew1 | refine below_set ?_ GE261.out) | exact HB.out)))); have n1_ := Aside0.mk (blk_below (g := gb261) (o := .cells #[.int .i64 a0_0, .slice A0_1 l0_1.length c0_1] 34 (0, 0)) (by (with_reducible repeat (first | refine blk_drewN ?_ _ | refine blk_drew ?_ | refine blk_alloc ?_ _)); exact BK261.out) hb); have n2_ := Aside0.mk (below_step (by repeat (first | (with_reducible first | exact HB.out | apply below_alloc | apply pw_below_drewN | apply below_drew1 | refine below_set ?_ GE261.out) | exact HB.out)) hb); clear BK261; clear HB; have HO265 := n0_; have BK261 := n1_; have HB := n2_; clear n0_ n1_ n2_; clear hb ho10)); try go_wp2_with (first | ((with_reducible refine gate_dst (N := 24) rfl ?_); refine Kd.R_lit (Kd.int .u8) _ 5 ?hg (N := 24) ?hd (xs := ([] : List Int)) (inner := []) (ok := fun _ => True) (okp := fun _ => True) ?hr ?hp (fun _ hk => hk) trivial (Below.refl _ _) (Nat.le_refl _) (by simp) ?_; (case hd => rfl); (case hg => rfl); (case hr => first | (go_simp; done) | (go_simp; rfl)); (case hp => exact (Reps.none _ _)); intro v264 w9 ho10 hb hg_ hnew_; clear hg_ hnew_; (first | rw [← Ny263.out] at ho10 | (simp only [Int.reduceToNat] at ho10; rw [← Ny263.out] at ho10)); have n0_ := Aside0.mk (Kd.R_lower ho10 (below_size (by repeat (first | (with_reducible first | exact HB.out | apply below_alloc | apply pw_below_drewN | apply below_drew1 | refine below_set ?_ GE261.out) | exact HB.out)))); have n1_ := Aside0.mk (blk_below (g := gb261) (o := .cells #[.int .i64 a0_0, .slice A0_1 l0_1.length c0_1] 34 (0, 0)) (by (with_reducible repeat (first | refine blk_drewN ?_ _ | refine blk_drew ?_ | refine blk_alloc ?_ _)); exact BK261.out) hb); have n2_ := Aside0.mk (below_step (by repeat (first | (with_reducible first | exact HB.out | apply below_alloc | apply pw_below_drewN | apply below_drew1 | refine below_set ?_ GE261.out) | exact HB.out)) hb); clear BK261; clear HB; have HO265 := n0_; have BK261 := n1_; have HB := n2_; clear n0_ n1_ n2_; clear hb ho10)))
        go_ret
        exact ⟨_, by first | rfl | (simp [errW_none, errW_some] <;> rfl) | (simp [*, errW_none, errW_some] <;> rfl), by (with_reducible repeat (first | apply Kd.R_alloc | apply Kd.R_drewN | apply Kd.R_drew)); exact HO265.out, by repeat (first | (with_reducible first | exact HB.out | apply below_alloc | apply pw_below_drewN | apply below_drew1 | refine below_set ?_ GE261.out) | exact HB.out)⟩
      · replace c8 := Bool.eq_false_iff.mpr c8
        subst c8
        have H1 : ((spec_l3Head.f kj2 3 (l0_1.length : Int) a0_0).bind fun t266 => (spec_EncodeRevoke.l0 kj2 (l0_1.length : Int) t266 0 a0_0 l0_1)) = some r := by rw [if_neg (show ¬ (false = true) by decide)] at H; exact H
        clear H
        have H := H1
        clear H1
        replace H := Option.bind_eq_some_iff.mp H
        obtain ⟨t266, A110, H⟩ := H
        replace H : (spec_EncodeRevoke.l0 kj2 (l0_1.length : Int) t266 0 a0_0 l0_1) = some r := H
        have A11 := Aside0.mk A110
        clear A110
        have H' := Aside0.mk H
        clear H
        have hcz12_0 : wc.cell? ⟨gb261, 0, none⟩ = some (.int .i64 a0_0) := (blk_cell BK261.out 0).trans rfl
        have hcz12_1 : wc.cell? ⟨gb261, 1, none⟩ = some (.slice A0_1 l0_1.length c0_1) := (blk_cell BK261.out 1).trans rfl
        have hfz12_0 := blk_frozen BK261.out 0
        have hfz12_1 := blk_frozen BK261.out 1
        go_wp2_with (first | (go_at_call 46; (with_reducible refine (spec_l3Head.calls kj2 3 (l0_1.length : Int) a0_0 t266 _ A11.out).mono ?_); rintro e w13 ⟨v267, rfl, ho0, hb⟩; have n0_ := Aside0.mk (Kd.R_lower ho0 (below_size (by repeat (first | (with_reducible first | exact HB.out | apply below_alloc | apply pw_below_drewN | apply below_drew1 | refine below_set ?_ GE261.out) | exact HB.out)))); have n1_ := Aside0.mk (blk_below (g := gb261) (o := .cells #[.int .i64 a0_0, .slice A0_1 l0_1.length c0_1] 34 (0, 0)) (by (with_reducible repeat (first | refine blk_drewN ?_ _ | refine blk_drew ?_ | refine blk_alloc ?_ _)); exact BK261.out) hb); have n2_ := Aside0.mk (below_step (by repeat (first | (with_reducible first | exact HB.out | apply below_alloc | apply pw_below_drewN | apply below_drew1 | refine below_set ?_ GE261.out) | exact HB.out)) hb); clear BK261; clear HB; have HO268 := n0_; have BK261 := n1_; have HB := n2_; clear n0_ n1_ n2_; (try clear hb); (try clear hb2); (try clear hk); (try clear hi); (try clear ho0)))
        repeat (go_quiet (first | (go_at_call 46; (with_reducible refine (spec_l3Head.calls kj2 3 (l0_1.length : Int) a0_0 t266 _ A11.out).mono ?_); rintro e w13 ⟨v267, rfl, ho0, hb⟩; have n0_ := Aside0.mk (Kd.R_lower ho0 (below_size (by repeat (first | (with_reducible first | exact HB.out | apply below_alloc | apply pw_below_drewN | apply below_drew1 | refine below_set ?_ GE261.out) | exact HB.out)))); have n1_ := Aside0.mk (blk_below (g := gb261) (o := .cells #[.int .i64 a0_0, .slice A0_1 l0_1.length c0_1] 34 (0, 0)) (by (with_reducible repeat (first | refine blk_drewN ?_ _ | refine blk_drew ?_ | refine blk_alloc ?_ _)); exact BK261.out) hb); have n2_ := Aside0.mk (below_step (by repeat (first | (with_reducible first | exact HB.out | apply below_alloc | apply pw_below_drewN | apply below_drew1 | refine below_set ?_ GE261.out) | exact HB.out)) hb); clear BK261; clear HB; have HO268 := n0_; have BK261 := n1_; have HB := n2_; clear n0_ n1_ n2_; (try clear hb); (try clear hb2); (try clear hk); (try clear hi); (try clear ho0))); try go_wp2_with (first | (go_at_call 46; (with_reducible refine (spec_l3Head.calls kj2 3 (l0_1.length : Int) a0_0 t266 _ A11.out).mono ?_); rintro e w13 ⟨v267, rfl, ho0, hb⟩; have n0_ := Aside0.mk (Kd.R_lower ho0 (below_size (by repeat (first | (with_reducible first | exact HB.out | apply below_alloc | apply pw_below_drewN | apply below_drew1 | refine below_set ?_ GE261.out) | exact HB.out)))); have n1_ := Aside0.mk (blk_below (g := gb261) (o := .cells #[.int .i64 a0_0, .slice A0_1 l0_1.length c0_1] 34 (0, 0)) (by (with_reducible repeat (first | refine blk_drewN ?_ _ | refine blk_drew ?_ | refine blk_alloc ?_ _)); exact BK261.out) hb); have n2_ := Aside0.mk (below_step (by repeat (first | (with_reducible first | exact HB.out | apply below_alloc | apply pw_below_drewN | apply below_drew1 | refine below_set ?_ GE261.out) | exact HB.out)) hb); clear BK261; clear HB; have HO268 := n0_; have BK261 := n1_; have HB := n2_; clear n0_ n1_ n2_; (try clear hb); (try clear hb2); (try clear hk); (try clear hi); (try clear ho0))))
        go_loopg [5, 6] kj2 (fun kq v5 v6 w' => ∃ (x5_2 : List Int) (x6_2 : Int), v6 = .int .i64 x6_2 ∧ Aside0 (spec_EncodeRevoke.l0 kq (l0_1.length : Int) x5_2 x6_2 a0_0 l0_1 = some r) ∧ Aside0 (kq ≤ kj2) ∧ Aside0 (Kd.R (Kd.int .u8) 5 w' w.heap.size (fun _ => True) v5 x5_2) ∧ Aside0 (w'.heap[gb261]? = some (.cells #[.int .i64 a0_0, (.slice A0_1 l0_1.length c0_1)] 34 (0, 0))) ∧ Aside0 (Below w.heap.size w w'))
        case atStart => exact ⟨(t266), (0), (by first | rfl | (simp; done) | (simp [*]; done)), H', ⟨Nat.le_refl _⟩, ⟨by (with_reducible repeat (first | apply Kd.R_alloc | apply Kd.R_drewN | apply Kd.R_drew)); exact HO268.out⟩, ⟨by (with_reducible repeat (first | refine blk_drewN ?_ _ | refine blk_drew ?_ | refine blk_alloc ?_ _)); exact BK261.out⟩, ⟨by repeat (first | (with_reducible first | exact HB.out | apply below_alloc | apply pw_below_drewN | apply below_drew1 | refine below_set ?_ GE261.out) | exact HB.out)⟩⟩
        case round =>
          clear H'
          try clear p2
          try clear c3
          try clear c6
          try clear c7
          try clear c7b0
          try clear c7b1
          try clear c8
          try clear hcz12_0
          try clear hcz12_1
          try clear hcz5_0
          try clear hcz5_1
          try clear hfz12_0
          try clear hfz12_1
          try clear hfz5_0
          try clear hfz5_1
          try clear p2
          obtain ⟨x5_2, x6_2, rfl, HA, HK2, HO_5, BK261, HB⟩ := hrel
          cases gk with
          | zero => exact absurd HA.out (by simp [spec_EncodeRevoke.l0])
          | succ k2 =>
            have H := HA.out
            clear HA
            simp only [spec_EncodeRevoke.l0] at H
            by_cases c14 : x6_2 < (l0_1.length : Int)
            · rw [if_pos c14] at H
              have c14b0 : decide (x6_2 < (l0_1.length : Int)) = true := decide_eq_true c14
              clear c14
              by_cases c15 : 0 ≤ x6_2
              · rw [if_pos c15] at H
                have c15b0 : decide (0 ≤ x6_2) = true := decide_eq_true c15
                clear c15
                by_cases c16 : x6_2 < (l0_1.length : Int)
                · rw [if_pos c16] at H
                  have c16b0 : decide (x6_2 < (l0_1.length : Int)) = true := decide_eq_true c16
                  clear c16
                  replace H := Option.bind_eq_some_iff.mp H
                  obtain ⟨t273, A170, H⟩ := H
                  replace H : (if t273 = true then (if x6_2 > 0 then (if 0 ≤ (wrap64 (x6_2 - 1)) then (if (wrap64 (x6_2 - 1)) < (l0_1.length : Int) then (if (rd l0_1 (wrap64 (x6_2 - 1))) ≥ (rd l0_1 x6_2) then (some (([] : List Int))) else ((spec_PutNumber.f k2 (rd l0_1 x6_2) 2).bind fun t280 => (if x5_2.length + t280.length < 140737488355328 then (spec_EncodeRevoke.l0 k2 (l0_1.length : Int) (x5_2 ++ t280) (wrap64 (x6_2 + 1)) a0_0 l0_1) else (none)))) else (none)) else (none)) else ((spec_PutNumber.f k2 (rd l0_1 x6_2) 2).bind fun t287 => (if x5_2.length + t287.length < 140737488355328 then (spec_EncodeRevoke.l0 k2 (l0_1.length : Int) (x5_2 ++ t287) (wrap64 (x6_2 + 1)) a0_0 l0_1) else (none)))) else (some (([] : List Int)))) = some r := H
                  have A17 := Aside0.mk A170
                  clear A170
                  by_cases c18 : t273 = true
                  · subst c18
                    have H1 : (if x6_2 > 0 then (if 0 ≤ (wrap64 (x6_2 - 1)) then (if (wrap64 (x6_2 - 1)) < (l0_1.length : Int) then (if (rd l0_1 (wrap64 (x6_2 - 1))) ≥ (rd l0_1 x6_2) then (some (([] : List Int))) else ((spec_PutNumber.f k2 (rd l0_1 x6_2) 2).bind fun t280 => (if x5_2.length + t280.length < 140737488355328 then (spec_EncodeRevoke.l0 k2 (l0_1.length : Int) (x5_2 ++ t280) (wrap64 (x6_2 + 1)) a0_0 l0_1) else (none)))) else (none)) else (none)) else ((spec_PutNumber.f k2 (rd l0_1 x6_2) 2).bind fun t287 => (if x5_2.length + t287.length < 140737488355328 then (spec_EncodeRevoke.l0 k2 (l0_1.length : Int) (x5_2 ++ t287) (wrap64 (x6_2 + 1)) a0_0 l0_1) else (none)))) = some r := by rw [if_pos rfl] at H; exact H
                    clear H
                    have H := H1
                    clear H1
                    by_cases c19 : x6_2 > 0
                    · rw [if_pos c19] at H
                      have c19b0 : decide (0 < x6_2) = true := decide_eq_true c19
                      clear c19
                      obtain ⟨ji20, hji20⟩ : ∃ j_ : Int, (wrap64 (x6_2 - 1)) = j_ := ⟨_, rfl⟩
                      replace H : (if 0 ≤ (ji20) then (if (ji20) < (l0_1.length : Int) then (if (rd l0_1 (ji20)) ≥ (rd l0_1 x6_2) then (some (([] : List Int))) else ((spec_PutNumber.f k2 (rd l0_1 x6_2) 2).bind fun t280 => (if x5_2.length + t280.length < 140737488355328 then (spec_EncodeRevoke.l0 k2 (l0_1.length : Int) (x5_2 ++ t280) (wrap64 (x6_2 + 1)) a0_0 l0_1) else (none)))) else (none)) else (none)) = some r := by first | (rw [hji20] at H; exact H) | (simp only [hji20] at H ⊢; exact H)
                      (try rw [hji20] at A17)
                      have hji20w : (IntKind.i64.wrap (x6_2 - 1)) = ji20 := (i64_w _).trans hji20
                      by_cases c21 : 0 ≤ (ji20)
                      · rw [if_pos c21] at H
                        have c21b0 : decide (0 ≤ (ji20)) = true := decide_eq_true c21
                        clear c21
                        by_cases c22 : (ji20) < (l0_1.length : Int)
                        · rw [if_pos c22] at H
                          have c22b0 : decide ((ji20) < (l0_1.length : Int)) = true := decide_eq_true c22
                          clear c22
                          by_cases c23 : (rd l0_1 (ji20)) ≥ (rd l0_1 x6_2)
                          · rw [if_pos c23] at H
                            have c23b0 : decide ((rd l0_1 x6_2) ≤ (rd l0_1 (ji20))) = true := decide_eq_true c23
                            clear c23
                            obtain ⟨y276, hy276⟩ : ∃ y_ : List Int, y_ = (([] : List Int)) := ⟨_, rfl⟩
                            replace H : (some y276) = some r := by first | (rw [hy276]; with_reducible exact H) | (have H2_ := (Option.bind_some _ _).symm.trans H; rw [hy276]; with_reducible exact H2_) | (have H2_ := (Option.bind_some _ _).symm.trans H; with_reducible exact H2_) | with_reducible exact H | (rw [hy276]; exact H) | exact H
                            have Ny276 := Aside0.mk hy276
                            clear hy276
                            obtain rfl := Option.some.inj H
                            have hcz24_0 : wr.cell? ⟨gb261, 0, none⟩ = some (.int .i64 a0_0) := (blk_cell BK261.out 0).trans rfl
                            have hcz24_1 : wr.cell? ⟨gb261, 1, none⟩ = some (.slice A0_1 l0_1.length c0_1) := (blk_cell BK261.out 1).trans rfl
                            have hfz24_0 := blk_frozen BK261.out 0
                            have hfz24_1 := blk_frozen BK261.out 1
                            have p272 : 0 ≤ (x6_2 : Int) := of_decide_eq_true (by first | (with_reducible assumption) | assumption)
                            have q272 : x6_2 < (l0_1.length : Int) := of_decide_eq_true (by first | (with_reducible assumption) | assumption)
                            obtain ⟨ad272, e272, hx272_0⟩ := Kd.at_int HR0_1.out x6_2 p272 q272
                            cases e272
                            replace hx272_0 := (HB.out.cell (World.block_lt_of_cell? w _ hx272_0)).trans hx272_0
                            replace p272 := eq_true p272
                            replace q272 := eq_true q272
                            go_wp2_with (first | (go_at_call 56; (with_reducible refine (spec_l3GoodBlock.calls (rd l0_1 x6_2) true _ A17.out).mono ?_); rintro e w' ⟨rfl, ⟨nd, rfl⟩⟩; (try first | exact ⟨rfl, _, World.drewN_drewN _ _ _⟩ | exact ⟨rfl, _, Eq.trans (World.drewN_drewN _ _ _) (congrArg (World.drewN _) (Nat.add_assoc _ _ _))⟩); have p274 : 0 ≤ ((ji20) : Int) := of_decide_eq_true (by first | (with_reducible assumption) | assumption); have q274 : (ji20) < (l0_1.length : Int) := of_decide_eq_true (by first | (with_reducible assumption) | assumption); obtain ⟨ad274, e274, hx274_0⟩ := Kd.at_int HR0_1.out (ji20) p274 q274; obtain rfl : ad272 = ad274 := (by injection e274); replace hx274_0 := (HB.out.cell (World.block_lt_of_cell? w _ hx274_0)).trans hx274_0; replace p274 := eq_true p274; replace q274 := eq_true q274; have p275 : 0 ≤ (x6_2 : Int) := of_decide_eq_true (by first | (with_reducible assumption) | assumption); have q275 : x6_2 < (l0_1.length : Int) := of_decide_eq_true (by first | (with_reducible assumption) | assumption); obtain ⟨ad275, e275, hx275_0⟩ := Kd.at_int HR0_1.out x6_2 p275 q275; obtain rfl : ad272 = ad275 := (by injection e275); replace hx275_0 := (HB.out.cell (World.block_lt_of_cell? w _ hx275_0)).trans hx275_0; replace p275 := eq_true p275; replace q275 := eq_true q275) | ((with_reducible refine gate_dst (N := 60) rfl ?_); refine Kd.R_lit (Kd.int .u8) _ 5 ?hg (N := 60) ?hd (xs := ([] : List Int)) (inner := []) (ok := fun _ => True) (okp := fun _ => True) ?hr ?hp (fun _ hk => hk) trivial (Below.refl _ _) (Nat.le_refl _) (by simp) ?_; (case hd => rfl); (case hg => rfl); (case hr => first | (go_simp; done) | (go_simp; rfl)); (case hp => exact (Reps.none _ _)); intro v277 w25 ho26 hb hg_ hnew_; clear hg_ hnew_; (first | rw [← Ny276.out] at ho26 | (simp only [Int.reduceToNat] at ho26; rw [← Ny276.out] at ho26)); have n0_ := Aside0.mk (Kd.R_elder' (by (with_reducible repeat (first | apply Kd.R_alloc | apply Kd.R_drewN | apply Kd.R_drew)); exact HO_5.out) (Kd.R_base ho26) hb); have n1_ := Aside0.mk (Kd.R_lower (Kd.R_new' ho26 (Kd.R_lt (by (with_reducible repeat (first | apply Kd.R_alloc | apply Kd.R_drewN | apply Kd.R_drew)); exact HO_5.out))) (below_size (by repeat (first | (with_reducible first | exact HB.out | apply below_alloc | apply pw_below_drewN | apply below_drew1 | refine below_set ?_ GE261.out) | exact HB.out)))); have n2_ := Aside0.mk (blk_below (g := gb261) (o := .cells #[.int .i64 a0_0, .slice (some ad272) l0_1.length c0_1] 34 (0, 0)) (by (with_reducible repeat (first | refine blk_drewN ?_ _ | refine blk_drew ?_ | refine blk_alloc ?_ _)); exact BK261.out) hb); have n3_ := Aside0.mk (below_step (by repeat (first | (with_reducible first | exact HB.out | apply below_alloc | apply pw_below_drewN | apply below_drew1 | refine below_set ?_ GE261.out) | exact HB.out)) hb); clear HO_5; clear BK261; clear HB; have HO_5 := n0_; have HO278 := n1_; have BK261 := n2_; have HB := n3_; clear n0_ n1_ n2_ n3_; clear hb ho26))
                            repeat (go_quiet (first | (go_at_call 56; (with_reducible refine (spec_l3GoodBlock.calls (rd l0_1 x6_2) true _ A17.out).mono ?_); rintro e w' ⟨rfl, ⟨nd, rfl⟩⟩; (try first | exact ⟨rfl, _, World.drewN_drewN _ _ _⟩ | exact ⟨rfl, _, Eq.trans (World.drewN_drewN _ _ _) (congrArg (World.drewN _) (Nat.add_assoc _ _ _))⟩); have p274 : 0 ≤ ((ji20) : Int) := of_decide_eq_true (by first | (with_reducible assumption) | assumption); have q274 : (ji20) < (l0_1.length : Int) := of_decide_eq_true (by first | (with_reducible assumption) | assumption); obtain ⟨ad274, e274, hx274_0⟩ := Kd.at_int HR0_1.out (ji20) p274 q274; obtain rfl : ad272 = ad274 := (by injection e274); replace hx274_0 := (HB.out.cell (World.block_lt_of_cell? w _ hx274_0)).trans hx274_0; replace p274 := eq_true p274; replace q274 := eq_true q274; have p275 : 0 ≤ (x6_2 : Int) := of_decide_eq_true (by first | (with_reducible assumption) | assumption); have q275 : x6_2 < (l0_1.length : Int) := of_decide_eq_true (by first | (with_reducible assumption) | assumption); obtain ⟨ad275, e275, hx275_0⟩ := Kd.at_int HR0_1.out x6_2 p275 q275; obtain rfl : ad272 = ad275 := (by injection e275); replace hx275_0 := (HB.out.cell (World.block_lt_of_cell? w _ hx275_0)).trans hx275_0; replace p275 := eq_true p275; replace q275 := eq_true q275) | ((with_reducible refine gate_dst (N := 60) rfl ?_); refine Kd.R_lit (Kd.int .u8) _ 5 ?hg (N := 60) ?hd (xs := ([] : List Int)) (inner := []) (ok := fun _ => True) (okp := fun _ => True) ?hr ?hp (fun _ hk => hk) trivial (Below.refl _ _) (Nat.le_refl _) (by simp) ?_; (case hd => rfl); (case hg => rfl); (case hr => first | (go_simp; done) | (go_simp; rfl)); (case hp => exact (Reps.none _ _)); intro v277 w25 ho26 hb hg_ hnew_; clear hg_ hnew_; (first | rw [← Ny276.out] at ho26 | (simp only [Int.reduceToNat] at ho26; rw [← Ny276.out] at ho26)); have n0_ := Aside0.mk (Kd.R_elder' (by (with_reducible repeat (first | apply Kd.R_alloc | apply Kd.R_drewN | apply Kd.R_drew)); exact HO_5.out) (Kd.R_base ho26) hb); have n1_ := Aside0.mk (Kd.R_lower (Kd.R_new' ho26 (Kd.R_lt (by (with_reducible repeat (first | apply Kd.R_alloc | apply Kd.R_drewN | apply Kd.R_drew)); exact HO_5.out))) (below_size (by repeat (first | (with_reducible first | exact HB.out | apply below_alloc | apply pw_below_drewN | apply below_drew1 | refine below_set ?_ GE261.out) | exact HB.out)))); have n2_ := Aside0.mk (blk_below (g := gb261) (o := .cells #[.int .i64 a0_0, .slice (some ad272) l0_1.length c0_1] 34 (0, 0)) (by (with_reducible repeat (first | refine blk_drewN ?_ _ | refine blk_drew ?_ | refine blk_alloc ?_ _)); exact BK261.out) hb); have n3_ := Aside0.mk (below_step (by repeat (first | (with_reducible first | exact HB.out | apply below_alloc | apply pw_below_drewN | apply below_drew1 | refine below_set ?_ GE261.out) | exact HB.out)) hb); clear HO_5; clear BK261; clear HB; have HO_5 := n0_; have HO278 := n1_; have BK261 := n2_; have HB := n3_; clear n0_ n1_ n2_ n3_; clear hb ho26)); try go_wp2_with (first | (go_at_call 56; (with_reducible refine (spec_l3GoodBlock.calls (rd l0_1 x6_2) true _ A17.out).mono ?_); rintro e w' ⟨rfl, ⟨nd, rfl⟩⟩; (try first | exact ⟨rfl, _, World.drewN_drewN _ _ _⟩ | exact ⟨rfl, _, Eq.trans (World.drewN_drewN _ _ _) (congrArg (World.drewN _) (Nat.add_assoc _ _ _))⟩); have p274 : 0 ≤ ((ji20) : Int) := of_decide_eq_true (by first | (with_reducible assumption) | assumption); have q274 : (ji20) < (l0_1.length : Int) := of_decide_eq_true (by first | (with_reducible assumption) | assumption); obtain ⟨ad274, e274, hx274_0⟩ := Kd.at_int HR0_1.out (ji20) p274 q274; obtain rfl : ad272 = ad274 := (by injection e274); replace hx274_0 := (HB.out.cell (World.block_lt_of_cell? w _ hx274_0)).trans hx274_0; replace p274 := eq_true p274; replace q274 := eq_true q274; have p275 : 0 ≤ (x6_2 : Int) := of_decide_eq_true (by first | (with_reducible assumption) | assumption); have q275 : x6_2 < (l0_1.length : Int) := of_decide_eq_true (by first | (with_reducible assumption) | assumption); obtain ⟨ad275, e275, hx275_0⟩ := Kd.at_int HR0_1.out x6_2 p275 q275; obtain rfl : ad272 = ad275 := (by injection e275); replace hx275_0 := (HB.out.cell (World.block_lt_of_cell? w _ hx275_0)).trans hx275_0; replace p275 := eq_true p275; replace q275 := eq_true q275) | ((with_reducible refine gate_dst (N := 60) rfl ?_); refine Kd.R_lit (Kd.int .u8) _ 5 ?hg (N := 60) ?hd (xs := ([] : List Int)) (inner := []) (ok := fun _ => True) (okp := fun _ => True) ?hr ?hp (fun _ hk => hk) trivial (Below.refl _ _) (Nat.le_refl _) (by simp) ?_; (case hd => rfl); (case hg => rfl); (case hr => first | (go_simp; done) | (go_simp; rfl)); (case hp => exact (Reps.none _ _)); intro v277 w25 ho26 hb hg_ hnew_; clear hg_ hnew_; (first | rw [← Ny276.out] at ho26 | (simp only [Int.reduceToNat] at ho26; rw [← Ny276.out] at ho26)); have n0_ := Aside0.mk (Kd.R_elder' (by (with_reducible repeat (first | apply Kd.R_alloc | apply Kd.R_drewN | apply Kd.R_drew)); exact HO_5.out) (Kd.R_base ho26) hb); have n1_ := Aside0.mk (Kd.R_lower (Kd.R_new' ho26 (Kd.R_lt (by (with_reducible repeat (first | apply Kd.R_alloc | apply Kd.R_drewN | apply Kd.R_drew)); exact HO_5.out))) (below_size (by repeat (first | (with_reducible first | exact HB.out | apply below_alloc | apply pw_below_drewN | apply below_drew1 | refine below_set ?_ GE261.out) | exact HB.out)))); have n2_ := Aside0.mk (blk_below (g := gb261) (o := .cells #[.int .i64 a0_0, .slice (some ad272) l0_1.length c0_1] 34 (0, 0)) (by (with_reducible repeat (first | refine blk_drewN ?_ _ | refine blk_drew ?_ | refine blk_alloc ?_ _)); exact BK261.out) hb); have n3_ := Aside0.mk (below_step (by repeat (first | (with_reducible first | exact HB.out | apply below_alloc | apply pw_below_drewN | apply below_drew1 | refine below_set ?_ GE261.out) | exact HB.out)) hb); clear HO_5; clear BK261; clear HB; have HO_5 := n0_; have HO278 := n1_; have BK261 := n2_; have HB := n3_; clear n0_ n1_ n2_ n3_; clear hb ho26)))
                            go_ret
                            exact ⟨_, by first | rfl | (simp [errW_none, errW_some] <;> rfl) | (simp only [← hji20]; first | rfl | (simp [errW_none, errW_some] <;> rfl)) | (simp [*, errW_none, errW_some] <;> rfl), by (with_reducible repeat (first | apply Kd.R_alloc | apply Kd.R_drewN | apply Kd.R_drew)); exact Kd.R_mono HO278.out (fun _ hk => trivial), by repeat (first | (with_reducible first | exact HB.out | apply below_alloc | apply pw_below_drewN | apply below_drew1 | refine below_set ?_ GE261.out) | exact HB.out)⟩
                          · rw [if_neg c23] at H
                            have c23b0 : decide ((rd l0_1 x6_2) ≤ (rd l0_1 (ji20))) = false := decide_eq_false c23
                            clear c23
                            replace H := Option.bind_eq_some_iff.mp H
                            obtain ⟨t280, A270, H⟩ := H
                            replace H : (if x5_2.length + t280.length < 140737488355328 then (spec_EncodeRevoke.l0 k2 (l0_1.length : Int) (x5_2 ++ t280) (wrap64 (x6_2 + 1)) a0_0 l0_1) else (none)) = some r := H
                            have A27 := Aside0.mk A270
                            clear A270
                            by_cases c28 : x5_2.length + t280.length < 140737488355328
                            · rw [if_pos c28] at H
                              have LMc28 := Aside0.mk c28
                              clear c28
                              obtain ⟨y283, hy283⟩ : ∃ y_ : List Int, y_ = (x5_2 ++ t280) := ⟨_, rfl⟩
                              replace H : (spec_EncodeRevoke.l0 k2 (l0_1.length : Int) y283 (wrap64 (x6_2 + 1)) a0_0 l0_1) = some r := by first | (rw [hy283]; with_reducible exact H) | (have H2_ := (Option.bind_some _ _).symm.trans H; rw [hy283]; with_reducible exact H2_) | (have H2_ := (Option.bind_some _ _).symm.trans H; with_reducible exact H2_) | with_reducible exact H | (rw [hy283]; exact H) | exact H
                              have Ny283 := Aside0.mk hy283
                              clear hy283
                              have H' := Aside0.mk H
                              clear H
                              have hcz29_0 : wr.cell? ⟨gb261, 0, none⟩ = some (.int .i64 a0_0) := (blk_cell BK261.out 0).trans rfl
                              have hcz29_1 : wr.cell? ⟨gb261, 1, none⟩ = some (.slice A0_1 l0_1.length c0_1) := (blk_cell BK261.out 1).trans rfl
                              have hfz29_0 := blk_frozen BK261.out 0
                              have hfz29_1 := blk_frozen BK261.out 1
                              have p272 : 0 ≤ (x6_2 : Int) := of_decide_eq_true (by first | (with_reducible assumption) | assumption)
                              have q272 : x6_2 < (l0_1.length : Int) := of_decide_eq_true (by first | (with_reducible assumption) | assumption)
                              obtain ⟨ad272, e272, hx272_0⟩ := Kd.at_int HR0_1.out x6_2 p272 q272
                              cases e272
                              replace hx272_0 := (HB.out.cell (World.block_lt_of_cell? w _ hx272_0)).trans hx272_0
                              replace p272 := eq_true p272
                              replace q272 := eq_true q272
                              go_wp2_with (first | (go_at_call 56; (with_reducible refine (spec_l3GoodBlock.calls (rd l0_1 x6_2) true _ A17.out).mono ?_); rintro e w' ⟨rfl, ⟨nd, rfl⟩⟩; (try first | exact ⟨rfl, _, World.drewN_drewN _ _ _⟩ | exact ⟨rfl, _, Eq.trans (World.drewN_drewN _ _ _) (congrArg (World.drewN _) (Nat.add_assoc _ _ _))⟩); have p274 : 0 ≤ ((ji20) : Int) := of_decide_eq_true (by first | (with_reducible assumption) | assumption); have q274 : (ji20) < (l0_1.length : Int) := of_decide_eq_true (by first | (with_reducible assumption) | assumption); obtain ⟨ad274, e274, hx274_0⟩ := Kd.at_int HR0_1.out (ji20) p274 q274; obtain rfl : ad272 = ad274 := (by injection e274); replace hx274_0 := (HB.out.cell (World.block_lt_of_cell? w _ hx274_0)).trans hx274_0; replace p274 := eq_true p274; replace q274 := eq_true q274; have p275 : 0 ≤ (x6_2 : Int) := of_decide_eq_true (by first | (with_reducible assumption) | assumption); have q275 : x6_2 < (l0_1.length : Int) := of_decide_eq_true (by first | (with_reducible assumption) | assumption); obtain ⟨ad275, e275, hx275_0⟩ := Kd.at_int HR0_1.out x6_2 p275 q275; obtain rfl : ad272 = ad275 := (by injection e275); replace hx275_0 := (HB.out.cell (World.block_lt_of_cell? w _ hx275_0)).trans hx275_0; replace p275 := eq_true p275; replace q275 := eq_true q275; have p279 : 0 ≤ (x6_2 : Int) := of_decide_eq_true (by first | (with_reducible assumption) | assumption); have q279 : x6_2 < (l0_1.length : Int) := of_decide_eq_true (by first | (with_reducible assumption) | assumption); obtain ⟨ad279, e279, hx279_0⟩ := Kd.at_int HR0_1.out x6_2 p279 q279; obtain rfl : ad272 = ad279 := (by injection e279); replace hx279_0 := (HB.out.cell (World.block_lt_of_cell? w _ hx279_0)).trans hx279_0; replace p279 := eq_true p279; replace q279 := eq_true q279) | (go_at_call 47; (with_reducible refine (spec_PutNumber.calls k2 (rd l0_1 x6_2) 2 t280 _ A27.out).mono ?_); rintro e w30 ⟨v281, rfl, ho0, hb⟩; have n0_ := Aside0.mk (Kd.R_elder' (by (with_reducible repeat (first | apply Kd.R_alloc | apply Kd.R_drewN | apply Kd.R_drew)); exact HO_5.out) (Kd.R_base ho0) hb); have n1_ := Aside0.mk (Kd.R_lower (Kd.R_new' ho0 (Kd.R_lt (by (with_reducible repeat (first | apply Kd.R_alloc | apply Kd.R_drewN | apply Kd.R_drew)); exact HO_5.out))) (below_size (by repeat (first | (with_reducible first | exact HB.out | apply below_alloc | apply pw_below_drewN | apply below_drew1 | refine below_set ?_ GE261.out) | exact HB.out)))); have n2_ := Aside0.mk (blk_below (g := gb261) (o := .cells #[.int .i64 a0_0, .slice (some ad272) l0_1.length c0_1] 34 (0, 0)) (by (with_reducible repeat (first | refine blk_drewN ?_ _ | refine blk_drew ?_ | refine blk_alloc ?_ _)); exact BK261.out) hb); have n3_ := Aside0.mk (below_step (by repeat (first | (with_reducible first | exact HB.out | apply below_alloc | apply pw_below_drewN | apply below_drew1 | refine below_set ?_ GE261.out) | exact HB.out)) hb); clear HO_5; clear BK261; clear HB; have HO_5 := n0_; have HO282 := n1_; have BK261 := n2_; have HB := n3_; clear n0_ n1_ n2_ n3_; (try clear hb); (try clear hb2); (try clear hk); (try clear hi); (try clear ho0); obtain ⟨Ao32, co32, eo32⟩ := Kd.R_slice HO282.out; subst eo32) | ((with_reducible refine gate_builtin (b := .append) (xs := #[.tmp 61, .tmp 67]) rfl ?_); at_builtin; refine Kd.R_append_rows (Kd.int .u8) (w0 := w) w.heap.size rfl (.tmp 61) (.tmp 67) 22 5 (.int .u8 0) 1 rfl Tryd.underlying22 info5 rfl (by decide) (by omega) u5 x5_2 t280 _ _ _ (fun k_ => some k_ ≠ (.slice Ao32 t280.length co32 : Value).ownBlock) (fun _ => False) rfl rfl ?aO ?aR (fun _ _ h => h) (fun _ h => h.elim) ?aF ?aB ?aS ?aL ?_; (case aR => repeat (first | exact (Kd.R_reads' HO282.out).2.2 | (with_reducible refine Kd.C_alloc ?_ _) | (with_reducible refine Kd.C_drewN ?_ _) | (with_reducible refine Kd.C_drew ?_))); (case aB => exact (by repeat (first | (with_reducible first | exact HB.out | apply below_alloc | apply pw_below_drewN | apply below_drew1 | refine below_set ?_ GE261.out) | exact HB.out))); (case aF => exact (fun k_ hk => Kd.fresh' (Kd.R_lt (by (with_reducible repeat (first | apply Kd.R_alloc | apply Kd.R_drewN | apply Kd.R_drew)); exact HO282.out)) k_ hk)); (case aO => exact (by (with_reducible repeat (first | apply Kd.R_alloc | apply Kd.R_drewN | apply Kd.R_drew)); exact Kd.R_mono HO_5.out (fun _ hk => hk.2))); (case aS => exact (below_size (by repeat (first | (with_reducible first | exact HB.out | apply below_alloc | apply pw_below_drewN | apply below_drew1 | refine below_set ?_ GE261.out) | exact HB.out)))); (case aL => have := LMc28.out; omega); intro v284 w31 ho hb hg hat; rw [← Ny283.out] at ho; have n0_ := Aside0.mk (blk_grown (g := gb261) (o := .cells #[.int .i64 a0_0, .slice (some ad272) l0_1.length c0_1] 34 (0, 0)) (by (with_reducible repeat (first | refine blk_drewN ?_ _ | refine blk_drew ?_ | refine blk_alloc ?_ _)); exact BK261.out) hg (Kd.R_ne HO_5.out BK261.out (by decide))); have n1_ := Aside0.mk (Kd.R_after (ok := (fun _ => True)) (by (with_reducible repeat (first | apply Kd.R_alloc | apply Kd.R_drewN | apply Kd.R_drew)); exact HO282.out) hg hat); have n2_ := Aside0.mk (hb); have n3_ := Aside0.mk (ho); clear BK261; clear HO282; clear HB; clear HO_5; have BK261 := n0_; have HO282 := n1_; have HB := n2_; have HO285 := n3_; clear n0_ n1_ n2_ n3_; clear ho hb hg hat))
                              repeat (go_quiet (first | (go_at_call 56; (with_reducible refine (spec_l3GoodBlock.calls (rd l0_1 x6_2) true _ A17.out).mono ?_); rintro e w' ⟨rfl, ⟨nd, rfl⟩⟩; (try first | exact ⟨rfl, _, World.drewN_drewN _ _ _⟩ | exact ⟨rfl, _, Eq.trans (World.drewN_drewN _ _ _) (congrArg (World.drewN _) (Nat.add_assoc _ _ _))⟩); have p274 : 0 ≤ ((ji20) : Int) := of_decide_eq_true (by first | (with_reducible assumption) | assumption); have q274 : (ji20) < (l0_1.length : Int) := of_decide_eq_true (by first | (with_reducible assumption) | assumption); obtain ⟨ad274, e274, hx274_0⟩ := Kd.at_int HR0_1.out (ji20) p274 q274; obtain rfl : ad272 = ad274 := (by injection e274); replace hx274_0 := (HB.out.cell (World.block_lt_of_cell? w _ hx274_0)).trans hx274_0; replace p274 := eq_true p274; replace q274 := eq_true q274; have p275 : 0 ≤ (x6_2 : Int) := of_decide_eq_true (by first | (with_reducible assumption) | assumption); have q275 : x6_2 < (l0_1.length : Int) := of_decide_eq_true (by first | (with_reducible assumption) | assumption); obtain ⟨ad275, e275, hx275_0⟩ := Kd.at_int HR0_1.out x6_2 p275 q275; obtain rfl : ad272 = ad275 := (by injection e275); replace hx275_0 := (HB.out.cell (World.block_lt_of_cell? w _ hx275_0)).trans hx275_0; replace p275 := eq_true p275; replace q275 := eq_true q275; have p279 : 0 ≤ (x6_2 : Int) := of_decide_eq_true (by first | (with_reducible assumption) | assumption); have q279 : x6_2 < (l0_1.length : Int) := of_decide_eq_true (by first | (with_reducible assumption) | assumption); obtain ⟨ad279, e279, hx279_0⟩ := Kd.at_int HR0_1.out x6_2 p279 q279; obtain rfl : ad272 = ad279 := (by injection e279); replace hx279_0 := (HB.out.cell (World.block_lt_of_cell? w _ hx279_0)).trans hx279_0; replace p279 := eq_true p279; replace q279 := eq_true q279) | (go_at_call 47; (with_reducible refine (spec_PutNumber.calls k2 (rd l0_1 x6_2) 2 t280 _ A27.out).mono ?_); rintro e w30 ⟨v281, rfl, ho0, hb⟩; have n0_ := Aside0.mk (Kd.R_elder' (by (with_reducible repeat (first | apply Kd.R_alloc | apply Kd.R_drewN | apply Kd.R_drew)); exact HO_5.out) (Kd.R_base ho0) hb); have n1_ := Aside0.mk (Kd.R_lower (Kd.R_new' ho0 (Kd.R_lt (by (with_reducible repeat (first | apply Kd.R_alloc | apply Kd.R_drewN | apply Kd.R_drew)); exact HO_5.out))) (below_size (by repeat (first | (with_reducible first | exact HB.out | apply below_alloc | apply pw_below_drewN | apply below_drew1 | refine below_set ?_ GE261.out) | exact HB.out)))); have n2_ := Aside0.mk (blk_below (g := gb261) (o := .cells #[.int .i64 a0_0, .slice (some ad272) l0_1.length c0_1] 34 (0, 0)) (by (with_reducible repeat (first | refine blk_drewN ?_ _ | refine blk_drew ?_ | refine blk_alloc ?_ _)); exact BK261.out) hb); have n3_ := Aside0.mk (below_step (by repeat (first | (with_reducible first | exact HB.out | apply below_alloc | apply pw_below_drewN | apply below_drew1 | refine below_set ?_ GE261.out) | exact HB.out)) hb); clear HO_5; clear BK261; clear HB; have HO_5 := n0_; have HO282 := n1_; have BK261 := n2_; have HB := n3_; clear n0_ n1_ n2_ n3_; (try clear hb); (try clear hb2); (try clear hk); (try clear hi); (try clear ho0); obtain ⟨Ao32, co32, eo32⟩ := Kd.R_slice HO282.out; subst eo32) | ((with_reducible refine gate_builtin (b := .append) (xs := #[.tmp 61, .tmp 67]) rfl ?_); at_builtin; refine Kd.R_append_rows (Kd.int .u8) (w0 := w) w.heap.size rfl (.tmp 61) (.tmp 67) 22 5 (.int .u8 0) 1 rfl Tryd.underlying22 info5 rfl (by decide) (by omega) u5 x5_2 t280 _ _ _ (fun k_ => some k_ ≠ (.slice Ao32 t280.length co32 : Value).ownBlock) (fun _ => False) rfl rfl ?aO ?aR (fun _ _ h => h) (fun _ h => h.elim) ?aF ?aB ?aS ?aL ?_; (case aR => repeat (first | exact (Kd.R_reads' HO282.out).2.2 | (with_reducible refine Kd.C_alloc ?_ _) | (with_reducible refine Kd.C_drewN ?_ _) | (with_reducible refine Kd.C_drew ?_))); (case aB => exact (by repeat (first | (with_reducible first | exact HB.out | apply below_alloc | apply pw_below_drewN | apply below_drew1 | refine below_set ?_ GE261.out) | exact HB.out))); (case aF => exact (fun k_ hk => Kd.fresh' (Kd.R_lt (by (with_reducible repeat (first | apply Kd.R_alloc | apply Kd.R_drewN | apply Kd.R_drew)); exact HO282.out)) k_ hk)); (case aO => exact (by (with_reducible repeat (first | apply Kd.R_alloc | apply Kd.R_drewN | apply Kd.R_drew)); exact Kd.R_mono HO_5.out (fun _ hk => hk.2))); (case aS => exact (below_size (by repeat (first | (with_reducible first | exact HB.out | apply below_alloc | apply pw_below_drewN | apply below_drew1 | refine below_set ?_ GE261.out) | exact HB.out)))); (case aL => have := LMc28.out; omega); intro v284 w31 ho hb hg hat; rw [← Ny283.out] at ho; have n0_ := Aside0.mk (blk_grown (g := gb261) (o := .cells #[.int .i64 a0_0, .slice (some ad272) l0_1.length c0_1] 34 (0, 0)) (by (with_reducible repeat (first | refine blk_drewN ?_ _ | refine blk_drew ?_ | refine blk_alloc ?_ _)); exact BK261.out) hg (Kd.R_ne HO_5.out BK261.out (by decide))); have n1_ := Aside0.mk (Kd.R_after (ok := (fun _ => True)) (by (with_reducible repeat (first | apply Kd.R_alloc | apply Kd.R_drewN | apply Kd.R_drew)); exact HO282.out) hg hat); have n2_ := Aside0.mk (hb); have n3_ := Aside0.mk (ho); clear BK261; clear HO282; clear HB; clear HO_5; have BK261 := n0_; have HO282 := n1_; have HB := n2_; have HO285 := n3_; clear n0_ n1_ n2_ n3_; clear ho hb hg hat)); try go_wp2_with (first | (go_at_call 56; (with_reducible refine (spec_l3GoodBlock.calls (rd l0_1 x6_2) true _ A17.out).mono ?_); rintro e w' ⟨rfl, ⟨nd, rfl⟩⟩; (try first | exact ⟨rfl, _, World.drewN_drewN _ _ _⟩ | exact ⟨rfl, _, Eq.trans (World.drewN_drewN _ _ _) (congrArg (World.drewN _) (Nat.add_assoc _ _ _))⟩); have p274 : 0 ≤ ((ji20) : Int) := of_decide_eq_true (by first | (with_reducible assumption) | assumption); have q274 : (ji20) < (l0_1.length : Int) := of_decide_eq_true (by first | (with_reducible assumption) | assumption); obtain ⟨ad274, e274, hx274_0⟩ := Kd.at_int HR0_1.out (ji20) p274 q274; obtain rfl : ad272 = ad274 := (by injection e274); replace hx274_0 := (HB.out.cell (World.block_lt_of_cell? w _ hx274_0)).trans hx274_0; replace p274 := eq_true p274; replace q274 := eq_true q274; have p275 : 0 ≤ (x6_2 : Int) := of_decide_eq_true (by first | (with_reducible assumption) | assumption); have q275 : x6_2 < (l0_1.length : Int) := of_decide_eq_true (by first | (with_reducible assumption) | assumption); obtain ⟨ad275, e275, hx275_0⟩ := Kd.at_int HR0_1.out x6_2 p275 q275; obtain rfl : ad272 = ad275 := (by injection e275); replace hx275_0 := (HB.out.cell (World.block_lt_of_cell? w _ hx275_0)).trans hx275_0; replace p275 := eq_true p275; replace q275 := eq_true q275; have p279 : 0 ≤ (x6_2 : Int) := of_decide_eq_true (by first | (with_reducible assumption) | assumption); have q279 : x6_2 < (l0_1.length : Int) := of_decide_eq_true (by first | (with_reducible assumption) | assumption); obtain ⟨ad279, e279, hx279_0⟩ := Kd.at_int HR0_1.out x6_2 p279 q279; obtain rfl : ad272 = ad279 := (by injection e279); replace hx279_0 := (HB.out.cell (World.block_lt_of_cell? w _ hx279_0)).trans hx279_0; replace p279 := eq_true p279; replace q279 := eq_true q279) | (go_at_call 47; (with_reducible refine (spec_PutNumber.calls k2 (rd l0_1 x6_2) 2 t280 _ A27.out).mono ?_); rintro e w30 ⟨v281, rfl, ho0, hb⟩; have n0_ := Aside0.mk (Kd.R_elder' (by (with_reducible repeat (first | apply Kd.R_alloc | apply Kd.R_drewN | apply Kd.R_drew)); exact HO_5.out) (Kd.R_base ho0) hb); have n1_ := Aside0.mk (Kd.R_lower (Kd.R_new' ho0 (Kd.R_lt (by (with_reducible repeat (first | apply Kd.R_alloc | apply Kd.R_drewN | apply Kd.R_drew)); exact HO_5.out))) (below_size (by repeat (first | (with_reducible first | exact HB.out | apply below_alloc | apply pw_below_drewN | apply below_drew1 | refine below_set ?_ GE261.out) | exact HB.out)))); have n2_ := Aside0.mk (blk_below (g := gb261) (o := .cells #[.int .i64 a0_0, .slice (some ad272) l0_1.length c0_1] 34 (0, 0)) (by (with_reducible repeat (first | refine blk_drewN ?_ _ | refine blk_drew ?_ | refine blk_alloc ?_ _)); exact BK261.out) hb); have n3_ := Aside0.mk (below_step (by repeat (first | (with_reducible first | exact HB.out | apply below_alloc | apply pw_below_drewN | apply below_drew1 | refine below_set ?_ GE261.out) | exact HB.out)) hb); clear HO_5; clear BK261; clear HB; have HO_5 := n0_; have HO282 := n1_; have BK261 := n2_; have HB := n3_; clear n0_ n1_ n2_ n3_; (try clear hb); (try clear hb2); (try clear hk); (try clear hi); (try clear ho0); obtain ⟨Ao32, co32, eo32⟩ := Kd.R_slice HO282.out; subst eo32) | ((with_reducible refine gate_builtin (b := .append) (xs := #[.tmp 61, .tmp 67]) rfl ?_); at_builtin; refine Kd.R_append_rows (Kd.int .u8) (w0 := w) w.heap.size rfl (.tmp 61) (.tmp 67) 22 5 (.int .u8 0) 1 rfl Tryd.underlying22 info5 rfl (by decide) (by omega) u5 x5_2 t280 _ _ _ (fun k_ => some k_ ≠ (.slice Ao32 t280.length co32 : Value).ownBlock) (fun _ => False) rfl rfl ?aO ?aR (fun _ _ h => h) (fun _ h => h.elim) ?aF ?aB ?aS ?aL ?_; (case aR => repeat (first | exact (Kd.R_reads' HO282.out).2.2 | (with_reducible refine Kd.C_alloc ?_ _) | (with_reducible refine Kd.C_drewN ?_ _) | (with_reducible refine Kd.C_drew ?_))); (case aB => exact (by repeat (first | (with_reducible first | exact HB.out | apply below_alloc | apply pw_below_drewN | apply below_drew1 | refine below_set ?_ GE261.out) | exact HB.out))); (case aF => exact (fun k_ hk => Kd.fresh' (Kd.R_lt (by (with_reducible repeat (first | apply Kd.R_alloc | apply Kd.R_drewN | apply Kd.R_drew)); exact HO282.out)) k_ hk)); (case aO => exact (by (with_reducible repeat (first | apply Kd.R_alloc | apply Kd.R_drewN | apply Kd.R_drew)); exact Kd.R_mono HO_5.out (fun _ hk => hk.2))); (case aS => exact (below_size (by repeat (first | (with_reducible first | exact HB.out | apply below_alloc | apply pw_below_drewN | apply below_drew1 | refine below_set ?_ GE261.out) | exact HB.out)))); (case aL => have := LMc28.out; omega); intro v284 w31 ho hb hg hat; rw [← Ny283.out] at ho; have n0_ := Aside0.mk (blk_grown (g := gb261) (o := .cells #[.int .i64 a0_0, .slice (some ad272) l0_1.length c0_1] 34 (0, 0)) (by (with_reducible repeat (first | refine blk_drewN ?_ _ | refine blk_drew ?_ | refine blk_alloc ?_ _)); exact BK261.out) hg (Kd.R_ne HO_5.out BK261.out (by decide))); have n1_ := Aside0.mk (Kd.R_after (ok := (fun _ => True)) (by (with_reducible repeat (first | apply Kd.R_alloc | apply Kd.R_drewN | apply Kd.R_drew)); exact HO282.out) hg hat); have n2_ := Aside0.mk (hb); have n3_ := Aside0.mk (ho); clear BK261; clear HO282; clear HB; clear HO_5; have BK261 := n0_; have HO282 := n1_; have HB := n2_; have HO285 := n3_; clear n0_ n1_ n2_ n3_; clear ho hb hg hat)))
                              go_roundg k2
                              case measure => have := HJ2.out; have := HK2.out; omega
                              case rel => exact ⟨(y283), (wrap64 (x6_2 + 1)), (by first | rfl | (simp; done) | (simp [*]; done)), H', ⟨by have := HJ2.out; have := HK2.out; omega⟩, ⟨by (with_reducible repeat (first | apply Kd.R_alloc | apply Kd.R_drewN | apply Kd.R_drew)); exact Kd.R_mono HO285.out (fun _ hk => trivial)⟩, ⟨by (with_reducible repeat (first | refine blk_drewN ?_ _ | refine blk_drew ?_ | refine blk_alloc ?_ _)); exact BK261.out⟩, ⟨by repeat (first | (with_reducible first | exact HB.out | apply below_alloc | apply pw_below_drewN | apply below_drew1 | refine below_set ?_ GE261.out) | exact HB.out)⟩⟩
                            · rw [if_neg c28] at H
                              exact absurd H (by simp)
                        · rw [if_neg c22] at H
                          exact absurd H (by simp)
                      · rw [if_neg c21] at H
                        exact absurd H (by simp)
                    · rw [if_neg c19] at H
                      have c19b0 : decide (0 < x6_2) = false := decide_eq_false c19
                      clear c19
                      replace H := Option.bind_eq_some_iff.mp H
                      obtain ⟨t287, A330, H⟩ := H
                      replace H : (if x5_2.length + t287.length < 140737488355328 then (spec_EncodeRevoke.l0 k2 (l0_1.length : Int) (x5_2 ++ t287) (wrap64 (x6_2 + 1)) a0_0 l0_1) else (none)) = some r := H
                      have A33 := Aside0.mk A330
                      clear A330
                      by_cases c34 : x5_2.length + t287.length < 140737488355328
                      · rw [if_pos c34] at H
                        have LMc34 := Aside0.mk c34
                        clear c34
                        obtain ⟨y290, hy290⟩ : ∃ y_ : List Int, y_ = (x5_2 ++ t287) := ⟨_, rfl⟩
                        replace H : (spec_EncodeRevoke.l0 k2 (l0_1.length : Int) y290 (wrap64 (x6_2 + 1)) a0_0 l0_1) = some r := by first | (rw [hy290]; with_reducible exact H) | (have H2_ := (Option.bind_some _ _).symm.trans H; rw [hy290]; with_reducible exact H2_) | (have H2_ := (Option.bind_some _ _).symm.trans H; with_reducible exact H2_) | with_reducible exact H | (rw [hy290]; exact H) | exact H
                        have Ny290 := Aside0.mk hy290
                        clear hy290
                        have H' := Aside0.mk H
                        clear H
                        have hcz35_0 : wr.cell? ⟨gb261, 0, none⟩ = some (.int .i64 a0_0) := (blk_cell BK261.out 0).trans rfl
                        have hcz35_1 : wr.cell? ⟨gb261, 1, none⟩ = some (.slice A0_1 l0_1.length c0_1) := (blk_cell BK261.out 1).trans rfl
                        have hfz35_0 := blk_frozen BK261.out 0
                        have hfz35_1 := blk_frozen BK261.out 1
                        have p272 : 0 ≤ (x6_2 : Int) := of_decide_eq_true (by first | (with_reducible assumption) | assumption)
                        have q272 : x6_2 < (l0_1.length : Int) := of_decide_eq_true (by first | (with_reducible assumption) | assumption)
                        obtain ⟨ad272, e272, hx272_0⟩ := Kd.at_int HR0_1.out x6_2 p272 q272
                        cases e272
                        replace hx272_0 := (HB.out.cell (World.block_lt_of_cell? w _ hx272_0)).trans hx272_0
                        replace p272 := eq_true p272
                        replace q272 := eq_true q272
                        go_wp2_with (first | (go_at_call 56; (with_reducible refine (spec_l3GoodBlock.calls (rd l0_1 x6_2) true _ A17.out).mono ?_); rintro e w' ⟨rfl, ⟨nd, rfl⟩⟩; (try first | exact ⟨rfl, _, World.drewN_drewN _ _ _⟩ | exact ⟨rfl, _, Eq.trans (World.drewN_drewN _ _ _) (congrArg (World.drewN _) (Nat.add_assoc _ _ _))⟩); have p286 : 0 ≤ (x6_2 : Int) := of_decide_eq_true (by first | (with_reducible assumption) | assumption); have q286 : x6_2 < (l0_1.length : Int) := of_decide_eq_true (by first | (with_reducible assumption) | assumption); obtain ⟨ad286, e286, hx286_0⟩ := Kd.at_int HR0_1.out x6_2 p286 q286; obtain rfl : ad272 = ad286 := (by injection e286); replace hx286_0 := (HB.out.cell (World.block_lt_of_cell? w _ hx286_0)).trans hx286_0; replace p286 := eq_true p286; replace q286 := eq_true q286) | (go_at_call 47; (with_reducible refine (spec_PutNumber.calls k2 (rd l0_1 x6_2) 2 t287 _ A33.out).mono ?_); rintro e w36 ⟨v288, rfl, ho0, hb⟩; have n0_ := Aside0.mk (Kd.R_elder' (by (with_reducible repeat (first | apply Kd.R_alloc | apply Kd.R_drewN | apply Kd.R_drew)); exact HO_5.out) (Kd.R_base ho0) hb); have n1_ := Aside0.mk (Kd.R_lower (Kd.R_new' ho0 (Kd.R_lt (by (with_reducible repeat (first | apply Kd.R_alloc | apply Kd.R_drewN | apply Kd.R_drew)); exact HO_5.out))) (below_size (by repeat (first | (with_reducible first | exact HB.out | apply below_alloc | apply pw_below_drewN | apply below_drew1 | refine below_set ?_ GE261.out) | exact HB.out)))); have n2_ := Aside0.mk (blk_below (g := gb261) (o := .cells #[.int .i64 a0_0, .slice (some ad272) l0_1.length c0_1] 34 (0, 0)) (by (with_reducible repeat (first | refine blk_drewN ?_ _ | refine blk_drew ?_ | refine blk_alloc ?_ _)); exact BK261.out) hb); have n3_ := Aside0.mk (below_step (by repeat (first | (with_reducible first | exact HB.out | apply below_alloc | apply pw_below_drewN | apply below_drew1 | refine below_set ?_ GE261.out) | exact HB.out)) hb); clear HO_5; clear BK261; clear HB; have HO_5 := n0_; have HO289 := n1_; have BK261 := n2_; have HB := n3_; clear n0_ n1_ n2_ n3_; (try clear hb); (try clear hb2); (try clear hk); (try clear hi); (try clear ho0); obtain ⟨Ao38, co38, eo38⟩ := Kd.R_slice HO289.out; subst eo38) | ((with_reducible refine gate_builtin (b := .append) (xs := #[.tmp 61, .tmp 67]) rfl ?_); at_builtin; refine Kd.R_append_rows (Kd.int .u8) (w0 := w) w.heap.size rfl (.tmp 61) (.tmp 67) 22 5 (.int .u8 0) 1 rfl Tryd.underlying22 info5 rfl (by decide) (by omega) u5 x5_2 t287 _ _ _ (fun k_ => some k_ ≠ (.slice Ao38 t287.length co38 : Value).ownBlock) (fun _ => False) rfl rfl ?aO ?aR (fun _ _ h => h) (fun _ h => h.elim) ?aF ?aB ?aS ?aL ?_; (case aR => repeat (first | exact (Kd.R_reads' HO289.out).2.2 | (with_reducible refine Kd.C_alloc ?_ _) | (with_reducible refine Kd.C_drewN ?_ _) | (with_reducible refine Kd.C_drew ?_))); (case aB => exact (by repeat (first | (with_reducible first | exact HB.out | apply below_alloc | apply pw_below_drewN | apply below_drew1 | refine below_set ?_ GE261.out) | exact HB.out))); (case aF => exact (fun k_ hk => Kd.fresh' (Kd.R_lt (by (with_reducible repeat (first | apply Kd.R_alloc | apply Kd.R_drewN | apply Kd.R_drew)); exact HO289.out)) k_ hk)); (case aO => exact (by (with_reducible repeat (first | apply Kd.R_alloc | apply Kd.R_drewN | apply Kd.R_drew)); exact Kd.R_mono HO_5.out (fun _ hk => hk.2))); (case aS => exact (below_size (by repeat (first | (with_reducible first | exact HB.out | apply below_alloc | apply pw_below_drewN | apply below_drew1 | refine below_set ?_ GE261.out) | exact HB.out)))); (case aL => have := LMc34.out; omega); intro v291 w37 ho hb hg hat; rw [← Ny290.out] at ho; have n0_ := Aside0.mk (blk_grown (g := gb261) (o := .cells #[.int .i64 a0_0, .slice (some ad272) l0_1.length c0_1] 34 (0, 0)) (by (with_reducible repeat (first | refine blk_drewN ?_ _ | refine blk_drew ?_ | refine blk_alloc ?_ _)); exact BK261.out) hg (Kd.R_ne HO_5.out BK261.out (by decide))); have n1_ := Aside0.mk (Kd.R_after (ok := (fun _ => True)) (by (with_reducible repeat (first | apply Kd.R_alloc | apply Kd.R_drewN | apply Kd.R_drew)); exact HO289.out) hg hat); have n2_ := Aside0.mk (hb); have n3_ := Aside0.mk (ho); clear BK261; clear HO289; clear HB; clear HO_5; have BK261 := n0_; have HO289 := n1_; have HB := n2_; have HO292 := n3_; clear n0_ n1_ n2_ n3_; clear ho hb hg hat))
                        repeat (go_quiet (first | (go_at_call 56; (with_reducible refine (spec_l3GoodBlock.calls (rd l0_1 x6_2) true _ A17.out).mono ?_); rintro e w' ⟨rfl, ⟨nd, rfl⟩⟩; (try first | exact ⟨rfl, _, World.drewN_drewN _ _ _⟩ | exact ⟨rfl, _, Eq.trans (World.drewN_drewN _ _ _) (congrArg (World.drewN _) (Nat.add_assoc _ _ _))⟩); have p286 : 0 ≤ (x6_2 : Int) := of_decide_eq_true (by first | (with_reducible assumption) | assumption); have q286 : x6_2 < (l0_1.length : Int) := of_decide_eq_true (by first | (with_reducible assumption) | assumption); obtain ⟨ad286, e286, hx286_0⟩ := Kd.at_int HR0_1.out x6_2 p286 q286; obtain rfl : ad272 = ad286 := (by injection e286); replace hx286_0 := (HB.out.cell (World.block_lt_of_cell? w _ hx286_0)).trans hx286_0; replace p286 := eq_true p286; replace q286 := eq_true q286) | (go_at_call 47; (with_reducible refine (spec_PutNumber.calls k2 (rd l0_1 x6_2) 2 t287 _ A33.out).mono ?_); rintro e w36 ⟨v288, rfl, ho0, hb⟩; have n0_ := Aside0.mk (Kd.R_elder' (by (with_reducible repeat (first | apply Kd.R_alloc | apply Kd.R_drewN | apply Kd.R_drew)); exact HO_5.out) (Kd.R_base ho0) hb); have n1_ := Aside0.mk (Kd.R_lower (Kd.R_new' ho0 (Kd.R_lt (by (with_reducible repeat (first | apply Kd.R_alloc | apply Kd.R_drewN | apply Kd.R_drew)); exact HO_5.out))) (below_size (by repeat (first | (with_reducible first | exact HB.out | apply below_alloc | apply pw_below_drewN | apply below_drew1 | refine below_set ?_ GE261.out) | exact HB.out)))); have n2_ := Aside0.mk (blk_below (g := gb261) (o := .cells #[.int .i64 a0_0, .slice (some ad272) l0_1.length c0_1] 34 (0, 0)) (by (with_reducible repeat (first | refine blk_drewN ?_ _ | refine blk_drew ?_ | refine blk_alloc ?_ _)); exact BK261.out) hb); have n3_ := Aside0.mk (below_step (by repeat (first | (with_reducible first | exact HB.out | apply below_alloc | apply pw_below_drewN | apply below_drew1 | refine below_set ?_ GE261.out) | exact HB.out)) hb); clear HO_5; clear BK261; clear HB; have HO_5 := n0_; have HO289 := n1_; have BK261 := n2_; have HB := n3_; clear n0_ n1_ n2_ n3_; (try clear hb); (try clear hb2); (try clear hk); (try clear hi); (try clear ho0); obtain ⟨Ao38, co38, eo38⟩ := Kd.R_slice HO289.out; subst eo38) | ((with_reducible refine gate_builtin (b := .append) (xs := #[.tmp 61, .tmp 67]) rfl ?_); at_builtin; refine Kd.R_append_rows (Kd.int .u8) (w0 := w) w.heap.size rfl (.tmp 61) (.tmp 67) 22 5 (.int .u8 0) 1 rfl Tryd.underlying22 info5 rfl (by decide) (by omega) u5 x5_2 t287 _ _ _ (fun k_ => some k_ ≠ (.slice Ao38 t287.length co38 : Value).ownBlock) (fun _ => False) rfl rfl ?aO ?aR (fun _ _ h => h) (fun _ h => h.elim) ?aF ?aB ?aS ?aL ?_; (case aR => repeat (first | exact (Kd.R_reads' HO289.out).2.2 | (with_reducible refine Kd.C_alloc ?_ _) | (with_reducible refine Kd.C_drewN ?_ _) | (with_reducible refine Kd.C_drew ?_))); (case aB => exact (by repeat (first | (with_reducible first | exact HB.out | apply below_alloc | apply pw_below_drewN | apply below_drew1 | refine below_set ?_ GE261.out) | exact HB.out))); (case aF => exact (fun k_ hk => Kd.fresh' (Kd.R_lt (by (with_reducible repeat (first | apply Kd.R_alloc | apply Kd.R_drewN | apply Kd.R_drew)); exact HO289.out)) k_ hk)); (case aO => exact (by (with_reducible repeat (first | apply Kd.R_alloc | apply Kd.R_drewN | apply Kd.R_drew)); exact Kd.R_mono HO_5.out (fun _ hk => hk.2))); (case aS => exact (below_size (by repeat (first | (with_reducible first | exact HB.out | apply below_alloc | apply pw_below_drewN | apply below_drew1 | refine below_set ?_ GE261.out) | exact HB.out)))); (case aL => have := LMc34.out; omega); intro v291 w37 ho hb hg hat; rw [← Ny290.out] at ho; have n0_ := Aside0.mk (blk_grown (g := gb261) (o := .cells #[.int .i64 a0_0, .slice (some ad272) l0_1.length c0_1] 34 (0, 0)) (by (with_reducible repeat (first | refine blk_drewN ?_ _ | refine blk_drew ?_ | refine blk_alloc ?_ _)); exact BK261.out) hg (Kd.R_ne HO_5.out BK261.out (by decide))); have n1_ := Aside0.mk (Kd.R_after (ok := (fun _ => True)) (by (with_reducible repeat (first | apply Kd.R_alloc | apply Kd.R_drewN | apply Kd.R_drew)); exact HO289.out) hg hat); have n2_ := Aside0.mk (hb); have n3_ := Aside0.mk (ho); clear BK261; clear HO289; clear HB; clear HO_5; have BK261 := n0_; have HO289 := n1_; have HB := n2_; have HO292 := n3_; clear n0_ n1_ n2_ n3_; clear ho hb hg hat)); try go_wp2_with (first | (go_at_call 56; (with_reducible refine (spec_l3GoodBlock.calls (rd l0_1 x6_2) true _ A17.out).mono ?_); rintro e w' ⟨rfl, ⟨nd, rfl⟩⟩; (try first | exact ⟨rfl, _, World.drewN_drewN _ _ _⟩ | exact ⟨rfl, _, Eq.trans (World.drewN_drewN _ _ _) (congrArg (World.drewN _) (Nat.add_assoc _ _ _))⟩); have p286 : 0 ≤ (x6_2 : Int) := of_decide_eq_true (by first | (with_reducible assumption) | assumption); have q286 : x6_2 < (l0_1.length : Int) := of_decide_eq_true (by first | (with_reducible assumption) | assumption); obtain ⟨ad286, e286, hx286_0⟩ := Kd.at_int HR0_1.out x6_2 p286 q286; obtain rfl : ad272 = ad286 := (by injection e286); replace hx286_0 := (HB.out.cell (World.block_lt_of_cell? w _ hx286_0)).trans hx286_0; replace p286 := eq_true p286; replace q286 := eq_true q286) | (go_at_call 47; (with_reducible refine (spec_PutNumber.calls k2 (rd l0_1 x6_2) 2 t287 _ A33.out).mono ?_); rintro e w36 ⟨v288, rfl, ho0, hb⟩; have n0_ := Aside0.mk (Kd.R_elder' (by (with_reducible repeat (first | apply Kd.R_alloc | apply Kd.R_drewN | apply Kd.R_drew)); exact HO_5.out) (Kd.R_base ho0) hb); have n1_ := Aside0.mk (Kd.R_lower (Kd.R_new' ho0 (Kd.R_lt (by (with_reducible repeat (first | apply Kd.R_alloc | apply Kd.R_drewN | apply Kd.R_drew)); exact HO_5.out))) (below_size (by repeat (first | (with_reducible first | exact HB.out | apply below_alloc | apply pw_below_drewN | apply below_drew1 | refine below_set ?_ GE261.out) | exact HB.out)))); have n2_ := Aside0.mk (blk_below (g := gb261) (o := .cells #[.int .i64 a0_0, .slice (some ad272) l0_1.length c0_1] 34 (0, 0)) (by (with_reducible repeat (first | refine blk_drewN ?_ _ | refine blk_drew ?_ | refine blk_alloc ?_ _)); exact BK261.out) hb); have n3_ := Aside0.mk (below_step (by repeat (first | (with_reducible first | exact HB.out | apply below_alloc | apply pw_below_drewN | apply below_drew1 | refine below_set ?_ GE261.out) | exact HB.out)) hb); clear HO_5; clear BK261; clear HB; have HO_5 := n0_; have HO289 := n1_; have BK261 := n2_; have HB := n3_; clear n0_ n1_ n2_ n3_; (try clear hb); (try clear hb2); (try clear hk); (try clear hi); (try clear ho0); obtain ⟨Ao38, co38, eo38⟩ := Kd.R_slice HO289.out; subst eo38) | ((with_reducible refine gate_builtin (b := .append) (xs := #[.tmp 61, .tmp 67]) rfl ?_); at_builtin; refine Kd.R_append_rows (Kd.int .u8) (w0 := w) w.heap.size rfl (.tmp 61) (.tmp 67) 22 5 (.int .u8 0) 1 rfl Tryd.underlying22 info5 rfl (by decide) (by omega) u5 x5_2 t287 _ _ _ (fun k_ => some k_ ≠ (.slice Ao38 t287.length co38 : Value).ownBlock) (fun _ => False) rfl rfl ?aO ?aR (fun _ _ h => h) (fun _ h => h.elim) ?aF ?aB ?aS ?aL ?_; (case aR => repeat (first | exact (Kd.R_reads' HO289.out).2.2 | (with_reducible refine Kd.C_alloc ?_ _) | (with_reducible refine Kd.C_drewN ?_ _) | (with_reducible refine Kd.C_drew ?_))); (case aB => exact (by repeat (first | (with_reducible first | exact HB.out | apply below_alloc | apply pw_below_drewN | apply below_drew1 | refine below_set ?_ GE261.out) | exact HB.out))); (case aF => exact (fun k_ hk => Kd.fresh' (Kd.R_lt (by (with_reducible repeat (first | apply Kd.R_alloc | apply Kd.R_drewN | apply Kd.R_drew)); exact HO289.out)) k_ hk)); (case aO => exact (by (with_reducible repeat (first | apply Kd.R_alloc | apply Kd.R_drewN | apply Kd.R_drew)); exact Kd.R_mono HO_5.out (fun _ hk => hk.2))); (case aS => exact (below_size (by repeat (first | (with_reducible first | exact HB.out | apply below_alloc | apply pw_below_drewN | apply below_drew1 | refine below_set ?_ GE261.out) | exact HB.out)))); (case aL => have := LMc34.out; omega); intro v291 w37 ho hb hg hat; rw [← Ny290.out] at ho; have n0_ := Aside0.mk (blk_grown (g := gb261) (o := .cells #[.int .i64 a0_0, .slice (some ad272) l0_1.length c0_1] 34 (0, 0)) (by (with_reducible repeat (first | refine blk_drewN ?_ _ | refine blk_drew ?_ | refine blk_alloc ?_ _)); exact BK261.out) hg (Kd.R_ne HO_5.out BK261.out (by decide))); have n1_ := Aside0.mk (Kd.R_after (ok := (fun _ => True)) (by (with_reducible repeat (first | apply Kd.R_alloc | apply Kd.R_drewN | apply Kd.R_drew)); exact HO289.out) hg hat); have n2_ := Aside0.mk (hb); have n3_ := Aside0.mk (ho); clear BK261; clear HO289; clear HB; clear HO_5; have BK261 := n0_; have HO289 := n1_; have HB := n2_; have HO292 := n3_; clear n0_ n1_ n2_ n3_; clear ho hb hg hat)))
                        go_roundg k2
                        case measure => have := HJ2.out; have := HK2.out; omega
                        case rel => exact ⟨(y290), (wrap64 (x6_2 + 1)), (by first | rfl | (simp; done) | (simp [*]; done)), H', ⟨by have := HJ2.out; have := HK2.out; omega⟩, ⟨by (with_reducible repeat (first | apply Kd.R_alloc | apply Kd.R_drewN | apply Kd.R_drew)); exact Kd.R_mono HO292.out (fun _ hk => trivial)⟩, ⟨by (with_reducible repeat (first | refine blk_drewN ?_ _ | refine blk_drew ?_ | refine blk_alloc ?_ _)); exact BK261.out⟩, ⟨by repeat (first | (with_reducible first | exact HB.out | apply below_alloc | apply pw_below_drewN | apply below_drew1 | refine below_set ?_ GE261.out) | exact HB.out)⟩⟩
                      · rw [if_neg c34] at H
                        exact absurd H (by simp)
                  · replace c18 := Bool.eq_false_iff.mpr c18
                    subst c18
                    have H1 : (some (([] : List Int))) = some r := by rw [if_neg (show ¬ (false = true) by decide)] at H; exact H
                    clear H
                    have H := H1
                    clear H1
                    obtain ⟨y293, hy293⟩ : ∃ y_ : List Int, y_ = (([] : List Int)) := ⟨_, rfl⟩
                    replace H : (some y293) = some r := by first | (rw [hy293]; with_reducible exact H) | (have H2_ := (Option.bind_some _ _).symm.trans H; rw [hy293]; with_reducible exact H2_) | (have H2_ := (Option.bind_some _ _).symm.trans H; with_reducible exact H2_) | with_reducible exact H | (rw [hy293]; exact H) | exact H
                    have Ny293 := Aside0.mk hy293
                    clear hy293
                    obtain rfl := Option.some.inj H
                    have hcz39_0 : wr.cell? ⟨gb261, 0, none⟩ = some (.int .i64 a0_0) := (blk_cell BK261.out 0).trans rfl
                    have hcz39_1 : wr.cell? ⟨gb261, 1, none⟩ = some (.slice A0_1 l0_1.length c0_1) := (blk_cell BK261.out 1).trans rfl
                    have hfz39_0 := blk_frozen BK261.out 0
                    have hfz39_1 := blk_frozen BK261.out 1
                    have p272 : 0 ≤ (x6_2 : Int) := of_decide_eq_true (by first | (with_reducible assumption) | assumption)
                    have q272 : x6_2 < (l0_1.length : Int) := of_decide_eq_true (by first | (with_reducible assumption) | assumption)
                    obtain ⟨ad272, e272, hx272_0⟩ := Kd.at_int HR0_1.out x6_2 p272 q272
                    cases e272
                    replace hx272_0 := (HB.out.cell (World.block_lt_of_cell? w _ hx272_0)).trans hx272_0
                    replace p272 := eq_true p272
                    replace q272 := eq_true q272
                    go_wp2_with (first | (go_at_call 56; (with_reducible refine (spec_l3GoodBlock.calls (rd l0_1 x6_2) false _ A17.out).mono ?_); rintro e w' ⟨rfl, ⟨nd, rfl⟩⟩; (try first | exact ⟨rfl, _, World.drewN_drewN _ _ _⟩ | exact ⟨rfl, _, Eq.trans (World.drewN_drewN _ _ _) (congrArg (World.drewN _) (Nat.add_assoc _ _ _))⟩)) | ((with_reducible refine gate_dst (N := 60) rfl ?_); refine Kd.R_lit (Kd.int .u8) _ 5 ?hg (N := 60) ?hd (xs := ([] : List Int)) (inner := []) (ok := fun _ => True) (okp := fun _ => True) ?hr ?hp (fun _ hk => hk) trivial (Below.refl _ _) (Nat.le_refl _) (by simp) ?_; (case hd => rfl); (case hg => rfl); (case hr => first | (go_simp; done) | (go_simp; rfl)); (case hp => exact (Reps.none _ _)); intro v294 w40 ho41 hb hg_ hnew_; clear hg_ hnew_; (first | rw [← Ny293.out] at ho41 | (simp only [Int.reduceToNat] at ho41; rw [← Ny293.out] at ho41)); have n0_ := Aside0.mk (Kd.R_elder' (by (with_reducible repeat (first | apply Kd.R_alloc | apply Kd.R_drewN | apply Kd.R_drew)); exact HO_5.out) (Kd.R_base ho41) hb); have n1_ := Aside0.mk (Kd.R_lower (Kd.R_new' ho41 (Kd.R_lt (by (with_reducible repeat (first | apply Kd.R_alloc | apply Kd.R_drewN | apply Kd.R_drew)); exact HO_5.out))) (below_size (by repeat (first | (with_reducible first | exact HB.out | apply below_alloc | apply pw_below_drewN | apply below_drew1 | refine below_set ?_ GE261.out) | exact HB.out)))); have n2_ := Aside0.mk (blk_below (g := gb261) (o := .cells #[.int .i64 a0_0, .slice (some ad272) l0_1.length c0_1] 34 (0, 0)) (by (with_reducible repeat (first | refine blk_drewN ?_ _ | refine blk_drew ?_ | refine blk_alloc ?_ _)); exact BK261.out) hb); have n3_ := Aside0.mk (below_step (by repeat (first | (with_reducible first | exact HB.out | apply below_alloc | apply pw_below_drewN | apply below_drew1 | refine below_set ?_ GE261.out) | exact HB.out)) hb); clear HO_5; clear BK261; clear HB; have HO_5 := n0_; have HO295 := n1_; have BK261 := n2_; have HB := n3_; clear n0_ n1_ n2_ n3_; clear hb ho41))
                    repeat (go_quiet (first | (go_at_call 56; (with_reducible refine (spec_l3GoodBlock.calls (rd l0_1 x6_2) false _ A17.out).mono ?_); rintro e w' ⟨rfl, ⟨nd, rfl⟩⟩; (try first | exact ⟨rfl, _, World.drewN_drewN _ _ _⟩ | exact ⟨rfl, _, Eq.trans (World.drewN_drewN _ _ _) (congrArg (World.drewN _) (Nat.add_assoc _ _ _))⟩)) | ((with_reducible refine gate_dst (N := 60) rfl ?_); refine Kd.R_lit (Kd.int .u8) _ 5 ?hg (N := 60) ?hd (xs := ([] : List Int)) (inner := []) (ok := fun _ => True) (okp := fun _ => True) ?hr ?hp (fun _ hk => hk) trivial (Below.refl _ _) (Nat.le_refl _) (by simp) ?_; (case hd => rfl); (case hg => rfl); (case hr => first | (go_simp; done) | (go_simp; rfl)); (case hp => exact (Reps.none _ _)); intro v294 w40 ho41 hb hg_ hnew_; clear hg_ hnew_; (first | rw [← Ny293.out] at ho41 | (simp only [Int.reduceToNat] at ho41; rw [← Ny293.out] at ho41)); have n0_ := Aside0.mk (Kd.R_elder' (by (with_reducible repeat (first | apply Kd.R_alloc | apply Kd.R_drewN | apply Kd.R_drew)); exact HO_5.out) (Kd.R_base ho41) hb); have n1_ := Aside0.mk (Kd.R_lower (Kd.R_new' ho41 (Kd.R_lt (by (with_reducible repeat (first | apply Kd.R_alloc | apply Kd.R_drewN | apply Kd.R_drew)); exact HO_5.out))) (below_size (by repeat (first | (with_reducible first | exact HB.out | apply below_alloc | apply pw_below_drewN | apply below_drew1 | refine below_set ?_ GE261.out) | exact HB.out)))); have n2_ := Aside0.mk (blk_below (g := gb261) (o := .cells #[.int .i64 a0_0, .slice (some ad272) l0_1.length c0_1] 34 (0, 0)) (by (with_reducible repeat (first | refine blk_drewN ?_ _ | refine blk_drew ?_ | refine blk_alloc ?_ _)); exact BK261.out) hb); have n3_ := Aside0.mk (below_step (by repeat (first | (with_reducible first | exact HB.out | apply below_alloc | apply pw_below_drewN | apply below_drew1 | refine below_set ?_ GE261.out) | exact HB.out)) hb); clear HO_5; clear BK261; clear HB; have HO_5 := n0_; have HO295 := n1_; have BK261 := n2_; have HB := n3_; clear n0_ n1_ n2_ n3_; clear hb ho41)); try go_wp2_with (first | (go_at_call 56; (with_reducible refine (spec_l3GoodBlock.calls (rd l0_1 x6_2) false _ A17.out).mono ?_); rintro e w' ⟨rfl, ⟨nd, rfl⟩⟩; (try first | exact ⟨rfl, _, World.drewN_drewN _ _ _⟩ | exact ⟨rfl, _, Eq.trans (World.drewN_drewN _ _ _) (congrArg (World.drewN _) (Nat.add_assoc _ _ _))⟩)) | ((with_reducible refine gate_dst (N := 60) rfl ?_); refine Kd.R_lit (Kd.int .u8) _ 5 ?hg (N := 60) ?hd (xs := ([] : List Int)) (inner := []) (ok := fun _ => True) (okp := fun _ => True) ?hr ?hp (fun _ hk => hk) trivial (Below.refl _ _) (Nat.le_refl _) (by simp) ?_; (case hd => rfl); (case hg => rfl); (case hr => first | (go_simp; done) | (go_simp; rfl)); (case hp => exact (Reps.none _ _)); intro v294 w40 ho41 hb hg_ hnew_; clear hg_ hnew_; (first | rw [← Ny293.out] at ho41 | (simp only [Int.reduceToNat] at ho41; rw [← Ny293.out] at ho41)); have n0_ := Aside0.mk (Kd.R_elder' (by (with_reducible repeat (first | apply Kd.R_alloc | apply Kd.R_drewN | apply Kd.R_drew)); exact HO_5.out) (Kd.R_base ho41) hb); have n1_ := Aside0.mk (Kd.R_lower (Kd.R_new' ho41 (Kd.R_lt (by (with_reducible repeat (first | apply Kd.R_alloc | apply Kd.R_drewN | apply Kd.R_drew)); exact HO_5.out))) (below_size (by repeat (first | (with_reducible first | exact HB.out | apply below_alloc | apply pw_below_drewN | apply below_drew1 | refine below_set ?_ GE261.out) | exact HB.out)))); have n2_ := Aside0.mk (blk_below (g := gb261) (o := .cells #[.int .i64 a0_0, .slice (some ad272) l0_1.length c0_1] 34 (0, 0)) (by (with_reducible repeat (first | refine blk_drewN ?_ _ | refine blk_drew ?_ | refine blk_alloc ?_ _)); exact BK261.out) hb); have n3_ := Aside0.mk (below_step (by repeat (first | (with_reducible first | exact HB.out | apply below_alloc | apply pw_below_drewN | apply below_drew1 | refine below_set ?_ GE261.out) | exact HB.out)) hb); clear HO_5; clear BK261; clear HB; have HO_5 := n0_; have HO295 := n1_; have BK261 := n2_; have HB := n3_; clear n0_ n1_ n2_ n3_; clear hb ho41)))
                    go_ret
                    exact ⟨_, by first | rfl | (simp [errW_none, errW_some] <;> rfl) | (simp [*, errW_none, errW_some] <;> rfl), by (with_reducible repeat (first | apply Kd.R_alloc | apply Kd.R_drewN | apply Kd.R_drew)); exact Kd.R_mono HO295.out (fun _ hk => trivial), by repeat (first | (with_reducible first | exact HB.out | apply below_alloc | apply pw_below_drewN | apply below_drew1 | refine below_set ?_ GE261.out) | exact HB.out)⟩
                · rw [if_neg c16] at H
                  exact absurd H (by simp)
              · rw [if_neg c15] at H
                exact absurd H (by simp)
            · rw [if_neg c14] at H
              have c14b0 : decide (x6_2 < (l0_1.length : Int)) = false := decide_eq_false c14
              clear c14
              replace H := Option.bind_eq_some_iff.mp H
              obtain ⟨t269, A420, H⟩ := H
              replace H : (some t269) = some r := H
              have A42 := Aside0.mk A420
              clear A420
              obtain rfl := Option.some.inj H
              obtain ⟨Ao43, co43, eo43⟩ := Kd.R_slice HO_5.out
              subst eo43
              go_wp2_with (first | (go_at_call 44; (with_reducible refine (spec_l3Pad.calls _ _ x5_2 t269 _ ?side1 ?side2 A42.out).mono ?_); (case side1 => repeat (first | exact (Kd.R_reads' HO_5.out).2.2 | (with_reducible refine Kd.C_alloc ?_ _) | (with_reducible refine Kd.C_drewN ?_ _) | (with_reducible refine Kd.C_drew ?_))); (case side2 => exact (Kd.R_reads' HO_5.out).2.1); rintro e w44 ⟨v270, rfl, ho0, hb⟩; have n0_ := Aside0.mk (Kd.R_elder' (by (with_reducible repeat (first | apply Kd.R_alloc | apply Kd.R_drewN | apply Kd.R_drew)); exact HO_5.out) (Kd.R_base ho0) hb); have n1_ := Aside0.mk (Kd.R_lower (Kd.R_new' ho0 (Kd.R_lt (by (with_reducible repeat (first | apply Kd.R_alloc | apply Kd.R_drewN | apply Kd.R_drew)); exact HO_5.out))) (below_size (by repeat (first | (with_reducible first | exact HB.out | apply below_alloc | apply pw_below_drewN | apply below_drew1 | refine below_set ?_ GE261.out) | exact HB.out)))); have n2_ := Aside0.mk (blk_below (g := gb261) (o := .cells #[.int .i64 a0_0, .slice A0_1 l0_1.length c0_1] 34 (0, 0)) (by (with_reducible repeat (first | refine blk_drewN ?_ _ | refine blk_drew ?_ | refine blk_alloc ?_ _)); exact BK261.out) hb); have n3_ := Aside0.mk (below_step (by repeat (first | (with_reducible first | exact HB.out | apply below_alloc | apply pw_below_drewN | apply below_drew1 | refine below_set ?_ GE261.out) | exact HB.out)) hb); clear HO_5; clear BK261; clear HB; have HO_5 := n0_; have HO271 := n1_; have BK261 := n2_; have HB := n3_; clear n0_ n1_ n2_ n3_; (try clear hb); (try clear hb2); (try clear hk); (try clear hi); (try clear ho0)))
              repeat (go_quiet (first | (go_at_call 44; (with_reducible refine (spec_l3Pad.calls _ _ x5_2 t269 _ ?side1 ?side2 A42.out).mono ?_); (case side1 => repeat (first | exact (Kd.R_reads' HO_5.out).2.2 | (with_reducible refine Kd.C_alloc ?_ _) | (with_reducible refine Kd.C_drewN ?_ _) | (with_reducible refine Kd.C_drew ?_))); (case side2 => exact (Kd.R_reads' HO_5.out).2.1); rintro e w44 ⟨v270, rfl, ho0, hb⟩; have n0_ := Aside0.mk (Kd.R_elder' (by (with_reducible repeat (first | apply Kd.R_alloc | apply Kd.R_drewN | apply Kd.R_drew)); exact HO_5.out) (Kd.R_base ho0) hb); have n1_ := Aside0.mk (Kd.R_lower (Kd.R_new' ho0 (Kd.R_lt (by (with_reducible repeat (first | apply Kd.R_alloc | apply Kd.R_drewN | apply Kd.R_drew)); exact HO_5.out))) (below_size (by repeat (first | (with_reducible first | exact HB.out | apply below_alloc | apply pw_below_drewN | apply below_drew1 | refine below_set ?_ GE261.out) | exact HB.out)))); have n2_ := Aside0.mk (blk_below (g := gb261) (o := .cells #[.int .i64 a0_0, .slice A0_1 l0_1.length c0_1] 34 (0, 0)) (by (with_reducible repeat (first | refine blk_drewN ?_ _ | refine blk_drew ?_ | refine blk_alloc ?_ _)); exact BK261.out) hb); have n3_ := Aside0.mk (below_step (by repeat (first | (with_reducible first | exact HB.out | apply below_alloc | apply pw_below_drewN | apply below_drew1 | refine below_set ?_ GE261.out) | exact HB.out)) hb); clear HO_5; clear BK261; clear HB; have HO_5 := n0_; have HO271 := n1_; have BK261 := n2_; have HB := n3_; clear n0_ n1_ n2_ n3_; (try clear hb); (try clear hb2); (try clear hk); (try clear hi); (try clear ho0))); try go_wp2_with (first | (go_at_call 44; (with_reducible refine (spec_l3Pad.calls _ _ x5_2 t269 _ ?side1 ?side2 A42.out).mono ?_); (case side1 => repeat (first | exact (Kd.R_reads' HO_5.out).2.2 | (with_reducible refine Kd.C_alloc ?_ _) | (with_reducible refine Kd.C_drewN ?_ _) | (with_reducible refine Kd.C_drew ?_))); (case side2 => exact (Kd.R_reads' HO_5.out).2.1); rintro e w44 ⟨v270, rfl, ho0, hb⟩; have n0_ := Aside0.mk (Kd.R_elder' (by (with_reducible repeat (first | apply Kd.R_alloc | apply Kd.R_drewN | apply Kd.R_drew)); exact HO_5.out) (Kd.R_base ho0) hb); have n1_ := Aside0.mk (Kd.R_lower (Kd.R_new' ho0 (Kd.R_lt (by (with_reducible repeat (first | apply Kd.R_alloc | apply Kd.R_drewN | apply Kd.R_drew)); exact HO_5.out))) (below_size (by repeat (first | (with_reducible first | exact HB.out | apply below_alloc | apply pw_below_drewN | apply below_drew1 | refine below_set ?_ GE261.out) | exact HB.out)))); have n2_ := Aside0.mk (blk_below (g := gb261) (o := .cells #[.int .i64 a0_0, .slice A0_1 l0_1.length c0_1] 34 (0, 0)) (by (with_reducible repeat (first | refine blk_drewN ?_ _ | refine blk_drew ?_ | refine blk_alloc ?_ _)); exact BK261.out) hb); have n3_ := Aside0.mk (below_step (by repeat (first | (with_reducible first | exact HB.out | apply below_alloc | apply pw_below_drewN | apply below_drew1 | refine below_set ?_ GE261.out) | exact HB.out)) hb); clear HO_5; clear BK261; clear HB; have HO_5 := n0_; have HO271 := n1_; have BK261 := n2_; have HB := n3_; clear n0_ n1_ n2_ n3_; (try clear hb); (try clear hb2); (try clear hk); (try clear hi); (try clear ho0))))
              go_ret
              exact ⟨_, by first | rfl | (simp [errW_none, errW_some] <;> rfl) | (simp [*, errW_none, errW_some] <;> rfl), by (with_reducible repeat (first | apply Kd.R_alloc | apply Kd.R_drewN | apply Kd.R_drew)); exact Kd.R_mono HO271.out (fun _ hk => trivial), by repeat (first | (with_reducible first | exact HB.out | apply below_alloc | apply pw_below_drewN | apply below_drew1 | refine below_set ?_ GE261.out) | exact HB.out)⟩
end Go.Proofs.YticeddapnafomaaDoor.PE
