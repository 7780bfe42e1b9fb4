-- Written by a program of this session (gprint.py, over the kit's print). Not trusted: Lean checks it.
import Derived.Test.YtlnjphkcnkdmlaaDoorPDx0
import Derived.Test.YtlnjphkcnkdmlaaDoorPDx1
import Derived.Test.YtlnjphkcnkdmlaaDoorPDx3
import Derived.Test.YtlnjphkcnkdmlaaDoorPDx6
import Derived.Test.YtlnjphkcnkdmlaaDoorGivenN
namespace Go.Proofs.YtlnjphkcnkdmlaaDoor.PD
open Go.RowKit Go.Proofs.YtlnjphkcnkdmlaaDoorW.PrintWords Go.Proofs.YtlnjphkcnkdmlaaDoorW.PrintLast Go.Proofs.YtlnjphkcnkdmlaaDoorW.PrintMore
attribute [local go_sem] max2_int min2_int max_two min_two max_three min_three max_four min_four   -- for this text's walks alone
set_option linter.unusedVariables false
set_option linter.unusedSimpArgs false

/-! ### laws_FnPaths: function 4 -/
def laws_FnPaths.l0 : Nat → ByteArray → ByteArray → Int → Int → List ByteArray → Option (Bool)
  | 0, _, _, _, _, _ => none
  | k + 1, x3, x5, x6, x239000, x239001 => if x6 < (x239001.length : Int) then (if 0 ≤ x6 then ((impl_ValidName.f (rdOf ByteArray.empty x239001 x6)).bind fun t244 => (if t244 = true then (if x5.size + 1 ≤ 9223372036854775807 then (if (x5 ++ (⟨#[47]⟩ : ByteArray)).size + (rdOf ByteArray.empty x239001 x6).size ≤ 9223372036854775807 then (laws_FnPaths.l0 k x3 ((x5 ++ (⟨#[47]⟩ : ByteArray)) ++ (rdOf ByteArray.empty x239001 x6)) (wrap64 (x6 + 1)) x239000 x239001) else (none)) else (none)) else (some false))) else (none)) else (if (x239001.length : Int) = 0 then (if ([47] : List UInt8) = x3.toList then (if (x239001.length : Int) ≤ 16 then (if x3.size + 1 ≤ 9223372036854775807 then ((impl_SplitPath.f k (x3 ++ (⟨#[47]⟩ : ByteArray))).bind fun bt246 => (if bt246.1 = 0 then (some false) else (if 1 + x3.size ≤ 9223372036854775807 then ((impl_SplitPath.f k ((⟨#[120]⟩ : ByteArray) ++ x3)).bind fun bt250 => (if bt250.1 = 30 then ((impl_ValidName.f x3).bind fun t254 => (some (!t254))) else (some false))) else (none)))) else (none)) else (some false)) else (some false)) else (if x5.toList = x3.toList then (if (x239001.length : Int) ≤ 16 then (if x3.size + 1 ≤ 9223372036854775807 then ((impl_SplitPath.f k (x3 ++ (⟨#[47]⟩ : ByteArray))).bind fun bt255 => (if bt255.1 = 0 then (some false) else (if 1 + x3.size ≤ 9223372036854775807 then ((impl_SplitPath.f k ((⟨#[120]⟩ : ByteArray) ++ x3)).bind fun bt259 => (if bt259.1 = 30 then ((impl_ValidName.f x3).bind fun t263 => (some (!t263))) else (some false))) else (none)))) else (none)) else (some false)) else (some false)))
def laws_FnPaths.f (k : Nat) (l0 : List Int) : Option (Bool) := if (l0.length : Int) > 1048576 then (some true) else ((spec_DrawSplitPath.f k l0).bind fun t233 => ((impl_SplitPath.f k t233).bind fun bt234 => ((spec_SplitPath.f k t233).bind fun bt239 => (if bt234.1 = bt239.1 then (if bt234.1 = 0 then (laws_FnPaths.l0 k t233 (⟨#[]⟩ : ByteArray) 0 bt234.1 bt234.2) else (some ((bt234.2.length : Int) == 0))) else (some false)))))
theorem laws_FnPaths.l0_zero : ∀ y0 y1 y2 y3 y4, laws_FnPaths.l0 0 y0 y1 y2 y3 y4 = none := fun _ _ _ _ _ => rfl
theorem laws_FnPaths.mono_l : ∀ k, (∀ y0 y1 y2 y3 y4, LeO (laws_FnPaths.l0 k y0 y1 y2 y3 y4) (laws_FnPaths.l0 (k + 1) y0 y1 y2 y3 y4))
  | 0 => fun _ _ _ _ _ r h => absurd ((laws_FnPaths.l0_zero _ _ _ _ _).symm.trans h) (by simp)
  | k + 1 => by
    have ih0 := laws_FnPaths.mono_l k
    · intro y0 y1 y2 y3 y4
      unfold laws_FnPaths.l0
      repeat' first
      | (with_reducible exact ih0 _ _ _ _ _)
      | (with_reducible exact impl_SplitPath.mono _ _)
      | (with_reducible exact spec_DrawSplitPath.mono _ _)
      | (with_reducible exact spec_SplitPath.mono _ _)
      | (with_reducible exact LeO.refl _)
      | (with_reducible exact LeO.none _)
      | (with_reducible refine LeO.ite ?_ ?_)
      | (with_reducible refine LeO.bind ?_ (fun _ => ?_))
      | exact ih0 _ _ _ _ _
      | exact impl_SplitPath.mono _ _
      | exact spec_DrawSplitPath.mono _ _
      | exact spec_SplitPath.mono _ _
      | exact LeO.none _
      | refine LeO.ite ?_ ?_
      | refine LeO.bind ?_ (fun _ => ?_)
theorem laws_FnPaths.mono : ∀ a0 k, LeO (laws_FnPaths.f k a0) (laws_FnPaths.f (k + 1) a0) := by
  intro a0 k
  have ih0 := laws_FnPaths.mono_l k
  unfold laws_FnPaths.f
  repeat' first
      | (with_reducible exact ih0 _ _ _ _ _)
      | (with_reducible exact impl_SplitPath.mono _ _)
      | (with_reducible exact spec_DrawSplitPath.mono _ _)
      | (with_reducible exact spec_SplitPath.mono _ _)
      | (with_reducible exact LeO.refl _)
      | (with_reducible exact LeO.none _)
      | (with_reducible refine LeO.ite ?_ ?_)
      | (with_reducible refine LeO.bind ?_ (fun _ => ?_))
      | exact ih0 _ _ _ _ _
      | exact impl_SplitPath.mono _ _
      | exact spec_DrawSplitPath.mono _ _
      | exact spec_SplitPath.mono _ _
      | exact LeO.none _
      | refine LeO.ite ?_ ?_
      | refine LeO.bind ?_ (fun _ => ?_)
set_option maxHeartbeats 8000000 in
set_option maxRecDepth 100000 in
theorem laws_FnPaths.calls (k : Nat) (A0 : Option Addr) (c0 : Nat) (l0 : List Int) (r : Bool) (w : World) (hr0 : Kd.C (Kd.int .u8) w A0 l0.length l0) (hc0 : l0.length ≤ c0) (h : laws_FnPaths.f k l0 = some r) (s_ : Int) (hG_ : Glob s_ w) :
    Calls Tryd.prog 4 #[.slice A0 l0.length c0] w fun e w' => e = .returned (.bool r) ∧ Below w.heap.size w w' := by
  have HGLOB := Aside0.mk hG_
  clear hG_
  have hu24 := Tryd.underlying24
  have hfd24 : ∀ (n : Int) (v : Value) (W : World), (Instr.field 24 (.agg #[.int .i64 n, v]) 0).run Tryd.prog W = .ok (.int .i64 n) W := fun n v W => by kernel_rfl
  have HR0 := Aside0.mk hr0
  have HC0 := Aside0.mk hc0
  clear hr0 hc0
  have HB := Aside0.mk (Below.refl w.heap.size w)
  have H : (if (l0.length : Int) > 1048576 then (some true) else ((spec_DrawSplitPath.f k l0).bind fun t233 => ((impl_SplitPath.f k t233).bind fun bt234 => ((spec_SplitPath.f k t233).bind fun bt239 => (if bt234.1 = bt239.1 then (if bt234.1 = 0 then (laws_FnPaths.l0 k t233 (⟨#[]⟩ : ByteArray) 0 bt234.1 bt234.2) else (some ((bt234.2.length : Int) == 0))) else (some false)))))) = some r := h
  clear h
  by_cases c2 : (l0.length : Int) > 1048576
  · rw [if_pos c2] at H
    have c2b0 : decide (1048576 < (l0.length : Int)) = true := decide_eq_true c2
    have c2b1 : decide (1048576 < l0.length) = true := decide_eq_true (by omega)
    clear c2
    obtain rfl := Option.some.inj H
    go_enter Tryd.func4, Tryd.ntmps4
    go_wp2
    go_ret
    exact ⟨by first | rfl | (simp [errW_none, errW_some] <;> rfl) | (simp [*, errW_none, errW_some] <;> rfl), by repeat (first | (with_reducible first | exact HB.out | apply below_alloc | apply pw_below_drewN | apply below_drew1) | exact HB.out)⟩
  · rw [if_neg c2] at H
    have c2b0 : decide (1048576 < (l0.length : Int)) = false := decide_eq_false c2
    have c2b1 : decide (1048576 < l0.length) = false := decide_eq_false (by omega)
    clear c2
    replace H := Option.bind_eq_some_iff.mp H
    obtain ⟨t233, A30, H⟩ := H
    replace H : ((impl_SplitPath.f k t233).bind fun bt234 => ((spec_SplitPath.f k t233).bind fun bt239 => (if bt234.1 = bt239.1 then (if bt234.1 = 0 then (laws_FnPaths.l0 k t233 (⟨#[]⟩ : ByteArray) 0 bt234.1 bt234.2) else (some ((bt234.2.length : Int) == 0))) else (some false)))) = some r := H
    have A3 := Aside0.mk A30
    clear A30
    replace H := Option.bind_eq_some_iff.mp H
    obtain ⟨⟨t234, t235⟩, A40, H⟩ := H
    replace H : ((spec_SplitPath.f k t233).bind fun bt239 => (if t234 = bt239.1 then (if t234 = 0 then (laws_FnPaths.l0 k t233 (⟨#[]⟩ : ByteArray) 0 t234 t235) else (some ((t235.length : Int) == 0))) else (some false))) = some r := H
    have A4 := Aside0.mk A40
    clear A40
    replace H := Option.bind_eq_some_iff.mp H
    obtain ⟨⟨t239, t240⟩, A50, H⟩ := H
    replace H : (if t234 = t239 then (if t234 = 0 then (laws_FnPaths.l0 k t233 (⟨#[]⟩ : ByteArray) 0 t234 t235) else (some ((t235.length : Int) == 0))) else (some false)) = some r := H
    have A5 := Aside0.mk A50
    clear A50
    by_cases c6 : t234 = t239
    · rw [if_pos c6] at H
      have c6b0 : (t234 == t239) = true := beq_iff_eq.mpr c6
      have c6b1 : (t234 != t239) = false := bne_eq_false_iff_eq.mpr c6
      clear c6
      by_cases c7 : t234 = 0
      · rw [if_pos c7] at H
        have c7b0 : (t234 == 0) = true := beq_iff_eq.mpr c7
        have c7b1 : (t234 != 0) = false := bne_eq_false_iff_eq.mpr c7
        clear c7
        have H' := Aside0.mk H
        clear H
        go_enter Tryd.func4, Tryd.ntmps4
        try go_wp2_with (first | ((with_reducible refine gate_callee (f := 10) rfl ?_); refine goesL_ (some 11) rfl rfl Tryd.func10 (by kernel_rfl) rfl #[.slice A0 l0.length c0] rfl (by (try simp only [List.map_toArray, List.map_cons, List.map_nil]); first | done | rfl | (simp only [List.length_drop, List.length_take]; rfl)) ?_; (with_reducible refine (spec_DrawSplitPath.calls k _ _ l0 t233 _ ?side1 ?side2 A3.out).mono ?_); (case side1 => repeat (first | exact HR0.out | (with_reducible refine Kd.C_alloc ?_ _) | (with_reducible refine Kd.C_drewN ?_ _) | (with_reducible refine Kd.C_drew ?_))); (case side2 => exact HC0.out); rintro e w8 ⟨rfl, hb⟩; refine ⟨_, rfl, ?_⟩; have n0_ := Aside0.mk (below_step (by repeat (first | (with_reducible first | exact HB.out | apply below_alloc | apply pw_below_drewN | apply below_drew1) | exact HB.out)) hb); clear HB; have HB := n0_; clear n0_; (try clear hb); (try clear hb2); (try clear hk); (try clear hi)) | ((with_reducible refine gate_callee (f := 6) rfl ?_); refine goesL_ (some 13) rfl rfl Tryd.func6 (by kernel_rfl) rfl #[.string t233] rfl (by (try simp only [List.map_toArray, List.map_cons, List.map_nil]); first | done | rfl | (simp only [List.length_drop, List.length_take]; rfl)) ?_; (with_reducible refine (impl_SplitPath.calls k t233 t234 t235 _ A4.out _ (Glob.below HGLOB.out ?sideg)).mono ?_); (case sideg => repeat (first | (with_reducible first | exact HB.out | apply below_alloc | apply pw_below_drewN | apply below_drew1) | exact HB.out | (refine below_set ?_ GE238.out))); rintro e w9 ⟨v236, rfl, ho0, hb⟩; refine ⟨_, rfl, ?_⟩; have n0_ := Aside0.mk (Kd.R_lower ho0 (below_size (by repeat (first | (with_reducible first | exact HB.out | apply below_alloc | apply pw_below_drewN | apply below_drew1) | exact HB.out)))); have n1_ := Aside0.mk (below_step (by repeat (first | (with_reducible first | exact HB.out | apply below_alloc | apply pw_below_drewN | apply below_drew1) | exact HB.out)) hb); clear HB; have HO237 := n0_; have HB := n1_; clear n0_ n1_; (try clear hb); (try clear hb2); (try clear hk); (try clear hi); (try clear ho0)) | ((with_reducible refine gate_dst (N := 4) rfl ?_); (try (refine gate_guard (by rfl) ?_; dsimp only)); refine box_event ?hg (N := 4) ?hd (cs := #[.int .i64 0, .slice none 0 0]) (t := 24) ?hr ?_; (case hd => rfl); (case hg => rfl); (case hr => first | (go_simp; done) | (go_simp; rfl)); intro gb238 hg w10 hbox hb; have n0_ := Aside0.mk (Kd.R_below (by (with_reducible repeat (first | apply Kd.R_alloc | apply Kd.R_drewN | apply Kd.R_drew)); exact HO237.out) hb); have n1_ := Aside0.mk (below_step (by repeat (first | (with_reducible first | exact HB.out | apply below_alloc | apply pw_below_drewN | apply below_drew1) | exact HB.out)) hb); have n2_ := Aside0.mk (hbox); have n3_ := Aside0.mk ((by rw [hg]; exact (below_size (by repeat (first | (with_reducible first | exact HB.out | apply below_alloc | apply pw_below_drewN | apply below_drew1) | exact HB.out))) : w.heap.size ≤ gb238)); have n4_ := Aside0.mk ((by rw [hg]; exact (below_size (by repeat (first | (with_reducible first | exact HB.out | apply below_alloc | apply pw_below_drewN | apply below_drew1) | exact HB.out))) : w.heap.size ≤ gb238)); clear HO237; clear HB; have HO237 := n0_; have HB := n1_; have BK238 := n2_; have GW238 := n3_; have GE238 := n4_; clear n0_ n1_ n2_ n3_ n4_; clear hb hbox hg; have hcz11_0 : w10.cell? ⟨gb238, 0, none⟩ = some (.int .i64 0) := (blk_cell BK238.out 0).trans rfl; have hcz11_1 : w10.cell? ⟨gb238, 1, none⟩ = some (.slice none 0 0) := (blk_cell BK238.out 1).trans rfl; have hfz11_0 := blk_frozen BK238.out 0; have hfz11_1 := blk_frozen BK238.out 1; obtain ⟨Ao12, co12, eo12⟩ := Kd.R_slice HO237.out; subst eo12))
        have n0_ : Aside0 (Kd.R Kd.string 9 ((w10.setCell ⟨gb238, 0, none⟩ (.int .i64 t234)).setCell ⟨gb238, 1, none⟩ (.slice Ao12 t235.length co12)) w.heap.size (fun _ => True) (.slice Ao12 t235.length co12) t235) := ⟨by (with_reducible repeat (first | apply Kd.R_alloc | apply Kd.R_drewN | apply Kd.R_drew)); exact Kd.R_mono (Kd.R_far (p := ⟨gb238, 1, none⟩) (Kd.R_far (p := ⟨gb238, 0, none⟩) (Kd.R_types HO237.out BK238.out (by decide)) (fun _ hk => hk.2) (.int .i64 t234)) (fun _ hk => hk.2) (.slice Ao12 t235.length co12)) (fun _ hk => trivial)⟩
        have n1_ : Aside0 (((w10.setCell ⟨gb238, 0, none⟩ (.int .i64 t234)).setCell ⟨gb238, 1, none⟩ (.slice Ao12 t235.length co12)).heap[gb238]? = some (.cells #[.int .i64 t234, .slice Ao12 t235.length co12] 24 (0, 0))) := ⟨by (with_reducible repeat (first | refine blk_drewN ?_ _ | refine blk_drew ?_ | refine blk_alloc ?_ _)); refine blk_put (cs := #[.int .i64 t234, .slice none 0 0]) ?_ 1 _ rfl; (with_reducible repeat (first | refine blk_drewN ?_ _ | refine blk_drew ?_ | refine blk_alloc ?_ _)); refine blk_put (cs := #[.int .i64 0, .slice none 0 0]) ?_ 0 _ rfl; (with_reducible repeat (first | refine blk_drewN ?_ _ | refine blk_drew ?_ | refine blk_alloc ?_ _)); exact BK238.out⟩
        have n2_ : Aside0 (Below w.heap.size w ((w10.setCell ⟨gb238, 0, none⟩ (.int .i64 t234)).setCell ⟨gb238, 1, none⟩ (.slice Ao12 t235.length co12))) := ⟨by repeat (first | (with_reducible first | exact HB.out | apply below_alloc | apply pw_below_drewN | apply below_drew1 | refine below_set ?_ GE238.out) | exact HB.out)⟩
        (try clear HO237)
        (try clear BK238)
        (try clear HB)
        generalize ((w10.setCell ⟨gb238, 0, none⟩ (.int .i64 t234)).setCell ⟨gb238, 1, none⟩ (.slice Ao12 t235.length co12)) = w13 at n0_ n1_ n2_ ⊢
        have HO237 := n0_
        have BK238 := n1_
        have HB := n2_
        clear n0_ n1_ n2_
        have n0_ := Aside0.mk (Kd.R_drew HO237.out)
        have n1_ := Aside0.mk (blk_drew BK238.out)
        have n2_ := Aside0.mk (below_drew1 HB.out)
        clear HO237
        clear BK238
        clear HB
        have HO237 := n0_
        have BK238 := n1_
        have HB := n2_
        clear n0_ n1_ n2_
        refine start_ (n := 6) (S := fun w' => w'.cell? ⟨gb238, 0, none⟩ = some (.int .i64 t234) ∧ w'.cell? ⟨gb238, 1, none⟩ = some (.slice Ao12 t235.length co12)) (ds := []) #[false, false, false, false, false, false] (by kernel_rfl) rfl rfl ⟨(blk_cell BK238.out 0).trans rfl, (blk_cell BK238.out 1).trans rfl⟩ (fun hHeld => ?_)
        generalize w13.drew = w14 at HO237 BK238 HB hHeld ⊢
        refine pure_ (i := 0) (N := some 14) (v := ?_) (a' := ?_) #[true, false, false, false, false, false] rfl rfl (by kernel_rfl) (fun _ _ _ h => h) (Or.inl ⟨by rfl, ?_⟩) ?_ ?_
        rotate_left
        · intro w'
          go_simp
          with_reducible rfl
        rotate_left
        · simp only [Act.put, List.setIfInBounds_toArray, List.set_cons_zero, List.set_cons_succ, i64_w, i32_w]
          rfl
        refine pure_ (i := 2) (N := some 16) (v := ?_) (a' := ?_) #[true, false, true, false, false, false] rfl rfl (by kernel_rfl) (fun _ _ _ h => h) (Or.inl ⟨by rfl, ?_⟩) ?_ ?_
        rotate_left
        · intro w'
          go_simp
          with_reducible rfl
        rotate_left
        · simp only [Act.put, List.setIfInBounds_toArray, List.set_cons_zero, List.set_cons_succ, i64_w, i32_w]
          rfl
        refine take_ (i := 1) (N := some 15) (v := ?_) (a' := ?_) #[true, true, true, false, false, false] rfl rfl (by kernel_rfl) (fun _ _ _ h => h) (Or.inl ⟨by rfl, ?_⟩) hHeld ?_ ?_
        rotate_left
        · rintro w' ⟨s0, s1⟩
          go_simp
          with_reducible rfl
        rotate_left
        · simp only [Act.put, List.setIfInBounds_toArray, List.set_cons_zero, List.set_cons_succ, i64_w, i32_w]
          rfl
        refine one_ (i := 3) (N := some 17) #[true, true, true, true, false, false] rfl rfl (by kernel_rfl) (by decide) (fun K hK => ?_)
        refine goes_ Tryd.func5 (by kernel_rfl) rfl #[.string t233] (by rfl) rfl rfl (by (try simp only [List.map_toArray, List.map_cons, List.map_nil]); first | done | rfl | (simp only [List.length_drop, List.length_take]; rfl)) ?_
        with_reducible refine (spec_SplitPath.calls k t233 t239 t240 _ A5.out).mono ?_
        rintro e w15 ⟨v241, rfl, ho0, hb⟩
        refine ⟨_, rfl, ?_⟩
        have n0_ := Aside0.mk (Kd.R_elder' (by (with_reducible repeat (first | apply Kd.R_alloc | apply Kd.R_drewN | apply Kd.R_drew)); exact HO237.out) (Kd.R_base ho0) hb)
        have n1_ := Aside0.mk (Kd.R_lower (Kd.R_new' ho0 (Kd.R_lt (by (with_reducible repeat (first | apply Kd.R_alloc | apply Kd.R_drewN | apply Kd.R_drew)); exact HO237.out))) (below_size (by repeat (first | (with_reducible first | exact HB.out | apply below_alloc | apply pw_below_drewN | apply below_drew1 | refine below_set ?_ GE238.out) | exact HB.out))))
        have n2_ := Aside0.mk (blk_below (g := gb238) (o := .cells #[.int .i64 t234, .slice Ao12 t235.length co12] 24 (0, 0)) (by (with_reducible repeat (first | refine blk_drewN ?_ _ | refine blk_drew ?_ | refine blk_alloc ?_ _)); exact BK238.out) hb)
        have n3_ := Aside0.mk (below_step (by repeat (first | (with_reducible first | exact HB.out | apply below_alloc | apply pw_below_drewN | apply below_drew1 | refine below_set ?_ GE238.out) | exact HB.out)) hb)
        clear HO237
        clear BK238
        clear HB
        have HO237 := n0_
        have HO242 := n1_
        have BK238 := n2_
        have HB := n3_
        clear n0_ n1_ n2_ n3_
        (try clear hb)
        (try clear hb2)
        (try clear hk)
        (try clear hi)
        (try clear ho0)
        refine hK.out _ _ ⟨(blk_cell BK238.out 0).trans rfl, (blk_cell BK238.out 1).trans rfl⟩ (fun hHeld => ?_)
        clear hK K
        refine norm_ (a' := ?_) ?_ ?_
        rotate_left
        · show Act.put _ (some 17) _ = _
          simp only [Act.put, List.setIfInBounds_toArray, List.set_cons_zero, List.set_cons_succ, i64_w, i32_w]
          rfl
        refine pure_ (i := 4) (N := some 18) (v := ?_) (a' := ?_) #[true, true, true, true, true, false] rfl rfl (by kernel_rfl) (fun _ _ _ h => h) (Or.inl ⟨by rfl, ?_⟩) ?_ ?_
        rotate_left
        · intro w'
          go_simp
          with_reducible rfl
        rotate_left
        · simp only [Act.put, List.setIfInBounds_toArray, List.set_cons_zero, List.set_cons_succ, i64_w, i32_w]
          rfl
        refine pure_ (i := 5) (N := some 19) (v := ?_) (a' := ?_) #[true, true, true, true, true, true] rfl rfl (by kernel_rfl) (fun _ _ _ h => h) (Or.inl ⟨by rfl, ?_⟩) ?_ ?_
        rotate_left
        · intro w'
          go_simp
          with_reducible rfl
        rotate_left
        · simp only [Act.put, List.setIfInBounds_toArray, List.set_cons_zero, List.set_cons_succ, i64_w, i32_w]
          rfl
        refine done_ (by kernel_rfl) ?_
        have hcz16_0 : w15.cell? ⟨gb238, 0, none⟩ = some (.int .i64 t234) := (blk_cell BK238.out 0).trans rfl
        have hcz16_1 : w15.cell? ⟨gb238, 1, none⟩ = some (.slice Ao12 t235.length co12) := (blk_cell BK238.out 1).trans rfl
        have hfz16_0 := blk_frozen BK238.out 0
        have hfz16_1 := blk_frozen BK238.out 1
        try go_wp2
        go_loopg [5, 6] k (fun kq v5 v6 w' => ∃ (x5_1 : ByteArray) (x6_1 : Int), v5 = .string x5_1 ∧ v6 = .int .i64 x6_1 ∧ Aside0 (laws_FnPaths.l0 kq t233 x5_1 x6_1 t234 t235 = some r) ∧ Aside0 (kq ≤ k) ∧ Aside0 (Kd.R Kd.string 9 w' w.heap.size (fun _ => True) (.slice Ao12 t235.length co12) t235) ∧ Aside0 (w'.heap[gb238]? = some (.cells #[.int .i64 t234, (.slice Ao12 t235.length co12)] 24 (0, 0))) ∧ Aside0 (Below w.heap.size w w'))
        case atStart => exact ⟨((⟨#[]⟩ : ByteArray)), (0), (by first | rfl | (simp; done) | (simp [*]; done)), (by first | rfl | (simp; done) | (simp [*]; done)), H', ⟨Nat.le_refl _⟩, ⟨by (with_reducible repeat (first | apply Kd.R_alloc | apply Kd.R_drewN | apply Kd.R_drew)); exact Kd.R_mono HO237.out (fun _ hk => trivial)⟩, ⟨by (with_reducible repeat (first | refine blk_drewN ?_ _ | refine blk_drew ?_ | refine blk_alloc ?_ _)); exact BK238.out⟩, ⟨by repeat (first | (with_reducible first | exact HB.out | apply below_alloc | apply pw_below_drewN | apply below_drew1 | refine below_set ?_ GE238.out) | exact HB.out)⟩⟩
        case round =>
          clear H'
          try clear c1
          try clear c2
          try clear c2b0
          try clear c2b1
          try clear p2
          try clear c4
          try clear c5
          try clear c6
          try clear c6b0
          try clear c6b1
          try clear c7
          try clear c7b0
          try clear c7b1
          try clear c10
          try clear hcz11_0
          try clear hcz11_1
          try clear hcz16_0
          try clear hcz16_1
          try clear hfz11_0
          try clear hfz11_1
          try clear hfz16_0
          try clear hfz16_1
          obtain ⟨x5_1, x6_1, rfl, rfl, HA, HK1, HO_239001, BK238, HB⟩ := hrel
          cases gk with
          | zero => have h_ := HA.out; rw [laws_FnPaths.l0_zero] at h_; cases h_
          | succ k1 =>
            have H := HA.out
            clear HA
            unfold laws_FnPaths.l0 at H
            by_cases c17 : x6_1 < (t235.length : Int)
            · rw [if_pos c17] at H
              have c17b0 : decide (x6_1 < (t235.length : Int)) = true := decide_eq_true c17
              clear c17
              by_cases c18 : 0 ≤ x6_1
              · rw [if_pos c18] at H
                have c18b0 : decide (0 ≤ x6_1) = true := decide_eq_true c18
                clear c18
                replace H := Option.bind_eq_some_iff.mp H
                obtain ⟨t244, A190, H⟩ := H
                replace H : (if t244 = true then (if x5_1.size + 1 ≤ 9223372036854775807 then (if (x5_1 ++ (⟨#[47]⟩ : ByteArray)).size + (rdOf ByteArray.empty t235 x6_1).size ≤ 9223372036854775807 then (laws_FnPaths.l0 k1 t233 ((x5_1 ++ (⟨#[47]⟩ : ByteArray)) ++ (rdOf ByteArray.empty t235 x6_1)) (wrap64 (x6_1 + 1)) t234 t235) else (none)) else (none)) else (some false)) = some r := H
                have A19 := Aside0.mk A190
                clear A190
                by_cases c20 : t244 = true
                · subst c20
                  have H1 : (if x5_1.size + 1 ≤ 9223372036854775807 then (if (x5_1 ++ (⟨#[47]⟩ : ByteArray)).size + (rdOf ByteArray.empty t235 x6_1).size ≤ 9223372036854775807 then (laws_FnPaths.l0 k1 t233 ((x5_1 ++ (⟨#[47]⟩ : ByteArray)) ++ (rdOf ByteArray.empty t235 x6_1)) (wrap64 (x6_1 + 1)) t234 t235) else (none)) else (none)) = some r := by rw [if_pos rfl] at H; exact H
                  clear H
                  have H := H1
                  clear H1
                  by_cases c21 : x5_1.size + 1 ≤ 9223372036854775807
                  · rw [if_pos c21] at H
                    have c21b0 := eq_true c21
                    have c21b1 : decide (x5_1.size + 1 ≤ 9223372036854775807) = true := decide_eq_true c21
                    try have c21b2 : (9223372036854775807 < x5_1.size + 1) = False := eq_false (Nat.not_lt.2 c21)
                    by_cases c22 : (x5_1 ++ (⟨#[47]⟩ : ByteArray)).size + (rdOf ByteArray.empty t235 x6_1).size ≤ 9223372036854775807
                    · rw [if_pos c22] at H
                      have c22b0 := eq_true c22
                      have c22b1 : decide ((x5_1 ++ (⟨#[47]⟩ : ByteArray)).size + (rdOf ByteArray.empty t235 x6_1).size ≤ 9223372036854775807) = true := decide_eq_true c22
                      try have c22b2 : (9223372036854775807 < (x5_1 ++ (⟨#[47]⟩ : ByteArray)).size + (rdOf ByteArray.empty t235 x6_1).size) = False := eq_false (Nat.not_lt.2 c22)
                      have H' := Aside0.mk H
                      clear H
                      have hcz23_0 : wr.cell? ⟨gb238, 0, none⟩ = some (.int .i64 t234) := (blk_cell BK238.out 0).trans rfl
                      have hcz23_1 : wr.cell? ⟨gb238, 1, none⟩ = some (.slice Ao12 t235.length co12) := (blk_cell BK238.out 1).trans rfl
                      have hfz23_0 := blk_frozen BK238.out 0
                      have hfz23_1 := blk_frozen BK238.out 1
                      have p243 : 0 ≤ (x6_1 : Int) := of_decide_eq_true (by first | (with_reducible assumption) | assumption)
                      have q243 : x6_1 < (t235.length : Int) := of_decide_eq_true (by first | (with_reducible assumption) | assumption)
                      obtain ⟨ad243, e243, hx243_0⟩ := Kd.at_string (Kd.R_reads' HO_239001.out).2.2 x6_1 p243 q243
                      cases e243
                      replace p243 := eq_true p243
                      replace q243 := eq_true q243
                      go_wp2_with (first | ((with_reducible refine gate_callee (f := 11) rfl ?_); refine goesL_ (some 39) rfl rfl Tryd.func11 (by kernel_rfl) rfl #[.string (rdOf ByteArray.empty t235 x6_1)] rfl (by (try simp only [List.map_toArray, List.map_cons, List.map_nil]); first | done | rfl | (simp only [List.length_drop, List.length_take]; rfl)) ?_; (with_reducible refine (impl_ValidName.calls (rdOf ByteArray.empty t235 x6_1) true _ A19.out).mono ?_); rintro e w24 ⟨rfl, hb⟩; refine ⟨_, rfl, ?_⟩; have n0_ := Aside0.mk (Kd.R_below (by (with_reducible repeat (first | apply Kd.R_alloc | apply Kd.R_drewN | apply Kd.R_drew)); exact HO_239001.out) hb); have n1_ := Aside0.mk (blk_below (g := gb238) (o := .cells #[.int .i64 t234, .slice (some ad243) t235.length co12] 24 (0, 0)) (by (with_reducible repeat (first | refine blk_drewN ?_ _ | refine blk_drew ?_ | refine blk_alloc ?_ _)); exact BK238.out) hb); have n2_ := Aside0.mk (below_step (by repeat (first | (with_reducible first | exact HB.out | apply below_alloc | apply pw_below_drewN | apply below_drew1 | refine below_set ?_ GE238.out) | exact HB.out)) hb); clear HO_239001; clear BK238; clear HB; have HO_239001 := n0_; have BK238 := n1_; have HB := n2_; clear n0_ n1_ n2_; (try clear hb); (try clear hb2); (try clear hk); (try clear hi); have hcz25_0 : w24.cell? ⟨gb238, 0, none⟩ = some (.int .i64 t234) := (blk_cell BK238.out 0).trans rfl; have hcz25_1 : w24.cell? ⟨gb238, 1, none⟩ = some (.slice (some ad243) t235.length co12) := (blk_cell BK238.out 1).trans rfl; have hfz25_0 := blk_frozen BK238.out 0; have hfz25_1 := blk_frozen BK238.out 1; have p245 : 0 ≤ (x6_1 : Int) := of_decide_eq_true (by first | (with_reducible assumption) | assumption); have q245 : x6_1 < (t235.length : Int) := of_decide_eq_true (by first | (with_reducible assumption) | assumption); obtain ⟨ad245, e245, hx245_0⟩ := Kd.at_string (Kd.R_reads' HO_239001.out).2.2 x6_1 p245 q245; obtain rfl : ad243 = ad245 := (by injection e245); replace p245 := eq_true p245; replace q245 := eq_true q245))
                      go_roundg k1
                      case measure => have := HK1.out; omega
                      case rel => exact ⟨((x5_1 ++ (⟨#[47]⟩ : ByteArray)) ++ (rdOf ByteArray.empty t235 x6_1)), (wrap64 (x6_1 + 1)), (by first | rfl | (simp; done) | (simp [*]; done)), (by first | rfl | (simp; done) | (simp [*]; done)), H', ⟨by have := HK1.out; omega⟩, ⟨by (with_reducible repeat (first | apply Kd.R_alloc | apply Kd.R_drewN | apply Kd.R_drew)); exact HO_239001.out⟩, ⟨by (with_reducible repeat (first | refine blk_drewN ?_ _ | refine blk_drew ?_ | refine blk_alloc ?_ _)); exact BK238.out⟩, ⟨by repeat (first | (with_reducible first | exact HB.out | apply below_alloc | apply pw_below_drewN | apply below_drew1 | refine below_set ?_ GE238.out) | exact HB.out)⟩⟩
                    · rw [if_neg c22] at H
                      exact absurd H (by simp)
                  · rw [if_neg c21] at H
                    exact absurd H (by simp)
                · replace c20 := Bool.eq_false_iff.mpr c20
                  subst c20
                  have H1 : (some false) = some r := by rw [if_neg (show ¬ (false = true) by decide)] at H; exact H
                  clear H
                  have H := H1
                  clear H1
                  obtain rfl := Option.some.inj H
                  have hcz26_0 : wr.cell? ⟨gb238, 0, none⟩ = some (.int .i64 t234) := (blk_cell BK238.out 0).trans rfl
                  have hcz26_1 : wr.cell? ⟨gb238, 1, none⟩ = some (.slice Ao12 t235.length co12) := (blk_cell BK238.out 1).trans rfl
                  have hfz26_0 := blk_frozen BK238.out 0
                  have hfz26_1 := blk_frozen BK238.out 1
                  have p243 : 0 ≤ (x6_1 : Int) := of_decide_eq_true (by first | (with_reducible assumption) | assumption)
                  have q243 : x6_1 < (t235.length : Int) := of_decide_eq_true (by first | (with_reducible assumption) | assumption)
                  obtain ⟨ad243, e243, hx243_0⟩ := Kd.at_string (Kd.R_reads' HO_239001.out).2.2 x6_1 p243 q243
                  cases e243
                  replace p243 := eq_true p243
                  replace q243 := eq_true q243
                  go_wp2_with (first | ((with_reducible refine gate_callee (f := 11) rfl ?_); refine goesL_ (some 39) rfl rfl Tryd.func11 (by kernel_rfl) rfl #[.string (rdOf ByteArray.empty t235 x6_1)] rfl (by (try simp only [List.map_toArray, List.map_cons, List.map_nil]); first | done | rfl | (simp only [List.length_drop, List.length_take]; rfl)) ?_; (with_reducible refine (impl_ValidName.calls (rdOf ByteArray.empty t235 x6_1) false _ A19.out).mono ?_); rintro e w27 ⟨rfl, hb⟩; refine ⟨_, rfl, ?_⟩; have n0_ := Aside0.mk (Kd.R_below (by (with_reducible repeat (first | apply Kd.R_alloc | apply Kd.R_drewN | apply Kd.R_drew)); exact HO_239001.out) hb); have n1_ := Aside0.mk (blk_below (g := gb238) (o := .cells #[.int .i64 t234, .slice (some ad243) t235.length co12] 24 (0, 0)) (by (with_reducible repeat (first | refine blk_drewN ?_ _ | refine blk_drew ?_ | refine blk_alloc ?_ _)); exact BK238.out) hb); have n2_ := Aside0.mk (below_step (by repeat (first | (with_reducible first | exact HB.out | apply below_alloc | apply pw_below_drewN | apply below_drew1 | refine below_set ?_ GE238.out) | exact HB.out)) hb); clear HO_239001; clear BK238; clear HB; have HO_239001 := n0_; have BK238 := n1_; have HB := n2_; clear n0_ n1_ n2_; (try clear hb); (try clear hb2); (try clear hk); (try clear hi)))
                  go_ret
                  exact ⟨by first | rfl | (simp [errW_none, errW_some] <;> rfl) | (simp [*, errW_none, errW_some] <;> rfl), by repeat (first | (with_reducible first | exact HB.out | apply below_alloc | apply pw_below_drewN | apply below_drew1 | refine below_set ?_ GE238.out) | exact HB.out)⟩
              · rw [if_neg c18] at H
                exact absurd H (by simp)
            · rw [if_neg c17] at H
              have c17b0 : decide (x6_1 < (t235.length : Int)) = false := decide_eq_false c17
              clear c17
              by_cases c28 : (t235.length : Int) = 0
              · rw [if_pos c28] at H
                have c28b0 : ((t235.length : Int) == 0) = true := beq_iff_eq.mpr c28
                have c28b1 : ((t235.length : Int) != 0) = false := bne_eq_false_iff_eq.mpr c28
                clear c28
                by_cases c29 : ([47] : List UInt8) = t233.toList
                · rw [if_pos c29] at H
                  have c29b0 : (([47] : List UInt8) == t233.toList) = true := beq_iff_eq.mpr c29
                  have c29b1 : (([47] : List UInt8) != t233.toList) = false := bne_eq_false_iff_eq.mpr c29
                  clear c29
                  by_cases c30 : (t235.length : Int) ≤ 16
                  · rw [if_pos c30] at H
                    have c30b0 : decide ((t235.length : Int) ≤ 16) = true := decide_eq_true c30
                    have c30b1 : decide (t235.length ≤ 16) = true := decide_eq_true (by omega)
                    clear c30
                    by_cases c31 : t233.size + 1 ≤ 9223372036854775807
                    · rw [if_pos c31] at H
                      have c31b0 := eq_true c31
                      have c31b1 : decide (t233.size + 1 ≤ 9223372036854775807) = true := decide_eq_true c31
                      try have c31b2 : (9223372036854775807 < t233.size + 1) = False := eq_false (Nat.not_lt.2 c31)
                      replace H := Option.bind_eq_some_iff.mp H
                      obtain ⟨⟨t246, t247⟩, A320, H⟩ := H
                      replace H : (if t246 = 0 then (some false) else (if 1 + t233.size ≤ 9223372036854775807 then ((impl_SplitPath.f k1 ((⟨#[120]⟩ : ByteArray) ++ t233)).bind fun bt250 => (if bt250.1 = 30 then ((impl_ValidName.f t233).bind fun t254 => (some (!t254))) else (some false))) else (none))) = some r := H
                      have A32 := Aside0.mk A320
                      clear A320
                      by_cases c33 : t246 = 0
                      · rw [if_pos c33] at H
                        have c33b0 : (t246 == 0) = true := beq_iff_eq.mpr c33
                        have c33b1 : (t246 != 0) = false := bne_eq_false_iff_eq.mpr c33
                        clear c33
                        obtain rfl := Option.some.inj H
                        have hcz34_0 : wr.cell? ⟨gb238, 0, none⟩ = some (.int .i64 t234) := (blk_cell BK238.out 0).trans rfl
                        have hcz34_1 : wr.cell? ⟨gb238, 1, none⟩ = some (.slice Ao12 t235.length co12) := (blk_cell BK238.out 1).trans rfl
                        have hfz34_0 := blk_frozen BK238.out 0
                        have hfz34_1 := blk_frozen BK238.out 1
                        go_wp2_with (first | (go_at_call 6; (with_reducible refine (impl_SplitPath.calls k1 (t233 ++ (⟨#[47]⟩ : ByteArray)) t246 t247 _ A32.out _ (Glob.below HGLOB.out ?sideg)).mono ?_); (case sideg => repeat (first | (with_reducible first | exact HB.out | apply below_alloc | apply pw_below_drewN | apply below_drew1) | exact HB.out | (refine below_set ?_ GE238.out))); rintro e w35 ⟨v248, rfl, ho0, hb⟩; have n0_ := Aside0.mk (Kd.R_elder' (by (with_reducible repeat (first | apply Kd.R_alloc | apply Kd.R_drewN | apply Kd.R_drew)); exact HO_239001.out) (Kd.R_base ho0) hb); have n1_ := Aside0.mk (Kd.R_lower (Kd.R_new' ho0 (Kd.R_lt (by (with_reducible repeat (first | apply Kd.R_alloc | apply Kd.R_drewN | apply Kd.R_drew)); exact HO_239001.out))) (below_size (by repeat (first | (with_reducible first | exact HB.out | apply below_alloc | apply pw_below_drewN | apply below_drew1 | refine below_set ?_ GE238.out) | exact HB.out)))); have n2_ := Aside0.mk (blk_below (g := gb238) (o := .cells #[.int .i64 t234, .slice Ao12 t235.length co12] 24 (0, 0)) (by (with_reducible repeat (first | refine blk_drewN ?_ _ | refine blk_drew ?_ | refine blk_alloc ?_ _)); exact BK238.out) hb); have n3_ := Aside0.mk (below_step (by repeat (first | (with_reducible first | exact HB.out | apply below_alloc | apply pw_below_drewN | apply below_drew1 | refine below_set ?_ GE238.out) | exact HB.out)) hb); clear HO_239001; clear BK238; clear HB; have HO_239001 := n0_; have HO249 := n1_; have BK238 := n2_; have HB := n3_; clear n0_ n1_ n2_ n3_; (try clear hb); (try clear hb2); (try clear hk); (try clear hi); (try clear ho0)))
                        go_ret
                        exact ⟨by first | rfl | (simp [errW_none, errW_some] <;> rfl) | (simp [*, errW_none, errW_some] <;> rfl), by repeat (first | (with_reducible first | exact HB.out | apply below_alloc | apply pw_below_drewN | apply below_drew1 | refine below_set ?_ GE238.out) | exact HB.out)⟩
                      · rw [if_neg c33] at H
                        have c33b0 : (t246 == 0) = false := beq_eq_false_iff_ne.mpr c33
                        have c33b1 : (t246 != 0) = true := bne_iff_ne.mpr c33
                        by_cases c36 : 1 + t233.size ≤ 9223372036854775807
                        · rw [if_pos c36] at H
                          have c36b0 := eq_true c36
                          have c36b1 : decide (1 + t233.size ≤ 9223372036854775807) = true := decide_eq_true c36
                          try have c36b2 : (9223372036854775807 < 1 + t233.size) = False := eq_false (Nat.not_lt.2 c36)
                          replace H := Option.bind_eq_some_iff.mp H
                          obtain ⟨⟨t250, t251⟩, A370, H⟩ := H
                          replace H : (if t250 = 30 then ((impl_ValidName.f t233).bind fun t254 => (some (!t254))) else (some false)) = some r := H
                          have A37 := Aside0.mk A370
                          clear A370
                          by_cases c38 : t250 = 30
                          · rw [if_pos c38] at H
                            have c38b0 : (t250 == 30) = true := beq_iff_eq.mpr c38
                            have c38b1 : (t250 != 30) = false := bne_eq_false_iff_eq.mpr c38
                            clear c38
                            replace H := Option.bind_eq_some_iff.mp H
                            obtain ⟨t254, A390, H⟩ := H
                            replace H : (some (!t254)) = some r := H
                            have A39 := Aside0.mk A390
                            clear A390
                            obtain rfl := Option.some.inj H
                            have hcz40_0 : wr.cell? ⟨gb238, 0, none⟩ = some (.int .i64 t234) := (blk_cell BK238.out 0).trans rfl
                            have hcz40_1 : wr.cell? ⟨gb238, 1, none⟩ = some (.slice Ao12 t235.length co12) := (blk_cell BK238.out 1).trans rfl
                            have hfz40_0 := blk_frozen BK238.out 0
                            have hfz40_1 := blk_frozen BK238.out 1
                            go_wp2_with (first | (go_at_call 6; (with_reducible refine (impl_SplitPath.calls k1 (t233 ++ (⟨#[47]⟩ : ByteArray)) t246 t247 _ A32.out _ (Glob.below HGLOB.out ?sideg)).mono ?_); (case sideg => repeat (first | (with_reducible first | exact HB.out | apply below_alloc | apply pw_below_drewN | apply below_drew1) | exact HB.out | (refine below_set ?_ GE238.out))); rintro e w41 ⟨v248, rfl, ho0, hb⟩; have n0_ := Aside0.mk (Kd.R_elder' (by (with_reducible repeat (first | apply Kd.R_alloc | apply Kd.R_drewN | apply Kd.R_drew)); exact HO_239001.out) (Kd.R_base ho0) hb); have n1_ := Aside0.mk (Kd.R_lower (Kd.R_new' ho0 (Kd.R_lt (by (with_reducible repeat (first | apply Kd.R_alloc | apply Kd.R_drewN | apply Kd.R_drew)); exact HO_239001.out))) (below_size (by repeat (first | (with_reducible first | exact HB.out | apply below_alloc | apply pw_below_drewN | apply below_drew1 | refine below_set ?_ GE238.out) | exact HB.out)))); have n2_ := Aside0.mk (blk_below (g := gb238) (o := .cells #[.int .i64 t234, .slice Ao12 t235.length co12] 24 (0, 0)) (by (with_reducible repeat (first | refine blk_drewN ?_ _ | refine blk_drew ?_ | refine blk_alloc ?_ _)); exact BK238.out) hb); have n3_ := Aside0.mk (below_step (by repeat (first | (with_reducible first | exact HB.out | apply below_alloc | apply pw_below_drewN | apply below_drew1 | refine below_set ?_ GE238.out) | exact HB.out)) hb); clear HO_239001; clear BK238; clear HB; have HO_239001 := n0_; have HO249 := n1_; have BK238 := n2_; have HB := n3_; clear n0_ n1_ n2_ n3_; (try clear hb); (try clear hb2); (try clear hk); (try clear hi); (try clear ho0)) | (go_at_call 6; (with_reducible refine (impl_SplitPath.calls k1 ((⟨#[120]⟩ : ByteArray) ++ t233) t250 t251 _ A37.out _ (Glob.below HGLOB.out ?sideg)).mono ?_); (case sideg => repeat (first | (with_reducible first | exact HB.out | apply below_alloc | apply pw_below_drewN | apply below_drew1) | exact HB.out | (refine below_set ?_ GE238.out))); rintro e w42 ⟨v252, rfl, ho0, hb⟩; have n0_ := Aside0.mk (Kd.R_elder' (by (with_reducible repeat (first | apply Kd.R_alloc | apply Kd.R_drewN | apply Kd.R_drew)); exact HO_239001.out) (Kd.R_base ho0) hb); have n1_ := Aside0.mk (Kd.R_elder' (by (with_reducible repeat (first | apply Kd.R_alloc | apply Kd.R_drewN | apply Kd.R_drew)); exact HO249.out) (Kd.R_base ho0) hb); have n2_ := Aside0.mk (Kd.R_lower (Kd.R_new' (Kd.R_new' ho0 (Kd.R_lt (by (with_reducible repeat (first | apply Kd.R_alloc | apply Kd.R_drewN | apply Kd.R_drew)); exact HO_239001.out))) (Kd.R_lt (by (with_reducible repeat (first | apply Kd.R_alloc | apply Kd.R_drewN | apply Kd.R_drew)); exact HO249.out))) (below_size (by repeat (first | (with_reducible first | exact HB.out | apply below_alloc | apply pw_below_drewN | apply below_drew1 | refine below_set ?_ GE238.out) | exact HB.out)))); have n3_ := Aside0.mk (blk_below (g := gb238) (o := .cells #[.int .i64 t234, .slice Ao12 t235.length co12] 24 (0, 0)) (by (with_reducible repeat (first | refine blk_drewN ?_ _ | refine blk_drew ?_ | refine blk_alloc ?_ _)); exact BK238.out) hb); have n4_ := Aside0.mk (below_step (by repeat (first | (with_reducible first | exact HB.out | apply below_alloc | apply pw_below_drewN | apply below_drew1 | refine below_set ?_ GE238.out) | exact HB.out)) hb); clear HO_239001; clear HO249; clear BK238; clear HB; have HO_239001 := n0_; have HO249 := n1_; have HO253 := n2_; have BK238 := n3_; have HB := n4_; clear n0_ n1_ n2_ n3_ n4_; (try clear hb); (try clear hb2); (try clear hk); (try clear hi); (try clear ho0)) | (go_at_call 11; (with_reducible refine (impl_ValidName.calls t233 t254 _ A39.out).mono ?_); rintro e w43 ⟨rfl, hb⟩; have n0_ := Aside0.mk (Kd.R_below (by (with_reducible repeat (first | apply Kd.R_alloc | apply Kd.R_drewN | apply Kd.R_drew)); exact HO_239001.out) hb); have n1_ := Aside0.mk (Kd.R_below (by (with_reducible repeat (first | apply Kd.R_alloc | apply Kd.R_drewN | apply Kd.R_drew)); exact HO249.out) hb); have n2_ := Aside0.mk (Kd.R_below (by (with_reducible repeat (first | apply Kd.R_alloc | apply Kd.R_drewN | apply Kd.R_drew)); exact HO253.out) hb); have n3_ := Aside0.mk (blk_below (g := gb238) (o := .cells #[.int .i64 t234, .slice Ao12 t235.length co12] 24 (0, 0)) (by (with_reducible repeat (first | refine blk_drewN ?_ _ | refine blk_drew ?_ | refine blk_alloc ?_ _)); exact BK238.out) hb); have n4_ := Aside0.mk (below_step (by repeat (first | (with_reducible first | exact HB.out | apply below_alloc | apply pw_below_drewN | apply below_drew1 | refine below_set ?_ GE238.out) | exact HB.out)) hb); clear HO_239001; clear HO249; clear HO253; clear BK238; clear HB; have HO_239001 := n0_; have HO249 := n1_; have HO253 := n2_; have BK238 := n3_; have HB := n4_; clear n0_ n1_ n2_ n3_ n4_; (try clear hb); (try clear hb2); (try clear hk); (try clear hi)))
                            go_ret
                            exact ⟨by first | rfl | (simp [errW_none, errW_some] <;> rfl) | (simp [*, errW_none, errW_some] <;> rfl), by repeat (first | (with_reducible first | exact HB.out | apply below_alloc | apply pw_below_drewN | apply below_drew1 | refine below_set ?_ GE238.out) | exact HB.out)⟩
                          · rw [if_neg c38] at H
                            have c38b0 : (t250 == 30) = false := beq_eq_false_iff_ne.mpr c38
                            have c38b1 : (t250 != 30) = true := bne_iff_ne.mpr c38
                            obtain rfl := Option.some.inj H
                            have hcz44_0 : wr.cell? ⟨gb238, 0, none⟩ = some (.int .i64 t234) := (blk_cell BK238.out 0).trans rfl
                            have hcz44_1 : wr.cell? ⟨gb238, 1, none⟩ = some (.slice Ao12 t235.length co12) := (blk_cell BK238.out 1).trans rfl
                            have hfz44_0 := blk_frozen BK238.out 0
                            have hfz44_1 := blk_frozen BK238.out 1
                            go_wp2_with (first | (go_at_call 6; (with_reducible refine (impl_SplitPath.calls k1 (t233 ++ (⟨#[47]⟩ : ByteArray)) t246 t247 _ A32.out _ (Glob.below HGLOB.out ?sideg)).mono ?_); (case sideg => repeat (first | (with_reducible first | exact HB.out | apply below_alloc | apply pw_below_drewN | apply below_drew1) | exact HB.out | (refine below_set ?_ GE238.out))); rintro e w45 ⟨v248, rfl, ho0, hb⟩; have n0_ := Aside0.mk (Kd.R_elder' (by (with_reducible repeat (first | apply Kd.R_alloc | apply Kd.R_drewN | apply Kd.R_drew)); exact HO_239001.out) (Kd.R_base ho0) hb); have n1_ := Aside0.mk (Kd.R_lower (Kd.R_new' ho0 (Kd.R_lt (by (with_reducible repeat (first | apply Kd.R_alloc | apply Kd.R_drewN | apply Kd.R_drew)); exact HO_239001.out))) (below_size (by repeat (first | (with_reducible first | exact HB.out | apply below_alloc | apply pw_below_drewN | apply below_drew1 | refine below_set ?_ GE238.out) | exact HB.out)))); have n2_ := Aside0.mk (blk_below (g := gb238) (o := .cells #[.int .i64 t234, .slice Ao12 t235.length co12] 24 (0, 0)) (by (with_reducible repeat (first | refine blk_drewN ?_ _ | refine blk_drew ?_ | refine blk_alloc ?_ _)); exact BK238.out) hb); have n3_ := Aside0.mk (below_step (by repeat (first | (with_reducible first | exact HB.out | apply below_alloc | apply pw_below_drewN | apply below_drew1 | refine below_set ?_ GE238.out) | exact HB.out)) hb); clear HO_239001; clear BK238; clear HB; have HO_239001 := n0_; have HO249 := n1_; have BK238 := n2_; have HB := n3_; clear n0_ n1_ n2_ n3_; (try clear hb); (try clear hb2); (try clear hk); (try clear hi); (try clear ho0)) | (go_at_call 6; (with_reducible refine (impl_SplitPath.calls k1 ((⟨#[120]⟩ : ByteArray) ++ t233) t250 t251 _ A37.out _ (Glob.below HGLOB.out ?sideg)).mono ?_); (case sideg => repeat (first | (with_reducible first | exact HB.out | apply below_alloc | apply pw_below_drewN | apply below_drew1) | exact HB.out | (refine below_set ?_ GE238.out))); rintro e w46 ⟨v252, rfl, ho0, hb⟩; have n0_ := Aside0.mk (Kd.R_elder' (by (with_reducible repeat (first | apply Kd.R_alloc | apply Kd.R_drewN | apply Kd.R_drew)); exact HO_239001.out) (Kd.R_base ho0) hb); have n1_ := Aside0.mk (Kd.R_elder' (by (with_reducible repeat (first | apply Kd.R_alloc | apply Kd.R_drewN | apply Kd.R_drew)); exact HO249.out) (Kd.R_base ho0) hb); have n2_ := Aside0.mk (Kd.R_lower (Kd.R_new' (Kd.R_new' ho0 (Kd.R_lt (by (with_reducible repeat (first | apply Kd.R_alloc | apply Kd.R_drewN | apply Kd.R_drew)); exact HO_239001.out))) (Kd.R_lt (by (with_reducible repeat (first | apply Kd.R_alloc | apply Kd.R_drewN | apply Kd.R_drew)); exact HO249.out))) (below_size (by repeat (first | (with_reducible first | exact HB.out | apply below_alloc | apply pw_below_drewN | apply below_drew1 | refine below_set ?_ GE238.out) | exact HB.out)))); have n3_ := Aside0.mk (blk_below (g := gb238) (o := .cells #[.int .i64 t234, .slice Ao12 t235.length co12] 24 (0, 0)) (by (with_reducible repeat (first | refine blk_drewN ?_ _ | refine blk_drew ?_ | refine blk_alloc ?_ _)); exact BK238.out) hb); have n4_ := Aside0.mk (below_step (by repeat (first | (with_reducible first | exact HB.out | apply below_alloc | apply pw_below_drewN | apply below_drew1 | refine below_set ?_ GE238.out) | exact HB.out)) hb); clear HO_239001; clear HO249; clear BK238; clear HB; have HO_239001 := n0_; have HO249 := n1_; have HO253 := n2_; have BK238 := n3_; have HB := n4_; clear n0_ n1_ n2_ n3_ n4_; (try clear hb); (try clear hb2); (try clear hk); (try clear hi); (try clear ho0)))
                            go_ret
                            exact ⟨by first | rfl | (simp [errW_none, errW_some] <;> rfl) | (simp [*, errW_none, errW_some] <;> rfl), by repeat (first | (with_reducible first | exact HB.out | apply below_alloc | apply pw_below_drewN | apply below_drew1 | refine below_set ?_ GE238.out) | exact HB.out)⟩
                        · rw [if_neg c36] at H
                          exact absurd H (by simp)
                    · rw [if_neg c31] at H
                      exact absurd H (by simp)
                  · rw [if_neg c30] at H
                    have c30b0 : decide ((t235.length : Int) ≤ 16) = false := decide_eq_false c30
                    have c30b1 : decide (t235.length ≤ 16) = false := decide_eq_false (by omega)
                    clear c30
                    obtain rfl := Option.some.inj H
                    have hcz47_0 : wr.cell? ⟨gb238, 0, none⟩ = some (.int .i64 t234) := (blk_cell BK238.out 0).trans rfl
                    have hcz47_1 : wr.cell? ⟨gb238, 1, none⟩ = some (.slice Ao12 t235.length co12) := (blk_cell BK238.out 1).trans rfl
                    have hfz47_0 := blk_frozen BK238.out 0
                    have hfz47_1 := blk_frozen BK238.out 1
                    go_wp2
                    go_ret
                    exact ⟨by first | rfl | (simp [errW_none, errW_some] <;> rfl) | (simp [*, errW_none, errW_some] <;> rfl), by repeat (first | (with_reducible first | exact HB.out | apply below_alloc | apply pw_below_drewN | apply below_drew1 | refine below_set ?_ GE238.out) | exact HB.out)⟩
                · rw [if_neg c29] at H
                  have c29b0 : (([47] : List UInt8) == t233.toList) = false := beq_eq_false_iff_ne.mpr c29
                  have c29b1 : (([47] : List UInt8) != t233.toList) = true := bne_iff_ne.mpr c29
                  obtain rfl := Option.some.inj H
                  have hcz48_0 : wr.cell? ⟨gb238, 0, none⟩ = some (.int .i64 t234) := (blk_cell BK238.out 0).trans rfl
                  have hcz48_1 : wr.cell? ⟨gb238, 1, none⟩ = some (.slice Ao12 t235.length co12) := (blk_cell BK238.out 1).trans rfl
                  have hfz48_0 := blk_frozen BK238.out 0
                  have hfz48_1 := blk_frozen BK238.out 1
                  go_wp2
                  go_ret
                  exact ⟨by first | rfl | (simp [errW_none, errW_some] <;> rfl) | (simp [*, errW_none, errW_some] <;> rfl), by repeat (first | (with_reducible first | exact HB.out | apply below_alloc | apply pw_below_drewN | apply below_drew1 | refine below_set ?_ GE238.out) | exact HB.out)⟩
              · rw [if_neg c28] at H
                have c28b0 : ((t235.length : Int) == 0) = false := beq_eq_false_iff_ne.mpr c28
                have c28b1 : ((t235.length : Int) != 0) = true := bne_iff_ne.mpr c28
                have c28b2 : ¬ (t235 = []) := fun h_ => c28 (by rw [h_]; rfl)
                by_cases c49 : x5_1.toList = t233.toList
                · rw [if_pos c49] at H
                  have c49b0 : (x5_1.toList == t233.toList) = true := beq_iff_eq.mpr c49
                  have c49b1 : (x5_1.toList != t233.toList) = false := bne_eq_false_iff_eq.mpr c49
                  clear c49
                  by_cases c50 : (t235.length : Int) ≤ 16
                  · rw [if_pos c50] at H
                    have c50b0 : decide ((t235.length : Int) ≤ 16) = true := decide_eq_true c50
                    have c50b1 : decide (t235.length ≤ 16) = true := decide_eq_true (by omega)
                    clear c50
                    by_cases c51 : t233.size + 1 ≤ 9223372036854775807
                    · rw [if_pos c51] at H
                      have c51b0 := eq_true c51
                      have c51b1 : decide (t233.size + 1 ≤ 9223372036854775807) = true := decide_eq_true c51
                      try have c51b2 : (9223372036854775807 < t233.size + 1) = False := eq_false (Nat.not_lt.2 c51)
                      replace H := Option.bind_eq_some_iff.mp H
                      obtain ⟨⟨t255, t256⟩, A520, H⟩ := H
                      replace H : (if t255 = 0 then (some false) else (if 1 + t233.size ≤ 9223372036854775807 then ((impl_SplitPath.f k1 ((⟨#[120]⟩ : ByteArray) ++ t233)).bind fun bt259 => (if bt259.1 = 30 then ((impl_ValidName.f t233).bind fun t263 => (some (!t263))) else (some false))) else (none))) = some r := H
                      have A52 := Aside0.mk A520
                      clear A520
                      by_cases c53 : t255 = 0
                      · rw [if_pos c53] at H
                        have c53b0 : (t255 == 0) = true := beq_iff_eq.mpr c53
                        have c53b1 : (t255 != 0) = false := bne_eq_false_iff_eq.mpr c53
                        clear c53
                        obtain rfl := Option.some.inj H
                        have hcz54_0 : wr.cell? ⟨gb238, 0, none⟩ = some (.int .i64 t234) := (blk_cell BK238.out 0).trans rfl
                        have hcz54_1 : wr.cell? ⟨gb238, 1, none⟩ = some (.slice Ao12 t235.length co12) := (blk_cell BK238.out 1).trans rfl
                        have hfz54_0 := blk_frozen BK238.out 0
                        have hfz54_1 := blk_frozen BK238.out 1
                        go_wp2_with (first | (go_at_call 6; (with_reducible refine (impl_SplitPath.calls k1 (t233 ++ (⟨#[47]⟩ : ByteArray)) t255 t256 _ A52.out _ (Glob.below HGLOB.out ?sideg)).mono ?_); (case sideg => repeat (first | (with_reducible first | exact HB.out | apply below_alloc | apply pw_below_drewN | apply below_drew1) | exact HB.out | (refine below_set ?_ GE238.out))); rintro e w55 ⟨v257, rfl, ho0, hb⟩; have n0_ := Aside0.mk (Kd.R_elder' (by (with_reducible repeat (first | apply Kd.R_alloc | apply Kd.R_drewN | apply Kd.R_drew)); exact HO_239001.out) (Kd.R_base ho0) hb); have n1_ := Aside0.mk (Kd.R_lower (Kd.R_new' ho0 (Kd.R_lt (by (with_reducible repeat (first | apply Kd.R_alloc | apply Kd.R_drewN | apply Kd.R_drew)); exact HO_239001.out))) (below_size (by repeat (first | (with_reducible first | exact HB.out | apply below_alloc | apply pw_below_drewN | apply below_drew1 | refine below_set ?_ GE238.out) | exact HB.out)))); have n2_ := Aside0.mk (blk_below (g := gb238) (o := .cells #[.int .i64 t234, .slice Ao12 t235.length co12] 24 (0, 0)) (by (with_reducible repeat (first | refine blk_drewN ?_ _ | refine blk_drew ?_ | refine blk_alloc ?_ _)); exact BK238.out) hb); have n3_ := Aside0.mk (below_step (by repeat (first | (with_reducible first | exact HB.out | apply below_alloc | apply pw_below_drewN | apply below_drew1 | refine below_set ?_ GE238.out) | exact HB.out)) hb); clear HO_239001; clear BK238; clear HB; have HO_239001 := n0_; have HO258 := n1_; have BK238 := n2_; have HB := n3_; clear n0_ n1_ n2_ n3_; (try clear hb); (try clear hb2); (try clear hk); (try clear hi); (try clear ho0)))
                        go_ret
                        exact ⟨by first | rfl | (simp [errW_none, errW_some] <;> rfl) | (simp [*, errW_none, errW_some] <;> rfl), by repeat (first | (with_reducible first | exact HB.out | apply below_alloc | apply pw_below_drewN | apply below_drew1 | refine below_set ?_ GE238.out) | exact HB.out)⟩
                      · rw [if_neg c53] at H
                        have c53b0 : (t255 == 0) = false := beq_eq_false_iff_ne.mpr c53
                        have c53b1 : (t255 != 0) = true := bne_iff_ne.mpr c53
                        by_cases c56 : 1 + t233.size ≤ 9223372036854775807
                        · rw [if_pos c56] at H
                          have c56b0 := eq_true c56
                          have c56b1 : decide (1 + t233.size ≤ 9223372036854775807) = true := decide_eq_true c56
                          try have c56b2 : (9223372036854775807 < 1 + t233.size) = False := eq_false (Nat.not_lt.2 c56)
                          replace H := Option.bind_eq_some_iff.mp H
                          obtain ⟨⟨t259, t260⟩, A570, H⟩ := H
                          replace H : (if t259 = 30 then ((impl_ValidName.f t233).bind fun t263 => (some (!t263))) else (some false)) = some r := H
                          have A57 := Aside0.mk A570
                          clear A570
                          by_cases c58 : t259 = 30
                          · rw [if_pos c58] at H
                            have c58b0 : (t259 == 30) = true := beq_iff_eq.mpr c58
                            have c58b1 : (t259 != 30) = false := bne_eq_false_iff_eq.mpr c58
                            clear c58
                            replace H := Option.bind_eq_some_iff.mp H
                            obtain ⟨t263, A590, H⟩ := H
                            replace H : (some (!t263)) = some r := H
                            have A59 := Aside0.mk A590
                            clear A590
                            obtain rfl := Option.some.inj H
                            have hcz60_0 : wr.cell? ⟨gb238, 0, none⟩ = some (.int .i64 t234) := (blk_cell BK238.out 0).trans rfl
                            have hcz60_1 : wr.cell? ⟨gb238, 1, none⟩ = some (.slice Ao12 t235.length co12) := (blk_cell BK238.out 1).trans rfl
                            have hfz60_0 := blk_frozen BK238.out 0
                            have hfz60_1 := blk_frozen BK238.out 1
                            go_wp2_with (first | (go_at_call 6; (with_reducible refine (impl_SplitPath.calls k1 (t233 ++ (⟨#[47]⟩ : ByteArray)) t255 t256 _ A52.out _ (Glob.below HGLOB.out ?sideg)).mono ?_); (case sideg => repeat (first | (with_reducible first | exact HB.out | apply below_alloc | apply pw_below_drewN | apply below_drew1) | exact HB.out | (refine below_set ?_ GE238.out))); rintro e w61 ⟨v257, rfl, ho0, hb⟩; have n0_ := Aside0.mk (Kd.R_elder' (by (with_reducible repeat (first | apply Kd.R_alloc | apply Kd.R_drewN | apply Kd.R_drew)); exact HO_239001.out) (Kd.R_base ho0) hb); have n1_ := Aside0.mk (Kd.R_lower (Kd.R_new' ho0 (Kd.R_lt (by (with_reducible repeat (first | apply Kd.R_alloc | apply Kd.R_drewN | apply Kd.R_drew)); exact HO_239001.out))) (below_size (by repeat (first | (with_reducible first | exact HB.out | apply below_alloc | apply pw_below_drewN | apply below_drew1 | refine below_set ?_ GE238.out) | exact HB.out)))); have n2_ := Aside0.mk (blk_below (g := gb238) (o := .cells #[.int .i64 t234, .slice Ao12 t235.length co12] 24 (0, 0)) (by (with_reducible repeat (first | refine blk_drewN ?_ _ | refine blk_drew ?_ | refine blk_alloc ?_ _)); exact BK238.out) hb); have n3_ := Aside0.mk (below_step (by repeat (first | (with_reducible first | exact HB.out | apply below_alloc | apply pw_below_drewN | apply below_drew1 | refine below_set ?_ GE238.out) | exact HB.out)) hb); clear HO_239001; clear BK238; clear HB; have HO_239001 := n0_; have HO258 := n1_; have BK238 := n2_; have HB := n3_; clear n0_ n1_ n2_ n3_; (try clear hb); (try clear hb2); (try clear hk); (try clear hi); (try clear ho0)) | (go_at_call 6; (with_reducible refine (impl_SplitPath.calls k1 ((⟨#[120]⟩ : ByteArray) ++ t233) t259 t260 _ A57.out _ (Glob.below HGLOB.out ?sideg)).mono ?_); (case sideg => repeat (first | (with_reducible first | exact HB.out | apply below_alloc | apply pw_below_drewN | apply below_drew1) | exact HB.out | (refine below_set ?_ GE238.out))); rintro e w62 ⟨v261, rfl, ho0, hb⟩; have n0_ := Aside0.mk (Kd.R_elder' (by (with_reducible repeat (first | apply Kd.R_alloc | apply Kd.R_drewN | apply Kd.R_drew)); exact HO_239001.out) (Kd.R_base ho0) hb); have n1_ := Aside0.mk (Kd.R_elder' (by (with_reducible repeat (first | apply Kd.R_alloc | apply Kd.R_drewN | apply Kd.R_drew)); exact HO258.out) (Kd.R_base ho0) hb); have n2_ := Aside0.mk (Kd.R_lower (Kd.R_new' (Kd.R_new' ho0 (Kd.R_lt (by (with_reducible repeat (first | apply Kd.R_alloc | apply Kd.R_drewN | apply Kd.R_drew)); exact HO_239001.out))) (Kd.R_lt (by (with_reducible repeat (first | apply Kd.R_alloc | apply Kd.R_drewN | apply Kd.R_drew)); exact HO258.out))) (below_size (by repeat (first | (with_reducible first | exact HB.out | apply below_alloc | apply pw_below_drewN | apply below_drew1 | refine below_set ?_ GE238.out) | exact HB.out)))); have n3_ := Aside0.mk (blk_below (g := gb238) (o := .cells #[.int .i64 t234, .slice Ao12 t235.length co12] 24 (0, 0)) (by (with_reducible repeat (first | refine blk_drewN ?_ _ | refine blk_drew ?_ | refine blk_alloc ?_ _)); exact BK238.out) hb); have n4_ := Aside0.mk (below_step (by repeat (first | (with_reducible first | exact HB.out | apply below_alloc | apply pw_below_drewN | apply below_drew1 | refine below_set ?_ GE238.out) | exact HB.out)) hb); clear HO_239001; clear HO258; clear BK238; clear HB; have HO_239001 := n0_; have HO258 := n1_; have HO262 := n2_; have BK238 := n3_; have HB := n4_; clear n0_ n1_ n2_ n3_ n4_; (try clear hb); (try clear hb2); (try clear hk); (try clear hi); (try clear ho0)) | (go_at_call 11; (with_reducible refine (impl_ValidName.calls t233 t263 _ A59.out).mono ?_); rintro e w63 ⟨rfl, hb⟩; have n0_ := Aside0.mk (Kd.R_below (by (with_reducible repeat (first | apply Kd.R_alloc | apply Kd.R_drewN | apply Kd.R_drew)); exact HO_239001.out) hb); have n1_ := Aside0.mk (Kd.R_below (by (with_reducible repeat (first | apply Kd.R_alloc | apply Kd.R_drewN | apply Kd.R_drew)); exact HO258.out) hb); have n2_ := Aside0.mk (Kd.R_below (by (with_reducible repeat (first | apply Kd.R_alloc | apply Kd.R_drewN | apply Kd.R_drew)); exact HO262.out) hb); have n3_ := Aside0.mk (blk_below (g := gb238) (o := .cells #[.int .i64 t234, .slice Ao12 t235.length co12] 24 (0, 0)) (by (with_reducible repeat (first | refine blk_drewN ?_ _ | refine blk_drew ?_ | refine blk_alloc ?_ _)); exact BK238.out) hb); have n4_ := Aside0.mk (below_step (by repeat (first | (with_reducible first | exact HB.out | apply below_alloc | apply pw_below_drewN | apply below_drew1 | refine below_set ?_ GE238.out) | exact HB.out)) hb); clear HO_239001; clear HO258; clear HO262; clear BK238; clear HB; have HO_239001 := n0_; have HO258 := n1_; have HO262 := n2_; have BK238 := n3_; have HB := n4_; clear n0_ n1_ n2_ n3_ n4_; (try clear hb); (try clear hb2); (try clear hk); (try clear hi)))
                            go_ret
                            exact ⟨by first | rfl | (simp [errW_none, errW_some] <;> rfl) | (simp [*, errW_none, errW_some] <;> rfl), by repeat (first | (with_reducible first | exact HB.out | apply below_alloc | apply pw_below_drewN | apply below_drew1 | refine below_set ?_ GE238.out) | exact HB.out)⟩
                          · rw [if_neg c58] at H
                            have c58b0 : (t259 == 30) = false := beq_eq_false_iff_ne.mpr c58
                            have c58b1 : (t259 != 30) = true := bne_iff_ne.mpr c58
                            obtain rfl := Option.some.inj H
                            have hcz64_0 : wr.cell? ⟨gb238, 0, none⟩ = some (.int .i64 t234) := (blk_cell BK238.out 0).trans rfl
                            have hcz64_1 : wr.cell? ⟨gb238, 1, none⟩ = some (.slice Ao12 t235.length co12) := (blk_cell BK238.out 1).trans rfl
                            have hfz64_0 := blk_frozen BK238.out 0
                            have hfz64_1 := blk_frozen BK238.out 1
                            go_wp2_with (first | (go_at_call 6; (with_reducible refine (impl_SplitPath.calls k1 (t233 ++ (⟨#[47]⟩ : ByteArray)) t255 t256 _ A52.out _ (Glob.below HGLOB.out ?sideg)).mono ?_); (case sideg => repeat (first | (with_reducible first | exact HB.out | apply below_alloc | apply pw_below_drewN | apply below_drew1) | exact HB.out | (refine below_set ?_ GE238.out))); rintro e w65 ⟨v257, rfl, ho0, hb⟩; have n0_ := Aside0.mk (Kd.R_elder' (by (with_reducible repeat (first | apply Kd.R_alloc | apply Kd.R_drewN | apply Kd.R_drew)); exact HO_239001.out) (Kd.R_base ho0) hb); have n1_ := Aside0.mk (Kd.R_lower (Kd.R_new' ho0 (Kd.R_lt (by (with_reducible repeat (first | apply Kd.R_alloc | apply Kd.R_drewN | apply Kd.R_drew)); exact HO_239001.out))) (below_size (by repeat (first | (with_reducible first | exact HB.out | apply below_alloc | apply pw_below_drewN | apply below_drew1 | refine below_set ?_ GE238.out) | exact HB.out)))); have n2_ := Aside0.mk (blk_below (g := gb238) (o := .cells #[.int .i64 t234, .slice Ao12 t235.length co12] 24 (0, 0)) (by (with_reducible repeat (first | refine blk_drewN ?_ _ | refine blk_drew ?_ | refine blk_alloc ?_ _)); exact BK238.out) hb); have n3_ := Aside0.mk (below_step (by repeat (first | (with_reducible first | exact HB.out | apply below_alloc | apply pw_below_drewN | apply below_drew1 | refine below_set ?_ GE238.out) | exact HB.out)) hb); clear HO_239001; clear BK238; clear HB; have HO_239001 := n0_; have HO258 := n1_; have BK238 := n2_; have HB := n3_; clear n0_ n1_ n2_ n3_; (try clear hb); (try clear hb2); (try clear hk); (try clear hi); (try clear ho0)) | (go_at_call 6; (with_reducible refine (impl_SplitPath.calls k1 ((⟨#[120]⟩ : ByteArray) ++ t233) t259 t260 _ A57.out _ (Glob.below HGLOB.out ?sideg)).mono ?_); (case sideg => repeat (first | (with_reducible first | exact HB.out | apply below_alloc | apply pw_below_drewN | apply below_drew1) | exact HB.out | (refine below_set ?_ GE238.out))); rintro e w66 ⟨v261, rfl, ho0, hb⟩; have n0_ := Aside0.mk (Kd.R_elder' (by (with_reducible repeat (first | apply Kd.R_alloc | apply Kd.R_drewN | apply Kd.R_drew)); exact HO_239001.out) (Kd.R_base ho0) hb); have n1_ := Aside0.mk (Kd.R_elder' (by (with_reducible repeat (first | apply Kd.R_alloc | apply Kd.R_drewN | apply Kd.R_drew)); exact HO258.out) (Kd.R_base ho0) hb); have n2_ := Aside0.mk (Kd.R_lower (Kd.R_new' (Kd.R_new' ho0 (Kd.R_lt (by (with_reducible repeat (first | apply Kd.R_alloc | apply Kd.R_drewN | apply Kd.R_drew)); exact HO_239001.out))) (Kd.R_lt (by (with_reducible repeat (first | apply Kd.R_alloc | apply Kd.R_drewN | apply Kd.R_drew)); exact HO258.out))) (below_size (by repeat (first | (with_reducible first | exact HB.out | apply below_alloc | apply pw_below_drewN | apply below_drew1 | refine below_set ?_ GE238.out) | exact HB.out)))); have n3_ := Aside0.mk (blk_below (g := gb238) (o := .cells #[.int .i64 t234, .slice Ao12 t235.length co12] 24 (0, 0)) (by (with_reducible repeat (first | refine blk_drewN ?_ _ | refine blk_drew ?_ | refine blk_alloc ?_ _)); exact BK238.out) hb); have n4_ := Aside0.mk (below_step (by repeat (first | (with_reducible first | exact HB.out | apply below_alloc | apply pw_below_drewN | apply below_drew1 | refine below_set ?_ GE238.out) | exact HB.out)) hb); clear HO_239001; clear HO258; clear BK238; clear HB; have HO_239001 := n0_; have HO258 := n1_; have HO262 := n2_; have BK238 := n3_; have HB := n4_; clear n0_ n1_ n2_ n3_ n4_; (try clear hb); (try clear hb2); (try clear hk); (try clear hi); (try clear ho0)))
                            go_ret
                            exact ⟨by first | rfl | (simp [errW_none, errW_some] <;> rfl) | (simp [*, errW_none, errW_some] <;> rfl), by repeat (first | (with_reducible first | exact HB.out | apply below_alloc | apply pw_below_drewN | apply below_drew1 | refine below_set ?_ GE238.out) | exact HB.out)⟩
                        · rw [if_neg c56] at H
                          exact absurd H (by simp)
                    · rw [if_neg c51] at H
                      exact absurd H (by simp)
                  · rw [if_neg c50] at H
                    have c50b0 : decide ((t235.length : Int) ≤ 16) = false := decide_eq_false c50
                    have c50b1 : decide (t235.length ≤ 16) = false := decide_eq_false (by omega)
                    clear c50
                    obtain rfl := Option.some.inj H
                    have hcz67_0 : wr.cell? ⟨gb238, 0, none⟩ = some (.int .i64 t234) := (blk_cell BK238.out 0).trans rfl
                    have hcz67_1 : wr.cell? ⟨gb238, 1, none⟩ = some (.slice Ao12 t235.length co12) := (blk_cell BK238.out 1).trans rfl
                    have hfz67_0 := blk_frozen BK238.out 0
                    have hfz67_1 := blk_frozen BK238.out 1
                    go_wp2
                    go_ret
                    exact ⟨by first | rfl | (simp [errW_none, errW_some] <;> rfl) | (simp [*, errW_none, errW_some] <;> rfl), by repeat (first | (with_reducible first | exact HB.out | apply below_alloc | apply pw_below_drewN | apply below_drew1 | refine below_set ?_ GE238.out) | exact HB.out)⟩
                · rw [if_neg c49] at H
                  have c49b0 : (x5_1.toList == t233.toList) = false := beq_eq_false_iff_ne.mpr c49
                  have c49b1 : (x5_1.toList != t233.toList) = true := bne_iff_ne.mpr c49
                  obtain rfl := Option.some.inj H
                  have hcz68_0 : wr.cell? ⟨gb238, 0, none⟩ = some (.int .i64 t234) := (blk_cell BK238.out 0).trans rfl
                  have hcz68_1 : wr.cell? ⟨gb238, 1, none⟩ = some (.slice Ao12 t235.length co12) := (blk_cell BK238.out 1).trans rfl
                  have hfz68_0 := blk_frozen BK238.out 0
                  have hfz68_1 := blk_frozen BK238.out 1
                  go_wp2
                  go_ret
                  exact ⟨by first | rfl | (simp [errW_none, errW_some] <;> rfl) | (simp [*, errW_none, errW_some] <;> rfl), by repeat (first | (with_reducible first | exact HB.out | apply below_alloc | apply pw_below_drewN | apply below_drew1 | refine below_set ?_ GE238.out) | exact HB.out)⟩
      · rw [if_neg c7] at H
        have c7b0 : (t234 == 0) = false := beq_eq_false_iff_ne.mpr c7
        have c7b1 : (t234 != 0) = true := bne_iff_ne.mpr c7
        obtain rfl := Option.some.inj H
        go_enter Tryd.func4, Tryd.ntmps4
        try go_wp2_with (first | ((with_reducible refine gate_callee (f := 10) rfl ?_); refine goesL_ (some 11) rfl rfl Tryd.func10 (by kernel_rfl) rfl #[.slice A0 l0.length c0] rfl (by (try simp only [List.map_toArray, List.map_cons, List.map_nil]); first | done | rfl | (simp only [List.length_drop, List.length_take]; rfl)) ?_; (with_reducible refine (spec_DrawSplitPath.calls k _ _ l0 t233 _ ?side1 ?side2 A3.out).mono ?_); (case side1 => repeat (first | exact HR0.out | (with_reducible refine Kd.C_alloc ?_ _) | (with_reducible refine Kd.C_drewN ?_ _) | (with_reducible refine Kd.C_drew ?_))); (case side2 => exact HC0.out); rintro e w69 ⟨rfl, hb⟩; refine ⟨_, rfl, ?_⟩; have n0_ := Aside0.mk (below_step (by repeat (first | (with_reducible first | exact HB.out | apply below_alloc | apply pw_below_drewN | apply below_drew1) | exact HB.out)) hb); clear HB; have HB := n0_; clear n0_; (try clear hb); (try clear hb2); (try clear hk); (try clear hi)) | ((with_reducible refine gate_callee (f := 6) rfl ?_); refine goesL_ (some 13) rfl rfl Tryd.func6 (by kernel_rfl) rfl #[.string t233] rfl (by (try simp only [List.map_toArray, List.map_cons, List.map_nil]); first | done | rfl | (simp only [List.length_drop, List.length_take]; rfl)) ?_; (with_reducible refine (impl_SplitPath.calls k t233 t234 t235 _ A4.out _ (Glob.below HGLOB.out ?sideg)).mono ?_); (case sideg => repeat (first | (with_reducible first | exact HB.out | apply below_alloc | apply pw_below_drewN | apply below_drew1) | exact HB.out | (refine below_set ?_ GE238.out))); rintro e w70 ⟨v236, rfl, ho0, hb⟩; refine ⟨_, rfl, ?_⟩; have n0_ := Aside0.mk (Kd.R_lower ho0 (below_size (by repeat (first | (with_reducible first | exact HB.out | apply below_alloc | apply pw_below_drewN | apply below_drew1) | exact HB.out)))); have n1_ := Aside0.mk (below_step (by repeat (first | (with_reducible first | exact HB.out | apply below_alloc | apply pw_below_drewN | apply below_drew1) | exact HB.out)) hb); clear HB; have HO237 := n0_; have HB := n1_; clear n0_ n1_; (try clear hb); (try clear hb2); (try clear hk); (try clear hi); (try clear ho0)) | ((with_reducible refine gate_dst (N := 4) rfl ?_); (try (refine gate_guard (by rfl) ?_; dsimp only)); refine box_event ?hg (N := 4) ?hd (cs := #[.int .i64 0, .slice none 0 0]) (t := 24) ?hr ?_; (case hd => rfl); (case hg => rfl); (case hr => first | (go_simp; done) | (go_simp; rfl)); intro gb238 hg w71 hbox hb; have n0_ := Aside0.mk (Kd.R_below (by (with_reducible repeat (first | apply Kd.R_alloc | apply Kd.R_drewN | apply Kd.R_drew)); exact HO237.out) hb); have n1_ := Aside0.mk (below_step (by repeat (first | (with_reducible first | exact HB.out | apply below_alloc | apply pw_below_drewN | apply below_drew1) | exact HB.out)) hb); have n2_ := Aside0.mk (hbox); have n3_ := Aside0.mk ((by rw [hg]; exact (below_size (by repeat (first | (with_reducible first | exact HB.out | apply below_alloc | apply pw_below_drewN | apply below_drew1) | exact HB.out))) : w.heap.size ≤ gb238)); have n4_ := Aside0.mk ((by rw [hg]; exact (below_size (by repeat (first | (with_reducible first | exact HB.out | apply below_alloc | apply pw_below_drewN | apply below_drew1) | exact HB.out))) : w.heap.size ≤ gb238)); clear HO237; clear HB; have HO237 := n0_; have HB := n1_; have BK238 := n2_; have GW238 := n3_; have GE238 := n4_; clear n0_ n1_ n2_ n3_ n4_; clear hb hbox hg; have hcz72_0 : w71.cell? ⟨gb238, 0, none⟩ = some (.int .i64 0) := (blk_cell BK238.out 0).trans rfl; have hcz72_1 : w71.cell? ⟨gb238, 1, none⟩ = some (.slice none 0 0) := (blk_cell BK238.out 1).trans rfl; have hfz72_0 := blk_frozen BK238.out 0; have hfz72_1 := blk_frozen BK238.out 1; obtain ⟨Ao73, co73, eo73⟩ := Kd.R_slice HO237.out; subst eo73))
        have n0_ : Aside0 (Kd.R Kd.string 9 ((w71.setCell ⟨gb238, 0, none⟩ (.int .i64 t234)).setCell ⟨gb238, 1, none⟩ (.slice Ao73 t235.length co73)) w.heap.size (fun _ => True) (.slice Ao73 t235.length co73) t235) := ⟨by (with_reducible repeat (first | apply Kd.R_alloc | apply Kd.R_drewN | apply Kd.R_drew)); exact Kd.R_mono (Kd.R_far (p := ⟨gb238, 1, none⟩) (Kd.R_far (p := ⟨gb238, 0, none⟩) (Kd.R_types HO237.out BK238.out (by decide)) (fun _ hk => hk.2) (.int .i64 t234)) (fun _ hk => hk.2) (.slice Ao73 t235.length co73)) (fun _ hk => trivial)⟩
        have n1_ : Aside0 (((w71.setCell ⟨gb238, 0, none⟩ (.int .i64 t234)).setCell ⟨gb238, 1, none⟩ (.slice Ao73 t235.length co73)).heap[gb238]? = some (.cells #[.int .i64 t234, .slice Ao73 t235.length co73] 24 (0, 0))) := ⟨by (with_reducible repeat (first | refine blk_drewN ?_ _ | refine blk_drew ?_ | refine blk_alloc ?_ _)); refine blk_put (cs := #[.int .i64 t234, .slice none 0 0]) ?_ 1 _ rfl; (with_reducible repeat (first | refine blk_drewN ?_ _ | refine blk_drew ?_ | refine blk_alloc ?_ _)); refine blk_put (cs := #[.int .i64 0, .slice none 0 0]) ?_ 0 _ rfl; (with_reducible repeat (first | refine blk_drewN ?_ _ | refine blk_drew ?_ | refine blk_alloc ?_ _)); exact BK238.out⟩
        have n2_ : Aside0 (Below w.heap.size w ((w71.setCell ⟨gb238, 0, none⟩ (.int .i64 t234)).setCell ⟨gb238, 1, none⟩ (.slice Ao73 t235.length co73))) := ⟨by repeat (first | (with_reducible first | exact HB.out | apply below_alloc | apply pw_below_drewN | apply below_drew1 | refine below_set ?_ GE238.out) | exact HB.out)⟩
        (try clear HO237)
        (try clear BK238)
        (try clear HB)
        generalize ((w71.setCell ⟨gb238, 0, none⟩ (.int .i64 t234)).setCell ⟨gb238, 1, none⟩ (.slice Ao73 t235.length co73)) = w74 at n0_ n1_ n2_ ⊢
        have HO237 := n0_
        have BK238 := n1_
        have HB := n2_
        clear n0_ n1_ n2_
        have n0_ := Aside0.mk (Kd.R_drew HO237.out)
        have n1_ := Aside0.mk (blk_drew BK238.out)
        have n2_ := Aside0.mk (below_drew1 HB.out)
        clear HO237
        clear BK238
        clear HB
        have HO237 := n0_
        have BK238 := n1_
        have HB := n2_
        clear n0_ n1_ n2_
        refine start_ (n := 6) (S := fun w' => w'.cell? ⟨gb238, 0, none⟩ = some (.int .i64 t234) ∧ w'.cell? ⟨gb238, 1, none⟩ = some (.slice Ao73 t235.length co73)) (ds := []) #[false, false, false, false, false, false] (by kernel_rfl) rfl rfl ⟨(blk_cell BK238.out 0).trans rfl, (blk_cell BK238.out 1).trans rfl⟩ (fun hHeld => ?_)
        generalize w74.drew = w75 at HO237 BK238 HB hHeld ⊢
        refine pure_ (i := 0) (N := some 14) (v := ?_) (a' := ?_) #[true, false, false, false, false, false] rfl rfl (by kernel_rfl) (fun _ _ _ h => h) (Or.inl ⟨by rfl, ?_⟩) ?_ ?_
        rotate_left
        · intro w'
          go_simp
          with_reducible rfl
        rotate_left
        · simp only [Act.put, List.setIfInBounds_toArray, List.set_cons_zero, List.set_cons_succ, i64_w, i32_w]
          rfl
        refine pure_ (i := 2) (N := some 16) (v := ?_) (a' := ?_) #[true, false, true, false, false, false] rfl rfl (by kernel_rfl) (fun _ _ _ h => h) (Or.inl ⟨by rfl, ?_⟩) ?_ ?_
        rotate_left
        · intro w'
          go_simp
          with_reducible rfl
        rotate_left
        · simp only [Act.put, List.setIfInBounds_toArray, List.set_cons_zero, List.set_cons_succ, i64_w, i32_w]
          rfl
        refine take_ (i := 1) (N := some 15) (v := ?_) (a' := ?_) #[true, true, true, false, false, false] rfl rfl (by kernel_rfl) (fun _ _ _ h => h) (Or.inl ⟨by rfl, ?_⟩) hHeld ?_ ?_
        rotate_left
        · rintro w' ⟨s0, s1⟩
          go_simp
          with_reducible rfl
        rotate_left
        · simp only [Act.put, List.setIfInBounds_toArray, List.set_cons_zero, List.set_cons_succ, i64_w, i32_w]
          rfl
        refine one_ (i := 3) (N := some 17) #[true, true, true, true, false, false] rfl rfl (by kernel_rfl) (by decide) (fun K hK => ?_)
        refine goes_ Tryd.func5 (by kernel_rfl) rfl #[.string t233] (by rfl) rfl rfl (by (try simp only [List.map_toArray, List.map_cons, List.map_nil]); first | done | rfl | (simp only [List.length_drop, List.length_take]; rfl)) ?_
        with_reducible refine (spec_SplitPath.calls k t233 t239 t240 _ A5.out).mono ?_
        rintro e w76 ⟨v241, rfl, ho0, hb⟩
        refine ⟨_, rfl, ?_⟩
        have n0_ := Aside0.mk (Kd.R_elder' (by (with_reducible repeat (first | apply Kd.R_alloc | apply Kd.R_drewN | apply Kd.R_drew)); exact HO237.out) (Kd.R_base ho0) hb)
        have n1_ := Aside0.mk (Kd.R_lower (Kd.R_new' ho0 (Kd.R_lt (by (with_reducible repeat (first | apply Kd.R_alloc | apply Kd.R_drewN | apply Kd.R_drew)); exact HO237.out))) (below_size (by repeat (first | (with_reducible first | exact HB.out | apply below_alloc | apply pw_below_drewN | apply below_drew1 | refine below_set ?_ GE238.out) | exact HB.out))))
        have n2_ := Aside0.mk (blk_below (g := gb238) (o := .cells #[.int .i64 t234, .slice Ao73 t235.length co73] 24 (0, 0)) (by (with_reducible repeat (first | refine blk_drewN ?_ _ | refine blk_drew ?_ | refine blk_alloc ?_ _)); exact BK238.out) hb)
        have n3_ := Aside0.mk (below_step (by repeat (first | (with_reducible first | exact HB.out | apply below_alloc | apply pw_below_drewN | apply below_drew1 | refine below_set ?_ GE238.out) | exact HB.out)) hb)
        clear HO237
        clear BK238
        clear HB
        have HO237 := n0_
        have HO242 := n1_
        have BK238 := n2_
        have HB := n3_
        clear n0_ n1_ n2_ n3_
        (try clear hb)
        (try clear hb2)
        (try clear hk)
        (try clear hi)
        (try clear ho0)
        refine hK.out _ _ ⟨(blk_cell BK238.out 0).trans rfl, (blk_cell BK238.out 1).trans rfl⟩ (fun hHeld => ?_)
        clear hK K
        refine norm_ (a' := ?_) ?_ ?_
        rotate_left
        · show Act.put _ (some 17) _ = _
          simp only [Act.put, List.setIfInBounds_toArray, List.set_cons_zero, List.set_cons_succ, i64_w, i32_w]
          rfl
        refine pure_ (i := 4) (N := some 18) (v := ?_) (a' := ?_) #[true, true, true, true, true, false] rfl rfl (by kernel_rfl) (fun _ _ _ h => h) (Or.inl ⟨by rfl, ?_⟩) ?_ ?_
        rotate_left
        · intro w'
          go_simp
          with_reducible rfl
        rotate_left
        · simp only [Act.put, List.setIfInBounds_toArray, List.set_cons_zero, List.set_cons_succ, i64_w, i32_w]
          rfl
        refine pure_ (i := 5) (N := some 19) (v := ?_) (a' := ?_) #[true, true, true, true, true, true] rfl rfl (by kernel_rfl) (fun _ _ _ h => h) (Or.inl ⟨by rfl, ?_⟩) ?_ ?_
        rotate_left
        · intro w'
          go_simp
          with_reducible rfl
        rotate_left
        · simp only [Act.put, List.setIfInBounds_toArray, List.set_cons_zero, List.set_cons_succ, i64_w, i32_w]
          rfl
        refine done_ (by kernel_rfl) ?_
        have hcz77_0 : w76.cell? ⟨gb238, 0, none⟩ = some (.int .i64 t234) := (blk_cell BK238.out 0).trans rfl
        have hcz77_1 : w76.cell? ⟨gb238, 1, none⟩ = some (.slice Ao73 t235.length co73) := (blk_cell BK238.out 1).trans rfl
        have hfz77_0 := blk_frozen BK238.out 0
        have hfz77_1 := blk_frozen BK238.out 1
        try go_wp2
        go_ret
        exact ⟨by first | rfl | (simp [errW_none, errW_some] <;> rfl) | (simp [*, errW_none, errW_some] <;> rfl), by repeat (first | (with_reducible first | exact HB.out | apply below_alloc | apply pw_below_drewN | apply below_drew1 | refine below_set ?_ GE238.out) | exact HB.out)⟩
    · rw [if_neg c6] at H
      have c6b0 : (t234 == t239) = false := beq_eq_false_iff_ne.mpr c6
      have c6b1 : (t234 != t239) = true := bne_iff_ne.mpr c6
      obtain rfl := Option.some.inj H
      go_enter Tryd.func4, Tryd.ntmps4
      try go_wp2_with (first | ((with_reducible refine gate_callee (f := 10) rfl ?_); refine goesL_ (some 11) rfl rfl Tryd.func10 (by kernel_rfl) rfl #[.slice A0 l0.length c0] rfl (by (try simp only [List.map_toArray, List.map_cons, List.map_nil]); first | done | rfl | (simp only [List.length_drop, List.length_take]; rfl)) ?_; (with_reducible refine (spec_DrawSplitPath.calls k _ _ l0 t233 _ ?side1 ?side2 A3.out).mono ?_); (case side1 => repeat (first | exact HR0.out | (with_reducible refine Kd.C_alloc ?_ _) | (with_reducible refine Kd.C_drewN ?_ _) | (with_reducible refine Kd.C_drew ?_))); (case side2 => exact HC0.out); rintro e w78 ⟨rfl, hb⟩; refine ⟨_, rfl, ?_⟩; have n0_ := Aside0.mk (below_step (by repeat (first | (with_reducible first | exact HB.out | apply below_alloc | apply pw_below_drewN | apply below_drew1) | exact HB.out)) hb); clear HB; have HB := n0_; clear n0_; (try clear hb); (try clear hb2); (try clear hk); (try clear hi)) | ((with_reducible refine gate_callee (f := 6) rfl ?_); refine goesL_ (some 13) rfl rfl Tryd.func6 (by kernel_rfl) rfl #[.string t233] rfl (by (try simp only [List.map_toArray, List.map_cons, List.map_nil]); first | done | rfl | (simp only [List.length_drop, List.length_take]; rfl)) ?_; (with_reducible refine (impl_SplitPath.calls k t233 t234 t235 _ A4.out _ (Glob.below HGLOB.out ?sideg)).mono ?_); (case sideg => repeat (first | (with_reducible first | exact HB.out | apply below_alloc | apply pw_below_drewN | apply below_drew1) | exact HB.out | (refine below_set ?_ GE238.out))); rintro e w79 ⟨v236, rfl, ho0, hb⟩; refine ⟨_, rfl, ?_⟩; have n0_ := Aside0.mk (Kd.R_lower ho0 (below_size (by repeat (first | (with_reducible first | exact HB.out | apply below_alloc | apply pw_below_drewN | apply below_drew1) | exact HB.out)))); have n1_ := Aside0.mk (below_step (by repeat (first | (with_reducible first | exact HB.out | apply below_alloc | apply pw_below_drewN | apply below_drew1) | exact HB.out)) hb); clear HB; have HO237 := n0_; have HB := n1_; clear n0_ n1_; (try clear hb); (try clear hb2); (try clear hk); (try clear hi); (try clear ho0)) | ((with_reducible refine gate_dst (N := 4) rfl ?_); (try (refine gate_guard (by rfl) ?_; dsimp only)); refine box_event ?hg (N := 4) ?hd (cs := #[.int .i64 0, .slice none 0 0]) (t := 24) ?hr ?_; (case hd => rfl); (case hg => rfl); (case hr => first | (go_simp; done) | (go_simp; rfl)); intro gb238 hg w80 hbox hb; have n0_ := Aside0.mk (Kd.R_below (by (with_reducible repeat (first | apply Kd.R_alloc | apply Kd.R_drewN | apply Kd.R_drew)); exact HO237.out) hb); have n1_ := Aside0.mk (below_step (by repeat (first | (with_reducible first | exact HB.out | apply below_alloc | apply pw_below_drewN | apply below_drew1) | exact HB.out)) hb); have n2_ := Aside0.mk (hbox); have n3_ := Aside0.mk ((by rw [hg]; exact (below_size (by repeat (first | (with_reducible first | exact HB.out | apply below_alloc | apply pw_below_drewN | apply below_drew1) | exact HB.out))) : w.heap.size ≤ gb238)); have n4_ := Aside0.mk ((by rw [hg]; exact (below_size (by repeat (first | (with_reducible first | exact HB.out | apply below_alloc | apply pw_below_drewN | apply below_drew1) | exact HB.out))) : w.heap.size ≤ gb238)); clear HO237; clear HB; have HO237 := n0_; have HB := n1_; have BK238 := n2_; have GW238 := n3_; have GE238 := n4_; clear n0_ n1_ n2_ n3_ n4_; clear hb hbox hg; have hcz81_0 : w80.cell? ⟨gb238, 0, none⟩ = some (.int .i64 0) := (blk_cell BK238.out 0).trans rfl; have hcz81_1 : w80.cell? ⟨gb238, 1, none⟩ = some (.slice none 0 0) := (blk_cell BK238.out 1).trans rfl; have hfz81_0 := blk_frozen BK238.out 0; have hfz81_1 := blk_frozen BK238.out 1; obtain ⟨Ao82, co82, eo82⟩ := Kd.R_slice HO237.out; subst eo82))
      have n0_ : Aside0 (Kd.R Kd.string 9 ((w80.setCell ⟨gb238, 0, none⟩ (.int .i64 t234)).setCell ⟨gb238, 1, none⟩ (.slice Ao82 t235.length co82)) w.heap.size (fun _ => True) (.slice Ao82 t235.length co82) t235) := ⟨by (with_reducible repeat (first | apply Kd.R_alloc | apply Kd.R_drewN | apply Kd.R_drew)); exact Kd.R_mono (Kd.R_far (p := ⟨gb238, 1, none⟩) (Kd.R_far (p := ⟨gb238, 0, none⟩) (Kd.R_types HO237.out BK238.out (by decide)) (fun _ hk => hk.2) (.int .i64 t234)) (fun _ hk => hk.2) (.slice Ao82 t235.length co82)) (fun _ hk => trivial)⟩
      have n1_ : Aside0 (((w80.setCell ⟨gb238, 0, none⟩ (.int .i64 t234)).setCell ⟨gb238, 1, none⟩ (.slice Ao82 t235.length co82)).heap[gb238]? = some (.cells #[.int .i64 t234, .slice Ao82 t235.length co82] 24 (0, 0))) := ⟨by (with_reducible repeat (first | refine blk_drewN ?_ _ | refine blk_drew ?_ | refine blk_alloc ?_ _)); refine blk_put (cs := #[.int .i64 t234, .slice none 0 0]) ?_ 1 _ rfl; (with_reducible repeat (first | refine blk_drewN ?_ _ | refine blk_drew ?_ | refine blk_alloc ?_ _)); refine blk_put (cs := #[.int .i64 0, .slice none 0 0]) ?_ 0 _ rfl; (with_reducible repeat (first | refine blk_drewN ?_ _ | refine blk_drew ?_ | refine blk_alloc ?_ _)); exact BK238.out⟩
      have n2_ : Aside0 (Below w.heap.size w ((w80.setCell ⟨gb238, 0, none⟩ (.int .i64 t234)).setCell ⟨gb238, 1, none⟩ (.slice Ao82 t235.length co82))) := ⟨by repeat (first | (with_reducible first | exact HB.out | apply below_alloc | apply pw_below_drewN | apply below_drew1 | refine below_set ?_ GE238.out) | exact HB.out)⟩
      (try clear HO237)
      (try clear BK238)
      (try clear HB)
      generalize ((w80.setCell ⟨gb238, 0, none⟩ (.int .i64 t234)).setCell ⟨gb238, 1, none⟩ (.slice Ao82 t235.length co82)) = w83 at n0_ n1_ n2_ ⊢
      have HO237 := n0_
      have BK238 := n1_
      have HB := n2_
      clear n0_ n1_ n2_
      have n0_ := Aside0.mk (Kd.R_drew HO237.out)
      have n1_ := Aside0.mk (blk_drew BK238.out)
      have n2_ := Aside0.mk (below_drew1 HB.out)
      clear HO237
      clear BK238
      clear HB
      have HO237 := n0_
      have BK238 := n1_
      have HB := n2_
      clear n0_ n1_ n2_
      refine start_ (n := 6) (S := fun w' => w'.cell? ⟨gb238, 0, none⟩ = some (.int .i64 t234) ∧ w'.cell? ⟨gb238, 1, none⟩ = some (.slice Ao82 t235.length co82)) (ds := []) #[false, false, false, false, false, false] (by kernel_rfl) rfl rfl ⟨(blk_cell BK238.out 0).trans rfl, (blk_cell BK238.out 1).trans rfl⟩ (fun hHeld => ?_)
      generalize w83.drew = w84 at HO237 BK238 HB hHeld ⊢
      refine pure_ (i := 0) (N := some 14) (v := ?_) (a' := ?_) #[true, false, false, false, false, false] rfl rfl (by kernel_rfl) (fun _ _ _ h => h) (Or.inl ⟨by rfl, ?_⟩) ?_ ?_
      rotate_left
      · intro w'
        go_simp
        with_reducible rfl
      rotate_left
      · simp only [Act.put, List.setIfInBounds_toArray, List.set_cons_zero, List.set_cons_succ, i64_w, i32_w]
        rfl
      refine pure_ (i := 2) (N := some 16) (v := ?_) (a' := ?_) #[true, false, true, false, false, false] rfl rfl (by kernel_rfl) (fun _ _ _ h => h) (Or.inl ⟨by rfl, ?_⟩) ?_ ?_
      rotate_left
      · intro w'
        go_simp
        with_reducible rfl
      rotate_left
      · simp only [Act.put, List.setIfInBounds_toArray, List.set_cons_zero, List.set_cons_succ, i64_w, i32_w]
        rfl
      refine take_ (i := 1) (N := some 15) (v := ?_) (a' := ?_) #[true, true, true, false, false, false] rfl rfl (by kernel_rfl) (fun _ _ _ h => h) (Or.inl ⟨by rfl, ?_⟩) hHeld ?_ ?_
      rotate_left
      · rintro w' ⟨s0, s1⟩
        go_simp
        with_reducible rfl
      rotate_left
      · simp only [Act.put, List.setIfInBounds_toArray, List.set_cons_zero, List.set_cons_succ, i64_w, i32_w]
        rfl
      refine one_ (i := 3) (N := some 17) #[true, true, true, true, false, false] rfl rfl (by kernel_rfl) (by decide) (fun K hK => ?_)
      refine goes_ Tryd.func5 (by kernel_rfl) rfl #[.string t233] (by rfl) rfl rfl (by (try simp only [List.map_toArray, List.map_cons, List.map_nil]); first | done | rfl | (simp only [List.length_drop, List.length_take]; rfl)) ?_
      with_reducible refine (spec_SplitPath.calls k t233 t239 t240 _ A5.out).mono ?_
      rintro e w85 ⟨v241, rfl, ho0, hb⟩
      refine ⟨_, rfl, ?_⟩
      have n0_ := Aside0.mk (Kd.R_elder' (by (with_reducible repeat (first | apply Kd.R_alloc | apply Kd.R_drewN | apply Kd.R_drew)); exact HO237.out) (Kd.R_base ho0) hb)
      have n1_ := Aside0.mk (Kd.R_lower (Kd.R_new' ho0 (Kd.R_lt (by (with_reducible repeat (first | apply Kd.R_alloc | apply Kd.R_drewN | apply Kd.R_drew)); exact HO237.out))) (below_size (by repeat (first | (with_reducible first | exact HB.out | apply below_alloc | apply pw_below_drewN | apply below_drew1 | refine below_set ?_ GE238.out) | exact HB.out))))
      have n2_ := Aside0.mk (blk_below (g := gb238) (o := .cells #[.int .i64 t234, .slice Ao82 t235.length co82] 24 (0, 0)) (by (with_reducible repeat (first | refine blk_drewN ?_ _ | refine blk_drew ?_ | refine blk_alloc ?_ _)); exact BK238.out) hb)
      have n3_ := Aside0.mk (below_step (by repeat (first | (with_reducible first | exact HB.out | apply below_alloc | apply pw_below_drewN | apply below_drew1 | refine below_set ?_ GE238.out) | exact HB.out)) hb)
      clear HO237
      clear BK238
      clear HB
      have HO237 := n0_
      have HO242 := n1_
      have BK238 := n2_
      have HB := n3_
      clear n0_ n1_ n2_ n3_
      (try clear hb)
      (try clear hb2)
      (try clear hk)
      (try clear hi)
      (try clear ho0)
      refine hK.out _ _ ⟨(blk_cell BK238.out 0).trans rfl, (blk_cell BK238.out 1).trans rfl⟩ (fun hHeld => ?_)
      clear hK K
      refine norm_ (a' := ?_) ?_ ?_
      rotate_left
      · show Act.put _ (some 17) _ = _
        simp only [Act.put, List.setIfInBounds_toArray, List.set_cons_zero, List.set_cons_succ, i64_w, i32_w]
        rfl
      refine pure_ (i := 4) (N := some 18) (v := ?_) (a' := ?_) #[true, true, true, true, true, false] rfl rfl (by kernel_rfl) (fun _ _ _ h => h) (Or.inl ⟨by rfl, ?_⟩) ?_ ?_
      rotate_left
      · intro w'
        go_simp
        with_reducible rfl
      rotate_left
      · simp only [Act.put, List.setIfInBounds_toArray, List.set_cons_zero, List.set_cons_succ, i64_w, i32_w]
        rfl
      refine pure_ (i := 5) (N := some 19) (v := ?_) (a' := ?_) #[true, true, true, true, true, true] rfl rfl (by kernel_rfl) (fun _ _ _ h => h) (Or.inl ⟨by rfl, ?_⟩) ?_ ?_
      rotate_left
      · intro w'
        go_simp
        with_reducible rfl
      rotate_left
      · simp only [Act.put, List.setIfInBounds_toArray, List.set_cons_zero, List.set_cons_succ, i64_w, i32_w]
        rfl
      refine done_ (by kernel_rfl) ?_
      try go_wp2
      go_ret
      exact ⟨by first | rfl | (simp [errW_none, errW_some] <;> rfl) | (simp [*, errW_none, errW_some] <;> rfl), by repeat (first | (with_reducible first | exact HB.out | apply below_alloc | apply pw_below_drewN | apply below_drew1 | refine below_set ?_ GE238.out) | exact HB.out)⟩

/-- THE ONE PURE STATEMENT of laws_FnPaths: yours. -/
def laws_FnPaths.Pure : Prop := ∀ (l0 : List Int), l0.length ≤ maxLen → l0.length * 1 ≤ 140737488351232 → (∀ x ∈ l0, (Lit.int .u8 x).wf = true) → ∃ k, laws_FnPaths.f k l0 = some true
theorem laws_FnPaths.walk (P : laws_FnPaths.Pure) (a0 : Option Addr) (len0 cap0 : Nat) (z0 : List Int) (w : World) (w0 : (a0 = none ∧ len0 = 0 ∧ cap0 = 0 ∧ z0 = []) ∨ ∃ x, a0 = some x ∧ len0 ≤ cap0 ∧ cap0 ≤ maxLen ∧ z0.length = cap0 ∧ (∀ i, i < z0.length → w.cell? (x.add i) = some (.int .u8 (z0.getD i 0))) ∧ ∀ n ∈ z0, (Lit.int .u8 n).wf = true) (y0 : len0 * 1 ≤ 140737488351232) (s_ : Int) (hG_ : Glob s_ w) :
    Calls Tryd.prog 4 #[.slice a0 len0 cap0] w fun e w' => e = .returned (.bool true) ∧ Below w.heap.size w w' := by
  obtain ⟨l0, rfl, hr0, hm0, hw0, hc0⟩ := ReadsInt.ofRowC w0
  obtain ⟨k, h⟩ := P l0 hm0 y0 hw0
  refine (laws_FnPaths.calls k _ _ l0 true w (Kd.C_of_reads (d := (0 : Int)) (h1 := fun _ => rfl) hr0) hc0 h s_ hG_).mono ?_
  rintro e w' ⟨rfl, hd⟩
  exact ⟨rfl, hd⟩

end Go.Proofs.YtlnjphkcnkdmlaaDoor.PD
