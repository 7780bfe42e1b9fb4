/- impl.runs' closure at this translation: it yields the runs of positions that are off, in order. -/
import Derived.Test.YtkjcffhmjfdnmaaPBx1
import Derived.Test.YtkjcffhmjfdnmaaRunsPlain
import Derived.RangeFuncBox
import Derived.RangeFuncNested
import Derived.RangeFuncBound
import Derived.RangeFuncCalls
import Derived.RangeFuncLeaves
import Derived.Shelf.Abstract
import Derived.Shelf.RegionOpen
import Derived.WalkKit
import Derived.OwnWalkIn
import Derived.TacticsInMore
import Derived.LoopNIn
import Derived.LoopIn
import Derived.Maps.AppendAt
import Derived.Lib.Hide
import Derived.Outline
set_option linter.unusedVariables false
namespace Go.Proofs.Ytkjcffhmjfdnmaa
open Go.RowKit Go.Shelf Go.Proofs.YtkjcffhmjfdnmaaW.PrintWords
attribute [local go_sem] Oper.semAt_some
def encRun (x : Nat × Nat) : Array Value := #[.agg #[.int .i64 x.1, .int .i64 x.2]]
def keepP (w0 : World) (b2 b3 : Nat) (W W' : World) : Prop := Below w0.heap.size W W' ∧ W'.cell? ⟨b2, 0, none⟩ = W.cell? ⟨b2, 0, none⟩ ∧ W'.cell? ⟨b3, 0, none⟩ = W.cell? ⟨b3, 0, none⟩
theorem drawn_cell {W W' : World} (h : Drawn0 W W') (a : Addr) : W'.cell? a = W.cell? a := by
  obtain ⟨m, rfl⟩ := h
  exact World.cell?_drewN _ _ _
theorem drawn_heap {W W' : World} (h : Drawn0 W W') : W'.heap = W.heap := by
  obtain ⟨m, rfl⟩ := h
  rfl
theorem drawn_grown {W W' : World} (h : Drawn0 W W') : W.grownBy W' none := grown_of_below h.below none
theorem grown_trans {A B C : World} (h : A.grownBy B none) (k : B.grownBy C none) : A.grownBy C none :=
  ⟨k.os.trans h.os, k.tape.trans h.tape, k.output.trans h.output, Nat.le_trans h.size k.size, fun j hj hn => (k.block j (Nat.lt_of_lt_of_le hj h.size) hn).trans (h.block j hj hn)⟩
theorem grown_set {A B : World} (h : A.grownBy B none) (a : Addr) (v : Value) (ha : A.heap.size ≤ a.block) : A.grownBy (B.setCell a v) none :=
  ⟨h.os, h.tape, h.output, by have := h.size; simp [World.setCell]; omega, fun j hj hn => (Below.heap_setCell B a v j (by omega)).trans (h.block j hj hn)⟩
theorem freeLen_step (b : Nat → Bool) (d i : Nat) (h : b i = false) : freeLen b (d + 1) i = freeLen b d (i + 1) + 1 := by rw [freeLen, h]; simp
theorem freeLen_stop (b : Nat → Bool) (d i : Nat) (h : b i = true) : freeLen b (d + 1) i = 0 := by rw [freeLen, h]; simp
theorem abides_none {β : Type} {B : Nat} {J : β → World → Prop} (hJ : AbidesFrom B J) {s : β} {W W' : World} (h : J s W) (hg : W.grownBy W' none) : J s W' := hJ s W W' none h hg (fun r e => by cases e)
theorem below_grownBy {n : Nat} {A B C : World} (h : Below n A B) (hn : n ≤ B.heap.size) (k : B.grownBy C none) : Below n A C := h.grown k hn (fun r e => by cases e)
set_option maxRecDepth 100000 in
set_option maxHeartbeats 2000000 in
theorem runs1_in (n : Nat) (hn : 1 ≤ n) (l b1 b2 b3 : Nat) (A0 : Option Addr) (c0 : Nat) (bits : List Int) (b : Nat → Bool) (lo hi f : Nat) (hiI : Int) (hH : Hid (∀ k : Nat, (k : Int) < hiI ↔ k < hi)) (w0 : World) (hhi : hi ≤ 16384) (hf : hi ≤ lo + f)
    (hr : Kd.C (Kd.int .u8) w0 A0 bits.length bits) (hc0 : bits.length ≤ c0) (hbit : ∀ i : Nat, i < hi → PB.impl_BitGet.f bits i = some (b i))
    (J Jx : List (Nat × Nat) → World → Prop)
    (hY : ∀ pre x W, J pre W → pre.length < (runsN b hi f lo).length → YieldAt Fence.wide (n - 1) Try.prog l (encRun x) W fun e W' =>
      (e = .returned (.bool true) ∧ J (pre ++ [x]) W' ∧ keepP w0 b2 b3 W W') ∨ (e = .returned (.bool false) ∧ Jx (pre ++ [x]) W'))
    (W : World) (hJ : AbidesFrom W.heap.size J) (hB : Below w0.heap.size w0 W) (hb1 : W.cell? ⟨b1, 0, none⟩ = some (.int .i64 lo)) (hb2 : W.cell? ⟨b2, 0, none⟩ = some (.int .i64 hiI)) (hb3 : W.cell? ⟨b3, 0, none⟩ = some (.slice A0 bits.length c0)) (h0 : J [] W) :
    CallsIn Fence.wide n Try.prog 28 #[.func (.yield l) #[] #[], .pointer (some ⟨b1, 0, none⟩), .pointer (some ⟨b2, 0, none⟩), .pointer (some ⟨b3, 0, none⟩)] W fun e W' => (∃ v, e = .returned v) ∧
      ((∃ ys, ys = runsN b hi f lo ∧ J ys W') ∨ (∃ pre, pre <+: runsN b hi f lo ∧ Jx pre W')) := by
  refine callsIn_of_wp Try.func28 rfl trivial ?_ rfl
  simp only [Try.ntmps28, List.size_toArray, List.length_cons, List.length_nil, Nat.reduceAdd, Nat.reduceSub, Array.replicate_succ, Array.replicate_zero, List.push_toArray, List.append_toArray, List.nil_append, List.cons_append]
  gi_wp2
  gi_loopw [5] (fun i wr => ∃ (k g : Nat) (pre : List (Nat × Nat)), i = .int .i64 k ∧ hi ≤ k + g ∧ pre ++ runsN b hi g k = runsN b hi f lo ∧ J pre wr ∧ Below w0.heap.size w0 wr ∧ wr.cell? ⟨b2, 0, none⟩ = some (.int .i64 hiI) ∧ wr.cell? ⟨b3, 0, none⟩ = some (.slice A0 bits.length c0))
    (fun i _ => hi - (intOf i).toNat)
  case atStart => exact ⟨lo, f, [], rfl, hf, by simp, h0, hB, hb2, hb3⟩
  case round =>
    obtain ⟨k, g, pre, rfl, hg, hpre, hJs, hBr, hc2, hc3⟩ := hrel
    have HP := Lib.hid hpre
    clear hpre
    by_cases hlt : k < hi
    · obtain ⟨g, rfl⟩ : ∃ g', g = g' + 1 := ⟨g - 1, by omega⟩
      have hrr := Kd.C_below hr hBr
      have hbk := hbit k hlt
      have hlt' : (k : Int) < hiI := (hH.out k).2 hlt
      cases hb : b k with
      | true =>
        rw [hb] at hbk
        gi_wp2_with (refine ⟨trivial, ?_⟩; gi_at_call 17; refine (callsIn_wide.2 (PB.impl_BitGet.calls A0 c0 bits k true _ hrr hc0 hbk)).mono ?_; rintro e w' ⟨rfl, hd⟩)
        have e2 : w'.cell? ⟨b2, 0, none⟩ = some (.int .i64 hiI) := (drawn_cell hd _).trans hc2
        have e3 : w'.cell? ⟨b3, 0, none⟩ = some (.slice A0 bits.length c0) := (drawn_cell hd _).trans hc3
        go_roundw
        case rel =>
          refine ⟨k + 1, g, pre, by go_num, by omega, ?_, abides_none hJ hJs (drawn_grown hd), below_grownBy hBr (by have := hBr.size; omega) (drawn_grown hd), e2, e3⟩
          rw [← HP.out, runsN, if_neg (by omega), hb, if_pos rfl]
        case measure => simp [intOf]; omega
      | false =>
        rw [hb] at hbk
        have hlen : pre.length < (runsN b hi f lo).length := by
          rw [← HP.out, runsN, if_neg (by omega), hb]; simp
        gi_wp2_with (refine ⟨trivial, ?_⟩; gi_at_call 17; refine (callsIn_wide.2 (PB.impl_BitGet.calls A0 c0 bits k false _ hrr hc0 hbk)).mono ?_; rintro e w' ⟨rfl, hd⟩)
        have hg1 : w'.grownBy (w'.alloc (.cells #[.int .i64 k, .int .i64 0] 35)) none := World.grownBy_alloc _ _ _
        have hJ1 : J pre w' := abides_none hJ hJs (drawn_grown hd)
        have hB1 : Below w0.heap.size w0 w' := below_grownBy hBr (by have := hBr.size; omega) (drawn_grown hd)
        have f2 : w'.cell? ⟨b2, 0, none⟩ = some (.int .i64 hiI) := (drawn_cell hd _).trans hc2
        have f3 : w'.cell? ⟨b3, 0, none⟩ = some (.slice A0 bits.length c0) := (drawn_cell hd _).trans hc3
        gi_loopw [5] (fun i wr2 => ∃ m : Nat, i = .int .i64 ((k + m : Nat) : Int) ∧ m + freeLen b (hi - (k + m)) (k + m) = freeLen b (hi - k) k ∧ k + m ≤ hi ∧ w'.grownBy wr2 none ∧ wr2.heap[w'.heap.size]? = some (.cells #[.int .i64 k, .int .i64 m] 35 (0, 0)))
          (fun i _ => hi - (intOf i).toNat)
        case atStart => exact ⟨0, by simp, by simp, by omega, hg1, by simpa using heap_alloc_new w' _⟩
        case round =>
          obtain ⟨m, rfl, hm, hmh, hg2, hblk⟩ := hrel
          have HM := Lib.hid hm
          clear hm
          have hw' : w0.heap.size ≤ w'.heap.size := hB1.size
          have hJ2 : J pre wr := abides_none hJ hJ1 hg2
          have hB2 : Below w0.heap.size w0 wr := below_grownBy hB1 hw' hg2
          have g2 : wr.cell? ⟨b2, 0, none⟩ = some (.int .i64 hiI) := hg2.cell f2 (by simp)
          have g3 : wr.cell? ⟨b3, 0, none⟩ = some (.slice A0 bits.length c0) := hg2.cell f3 (by simp)
          have hrr2 := Kd.C_below hr hB2
          have cr0 : wr.cell? ⟨w'.heap.size, 0, none⟩ = some (.int .i64 k) := by simp [World.cell?, hblk]
          have cr1 : wr.cell? ⟨w'.heap.size, 1, none⟩ = some (.int .i64 m) := by simp [World.cell?, hblk]
          have fr1 : wr.frozen? ⟨w'.heap.size, 1, none⟩ = false := by simp [World.frozen?, hblk]
          by_cases hlt2 : k + m < hi
          · have hbk2 := hbit (k + m) hlt2
            have hlt2' : ((k + m : Nat) : Int) < hiI := (hH.out (k + m)).2 hlt2
            have hlt3' : (k : Int) + (m : Int) < hiI := by omega
            obtain ⟨d, hd1⟩ : ∃ d, hi - (k + m) = d + 1 := ⟨hi - (k + m) - 1, by omega⟩
            have HD := Lib.hid hd1
            clear hd1
            cases hbm : b (k + m) with
            | true =>
              rw [hbm] at hbk2
              have HM2 := HM.out
              rw [HD.out, freeLen_stop b d _ hbm, Nat.add_zero] at HM2
              have HQ := Lib.hid HM2
              clear HM HD HM2
              gi_wp2_with (refine ⟨trivial, ?_⟩; gi_at_call 17; refine (callsIn_wide.2 (PB.impl_BitGet.calls A0 c0 bits _ true _ hrr2 hc0 hbk2)).mono ?_; rintro e w3 ⟨rfl, hd3⟩; have q0 : w3.cell? ⟨w'.heap.size, 0, none⟩ = some (.int .i64 k) := (drawn_cell hd3 _).trans cr0; have q1 : w3.cell? ⟨w'.heap.size, 1, none⟩ = some (.int .i64 m) := (drawn_cell hd3 _).trans cr1; obtain ⟨fn, tmps, assign, body, hy, hR⟩ := hY pre (k, m) w3 (abides_none hJ hJ2 (drawn_grown hd3)) hlen; simp only [encRun] at hy)
              have hB3 : Below w0.heap.size w0 w3 := below_grownBy hB2 (by have := hg2.size; omega) (drawn_grown hd3)
              have p2 : w3.cell? ⟨b2, 0, none⟩ = some (.int .i64 hiI) := (drawn_cell hd3 _).trans g2
              have p3 : w3.cell? ⟨b3, 0, none⟩ = some (.slice A0 bits.length c0) := (drawn_cell hd3 _).trans g3
              refine hR.mono ?_
              rintro e W3 (⟨rfl, hJ3, hk3, h2, h3⟩ | ⟨rfl, hJx3⟩)
              · gi_wp2
                have k2 : W3.cell? ⟨b2, 0, none⟩ = some (.int .i64 hiI) := h2.trans p2
                have k3 : W3.cell? ⟨b3, 0, none⟩ = some (.slice A0 bits.length c0) := h3.trans p3
                go_roundw
                case rel =>
                  refine ⟨k + m + 1, g, pre ++ [(k, m)], by go_num, by omega, ?_, hJ3, hB3.trans hk3, k2, k3⟩
                  rw [← HP.out]
                  conv => rhs; rw [runsN, if_neg (by omega), hb]
                  have HM2 := HQ.out
                  simp only [List.append_assoc, List.singleton_append, ← HM2]
                  rfl
                case measure => simp [intOf]; omega
              · gi_wp2
                refine bodyPost_ret (results_none rfl _ _ _) rfl ?_
                refine ⟨⟨_, rfl⟩, .inr ⟨pre ++ [(k, m)], ?_, hJx3⟩⟩
                rw [← HP.out]
                conv => rhs; rw [runsN, if_neg (by omega), hb]
                have HM2 := HQ.out
                simp only [← HM2]
                exact ⟨runsN b hi g (k + m + 1), by simp⟩
            | false =>
              rw [hbm] at hbk2
              gi_wp2_with (refine ⟨trivial, ?_⟩; gi_at_call 17; refine (callsIn_wide.2 (PB.impl_BitGet.calls A0 c0 bits _ false _ hrr2 hc0 hbk2)).mono ?_; rintro e w3 ⟨rfl, hd3⟩; have q1 : w3.cell? ⟨w'.heap.size, 1, none⟩ = some (.int .i64 m) := (drawn_cell hd3 _).trans cr1; have q2 : w3.frozen? ⟨w'.heap.size, 1, none⟩ = false := by (obtain ⟨nq, hnq⟩ := hd3.out; rw [hnq]; exact fr1))
              go_roundw
              case rel =>
                refine ⟨m + 1, by go_num, ?_, by omega, grown_set (grown_trans hg2 (drawn_grown hd3)) _ _ (Nat.le_refl _), ?_⟩
                · rw [← HM.out, HD.out, freeLen_step b d _ hbm, show hi - (k + (m + 1)) = d by have := HD.out; omega, show k + (m + 1) = k + m + 1 by omega]; omega
                · have hb3' : w3.heap[w'.heap.size]? = some (.cells #[.int .i64 k, .int .i64 m] 35 (0, 0)) := by rw [drawn_heap hd3]; exact hblk
                  simpa using blk_set hb3' 1 (.int .i64 ((m : Int) + 1))
              case measure => simp [intOf]; omega
          · have e0 : hi - (k + m) = 0 := by omega
            have hge2 : hiI ≤ (k : Int) + (m : Int) := by have := (hH.out (k + m)).1; omega
            have HM2 := HM.out
            rw [e0, freeLen, Nat.add_zero] at HM2
            have HQ := Lib.hid HM2
            clear HM2
            obtain ⟨fn, tmps, assign, body, hy, hR⟩ := hY pre (k, m) wr hJ2 hlen
            simp only [encRun] at hy
            clear HM
            gi_wp2
            refine ⟨trivial, ?_⟩
            gi_wp2
            refine hR.mono ?_
            rintro e W3 (⟨rfl, hJ3, hk3, h2, h3⟩ | ⟨rfl, hJx3⟩)
            · gi_wp2
              have k2 : W3.cell? ⟨b2, 0, none⟩ = some (.int .i64 hiI) := h2.trans g2
              have k3 : W3.cell? ⟨b3, 0, none⟩ = some (.slice A0 bits.length c0) := h3.trans g3
              go_roundw
              case rel =>
                refine ⟨k + m + 1, g, pre ++ [(k, m)], by go_num, by omega, ?_, hJ3, hB2.trans hk3, k2, k3⟩
                rw [← HP.out]
                conv => rhs; rw [runsN, if_neg (by omega), hb]
                have HM2 := HQ.out
                simp only [List.append_assoc, List.singleton_append, ← HM2]
                rfl
              case measure => simp [intOf]; omega
            · gi_wp2
              refine bodyPost_ret (results_none rfl _ _ _) rfl ?_
              refine ⟨⟨_, rfl⟩, .inr ⟨pre ++ [(k, m)], ?_, hJx3⟩⟩
              rw [← HP.out]
              conv => rhs; rw [runsN, if_neg (by omega), hb]
              have HM2 := HQ.out
              simp only [← HM2]
              exact ⟨runsN b hi g (k + m + 1), by simp⟩
    · have e0 : runsN b hi g k = [] := by cases g <;> simp [runsN]; omega
      have HP2 := HP.out
      rw [e0, List.append_nil] at HP2
      have hge : hiI ≤ (k : Int) := by have := (hH.out k).1; omega
      clear HP
      gi_wp2
      go_end0
      exact ⟨⟨_, rfl⟩, .inl ⟨pre, HP2, hJs⟩⟩
end Go.Proofs.Ytkjcffhmjfdnmaa
