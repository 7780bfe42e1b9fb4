/- impl.Quote at this translation: it returns 'quoteF'. -/
import Derived.Test.YtdfoedjfnoiboaaBld
import Derived.Test.YtdfoedjfnoiboaaPlain
import Derived.LoopTactic
import Derived.WalkSpells
import Derived.OwnWalk
import Derived.Lib.Hide
import Derived.Outline
set_option linter.unusedVariables false
namespace Go.Proofs.Ytdfoedjfnoiboaa
open Go.RowKit
set_option maxHeartbeats 2000000 in
set_option maxRecDepth 100000 in
theorem quote_big (a0 : ByteArray) (w : World) (h : 65536 < a0.size) (hs : a0.size ≤ maxLen) :
    Calls Try.prog 7 #[.string a0] w fun e w' => e = .returned (.string ⟨#[]⟩) ∧ Below w.heap.size w w' := by
  unfold maxLen at hs
  go_enter Try.func7, Try.ntmps7
  go_wp2
  go_ret
  exact ⟨rfl, Below.refl _ _⟩
set_option maxHeartbeats 2000000 in
set_option maxRecDepth 100000 in
theorem quote_nil (w : World) :
    Calls Try.prog 7 #[.string ⟨#[]⟩] w fun e w' => e = .returned (.string ⟨#[37]⟩) ∧ Below w.heap.size w w' := by
  go_enter Try.func7, Try.ntmps7
  go_wp2
  go_ret
  exact ⟨rfl, Below.refl _ _⟩
theorem plain_yes (c : Int) (w : World) (h : 33 ≤ c) (h2 : c ≤ 126) : Calls Try.prog 15 #[.int .u8 c] w fun e w' => e = .returned (.bool true) ∧ w = w' := by
  go_enter Try.func15, Try.ntmps15
  go_wp2
  go_ret
  exact ⟨by first | (simp; done) | (simp; omega), rfl⟩
theorem plain_no (c : Int) (w : World) (h : c < 33 ∨ 126 < c) : Calls Try.prog 15 #[.int .u8 c] w fun e w' => e = .returned (.bool false) ∧ w = w' := by
  rcases h with h | h
  · go_enter Try.func15, Try.ntmps15
    go_wp2
    go_ret
    exact ⟨by simp, rfl⟩
  · have h3 : 33 ≤ c := by omega
    go_enter Try.func15, Try.ntmps15
    go_wp2
    go_ret
    exact ⟨by first | (simp; done) | (simp; omega), rfl⟩
theorem bytes_app (l m : List UInt8) : Lib.byteCells (l ++ m) = Lib.byteCells l ++ Lib.byteCells m := by simp [Lib.byteCells]
set_option maxHeartbeats 2000000 in
set_option maxRecDepth 100000 in
theorem quote_some (a0 : ByteArray) (w : World) (h : a0.size ≤ 65536) (h0 : 0 < a0.size) :
    Calls Try.prog 7 #[.string a0] w fun e w' => e = .returned (.string ⟨(quoteL a0.data.toList).toArray⟩) ∧ Below w.heap.size w w' := by
  have hd : decide ((65536 : Int) < (a0.size : Int)) = false := by simp; omega
  have he : a0.toList.isEmpty = false := by
    rw [List.isEmpty_eq_false_iff]
    intro hn
    have h1 := congrArg List.length hn
    rw [Lib.toList_data] at h1
    have h2 : a0.data.toList.length = a0.size := by simp
    rw [h2, List.length_nil] at h1
    omega
  have hbn : Lib.IsBuilder 35 5 w.heap.size w.heap.size [] (w.alloc (.cells #[.pointer none, .slice none 0 0] 35)) := by
    refine .inl ⟨Nat.le_refl _, .slice none 0 0, by simpa using heap_alloc_new w _, World.ownsRow_nil _ _ _ _, by simp [Value.ownBlock]⟩
  have hbel : Below w.heap.size w (w.alloc (.cells #[.pointer none, .slice none 0 0] 35)) := (Below.refl _ _).alloc (Nat.le_refl _) _
  go_enter Try.func7, Try.ntmps7
  go_wp2
  go_loopw [13] (fun i wr => ∃ k : Nat, k ≤ a0.size ∧ i = .int .i64 k ∧ Lib.IsBuilder 35 5 w.heap.size w.heap.size (Lib.byteCells (quoteL (a0.data.toList.take k))) wr ∧ Below w.heap.size w wr) (fun i _ => a0.size - (intOf i).toNat)
  case atStart => exact ⟨0, Nat.zero_le _, rfl, by simpa [quoteL, Lib.byteCells] using hbn, hbel⟩
  case round =>
    obtain ⟨k, hk, rfl, hbld, hbw⟩ := hrel
    have hsz := hbw.size
    by_cases hlt : k < a0.size
    · have hql := quoteL_len (a0.data.toList.take k)
      have hl : (a0.data.toList.take k).length ≤ k := List.length_take_le _ _
      have hbl : (Lib.byteCells (quoteL (a0.data.toList.take k))).length ≤ 3 * k := by simp [Lib.byteCells]; omega
      have hq : Hid (quoteL (a0.data.toList.take (k + 1)) = quoteL (a0.data.toList.take k) ++ qB a0[k]) := by rw [take_snoc a0 k hlt]; exact quoteL_snoc _ _
      have hu2 : (a0[k].toNat : Int) ≤ 255 := by have := a0[k].toNat_lt; omega
      have hu0 : 0 ≤ (a0[k].toNat : Int) / 16 := by omega
      have hu1 : (a0[k].toNat : Int) / 16 < 16 := by omega
      by_cases hc : 33 ≤ (a0[k].toNat : Int) ∧ (a0[k].toNat : Int) ≤ 126
      · obtain ⟨hc1, hc2⟩ := hc
        by_cases hp : (a0[k].toNat : Int) = 37
        · have HP := Lib.hid hp
          have hp1 : ((a0[k].toNat : Int) != 37) = false := by simpa using hp
          have hqb : Hid (qB a0[k] = [37, hexD (a0[k].toNat / 16), hexD (a0[k].toNat % 16)]) := by unfold Hid qB; rw [if_neg (by omega)]
          clear hp
          go_wp2_with (first | (go_at_call 15; refine (plain_yes _ _ hc1 hc2).mono ?_; rintro e w' ⟨rfl, rfl⟩))
          refine (Try.writeByte w.heap.size w.heap.size _ _ _ hbld (by omega) hsz).mono ?_
          rintro e w1 ⟨rfl, hb1, hbb1⟩
          go_wp2_with fail
          refine (Try.writeByte w.heap.size w.heap.size _ _ _ (.inr hb1) (by simp; omega) (by have := hbb1.size; omega)).mono ?_
          rintro e w2 ⟨rfl, hb2, hbb2⟩
          go_wp2_with fail
          refine (Try.writeByte w.heap.size w.heap.size _ _ _ (.inr hb2) (by simp; omega) (by have := hbb1.size; have := hbb2.size; omega)).mono ?_
          rintro e w3 ⟨rfl, hb3, hbb3⟩
          go_wp2_with fail
          go_roundw
          case rel => exact ⟨k + 1, by omega, by go_num, by rw [hq.out, hqb.out]; refine .inr ?_; simp only [hexAt] at hb3; simpa [Lib.byteCells] using hb3, ((hbw.trans hbb1).trans hbb2).trans hbb3⟩
          case measure => simp [intOf]; omega
        · have hp1 : ((a0[k].toNat : Int) != 37) = true := by simpa using hp
          have hqb : Hid (qB a0[k] = [a0[k]]) := by unfold Hid qB; rw [if_pos (by omega)]
          go_wp2_with (first | (go_at_call 15; refine (plain_yes _ _ hc1 hc2).mono ?_; rintro e w' ⟨rfl, rfl⟩) | (go_at_call 16; refine (Try.writeByte w.heap.size w.heap.size _ _ _ hbld (by omega) hsz).mono ?_; rintro e w1 ⟨rfl, hb1, hbb1⟩))
          go_roundw
          case rel => exact ⟨k + 1, by omega, by go_num, by rw [hq.out, hqb.out]; refine .inr ?_; simpa [Lib.byteCells] using hb1, hbw.trans hbb1⟩
          case measure => simp [intOf]; omega
      · have hc' : (a0[k].toNat : Int) < 33 ∨ 126 < (a0[k].toNat : Int) := by omega
        have hqb : Hid (qB a0[k] = [37, hexD (a0[k].toNat / 16), hexD (a0[k].toNat % 16)]) := by unfold Hid qB; rw [if_neg (by omega)]
        go_wp2_with (first | (go_at_call 15; refine (plain_no _ _ hc').mono ?_; rintro e w' ⟨rfl, rfl⟩))
        refine (Try.writeByte w.heap.size w.heap.size _ _ _ hbld (by omega) hsz).mono ?_
        rintro e w1 ⟨rfl, hb1, hbb1⟩
        go_wp2_with fail
        refine (Try.writeByte w.heap.size w.heap.size _ _ _ (.inr hb1) (by simp; omega) (by have := hbb1.size; omega)).mono ?_
        rintro e w2 ⟨rfl, hb2, hbb2⟩
        go_wp2_with fail
        refine (Try.writeByte w.heap.size w.heap.size _ _ _ (.inr hb2) (by simp; omega) (by have := hbb1.size; have := hbb2.size; omega)).mono ?_
        rintro e w3 ⟨rfl, hb3, hbb3⟩
        go_wp2_with fail
        go_roundw
        case rel => exact ⟨k + 1, by omega, by go_num, by rw [hq.out, hqb.out]; refine .inr ?_; simp only [hexAt] at hb3; simpa [Lib.byteCells] using hb3, ((hbw.trans hbb1).trans hbb2).trans hbb3⟩
        case measure => simp [intOf]; omega
    · obtain rfl : k = a0.size := by omega
      rw [take_all a0 _ (Nat.le_refl _)] at hbld
      go_wp2_with (go_at_call 17; refine (Try.Builder_String_any w.heap.size w.heap.size _ _ hbld hsz).mono ?_; rintro e w' ⟨rfl, hbs⟩)
      go_ret
      exact ⟨rfl, hbw.trans hbs⟩
/-- What impl.Quote returns. -/
theorem quote_any (a0 : ByteArray) (w : World) (hs : a0.size ≤ maxLen) :
    Calls Try.prog 7 #[.string a0] w fun e w' => e = .returned (.string (quoteF a0)) ∧ Below w.heap.size w w' := by
  unfold quoteF
  by_cases h : 65536 < a0.size
  · rw [if_pos h]; exact quote_big a0 w h hs
  · rw [if_neg h]
    by_cases h0 : a0.size = 0
    · rw [if_pos h0]
      obtain rfl : a0 = ByteArray.empty := by simpa using h0
      exact quote_nil w
    · rw [if_neg h0]; exact quote_some a0 w (by omega) (by omega)
end Go.Proofs.Ytdfoedjfnoiboaa
