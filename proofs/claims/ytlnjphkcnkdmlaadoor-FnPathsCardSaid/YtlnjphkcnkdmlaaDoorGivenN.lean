/- impl.ValidName's contract in the print's own shape: a range over a string's runes answers as a look at its bytes. -/
import Derived.Test.YtlnjphkcnkdmlaaDoorPDx0
import Derived.Laws.RangeAny
import Derived.LoopTactic
import Derived.Lib.Hide
import Derived.Outline
set_option linter.unusedVariables false
namespace Go.Proofs.YtlnjphkcnkdmlaaDoor
open Go.RowKit Go.Proofs.YtlnjphkcnkdmlaaDoorW.PrintWords Go.Proofs.YtlnjphkcnkdmlaaDoorW.PrintLast Go.Proofs.YtlnjphkcnkdmlaaDoorW.PrintMore
/-- A byte of a name. -/
def okByte (b : UInt8) : Bool := decide (33 ≤ b.toNat ∧ b.toNat ≤ 126 ∧ b.toNat ≠ 47)
def okFrom (s : ByteArray) (pos : Nat) : Bool := (s.data.toList.drop pos).all okByte
theorem okFrom_end (s : ByteArray) (pos : Nat) (h : ¬ pos < s.size) : okFrom s pos = true := by
  unfold okFrom
  rw [List.drop_of_length_le (by rw [data_length]; omega)]
  rfl
theorem okFrom_step (s : ByteArray) (pos : Nat) (h : pos < s.size) : okFrom s pos = (okByte (s[pos]'h) && okFrom s (pos + 1)) := by
  unfold okFrom
  rw [List.drop_eq_getElem_cons (by rw [data_length]; exact h), List.all_cons]
  rfl
theorem okFrom_first (s : ByteArray) : okFrom s 0 = s.data.toList.all okByte := rfl
theorem iter_below {B : Nat} {w W : World} (h : Below B w W) (hB : B ≤ W.heap.size) (s : ByteArray) (pos : Nat) : Below B w (W.iter s pos) := h.alloc hB _
namespace PD
def impl_ValidName.f (a0 : ByteArray) : Option Bool := if a0.size < 1 then some false else if 13 < a0.size then some false else if a0.toList = ([46] : List UInt8) then some false else if a0.toList = ([46, 46] : List UInt8) then some false else some (okFrom a0 0)
set_option maxHeartbeats 1000000 in
set_option maxRecDepth 100000 in
theorem name_loop (a0 : ByteArray) (w : World) (h1 : ¬ a0.size < 1) (h2 : ¬ 13 < a0.size) (h3 : ¬ a0.toList = ([46] : List UInt8)) (h4 : ¬ a0.toList = ([46, 46] : List UInt8)) :
    Calls Tryd.prog 11 #[.string a0] w fun e w' => e = .returned (.bool (okFrom a0 0)) ∧ Below w.heap.size w w' := by
  have c1 : decide ((a0.size : Int) < 1) = false := decide_eq_false (by omega)
  have c1n : decide (a0.size < 1) = false := decide_eq_false (by omega)
  have c2 : decide (13 < (a0.size : Int)) = false := decide_eq_false (by omega)
  have c2n : decide (13 < a0.size) = false := decide_eq_false (by omega)
  have c3 : (a0.toList == ([46] : List UInt8)) = false := beq_eq_false_iff_ne.mpr h3
  have c4 : (a0.toList == ([46, 46] : List UInt8)) = false := beq_eq_false_iff_ne.mpr h4
  clear h1 h2 h3 h4
  go_enter Tryd.func11, Tryd.ntmps11
  go_wp2
  go_loopw [4] (fun n w' => ∃ (pos : Nat), w' = w.iter a0 pos ∧ Aside0 (okFrom a0 pos = okFrom a0 0)) (fun _ w' => a0.size - w'.iterPos w.heap.size)
  case atStart => exact ⟨0, rfl, ⟨rfl⟩⟩
  case round =>
    obtain ⟨pos, rfl, HP⟩ := hrel
    by_cases hp : pos < a0.size
    · have hnx : ∀ ty, (Instr.next (.pointer (some ⟨w.heap.size, 0, none⟩)) true ty).run Tryd.prog (w.iter a0 pos) = _ := fun ty => run_next_any w a0 pos ty hp
      have HP2 := Aside0.mk (okFrom_step a0 pos hp)
      by_cases ha : (a0[pos]'hp).toNat < 128
      · rw [decode_ascii a0 pos hp ha] at hnx
        obtain ⟨x, hx⟩ : ∃ x : Nat, x = (a0[pos]'hp).toNat := ⟨_, rfl⟩
        rw [← hx] at hnx
        have HX := Aside0.mk hx
        clear hx ha
        by_cases b1 : x < 33
        · have d1 : decide ((x : Int) < 33) = true := decide_eq_true (by omega)
          have E := Aside0.mk (show okFrom a0 0 = false by rw [← HP.out, HP2.out]; unfold okByte; rw [← HX.out, decide_eq_false (by omega)]; rfl)
          clear b1
          go_wp2
          go_ret
          exact ⟨by rw [E.out]; rfl, iter_below (Below.refl _ _) (Nat.le_refl _) _ _⟩
        · have d1 : decide ((x : Int) < 33) = false := decide_eq_false (by omega)
          by_cases b2 : 126 < x
          · have d2 : decide (126 < (x : Int)) = true := decide_eq_true (by omega)
            have E := Aside0.mk (show okFrom a0 0 = false by rw [← HP.out, HP2.out]; unfold okByte; rw [← HX.out, decide_eq_false (by omega)]; rfl)
            clear b1 b2
            go_wp2
            go_ret
            exact ⟨by rw [E.out]; rfl, iter_below (Below.refl _ _) (Nat.le_refl _) _ _⟩
          · have d2 : decide (126 < (x : Int)) = false := decide_eq_false (by omega)
            by_cases b3 : x = 47
            · have d3 : ((x : Int) == 47) = true := beq_iff_eq.mpr (by omega)
              have E := Aside0.mk (show okFrom a0 0 = false by rw [← HP.out, HP2.out]; unfold okByte; rw [← HX.out, decide_eq_false (by omega)]; rfl)
              clear b1 b2 b3
              go_wp2
              go_ret
              exact ⟨by rw [E.out]; rfl, iter_below (Below.refl _ _) (Nat.le_refl _) _ _⟩
            · have d3 : ((x : Int) == 47) = false := beq_eq_false_iff_ne.mpr (by omega)
              have E := Aside0.mk (show okFrom a0 (pos + 1) = okFrom a0 0 by rw [← HP.out, HP2.out]; unfold okByte; rw [← HX.out, decide_eq_true (by omega)]; rfl)
              clear b1 b2 b3
              go_wp2
              go_roundw
              case rel => exact ⟨pos + 1, rfl, E⟩
              case measure => simp; omega
      · obtain ⟨hv, hd⟩ := decode_high a0 pos hp (by omega)
        have E := Aside0.mk (show okFrom a0 0 = false by rw [← HP.out, HP2.out]; unfold okByte; rw [decide_eq_false (by omega)]; rfl)
        clear ha
        obtain ⟨x, hx⟩ : ∃ x : Nat, x = (Utf8.decode a0 pos).1 := ⟨_, rfl⟩
        rw [← hx] at hnx hv
        clear hx
        have d1 : decide ((x : Int) < 33) = false := decide_eq_false (by omega)
        have d2 : decide (126 < (x : Int)) = true := decide_eq_true (by omega)
        clear hv hd
        go_wp2
        go_ret
        exact ⟨by rw [E.out]; rfl, iter_below (Below.refl _ _) (Nat.le_refl _) _ _⟩
    · have hnx : ∀ ty, (Instr.next (.pointer (some ⟨w.heap.size, 0, none⟩)) true ty).run Tryd.prog (w.iter a0 pos) = _ := fun ty => run_next_end w a0 pos ty hp
      have E := Aside0.mk (HP.out.symm.trans (okFrom_end a0 pos hp))
      go_wp2
      go_ret
      exact ⟨by rw [E.out]; rfl, iter_below (Below.refl _ _) (Nat.le_refl _) _ _⟩
set_option maxHeartbeats 1000000 in
set_option maxRecDepth 100000 in
theorem impl_ValidName.calls (a0 : ByteArray) (r : Bool) (w : World) (h : impl_ValidName.f a0 = some r) :
    Calls Tryd.prog 11 #[.string a0] w fun e w' => e = .returned (.bool r) ∧ Below w.heap.size w w' := by
  unfold impl_ValidName.f at h
  by_cases h1 : a0.size < 1
  · rw [if_pos h1] at h
    obtain rfl := Option.some.inj h
    have c1 : decide ((a0.size : Int) < 1) = true := decide_eq_true (by omega)
    have c1n : decide (a0.size < 1) = true := decide_eq_true h1
    clear h h1
    go_enter Tryd.func11, Tryd.ntmps11
    go_wp2
    go_ret
    exact ⟨rfl, Below.refl _ _⟩
  · rw [if_neg h1] at h
    have c1 : decide ((a0.size : Int) < 1) = false := decide_eq_false (by omega)
    have c1n : decide (a0.size < 1) = false := decide_eq_false h1
    by_cases h2 : 13 < a0.size
    · rw [if_pos h2] at h
      obtain rfl := Option.some.inj h
      have c2 : decide (13 < (a0.size : Int)) = true := decide_eq_true (by omega)
      have c2n : decide (13 < a0.size) = true := decide_eq_true h2
      clear h h1 h2
      go_enter Tryd.func11, Tryd.ntmps11
      go_wp2
      go_ret
      exact ⟨rfl, Below.refl _ _⟩
    · rw [if_neg h2] at h
      have c2 : decide (13 < (a0.size : Int)) = false := decide_eq_false (by omega)
      have c2n : decide (13 < a0.size) = false := decide_eq_false h2
      by_cases h3 : a0.toList = ([46] : List UInt8)
      · rw [if_pos h3] at h
        obtain rfl := Option.some.inj h
        have c3 : (a0.toList == ([46] : List UInt8)) = true := beq_iff_eq.mpr h3
        clear h h1 h2 h3
        go_enter Tryd.func11, Tryd.ntmps11
        go_wp2
        go_ret
        exact ⟨rfl, Below.refl _ _⟩
      · rw [if_neg h3] at h
        have c3 : (a0.toList == ([46] : List UInt8)) = false := beq_eq_false_iff_ne.mpr h3
        by_cases h4 : a0.toList = ([46, 46] : List UInt8)
        · rw [if_pos h4] at h
          obtain rfl := Option.some.inj h
          have c4 : (a0.toList == ([46, 46] : List UInt8)) = true := beq_iff_eq.mpr h4
          clear h h1 h2 h3 h4
          go_enter Tryd.func11, Tryd.ntmps11
          go_wp2
          go_ret
          exact ⟨rfl, Below.refl _ _⟩
        · rw [if_neg h4] at h
          obtain rfl := Option.some.inj h
          exact name_loop a0 w h1 h2 h3 h4
end PD
end Go.Proofs.YtlnjphkcnkdmlaaDoor
