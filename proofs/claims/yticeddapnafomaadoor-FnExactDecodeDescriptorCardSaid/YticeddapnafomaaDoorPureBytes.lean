/- Plain lemmas on the printed helpers over bytes: toByteS copies, eqByteS knows equal rows, .. -/
import Derived.Test.YticeddapnafomaaDoorPEx4
import Derived.Test.YticeddapnafomaaDoorPEx7
import Derived.Test.YticeddapnafomaaDoorPureNum
namespace Go.Proofs.YticeddapnafomaaDoor.Pure
open Go.RowKit Go.Proofs.YticeddapnafomaaDoor.PE Go.Proofs.YticeddapnafomaaDoorW.PrintWords Go.Proofs.YticeddapnafomaaDoorW.PrintLast
theorem w64 {x : Int} (h0 : 0 ≤ x) (h1 : x ≤ 900000000000000) : wrap64 x = x := by unfold wrap64; omega
theorem rd_nat (l : List Int) (i : Nat) : rd l (i : Int) = l.getD i 0 := by unfold rd; rw [Int.toNat_natCast]
theorem rd_at (l : List Int) (i : Nat) (h : i < l.length) : rd l (i : Int) = l[i] := by rw [rd_nat, List.getD_eq_getElem?_getD, List.getElem?_eq_getElem h]; rfl
theorem toByteS_loop (l : List Int) (hl : l.length ≤ 140737488355328) (d : Nat) : ∀ (k i : Nat) (y : List Int), l.length - i ≤ d → i ≤ l.length → y.length = l.length → y.take i = l.take i → d < k →
    laws_toByteS.l0 k l y (i : Int) = some l := by
  induction d with
  | zero =>
    intro k i y hd hi hy ht hk
    obtain ⟨k, rfl⟩ : ∃ m, k = m + 1 := ⟨k - 1, by omega⟩
    simp only [laws_toByteS.l0]
    rw [if_neg (by omega)]
    have : i = l.length := by omega
    subst this
    rw [List.take_length, ← hy, List.take_length] at ht
    rw [ht]
  | succ d ih =>
    intro k i y hd hi hy ht hk
    obtain ⟨k, rfl⟩ : ∃ m, k = m + 1 := ⟨k - 1, by omega⟩
    simp only [laws_toByteS.l0]
    by_cases hlt : i < l.length
    · rw [if_pos (by omega), if_pos (by omega), if_pos (by omega), w64 (by omega) (by omega), Int.toNat_natCast, rd_at l i hlt]
      refine ih k (i + 1) _ (by omega) (by omega) (by simpa using hy) ?_ (by omega)
      rw [List.take_succ_eq_append_getElem (by simpa using by omega), List.take_succ_eq_append_getElem hlt, List.take_set_of_le (Nat.le_refl _), ht]
      simp
    · rw [if_neg (by omega)]
      have : i = l.length := by omega
      subst this
      rw [List.take_length, ← hy, List.take_length] at ht
      rw [ht]
theorem toByteS_f (l : List Int) (hl : l.length ≤ 140737488355328) (k : Nat) (hk : l.length < k) : laws_toByteS.f k l = some l := by
  unfold laws_toByteS.f
  rw [if_pos (by omega), if_pos (by omega)]
  exact toByteS_loop l hl l.length k 0 _ (by omega) (by omega) (by simp) (by simp) hk
theorem eqByteS_loop (l : List Int) (hl : l.length ≤ 140737488355328) (d : Nat) : ∀ (k i : Nat), l.length - i ≤ d → d < k → laws_eqByteS.l0 k l l (i : Int) = some true := by
  induction d with
  | zero =>
    intro k i hd hk
    obtain ⟨k, rfl⟩ : ∃ m, k = m + 1 := ⟨k - 1, by omega⟩
    simp only [laws_eqByteS.l0]
    rw [if_neg (by omega)]
  | succ d ih =>
    intro k i hd hk
    obtain ⟨k, rfl⟩ : ∃ m, k = m + 1 := ⟨k - 1, by omega⟩
    simp only [laws_eqByteS.l0]
    by_cases hlt : i < l.length
    · rw [if_pos (by omega), if_pos (by omega), if_pos (by omega), w64 (by omega) (by omega)]
      simp only [if_true]
      exact ih k (i + 1) (by omega) (by omega)
    · rw [if_neg (by omega)]
theorem eqByteS_f (l : List Int) (hl : l.length ≤ 140737488355328) (k : Nat) (hk : l.length < k) : laws_eqByteS.f k l l = some true := by
  unfold laws_eqByteS.f
  rw [if_pos rfl]
  exact eqByteS_loop l hl l.length k 0 (by omega) hk
end Go.Proofs.YticeddapnafomaaDoor.Pure
