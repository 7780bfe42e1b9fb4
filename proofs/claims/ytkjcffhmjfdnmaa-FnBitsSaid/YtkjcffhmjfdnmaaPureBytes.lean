/- Plain lemmas on the printed helpers over bytes: toByteS copies, eqByteS knows equal rows, markByteS ends. -/
import Derived.Test.YtkjcffhmjfdnmaaPBx1
import Derived.Test.YtkjcffhmjfdnmaaPBx2
namespace Go.Proofs.Ytkjcffhmjfdnmaa.Pure
open Go.RowKit Go.Proofs.Ytkjcffhmjfdnmaa.PB Go.Proofs.YtkjcffhmjfdnmaaW.PrintWords Go.Proofs.YtkjcffhmjfdnmaaW.PrintLast
theorem w64 {x : Int} (h0 : 0 ≤ x) (h1 : x ≤ 900000000000000) : wrap64 x = x := by unfold wrap64; omega
theorem rd_nat (l : List Int) (i : Nat) : rd l (i : Int) = l.getD i 0 := by unfold rd; rw [Int.toNat_natCast]
theorem rd_at (l : List Int) (i : Nat) (h : i < l.length) : rd l (i : Int) = l[i] := by rw [rd_nat, List.getD_eq_getElem?_getD, List.getElem?_eq_getElem h]; rfl
theorem toByteS_loop (l : List Int) (hl : l.length ≤ 140737488355328) (d : Nat) : ∀ (k i : Nat) (y : List Int), l.length - i ≤ d → i ≤ l.length → y.length = l.length → y.take i = l.take i → d < k →
    laws_toByteS.l0 k l y (i : Int) = some l := by
  induction d with
  | zero =>
    intro k i y hd hi hy ht hk
    obtain ⟨k, rfl⟩ : ∃ m, k = m + 1 := ⟨k - 1, by omega⟩
    simp only [laws_toByteS.l0]
    rw [if_neg (by omega)]
    have : i = l.length := by omega
    subst this
    rw [List.take_length, ← hy, List.take_length] at ht
    rw [ht]
  | succ d ih =>
    intro k i y hd hi hy ht hk
    obtain ⟨k, rfl⟩ : ∃ m, k = m + 1 := ⟨k - 1, by omega⟩
    simp only [laws_toByteS.l0]
    by_cases hlt : i < l.length
    · rw [if_pos (by omega), if_pos (by omega), if_pos (by omega), w64 (by omega) (by omega), Int.toNat_natCast, rd_at l i hlt]
      refine ih k (i + 1) _ (by omega) (by omega) (by simpa using hy) ?_ (by omega)
      rw [List.take_succ_eq_append_getElem (by simpa using by omega), List.take_succ_eq_append_getElem hlt, List.take_set_of_le (Nat.le_refl _), ht]
      simp
    · rw [if_neg (by omega)]
      have : i = l.length := by omega
      subst this
      rw [List.take_length, ← hy, List.take_length] at ht
      rw [ht]
theorem toByteS_f (l : List Int) (hl : l.length ≤ 140737488355328) (k : Nat) (hk : l.length < k) : laws_toByteS.f k l = some l := by
  unfold laws_toByteS.f
  rw [if_pos (by omega), if_pos (by omega)]
  exact toByteS_loop l hl l.length k 0 _ (by omega) (by omega) (by simp) (by simp) hk
theorem eqByteS_loop (l : List Int) (hl : l.length ≤ 140737488355328) (d : Nat) : ∀ (k i : Nat), l.length - i ≤ d → d < k → laws_eqByteS.l0 k l l (i : Int) = some true := by
  induction d with
  | zero =>
    intro k i hd hk
    obtain ⟨k, rfl⟩ : ∃ m, k = m + 1 := ⟨k - 1, by omega⟩
    simp only [laws_eqByteS.l0]
    rw [if_neg (by omega)]
  | succ d ih =>
    intro k i hd hk
    obtain ⟨k, rfl⟩ : ∃ m, k = m + 1 := ⟨k - 1, by omega⟩
    simp only [laws_eqByteS.l0]
    by_cases hlt : i < l.length
    · rw [if_pos (by omega), if_pos (by omega), if_pos (by omega), w64 (by omega) (by omega)]
      simp only [if_true]
      exact ih k (i + 1) (by omega) (by omega)
    · rw [if_neg (by omega)]
theorem eqByteS_f (l : List Int) (hl : l.length ≤ 140737488355328) (k : Nat) (hk : l.length < k) : laws_eqByteS.f k l l = some true := by
  unfold laws_eqByteS.f
  rw [if_pos rfl]
  exact eqByteS_loop l hl l.length k 0 (by omega) hk
theorem markByteS_loop (d : Nat) : ∀ (k i : Nat) (l : List Int) (m : Int), l.length ≤ 140737488355328 → l.length - i ≤ d → d < k → 0 ≤ m → m ≤ 140737488355328 + i →
    ∃ l', laws_markByteS.l0 k l m (i : Int) = some (m + ((l.length - i : Nat) : Int), l') ∧ l'.length = l.length := by
  induction d with
  | zero =>
    intro k i l m hl hd hk h0 h1
    obtain ⟨k, rfl⟩ : ∃ m, k = m + 1 := ⟨k - 1, by omega⟩
    refine ⟨l, ?_, rfl⟩
    simp only [laws_markByteS.l0]
    rw [if_neg (by omega)]
    congr 2; omega
  | succ d ih =>
    intro k i l m hl hd hk h0 h1
    obtain ⟨k, rfl⟩ : ∃ m, k = m + 1 := ⟨k - 1, by omega⟩
    simp only [laws_markByteS.l0]
    by_cases hlt : i < l.length
    · rw [if_pos (by omega), if_pos (by omega), w64 (x := m + 1) (by omega) (by omega), w64 (by omega) (by omega)]
      obtain ⟨l', h, hl'⟩ := ih k (i + 1) (l.set (i : Int).toNat (m % 256)) (m + 1) (by simpa using hl) (by simp; omega) (by omega) (by omega) (by omega)
      refine ⟨l', ?_, by simpa using hl'⟩
      have e : ((i + 1 : Nat) : Int) = (i : Int) + 1 := by omega
      rw [← e, h]
      congr 2
      simp only [List.length_set]
      omega
    · rw [if_neg (by omega)]
      exact ⟨l, by congr 2; omega, rfl⟩
theorem markByteS_f (l : List Int) (hl : l.length ≤ 140737488355328) (m : Int) (h0 : 0 ≤ m) (h1 : m ≤ 140737488355328) (k : Nat) (hk : l.length < k) :
    ∃ l', laws_markByteS.f k l m = some (m + l.length, l') ∧ l'.length = l.length := by
  unfold laws_markByteS.f
  have := markByteS_loop l.length k 0 l m hl (by omega) hk h0 (by omega)
  simpa using this
end Go.Proofs.Ytkjcffhmjfdnmaa.Pure
