/- Plain lemmas: marks of runs, and one bit as the reference reads it. -/
import Derived.Test.YtkjcffhmjfdnmaaPBx3
import Derived.Test.YtkjcffhmjfdnmaaPureBytes
namespace Go.Proofs.Ytkjcffhmjfdnmaa.Pure
open Go.RowKit Go.Proofs.Ytkjcffhmjfdnmaa Go.Proofs.Ytkjcffhmjfdnmaa.PB Go.Proofs.YtkjcffhmjfdnmaaW.PrintWords Go.Proofs.YtkjcffhmjfdnmaaW.PrintLast Go.Proofs.YtkjcffhmjfdnmaaW.PrintMore

theorem rdT_mid (A B : List S35) (x : S35) : rd_T35 (A ++ x :: B) (A.length : Int) = x := by
  unfold rd_T35; rw [Int.toNat_natCast]; simp [List.getD_eq_getElem?_getD]
theorem set_mid {α : Type} (A B : List α) (x y : α) : (A ++ x :: B).set A.length y = A ++ y :: B := by simp
theorem eqRuns_loop (l : List S35) (hl : l.length ≤ 140737488355328) (d : Nat) : ∀ (k i : Nat), l.length - i ≤ d → d < k → laws_eqFreeRunS.l0 k l l (i : Int) = some true := by
  induction d with
  | zero =>
    intro k i hd hk
    obtain ⟨k, rfl⟩ : ∃ m, k = m + 1 := ⟨k - 1, by omega⟩
    simp only [laws_eqFreeRunS.l0]
    rw [if_neg (by omega)]
  | succ d ih =>
    intro k i hd hk
    obtain ⟨k, rfl⟩ : ∃ m, k = m + 1 := ⟨k - 1, by omega⟩
    simp only [laws_eqFreeRunS.l0]
    by_cases hlt : i < l.length
    · rw [if_pos (by omega), if_pos (by omega), if_pos (by omega), w64 (by omega) (by omega)]
      simp only [laws_eqFreeRun.f, if_true, Option.bind_some]
      exact ih k (i + 1) (by omega) (by omega)
    · rw [if_neg (by omega)]
theorem eqRuns_f (l : List S35) (hl : l.length ≤ 140737488355328) (k : Nat) (hk : l.length < k) : laws_eqFreeRunS.f k l l = some true := by
  unfold laws_eqFreeRunS.f
  rw [if_pos rfl]
  exact eqRuns_loop l hl l.length k 0 (by omega) hk
/-- The marks from m on. -/
def marks : Nat → Int → List S35
  | 0, _ => []
  | n + 1, m => ⟨m, m + 1⟩ :: marks n (m + 2)
theorem marks_len (n : Nat) (m : Int) : (marks n m).length = n := by
  induction n generalizing m with
  | zero => rfl
  | succ n ih => simp [marks, ih]
theorem markRuns_loop (B : List S35) : ∀ (k : Nat) (A : List S35) (m : Int), A.length + B.length ≤ 1000000 → B.length < k → 0 ≤ m → m ≤ 2 * A.length + 10 →
    laws_markFreeRunS.l0 k (A ++ B) m (A.length : Int) = some (m + 2 * B.length, A ++ marks B.length m) := by
  induction B with
  | nil =>
    intro k A m hl hk h0 h1
    obtain ⟨k, rfl⟩ : ∃ m, k = m + 1 := ⟨k - 1, by omega⟩
    simp only [laws_markFreeRunS.l0]
    rw [if_neg (by simp)]
    simp [marks]
  | cons x B ih =>
    intro k A m hl hk h0 h1
    obtain ⟨k, rfl⟩ : ∃ m, k = m + 1 := ⟨k - 1, by omega⟩
    simp only [List.length_cons] at hl hk
    simp only [laws_markFreeRunS.l0]
    rw [if_pos (by simp; omega), if_pos (by omega), Int.toNat_natCast, rdT_mid, set_mid]
    simp only [Option.bind_some]
    rw [rdT_mid, set_mid, w64 (x := m + 1) (by omega) (by omega), w64 (x := m + 1 + 1) (by omega) (by omega), w64 (by omega) (by omega)]
    have h := ih k (A ++ [⟨m, m + 1⟩]) (m + 2) (by simp; omega) (by omega) (by omega) (by simp; omega)
    have e : (A ++ (⟨m, m + 1⟩ : S35) :: B) = (A ++ [⟨m, m + 1⟩]) ++ B := by simp
    have e2 : ((A.length : Int) + 1) = (((A ++ [(⟨m, m + 1⟩ : S35)]).length : Nat) : Int) := by simp
    have e3 : m + 1 + 1 = m + 2 := by omega
    rw [e, e2, e3, h]
    simp only [List.length_cons, marks, List.append_assoc, List.singleton_append]
    congr 2
    omega
theorem heldRuns_loop (n : Nat) : ∀ (k : Nat) (A : List S35) (m : Int), A.length + n ≤ 1000000 → n < k → 0 ≤ m → m ≤ 2 * A.length + 10 →
    laws_heldFreeRunS.l0 k (A ++ marks n m) m (A.length : Int) = some (m + 2 * n) := by
  induction n with
  | zero =>
    intro k A m hl hk h0 h1
    obtain ⟨k, rfl⟩ : ∃ m, k = m + 1 := ⟨k - 1, by omega⟩
    simp only [laws_heldFreeRunS.l0]
    rw [if_neg (by simp [marks])]
    simp
  | succ n ih =>
    intro k A m hl hk h0 h1
    obtain ⟨k, rfl⟩ : ∃ m, k = m + 1 := ⟨k - 1, by omega⟩
    rw [show marks (n + 1) m = (⟨m, m + 1⟩ : S35) :: marks n (m + 2) from rfl]
    simp only [laws_heldFreeRunS.l0]
    rw [if_pos (by simp; omega), if_pos (by omega), rdT_mid, if_pos rfl, w64 (x := m + 1) (by omega) (by omega), if_pos rfl, w64 (x := m + 1 + 1) (by omega) (by omega), w64 (by omega) (by omega)]
    have h := ih k (A ++ [⟨m, m + 1⟩]) (m + 2) (by simp; omega) (by omega) (by omega) (by simp; omega)
    have e : (A ++ (⟨m, m + 1⟩ : S35) :: marks n (m + 2)) = (A ++ [⟨m, m + 1⟩]) ++ marks n (m + 2) := by simp
    have e2 : ((A.length : Int) + 1) = (((A ++ [(⟨m, m + 1⟩ : S35)]).length : Nat) : Int) := by simp
    have e3 : m + 1 + 1 = m + 2 := by omega
    rw [e, e2, e3, h]
    congr 1
    omega
/-! ### spec.BitGet -/
theorem specGet_loop (n : Nat) (hn8 : n ≤ 8) : ∀ (k x : Nat), x ≤ 255 → n < k → spec_BitGet.l0 k (x : Int) (n : Int) = some (x / 2 ^ n % 2 == 1) := by
  induction n with
  | zero =>
    intro k x hx hk
    obtain ⟨k, rfl⟩ : ∃ m, k = m + 1 := ⟨k - 1, by omega⟩
    simp only [spec_BitGet.l0]
    rw [if_neg (by omega), Int.tmod_eq_emod_of_nonneg (by omega)]
    have : ((x : Nat) : Int) % 2 = ((x % 2 : Nat) : Int) := by omega
    rw [this]
    simp only [Nat.pow_zero, Nat.div_one]
    generalize x % 2 = y
    cases hy : (y == 1)
    · simp at hy ⊢; omega
    · simp at hy ⊢; omega
  | succ n ih =>
    intro k x hx hk
    obtain ⟨k, rfl⟩ : ∃ m, k = m + 1 := ⟨k - 1, by omega⟩
    simp only [spec_BitGet.l0]
    rw [if_pos (by omega)]
    have e1 : wrap64 (((n + 1 : Nat) : Int) - 1) = (n : Int) := by rw [w64 (by omega) (by omega)]; omega
    have e2 : Int.tdiv (x : Int) 2 % 256 = ((x / 2 : Nat) : Int) := by rw [Int.tdiv_eq_ediv_of_nonneg (by omega)]; omega
    rw [e1, e2, ih (by omega) k (x / 2) (by omega) (by omega), Nat.div_div_eq_div_mul, Nat.pow_succ, Nat.mul_comm 2]
theorem specGet_f (l : List Int) (hl : bytesOk l = true) (i : Nat) (hi : i < bitsLen l) (k : Nat) (hk : 12 ≤ k) : spec_BitGet.f k l (i : Int) = some (bitN l i) := by
  have hlen : bitsLen l = l.length * 8 ∧ l.length ≤ 2048 := by
    unfold bitsLen at hi ⊢
    by_cases h : l.length > 2048
    · rw [if_pos h] at hi; omega
    · rw [if_neg h]; omega
  obtain ⟨k, rfl⟩ : ∃ m, k = m + 1 := ⟨k - 1, by omega⟩
  unfold spec_BitGet.f
  rw [if_neg (by omega), if_neg (by omega), w64 (by omega) (by omega)]
  have e0 : decide ((i : Int) ≥ 8 * (l.length : Int)) = false := by simp; omega
  rw [e0]
  simp only [spec_BitGet.j0]
  have e1 : wrap64 (Int.tdiv (i : Int) 8) = ((i / 8 : Nat) : Int) := by
    rw [Int.tdiv_eq_ediv_of_nonneg (by omega), w64 (by omega) (by omega)]; omega
  have e2 : Int.tmod (i : Int) 8 = ((i % 8 : Nat) : Int) := by rw [Int.tmod_eq_emod_of_nonneg (by omega)]; omega
  obtain ⟨h0, h1⟩ := bytesOk_get l hl (i / 8)
  rw [if_neg (by simp), e1, e2, if_pos (by omega), if_pos (by omega), rd_nat]
  obtain ⟨x, hx⟩ := Int.eq_ofNat_of_zero_le h0
  unfold bitN
  rw [hx]
  rw [specGet_loop _ (by omega) k x (by omega) (by omega), Int.toNat_natCast]
end Go.Proofs.Ytkjcffhmjfdnmaa.Pure
