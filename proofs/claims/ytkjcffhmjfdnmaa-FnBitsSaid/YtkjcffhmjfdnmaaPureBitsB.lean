/- Plain: how many positions are on, runs against that count, one byte's bit set and cleared. -/
import Derived.Test.YtkjcffhmjfdnmaaPureBitsA
import Derived.Test.YtkjcffhmjfdnmaaPBx6
import Derived.Test.YtkjcffhmjfdnmaaPureFnExactBitRuns
namespace Go.Proofs.Ytkjcffhmjfdnmaa.Pure
open Go.RowKit Go.Proofs.Ytkjcffhmjfdnmaa Go.Proofs.Ytkjcffhmjfdnmaa.PB Go.Proofs.YtkjcffhmjfdnmaaW.PrintWords Go.Proofs.YtkjcffhmjfdnmaaW.PrintLast Go.Proofs.YtkjcffhmjfdnmaaW.PrintMore
def cntB (b : Nat → Bool) : Nat → Nat → Nat
  | 0, _ => 0
  | d + 1, i => (if b i then 1 else 0) + cntB b d (i + 1)
theorem cntB_le (b : Nat → Bool) (d i : Nat) : cntB b d i ≤ d := by
  induction d generalizing i with
  | zero => simp [cntB]
  | succ d ih => have := ih (i + 1); unfold cntB; split <;> omega
theorem cntB_add (b : Nat → Bool) (x d i : Nat) : cntB b (x + d) i = cntB b x i + cntB b d (i + x) := by
  induction x generalizing i with
  | zero => simp [cntB]
  | succ x ih =>
    have e : x + 1 + d = (x + d) + 1 := by omega
    have e2 : i + 1 + x = i + (x + 1) := by omega
    rw [e, cntB, cntB, ih, e2]
    omega
theorem free_false (b : Nat → Bool) (d : Nat) : ∀ (i j : Nat), i ≤ j → j < i + freeLen b d i → b j = false := by
  induction d with
  | zero => intro i j h1 h2; simp [freeLen] at h2; omega
  | succ d ih =>
    intro i j h1 h2
    cases hb : b i with
    | true => rw [freeLen_stop b d i hb] at h2; omega
    | false =>
      rw [freeLen_step b d i hb] at h2
      by_cases he : i = j
      · rw [← he]; exact hb
      · exact ih (i + 1) j (by omega) (by omega)
theorem free_stop (b : Nat → Bool) (d : Nat) : ∀ i : Nat, freeLen b d i < d → b (i + freeLen b d i) = true := by
  induction d with
  | zero => intro i h; omega
  | succ d ih =>
    intro i h
    cases hb : b i with
    | true => rw [freeLen_stop b d i hb]; simpa using hb
    | false =>
      rw [freeLen_step b d i hb] at h ⊢
      have := ih (i + 1) (by omega)
      have e : i + 1 + freeLen b d (i + 1) = i + (freeLen b d (i + 1) + 1) := by omega
      rw [← e]; exact this
theorem cnt_free (b : Nat → Bool) (n : Nat) : ∀ i : Nat, (∀ j, i ≤ j → j < i + n → b j = false) → cntB b n i = 0 := by
  induction n with
  | zero => intro i _; rfl
  | succ n ih =>
    intro i h
    rw [cntB, h i (by omega) (by omega), ih (i + 1) (fun j h1 h2 => h j (by omega) (by omega))]
    simp
def sumR (l : List (Nat × Nat)) : Nat := (l.map (·.2)).sum
theorem sum_runs (b : Nat → Bool) (hi f : Nat) : ∀ i, hi ≤ i + f → sumR (runsN b hi f i) + cntB b (hi - i) i = hi - i := by
  induction f with
  | zero => intro i h; have : hi - i = 0 := by omega
            rw [this]; rfl
  | succ f ih =>
    intro i h
    by_cases hd : hi ≤ i
    · have : hi - i = 0 := by omega
      rw [runsN_done b hi _ i hd, this]; rfl
    · rw [runsN, if_neg hd]
      cases hb : b i with
      | true =>
        rw [if_pos rfl]
        have := ih (i + 1) (by omega)
        have e : hi - i = (hi - (i + 1)) + 1 := by omega
        rw [e, cntB, hb]
        simp only [if_true]
        omega
      | false =>
        rw [if_neg (by simp)]
        have hle := freeLen_le b (hi - i) i
        have hff := free_false b (hi - i) i
        have hfs := free_stop b (hi - i) i
        generalize freeLen b (hi - i) i = n at *
        have hs : sumR ((i, n) :: runsN b hi f (i + n + 1)) = n + sumR (runsN b hi f (i + n + 1)) := by simp [sumR]
        have hz := cnt_free b n i hff
        have := ih (i + n + 1) (by omega)
        rw [hs]
        by_cases he : n < hi - i
        · have e : hi - i = n + ((hi - (i + n + 1)) + 1) := by omega
          rw [e, cntB_add, cntB, hz, hfs he]
          simp only [if_true]
          omega
        · have e : hi - i = n := by omega
          have e2 : hi - (i + n + 1) = 0 := by omega
          rw [e2] at this
          rw [e, hz]
          omega
def good (b : Nat → Bool) (hi : Nat) : Bool → Nat → List (Nat × Nat) → Prop
  | _, _, [] => True
  | fst, e, (a, n) :: t => 1 ≤ n ∧ e ≤ a ∧ (fst = false → e < a) ∧ a + n ≤ hi ∧ (∀ j, a ≤ j → j < a + n → b j = false) ∧ good b hi false (a + n) t
theorem good_runs (b : Nat → Bool) (hi f : Nat) : ∀ (fst : Bool) (e i : Nat), e ≤ i → (fst = false → e < i) → good b hi fst e (runsN b hi f i) := by
  induction f with
  | zero => intro fst e i _ _; simp [runsN, good]
  | succ f ih =>
    intro fst e i h1 h2
    by_cases hd : hi ≤ i
    · rw [runsN_done b hi _ i hd]; simp [good]
    · rw [runsN, if_neg hd]
      cases hb : b i with
      | true => rw [if_pos rfl]; exact ih fst e (i + 1) (by omega) (fun h => by have := h2 h; omega)
      | false =>
        rw [if_neg (by simp)]
        have hle := freeLen_le b (hi - i) i
        have hff := free_false b (hi - i) i
        obtain ⟨d, hd2⟩ : ∃ d, hi - i = d + 1 := ⟨hi - i - 1, by omega⟩
        have h1' : 1 ≤ freeLen b (hi - i) i := by rw [hd2, freeLen_step b d i hb]; omega
        generalize freeLen b (hi - i) i = n at *
        exact ⟨h1', h1, h2, by omega, hff, ih false (i + n) (i + n + 1) (by omega) (fun _ => by omega)⟩
def firstR : List (Nat × Nat) → Int
  | [] => -1
  | x :: _ => x.1
theorem mn_hi (l : List Int) (a2 : Int) : mn a2 ((bitsLen l : Nat) : Int) ≤ 0 ∧ hiN l a2 = 0 ∨ mn a2 ((bitsLen l : Nat) : Int) = ((hiN l a2 : Nat) : Int) := by
  unfold mn hiN
  split <;> omega
theorem mx_lo (a1 : Int) : mx a1 0 = ((loN a1 : Nat) : Int) := by unfold mx loN; split <;> omega
theorem first_loop (l : List Int) (hl : bytesOk l = true) (a2 : Int) (d : Nat) : ∀ (k i f : Nat), hiN l a2 - i ≤ d → d < k → hiN l a2 ≤ i + f →
    impl_BitFirst.l0 k l a2 (i : Int) = some (firstR (runsN (bitN l) (hiN l a2) f i)) := by
  have hm := mn_hi l a2
  have hh := hiN_le l a2
  have hb := bitsLen_le l
  induction d with
  | zero =>
    intro k i f hd hk hf
    obtain ⟨k, rfl⟩ : ∃ m, k = m + 1 := ⟨k - 1, by omega⟩
    simp only [impl_BitFirst.l0]
    rw [bitlen_f]
    simp only [Option.bind_some]
    rw [if_neg (by omega), runsN_done _ _ _ _ (by omega)]
    rfl
  | succ d ih =>
    intro k i f hd hk hf
    obtain ⟨k, rfl⟩ : ∃ m, k = m + 1 := ⟨k - 1, by omega⟩
    simp only [impl_BitFirst.l0]
    rw [bitlen_f]
    simp only [Option.bind_some]
    by_cases hlt : i < hiN l a2
    · obtain ⟨f, rfl⟩ : ∃ m, f = m + 1 := ⟨f - 1, by omega⟩
      have hih := ih k (i + 1) f (by omega) (by omega) (by omega)
      rw [if_pos (by omega), bitGet_f l hl i (by omega)]
      simp only [Option.bind_some]
      rw [runsN, if_neg (show ¬ hiN l a2 ≤ i by omega)]
      cases hbi : bitN l i with
      | true =>
        rw [if_pos rfl, if_pos rfl, w64 (by omega) (by omega)]
        exact hih
      | false =>
        rw [if_neg (by simp), if_neg (by simp)]
        rfl
    · rw [if_neg (by omega), runsN_done _ _ _ _ (by omega)]
      rfl
theorem count_loop (l : List Int) (hl : bytesOk l = true) (a2 : Int) (d : Nat) : ∀ (k i c : Nat), hiN l a2 - i ≤ d → d < k → c ≤ i →
    impl_BitCount.l0 k l a2 (c : Int) (i : Int) = some ((c + cntB (bitN l) (hiN l a2 - i) i : Nat) : Int) := by
  have hm := mn_hi l a2
  have hh := hiN_le l a2
  have hb := bitsLen_le l
  induction d with
  | zero =>
    intro k i c hd hk hc
    obtain ⟨k, rfl⟩ : ∃ m, k = m + 1 := ⟨k - 1, by omega⟩
    simp only [impl_BitCount.l0]
    rw [bitlen_f]
    simp only [Option.bind_some]
    have e : hiN l a2 - i = 0 := by omega
    rw [if_neg (by omega), e]
    rfl
  | succ d ih =>
    intro k i c hd hk hc
    obtain ⟨k, rfl⟩ : ∃ m, k = m + 1 := ⟨k - 1, by omega⟩
    simp only [impl_BitCount.l0]
    rw [bitlen_f]
    simp only [Option.bind_some]
    by_cases hlt : i < hiN l a2
    · have e : hiN l a2 - i = (hiN l a2 - (i + 1)) + 1 := by omega
      have h0 := ih k (i + 1) c (by omega) (by omega) (by omega)
      have h1 := ih k (i + 1) (c + 1) (by omega) (by omega) (by omega)
      rw [if_pos (by omega), bitGet_f l hl i (by omega)]
      simp only [Option.bind_some]
      rw [e, cntB]
      cases hbi : bitN l i with
      | true =>
        rw [if_pos rfl, if_pos rfl, w64 (by omega) (by omega), w64 (by omega) (by omega)]
        refine h1.trans ?_
        congr 2; omega
      | false =>
        rw [if_neg (by simp), if_neg (by simp), w64 (by omega) (by omega)]
        refine h0.trans ?_
        congr 2; omega
    · have e : hiN l a2 - i = 0 := by omega
      rw [if_neg (by omega), e]
      rfl
end Go.Proofs.Ytkjcffhmjfdnmaa.Pure
