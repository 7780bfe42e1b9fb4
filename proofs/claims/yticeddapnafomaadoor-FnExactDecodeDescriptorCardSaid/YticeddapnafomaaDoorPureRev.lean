/- Plain laws: revoke blocks: the program's bytes are the reference's, and decoding answers alike. -/
import Derived.Test.YticeddapnafomaaDoorPureEnc
import Derived.Test.YticeddapnafomaaDoorDR
namespace Go.Proofs.YticeddapnafomaaDoor.Pure
open Go.RowKit Go.Proofs.YticeddapnafomaaDoor Go.Proofs.YticeddapnafomaaDoor.PE Go.Proofs.YticeddapnafomaaDoorW.PrintWords Go.Proofs.YticeddapnafomaaDoorW.PrintLast Go.Proofs.YticeddapnafomaaDoorW.PrintMore
def okAt (bs : List Int) (i : Nat) : Bool := decide (0 ≤ bs.getD i 0 ∧ bs.getD i 0 ≤ 2047) && (decide (i = 0) || decide (bs.getD (i - 1) 0 < bs.getD i 0))
def okFrom (bs : List Int) (i : Nat) : Nat → Bool
  | 0 => true
  | d + 1 => okAt bs i && okFrom bs (i + 1) d
theorem goodBlock (v : Int) : spec_l3GoodBlock.f v = some (decide (0 ≤ v ∧ v ≤ 2047)) := by
  unfold spec_l3GoodBlock.f
  by_cases h : v ≥ 0
  · rw [if_pos h]; congr 1; exact decide_eq_decide.mpr ⟨fun h2 => ⟨h, by omega⟩, fun h2 => by omega⟩
  · rw [if_neg h]; congr 1; exact (decide_eq_false (fun h2 => h h2.1)).symm
theorem rising_loop (bs : List Int) (hl : bs.length ≤ 4000) (d : Nat) : ∀ (k i : Nat), i + d = bs.length → d < k → impl_rising.l0 k bs bs (bs.length : Int) (i : Int) = some (okFrom bs i d) := by
  induction d with
  | zero =>
    intro k i hd hk
    obtain ⟨k, rfl⟩ : ∃ m, k = m + 1 := ⟨k - 1, by omega⟩
    simp only [impl_rising.l0]
    rw [if_neg (by omega)]; rfl
  | succ d ih =>
    intro k i hd hk
    obtain ⟨k, rfl⟩ : ∃ m, k = m + 1 := ⟨k - 1, by omega⟩
    simp only [impl_rising.l0]
    rw [if_pos (by omega), if_pos (by omega), if_pos (by omega), inIn, Option.bind_some, nrd_nat]
    have hn := ih k (i + 1) (by omega) (by omega)
    have ei : wrap64 ((i : Int) + 1) = ((i + 1 : Nat) : Int) := by rw [nw64 (by omega) (by omega)]; rfl
    rw [ei, hn]
    show _ = some (okAt bs i && okFrom bs (i + 1) d)
    unfold okAt
    by_cases h1 : 0 ≤ bs.getD i 0 ∧ bs.getD i 0 ≤ 2047
    · rw [decide_eq_true h1, if_pos rfl]
      by_cases h0 : i = 0
      · rw [if_neg (by omega), decide_eq_true h0]; simp
      · have em : wrap64 ((i : Int) - 1) = ((i - 1 : Nat) : Int) := by rw [nw64 (by omega) (by omega)]; omega
        rw [if_pos (by omega), em, if_pos (by omega), if_pos (by omega), nrd_nat, decide_eq_false h0]
        by_cases h2 : bs.getD (i - 1) 0 < bs.getD i 0
        · rw [if_neg (by omega), decide_eq_true h2]; simp
        · rw [if_pos (by omega), decide_eq_false h2]; simp
    · rw [decide_eq_false h1, if_neg (by decide)]; simp
theorem rising (bs : List Int) (hl : bs.length ≤ 4000) (k : Nat) (hk : bs.length < k) : impl_rising.f k bs = some (okFrom bs 0 bs.length) := rising_loop bs hl bs.length k 0 (by omega) hk
theorem ok_bounds (bs : List Int) : ∀ (d i : Nat), okFrom bs i d = true → ∀ j, i ≤ j → j < i + d → 0 ≤ bs.getD j 0 ∧ bs.getD j 0 ≤ 2047
  | 0, i, _ => fun j h1 h2 => by omega
  | d + 1, i, h => fun j h1 h2 => by
    have h' : (okAt bs i && okFrom bs (i + 1) d) = true := h
    rw [Bool.and_eq_true] at h'
    by_cases e : j = i
    · subst e
      have := h'.1
      unfold okAt at this
      rw [Bool.and_eq_true] at this
      exact of_decide_eq_true this.1
    · exact ok_bounds bs d (i + 1) h'.2 j (by omega) (by omega)
end Go.Proofs.YticeddapnafomaaDoor.Pure
