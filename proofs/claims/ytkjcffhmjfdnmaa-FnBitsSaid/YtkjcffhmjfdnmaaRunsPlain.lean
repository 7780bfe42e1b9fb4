/- Plain functions: the runs of positions at which a row of bits is off. -/
import GoSem.Claim
namespace Go.Proofs.Ytkjcffhmjfdnmaa
/-- How many positions from i on are off, d at the most. -/
def freeLen (b : Nat → Bool) : Nat → Nat → Nat
  | 0, _ => 0
  | d + 1, i => if b i then 0 else freeLen b d (i + 1) + 1
/-- The runs from i on below hi. -/
def runsN (b : Nat → Bool) (hi : Nat) : Nat → Nat → List (Nat × Nat)
  | 0, _ => []
  | f + 1, i => if hi ≤ i then [] else if b i then runsN b hi f (i + 1) else (i, freeLen b (hi - i) i) :: runsN b hi f (i + freeLen b (hi - i) i + 1)
theorem freeLen_le (b : Nat → Bool) (d i : Nat) : freeLen b d i ≤ d := by
  induction d generalizing i with
  | zero => simp [freeLen]
  | succ d ih => unfold freeLen; split <;> simp; exact ih _
theorem runsN_len (b : Nat → Bool) (hi f i : Nat) : (runsN b hi f i).length ≤ hi - i := by
  induction f generalizing i with
  | zero => simp [runsN]
  | succ f ih =>
    unfold runsN
    split
    · simp
    · split
      · have := ih (i + 1); omega
      · have := ih (i + freeLen b (hi - i) i + 1); simp only [List.length_cons]; omega
end Go.Proofs.Ytkjcffhmjfdnmaa
