/- Plain functions on bytes: what quoting gives. -/
import GoSem.Claim
namespace Go.Proofs.Ytdfoedjfnoiboaa
/-- A hexadecimal digit of a number below 16. -/
def hexD (n : Nat) : UInt8 := if n < 10 then (48 + n).toUInt8 else (87 + n).toUInt8
def qB (c : UInt8) : List UInt8 := if 33 ≤ c.toNat ∧ c.toNat ≤ 126 ∧ c.toNat ≠ 37 then [c] else [37, hexD (c.toNat / 16), hexD (c.toNat % 16)]
def quoteL (l : List UInt8) : List UInt8 := l.flatMap qB
def quoteF (a : ByteArray) : ByteArray := if 65536 < a.size then ⟨#[]⟩ else if a.size = 0 then ⟨#[37]⟩ else ⟨(quoteL a.data.toList).toArray⟩
theorem hexAt_fin : ∀ n : Fin 16, (⟨#[48, 49, 50, 51, 52, 53, 54, 55, 56, 57, 97, 98, 99, 100, 101, 102]⟩ : ByteArray)[n.val]'(n.isLt) = hexD n.val := by decide
theorem hexAt (n : Nat) (h : n < (⟨#[48, 49, 50, 51, 52, 53, 54, 55, 56, 57, 97, 98, 99, 100, 101, 102]⟩ : ByteArray).size) : (⟨#[48, 49, 50, 51, 52, 53, 54, 55, 56, 57, 97, 98, 99, 100, 101, 102]⟩ : ByteArray)[n]'h = hexD n := hexAt_fin ⟨n, h⟩
theorem qB_len (c : UInt8) : (qB c).length ≤ 3 := by unfold qB; split <;> simp
theorem quoteL_len (l : List UInt8) : (quoteL l).length ≤ 3 * l.length := by
  unfold quoteL
  induction l with
  | nil => simp
  | cons c l ih => have := qB_len c; simp only [List.flatMap_cons, List.length_append, List.length_cons]; omega
theorem quoteL_snoc (l : List UInt8) (c : UInt8) : quoteL (l ++ [c]) = quoteL l ++ qB c := by simp [quoteL]
theorem take_snoc (s : ByteArray) (k : Nat) (h : k < s.size) : s.data.toList.take (k + 1) = s.data.toList.take k ++ [s[k]] := by
  rw [List.take_succ_eq_append_getElem (by simpa using h)]; rfl
theorem take_all (s : ByteArray) (k : Nat) (h : s.size ≤ k) : s.data.toList.take k = s.data.toList := List.take_of_length_le (by simpa using h)
end Go.Proofs.Ytdfoedjfnoiboaa
