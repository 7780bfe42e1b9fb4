/- Plain: one bit put into a row and taken out again. -/
import Derived.Test.YtkjcffhmjfdnmaaPureBitsB
namespace Go.Proofs.Ytkjcffhmjfdnmaa.Pure
open Go.RowKit Go.Proofs.Ytkjcffhmjfdnmaa Go.Proofs.Ytkjcffhmjfdnmaa.PB Go.Proofs.YtkjcffhmjfdnmaaW.PrintWords Go.Proofs.YtkjcffhmjfdnmaaW.PrintLast Go.Proofs.YtkjcffhmjfdnmaaW.PrintMore
def clrB (x : Int) (r : Nat) : Int := Go.bits .andNot .u8 x (shl .u8 1 (r : Int))
def setB (x : Int) (r : Nat) : Int := Go.bits .or .u8 (clrB x r) (shl .u8 1 (r : Int))
def bitB (x : Int) (r : Nat) : Bool := x.toNat / 2 ^ r % 2 == 1
theorem byte_facts : ∀ x : Fin 256, ∀ r : Fin 8, (bitB (x.val : Int) r.val = false → clrB (setB (x.val : Int) r.val) r.val = (x.val : Int)) ∧ bitB (setB (x.val : Int) r.val) r.val = true ∧ 0 ≤ setB (x.val : Int) r.val ∧ setB (x.val : Int) r.val ≤ 255 ∧ ∀ s : Fin 8, s ≠ r → bitB (setB (x.val : Int) r.val) s.val = bitB (x.val : Int) s.val := by decide +kernel
theorem byte_at (x : Int) (h0 : 0 ≤ x) (h1 : x ≤ 255) (r : Nat) (hr : r < 8) : (bitB x r = false → clrB (setB x r) r = x) ∧ bitB (setB x r) r = true ∧ 0 ≤ setB x r ∧ setB x r ≤ 255 ∧ ∀ s : Nat, s < 8 → s ≠ r → bitB (setB x r) s = bitB x s := by
  have := byte_facts ⟨x.toNat, by omega⟩ ⟨r, hr⟩
  simp only [Int.toNat_of_nonneg h0] at this
  obtain ⟨a, b, c, d, e⟩ := this
  exact ⟨a, b, c, d, fun s hs hne => e ⟨s, hs⟩ (fun h => hne (by simpa using congrArg Fin.val h))⟩
theorem cp_f (l : List Int) (h : l.length ≤ 1048576) : impl_cp.f l = some l := by
  unfold impl_cp.f
  simp only [Option.bind_some, List.length_nil, List.nil_append]
  rw [if_pos (by omega)]
theorem bitN_eq (l : List Int) (i : Nat) : bitN l i = bitB (l.getD (i / 8) 0) (i % 8) := rfl
theorem put_f (l : List Int) (p : Nat) (hp : p < bitsLen l) (v : Bool) (k : Nat) (hk : 1 ≤ k) :
    impl_BitPut.f k l (p : Int) v = some (l.set (p / 8) (if v = true then setB (l.getD (p / 8) 0) (p % 8) else clrB (l.getD (p / 8) 0) (p % 8))) := by
  have hlen : bitsLen l = l.length * 8 ∧ l.length ≤ 2048 := by
    unfold bitsLen at hp ⊢
    by_cases h : l.length > 2048
    · rw [if_pos h] at hp; omega
    · rw [if_neg h]; omega
  obtain ⟨k, rfl⟩ : ∃ m, k = m + 1 := ⟨k - 1, by omega⟩
  unfold impl_BitPut.f
  rw [if_neg (by omega), bitlen_f]
  simp only [Option.bind_some]
  have e0 : decide ((p : Int) ≥ ((bitsLen l : Nat) : Int)) = false := by simp; omega
  rw [e0]
  simp only [impl_BitPut.j0]
  have e1 : wrap64 (Int.tdiv (p : Int) 8) = ((p / 8 : Nat) : Int) := by
    rw [Int.tdiv_eq_ediv_of_nonneg (by omega), w64 (by omega) (by omega)]; omega
  have e2 : Int.tmod (p : Int) 8 = ((p % 8 : Nat) : Int) := by rw [Int.tmod_eq_emod_of_nonneg (by omega)]; omega
  rw [if_neg (by simp), cp_f l (by omega), Option.bind_some, Option.bind_some]
  rw [e1, e2, if_pos (by omega), if_pos (by omega), if_pos (by omega), Int.toNat_natCast, rd_nat, rd_nat]
  have eg : (l.set (p / 8) (Go.bits .andNot .u8 (l.getD (p / 8) 0) (shl .u8 1 ((p % 8 : Nat) : Int)))).getD (p / 8) 0 = Go.bits .andNot .u8 (l.getD (p / 8) 0) (shl .u8 1 ((p % 8 : Nat) : Int)) := by
    rw [List.getD_eq_getElem?_getD, List.getElem?_set_self (by omega), Option.getD_some]
  rw [eg]
  cases v with
  | true => rw [if_pos rfl, if_pos rfl, List.set_set]; unfold setB clrB; exact Eq.refl _
  | false => rw [if_neg (by simp), if_neg (by simp)]; unfold clrB; exact Eq.refl _
theorem getD_set_ne (l : List Int) (i j : Nat) (x : Int) (h : i ≠ j) : (l.set i x).getD j 0 = l.getD j 0 := by
  rw [List.getD_eq_getElem?_getD, List.getElem?_set_ne h, ← List.getD_eq_getElem?_getD]
theorem getD_set_self (l : List Int) (i : Nat) (x : Int) (h : i < l.length) : (l.set i x).getD i 0 = x := by
  rw [List.getD_eq_getElem?_getD, List.getElem?_set_self h]; rfl
/-- The row with bit p on. -/
def putOn (l : List Int) (p : Nat) : List Int := l.set (p / 8) (setB (l.getD (p / 8) 0) (p % 8))
theorem putOn_len (l : List Int) (p : Nat) : (putOn l p).length = l.length := by simp [putOn]
theorem putOn_ok (l : List Int) (hl : bytesOk l = true) (p : Nat) : bytesOk (putOn l p) = true := by
  obtain ⟨h0, h1⟩ := bytesOk_get l hl (p / 8)
  obtain ⟨_, _, c, d, _⟩ := byte_at _ h0 h1 (p % 8) (by omega)
  unfold bytesOk at hl ⊢
  rw [List.all_eq_true] at hl ⊢
  intro x hx
  rcases List.mem_or_eq_of_mem_set hx with h | h
  · exact hl x h
  · subst h; simp; exact ⟨c, d⟩
theorem putOn_bit (l : List Int) (hl : bytesOk l = true) (p : Nat) (hp : p / 8 < l.length) (j : Nat) : bitN (putOn l p) j = if j = p then true else bitN l j := by
  obtain ⟨h0, h1⟩ := bytesOk_get l hl (p / 8)
  obtain ⟨_, b, _, _, e⟩ := byte_at _ h0 h1 (p % 8) (by omega)
  rw [bitN_eq, bitN_eq]
  unfold putOn
  by_cases hb : p / 8 = j / 8
  · rw [← hb, getD_set_self _ _ _ hp]
    by_cases hj : j = p
    · subst hj; rw [if_pos rfl]; exact b
    · rw [if_neg hj]; exact e (j % 8) (by omega) (by omega)
  · rw [getD_set_ne _ _ _ _ hb, if_neg (by rintro rfl; exact hb rfl)]
theorem putOff (l : List Int) (hl : bytesOk l = true) (p : Nat) (hp : p / 8 < l.length) (hb : bitN l p = false) : (putOn l p).set (p / 8) (clrB ((putOn l p).getD (p / 8) 0) (p % 8)) = l := by
  obtain ⟨h0, h1⟩ := bytesOk_get l hl (p / 8)
  obtain ⟨a, _⟩ := byte_at _ h0 h1 (p % 8) (by omega)
  unfold putOn
  rw [getD_set_self _ _ _ hp, List.set_set, a hb]
  have : l.getD (p / 8) 0 = l[p / 8] := by rw [List.getD_eq_getElem?_getD, List.getElem?_eq_getElem hp]; rfl
  rw [this, List.set_getElem_self]
theorem cnt_same (b c : Nat → Bool) (d : Nat) : ∀ i, (∀ j, i ≤ j → b j = c j) → cntB b d i = cntB c d i := by
  induction d with
  | zero => intro i _; rfl
  | succ d ih => intro i h; rw [cntB, cntB, h i (by omega), ih (i + 1) (fun j hj => h j (by omega))]
theorem cnt_put (b c : Nat → Bool) (p : Nat) (hb : b p = false) (hc : c p = true) (h : ∀ j, j ≠ p → c j = b j) (d : Nat) : ∀ i, i ≤ p → p < i + d → cntB c d i = cntB b d i + 1 := by
  induction d with
  | zero => intro i h1 h2; omega
  | succ d ih =>
    intro i h1 h2
    rw [cntB, cntB]
    by_cases he : i = p
    · subst he
      rw [hb, hc, cnt_same c b d (i + 1) (fun j hj => h j (by omega))]
      simp; omega
    · rw [h i he, ih (i + 1) (by omega) (by omega)]; omega
theorem specCount_loop (l : List Int) (hl : bytesOk l = true) (hi : Nat) (hh : hi ≤ bitsLen l) (d : Nat) : ∀ (k i c : Nat), hi - i ≤ d → d + 12 < k → i ≤ 100000 → c ≤ i →
    spec_BitCount.l0 k l (hi : Int) (c : Int) (i : Int) = some ((c + cntB (bitN l) (hi - i) i : Nat) : Int) := by
  have hb := bitsLen_le l
  induction d with
  | zero =>
    intro k i c hd hk hi9 hc
    obtain ⟨k, rfl⟩ : ∃ m, k = m + 1 := ⟨k - 1, by omega⟩
    simp only [spec_BitCount.l0]
    have e : hi - i = 0 := by omega
    rw [if_neg (by omega), e]
    rfl
  | succ d ih =>
    intro k i c hd hk hi9 hc
    obtain ⟨k, rfl⟩ : ∃ m, k = m + 1 := ⟨k - 1, by omega⟩
    simp only [spec_BitCount.l0]
    by_cases hlt : i < hi
    · have e : hi - i = (hi - (i + 1)) + 1 := by omega
      have h0 := ih k (i + 1) c (by omega) (by omega) (by omega) (by omega)
      have h1 := ih k (i + 1) (c + 1) (by omega) (by omega) (by omega) (by omega)
      rw [if_pos (by omega), specGet_f l hl i (by omega) k (by omega)]
      simp only [Option.bind_some]
      rw [e, cntB]
      cases hbi : bitN l i with
      | true =>
        rw [if_pos rfl, if_pos rfl, w64 (by omega) (by omega), w64 (by omega) (by omega)]
        refine h1.trans ?_
        congr 2; omega
      | false =>
        rw [if_neg (by simp), if_neg (by simp), w64 (by omega) (by omega)]
        refine h0.trans ?_
        congr 2; omega
    · have e : hi - i = 0 := by omega
      rw [if_neg (by omega), e]
      rfl
end Go.Proofs.Ytkjcffhmjfdnmaa.Pure
