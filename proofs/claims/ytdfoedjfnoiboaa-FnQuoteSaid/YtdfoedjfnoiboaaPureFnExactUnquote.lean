/- The program's Unquote returns what the reference's returns, for every string that the reading lets in. -/
import Derived.Test.YtdfoedjfnoiboaaPAx4
import Derived.Test.YtdfoedjfnoiboaaUnq
namespace Go.Proofs.Ytdfoedjfnoiboaa.Pure
open Go.RowKit Go.Proofs.Ytdfoedjfnoiboaa Go.Proofs.Ytdfoedjfnoiboaa.PA Go.Proofs.YtdfoedjfnoiboaaW.PrintWords Go.Proofs.YtdfoedjfnoiboaaW.PrintLast

def ints (l : List UInt8) : List Int := l.map fun c => (c.toNat : Int)
theorem ints_snoc (l : List UInt8) (c : UInt8) : ints l ++ [(c.toNat : Int)] = ints (l ++ [c]) := by simp [ints]
theorem ints_len (l : List UInt8) : (ints l).length = l.length := by simp [ints]
theorem str_ints (l : List UInt8) : strOfNums (ints l) = ⟨l.toArray⟩ := str_bytes l
theorem w64 {x : Int} (h0 : 0 ≤ x) (h1 : x ≤ 900000000000) : wrap64 x = x := by unfold wrap64; omega
theorem plain_f (c : UInt8) : spec_l14Plain.f (c.toNat : Int) = some (decide (plainU c)) := by
  unfold spec_l14Plain.f plainU
  by_cases h1 : 33 ≤ c.toNat
  · rw [if_pos (by omega)]
    by_cases h2 : c.toNat ≤ 126
    · rw [if_pos (by omega)]
      by_cases h3 : c.toNat = 37
      · simp [h3]
      · have h4 : (c.toNat : Int) ≠ 37 := by omega
        simp [h1, h2, h3, h4]
    · rw [if_neg (by omega)]; simp [h2]
  · rw [if_neg (by omega)]; simp [h1]
theorem digit17 : ∀ n : Fin 256, spec_l14Digit.f 17 ((UInt8.ofNat n.val).toNat : Int) = some (digit (UInt8.ofNat n.val)) := by decide +kernel
theorem digit_f (k : Nat) (hk : 17 ≤ k) (c : UInt8) : spec_l14Digit.f k (c.toNat : Int) = some (digit c) :=
  at_rounds (spec_l14Digit.mono (c.toNat : Int)) hk (u8_all (P := fun c => spec_l14Digit.f 17 (c.toNat : Int) = some (digit c)) digit17 c)
theorem index_f (c : UInt8) : strings_IndexByte.f (⟨#[48, 49, 50, 51, 52, 53, 54, 55, 56, 57, 97, 98, 99, 100, 101, 102]⟩ : ByteArray) (c.toNat : Int) = some (digit c) := by
  revert c
  exact u8_all (by decide +kernel)
theorem bt_get (s : ByteArray) (n : Nat) (h : n < s.size) : bt s (n : Int) = ((s.data.toList[n]'(by simpa using h)).toNat : Int) := by
  unfold bt
  simp [h]
  rfl
theorem drop_get (s : ByteArray) (n : Nat) (h : n < s.size) : s.data.toList.drop n = (s.data.toList[n]'(by simpa using h)) :: s.data.toList.drop (n + 1) := List.drop_eq_getElem_cons (by simpa using h)
theorem pair_int (a b : UInt8) (ha : 0 ≤ digit a) (hb : 0 ≤ digit b) : (wrap64 (wrap64 (digit a * 16) + digit b)) % 256 = ((pairU a b).toNat : Int) := by
  have h1 := digit_lt a
  have h2 := digit_lt b
  rw [pair_toNat a b ha hb, w64 (x := digit a * 16) (by omega) (by omega), w64 (by omega) (by omega)]
  omega
theorem or_nib : ∀ a b : Fin 16, Go.bits .or .i64 ((a.val : Int) * 16) (b.val : Int) = (a.val : Int) * 16 + (b.val : Int) := by decide +kernel
theorem pair_or (a b : UInt8) (ha : 0 ≤ digit a) (hb : 0 ≤ digit b) : (Go.bits .or .i64 (wrap64 (digit a * 16)) (digit b)) % 256 = ((pairU a b).toNat : Int) := by
  have h1 := digit_lt a
  have h2 := digit_lt b
  have h := or_nib ⟨(digit a).toNat, by omega⟩ ⟨(digit b).toNat, by omega⟩
  simp only [Int.toNat_of_nonneg ha, Int.toNat_of_nonneg hb] at h
  rw [pair_toNat a b ha hb, w64 (x := digit a * 16) (by omega) (by omega), h]
  omega
theorem map_out (out : List UInt8) (c : UInt8) (o : Option (List UInt8)) : (o.map (c :: ·)).map (out ++ ·) = o.map ((out ++ [c]) ++ ·) := by
  cases o <;> simp
theorem spec_loop (s : ByteArray) (hs : s.size ≤ 1048576) (d : Nat) : ∀ (k n : Nat) (out : List UInt8), n ≤ s.size → s.size - n ≤ d → out.length ≤ n → 2 * d + 20 ≤ k →
    spec_Unquote.l0 k s (ints out) (n : Int) = some (finS ((sP (s.data.toList.drop n)).map (out ++ ·))) := by
  induction d using Nat.strongRecOn with
  | _ d ih =>
  intro k n out hn hd ho hk
  obtain ⟨k, rfl⟩ : ∃ m, k = m + 1 := ⟨k - 1, by omega⟩
  by_cases hlt : n < s.size
  · obtain ⟨c, hc⟩ : ∃ c, (s.data.toList[n]'(by simpa using hlt)) = c := ⟨_, rfl⟩
    have hb := bt_get s n hlt
    have hdr := drop_get s n hlt
    rw [hc] at hb hdr
    simp only [spec_Unquote.l0]
    rw [if_pos (by omega), if_pos (by omega), hb, plain_f]
    simp only [Option.bind_some]
    by_cases hp : plainU c
    · rw [if_pos (by simpa using hp), if_pos (by rw [ints_len]; omega), w64 (by omega) (by omega), ints_snoc, hdr, sP_plain c _ hp, map_out]
      have h := ih (d - 1) (by omega) k (n + 1) (out ++ [c]) (by omega) (by omega) (by simp; omega) (by omega)
      exact h
    · rw [if_neg (by simpa using hp)]
      by_cases h37 : c.toNat = 37
      · rw [if_pos (by omega), w64 (by omega) (by omega)]
        obtain ⟨k, rfl⟩ : ∃ m, k = m + 1 := ⟨k - 1, by omega⟩
        simp only [spec_Unquote.j1]
        by_cases h2 : n + 2 < s.size
        · obtain ⟨a, ha⟩ : ∃ a, (s.data.toList[n + 1]'(by simp; omega)) = a := ⟨_, rfl⟩
          obtain ⟨b, hb'⟩ : ∃ b, (s.data.toList[n + 2]'(by simp; omega)) = b := ⟨_, rfl⟩
          have ba := bt_get s (n + 1) (by omega)
          have bb := bt_get s (n + 2) (by omega)
          have da := drop_get s (n + 1) (by omega)
          have db := drop_get s (n + 2) (by omega)
          rw [ha] at ba da
          rw [hb'] at bb db
          rw [if_neg (by simp; omega), w64 (x := (n : Int) + 1) (by omega) (by omega), if_pos (by omega), if_pos (by omega)]
          have e1 : (n : Int) + 1 = ((n + 1 : Nat) : Int) := by omega
          have e2 : (n : Int) + 2 = ((n + 2 : Nat) : Int) := by omega
          rw [w64 (x := (n : Int) + 2) (by omega) (by omega), e1, e2, ba, bb, digit_f k (by omega), digit_f k (by omega)]
          simp only [Option.bind_some]
          rw [if_pos (by omega), if_pos (by omega), hdr, da, db, sP_pair c a b _ hp (by omega)]
          by_cases na : digit a < 0
          · rw [if_pos na, if_pos (.inl na)]; rfl
          · rw [if_neg na]
            by_cases nb : digit b < 0
            · rw [if_pos nb, if_pos (.inr (.inl nb))]; rfl
            · rw [if_neg nb, pair_int a b (by omega) (by omega), plain_f]
              simp only [Option.bind_some]
              by_cases np : plainU (pairU a b)
              · rw [if_pos (by simpa using np), if_pos (.inr (.inr np))]; rfl
              · have hno : ¬ (digit a < 0 ∨ digit b < 0 ∨ plainU (pairU a b)) := by rintro (h | h | h) <;> first | omega | exact np h
                rw [if_neg (by simpa using np), if_pos (by rw [ints_len]; omega), if_neg hno, ints_snoc, w64 (by omega) (by omega), map_out]
                have h := ih (d - 3) (by omega) k (n + 3) (out ++ [pairU a b]) (by omega) (by omega) (by simp; omega) (by omega)
                exact h
        · rw [if_pos (by simp; omega), hdr, sP_short c _ hp (by simp; omega)]
          rfl
      · rw [if_neg (by omega), hdr, sP_bad c _ hp h37]
        obtain ⟨k, rfl⟩ : ∃ m, k = m + 1 := ⟨k - 1, by omega⟩
        simp only [spec_Unquote.j1, if_true]
        rfl
  · have e : s.data.toList.drop n = [] := List.drop_eq_nil_of_le (by simp; omega)
    simp only [spec_Unquote.l0]
    rw [if_neg (by omega), e, sP]
    simp only [Option.map_some, List.append_nil, finS, ints_len, str_ints]
    by_cases h0 : out.length = 0
    · rw [if_pos (by omega), if_pos h0]
    · rw [if_neg (by omega), if_neg h0]
      by_cases h6 : out.length > 65536
      · rw [if_pos (by omega), if_pos h6]
      · rw [if_neg (by omega), if_neg h6]
theorem impl_loop (s : ByteArray) (hs : s.size ≤ 1048576) (d : Nat) : ∀ (k n : Nat) (out : List UInt8), n ≤ s.size → s.size - n ≤ d → out.length ≤ n → d + 1 ≤ k →
    impl_Unquote.l0 k s (ints out) (n : Int) = some (finI s.data.toList ((iP (s.data.toList.drop n)).map (out ++ ·))) := by
  induction d using Nat.strongRecOn with
  | _ d ih =>
  intro k n out hn hd ho hk
  obtain ⟨k, rfl⟩ : ∃ m, k = m + 1 := ⟨k - 1, by omega⟩
  by_cases hlt : n < s.size
  · obtain ⟨c, hc⟩ : ∃ c, (s.data.toList[n]'(by simpa using hlt)) = c := ⟨_, rfl⟩
    have hb := bt_get s n hlt
    have hdr := drop_get s n hlt
    rw [hc] at hb hdr
    simp only [impl_Unquote.l0]
    rw [if_pos (by omega), if_pos (by omega), hb]
    by_cases h37 : c.toNat = 37
    · rw [if_pos (by omega)]
      by_cases h2 : n + 2 < s.size
      · obtain ⟨a, ha⟩ : ∃ a, (s.data.toList[n + 1]'(by simp; omega)) = a := ⟨_, rfl⟩
        obtain ⟨b, hb'⟩ : ∃ b, (s.data.toList[n + 2]'(by simp; omega)) = b := ⟨_, rfl⟩
        have ba := bt_get s (n + 1) (by omega)
        have bb := bt_get s (n + 2) (by omega)
        have da := drop_get s (n + 1) (by omega)
        have db := drop_get s (n + 2) (by omega)
        rw [ha] at ba da
        rw [hb'] at bb db
        have e1 : (n : Int) + 1 = ((n + 1 : Nat) : Int) := by omega
        have e2 : (n : Int) + 2 = ((n + 2 : Nat) : Int) := by omega
        rw [w64 (x := (n : Int) + 1) (by omega) (by omega), w64 (x := (n : Int) + 2) (by omega) (by omega), if_neg (by omega), if_pos (by omega), if_pos (by omega), e1, e2, ba, bb, index_f, index_f]
        simp only [Option.bind_some]
        rw [if_pos (by omega), if_pos (by omega), hdr, da, db, iP_pair c a b _ (by omega)]
        by_cases na : digit a < 0
        · rw [if_pos na, if_pos (.inl na)]; rfl
        · rw [if_neg na]
          by_cases nb : digit b < 0
          · rw [if_pos nb, if_pos (.inr nb)]; rfl
          · have hno : ¬ (digit a < 0 ∨ digit b < 0) := by omega
            rw [if_neg nb, if_pos (by rw [ints_len]; omega), if_neg hno, pair_or a b (by omega) (by omega), ints_snoc, w64 (by omega) (by omega), map_out]
            have h := ih (d - 3) (by omega) k (n + 3) (out ++ [pairU a b]) (by omega) (by omega) (by simp; omega) (by omega)
            exact h
      · rw [w64 (x := (n : Int) + 2) (by omega) (by omega), if_pos (by omega), hdr, iP_short c _ (by omega) (by simp; omega)]
        rfl
    · rw [if_neg (by omega), if_pos (by rw [ints_len]; omega), w64 (by omega) (by omega), ints_snoc, hdr, iP_plain c _ h37, map_out]
      have h := ih (d - 1) (by omega) k (n + 1) (out ++ [c]) (by omega) (by omega) (by simp; omega) (by omega)
      exact h
  · have e : s.data.toList.drop n = [] := List.drop_eq_nil_of_le (by simp; omega)
    simp only [impl_Unquote.l0]
    rw [if_neg (by omega), e, iP]
    simp only [Option.map_some, List.append_nil, finI, ints_len, str_ints]
    by_cases h0 : out.length = 0
    · rw [if_pos (by omega), if_pos h0]
    · rw [if_neg (by omega), if_neg h0]
      by_cases h6 : out.length > 65536
      · rw [if_pos (by omega), if_pos h6]
      · rw [if_neg (by omega), if_neg h6]
        have hsz : (⟨out.toArray⟩ : ByteArray).size = out.length := by simp [ByteArray.size]
        unfold impl_Quote.f
        rw [if_pos (by omega)]
        simp only [Option.bind_some]
        have hq : quoteF ⟨out.toArray⟩ = ⟨(quoteL out).toArray⟩ := by
          unfold quoteF
          rw [if_neg (by omega), if_neg (by omega)]
        rw [hq, Lib.toList_data, Lib.toList_data]
        by_cases hT : quoteL out = s.data.toList
        · rw [if_pos hT, if_pos hT]
        · rw [if_neg hT, if_neg hT]
theorem FnExactUnquote : laws_FnExactUnquote.Pure := by
  intro a0 hs
  by_cases hb : (a0.size : Int) > 1048576
  · exact ⟨0, by unfold laws_FnExactUnquote.f; rw [if_pos hb]⟩
  · have hs' : a0.size ≤ 1048576 := by omega
    refine ⟨2 * a0.size + 20, ?_⟩
    unfold laws_FnExactUnquote.f
    rw [if_neg hb]
    have h : spec_Unquote.f (2 * a0.size + 20) a0 = impl_Unquote.f (2 * a0.size + 20) a0 ∧ ∃ r, impl_Unquote.f (2 * a0.size + 20) a0 = some r := by
      unfold spec_Unquote.f impl_Unquote.f
      by_cases hp : a0.toList = ([37] : List UInt8)
      · rw [if_pos hp, if_pos hp]; exact ⟨rfl, _, rfl⟩
      · rw [if_neg hp, if_neg hp]
        have h1 := spec_loop a0 hs' a0.size (2 * a0.size + 20) 0 [] (by omega) (by omega) (by simp) (by omega)
        have h2 := impl_loop a0 hs' a0.size (2 * a0.size + 20) 0 [] (by omega) (by omega) (by simp) (by omega)
        have e0 : ints [] = ([] : List Int) := rfl
        have ez : ((0 : Nat) : Int) = 0 := rfl
        have ei : ∀ o : Option (List UInt8), o.map (([] : List UInt8) ++ ·) = o := fun o => by cases o <;> simp
        rw [e0, ez, List.drop_zero, ei] at h1 h2
        rw [h1, h2, fin_same]
        exact ⟨rfl, _, rfl⟩
    obtain ⟨h1, r, h2⟩ := h
    rw [h1, h2]
    simp only [Option.bind_some]
    unfold laws_eqUnquoted.f
    simp
end Go.Proofs.Ytdfoedjfnoiboaa.Pure
