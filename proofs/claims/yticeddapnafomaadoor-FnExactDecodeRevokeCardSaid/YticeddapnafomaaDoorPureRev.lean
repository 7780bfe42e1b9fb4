/- Plain laws: revoke blocks: the program's bytes are the reference's, and decoding answers alike. -/
import Derived.Test.YticeddapnafomaaDoorPureEnc
import Derived.Test.YticeddapnafomaaDoorDR
namespace Go.Proofs.YticeddapnafomaaDoor.Pure
open Go.RowKit Go.Proofs.YticeddapnafomaaDoor Go.Proofs.YticeddapnafomaaDoor.PE Go.Proofs.YticeddapnafomaaDoorW.PrintWords Go.Proofs.YticeddapnafomaaDoorW.PrintLast Go.Proofs.YticeddapnafomaaDoorW.PrintMore
def okAt (bs : List Int) (i : Nat) : Bool := decide (0 ≤ bs.getD i 0 ∧ bs.getD i 0 ≤ 2047) && (decide (i = 0) || decide (bs.getD (i - 1) 0 < bs.getD i 0))
def okFrom (bs : List Int) (i : Nat) : Nat → Bool
  | 0 => true
  | d + 1 => okAt bs i && okFrom bs (i + 1) d
def be2s (bs : List Int) : List Int := bs.flatMap (be 2)
theorem be2s_length (bs : List Int) : (be2s bs).length = 2 * bs.length := by
  induction bs with
  | nil => rfl
  | cons b bs ih => simp only [be2s, List.flatMap_cons, List.length_append, be_length, List.length_cons] at *; omega
theorem be2s_take (bs : List Int) (i : Nat) (h : i < bs.length) : be2s (bs.take (i + 1)) = be2s (bs.take i) ++ be 2 (bs.getD i 0) := by
  rw [← take_getD h]; simp [be2s]
def revokeOf (s : Int) (bs : List Int) : List Int := if (1 ≤ s ∧ s ≤ 4294967295) ∧ (1 ≤ bs.length ∧ bs.length ≤ 26) ∧ okFrom bs 0 bs.length = true then hd 3 bs.length s ++ be2s bs ++ List.replicate (52 - 2 * bs.length) 0 else []
theorem goodBlock (v : Int) : spec_l3GoodBlock.f v = some (decide (0 ≤ v ∧ v ≤ 2047)) := by
  unfold spec_l3GoodBlock.f
  by_cases h : v ≥ 0
  · rw [if_pos h]; congr 1; exact decide_eq_decide.mpr ⟨fun h2 => ⟨h, by omega⟩, fun h2 => by omega⟩
  · rw [if_neg h]; congr 1; exact (decide_eq_false (fun h2 => h h2.1)).symm
theorem rising_loop (bs : List Int) (hl : bs.length ≤ 4000) (d : Nat) : ∀ (k i : Nat), i + d = bs.length → d < k → impl_rising.l0 k bs bs (bs.length : Int) (i : Int) = some (okFrom bs i d) := by
  induction d with
  | zero =>
    intro k i hd hk
    obtain ⟨k, rfl⟩ : ∃ m, k = m + 1 := ⟨k - 1, by omega⟩
    simp only [impl_rising.l0]
    rw [if_neg (by omega)]; rfl
  | succ d ih =>
    intro k i hd hk
    obtain ⟨k, rfl⟩ : ∃ m, k = m + 1 := ⟨k - 1, by omega⟩
    simp only [impl_rising.l0]
    rw [if_pos (by omega), if_pos (by omega), if_pos (by omega), inIn, Option.bind_some, nrd_nat]
    have hn := ih k (i + 1) (by omega) (by omega)
    have ei : wrap64 ((i : Int) + 1) = ((i + 1 : Nat) : Int) := by rw [nw64 (by omega) (by omega)]; rfl
    rw [ei, hn]
    show _ = some (okAt bs i && okFrom bs (i + 1) d)
    unfold okAt
    by_cases h1 : 0 ≤ bs.getD i 0 ∧ bs.getD i 0 ≤ 2047
    · rw [decide_eq_true h1, if_pos rfl]
      by_cases h0 : i = 0
      · rw [if_neg (by omega), decide_eq_true h0]; simp
      · have em : wrap64 ((i : Int) - 1) = ((i - 1 : Nat) : Int) := by rw [nw64 (by omega) (by omega)]; omega
        rw [if_pos (by omega), em, if_pos (by omega), if_pos (by omega), nrd_nat, decide_eq_false h0]
        by_cases h2 : bs.getD (i - 1) 0 < bs.getD i 0
        · rw [if_neg (by omega), decide_eq_true h2]; simp
        · rw [if_pos (by omega), decide_eq_false h2]; simp
    · rw [decide_eq_false h1, if_neg (by decide)]; simp
theorem rising (bs : List Int) (hl : bs.length ≤ 4000) (k : Nat) (hk : bs.length < k) : impl_rising.f k bs = some (okFrom bs 0 bs.length) := rising_loop bs hl bs.length k 0 (by omega) hk
theorem ok_bounds (bs : List Int) : ∀ (d i : Nat), okFrom bs i d = true → ∀ j, i ≤ j → j < i + d → 0 ≤ bs.getD j 0 ∧ bs.getD j 0 ≤ 2047
  | 0, i, _ => fun j h1 h2 => by omega
  | d + 1, i, h => fun j h1 h2 => by
    have h' : (okAt bs i && okFrom bs (i + 1) d) = true := h
    rw [Bool.and_eq_true] at h'
    by_cases e : j = i
    · subst e
      have := h'.1
      unfold okAt at this
      rw [Bool.and_eq_true] at this
      exact of_decide_eq_true this.1
    · exact ok_bounds bs d (i + 1) h'.2 j (by omega) (by omega)
theorem iEncR_loop (s : Int) (bs : List Int) (hl : bs.length ≤ 26) (hok : ∀ j, j < bs.length → 0 ≤ bs.getD j 0 ∧ bs.getD j 0 ≤ 2047) (d : Nat) : ∀ (k i : Nat), i + d = bs.length → d + 8 < k →
    impl_EncodeRevoke.l0 k (hd 3 bs.length s ++ be2s (bs.take i) ++ List.replicate (52 - 2 * i) 0) bs (bs.length : Int) (i : Int) = some (hd 3 bs.length s ++ be2s bs ++ List.replicate (52 - 2 * bs.length) 0) := by
  induction d with
  | zero =>
    intro k i hd hk
    obtain ⟨k, rfl⟩ : ∃ m, k = m + 1 := ⟨k - 1, by omega⟩
    simp only [impl_EncodeRevoke.l0]
    rw [if_neg (by omega)]
    have e : i = bs.length := by omega
    subst e
    rw [List.take_length]
  | succ d ih =>
    intro k i hd' hk
    obtain ⟨k, rfl⟩ : ∃ m, k = m + 1 := ⟨k - 1, by omega⟩
    simp only [impl_EncodeRevoke.l0]
    have hb := hok i (by omega)
    have e1 : wrap64 (12 + wrap64 (2 * (i : Int))) = ((12 + 2 * i : Nat) : Int) := by rw [nw64 (x := 2 * (i : Int)) (by omega) (by omega), nw64 (by omega) (by omega)]; omega
    have e2 : wrap64 ((i : Int) + 1) = ((i + 1 : Nat) : Int) := by rw [nw64 (by omega) (by omega)]; rfl
    have e3 : ((2 : Nat) : Int) = 2 := rfl
    have hp := iputs 2 (bs.getD i 0) hb.1 (by have := hb.2; have e : (256 : Int) ^ 2 = 65536 := (by decide); rw [e]; omega) (by omega) (by omega) (hd 3 bs.length s ++ be2s (bs.take i) ++ List.replicate (52 - 2 * i) 0) (12 + 2 * i) (by simp only [List.length_append, hd_length, be2s_length, List.length_take, List.length_replicate]; omega) k (by omega)
    rw [cut_put (hd 3 bs.length s ++ be2s (bs.take i)) (List.replicate (52 - 2 * i) 0) _ _ rfl (12 + 2 * i) 2 (by simp only [List.length_append, hd_length, be2s_length, List.length_take]; omega), e3] at hp
    rw [if_pos (by omega), if_pos (by omega), if_pos (by omega), e1, nrd_nat, hp, Option.bind_some, e2]
    have hn := ih k (i + 1) (by omega) (by omega)
    rw [be2s_take bs i (by omega)] at hn
    rw [List.drop_replicate]
    rw [show 52 - 2 * i - 2 = 52 - 2 * (i + 1) by omega]
    simpa only [List.append_assoc] using hn
theorem iEncRT (s : Int) (bs : List Int) (k : Nat) (hk : 1 < k) : impl_EncodeRevoke.j0 k true s bs = some [] := by
  obtain ⟨k, rfl⟩ : ∃ n, k = n + 1 := ⟨k - 1, by omega⟩
  simp only [impl_EncodeRevoke.j0]
  rfl
theorem iEncRF (s : Int) (bs : List Int) (hs : 1 ≤ s ∧ s ≤ 4294967295) (hl : bs.length ≤ 26) (hok : okFrom bs 0 bs.length = true) (k : Nat) (hk : 60 < k) : impl_EncodeRevoke.j0 k false s bs = some (hd 3 bs.length s ++ be2s bs ++ List.replicate (52 - 2 * bs.length) 0) := by
  obtain ⟨k, rfl⟩ : ∃ n, k = n + 1 := ⟨k - 1, by omega⟩
  simp only [impl_EncodeRevoke.j0]
  rw [if_neg (by decide), ihead 3 bs.length s (by omega) (by omega) (by omega) (by omega) k (by omega), Option.bind_some]
  have h := iEncR_loop s bs hl (fun j hj => ok_bounds bs _ 0 hok j (by omega) (by omega)) bs.length k 0 (by omega) (by omega)
  simpa [be2s] using h
theorem iEncR (s : Int) (bs : List Int) (hl : bs.length ≤ 4000) (k : Nat) (hk : 60 + bs.length < k) : impl_EncodeRevoke.f k s bs = some (revokeOf s bs) := by
  unfold impl_EncodeRevoke.f revokeOf
  rw [inIn, Option.bind_some]
  by_cases hs : 1 ≤ s ∧ s ≤ 4294967295
  · rw [decide_eq_true hs, if_pos rfl, inIn, Option.bind_some]
    by_cases hc : 1 ≤ (bs.length : Int) ∧ (bs.length : Int) ≤ 26
    · rw [decide_eq_true hc, if_pos rfl, rising bs hl k (by omega), Option.bind_some]
      cases hr : okFrom bs 0 bs.length with
      | true => rw [if_pos ⟨hs, by omega, rfl⟩, Bool.not_true, iEncRF s bs hs (by omega) hr k (by omega)]
      | false => rw [if_neg (fun h => by cases h.2.2), Bool.not_false, iEncRT _ _ _ (by omega)]
    · rw [decide_eq_false hc, if_neg (by decide), if_neg (fun h => hc (by omega)), iEncRT _ _ _ (by omega)]
  · rw [decide_eq_false hs, if_neg (by decide), if_neg (fun h => hs h.1), iEncRT _ _ _ (by omega)]
theorem sEncR_loop (s : Int) (bs : List Int) (hl : bs.length ≤ 26) (d : Nat) : ∀ (k i : Nat), i + d = bs.length → d + 8 < k →
    spec_EncodeRevoke.l0 k (bs.length : Int) (hd 3 bs.length s ++ be2s (bs.take i)) (i : Int) s bs = some (if okFrom bs i d = true then hd 3 bs.length s ++ be2s bs ++ List.replicate (52 - 2 * bs.length) 0 else []) := by
  induction d with
  | zero =>
    intro k i hd hk
    obtain ⟨k, rfl⟩ : ∃ m, k = m + 1 := ⟨k - 1, by omega⟩
    simp only [spec_EncodeRevoke.l0]
    have e : i = bs.length := by omega
    subst e
    have hlen : (Pure.hd 3 bs.length s ++ be2s bs).length = 12 + 2 * bs.length := by simp only [List.length_append, hd_length, be2s_length]
    rw [if_neg (by omega), List.take_length, spad _ (by omega), Option.bind_some, if_pos (show okFrom bs bs.length 0 = true from rfl), hlen, show 64 - (12 + 2 * bs.length) = 52 - 2 * bs.length by omega]
  | succ d ih =>
    intro k i hd' hk
    obtain ⟨k, rfl⟩ : ∃ m, k = m + 1 := ⟨k - 1, by omega⟩
    simp only [spec_EncodeRevoke.l0]
    have ei : wrap64 ((i : Int) + 1) = ((i + 1 : Nat) : Int) := by rw [nw64 (by omega) (by omega)]; rfl
    have hn := ih k (i + 1) (by omega) (by omega)
    rw [be2s_take bs i (by omega), ← List.append_assoc] at hn
    have e3 : ((2 : Nat) : Int) = 2 := rfl
    have hlen : ((hd 3 bs.length s ++ be2s (bs.take i)).length + (be 2 (bs.getD i 0)).length < 140737488355328) := by simp only [List.length_append, hd_length, be2s_length, List.length_take, be_length]; omega
    rw [if_pos (by omega), if_pos (by omega), if_pos (by omega), nrd_nat, goodBlock, Option.bind_some, ei]
    show _ = some (if (okAt bs i && okFrom bs (i + 1) d) = true then _ else _)
    unfold okAt
    by_cases h1 : 0 ≤ bs.getD i 0 ∧ bs.getD i 0 ≤ 2047
    · have hp := sput 2 (bs.getD i 0) h1.1 (by omega) (by have := h1.2; have e : (256 : Int) ^ 2 = 65536 := (by decide); rw [e]; omega) (by omega) (by omega) k (by omega)
      rw [e3] at hp
      rw [decide_eq_true h1, if_pos rfl]
      by_cases h0 : i = 0
      · rw [if_neg (by omega), hp, Option.bind_some, if_pos hlen, hn, decide_eq_true h0]; simp
      · have em : wrap64 ((i : Int) - 1) = ((i - 1 : Nat) : Int) := by rw [nw64 (by omega) (by omega)]; omega
        rw [if_pos (by omega), em, if_pos (by omega), if_pos (by omega), nrd_nat, decide_eq_false h0]
        by_cases h2 : bs.getD (i - 1) 0 < bs.getD i 0
        · rw [if_neg (by omega), hp, Option.bind_some, if_pos hlen, hn, decide_eq_true h2]; simp
        · rw [if_pos (by omega), decide_eq_false h2]; simp
    · rw [decide_eq_false h1, if_neg (by decide)]; simp
theorem sEncRT (s n : Int) (bs : List Int) (k : Nat) (hk : 1 < k) : spec_EncodeRevoke.j0 k n true s bs = some [] := by
  obtain ⟨k, rfl⟩ : ∃ n, k = n + 1 := ⟨k - 1, by omega⟩
  simp only [spec_EncodeRevoke.j0]
  rfl
theorem sEncR (s : Int) (bs : List Int) (k : Nat) (hk : 60 < k) : spec_EncodeRevoke.f k s bs = some (revokeOf s bs) := by
  unfold spec_EncodeRevoke.f revokeOf
  rw [goodSeq, Option.bind_some]
  by_cases hs : 1 ≤ s ∧ s ≤ 4294967295
  · rw [decide_eq_true hs, if_pos rfl]
    by_cases hc : (bs.length : Int) < 1
    · rw [if_pos hc, sEncRT _ _ _ _ (by omega), if_neg (fun h => by omega)]
    · rw [if_neg hc]
      by_cases hc2 : (bs.length : Int) > 26
      · rw [decide_eq_true hc2, sEncRT _ _ _ _ (by omega), if_neg (fun h => by omega)]
      · rw [decide_eq_false hc2]
        obtain ⟨k, rfl⟩ : ∃ n, k = n + 1 := ⟨k - 1, by omega⟩
        simp only [spec_EncodeRevoke.j0]
        rw [if_neg (by decide), shead 3 bs.length s (by omega) (by omega) (by omega) (by omega) k (by omega), Option.bind_some]
        have h := sEncR_loop s bs (by omega) bs.length k 0 (by omega) (by omega)
        have e0 : hd 3 bs.length s ++ be2s (bs.take 0) = hd 3 bs.length s := by simp [be2s]
        have ez : ((0 : Nat) : Int) = 0 := rfl
        rw [e0, ez] at h
        rw [h]
        congr 1
        by_cases hr : okFrom bs 0 bs.length = true
        · rw [if_pos hr, if_pos ⟨hs, by omega, hr⟩]
        · rw [if_neg hr, if_neg (fun h => hr h.2.2)]
  · rw [decide_eq_false hs, if_neg (by decide), sEncRT _ _ _ _ (by omega), if_neg (fun h => hs h.1)]
def bl (l : List Int) (i : Nat) : Int := val 0 ((l.take (12 + 2 * i + 2)).drop (12 + 2 * i))
def bls (l : List Int) (n : Nat) : List Int := (List.range' 0 n).map (bl l)
theorem bls_length (l : List Int) (n : Nat) : (bls l n).length = n := by simp [bls]
theorem bls_succ (l : List Int) (n : Nat) : bls l (n + 1) = bls l n ++ [bl l n] := by
  unfold bls
  rw [List.range'_concat]
  simp
theorem numsAt_f (l : List Int) (hb : isBytes l) (hl : l.length = 64) (k : Nat) (hk : 8 < k) (m : Nat) : ∀ i, i + m ≤ 26 → numsAt k l i m = some ((List.range' i m).map (bl l)) := by
  induction m with
  | zero => intro i _; rfl
  | succ m ih =>
    intro i hi
    have h := inum l hb (12 + 2 * i) 2 (by omega) (by omega) (by omega) (by omega) k (by omega)
    have e : ((12 + 2 * i : Nat) : Int) = 12 + 2 * (i : Int) := by omega
    have e2 : ((2 : Nat) : Int) = 2 := rfl
    rw [e, e2] at h
    unfold numsAt
    rw [h, Option.bind_some, ih (i + 1) (by omega), Option.bind_some]
    rfl
theorem sDec_loop (l : List Int) (hb : isBytes l) (hl : l.length = 64) (seq : Int) (n : Nat) (hn : n ≤ 26) (hc : val 0 ((l.take 8).drop 6) = (n : Int)) (d : Nat) : ∀ (k i : Nat), i + d = n → d + 80 < k →
    spec_DecodeRevoke.l0 k l (i : Int) seq (bls l i) = some (if ((strOfNums (revokeOf seq (bls l n))).toList == (strOfNums l).toList) = true then (true, seq, bls l n) else (false, 0, [])) := by
  have g := fun a b h0 h1 h2 k h3 => sget ((l.take b).drop a) (by rw [cut_length _ _ _ h0]; exact h1) (by rw [cut_length _ _ _ h0]; exact h2) (isBytes_cut hb a b) k (by rw [cut_length _ _ _ h0]; exact h3)
  induction d with
  | zero =>
    intro k i hd hk
    obtain ⟨k, rfl⟩ : ∃ m, k = m + 1 := ⟨k - 1, by omega⟩
    simp only [spec_DecodeRevoke.l0]
    have e : i = n := by omega
    subst e
    rw [if_pos (by decide), if_pos (by omega), g 6 8 (by omega) (by omega) (by omega) k (by omega), Option.bind_some, hc, if_neg (by omega), sEncR _ _ k (by omega), Option.bind_some]
    unfold spec_l2Same.f
    rw [Option.bind_some]
    split <;> rfl
  | succ d ih =>
    intro k i hd hk
    obtain ⟨k, rfl⟩ : ∃ m, k = m + 1 := ⟨k - 1, by omega⟩
    simp only [spec_DecodeRevoke.l0]
    have e2 : wrap64 (2 * (i : Int)) = 2 * (i : Int) := nw64 (by omega) (by omega)
    have e12 : wrap64 (12 + 2 * (i : Int)) = ((12 + 2 * i : Nat) : Int) := by rw [nw64 (by omega) (by omega)]; omega
    have e14 : wrap64 (14 + 2 * (i : Int)) = ((12 + 2 * i + 2 : Nat) : Int) := by rw [nw64 (by omega) (by omega)]; omega
    have ei : wrap64 ((i : Int) + 1) = ((i + 1 : Nat) : Int) := by rw [nw64 (by omega) (by omega)]; rfl
    have h := ih k (i + 1) (by omega) (by omega)
    rw [bls_succ] at h
    rw [if_pos (by decide), if_pos (by omega), g 6 8 (by omega) (by omega) (by omega) k (by omega), Option.bind_some, hc, if_pos (by omega), e2, e12, e14, if_pos (by omega), if_pos (by omega), if_pos (by omega), Int.toNat_natCast, Int.toNat_natCast,
      g (12 + 2 * i) (12 + 2 * i + 2) (by omega) (by omega) (by omega) k (by omega), Option.bind_some, if_pos (by rw [bls_length]; omega), ei]
    exact h
theorem decodeRevoke (l : List Int) (hb : isBytes l) (k : Nat) (hk : 200 < k) : ∃ r, spec_DecodeRevoke.f k l = some r ∧ impl_DecodeRevoke.f k l = some r ∧ r.2.2.length ≤ 26 := by
  unfold spec_DecodeRevoke.f impl_DecodeRevoke.f
  rw [sKind, iKind, Option.bind_some, Option.bind_some]
  obtain ⟨k, rfl⟩ : ∃ m, k = m + 1 := ⟨k - 1, by omega⟩
  by_cases h3 : kindOf l = 3
  · have hl := kind_len (l := l) (by omega)
    have g := fun a n h0 h7 h1 hk' => inum l hb a n h0 h7 h1 (by omega) (k + 1) hk'
    have e6 := g 6 2 (by omega) (by omega) (by omega) (by omega)
    have e8 := g 8 4 (by omega) (by omega) (by omega) (by omega)
    have n6 : ((6 : Nat) : Int) = 6 := rfl
    have n2 : ((2 : Nat) : Int) = 2 := rfl
    have n8 : ((8 : Nat) : Int) = 8 := rfl
    have n4 : ((4 : Nat) : Int) = 4 := rfl
    rw [n6, n2] at e6
    rw [n8, n4] at e8
    have s := fun a b h0 h1 h2 k h3 => sget ((l.take b).drop a) (by rw [cut_length _ _ _ h0]; exact h1) (by rw [cut_length _ _ _ h0]; exact h2) (isBytes_cut hb a b) k (by rw [cut_length _ _ _ h0]; exact h3)
    have hv := (val_bound ((l.take 8).drop 6) 0 0 (isBytes_cut hb 6 8) (by omega) (by decide)).1
    obtain ⟨n, hc⟩ := Int.eq_ofNat_of_zero_le hv
    rw [if_pos h3, if_pos h3, if_pos (by decide), if_pos (by omega), s 6 8 (by omega) (by omega) (by omega) (k + 1) (by omega), Option.bind_some, e6, Option.bind_some, e8, Option.bind_some]
    simp only [spec_DecodeRevoke.j0]
    rw [show (6 + 2 : Nat) = 8 from rfl, show (8 + 4 : Nat) = 12 from rfl, hc]
    by_cases hm : 26 < (n : Int)
    · rw [if_pos hm, decide_eq_true (show (n : Int) > 26 from hm), if_pos rfl]
      exact ⟨_, rfl, rfl, by simp⟩
    · have hl0 := sDec_loop l hb hl (val 0 ((l.take 12).drop 8)) n (by omega) hc n k 0 (by omega) (by omega)
      have ez : ((0 : Nat) : Int) = 0 := rfl
      rw [ez, show bls l 0 = [] from rfl] at hl0
      rw [if_neg hm, decide_eq_false (show ¬ (n : Int) > 26 from hm), if_neg (show ¬ (false = true) by decide), if_pos (by decide), if_pos (show (12 : Int) ≤ (l.length : Int) by omega), s 8 12 (by omega) (by omega) (by omega) k (by omega), Option.bind_some, hl0, if_pos (show (0 : Int) ≤ (n : Int) by omega), Int.toNat_natCast, numsAt_f l hb hl (k + 1) (by omega) n 0 (by omega), Option.bind_some]
      show ∃ r, _ ∧ ((impl_EncodeRevoke.f (k + 1) _ (bls l n)).bind _ = _) ∧ _
      rw [iEncR _ (bls l n) (by rw [bls_length]; omega) (k + 1) (by rw [bls_length]; omega), Option.bind_some]
      unfold bytes_Equal.f
      rw [Option.bind_some]
      generalize ((strOfNums (revokeOf (val 0 ((l.take 12).drop 8)) (bls l n))).toList == (strOfNums l).toList) = q
      cases q
      · exact ⟨(false, 0, []), rfl, rfl, by simp⟩
      · exact ⟨(true, _, bls l n), rfl, rfl, by rw [bls_length]; omega⟩
  · rw [if_neg h3, if_neg h3]
    simp only [spec_DecodeRevoke.j0]
    exact ⟨_, rfl, rfl, by simp⟩
end Go.Proofs.YticeddapnafomaaDoor.Pure
