/- Plain law: what the two readers of quoted text make of a list of bytes. No program in sight. -/
import Derived.Test.YtdfoedjfnoiboaaPlain
import Derived.Laws.BytesArg
namespace Go.Proofs.Ytdfoedjfnoiboaa
/-- A hexadecimal digit's value; -1: it is none. -/
def digit (c : UInt8) : Int := if 48 ≤ c.toNat ∧ c.toNat ≤ 57 then (c.toNat : Int) - 48 else if 97 ≤ c.toNat ∧ c.toNat ≤ 102 then (c.toNat : Int) - 87 else -1
def plainU (c : UInt8) : Prop := 33 ≤ c.toNat ∧ c.toNat ≤ 126 ∧ c.toNat ≠ 37
instance (c : UInt8) : Decidable (plainU c) := by unfold plainU; exact inferInstance
def pairU (a b : UInt8) : UInt8 := (digit a * 16 + digit b).toNat.toUInt8
/-- What the reference reads. -/
def sP : List UInt8 → Option (List UInt8)
  | [] => some []
  | c :: r =>
    if plainU c then (sP r).map (c :: ·)
    else if c.toNat ≠ 37 then none
    else match r with
      | a :: b :: r' => if digit a < 0 ∨ digit b < 0 ∨ plainU (pairU a b) then none else (sP r').map (pairU a b :: ·)
      | _ => none
/-- What the program reads before it quotes again. -/
def iP : List UInt8 → Option (List UInt8)
  | [] => some []
  | c :: r =>
    if c.toNat ≠ 37 then (iP r).map (c :: ·)
    else match r with
      | a :: b :: r' => if digit a < 0 ∨ digit b < 0 then none else (iP r').map (pairU a b :: ·)
      | _ => none
theorem sP_plain (c : UInt8) (r : List UInt8) (h : plainU c) : sP (c :: r) = (sP r).map (c :: ·) := by rw [sP.eq_def]; simp [h]
theorem sP_bad (c : UInt8) (r : List UInt8) (h : ¬ plainU c) (h2 : c.toNat ≠ 37) : sP (c :: r) = none := by rw [sP.eq_def]; simp [h, h2]
theorem sP_pair (c a b : UInt8) (r : List UInt8) (h : ¬ plainU c) (h2 : ¬ c.toNat ≠ 37) : sP (c :: a :: b :: r) = if digit a < 0 ∨ digit b < 0 ∨ plainU (pairU a b) then none else (sP r).map (pairU a b :: ·) := by
  rw [sP.eq_def]; simp only [h, h2, if_false]
theorem sP_short (c : UInt8) (r : List UInt8) (h : ¬ plainU c) (hr : r.length < 2) : sP (c :: r) = none := by
  match r, hr with
  | [], _ => rw [sP.eq_def]; simp [h]
  | [a], _ => rw [sP.eq_def]; simp [h]
theorem iP_plain (c : UInt8) (r : List UInt8) (h : c.toNat ≠ 37) : iP (c :: r) = (iP r).map (c :: ·) := by rw [iP.eq_def]; simp [h]
theorem iP_pair (c a b : UInt8) (r : List UInt8) (h2 : ¬ c.toNat ≠ 37) : iP (c :: a :: b :: r) = if digit a < 0 ∨ digit b < 0 then none else (iP r).map (pairU a b :: ·) := by
  rw [iP.eq_def]; simp only [h2, if_false]
theorem iP_short (c : UInt8) (r : List UInt8) (h : ¬ c.toNat ≠ 37) (hr : r.length < 2) : iP (c :: r) = none := by
  match r, hr with
  | [], _ => rw [iP.eq_def]; simp only [h, if_false]
  | [a], _ => rw [iP.eq_def]; simp only [h, if_false]
theorem u8_all {P : UInt8 → Prop} (h : ∀ n : Fin 256, P (UInt8.ofNat n.val)) (c : UInt8) : P c := by
  have := h ⟨c.toNat, c.toNat_lt⟩
  simpa using this
theorem hexD_digit : ∀ c : UInt8, 0 ≤ digit c → hexD (digit c).toNat = c := u8_all (by decide +kernel)
theorem digit_lt : ∀ c : UInt8, digit c < 16 := u8_all (by decide +kernel)
theorem digit_hexD : ∀ n : Fin 16, digit (hexD n.val) = n.val := by decide +kernel
theorem toU8_toNat (n : Nat) (h : n < 256) : n.toUInt8.toNat = n := by simp [Nat.toUInt8]; omega
theorem pair_toNat (a b : UInt8) (ha : 0 ≤ digit a) (hb : 0 ≤ digit b) : ((pairU a b).toNat : Int) = digit a * 16 + digit b := by
  have h1 := digit_lt a
  have h2 := digit_lt b
  unfold pairU
  rw [toU8_toNat _ (by omega)]
  omega
theorem qB_plain (c : UInt8) (h : plainU c) : qB c = [c] := by unfold plainU at h; unfold qB; rw [if_pos h]
theorem qB_not (c : UInt8) (h : ¬ plainU c) : qB c = [37, hexD (c.toNat / 16), hexD (c.toNat % 16)] := by unfold plainU at h; unfold qB; rw [if_neg h]
theorem u37 (c : UInt8) (h : c.toNat = 37) : c = 37 := by
  apply UInt8.toNat_inj.1; rw [h]; rfl
/-- What the reference has read, the program reads, and it is quoted so. -/
theorem sP_iP (T m : List UInt8) (h : sP T = some m) : iP T = some m ∧ quoteL m = T := by
  induction T using sP.induct generalizing m with
  | case1 => simp [sP] at h; subst h; simp [iP, quoteL]
  | case2 c r hp ih =>
    rw [sP_plain c r hp] at h
    obtain ⟨m', hm, rfl⟩ := Option.map_eq_some_iff.1 h
    obtain ⟨h1, h2⟩ := ih m' hm
    refine ⟨?_, ?_⟩
    · rw [iP_plain c r (by unfold plainU at hp; omega), h1]; rfl
    · unfold quoteL at h2 ⊢; rw [List.flatMap_cons, h2, qB_plain c hp]; rfl
  | case3 c r hp hc => rw [sP_bad c r hp hc] at h; cases h
  | case4 c hp hc a b r' hbad => rw [sP_pair c a b r' hp hc, if_pos hbad] at h; cases h
  | case5 c hp hc a b r' hgood ih =>
    rw [sP_pair c a b r' hp hc, if_neg hgood] at h
    obtain ⟨m', hm, rfl⟩ := Option.map_eq_some_iff.1 h
    obtain ⟨h1, h2⟩ := ih m' hm
    have ha : 0 ≤ digit a := by omega
    have hb : 0 ≤ digit b := by omega
    have hq : ¬ plainU (pairU a b) := fun hh => hgood (.inr (.inr hh))
    have hn := pair_toNat a b ha hb
    have hl := digit_lt b
    refine ⟨?_, ?_⟩
    · rw [iP_pair c a b r' hc, if_neg (by omega), h1]; rfl
    · unfold quoteL at h2 ⊢
      rw [List.flatMap_cons, h2, qB_not _ hq]
      have e1 : (pairU a b).toNat / 16 = (digit a).toNat := by omega
      have e2 : (pairU a b).toNat % 16 = (digit b).toNat := by omega
      rw [e1, e2, hexD_digit a ha, hexD_digit b hb, u37 c (by omega)]
      rfl
  | case6 c r hp hc hr =>
    have hl : r.length < 2 := by
      match r, hr with
      | [], _ => simp
      | [a], _ => simp
      | a :: b :: r', hr => exact absurd rfl (hr a b r')
    rw [sP_short c r hp hl] at h
    cases h
/-- What is quoted, the reference reads. -/
theorem sP_quote (m : List UInt8) : sP (quoteL m) = some m := by
  induction m with
  | nil => simp [quoteL, sP]
  | cons c m ih =>
    have e : quoteL (c :: m) = qB c ++ quoteL m := by simp [quoteL]
    rw [e]
    by_cases hp : plainU c
    · rw [qB_plain c hp, List.singleton_append, sP_plain c _ hp, ih]; rfl
    · rw [qB_not c hp]
      have h1 : c.toNat / 16 < 16 := by have := c.toNat_lt; omega
      have h2 : c.toNat % 16 < 16 := by omega
      have d1 := digit_hexD ⟨_, h1⟩
      have d2 := digit_hexD ⟨_, h2⟩
      simp only at d1 d2
      have hv : pairU (hexD (c.toNat / 16)) (hexD (c.toNat % 16)) = c := by
        apply UInt8.toNat_inj.1
        have := pair_toNat (hexD (c.toNat / 16)) (hexD (c.toNat % 16)) (by omega) (by omega)
        omega
      simp only [List.cons_append, List.nil_append]
      rw [sP_pair _ _ _ _ (by decide) (by decide)]
      have : ¬ (digit (hexD (c.toNat / 16)) < 0 ∨ digit (hexD (c.toNat % 16)) < 0 ∨ plainU (pairU (hexD (c.toNat / 16)) (hexD (c.toNat % 16)))) := by
        rw [hv]; rintro (h | h | h)
        · omega
        · omega
        · exact hp h
      rw [if_neg this, hv, ih]
      rfl
/-- The ends. -/
def finS (o : Option (List UInt8)) : Bool × ByteArray := match o with
  | none => (false, ⟨#[]⟩)
  | some m => if m.length = 0 then (false, ⟨#[]⟩) else if m.length > 65536 then (false, ⟨#[]⟩) else (true, ⟨m.toArray⟩)
def finI (T : List UInt8) (o : Option (List UInt8)) : Bool × ByteArray := match o with
  | none => (false, ⟨#[]⟩)
  | some m => if m.length = 0 then (false, ⟨#[]⟩) else if m.length > 65536 then (false, ⟨#[]⟩) else if quoteL m = T then (true, ⟨m.toArray⟩) else (false, ⟨#[]⟩)
theorem fin_same (T : List UInt8) : finI T (iP T) = finS (sP T) := by
  cases hs : sP T with
  | some m =>
    obtain ⟨h1, h2⟩ := sP_iP T m hs
    rw [h1]
    unfold finI finS
    simp only [h2, if_true]
  | none =>
    cases hi : iP T with
    | none => rfl
    | some m =>
      have hne : ¬ quoteL m = T := fun h => by
        have := sP_quote m
        rw [h, hs] at this
        cases this
      unfold finI finS
      simp only [hne, if_false]
      split <;> first | rfl | (split <;> rfl)
end Go.Proofs.Ytdfoedjfnoiboaa
