/- What is quoted comes back; what is unquoted is quoted as it stood. -/
import Derived.Test.YtdfoedjfnoiboaaPAx7
import Derived.Test.YtdfoedjfnoiboaaPureDrawV
import Derived.Test.YtdfoedjfnoiboaaPureFnExactUnquote
namespace Go.Proofs.Ytdfoedjfnoiboaa.Pure
open Go.RowKit Go.Proofs.Ytdfoedjfnoiboaa Go.Proofs.Ytdfoedjfnoiboaa.PA Go.Proofs.YtdfoedjfnoiboaaW.PrintWords Go.Proofs.YtdfoedjfnoiboaaW.PrintLast
/-- What Unquote makes of a text. -/
def unqF (T : ByteArray) : Bool × ByteArray := if T.toList = ([37] : List UInt8) then (true, ⟨#[]⟩) else finS (sP T.data.toList)
theorem unq_f (T : ByteArray) (hT : T.size ≤ 1048576) (k : Nat) (hk : 2 * T.size + 20 ≤ k) : impl_Unquote.f k T = some (unqF T) := by
  unfold impl_Unquote.f unqF
  by_cases hp : T.toList = ([37] : List UInt8)
  · rw [if_pos hp, if_pos hp]
  · rw [if_neg hp, if_neg hp]
    have h2 := impl_loop T hT T.size k 0 [] (by omega) (by omega) (by simp) (by omega)
    have e0 : ints [] = ([] : List Int) := rfl
    have ez : ((0 : Nat) : Int) = 0 := rfl
    have ei : ∀ o : Option (List UInt8), o.map (([] : List UInt8) ++ ·) = o := fun o => by cases o <;> simp
    rw [e0, ez, List.drop_zero, ei] at h2
    rw [h2, fin_same]
theorem hexD_in : ∀ n : Fin 16, 33 ≤ (hexD n.val).toNat ∧ (hexD n.val).toNat ≤ 126 := by decide +kernel
theorem qB_in (c x : UInt8) (h : x ∈ qB c) : 33 ≤ x.toNat ∧ x.toNat ≤ 126 := by
  unfold qB at h
  split at h
  · simp at h; subst h; omega
  · simp at h
    rcases h with rfl | rfl | rfl
    · decide
    · exact hexD_in ⟨_, by have := c.toNat_lt; omega⟩
    · exact hexD_in ⟨_, by omega⟩
theorem quoteF_in (a : ByteArray) (x : UInt8) (h : x ∈ (quoteF a).data.toList) : 33 ≤ x.toNat ∧ x.toNat ≤ 126 := by
  unfold quoteF at h
  split at h
  · simp at h
  · split at h
    · simp at h; subst h; decide
    · simp only at h
      unfold quoteL at h
      obtain ⟨c, _, hc⟩ := List.mem_flatMap.1 h
      exact qB_in c x hc
theorem toList_eq (a : ByteArray) : a.toList = a.data.toList := Lib.toList_data a
/-- The end of the law: what came back is what was quoted; what is read as good is quoted as it stood. -/
theorem back (a : ByteArray) (h : a.size ≤ 65536) : (unqF (quoteF a)).1 = true ∧ (unqF (quoteF a)).2.toList = a.toList ∧ 0 < (quoteF a).size := by
  by_cases h0 : a.size = 0
  · have e : quoteF a = ⟨#[37]⟩ := by unfold quoteF; rw [if_neg (by omega), if_pos h0]
    have ea : a = ⟨#[]⟩ := by
      have : a.data = #[] := by apply Array.eq_empty_of_size_eq_zero; exact h0
      cases a; simp at this; subst this; rfl
    rw [e, ea]
    unfold unqF
    rw [if_pos (by rw [toList_eq])]
    exact ⟨rfl, rfl, by decide⟩
  · have e : quoteF a = ⟨(quoteL a.data.toList).toArray⟩ := by unfold quoteF; rw [if_neg (by omega), if_neg h0]
    have hs := sP_quote a.data.toList
    have hd : a.data.toList.length = a.size := data_length a
    rw [e]
    unfold unqF
    rw [toList_eq]
    simp only
    have hne : ¬ quoteL a.data.toList = [37] := fun hh => by
      rw [hh, sP_short 37 [] (by decide) (by decide)] at hs
      cases hs
    rw [if_neg hne, hs]
    unfold finS
    simp only
    rw [if_neg (by omega), if_neg (by omega)]
    refine ⟨rfl, by rw [toList_eq], ?_⟩
    have : quoteL a.data.toList ≠ [] := fun hh => by
      rw [hh] at hs
      simp [sP] at hs
      have : a.data.size = 0 := by rw [hs]; rfl
      have : a.size = 0 := this
      omega
    show 0 < (quoteL a.data.toList).toArray.size
    simp
    exact List.length_pos_iff.2 this
theorem forth (T : ByteArray) (h : (unqF T).1 = true) : (unqF T).2.size ≤ 65536 ∧ (quoteF (unqF T).2).toList = T.toList := by
  unfold unqF at h ⊢
  by_cases hp : T.toList = ([37] : List UInt8)
  · rw [if_pos hp]
    exact ⟨by show (0 : Nat) ≤ _; omega, by rw [hp, toList_eq]; rfl⟩
  · rw [if_neg hp] at h ⊢
    cases hs : sP T.data.toList with
    | none => rw [hs] at h; simp [finS] at h
    | some m =>
      rw [hs] at h
      obtain ⟨_, hq⟩ := sP_iP _ m hs
      unfold finS at h ⊢
      simp only at h ⊢
      by_cases h0 : m.length = 0
      · rw [if_pos h0] at h; cases h
      · rw [if_neg h0] at h ⊢
        by_cases h1 : m.length > 65536
        · rw [if_pos h1] at h; cases h
        · rw [if_neg h1]
          have hsz : (⟨m.toArray⟩ : ByteArray).size = m.length := by show m.toArray.size = _; simp
          refine ⟨by simp only; omega, ?_⟩
          simp only
          unfold quoteF
          rw [if_neg (by omega), if_neg (by omega), toList_eq, toList_eq]
          simp only
          exact hq
theorem quote_f (a : ByteArray) (h : a.size ≤ 1048576) : impl_Quote.f a = some (quoteF a) := by unfold impl_Quote.f; rw [if_pos (by omega)]
theorem q_loop (s : List Int) (a : ByteArray) (h : a.size ≤ 65536) (T : ByteArray) (hT : T.size ≤ 1048576) (hU : spec_DrawUnquote.f s = some T) (b1 : Bool) (b2 : ByteArray) (hb1 : b1 = true) (hb2 : b2.toList = a.toList) (hq0 : 0 < (quoteF a).size) (d : Nat) : ∀ (k i : Nat), (quoteF a).size - i ≤ d → d + 2 * T.size + 20 < k → i ≤ (quoteF a).size →
    laws_FnQuote.l0 k s a (quoteF a) (i : Int) b1 b2 = some true := by
  have hqs := PureD.quoteF_size a h
  have stop : ∀ (k i : Nat), ¬ i < (quoteF a).size → 2 * T.size + 20 < k → laws_FnQuote.l0 k s a (quoteF a) (i : Int) b1 b2 = some true := by
    intro k i hi hk
    obtain ⟨k, rfl⟩ : ∃ m, k = m + 1 := ⟨k - 1, by omega⟩
    simp only [laws_FnQuote.l0]
    rw [if_neg (by omega), hU, Option.bind_some, unq_f T hT k (by omega), Option.bind_some, if_pos hb1, if_pos hb2, if_pos (by omega)]
    by_cases hg : (unqF T).1 = true
    · obtain ⟨g1, g2⟩ := forth T hg
      rw [if_pos hg, quote_f _ (by omega), Option.bind_some, g2]
      simp
    · rw [if_neg hg]
  induction d with
  | zero => intro k i hd hk hi; exact stop k i (by omega) (by omega)
  | succ d ih =>
    intro k i hd hk hi
    by_cases hlt : i < (quoteF a).size
    · obtain ⟨k, rfl⟩ : ∃ m, k = m + 1 := ⟨k - 1, by omega⟩
      have hih := ih k (i + 1) (by omega) (by omega) (by omega)
      have hb := bt_get (quoteF a) i hlt
      have hin := quoteF_in a _ (List.getElem_mem (show i < (quoteF a).data.toList.length by rw [data_length]; exact hlt))
      have e1 : wrap64 ((i : Int) + 1) = ((i + 1 : Nat) : Int) := by rw [w64 (by omega) (by omega)]; omega
      have c1 : ¬ bt (quoteF a) (i : Int) < 33 := by rw [hb]; clear e1; omega
      have c2 : ¬ bt (quoteF a) (i : Int) > 126 := by rw [hb]; clear e1; omega
      have c3 : (i : Int) < ((quoteF a).size : Int) := by clear e1; omega
      have c4 : (0 : Int) ≤ (i : Int) := by clear e1; omega
      simp only [laws_FnQuote.l0]
      rw [if_pos c3, if_pos c4, if_neg c1, if_neg c2, e1]
      exact hih
    · exact stop k i hlt (by omega)
theorem FnQuote : laws_FnQuote.Pure := by
  intro s _ hl0 hw
  by_cases hbig : (s.length : Int) > 1048576
  · exact ⟨0, by unfold laws_FnQuote.f; rw [if_pos hbig]⟩
  · have hby := PureD.Byt.of_wf hw
    obtain ⟨a, ha, has⟩ := PureD.drawQuote_f s hby (by omega) 1000000 (by omega)
    obtain ⟨T, hT, hTs⟩ := PureD.drawUnq_tot s hby (by omega) 1000000 (by omega)
    refine ⟨1000000, ?_⟩
    have hU : spec_DrawUnquote.f s = some T := hT
    unfold laws_FnQuote.f
    rw [if_neg hbig, ha, Option.bind_some, quote_f a (by omega), Option.bind_some]
    by_cases hm : (a.size : Int) > 65536
    · have e : quoteF a = ⟨#[]⟩ := by unfold quoteF; rw [if_pos (by omega)]
      rw [e, unq_f ⟨#[]⟩ (by show (0 : Nat) ≤ _; omega) 1000000 (by show 2 * 0 + 20 ≤ _; omega), Option.bind_some, if_pos hm, if_pos (by rw [toList_eq])]
      have : (unqF ⟨#[]⟩).1 = false := by
        unfold unqF
        rw [toList_eq, if_neg (by decide)]
        simp [sP, finS]
      rw [this]
      rfl
    · have hqs := PureD.quoteF_size a (by omega)
      obtain ⟨b1, b2, b3⟩ := back a (by omega)
      rw [unq_f (quoteF a) (by omega) 1000000 (by omega), Option.bind_some, if_neg hm]
      exact q_loop s a (by omega) T (by omega) hU _ _ b1 b2 b3 (quoteF a).size 1000000 0 (by omega) (by omega) (by omega)
end Go.Proofs.Ytdfoedjfnoiboaa.Pure
