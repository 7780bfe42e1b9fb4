/- The program's BitRuns returns what the reference's returns, for every row of bytes and all bounds that the reading lets in. -/
import Derived.Test.YtkjcffhmjfdnmaaPureRunsA
import Derived.OpenShut
namespace Go.Proofs.Ytkjcffhmjfdnmaa.Pure
open Go.RowKit Go.Proofs.Ytkjcffhmjfdnmaa Go.Proofs.Ytkjcffhmjfdnmaa.PB Go.Proofs.YtkjcffhmjfdnmaaW.PrintWords Go.Proofs.YtkjcffhmjfdnmaaW.PrintLast Go.Proofs.YtkjcffhmjfdnmaaW.PrintMore

/-! ### spec.BitRuns -/
theorem runsN_done (b : Nat → Bool) (hi f i : Nat) (h : hi ≤ i) : runsN b hi f i = [] := by
  cases f with
  | zero => rfl
  | succ f => rw [runsN, if_pos h]
theorem freeLen_zero (b : Nat → Bool) (i : Nat) : freeLen b 0 i = 0 := rfl
theorem runsN_fuel (b : Nat → Bool) (hi f : Nat) : ∀ (g i : Nat), hi ≤ i + f → hi ≤ i + g → runsN b hi f i = runsN b hi g i := by
  induction f with
  | zero => intro g i h1 h2; rw [runsN_done b hi 0 i (by omega), runsN_done b hi g i (by omega)]
  | succ f ih =>
    intro g i h1 h2
    by_cases hd : hi ≤ i
    · rw [runsN_done b hi _ i hd, runsN_done b hi g i hd]
    · obtain ⟨g, rfl⟩ : ∃ m, g = m + 1 := ⟨g - 1, by omega⟩
      rw [runsN, runsN, if_neg hd, if_neg hd, ih g (i + 1) (by omega) (by omega), ih g (i + freeLen b (hi - i) i + 1) (by omega) (by omega)]
set_option maxHeartbeats 400000 in
/-- What the reference's loop comes to, from a list on whose last run ends at i ('open'), or not. -/
theorem specRuns_loop (l : List Int) (hl : bytesOk l = true) (hi : Nat) (hh : hi ≤ bitsLen l) (hb : bitsLen l ≤ 16384) (d : Nat) : ∀ (k i : Nat), hi - i ≤ d → i ≤ 20000 → d + 15 ≤ k →
    (∀ out : List S35, out.length ≤ i → out.length ≤ 16384 → (∀ x, out.getLast? = some x → 0 ≤ x.f0 ∧ 0 ≤ x.f1 ∧ x.f0 + x.f1 < i) →
      spec_BitRuns.l0 k l (hi : Int) out (i : Int) = some (out ++ (runsN (bitN l) hi hi i).map mkRun)) ∧
    (∀ (out : List S35) (a n : Nat), out.length < i → out.length ≤ 16384 → a + n = i →
      spec_BitRuns.l0 k l (hi : Int) (out ++ [⟨a, n⟩]) (i : Int) = some (out ++ ⟨(a : Int), ((n + freeLen (bitN l) (hi - i) i : Nat) : Int)⟩ :: (runsN (bitN l) hi hi (i + freeLen (bitN l) (hi - i) i + 1)).map mkRun)) := by
  induction d with
  | zero =>
    intro k i hd hi9 hk
    obtain ⟨k, rfl⟩ : ∃ m, k = m + 1 := ⟨k - 1, by omega⟩
    have e : hi - i = 0 := by omega
    refine ⟨fun out _ _ _ => ?_, fun out a n _ _ _ => ?_⟩
    · simp only [spec_BitRuns.l0]
      rw [if_neg (by omega), runsN_done _ _ _ _ (by omega)]
      simp
    · simp only [spec_BitRuns.l0]
      rw [if_neg (by omega), e, freeLen_zero, runsN_done _ _ _ _ (by omega)]
      simp
  | succ d ih =>
    intro k i hd hi9 hk
    obtain ⟨k, rfl⟩ : ∃ m, k = m + 1 := ⟨k - 1, by omega⟩
    by_cases hlt : i < hi
    · obtain ⟨e, he⟩ : ∃ e, hi - i = e + 1 := ⟨hi - i - 1, by omega⟩
      have he2 : hi - (i + 1) = e := by omega
      obtain ⟨h, rfl⟩ : ∃ h, hi = h + 1 := ⟨hi - 1, by omega⟩
      obtain ⟨ihc, iho⟩ := ih k (i + 1) (by omega) (by omega) (by omega)
      have hg := specGet_f l hl i (by omega) k (by omega)
      have e1 : wrap64 ((i : Int) + 1) = ((i + 1 : Nat) : Int) := by rw [w64 (by omega) (by omega)]; omega
      have hr : runsN (bitN l) (h + 1) (h + 1) i = if bitN l i then runsN (bitN l) (h + 1) (h + 1) (i + 1) else (i, freeLen (bitN l) (h + 1 - i) i) :: runsN (bitN l) (h + 1) (h + 1) (i + freeLen (bitN l) (h + 1 - i) i + 1) := by
        rw [runsN, if_neg (by omega), runsN_fuel _ _ h (h + 1) (i + 1) (by omega) (by omega), runsN_fuel _ _ h (h + 1) (i + freeLen (bitN l) (h + 1 - i) i + 1) (by omega) (by omega)]
      refine ⟨fun out ho ho2 hlast => ?_, fun out a n ho ho2 han => ?_⟩
      · simp only [spec_BitRuns.l0]
        rw [if_pos (by omega), hg]
        simp only [Option.bind_some]
        by_cases hbit : bitN l i = true
        · rw [if_pos hbit, e1, ihc out (by omega) ho2 (fun x hx => by have := hlast x hx; omega), hr, if_pos hbit]
        · have hbf : bitN l i = false := by simpa using hbit
          have hfr : freeLen (bitN l) (h + 1 - i) i = freeLen (bitN l) e (i + 1) + 1 := by rw [he, freeLen, hbf]; simp
          have hnew := iho out i 1 (by omega) ho2 rfl
          rw [show ((1 : Nat) : Int) = 1 from rfl] at hnew
          have hres : some (out ++ (⟨(i : Int), ((1 + freeLen (bitN l) (h + 1 - (i + 1)) (i + 1) : Nat) : Int)⟩ : S35) :: (runsN (bitN l) (h + 1) (h + 1) (i + 1 + freeLen (bitN l) (h + 1 - (i + 1)) (i + 1) + 1)).map mkRun) = some (out ++ (runsN (bitN l) (h + 1) (h + 1) i).map mkRun) := by
            rw [hr, if_neg hbit, List.map_cons, hfr, he2]
            unfold mkRun
            simp only
            have q1 : 1 + freeLen (bitN l) e (i + 1) = freeLen (bitN l) e (i + 1) + 1 := by omega
            have q2 : i + 1 + freeLen (bitN l) e (i + 1) + 1 = i + (freeLen (bitN l) e (i + 1) + 1) + 1 := by omega
            rw [q1, q2]
          have hone : spec_BitRuns.l0 k l ((h + 1 : Nat) : Int) (out ++ [(⟨(i : Int), 1⟩ : S35)]) (wrap64 ((i : Int) + 1)) = some (out ++ (runsN (bitN l) (h + 1) (h + 1) i).map mkRun) := by
            rw [e1, ← hres]; exact hnew
          rw [if_neg hbit]
          by_cases h0 : out.length = 0
          · rw [if_neg (by omega), if_pos (by omega)]; exact hone
          · obtain ⟨o', x, rfl⟩ : ∃ o' x, out = o' ++ [x] := ⟨out.dropLast, out.getLast (by intro hh; rw [hh] at h0; simp at h0), (List.dropLast_concat_getLast _).symm⟩
            have hx := hlast x (by simp)
            have el : wrap64 ((((o' ++ [x]).length : Nat) : Int) - 1) = (o'.length : Int) := by
              simp only [List.length_append, List.length_cons, List.length_nil] at ho2 ⊢
              rw [w64 (by omega) (by omega)]; omega
            rw [if_pos (by omega), el, rdT_mid, if_pos (by omega), if_pos (by simp; omega), if_neg (by rw [w64 (by omega) (by omega)]; omega), if_pos (by omega)]
            exact hone
      · simp only [spec_BitRuns.l0]
        rw [if_pos (by omega), hg]
        simp only [Option.bind_some]
        by_cases hbit : bitN l i = true
        · have hfr : freeLen (bitN l) (h + 1 - i) i = 0 := by rw [he, freeLen, hbit]; simp
          rw [if_pos hbit, e1, ihc (out ++ [(⟨(a : Int), (n : Int)⟩ : S35)]) (by simp; omega) (by simp; omega) (fun x hx => by simp at hx; subst hx; simp only; omega), hfr]
          simp
        · have hbf : bitN l i = false := by simpa using hbit
          have hfr : freeLen (bitN l) (h + 1 - i) i = freeLen (bitN l) e (i + 1) + 1 := by rw [he, freeLen, hbf]; simp
          have hio := iho out a (n + 1) (by omega) ho2 (by omega)
          have q1 : n + 1 + freeLen (bitN l) e (i + 1) = n + (freeLen (bitN l) e (i + 1) + 1) := by omega
          have q2 : i + 1 + freeLen (bitN l) e (i + 1) + 1 = i + (freeLen (bitN l) e (i + 1) + 1) + 1 := by omega
          have el : wrap64 ((((out ++ [(⟨(a : Int), (n : Int)⟩ : S35)]).length : Nat) : Int) - 1) = (out.length : Int) := by
            simp only [List.length_append, List.length_cons, List.length_nil]
            rw [w64 (by omega) (by omega)]; omega
          rw [if_neg hbit, if_pos (by simp), el, rdT_mid, if_pos (by omega), if_pos (by simp; omega), if_pos (by simp only; rw [w64 (by omega) (by omega)]; omega), Int.toNat_natCast, set_mid, e1]
          simp only
          have en : wrap64 ((n : Int) + 1) = ((n + 1 : Nat) : Int) := by rw [w64 (by omega) (by omega)]; omega
          rw [en]
          refine hio.trans ?_
          rw [hfr, he2]
          rw [q1, q2]
    · have e : hi - i = 0 := by omega
      refine ⟨fun out _ _ _ => ?_, fun out a n _ _ _ => ?_⟩
      · simp only [spec_BitRuns.l0]
        rw [if_neg (by omega), runsN_done _ _ _ _ (by omega)]
        simp
      · simp only [spec_BitRuns.l0]
        rw [if_neg (by omega), e, freeLen_zero, runsN_done _ _ _ _ (by omega)]
        simp
theorem bitsLen_le (l : List Int) : bitsLen l ≤ 16384 := by unfold bitsLen; split <;> omega
theorem hiN_le (l : List Int) (a : Int) : hiN l a ≤ bitsLen l := by unfold hiN; split <;> omega
theorem within_f (l : List Int) (hl : l.length ≤ 1048576) (a1 a2 : Int) : ∃ h : Int, spec_l8Within.f l a1 a2 = some (((loN a1 : Nat) : Int), h) ∧ (h ≤ 0 ∧ hiN l a2 = 0 ∨ h = (hiN l a2 : Nat)) := by
  have hlo : mx 0 a1 = ((loN a1 : Nat) : Int) := by unfold mx loN; split <;> split <;> omega
  have hhi : ∀ n : Nat, n = bitsLen l → (mn n a2 ≤ 0 ∧ hiN l a2 = 0 ∨ mn n a2 = ((hiN l a2 : Nat) : Int)) := by
    rintro n rfl
    unfold mn hiN
    split <;> split <;> omega
  unfold spec_l8Within.f
  by_cases h : l.length > 2048
  · rw [if_pos (by omega), hlo]
    exact ⟨_, rfl, hhi 0 (by unfold bitsLen; rw [if_pos h])⟩
  · rw [if_neg (by omega), hlo]
    have := hhi (8 * l.length) (by unfold bitsLen; rw [if_neg h]; omega)
    refine ⟨_, rfl, ?_⟩
    rw [w64 (by omega) (by omega)]
    have e : ((8 * l.length : Nat) : Int) = 8 * (l.length : Int) := by omega
    rw [e] at this
    exact this
def runsOf (l : List Int) (a1 a2 : Int) : List S35 := (runsN (bitN l) (hiN l a2) (hiN l a2) (loN a1)).map mkRun
theorem specRuns_f (l : List Int) (hl : bytesOk l = true) (hlen : l.length ≤ 1048576) (a1 a2 : Int) (k : Nat) (hk : 20000 ≤ k) : spec_BitRuns.f k l a1 a2 = some (runsOf l a1 a2) := by
  obtain ⟨h, h1, h2⟩ := within_f l hlen a1 a2
  have hb := bitsLen_le l
  have hh := hiN_le l a2
  unfold spec_BitRuns.f runsOf
  rw [h1]
  simp only [Option.bind_some]
  by_cases hlt : loN a1 < hiN l a2
  · have hx : h = (hiN l a2 : Nat) := by omega
    rw [hx]
    have := (specRuns_loop l hl (hiN l a2) hh hb 16384 k (loN a1) (by omega) (by omega) (by omega)).1 [] (by simp) (by simp) (fun x hx => by simp at hx)
    simpa using this
  · rw [runsN_done _ _ _ _ (by omega)]
    obtain ⟨k, rfl⟩ : ∃ m, k = m + 1 := ⟨k - 1, by omega⟩
    simp only [spec_BitRuns.l0]
    rw [if_neg (by omega)]
    rfl
theorem runsOf_len (l : List Int) (a1 a2 : Int) : (runsOf l a1 a2).length ≤ 16384 := by
  have := runsN_len (bitN l) (hiN l a2) (hiN l a2) (loN a1)
  have := bitsLen_le l
  have := hiN_le l a2
  unfold runsOf
  rw [List.length_map]
  omega
theorem bytes_of (l : List Int) (h : ∀ x ∈ l, (Lit.int .u8 x).wf = true) : bytesOk l = true := by
  unfold bytesOk
  rw [List.all_eq_true]
  intro x hx
  have := bounds_u8 (h x hx)
  simpa using this
theorem FnExactBitRuns : laws_FnExactBitRuns.Pure := by
  intro l a1 a2 _ hl hw w1 w2
  by_cases hbig : (l.length : Int) > 1048576
  · exact ⟨0, by unfold laws_FnExactBitRuns.f; rw [if_pos hbig]⟩
  · have hb := bytes_of l hw
    have hlen : l.length ≤ 1048576 := by omega
    have hR := runsOf_len l a1 a2
    have hi : impl_BitRuns.f l a1 a2 = some (runsOf l a1 a2) := by unfold impl_BitRuns.f runsOf; rw [if_pos hb]
    refine ⟨2000001, ?_⟩
    have hk : l.length < 2000001 := by omega
    obtain ⟨l', hm, hl'⟩ := markByteS_f l (by omega) 1 (by omega) (by omega) 2000001 hk
    have hmr := markRuns_loop (runsOf l a1 a2) 2000000 [] 1 (by simp; omega) (by omega) (by omega) (by simp)
    have hhr := heldRuns_loop (runsOf l a1 a2).length 2000000 [] 1 (by simp; omega) (by omega) (by omega) (by simp)
    simp only [List.nil_append, List.length_nil] at hmr hhr
    unfold laws_FnExactBitRuns.f
    rw [if_neg hbig, toByteS_f l (by omega) _ hk]
    simp only [Option.bind_some]
    rw [specRuns_f l hb hlen a1 a2 _ (by omega)]
    simp only [Option.bind_some]
    rw [hi]
    simp only [Option.bind_some]
    rw [eqRuns_f _ (by omega) _ (by omega)]
    simp only [Option.bind_some, if_true]
    rw [eqByteS_f l (by omega) _ hk]
    simp only [Option.bind_some, if_true]
    rw [hm]
    simp only [Option.bind_some]
    rw [if_neg (by omega)]
    simp only [Bool.not_true]
    simp only [laws_FnExactBitRuns.j0]
    rw [if_neg (by simp)]
    unfold laws_markFreeRunS.f laws_heldFreeRunS.f
    have e0 : ((0 : Nat) : Int) = 0 := rfl
    rw [e0] at hmr hhr
    rw [hmr]
    simp only [Option.bind_some]
    rw [hhr]
    simp only [Option.bind_some]
    rw [if_neg (by omega)]
    simp only [if_true]
    rw [toByteS_f l (by omega) _ (by omega)]
    simp only [Option.bind_some]
    rw [hi]
    simp only [Option.bind_some]
    rw [eqRuns_f _ (by omega) _ (by omega)]
    simp only [Option.bind_some, if_true]
    rw [if_neg (by omega)]
end Go.Proofs.Ytkjcffhmjfdnmaa.Pure
