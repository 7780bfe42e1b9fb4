/- Every drawn row of bits answers as the law says. -/
import Derived.Test.YtkjcffhmjfdnmaaPureBitsC
namespace Go.Proofs.Ytkjcffhmjfdnmaa.Pure
open Go.RowKit Go.Proofs.Ytkjcffhmjfdnmaa Go.Proofs.Ytkjcffhmjfdnmaa.PB Go.Proofs.YtkjcffhmjfdnmaaW.PrintWords Go.Proofs.YtkjcffhmjfdnmaaW.PrintLast Go.Proofs.YtkjcffhmjfdnmaaW.PrintMore
set_option maxHeartbeats 400000
theorem run_loop (l : List Int) (hl : bytesOk l = true) (a1 a2 : Int) (R : List S35) (x7 x8 x9 x10 x12 : Int) (a n : Nat) (hb : a + n ≤ bitsLen l) (hf : ∀ j, a ≤ j → j < a + n → bitN l j = false) (m : Nat) : ∀ k, m ≤ n → 12 ≤ k →
    laws_FnBits.l1 (m + 1 + k) l a1 a2 R x7 x8 x9 x10 x12 ((a + n - m : Nat) : Int) (a : Int) (n : Int) = laws_FnBits.l0 k l a1 a2 R x7 x8 x9 (wrap64 (x10 + n)) (wrap64 ((a : Int) + (n : Int))) (wrap64 (x12 + 1)) := by
  have hbl := bitsLen_le l
  induction m with
  | zero =>
    intro k hm hk
    have e : 0 + 1 + k = k + 1 := by omega
    rw [e]
    simp only [laws_FnBits.l1]
    rw [if_neg (by rw [w64 (by omega) (by omega)]; omega)]
  | succ m ih =>
    intro k hm hk
    have hih := ih k (by omega) hk
    have e : m + 1 + 1 + k = (m + 1 + k) + 1 := by omega
    have hg := specGet_f l hl (a + n - (m + 1)) (by omega) (m + 1 + k) (by omega)
    have hi := bitGet_f l hl (a + n - (m + 1)) (by omega)
    rw [hf _ (by omega) (by omega)] at hg hi
    have hlt : ((a + n - (m + 1) : Nat) : Int) < wrap64 ((a : Int) + (n : Int)) := by rw [w64 (by omega) (by omega)]; omega
    have ew : wrap64 (((a + n - (m + 1) : Nat) : Int) + 1) = ((a + n - m : Nat) : Int) := by rw [w64 (by omega) (by omega)]; omega
    rw [e]
    simp only [laws_FnBits.l1]
    rw [if_pos hlt, hg, Option.bind_some, if_neg (by simp), hi, Option.bind_some, if_neg (by simp), ew]
    exact hih
theorem runs_loop (l : List Int) (hl : bytesOk l = true) (a1 a2 x7 x8 : Int) (hi : Nat) (hh : hi ≤ bitsLen l) (t : List (Nat × Nat)) : ∀ (A : List S35) (fst : Bool) (e fr k : Nat),
    good (bitN l) hi fst e t → (fst = true ↔ A.length = 0) → A.length + t.length ≤ 100000 → fr ≤ e → e ≤ hi →
    (∀ k' e', 20 ≤ k' → laws_FnBits.l0 (k' + k) l a1 a2 (A ++ t.map mkRun) x7 x8 (hi : Int) ((fr + sumR t : Nat) : Int) e' ((A.length + t.length : Nat) : Int) = some true) →
    laws_FnBits.l0 (3 * t.length + (hi - e) + 20 + k) l a1 a2 (A ++ t.map mkRun) x7 x8 (hi : Int) (fr : Int) (e : Int) (A.length : Int) = some true := by
  have hbl := bitsLen_le l
  induction t with
  | nil =>
    intro A fst e fr k hg hf hA hfr he hE
    have := hE (3 * 0 + (hi - e) + 20) e (by omega)
    simpa [sumR] using this
  | cons x t ih =>
    obtain ⟨a, n⟩ := x
    intro A fst e fr k hg hf hA hfr he hE
    simp only [good] at hg
    obtain ⟨g1, g2, g3, g4, g5, g6⟩ := hg
    simp only [List.length_cons] at hA hE
    have hE2 : ∀ k' e', 20 ≤ k' → laws_FnBits.l0 (k' + k) l a1 a2 ((A ++ [mkRun (a, n)]) ++ t.map mkRun) x7 x8 (hi : Int) ((fr + n + sumR t : Nat) : Int) e' (((A ++ [mkRun (a, n)]).length + t.length : Nat) : Int) = some true := by
      intro k' e' hk'
      have := hE k' e' hk'
      have es : fr + n + sumR t = fr + sumR ((a, n) :: t) := by simp [sumR]; omega
      have el : (A ++ [mkRun (a, n)]).length + t.length = A.length + (t.length + 1) := by simp; omega
      have ea : (A ++ [mkRun (a, n)]) ++ t.map mkRun = A ++ ((a, n) :: t).map mkRun := by simp
      rw [es, el, ea]
      exact this
    have hih := ih (A ++ [mkRun (a, n)]) false (a + n) (fr + n) (k + (a - e)) g6 (by simp) (by simp; omega) (by omega) (by omega) (fun k' e' hk' => by
      have := hE2 (k' + (a - e)) e' (by omega)
      have ek : k' + (k + (a - e)) = k' + (a - e) + k := by omega
      rw [ek]; exact this)
    have hrun := run_loop l hl a1 a2 (A ++ ((a, n) :: t).map mkRun) x7 x8 (hi : Int) (fr : Int) (A.length : Int) a n (by omega) g5 n (3 * t.length + (hi - (a + n)) + 20 + (k + (a - e))) (by omega) (by omega)
    have ef : 3 * (t.length + 1) + (hi - e) + 20 + k = (n + 1 + (3 * t.length + (hi - (a + n)) + 20 + (k + (a - e)))) + 1 + 1 := by omega
    have ea : a + n - n = a := by omega
    have eA : (A ++ [mkRun (a, n)]) ++ t.map mkRun = A ++ ((a, n) :: t).map mkRun := by simp
    have hrd : rd_T35 (A ++ ((a, n) :: t).map mkRun) (A.length : Int) = ⟨(a : Int), (n : Int)⟩ := by rw [List.map_cons, rdT_mid]; rfl
    have hlt : (A.length : Int) < ((A ++ ((a, n) :: t).map mkRun).length : Int) := by simp; omega
    have hA0 : (0 : Int) ≤ (A.length : Int) := Int.natCast_nonneg _
    have n1 : ¬ (n : Int) < 1 := by omega
    have n2 : ¬ (a : Int) < (e : Int) := by omega
    have n3 : ¬ ((a + n : Nat) : Int) > (hi : Int) := by omega
    have n4 : (A.length : Int) > 0 → ((a : Int) == (e : Int)) = false := by
      intro h
      have := g3 (by cases fst with | false => rfl | true => have := hf.1 rfl; omega)
      simp; omega
    have w3 : wrap64 ((A.length : Int) + 1) = (((A ++ [mkRun (a, n)]).length : Nat) : Int) := by rw [w64 (by omega) (by omega)]; simp
    have w1 : wrap64 ((fr : Int) + (n : Int)) = ((fr + n : Nat) : Int) := by rw [w64 (by clear w3; omega) (by clear w3; omega)]; clear w3; omega
    have w2 : wrap64 ((a : Int) + (n : Int)) = ((a + n : Nat) : Int) := by rw [w64 (by clear w3 w1; omega) (by clear w3 w1; omega)]; clear w3 w1; omega
    rw [ea, w1, w2, w3, ← eA, hih, eA] at hrun
    simp only [List.length_cons]
    rw [ef]
    clear ih hE hE2 hih ef ea eA w1 w3
    simp only [laws_FnBits.l0]
    rw [if_pos hlt, if_pos hA0, hrd]
    simp only
    rw [if_neg n1, if_neg n2, w2, if_neg n3]
    by_cases h0 : (A.length : Int) > 0
    · rw [if_pos h0, n4 h0]
      simp only [laws_FnBits.j1]
      rw [if_neg (by simp)]
      exact hrun
    · rw [if_neg h0]
      simp only [laws_FnBits.j1]
      rw [if_neg (by simp)]
      exact hrun
/-- The end: a free position put on and off again. -/
theorem tail_f (l : List Int) (hl : bytesOk l = true) (hlen : l.length ≤ 2048) (p : Nat) (hp : p < bitsLen l) (hb : bitN l p = false) (k : Nat) (hk : 20000 ≤ k) : laws_FnBits.j3 k l (p : Int) false = some true := by
  have hbl : bitsLen l = l.length * 8 := by unfold bitsLen; rw [if_neg (by omega)]
  have hlo := putOn_len l p
  have hok := putOn_ok l hl p
  have hbo : bitsLen (putOn l p) = bitsLen l := by unfold bitsLen; rw [hlo]
  have h1 := put_f l p hp true (k - 1) (by omega)
  have h2 := put_f (putOn l p) p (by omega) false (k - 1) (by omega)
  rw [if_pos rfl] at h1
  rw [if_neg (by simp), putOff l hl p (by omega) hb] at h2
  have h3 := bitGet_f (putOn l p) hok p (by omega)
  rw [putOn_bit l hl p (by omega) p, if_pos rfl] at h3
  have hi1 : hiN (putOn l p) ((bitsLen l : Nat) : Int) = bitsLen l := by unfold hiN; rw [hbo]; split <;> omega
  have hi2 : hiN l ((bitsLen l : Nat) : Int) = bitsLen l := by unfold hiN; split <;> omega
  have hc := count_loop (putOn l p) hok ((bitsLen l : Nat) : Int) 16384 (k - 1) 0 0 (by omega) (by omega) (by omega)
  rw [hi1] at hc
  have hs := specCount_loop l hl (bitsLen l) (by omega) 16384 (k - 1) 0 0 (by omega) (by omega) (by omega) (by omega)
  have hput := cnt_put (bitN l) (bitN (putOn l p)) p hb (by rw [putOn_bit l hl p (by omega), if_pos rfl]) (fun j hj => by rw [putOn_bit l hl p (by omega), if_neg hj]) (bitsLen l) 0 (by omega) (by omega)
  have hcl := cntB_le (bitN l) (bitsLen l) 0
  simp only [Nat.sub_zero, Nat.zero_add] at hc hs
  rw [hput] at hc
  have hx0 : (l.length : Int) ≤ 2048 := by omega
  have hx1 : ¬ (l.length : Int) > 2048 := by omega
  have hx2 : ((cntB (bitN l) (bitsLen l) 0 : Nat) : Int) + 1 = ((cntB (bitN l) (bitsLen l) 0 + 1 : Nat) : Int) := by omega
  have g1 : ¬ (p : Int) < 0 := by omega
  have g2 : ([] : List Int).length + l.length < 140737488355328 := by simp; omega
  have g3 : ([] : List Int).length + (putOn l p).length < 140737488355328 := by rw [hlo]; exact g2
  have gl : ((putOn l p).length : Int) = (l.length : Int) := by rw [hlo]
  obtain ⟨k, rfl⟩ : ∃ m, k = m + 1 := ⟨k - 1, by omega⟩
  have hw : wrap64 (((cntB (bitN l) (bitsLen l) 0 : Nat) : Int) + 1) = ((cntB (bitN l) (bitsLen l) 0 + 1 : Nat) : Int) := by rw [w64 (by omega) (by omega)]; exact hx2
  have e8 : wrap64 (8 * (l.length : Int)) = ((bitsLen l : Nat) : Int) := by clear hw; rw [w64 (by omega) (by omega)]; omega
  have wl : spec_l8Within.f l 0 ((bitsLen l : Nat) : Int) = some (0, ((bitsLen l : Nat) : Int)) := by
    unfold spec_l8Within.f
    rw [if_neg hx1, e8]
    have m1 : mx 0 0 = 0 := by decide
    have m2 : mn ((bitsLen l : Nat) : Int) ((bitsLen l : Nat) : Int) = ((bitsLen l : Nat) : Int) := by unfold mn; split <;> rfl
    rw [m1, m2]
  simp only [Nat.add_sub_cancel] at h1 h2 hc hs
  have m0 : mx 0 0 = 0 := by decide
  have hcf : impl_BitCount.f k (putOn l p) 0 ((bitsLen l : Nat) : Int) = some ((cntB (bitN l) (bitsLen l) 0 + 1 : Nat) : Int) := by
    unfold impl_BitCount.f; rw [m0]; exact hc
  have hsf : spec_BitCount.f k l 0 ((bitsLen l : Nat) : Int) = some ((cntB (bitN l) (bitsLen l) 0 : Nat) : Int) := by
    unfold spec_BitCount.f; rw [wl, Option.bind_some]; exact hs
  clear hc hs hput
  simp only [laws_FnBits.j3]
  rw [if_neg (by simp), if_neg g1, Option.bind_some, if_pos g2, List.nil_append, h1, Option.bind_some, Option.bind_some]
  change (if ([] : List Int).length + (putOn l p).length < 140737488355328 then _ else _) = _
  rw [if_pos g3]
  change (impl_BitPut.f k ([] ++ putOn l p) p false).bind _ = _
  rw [List.nil_append, h2, Option.bind_some]
  change (if ((putOn l p).length : Int) = (l.length : Int) then (impl_BitGet.f (putOn l p) p).bind _ else _) = _
  rw [if_pos gl, h3, Option.bind_some, if_pos rfl]
  unfold laws_lwSameBytes.f
  rw [Option.bind_some, if_pos (by simp), e8]
  change (impl_BitCount.f k (putOn l p) 0 _).bind _ = _
  rw [hcf, Option.bind_some, hsf, Option.bind_some, hw]
  simp
theorem firstR_run (l : List Int) (lo hi : Nat) : (runsN (bitN l) hi hi lo = [] ∧ firstR (runsN (bitN l) hi hi lo) = -1) ∨ ∃ p n t, runsN (bitN l) hi hi lo = (p, n) :: t ∧ firstR (runsN (bitN l) hi hi lo) = (p : Int) ∧ bitN l p = false ∧ p < hi := by
  have hg := good_runs (bitN l) hi hi true lo lo (by omega) (by simp)
  cases h : runsN (bitN l) hi hi lo with
  | nil => exact Or.inl ⟨rfl, rfl⟩
  | cons x t =>
    obtain ⟨p, n⟩ := x
    rw [h] at hg
    simp only [good] at hg
    obtain ⟨g1, g2, g3, g4, g5, g6⟩ := hg
    exact Or.inr ⟨p, n, t, rfl, rfl, g5 p (by omega) (by omega), by omega⟩
theorem end_f (l : List Int) (hl : bytesOk l = true) (hlen : l.length ≤ 2048) (a1 a2 x8 x9 e' : Int) (fr : Nat) (h : ((cntB (bitN l) (hiN l a2 - loN a1) (loN a1) + fr : Nat) : Int) = x9 - x8) (k : Nat) (hk : 20000 ≤ k) :
    laws_FnBits.l0 (k + 1) l a1 a2 (runsOf l a1 a2) (firstR (runsN (bitN l) (hiN l a2) (hiN l a2) (loN a1))) x8 x9 (fr : Int) e' ((runsOf l a1 a2).length : Int) = some true := by
  have hbl := bitsLen_le l
  have hhl := hiN_le l a2
  have g2 : ([] : List Int).length + l.length < 140737488355328 := by simp; omega
  have hc := count_loop l hl a2 16384 k (loN a1) 0 (by omega) (by omega) (by omega)
  have hcf : impl_BitCount.f k l a1 a2 = some ((cntB (bitN l) (hiN l a2 - loN a1) (loN a1) : Nat) : Int) := by
    unfold impl_BitCount.f; rw [mx_lo]; simpa using hc
  have hsum : ((cntB (bitN l) (hiN l a2 - loN a1) (loN a1) : Nat) : Int) + (fr : Int) = x9 - x8 := by omega
  have hn : ¬ ((runsOf l a1 a2).length : Int) < ((runsOf l a1 a2).length : Int) := by omega
  simp only [laws_FnBits.l0]
  rw [if_neg hn, Option.bind_some, if_pos g2, List.nil_append, hcf, Option.bind_some, hsum, if_pos rfl]
  rcases firstR_run l (loN a1) (hiN l a2) with ⟨h1, h2⟩ | ⟨p, n, t, h1, h2, h3, h4⟩
  · have hR : runsOf l a1 a2 = [] := by unfold runsOf; rw [h1]; rfl
    rw [h2, hR]
    obtain ⟨k, rfl⟩ : ∃ m, k = m + 1 := ⟨k - 1, by omega⟩
    simp [laws_FnBits.j3]
  · have hR : runsOf l a1 a2 = ⟨(p : Int), (n : Int)⟩ :: t.map mkRun := by unfold runsOf; rw [h1]; rfl
    have ht := tail_f l hl hlen p (by omega) h3 k hk
    have hne : ((p : Int) == -1) = false := by simp
    have hl0 : (((((⟨(p : Int), (n : Int)⟩ : S35) :: t.map mkRun).length : Nat) : Int) == 0) = false := by first | (simp; done) | (simp; omega)
    have hl1 : (((((⟨(p : Int), (n : Int)⟩ : S35) :: t.map mkRun).length : Nat) : Int)) > 0 := by simp only [List.length_cons]; omega
    rw [h2, hR, hl0, hne, if_neg (by simp), if_pos hl1, if_pos hl1]
    have hr : rd_T35 ((⟨(p : Int), (n : Int)⟩ : S35) :: t.map mkRun) 0 = ⟨(p : Int), (n : Int)⟩ := rfl
    rw [hr]
    simp only [bne_self_eq_false]
    exact ht
theorem FnBits : laws_FnBits.Pure := by
  intro s _ hl0 hw
  by_cases hbig : (s.length : Int) > 1048576
  · exact ⟨0, by unfold laws_FnBits.f; rw [if_pos hbig]⟩
  · obtain ⟨l, a1, a2, hd, hlen, hby⟩ := drawRuns_f s (Byt.of_wf hw) (by omega) 200000 (by omega)
    have hb : bytesOk l = true := by
      unfold bytesOk; rw [List.all_eq_true]; intro x hx; simpa using hby x hx
    have hR := runsOf_len l a1 a2
    have hi : impl_BitRuns.f l a1 a2 = some (runsOf l a1 a2) := by unfold impl_BitRuns.f runsOf; rw [if_pos hb]
    have hbl := bitsLen_le l
    have hhl := hiN_le l a2
    have g2 : ([] : List Int).length + l.length < 140737488355328 := by simp; omega
    have hf := first_loop l hb a2 16384 200000 (loN a1) (hiN l a2) (by omega) (by omega) (by omega)
    have hff : impl_BitFirst.f 200000 l a1 a2 = some (firstR (runsN (bitN l) (hiN l a2) (hiN l a2) (loN a1))) := by
      unfold impl_BitFirst.f; rw [mx_lo]; exact hf
    have hm0 : mx 0 a1 = ((loN a1 : Nat) : Int) := by unfold mx loN; split <;> split <;> omega
    refine ⟨200000, ?_⟩
    unfold laws_FnBits.f
    rw [if_neg hbig, hd, Option.bind_some, Option.bind_some]
    simp only [List.nil_append]
    rw [if_pos g2, hi, Option.bind_some, Option.bind_some, if_pos g2, List.nil_append, hff, Option.bind_some]
    by_cases hbigl : (l.length : Int) > 2048
    · have hz : hiN l a2 = 0 := by
        have : bitsLen l = 0 := by unfold bitsLen; rw [if_pos (by omega)]
        omega
      have hr : runsN (bitN l) (hiN l a2) (hiN l a2) (loN a1) = [] := runsN_done _ _ _ _ (by omega)
      have hR0 : runsOf l a1 a2 = [] := by unfold runsOf; rw [hr]; rfl
      have hc := count_loop l hb a2 16384 200000 (loN a1) 0 (by omega) (by omega) (by omega)
      have ez : hiN l a2 - loN a1 = 0 := by omega
      have hcf : impl_BitCount.f 200000 l a1 a2 = some 0 := by
        unfold impl_BitCount.f; rw [mx_lo]; rw [ez] at hc; exact hc
      rw [if_pos hbigl, hR0, hr, hcf]
      rfl
    · have hlen2 : l.length ≤ 2048 := by omega
      have hbe : bitsLen l = l.length * 8 := by unfold bitsLen; rw [if_neg (by omega)]
      have w8 : 8 * (l.length : Int) = ((bitsLen l : Nat) : Int) := by omega
      have w8' : wrap64 ((bitsLen l : Nat) : Int) = ((bitsLen l : Nat) : Int) := w64 (by omega) (by omega)
      rw [if_neg hbigl, w8, w8', hm0]
      by_cases hlt : loN a1 < hiN l a2
      · have x8 : mn ((loN a1 : Nat) : Int) ((bitsLen l : Nat) : Int) = ((loN a1 : Nat) : Int) := by
          clear w8' w8
          unfold mn; split <;> omega
        have x9 : mx ((loN a1 : Nat) : Int) (mn ((bitsLen l : Nat) : Int) a2) = ((hiN l a2 : Nat) : Int) := by
          clear w8' w8 x8
          have h3 : mn ((bitsLen l : Nat) : Int) a2 ≤ 0 ∧ hiN l a2 = 0 ∨ mn ((bitsLen l : Nat) : Int) a2 = ((hiN l a2 : Nat) : Int) := by
            unfold mn hiN; split <;> split <;> omega
          unfold mx; split <;> omega
        rw [x8, x9]
        clear w8 w8' x8 x9
        have hg := good_runs (bitN l) (hiN l a2) (hiN l a2) true (loN a1) (loN a1) (by omega) (by simp)
        have hs := sum_runs (bitN l) (hiN l a2) (hiN l a2) (loN a1) (by omega)
        have hrl := runsN_len (bitN l) (hiN l a2) (hiN l a2) (loN a1)
        have hrun := runs_loop l hb a1 a2 (firstR (runsN (bitN l) (hiN l a2) (hiN l a2) (loN a1))) ((loN a1 : Nat) : Int) (hiN l a2) hhl (runsN (bitN l) (hiN l a2) (hiN l a2) (loN a1)) [] true (loN a1) 0 (200000 - (3 * (runsN (bitN l) (hiN l a2) (hiN l a2) (loN a1)).length + (hiN l a2 - loN a1) + 20)) hg (by simp) (by simp; omega) (by omega) (by omega) (by
          intro k' e' hk'
          have := end_f l hb hlen2 a1 a2 ((loN a1 : Nat) : Int) ((hiN l a2 : Nat) : Int) e' (sumR (runsN (bitN l) (hiN l a2) (hiN l a2) (loN a1))) (by omega) (k' + (200000 - (3 * (runsN (bitN l) (hiN l a2) (hiN l a2) (loN a1)).length + (hiN l a2 - loN a1) + 20)) - 1) (by omega)
          have ek : k' + (200000 - (3 * (runsN (bitN l) (hiN l a2) (hiN l a2) (loN a1)).length + (hiN l a2 - loN a1) + 20)) - 1 + 1 = k' + (200000 - (3 * (runsN (bitN l) (hiN l a2) (hiN l a2) (loN a1)).length + (hiN l a2 - loN a1) + 20)) := by omega
          rw [ek] at this
          have er : (runsOf l a1 a2).length = (runsN (bitN l) (hiN l a2) (hiN l a2) (loN a1)).length := by unfold runsOf; simp
          rw [er] at this
          simpa [runsOf] using this)
        have ek : 3 * (runsN (bitN l) (hiN l a2) (hiN l a2) (loN a1)).length + (hiN l a2 - loN a1) + 20 + (200000 - (3 * (runsN (bitN l) (hiN l a2) (hiN l a2) (loN a1)).length + (hiN l a2 - loN a1) + 20)) = 200000 := by omega
        rw [ek] at hrun
        exact hrun
      · have hr : runsN (bitN l) (hiN l a2) (hiN l a2) (loN a1) = [] := runsN_done _ _ _ _ (by omega)
        have hR0 : runsOf l a1 a2 = [] := by unfold runsOf; rw [hr]; rfl
        have ez : hiN l a2 - loN a1 = 0 := by omega
        have x9 : mx (mn ((loN a1 : Nat) : Int) ((bitsLen l : Nat) : Int)) (mn ((bitsLen l : Nat) : Int) a2) = mn ((loN a1 : Nat) : Int) ((bitsLen l : Nat) : Int) := by
          clear w8' w8
          have h3 : mn ((bitsLen l : Nat) : Int) a2 ≤ 0 ∧ hiN l a2 = 0 ∨ mn ((bitsLen l : Nat) : Int) a2 = ((hiN l a2 : Nat) : Int) := by
            unfold mn hiN; split <;> split <;> omega
          have h4 : mn ((loN a1 : Nat) : Int) ((bitsLen l : Nat) : Int) ≥ 0 ∧ mn ((loN a1 : Nat) : Int) ((bitsLen l : Nat) : Int) ≥ ((hiN l a2 : Nat) : Int) := by
            unfold mn; split <;> omega
          generalize mn ((loN a1 : Nat) : Int) ((bitsLen l : Nat) : Int) = u at *
          unfold mx; split <;> omega
        rw [x9]
        clear x9 w8 w8'
        have := end_f l hb hlen2 a1 a2 (mn ((loN a1 : Nat) : Int) ((bitsLen l : Nat) : Int)) (mn ((loN a1 : Nat) : Int) ((bitsLen l : Nat) : Int)) (mn ((loN a1 : Nat) : Int) ((bitsLen l : Nat) : Int)) 0 (by rw [ez]; simp [cntB]) 199999 (by omega)
        rw [hR0] at this ⊢
        exact this
end Go.Proofs.Ytkjcffhmjfdnmaa.Pure
