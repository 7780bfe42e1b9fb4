/- The draws of FnBits are total. -/
import Derived.Test.YtkjcffhmjfdnmaaPureDraw
namespace Go.Proofs.Ytkjcffhmjfdnmaa.Pure
open Go.RowKit Go.Proofs.Ytkjcffhmjfdnmaa Go.Proofs.Ytkjcffhmjfdnmaa.PB Go.Proofs.YtkjcffhmjfdnmaaW.PrintWords Go.Proofs.YtkjcffhmjfdnmaaW.PrintLast Go.Proofs.YtkjcffhmjfdnmaaW.PrintMore
theorem drawBits_loop (s : List Int) (hs : Byt s) (hl : s.length ≤ 1048576) (n : Nat) (hn : n ≤ 100) (sz : Int) (d : Nat) : ∀ (k i : Nat) (out : List Int) (at0 : Int), n - i ≤ d → d < k → i ≤ n → out.length ≤ i → Byt out → 0 ≤ at0 → at0 ≤ 100 + 2 * i →
    ∃ r at1, spec_l8DrawBits.l0 k (n : Int) out (i : Int) s at0 sz = some (r, at1, sz) ∧ r.length ≤ 100 ∧ Byt r ∧ 0 ≤ at1 ∧ at1 ≤ 400 := by
  induction d with
  | zero =>
    intro k i out at0 hd hk hi ho hb h0 h1
    obtain ⟨k, rfl⟩ : ∃ m, k = m + 1 := ⟨k - 1, by omega⟩
    simp only [spec_l8DrawBits.l0]
    rw [if_neg (by omega)]
    exact ⟨out, at0, rfl, by omega, hb, h0, by omega⟩
  | succ d ih =>
    intro k i out at0 hd hk hi ho hb h0 h1
    obtain ⟨k, rfl⟩ : ∃ m, k = m + 1 := ⟨k - 1, by omega⟩
    simp only [spec_l8DrawBits.l0]
    by_cases hlt : i < n
    · obtain ⟨r, hr, hr0, hr1, _⟩ := next_f s hs hl at0 sz 256 h0 (by omega)
      obtain ⟨q, hq, hq0, hq1, _⟩ := next_f s hs hl (at0 + 1) sz 4 (by omega) (by omega)
      have h256 := hr1 (by omega)
      have step : ∀ x : Int, 0 ≤ x → x ≤ 255 → ∃ r at1, spec_l8DrawBits.l0 k (n : Int) (out ++ [x]) (wrap64 ((i : Int) + 1)) s (at0 + 1 + 1) sz = some (r, at1, sz) ∧ r.length ≤ 100 ∧ Byt r ∧ 0 ≤ at1 ∧ at1 ≤ 400 := by
        intro x hx0 hx1
        have hih := ih k (i + 1) (out ++ [x]) (at0 + 1 + 1) (by omega) (by omega) (by omega) (by simp; omega) (hb.snoc hx0 hx1) (by omega) (by omega)
        have e1 : wrap64 ((i : Int) + 1) = ((i + 1 : Nat) : Int) := by rw [w64 (by omega) (by omega)]; omega
        rw [e1]
        exact hih
      rw [if_pos (by omega), hr]
      simp only [Option.bind_some]
      rw [hq]
      simp only [Option.bind_some]
      by_cases c0 : q = 0
      · rw [if_pos c0, if_neg (by omega), if_pos (by omega)]
        exact step 255 (by omega) (by omega)
      · rw [if_neg c0]
        by_cases c1 : q = 1
        · rw [if_pos c1, if_pos (by omega)]
          exact step 0 (by omega) (by omega)
        · rw [if_neg c1, if_pos (by omega)]
          exact step _ (by omega) (by omega)
    · rw [if_neg (by omega)]
      exact ⟨out, at0, rfl, by omega, hb, h0, by omega⟩
theorem drawBits_f (s : List Int) (hs : Byt s) (hl : s.length ≤ 1048576) (sz : Int) (z0 : 0 ≤ sz) (z1 : sz ≤ 12) (k : Nat) (hk : 100 < k) :
    ∃ r at1, spec_l8DrawBits.f k s 0 sz = some (r, at1, sz) ∧ r.length ≤ 2049 ∧ Byt r ∧ 0 ≤ at1 ∧ at1 ≤ 400 := by
  have e5 : wrap64 (5 + sz) = 5 + sz := w64 (by omega) (by omega)
  obtain ⟨r, hr, hr0, hr1, _⟩ := next_f s hs hl 0 sz (5 + sz) (by omega) (by omega)
  have hr2 := hr1 (by omega)
  obtain ⟨c, hc⟩ := chance_f s hs hl 1 sz 30 (by omega) (by omega)
  unfold spec_l8DrawBits.f
  rw [e5, hr]
  simp only [Option.bind_some]
  rw [show (0 : Int) + 1 = 1 from rfl, hc]
  simp only [Option.bind_some]
  by_cases h : c = true
  · obtain ⟨q, hq, hq0, hq1, _⟩ := next_f s hs hl 2 sz 2 (by omega) (by omega)
    have hq2 := hq1 (by omega)
    rw [if_pos h, show (1 : Int) + 1 = 2 from rfl, hq]
    simp only [Option.bind_some]
    rw [w64 (x := 2048 + q) (by omega) (by omega), if_pos (by omega), if_pos (by omega)]
    refine ⟨_, _, rfl, by simp; omega, ?_, by omega, by omega⟩
    intro x hx
    have := List.eq_of_mem_replicate hx
    omega
  · rw [if_neg h, show (1 : Int) + 1 = 2 from rfl]
    obtain ⟨x, hx⟩ := Int.eq_ofNat_of_zero_le hr0
    subst hx
    obtain ⟨r, at1, g1, g2, g3, g4, g5⟩ := drawBits_loop s hs hl x (by omega) sz x k 0 [] 2 (by omega) (by omega) (by omega) (by simp) (by intro x hx; simp at hx) (by omega) (by omega)
    exact ⟨r, at1, g1, by omega, g3, g4, g5⟩
theorem drawPlace_f (s : List Int) (hs : Byt s) (hl : s.length ≤ 1048576) (sz at0 : Int) (h0 : 0 ≤ at0) (h1 : at0 ≤ 10000) (l : List Int) :
    ∃ r at1, spec_l8DrawPlace.f s at0 sz l = some (r, at1, sz) ∧ 0 ≤ at1 ∧ at1 ≤ at0 + 2 := by
  obtain ⟨r, hr, hr0, hr1, _⟩ := next_f s hs hl at0 sz 20 (by omega) (by omega)
  unfold spec_l8DrawPlace.f
  rw [hr]
  simp only [Option.bind_some]
  by_cases c0 : r = 0
  · rw [if_pos c0]; exact ⟨_, _, rfl, by omega, by omega⟩
  · rw [if_neg c0]
    by_cases c1 : r = 1
    · rw [if_pos c1]; exact ⟨_, _, rfl, by omega, by omega⟩
    · rw [if_neg c1]
      obtain ⟨q, hq, _⟩ := next_f s hs hl (at0 + 1) sz (wrap64 ((wrap64 (8 * (l.length : Int))) + 3)) (by omega) (by omega)
      rw [hq]
      exact ⟨_, at0 + 1 + 1, rfl, by omega, by omega⟩
theorem drawRange_f (s : List Int) (hs : Byt s) (hl : s.length ≤ 1048576) (sz : Int) (z0 : 0 ≤ sz) (z1 : sz ≤ 12) (k : Nat) (hk : 100 < k) :
    ∃ r a b at1, spec_l8DrawRange.f k s 0 sz = some (r, a, b, at1, sz) ∧ r.length ≤ 2049 ∧ Byt r := by
  obtain ⟨r, t1, e1, hr, hb, p0, p1⟩ := drawBits_f s hs hl sz z0 z1 k hk
  obtain ⟨a, t2, e2, q0, q1⟩ := drawPlace_f s hs hl sz t1 p0 (by omega) r
  obtain ⟨b, t3, e3, w0, w1⟩ := drawPlace_f s hs hl sz t2 q0 (by omega) r
  obtain ⟨c, e4⟩ := chance_f s hs hl t3 sz 5 w0 (by omega)
  unfold spec_l8DrawRange.f
  rw [e1]
  simp only [Option.bind_some]
  rw [e2]
  simp only [Option.bind_some]
  rw [e3]
  simp only [Option.bind_some]
  by_cases h : a > b
  · rw [if_pos h, e4]
    simp only [Option.bind_some]
    by_cases hc : c = true
    · rw [if_pos hc]; exact ⟨_, _, _, _, rfl, hr, hb⟩
    · rw [if_neg hc]; exact ⟨_, _, _, _, rfl, hr, hb⟩
  · rw [if_neg h]; exact ⟨_, _, _, _, rfl, hr, hb⟩
theorem drawRuns_f (l : List Int) (hs : Byt l) (hl : l.length ≤ 1048576) (k : Nat) (hk : 100 < k) :
    ∃ r a b, spec_DrawBitRuns.f k l = some (r, a, b) ∧ r.length ≤ 2049 ∧ Byt r := by
  obtain ⟨sz, e0, z0, z1⟩ := source_f l hl
  obtain ⟨r, a, b, t, e1, h1, h2⟩ := drawRange_f l hs hl sz z0 z1 k hk
  unfold spec_DrawBitRuns.f
  rw [e0]
  simp only [Option.bind_some]
  rw [e1]
  exact ⟨r, a, b, rfl, h1, h2⟩
end Go.Proofs.Ytkjcffhmjfdnmaa.Pure
