/- The draws of FnQuote are total, and what they draw is not long. -/
import Derived.Test.YtdfoedjfnoiboaaPureDraw
import Derived.Test.YtdfoedjfnoiboaaGivenU
namespace Go.Proofs.Ytdfoedjfnoiboaa.PureD
open Go.RowKit Go.Proofs.Ytdfoedjfnoiboaa Go.Proofs.Ytdfoedjfnoiboaa.PA Go.Proofs.YtdfoedjfnoiboaaW.PrintWords Go.Proofs.YtdfoedjfnoiboaaW.PrintLast Go.Proofs.YtdfoedjfnoiboaaW.PrintMore
theorem str_size (l : List Int) : (strOfNums l).size = l.length := by
  unfold strOfNums
  show (Array.size _) = _
  simp
theorem bytes_loop (s : List Int) (hs : Byt s) (hl : s.length ≤ 1048576) (n : Nat) (hn : n ≤ 100) (sz c0 : Int) (hc0 : 0 ≤ c0) (hc1 : c0 ≤ 1000) (d : Nat) : ∀ (k i : Nat) (out : List Int) (at0 : Int), n - i ≤ d → d < k → i ≤ n → out.length = i → 0 ≤ at0 → at0 ≤ c0 + i →
    ∃ r at1, spec_l1DrawBytes.l0 k (n : Int) out (i : Int) s at0 sz = some (r, at1, sz) ∧ r.length = n ∧ 0 ≤ at1 ∧ at1 ≤ ((n : Nat) : Int) + c0 := by
  induction d with
  | zero =>
    intro k i out at0 hd hk hi ho h0 h1
    obtain ⟨k, rfl⟩ : ∃ m, k = m + 1 := ⟨k - 1, by omega⟩
    simp only [spec_l1DrawBytes.l0]
    rw [if_neg (by omega)]
    exact ⟨out, at0, rfl, by omega, h0, by omega⟩
  | succ d ih =>
    intro k i out at0 hd hk hi ho h0 h1
    obtain ⟨k, rfl⟩ : ∃ m, k = m + 1 := ⟨k - 1, by omega⟩
    simp only [spec_l1DrawBytes.l0]
    by_cases hlt : i < n
    · obtain ⟨r, hr, hr0, hr1, _⟩ := next_f s hs hl at0 sz 256 h0 (by omega)
      have hih := ih k (i + 1) (out ++ [r % 256]) (at0 + 1) (by omega) (by omega) (by omega) (by simp; omega) (by omega) (by omega)
      have hol : out.length < 140737488355328 := by omega
      have e1 : wrap64 ((i : Int) + 1) = ((i + 1 : Nat) : Int) := by rw [w64 (by omega) (by omega)]; omega
      rw [if_pos (by clear e1; omega), hr, Option.bind_some, if_pos hol, e1]
      exact hih
    · rw [if_neg (by omega)]
      exact ⟨out, at0, rfl, by omega, h0, by omega⟩
theorem bytes_f (s : List Int) (hs : Byt s) (hl : s.length ≤ 1048576) (n : Int) (n0 : 0 ≤ n) (hn : n ≤ 100) (sz at0 : Int) (h0 : 0 ≤ at0) (h1 : at0 ≤ 1000) (k : Nat) (hk : 200 ≤ k) :
    ∃ r at1, spec_l1DrawBytes.f k s at0 sz n = some (r, at1, sz) ∧ (r.length : Int) = n ∧ 0 ≤ at1 ∧ at1 ≤ at0 + n := by
  obtain ⟨m, rfl⟩ := Int.eq_ofNat_of_zero_le n0
  obtain ⟨r, t, a, b, c, d⟩ := bytes_loop s hs hl m (by omega) sz at0 h0 h1 m k 0 [] at0 (by omega) (by omega) (by omega) rfl h0 (by omega)
  exact ⟨r, t, a, by omega, c, by omega⟩
theorem drawQuote_f (l : List Int) (hs : Byt l) (hl : l.length ≤ 1048576) (k : Nat) (hk : 200 ≤ k) : ∃ r, spec_DrawQuote.f k l = some r ∧ r.size ≤ 65537 := by
  obtain ⟨sz, e0, z0, z1⟩ := source_f l hl
  obtain ⟨r, hr, hr0, hr1, _⟩ := next_f l hs hl 0 sz 25 (by omega) (by omega)
  unfold spec_DrawQuote.f
  rw [e0, Option.bind_some]
  simp only
  rw [hr, Option.bind_some]
  simp only
  by_cases h7 : r = 7
  · obtain ⟨q, hq, hq0, hq1, _⟩ := next_f l hs hl (0 + 1) sz 2 (by omega) (by omega)
    have := hq1 (by omega)
    rw [if_pos h7, hq, Option.bind_some]
    simp only
    rw [w64 (x := 65536 + q) (by omega) (by omega), if_pos (by omega), if_pos (by omega)]
    exact ⟨_, rfl, by rw [str_size, List.length_replicate]; omega⟩
  · obtain ⟨q, hq, hq0, hq1, _⟩ := next_f l hs hl (0 + 1) sz 12 (by omega) (by omega)
    have := hq1 (by omega)
    obtain ⟨d, t, e1, e2, _⟩ := bytes_f l hs hl q hq0 (by omega) sz (0 + 1 + 1) (by omega) (by omega) k hk
    rw [if_neg h7, hq, Option.bind_some]
    simp only
    rw [e1, Option.bind_some]
    exact ⟨_, rfl, by simp only; rw [str_size]; omega⟩
/-! ### spec.l1Fill -/
theorem fill_l1 (s : List Int) (sz at0 : Int) (mg : List Int) (hm : mg.length ≤ 64) (d : Nat) : ∀ (k i : Nat) (x : List Int), mg.length - i ≤ d → d < k → i ≤ mg.length → x.length = 64 →
    ∃ r, spec_l1Fill.l1 k x mg (i : Int) s at0 sz = some (r, at0, sz) ∧ r.length = 64 := by
  induction d with
  | zero =>
    intro k i x hd hk hi hx
    obtain ⟨k, rfl⟩ : ∃ m, k = m + 1 := ⟨k - 1, by omega⟩
    simp only [spec_l1Fill.l1]
    rw [if_neg (by omega)]
    exact ⟨x, rfl, hx⟩
  | succ d ih =>
    intro k i x hd hk hi hx
    obtain ⟨k, rfl⟩ : ∃ m, k = m + 1 := ⟨k - 1, by omega⟩
    simp only [spec_l1Fill.l1]
    by_cases hlt : i < mg.length
    · have hih := ih k (i + 1) (x.set (i : Int).toNat (rd mg (i : Int))) (by omega) (by omega) (by omega) (by simpa using hx)
      have a1 : (i : Int) < (x.length : Int) := by omega
      have a2 : (0 : Int) ≤ (i : Int) := by omega
      have a3 : (i : Int) < (mg.length : Int) := by omega
      have e1 : wrap64 ((i : Int) + 1) = ((i + 1 : Nat) : Int) := by rw [w64 (by omega) (by omega)]; omega
      rw [if_pos a3, if_pos a2, if_pos a1, e1]
      exact hih
    · rw [if_neg (by omega)]
      exact ⟨x, rfl, hx⟩
theorem magic_f (s : List Int) (hs : Byt s) (hl : s.length ≤ 1048576) (at0 sz : Int) (h0 : 0 ≤ at0) (h1 : at0 ≤ 10000) : ∃ m, spec_l1Magic.f s at0 sz = some (m, at0 + 1, sz) ∧ m.length = 4 := by
  obtain ⟨c, hc⟩ := chance_f s hs hl at0 sz 6 h0 (by omega)
  unfold spec_l1Magic.f
  rw [hc, Option.bind_some]
  simp only
  cases c with
  | true => rw [if_pos rfl]; exact ⟨_, rfl, rfl⟩
  | false => rw [if_neg (by simp)]; exact ⟨_, rfl, rfl⟩
theorem fill_l0 (s : List Int) (hs : Byt s) (hl : s.length ≤ 1048576) (sz at0 x : Int) (h0 : 0 ≤ at0) (h1 : at0 ≤ 1000) (d : Nat) : ∀ (k i : Nat) (out : List Int), 64 - i ≤ d → d + 70 < k → i ≤ 64 → out.length = i →
    ∃ r at1, spec_l1Fill.l0 k out x (i : Int) s at0 sz = some (r, at1, sz) ∧ r.length = 64 ∧ 0 ≤ at1 ∧ at1 ≤ 2000 := by
  induction d with
  | zero =>
    intro k i out hd hk hi ho
    obtain ⟨k, rfl⟩ : ∃ m, k = m + 1 := ⟨k - 1, by omega⟩
    obtain ⟨p, hp, hp0, hp1, _⟩ := next_f s hs hl at0 sz 64 h0 (by omega)
    obtain ⟨q, hq, hq0, hq1, _⟩ := next_f s hs hl (at0 + 1) sz 256 (by omega) (by omega)
    obtain ⟨c, hc⟩ := chance_f s hs hl (at0 + 1 + 1) sz 5 (by omega) (by omega)
    obtain ⟨m, hm, hm4⟩ := magic_f s hs hl (at0 + 1 + 1 + 1) sz (by omega) (by omega)
    have := hp1 (by omega)
    simp only [spec_l1Fill.l0]
    rw [if_neg (by omega), hp, Option.bind_some]
    simp only
    rw [hq, Option.bind_some]
    simp only
    rw [if_pos (by omega), if_pos (by omega), Option.bind_some, hc, Option.bind_some]
    simp only
    cases c with
    | true =>
      rw [if_pos rfl, hm, Option.bind_some]
      simp only
      obtain ⟨r, hr, hr64⟩ := fill_l1 s sz (at0 + 1 + 1 + 1 + 1) m (by omega) 4 k 0 (out.set p.toNat (q % 256)) (by omega) (by omega) (by omega) (by simp; omega)
      exact ⟨r, _, hr, hr64, by omega, by omega⟩
    | false =>
      rw [if_neg (by simp)]
      exact ⟨_, at0 + 1 + 1 + 1, rfl, by simp; omega, by omega, by omega⟩
  | succ d ih =>
    intro k i out hd hk hi ho
    by_cases hlt : i < 64
    · obtain ⟨k, rfl⟩ : ∃ m, k = m + 1 := ⟨k - 1, by omega⟩
      have hih := ih k (i + 1) (out ++ [x]) (by omega) (by omega) (by omega) (by simp; omega)
      have hol : out.length < 140737488355328 := by omega
      have a1 : (i : Int) < 64 := by omega
      have e1 : wrap64 ((i : Int) + 1) = ((i + 1 : Nat) : Int) := by rw [w64 (by omega) (by omega)]; omega
      simp only [spec_l1Fill.l0]
      rw [if_pos a1, if_pos hol, e1]
      exact hih
    · exact ih k i out (by omega) (by omega) hi ho
theorem fill_f (s : List Int) (hs : Byt s) (hl : s.length ≤ 1048576) (sz at0 : Int) (h0 : 0 ≤ at0) (h1 : at0 ≤ 900) (k : Nat) (hk : 200 ≤ k) :
    ∃ r at1, spec_l1Fill.f k s at0 sz = some (r, at1, sz) ∧ r.length = 64 ∧ 0 ≤ at1 ∧ at1 ≤ 2000 := by
  obtain ⟨p, hp, hp0, hp1, _⟩ := next_f s hs hl at0 sz 256 h0 (by omega)
  unfold spec_l1Fill.f
  rw [hp, Option.bind_some]
  exact fill_l0 s hs hl sz (at0 + 1) (p % 256) (by omega) (by omega) 64 k 0 [] (by omega) (by omega) (by omega) rfl
end Go.Proofs.Ytdfoedjfnoiboaa.PureD
