/- The text drawn for Unquote: some text, not long. -/
import Derived.Test.YtdfoedjfnoiboaaPureDrawU
namespace Go.Proofs.Ytdfoedjfnoiboaa.PureD
open Go.RowKit Go.Proofs.Ytdfoedjfnoiboaa Go.Proofs.Ytdfoedjfnoiboaa.PA Go.Proofs.YtdfoedjfnoiboaaW.PrintWords Go.Proofs.YtdfoedjfnoiboaaW.PrintLast Go.Proofs.YtdfoedjfnoiboaaW.PrintMore
theorem j2_tot (s : List Int) (hs : Byt s) (hl : s.length ≤ 1048576) (sz at0 : Int) (h0 : 0 ≤ at0) (h1 : at0 ≤ 800) (l : List Int) (hm : l.length ≤ 1000) (x5 : Int) (b : Bool) (k : Nat) (hk : 300 ≤ k) :
    ∃ r u v, spec_l3Turn.j2 k l x5 b s at0 sz = some (r, u, v) ∧ r.length ≤ 1100 := by
  obtain ⟨k, rfl⟩ : ∃ m, k = m + 1 := ⟨k - 1, by omega⟩
  simp only [spec_l3Turn.j2]
  cases b with
  | true => rw [if_pos rfl, if_pos (by omega)]; exact ⟨_, _, _, rfl, by simp; omega⟩
  | false =>
    rw [if_neg (by simp)]
    by_cases h5 : x5 = 5
    · obtain ⟨c, hc⟩ := chance_f s hs hl at0 sz 3 h0 (by omega)
      rw [if_pos h5, hc, Option.bind_some]
      simp only
      cases c with
      | true =>
        obtain ⟨r, t, e, h64, _⟩ := fill_f s hs hl sz (at0 + 1) (by omega) (by omega) k (by omega)
        rw [if_pos rfl, e, Option.bind_some]
        exact ⟨_, _, _, rfl, by simp only; omega⟩
      | false => rw [if_neg (by simp)]; exact ⟨_, _, _, rfl, by omega⟩
    · rw [if_neg h5]; exact ⟨_, _, _, rfl, by omega⟩
theorem j1_tot (s : List Int) (hs : Byt s) (hl : s.length ≤ 1048576) (sz at0 : Int) (h0 : 0 ≤ at0) (h1 : at0 ≤ 700) (l : List Int) (hm : l.length ≤ 1000) (hp : 0 < l.length) (x5 : Int) (b : Bool) (k : Nat) (hk : 301 ≤ k) :
    ∃ r u v, spec_l3Turn.j1 k l x5 (l.length : Int) b s at0 sz = some (r, u, v) ∧ r.length ≤ 1100 := by
  obtain ⟨k, rfl⟩ : ∃ m, k = m + 1 := ⟨k - 1, by omega⟩
  simp only [spec_l3Turn.j1]
  cases b with
  | true =>
    rw [if_pos rfl, w64 (x := (l.length : Int) - 1) (by omega) (by omega), if_pos (by omega), if_pos (by omega)]
    exact ⟨_, _, _, rfl, by rw [List.length_take]; omega⟩
  | false =>
    rw [if_neg (by simp)]
    by_cases h4 : x5 = 4
    · obtain ⟨c, hc⟩ := chance_f s hs hl at0 sz 2 h0 (by omega)
      rw [if_pos h4, hc, Option.bind_some]
      exact j2_tot s hs hl sz (at0 + 1) (by omega) (by omega) l hm x5 c k (by omega)
    · rw [if_neg h4]
      exact j2_tot s hs hl sz at0 h0 (by omega) l hm x5 false k (by omega)
theorem j0_tot (s : List Int) (hs : Byt s) (hl : s.length ≤ 1048576) (sz at0 : Int) (h0 : 0 ≤ at0) (h1 : at0 ≤ 600) (l : List Int) (hm : l.length ≤ 1000) (hp : 0 < l.length) (n x5 : Int) (hn : n = (l.length : Int)) (k : Nat) (hk : 302 ≤ k) :
    ∃ r u v, spec_l3Turn.j0 k l x5 n s at0 sz = some (r, u, v) ∧ r.length ≤ 1100 := by
  subst hn
  obtain ⟨k, rfl⟩ : ∃ m, k = m + 1 := ⟨k - 1, by omega⟩
  simp only [spec_l3Turn.j0]
  by_cases h3 : x5 = 3
  · obtain ⟨c, hc⟩ := chance_f s hs hl at0 sz 2 h0 (by omega)
    rw [if_pos h3, hc, Option.bind_some]
    exact j1_tot s hs hl sz (at0 + 1) (by omega) (by omega) l hm hp x5 c k (by omega)
  · rw [if_neg h3]
    exact j1_tot s hs hl sz at0 h0 (by omega) l hm hp x5 false k (by omega)
theorem turn_tot (s : List Int) (hs : Byt s) (hl : s.length ≤ 1048576) (sz at0 : Int) (h0 : 0 ≤ at0) (h1 : at0 ≤ 500) (l : List Int) (hm : l.length ≤ 1000) (k : Nat) (hk : 400 ≤ k) :
    ∃ r u v, spec_l3Turn.f k s at0 sz l = some (r, u, v) ∧ r.length ≤ 1100 := by
  obtain ⟨p, hp, hp0, hp1, _⟩ := next_f s hs hl at0 sz 8 h0 (by omega)
  unfold spec_l3Turn.f
  rw [hp, Option.bind_some]
  simp only
  by_cases hz : (l.length : Int) = 0
  · obtain ⟨r, t, e, h64, _⟩ := fill_f s hs hl sz (at0 + 1) (by omega) (by omega) k (by omega)
    rw [if_pos hz, e, Option.bind_some]
    exact ⟨_, _, _, rfl, by simp only; omega⟩
  · rw [if_neg hz]
    by_cases h3 : p < 3
    · obtain ⟨q, hq, hq0, hq1, _⟩ := next_f s hs hl (at0 + 1) sz (l.length : Int) (by omega) (by omega)
      obtain ⟨c, hc⟩ := chance_f s hs hl (at0 + 1 + 1) sz 2 (by omega) (by omega)
      rw [if_pos h3, hq, Option.bind_some]
      simp only
      rw [hc, Option.bind_some]
      simp only
      cases c with
      | true =>
        obtain ⟨u, hu, hu0, hu1, _⟩ := next_f s hs hl (at0 + 1 + 1 + 1) sz 16 (by omega) (by omega)
        obtain ⟨v, hv, _⟩ := next_f s hs hl (at0 + 1 + 1 + 1 + 1) sz 255 (by omega) (by omega)
        obtain ⟨m0, m1⟩ := tmod_lt (x := u) (n := (l.length : Int)) hu0 (by omega)
        rw [if_pos rfl, hu, Option.bind_some]
        simp only
        rw [if_pos m0, if_pos m1, hv, Option.bind_some]
        exact j0_tot s hs hl sz _ (by simp only; omega) (by simp only; omega) _ (by simpa using hm) (by rw [List.length_set]; omega) _ _ (by simp) k (by omega)
      | false =>
        obtain ⟨v, hv, _⟩ := next_f s hs hl (at0 + 1 + 1 + 1) sz 255 (by omega) (by omega)
        obtain ⟨m0, m1⟩ := tmod_lt (x := q) (n := (l.length : Int)) hq0 (by omega)
        rw [if_neg (by simp), if_pos m0, if_pos m1, hv, Option.bind_some]
        exact j0_tot s hs hl sz _ (by simp only; omega) (by simp only; omega) _ (by simpa using hm) (by rw [List.length_set]; omega) _ _ (by simp) k (by omega)
    · rw [if_neg h3]
      exact j0_tot s hs hl sz (at0 + 1) (by omega) (by omega) l hm (by omega) _ p rfl k (by omega)
theorem quoteF_size (a : ByteArray) (h : a.size ≤ 65536) : (quoteF a).size ≤ 3 * a.size + 1 := by
  unfold quoteF
  rw [if_neg (by omega)]
  by_cases h0 : a.size = 0
  · rw [if_pos h0]; show (1 : Nat) ≤ _; omega
  · rw [if_neg h0]
    have := quoteL_len a.data.toList
    have hd : a.data.toList.length = a.size := data_length a
    show (quoteL a.data.toList).toArray.size ≤ _
    simp; omega
theorem drawUnq_tot (l : List Int) (hs : Byt l) (hl : l.length ≤ 1048576) (k : Nat) (hk : 500 ≤ k) : ∃ T, drawUnq k l = some T ∧ T.size ≤ 70000 := by
  obtain ⟨sz, e0, z0, z1⟩ := source_f l hl
  obtain ⟨n, hn, hn0, hn1, _⟩ := next_f l hs hl 0 sz 12 (by omega) (by omega)
  have hn2 := hn1 (by omega)
  obtain ⟨d, t, e1, e2, e3, e4⟩ := bytes_f l hs hl n hn0 (by omega) sz (0 + 1) (by omega) (by omega) k (by omega)
  obtain ⟨c, hc⟩ := chance_f l hs hl t sz 40 e3 (by omega)
  have hds : (strOfNums d).size = d.length := str_size d
  have hq : spec_Quote.f (strOfNums d) = some (quoteF (strOfNums d)) := by unfold spec_Quote.f; rw [if_pos (by omega)]
  have hqs := quoteF_size (strOfNums d) (by omega)
  unfold drawUnq
  rw [e0, Option.bind_some]
  simp only
  rw [hn, Option.bind_some]
  simp only
  rw [e1, Option.bind_some]
  simp only
  rw [hq, Option.bind_some, hc, Option.bind_some]
  simp only
  cases c with
  | true =>
    obtain ⟨m, hm, hm0, hm1, _⟩ := next_f l hs hl (t + 1) sz 2 (by omega) (by omega)
    have := hm1 (by omega)
    rw [if_pos rfl, hm, Option.bind_some]
    simp only
    rw [if_pos (by omega)]
    exact ⟨_, rfl, by unfold xsOf; rw [str_size, List.length_replicate]; omega⟩
  | false =>
    obtain ⟨b, hb⟩ := chance_f l hs hl (t + 1) sz 2 (by omega) (by omega)
    rw [if_neg (by simp), hb, Option.bind_some]
    simp only
    cases b with
    | true =>
      obtain ⟨r, u, v, hr, hrl⟩ := turn_tot l hs hl sz (t + 1 + 1) (by omega) (by omega) (bytesOf (quoteF (strOfNums d))) (by rw [bytesOf_length]; omega) k (by omega)
      rw [if_pos rfl, if_pos (by omega), hr, Option.bind_some]
      exact ⟨_, rfl, by simp only; rw [str_size]; omega⟩
    | false =>
      rw [if_neg (by simp)]
      exact ⟨_, rfl, by omega⟩
end Go.Proofs.Ytdfoedjfnoiboaa.PureD
