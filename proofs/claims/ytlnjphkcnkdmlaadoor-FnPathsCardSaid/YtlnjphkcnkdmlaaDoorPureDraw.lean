/- Plain lemmas on the printed draws: every draw is total, and within its bound. -/
import Derived.Test.YtlnjphkcnkdmlaaDoorPDx5
import Derived.Test.YtlnjphkcnkdmlaaDoorPDx4
import Derived.Test.YtlnjphkcnkdmlaaDoorPurePathB
import Derived.OpenShut
namespace Go.Proofs.YtlnjphkcnkdmlaaDoor.Pure
open Go.RowKit Go.Proofs.YtlnjphkcnkdmlaaDoor.PD Go.Proofs.YtlnjphkcnkdmlaaDoorW.PrintWords Go.Proofs.YtlnjphkcnkdmlaaDoorW.PrintLast Go.Proofs.YtlnjphkcnkdmlaaDoorW.PrintMore
/-- Every entry is a byte. -/
def Byt (l : List Int) : Prop := ∀ x ∈ l, 0 ≤ x ∧ x ≤ 255
theorem Byt.at_rd {l : List Int} (h : Byt l) (i : Int) : 0 ≤ rd l i ∧ rd l i ≤ 255 := by
  unfold rd
  rw [List.getD_eq_getElem?_getD]
  by_cases hj : i.toNat < l.length
  · rw [List.getElem?_eq_getElem hj]; exact h _ (List.getElem_mem hj)
  · rw [List.getElem?_eq_none (by omega)]; simp
theorem Byt.snoc {l : List Int} (h : Byt l) {x : Int} (h0 : 0 ≤ x) (h1 : x ≤ 255) : Byt (l ++ [x]) := by
  intro y hy
  rcases List.mem_append.1 hy with hy | hy
  · exact h y hy
  · simp at hy; subst hy; exact ⟨h0, h1⟩
theorem Byt.of_wf {l : List Int} (h : ∀ x ∈ l, (Lit.int .u8 x).wf = true) : Byt l := fun x hx => by have := bounds_u8 (h x hx); omega
theorem tmod_lt {x n : Int} (h0 : 0 ≤ x) (h1 : 1 ≤ n) : 0 ≤ Int.tmod x n ∧ Int.tmod x n < n := by
  rw [Int.tmod_eq_emod_of_nonneg h0]
  exact ⟨Int.emod_nonneg _ (by omega), Int.emod_lt_of_pos _ (by omega)⟩
theorem next_f (s : List Int) (hs : Byt s) (hl : s.length ≤ 1048576) (at0 sz n : Int) (h0 : 0 ≤ at0) (h1 : at0 ≤ 10000000) :
    ∃ r, spec_l1Next.f s at0 sz n = some (r, at0 + 1, sz) ∧ 0 ≤ r ∧ (1 ≤ n → r < n) ∧ (n < 1 → r = 0) := by
  unfold spec_l1Next.f
  have e1 : wrap64 (at0 + 1) = at0 + 1 := pw64 (by omega) (by omega)
  have e2 : wrap64 (at0 + 1 - 1) = at0 := by rw [pw64 (by omega) (by omega)]; omega
  by_cases hn : n < 1
  · rw [if_pos hn, e1]
    exact ⟨0, rfl, by omega, fun h => by omega, fun _ => rfl⟩
  · rw [if_neg hn]
    by_cases hz : (s.length : Int) = 0
    · rw [if_pos hz, if_neg (by omega), e1, e2, pw64 (x := at0 * 7) (by omega) (by omega)]
      have := tmod_lt (x := at0 * 7) (n := n) (by omega) (by omega)
      exact ⟨_, rfl, this.1, fun _ => this.2, fun h => by omega⟩
    · obtain ⟨hm0, hm1⟩ := tmod_lt (x := at0) (n := (s.length : Int)) h0 (by omega)
      obtain ⟨hp0, hp1⟩ := tmod_lt (x := at0 + 1) (n := (s.length : Int)) (by omega) (by omega)
      rw [if_neg hz]
      simp only [e1, e2]
      have hq : 0 ≤ Int.tdiv at0 (s.length : Int) ∧ Int.tdiv at0 (s.length : Int) ≤ at0 := by
        rw [Int.tdiv_eq_ediv_of_nonneg h0]
        exact ⟨Int.ediv_nonneg h0 (by omega), Int.ediv_le_self _ h0⟩
      obtain ⟨hr0, hr1⟩ := hs.at_rd (Int.tmod at0 (s.length : Int))
      obtain ⟨ht0, ht1⟩ := hs.at_rd (Int.tmod (at0 + 1) (s.length : Int))
      rw [if_pos hm0, if_pos hm1]
      generalize Int.tdiv at0 (s.length : Int) = q at *
      generalize rd s (Int.tmod at0 (s.length : Int)) = a at *
      generalize rd s (Int.tmod (at0 + 1) (s.length : Int)) = b at *
      have w1 : wrap64 q = q := pw64 (by omega) (by omega)
      have w2 : wrap64 (q * 37) = q * 37 := pw64 (by omega) (by omega)
      have w3 : wrap64 a = a := pw64 (by omega) (by omega)
      have w4 : wrap64 (a + q * 37) = a + q * 37 := pw64 (by omega) (by omega)
      have w5 : wrap64 ((a + q * 37) * 251) = (a + q * 37) * 251 := pw64 (by omega) (by omega)
      have w6 : wrap64 b = b := pw64 (by omega) (by omega)
      have w7 : wrap64 (b * 13) = b * 13 := pw64 (by omega) (by omega)
      have w8 : wrap64 ((a + q * 37) * 251 + b * 13) = (a + q * 37) * 251 + b * 13 := pw64 (by omega) (by omega)
      have w9 : wrap64 ((a + q * 37) * 251 + b * 13 + at0) = (a + q * 37) * 251 + b * 13 + at0 := pw64 (by omega) (by omega)
      simp only [w1, w2, w3, w4, w5, w6, w7, w8, w9]
      by_cases hb : n > 200
      · rw [if_pos hb, if_pos hp0, if_pos hp1, if_neg (by omega)]
        have := tmod_lt (x := (a + q * 37) * 251 + b * 13 + at0) (n := n) (by omega) (by omega)
        exact ⟨_, rfl, this.1, fun _ => this.2, fun h => by omega⟩
      · rw [if_neg hb, if_neg (by omega)]
        have := tmod_lt (x := a + q * 37) (n := n) (by omega) (by omega)
        exact ⟨_, rfl, this.1, fun _ => this.2, fun h => by omega⟩
theorem source_f (l : List Int) (hl : l.length ≤ 1048576) : ∃ sz, spec_l1Source.f l = some (l, 0, sz) ∧ 0 ≤ sz ∧ sz ≤ 12 := by
  unfold spec_l1Source.f
  have e : Int.tdiv (l.length : Int) 16 = (l.length : Int) / 16 := Int.tdiv_eq_ediv_of_nonneg (by omega)
  have e1 : wrap64 ((l.length : Int) / 16) = (l.length : Int) / 16 := pw64 (by omega) (by omega)
  rw [e1]
  by_cases h : (l.length : Int) / 16 > 12
  · rw [if_pos h]; exact ⟨12, rfl, by omega, by omega⟩
  · rw [if_neg h]; exact ⟨_, rfl, by omega, by omega⟩
theorem chance_f (s : List Int) (hs : Byt s) (hl : s.length ≤ 1048576) (at0 sz n : Int) (h0 : 0 ≤ at0) (h1 : at0 ≤ 10000000) :
    ∃ r, spec_l1Chance.f s at0 sz n = some (r, at0 + 1, sz) := by
  obtain ⟨r, hr, _⟩ := next_f s hs hl at0 sz n h0 h1
  unfold spec_l1Chance.f
  rw [hr]
  exact ⟨_, rfl⟩
end Go.Proofs.YtlnjphkcnkdmlaaDoor.Pure
