/- Plain lemmas: the drawn path is total, and short. -/
import Derived.Test.YtlnjphkcnkdmlaaDoorPureDraw
import Derived.Test.YtlnjphkcnkdmlaaDoorPDx6
namespace Go.Proofs.YtlnjphkcnkdmlaaDoor.Pure
open Go.RowKit Go.Proofs.YtlnjphkcnkdmlaaDoor Go.Proofs.YtlnjphkcnkdmlaaDoor.PD Go.Proofs.YtlnjphkcnkdmlaaDoorW.PrintWords Go.Proofs.YtlnjphkcnkdmlaaDoorW.PrintLast Go.Proofs.YtlnjphkcnkdmlaaDoorW.PrintMore
theorem strOf1_size (x : Int) : (strOfNums [x]).size = 1 := by simp [strOfNums, ByteArray.size]
def odds : List ByteArray := [(⟨#[]⟩ : ByteArray), (⟨#[46]⟩ : ByteArray), (⟨#[46, 46]⟩ : ByteArray), (⟨#[46, 46, 46]⟩ : ByteArray), (⟨#[97, 98, 99, 100, 101, 102, 103, 104, 105, 106, 107, 108, 109, 110]⟩ : ByteArray), (⟨#[97, 32, 98]⟩ : ByteArray), (⟨#[97, 127]⟩ : ByteArray), (⟨#[97, 47, 98]⟩ : ByteArray), (⟨#[0]⟩ : ByteArray), (⟨#[97, 98, 99, 100, 101, 102, 103, 104, 105, 106, 107, 108, 109, 110, 111, 255]⟩ : ByteArray), (⟨#[45]⟩ : ByteArray), (⟨#[37]⟩ : ByteArray)]
theorem odds_size : ∀ t ∈ odds, t.size ≤ 16 := by
  intro t ht
  simp only [odds, List.mem_cons, List.mem_nil_iff, or_false] at ht
  rcases ht with rfl | rfl | rfl | rfl | rfl | rfl | rfl | rfl | rfl | rfl | rfl | rfl <;> decide
theorem odd_f (s : List Int) (hs : Byt s) (hl : s.length ≤ 1048576) (at0 sz : Int) (h0 : 0 ≤ at0) (h1 : at0 ≤ 10000000) :
    ∃ t, spec_l10DrawOdd.f s at0 sz = some (t, at0 + 1, sz) ∧ t.size ≤ 16 := by
  obtain ⟨r, hr, hr0, hr1, _⟩ := next_f s hs hl at0 sz 12 h0 h1
  have hlt := hr1 (by omega)
  unfold spec_l10DrawOdd.f
  rw [Option.bind_some]
  have e : ((([(⟨#[]⟩ : ByteArray), (⟨#[46]⟩ : ByteArray), (⟨#[46, 46]⟩ : ByteArray), (⟨#[46, 46, 46]⟩ : ByteArray), (⟨#[97, 98, 99, 100, 101, 102, 103, 104, 105, 106, 107, 108, 109, 110]⟩ : ByteArray), (⟨#[97, 32, 98]⟩ : ByteArray), (⟨#[97, 127]⟩ : ByteArray), (⟨#[97, 47, 98]⟩ : ByteArray), (⟨#[0]⟩ : ByteArray), (⟨#[97, 98, 99, 100, 101, 102, 103, 104, 105, 106, 107, 108, 109, 110, 111, 255]⟩ : ByteArray), (⟨#[45]⟩ : ByteArray), (⟨#[37]⟩ : ByteArray)] : List ByteArray)).length : Int) = 12 := by decide
  rw [e, hr, Option.bind_some, if_pos hr0, if_pos hlt]
  obtain ⟨m, rfl⟩ := Int.eq_ofNat_of_zero_le hr0
  have hm : m < odds.length := by simp only [odds, List.length_cons, List.length_nil]; omega
  refine ⟨_, rfl, ?_⟩
  have := odds_size odds[m] (List.getElem_mem hm)
  rw [← rdOf_at odds m hm] at this
  exact this
theorem name_f (s : List Int) (hs : Byt s) (hl : s.length ≤ 1048576) (at0 sz : Int) (h0 : 0 ≤ at0) (h1 : at0 ≤ 1000000) :
    ∃ t a, spec_l10DrawName.f s at0 sz = some (t, a, sz) ∧ t.size ≤ 13 ∧ 0 ≤ a ∧ a ≤ at0 + 2 := by
  obtain ⟨r, hr, _⟩ := next_f s hs hl at0 sz 40 h0 (by omega)
  obtain ⟨r2, hr2, _⟩ := next_f s hs hl (at0 + 1) sz 5 (by omega) (by omega)
  unfold spec_l10DrawName.f
  rw [hr, Option.bind_some]
  simp only
  by_cases c0 : r = 0
  · rw [if_pos c0]; exact ⟨_, _, rfl, by decide, by omega, by omega⟩
  · rw [if_neg c0]
    by_cases c1 : r = 1
    · rw [if_pos c1]; exact ⟨_, _, rfl, by decide, by omega, by omega⟩
    · rw [if_neg c1, hr2, Option.bind_some]
      exact ⟨_, _, rfl, by rw [strOf1_size]; omega, by show 0 ≤ at0 + 1 + 1; omega, by show at0 + 1 + 1 ≤ at0 + 2; omega⟩
/-- With rounds enough the answer is a short text and a state that may go on. -/
def Tot (K : Nat) (g : Nat → Option (ByteArray × Int × Int)) (sz : Int) : Prop := ∃ t a, (∀ k, K < k → g k = some (t, a, sz)) ∧ t.size ≤ 1000 ∧ 0 ≤ a ∧ a ≤ 1000000
theorem l1_tot (s : List Int) (hs : Byt s) (hl : s.length ≤ 1048576) (sz : Int) (d : Nat) : ∀ (x : ByteArray) (at0 : Int), 242 - x.size ≤ d → x.size ≤ 900 → 0 ≤ at0 → at0 ≤ 500000 - d → Tot d (fun k => spec_l10DrawPath.l1 k x s at0 sz) sz := by
  induction d with
  | zero =>
    intro x at0 hd hx h0 h1
    obtain ⟨r, hr, hr0, hr1, _⟩ := next_f s hs hl at0 sz 2 h0 (by omega)
    have := hr1 (by omega)
    refine ⟨x, at0 + 1, fun k hk => ?_, by omega, by omega, by omega⟩
    obtain ⟨k, rfl⟩ : ∃ m, k = m + 1 := ⟨k - 1, by omega⟩
    simp only [spec_l10DrawPath.l1]
    rw [hr, Option.bind_some]
    simp only
    rw [pw64 (by omega) (by omega), if_neg (by omega)]
  | succ d ih =>
    intro x at0 hd hx h0 h1
    obtain ⟨r, hr, hr0, hr1, _⟩ := next_f s hs hl at0 sz 2 h0 (by omega)
    have := hr1 (by omega)
    by_cases hc : (x.size : Int) < 240 + r
    · obtain ⟨t, a, ht, q1, q2, q3⟩ := ih (x ++ (⟨#[120]⟩ : ByteArray)) (at0 + 1) (by rw [ByteArray.size_append]; show 242 - (x.size + 1) ≤ d; omega) (by rw [ByteArray.size_append]; show x.size + 1 ≤ 900; omega) (by omega) (by omega)
      refine ⟨t, a, fun k hk => ?_, q1, q2, q3⟩
      obtain ⟨k, rfl⟩ : ∃ m, k = m + 1 := ⟨k - 1, by omega⟩
      simp only [spec_l10DrawPath.l1]
      rw [hr, Option.bind_some]
      simp only
      rw [pw64 (by omega) (by omega), if_pos hc, if_pos (by omega)]
      exact ht k (by omega)
    · refine ⟨x, at0 + 1, fun k hk => ?_, by omega, by omega, by omega⟩
      obtain ⟨k, rfl⟩ : ∃ m, k = m + 1 := ⟨k - 1, by omega⟩
      simp only [spec_l10DrawPath.l1]
      rw [hr, Option.bind_some]
      simp only
      rw [pw64 (by omega) (by omega), if_neg hc]
theorem l3_tot (s : List Int) (hs : Byt s) (hl : s.length ≤ 1048576) (sz : Int) (d : Nat) : ∀ (x : ByteArray) (at0 : Int), 242 - x.size ≤ d → x.size ≤ 900 → 0 ≤ at0 → at0 ≤ 500000 - d → Tot d (fun k => spec_l10DrawPath.l3 k x s at0 sz) sz := by
  induction d with
  | zero =>
    intro x at0 hd hx h0 h1
    obtain ⟨r, hr, hr0, hr1, _⟩ := next_f s hs hl at0 sz 2 h0 (by omega)
    have := hr1 (by omega)
    refine ⟨x, at0 + 1, fun k hk => ?_, by omega, by omega, by omega⟩
    obtain ⟨k, rfl⟩ : ∃ m, k = m + 1 := ⟨k - 1, by omega⟩
    simp only [spec_l10DrawPath.l3]
    rw [hr, Option.bind_some]
    simp only
    rw [pw64 (by omega) (by omega), if_neg (by omega)]
  | succ d ih =>
    intro x at0 hd hx h0 h1
    obtain ⟨r, hr, hr0, hr1, _⟩ := next_f s hs hl at0 sz 2 h0 (by omega)
    have := hr1 (by omega)
    by_cases hc : (x.size : Int) < 240 + r
    · obtain ⟨t, a, ht, q1, q2, q3⟩ := ih (x ++ (⟨#[47]⟩ : ByteArray)) (at0 + 1) (by rw [ByteArray.size_append]; show 242 - (x.size + 1) ≤ d; omega) (by rw [ByteArray.size_append]; show x.size + 1 ≤ 900; omega) (by omega) (by omega)
      refine ⟨t, a, fun k hk => ?_, q1, q2, q3⟩
      obtain ⟨k, rfl⟩ : ∃ m, k = m + 1 := ⟨k - 1, by omega⟩
      simp only [spec_l10DrawPath.l3]
      rw [hr, Option.bind_some]
      simp only
      rw [pw64 (by omega) (by omega), if_pos hc, if_pos (by omega)]
      exact ht k (by omega)
    · refine ⟨x, at0 + 1, fun k hk => ?_, by omega, by omega, by omega⟩
      obtain ⟨k, rfl⟩ : ∃ m, k = m + 1 := ⟨k - 1, by omega⟩
      simp only [spec_l10DrawPath.l3]
      rw [hr, Option.bind_some]
      simp only
      rw [pw64 (by omega) (by omega), if_neg hc]
theorem l2_eq (k : Nat) (x : ByteArray) (s : List Int) (a z : Int) : spec_l10DrawPath.l2 (k + 1) x s a z = if (x.size : Int) < 226 then (if x.size + 14 ≤ 9223372036854775807 then (spec_l10DrawPath.l2 k (x ++ (⟨#[47, 97, 98, 99, 100, 101, 102, 103, 104, 105, 106, 107, 108, 109]⟩ : ByteArray)) s a z) else (none)) else (spec_l10DrawPath.l3 k x s a z) := by
  generalize hR : (if (x.size : Int) < 226 then (if x.size + 14 ≤ 9223372036854775807 then (spec_l10DrawPath.l2 k (x ++ (⟨#[47, 97, 98, 99, 100, 101, 102, 103, 104, 105, 106, 107, 108, 109]⟩ : ByteArray)) s a z) else (none)) else (spec_l10DrawPath.l3 k x s a z)) = R
  unfold spec_l10DrawPath.l2
  exact hR
theorem l2_tot (s : List Int) (hs : Byt s) (hl : s.length ≤ 1048576) (sz : Int) (d : Nat) : ∀ (x : ByteArray) (at0 : Int), 226 - x.size ≤ d → x.size ≤ 600 → 0 ≤ at0 → at0 ≤ 100000 → Tot (d + 300) (fun k => spec_l10DrawPath.l2 k x s at0 sz) sz := by
  induction d with
  | zero =>
    intro x at0 hd hx h0 h1
    obtain ⟨t, a, ht, q1, q2, q3⟩ := l3_tot s hs hl sz 242 x at0 (by omega) (by omega) h0 (by omega)
    refine ⟨t, a, fun k hk => ?_, q1, q2, q3⟩
    obtain ⟨k, rfl⟩ : ∃ m, k = m + 1 := ⟨k - 1, by omega⟩
    show spec_l10DrawPath.l2 (k + 1) x s at0 sz = _
    rw [l2_eq, if_neg (by omega)]
    exact ht k (by omega)
  | succ d ih =>
    intro x at0 hd hx h0 h1
    by_cases hc : (x.size : Int) < 226
    · obtain ⟨t, a, ht, q1, q2, q3⟩ := ih (x ++ (⟨#[47, 97, 98, 99, 100, 101, 102, 103, 104, 105, 106, 107, 108, 109]⟩ : ByteArray)) at0 (by rw [ByteArray.size_append]; show 226 - (x.size + 14) ≤ d; omega) (by rw [ByteArray.size_append]; show x.size + 14 ≤ 600; omega) h0 h1
      refine ⟨t, a, fun k hk => ?_, q1, q2, q3⟩
      obtain ⟨k, rfl⟩ : ∃ m, k = m + 1 := ⟨k - 1, by omega⟩
      show spec_l10DrawPath.l2 (k + 1) x s at0 sz = _
      rw [l2_eq, if_pos hc, if_pos (by omega)]
      exact ht k (by omega)
    · obtain ⟨t, a, ht, q1, q2, q3⟩ := l3_tot s hs hl sz 242 x at0 (by omega) (by omega) h0 (by omega)
      refine ⟨t, a, fun k hk => ?_, q1, q2, q3⟩
      obtain ⟨k, rfl⟩ : ∃ m, k = m + 1 := ⟨k - 1, by omega⟩
      show spec_l10DrawPath.l2 (k + 1) x s at0 sz = _
      rw [l2_eq, if_neg hc]
      exact ht k (by omega)
theorem l0_end (s : List Int) (hs : Byt s) (hl : s.length ≤ 1048576) (sz : Int) (x : ByteArray) (n c i at0 : Int) (hi : ¬ i < n) (hx : x.size ≤ 400) (hc3 : c = 3 → 1 ≤ x.size) (h0 : 0 ≤ at0) (h1 : at0 ≤ 1000) : Tot 600 (fun k => spec_l10DrawPath.l0 k x n c i s at0 sz) sz := by
  obtain ⟨t, ht, hts⟩ := odd_f s hs hl at0 sz h0 (by omega)
  obtain ⟨t1, a1, ht1, q1, q2, q3⟩ := l1_tot s hs hl sz 242 x at0 (by omega) (by omega) h0 (by omega)
  obtain ⟨t2, a2, ht2, u1, u2, u3⟩ := l2_tot s hs hl sz 226 ⟨#[]⟩ at0 (by omega) (by decide) h0 (by omega)
  have one : ∀ b : UInt8, (⟨#[b]⟩ : ByteArray).size = 1 := fun b => rfl
  have key : ∀ g : Nat → Option (ByteArray × Int × Int), Tot 590 g sz → (∀ k, spec_l10DrawPath.l0 (k + 1) x n c i s at0 sz = g k) → Tot 600 (fun k => spec_l10DrawPath.l0 k x n c i s at0 sz) sz := by
    rintro g ⟨t, a, hg, v1, v2, v3⟩ he
    refine ⟨t, a, fun k hk => ?_, v1, v2, v3⟩
    obtain ⟨k, rfl⟩ : ∃ m, k = m + 1 := ⟨k - 1, by omega⟩
    show spec_l10DrawPath.l0 (k + 1) x n c i s at0 sz = _
    rw [he k, hg k (by omega)]
  by_cases c1 : c = 1
  · exact key (fun _ => some ((⟨#[47]⟩ : ByteArray), at0, sz)) ⟨_, _, fun _ _ => rfl, by decide, h0, by omega⟩ (fun k => by unfold spec_l10DrawPath.l0; rw [if_neg hi, if_pos c1])
  by_cases c2 : c = 2
  · exact key (fun _ => some (x ++ (⟨#[47]⟩ : ByteArray), at0, sz)) ⟨_, _, fun _ _ => rfl, by rw [ByteArray.size_append, one]; omega, h0, by omega⟩ (fun k => by unfold spec_l10DrawPath.l0; rw [if_neg hi, if_neg c1, if_pos c2, if_pos (by omega)])
  by_cases c3 : c = 3
  · exact key (fun _ => some (x.extract 1 x.size, at0, sz)) ⟨_, _, fun _ _ => rfl, by rw [ByteArray.size_extract]; omega, h0, by omega⟩ (fun k => by unfold spec_l10DrawPath.l0; rw [if_neg hi, if_neg c1, if_neg c2, if_pos c3, if_pos (by have := hc3 c3; omega)])
  by_cases c4 : c = 4
  · exact key (fun _ => some ((x ++ (⟨#[47]⟩ : ByteArray)) ++ t, at0 + 1, sz)) ⟨_, _, fun _ _ => rfl, by rw [ByteArray.size_append, ByteArray.size_append, one]; omega, by omega, by omega⟩ (fun k => by unfold spec_l10DrawPath.l0; rw [if_neg hi, if_neg c1, if_neg c2, if_neg c3, if_pos c4, if_pos (by omega), ht, Option.bind_some, if_pos (by rw [ByteArray.size_append, one]; simp only; omega)])
  by_cases c5 : c = 5
  · exact key (fun _ => some (((⟨#[47]⟩ : ByteArray) ++ t) ++ x, at0 + 1, sz)) ⟨_, _, fun _ _ => rfl, by rw [ByteArray.size_append, ByteArray.size_append, one]; omega, by omega, by omega⟩ (fun k => by unfold spec_l10DrawPath.l0; rw [if_neg hi, if_neg c1, if_neg c2, if_neg c3, if_neg c4, if_pos c5, ht, Option.bind_some, if_pos (by simp only; omega), if_pos (by rw [ByteArray.size_append, one]; simp only; omega)])
  by_cases c6 : c = 6
  · exact key (fun k => spec_l10DrawPath.l1 k x s at0 sz) ⟨t1, a1, fun k hk => ht1 k (by omega), q1, q2, q3⟩ (fun k => by rw [spec_l10DrawPath.l0]; rw [if_neg hi, if_neg c1, if_neg c2, if_neg c3, if_neg c4, if_neg c5, if_pos c6])
  by_cases c7 : c = 7
  · exact key (fun k => spec_l10DrawPath.l2 k ⟨#[]⟩ s at0 sz) ⟨t2, a2, fun k hk => ht2 k (by omega), u1, u2, u3⟩ (fun k => by rw [spec_l10DrawPath.l0]; rw [if_neg hi, if_neg c1, if_neg c2, if_neg c3, if_neg c4, if_neg c5, if_neg c6, if_pos c7])
  · exact key (fun _ => some (x, at0, sz)) ⟨_, _, fun _ _ => rfl, by omega, h0, by omega⟩ (fun k => by unfold spec_l10DrawPath.l0; rw [if_neg hi, if_neg c1, if_neg c2, if_neg c3, if_neg c4, if_neg c5, if_neg c6, if_neg c7])
theorem l0_tot (s : List Int) (hs : Byt s) (hl : s.length ≤ 1048576) (sz : Int) (n : Nat) (hn0 : 1 ≤ n) (hn : n ≤ 17) (c : Int) (d : Nat) : ∀ (x : ByteArray) (i : Nat) (at0 : Int), i + d = n → x.size ≤ 14 * i → (1 ≤ i → 1 ≤ x.size) → 0 ≤ at0 → at0 ≤ 100 + 2 * i → Tot (600 + d) (fun k => spec_l10DrawPath.l0 k x (n : Int) c (i : Int) s at0 sz) sz := by
  induction d with
  | zero =>
    intro x i at0 hi hx h1x h0 h1
    exact l0_end s hs hl sz x n c i at0 (by omega) (by omega) (fun _ => h1x (by omega)) h0 (by omega)
  | succ d ih =>
    intro x i at0 hi hx h1x h0 h1
    obtain ⟨t, a, ht, hts, ha0, ha1⟩ := name_f s hs hl at0 sz h0 (by omega)
    have one : (⟨#[47]⟩ : ByteArray).size = 1 := rfl
    obtain ⟨t', a', ht', q1, q2, q3⟩ := ih ((x ++ (⟨#[47]⟩ : ByteArray)) ++ t) (i + 1) a (by omega) (by rw [ByteArray.size_append, ByteArray.size_append, one]; omega) (fun _ => by rw [ByteArray.size_append, ByteArray.size_append, one]; omega) ha0 (by omega)
    refine ⟨t', a', fun k hk => ?_, q1, q2, q3⟩
    obtain ⟨k, rfl⟩ : ∃ m, k = m + 1 := ⟨k - 1, by omega⟩
    show spec_l10DrawPath.l0 (k + 1) x (n : Int) c (i : Int) s at0 sz = _
    have e1 : ((i : Int) + 1) = ((i + 1 : Nat) : Int) := by omega
    unfold spec_l10DrawPath.l0
    rw [if_pos (by omega), if_pos (by omega), ht, Option.bind_some]
    simp only
    rw [if_pos (by rw [ByteArray.size_append, one]; omega), pw64 (by omega) (by omega), e1]
    exact ht' k (by omega)
theorem j0_tot (s : List Int) (hs : Byt s) (hl : s.length ≤ 1048576) (sz : Int) (n : Int) (hn0 : 1 ≤ n) (hn : n ≤ 17) (c : Int) (at0 : Int) (h0 : 0 ≤ at0) (h1 : at0 ≤ 100) : Tot 700 (fun k => spec_l10DrawPath.j0 k ⟨#[]⟩ n c s at0 sz) sz := by
  obtain ⟨m, rfl⟩ := Int.eq_ofNat_of_zero_le (show 0 ≤ n by omega)
  obtain ⟨t, a, ht, q1, q2, q3⟩ := l0_tot s hs hl sz m (by omega) (by omega) c m ⟨#[]⟩ 0 at0 (by omega) (by decide) (fun h => by omega) h0 (by omega)
  refine ⟨t, a, fun k hk => ?_, q1, q2, q3⟩
  obtain ⟨k, rfl⟩ : ∃ m, k = m + 1 := ⟨k - 1, by omega⟩
  show spec_l10DrawPath.j0 (k + 1) ⟨#[]⟩ (m : Int) c s at0 sz = _
  simp only [spec_l10DrawPath.j0]
  exact ht k (by omega)
theorem path_g (s : List Int) (hs : Byt s) (hl : s.length ≤ 1048576) (at0 sz : Int) (h0 : 0 ≤ at0) (h2 : at0 ≤ 50) : Tot 700 (fun k => spec_l10DrawPath.f k s at0 sz) sz := by
  obtain ⟨r1, e1, a0, a1, _⟩ := next_f s hs hl at0 sz 3 h0 (by omega)
  obtain ⟨r2, e2, b0, b1, _⟩ := next_f s hs hl (at0 + 1) sz 50 (by omega) (by omega)
  obtain ⟨r3, e3, c0, c1, _⟩ := next_f s hs hl (at0 + 1 + 1) sz 2 (by omega) (by omega)
  have a1' := a1 (by omega)
  have c1' := c1 (by omega)
  by_cases hz : r2 = 0
  · obtain ⟨t, a, ht, q1, q2, q3⟩ := j0_tot s hs hl sz (16 + r3) (by omega) (by omega) r2 (at0 + 1 + 1 + 1) (by omega) (by omega)
    refine ⟨t, a, fun k hk => ?_, q1, q2, q3⟩
    show spec_l10DrawPath.f k s at0 sz = _
    unfold spec_l10DrawPath.f
    rw [e1, Option.bind_some]
    simp only
    rw [e2, Option.bind_some]
    simp only
    rw [if_pos hz, e3, Option.bind_some]
    simp only
    rw [pw64 (by omega) (by omega)]
    exact ht k hk
  · obtain ⟨t, a, ht, q1, q2, q3⟩ := j0_tot s hs hl sz (1 + r1) (by omega) (by omega) r2 (at0 + 1 + 1) (by omega) (by omega)
    refine ⟨t, a, fun k hk => ?_, q1, q2, q3⟩
    show spec_l10DrawPath.f k s at0 sz = _
    unfold spec_l10DrawPath.f
    rw [e1, Option.bind_some]
    simp only
    rw [e2, Option.bind_some]
    simp only
    rw [if_neg hz, pw64 (by omega) (by omega)]
    exact ht k hk
end Go.Proofs.YtlnjphkcnkdmlaaDoor.Pure
