/- The program's SplitPath answers what the reference's does, at every string; marks laid into its answer stay. -/
import Derived.Test.YtlnjphkcnkdmlaaDoorPurePathB
import Derived.Test.YtlnjphkcnkdmlaaDoorPDx4
namespace Go.Proofs.YtlnjphkcnkdmlaaDoor.Pure
open Go.RowKit Go.Proofs.YtlnjphkcnkdmlaaDoor Go.Proofs.YtlnjphkcnkdmlaaDoor.PD Go.Proofs.YtlnjphkcnkdmlaaDoorW.PrintWords Go.Proofs.YtlnjphkcnkdmlaaDoorW.PrintLast
theorem eqS_loop (l : List ByteArray) (hl : l.length ≤ 4294967296) (d : Nat) : ∀ (k i : Nat), l.length - i ≤ d → d < k → laws_eqStringS.l0 k l l (i : Int) = some true := by
  induction d with
  | zero =>
    intro k i hd hk
    obtain ⟨k, rfl⟩ : ∃ m, k = m + 1 := ⟨k - 1, by omega⟩
    simp only [laws_eqStringS.l0]
    rw [if_neg (by omega)]
  | succ d ih =>
    intro k i hd hk
    obtain ⟨k, rfl⟩ : ∃ m, k = m + 1 := ⟨k - 1, by omega⟩
    simp only [laws_eqStringS.l0]
    by_cases hlt : i < l.length
    · rw [if_pos (by omega), if_pos (by omega), if_pos (by omega), pw64 (by omega) (by omega), if_pos trivial]
      exact ih k (i + 1) (by omega) (by omega)
    · rw [if_neg (by omega)]
theorem eqPath (r : Int × List ByteArray) (hl : r.2.length ≤ 4294967296) (k : Nat) (hk : r.2.length < k) : laws_eqPathResult.f k r.1 r.2 r.1 r.2 = some true := by
  unfold laws_eqPathResult.f laws_eqStringS.f
  rw [if_pos rfl, if_pos rfl]
  have := eqS_loop r.2 hl r.2.length k 0 (by omega) hk
  have hz : ((0 : Nat) : Int) = 0 := rfl
  rw [hz] at this
  rw [this, Option.bind_some, if_pos rfl]
theorem strOf_size (x : Int) : (strOfNums [x]).size = 1 := by simp [strOfNums, ByteArray.size]
theorem text_loop (d : Nat) : ∀ (n : Int) (x : ByteArray), 0 ≤ n → n ≤ 1000000000000 → n < 10 ^ d → x.size ≤ 1000 - d → d ≤ 100 → ∃ t, ∀ k, d < k → laws_markText.l0 k n x = some t := by
  induction d with
  | zero =>
    intro n x h0 hb h1 hx hd
    have hn : n = 0 := by have : n < 1 := by simpa using h1
                          omega
    subst hn
    refine ⟨(⟨#[109]⟩ : ByteArray) ++ x, fun k hk => ?_⟩
    obtain ⟨k, rfl⟩ : ∃ m, k = m + 1 := ⟨k - 1, by omega⟩
    simp only [laws_markText.l0]
    rw [if_neg (by decide), if_pos (by omega)]
  | succ d ih =>
    intro n x h0 hb h1 hx hd
    by_cases hn : n > 0
    · have hp : (10 : Int) ^ (d + 1) = 10 ^ d * 10 := Int.pow_succ _ _
      obtain ⟨t, ht⟩ := ih (wrap64 (Int.tdiv n 10)) ((strOfNums [(wrap64 (48 + (Int.tmod n 10))) % 256]) ++ x) (by rw [Int.tdiv_eq_ediv_of_nonneg h0]; unfold wrap64; omega) (by rw [Int.tdiv_eq_ediv_of_nonneg h0]; unfold wrap64; omega) (by rw [Int.tdiv_eq_ediv_of_nonneg h0]; unfold wrap64; omega) (by rw [ByteArray.size_append, strOf_size]; omega) (by omega)
      refine ⟨t, fun k hk => ?_⟩
      obtain ⟨k, rfl⟩ : ∃ m, k = m + 1 := ⟨k - 1, by omega⟩
      simp only [laws_markText.l0]
      rw [if_pos hn, Option.bind_some, if_pos (by rw [strOf_size]; omega)]
      exact ht k (by omega)
    · have hn0 : n = 0 := by omega
      subst hn0
      refine ⟨(⟨#[109]⟩ : ByteArray) ++ x, fun k hk => ?_⟩
      obtain ⟨k, rfl⟩ : ∃ m, k = m + 1 := ⟨k - 1, by omega⟩
      simp only [laws_markText.l0]
      rw [if_neg (by decide), if_pos (by omega)]
/-- The mark's text. -/
def mt (n : Int) : ByteArray := (laws_markText.f 30 n).getD ByteArray.empty
theorem mt_f (n : Int) (h0 : 0 ≤ n) (h1 : n < 10000000000) (k : Nat) (hk : 20 < k) : laws_markText.f k n = some (mt n) := by
  unfold mt laws_markText.f
  by_cases hn : n ≤ 0
  · rw [if_pos hn, if_pos hn]; rfl
  · rw [if_neg hn, if_neg hn]
    obtain ⟨t, ht⟩ := text_loop 10 n ⟨#[]⟩ h0 (by omega) (by simpa using h1) (by decide) (by decide)
    rw [ht k (by omega), ht 30 (by omega)]
    rfl
theorem mark_loop (d : Nat) : ∀ (k i : Nat) (l : List ByteArray) (m : Int), l.length ≤ 1000 → l.length - i ≤ d → d + 21 < k → 0 ≤ m → m ≤ 1000 + i →
    ∃ l', laws_markStringS.l0 k l m (i : Int) = some (m + ((l.length - i : Nat) : Int), l') ∧ l'.length = l.length ∧ (∀ j, j < i → l'[j]? = l[j]?) ∧ ∀ j, i ≤ j → j < l.length → l'[j]? = some (mt (m + ((j - i : Nat) : Int))) := by
  induction d with
  | zero =>
    intro k i l m hl hd hk h0 h1
    obtain ⟨k, rfl⟩ : ∃ n, k = n + 1 := ⟨k - 1, by omega⟩
    refine ⟨l, ?_, rfl, fun _ _ => rfl, fun j h h' => by omega⟩
    simp only [laws_markStringS.l0]
    rw [if_neg (by omega)]
    congr 2; omega
  | succ d ih =>
    intro k i l m hl hd hk h0 h1
    obtain ⟨k, rfl⟩ : ∃ n, k = n + 1 := ⟨k - 1, by omega⟩
    by_cases hlt : i < l.length
    · simp only [laws_markStringS.l0]
      rw [if_pos (by omega), mt_f m h0 (by omega) k (by omega), Option.bind_some, if_pos (by omega), pw64 (x := m + 1) (by omega) (by omega), pw64 (x := (i : Int) + 1) (by omega) (by omega), Int.toNat_natCast]
      obtain ⟨l', h, hl', ha, hb⟩ := ih k (i + 1) (l.set i (mt m)) (m + 1) (by simpa using hl) (by simp; omega) (by omega) (by omega) (by omega)
      have e : ((i + 1 : Nat) : Int) = (i : Int) + 1 := by omega
      rw [e] at h
      refine ⟨l', ?_, by simpa using hl', fun j hj => ?_, fun j hj hj' => ?_⟩
      · rw [h]; congr 2; simp only [List.length_set]; omega
      · rw [ha j (by omega), List.getElem?_set_ne (by omega)]
      · by_cases hji : j = i
        · subst hji
          rw [ha j (by omega), List.getElem?_set_self hlt]
          simp
        · rw [hb j (by omega) (by simpa using hj')]
          congr 2; omega
    · refine ⟨l, ?_, rfl, fun _ _ => rfl, fun j h h' => by omega⟩
      simp only [laws_markStringS.l0]
      rw [if_neg (by omega)]
      congr 2; omega
theorem held_loop (l : List ByteArray) (hl : l.length ≤ 1000) (hm : ∀ j, j < l.length → l[j]? = some (mt (1 + (j : Int)))) (d : Nat) : ∀ (k i : Nat), l.length - i ≤ d → i ≤ l.length → d + 21 < k → laws_heldStringS.l0 k l (1 + (i : Int)) (i : Int) = some (1 + (l.length : Int)) := by
  induction d with
  | zero =>
    intro k i hd hi hk
    obtain ⟨k, rfl⟩ : ∃ n, k = n + 1 := ⟨k - 1, by omega⟩
    simp only [laws_heldStringS.l0]
    rw [if_neg (by omega)]
    congr 1; omega
  | succ d ih =>
    intro k i hd hi hk
    obtain ⟨k, rfl⟩ : ∃ n, k = n + 1 := ⟨k - 1, by omega⟩
    simp only [laws_heldStringS.l0]
    by_cases hlt : i < l.length
    · have hx := hm i hlt
      rw [List.getElem?_eq_getElem hlt] at hx
      have e1 : (1 + (i : Int)) + 1 = 1 + ((i + 1 : Nat) : Int) := by omega
      have e2 : (i : Int) + 1 = ((i + 1 : Nat) : Int) := by omega
      rw [if_pos (by omega), if_pos (by omega), mt_f _ (by omega) (by omega) k (by omega), Option.bind_some, rdOf_at l i hlt, Option.some.inj hx, if_pos rfl, pw64 (x := 1 + (i : Int) + 1) (by omega) (by omega), pw64 (x := (i : Int) + 1) (by omega) (by omega), e1, e2]
      exact ih k (i + 1) (by omega) (by omega) (by omega)
    · rw [if_neg (by omega)]
      congr 1; omega
theorem verdict_len (all rest : List ByteArray) : (verdict all rest).2.length ≤ 16 := by
  unfold verdict
  split
  · simp
  · split
    · simp
    · simp; omega
theorem path_len (s : ByteArray) : (pathOf s).2.length ≤ 16 := by
  unfold pathOf
  repeat' split
  all_goals first | exact verdict_len _ _ | simp
theorem FnExactSplitPath : laws_FnExactSplitPath.Pure := by
  intro s _
  refine ⟨2000, ?_⟩
  have hl := path_len s
  obtain ⟨l', h1, h2, _, h4⟩ := mark_loop (pathOf s).2.length 2000 0 (pathOf s).2 1 (by omega) (by omega) (by omega) (by omega) (by omega)
  have hz : ((0 : Nat) : Int) = 0 := rfl
  have hh := held_loop l' (by omega) (fun j hj => by have := h4 j (by omega) (by omega); simpa using this) l'.length 2000 0 (by omega) (by omega) (by omega)
  rw [hz] at h1 hh
  have hh' : laws_heldPathResult.f 2000 (pathOf s).1 l' 1 = some (1 + (l'.length : Int)) := by
    unfold laws_heldPathResult.f laws_heldStringS.f
    have e : (1 + (0 : Int)) = 1 := rfl
    rw [e] at hh
    rw [hh, Option.bind_some, if_neg (by omega)]
  have hm' : laws_markPathResult.f 2000 (pathOf s).1 (pathOf s).2 1 = some (1 + (((pathOf s).2.length - 0 : Nat) : Int), l') := by
    unfold laws_markPathResult.f laws_markStringS.f
    rw [h1, Option.bind_some]
  unfold laws_FnExactSplitPath.f
  by_cases hbig : (s.size : Int) > 1048576
  · rw [if_pos hbig]
  · rw [if_neg hbig, spath s 2000 (by omega), Option.bind_some, ipath s 2000 (by omega), Option.bind_some, eqPath _ (by omega) 2000 (by omega), Option.bind_some, if_pos rfl, hm', Option.bind_some]
    simp only [Option.bind_some]
    rw [hh', Option.bind_some, if_neg (by omega), if_pos (by omega), eqPath _ (by omega) 2000 (by omega), Option.bind_some, if_pos rfl, Option.bind_some, if_neg (by omega), if_pos (by omega)]
end Go.Proofs.YtlnjphkcnkdmlaaDoor.Pure
