/- Plain laws: valid names, and the verdict on a path: the program's is the reference's. -/
import Derived.Test.YtlnjphkcnkdmlaaDoorPurePathA
import Derived.Test.YtlnjphkcnkdmlaaDoorPDx3
namespace Go.Proofs.YtlnjphkcnkdmlaaDoor.Pure
open Go.RowKit Go.Proofs.YtlnjphkcnkdmlaaDoor Go.Proofs.YtlnjphkcnkdmlaaDoor.PD Go.Proofs.YtlnjphkcnkdmlaaDoorW.PrintWords Go.Proofs.YtlnjphkcnkdmlaaDoorW.PrintLast
theorem okByte_eq (b : UInt8) : okByte b = (okB b && (b != 47)) := by
  unfold okByte okB
  have : (b != 47) = decide (b.toNat ≠ 47) := by
    by_cases h : b = 47
    · subst h; rfl
    · have h2 : b.toNat ≠ 47 := fun e => h (UInt8.toNat.inj e)
      rw [decide_eq_true h2]
      simpa using h
  rw [this, ← Bool.decide_and]
  congr 1
  rw [and_assoc]
theorem cut_len : ∀ l : List UInt8, (cutL l).length = l.count 47 + 1
  | [] => rfl
  | b :: l => by
    have ih := cut_len l
    obtain ⟨p, ps, hc⟩ := cutL_ne l
    by_cases h : b = 47
    · subst h; rw [cutL_hit]; simp [ih]
    · rw [cutL_miss b l h p ps hc, List.count_cons_of_ne (by simpa using h), ← ih, hc]; simp
theorem count_none (l : List UInt8) : (l.count 47 = 0) ↔ l.all (· != 47) = true := by
  induction l with
  | nil => simp
  | cons b l ih =>
    rw [List.all_cons]
    by_cases h : b = 47
    · subst h; simp
    · rw [List.count_cons_of_ne (by simpa using h), ih]; simp [h]
theorem all_and (l : List UInt8) : l.all okByte = (l.all okB && l.all (· != 47)) := by
  induction l with
  | nil => rfl
  | cons b l ih =>
    rw [List.all_cons, List.all_cons, List.all_cons, ih, okByte_eq]
    cases okB b <;> cases (b != 47) <;> simp
/-- A name that is one. -/
def validB (s : ByteArray) : Bool := if s.size < 1 then false else if 13 < s.size then false else if s.toList = ([46] : List UInt8) then false else if s.toList = ([46, 46] : List UInt8) then false else okFrom s 0
theorem iname (s : ByteArray) : impl_ValidName.f s = some (validB s) := by
  unfold impl_ValidName.f validB
  repeat' split
  all_goals rfl
theorem sname (s : ByteArray) (hs : s.size ≤ 4294967296) (k : Nat) (hk : s.size < k) : spec_ValidName.f k s = some (validB s) := by
  unfold spec_ValidName.f validB
  rw [sbytes s hs k hk, Option.bind_some]
  have hok : okFrom s 0 = (allB s && s.data.toList.all (· != 47)) := by rw [okFrom_first, all_and]; rfl
  by_cases ha : allB s = true
  · rw [if_pos ha]
    by_cases h1 : (s.size : Int) < 1
    · rw [if_pos h1, if_pos (by omega)]
    · rw [if_neg h1, if_neg (show ¬ s.size < 1 by omega)]
      by_cases h2 : (s.size : Int) > 13
      · rw [if_pos h2, if_pos (by omega)]
      · rw [if_neg h2, if_neg (show ¬ 13 < s.size by omega)]
        by_cases h3 : s.toList = ([46] : List UInt8)
        · rw [if_pos h3, if_pos h3]
        · rw [if_neg h3, if_neg h3]
          by_cases h4 : s.toList = ([46, 46] : List UInt8)
          · rw [if_pos h4, if_pos h4]
          · rw [if_neg h4, if_neg h4, spieces s hs k hk, Option.bind_some, hok, ha, Bool.true_and]
            congr 1
            have hl : (pieces s).length = s.data.toList.count 47 + 1 := by unfold pieces; rw [List.length_map, cut_len]
            rw [hl]
            cases hx : s.data.toList.all (· != 47) with
            | true =>
              have := (count_none s.data.toList).2 hx
              rw [this]; rfl
            | false =>
              have : s.data.toList.count 47 ≠ 0 := fun e => by rw [(count_none _).1 e] at hx; cases hx
              exact beq_eq_false_iff_ne.mpr (by omega)
  · rw [if_neg ha]
    have ha' : allB s = false := by simpa using ha
    rw [hok, ha', Bool.false_and]
    repeat' split
    all_goals rfl
/-- What is said of the first piece that is no name. -/
def firstBad : List ByteArray → Option Int
  | [] => none
  | p :: ps => if validB p = true then firstBad ps else some (if allB p = true ∧ 13 < p.size then 31 else 30)
def verdict (all rest : List ByteArray) : Int × List ByteArray := match firstBad rest with | some c => (c, []) | none => if all.length > 16 then (30, []) else (0, all)
theorem rdOf_at (l : List ByteArray) (i : Nat) (h : i < l.length) : rdOf ByteArray.empty l (i : Int) = l[i] := by
  unfold rdOf
  rw [Int.toNat_natCast, List.getD_eq_getElem?_getD, List.getElem?_eq_getElem h]
  rfl
theorem sverdict (ps : List ByteArray) (hl : ps.length ≤ 4294967296) (m : Nat) (hm : m ≤ 4294967296) (hp : ∀ p ∈ ps, p.size ≤ m) (d : Nat) : ∀ (k i : Nat), ps.length - i ≤ d → i ≤ ps.length → d + m + 1 < k → spec_SplitPath.l0 k ps (i : Int) = some (verdict ps (ps.drop i)) := by
  induction d with
  | zero =>
    intro k i hd hi hk
    obtain ⟨k, rfl⟩ : ∃ n, k = n + 1 := ⟨k - 1, by omega⟩
    simp only [spec_SplitPath.l0]
    rw [if_neg (by omega), List.drop_of_length_le (by omega)]
    unfold verdict firstBad
    by_cases h : (ps.length : Int) > 16
    · rw [if_pos h, if_pos (by omega)]
    · rw [if_neg h, if_neg (by omega)]
  | succ d ih =>
    intro k i hd hi hk
    obtain ⟨k, rfl⟩ : ∃ n, k = n + 1 := ⟨k - 1, by omega⟩
    by_cases hlt : i < ps.length
    · have e1 : ((i : Int) + 1) = ((i + 1 : Nat) : Int) := by omega
      have hpi := hp ps[i] (List.getElem_mem hlt)
      simp only [spec_SplitPath.l0]
      rw [if_pos (by omega), if_pos (by omega), rdOf_at ps i hlt, sname _ (by omega) k (by omega), Option.bind_some, pw64 (by omega) (by omega), e1, ih k (i + 1) (by omega) (by omega) (by omega), sbytes _ (by omega) k (by omega), Option.bind_some, List.drop_eq_getElem_cons hlt]
      unfold verdict
      rw [firstBad]
      by_cases hv : validB ps[i] = true
      · rw [if_pos hv, if_pos hv]
      · rw [if_neg hv, if_neg hv]
        by_cases ha : allB ps[i] = true
        · rw [if_pos ha]
          by_cases h13 : (ps[i].size : Int) > 13
          · rw [if_pos h13, if_pos ⟨ha, by omega⟩]
          · rw [if_neg h13, if_neg (fun h => by omega)]
        · rw [if_neg ha, if_neg (fun h => ha h.1)]
    · simp only [spec_SplitPath.l0]
      rw [if_neg (by omega), List.drop_of_length_le (by omega)]
      unfold verdict firstBad
      by_cases h : (ps.length : Int) > 16
      · rw [if_pos h, if_pos (by omega)]
      · rw [if_neg h, if_neg (by omega)]
theorem plain_f (b : UInt8) : impl_plainByte.f ((b.toNat : Int)) = some (okB b) := by
  unfold impl_plainByte.f okB
  by_cases h : ((b.toNat : Int)) ≥ 33
  · rw [if_pos h]
    congr 1
    rw [Bool.eq_iff_iff]; simp; omega
  · rw [if_neg h, decide_eq_false (by omega)]
theorem iplain (s : ByteArray) (hs : s.size ≤ 4294967296) (d : Nat) : ∀ (k i : Nat) (b : Bool), s.size - i ≤ d → d < k → impl_SplitPath.l1 k s b (s.size : Int) (i : Int) = some (if (b && (s.data.toList.drop i).all okB) = true then 31 else 30, []) := by
  induction d with
  | zero =>
    intro k i b hd hk
    obtain ⟨k, rfl⟩ : ∃ m, k = m + 1 := ⟨k - 1, by omega⟩
    simp only [impl_SplitPath.l1]
    rw [if_neg (by omega), List.drop_of_length_le (by rw [data_length]; omega)]
    cases b <;> rfl
  | succ d ih =>
    intro k i b hd hk
    obtain ⟨k, rfl⟩ : ∃ m, k = m + 1 := ⟨k - 1, by omega⟩
    simp only [impl_SplitPath.l1]
    by_cases hlt : i < s.size
    · have hdrop : s.data.toList.drop i = (s[i]'hlt) :: s.data.toList.drop (i + 1) := List.drop_eq_getElem_cons (by rw [data_length]; exact hlt)
      have e1 : ((i : Int) + 1) = ((i + 1 : Nat) : Int) := by omega
      cases b
      · rw [if_pos (by omega), if_neg (by decide), pw64 (x := (i : Int) + 1) (by omega) (by omega), e1, ih k (i + 1) _ (by omega) (by omega)]
        simp
      · rw [if_pos (by omega), if_pos rfl, if_pos (by omega), if_pos (by omega), bt_get s i hlt, plain_f, Option.bind_some, pw64 (x := (i : Int) + 1) (by omega) (by omega), e1, ih k (i + 1) _ (by omega) (by omega), hdrop, List.all_cons]
        simp
    · rw [if_neg (by omega), List.drop_of_length_le (by rw [data_length]; omega)]
      cases b <;> rfl
theorem iverdict (ps : List ByteArray) (hl : ps.length ≤ 4294967296) (m : Nat) (hm : m ≤ 4294967296) (hp : ∀ p ∈ ps, p.size ≤ m) (d : Nat) : ∀ (k i : Nat), ps.length - i ≤ d → i ≤ ps.length → d + m + 1 < k → impl_SplitPath.l0 k ps ps (ps.length : Int) (i : Int) = some (verdict ps (ps.drop i)) := by
  induction d with
  | zero =>
    intro k i hd hi hk
    obtain ⟨k, rfl⟩ : ∃ n, k = n + 1 := ⟨k - 1, by omega⟩
    simp only [impl_SplitPath.l0]
    rw [if_neg (by omega), List.drop_of_length_le (by omega)]
    unfold verdict firstBad
    by_cases h : (ps.length : Int) > 16
    · rw [if_pos h, if_pos (by omega)]
    · rw [if_neg h, if_neg (by omega)]
  | succ d ih =>
    intro k i hd hi hk
    obtain ⟨k, rfl⟩ : ∃ n, k = n + 1 := ⟨k - 1, by omega⟩
    by_cases hlt : i < ps.length
    · have e1 : ((i : Int) + 1) = ((i + 1 : Nat) : Int) := by omega
      have hpi := hp ps[i] (List.getElem_mem hlt)
      have hz : ((0 : Nat) : Int) = 0 := rfl
      have h1 := iplain ps[i] (by omega) ps[i].size k 0 true (by omega) (by omega)
      rw [hz] at h1
      simp only [impl_SplitPath.l0]
      rw [if_pos (by omega), if_pos (by omega), if_pos (by omega), rdOf_at ps i hlt, iname, Option.bind_some, pw64 (by omega) (by omega), e1, ih k (i + 1) (by omega) (by omega) (by omega), h1, List.drop_eq_getElem_cons hlt]
      unfold verdict
      rw [firstBad]
      by_cases hv : validB ps[i] = true
      · rw [if_pos hv, if_pos hv]
      · rw [if_neg hv, if_neg hv]
        by_cases h13 : (ps[i].size : Int) > 13
        · rw [if_pos h13]
          by_cases ha : allB ps[i] = true
          · rw [if_pos (by unfold allB at ha; simpa using ha), if_pos ⟨ha, by omega⟩]
          · rw [if_neg (by unfold allB at ha; simpa using ha), if_neg (fun h => ha h.1)]
        · rw [if_neg h13, if_neg (fun h => by omega)]
    · simp only [impl_SplitPath.l0]
      rw [if_neg (by omega), List.drop_of_length_le (by omega)]
      unfold verdict firstBad
      by_cases h : (ps.length : Int) > 16
      · rw [if_pos h, if_pos (by omega)]
      · rw [if_neg h, if_neg (by omega)]
theorem cut_total : ∀ (l : List UInt8) (p : List UInt8), p ∈ cutL l → p.length ≤ l.length
  | [], p, h => by simp [cutL] at h; subst h; simp
  | b :: l, p, h => by
    obtain ⟨q, qs, hc⟩ := cutL_ne l
    by_cases hb : b = 47
    · subst hb
      rw [cutL_hit] at h
      rcases List.mem_cons.1 h with rfl | h
      · simp
      · have := cut_total l p h; simp; omega
    · rw [cutL_miss b l hb q qs hc] at h
      rcases List.mem_cons.1 h with rfl | h
      · have := cut_total l q (by rw [hc]; exact List.mem_cons_self); simpa using this
      · have := cut_total l p (by rw [hc]; exact List.mem_cons_of_mem _ h); simp; omega
theorem cut_count (l : List UInt8) : (cutL l).length ≤ l.length + 1 := by
  rw [cut_len]
  have := List.count_le_length (a := (47 : UInt8)) (l := l)
  omega
theorem pieces_size (s p : ByteArray) (h : p ∈ pieces s) : p.size ≤ s.size := by
  unfold pieces at h
  obtain ⟨q, hq, rfl⟩ := List.mem_map.1 h
  have := cut_total _ q hq
  rw [data_length] at this
  rw [← data_length, mkS_data]
  exact this
theorem pieces_len (s : ByteArray) : (pieces s).length ≤ s.size + 1 := by
  unfold pieces
  rw [List.length_map]
  have := cut_count s.data.toList
  rwa [data_length] at this
/-- What SplitPath says. -/
def pathOf (s : ByteArray) : Int × List ByteArray := if s.size < 1 then (30, []) else if 240 < s.size then (30, []) else if bt s 0 ≠ 47 then (30, []) else if s.toList = ([47] : List UInt8) then (0, []) else verdict (pieces (s.extract 1 s.size)) (pieces (s.extract 1 s.size))
theorem sJ (s : ByteArray) (b : Bool) (h1 : b = false → 1 ≤ s.size ∧ s.size ≤ 240) (k : Nat) (hk : 1000 < k) : spec_SplitPath.j0 k s b = some (if b = true then (30, []) else if s.toList = ([47] : List UInt8) then (0, []) else verdict (pieces (s.extract 1 s.size)) (pieces (s.extract 1 s.size))) := by
  obtain ⟨k, rfl⟩ : ∃ n, k = n + 1 := ⟨k - 1, by omega⟩
  simp only [spec_SplitPath.j0]
  cases b with
  | true => rfl
  | false =>
    obtain ⟨h0, h2⟩ := h1 rfl
    have hz : (s.extract 1 s.size).size ≤ 240 := by rw [ByteArray.size_extract]; omega
    have hl := pieces_len (s.extract 1 s.size)
    have := sverdict (pieces (s.extract 1 s.size)) (by omega) 240 (by omega) (fun p hp => Nat.le_trans (pieces_size _ p hp) hz) 300 k 0 (by omega) (by omega) (by omega)
    have hz0 : ((0 : Nat) : Int) = 0 := rfl
    rw [hz0, List.drop_zero] at this
    rw [if_neg (show ¬ (false = true) by decide), if_neg (show ¬ (false = true) by decide)]
    by_cases h47 : s.toList = ([47] : List UInt8)
    · rw [if_pos h47, if_pos h47]
    · rw [if_neg h47, if_neg h47, if_pos (by omega), spieces _ (by omega) k (by omega), Option.bind_some, this]
theorem iJ (s : ByteArray) (b : Bool) (h1 : b = false → 1 ≤ s.size ∧ s.size ≤ 240) (k : Nat) (hk : 1000 < k) : impl_SplitPath.j0 k s b = some (if b = true then (30, []) else if s.toList = ([47] : List UInt8) then (0, []) else verdict (pieces (s.extract 1 s.size)) (pieces (s.extract 1 s.size))) := by
  obtain ⟨k, rfl⟩ : ∃ n, k = n + 1 := ⟨k - 1, by omega⟩
  simp only [impl_SplitPath.j0]
  cases b with
  | true => rfl
  | false =>
    obtain ⟨h0, h2⟩ := h1 rfl
    have hz : (s.extract 1 s.size).size ≤ 240 := by rw [ByteArray.size_extract]; omega
    have hl := pieces_len (s.extract 1 s.size)
    have := iverdict (pieces (s.extract 1 s.size)) (by omega) 240 (by omega) (fun p hp => Nat.le_trans (pieces_size _ p hp) hz) 300 k 0 (by omega) (by omega) (by omega)
    have hz0 : ((0 : Nat) : Int) = 0 := rfl
    rw [hz0, List.drop_zero] at this
    rw [if_neg (show ¬ (false = true) by decide), if_neg (show ¬ (false = true) by decide)]
    by_cases h47 : s.toList = ([47] : List UInt8)
    · rw [if_pos h47, if_pos h47]
    · rw [if_neg h47, if_neg h47, if_pos (by omega), ipieces _ (by omega), Option.bind_some, this]
theorem ba_toList (s : ByteArray) : s.toList = [] ↔ s.size = 0 := by
  constructor
  · intro h
    rcases Nat.eq_zero_or_pos s.size with h0 | h0
    · exact h0
    · have : s.data.toList = [] := by
        rw [← h]
        exact (ByteArray.toList_eq s).symm
      have := data_length s
      simp_all
  · intro h
    have : s = mkS [] := ba_ext (by rw [mkS_data]; exact List.eq_nil_of_length_eq_zero (by rw [data_length]; exact h))
    subst this; rw [ByteArray.toList_eq]; simp [mkS]
theorem spath (s : ByteArray) (k : Nat) (hk : 1000 < k) : spec_SplitPath.f k s = some (pathOf s) := by
  unfold spec_SplitPath.f pathOf
  by_cases h1 : (s.size : Int) < 1
  · rw [if_pos h1, sJ _ _ (fun h => by cases h) k hk, if_pos rfl, if_pos (by omega)]
  · rw [if_neg h1, if_neg (show ¬ s.size < 1 by omega)]
    by_cases h2 : (s.size : Int) > 240
    · rw [if_pos h2, sJ _ _ (fun h => by cases h) k hk, if_pos rfl, if_pos (by omega)]
    · rw [if_neg h2, if_neg (show ¬ 240 < s.size by omega), if_pos (by omega), sJ _ _ (fun _ => ⟨by omega, by omega⟩) k hk]
      by_cases h3 : bt s 0 = 47
      · rw [h3, if_neg (show ¬ (((47 : Int) != 47) = true) by decide), if_neg (show ¬ ((47 : Int) ≠ 47) from fun h => h rfl)]
      · rw [if_pos (by simp [h3]), if_pos h3]
theorem ipath (s : ByteArray) (k : Nat) (hk : 1000 < k) : impl_SplitPath.f k s = some (pathOf s) := by
  unfold impl_SplitPath.f pathOf
  by_cases h1 : s.toList = ([] : List UInt8)
  · rw [if_pos h1, iJ _ _ (fun h => by cases h) k hk, if_pos rfl, if_pos (by have := (ba_toList s).1 h1; omega)]
  · have h1' : s.size ≠ 0 := fun e => h1 ((ba_toList s).2 e)
    rw [if_neg h1, if_neg (show ¬ s.size < 1 by omega)]
    by_cases h2 : (s.size : Int) > 240
    · rw [if_pos h2, iJ _ _ (fun h => by cases h) k hk, if_pos rfl, if_pos (by omega)]
    · rw [if_neg h2, if_neg (show ¬ 240 < s.size by omega), if_pos (by omega), iJ _ _ (fun _ => ⟨by omega, by omega⟩) k hk]
      by_cases h3 : bt s 0 = 47
      · rw [h3, if_neg (show ¬ (((47 : Int) != 47) = true) by decide), if_neg (show ¬ ((47 : Int) ≠ 47) from fun h => h rfl)]
      · rw [if_pos (by simp [h3]), if_pos h3]
end Go.Proofs.YtlnjphkcnkdmlaaDoor.Pure
