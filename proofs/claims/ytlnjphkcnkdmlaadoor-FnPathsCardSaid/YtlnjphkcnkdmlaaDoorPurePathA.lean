/- Plain laws: a path's pieces by strings.Split and by the reference's cut; a name's bytes. -/
import Derived.Test.YtlnjphkcnkdmlaaDoorPDx1
import Derived.Test.YtlnjphkcnkdmlaaDoorGivenN
import Derived.Test.YtlnjphkcnkdmlaaDoorGivenS
import Derived.Lib.SplitLaws
namespace Go.Proofs.YtlnjphkcnkdmlaaDoor.Pure
open Go.RowKit Go.Proofs.YtlnjphkcnkdmlaaDoor Go.Proofs.YtlnjphkcnkdmlaaDoor.PD Go.Proofs.YtlnjphkcnkdmlaaDoorW.PrintWords Go.Proofs.YtlnjphkcnkdmlaaDoorW.PrintLast
theorem pw64 {x : Int} (h0 : 0 ≤ x) (h1 : x ≤ 9223372036854775807) : wrap64 x = x := by unfold wrap64; omega
def mkS (l : List UInt8) : ByteArray := ⟨l.toArray⟩
theorem mkS_data (l : List UInt8) : (mkS l).data.toList = l := by simp [mkS]
theorem ba_ext {a b : ByteArray} (h : a.data.toList = b.data.toList) : a = b := by
  obtain ⟨⟨a⟩⟩ := a
  obtain ⟨⟨b⟩⟩ := b
  have : a = b := h
  subst this
  rfl
theorem mkS_of (s : ByteArray) : mkS s.data.toList = s := ba_ext (mkS_data _)
/-- Bytes cut at each stroke. -/
def cutL : List UInt8 → List (List UInt8)
  | [] => [[]]
  | b :: l => if b = 47 then [] :: cutL l else match cutL l with | [] => [[b]] | p :: ps => (b :: p) :: ps
theorem cutL_ne (l : List UInt8) : ∃ p ps, cutL l = p :: ps := by
  cases l with
  | nil => exact ⟨_, _, rfl⟩
  | cons b l =>
    unfold cutL
    split
    · exact ⟨_, _, rfl⟩
    · split
      · exact ⟨_, _, rfl⟩
      · exact ⟨_, _, rfl⟩
theorem cutL_hit (l : List UInt8) : cutL (47 :: l) = [] :: cutL l := by rw [cutL, if_pos rfl]
theorem cutL_miss (b : UInt8) (l : List UInt8) (h : b ≠ 47) (p : List UInt8) (ps : List (List UInt8)) (hc : cutL l = p :: ps) : cutL (b :: l) = (b :: p) :: ps := by rw [cutL, if_neg h, hc]
theorem split_cut : ∀ l : List UInt8, Lib.splitK [47] 0 (Lib.count l [47]) l = cutL l
  | [] => by rw [Lib.count_miss (by simp [Lib.index])]; rfl
  | b :: l => by
    have ih := split_cut l
    by_cases h : b = 47
    · subst h
      have hix : Lib.index (47 :: l) [47] = ((0 : Nat) : Int) := by rw [Lib.index]; simp [List.isPrefixOf]
      rw [Lib.count_cons_eq, Nat.add_comm, Lib.splitK, hix, if_neg (by decide), cutL_hit, ← ih]
      simp
    · have hp : ([47] : List UInt8).isPrefixOf (b :: l) = false := by simp [List.isPrefixOf, Ne.symm h]
      have hix : Lib.index (b :: l) [47] = if Lib.index l [47] == -1 then -1 else Lib.index l [47] + 1 := by rw [Lib.index, hp]; simp
      rw [Lib.count_cons_ne b 47 l h]
      by_cases hm : Lib.index l [47] = -1
      · rw [Lib.count_miss hm] at ih ⊢
        rw [cutL_miss b l h l [] (by rw [← ih]; rfl)]
        rfl
      · have hge := Lib.index_ge l [47]
        obtain ⟨j, hj⟩ : ∃ j : Nat, Lib.index l [47] = j := ⟨(Lib.index l [47]).toNat, by omega⟩
        have hix' : Lib.index (b :: l) [47] = ((j + 1 : Nat) : Int) := by rw [hix, if_neg (fun e => hm (beq_iff_eq.1 e)), hj]; omega
        have hm1 : ¬ ((j : Int) == -1) = true := fun e => by have := beq_iff_eq.1 e; omega
        have hm2 : ¬ (((j + 1 : Nat) : Int) == -1) = true := fun e => by have := beq_iff_eq.1 e; omega
        rw [Lib.count_hit (by simp) hj, Nat.add_comm, Lib.splitK, hj, if_neg hm1] at ih
        rw [Lib.count_hit (by simp) hj, Nat.add_comm, Lib.splitK, hix', if_neg hm2, cutL_miss b l h _ _ ih.symm]
        simp
/-- The pieces of a string. -/
def pieces (s : ByteArray) : List ByteArray := (cutL s.data.toList).map mkS
theorem map_mk {l : List ByteArray} {r : List (List UInt8)} (h : l.map (·.data.toList) = r) : l = r.map mkS := by
  subst h
  rw [List.map_map]
  have : ∀ x ∈ l, ((mkS ∘ fun x => x.data.toList) x) = x := fun x _ => mkS_of x
  exact (List.map_congr_left this).trans (List.map_id' l) |>.symm
theorem ipieces (s : ByteArray) (hs : s.size < 4294967281) : strings_Split.f s ⟨#[47]⟩ = some (pieces s) := by
  unfold strings_Split.f pieces
  rw [if_pos ⟨hs, by decide⟩]
  congr 1
  refine map_mk ?_
  rw [Lib.splitB_data]
  exact split_cut _
theorem bt_get (s : ByteArray) (i : Nat) (h : i < s.size) : bt s (i : Int) = ((s[i]'h).toNat : Int) := by
  rw [← bt_at s i (by simpa using h)]
  simp
theorem extract_mk (s : ByteArray) (a b : Nat) : s.extract a b = mkS ((s.data.toList.take b).drop a) := by
  apply ba_ext
  rw [mkS_data, Lib.extract_data, List.drop_take]
theorem byte47 (b : UInt8) : ((b.toNat : Int) = 47) ↔ b = 47 := by
  constructor
  · intro h
    have h' : b.toNat = 47 := by omega
    exact UInt8.toNat.inj h'
  · rintro rfl; rfl
theorem cut_loop (s : ByteArray) (hs : s.size ≤ 4294967296) (d : Nat) : ∀ (k i st : Nat) (acc : List ByteArray) (p : List UInt8) (ps : List (List UInt8)), s.size - i ≤ d → i ≤ s.size → st ≤ i → acc.length ≤ st → cutL (s.data.toList.drop i) = p :: ps → d < k →
    spec_l10Cut.l0 k s 47 acc (st : Int) (i : Int) = some (acc ++ ((((s.data.toList.take i).drop st) ++ p) :: ps).map mkS) := by
  induction d with
  | zero =>
    intro k i st acc p ps hd hi hst ha hc hk
    obtain ⟨k, rfl⟩ : ∃ m, k = m + 1 := ⟨k - 1, by omega⟩
    have he : i = s.size := by omega
    rw [List.drop_of_length_le (by rw [data_length]; omega)] at hc
    simp only [cutL, List.cons.injEq] at hc
    obtain ⟨rfl, rfl⟩ := hc
    simp only [spec_l10Cut.l0]
    rw [if_neg (by omega), if_pos (by omega), if_pos (by omega), if_pos (by omega), extract_mk, he]
    simp
  | succ d ih =>
    intro k i st acc p ps hd hi hst ha hc hk
    obtain ⟨k, rfl⟩ : ∃ m, k = m + 1 := ⟨k - 1, by omega⟩
    by_cases hlt : i < s.size
    · have hdrop : s.data.toList.drop i = (s[i]'hlt) :: s.data.toList.drop (i + 1) := List.drop_eq_getElem_cons (by rw [data_length]; exact hlt)
      have htake : s.data.toList.take (i + 1) = s.data.toList.take i ++ [s[i]'hlt] := List.take_succ_eq_append_getElem (by rw [data_length]; exact hlt)
      obtain ⟨p', ps', hc'⟩ := cutL_ne (s.data.toList.drop (i + 1))
      have e1 : ((i : Int) + 1) = ((i + 1 : Nat) : Int) := by omega
      simp only [spec_l10Cut.l0]
      rw [if_pos (by omega), if_pos (by omega), bt_get s i hlt, pw64 (x := (i : Int) + 1) (by omega) (by omega), e1]
      by_cases hb : (s[i]'hlt) = 47
      · rw [if_pos ((byte47 _).2 hb), if_pos (by omega), if_pos (by omega), if_pos (by omega), if_pos (by omega), ih k (i + 1) (i + 1) _ p' ps' (by omega) (by omega) (by omega) (by simp; omega) hc' (by omega)]
        rw [hdrop, hb, cutL_hit, hc'] at hc
        simp only [List.cons.injEq] at hc
        obtain ⟨rfl, rfl⟩ := hc
        rw [Int.toNat_natCast, Int.toNat_natCast, extract_mk, List.drop_of_length_le (l := s.data.toList.take (i + 1)) (by rw [List.length_take]; omega)]
        simp
      · rw [if_neg (fun h => hb ((byte47 _).1 h)), ih k (i + 1) st acc p' ps' (by omega) (by omega) (by omega) ha hc' (by omega)]
        rw [hdrop, cutL_miss _ _ hb _ _ hc'] at hc
        simp only [List.cons.injEq] at hc
        obtain ⟨rfl, rfl⟩ := hc
        rw [htake, List.drop_append_of_le_length (by rw [List.length_take, data_length]; omega)]
        simp
    · have he : i = s.size := by omega
      rw [List.drop_of_length_le (by rw [data_length]; omega)] at hc
      simp only [cutL, List.cons.injEq] at hc
      obtain ⟨rfl, rfl⟩ := hc
      simp only [spec_l10Cut.l0]
      rw [if_neg (by omega), if_pos (by omega), if_pos (by omega), if_pos (by omega), extract_mk, he]
      simp
theorem spieces (s : ByteArray) (hs : s.size ≤ 4294967296) (k : Nat) (hk : s.size < k) : spec_l10Cut.f k s 47 = some (pieces s) := by
  unfold spec_l10Cut.f pieces
  obtain ⟨p, ps, hc⟩ := cutL_ne s.data.toList
  have := cut_loop s hs s.size k 0 0 [] p ps (by omega) (by omega) (by omega) (by simp) (by simpa using hc) hk
  rw [hc]
  simpa using this
/-- All bytes are signs that can be seen. -/
def okB (b : UInt8) : Bool := decide (33 ≤ b.toNat ∧ b.toNat ≤ 126)
def allB (s : ByteArray) : Bool := s.data.toList.all okB
theorem bytes_loop (s : ByteArray) (hs : s.size ≤ 4294967296) (d : Nat) : ∀ (k i : Nat), s.size - i ≤ d → d < k → spec_l10Bytes.l0 k s (i : Int) = some ((s.data.toList.drop i).all okB) := by
  induction d with
  | zero =>
    intro k i hd hk
    obtain ⟨k, rfl⟩ : ∃ m, k = m + 1 := ⟨k - 1, by omega⟩
    simp only [spec_l10Bytes.l0]
    rw [if_neg (by omega), List.drop_of_length_le (by rw [data_length]; omega)]
    rfl
  | succ d ih =>
    intro k i hd hk
    obtain ⟨k, rfl⟩ : ∃ m, k = m + 1 := ⟨k - 1, by omega⟩
    simp only [spec_l10Bytes.l0]
    by_cases hlt : i < s.size
    · have hdrop : s.data.toList.drop i = (s[i]'hlt) :: s.data.toList.drop (i + 1) := List.drop_eq_getElem_cons (by rw [data_length]; exact hlt)
      have e1 : ((i : Int) + 1) = ((i + 1 : Nat) : Int) := by omega
      rw [if_pos (by omega), if_pos (by omega), bt_get s i hlt, pw64 (x := (i : Int) + 1) (by omega) (by omega), e1, ih k (i + 1) (by omega) (by omega), hdrop, List.all_cons]
      unfold okB
      by_cases h1 : (((s[i]'hlt).toNat : Int)) < 33
      · rw [if_pos h1, decide_eq_false (by omega)]; rfl
      · rw [if_neg h1]
        by_cases h2 : (((s[i]'hlt).toNat : Int)) > 126
        · rw [if_pos h2, decide_eq_false (by omega)]; rfl
        · rw [if_neg h2, decide_eq_true (by omega)]; rfl
    · rw [if_neg (by omega), List.drop_of_length_le (by rw [data_length]; omega)]
      rfl
theorem sbytes (s : ByteArray) (hs : s.size ≤ 4294967296) (k : Nat) (hk : s.size < k) : spec_l10Bytes.f k s = some (allB s) := bytes_loop s hs s.size k 0 (by omega) hk
end Go.Proofs.YtlnjphkcnkdmlaaDoor.Pure
