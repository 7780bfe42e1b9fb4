/- Plain laws: the heads of journal blocks, padding, and commit blocks: the program's bytes are the reference's. -/
import Derived.Test.YticeddapnafomaaDoorPureNum
import Derived.Test.YticeddapnafomaaDoorDC
import Derived.Test.YticeddapnafomaaDoorPEx3
namespace Go.Proofs.YticeddapnafomaaDoor.Pure
open Go.RowKit Go.Proofs.YticeddapnafomaaDoor Go.Proofs.YticeddapnafomaaDoor.PE Go.Proofs.YticeddapnafomaaDoorW.PrintWords Go.Proofs.YticeddapnafomaaDoorW.PrintLast Go.Proofs.YticeddapnafomaaDoorW.PrintMore
def hd (kind c s : Int) : List Int := [106, 108, 111, 103, kind % 256, 0] ++ be 2 c ++ be 4 s
theorem hd_length (kind c s : Int) : (hd kind c s).length = 12 := by simp [hd, be_length]
theorem shead (kind c s : Int) (c0 : 0 ≤ c) (c1 : c < 65536) (s0 : 0 ≤ s) (s1 : s < 4294967296) (k : Nat) (hk : 6 < k) : spec_l3Head.f k kind c s = some (hd kind c s) := by
  unfold spec_l3Head.f spec_l3Magic.f
  have h2 := sput 2 c c0 (by omega) (by simpa using c1) (by omega) (by omega) k (by omega)
  have h4 := sput 4 s s0 (by omega) (by simpa using s1) (by omega) (by omega) k (by omega)
  have e2 : ((2 : Nat) : Int) = 2 := rfl
  have e4 : ((4 : Nat) : Int) = 4 := rfl
  rw [e2] at h2
  rw [e4] at h4
  rw [Option.bind_some, Option.bind_some, if_pos (by simp), Option.bind_some, h2, Option.bind_some, if_pos (by simp [be_length]), Option.bind_some, h4, Option.bind_some, if_pos (by simp [be_length])]
  simp [hd]
theorem scopy (l : List Int) (hl : l.length < 140737488355328) : spec_l1Copy.f l = some l := by
  unfold spec_l1Copy.f
  rw [Option.bind_some, if_pos (by simpa using hl)]
  simp
theorem sjoin (a b : List Int) (hl : a.length + b.length < 140737488355328) : spec_l2Join.f a b = some (a ++ b) := by
  unfold spec_l2Join.f
  rw [scopy a (by omega), Option.bind_some, if_pos hl]
theorem spad (l : List Int) (hl : l.length ≤ 64) : spec_l3Pad.f l = some (l ++ List.replicate (64 - l.length) 0) := by
  unfold spec_l3Pad.f spec_l2Zero.f
  have e : wrap64 (64 - (l.length : Int)) = ((64 - l.length : Nat) : Int) := by rw [nw64 (by omega) (by omega)]; omega
  rw [e, if_pos (by omega), Int.toNat_natCast, if_pos (by omega), Option.bind_some, sjoin l _ (by simp; omega)]
  rfl
theorem iputs (n : Nat) (v : Int) (h0 : 0 ≤ v) (h1 : v < 256 ^ n) (hn0 : 1 ≤ n) (hn : n < 8) (l : List Int) (a : Nat) (ha : a + n ≤ l.length) (k : Nat) (hk : n + 1 < k) : impl_put.f k l (a : Int) v (n : Int) = some (l.take a ++ be n v ++ l.drop (a + n)) := by
  unfold impl_put.f
  rw [iput n v h0 h1 hn0 hn k hk, Option.bind_some, be_length, if_pos ⟨by omega, by omega, by omega⟩, Int.toNat_natCast]
theorem cut_put (p q : List Int) (x : List Int) (l : List Int) (hl : l = p ++ q) (a n : Nat) (ha : a = p.length) : l.take a ++ x ++ l.drop (a + n) = p ++ x ++ q.drop n := by
  subst hl; subst ha
  simp
theorem ihead (kind c s : Int) (c0 : 0 ≤ c) (c1 : c < 65536) (s0 : 0 ≤ s) (s1 : s < 4294967296) (k : Nat) (hk : 6 < k) : impl_head.f k kind c s = some (hd kind c s ++ List.replicate 52 0) := by
  unfold impl_head.f
  have h2 := iputs 2 c c0 (by simpa using c1) (by omega) (by omega) (headRow kind) 6 (by simp [headRow]) k (by omega)
  have e2 : ((2 : Nat) : Int) = 2 := rfl
  have e6 : ((6 : Nat) : Int) = 6 := rfl
  have e4 : ((4 : Nat) : Int) = 4 := rfl
  have e8 : ((8 : Nat) : Int) = 8 := rfl
  rw [e2, e6, cut_put ([106, 108, 111, 103, kind % 256, 0]) (List.replicate 58 0) _ _ (by rfl) 6 2 rfl] at h2
  rw [h2, Option.bind_some]
  have h4 := iputs 4 s s0 (by simpa using s1) (by omega) (by omega) ([106, 108, 111, 103, kind % 256, 0] ++ be 2 c ++ (List.replicate 58 0).drop 2) 8 (by simp [be_length]) k (by omega)
  rw [e4, e8, cut_put ([106, 108, 111, 103, kind % 256, 0] ++ be 2 c) ((List.replicate 58 0).drop 2) _ _ rfl 8 4 (by simp [be_length])] at h4
  rw [h4]
  simp [hd]
theorem goodSeq (s : Int) : spec_l3GoodSeq.f s = some (decide (1 ≤ s ∧ s ≤ 4294967295)) := by
  unfold spec_l3GoodSeq.f
  by_cases h : 1 ≤ s
  · rw [if_pos h]; simp [h]
  · rw [if_neg h]; simp [h]
theorem inIn (v lo hi : Int) : impl_in.f v lo hi = some (decide (lo ≤ v ∧ v ≤ hi)) := by
  unfold impl_in.f
  by_cases h : lo ≤ v
  · rw [if_pos h]; simp [h]
  · rw [if_neg h]; simp [h]
theorem magicS : (strOfNums [106, 108, 111, 103]).toList = ([106, 108, 111, 103] : List UInt8) := by decide +kernel
def kindOf (l : List Int) : Int := if l.length = 64 ∧ (strOfNums (l.take 4)).toList = ([106, 108, 111, 103] : List UInt8) ∧ 1 ≤ rd l 4 ∧ rd l 4 ≤ 4 then rd l 4 else 0
theorem kind_len {l : List Int} (h : kindOf l ≠ 0) : l.length = 64 := by
  unfold kindOf at h
  split at h
  · rename_i h'; exact h'.1
  · exact absurd rfl h
theorem sKind (l : List Int) : spec_BlockKind.f l = some (kindOf l) := by
  unfold spec_BlockKind.f spec_l3Begins.f spec_l3Magic.f spec_l2Same.f kindOf
  by_cases h4 : (l.length : Int) ≥ 4
  · rw [if_pos h4, if_pos (by omega), Option.bind_some, Option.bind_some, Option.bind_some, magicS]
    by_cases h64 : (l.length : Int) = 64
    · rw [if_pos h64]
      by_cases hm : (strOfNums (l.take 4)).toList = ([106, 108, 111, 103] : List UInt8)
      · rw [hm, if_pos (by decide), if_pos (by omega)]
        by_cases h1 : rd l 4 < 1
        · rw [if_pos h1, if_neg (fun h => by omega)]
        · rw [if_neg h1]
          by_cases h5 : rd l 4 > 4
          · rw [if_pos h5, if_neg (fun h => by omega)]
          · rw [if_neg h5, if_pos ⟨by omega, rfl, by omega, by omega⟩, nw64 (by omega) (by omega)]
      · rw [if_neg (by simpa using hm), if_neg (fun h => hm h.2.1)]
    · rw [if_neg h64, if_neg (fun h => by omega)]
  · rw [if_neg h4, Option.bind_some, if_neg (by omega), if_neg (fun h => by omega)]
theorem iKind (l : List Int) : impl_BlockKind.f l = some (kindOf l) := by
  unfold impl_BlockKind.f kindOf
  by_cases h64 : (l.length : Int) = 64
  · rw [if_pos h64, if_pos (by omega)]
    by_cases hm : (strOfNums (l.take 4)).toList = ([106, 108, 111, 103] : List UInt8)
    · rw [if_pos hm, if_pos (by omega)]
      by_cases h1 : rd l 4 < 1
      · rw [if_pos h1, if_neg (fun h => by omega)]
      · rw [if_neg h1]
        by_cases h5 : rd l 4 > 4
        · rw [if_pos h5, if_neg (fun h => by omega)]
        · rw [if_neg h5, if_pos ⟨by omega, hm, by omega, by omega⟩, nw64 (by omega) (by omega)]
    · rw [if_neg hm, if_neg (fun h => hm h.2.1)]
  · rw [if_neg h64, if_neg (fun h => by omega)]
end Go.Proofs.YticeddapnafomaaDoor.Pure
