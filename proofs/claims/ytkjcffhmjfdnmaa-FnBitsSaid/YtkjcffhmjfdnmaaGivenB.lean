/- impl.BitRuns' contract in the print's own shape. -/
import Derived.Test.YtkjcffhmjfdnmaaBitRuns
namespace Go.Proofs.Ytkjcffhmjfdnmaa
open Go.RowKit Go.Proofs.YtkjcffhmjfdnmaaW.PrintWords Go.Proofs.YtkjcffhmjfdnmaaW.PrintLast Go.Proofs.YtkjcffhmjfdnmaaW.PrintMore
/-- Bit i of a row of bytes. -/
def bitN (l : List Int) (i : Nat) : Bool := (l.getD (i / 8) 0).toNat / 2 ^ (i % 8) % 2 == 1
def mkRun (x : Nat × Nat) : PB.S35 := ⟨x.1, x.2⟩
def bitsLen (l : List Int) : Nat := if l.length > 2048 then 0 else l.length * 8
def loN (a1 : Int) : Nat := (if a1 < 0 then 0 else a1).toNat
def hiN (l : List Int) (a2 : Int) : Nat := (if (bitsLen l : Int) < a2 then (bitsLen l : Int) else a2).toNat
theorem bitlen_f (l : List Int) : PB.impl_bitlen.f l = some ((bitsLen l : Nat) : Int) := by
  unfold PB.impl_bitlen.f bitsLen
  by_cases h : l.length > 2048
  · rw [if_pos (by omega), if_pos h]; rfl
  · rw [if_neg (by omega), if_neg h]
    have : wrap64 ((l.length : Int) * 8) = (l.length : Int) * 8 := by unfold wrap64; omega
    rw [this]; simp
def bytesOk (l : List Int) : Bool := l.all fun x => decide (0 ≤ x ∧ x ≤ 255)
theorem bytesOk_get (l : List Int) (h : bytesOk l = true) (j : Nat) : 0 ≤ l.getD j 0 ∧ l.getD j 0 ≤ 255 := by
  unfold bytesOk at h
  rw [List.all_eq_true] at h
  by_cases hj : j < l.length
  · have := h (l[j]) (List.getElem_mem hj)
    rw [List.getD_eq_getElem?_getD, List.getElem?_eq_getElem hj]
    simpa using this
  · rw [List.getD_eq_getElem?_getD, List.getElem?_eq_none (by omega)]
    simp
theorem and_one_u8 (x : Int) (h0 : 0 ≤ x) (h1 : x ≤ 255) : Go.bits .and .u8 x 1 = x % 2 := by
  have : ∀ n : Fin 256, Go.bits .and .u8 (n.val : Int) 1 = (n.val : Int) % 2 := by decide +kernel
  have := this ⟨x.toNat, by omega⟩
  simpa [Int.toNat_of_nonneg h0] using this
theorem bitGet_f (l : List Int) (hl : bytesOk l = true) (i : Nat) (hi : i < bitsLen l) : PB.impl_BitGet.f l (i : Int) = some (bitN l i) := by
  have hlen : bitsLen l = l.length * 8 ∧ l.length ≤ 2048 := by
    unfold bitsLen at hi ⊢
    by_cases h : l.length > 2048
    · rw [if_pos h] at hi; omega
    · rw [if_neg h]; omega
  unfold PB.impl_BitGet.f
  rw [if_pos (by omega), bitlen_f]
  simp only [Option.bind_some]
  rw [if_pos (by omega)]
  have e1 : wrap64 (Int.tdiv (i : Int) 8) = ((i / 8 : Nat) : Int) := by
    rw [Int.tdiv_eq_ediv_of_nonneg (by omega)]; unfold wrap64; omega
  have e2 : Int.tmod (i : Int) 8 = ((i % 8 : Nat) : Int) := by rw [Int.tmod_eq_emod_of_nonneg (by omega)]; omega
  rw [e1, e2, if_pos (by omega), if_pos (by omega), if_pos (by omega)]
  congr 1
  obtain ⟨h0, h1⟩ := bytesOk_get l hl (i / 8)
  have hm : min (((i % 8 : Nat) : Int).toNat) IntKind.u8.bits = i % 8 := by simp [IntKind.bits]; omega
  unfold bitN rd shr
  rw [hm, Int.toNat_natCast]
  obtain ⟨x, hx⟩ := Int.eq_ofNat_of_zero_le h0
  rw [hx]
  have hc : ((x : Nat) : Int) / 2 ^ (i % 8) = ((x / 2 ^ (i % 8) : Nat) : Int) := by simp
  have hle : x / 2 ^ (i % 8) ≤ x := Nat.div_le_self _ _
  rw [hc, and_one_u8 _ (Int.natCast_nonneg _) (by omega), Int.toNat_natCast]
  have : ((x / 2 ^ (i % 8) : Nat) : Int) % 2 = ((x / 2 ^ (i % 8) % 2 : Nat) : Int) := by omega
  rw [this]
  generalize x / 2 ^ (i % 8) % 2 = y
  cases hy : (y == 1)
  · simp at hy ⊢; omega
  · simp at hy ⊢; omega
theorem reps_runs (l : List (Nat × Nat)) (w : World) (base : Nat) (ok : Nat → Prop) : Reps (PB.k35.M w base ok) 2 (l.map mkRun) (cellsOf l) := by
  have key : ∀ m, m ≤ l.length → Reps (PB.k35.M w base ok) 2 ((l.take m).map mkRun) (cellsOf (l.take m)) := by
    intro m
    induction m with
    | zero => intro _; exact Reps.none _ _
    | succ m ih =>
      intro hm
      have e : l.take (m + 1) = l.take m ++ [l[m]] := by rw [List.take_succ_eq_append_getElem (by omega)]
      rw [e, ← cellsOf_snoc, List.map_append]
      exact Reps.snoc (ih (by omega)) (PB.k35_mkM w base ok (mkRun l[m])) rfl
  have := key l.length (Nat.le_refl _)
  rwa [List.take_length] at this
namespace PB
def impl_BitRuns.f (l0 : List Int) (a1 a2 : Int) : Option (List S35) :=
  if bytesOk l0 then some ((runsN (bitN l0) (hiN l0 a2) (hiN l0 a2) (loN a1)).map mkRun) else none
theorem impl_BitRuns.calls (A0 : Option Addr) (c0 : Nat) (l0 : List Int) (a1 : Int) (a2 : Int) (r : List (S35)) (w : World) (hr0 : Kd.C (Kd.int .u8) w A0 l0.length l0) (hc0 : l0.length ≤ c0) (h : impl_BitRuns.f l0 a1 a2 = some r) :
    Calls Try.prog 7 #[.slice A0 l0.length c0, .int .i64 a1, .int .i64 a2] w fun e w' => ∃ v0_ : Value, e = .returned (v0_) ∧ Kd.R k35 35 w' w.heap.size (fun _ => True) v0_ r ∧ Below w.heap.size w w' := by
  unfold impl_BitRuns.f at h
  by_cases hb : bytesOk l0 = true
  · rw [if_pos hb] at h
    obtain rfl := Option.some.inj h
    have hbl : bitsLen l0 ≤ 16384 := by unfold bitsLen; split <;> omega
    have hhi : hiN l0 a2 ≤ bitsLen l0 := by unfold hiN; split <;> omega
    refine (callsIn_wide.1 (bitRuns_in 3 (by omega) A0 c0 l0 (bitN l0) a1 a2 (bitsLen l0) (loN a1) (hiN l0 a2) (hiN l0 a2) _ (Lib.hid ?_) w (by omega) (by omega) hr0 hc0 (fun i hi => bitGet_f l0 hb i (by omega)) (bitlen_f l0) ?_ rfl)).mono ?_
    · intro k; unfold hiN; omega
    · unfold loN; split <;> omega
    · rintro e w' ⟨v, rfl, ho, hB⟩
      refine ⟨v, rfl, ⟨fun _ _ => trivial, cellsOf (runsN (bitN l0) (hiN l0 a2) (hiN l0 a2) (loN a1)), ?_, reps_runs _ _ _ _⟩, hB⟩
      rw [List.length_map]; exact ho
  · rw [if_neg hb] at h; cases h
end PB
end Go.Proofs.Ytkjcffhmjfdnmaa
