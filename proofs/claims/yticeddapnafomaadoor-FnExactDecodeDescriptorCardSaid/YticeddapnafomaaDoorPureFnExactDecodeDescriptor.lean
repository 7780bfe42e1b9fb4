/- The program's DecodeDescriptor answers what the reference's does, at every input of bytes, and its rows share no memory with the law's own marks: the plain law. -/
import Derived.OpenShut
import Derived.Test.YticeddapnafomaaDoorPEx16
import Derived.Test.YticeddapnafomaaDoorPureDesc
import Derived.Test.YticeddapnafomaaDoorPureBytes
namespace Go.Proofs.YticeddapnafomaaDoor.Pure
open Go.RowKit Go.Proofs.YticeddapnafomaaDoor.PE Go.Proofs.YticeddapnafomaaDoorW.PrintWords Go.Proofs.YticeddapnafomaaDoorW.PrintLast Go.Proofs.YticeddapnafomaaDoorW.PrintMore
theorem rdTag (ts : List S67) (i : Nat) : rd_T67 ts (i : Int) = ts.getD i z67 := by unfold rd_T67; rw [Int.toNat_natCast]
theorem eqTag_self (t : S67) : laws_eqTag.f t.f0 t.f1 t.f0 t.f1 = some true := by unfold laws_eqTag.f; simp
theorem eqTag_loop (l : List S67) (hl : l.length ≤ 4000) (d : Nat) : ∀ (k i : Nat), i + d = l.length → d < k → laws_eqTagS.l0 k l l (i : Int) = some true := by
  induction d with
  | zero =>
    intro k i hd hk
    obtain ⟨k, rfl⟩ : ∃ m, k = m + 1 := ⟨k - 1, by omega⟩
    simp only [laws_eqTagS.l0]
    rw [if_neg (by omega)]
  | succ d ih =>
    intro k i hd hk
    obtain ⟨k, rfl⟩ : ∃ m, k = m + 1 := ⟨k - 1, by omega⟩
    simp only [laws_eqTagS.l0]
    rw [if_pos (by omega), if_pos (by omega), if_pos (by omega), eqTag_self, Option.bind_some, if_pos rfl, w64 (by omega) (by omega)]
    exact ih k (i + 1) (by omega) (by omega)
theorem eqDesc_self (b : Bool) (s : Int) (l : List S67) (hl : l.length ≤ 4000) (k : Nat) (hk : 4001 < k) : laws_eqDescriptorResult.f k b s l b s l = some true := by
  unfold laws_eqDescriptorResult.f laws_eqDescriptor.f laws_eqTagS.f
  have h := eqTag_loop l hl l.length k 0 (by omega) (by omega)
  have ez : ((0 : Nat) : Int) = 0 := rfl
  rw [ez] at h
  rw [if_neg (by simp), if_pos rfl, if_pos rfl, h, Option.bind_some, if_pos rfl, Option.bind_some, if_pos rfl]
theorem markByte_loop (d : Nat) : ∀ (k i : Nat) (l : List Int) (m : Int), l.length ≤ 4000000 → i + d = l.length → d < k → 0 ≤ m → m ≤ 1000 + i → ∃ l', laws_markByteS.l0 k l m (i : Int) = some (m + (d : Int), l') := by
  induction d with
  | zero =>
    intro k i l m hl hd hk h0 h1
    obtain ⟨k, rfl⟩ : ∃ n, k = n + 1 := ⟨k - 1, by omega⟩
    simp only [laws_markByteS.l0]
    rw [if_neg (by omega)]
    exact ⟨l, by congr 2; omega⟩
  | succ d ih =>
    intro k i l m hl hd hk h0 h1
    obtain ⟨k, rfl⟩ : ∃ n, k = n + 1 := ⟨k - 1, by omega⟩
    simp only [laws_markByteS.l0]
    obtain ⟨l', h⟩ := ih k (i + 1) (l.set i (m % 256)) (m + 1) (by simpa using hl) (by rw [List.length_set]; omega) (by omega) (by omega) (by omega)
    have e : ((i + 1 : Nat) : Int) = (i : Int) + 1 := by omega
    rw [e] at h
    rw [if_pos (by omega), if_pos (by omega), Int.toNat_natCast, w64 (x := m + 1) (by omega) (by omega), w64 (x := (i : Int) + 1) (by omega) (by omega), h]
    exact ⟨l', by congr 2; omega⟩
def mkT (m : Int) : S67 := ⟨m, Int.tmod (m + 1) 3 == 0⟩
theorem markTag_loop (d : Nat) : ∀ (k i : Nat) (l : List S67) (m : Int), l.length ≤ 4000 → i + d = l.length → d < k → 0 ≤ m → m ≤ 1000 + 2 * i →
    ∃ l', laws_markTagS.l0 k l m (i : Int) = some (m + 2 * (d : Int), l') ∧ l'.length = l.length ∧ (∀ j, j < i → l'[j]? = l[j]?) ∧ ∀ j, i ≤ j → j < l.length → l'[j]? = some (mkT (m + 2 * ((j - i : Nat) : Int))) := by
  induction d with
  | zero =>
    intro k i l m hl hd hk h0 h1
    obtain ⟨k, rfl⟩ : ∃ n, k = n + 1 := ⟨k - 1, by omega⟩
    simp only [laws_markTagS.l0]
    rw [if_neg (by omega)]
    exact ⟨l, by congr 2; omega, rfl, fun _ _ => rfl, fun j h h' => by omega⟩
  | succ d ih =>
    intro k i l m hl hd hk h0 h1
    obtain ⟨k, rfl⟩ : ∃ n, k = n + 1 := ⟨k - 1, by omega⟩
    simp only [laws_markTagS.l0]
    obtain ⟨l', h, hl', ha, hb⟩ := ih k (i + 1) (l.set i (mkT m)) (m + 2) (by simpa using hl) (by rw [List.length_set]; omega) (by omega) (by omega) (by omega)
    have e : ((i + 1 : Nat) : Int) = (i : Int) + 1 := by omega
    have e2 : m + 1 + 1 = m + 2 := by omega
    rw [e] at h
    have hr : ∀ t : S67, (l.set i t).getD i z67 = t := fun t => by rw [List.getD_eq_getElem?_getD, List.getElem?_set_self (by omega)]; rfl
    rw [if_pos (by omega), if_pos (by omega), Option.bind_some, Int.toNat_natCast, rdTag, rdTag, hr, w64 (x := m + 1) (by omega) (by omega), w64 (x := m + 1 + 1) (by omega) (by omega), w64 (x := (i : Int) + 1) (by omega) (by omega), e2, List.set_set]
    rw [show (⟨m, Int.tmod (m + 1) 3 == 0⟩ : S67) = mkT m from rfl, h]
    refine ⟨l', by congr 2; omega, by rw [hl', List.length_set], fun j hj => ?_, fun j hj hj' => ?_⟩
    · rw [ha j (by omega), List.getElem?_set_ne (by omega)]
    · by_cases hji : j = i
      · subst hji
        rw [ha j (by omega), List.getElem?_set_self (by omega)]
        congr 2; omega
      · rw [hb j (by omega) (by rw [List.length_set]; omega)]
        congr 2; omega
theorem heldTag_loop (l : List S67) (hl : l.length ≤ 4000) (hm : ∀ j, j < l.length → l[j]? = some (mkT (1 + 2 * (j : Int)))) (d : Nat) : ∀ (k i : Nat), i + d = l.length → d < k → laws_heldTagS.l0 k l (1 + 2 * (i : Int)) (i : Int) = some (1 + 2 * (l.length : Int)) := by
  induction d with
  | zero =>
    intro k i hd hk
    obtain ⟨k, rfl⟩ : ∃ n, k = n + 1 := ⟨k - 1, by omega⟩
    simp only [laws_heldTagS.l0]
    rw [if_neg (by omega)]
    congr 1; omega
  | succ d ih =>
    intro k i hd hk
    obtain ⟨k, rfl⟩ : ∃ n, k = n + 1 := ⟨k - 1, by omega⟩
    simp only [laws_heldTagS.l0]
    have hx : l.getD i z67 = mkT (1 + 2 * (i : Int)) := by rw [List.getD_eq_getElem?_getD, hm i (by omega)]; rfl
    have e1 : 1 + 2 * (i : Int) + 1 + 1 = 1 + 2 * ((i + 1 : Nat) : Int) := by omega
    have e2 : (i : Int) + 1 = ((i + 1 : Nat) : Int) := by omega
    rw [if_pos (by omega), if_pos (by omega), rdTag, hx, if_pos (show (mkT (1 + 2 * (i : Int))).f0 = 1 + 2 * (i : Int) from rfl), w64 (x := 1 + 2 * (i : Int) + 1) (by omega) (by omega), if_neg (by simp [mkT]), w64 (x := 1 + 2 * (i : Int) + 1 + 1) (by omega) (by omega), w64 (x := (i : Int) + 1) (by omega) (by omega), e1, e2]
    exact ih k (i + 1) (by omega) (by omega)
theorem wf_bytes' {l : List Int} (h : ∀ x ∈ l, (Lit.int .u8 x).wf = true) : isBytes l := by
  intro x hx
  exact bounds_u8 (h x hx)
theorem j0_false (l : List Int) (bs : List S67) (b : Bool) (s : Int) (hm : l.length ≤ 4000000) (hl : bs.length ≤ 17) (k : Nat) (hk : l.length + 5000 < k) (hi : impl_DecodeDescriptor.f (k - 1) l = some (b, s, bs)) : laws_FnExactDecodeDescriptor.j0 k l false b s bs b s bs = some true := by
  obtain ⟨k, rfl⟩ : ∃ n, k = n + 1 := ⟨k - 1, by omega⟩
  rw [Nat.add_sub_cancel] at hi
  simp only [laws_FnExactDecodeDescriptor.j0]
  obtain ⟨l', h1, h2, _, h4⟩ := markTag_loop bs.length k 0 bs 1 (by omega) (by omega) (by omega) (by omega) (by omega)
  have hh := heldTag_loop l' (by omega) (fun j hj => by have := h4 j (by omega) (by omega); simpa using this) l'.length k 0 (by omega) (by omega)
  have ez : ((0 : Nat) : Int) = 0 := rfl
  have e1 : (1 + 2 * (0 : Int)) = 1 := rfl
  rw [ez] at h1 hh
  rw [e1] at hh
  have hm' : laws_markDescriptorResult.f k b s bs 1 = some (1 + 2 * (bs.length : Int), l') := by
    unfold laws_markDescriptorResult.f laws_markDescriptor.f laws_markTagS.f
    rw [h1]; rfl
  have hh' : laws_heldDescriptorResult.f k b s l' 1 = some (1 + 2 * (bs.length : Int)) := by
    unfold laws_heldDescriptorResult.f laws_heldDescriptor.f laws_heldTagS.f
    rw [hh, Option.bind_some, if_neg (by omega), Option.bind_some, if_neg (by omega), h2]
  have he := eqDesc_self b s bs (by omega) k (by omega)
  rw [if_neg (by decide), hm', Option.bind_some]
  simp only
  rw [hh', Option.bind_some, if_neg (by omega), if_pos rfl, toByteS_f l (by omega) k (by omega), Option.bind_some, hi, Option.bind_some]
  simp only
  rw [he, Option.bind_some, if_pos rfl, Option.bind_some, if_neg (by omega), if_pos rfl]
theorem FnExactDecodeDescriptor : laws_FnExactDecodeDescriptor.Pure := by
  intro l hm hl hw
  have hb := wf_bytes' hw
  refine ⟨l.length + 6000, ?_⟩
  unfold laws_FnExactDecodeDescriptor.f
  by_cases hbig : (l.length : Int) > 1048576
  · rw [if_pos hbig]
  · obtain ⟨⟨b, s, bs⟩, h1, h2, h3⟩ := decodeDesc l hb (l.length + 6000) (by omega)
    obtain ⟨⟨b', s', bs'⟩, h1', h2', h3'⟩ := decodeDesc l hb (l.length + 6000 - 1) (by omega)
    have hmono := impl_DecodeDescriptor.mono l (l.length + 6000 - 1) _ h2'
    rw [show l.length + 6000 - 1 + 1 = l.length + 6000 by omega, h2] at hmono
    have hp := Option.some.inj hmono
    simp only [Prod.mk.injEq] at hp
    obtain ⟨rfl, rfl, rfl⟩ := hp
    have hj := j0_false l bs b s (by omega) h3' (l.length + 6000) (by omega) h2'
    have he := eqDesc_self b s bs (by have : bs.length ≤ 17 := h3'; omega) (l.length + 6000) (by omega)
    obtain ⟨lm, hmk⟩ := markByte_loop l.length (l.length + 6000) 0 l 1 (by omega) (by omega) (by omega) (by omega) (by omega)
    have ez : ((0 : Nat) : Int) = 0 := rfl
    rw [ez] at hmk
    have hmk' : laws_markByteS.f (l.length + 6000) l 1 = some (1 + (l.length : Int), lm) := hmk
    rw [if_neg hbig, toByteS_f l (by omega) _ (by omega), Option.bind_some, h1, Option.bind_some, Option.bind_some, h2, Option.bind_some]
    simp only
    rw [he, Option.bind_some, if_pos rfl, Option.bind_some, eqByteS_f l (by omega) _ (by omega), Option.bind_some, if_pos rfl, hmk', Option.bind_some]
    simp only
    rw [if_neg (by omega), Option.bind_some, Bool.not_true]
    exact hj
end Go.Proofs.YticeddapnafomaaDoor.Pure
