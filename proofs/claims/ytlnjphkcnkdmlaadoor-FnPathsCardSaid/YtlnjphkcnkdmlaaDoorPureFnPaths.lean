/- The names of a drawn path that is one are valid, at most sixteen, and joined again they are the path; a path with a stroke behind, or with an odd part, is none: the plain law. -/
import Derived.Test.YtlnjphkcnkdmlaaDoorPureDrawPath
import Derived.Test.YtlnjphkcnkdmlaaDoorPDx7
import Derived.Test.YtlnjphkcnkdmlaaDoorPureFnExactSplitPath
namespace Go.Proofs.YtlnjphkcnkdmlaaDoor.Pure
open Go.RowKit Go.Proofs.YtlnjphkcnkdmlaaDoor Go.Proofs.YtlnjphkcnkdmlaaDoor.PD Go.Proofs.YtlnjphkcnkdmlaaDoorW.PrintWords Go.Proofs.YtlnjphkcnkdmlaaDoorW.PrintLast Go.Proofs.YtlnjphkcnkdmlaaDoorW.PrintMore
theorem draw_f (l : List Int) (hb : Byt l) (hl : l.length ≤ 1048576) : ∃ t, (∀ k, 700 < k → spec_DrawSplitPath.f k l = some t) ∧ t.size ≤ 2000 := by
  obtain ⟨sz, es, z0, z1⟩ := source_f l hl
  obtain ⟨r, er⟩ := chance_f l hb hl 0 sz 3 (by omega) (by omega)
  have one : (⟨#[47]⟩ : ByteArray).size = 1 := rfl
  have e9 : wrap64 ((0 : Int) + 1 + 9) = 10 := by unfold wrap64; omega
  cases r with
  | true =>
    obtain ⟨t, et, ht⟩ := odd_f l hb hl 10 sz (by omega) (by omega)
    obtain ⟨t2, a2, h2, q1, q2, q3⟩ := (show Tot 700 (fun k => spec_l10DrawPath.f k l (10 + 1) sz) sz from path_g l hb hl 11 sz (by omega) (by omega))
    refine ⟨((⟨#[47]⟩ : ByteArray) ++ t) ++ t2, fun k hk => ?_, by rw [ByteArray.size_append, ByteArray.size_append, one]; omega⟩
    unfold spec_DrawSplitPath.f
    rw [es, Option.bind_some]
    simp only
    rw [er, Option.bind_some]
    simp only
    rw [if_pos trivial, e9, et, Option.bind_some]
    simp only
    have := h2 k hk
    simp only at this
    rw [if_pos (by omega), this, Option.bind_some]
    simp only
    rw [if_pos (by rw [ByteArray.size_append, one]; omega)]
  | false =>
    obtain ⟨t2, a2, h2, q1, q2, q3⟩ := (show Tot 700 (fun k => spec_l10DrawPath.f k l (0 + 1) sz) sz from path_g l hb hl 1 sz (by omega) (by omega))
    refine ⟨t2, fun k hk => ?_, by omega⟩
    unfold spec_DrawSplitPath.f
    rw [es, Option.bind_some]
    simp only
    rw [er, Option.bind_some]
    simp only
    rw [if_neg (by decide)]
    have := h2 k hk
    simp only at this
    rw [this]
    rfl
theorem firstBad_none : ∀ ps : List ByteArray, firstBad ps = none ↔ ∀ p ∈ ps, validB p = true
  | [] => by simp [firstBad]
  | p :: ps => by
    unfold firstBad
    by_cases h : validB p = true
    · rw [if_pos h, firstBad_none ps]; simp [h]
    · rw [if_neg h]
      constructor
      · intro h'; cases h'
      · intro h'; exact absurd (h' p List.mem_cons_self) h
theorem firstBad_code : ∀ (ps : List ByteArray) (c : Int), firstBad ps = some c → c ≠ 0
  | [], c, h => by simp [firstBad] at h
  | p :: ps, c, h => by
    unfold firstBad at h
    by_cases hv : validB p = true
    · rw [if_pos hv] at h; exact firstBad_code ps c h
    · rw [if_neg hv] at h
      have := Option.some.inj h
      split at this <;> omega
/-- Names, a stroke ahead of each. -/
def joined (ps : List ByteArray) : List UInt8 := ps.flatMap fun p => (47 : UInt8) :: p.data.toList
theorem cut_join : ∀ l : List UInt8, (cutL l).flatMap (fun p => (47 : UInt8) :: p) = 47 :: l
  | [] => rfl
  | b :: l => by
    have ih := cut_join l
    obtain ⟨p, ps, hc⟩ := cutL_ne l
    by_cases h : b = 47
    · subst h
      rw [cutL_hit, List.flatMap_cons, ih]
      rfl
    · rw [cutL_miss b l h p ps hc]
      rw [hc, List.flatMap_cons] at ih
      rw [List.flatMap_cons]
      simp only [List.cons_append, List.cons.injEq, true_and] at ih ⊢
      exact ih
theorem joined_pieces (s : ByteArray) : joined (pieces s) = 47 :: s.data.toList := by
  unfold joined pieces
  rw [List.flatMap_map]
  have : (fun p => (47 : UInt8) :: (mkS p).data.toList) = fun p => (47 : UInt8) :: p := by funext p; rw [mkS_data]
  rw [this]
  exact cut_join _
theorem head47 (s : ByteArray) (h : 0 < s.size) (hb : bt s 0 = 47) : s.data.toList = 47 :: (s.extract 1 s.size).data.toList := by
  rw [Lib.extract_to_end]
  have hl : 0 < s.data.toList.length := by rw [data_length]; exact h
  have e := List.drop_eq_getElem_cons (i := 0) (l := s.data.toList) hl
  rw [List.drop_zero] at e
  have h47 : s.data.toList[0] = 47 := by
    have := bt_get s 0 h
    have hz : ((0 : Nat) : Int) = 0 := rfl
    rw [hz, hb] at this
    exact (byte47 _).1 this.symm
  rw [h47] at e
  exact e
theorem path_zero (s : ByteArray) (h : (pathOf s).1 = 0) : (1 ≤ s.size ∧ s.size ≤ 240 ∧ bt s 0 = 47) ∧ ((s.toList = ([47] : List UInt8) ∧ (pathOf s).2 = []) ∨ (s.toList ≠ ([47] : List UInt8) ∧ (pathOf s).2 = pieces (s.extract 1 s.size) ∧ (pieces (s.extract 1 s.size)).length ≤ 16 ∧ ∀ p ∈ pieces (s.extract 1 s.size), validB p = true)) := by
  unfold pathOf at h ⊢
  by_cases h1 : s.size < 1
  · rw [if_pos h1] at h; cases h
  · rw [if_neg h1] at h ⊢
    by_cases h2 : 240 < s.size
    · rw [if_pos h2] at h; cases h
    · rw [if_neg h2] at h ⊢
      by_cases h3 : bt s 0 ≠ 47
      · rw [if_pos h3] at h; cases h
      · rw [if_neg h3] at h ⊢
        refine ⟨⟨by omega, by omega, Classical.not_not.1 h3⟩, ?_⟩
        by_cases h4 : s.toList = ([47] : List UInt8)
        · exact .inl ⟨h4, by rw [if_pos h4]⟩
        · rw [if_neg h4] at h ⊢
          refine .inr ⟨h4, ?_⟩
          unfold verdict at h ⊢
          cases hf : firstBad (pieces (s.extract 1 s.size)) with
          | some c => rw [hf] at h; exact absurd h (firstBad_code _ c hf)
          | none =>
            rw [hf] at h
            simp only at h ⊢
            by_cases h16 : (pieces (s.extract 1 s.size)).length > 16
            · rw [if_pos h16] at h; cases h
            · rw [if_neg h16]
              exact ⟨rfl, by omega, (firstBad_none _).1 hf⟩
theorem path_none (s : ByteArray) (h : (pathOf s).1 ≠ 0) : (pathOf s).2 = [] := by
  unfold pathOf verdict at h ⊢
  repeat' split at h
  all_goals first | rfl | (exact absurd rfl h) | skip
  all_goals (repeat' split) <;> first | rfl | (exfalso; simp_all; done) | simp_all
theorem eq_of_toList {a b : ByteArray} (h : a.toList = b.toList) : a = b := by
  rw [ByteArray.toList_eq, ByteArray.toList_eq] at h
  exact ba_ext h
theorem append_data (a b : ByteArray) : (a ++ b).data.toList = a.data.toList ++ b.data.toList := by
  rw [ByteArray.data_append]
  simp
theorem validB_empty (s : ByteArray) (h : s.size < 1) : validB s = false := by unfold validB; rw [if_pos h]
theorem pieces_snoc (s : ByteArray) : ∃ ps, pieces (s ++ (⟨#[47]⟩ : ByteArray)) = ps ++ [mkS []] ∧ ps = pieces s := by
  have : ∀ l : List UInt8, cutL (l ++ [47]) = cutL l ++ [[]] := by
    intro l
    induction l with
    | nil => rfl
    | cons b l ih =>
      obtain ⟨p, ps, hc⟩ := cutL_ne l
      by_cases h : b = 47
      · subst h
        rw [List.cons_append, cutL_hit, cutL_hit, ih]
        rfl
      · rw [List.cons_append, cutL_miss b l h p ps hc, cutL_miss b (l ++ [47]) h p (ps ++ [[]]) (by rw [ih, hc]; rfl)]
        rfl
  refine ⟨pieces s, ?_, rfl⟩
  unfold pieces
  rw [append_data, show (⟨#[47]⟩ : ByteArray).data.toList = [47] from rfl, this, List.map_append]
  rfl
theorem stroke_behind (s : ByteArray) (h : (pathOf s).1 = 0) : (pathOf (s ++ (⟨#[47]⟩ : ByteArray))).1 ≠ 0 := by
  intro h2
  obtain ⟨⟨a1, a2, a3⟩, hc⟩ := path_zero _ h2
  obtain ⟨⟨b1, b2, b3⟩, _⟩ := path_zero _ h
  rcases hc with ⟨h4, _⟩ | ⟨_, _, _, hv⟩
  · rw [ByteArray.toList_eq, append_data, head47 s (by omega) b3] at h4
    have := congrArg List.length h4
    simp at this
  · have e : (s ++ (⟨#[47]⟩ : ByteArray)).extract 1 (s ++ (⟨#[47]⟩ : ByteArray)).size = (s.extract 1 s.size) ++ (⟨#[47]⟩ : ByteArray) := by
      apply ba_ext
      rw [Lib.extract_to_end, append_data, append_data, Lib.extract_to_end, List.drop_append_of_le_length (by rw [data_length]; omega)]
    rw [e] at hv
    obtain ⟨ps, hp, _⟩ := pieces_snoc (s.extract 1 s.size)
    have := hv (mkS []) (by rw [hp]; simp)
    rw [validB_empty _ (by decide)] at this
    cases this
theorem x_ahead (s : ByteArray) : (pathOf ((⟨#[120]⟩ : ByteArray) ++ s)).1 = 30 := by
  unfold pathOf
  have hz : ((⟨#[120]⟩ : ByteArray) ++ s).size = 1 + s.size := by rw [ByteArray.size_append]; rfl
  rw [if_neg (by omega)]
  by_cases h2 : 240 < ((⟨#[120]⟩ : ByteArray) ++ s).size
  · rw [if_pos h2]
  · rw [if_neg h2]
    have hb : bt ((⟨#[120]⟩ : ByteArray) ++ s) 0 = 120 := by
      have hz0 : ((0 : Nat) : Int) = 0 := rfl
      rw [← hz0, bt_get _ 0 (by omega)]
      have : (((⟨#[120]⟩ : ByteArray) ++ s)[0]'(by omega)) = ((⟨#[120]⟩ : ByteArray) ++ s).data.toList[0]'(by rw [data_length]; omega) := rfl
      rw [this]
      have e2 : ((⟨#[120]⟩ : ByteArray) ++ s).data.toList = 120 :: s.data.toList := by rw [append_data]; rfl
      simp
    rw [hb, if_pos (by decide)]
theorem path_no_name (s : ByteArray) (h1 : 0 < s.size) (h47 : bt s 0 = 47) : validB s = false := by
  unfold validB
  rw [okFrom_first, head47 s h1 h47, List.all_cons]
  have : okByte 47 = false := by decide
  rw [this, Bool.false_and]
  repeat' split
  all_goals rfl
/-- What stands behind the loop over the names. -/
theorem names_loop (s : ByteArray) (hs : s.size ≤ 2000) (h0 : (pathOf s).1 = 0) (d : Nat) : ∀ (k i : Nat) (x : ByteArray), i + d = (pathOf s).2.length → x.size ≤ 2000 * i → x.data.toList = joined ((pathOf s).2.take i) → 3000 + d < k → laws_FnPaths.l0 k s x (i : Int) (pathOf s).1 (pathOf s).2 = some true := by
  obtain ⟨⟨a1, a2, a3⟩, hc⟩ := path_zero s h0
  have hlen := path_len s
  have hv : ∀ p ∈ (pathOf s).2, validB p = true := by
    rcases hc with ⟨_, e⟩ | ⟨_, e, _, hv⟩
    · rw [e]; simp
    · rw [e]; exact hv
  have hsz : ∀ p ∈ (pathOf s).2, p.size ≤ 13 := by
    intro p hp
    have := hv p hp
    unfold validB at this
    by_cases q : 13 < p.size
    · rw [if_pos q] at this
      split at this <;> cases this
    · omega
  have one : (⟨#[47]⟩ : ByteArray).size = 1 := rfl
  induction d with
  | zero =>
    intro k i x hi hx hj hk
    obtain ⟨k, rfl⟩ : ∃ m, k = m + 1 := ⟨k - 1, by omega⟩
    have hb := stroke_behind s h0
    have hxx := x_ahead s
    have hvn := path_no_name s (by omega) a3
    unfold laws_FnPaths.l0
    rw [if_neg (by omega)]
    rcases hc with ⟨h47, e⟩ | ⟨h47, e, hl, _⟩
    · have hz0 : ((pathOf s).2.length : Int) = 0 := by rw [e]; rfl
      rw [if_pos hz0, if_pos h47.symm, if_pos (show ((pathOf s).2.length : Int) ≤ 16 by omega), if_pos (show s.size + 1 ≤ 9223372036854775807 by omega), ipath _ k (by omega), Option.bind_some]
      rw [if_neg hb, if_pos (show 1 + s.size ≤ 9223372036854775807 by omega), ipath _ k (by omega), Option.bind_some]
      rw [if_pos hxx, iname, Option.bind_some, hvn]
      rfl
    · have hne : ((pathOf s).2.length : Int) ≠ 0 := by
        rw [e]; unfold pieces
        obtain ⟨p, ps, hc'⟩ := cutL_ne (s.extract 1 s.size).data.toList
        rw [hc']; simp; omega
      have hx2 : x.toList = s.toList := by
        rw [ByteArray.toList_eq, ByteArray.toList_eq, hj, List.take_of_length_le (by omega), e, joined_pieces, ← head47 s (by omega) a3]
      rw [if_neg hne, if_pos hx2, if_pos (show ((pathOf s).2.length : Int) ≤ 16 by omega), if_pos (show s.size + 1 ≤ 9223372036854775807 by omega), ipath _ k (by omega), Option.bind_some]
      rw [if_neg hb, if_pos (show 1 + s.size ≤ 9223372036854775807 by omega), ipath _ k (by omega), Option.bind_some]
      rw [if_pos hxx, iname, Option.bind_some, hvn]
      rfl
  | succ d ih =>
    intro k i x hi hx hj hk
    obtain ⟨k, rfl⟩ : ∃ m, k = m + 1 := ⟨k - 1, by omega⟩
    have hlt : i < (pathOf s).2.length := by omega
    have e1 : ((i : Int) + 1) = ((i + 1 : Nat) : Int) := by omega
    have hp := hv _ (List.getElem_mem hlt)
    have hz := hsz _ (List.getElem_mem hlt)
    unfold laws_FnPaths.l0
    rw [if_pos (by omega), if_pos (by omega), rdOf_at _ i hlt, iname, Option.bind_some, if_pos hp, if_pos (by omega), if_pos (by rw [ByteArray.size_append, one]; omega), pw64 (by omega) (by omega), e1]
    refine ih k (i + 1) _ (by omega) (by rw [ByteArray.size_append, ByteArray.size_append, one]; omega) ?_ (by omega)
    rw [append_data, append_data, hj, List.take_succ_eq_append_getElem hlt]
    unfold joined
    rw [List.flatMap_append]
    simp
theorem FnPaths : laws_FnPaths.Pure := by
  intro l hm hl hw
  by_cases hbig : (l.length : Int) > 1048576
  · refine ⟨0, ?_⟩
    unfold laws_FnPaths.f
    rw [if_pos hbig]
  · obtain ⟨t, ht, hts⟩ := draw_f l (Byt.of_wf hw) (by omega)
    refine ⟨6000, ?_⟩
    unfold laws_FnPaths.f
    rw [if_neg hbig, ht 6000 (by omega), Option.bind_some, ipath t 6000 (by omega), Option.bind_some, spath t 6000 (by omega), Option.bind_some, if_pos rfl]
    by_cases h0 : (pathOf t).1 = 0
    · rw [if_pos h0]
      exact names_loop t hts h0 (pathOf t).2.length 6000 0 ⟨#[]⟩ (by omega) (by decide) (by simp [joined]) (by have := path_len t; omega)
    · rw [if_neg h0, path_none t h0]
      rfl
end Go.Proofs.YtlnjphkcnkdmlaaDoor.Pure
