/- Plain laws: descriptor blocks: the program's bytes are the reference's. -/
import Derived.Test.YticeddapnafomaaDoorPureRev
import Derived.Test.YticeddapnafomaaDoorDD
import Derived.Test.YticeddapnafomaaDoorPEx13
namespace Go.Proofs.YticeddapnafomaaDoor.Pure
open Go.RowKit Go.Proofs.YticeddapnafomaaDoor Go.Proofs.YticeddapnafomaaDoor.PE Go.Proofs.YticeddapnafomaaDoorW.PrintWords Go.Proofs.YticeddapnafomaaDoorW.PrintLast Go.Proofs.YticeddapnafomaaDoorW.PrintMore
def flag (b : Bool) : Int := if b = true then 1 else 0
def tagB (t : S67) : List Int := be 2 t.f0 ++ [flag t.f1]
def tb (ts : List S67) : List Int := ts.flatMap tagB
def nums (ts : List S67) : List Int := ts.map (·.f0)
theorem nums_length (ts : List S67) : (nums ts).length = ts.length := by simp [nums]
theorem nums_at (ts : List S67) (i : Nat) : (nums ts).getD i 0 = (ts.getD i z67).f0 := by
  unfold nums
  simp only [List.getD_eq_getElem?_getD, List.getElem?_map]
  cases ts[i]? <;> rfl
theorem rdT (ts : List S67) (i : Nat) : rd_T67 ts (i : Int) = ts.getD i z67 := by unfold rd_T67; rw [Int.toNat_natCast]
theorem tb_length (ts : List S67) : (tb ts).length = 3 * ts.length := by
  induction ts with
  | nil => rfl
  | cons b bs ih => simp only [tb, List.flatMap_cons, List.length_append, tagB, be_length, List.length_cons, List.length_nil] at *; omega
theorem tb_take (ts : List S67) (i : Nat) (h : i < ts.length) : tb (ts.take (i + 1)) = tb (ts.take i) ++ (be 2 (ts.getD i z67).f0 ++ [flag (ts.getD i z67).f1]) := by
  rw [← take_getD67 h]; simp [tb, tagB]
theorem nums_take (ts : List S67) (i : Nat) (h : i < ts.length) : nums (ts.take (i + 1)) = nums (ts.take i) ++ [(ts.getD i z67).f0] := by
  rw [← take_getD67 h]; simp [nums]
def descOf (s : Int) (ts : List S67) : List Int := if (1 ≤ s ∧ s ≤ 4294967295) ∧ (1 ≤ ts.length ∧ ts.length ≤ 17) ∧ okFrom (nums ts) 0 ts.length = true then hd 2 ts.length s ++ tb ts ++ List.replicate (52 - 3 * ts.length) 0 else []
theorem set_zero (p : List Int) (n : Nat) (m : Nat) (hm : m = p.length) (hn : 0 < n) : (p ++ List.replicate n 0).set m 1 = p ++ [1] ++ List.replicate (n - 1) 0 := by
  subst hm
  obtain ⟨n, rfl⟩ : ∃ q, n = q + 1 := ⟨n - 1, by omega⟩
  simp [List.replicate_succ]
theorem iDesc_loop (s : Int) (ts : List S67) (hl : ts.length ≤ 17) (hok : ∀ j, j < ts.length → 0 ≤ (ts.getD j z67).f0 ∧ (ts.getD j z67).f0 ≤ 2047) (d : Nat) : ∀ (k i : Nat), i + d = ts.length → d + 8 < k →
    impl_EncodeDescriptor.l1 k (hd 2 ts.length s ++ tb (ts.take i) ++ List.replicate (52 - 3 * i) 0) ts (ts.length : Int) (i : Int) = some (hd 2 ts.length s ++ tb ts ++ List.replicate (52 - 3 * ts.length) 0) := by
  induction d with
  | zero =>
    intro k i hd hk
    obtain ⟨k, rfl⟩ : ∃ m, k = m + 1 := ⟨k - 1, by omega⟩
    simp only [impl_EncodeDescriptor.l1]
    rw [if_neg (by omega)]
    have e : i = ts.length := by omega
    subst e
    rw [List.take_length]
  | succ d ih =>
    intro k i hd' hk
    obtain ⟨k, rfl⟩ : ∃ m, k = m + 1 := ⟨k - 1, by omega⟩
    simp only [impl_EncodeDescriptor.l1]
    have hb := hok i (by omega)
    have e0 : wrap64 (3 * (i : Int)) = 3 * (i : Int) := nw64 (by omega) (by omega)
    have e1 : wrap64 (12 + 3 * (i : Int)) = ((12 + 3 * i : Nat) : Int) := by rw [nw64 (by omega) (by omega)]; omega
    have e14 : wrap64 (14 + 3 * (i : Int)) = ((14 + 3 * i : Nat) : Int) := by rw [nw64 (by omega) (by omega)]; omega
    have e2 : wrap64 ((i : Int) + 1) = ((i + 1 : Nat) : Int) := by rw [nw64 (by omega) (by omega)]; rfl
    have e3 : ((2 : Nat) : Int) = 2 := rfl
    have hlen0 : (hd 2 ts.length s ++ tb (ts.take i)).length = 12 + 3 * i := by simp only [List.length_append, hd_length, tb_length, List.length_take]; omega
    have hp := iputs 2 (ts.getD i z67).f0 hb.1 (by have := hb.2; have e : (256 : Int) ^ 2 = 65536 := (by decide); rw [e]; omega) (by omega) (by omega) (hd 2 ts.length s ++ tb (ts.take i) ++ List.replicate (52 - 3 * i) 0) (12 + 3 * i) (by rw [List.length_append, hlen0, List.length_replicate]; omega) k (by omega)
    rw [cut_put (hd 2 ts.length s ++ tb (ts.take i)) (List.replicate (52 - 3 * i) 0) _ _ rfl (12 + 3 * i) 2 hlen0.symm, e3, List.drop_replicate] at hp
    have hn := ih k (i + 1) (by omega) (by omega)
    rw [tb_take ts i (by omega)] at hn
    have hlen : (hd 2 ts.length s ++ tb (ts.take i) ++ be 2 (ts.getD i z67).f0).length = 14 + 3 * i := by rw [List.length_append, hlen0, be_length]; omega
    rw [if_pos (by omega), if_pos (by omega), if_pos (by omega), e0, e1, e14, rdT, hp, Option.bind_some, e2]
    by_cases hf : (ts.getD i z67).f1 = true
    · rw [hf, show flag true = 1 from rfl] at hn
      rw [if_pos hf, if_pos (by omega), if_pos (by rw [List.length_append, hlen0, List.length_replicate]; omega), Int.toNat_natCast, set_zero _ _ _ hlen.symm (by omega), show 52 - 3 * i - 2 - 1 = 52 - 3 * (i + 1) by omega]
      simpa only [List.append_assoc] using hn
    · have hf' : (ts.getD i z67).f1 = false := by simpa using hf
      rw [hf', show flag false = 0 from rfl] at hn
      rw [if_neg hf, show 52 - 3 * i - 2 = 1 + (52 - 3 * (i + 1)) by omega, ← List.replicate_append_replicate, show List.replicate 1 (0 : Int) = [0] from rfl]
      simpa only [List.append_assoc] using hn
theorem iDescT (s : Int) (x : List Int) (ts : List S67) (k : Nat) (hk : 1 < k) : impl_EncodeDescriptor.j1 k x true s ts = some [] := by
  obtain ⟨k, rfl⟩ : ∃ n, k = n + 1 := ⟨k - 1, by omega⟩
  simp only [impl_EncodeDescriptor.j1]
  rfl
theorem iDescF (s : Int) (ts : List S67) (hs : 1 ≤ s ∧ s ≤ 4294967295) (hl : ts.length ≤ 17) (hok : okFrom (nums ts) 0 ts.length = true) (k : Nat) (hk : 60 < k) : impl_EncodeDescriptor.j1 k (nums ts) false s ts = some (hd 2 ts.length s ++ tb ts ++ List.replicate (52 - 3 * ts.length) 0) := by
  obtain ⟨k, rfl⟩ : ∃ n, k = n + 1 := ⟨k - 1, by omega⟩
  simp only [impl_EncodeDescriptor.j1]
  rw [if_neg (by decide), nums_length, ihead 2 ts.length s (by omega) (by omega) (by omega) (by omega) k (by omega), Option.bind_some]
  have h := iDesc_loop s ts hl (fun j hj => by rw [← nums_at]; exact ok_bounds (nums ts) _ 0 hok j (by omega) (by omega)) ts.length k 0 (by omega) (by omega)
  simpa [tb] using h
theorem iDesc_nums (s : Int) (ts : List S67) (hl : ts.length ≤ 4000) (d : Nat) : ∀ (k i : Nat), i + d = ts.length → d + ts.length + 70 < k → impl_EncodeDescriptor.l0 k (nums (ts.take i)) ts (ts.length : Int) (i : Int) s ts = some (descOf s ts) := by
  induction d with
  | zero =>
    intro k i hd hk
    obtain ⟨k, rfl⟩ : ∃ m, k = m + 1 := ⟨k - 1, by omega⟩
    simp only [impl_EncodeDescriptor.l0]
    have e : i = ts.length := by omega
    subst e
    rw [if_neg (by omega), List.take_length, inIn, Option.bind_some, nums_length]
    unfold descOf
    by_cases hs : 1 ≤ s ∧ s ≤ 4294967295
    · rw [decide_eq_true hs, if_pos rfl, inIn, Option.bind_some]
      by_cases hc : 1 ≤ (ts.length : Int) ∧ (ts.length : Int) ≤ 17
      · rw [decide_eq_true hc, if_pos rfl, rising (nums ts) (by rw [nums_length]; omega) k (by rw [nums_length]; omega), Option.bind_some, nums_length]
        cases hr : okFrom (nums ts) 0 ts.length with
        | true => rw [if_pos ⟨hs, by omega, rfl⟩, Bool.not_true, iDescF s ts hs (by omega) hr k (by omega)]
        | false => rw [if_neg (fun h => by cases h.2.2), Bool.not_false, iDescT _ _ _ _ (by omega)]
      · rw [decide_eq_false hc, if_neg (by decide), if_neg (fun h => hc (by omega)), iDescT _ _ _ _ (by omega)]
    · rw [decide_eq_false hs, if_neg (by decide), if_neg (fun h => hs h.1), iDescT _ _ _ _ (by omega)]
  | succ d ih =>
    intro k i hd hk
    obtain ⟨k, rfl⟩ : ∃ m, k = m + 1 := ⟨k - 1, by omega⟩
    simp only [impl_EncodeDescriptor.l0]
    have e2 : wrap64 ((i : Int) + 1) = ((i + 1 : Nat) : Int) := by rw [nw64 (by omega) (by omega)]; rfl
    have hn := ih k (i + 1) (by omega) (by omega)
    rw [nums_take ts i (by omega)] at hn
    rw [if_pos (by omega), if_pos (by omega), if_pos (by omega), if_pos (by rw [nums_length, List.length_take]; omega), rdT, e2]
    exact hn
theorem iDesc (s : Int) (ts : List S67) (hl : ts.length ≤ 4000) (k : Nat) (hk : 2 * ts.length + 70 < k) : impl_EncodeDescriptor.f k s ts = some (descOf s ts) := by
  have h := iDesc_nums s ts hl ts.length k 0 (by omega) (by omega)
  exact h
theorem sDesc_loop (s : Int) (ts : List S67) (hl : ts.length ≤ 17) (d : Nat) : ∀ (k i : Nat), i + d = ts.length → 2 * d + 9 < k →
    spec_EncodeDescriptor.l0 k (ts.length : Int) (hd 2 ts.length s ++ tb (ts.take i)) (i : Int) s ts = some (if okFrom (nums ts) i d = true then hd 2 ts.length s ++ tb ts ++ List.replicate (52 - 3 * ts.length) 0 else []) := by
  induction d with
  | zero =>
    intro k i hd hk
    obtain ⟨k, rfl⟩ : ∃ m, k = m + 1 := ⟨k - 1, by omega⟩
    simp only [spec_EncodeDescriptor.l0]
    have e : i = ts.length := by omega
    subst e
    have hlen : (Pure.hd 2 ts.length s ++ tb ts).length = 12 + 3 * ts.length := by simp only [List.length_append, hd_length, tb_length]
    rw [if_neg (by omega), List.take_length, spad _ (by omega), Option.bind_some, if_pos (show okFrom (nums ts) ts.length 0 = true from rfl), hlen, show 64 - (12 + 3 * ts.length) = 52 - 3 * ts.length by omega]
  | succ d ih =>
    intro k i hd' hk
    obtain ⟨k, rfl⟩ : ∃ m, k = m + 1 := ⟨k - 1, by omega⟩
    obtain ⟨k, rfl⟩ : ∃ m, k = m + 1 := ⟨k - 1, by omega⟩
    have ei : wrap64 ((i : Int) + 1) = ((i + 1 : Nat) : Int) := by rw [nw64 (by omega) (by omega)]; rfl
    have hn := ih k (i + 1) (by omega) (by omega)
    rw [tb_take ts i (by omega)] at hn
    have e3 : ((2 : Nat) : Int) = 2 := rfl
    have hlen0 : (hd 2 ts.length s ++ tb (ts.take i)).length = 12 + 3 * i := by simp only [List.length_append, hd_length, tb_length, List.length_take]; omega
    have hj : ∀ b : Bool, (b = false → 0 ≤ (ts.getD i z67).f0 ∧ (ts.getD i z67).f0 ≤ 2047) → spec_EncodeDescriptor.j2 (k + 1) (ts.length : Int) (hd 2 ts.length s ++ tb (ts.take i)) (i : Int) b s ts = if b = true then some [] else some (if okFrom (nums ts) (i + 1) d = true then hd 2 ts.length s ++ tb ts ++ List.replicate (52 - 3 * ts.length) 0 else []) := by
      intro b hb
      simp only [spec_EncodeDescriptor.j2]
      cases b with
      | true => rfl
      | false =>
        have h1 := hb rfl
        have hp := sput 2 (ts.getD i z67).f0 h1.1 (by omega) (by have := h1.2; have e : (256 : Int) ^ 2 = 65536 := (by decide); rw [e]; omega) (by omega) (by omega) k (by omega)
        rw [e3] at hp
        have hlen : (hd 2 ts.length s ++ tb (ts.take i) ++ be 2 (ts.getD i z67).f0).length < 140737488355328 := by rw [List.length_append, hlen0, be_length]; omega
        rw [if_neg (by decide), if_pos (by omega), if_pos (by omega), rdT, hp, Option.bind_some, if_pos (by rw [hlen0, be_length]; omega), Option.bind_some, if_neg (show ¬ (false = true) by decide), ei]
        by_cases hf : (ts.getD i z67).f1 = true
        · rw [hf] at hn
          rw [if_pos hf, if_pos hlen, ← hn, List.append_assoc]; rfl
        · have hf' : (ts.getD i z67).f1 = false := by simpa using hf
          rw [hf'] at hn
          rw [if_neg hf, if_pos hlen, ← hn, List.append_assoc]; rfl
    simp only [spec_EncodeDescriptor.l0]
    rw [if_pos (by omega), if_pos (by omega), if_pos (by omega), rdT, goodBlock, Option.bind_some]
    show _ = some (if (okAt (nums ts) i && okFrom (nums ts) (i + 1) d) = true then _ else _)
    unfold okAt
    rw [nums_at, nums_at]
    by_cases h1 : 0 ≤ (ts.getD i z67).f0 ∧ (ts.getD i z67).f0 ≤ 2047
    · rw [decide_eq_true h1, if_pos rfl]
      by_cases h0 : i = 0
      · rw [if_neg (by omega), hj false (fun _ => h1), decide_eq_true h0]; simp
      · have em : wrap64 ((i : Int) - 1) = ((i - 1 : Nat) : Int) := by rw [nw64 (by omega) (by omega)]; omega
        rw [if_pos (by omega), em, if_pos (by omega), if_pos (by omega), rdT, decide_eq_false h0, hj _ (fun _ => h1)]
        by_cases h2 : (ts.getD (i - 1) z67).f0 < (ts.getD i z67).f0
        · rw [decide_eq_true h2, decide_eq_false (show ¬ (ts.getD (i - 1) z67).f0 ≥ (ts.getD i z67).f0 by omega)]; simp
        · rw [decide_eq_false h2, decide_eq_true (show (ts.getD (i - 1) z67).f0 ≥ (ts.getD i z67).f0 by omega)]; simp
    · rw [decide_eq_false h1, if_neg (by decide), hj true (fun h => by cases h)]; simp
theorem sDescT (s n : Int) (ts : List S67) (k : Nat) (hk : 1 < k) : spec_EncodeDescriptor.j0 k n true s ts = some [] := by
  obtain ⟨k, rfl⟩ : ∃ n, k = n + 1 := ⟨k - 1, by omega⟩
  simp only [spec_EncodeDescriptor.j0]
  rfl
theorem sDesc (s : Int) (ts : List S67) (k : Nat) (hk : 80 < k) : spec_EncodeDescriptor.f k s ts = some (descOf s ts) := by
  unfold spec_EncodeDescriptor.f descOf
  rw [goodSeq, Option.bind_some]
  by_cases hs : 1 ≤ s ∧ s ≤ 4294967295
  · rw [decide_eq_true hs, if_pos rfl]
    by_cases hc : (ts.length : Int) < 1
    · rw [if_pos hc, sDescT _ _ _ _ (by omega), if_neg (fun h => by omega)]
    · rw [if_neg hc]
      by_cases hc2 : (ts.length : Int) > 17
      · rw [decide_eq_true hc2, sDescT _ _ _ _ (by omega), if_neg (fun h => by omega)]
      · rw [decide_eq_false hc2]
        obtain ⟨k, rfl⟩ : ∃ n, k = n + 1 := ⟨k - 1, by omega⟩
        simp only [spec_EncodeDescriptor.j0]
        rw [if_neg (by decide), shead 2 ts.length s (by omega) (by omega) (by omega) (by omega) k (by omega), Option.bind_some]
        have h := sDesc_loop s ts (by omega) ts.length k 0 (by omega) (by omega)
        have e0 : hd 2 ts.length s ++ tb (ts.take 0) = hd 2 ts.length s := by simp [tb]
        have ez : ((0 : Nat) : Int) = 0 := rfl
        rw [e0, ez] at h
        rw [h]
        congr 1
        by_cases hr : okFrom (nums ts) 0 ts.length = true
        · rw [if_pos hr, if_pos ⟨hs, by omega, hr⟩]
        · rw [if_neg hr, if_neg (fun h => hr h.2.2)]
  · rw [decide_eq_false hs, if_neg (by decide), sDescT _ _ _ _ (by omega), if_neg (fun h => hs h.1)]
def tg (l : List Int) (i : Nat) : S67 := ⟨val 0 ((l.take (12 + 3 * i + 2)).drop (12 + 3 * i)), rd l ((14 + 3 * i : Nat) : Int) == 1⟩
def tgs (l : List Int) (n : Nat) : List S67 := (List.range' 0 n).map (tg l)
theorem tgs_length (l : List Int) (n : Nat) : (tgs l n).length = n := by simp [tgs]
theorem tgs_succ (l : List Int) (n : Nat) : tgs l (n + 1) = tgs l n ++ [tg l n] := by
  unfold tgs
  rw [List.range'_concat]
  simp
theorem tagsAt_f (l : List Int) (hb : isBytes l) (hl : l.length = 64) (k : Nat) (hk : 8 < k) (m : Nat) : ∀ i, i + m ≤ 17 → tagsAt k l i m = some ((List.range' i m).map (tg l)) := by
  induction m with
  | zero => intro i _; rfl
  | succ m ih =>
    intro i hi
    have h := inum l hb (12 + 3 * i) 2 (by omega) (by omega) (by omega) (by omega) k (by omega)
    have e : ((12 + 3 * i : Nat) : Int) = 12 + 3 * (i : Int) := by omega
    have e2 : ((2 : Nat) : Int) = 2 := rfl
    rw [e, e2] at h
    unfold tagsAt
    rw [h, Option.bind_some, ih (i + 1) (by omega), Option.bind_some]
    rfl
theorem sDecD_loop (l : List Int) (hb : isBytes l) (hl : l.length = 64) (seq : Int) (n : Nat) (hn : n ≤ 17) (hc : val 0 ((l.take 8).drop 6) = (n : Int)) (d : Nat) : ∀ (k i : Nat), i + d = n → d + 90 < k →
    spec_DecodeDescriptor.l0 k l (i : Int) seq (tgs l i) = some (if ((strOfNums (descOf seq (tgs l n))).toList == (strOfNums l).toList) = true then (true, seq, tgs l n) else (false, 0, [])) := by
  have g := fun a b h0 h1 h2 k h3 => sget ((l.take b).drop a) (by rw [cut_length _ _ _ h0]; exact h1) (by rw [cut_length _ _ _ h0]; exact h2) (isBytes_cut hb a b) k (by rw [cut_length _ _ _ h0]; exact h3)
  induction d with
  | zero =>
    intro k i hd hk
    obtain ⟨k, rfl⟩ : ∃ m, k = m + 1 := ⟨k - 1, by omega⟩
    simp only [spec_DecodeDescriptor.l0]
    have e : i = n := by omega
    subst e
    rw [if_pos (by decide), if_pos (by omega), g 6 8 (by omega) (by omega) (by omega) k (by omega), Option.bind_some, hc, if_neg (by omega), sDesc _ _ k (by omega), Option.bind_some]
    unfold spec_l2Same.f
    rw [Option.bind_some]
    split <;> rfl
  | succ d ih =>
    intro k i hd hk
    obtain ⟨k, rfl⟩ : ∃ m, k = m + 1 := ⟨k - 1, by omega⟩
    simp only [spec_DecodeDescriptor.l0]
    have e2 : wrap64 (3 * (i : Int)) = 3 * (i : Int) := nw64 (by omega) (by omega)
    have e12 : wrap64 (12 + 3 * (i : Int)) = ((12 + 3 * i : Nat) : Int) := by rw [nw64 (by omega) (by omega)]; omega
    have e14 : wrap64 (((12 + 3 * i : Nat) : Int) + 2) = ((12 + 3 * i + 2 : Nat) : Int) := by rw [nw64 (by omega) (by omega)]; omega
    have ei : wrap64 ((i : Int) + 1) = ((i + 1 : Nat) : Int) := by rw [nw64 (by omega) (by omega)]; rfl
    have h := ih k (i + 1) (by omega) (by omega)
    rw [tgs_succ] at h
    have e15 : 12 + 3 * i + 2 = 14 + 3 * i := by omega
    rw [if_pos (by decide), if_pos (by omega), g 6 8 (by omega) (by omega) (by omega) k (by omega), Option.bind_some, hc, if_pos (by omega), e2, e12, e14, if_pos (by omega), if_pos (by omega), if_pos (by omega), Int.toNat_natCast, Int.toNat_natCast,
      g (12 + 3 * i) (12 + 3 * i + 2) (by omega) (by omega) (by omega) k (by omega), Option.bind_some, if_pos (by omega), if_pos (by omega), if_pos (by rw [tgs_length]; omega), ei]
    rw [show tg l i = ⟨val 0 ((l.take (12 + 3 * i + 2)).drop (12 + 3 * i)), rd l ((12 + 3 * i + 2 : Nat) : Int) == 1⟩ by unfold tg; rw [e15]] at h
    exact h
theorem decodeDesc (l : List Int) (hb : isBytes l) (k : Nat) (hk : 200 < k) : ∃ r, spec_DecodeDescriptor.f k l = some r ∧ impl_DecodeDescriptor.f k l = some r ∧ r.2.2.length ≤ 17 := by
  unfold spec_DecodeDescriptor.f impl_DecodeDescriptor.f
  rw [sKind, iKind, Option.bind_some, Option.bind_some]
  obtain ⟨k, rfl⟩ : ∃ m, k = m + 1 := ⟨k - 1, by omega⟩
  by_cases h3 : kindOf l = 2
  · have hl := kind_len (l := l) (by omega)
    have g := fun a n h0 h7 h1 hk' => inum l hb a n h0 h7 h1 (by omega) (k + 1) hk'
    have e6 := g 6 2 (by omega) (by omega) (by omega) (by omega)
    have e8 := g 8 4 (by omega) (by omega) (by omega) (by omega)
    have n6 : ((6 : Nat) : Int) = 6 := rfl
    have n2 : ((2 : Nat) : Int) = 2 := rfl
    have n8 : ((8 : Nat) : Int) = 8 := rfl
    have n4 : ((4 : Nat) : Int) = 4 := rfl
    rw [n6, n2] at e6
    rw [n8, n4] at e8
    have s := fun a b h0 h1 h2 k h3 => sget ((l.take b).drop a) (by rw [cut_length _ _ _ h0]; exact h1) (by rw [cut_length _ _ _ h0]; exact h2) (isBytes_cut hb a b) k (by rw [cut_length _ _ _ h0]; exact h3)
    have hv := (val_bound ((l.take 8).drop 6) 0 0 (isBytes_cut hb 6 8) (by omega) (by decide)).1
    obtain ⟨n, hc⟩ := Int.eq_ofNat_of_zero_le hv
    rw [if_pos h3, if_pos h3, if_pos hl, if_pos (by decide), if_pos (by omega), s 6 8 (by omega) (by omega) (by omega) (k + 1) (by omega), Option.bind_some, e6, Option.bind_some, e8, Option.bind_some]
    simp only [spec_DecodeDescriptor.j0]
    rw [show (6 + 2 : Nat) = 8 from rfl, show (8 + 4 : Nat) = 12 from rfl, hc]
    by_cases hm : 17 < (n : Int)
    · rw [if_pos hm, decide_eq_true (show (n : Int) > 17 from hm), if_pos rfl]
      exact ⟨_, rfl, rfl, by simp⟩
    · have hl0 := sDecD_loop l hb hl (val 0 ((l.take 12).drop 8)) n (by omega) hc n k 0 (by omega) (by omega)
      have ez : ((0 : Nat) : Int) = 0 := rfl
      rw [ez, show tgs l 0 = [] from rfl] at hl0
      rw [if_neg hm, decide_eq_false (show ¬ (n : Int) > 17 from hm), if_neg (show ¬ (false = true) by decide), if_pos (by decide), if_pos (show (12 : Int) ≤ (l.length : Int) by omega), s 8 12 (by omega) (by omega) (by omega) k (by omega), Option.bind_some, hl0, if_pos (show (0 : Int) ≤ (n : Int) by omega), Int.toNat_natCast, tagsAt_f l hb hl (k + 1) (by omega) n 0 (by omega), Option.bind_some]
      show ∃ r, _ ∧ ((impl_EncodeDescriptor.f (k + 1) _ (tgs l n)).bind _ = _) ∧ _
      rw [iDesc _ (tgs l n) (by rw [tgs_length]; omega) (k + 1) (by rw [tgs_length]; omega), Option.bind_some]
      unfold bytes_Equal.f
      rw [Option.bind_some]
      generalize ((strOfNums (descOf (val 0 ((l.take 12).drop 8)) (tgs l n))).toList == (strOfNums l).toList) = q
      cases q
      · exact ⟨(false, 0, []), rfl, rfl, by simp⟩
      · exact ⟨(true, _, tgs l n), rfl, rfl, by rw [tgs_length]; omega⟩
  · rw [if_neg h3, if_neg h3]
    simp only [spec_DecodeDescriptor.j0]
    exact ⟨_, rfl, rfl, by simp⟩
end Go.Proofs.YticeddapnafomaaDoor.Pure
