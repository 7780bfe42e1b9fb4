/- spec.l3Turn on the row of a conversion '[]byte(s)' (which bears a mark, so it is no row of the call's own): it returns what the printed function tells, as a row that is read. -/
import Derived.Test.YtdfoedjfnoiboaaPAx6
import Derived.Lib.Hide
import Derived.Lib.ConvBytes
import Derived.Deep.Onto
import Derived.Deep.RegionLaw
import Derived.ArgAppend
import Derived.Outline
set_option linter.unusedVariables false
namespace Go.Proofs.Ytdfoedjfnoiboaa
open Go.RowKit Go.Proofs.YtdfoedjfnoiboaaW.PrintWords Go.Proofs.YtdfoedjfnoiboaaW.PrintLast Go.Proofs.YtdfoedjfnoiboaaW.PrintMore Go.Proofs.Ytdfoedjfnoiboaa.PA
/-- A row of bytes at the head of block b, whose mark lies behind its cells. -/
def Mk (w0 w : World) (b cap : Nat) (l : List Int) : Prop :=
  w0.heap.size ≤ b ∧ l.length ≤ cap ∧ cap ≤ maxLen ∧ ∃ cs f, w.heap[b]? = some (.cells cs 5 (cap, f)) ∧ cs.size = cap ∧ ∀ i, i < l.length → cs[i]? = some (.int .u8 (rd l i))
theorem Mk.move {w0 w w' : World} {b cap : Nat} {l : List Int} (h : Mk w0 w b cap l) (hb : w'.heap[b]? = w.heap[b]?) : Mk w0 w' b cap l := by
  obtain ⟨h1, h2, h3, cs, f, h4, h5⟩ := h
  exact ⟨h1, h2, h3, cs, f, hb.trans h4, h5⟩
theorem Mk.lt {w0 w : World} {b cap : Nat} {l : List Int} (h : Mk w0 w b cap l) : b < w.heap.size := by
  obtain ⟨h1, h2, h3, cs, f, h4, h5⟩ := h
  exact (Array.getElem?_eq_some_iff.1 h4).1
theorem Mk.ne {w0 w : World} {b cap g : Nat} {l : List Int} {x : List Int} {y z : Int} (h : Mk w0 w b cap l) (hI : IsS51 w0 w g x y z) : b ≠ g := by
  obtain ⟨h1, h2, h3, cs, f, h4, h5⟩ := h
  exact fun e => hI.ne_blk h4 (by decide) e.symm
theorem Mk.keep {w0 w w' : World} {b cap g : Nat} {l : List Int} {x : List Int} {y z : Int} (h : Mk w0 w b cap l) (hI : IsS51 w0 w g x y z) (hk : KeepBut w w' g none) : Mk w0 w' b cap l :=
  h.move (hk.2 b h.lt (h.ne hI) (by simp))
theorem Mk.cell {w0 w : World} {b cap : Nat} {l : List Int} (h : Mk w0 w b cap l) (i : Int) (h0 : 0 ≤ i) (h1 : i < l.length) : w.cell? ⟨b, i.toNat, none⟩ = some (.int .u8 (rd l i)) ∧ w.frozen? ⟨b, i.toNat, none⟩ = false := by
  obtain ⟨hb, h2, h3, cs, f, h4, h5, h6⟩ := h
  have e : rd l i = rd l (i.toNat : Int) := by rw [Int.toNat_of_nonneg h0]
  refine ⟨?_, ?_⟩
  · simp [World.cell?, h4]
    rw [h6 i.toNat (by omega), ← e]
  · simp [World.frozen?, h4]; omega
theorem Mk.reads {w0 w : World} {b cap : Nat} {l : List Int} (h : Mk w0 w b cap l) : Kd.C (Kd.int .u8) w (some ⟨b, 0, none⟩) l.length l := by
  refine Kd.C_of_reads (d := (0 : Int)) (h1 := fun _ => rfl) ⟨rfl, ?_, fun hn => ⟨⟨b, 0, none⟩, rfl, fun i h0 => ?_⟩⟩
  · obtain ⟨_, h2, h3, _⟩ := h
    unfold maxLen at h3; omega
  · have := (h.cell (i : Int) (by omega) (by omega)).1
    rw [Int.toNat_natCast] at this
    have e : (⟨b, 0, none⟩ : Addr).add i = ⟨b, i, none⟩ := by simp only [Addr.add, Nat.zero_add]; split <;> simp_all
    rw [e, this]
    unfold rd; rw [Int.toNat_natCast]
theorem Mk.put {w0 w : World} {b cap : Nat} {l : List Int} (h : Mk w0 w b cap l) (i : Int) (h0 : 0 ≤ i) (h1 : i < l.length) (x : Int) : Mk w0 (w.setCell ⟨b, i.toNat, none⟩ (.int .u8 x)) b cap (l.set i.toNat x) := by
  obtain ⟨hb, h2, h3, cs, f, h4, h5, h6⟩ := h
  refine ⟨hb, by simpa using h2, h3, cs.setIfInBounds i.toNat (.int .u8 x), f, ?_, by simpa using h5, ?_⟩
  · simp [World.setCell, Array.getElem?_modify, h4]
  · intro j hj
    simp only [List.length_set] at hj
    by_cases e : i.toNat = j
    · subst e
      rw [Array.getElem?_setIfInBounds_self_of_lt (by omega)]
      unfold rd; rw [Int.toNat_natCast, List.getD_eq_getElem?_getD, List.getElem?_set_self (by omega)]; rfl
    · rw [Array.getElem?_setIfInBounds_ne e, h6 j hj]
      unfold rd; rw [Int.toNat_natCast, List.getD_eq_getElem?_getD, List.getD_eq_getElem?_getD, List.getElem?_set_ne e]
theorem Mk.take {w0 w : World} {b cap : Nat} {l : List Int} (h : Mk w0 w b cap l) (n : Nat) : Mk w0 w b cap (l.take n) := by
  obtain ⟨hb, h2, h3, cs, f, h4, h5, h6⟩ := h
  refine ⟨hb, Nat.le_trans (List.length_take_le' _ _) h2, h3, cs, f, h4, h5, fun i hi => ?_⟩
  rw [List.length_take] at hi
  rw [h6 i (by omega)]
  unfold rd
  rw [Int.toNat_natCast, List.getD_eq_getElem?_getD, List.getD_eq_getElem?_getD, List.getElem?_take_of_lt (by omega)]
theorem Mk.spare {w0 w : World} {b cap : Nat} {l : List Int} (h : Mk w0 w b cap l) (hr : l.length < cap) : (w.cell? ⟨b, l.length, none⟩).isSome = true ∧ w.frozen? ⟨b, l.length, none⟩ = false := by
  obtain ⟨hb, h2, h3, cs, f, h4, h5, h6⟩ := h
  refine ⟨?_, ?_⟩
  · simp [World.cell?, h4]; omega
  · simp [World.frozen?, h4]; omega
theorem Mk.snoc {w0 w : World} {b cap : Nat} {l : List Int} (h : Mk w0 w b cap l) (hr : l.length < cap) (x : Int) : Mk w0 (w.setCell ⟨b, l.length, none⟩ (.int .u8 x)) b cap (l ++ [x]) := by
  obtain ⟨hb, h2, h3, cs, f, h4, h5, h6⟩ := h
  refine ⟨hb, by rw [List.length_append]; simp only [List.length_cons, List.length_nil]; omega, h3, cs.setIfInBounds l.length (.int .u8 x), f, ?_, by simpa using h5, ?_⟩
  · simp [World.setCell, Array.getElem?_modify, h4]
  · intro j hj
    simp only [List.length_append, List.length_cons, List.length_nil] at hj
    by_cases e : l.length = j
    · subst e
      rw [Array.getElem?_setIfInBounds_self_of_lt (by omega)]
      unfold rd; rw [Int.toNat_natCast, List.getD_eq_getElem?_getD, List.getElem?_append_right (Nat.le_refl _)]; simp
    · rw [Array.getElem?_setIfInBounds_ne e, h6 j (by omega)]
      unfold rd; rw [Int.toNat_natCast, List.getD_eq_getElem?_getD, List.getD_eq_getElem?_getD, List.getElem?_append_left (by omega)]
theorem j0_pos {k : Nat} {l s : List Int} {x5 x6 u v : Int} {r : List Int × Int × Int} (h : spec_l3Turn.j0 k l x5 x6 s u v = some r) : ∃ m, k = m + 1 := by
  rcases k with _ | k
  · simp [spec_l3Turn.j0] at h
  · exact ⟨k, rfl⟩
theorem j1_pos {k : Nat} {l s : List Int} {x5 x6 u v : Int} {b : Bool} {r : List Int × Int × Int} (h : spec_l3Turn.j1 k l x5 x6 b s u v = some r) : ∃ m, k = m + 1 := by
  rcases k with _ | k
  · simp [spec_l3Turn.j1] at h
  · exact ⟨k, rfl⟩
theorem j2_pos {k : Nat} {l s : List Int} {x5 u v : Int} {b : Bool} {r : List Int × Int × Int} (h : spec_l3Turn.j2 k l x5 b s u v = some r) : ∃ m, k = m + 1 := by
  rcases k with _ | k
  · simp [spec_l3Turn.j2] at h
  · exact ⟨k, rfl⟩
theorem j2_plain {k : Nat} {l r1 s : List Int} {x5 u v r2 r3 : Int} (h : spec_l3Turn.j2 k l x5 false s u v = some (r1, r2, r3)) (h5 : ¬ x5 = 5) : r1 = l ∧ r2 = u ∧ r3 = v := by
  rcases k with _ | k
  · simp [spec_l3Turn.j2] at h
  · simp [spec_l3Turn.j2, h5] at h
    obtain ⟨rfl, rfl, rfl⟩ := h
    exact ⟨rfl, rfl, rfl⟩
theorem j1_plain {k : Nat} {l r1 s : List Int} {x5 x6 u v r2 r3 : Int} (h : spec_l3Turn.j1 k l x5 x6 false s u v = some (r1, r2, r3)) (x4 : ¬ x5 = 4) (h5 : ¬ x5 = 5) : r1 = l ∧ r2 = u ∧ r3 = v := by
  rcases k with _ | k
  · simp [spec_l3Turn.j1] at h
  · simp only [spec_l3Turn.j1] at h
    rw [if_neg (by simp), if_neg x4] at h
    exact j2_plain h h5
theorem j0_plain {k : Nat} {l r1 s : List Int} {x5 x6 u v r2 r3 : Int} (h : spec_l3Turn.j0 k l x5 x6 s u v = some (r1, r2, r3)) (x3 : ¬ x5 = 3) (x4 : ¬ x5 = 4) (h5 : ¬ x5 = 5) : r1 = l ∧ r2 = u ∧ r3 = v := by
  rcases k with _ | k
  · simp [spec_l3Turn.j0] at h
  · simp only [spec_l3Turn.j0] at h
    rw [if_neg x3] at h
    exact j1_plain h x4 h5
set_option maxHeartbeats 1000000 in
set_option maxRecDepth 100000 in
theorem turn_z (k g : Nat) (s0_0 : List Int) (s0_1 s0_2 : Int) (b cap : Nat) (l1 : List Int) (r1 : List Int) (r2 r3 : Int) (w0 w : World) (hI : IsS51 w0 w g s0_0 s0_1 s0_2) (hB : Below w0.heap.size w0 w) (hM : Mk w0 w b cap l1) (t1 u1 v1 : Int) (A1 : Hid (spec_l1Next.f s0_0 s0_1 s0_2 8 = some (t1, u1, v1))) (A2 : Hid (spec_l1Fill.f k s0_0 u1 v1 = some (r1, r2, r3))) (c0 : (l1.length : Int) = 0) :
    Calls Try.prog 24 #[.pointer (some ⟨g, 0, none⟩), .slice (some ⟨b, 0, none⟩) l1.length cap] w fun e w' => ∃ A c, e = .returned (.slice A r1.length c) ∧ r1.length ≤ c ∧ Kd.C (Kd.int .u8) w' A r1.length r1 ∧ IsS51 w0 w' g s0_0 r2 r3 ∧ Below w0.heap.size w0 w' := by
  have c0b : ((l1.length : Int) == 0) = true := beq_iff_eq.mpr c0
  have HI := Lib.hid hI; have HB := Lib.hid hB; have HM := Lib.hid hM
  clear hI hB hM
  clear c0
  go_enter Try.func24, Try.ntmps24
  go_wp2_with (first | (go_at_call 21; refine (spec_l1Next.calls g _ _ _ 8 _ _ _ w0 _ HI.out HB.out A1.out).mono ?_; rintro e w1 ⟨rfl, hi, hb, hk⟩; have HM1 := Lib.hid (HM.out.keep HI.out hk); clear HM; have HM := HM1; replace HI := Lib.hid hi; replace HB := Lib.hid hb; clear hi hb hk HM1) | (go_at_call 27; refine (spec_l1Fill.calls _ g _ _ _ _ _ _ w0 _ HI.out HB.out A2.out).mono ?_; rintro e w2 ⟨v0, rfl, ho, hi, hb, hk⟩; obtain ⟨A, c, rfl, hc, hC⟩ := Kd.R_reads ho))
  go_ret
  exact ⟨A, c, rfl, hc, hC, hi, hb⟩
set_option maxHeartbeats 1000000 in
set_option maxRecDepth 100000 in
theorem turn_a (k g : Nat) (s0_0 : List Int) (s0_1 s0_2 : Int) (b cap : Nat) (l1 : List Int) (r2 r3 : Int) (w0 w : World) (hI : IsS51 w0 w g s0_0 s0_1 s0_2) (hB : Below w0.heap.size w0 w) (hM : Mk w0 w b cap l1) (t1 u1 v1 t2 u2 v2 u3 v3 t4 u4 v4 t6 ji : Int) (A1 : Hid (spec_l1Next.f s0_0 s0_1 s0_2 8 = some (t1, u1, v1))) (A2 : Hid (spec_l1Next.f s0_0 u1 v1 (l1.length : Int) = some (t2, u2, v2))) (A3 : Hid (spec_l1Chance.f s0_0 u2 v2 2 = some (true, u3, v3))) (A4 : Hid (spec_l1Next.f s0_0 u3 v3 16 = some (t4, u4, v4))) (A6 : Hid (spec_l1Next.f s0_0 u4 v4 255 = some (t6, r2, r3))) (hji : Int.tmod t4 (l1.length : Int) = ji) (d0 : 0 ≤ ji) (d1 : ji < (l1.length : Int)) (c0 : ¬ (l1.length : Int) = 0) (c3 : t1 < 3) :
    Calls Try.prog 24 #[.pointer (some ⟨g, 0, none⟩), .slice (some ⟨b, 0, none⟩) l1.length cap] w fun e w' => ∃ A c, e = .returned (.slice A (l1.set ji.toNat (Go.bits .xor .u8 (rd l1 ji) ((wrap64 (1 + t6)) % 256))).length c) ∧ (l1.set ji.toNat (Go.bits .xor .u8 (rd l1 ji) ((wrap64 (1 + t6)) % 256))).length ≤ c ∧ Kd.C (Kd.int .u8) w' A (l1.set ji.toNat (Go.bits .xor .u8 (rd l1 ji) ((wrap64 (1 + t6)) % 256))).length (l1.set ji.toNat (Go.bits .xor .u8 (rd l1 ji) ((wrap64 (1 + t6)) % 256))) ∧ IsS51 w0 w' g s0_0 r2 r3 ∧ Below w0.heap.size w0 w' := by
  have hlen : l1.length ≤ 9223372036854775807 := hM.reads.2.1
  have c0b : ((l1.length : Int) == 0) = false := beq_eq_false_iff_ne.mpr c0
  have c0n : ¬ (l1 = []) := fun h_ => c0 (by rw [h_]; rfl)
  have y3 : (t1 == 3) = false := beq_eq_false_iff_ne.mpr (by omega)
  have y4 : (t1 == 4) = false := beq_eq_false_iff_ne.mpr (by omega)
  have y5 : (t1 == 5) = false := beq_eq_false_iff_ne.mpr (by omega)
  have HI := Lib.hid hI; have HB := Lib.hid hB; have HM := Lib.hid hM
  clear hI hB hM
  go_enter Try.func24, Try.ntmps24
  go_wp2_with (first | (go_at_call 21; refine (spec_l1Next.calls g _ _ _ 8 _ _ _ w0 _ HI.out HB.out A1.out).mono ?_; rintro e w1 ⟨rfl, hi, hb, hk⟩; have HM1 := Lib.hid (HM.out.keep HI.out hk); clear HM; have HM := HM1; replace HI := Lib.hid hi; replace HB := Lib.hid hb; clear hi hb hk HM1) | (go_at_call 21; refine (spec_l1Next.calls g _ _ _ (l1.length : Int) _ _ _ w0 _ HI.out HB.out A2.out).mono ?_; rintro e w1 ⟨rfl, hi, hb, hk⟩; have HM1 := Lib.hid (HM.out.keep HI.out hk); clear HM; have HM := HM1; replace HI := Lib.hid hi; replace HB := Lib.hid hb; clear hi hb hk HM1) | (go_at_call 23; refine (spec_l1Chance.calls g _ _ _ 2 _ _ _ w0 _ HI.out HB.out A3.out).mono ?_; rintro e w1 ⟨rfl, hi, hb, hk⟩; have HM1 := Lib.hid (HM.out.keep HI.out hk); clear HM; have HM := HM1; replace HI := Lib.hid hi; replace HB := Lib.hid hb; clear hi hb hk HM1) | (go_at_call 21; refine (spec_l1Next.calls g _ _ _ 16 _ _ _ w0 _ HI.out HB.out A4.out).mono ?_; rintro e w1 ⟨rfl, hi, hb, hk⟩; have HM1 := Lib.hid (HM.out.keep HI.out hk); clear HM; have HM := HM1; replace HI := Lib.hid hi; replace HB := Lib.hid hb; clear hi hb hk HM1))
  have hc0 := (HM.out.cell ji d0 d1).1
  have hf0 := (HM.out.cell ji d0 d1).2
  go_region_law (go_simp; go_at_call 21; refine (spec_l1Next.calls g _ _ _ 255 _ _ _ w0 _ (IsS51.drew HI.out) (below_drew HB.out) A6.out).mono ?_; rintro e w1 ⟨rfl, hi, hb, hk⟩; have HM1 := Lib.hid (Mk.keep (HM.out.move (w' := _) rfl) (IsS51.drew HI.out) hk); clear HM; have HM := HM1; replace HI := Lib.hid hi; replace HB := Lib.hid hb; have hc1 := (HM.out.cell ji d0 d1).1; have hf1 := (HM.out.cell ji d0 d1).2; clear hi hb hk HM1)
  all_goals go_wp2
  all_goals go_ret
  all_goals
    have HP := HM.out.put ji d0 d1 (Go.bits .xor .u8 (rd l1 ji) ((wrap64 (1 + t6)) % 256))
    exact ⟨some ⟨b, 0, none⟩, cap, by rw [List.length_set]; rfl, HP.2.1, HP.reads, IsS51.far HI.out (HM.out.ne HI.out).symm _, below_set HB.out HM.out.1⟩
set_option maxHeartbeats 1000000 in
set_option maxRecDepth 100000 in
theorem turn_b (k g : Nat) (s0_0 : List Int) (s0_1 s0_2 : Int) (b cap : Nat) (l1 : List Int) (r2 r3 : Int) (w0 w : World) (hI : IsS51 w0 w g s0_0 s0_1 s0_2) (hB : Below w0.heap.size w0 w) (hM : Mk w0 w b cap l1) (t1 u1 v1 t2 u2 v2 u3 v3 t6 ji : Int) (A1 : Hid (spec_l1Next.f s0_0 s0_1 s0_2 8 = some (t1, u1, v1))) (A2 : Hid (spec_l1Next.f s0_0 u1 v1 (l1.length : Int) = some (t2, u2, v2))) (A3 : Hid (spec_l1Chance.f s0_0 u2 v2 2 = some (false, u3, v3))) (A6 : Hid (spec_l1Next.f s0_0 u3 v3 255 = some (t6, r2, r3))) (hji : Int.tmod t2 (l1.length : Int) = ji) (d0 : 0 ≤ ji) (d1 : ji < (l1.length : Int)) (c0 : ¬ (l1.length : Int) = 0) (c3 : t1 < 3) :
    Calls Try.prog 24 #[.pointer (some ⟨g, 0, none⟩), .slice (some ⟨b, 0, none⟩) l1.length cap] w fun e w' => ∃ A c, e = .returned (.slice A (l1.set ji.toNat (Go.bits .xor .u8 (rd l1 ji) ((wrap64 (1 + t6)) % 256))).length c) ∧ (l1.set ji.toNat (Go.bits .xor .u8 (rd l1 ji) ((wrap64 (1 + t6)) % 256))).length ≤ c ∧ Kd.C (Kd.int .u8) w' A (l1.set ji.toNat (Go.bits .xor .u8 (rd l1 ji) ((wrap64 (1 + t6)) % 256))).length (l1.set ji.toNat (Go.bits .xor .u8 (rd l1 ji) ((wrap64 (1 + t6)) % 256))) ∧ IsS51 w0 w' g s0_0 r2 r3 ∧ Below w0.heap.size w0 w' := by
  have hlen : l1.length ≤ 9223372036854775807 := hM.reads.2.1
  have c0b : ((l1.length : Int) == 0) = false := beq_eq_false_iff_ne.mpr c0
  have c0n : ¬ (l1 = []) := fun h_ => c0 (by rw [h_]; rfl)
  have y3 : (t1 == 3) = false := beq_eq_false_iff_ne.mpr (by omega)
  have y4 : (t1 == 4) = false := beq_eq_false_iff_ne.mpr (by omega)
  have y5 : (t1 == 5) = false := beq_eq_false_iff_ne.mpr (by omega)
  have HI := Lib.hid hI; have HB := Lib.hid hB; have HM := Lib.hid hM
  clear hI hB hM
  go_enter Try.func24, Try.ntmps24
  go_wp2_with (first | (go_at_call 21; refine (spec_l1Next.calls g _ _ _ 8 _ _ _ w0 _ HI.out HB.out A1.out).mono ?_; rintro e w1 ⟨rfl, hi, hb, hk⟩; have HM1 := Lib.hid (HM.out.keep HI.out hk); clear HM; have HM := HM1; replace HI := Lib.hid hi; replace HB := Lib.hid hb; clear hi hb hk HM1) | (go_at_call 21; refine (spec_l1Next.calls g _ _ _ (l1.length : Int) _ _ _ w0 _ HI.out HB.out A2.out).mono ?_; rintro e w1 ⟨rfl, hi, hb, hk⟩; have HM1 := Lib.hid (HM.out.keep HI.out hk); clear HM; have HM := HM1; replace HI := Lib.hid hi; replace HB := Lib.hid hb; clear hi hb hk HM1) | (go_at_call 23; refine (spec_l1Chance.calls g _ _ _ 2 _ _ _ w0 _ HI.out HB.out A3.out).mono ?_; rintro e w1 ⟨rfl, hi, hb, hk⟩; have HM1 := Lib.hid (HM.out.keep HI.out hk); clear HM; have HM := HM1; replace HI := Lib.hid hi; replace HB := Lib.hid hb; clear hi hb hk HM1))
  have hc0 := (HM.out.cell ji d0 d1).1
  have hf0 := (HM.out.cell ji d0 d1).2
  go_region_law (go_simp; go_at_call 21; refine (spec_l1Next.calls g _ _ _ 255 _ _ _ w0 _ (IsS51.drew HI.out) (below_drew HB.out) A6.out).mono ?_; rintro e w1 ⟨rfl, hi, hb, hk⟩; have HM1 := Lib.hid (Mk.keep (HM.out.move (w' := _) rfl) (IsS51.drew HI.out) hk); clear HM; have HM := HM1; replace HI := Lib.hid hi; replace HB := Lib.hid hb; have hc1 := (HM.out.cell ji d0 d1).1; have hf1 := (HM.out.cell ji d0 d1).2; clear hi hb hk HM1)
  all_goals go_wp2
  all_goals go_ret
  all_goals
    have HP := HM.out.put ji d0 d1 (Go.bits .xor .u8 (rd l1 ji) ((wrap64 (1 + t6)) % 256))
    exact ⟨some ⟨b, 0, none⟩, cap, by rw [List.length_set]; rfl, HP.2.1, HP.reads, IsS51.far HI.out (HM.out.ne HI.out).symm _, below_set HB.out HM.out.1⟩
set_option maxHeartbeats 1000000 in
set_option maxRecDepth 100000 in
theorem turn_c (k g : Nat) (s0_0 : List Int) (s0_1 s0_2 : Int) (b cap : Nat) (l1 : List Int) (r2 r3 : Int) (w0 w : World) (hI : IsS51 w0 w g s0_0 s0_1 s0_2) (hB : Below w0.heap.size w0 w) (hM : Mk w0 w b cap l1) (u1 v1 ji : Int) (A1 : Hid (spec_l1Next.f s0_0 s0_1 s0_2 8 = some (3, u1, v1))) (A2 : Hid (spec_l1Chance.f s0_0 u1 v1 2 = some (true, r2, r3))) (hji : wrap64 ((l1.length : Int) - 1) = ji) (d0 : 0 ≤ ji) (d1 : ji ≤ (l1.length : Int)) (c0 : ¬ (l1.length : Int) = 0) :
    Calls Try.prog 24 #[.pointer (some ⟨g, 0, none⟩), .slice (some ⟨b, 0, none⟩) l1.length cap] w fun e w' => ∃ A c, e = .returned (.slice A (l1.take ji.toNat).length c) ∧ (l1.take ji.toNat).length ≤ c ∧ Kd.C (Kd.int .u8) w' A (l1.take ji.toNat).length (l1.take ji.toNat) ∧ IsS51 w0 w' g s0_0 r2 r3 ∧ Below w0.heap.size w0 w' := by
  have hlen : l1.length ≤ 9223372036854775807 := hM.reads.2.1
  have c0b : ((l1.length : Int) == 0) = false := beq_eq_false_iff_ne.mpr c0
  have c0n : ¬ (l1 = []) := fun h_ => c0 (by rw [h_]; rfl)
  have hjw : IntKind.i64.wrap ((l1.length : Int) - 1) = ji := (i64_w _).trans hji
  have hcap : l1.length ≤ cap := hM.2.1
  have hlt : (l1.take ji.toNat).length = ji.toNat := by rw [List.length_take]; omega
  have HI := Lib.hid hI; have HB := Lib.hid hB; have HM := Lib.hid hM
  clear hI hB hM
  go_enter Try.func24, Try.ntmps24
  go_wp2_with (first | (go_at_call 21; refine (spec_l1Next.calls g _ _ _ 8 _ _ _ w0 _ HI.out HB.out A1.out).mono ?_; rintro e w1 ⟨rfl, hi, hb, hk⟩; have HM1 := Lib.hid (HM.out.keep HI.out hk); clear HM; have HM := HM1; replace HI := Lib.hid hi; replace HB := Lib.hid hb; clear hi hb hk HM1) | (go_at_call 23; refine (spec_l1Chance.calls g _ _ _ 2 _ _ _ w0 _ HI.out HB.out A2.out).mono ?_; rintro e w1 ⟨rfl, hi, hb, hk⟩; have HM1 := Lib.hid (HM.out.keep HI.out hk); clear HM; have HM := HM1; replace HI := Lib.hid hi; replace HB := Lib.hid hb; clear hi hb hk HM1))
  go_ret
  have HT := HM.out.take ji.toNat
  exact ⟨some ⟨b, 0, none⟩, cap, by rw [hlt]; rfl, HT.2.1, HT.reads, HI.out, HB.out⟩
set_option maxHeartbeats 1000000 in
set_option maxRecDepth 100000 in
theorem turn_d (k g : Nat) (s0_0 : List Int) (s0_1 s0_2 : Int) (b cap : Nat) (l1 : List Int) (r2 r3 : Int) (w0 w : World) (hI : IsS51 w0 w g s0_0 s0_1 s0_2) (hB : Below w0.heap.size w0 w) (hM : Mk w0 w b cap l1) (t1 u1 v1 : Int) (A1 : Hid (spec_l1Next.f s0_0 s0_1 s0_2 8 = some (t1, u1, v1))) (A2 : Hid (spec_l1Chance.f s0_0 u1 v1 2 = some (false, r2, r3))) (c0 : ¬ (l1.length : Int) = 0) (c3 : t1 = 3) :
    Calls Try.prog 24 #[.pointer (some ⟨g, 0, none⟩), .slice (some ⟨b, 0, none⟩) l1.length cap] w fun e w' => ∃ A c, e = .returned (.slice A l1.length c) ∧ l1.length ≤ c ∧ Kd.C (Kd.int .u8) w' A l1.length l1 ∧ IsS51 w0 w' g s0_0 r2 r3 ∧ Below w0.heap.size w0 w' := by
  have hlen : l1.length ≤ 9223372036854775807 := hM.reads.2.1
  have c0b : ((l1.length : Int) == 0) = false := beq_eq_false_iff_ne.mpr c0
  have c0n : ¬ (l1 = []) := fun h_ => c0 (by rw [h_]; rfl)
  have z3 : ¬ t1 < 3 := by omega
  have y3 : (t1 == 3) = true := beq_iff_eq.mpr (by omega)
  have y4 : (t1 == 4) = false := beq_eq_false_iff_ne.mpr (by omega)
  have y5 : (t1 == 5) = false := beq_eq_false_iff_ne.mpr (by omega)
  have HI := Lib.hid hI; have HB := Lib.hid hB; have HM := Lib.hid hM
  clear hI hB hM
  clear c3
  go_enter Try.func24, Try.ntmps24
  go_wp2_with (first | (go_at_call 21; refine (spec_l1Next.calls g _ _ _ 8 _ _ _ w0 _ HI.out HB.out A1.out).mono ?_; rintro e w1 ⟨rfl, hi, hb, hk⟩; have HM1 := Lib.hid (HM.out.keep HI.out hk); clear HM; have HM := HM1; replace HI := Lib.hid hi; replace HB := Lib.hid hb; clear hi hb hk HM1) | (go_at_call 23; refine (spec_l1Chance.calls g _ _ _ 2 _ _ _ w0 _ HI.out HB.out A2.out).mono ?_; rintro e w1 ⟨rfl, hi, hb, hk⟩; have HM1 := Lib.hid (HM.out.keep HI.out hk); clear HM; have HM := HM1; replace HI := Lib.hid hi; replace HB := Lib.hid hb; clear hi hb hk HM1))
  go_ret
  exact ⟨some ⟨b, 0, none⟩, cap, rfl, HM.out.2.1, HM.out.reads, HI.out, HB.out⟩
set_option maxHeartbeats 1000000 in
set_option maxRecDepth 100000 in
theorem turn_f (k g : Nat) (s0_0 : List Int) (s0_1 s0_2 : Int) (b cap : Nat) (l1 : List Int) (r2 r3 : Int) (w0 w : World) (hI : IsS51 w0 w g s0_0 s0_1 s0_2) (hB : Below w0.heap.size w0 w) (hM : Mk w0 w b cap l1) (t1 u1 v1 : Int) (A1 : Hid (spec_l1Next.f s0_0 s0_1 s0_2 8 = some (t1, u1, v1))) (A2 : Hid (spec_l1Chance.f s0_0 u1 v1 2 = some (false, r2, r3))) (c0 : ¬ (l1.length : Int) = 0) (c3 : t1 = 4) :
    Calls Try.prog 24 #[.pointer (some ⟨g, 0, none⟩), .slice (some ⟨b, 0, none⟩) l1.length cap] w fun e w' => ∃ A c, e = .returned (.slice A l1.length c) ∧ l1.length ≤ c ∧ Kd.C (Kd.int .u8) w' A l1.length l1 ∧ IsS51 w0 w' g s0_0 r2 r3 ∧ Below w0.heap.size w0 w' := by
  have hlen : l1.length ≤ 9223372036854775807 := hM.reads.2.1
  have c0b : ((l1.length : Int) == 0) = false := beq_eq_false_iff_ne.mpr c0
  have c0n : ¬ (l1 = []) := fun h_ => c0 (by rw [h_]; rfl)
  have z3 : ¬ t1 < 3 := by omega
  have y3 : (t1 == 3) = false := beq_eq_false_iff_ne.mpr (by omega)
  have y4 : (t1 == 4) = true := beq_iff_eq.mpr (by omega)
  have y5 : (t1 == 5) = false := beq_eq_false_iff_ne.mpr (by omega)
  have HI := Lib.hid hI; have HB := Lib.hid hB; have HM := Lib.hid hM
  clear hI hB hM
  clear c3
  go_enter Try.func24, Try.ntmps24
  go_wp2_with (first | (go_at_call 21; refine (spec_l1Next.calls g _ _ _ 8 _ _ _ w0 _ HI.out HB.out A1.out).mono ?_; rintro e w1 ⟨rfl, hi, hb, hk⟩; have HM1 := Lib.hid (HM.out.keep HI.out hk); clear HM; have HM := HM1; replace HI := Lib.hid hi; replace HB := Lib.hid hb; clear hi hb hk HM1) | (go_at_call 23; refine (spec_l1Chance.calls g _ _ _ 2 _ _ _ w0 _ HI.out HB.out A2.out).mono ?_; rintro e w1 ⟨rfl, hi, hb, hk⟩; have HM1 := Lib.hid (HM.out.keep HI.out hk); clear HM; have HM := HM1; replace HI := Lib.hid hi; replace HB := Lib.hid hb; clear hi hb hk HM1))
  go_ret
  exact ⟨some ⟨b, 0, none⟩, cap, rfl, HM.out.2.1, HM.out.reads, HI.out, HB.out⟩
set_option maxHeartbeats 1000000 in
set_option maxRecDepth 100000 in
theorem turn_h (k g : Nat) (s0_0 : List Int) (s0_1 s0_2 : Int) (b cap : Nat) (l1 : List Int) (r2 r3 : Int) (w0 w : World) (hI : IsS51 w0 w g s0_0 s0_1 s0_2) (hB : Below w0.heap.size w0 w) (hM : Mk w0 w b cap l1) (t1 u1 v1 : Int) (A1 : Hid (spec_l1Next.f s0_0 s0_1 s0_2 8 = some (t1, u1, v1))) (A2 : Hid (spec_l1Chance.f s0_0 u1 v1 3 = some (false, r2, r3))) (c0 : ¬ (l1.length : Int) = 0) (c3 : t1 = 5) :
    Calls Try.prog 24 #[.pointer (some ⟨g, 0, none⟩), .slice (some ⟨b, 0, none⟩) l1.length cap] w fun e w' => ∃ A c, e = .returned (.slice A l1.length c) ∧ l1.length ≤ c ∧ Kd.C (Kd.int .u8) w' A l1.length l1 ∧ IsS51 w0 w' g s0_0 r2 r3 ∧ Below w0.heap.size w0 w' := by
  have hlen : l1.length ≤ 9223372036854775807 := hM.reads.2.1
  have c0b : ((l1.length : Int) == 0) = false := beq_eq_false_iff_ne.mpr c0
  have c0n : ¬ (l1 = []) := fun h_ => c0 (by rw [h_]; rfl)
  have z3 : ¬ t1 < 3 := by omega
  have y3 : (t1 == 3) = false := beq_eq_false_iff_ne.mpr (by omega)
  have y4 : (t1 == 4) = false := beq_eq_false_iff_ne.mpr (by omega)
  have y5 : (t1 == 5) = true := beq_iff_eq.mpr (by omega)
  have HI := Lib.hid hI; have HB := Lib.hid hB; have HM := Lib.hid hM
  clear hI hB hM
  clear c3
  go_enter Try.func24, Try.ntmps24
  go_wp2_with (first | (go_at_call 21; refine (spec_l1Next.calls g _ _ _ 8 _ _ _ w0 _ HI.out HB.out A1.out).mono ?_; rintro e w1 ⟨rfl, hi, hb, hk⟩; have HM1 := Lib.hid (HM.out.keep HI.out hk); clear HM; have HM := HM1; replace HI := Lib.hid hi; replace HB := Lib.hid hb; clear hi hb hk HM1) | (go_at_call 23; refine (spec_l1Chance.calls g _ _ _ 3 _ _ _ w0 _ HI.out HB.out A2.out).mono ?_; rintro e w1 ⟨rfl, hi, hb, hk⟩; have HM1 := Lib.hid (HM.out.keep HI.out hk); clear HM; have HM := HM1; replace HI := Lib.hid hi; replace HB := Lib.hid hb; clear hi hb hk HM1))
  go_ret
  exact ⟨some ⟨b, 0, none⟩, cap, rfl, HM.out.2.1, HM.out.reads, HI.out, HB.out⟩
set_option maxHeartbeats 1000000 in
set_option maxRecDepth 100000 in
theorem turn_i (k g : Nat) (s0_0 : List Int) (s0_1 s0_2 : Int) (b cap : Nat) (l1 : List Int) (w0 w : World) (hI : IsS51 w0 w g s0_0 s0_1 s0_2) (hB : Below w0.heap.size w0 w) (hM : Mk w0 w b cap l1) (t1 u1 v1 : Int) (A1 : Hid (spec_l1Next.f s0_0 s0_1 s0_2 8 = some (t1, u1, v1))) (c0 : ¬ (l1.length : Int) = 0) (c3 : ¬ t1 < 3) (x3 : ¬ t1 = 3) (x4 : ¬ t1 = 4) (x5 : ¬ t1 = 5) :
    Calls Try.prog 24 #[.pointer (some ⟨g, 0, none⟩), .slice (some ⟨b, 0, none⟩) l1.length cap] w fun e w' => ∃ A c, e = .returned (.slice A l1.length c) ∧ l1.length ≤ c ∧ Kd.C (Kd.int .u8) w' A l1.length l1 ∧ IsS51 w0 w' g s0_0 u1 v1 ∧ Below w0.heap.size w0 w' := by
  have hlen : l1.length ≤ 9223372036854775807 := hM.reads.2.1
  have c0b : ((l1.length : Int) == 0) = false := beq_eq_false_iff_ne.mpr c0
  have c0n : ¬ (l1 = []) := fun h_ => c0 (by rw [h_]; rfl)
  have y3 : (t1 == 3) = false := beq_eq_false_iff_ne.mpr (by omega)
  have y4 : (t1 == 4) = false := beq_eq_false_iff_ne.mpr (by omega)
  have y5 : (t1 == 5) = false := beq_eq_false_iff_ne.mpr (by omega)
  have HI := Lib.hid hI; have HB := Lib.hid hB; have HM := Lib.hid hM
  clear hI hB hM
  go_enter Try.func24, Try.ntmps24
  go_wp2_with (first | (go_at_call 21; refine (spec_l1Next.calls g _ _ _ 8 _ _ _ w0 _ HI.out HB.out A1.out).mono ?_; rintro e w1 ⟨rfl, hi, hb, hk⟩; have HM1 := Lib.hid (HM.out.keep HI.out hk); clear HM; have HM := HM1; replace HI := Lib.hid hi; replace HB := Lib.hid hb; clear hi hb hk HM1))
  go_ret
  exact ⟨some ⟨b, 0, none⟩, cap, rfl, HM.out.2.1, HM.out.reads, HI.out, HB.out⟩
set_option maxHeartbeats 1000000 in
set_option maxRecDepth 100000 in
theorem turn_g (k g : Nat) (s0_0 : List Int) (s0_1 s0_2 : Int) (b cap : Nat) (l1 : List Int) (r1 : List Int) (r2 r3 : Int) (w0 w : World) (hI : IsS51 w0 w g s0_0 s0_1 s0_2) (hB : Below w0.heap.size w0 w) (hM : Mk w0 w b cap l1) (t1 u1 v1 u2 v2 : Int) (A1 : Hid (spec_l1Next.f s0_0 s0_1 s0_2 8 = some (t1, u1, v1))) (A2 : Hid (spec_l1Chance.f s0_0 u1 v1 3 = some (true, u2, v2))) (A3 : Hid (spec_l1Fill.f k s0_0 u2 v2 = some (r1, r2, r3))) (c0 : ¬ (l1.length : Int) = 0) (c3 : t1 = 5) :
    Calls Try.prog 24 #[.pointer (some ⟨g, 0, none⟩), .slice (some ⟨b, 0, none⟩) l1.length cap] w fun e w' => ∃ A c, e = .returned (.slice A r1.length c) ∧ r1.length ≤ c ∧ Kd.C (Kd.int .u8) w' A r1.length r1 ∧ IsS51 w0 w' g s0_0 r2 r3 ∧ Below w0.heap.size w0 w' := by
  have hlen : l1.length ≤ 9223372036854775807 := hM.reads.2.1
  have c0b : ((l1.length : Int) == 0) = false := beq_eq_false_iff_ne.mpr c0
  have c0n : ¬ (l1 = []) := fun h_ => c0 (by rw [h_]; rfl)
  have z3 : ¬ t1 < 3 := by omega
  have y3 : (t1 == 3) = false := beq_eq_false_iff_ne.mpr (by omega)
  have y4 : (t1 == 4) = false := beq_eq_false_iff_ne.mpr (by omega)
  have y5 : (t1 == 5) = true := beq_iff_eq.mpr (by omega)
  have HI := Lib.hid hI; have HB := Lib.hid hB; have HM := Lib.hid hM
  clear hI hB hM
  clear c3
  go_enter Try.func24, Try.ntmps24
  go_wp2_with (first | (go_at_call 21; refine (spec_l1Next.calls g _ _ _ 8 _ _ _ w0 _ HI.out HB.out A1.out).mono ?_; rintro e w1 ⟨rfl, hi, hb, hk⟩; have HM1 := Lib.hid (HM.out.keep HI.out hk); clear HM; have HM := HM1; replace HI := Lib.hid hi; replace HB := Lib.hid hb; clear hi hb hk HM1) | (go_at_call 23; refine (spec_l1Chance.calls g _ _ _ 3 _ _ _ w0 _ HI.out HB.out A2.out).mono ?_; rintro e w1 ⟨rfl, hi, hb, hk⟩; have HM1 := Lib.hid (HM.out.keep HI.out hk); clear HM; have HM := HM1; replace HI := Lib.hid hi; replace HB := Lib.hid hb; clear hi hb hk HM1) | (go_at_call 27; refine (spec_l1Fill.calls _ g _ _ _ _ _ _ w0 _ HI.out HB.out A3.out).mono ?_; rintro e w2 ⟨v0, rfl, ho, hi, hb, hk⟩; obtain ⟨A, c, rfl, hc, hC⟩ := Kd.R_reads ho))
  go_ret
  exact ⟨A, c, rfl, hc, hC, hi, hb⟩
theorem Try.byteInfoT : (Try.prog.info? 5).map (fun i => (i.zero, i.size, i.bytes)) = some (some (.int .u8 0), 1, 1) := by kernel_rfl
set_option maxHeartbeats 1000000 in
set_option maxRecDepth 100000 in
theorem turn_e (k g : Nat) (s0_0 : List Int) (s0_1 s0_2 : Int) (b cap : Nat) (l1 : List Int) (r2 r3 : Int) (w0 w : World) (hI : IsS51 w0 w g s0_0 s0_1 s0_2) (hB : Below w0.heap.size w0 w) (hM : Mk w0 w b cap l1) (u1 v1 : Int) (A1 : Hid (spec_l1Next.f s0_0 s0_1 s0_2 8 = some (4, u1, v1))) (A2 : Hid (spec_l1Chance.f s0_0 u1 v1 2 = some (true, r2, r3))) (c0 : ¬ (l1.length : Int) = 0) (hmax : l1.length < 1000000) :
    Calls Try.prog 24 #[.pointer (some ⟨g, 0, none⟩), .slice (some ⟨b, 0, none⟩) l1.length cap] w fun e w' => ∃ A c, e = .returned (.slice A (l1 ++ [0]).length c) ∧ (l1 ++ [0]).length ≤ c ∧ Kd.C (Kd.int .u8) w' A (l1 ++ [0]).length (l1 ++ [0]) ∧ IsS51 w0 w' g s0_0 r2 r3 ∧ Below w0.heap.size w0 w' := by
  have hlen : l1.length ≤ 9223372036854775807 := hM.reads.2.1
  have c0b : ((l1.length : Int) == 0) = false := beq_eq_false_iff_ne.mpr c0
  have c0n : ¬ (l1 = []) := fun h_ => c0 (by rw [h_]; rfl)
  obtain ⟨i0, hi0, hz0, hz1, hz2⟩ := info_parts Try.byteInfoT
  have HI := Lib.hid hI; have HB := Lib.hid hB; have HM := Lib.hid hM
  clear hI hB hM
  go_enter Try.func24, Try.ntmps24
  go_wp2_with (first | (go_at_call 21; refine (spec_l1Next.calls g _ _ _ 8 _ _ _ w0 _ HI.out HB.out A1.out).mono ?_; rintro e w1 ⟨rfl, hi, hb, hk⟩; have HM1 := Lib.hid (HM.out.keep HI.out hk); clear HM; have HM := HM1; replace HI := Lib.hid hi; replace HB := Lib.hid hb; clear hi hb hk HM1) | (go_at_call 23; refine (spec_l1Chance.calls g _ _ _ 2 _ _ _ w0 _ HI.out HB.out A2.out).mono ?_; rintro e w1 ⟨rfl, hi, hb, hk⟩; have HM1 := Lib.hid (HM.out.keep HI.out hk); clear HM; have HM := HM1; replace HI := Lib.hid hi; replace HB := Lib.hid hb; clear hi hb hk HM1) | (at_builtin; refine wpList_append_arg _ rfl _ _ 28 rfl 5 i0 (.int .u8 0) 1 1 Try.underlying28 hi0 hz0 hz1 hz2 rfl (by decide) b 0 l1.length cap (nums .u8 l1) rfl ?lo ?olds ⟨w1.heap.size, 0, none⟩ 1 1 [.int .u8 0] rfl rfl ?c1 ?c2 ?spare ?maxLen ?bytes ?room ?grow))
  all_goals have HA : Mk w0 (w1.alloc (.cells #[.int .u8 0] 5)) b cap l1 := HM.out.move (Below.heap_alloc w1 _ b HM.out.lt)
  all_goals have HIA := Lib.hid (IsS51.alloc HI.out (.cells #[.int .u8 0] 5))
  all_goals have HBA := Lib.hid (below_alloc HB.out (.cells #[.int .u8 0] 5))
  case lo => simp [nums]
  case olds =>
    intro j u hu
    simp only [nums, List.getElem?_map, Option.map_eq_some_iff] at hu
    obtain ⟨x, hx, rfl⟩ := hu
    obtain ⟨hj, hx⟩ := List.getElem?_eq_some_iff.1 hx
    have := (HA.cell (j : Int) (by omega) (by omega)).1
    rw [Int.toNat_natCast] at this
    rw [Nat.zero_add, this]
    unfold rd; rw [Int.toNat_natCast, List.getD_eq_getElem?_getD, List.getElem?_eq_getElem hj, ← hx]; rfl
  case c1 => exact cell_one_new _ _ _
  case c2 => intro u hu; simp at hu; subst hu; rfl
  case spare =>
    intro hr j hj
    simp at hj
    subst hj
    have := HA.spare (by omega)
    simpa using this
  case maxLen => unfold maxLen; omega
  case bytes => omega
  case room =>
    intro hr
    have HS := Lib.hid (HA.snoc (by omega) 0)
    have e : (w1.alloc (.cells #[.int .u8 0] 5)).setCells b l1.length [.int .u8 0] = (w1.alloc (.cells #[.int .u8 0] 5)).setCell ⟨b, l1.length, none⟩ (.int .u8 0) := rfl
    rw [e]
    generalize w1.alloc (.cells #[.int .u8 0] 5) = w3 at *
    go_wp2
    go_ret
    exact ⟨some ⟨b, 0, none⟩, cap, by rw [List.length_append]; rfl, HS.out.2.1, HS.out.reads, IsS51.far HIA.out (HA.ne HIA.out).symm _, below_set HBA.out HA.1⟩
  case grow =>
    intro hr v' w' hown hgrow
    obtain ⟨A, c, rfl, hc, hC⟩ := own_reads_of_le (enc := Value.int .u8) (d := (0 : Int)) (xs := l1 ++ [0]) (n := l1.length + 1) (by simpa [nums, encs] using hown)
    have HI2 := Lib.hid (IsS51.grown HIA.out hgrow (by simp))
    have HB2 := Lib.hid (HBA.out.grown hgrow HBA.out.size (by simp))
    have HC2 : Hid ((Kd.int .u8).C w' A (l1 ++ [0]).length (l1 ++ [0])) := Lib.hid (by rw [List.length_append]; exact Kd.C_of_reads (h1 := fun _ => rfl) hC)
    clear hgrow hown hC
    go_wp2
    go_ret
    exact ⟨A, c, by rw [List.length_append]; rfl, by simpa using hc, HC2.out, HI2.out, HB2.out⟩
set_option maxHeartbeats 1000000 in
theorem turn_any (k g : Nat) (s0_0 : List Int) (s0_1 s0_2 : Int) (b cap : Nat) (l1 : List Int) (r1 : List Int) (r2 r3 : Int) (w0 w : World) (hI : IsS51 w0 w g s0_0 s0_1 s0_2) (hB : Below w0.heap.size w0 w) (hM : Mk w0 w b cap l1) (hmax : l1.length < 1000000) (h : spec_l3Turn.f k s0_0 s0_1 s0_2 l1 = some (r1, r2, r3)) :
    Calls Try.prog 24 #[.pointer (some ⟨g, 0, none⟩), .slice (some ⟨b, 0, none⟩) l1.length cap] w fun e w' => ∃ A c, e = .returned (.slice A r1.length c) ∧ r1.length ≤ c ∧ Kd.C (Kd.int .u8) w' A r1.length r1 ∧ IsS51 w0 w' g s0_0 r2 r3 ∧ Below w0.heap.size w0 w' := by
  unfold spec_l3Turn.f at h
  obtain ⟨⟨t1, u1, v1⟩, A1, h⟩ := Option.bind_eq_some_iff.mp h
  simp only at h
  by_cases c0 : (l1.length : Int) = 0
  · rw [if_pos c0] at h
    obtain ⟨⟨t2, u2, v2⟩, A2, h⟩ := Option.bind_eq_some_iff.mp h
    simp only [Option.some.injEq, Prod.mk.injEq] at h
    obtain ⟨rfl, rfl, rfl⟩ := h
    exact turn_z _ _ _ _ _ _ _ _ _ _ _ _ _ hI hB hM t1 u1 v1 (Lib.hid A1) (Lib.hid A2) c0
  · rw [if_neg c0] at h
    by_cases c3 : t1 < 3
    · rw [if_pos c3] at h
      obtain ⟨⟨t2, u2, v2⟩, A2, h⟩ := Option.bind_eq_some_iff.mp h
      simp only at h
      obtain ⟨⟨t3, u3, v3⟩, A3, h⟩ := Option.bind_eq_some_iff.mp h
      simp only at h
      cases t3 with
      | true =>
        simp only [if_true] at h
        obtain ⟨⟨t4, u4, v4⟩, A4, h⟩ := Option.bind_eq_some_iff.mp h
        simp only at h
        by_cases d0 : 0 ≤ Int.tmod t4 (l1.length : Int)
        · rw [if_pos d0] at h
          by_cases d1 : Int.tmod t4 (l1.length : Int) < (l1.length : Int)
          · rw [if_pos d1] at h
            obtain ⟨⟨t6, u6, v6⟩, A6, h⟩ := Option.bind_eq_some_iff.mp h
            obtain ⟨rfl, rfl, rfl⟩ := j0_plain h (by omega) (by omega) (by omega)
            exact turn_a k _ _ _ _ _ _ _ _ _ _ _ hI hB hM t1 u1 v1 t2 u2 v2 u3 v3 t4 u4 v4 t6 _ (Lib.hid A1) (Lib.hid A2) (Lib.hid A3) (Lib.hid A4) (Lib.hid A6) rfl d0 d1 c0 c3
          · rw [if_neg d1] at h; cases h
        · rw [if_neg d0] at h; cases h
      | false =>
        rw [if_neg (by simp)] at h
        by_cases d0 : 0 ≤ Int.tmod t2 (l1.length : Int)
        · rw [if_pos d0] at h
          by_cases d1 : Int.tmod t2 (l1.length : Int) < (l1.length : Int)
          · rw [if_pos d1] at h
            obtain ⟨⟨t6, u6, v6⟩, A6, h⟩ := Option.bind_eq_some_iff.mp h
            obtain ⟨rfl, rfl, rfl⟩ := j0_plain h (by omega) (by omega) (by omega)
            exact turn_b k _ _ _ _ _ _ _ _ _ _ _ hI hB hM t1 u1 v1 t2 u2 v2 u3 v3 t6 _ (Lib.hid A1) (Lib.hid A2) (Lib.hid A3) (Lib.hid A6) rfl d0 d1 c0 c3
          · rw [if_neg d1] at h; cases h
        · rw [if_neg d0] at h; cases h
    · rw [if_neg c3] at h
      by_cases x3 : t1 = 3
      · obtain ⟨k, rfl⟩ := j0_pos h
        simp only [spec_l3Turn.j0] at h
        rw [if_pos x3] at h
        obtain ⟨⟨t2, u2, v2⟩, A2, h⟩ := Option.bind_eq_some_iff.mp h
        simp only at h
        cases t2 with
        | true =>
          obtain ⟨k, rfl⟩ := j1_pos h
          simp only [spec_l3Turn.j1] at h
          simp only [if_true] at h
          by_cases d0 : 0 ≤ wrap64 ((l1.length : Int) - 1)
          · rw [if_pos d0] at h
            by_cases d1 : wrap64 ((l1.length : Int) - 1) ≤ (l1.length : Int)
            · rw [if_pos d1] at h
              simp only [Option.some.injEq, Prod.mk.injEq] at h
              obtain ⟨rfl, rfl, rfl⟩ := h
              subst x3
              exact turn_c k _ _ _ _ _ _ _ _ _ _ _ hI hB hM u1 v1 _ (Lib.hid A1) (Lib.hid A2) rfl d0 d1 c0
            · rw [if_neg d1] at h; cases h
          · rw [if_neg d0] at h; cases h
        | false =>
          obtain ⟨rfl, rfl, rfl⟩ := j1_plain h (by omega) (by omega)
          exact turn_d k _ _ _ _ _ _ _ _ _ _ _ hI hB hM t1 u1 v1 (Lib.hid A1) (Lib.hid A2) c0 x3
      · by_cases x4 : t1 = 4
        · obtain ⟨k, rfl⟩ := j0_pos h
          simp only [spec_l3Turn.j0] at h
          rw [if_neg x3] at h
          obtain ⟨k, rfl⟩ := j1_pos h
          simp only [spec_l3Turn.j1] at h
          rw [if_neg (by simp), if_pos x4] at h
          obtain ⟨⟨t2, u2, v2⟩, A2, h⟩ := Option.bind_eq_some_iff.mp h
          simp only at h
          cases t2 with
          | true =>
            obtain ⟨k, rfl⟩ := j2_pos h
            simp only [spec_l3Turn.j2] at h
            simp only [if_true] at h
            rw [if_pos (by omega)] at h
            simp only [Option.some.injEq, Prod.mk.injEq] at h
            obtain ⟨rfl, rfl, rfl⟩ := h
            subst x4
            exact turn_e k _ _ _ _ _ _ _ _ _ _ _ hI hB hM u1 v1 (Lib.hid A1) (Lib.hid A2) c0 hmax
          | false =>
            obtain ⟨rfl, rfl, rfl⟩ := j2_plain h (by omega)
            exact turn_f k _ _ _ _ _ _ _ _ _ _ _ hI hB hM t1 u1 v1 (Lib.hid A1) (Lib.hid A2) c0 x4
        · by_cases x5 : t1 = 5
          · obtain ⟨k, rfl⟩ := j0_pos h
            simp only [spec_l3Turn.j0] at h
            rw [if_neg x3] at h
            obtain ⟨k, rfl⟩ := j1_pos h
            simp only [spec_l3Turn.j1] at h
            rw [if_neg (by simp), if_neg x4] at h
            obtain ⟨k, rfl⟩ := j2_pos h
            simp only [spec_l3Turn.j2] at h
            rw [if_neg (by simp), if_pos x5] at h
            obtain ⟨⟨t2, u2, v2⟩, A2, h⟩ := Option.bind_eq_some_iff.mp h
            simp only at h
            cases t2 with
            | true =>
              simp only [if_true] at h
              obtain ⟨⟨t3, u3, v3⟩, A3, h⟩ := Option.bind_eq_some_iff.mp h
              simp only [Option.some.injEq, Prod.mk.injEq] at h
              obtain ⟨rfl, rfl, rfl⟩ := h
              exact turn_g k _ _ _ _ _ _ _ _ _ _ _ _ hI hB hM t1 u1 v1 u2 v2 (Lib.hid A1) (Lib.hid A2) (Lib.hid A3) c0 x5
            | false =>
              rw [if_neg (by simp)] at h
              simp only [Option.some.injEq, Prod.mk.injEq] at h
              obtain ⟨rfl, rfl, rfl⟩ := h
              exact turn_h k _ _ _ _ _ _ _ _ _ _ _ hI hB hM t1 u1 v1 (Lib.hid A1) (Lib.hid A2) c0 x5
          · obtain ⟨rfl, rfl, rfl⟩ := j0_plain h x3 x4 x5
            exact turn_i k _ _ _ _ _ _ _ _ _ hI hB hM t1 _ _ (Lib.hid A1) c0 c3 x3 x4 x5
end Go.Proofs.Ytdfoedjfnoiboaa
