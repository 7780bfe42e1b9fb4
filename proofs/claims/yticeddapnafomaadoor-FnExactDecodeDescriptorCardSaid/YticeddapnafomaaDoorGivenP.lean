/- impl.put's contract in the print's own shape: a number's bytes copied into a row of the call's own. -/
import Derived.Test.YticeddapnafomaaDoorPEx0
import Derived.Test.YticeddapnafomaaDoorPEx5
import Derived.Lib.Hide
import Derived.Deep.RegionLaw
import Derived.Outline
set_option linter.unusedVariables false
namespace Go.Proofs.YticeddapnafomaaDoor
open Go.RowKit Go.Proofs.YticeddapnafomaaDoorW.PrintWords Go.Proofs.YticeddapnafomaaDoorW.PrintLast Go.Proofs.YticeddapnafomaaDoorW.PrintMore
theorem copy_into {P : Program} {W : World} {base e g cap i c : Nat} {ok : Nat → Prop} {xs ys : List Int} {A : Option Addr} (t t' ty : TypeId) (ht : P.underlying t = some (.slice e)) (hinfo : (P.info? e).map (·.size) = some 1)
    (HO : (Kd.int .u8).R e W base ok (.slice (some ⟨g, 0, none⟩) xs.length cap) xs) (HR : (Kd.int .u8).C W A ys.length ys) (hp : 0 < ys.length) (hi : i + ys.length ≤ xs.length) :
    ∃ w1, (Builtin.copy_ #[t, t'] ty #[.slice (some ⟨g, i, none⟩) (xs.length - i) (cap - i), .slice A ys.length c]).run P W = .ok (goInt ys.length) w1 ∧ (Kd.int .u8).R e w1 base ok (.slice (some ⟨g, 0, none⟩) xs.length cap) (xs.take i ++ ys ++ xs.drop (i + ys.length)) ∧ W.grownBy w1 (some g) := by
  have hR := Kd.reads_of_C (enc := Value.int .u8) (d := (0 : Int)) (h1 := fun _ => rfl) HR
  have hown := Kd.own_of_R HO
  obtain ⟨ad, hA, hc⟩ := hR.2.2 hp
  rcases hown.2 with ⟨_, hx0⟩ | ⟨g', cap', cur, hv, hb, hh, hnc, hcm, hcs, htake⟩
  · omega
  · have hgg : g' = g ∧ cap' = cap := by
      injection hv with h1 h2 h3
      injection h1 with h1
      injection h1 with h1 _ _
      exact ⟨h1.symm, h3.symm⟩
    obtain ⟨rfl, rfl⟩ := hgg
    have hcs1 : cur.size = cap' := by omega
    have hkl : (encs (Value.int .u8) ys).length = ys.length := encs_length _
    have hsrc : ∀ j u, (encs (Value.int .u8) ys)[j]? = some u → W.cell? (ad.add j) = some u := by
      intro j u hu
      have hj : j < ys.length := by
        rcases Nat.lt_or_ge j ys.length with h | h
        · exact h
        · rw [List.getElem?_eq_none (by rw [encs_length]; exact h)] at hu
          cases hu
      rw [encs_get (d := (0 : Int)) _ j hj] at hu
      rw [hc j hj, ← hu]
    have hr := run_copy_cells (P := P) W t t' ty e g' i (xs.length - i) (cap' - i) ad ys.length c (encs (Value.int .u8) ys) ht hinfo (by rw [hkl]; exact (Nat.min_eq_left (by omega)).symm) hsrc
      (fun j hj => by rw [hkl] at hj; rw [cell_of_row W g' _ cur e (0, 0) hh]; simp; omega) (fun j _ => blk_frozen hh _) (by intro u hu; simp only [encs, List.mem_map] at hu; obtain ⟨q, _, rfl⟩ := hu; rfl)
    obtain ⟨cur', h3, h4, h5⟩ := setCells_row (encs (Value.int .u8) ys) i W cur hh (by rw [hkl]; omega)
    obtain ⟨s1, s2, s3, s4⟩ := setCells_same g' (encs (Value.int .u8) ys) i W
    refine ⟨_, by rw [hA, hr, hkl], Kd.R_of_own ?_ HO.1, ⟨s1, s2, s3, by rw [s4]; exact Nat.le_refl _, fun k _ hk => setCells_far _ _ k (fun he => hk (by rw [he]))⟩⟩
    have hln : (xs.take i ++ ys ++ xs.drop (i + ys.length)).length = xs.length := by
      simp only [List.length_append, List.length_take, List.length_drop]; omega
    rw [hln]
    refine ⟨by rw [encs_length, hln, Nat.mul_one], .inr ⟨g', cap', cur', rfl, hb, h3, hnc, hcm, by rw [h4, hcs], ?_⟩⟩
    rw [h5, hkl, Nat.mul_one]
    have htk : cur.toList.take xs.length = encs (Value.int .u8) xs := by rw [← htake, Nat.mul_one]
    have e1 : cur.toList.take i = (encs (Value.int .u8) xs).take i := by rw [← htk, List.take_take, Nat.min_eq_left (by omega)]
    rw [e1]
    simp only [encs, List.map_append, List.map_take, List.map_drop]
    have hXY : (List.take i (List.map (Value.int .u8) xs) ++ List.map (Value.int .u8) ys).length = i + ys.length := by
      simp only [List.length_append, List.length_take, List.length_map]; omega
    rw [List.take_append, List.take_of_length_le (by rw [hXY]; exact hi), hXY]
    congr 1
    have htk2 : List.map (Value.int .u8) xs = cur.toList.take xs.length := htk.symm
    rw [htk2, List.drop_take]
theorem Tryd.byteSize : (Tryd.prog.info? 5).map (·.size) = some 1 := by kernel_rfl
namespace PE
def impl_put.f (k : Nat) (l0 : List Int) (a1 a2 a3 : Int) : Option (List Int) :=
  (impl_PutNumber.f k a2 a3).bind fun p => if 0 ≤ a1 ∧ a1 + p.length ≤ l0.length ∧ 0 < p.length then some (l0.take a1.toNat ++ p ++ l0.drop (a1.toNat + p.length)) else none
theorem impl_put.mono : ∀ a0 a1 a2 a3 k, LeO (impl_put.f k a0 a1 a2 a3) (impl_put.f (k + 1) a0 a1 a2 a3) := by
  intro a0 a1 a2 a3 k
  exact LeO.bind (impl_PutNumber.mono _ _ _) (fun _ => LeO.refl _)
set_option maxHeartbeats 1000000 in
set_option maxRecDepth 100000 in
theorem impl_put.calls (k : Nat) (P0_ : Nat → Prop) (u9000_ : Value) (l0 : List Int) (a1 : Int) (a2 : Int) (a3 : Int) (r : List Int) (w0 w : World) (hB : Below w0.heap.size w0 w) (ho0 : Kd.R (Kd.int .u8) 5 w w0.heap.size P0_ u9000_ l0) (h : impl_put.f k l0 a1 a2 a3 = some r) :
    Calls Tryd.prog 55 #[u9000_, .int .i64 a1, .int .i64 a2, .int .i64 a3] w fun e w' => e = .returned (.tuple #[]) ∧ Kd.R (Kd.int .u8) 5 w' w0.heap.size (fun k_ => (P0_ k_ ∨ w.heap.size ≤ k_)) u9000_ r ∧ Below w0.heap.size w0 w' ∧ Kept w w' (fun k_ => P0_ k_) := by
  obtain ⟨p, hp, h⟩ := Option.bind_eq_some_iff.mp h
  by_cases hc : 0 ≤ a1 ∧ a1 + p.length ≤ l0.length ∧ 0 < p.length
  · rw [if_pos hc] at h
    obtain rfl := Option.some.inj h
    obtain ⟨h0, h1, h2⟩ := hc
    obtain ⟨i, rfl⟩ := Int.eq_ofNat_of_zero_le h0
    rw [Int.toNat_natCast]
    obtain ⟨g, cap, rfl, hgb, hgl, cells, hgc⟩ := Kd.R_form ho0 (by omega)
    have hlen : l0.length ≤ cap := (Kd.R_reads' ho0).2.1
    have HP := Lib.hid hp; have HB := Lib.hid hB; have HO := Lib.hid ho0
    have h1n : i + p.length ≤ l0.length := by omega
    have hic : (i : Int) ≤ (l0.length : Int) := by omega
    have hnc : (l0.length : Int) ≤ (cap : Int) := by omega
    have hcapi : ¬ cap = i := by omega
    have hcapj : ¬ cap - i = 0 := by omega
    clear hp hB ho0 h0 h1
    go_enter Tryd.func55, Tryd.ntmps55
    go_wp2
    go_region_law (go_simp; go_at_call 74; refine (impl_PutNumber.calls k a2 a3 p _ HP.out).mono ?_; rintro e w1 ⟨v0, rfl, ho, hb⟩; obtain ⟨A, c, rfl, hcc, hC⟩ := Kd.R_reads ho; have HO1 := Kd.R_below (Kd.R_drew HO.out) hb; obtain ⟨w2, hcp, hR2, hg2⟩ := copy_into (P := Tryd.prog) (W := w1) (i := i) (c := c) 22 22 3 Tryd.underlying22 Tryd.byteSize HO1 hC h2 h1n; have hcp' : (Builtin.copy_ #[22, 22] 3 #[.slice (some ⟨g, i, none⟩) (l0.length - i) (cap - i), .slice A p.length c]).run Tryd.prog w1 = .ok (.int .i64 p.length) w2 := hcp)
    have HB1 : Below w0.heap.size w0 w1 := below_then (below_drew HB.out) (below_drew HB.out).size hb
    have HB2 : Below w0.heap.size w0 w2 := HB1.grown hg2 HB1.size (fun j hj => by injection hj with hj; omega)
    have HK2 : Kept w w2 (fun k_ => P0_ k_) := ⟨Nat.le_trans hb.size hg2.size, fun q hq hn => by
      rw [hg2.block q (Nat.lt_of_lt_of_le hq hb.size) (fun e => hn (by injection e with e; rw [e]; exact HO.out.1 g rfl))]
      exact hb.block q hq⟩
    have HR2 := Kd.R_mono hR2 (ok' := fun k_ => (P0_ k_ ∨ w.heap.size ≤ k_)) (fun _ hk => .inl hk)
    have hln : (l0.take i ++ p ++ l0.drop (i + p.length)).length = l0.length := by simp only [List.length_append, List.length_take, List.length_drop]; omega
    clear hcp hcp' hR2 hg2 HB1 HO1 ho hC
    go_wp2
    go_end0
    exact ⟨rfl, HR2, HB2, HK2⟩
  · rw [if_neg hc] at h; cases h
end PE
end Go.Proofs.YticeddapnafomaaDoor
