/- impl.DecodeDescriptor's contract in the print's shape (with the worlds' premise Glob). -/
import Derived.Test.YticeddapnafomaaDoorDR
import Derived.Test.YticeddapnafomaaDoorPEx14
set_option linter.unusedVariables false
namespace Go.Proofs.YticeddapnafomaaDoor
open Go.RowKit Go.Proofs.YticeddapnafomaaDoorW.PrintWords Go.Proofs.YticeddapnafomaaDoorW.PrintLast Go.Proofs.YticeddapnafomaaDoorW.PrintMore
set_option maxHeartbeats 1000000 in
set_option maxRecDepth 100000 in
theorem dd_bad (s : Addr) (A0 : Option Addr) (c0 : Nat) (l0 : List Int) (k0 : Int) (w : World) (hr0 : Kd.C (Kd.int .u8) w A0 l0.length l0) (hc0 : l0.length ≤ c0) (hG : Glob s w) (hk : PE.impl_BlockKind.f l0 = some k0) (h1 : ¬ k0 = 2) :
    Calls Tryd.prog 18 #[.slice A0 l0.length c0] w fun e w' => e = .returned (.agg #[.bool false, .int .i64 0, .slice none 0 0]) ∧ Below w.heap.size w w' := by
  have HP := Lib.hid (fun (W : World) (hb : Below w.heap.size w W) => parse_bad s A0 c0 l0 2 k0 W (Kd.C_below hr0 hb) hc0 (hG.below hb) hk h1)
  have HG := Lib.hid hG
  clear hr0 hc0 hG hk h1
  go_enter Tryd.func18, Tryd.ntmps18
  go_wp2_with (first
    | (go_at_call 26; (with_reducible refine (HP.out _ (below_alloc (Below.refl _ _) _)).mono ?_); rintro e w1 ⟨v, rfl, hv⟩; have HX := Lib.hid (blk_below (blk_new w (.cells #[.bool false, .int .i64 0, .slice none 0 0] 45)) hv.choose_spec.2.2.2); have HBW := Lib.hid (below_then (below_alloc (Below.refl _ _) _) (below_alloc (Below.refl _ _) _).size hv.choose_spec.2.2.2); have HV := Lib.hid hv; clear hv)
    | (go_at_call 27; (refine (good_of_bad HV.out (HG.out.below (below_alloc (Below.refl _ _) _)) _ ?b1).mono ?_); (case b1 => repeat (first | (with_reducible first | exact Below.refl _ _ | apply below_alloc | apply pw_below_drewN | apply below_drew1) | (refine below_at ?_ (Nat.le_refl _) _))); rintro e w2 ⟨rfl, hb2⟩; have HX2 := Lib.hid (blk_below HX.out hb2); have HBW2 := Lib.hid (below_then HBW.out HBW.out.size hb2); obtain ⟨⟨x0, x1, x2⟩, y0, y1, y2⟩ := blk3 HX2.out; clear hb2))
  refine bodyPost_ret (results_cell_row rfl _ _ w.heap.size 45 #[.bool false, .int .i64 0, .slice none 0 0] (0, 0) _ rfl (blk_set (blk_set (blk_set HX2.out 0 _) 1 _) 2 _) Tryd.underlying45 rfl (by kernel_rfl)) rfl ⟨rfl, ?_⟩
  repeat (first | exact HBW2.out | (refine below_at ?_ (Nat.le_refl _) _))
set_option maxHeartbeats 2000000 in
set_option maxRecDepth 100000 in
theorem dd_many (k : Nat) (s : Addr) (A0 : Option Addr) (c0 : Nat) (l0 : List Int) (count seq : Int) (w : World) (hr0 : Kd.C (Kd.int .u8) w A0 l0.length l0) (hc0 : l0.length ≤ c0) (hk : PE.impl_BlockKind.f l0 = some 2) (h1 : PE.impl_num.f k l0 6 2 = some count) (h2 : PE.impl_num.f k l0 8 4 = some seq) (hm : 17 < count) :
    Calls Tryd.prog 18 #[.slice A0 l0.length c0] w fun e w' => e = .returned (.agg #[.bool false, .int .i64 0, .slice none 0 0]) ∧ Below w.heap.size w w' := by
  have HP := Lib.hid (fun (W : World) (hb : Below w.heap.size w W) => parse_ok k A0 c0 l0 2 count seq W (Kd.C_below hr0 hb) hc0 hk (by decide) h1 h2)
  have cm : decide (17 < count) = true := decide_eq_true hm
  clear hr0 hc0 hk h1 h2 hm
  go_enter Tryd.func18, Tryd.ntmps18
  go_wp2_with (first
    | (go_at_call 26; (with_reducible refine (HP.out _ (below_alloc (Below.refl _ _) _)).mono ?_); rintro e w1 ⟨rfl, hb⟩; have HX := Lib.hid (blk_below (blk_new w (.cells #[.bool false, .int .i64 0, .slice none 0 0] 45)) hb); have HBW := Lib.hid (below_then (below_alloc (Below.refl _ _) _) (below_alloc (Below.refl _ _) _).size hb); clear hb)
    | (go_at_call 27; refine (good_nil _).mono ?_; rintro e w2 ⟨rfl, hb2⟩; have HX3 := blk_below (blk_new w1 _) hb2; have HX2 := Lib.hid (blk_below (blk_alloc HX.out _) hb2); have HBW2 := Lib.hid (below_then (below_alloc HBW.out _) (below_alloc HBW.out _).size hb2); obtain ⟨⟨x0, x1, x2⟩, y0, y1, y2⟩ := blk3 HX2.out; obtain ⟨⟨u0, u1, u2, u3⟩, v0, v1, v2, v3⟩ := blk4 HX3; clear hb2 HX3))
  refine bodyPost_ret (results_cell_row rfl _ _ w.heap.size 45 #[.bool false, .int .i64 0, .slice none 0 0] (0, 0) _ rfl (blk_set (blk_set (blk_set HX2.out 0 _) 1 _) 2 _) Tryd.underlying45 rfl (by kernel_rfl)) rfl ⟨rfl, ?_⟩
  repeat (first | exact HBW2.out | (refine below_at ?_ (Nat.le_refl _) _))
theorem take_getD67 {l : List PE.S67} {i : Nat} (h : i < l.length) : l.take i ++ [l.getD i PE.z67] = l.take (i + 1) := by
  rw [List.take_add_one, List.getD_eq_getElem?_getD, List.getElem?_eq_getElem h]; rfl
set_option maxHeartbeats 4000000 in
set_option maxRecDepth 100000 in
theorem dd_ok (k : Nat) (s : Addr) (A0 : Option Addr) (c0 : Nat) (l0 x : List Int) (bs : List PE.S67) (n : Nat) (seq : Int) (w : World) (hr0 : Kd.C (Kd.int .u8) w A0 l0.length l0) (hc0 : l0.length ≤ c0) (hG : Glob s w) (hk : PE.impl_BlockKind.f l0 = some 2) (h1 : PE.impl_num.f k l0 6 2 = some (n : Int)) (h2 : PE.impl_num.f k l0 8 4 = some seq) (hn : n ≤ 17) (hbl : bs.length = n) (hll : l0.length = 64) (hbs : ∀ i, i < n → PE.impl_num.f k l0 (12 + 3 * (i : Int)) 2 = some (bs.getD i PE.z67).f0) (hbt : ∀ i, i < n → (bs.getD i PE.z67).f1 = (rd l0 ((14 + 3 * i : Nat) : Int) == 1)) (h4 : PE.impl_EncodeDescriptor.f k seq bs = some x) (h5 : PE.bytes_Equal.f x l0 = some true) :
    Calls Tryd.prog 18 #[.slice A0 l0.length c0] w fun e w' => ∃ v2_ : Value, e = .returned (.agg #[.bool true, .int .i64 seq, v2_]) ∧ Kd.R PE.k67 67 w' w.heap.size (fun _ => True) v2_ bs ∧ Below w.heap.size w w' := by
  obtain ⟨ad, rfl, _⟩ := Kd.at_int hr0 0 (by omega) (by omega)
  have HX0 : Hid (∀ i : Nat, i < 64 → w.cell? (ad.add i) = some (.int .u8 (rd l0 (i : Int)))) := Lib.hid (fun i hi => by
    obtain ⟨ad1, e1, h1⟩ := Kd.at_int hr0 (i : Int) (by omega) (by omega)
    injection e1 with e1; subst e1
    exact h1)
  have HLL := Lib.hid hll
  have HBT := Lib.hid hbt
  have HP := Lib.hid (fun (W : World) (hb : Below w.heap.size w W) => parse_ok k (some ad) c0 l0 2 (n : Int) seq W (Kd.C_below hr0 hb) hc0 hk (by decide) h1 h2)
  have HN := Lib.hid (fun (i : Nat) (hi : i < n) (W : World) (hb : Below w.heap.size w W) => PE.impl_num.calls k (some ad) c0 l0 (12 + 3 * (i : Int)) 2 (bs.getD i PE.z67).f0 W (Kd.C_below hr0 hb) hc0 (hbs i hi))
  have HE := Lib.hid (fun (A : Option Addr) (c : Nat) (W : World) (hr : Kd.C PE.k67 W A bs.length bs) (hc : bs.length ≤ c) => PE.impl_EncodeDescriptor.calls k seq A c bs x W hr hc h4)
  have HH := Lib.hid (fun (A1 : Option Addr) (c1 : Nat) (W : World) (hb : Below w.heap.size w W) (hr1 : Kd.C (Kd.int .u8) W A1 x.length x) (hc1 : x.length ≤ c1) => held_eq 2 (n : Int) seq (some ad) A1 c0 c1 l0 x W (Kd.C_below hr0 hb) hc0 hr1 hc1 h5)
  have HG := Lib.hid hG
  have HL := Lib.hid hbl
  have cm : decide (17 < (n : Int)) = false := decide_eq_false (by omega)
  clear hr0 hc0 hG hk h1 h2 hbs h4 h5 hbl hll hbt
  go_enter Tryd.func18, Tryd.ntmps18
  go_wp2_with (first
    | (go_at_call 26; (with_reducible refine (HP.out _ (below_alloc (Below.refl _ _) _)).mono ?_); rintro e w1 ⟨rfl, hb⟩; have HX := Lib.hid (blk_below (blk_new w (.cells #[.bool false, .int .i64 0, .slice none 0 0] 45)) hb); have HBW := Lib.hid (below_then (below_alloc (Below.refl _ _) _) (below_alloc (Below.refl _ _) _).size hb); clear hb)
    | (go_at_call 27; refine (good_nil _).mono ?_; rintro e w2 ⟨rfl, hb2⟩; have HX3 := Lib.hid (blk_below (blk_new w1 (.cells #[.int .i64 2, .int .i64 (n : Int), .int .i64 seq, .slice (some ad) l0.length c0] 54)) hb2); have HX2 := Lib.hid (blk_below (blk_alloc HX.out _) hb2); have HBW2 := Lib.hid (below_then (below_alloc HBW.out _) (below_alloc HBW.out _).size hb2); obtain ⟨⟨u0, u1, u2, u3⟩, v0, v1, v2, v3⟩ := blk4 HX3.out; have q1 := pw_cell_below (below_alloc (Below.refl w2.heap.size w2) (.cells #[.int .i64 seq, .slice none 0 0] 43)) u1; clear hb2))
  have GE36 : Hid (w.heap.size ≤ w.heap.size) := Lib.hid (Nat.le_refl _)
  have GE34 : Hid (w.heap.size ≤ w2.heap.size) := Lib.hid HBW2.out.size
  have L54' := blk_lt HX3.out
  have L36' := blk_lt HX2.out
  have L36 := blk_lt HX.out
  clear u0 u1 u2 u3 v0 v1 v2 v3
  go_loopw [29] (fun v29 wr => ∃ (i : Nat) (u : Value), i ≤ n ∧ v29 = .int .i64 i ∧ Aside0 (Kd.R PE.k67 67 wr w.heap.size (fun _ => True) u (bs.take i)) ∧ Aside0 (wr.heap[w.heap.size]? = some (.cells #[.bool false, .int .i64 0, .slice none 0 0] 45 (0, 0))) ∧ Aside0 (wr.heap[w1.heap.size]? = some (.cells #[.int .i64 2, .int .i64 (n : Int), .int .i64 seq, .slice (some ad) l0.length c0] 54 (0, 0))) ∧ Aside0 (wr.heap[w2.heap.size]? = some (.cells #[.int .i64 seq, u] 43 (0, 0))) ∧ Aside0 (Below w.heap.size w wr)) (fun v29 _ => n - (intOf v29).toNat)
  case atStart => exact ⟨0, .slice none 0 0, Nat.zero_le _, rfl, ⟨by rw [List.take_zero]; exact Kd.R_nil _ _ _ _ _⟩, ⟨blk_alloc HX2.out _⟩, ⟨blk_alloc HX3.out _⟩, ⟨blk_new w2 _⟩, ⟨below_alloc HBW2.out _⟩⟩
  case round =>
    obtain ⟨i, u, hin, rfl, HO, BK36, BK54, BK34, HB⟩ := hrel
    clear q1
    by_cases hi : i < n
    · have ci : decide ((i : Int) < (n : Int)) = true := decide_eq_true (by omega)
      have hw1 : IntKind.i64.wrap (3 * (i : Int)) = 3 * i := by rw [i64_w]; exact w64r (by omega) (by omega)
      have hw2 : IntKind.i64.wrap (12 + 3 * (i : Int)) = 12 + 3 * i := by rw [i64_w]; exact w64r (by omega) (by omega)
      obtain ⟨bi, hbi⟩ : ∃ b_, (bs.getD i PE.z67).f0 = b_ := ⟨_, rfl⟩
      have hbt := HBT.out i hi
      obtain ⟨y, hy⟩ : ∃ y_, rd l0 ((14 + 3 * i : Nat) : Int) = y_ := ⟨_, rfl⟩
      rw [hy] at hbt
      have hcx : wr.cell? (ad.add (14 + 3 * (i : Int)).toNat) = some (.int .u8 y) := by rw [show (14 + 3 * (i : Int)).toNat = 14 + 3 * i by omega, ← hy]; exact pw_cell_below HB.out (HX0.out _ (by omega))
      have hw3 : IntKind.i64.wrap (14 + 3 * (i : Int)) = 14 + 3 * i := by rw [i64_w]; exact w64r (by omega) (by omega)
      have hlt : 14 + 3 * (i : Int) < (l0.length : Int) := by have := HLL.out; omega
      have hge : 0 ≤ 14 + 3 * (i : Int) := by omega
      have HNi : Hid (∀ W, Below w.heap.size w W → Calls Tryd.prog 28 #[.slice (some ad) l0.length c0, .int .i64 (12 + 3 * (i : Int)), .int .i64 2] W fun e w' => e = .returned (.int .i64 bi) ∧ Drawn0 W w') := Lib.hid (by rw [← hbi]; exact HN.out i hi)
      have HBI := Lib.hid (show bs.take i ++ [(⟨bi, y == 1⟩ : PE.S67)] = bs.take (i + 1) by rw [← hbi, ← hbt]; exact take_getD67 (by have := HL.out; omega))
      clear hbi hbt hy
      have q0 : wr.cell? ⟨w2.heap.size, 1, none⟩ = some u := (blk_cell BK34.out 1).trans rfl
      have q2 : ∀ m, ((wr.drewN m).alloc (.cells #[.int .i64 bi, .bool (y == 1)] 67)).cell? ⟨w2.heap.size, 1, none⟩ = some u := fun m => (blk_cell (blk_alloc (blk_drewN BK34.out m) _) 1).trans rfl
      go_upto_region 8 with (fail)
      go_region_law
        ((first
          | (refine gate_value 28 _ _ rfl ?_; go_simp; go_at_call 28; (refine (HNi.out _ ?_).mono ?_); (repeat (first | exact HB.out | (with_reducible first | apply below_alloc | apply pw_below_drewN | apply below_drew1))); rintro e w3 ⟨rfl, ⟨m, rfl⟩⟩)
          | (refine gate_append _ _ rfl ?_; refine Kd.R_append_step PE.k67 (w0 := w) w.heap.size (by rfl) (.tmp 33) (.tmp 47) 41 67 (.agg #[.int .i64 0, .bool false]) 16 rfl Tryd.underlying41 PE.info67 rfl (by decide) (by omega) u (bs.take i) (⟨bi, y == 1⟩ : PE.S67) [.int .i64 bi, .bool (y == 1)] (fun _ => True) (fun _ => False) rfl rfl (PE.k67_mkM _ _ _ _) (fun _ hk => hk.elim) (fun _ _ => trivial) (by (with_reducible repeat (first | apply Kd.R_alloc | apply Kd.R_drewN | apply Kd.R_drew)); exact HO.out) (by repeat (first | exact HB.out | (with_reducible first | apply below_alloc | apply pw_below_drewN | apply below_drew1))) (below_size (by repeat (first | exact HB.out | (with_reducible first | apply below_alloc | apply pw_below_drewN | apply below_drew1)))) (by rw [List.length_take]; omega) ?_; intro v1 w5 ho hb hg hat; rw [HBI.out] at ho; have BKA := Aside0.mk (blk_grown (g := w.heap.size) (o := .cells #[.bool false, .int .i64 0, .slice none 0 0] 45 (0, 0)) (by (with_reducible repeat (first | refine blk_drewN ?_ _ | refine blk_drew ?_ | refine blk_alloc ?_ _)); exact BK36.out) hg (Kd.R_ne HO.out BK36.out (by decide))); have BKB := Aside0.mk (blk_grown (g := w1.heap.size) (o := .cells #[.int .i64 2, .int .i64 (n : Int), .int .i64 seq, .slice (some ad) l0.length c0] 54 (0, 0)) (by (with_reducible repeat (first | refine blk_drewN ?_ _ | refine blk_drew ?_ | refine blk_alloc ?_ _)); exact BK54.out) hg (Kd.R_ne HO.out BK54.out (by decide))); have BKC := Aside0.mk (blk_grown (g := w2.heap.size) (o := .cells #[.int .i64 seq, u] 43 (0, 0)) (by (with_reducible repeat (first | refine blk_drewN ?_ _ | refine blk_drew ?_ | refine blk_alloc ?_ _)); exact BK34.out) hg (Kd.R_ne HO.out BK34.out (by decide))); have HO5 := Aside0.mk ho; have HB5 := Aside0.mk hb; clear ho hb hg hat; obtain ⟨Ao, co, eo⟩ := Kd.R_slice HO5.out; obtain ⟨len_, hlen_⟩ : ∃ n_, (bs.take (i + 1)).length = n_ := ⟨_, rfl⟩; rw [hlen_] at eo; clear hlen_; subst eo; have hs5 := (blk_cell BKC.out 1).trans rfl; have hf5 := blk_frozen BKC.out 1)))
      all_goals
        go_wp2
        go_roundw
        case rel => exact ⟨i + 1, .slice Ao len_ co, by omega, by go_num, ⟨Kd.R_mono (Kd.R_far (p := ⟨w2.heap.size, 1, none⟩) (Kd.R_types HO5.out BKC.out (by decide)) (fun _ hk => hk.2) _) (fun _ _ => trivial)⟩, ⟨blk_far BKA.out (by simp only; omega) _⟩, ⟨blk_far BKB.out (by simp only; omega) _⟩, ⟨blk_put (cs := #[.int .i64 seq, u]) BKC.out 1 _ rfl⟩, ⟨below_set HB5.out GE34.out⟩⟩
        case measure => simp [intOf]; omega
    · have e : n = i := by omega
      subst e
      have ci : decide ((n : Int) < (n : Int)) = false := decide_eq_false (by omega)
      obtain ⟨A3, c3, e3, hc3, hC3⟩ := Kd.R_reads HO.out
      have en : bs.take n = bs := List.take_of_length_le (by have := HL.out; omega)
      rw [en] at HO e3 hc3 hC3
      subst e3
      have HC3 := Lib.hid hC3
      have HL3 := Lib.hid hc3
      clear hC3 hc3 en
      obtain ⟨⟨u0, u1, u2, u3⟩, v0, v1, v2, v3⟩ := blk4 BK54.out
      have z0 := blk_cell BK34.out 0
      have z1 := blk_cell BK34.out 1
      have HS := Lib.hid (fun (W : World) (hb : Below wr.heap.size wr W) => (show W.cell? ⟨w1.heap.size, 0, none⟩ = some (.int .i64 2) ∧ W.cell? ⟨w1.heap.size, 1, none⟩ = some (.int .i64 (n : Int)) ∧ W.cell? ⟨w1.heap.size, 2, none⟩ = some (.int .i64 seq) ∧ W.cell? ⟨w1.heap.size, 3, none⟩ = some (.slice (some ad) l0.length c0) ∧ W.cell? ⟨w2.heap.size, 0, none⟩ = some (.int .i64 seq) ∧ W.cell? ⟨w2.heap.size, 1, none⟩ = some (.slice A3 bs.length c3) ∧ Below wr.heap.size wr W from ⟨pw_cell_below hb u0, pw_cell_below hb u1, pw_cell_below hb u2, pw_cell_below hb u3, pw_cell_below hb z0, pw_cell_below hb z1, hb⟩))
      clear u0 u1 u2 u3 v0 v1 v2 v3 z0 z1
      go_upto_region 10 with (fail)
      go_cut [56] (fun v56 wq => v56 = .bool false ∧ Aside0 (Below wr.heap.size wr wq))
      case first =>
        go_region_held3 (fun w' => w'.cell? ⟨w1.heap.size, 0, none⟩ = some (.int .i64 2) ∧ w'.cell? ⟨w1.heap.size, 1, none⟩ = some (.int .i64 (n : Int)) ∧ w'.cell? ⟨w1.heap.size, 2, none⟩ = some (.int .i64 seq) ∧ w'.cell? ⟨w1.heap.size, 3, none⟩ = some (.slice (some ad) l0.length c0) ∧ w'.cell? ⟨w2.heap.size, 0, none⟩ = some (.int .i64 seq) ∧ w'.cell? ⟨w2.heap.size, 1, none⟩ = some (.slice A3 bs.length c3) ∧ Below wr.heap.size wr w')
          ((refine HS.out _ ?_; repeat (first | assumption | (with_reducible first | exact Below.refl _ _ | apply below_alloc | apply pw_below_drewN | apply below_drew) | (refine below_step ?_ hb8) | (refine below_step ?_ hb7) | (refine below_step ?_ hb6))))
          (first
            | (go_at_call 38; (refine (HE.out A3 c3 _ ?_ HL3.out).mono ?_); (repeat (first | exact HC3.out | (with_reducible refine Kd.C_drewN ?_ _) | (with_reducible refine Kd.C_drew ?_))); rintro e w6 ⟨v0, rfl, ho, hb6⟩; obtain ⟨A1, c1, rfl, hcc, hC⟩ := Kd.R_reads ho; have HR6 := Aside0.mk hC; clear ho hC)
            | (go_at_call 29; (refine (HH.out A1 c1 _ ?_ ?_ hcc).mono ?_); (refine below_step HB.out ?_; repeat (first | assumption | (with_reducible first | exact Below.refl _ _ | apply below_alloc | apply pw_below_drewN | apply below_drew) | (refine below_step ?_ hb6))); (repeat (first | exact HR6.out | (with_reducible refine Kd.C_drewN ?_ _) | (with_reducible refine Kd.C_drew ?_))); rintro e w7 ⟨rfl, hb7⟩)
            | (go_at_call 27; refine (good_nil _).mono ?_; rintro e w8 ⟨rfl, hb8⟩))
        all_goals
          go_wp2
          go_meet
          case rel => exact ⟨by first | rfl | simp, ⟨by repeat (first | assumption | (with_reducible first | exact Below.refl _ _ | apply below_alloc | apply pw_below_drewN | apply below_drew) | (refine below_step ?_ hb8) | (refine below_step ?_ hb7) | (refine below_step ?_ hb6))⟩⟩
      case rest =>
        obtain ⟨rfl, HBq⟩ := hcut
        have HOq := Lib.hid (Kd.R_below HO.out HBq.out)
        have BK36q := Lib.hid (blk_below BK36.out HBq.out)
        have BK34q := Lib.hid (blk_below BK34.out HBq.out)
        have HBw := Lib.hid (below_step HB.out HBq.out)
        have z0 := blk_cell BK34q.out 0
        have z1 := blk_cell BK34q.out 1
        obtain ⟨⟨x0, x1, x2⟩, y0, y1, y2⟩ := blk3 BK36q.out
        go_wp2
        refine bodyPost_ret (results_cell_row rfl _ _ w.heap.size 45 #[.bool true, .int .i64 seq, .slice A3 bs.length c3] (0, 0) _ rfl (blk_set (blk_set (blk_set BK36q.out 0 _) 1 _) 2 _) Tryd.underlying45 rfl (by kernel_rfl)) rfl ?_
        refine ⟨_, rfl, Kd.R_mono (Kd.R_far (p := ⟨w.heap.size, 2, none⟩) (Kd.R_far (p := ⟨w.heap.size, 1, none⟩) (Kd.R_far (p := ⟨w.heap.size, 0, none⟩) (Kd.R_types HOq.out BK36q.out (by decide)) (fun _ hk => hk.2) _) (fun _ hk => hk.2) _) (fun _ hk => hk.2) _) (fun _ _ => trivial), ?_⟩
        repeat (first | exact HBw.out | (refine below_at ?_ (Nat.le_refl _) _))
set_option maxHeartbeats 4000000 in
set_option maxRecDepth 100000 in
theorem dd_ne (k : Nat) (s : Addr) (A0 : Option Addr) (c0 : Nat) (l0 x : List Int) (bs : List PE.S67) (n : Nat) (seq : Int) (w : World) (hr0 : Kd.C (Kd.int .u8) w A0 l0.length l0) (hc0 : l0.length ≤ c0) (hG : Glob s w) (hk : PE.impl_BlockKind.f l0 = some 2) (h1 : PE.impl_num.f k l0 6 2 = some (n : Int)) (h2 : PE.impl_num.f k l0 8 4 = some seq) (hn : n ≤ 17) (hbl : bs.length = n) (hll : l0.length = 64) (hbs : ∀ i, i < n → PE.impl_num.f k l0 (12 + 3 * (i : Int)) 2 = some (bs.getD i PE.z67).f0) (hbt : ∀ i, i < n → (bs.getD i PE.z67).f1 = (rd l0 ((14 + 3 * i : Nat) : Int) == 1)) (h4 : PE.impl_EncodeDescriptor.f k seq bs = some x) (h5 : PE.bytes_Equal.f x l0 = some false) :
    Calls Tryd.prog 18 #[.slice A0 l0.length c0] w fun e w' => e = .returned (.agg #[.bool false, .int .i64 0, .slice none 0 0]) ∧ Below w.heap.size w w' := by
  obtain ⟨ad, rfl, _⟩ := Kd.at_int hr0 0 (by omega) (by omega)
  have HX0 : Hid (∀ i : Nat, i < 64 → w.cell? (ad.add i) = some (.int .u8 (rd l0 (i : Int)))) := Lib.hid (fun i hi => by
    obtain ⟨ad1, e1, h1⟩ := Kd.at_int hr0 (i : Int) (by omega) (by omega)
    injection e1 with e1; subst e1
    exact h1)
  have HLL := Lib.hid hll
  have HBT := Lib.hid hbt
  have HP := Lib.hid (fun (W : World) (hb : Below w.heap.size w W) => parse_ok k (some ad) c0 l0 2 (n : Int) seq W (Kd.C_below hr0 hb) hc0 hk (by decide) h1 h2)
  have HN := Lib.hid (fun (i : Nat) (hi : i < n) (W : World) (hb : Below w.heap.size w W) => PE.impl_num.calls k (some ad) c0 l0 (12 + 3 * (i : Int)) 2 (bs.getD i PE.z67).f0 W (Kd.C_below hr0 hb) hc0 (hbs i hi))
  have HE := Lib.hid (fun (A : Option Addr) (c : Nat) (W : World) (hr : Kd.C PE.k67 W A bs.length bs) (hc : bs.length ≤ c) => PE.impl_EncodeDescriptor.calls k seq A c bs x W hr hc h4)
  have HH := Lib.hid (fun (A1 : Option Addr) (c1 : Nat) (W : World) (hb : Below w.heap.size w W) (hr1 : Kd.C (Kd.int .u8) W A1 x.length x) (hc1 : x.length ≤ c1) => held_ne s 2 (n : Int) seq (some ad) A1 c0 c1 l0 x W (Kd.C_below hr0 hb) hc0 hr1 hc1 (hG.below hb) h5)
  have HG := Lib.hid hG
  have HL := Lib.hid hbl
  have cm : decide (17 < (n : Int)) = false := decide_eq_false (by omega)
  clear hr0 hc0 hG hk h1 h2 hbs h4 h5 hbl hll hbt
  go_enter Tryd.func18, Tryd.ntmps18
  go_wp2_with (first
    | (go_at_call 26; (with_reducible refine (HP.out _ (below_alloc (Below.refl _ _) _)).mono ?_); rintro e w1 ⟨rfl, hb⟩; have HX := Lib.hid (blk_below (blk_new w (.cells #[.bool false, .int .i64 0, .slice none 0 0] 45)) hb); have HBW := Lib.hid (below_then (below_alloc (Below.refl _ _) _) (below_alloc (Below.refl _ _) _).size hb); clear hb)
    | (go_at_call 27; refine (good_nil _).mono ?_; rintro e w2 ⟨rfl, hb2⟩; have HX3 := Lib.hid (blk_below (blk_new w1 (.cells #[.int .i64 2, .int .i64 (n : Int), .int .i64 seq, .slice (some ad) l0.length c0] 54)) hb2); have HX2 := Lib.hid (blk_below (blk_alloc HX.out _) hb2); have HBW2 := Lib.hid (below_then (below_alloc HBW.out _) (below_alloc HBW.out _).size hb2); obtain ⟨⟨u0, u1, u2, u3⟩, v0, v1, v2, v3⟩ := blk4 HX3.out; have q1 := pw_cell_below (below_alloc (Below.refl w2.heap.size w2) (.cells #[.int .i64 seq, .slice none 0 0] 43)) u1; clear hb2))
  have GE36 : Hid (w.heap.size ≤ w.heap.size) := Lib.hid (Nat.le_refl _)
  have GE34 : Hid (w.heap.size ≤ w2.heap.size) := Lib.hid HBW2.out.size
  have L54' := blk_lt HX3.out
  have L36' := blk_lt HX2.out
  have L36 := blk_lt HX.out
  clear u0 u1 u2 u3 v0 v1 v2 v3
  go_loopw [29] (fun v29 wr => ∃ (i : Nat) (u : Value), i ≤ n ∧ v29 = .int .i64 i ∧ Aside0 (Kd.R PE.k67 67 wr w.heap.size (fun _ => True) u (bs.take i)) ∧ Aside0 (wr.heap[w.heap.size]? = some (.cells #[.bool false, .int .i64 0, .slice none 0 0] 45 (0, 0))) ∧ Aside0 (wr.heap[w1.heap.size]? = some (.cells #[.int .i64 2, .int .i64 (n : Int), .int .i64 seq, .slice (some ad) l0.length c0] 54 (0, 0))) ∧ Aside0 (wr.heap[w2.heap.size]? = some (.cells #[.int .i64 seq, u] 43 (0, 0))) ∧ Aside0 (Below w.heap.size w wr)) (fun v29 _ => n - (intOf v29).toNat)
  case atStart => exact ⟨0, .slice none 0 0, Nat.zero_le _, rfl, ⟨by rw [List.take_zero]; exact Kd.R_nil _ _ _ _ _⟩, ⟨blk_alloc HX2.out _⟩, ⟨blk_alloc HX3.out _⟩, ⟨blk_new w2 _⟩, ⟨below_alloc HBW2.out _⟩⟩
  case round =>
    obtain ⟨i, u, hin, rfl, HO, BK36, BK54, BK34, HB⟩ := hrel
    clear q1
    by_cases hi : i < n
    · have ci : decide ((i : Int) < (n : Int)) = true := decide_eq_true (by omega)
      have hw1 : IntKind.i64.wrap (3 * (i : Int)) = 3 * i := by rw [i64_w]; exact w64r (by omega) (by omega)
      have hw2 : IntKind.i64.wrap (12 + 3 * (i : Int)) = 12 + 3 * i := by rw [i64_w]; exact w64r (by omega) (by omega)
      obtain ⟨bi, hbi⟩ : ∃ b_, (bs.getD i PE.z67).f0 = b_ := ⟨_, rfl⟩
      have hbt := HBT.out i hi
      obtain ⟨y, hy⟩ : ∃ y_, rd l0 ((14 + 3 * i : Nat) : Int) = y_ := ⟨_, rfl⟩
      rw [hy] at hbt
      have hcx : wr.cell? (ad.add (14 + 3 * (i : Int)).toNat) = some (.int .u8 y) := by rw [show (14 + 3 * (i : Int)).toNat = 14 + 3 * i by omega, ← hy]; exact pw_cell_below HB.out (HX0.out _ (by omega))
      have hw3 : IntKind.i64.wrap (14 + 3 * (i : Int)) = 14 + 3 * i := by rw [i64_w]; exact w64r (by omega) (by omega)
      have hlt : 14 + 3 * (i : Int) < (l0.length : Int) := by have := HLL.out; omega
      have hge : 0 ≤ 14 + 3 * (i : Int) := by omega
      have HNi : Hid (∀ W, Below w.heap.size w W → Calls Tryd.prog 28 #[.slice (some ad) l0.length c0, .int .i64 (12 + 3 * (i : Int)), .int .i64 2] W fun e w' => e = .returned (.int .i64 bi) ∧ Drawn0 W w') := Lib.hid (by rw [← hbi]; exact HN.out i hi)
      have HBI := Lib.hid (show bs.take i ++ [(⟨bi, y == 1⟩ : PE.S67)] = bs.take (i + 1) by rw [← hbi, ← hbt]; exact take_getD67 (by have := HL.out; omega))
      clear hbi hbt hy
      have q0 : wr.cell? ⟨w2.heap.size, 1, none⟩ = some u := (blk_cell BK34.out 1).trans rfl
      have q2 : ∀ m, ((wr.drewN m).alloc (.cells #[.int .i64 bi, .bool (y == 1)] 67)).cell? ⟨w2.heap.size, 1, none⟩ = some u := fun m => (blk_cell (blk_alloc (blk_drewN BK34.out m) _) 1).trans rfl
      go_upto_region 8 with (fail)
      go_region_law
        ((first
          | (refine gate_value 28 _ _ rfl ?_; go_simp; go_at_call 28; (refine (HNi.out _ ?_).mono ?_); (repeat (first | exact HB.out | (with_reducible first | apply below_alloc | apply pw_below_drewN | apply below_drew1))); rintro e w3 ⟨rfl, ⟨m, rfl⟩⟩)
          | (refine gate_append _ _ rfl ?_; refine Kd.R_append_step PE.k67 (w0 := w) w.heap.size (by rfl) (.tmp 33) (.tmp 47) 41 67 (.agg #[.int .i64 0, .bool false]) 16 rfl Tryd.underlying41 PE.info67 rfl (by decide) (by omega) u (bs.take i) (⟨bi, y == 1⟩ : PE.S67) [.int .i64 bi, .bool (y == 1)] (fun _ => True) (fun _ => False) rfl rfl (PE.k67_mkM _ _ _ _) (fun _ hk => hk.elim) (fun _ _ => trivial) (by (with_reducible repeat (first | apply Kd.R_alloc | apply Kd.R_drewN | apply Kd.R_drew)); exact HO.out) (by repeat (first | exact HB.out | (with_reducible first | apply below_alloc | apply pw_below_drewN | apply below_drew1))) (below_size (by repeat (first | exact HB.out | (with_reducible first | apply below_alloc | apply pw_below_drewN | apply below_drew1)))) (by rw [List.length_take]; omega) ?_; intro v1 w5 ho hb hg hat; rw [HBI.out] at ho; have BKA := Aside0.mk (blk_grown (g := w.heap.size) (o := .cells #[.bool false, .int .i64 0, .slice none 0 0] 45 (0, 0)) (by (with_reducible repeat (first | refine blk_drewN ?_ _ | refine blk_drew ?_ | refine blk_alloc ?_ _)); exact BK36.out) hg (Kd.R_ne HO.out BK36.out (by decide))); have BKB := Aside0.mk (blk_grown (g := w1.heap.size) (o := .cells #[.int .i64 2, .int .i64 (n : Int), .int .i64 seq, .slice (some ad) l0.length c0] 54 (0, 0)) (by (with_reducible repeat (first | refine blk_drewN ?_ _ | refine blk_drew ?_ | refine blk_alloc ?_ _)); exact BK54.out) hg (Kd.R_ne HO.out BK54.out (by decide))); have BKC := Aside0.mk (blk_grown (g := w2.heap.size) (o := .cells #[.int .i64 seq, u] 43 (0, 0)) (by (with_reducible repeat (first | refine blk_drewN ?_ _ | refine blk_drew ?_ | refine blk_alloc ?_ _)); exact BK34.out) hg (Kd.R_ne HO.out BK34.out (by decide))); have HO5 := Aside0.mk ho; have HB5 := Aside0.mk hb; clear ho hb hg hat; obtain ⟨Ao, co, eo⟩ := Kd.R_slice HO5.out; obtain ⟨len_, hlen_⟩ : ∃ n_, (bs.take (i + 1)).length = n_ := ⟨_, rfl⟩; rw [hlen_] at eo; clear hlen_; subst eo; have hs5 := (blk_cell BKC.out 1).trans rfl; have hf5 := blk_frozen BKC.out 1)))
      all_goals
        go_wp2
        go_roundw
        case rel => exact ⟨i + 1, .slice Ao len_ co, by omega, by go_num, ⟨Kd.R_mono (Kd.R_far (p := ⟨w2.heap.size, 1, none⟩) (Kd.R_types HO5.out BKC.out (by decide)) (fun _ hk => hk.2) _) (fun _ _ => trivial)⟩, ⟨blk_far BKA.out (by simp only; omega) _⟩, ⟨blk_far BKB.out (by simp only; omega) _⟩, ⟨blk_put (cs := #[.int .i64 seq, u]) BKC.out 1 _ rfl⟩, ⟨below_set HB5.out GE34.out⟩⟩
        case measure => simp [intOf]; omega
    · have e : n = i := by omega
      subst e
      have ci : decide ((n : Int) < (n : Int)) = false := decide_eq_false (by omega)
      obtain ⟨A3, c3, e3, hc3, hC3⟩ := Kd.R_reads HO.out
      have en : bs.take n = bs := List.take_of_length_le (by have := HL.out; omega)
      rw [en] at HO e3 hc3 hC3
      subst e3
      have HC3 := Lib.hid hC3
      have HL3 := Lib.hid hc3
      clear hC3 hc3 en
      obtain ⟨⟨u0, u1, u2, u3⟩, v0, v1, v2, v3⟩ := blk4 BK54.out
      have z0 := blk_cell BK34.out 0
      have z1 := blk_cell BK34.out 1
      have HS := Lib.hid (fun (W : World) (hb : Below wr.heap.size wr W) => (show W.cell? ⟨w1.heap.size, 0, none⟩ = some (.int .i64 2) ∧ W.cell? ⟨w1.heap.size, 1, none⟩ = some (.int .i64 (n : Int)) ∧ W.cell? ⟨w1.heap.size, 2, none⟩ = some (.int .i64 seq) ∧ W.cell? ⟨w1.heap.size, 3, none⟩ = some (.slice (some ad) l0.length c0) ∧ W.cell? ⟨w2.heap.size, 0, none⟩ = some (.int .i64 seq) ∧ W.cell? ⟨w2.heap.size, 1, none⟩ = some (.slice A3 bs.length c3) ∧ Below wr.heap.size wr W from ⟨pw_cell_below hb u0, pw_cell_below hb u1, pw_cell_below hb u2, pw_cell_below hb u3, pw_cell_below hb z0, pw_cell_below hb z1, hb⟩))
      clear u0 u1 u2 u3 v0 v1 v2 v3 z0 z1
      go_upto_region 10 with (fail)
      go_cut [56] (fun v56 wq => v56 = .bool true ∧ Aside0 (Below wr.heap.size wr wq))
      case first =>
        go_region_held3 (fun w' => w'.cell? ⟨w1.heap.size, 0, none⟩ = some (.int .i64 2) ∧ w'.cell? ⟨w1.heap.size, 1, none⟩ = some (.int .i64 (n : Int)) ∧ w'.cell? ⟨w1.heap.size, 2, none⟩ = some (.int .i64 seq) ∧ w'.cell? ⟨w1.heap.size, 3, none⟩ = some (.slice (some ad) l0.length c0) ∧ w'.cell? ⟨w2.heap.size, 0, none⟩ = some (.int .i64 seq) ∧ w'.cell? ⟨w2.heap.size, 1, none⟩ = some (.slice A3 bs.length c3) ∧ Below wr.heap.size wr w')
          ((refine HS.out _ ?_; repeat (first | assumption | (with_reducible first | exact Below.refl _ _ | apply below_alloc | apply pw_below_drewN | apply below_drew) | (refine below_step ?_ hb8) | (refine below_step ?_ hb7) | (refine below_step ?_ hb6))))
          (first
            | (go_at_call 38; (refine (HE.out A3 c3 _ ?_ HL3.out).mono ?_); (repeat (first | exact HC3.out | (with_reducible refine Kd.C_drewN ?_ _) | (with_reducible refine Kd.C_drew ?_))); rintro e w6 ⟨v0, rfl, ho, hb6⟩; obtain ⟨A1, c1, rfl, hcc, hC⟩ := Kd.R_reads ho; have HR6 := Aside0.mk hC; clear ho hC)
            | (go_at_call 29; (refine (HH.out A1 c1 _ ?_ ?_ hcc).mono ?_); (refine below_step HB.out ?_; repeat (first | assumption | (with_reducible first | exact Below.refl _ _ | apply below_alloc | apply pw_below_drewN | apply below_drew) | (refine below_step ?_ hb6))); (repeat (first | exact HR6.out | (with_reducible refine Kd.C_drewN ?_ _) | (with_reducible refine Kd.C_drew ?_))); rintro e w7 ⟨v7, rfl, hv7⟩; have hb7 := hv7.choose_spec.2.2.2)
            | (go_at_call 27; (refine (good_of_bad hv7 (HG.out.below ?_) _ ?_).mono ?_); (refine below_step HB.out ?_; repeat (first | assumption | (with_reducible first | exact Below.refl _ _ | apply below_alloc | apply pw_below_drewN | apply below_drew) | (refine below_step ?_ hb6))); (repeat (first | assumption | (with_reducible first | exact Below.refl _ _ | apply below_alloc | apply pw_below_drewN | apply below_drew))); rintro e w8 ⟨rfl, hb8⟩))
        all_goals
          go_wp2
          go_meet
          case rel => exact ⟨by first | rfl | simp, ⟨by repeat (first | assumption | (with_reducible first | exact Below.refl _ _ | apply below_alloc | apply pw_below_drewN | apply below_drew) | (refine below_step ?_ hb8) | (refine below_step ?_ hb7) | (refine below_step ?_ hb6))⟩⟩
      case rest =>
        obtain ⟨rfl, HBq⟩ := hcut
        have HOq := Lib.hid (Kd.R_below HO.out HBq.out)
        have BK36q := Lib.hid (blk_below BK36.out HBq.out)
        have BK34q := Lib.hid (blk_below BK34.out HBq.out)
        have HBw := Lib.hid (below_step HB.out HBq.out)
        have z0 := blk_cell BK34q.out 0
        have z1 := blk_cell BK34q.out 1
        obtain ⟨⟨x0, x1, x2⟩, y0, y1, y2⟩ := blk3 BK36q.out
        go_wp2
        refine bodyPost_ret (results_cell_row rfl _ _ w.heap.size 45 #[.bool false, .int .i64 0, .slice none 0 0] (0, 0) _ rfl (blk_set (blk_set (blk_set BK36q.out 0 _) 1 _) 2 _) Tryd.underlying45 rfl (by kernel_rfl)) rfl ?_
        refine ⟨rfl, ?_⟩
        repeat (first | exact HBw.out | (refine below_at ?_ (Nat.le_refl _) _))
namespace PE
def tagsAt (k : Nat) (l0 : List Int) (i : Nat) : Nat → Option (List S67)
  | 0 => some []
  | m + 1 => (impl_num.f k l0 (12 + 3 * (i : Int)) 2).bind fun b => (tagsAt k l0 (i + 1) m).bind fun r => some ((⟨b, rd l0 ((14 + 3 * i : Nat) : Int) == 1⟩ : S67) :: r)
theorem tagsAt_mono (k : Nat) (l0 : List Int) (m : Nat) : ∀ i, LeO (tagsAt k l0 i m) (tagsAt (k + 1) l0 i m) := by
  induction m with
  | zero => intro i; exact LeO.refl _
  | succ m ih => intro i; exact LeO.bind (impl_num.mono _ _ _ _) (fun _ => LeO.bind (ih _) (fun _ => LeO.refl _))
theorem tagsAt_spec (k : Nat) (l0 : List Int) (m : Nat) : ∀ (i : Nat) (bs : List S67), tagsAt k l0 i m = some bs → bs.length = m ∧ ∀ j, j < m → impl_num.f k l0 (12 + 3 * ((i + j : Nat) : Int)) 2 = some (bs.getD j z67).f0 ∧ (bs.getD j z67).f1 = (rd l0 ((14 + 3 * (i + j) : Nat) : Int) == 1) := by
  induction m with
  | zero => intro i bs h; obtain rfl := Option.some.inj h; exact ⟨rfl, fun j hj => by omega⟩
  | succ m ih =>
    intro i bs h
    obtain ⟨b, hb, h⟩ := Option.bind_eq_some_iff.mp h
    obtain ⟨r, hr, h⟩ := Option.bind_eq_some_iff.mp h
    obtain rfl := Option.some.inj h
    obtain ⟨hl, hs⟩ := ih _ _ hr
    refine ⟨by simp [hl], fun j hj => ?_⟩
    cases j with
    | zero => exact ⟨by simpa using hb, by simp⟩
    | succ j =>
      have := hs j (by omega)
      rw [show i + 1 + j = i + (j + 1) by omega] at this
      simpa using this
def impl_DecodeDescriptor.f (k : Nat) (l0 : List Int) : Option (Bool × Int × List S67) :=
  (impl_BlockKind.f l0).bind fun b => if b = 2 then if l0.length = 64 then (impl_num.f k l0 6 2).bind fun count => (impl_num.f k l0 8 4).bind fun seq => if 17 < count then some (false, 0, []) else if 0 ≤ count then (tagsAt k l0 0 count.toNat).bind fun bs => (impl_EncodeDescriptor.f k seq bs).bind fun x => (bytes_Equal.f x l0).bind fun q => if q = true then some (true, seq, bs) else some (false, 0, []) else none else none else some (false, 0, [])
theorem impl_DecodeDescriptor.mono : ∀ a0 k, LeO (impl_DecodeDescriptor.f k a0) (impl_DecodeDescriptor.f (k + 1) a0) := by
  intro a0 k
  unfold impl_DecodeDescriptor.f
  repeat' first
      | (with_reducible exact impl_EncodeDescriptor.mono _ _ _)
      | (with_reducible exact tagsAt_mono _ _ _ _)
      | (with_reducible exact impl_num.mono _ _ _ _)
      | (with_reducible exact LeO.refl _)
      | (with_reducible refine LeO.ite ?_ ?_)
      | (with_reducible refine LeO.bind ?_ (fun _ => ?_))
      | exact LeO.none _
theorem impl_DecodeDescriptor.calls (k : Nat) (A0 : Option Addr) (c0 : Nat) (l0 : List Int) (r1 : Bool) (r2 : Int) (r3 : List S67) (w : World) (hr0 : Kd.C (Kd.int .u8) w A0 l0.length l0) (hc0 : l0.length ≤ c0) (h : impl_DecodeDescriptor.f k l0 = some (r1, r2, r3)) (s : Addr) (hG : Glob s w) :
    Calls Tryd.prog 18 #[.slice A0 l0.length c0] w fun e w' => ∃ v2_ : Value, e = .returned (.agg #[.bool r1, .int .i64 r2, v2_]) ∧ Kd.R k67 67 w' w.heap.size (fun _ => True) v2_ r3 ∧ Below w.heap.size w w' := by
  have hnil : ∀ e w', (e = Ending.returned (.agg #[.bool false, .int .i64 0, .slice none 0 0]) ∧ Below w.heap.size w w') → ∃ v2_ : Value, e = .returned (.agg #[.bool false, .int .i64 0, v2_]) ∧ Kd.R k67 67 w' w.heap.size (fun _ => True) v2_ [] ∧ Below w.heap.size w w' := fun e w' h => ⟨_, h.1, Kd.R_nil _ _ _ _ _, h.2⟩
  obtain ⟨b, hb, h⟩ := Option.bind_eq_some_iff.mp h
  by_cases h3 : b = 2
  · rw [if_pos h3] at h
    subst h3
    by_cases hll : l0.length = 64
    case neg => rw [if_neg hll] at h; cases h
    rw [if_pos hll] at h
    obtain ⟨count, h1, h⟩ := Option.bind_eq_some_iff.mp h
    obtain ⟨seq, h2, h⟩ := Option.bind_eq_some_iff.mp h
    by_cases hm : 17 < count
    · rw [if_pos hm] at h
      simp only [Option.some.injEq, Prod.mk.injEq] at h
      obtain ⟨rfl, rfl, rfl⟩ := h
      exact (dd_many k s A0 c0 l0 count seq w hr0 hc0 hb h1 h2 hm).mono hnil
    · rw [if_neg hm] at h
      by_cases hp : 0 ≤ count
      · rw [if_pos hp] at h
        obtain ⟨n, rfl⟩ := Int.eq_ofNat_of_zero_le hp
        rw [Int.toNat_natCast] at h
        obtain ⟨bs, hbs, h⟩ := Option.bind_eq_some_iff.mp h
        obtain ⟨x, hx, h⟩ := Option.bind_eq_some_iff.mp h
        obtain ⟨q, hq, h⟩ := Option.bind_eq_some_iff.mp h
        obtain ⟨hl, hs⟩ := tagsAt_spec k l0 n 0 bs hbs
        have hs' : ∀ i, i < n → PE.impl_num.f k l0 (12 + 3 * (i : Int)) 2 = some (bs.getD i z67).f0 := fun i hi => by have := (hs i hi).1; rwa [Nat.zero_add] at this
        have ht' : ∀ i, i < n → (bs.getD i z67).f1 = (rd l0 ((14 + 3 * i : Nat) : Int) == 1) := fun i hi => by have := (hs i hi).2; rwa [Nat.zero_add] at this
        cases q with
        | true =>
          rw [if_pos rfl] at h
          simp only [Option.some.injEq, Prod.mk.injEq] at h
          obtain ⟨rfl, rfl, rfl⟩ := h
          exact dd_ok k s A0 c0 l0 x _ n _ w hr0 hc0 hG hb h1 h2 (by omega) hl hll hs' ht' hx hq
        | false =>
          rw [if_neg (by decide)] at h
          simp only [Option.some.injEq, Prod.mk.injEq] at h
          obtain ⟨rfl, rfl, rfl⟩ := h
          exact (dd_ne k s A0 c0 l0 x bs n seq w hr0 hc0 hG hb h1 h2 (by omega) hl hll hs' ht' hx hq).mono hnil
      · rw [if_neg hp] at h; cases h
  · rw [if_neg h3] at h
    simp only [Option.some.injEq, Prod.mk.injEq] at h
    obtain ⟨rfl, rfl, rfl⟩ := h
    exact (dd_bad s A0 c0 l0 b w hr0 hc0 hG hb h3).mono hnil
end PE
end Go.Proofs.YticeddapnafomaaDoor
