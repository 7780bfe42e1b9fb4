/- impl.DecodeCommit's contract in the print's shape (with the worlds' premise Glob). -/
import Derived.Test.YticeddapnafomaaDoorHeld
import Derived.Test.YticeddapnafomaaDoorPEx6
import Derived.Deep.RegionHeld3
set_option linter.unusedVariables false
namespace Go.Proofs.YticeddapnafomaaDoor
open Go.RowKit Go.Proofs.YticeddapnafomaaDoorW.PrintWords Go.Proofs.YticeddapnafomaaDoorW.PrintLast Go.Proofs.YticeddapnafomaaDoorW.PrintMore
theorem parse_bad (s : Addr) (A0 : Option Addr) (c0 : Nat) (l0 : List Int) (kind k0 : Int) (w : World) (hr0 : Kd.C (Kd.int .u8) w A0 l0.length l0) (hc0 : l0.length ≤ c0) (hG : Glob s w) (hk : PE.impl_BlockKind.f l0 = some k0) (h1 : ¬ k0 = kind) :
    Calls Tryd.prog 26 #[.slice A0 l0.length c0, .int .i64 kind] w (BadParse s w) := by
  by_cases h0 : k0 = 0
  · subst h0; exact parse_zero s A0 c0 l0 kind w hr0 hc0 hG hk
  · exact parse_kind s A0 c0 l0 kind k0 w hr0 hc0 hG hk h0 h1
/-- good at a bad value, at any world behind. -/
theorem good_of_bad {s : Addr} {w w1 : World} {v : Value} (hv : IsBad s w v w1) (hG : Glob s w) (W : World) (hb : Below w1.heap.size w1 W) : Calls Tryd.prog 27 #[v] W fun e w' => e = .returned (.bool false) ∧ Below w1.heap.size w1 w' := by
  obtain ⟨b, rfl, hlt, h1, hB⟩ := hv
  have hG1 : Glob s W := (hG.below hB).below hb
  exact (good_bad b s W (Nat.lt_of_lt_of_le hlt hb.size) hG1.et hG1.ef (pw_cell_below hb h1)).mono fun e w' ⟨h1, h2⟩ => ⟨h1, below_then hb hb.size h2⟩
theorem good_of_nil (w1 W : World) (hb : Below w1.heap.size w1 W) : Calls Tryd.prog 27 #[.nilIface] W fun e w' => e = .returned (.bool true) ∧ Below w1.heap.size w1 w' :=
  (good_nil W).mono fun e w' ⟨h1, h2⟩ => ⟨h1, below_then hb hb.size h2⟩
/-- A block of four cells, known whole. -/
theorem blk4 {w : World} {g : Nat} {t : TypeId} {a b c d : Value} (h : w.heap[g]? = some (.cells #[a, b, c, d] t (0, 0))) :
    (w.cell? ⟨g, 0, none⟩ = some a ∧ w.cell? ⟨g, 1, none⟩ = some b ∧ w.cell? ⟨g, 2, none⟩ = some c ∧ w.cell? ⟨g, 3, none⟩ = some d) ∧ w.frozen? ⟨g, 0, none⟩ = false ∧ w.frozen? ⟨g, 1, none⟩ = false ∧ w.frozen? ⟨g, 2, none⟩ = false ∧ w.frozen? ⟨g, 3, none⟩ = false :=
  ⟨⟨blk_cell h 0, blk_cell h 1, blk_cell h 2, blk_cell h 3⟩, blk_frozen h 0, blk_frozen h 1, blk_frozen h 2, blk_frozen h 3⟩
theorem below_at {w W : World} (h : Below w.heap.size w W) {p : Addr} (hp : w.heap.size ≤ p.block) (u : Value) : Below w.heap.size w (W.setCell p u) := h.setCell hp u
set_option maxHeartbeats 1000000 in
set_option maxRecDepth 100000 in
theorem dc_bad (s : Addr) (A0 : Option Addr) (c0 : Nat) (l0 : List Int) (k0 : Int) (w : World) (hr0 : Kd.C (Kd.int .u8) w A0 l0.length l0) (hc0 : l0.length ≤ c0) (hG : Glob s w) (hk : PE.impl_BlockKind.f l0 = some k0) (h1 : ¬ k0 = 4) :
    Calls Tryd.prog 8 #[.slice A0 l0.length c0] w fun e w' => e = .returned (.agg #[.bool false, .int .i64 0, .int .i64 0, .int .i64 0]) ∧ Below w.heap.size w w' := by
  have HP := Lib.hid (fun (W : World) (hb : Below w.heap.size w W) => parse_bad s A0 c0 l0 4 k0 W (Kd.C_below hr0 hb) hc0 (hG.below hb) hk h1)
  have HG := Lib.hid hG
  clear hr0 hc0 hG hk h1
  go_enter Tryd.func8, Tryd.ntmps8
  go_wp2_with (first
    | (go_at_call 26; (with_reducible refine (HP.out _ (below_alloc (Below.refl _ _) _)).mono ?_); rintro e w1 ⟨v, rfl, hv⟩; have HX := Lib.hid (blk_below (blk_new w (.cells #[.bool false, .int .i64 0, .int .i64 0, .int .i64 0] 26)) hv.choose_spec.2.2.2); have HBW := Lib.hid (below_then (below_alloc (Below.refl _ _) _) (below_alloc (Below.refl _ _) _).size hv.choose_spec.2.2.2); have HV := Lib.hid hv; clear hv)
    | (go_at_call 27; (refine (good_of_bad HV.out (HG.out.below (below_alloc (Below.refl _ _) _)) _ ?b1).mono ?_); (case b1 => repeat (first | (with_reducible first | exact Below.refl _ _ | apply below_alloc | apply pw_below_drewN | apply below_drew1) | (refine below_at ?_ (Nat.le_refl _) _))); rintro e w2 ⟨rfl, hb2⟩; have HX2 := Lib.hid (blk_below HX.out hb2); have HBW2 := Lib.hid (below_then HBW.out HBW.out.size hb2); obtain ⟨⟨x0, x1, x2, x3⟩, y0, y1, y2, y3⟩ := blk4 HX2.out; clear hb2))
  refine bodyPost_ret (results_cell_row rfl _ _ w.heap.size 26 #[.bool false, .int .i64 0, .int .i64 0, .int .i64 0] (0, 0) _ rfl (blk_set (blk_set (blk_set (blk_set HX2.out 0 _) 1 _) 2 _) 3 _) Tryd.underlying26 rfl (by kernel_rfl)) rfl ⟨rfl, ?_⟩
  repeat (first | exact HBW2.out | (refine below_at ?_ (Nat.le_refl _) _))
set_option maxHeartbeats 2000000 in
set_option maxRecDepth 100000 in
theorem dc_ok (k : Nat) (s : Addr) (A0 : Option Addr) (c0 : Nat) (l0 x : List Int) (count seq sum : Int) (w : World) (hr0 : Kd.C (Kd.int .u8) w A0 l0.length l0) (hc0 : l0.length ≤ c0) (hG : Glob s w) (hk : PE.impl_BlockKind.f l0 = some 4) (h1 : PE.impl_num.f k l0 6 2 = some count) (h2 : PE.impl_num.f k l0 8 4 = some seq) (h3 : PE.impl_num.f k l0 12 4 = some sum) (h4 : PE.impl_EncodeCommit.f k seq count sum = some x) (h5 : PE.bytes_Equal.f x l0 = some true) :
    Calls Tryd.prog 8 #[.slice A0 l0.length c0] w fun e w' => e = .returned (.agg #[.bool true, .int .i64 seq, .int .i64 count, .int .i64 sum]) ∧ Below w.heap.size w w' := by
  have HP := Lib.hid (fun (W : World) (hb : Below w.heap.size w W) => parse_ok k A0 c0 l0 4 count seq W (Kd.C_below hr0 hb) hc0 hk (by decide) h1 h2)
  have HN := Lib.hid (fun (W : World) (hb : Below w.heap.size w W) => PE.impl_num.calls k A0 c0 l0 12 4 sum W (Kd.C_below hr0 hb) hc0 h3)
  have HE := Lib.hid (fun (W : World) => PE.impl_EncodeCommit.calls k seq count sum x W h4)
  have HH := Lib.hid (fun (A1 : Option Addr) (c1 : Nat) (W : World) (hb : Below w.heap.size w W) (hr1 : Kd.C (Kd.int .u8) W A1 x.length x) (hc1 : x.length ≤ c1) => held_eq 4 count seq A0 A1 c0 c1 l0 x W (Kd.C_below hr0 hb) hc0 hr1 hc1 h5)
  have HG := Lib.hid hG
  clear hr0 hc0 hG hk h1 h2 h3 h4 h5
  go_enter Tryd.func8, Tryd.ntmps8
  go_wp2_with (first
    | (go_at_call 26; (with_reducible refine (HP.out _ (below_alloc (Below.refl _ _) _)).mono ?_); rintro e w1 ⟨rfl, hb⟩; have HX := Lib.hid (blk_below (blk_new w (.cells #[.bool false, .int .i64 0, .int .i64 0, .int .i64 0] 26)) hb); have HBW := Lib.hid (below_then (below_alloc (Below.refl _ _) _) (below_alloc (Below.refl _ _) _).size hb); clear hb)
    | (go_at_call 27; refine (good_nil _).mono ?_; rintro e w2 ⟨rfl, hb2⟩; have HX3 := Lib.hid (blk_below (blk_new w1 _) hb2); have HX2 := Lib.hid (blk_below (blk_alloc HX.out _) hb2); have HBW2 := Lib.hid (below_then (below_alloc HBW.out _) (below_alloc HBW.out _).size hb2); obtain ⟨⟨x0, x1, x2, x3⟩, y0, y1, y2, y3⟩ := blk4 HX3.out; clear hb2))
  have HS := Lib.hid (fun (W : World) (hb : Below w2.heap.size w2 W) => (show W.cell? ⟨w1.heap.size, 1, none⟩ = some (.int .i64 count) ∧ W.cell? ⟨w1.heap.size, 2, none⟩ = some (.int .i64 seq) ∧ Below w2.heap.size w2 W from ⟨pw_cell_below hb x1, pw_cell_below hb x2, hb⟩))
  have hn0 : ∀ (m i : Nat), ((w2.drewN m).alloc (.cells #[.int .i64 0, .int .i64 0, .int .i64 0] 24)).cell? ⟨w2.heap.size, i, none⟩ = (#[.int .i64 0, .int .i64 0, .int .i64 0] : Array Value)[i]? := fun m i => blk_cell (blk_new (w2.drewN m) _) i
  have hn1 : ∀ (m i : Nat), ((w2.drewN m).alloc (.cells #[.int .i64 0, .int .i64 0, .int .i64 0] 24)).frozen? ⟨w2.heap.size, i, none⟩ = false := fun m i => blk_frozen (blk_new (w2.drewN m) _) i
  have hn2 : ∀ (i : Nat), ((w2.drew).alloc (.cells #[.int .i64 0, .int .i64 0, .int .i64 0] 24)).cell? ⟨w2.heap.size, i, none⟩ = (#[.int .i64 0, .int .i64 0, .int .i64 0] : Array Value)[i]? := fun i => blk_cell (blk_new (w2.drew) _) i
  have hn3 : ∀ (i : Nat), ((w2.drew).alloc (.cells #[.int .i64 0, .int .i64 0, .int .i64 0] 24)).frozen? ⟨w2.heap.size, i, none⟩ = false := fun i => blk_frozen (blk_new (w2.drew) _) i
  go_upto_region 4 with (fail)
  go_cut [5] (fun v5 wc => ∃ g5, v5 = .pointer (some ⟨g5, 0, none⟩) ∧ Aside0 (Below w2.heap.size w2 wc) ∧ Aside0 (wc.heap[g5]? = some (.cells #[.int .i64 seq, .int .i64 count, .int .i64 sum] 24 (0, 0))))
  case first =>
    go_region_held3 (fun w' => w'.cell? ⟨w1.heap.size, 1, none⟩ = some (.int .i64 count) ∧ w'.cell? ⟨w1.heap.size, 2, none⟩ = some (.int .i64 seq) ∧ Below w2.heap.size w2 w')
      ((refine HS.out _ ?_; repeat (first | assumption | (with_reducible first | exact Below.refl _ _ | apply below_alloc | apply pw_below_drewN | apply below_drew) | (refine below_at ?_ (by simp) _))))
      (first | (go_at_call 28; (refine (HN.out _ ?_).mono ?_); (refine below_then HBW2.out HBW2.out.size ?_; repeat (first | assumption | (with_reducible first | exact Below.refl _ _ | apply below_alloc | apply pw_below_drewN | apply below_drew))); rintro e w3 ⟨rfl, ⟨n, rfl⟩⟩))
    all_goals
      go_wp2
      go_meet
      case rel => exact ⟨w2.heap.size, rfl, ⟨by repeat (first | (with_reducible first | exact Below.refl _ _ | apply below_alloc | apply pw_below_drewN | apply below_drew) | (refine below_at ?_ (Nat.le_refl _) _))⟩, ⟨by first | exact blk_set (blk_set (blk_set (blk_new (w2.drewN _) _) 0 _) 1 _) 2 _ | exact blk_set (blk_set (blk_set (blk_drewN (blk_new w2 _) _) 0 _) 1 _) 2 _⟩⟩
  case rest =>
    obtain ⟨g5, rfl, HB5, HC5⟩ := hcut
    clear x0 x1 x2 x3 y0 y1 y2 y3 hn0 hn1 hn2 hn3 HS
    have HX3' := blk_below HX3.out HB5.out
    have HX2' := Lib.hid (blk_below HX2.out HB5.out)
    have HBW3 := Lib.hid (below_step HBW2.out HB5.out)
    obtain ⟨⟨x0, x1, x2, x3⟩, y0, y1, y2, y3⟩ := blk4 HX3'
    have z0 := blk_cell HC5.out 0
    have z1 := blk_cell HC5.out 1
    have z2 := blk_cell HC5.out 2
    have HS := Lib.hid (fun (W : World) (hb : Below wc.heap.size wc W) => (show W.cell? ⟨w1.heap.size, 0, none⟩ = some (.int .i64 4) ∧ W.cell? ⟨w1.heap.size, 1, none⟩ = some (.int .i64 count) ∧ W.cell? ⟨w1.heap.size, 2, none⟩ = some (.int .i64 seq) ∧ W.cell? ⟨w1.heap.size, 3, none⟩ = some (.slice A0 l0.length c0) ∧ W.cell? ⟨g5, 0, none⟩ = some (.int .i64 seq) ∧ W.cell? ⟨g5, 1, none⟩ = some (.int .i64 count) ∧ W.cell? ⟨g5, 2, none⟩ = some (.int .i64 sum) ∧ Below wc.heap.size wc W from ⟨pw_cell_below hb x0, pw_cell_below hb x1, pw_cell_below hb x2, pw_cell_below hb x3, pw_cell_below hb z0, pw_cell_below hb z1, pw_cell_below hb z2, hb⟩))
    go_upto_region 5 with (fail)
    go_cut [29] (fun v29 wq => v29 = .bool false ∧ Aside0 (Below wc.heap.size wc wq))
    case first =>
      go_region_held3 (fun w' => w'.cell? ⟨w1.heap.size, 0, none⟩ = some (.int .i64 4) ∧ w'.cell? ⟨w1.heap.size, 1, none⟩ = some (.int .i64 count) ∧ w'.cell? ⟨w1.heap.size, 2, none⟩ = some (.int .i64 seq) ∧ w'.cell? ⟨w1.heap.size, 3, none⟩ = some (.slice A0 l0.length c0) ∧ w'.cell? ⟨g5, 0, none⟩ = some (.int .i64 seq) ∧ w'.cell? ⟨g5, 1, none⟩ = some (.int .i64 count) ∧ w'.cell? ⟨g5, 2, none⟩ = some (.int .i64 sum) ∧ Below wc.heap.size wc w')
        ((refine HS.out _ ?_; repeat (first | assumption | (with_reducible first | exact Below.refl _ _ | apply below_alloc | apply pw_below_drewN | apply below_drew) | (refine below_step ?_ hb8) | (refine below_step ?_ hb7) | (refine below_step ?_ hb6))))
        (first
          | (go_at_call 30; (refine (HE.out _).mono ?_); rintro e w6 ⟨v0, rfl, ho, hb6⟩; obtain ⟨A1, c1, rfl, hcc, hC⟩ := Kd.R_reads ho; have HR6 := Aside0.mk hC; clear ho hC)
          | (go_at_call 29; (refine (HH.out A1 c1 _ ?_ ?_ hcc).mono ?_); (refine below_step HBW3.out ?_; repeat (first | assumption | (with_reducible first | exact Below.refl _ _ | apply below_alloc | apply pw_below_drewN | apply below_drew) | (refine below_step ?_ hb6))); (repeat (first | exact HR6.out | (with_reducible refine Kd.C_drewN ?_ _) | (with_reducible refine Kd.C_drew ?_))); rintro e w7 ⟨rfl, hb7⟩)
          | (go_at_call 27; (refine (good_nil _).mono ?_); rintro e w8 ⟨rfl, hb8⟩))
      all_goals
        go_wp2
        go_meet
        case rel => exact ⟨by first | rfl | simp, ⟨by repeat (first | assumption | (with_reducible first | exact Below.refl _ _ | apply below_alloc | apply pw_below_drewN | apply below_drew) | (refine below_step ?_ hb8) | (refine below_step ?_ hb7) | (refine below_step ?_ hb6))⟩⟩
    case rest =>
      obtain ⟨rfl, HBq⟩ := hcut
      have HC5' := blk_below HC5.out HBq.out
      have HX2q := Lib.hid (blk_below HX2'.out HBq.out)
      have HBW4 := Lib.hid (below_step HBW3.out HBq.out)
      clear x0 x1 x2 x3 y0 y1 y2 y3 z0 z1 z2 HS
      have z0 := blk_cell HC5' 0
      have z1 := blk_cell HC5' 1
      have z2 := blk_cell HC5' 2
      obtain ⟨⟨x0, x1, x2, x3⟩, y0, y1, y2, y3⟩ := blk4 HX2q.out
      clear HC5'
      go_wp2
      refine bodyPost_ret (results_cell_row rfl _ _ w.heap.size 26 #[.bool true, .int .i64 seq, .int .i64 count, .int .i64 sum] (0, 0) _ rfl (blk_set (blk_set (blk_set (blk_set HX2q.out 0 _) 1 _) 2 _) 3 _) Tryd.underlying26 rfl (by kernel_rfl)) rfl ⟨rfl, ?_⟩
      repeat (first | exact HBW4.out | (refine below_at ?_ (Nat.le_refl _) _))
set_option maxHeartbeats 2000000 in
set_option maxRecDepth 100000 in
theorem dc_ne (k : Nat) (s : Addr) (A0 : Option Addr) (c0 : Nat) (l0 x : List Int) (count seq sum : Int) (w : World) (hr0 : Kd.C (Kd.int .u8) w A0 l0.length l0) (hc0 : l0.length ≤ c0) (hG : Glob s w) (hk : PE.impl_BlockKind.f l0 = some 4) (h1 : PE.impl_num.f k l0 6 2 = some count) (h2 : PE.impl_num.f k l0 8 4 = some seq) (h3 : PE.impl_num.f k l0 12 4 = some sum) (h4 : PE.impl_EncodeCommit.f k seq count sum = some x) (h5 : PE.bytes_Equal.f x l0 = some false) :
    Calls Tryd.prog 8 #[.slice A0 l0.length c0] w fun e w' => e = .returned (.agg #[.bool false, .int .i64 0, .int .i64 0, .int .i64 0]) ∧ Below w.heap.size w w' := by
  have HP := Lib.hid (fun (W : World) (hb : Below w.heap.size w W) => parse_ok k A0 c0 l0 4 count seq W (Kd.C_below hr0 hb) hc0 hk (by decide) h1 h2)
  have HN := Lib.hid (fun (W : World) (hb : Below w.heap.size w W) => PE.impl_num.calls k A0 c0 l0 12 4 sum W (Kd.C_below hr0 hb) hc0 h3)
  have HE := Lib.hid (fun (W : World) => PE.impl_EncodeCommit.calls k seq count sum x W h4)
  have HH := Lib.hid (fun (A1 : Option Addr) (c1 : Nat) (W : World) (hb : Below w.heap.size w W) (hr1 : Kd.C (Kd.int .u8) W A1 x.length x) (hc1 : x.length ≤ c1) => held_ne s 4 count seq A0 A1 c0 c1 l0 x W (Kd.C_below hr0 hb) hc0 hr1 hc1 (hG.below hb) h5)
  have HG := Lib.hid hG
  clear hr0 hc0 hG hk h1 h2 h3 h4 h5
  go_enter Tryd.func8, Tryd.ntmps8
  go_wp2_with (first
    | (go_at_call 26; (with_reducible refine (HP.out _ (below_alloc (Below.refl _ _) _)).mono ?_); rintro e w1 ⟨rfl, hb⟩; have HX := Lib.hid (blk_below (blk_new w (.cells #[.bool false, .int .i64 0, .int .i64 0, .int .i64 0] 26)) hb); have HBW := Lib.hid (below_then (below_alloc (Below.refl _ _) _) (below_alloc (Below.refl _ _) _).size hb); clear hb)
    | (go_at_call 27; refine (good_nil _).mono ?_; rintro e w2 ⟨rfl, hb2⟩; have HX3 := Lib.hid (blk_below (blk_new w1 _) hb2); have HX2 := Lib.hid (blk_below (blk_alloc HX.out _) hb2); have HBW2 := Lib.hid (below_then (below_alloc HBW.out _) (below_alloc HBW.out _).size hb2); obtain ⟨⟨x0, x1, x2, x3⟩, y0, y1, y2, y3⟩ := blk4 HX3.out; clear hb2))
  have HS := Lib.hid (fun (W : World) (hb : Below w2.heap.size w2 W) => (show W.cell? ⟨w1.heap.size, 1, none⟩ = some (.int .i64 count) ∧ W.cell? ⟨w1.heap.size, 2, none⟩ = some (.int .i64 seq) ∧ Below w2.heap.size w2 W from ⟨pw_cell_below hb x1, pw_cell_below hb x2, hb⟩))
  have hn0 : ∀ (m i : Nat), ((w2.drewN m).alloc (.cells #[.int .i64 0, .int .i64 0, .int .i64 0] 24)).cell? ⟨w2.heap.size, i, none⟩ = (#[.int .i64 0, .int .i64 0, .int .i64 0] : Array Value)[i]? := fun m i => blk_cell (blk_new (w2.drewN m) _) i
  have hn1 : ∀ (m i : Nat), ((w2.drewN m).alloc (.cells #[.int .i64 0, .int .i64 0, .int .i64 0] 24)).frozen? ⟨w2.heap.size, i, none⟩ = false := fun m i => blk_frozen (blk_new (w2.drewN m) _) i
  have hn2 : ∀ (i : Nat), ((w2.drew).alloc (.cells #[.int .i64 0, .int .i64 0, .int .i64 0] 24)).cell? ⟨w2.heap.size, i, none⟩ = (#[.int .i64 0, .int .i64 0, .int .i64 0] : Array Value)[i]? := fun i => blk_cell (blk_new (w2.drew) _) i
  have hn3 : ∀ (i : Nat), ((w2.drew).alloc (.cells #[.int .i64 0, .int .i64 0, .int .i64 0] 24)).frozen? ⟨w2.heap.size, i, none⟩ = false := fun i => blk_frozen (blk_new (w2.drew) _) i
  go_upto_region 4 with (fail)
  go_cut [5] (fun v5 wc => ∃ g5, v5 = .pointer (some ⟨g5, 0, none⟩) ∧ Aside0 (Below w2.heap.size w2 wc) ∧ Aside0 (wc.heap[g5]? = some (.cells #[.int .i64 seq, .int .i64 count, .int .i64 sum] 24 (0, 0))))
  case first =>
    go_region_held3 (fun w' => w'.cell? ⟨w1.heap.size, 1, none⟩ = some (.int .i64 count) ∧ w'.cell? ⟨w1.heap.size, 2, none⟩ = some (.int .i64 seq) ∧ Below w2.heap.size w2 w')
      ((refine HS.out _ ?_; repeat (first | assumption | (with_reducible first | exact Below.refl _ _ | apply below_alloc | apply pw_below_drewN | apply below_drew) | (refine below_at ?_ (by simp) _))))
      (first | (go_at_call 28; (refine (HN.out _ ?_).mono ?_); (refine below_then HBW2.out HBW2.out.size ?_; repeat (first | assumption | (with_reducible first | exact Below.refl _ _ | apply below_alloc | apply pw_below_drewN | apply below_drew))); rintro e w3 ⟨rfl, ⟨n, rfl⟩⟩))
    all_goals
      go_wp2
      go_meet
      case rel => exact ⟨w2.heap.size, rfl, ⟨by repeat (first | (with_reducible first | exact Below.refl _ _ | apply below_alloc | apply pw_below_drewN | apply below_drew) | (refine below_at ?_ (Nat.le_refl _) _))⟩, ⟨by first | exact blk_set (blk_set (blk_set (blk_new (w2.drewN _) _) 0 _) 1 _) 2 _ | exact blk_set (blk_set (blk_set (blk_drewN (blk_new w2 _) _) 0 _) 1 _) 2 _⟩⟩
  case rest =>
    obtain ⟨g5, rfl, HB5, HC5⟩ := hcut
    clear x0 x1 x2 x3 y0 y1 y2 y3 hn0 hn1 hn2 hn3 HS
    have HX3' := blk_below HX3.out HB5.out
    have HX2' := Lib.hid (blk_below HX2.out HB5.out)
    have HBW3 := Lib.hid (below_step HBW2.out HB5.out)
    obtain ⟨⟨x0, x1, x2, x3⟩, y0, y1, y2, y3⟩ := blk4 HX3'
    have z0 := blk_cell HC5.out 0
    have z1 := blk_cell HC5.out 1
    have z2 := blk_cell HC5.out 2
    have HS := Lib.hid (fun (W : World) (hb : Below wc.heap.size wc W) => (show W.cell? ⟨w1.heap.size, 0, none⟩ = some (.int .i64 4) ∧ W.cell? ⟨w1.heap.size, 1, none⟩ = some (.int .i64 count) ∧ W.cell? ⟨w1.heap.size, 2, none⟩ = some (.int .i64 seq) ∧ W.cell? ⟨w1.heap.size, 3, none⟩ = some (.slice A0 l0.length c0) ∧ W.cell? ⟨g5, 0, none⟩ = some (.int .i64 seq) ∧ W.cell? ⟨g5, 1, none⟩ = some (.int .i64 count) ∧ W.cell? ⟨g5, 2, none⟩ = some (.int .i64 sum) ∧ Below wc.heap.size wc W from ⟨pw_cell_below hb x0, pw_cell_below hb x1, pw_cell_below hb x2, pw_cell_below hb x3, pw_cell_below hb z0, pw_cell_below hb z1, pw_cell_below hb z2, hb⟩))
    go_upto_region 5 with (fail)
    go_cut [29] (fun v29 wq => v29 = .bool true ∧ Aside0 (Below wc.heap.size wc wq))
    case first =>
      go_region_held3 (fun w' => w'.cell? ⟨w1.heap.size, 0, none⟩ = some (.int .i64 4) ∧ w'.cell? ⟨w1.heap.size, 1, none⟩ = some (.int .i64 count) ∧ w'.cell? ⟨w1.heap.size, 2, none⟩ = some (.int .i64 seq) ∧ w'.cell? ⟨w1.heap.size, 3, none⟩ = some (.slice A0 l0.length c0) ∧ w'.cell? ⟨g5, 0, none⟩ = some (.int .i64 seq) ∧ w'.cell? ⟨g5, 1, none⟩ = some (.int .i64 count) ∧ w'.cell? ⟨g5, 2, none⟩ = some (.int .i64 sum) ∧ Below wc.heap.size wc w')
        ((refine HS.out _ ?_; repeat (first | assumption | (with_reducible first | exact Below.refl _ _ | apply below_alloc | apply pw_below_drewN | apply below_drew) | (refine below_step ?_ hb8) | (refine below_step ?_ hb7) | (refine below_step ?_ hb6))))
        (first
          | (go_at_call 30; (refine (HE.out _).mono ?_); rintro e w6 ⟨v0, rfl, ho, hb6⟩; obtain ⟨A1, c1, rfl, hcc, hC⟩ := Kd.R_reads ho; have HR6 := Aside0.mk hC; clear ho hC)
          | (go_at_call 29; (refine (HH.out A1 c1 _ ?_ ?_ hcc).mono ?_); (refine below_step HBW3.out ?_; repeat (first | assumption | (with_reducible first | exact Below.refl _ _ | apply below_alloc | apply pw_below_drewN | apply below_drew) | (refine below_step ?_ hb6))); (repeat (first | exact HR6.out | (with_reducible refine Kd.C_drewN ?_ _) | (with_reducible refine Kd.C_drew ?_))); rintro e w7 ⟨v7, rfl, hv7⟩; have hb7 := hv7.choose_spec.2.2.2)
          | (go_at_call 27; (refine (good_of_bad hv7 (HG.out.below ?_) _ ?_).mono ?_); (refine below_step HBW3.out ?_; repeat (first | assumption | (with_reducible first | exact Below.refl _ _ | apply below_alloc | apply pw_below_drewN | apply below_drew) | (refine below_step ?_ hb6))); (repeat (first | assumption | (with_reducible first | exact Below.refl _ _ | apply below_alloc | apply pw_below_drewN | apply below_drew))); rintro e w8 ⟨rfl, hb8⟩))
      all_goals
        go_wp2
        go_meet
        case rel => exact ⟨by first | rfl | simp, ⟨by repeat (first | assumption | (with_reducible first | exact Below.refl _ _ | apply below_alloc | apply pw_below_drewN | apply below_drew) | (refine below_step ?_ hb8) | (refine below_step ?_ hb7) | (refine below_step ?_ hb6))⟩⟩
    case rest =>
      obtain ⟨rfl, HBq⟩ := hcut
      have HC5' := blk_below HC5.out HBq.out
      have HX2q := Lib.hid (blk_below HX2'.out HBq.out)
      have HBW4 := Lib.hid (below_step HBW3.out HBq.out)
      clear x0 x1 x2 x3 y0 y1 y2 y3 z0 z1 z2 HS
      have z0 := blk_cell HC5' 0
      have z1 := blk_cell HC5' 1
      have z2 := blk_cell HC5' 2
      obtain ⟨⟨x0, x1, x2, x3⟩, y0, y1, y2, y3⟩ := blk4 HX2q.out
      clear HC5'
      go_wp2
      refine bodyPost_ret (results_cell_row rfl _ _ w.heap.size 26 #[.bool false, .int .i64 0, .int .i64 0, .int .i64 0] (0, 0) _ rfl (blk_set (blk_set (blk_set (blk_set HX2q.out 0 _) 1 _) 2 _) 3 _) Tryd.underlying26 rfl (by kernel_rfl)) rfl ⟨rfl, ?_⟩
      repeat (first | exact HBW4.out | (refine below_at ?_ (Nat.le_refl _) _))
namespace PE
def impl_DecodeCommit.f (k : Nat) (l0 : List Int) : Option (Bool × Int × Int × Int) :=
  (impl_BlockKind.f l0).bind fun b => if b = 4 then (impl_num.f k l0 6 2).bind fun count => (impl_num.f k l0 8 4).bind fun seq => (impl_num.f k l0 12 4).bind fun sum => (impl_EncodeCommit.f k seq count sum).bind fun x => (bytes_Equal.f x l0).bind fun q => if q = true then some (true, seq, count, sum) else some (false, 0, 0, 0) else some (false, 0, 0, 0)
theorem impl_DecodeCommit.mono : ∀ a0 k, LeO (impl_DecodeCommit.f k a0) (impl_DecodeCommit.f (k + 1) a0) := by
  intro a0 k
  unfold impl_DecodeCommit.f
  repeat' first
      | (with_reducible exact impl_EncodeCommit.mono _ _ _ _)
      | (with_reducible exact impl_num.mono _ _ _ _)
      | (with_reducible exact LeO.refl _)
      | (with_reducible refine LeO.ite ?_ ?_)
      | (with_reducible refine LeO.bind ?_ (fun _ => ?_))
      | exact impl_EncodeCommit.mono _ _ _ _
      | exact impl_num.mono _ _ _ _
      | exact LeO.none _
theorem impl_DecodeCommit.calls (k : Nat) (A0 : Option Addr) (c0 : Nat) (l0 : List Int) (r1 : Bool) (r2 : Int) (r3 : Int) (r4 : Int) (w : World) (hr0 : Kd.C (Kd.int .u8) w A0 l0.length l0) (hc0 : l0.length ≤ c0) (h : impl_DecodeCommit.f k l0 = some (r1, r2, r3, r4)) (s : Addr) (hG : Glob s w) :
    Calls Tryd.prog 8 #[.slice A0 l0.length c0] w fun e w' => e = .returned (.agg #[.bool r1, .int .i64 r2, .int .i64 r3, .int .i64 r4]) ∧ Below w.heap.size w w' := by
  obtain ⟨b, hb, h⟩ := Option.bind_eq_some_iff.mp h
  by_cases h4 : b = 4
  · rw [if_pos h4] at h
    subst h4
    obtain ⟨count, h1, h⟩ := Option.bind_eq_some_iff.mp h
    obtain ⟨seq, h2, h⟩ := Option.bind_eq_some_iff.mp h
    obtain ⟨sum, h3, h⟩ := Option.bind_eq_some_iff.mp h
    obtain ⟨x, hx, h⟩ := Option.bind_eq_some_iff.mp h
    obtain ⟨q, hq, h⟩ := Option.bind_eq_some_iff.mp h
    cases q with
    | true =>
      rw [if_pos rfl] at h
      simp only [Option.some.injEq, Prod.mk.injEq] at h
      obtain ⟨rfl, rfl, rfl, rfl⟩ := h
      exact dc_ok k s A0 c0 l0 x _ _ _ w hr0 hc0 hG hb h1 h2 h3 hx hq
    | false =>
      rw [if_neg (by decide)] at h
      simp only [Option.some.injEq, Prod.mk.injEq] at h
      obtain ⟨rfl, rfl, rfl, rfl⟩ := h
      exact dc_ne k s A0 c0 l0 x _ _ _ w hr0 hc0 hG hb h1 h2 h3 hx hq
  · rw [if_neg h4] at h
    simp only [Option.some.injEq, Prod.mk.injEq] at h
    obtain ⟨rfl, rfl, rfl, rfl⟩ := h
    exact dc_bad s A0 c0 l0 b w hr0 hc0 hG hb h4
end PE
end Go.Proofs.YticeddapnafomaaDoor
