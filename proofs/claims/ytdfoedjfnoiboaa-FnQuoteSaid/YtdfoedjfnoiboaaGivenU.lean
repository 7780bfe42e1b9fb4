/- spec.DrawUnquote at this translation: its contract in the print's own shape. -/
import Derived.Test.YtdfoedjfnoiboaaTurn
import Derived.Test.YtdfoedjfnoiboaaGivenA
import Derived.LoopTactic
set_option linter.unusedVariables false
namespace Go.Proofs.Ytdfoedjfnoiboaa
open Go.RowKit Go.Proofs.YtdfoedjfnoiboaaW.PrintWords Go.Proofs.YtdfoedjfnoiboaaW.PrintLast Go.Proofs.YtdfoedjfnoiboaaW.PrintMore Go.Proofs.Ytdfoedjfnoiboaa.PA
theorem mk_conv (w0 w : World) (q : ByteArray) (hB : Below w0.heap.size w0 w) (hq : q.size < 1000000) : Mk w0 (Lib.bytesWorld w 5 q) w.heap.size (grownCap w q.size 0 5) (bytesOf q) ∧ Below w0.heap.size w0 (Lib.bytesWorld w 5 q) ∧ Below w.heap.size w (Lib.bytesWorld w 5 q) := by
  have hge := grownCap_ge w q.size 0 5
  have hcm := grownCap_le_maxLen w q.size 0 5 (by unfold maxLen; omega)
  have hsz : (Lib.bytesCells w 5 q).size = grownCap w q.size 0 5 := by
    have : q.data.size = q.size := rfl
    simp [Lib.bytesCells]; omega
  have hbw : Below w.heap.size w (Lib.bytesWorld w 5 q) := ⟨rfl, rfl, rfl, by rw [Lib.bytesWorld_size]; omega, fun j hj => Lib.bytesWorld_at_old w 5 q j hj⟩
  refine ⟨⟨hB.size, by rw [bytesOf_length]; exact hge, hcm, Lib.bytesCells w 5 q, grownCap w q.size 0 5 + 1, by rw [Lib.bytesWorld_at_new, hsz], hsz, ?_⟩, below_then hB hB.size hbw, hbw⟩
  intro i hi
  rw [bytesOf_length] at hi
  have := Lib.bytesWorld_cell w 5 q i hi
  simp only [World.cell?, Lib.bytesWorld_at_new] at this
  simp at this
  rw [this]
  congr 2
  unfold rd bytesOf
  rw [Int.toNat_natCast]
  have hd : i < q.data.toList.length := by rw [data_length]; exact hi
  have he : q.data[i]? = some q.data.toList[i] := by rw [← Array.getElem?_toList, List.getElem?_eq_getElem hd]
  rw [he]
  simp only [List.getD_eq_getElem?_getD, List.getElem?_map, List.getElem?_eq_getElem hd]
  rfl
theorem turn_q (k g : Nat) (s : List Int) (p z : Int) (q : ByteArray) (hq : q.size < 1000000) (t : List Int) (r2 r3 : Int) (w0 w : World) (hI : IsS51 w0 w g s p z) (hB : Below w0.heap.size w0 w) (h : spec_l3Turn.f k s p z (bytesOf q) = some (t, r2, r3)) :
    Calls Try.prog 24 #[.pointer (some ⟨g, 0, none⟩), .slice (some ⟨w.heap.size, 0, none⟩) q.size (grownCap w q.size 0 5)] (Lib.bytesWorld w 5 q) fun e w' => ∃ A c, e = .returned (.slice A t.length c) ∧ t.length ≤ c ∧ Kd.C (Kd.int .u8) w' A t.length t ∧ IsS51 w0 w' g s r2 r3 ∧ Below w0.heap.size w0 w' := by
  obtain ⟨hM, hB2, hb3⟩ := mk_conv w0 w q hB hq
  have := turn_any k g s p z w.heap.size (grownCap w q.size 0 5) (bytesOf q) t r2 r3 w0 (Lib.bytesWorld w 5 q) (hI.below hb3) hB2 hM (by rw [bytesOf_length]; exact hq) h
  rw [bytesOf_length] at this
  exact this
namespace PA
def xsOf (n : Nat) : ByteArray := strOfNums (List.replicate n 120)
def drawUnq (k : Nat) (l0 : List Int) : Option ByteArray :=
  (spec_l1Source.f l0).bind fun s => (spec_l1Next.f s.1 s.2.1 s.2.2 12).bind fun n => (spec_l1DrawBytes.f k s.1 n.2.1 n.2.2 n.1).bind fun d => (spec_Quote.f (strOfNums d.1)).bind fun q => (spec_l1Chance.f s.1 d.2.1 d.2.2 40).bind fun c =>
    if c.1 = true then (spec_l1Next.f s.1 c.2.1 c.2.2 2).bind fun m => if 0 ≤ m.1 ∧ m.1 ≤ 10 then some (xsOf (65536 + m.1.toNat)) else none
    else (spec_l1Chance.f s.1 c.2.1 c.2.2 2).bind fun b => if b.1 = true then (if q.size < 1000000 then (spec_l3Turn.f k s.1 b.2.1 b.2.2 (bytesOf q)).bind fun t => some (strOfNums t.1) else none) else some q
end PA
set_option maxHeartbeats 1000000 in
set_option maxRecDepth 100000 in
theorem unq_plain (k : Nat) (A0 : Option Addr) (c0 : Nat) (l0 : List Int) (w : World) (hr0 : Kd.C (Kd.int .u8) w A0 l0.length l0) (hc0 : l0.length ≤ c0) (s : List Int) (p1 z1 n p2 z2 : Int) (d : List Int) (p3 z3 : Int) (q : ByteArray) (A1 : Hid (spec_l1Source.f l0 = some (s, p1, z1))) (A2 : Hid (spec_l1Next.f s p1 z1 12 = some (n, p2, z2))) (A3 : Hid (spec_l1DrawBytes.f k s p2 z2 n = some (d, p3, z3))) (A4 : Hid (spec_Quote.f (strOfNums d) = some q)) (p4 z4 p5 z5 : Int) (A5 : Hid (spec_l1Chance.f s p3 z3 40 = some (false, p4, z4))) (A6 : Hid (spec_l1Chance.f s p4 z4 2 = some (false, p5, z5))) :
    Calls Try.prog 12 #[.slice A0 l0.length c0] w fun e w' => e = .returned (.string q) ∧ Below w.heap.size w w' := by
  have HB := Lib.hid (Below.refl w.heap.size w)
  go_enter Try.func12, Try.ntmps12
  go_wp2_with (first | (go_at_call 20; go_loud (refine (spec_l1Source.calls _ _ l0 _ _ _ w _ HB.out hr0 hc0 A1.out).mono ?_; rintro e w1 ⟨g, rfl, hi, hb, hb2⟩; have HI := Lib.hid hi; replace HB := Lib.hid hb; clear hi hb hb2)) | (go_at_call 21; refine (spec_l1Next.calls g _ _ _ 12 _ _ _ w _ HI.out HB.out A2.out).mono ?_; rintro e w1 ⟨rfl, hi, hb, hk⟩; replace HI := Lib.hid hi; replace HB := Lib.hid hb; clear hi hb hk) | (go_at_call 22; go_loud (refine (spec_l1DrawBytes.calls k g _ _ _ _ _ _ _ w _ HI.out HB.out A3.out).mono ?_; rintro e w1 ⟨v0, rfl, ho, hi, hb, hk⟩; replace HI := Lib.hid hi; replace HB := Lib.hid hb; obtain ⟨ad5, c5, rfl, hc5, hC5⟩ := Kd.R_reads ho; have hcv := Kd.C_string (P := Try.prog) (src := 28) (dst := 9) (c := c5) Try.underlying28 Try.underlying5 Try.underlying9 hC5; clear hi hb hk ho hC5)) | (go_at_call 6; go_loud (refine (spec_Quote.calls _ _ _ A4.out).mono ?_; rintro e w1 ⟨rfl, hb⟩; have HI2 := Lib.hid (HI.out.below hb); have HB2 := Lib.hid (below_then HB.out HB.out.size hb); clear HI HB; have HI := HI2; have HB := HB2; clear HI2 HB2 hb)) | (go_at_call 23; refine (spec_l1Chance.calls g _ _ _ 40 _ _ _ w _ HI.out HB.out A5.out).mono ?_; rintro e w1 ⟨rfl, hi, hb, hk⟩; replace HI := Lib.hid hi; replace HB := Lib.hid hb; clear hi hb hk) | (go_at_call 23; refine (spec_l1Chance.calls g _ _ _ 2 _ _ _ w _ HI.out HB.out A6.out).mono ?_; rintro e w1 ⟨rfl, hi, hb, hk⟩; replace HI := Lib.hid hi; replace HB := Lib.hid hb; clear hi hb hk))
  go_ret
  exact ⟨rfl, HB.out⟩
set_option maxHeartbeats 1000000 in
set_option maxRecDepth 100000 in
theorem unq_turn (k : Nat) (A0 : Option Addr) (c0 : Nat) (l0 : List Int) (w : World) (hr0 : Kd.C (Kd.int .u8) w A0 l0.length l0) (hc0 : l0.length ≤ c0) (s : List Int) (p1 z1 n p2 z2 : Int) (d : List Int) (p3 z3 : Int) (q : ByteArray) (A1 : Hid (spec_l1Source.f l0 = some (s, p1, z1))) (A2 : Hid (spec_l1Next.f s p1 z1 12 = some (n, p2, z2))) (A3 : Hid (spec_l1DrawBytes.f k s p2 z2 n = some (d, p3, z3))) (A4 : Hid (spec_Quote.f (strOfNums d) = some q)) (p4 z4 p5 z5 : Int) (t : List Int) (p6 z6 : Int) (A5 : Hid (spec_l1Chance.f s p3 z3 40 = some (false, p4, z4))) (A6 : Hid (spec_l1Chance.f s p4 z4 2 = some (true, p5, z5))) (hq : q.size < 1000000) (A7 : Hid (spec_l3Turn.f k s p5 z5 (bytesOf q) = some (t, p6, z6))) :
    Calls Try.prog 12 #[.slice A0 l0.length c0] w fun e w' => e = .returned (.string (strOfNums t)) ∧ Below w.heap.size w w' := by
  have HB := Lib.hid (Below.refl w.heap.size w)
  go_enter Try.func12, Try.ntmps12
  go_wp2_with (first | (go_at_call 20; go_loud (refine (spec_l1Source.calls _ _ l0 _ _ _ w _ HB.out hr0 hc0 A1.out).mono ?_; rintro e w1 ⟨g, rfl, hi, hb, hb2⟩; have HI := Lib.hid hi; replace HB := Lib.hid hb; clear hi hb hb2)) | (go_at_call 21; refine (spec_l1Next.calls g _ _ _ 12 _ _ _ w _ HI.out HB.out A2.out).mono ?_; rintro e w1 ⟨rfl, hi, hb, hk⟩; replace HI := Lib.hid hi; replace HB := Lib.hid hb; clear hi hb hk) | (go_at_call 22; go_loud (refine (spec_l1DrawBytes.calls k g _ _ _ _ _ _ _ w _ HI.out HB.out A3.out).mono ?_; rintro e w1 ⟨v0, rfl, ho, hi, hb, hk⟩; replace HI := Lib.hid hi; replace HB := Lib.hid hb; obtain ⟨ad5, c5, rfl, hc5, hC5⟩ := Kd.R_reads ho; have hcv := Kd.C_string (P := Try.prog) (src := 28) (dst := 9) (c := c5) Try.underlying28 Try.underlying5 Try.underlying9 hC5; clear hi hb hk ho hC5)) | (go_at_call 6; go_loud (refine (spec_Quote.calls _ _ _ A4.out).mono ?_; rintro e w1 ⟨rfl, hb⟩; have HI2 := Lib.hid (HI.out.below hb); have HB2 := Lib.hid (below_then HB.out HB.out.size hb); clear HI HB; have HI := HI2; have HB := HB2; clear HI2 HB2 hb)) | (go_at_call 23; refine (spec_l1Chance.calls g _ _ _ 40 _ _ _ w _ HI.out HB.out A5.out).mono ?_; rintro e w1 ⟨rfl, hi, hb, hk⟩; replace HI := Lib.hid hi; replace HB := Lib.hid hb; clear hi hb hk) | (go_at_call 23; refine (spec_l1Chance.calls g _ _ _ 2 _ _ _ w _ HI.out HB.out A6.out).mono ?_; rintro e w2 ⟨rfl, hi, hb, hk⟩; replace HI := Lib.hid hi; replace HB := Lib.hid hb; have hcq := Lib.run_convert_string_bytes (P := Try.prog) w2 9 28 5 q Try.underlying9 Try.underlying28 Try.underlying5; clear hi hb hk) | (go_at_call 24; (with_reducible refine (turn_q k g _ _ _ q hq t _ _ w w2 HI.out HB.out A7.out).mono ?_); rintro e w1 ⟨ad6, c6, rfl, hc6, hC6, hi, hb⟩; replace HB := Lib.hid hb; have hcv2 := Kd.C_string (P := Try.prog) (src := 28) (dst := 9) (c := c6) Try.underlying28 Try.underlying5 Try.underlying9 hC6; clear hi hb hC6))
  go_ret
  exact ⟨rfl, HB.out⟩
set_option maxHeartbeats 1000000 in
set_option maxRecDepth 100000 in
theorem unq_long (k : Nat) (A0 : Option Addr) (c0 : Nat) (l0 : List Int) (w : World) (hr0 : Kd.C (Kd.int .u8) w A0 l0.length l0) (hc0 : l0.length ≤ c0) (s : List Int) (p1 z1 n p2 z2 : Int) (d : List Int) (p3 z3 : Int) (q : ByteArray) (A1 : Hid (spec_l1Source.f l0 = some (s, p1, z1))) (A2 : Hid (spec_l1Next.f s p1 z1 12 = some (n, p2, z2))) (A3 : Hid (spec_l1DrawBytes.f k s p2 z2 n = some (d, p3, z3))) (A4 : Hid (spec_Quote.f (strOfNums d) = some q)) (p4 z4 : Int) (m : Nat) (p5 z5 : Int) (A5 : Hid (spec_l1Chance.f s p3 z3 40 = some (true, p4, z4))) (A6 : Hid (spec_l1Next.f s p4 z4 2 = some ((m : Int), p5, z5))) (hm : m ≤ 10) :
    Calls Try.prog 12 #[.slice A0 l0.length c0] w fun e w' => e = .returned (.string (xsOf (65536 + m))) ∧ Below w.heap.size w w' := by
  have HB := Lib.hid (Below.refl w.heap.size w)
  obtain ⟨i0, hi0, hz0, hz1, hz2⟩ := info_parts Try.byteInfoT
  go_enter Try.func12, Try.ntmps12
  go_wp2_with (first | (go_at_call 20; go_loud (refine (spec_l1Source.calls _ _ l0 _ _ _ w _ HB.out hr0 hc0 A1.out).mono ?_; rintro e w1 ⟨g, rfl, hi, hb, hb2⟩; have HI := Lib.hid hi; replace HB := Lib.hid hb; clear hi hb hb2)) | (go_at_call 21; refine (spec_l1Next.calls g _ _ _ 12 _ _ _ w _ HI.out HB.out A2.out).mono ?_; rintro e w1 ⟨rfl, hi, hb, hk⟩; replace HI := Lib.hid hi; replace HB := Lib.hid hb; clear hi hb hk) | (go_at_call 22; go_loud (refine (spec_l1DrawBytes.calls k g _ _ _ _ _ _ _ w _ HI.out HB.out A3.out).mono ?_; rintro e w1 ⟨v0, rfl, ho, hi, hb, hk⟩; replace HI := Lib.hid hi; replace HB := Lib.hid hb; obtain ⟨ad5, c5, rfl, hc5, hC5⟩ := Kd.R_reads ho; have hcv := Kd.C_string (P := Try.prog) (src := 28) (dst := 9) (c := c5) Try.underlying28 Try.underlying5 Try.underlying9 hC5; clear hi hb hk ho hC5)) | (go_at_call 6; go_loud (refine (spec_Quote.calls _ _ _ A4.out).mono ?_; rintro e w1 ⟨rfl, hb⟩; have HI2 := Lib.hid (HI.out.below hb); have HB2 := Lib.hid (below_then HB.out HB.out.size hb); clear HI HB; have HI := HI2; have HB := HB2; clear HI2 HB2 hb)) | (go_at_call 23; refine (spec_l1Chance.calls g _ _ _ 40 _ _ _ w _ HI.out HB.out A5.out).mono ?_; rintro e w1 ⟨rfl, hi, hb, hk⟩; replace HI := Lib.hid hi; replace HB := Lib.hid hb; clear hi hb hk) | (go_at_call 21; refine (spec_l1Next.calls g _ _ _ 2 _ _ _ w _ (IsS51.alloc HI.out _) (below_alloc HB.out _) A6.out).mono ?_; rintro e w2 ⟨rfl, hi, hb, hk⟩; have hown0 : w2.ownsRow w.heap.size 5 1 (.slice (some ⟨w1.heap.size, 0, none⟩) 0 0) 0 [] := hk.own (World.ownsRow_made w1 #[] 0 HB.out.size (by unfold maxLen; omega) rfl) (by have := HI.out.lt; simp [Value.ownBlock]; omega) (by simp [Value.ownBlock]); replace HB := Lib.hid hb; clear hi hb hk))
  go_loopw [5, 6] (fun v i wr => ∃ k : Nat, k ≤ 65536 + m ∧ i = .int .i64 ((65536 + m - k : Nat) : Int) ∧ wr.ownsRow w.heap.size 5 1 v k (nums .u8 (List.replicate k 120)) ∧ Below w.heap.size w wr) (fun _ i _ => (intOf i).toNat)
  case atStart =>
    refine ⟨0, by omega, by go_num, ?_, HB.out⟩
    exact hown0
  case round =>
    obtain ⟨k, hk, rfl, hown, hbw⟩ := hrel
    have hsz := hbw.size
    by_cases hlt : k < 65536 + m
    · go_wp2_with (first | (at_builtin; refine wpList_append_own _ rfl _ _ 28 rfl w.heap.size 5 i0 (.int .u8 0) 1 1 Try.underlying28 hi0 hz0 hz1 hz2 rfl (by decide) _ _ _ rfl (hown.alloc _) ⟨wr.heap.size, 0, none⟩ 1 1 [.int .u8 120] rfl rfl ?c1 ?c2 ?c3 ?c4 ?c5 ?hK))
      case c1 => exact cell_one_new _ _ _
      case c2 => intro u hu; simp at hu; subst hu; rfl
      case c3 => unfold maxLen; omega
      case c4 => omega
      case c5 => simp; omega
      intro v' w1' hown' hgrow _
      go_wp2
      go_roundw
      case rel => exact ⟨k + 1, by omega, by go_num, by rw [List.replicate_succ', nums_append]; simpa [nums] using hown', ((hbw.alloc hsz _).grown hgrow (by simp; omega) (fun j hj => (hown.lt j hj).1))⟩
      case measure => simp [intOf]; omega
    · obtain rfl : k = 65536 + m := by omega
      have hcv3 := own_string (P := Try.prog) (src := 28) (dst := 9) Try.underlying28 Try.underlying5 Try.underlying9 hown
      go_wp2
      go_ret
      exact ⟨rfl, hbw⟩
namespace PA
def spec_DrawUnquote.f (l0 : List Int) : Option ByteArray := drawUnq 1000000 l0
theorem drawUnq_calls (k : Nat) (A0 : Option Addr) (c0 : Nat) (l0 : List Int) (r : ByteArray) (w : World) (hr0 : Kd.C (Kd.int .u8) w A0 l0.length l0) (hc0 : l0.length ≤ c0) (h : drawUnq k l0 = some r) :
    Calls Try.prog 12 #[.slice A0 l0.length c0] w fun e w' => e = .returned (.string r) ∧ Below w.heap.size w w' := by
  unfold drawUnq at h
  obtain ⟨⟨s, p1, z1⟩, A1, h⟩ := Option.bind_eq_some_iff.mp h
  obtain ⟨⟨n, p2, z2⟩, A2, h⟩ := Option.bind_eq_some_iff.mp h
  obtain ⟨⟨d, p3, z3⟩, A3, h⟩ := Option.bind_eq_some_iff.mp h
  obtain ⟨q, A4, h⟩ := Option.bind_eq_some_iff.mp h
  obtain ⟨⟨c, p4, z4⟩, A5, h⟩ := Option.bind_eq_some_iff.mp h
  simp only at A2 A3 A4 A5 h
  cases c with
  | true =>
    rw [if_pos rfl] at h
    obtain ⟨⟨m, p5, z5⟩, A6, h⟩ := Option.bind_eq_some_iff.mp h
    simp only at h
    by_cases hm : 0 ≤ m ∧ m ≤ 10
    · rw [if_pos hm] at h
      obtain rfl := Option.some.inj h
      obtain ⟨x, rfl⟩ := Int.eq_ofNat_of_zero_le hm.1
      have := unq_long k A0 c0 l0 w hr0 hc0 s p1 z1 n p2 z2 d p3 z3 q (Lib.hid A1) (Lib.hid A2) (Lib.hid A3) (Lib.hid A4) p4 z4 x p5 z5 (Lib.hid A5) (Lib.hid A6) (by omega)
      rw [Int.toNat_natCast]
      exact this
    · rw [if_neg hm] at h; cases h
  | false =>
    rw [if_neg (by simp)] at h
    obtain ⟨⟨b, p5, z5⟩, A6, h⟩ := Option.bind_eq_some_iff.mp h
    simp only at h
    cases b with
    | true =>
      rw [if_pos rfl] at h
      by_cases hq : q.size < 1000000
      · rw [if_pos hq] at h
        obtain ⟨⟨t, p6, z6⟩, A7, h⟩ := Option.bind_eq_some_iff.mp h
        obtain rfl := Option.some.inj h
        exact unq_turn k A0 c0 l0 w hr0 hc0 s p1 z1 n p2 z2 d p3 z3 q (Lib.hid A1) (Lib.hid A2) (Lib.hid A3) (Lib.hid A4) p4 z4 p5 z5 t p6 z6 (Lib.hid A5) (Lib.hid A6) hq (Lib.hid A7)
      · rw [if_neg hq] at h; cases h
    | false =>
      rw [if_neg (by simp)] at h
      obtain rfl := Option.some.inj h
      exact unq_plain k A0 c0 l0 w hr0 hc0 s p1 z1 n p2 z2 d p3 z3 q (Lib.hid A1) (Lib.hid A2) (Lib.hid A3) (Lib.hid A4) p4 z4 p5 z5 (Lib.hid A5) (Lib.hid A6)
theorem spec_DrawUnquote.calls (A0 : Option Addr) (c0 : Nat) (l0 : List Int) (r : ByteArray) (w : World) (hr0 : Kd.C (Kd.int .u8) w A0 l0.length l0) (hc0 : l0.length ≤ c0) (h : spec_DrawUnquote.f l0 = some r) :
    Calls Try.prog 12 #[.slice A0 l0.length c0] w fun e w' => e = .returned (.string r) ∧ Below w.heap.size w w' := drawUnq_calls 1000000 A0 c0 l0 r w hr0 hc0 h
end PA
end Go.Proofs.Ytdfoedjfnoiboaa
