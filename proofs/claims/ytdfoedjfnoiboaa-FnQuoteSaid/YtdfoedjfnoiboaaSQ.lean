/- spec.Quote at this translation: it returns 'quoteF'. -/
import Derived.Test.YtdfoedjfnoiboaaProg
import Derived.Test.YtdfoedjfnoiboaaPlain
import Derived.Test.YtdfoedjfnoiboaaWWords
import Derived.LoopTactic
import Derived.WalkSpells
import Derived.OwnWalk
import Derived.Lib.Hide
import Derived.Lib.Strings
import Derived.Lib.UnsafeStr
import Derived.Lib.AppendStr
import Derived.Deep.AppendLies
import Derived.Deep.RegionLaw
import Derived.Maps.AppendAt
import Derived.Lib.ConvBytes
import Derived.Laws.BytesArg
import Derived.Outline
set_option linter.unusedVariables false
namespace Go.Proofs.Ytdfoedjfnoiboaa
open Go.RowKit
/-- append(row, s...) of a string, as one step of a region that draws. -/
theorem step_append_string {P : Program} {w : World} {ops : Array Oper} {o : Oper} {a : Act} {K : Act → World → Prop} {Q : Exit → Act → World → Prop} {E : Prop} (hgd : o.guard = none) (sl x : Operand) (t u : TypeId)
    (ho : o.op = .call { callee := .builtin .append, args := #[sl, x], argTypes := #[t, u] })
    (base : Nat) (e : TypeId) (i : TypeInfo) (ht : P.underlying t = some (.slice e)) (hu : P.underlying u = some .string) (hi : P.info? e = some i) (hz : i.zero = some (.int .u8 0))
    (hsize : i.size = 1) (hby : i.bytes = 1)
    (v : Value) (n : Nat) (xs : List Value) (hs : a.eval sl = v) (hown : w.ownsRow base e 1 v n xs) (s : ByteArray) (hx : a.eval x = .string s)
    (h63 : n + s.size ≤ maxLen) (hbytes : n + s.size ≤ 140737488355328) (hbase : base ≤ w.heap.size)
    (h : ∀ v' w', w'.ownsRow base e 1 v' (n + s.size) (xs ++ Lib.strCells s) → w.grownBy w' v.ownBlock → K (a.put o.dst v') w') :
    if Region.wanted o (yielded ops a.tmps) = true then Oper.wp P o a w K Q else E := by
  have hw : Region.wanted o (yielded ops a.tmps) = true := by simp [Region.wanted, hgd]
  rw [if_pos hw]
  obtain ⟨v', w', hr, h2, h3, h4⟩ := Lib.run_append_own_string (P := P) w base t u o.type e i ht hu hi hz hsize hby v n xs hown s h63 hbytes hbase
  unfold Oper.wp execOp
  simp only [ho, resolve, invoke, builtin, Sem.run_bind, Sem.run_pure, Result.andThen_ok, List.map_toArray, List.map_cons, List.map_nil, hs, hx, hr]
  exact h v' w' h2 h3
theorem Try.byteInfo : (Try.prog.info? 5).map (fun i => (i.zero, i.size, i.bytes)) = some (some (.int .u8 0), 1, 1) := by kernel_rfl
theorem splain_yes (c : Int) (w : World) (h : 33 ≤ c) (h2 : c ≤ 126) (h3 : c ≠ 37) : Calls Try.prog 13 #[.int .u8 c] w fun e w' => e = .returned (.bool true) ∧ w = w' := by
  have h4 : (c != 37) = true := by simpa using h3
  go_enter Try.func13, Try.ntmps13
  go_wp2
  go_ret
  exact ⟨by first | rfl | (simp; done) | (simp; omega), rfl⟩
theorem splain_no (c : Int) (w : World) (h : c < 33 ∨ 126 < c ∨ c = 37) : Calls Try.prog 13 #[.int .u8 c] w fun e w' => e = .returned (.bool false) ∧ w = w' := by
  rcases h with h | h | rfl
  · go_enter Try.func13, Try.ntmps13
    go_wp2
    go_ret
    exact ⟨by first | rfl | (simp; done) | (simp; omega), rfl⟩
  · have h3 : 33 ≤ c := by omega
    go_enter Try.func13, Try.ntmps13
    go_wp2
    go_ret
    exact ⟨by first | rfl | (simp; done) | (simp; omega), rfl⟩
  · go_enter Try.func13, Try.ntmps13
    go_wp2
    go_ret
    exact ⟨by first | rfl | (simp; done) | (simp; omega), rfl⟩
theorem hex_any (n : Nat) (w : World) (h : n < 16) : Calls Try.prog 14 #[.int .u8 n] w fun e w' => e = .returned (.string ⟨#[hexD n]⟩) ∧ w = w' := by
  match n, h with
  | 0, _ | 1, _ | 2, _ | 3, _ | 4, _ | 5, _ | 6, _ | 7, _ | 8, _ | 9, _ | 10, _ | 11, _ | 12, _ | 13, _ | 14, _ | 15, _ =>
    go_enter Try.func14, Try.ntmps14
    go_wp2
    go_ret
    exact ⟨by first | rfl | decide, rfl⟩
  | n + 16, h => exact absurd h (by omega)

theorem nums_bytes (l : List UInt8) : Lib.byteCells l = Go.Proofs.YtdfoedjfnoiboaaW.PrintWords.nums .u8 (l.map fun c => (c.toNat : Int)) := by
  simp [Lib.byteCells, Go.Proofs.YtdfoedjfnoiboaaW.PrintWords.nums]
theorem str_bytes (l : List UInt8) : strOfNums (l.map fun c => (c.toNat : Int)) = ⟨l.toArray⟩ := by
  unfold strOfNums
  congr 2
  rw [List.map_map]
  conv => rhs; rw [← List.map_id l]
  apply List.map_congr_left
  intro c _
  simp
theorem sz3 (b c d : UInt8) : ((⟨#[b]⟩ : ByteArray) ++ ⟨#[c]⟩ ++ ⟨#[d]⟩).size = 3 := by simp only [ByteArray.size_append]; rfl
theorem cells3 (b c d : UInt8) : Lib.strCells ((⟨#[b]⟩ : ByteArray) ++ ⟨#[c]⟩ ++ ⟨#[d]⟩) = Lib.byteCells [b, c, d] := by
  simp [Lib.strCells, Lib.byteCells]
set_option maxHeartbeats 2000000 in
set_option maxRecDepth 100000 in
theorem squote_loop (a0 : ByteArray) (w : World) (h : a0.size ≤ 65536) :
    Calls Try.prog 6 #[.string a0] w fun e w' => e = .returned (.string (quoteF a0)) ∧ Below w.heap.size w w' := by
  have hd : decide ((65536 : Int) < (a0.size : Int)) = false := by simp; omega
  obtain ⟨i0, hi, hz0, hz1, hz2⟩ := info_parts Try.byteInfo
  go_enter Try.func6, Try.ntmps6
  go_wp2
  go_loopw [3, 4] (fun v i wr => ∃ k : Nat, k ≤ a0.size ∧ i = .int .i64 k ∧ wr.ownsRow w.heap.size 5 1 v (quoteL (a0.data.toList.take k)).length (Lib.byteCells (quoteL (a0.data.toList.take k))) ∧ Below w.heap.size w wr) (fun _ i _ => a0.size - (intOf i).toNat)
  case atStart =>
    refine ⟨0, Nat.zero_le _, rfl, ?_, ?_⟩
    · simpa [quoteL, Lib.byteCells] using World.ownsRow_made w #[] 0 (Nat.le_refl _) (by unfold maxLen; omega) rfl
    · exact (Below.refl _ _).alloc (Nat.le_refl _) _
  case round =>
    obtain ⟨k, hk, rfl, hown, hbw⟩ := hrel
    have hsz := hbw.size
    by_cases hlt : k < a0.size
    · have hql := quoteL_len (a0.data.toList.take k)
      have hl : (a0.data.toList.take k).length ≤ k := List.length_take_le _ _
      have hq : Hid (quoteL (a0.data.toList.take (k + 1)) = quoteL (a0.data.toList.take k) ++ qB a0[k]) := by rw [take_snoc a0 k hlt]; exact quoteL_snoc _ _
      have hu2 : (a0[k].toNat : Int) ≤ 255 := by have := a0[k].toNat_lt; omega
      by_cases hc : 33 ≤ (a0[k].toNat : Int) ∧ (a0[k].toNat : Int) ≤ 126 ∧ ¬ (a0[k].toNat : Int) = 37
      · obtain ⟨hc1, hc2, hc3⟩ := hc
        have hqb : Hid (qB a0[k] = [a0[k]]) := by unfold Hid qB; rw [if_pos (by omega)]
        go_wp2_with (first | (go_at_call 13; refine (splain_yes _ _ hc1 hc2 hc3).mono ?_; rintro e w' ⟨rfl, rfl⟩) | (at_builtin; refine wpList_append_own _ rfl _ _ 28 rfl w.heap.size 5 i0 (.int .u8 0) 1 1 Try.underlying28 hi hz0 hz1 hz2 rfl (by decide) _ _ _ rfl (hown.alloc _) ⟨wr.heap.size, 0, none⟩ 1 1 [.int .u8 (a0[k].toNat : Int)] rfl rfl ?c1 ?c2 ?c3 ?c4 ?c5 ?_))
        case c1 => exact cell_one_new _ _ _
        case c2 => intro u hu; simp at hu; subst hu; rfl
        case c3 => unfold maxLen; omega
        case c4 => omega
        case c5 => simp; omega
        intro v' w1 hown' hgrow _
        go_wp2
        go_roundw
        case rel =>
          refine ⟨k + 1, by omega, by go_num, by rw [hq.out, hqb.out]; simpa [Lib.byteCells] using hown', ((hbw.alloc hsz _).grown hgrow (by simp; omega) (fun j hj => (hown.lt j hj).1))⟩
        case measure => simp [intOf]; omega
      · have hc' : (a0[k].toNat : Int) < 33 ∨ 126 < (a0[k].toNat : Int) ∨ (a0[k].toNat : Int) = 37 := by omega
        have HC := Lib.hid hc'
        have hqb : Hid (qB a0[k] = [37, hexD (a0[k].toNat / 16), hexD (a0[k].toNat % 16)]) := by unfold Hid qB; rw [if_neg (by omega)]
        have hh1 : a0[k].toNat / 16 < 16 := by omega
        have hh2 : a0[k].toNat % 16 < 16 := by omega
        clear hc hc'
        go_wp2_with (first | (go_at_call 13; refine (splain_no _ _ HC.out).mono ?_; rintro e w' ⟨rfl, rfl⟩))
        have H1 : ∀ W : World, Calls Try.prog 14 #[.int .u8 (IntKind.u8.wrap ((a0[k].toNat : Int) / 16))] W fun e w' => e = .returned (.string ⟨#[hexD (a0[k].toNat / 16)]⟩) ∧ W = w' := fun W => by
          have e : IntKind.u8.wrap ((a0[k].toNat : Int) / 16) = ((a0[k].toNat / 16 : Nat) : Int) := by rw [IntKind.wrap_u8]; omega
          rw [e]; exact hex_any _ _ hh1
        have H2 : ∀ W : World, Calls Try.prog 14 #[.int .u8 (Int.tmod (a0[k].toNat : Int) 16)] W fun e w' => e = .returned (.string ⟨#[hexD (a0[k].toNat % 16)]⟩) ∧ W = w' := fun W => by
          have e : Int.tmod (a0[k].toNat : Int) 16 = ((a0[k].toNat % 16 : Nat) : Int) := by rw [Int.tmod_eq_emod_of_nonneg (by omega)]; omega
          rw [e]; exact hex_any _ _ hh2
        have hown1 : wr.drew.ownsRow w.heap.size 5 1 _ (quoteL (a0.data.toList.take k)).length (Lib.byteCells (quoteL (a0.data.toList.take k))) := hown
        go_region_law (first | (go_simp; go_at_call 14; (with_reducible refine (H1 _).mono ?_); rintro e w' ⟨rfl, rfl⟩) | (go_simp; go_at_call 14; (with_reducible refine (H2 _).mono ?_); rintro e w' ⟨rfl, rfl⟩) | (refine step_append_string rfl _ _ 28 9 rfl w.heap.size 5 i0 Try.underlying28 Try.underlying9 hi hz0 hz1 hz2 _ _ _ rfl hown1 _ rfl ?_ ?_ ?_ ?_; (rw [sz3]; unfold maxLen; omega); (rw [sz3]; omega); (simpa using hsz); intro v' w1 hown' hgrow))
        all_goals
          rw [sz3, cells3] at hown'
          go_wp2
          go_roundw
          case rel => exact ⟨k + 1, by omega, by go_num, by rw [hq.out, hqb.out]; simpa [Lib.byteCells] using hown', ((hbw.drew).grown hgrow (by simpa using hsz) (fun j hj => (hown.lt j hj).1))⟩
          case measure => simp [intOf]; omega
    · obtain rfl : k = a0.size := by omega
      by_cases h0 : a0.size = 0
      · obtain rfl : a0 = ByteArray.empty := by simpa using h0
        go_wp2
        go_ret
        exact ⟨by unfold quoteF; simp, hbw⟩
      · have h0' : ((a0.size : Int) == 0) = false := by simpa using h0
        rw [take_all a0 _ (Nat.le_refl _)] at hown
        have hcv : Hid (∀ v, wr.ownsRow w.heap.size 5 1 v (quoteL a0.data.toList).length (Lib.byteCells (quoteL a0.data.toList)) → (convert 28 9 v).run Try.prog wr = .ok (.string ⟨(quoteL a0.data.toList).toArray⟩) wr) := fun v h => by
          rw [nums_bytes] at h
          rw [Go.Proofs.YtdfoedjfnoiboaaW.PrintWords.own_string Try.underlying28 Try.underlying5 Try.underlying9 h, str_bytes]
        have hc1 := hcv.out _ hown
        go_wp2
        go_ret
        exact ⟨by unfold quoteF; rw [if_neg (by omega), if_neg h0]; rfl, hbw⟩
set_option maxHeartbeats 2000000 in
set_option maxRecDepth 100000 in
theorem squote_any (a0 : ByteArray) (w : World) (hs : a0.size ≤ maxLen) :
    Calls Try.prog 6 #[.string a0] w fun e w' => e = .returned (.string (quoteF a0)) ∧ Below w.heap.size w w' := by
  by_cases h : 65536 < a0.size
  · unfold maxLen at hs
    go_enter Try.func6, Try.ntmps6
    go_wp2
    go_ret
    exact ⟨by unfold quoteF; rw [if_pos h]; rfl, Below.refl _ _⟩
  · exact squote_loop a0 w (by omega)
end Go.Proofs.Ytdfoedjfnoiboaa
