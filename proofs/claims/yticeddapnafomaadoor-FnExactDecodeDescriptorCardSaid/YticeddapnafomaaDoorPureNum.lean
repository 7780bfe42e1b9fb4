/- Plain laws of the printed number codecs: PutNumber writes the bytes of a number that fits, GetNumber reads them; the program's and the reference's agree. -/
import Derived.Laws.BitsLemmas
import Derived.Test.YticeddapnafomaaDoorPEx1
import Derived.Test.YticeddapnafomaaDoorPEx2
import Derived.Test.YticeddapnafomaaDoorPEx4
import Derived.Test.YticeddapnafomaaDoorPEx5
namespace Go.Proofs.YticeddapnafomaaDoor.Pure
open Go.RowKit Go.Proofs.YticeddapnafomaaDoor.PE Go.Proofs.YticeddapnafomaaDoorW.PrintWords Go.Proofs.YticeddapnafomaaDoorW.PrintLast Go.Proofs.YticeddapnafomaaDoorW.PrintMore
theorem nw64 {x : Int} (h0 : 0 ≤ x) (h1 : x ≤ 9223372036854775807) : wrap64 x = x := by unfold wrap64; omega
theorem nrd_nat (l : List Int) (i : Nat) : rd l (i : Int) = l.getD i 0 := by unfold rd; rw [Int.toNat_natCast]
theorem nrd_at (l : List Int) (i : Nat) (h : i < l.length) : rd l (i : Int) = l[i] := by rw [nrd_nat, List.getD_eq_getElem?_getD, List.getElem?_eq_getElem h]; rfl
def be (n : Nat) (v : Int) : List Int := (List.range n).map fun j => v / 256 ^ (n - 1 - j) % 256
theorem be_length (n : Nat) (v : Int) : (be n v).length = n := by simp [be]
theorem be_succ (n : Nat) (v : Int) : be (n + 1) v = be n (v / 256) ++ [v % 256] := by
  unfold be
  rw [List.range_succ, List.map_append]
  congr 1
  · refine List.map_congr_left fun j hj => ?_
    have hj' : j < n := List.mem_range.1 hj
    have e : n + 1 - 1 - j = (n - 1 - j) + 1 := by omega
    rw [e, Int.pow_succ, Int.mul_comm, Int.ediv_ediv_of_nonneg (by decide)]
  · simp
theorem div_lt {v : Int} {d : Nat} (h : v < 256 ^ (d + 1)) : v / 256 < 256 ^ d := by
  rw [Int.pow_succ] at h
  exact Int.ediv_lt_of_lt_mul (by decide) h
theorem sput_loop (n : Nat) (d : Nat) : ∀ (k : Nat) (v : Int) (i : Nat) (acc : List Int), 0 ≤ v → v ≤ 1152921504606846975 → v < 256 ^ d → i + d = n → n ≤ 8 → acc.length ≤ i → d < k →
    spec_PutNumber.l0 k v (n : Int) acc (i : Int) = some (be d v ++ acc) := by
  induction d with
  | zero =>
    intro k v i acc h0 hb h1 hi hn ha hk
    obtain ⟨k, rfl⟩ : ∃ m, k = m + 1 := ⟨k - 1, by omega⟩
    simp only [spec_PutNumber.l0]
    have : v < 1 := by simpa using h1
    rw [if_neg (by omega), if_neg (by omega)]
    rfl
  | succ d ih =>
    intro k v i acc h0 hb h1 hi hn ha hk
    obtain ⟨k, rfl⟩ : ∃ m, k = m + 1 := ⟨k - 1, by omega⟩
    simp only [spec_PutNumber.l0]
    rw [if_pos (by omega), Option.bind_some, if_pos (by simp; omega), Int.tmod_eq_emod_of_nonneg h0, Int.tdiv_eq_ediv_of_nonneg h0, nw64 (x := v / 256) (by omega) (by omega), nw64 (by omega) (by omega)]
    have e : ((i : Int) + 1) = ((i + 1 : Nat) : Int) := by omega
    rw [e, ih k (v / 256) (i + 1) _ (by omega) (by omega) (div_lt h1) (by omega) hn (by simp; omega) (by omega), be_succ]
    have e2 : v % 256 % 256 = v % 256 := by omega
    rw [e2]
    simp
theorem sput (n : Nat) (v : Int) (h0 : 0 ≤ v) (hb : v ≤ 1152921504606846975) (h1 : v < 256 ^ n) (hn0 : 1 ≤ n) (hn : n ≤ 8) (k : Nat) (hk : n + 1 < k) : spec_PutNumber.f k v (n : Int) = some (be n v) := by
  unfold spec_PutNumber.f
  rw [if_neg (by omega), if_neg (by omega)]
  obtain ⟨k, rfl⟩ : ∃ m, k = m + 1 := ⟨k - 1, by omega⟩
  simp only [spec_PutNumber.j0]
  rw [if_neg (by simp; omega)]
  have := sput_loop n n k v 0 [] h0 hb h1 (by omega) hn (by simp) (by omega)
  simpa using this
theorem shr_byte (v : Int) (m : Nat) (hm : 8 * m ≤ 64) : shr .i64 v ((8 * m : Nat) : Int) = v / 256 ^ m := by
  unfold shr
  rw [Int.toNat_natCast, Nat.min_eq_left (by simpa [IntKind.bits] using hm), Int.pow_mul]
  rfl
theorem iput_loop (n : Nat) (v : Int) (hn : n ≤ 8) (d : Nat) : ∀ (k : Nat) (i : Nat) (acc : List Int), i + d = n → acc.length = n → acc.take i = (be n v).take i → d < k →
    impl_PutNumber.l0 k v (n : Int) acc (n : Int) (i : Int) = some (be n v) := by
  induction d with
  | zero =>
    intro k i acc hi hl ht hk
    obtain ⟨k, rfl⟩ : ∃ m, k = m + 1 := ⟨k - 1, by omega⟩
    simp only [impl_PutNumber.l0]
    rw [if_neg (by omega)]
    have : i = n := by omega
    subst this
    have e : acc = be i v := by
      rw [← List.take_length (l := acc), hl, ht, List.take_of_length_le (by rw [be_length]; omega)]
    rw [e]
  | succ d ih =>
    intro k i acc hi hl ht hk
    obtain ⟨k, rfl⟩ : ∃ m, k = m + 1 := ⟨k - 1, by omega⟩
    simp only [impl_PutNumber.l0]
    have e1 : wrap64 ((n : Int) - 1) = ((n - 1 : Nat) : Int) := by rw [nw64 (by omega) (by omega)]; omega
    have e2 : wrap64 (((n - 1 : Nat) : Int) - (i : Int)) = ((n - 1 - i : Nat) : Int) := by rw [nw64 (by omega) (by omega)]; omega
    have e3 : wrap64 (8 * ((n - 1 - i : Nat) : Int)) = ((8 * (n - 1 - i) : Nat) : Int) := by rw [nw64 (by omega) (by omega)]; omega
    rw [e1, e2, e3, if_pos (by omega), if_pos (by omega), if_pos (by omega), if_pos (by omega), nw64 (by omega) (by omega), shr_byte v _ (by omega), Int.toNat_natCast]
    have e : ((i : Int) + 1) = ((i + 1 : Nat) : Int) := by omega
    rw [e]
    refine ih k (i + 1) _ (by omega) (by simpa using hl) ?_ (by omega)
    rw [List.take_succ_eq_append_getElem (by simp; omega), List.take_succ_eq_append_getElem (by rw [be_length]; omega), List.take_set_of_le (Nat.le_refl _), ht]
    simp [be]
theorem iput (n : Nat) (v : Int) (h0 : 0 ≤ v) (h1 : v < 256 ^ n) (hn0 : 1 ≤ n) (hn : n < 8) (k : Nat) (hk : n + 1 < k) : impl_PutNumber.f k v (n : Int) = some (be n v) := by
  unfold impl_PutNumber.f
  rw [if_neg (by omega), if_neg (by omega), if_neg (by omega), if_pos (by omega)]
  have e : wrap64 (8 * (n : Int)) = ((8 * n : Nat) : Int) := by rw [nw64 (by omega) (by omega)]; omega
  rw [e, if_pos (by omega), shr_byte v n (by omega), Int.ediv_eq_zero_of_lt h0 h1]
  obtain ⟨k, rfl⟩ : ∃ m, k = m + 1 := ⟨k - 1, by omega⟩
  simp only [impl_PutNumber.j0]
  rw [if_neg (by simp), if_pos (by omega), if_pos (by omega), Option.bind_some, List.length_replicate, Int.toNat_natCast]
  exact iput_loop n v (by omega) n k 0 _ (by omega) (by simp) (by simp) (by omega)
def val (acc : Int) (l : List Int) : Int := l.foldl (fun v b => v * 256 + b) acc
def isBytes (l : List Int) : Prop := ∀ x ∈ l, 0 ≤ x ∧ x ≤ 255
theorem val_bound : ∀ (l : List Int) (acc : Int) (m : Nat), isBytes l → 0 ≤ acc → acc < 256 ^ m → 0 ≤ val acc l ∧ val acc l < 256 ^ (m + l.length)
  | [], acc, m, _, h0, h1 => ⟨h0, by simpa [val] using h1⟩
  | b :: l, acc, m, hb, h0, h1 => by
    obtain ⟨b0, b1⟩ := hb b List.mem_cons_self
    have hp : (256 : Int) ^ (m + 1) = 256 ^ m * 256 := Int.pow_succ _ _
    have := val_bound l (acc * 256 + b) (m + 1) (fun x hx => hb x (List.mem_cons_of_mem _ hx)) (by omega) (by omega)
    have e : m + (b :: l).length = m + 1 + l.length := by simp; omega
    rw [e]
    exact this
theorem or_byte (x b : Int) (h0 : 0 ≤ x) (h1 : x < 256 ^ 6) (b0 : 0 ≤ b) (b1 : b ≤ 255) : Go.bits .or .i64 (x * 256) b = x * 256 + b :=
  bits_join .i64 62 (by decide) (fun n h0 h1 => by rw [IntKind.wrap_i64]; omega) 8 (x * 256) b (by omega) (by omega) (by omega) b0 (by omega) (by omega)
theorem pow_le6 {i : Nat} (hi : i ≤ 6) : (256 : Int) ^ i ≤ 256 ^ 6 := by
  have : i = 0 ∨ i = 1 ∨ i = 2 ∨ i = 3 ∨ i = 4 ∨ i = 5 ∨ i = 6 := by omega
  rcases this with rfl | rfl | rfl | rfl | rfl | rfl | rfl <;> decide
theorem sget_loop (l : List Int) (hl : l.length ≤ 7) (hb : isBytes l) (d : Nat) : ∀ (k i : Nat) (acc : Int), i + d = l.length → 0 ≤ acc → acc < 256 ^ i → d < k → spec_GetNumber.l0 k l acc (i : Int) = some (val acc (l.drop i)) := by
  induction d with
  | zero =>
    intro k i acc hi h0 h1 hk
    obtain ⟨k, rfl⟩ : ∃ m, k = m + 1 := ⟨k - 1, by omega⟩
    simp only [spec_GetNumber.l0]
    rw [if_neg (by omega), List.drop_of_length_le (by omega)]
    rfl
  | succ d ih =>
    intro k i acc hi h0 h1 hk
    obtain ⟨k, rfl⟩ : ∃ m, k = m + 1 := ⟨k - 1, by omega⟩
    have hlt : i < l.length := by omega
    obtain ⟨b0, b1⟩ := hb l[i] (List.getElem_mem hlt)
    have h6 := pow_le6 (i := i) (by omega)
    have e6 : (256 : Int) ^ 6 = 281474976710656 := by decide
    simp only [spec_GetNumber.l0]
    rw [if_pos (by omega), if_pos (by omega), nrd_at l i hlt, nw64 (x := acc * 256) (by omega) (by omega), nw64 (x := l[i]) (by omega) (by omega), nw64 (x := acc * 256 + l[i]) (by omega) (by omega), nw64 (x := (i : Int) + 1) (by omega) (by omega)]
    have e : ((i : Int) + 1) = ((i + 1 : Nat) : Int) := by omega
    have hp : (256 : Int) ^ (i + 1) = 256 ^ i * 256 := Int.pow_succ _ _
    rw [e, ih k (i + 1) _ (by omega) (by omega) (by omega) (by omega), List.drop_eq_getElem_cons hlt]
    rfl
theorem iget_loop (l : List Int) (hl : l.length ≤ 7) (hb : isBytes l) (d : Nat) : ∀ (k i : Nat) (acc : Int), i + d = l.length → 0 ≤ acc → acc < 256 ^ i → d < k → impl_GetNumber.l0 k acc l (l.length : Int) (i : Int) = some (val acc (l.drop i)) := by
  induction d with
  | zero =>
    intro k i acc hi h0 h1 hk
    obtain ⟨k, rfl⟩ : ∃ m, k = m + 1 := ⟨k - 1, by omega⟩
    simp only [impl_GetNumber.l0]
    rw [if_neg (by omega), List.drop_of_length_le (by omega)]
    rfl
  | succ d ih =>
    intro k i acc hi h0 h1 hk
    obtain ⟨k, rfl⟩ : ∃ m, k = m + 1 := ⟨k - 1, by omega⟩
    have hlt : i < l.length := by omega
    obtain ⟨b0, b1⟩ := hb l[i] (List.getElem_mem hlt)
    have h6 := pow_le6 (i := i) (by omega)
    have e6 : (256 : Int) ^ 6 = 281474976710656 := by decide
    simp only [impl_GetNumber.l0]
    rw [if_pos (by omega), if_pos (by omega), if_pos (by omega), nrd_at l i hlt, nw64 (x := acc * 256) (by omega) (by omega), nw64 (x := l[i]) (by omega) (by omega), nw64 (x := (i : Int) + 1) (by omega) (by omega), or_byte acc l[i] h0 (by omega) b0 b1]
    have e : ((i : Int) + 1) = ((i + 1 : Nat) : Int) := by omega
    have hp : (256 : Int) ^ (i + 1) = 256 ^ i * 256 := Int.pow_succ _ _
    rw [e, ih k (i + 1) _ (by omega) (by omega) (by omega) (by omega), List.drop_eq_getElem_cons hlt]
    rfl
theorem sget (l : List Int) (h0 : 1 ≤ l.length) (hl : l.length ≤ 7) (hb : isBytes l) (k : Nat) (hk : l.length + 1 < k) : spec_GetNumber.f k l = some (val 0 l) := by
  unfold spec_GetNumber.f
  rw [if_neg (by omega), if_neg (by omega), if_neg (by omega)]
  obtain ⟨k, rfl⟩ : ∃ m, k = m + 1 := ⟨k - 1, by omega⟩
  simp only [spec_GetNumber.j0]
  rw [if_neg (by simp)]
  exact sget_loop l hl hb l.length k 0 0 (by omega) (by omega) (by decide) (by omega)
theorem iget (l : List Int) (h0 : 1 ≤ l.length) (hl : l.length ≤ 7) (hb : isBytes l) (k : Nat) (hk : l.length + 1 < k) : impl_GetNumber.f k l = some (val 0 l) := by
  unfold impl_GetNumber.f
  rw [if_neg (by omega), if_neg (by omega), if_neg (by omega)]
  obtain ⟨k, rfl⟩ : ∃ m, k = m + 1 := ⟨k - 1, by omega⟩
  simp only [impl_GetNumber.j0]
  rw [if_neg (by simp)]
  exact iget_loop l hl hb l.length k 0 0 (by omega) (by omega) (by decide) (by omega)
theorem isBytes_cut {l : List Int} (h : isBytes l) (a b : Nat) : isBytes ((l.take b).drop a) := fun x hx => h x (List.mem_of_mem_take (List.mem_of_mem_drop hx))
theorem cut_length (l : List Int) (a b : Nat) (hb : b ≤ l.length) : ((l.take b).drop a).length = b - a := by simp; omega
theorem inum (l : List Int) (hb : isBytes l) (a n : Nat) (h0 : 1 ≤ n) (h7 : n ≤ 7) (hl : a + n ≤ l.length) (hm : l.length ≤ 4000000000000) (k : Nat) (hk : n + 1 < k) : impl_num.f k l (a : Int) (n : Int) = some (val 0 ((l.take (a + n)).drop a)) := by
  unfold impl_num.f
  have e : wrap64 ((a : Int) + (n : Int)) = ((a + n : Nat) : Int) := by rw [nw64 (by omega) (by omega)]; omega
  rw [e, if_pos (by omega), if_pos (by omega), if_pos (by omega), Int.toNat_natCast, Int.toNat_natCast, iget _ (by rw [cut_length _ _ _ hl]; omega) (by rw [cut_length _ _ _ hl]; omega) (isBytes_cut hb _ _) k (by rw [cut_length _ _ _ hl]; omega)]
  rfl
end Go.Proofs.YticeddapnafomaaDoor.Pure
