/- Small words for contracts. -/
import Derived.Test.YtjaeanhgcijfoaaGreatDoorCxRun
import Derived.IntWalk
import Derived.Lib.Strings
set_option linter.unusedSimpArgs false
set_option linter.unusedVariables false
namespace Go.W
open Go Go.Cx

theorem val_get {b : Bool} {v r : AV} {o o' : List AObj} (h : (Ans.val b v o).get = some (r, o')) : b = true ∧ v = r ∧ o = o' := by
  cases b <;> simp_all [Ans.get]
theorem wr {x : Int} (h1 : -9223372036854775808 ≤ x) (h2 : x ≤ 9223372036854775807) : IntKind.wrap .i64 x = x := by
  rw [IntKind.wrap_i64]; omega
theorem ct {β : Type} {b : Bool} {x y : β} (h : b = true) : cond b x y = x := by rw [h]; rfl
theorem cf {β : Type} {b : Bool} {x y : β} (h : b = false) : cond b x y = y := by rw [h]; rfl
theorem dt {p : Prop} [Decidable p] (h : p) : decide p = true := decide_eq_true h
theorem df {p : Prop} [Decidable p] (h : ¬ p) : decide p = false := decide_eq_false h

theorem byteAt_lt (s : ByteArray) (i : Int) : byteAt s i < 256 := by
  unfold byteAt
  have := (s.data.toList.getD i.toNat 0).toNat_lt
  omega
theorem byteAt_nn (s : ByteArray) (i : Int) : 0 ≤ byteAt s i := by
  unfold byteAt
  omega
theorem size_eq (s : ByteArray) : s.size = s.data.toList.length := (Array.length_toList (xs := s.data)).symm
theorem ext_bytes {s t : ByteArray} (h : s.data.toList = t.data.toList) : s = t := by
  cases s; cases t
  simp only at h
  congr
  exact Array.toList_inj.1 h

/-- A loop that goes on while a byte is of a kind. -/
def whileF (p : Int → Bool) (s : ByteArray) : Nat → Int → Int
  | 0, i => i
  | n + 1, i => cond (decide (i < (s.size : Int)) && p (byteAt s i)) (whileF p s n (i + 1)) i
def whileS (p : Int → Bool) (s : ByteArray) (i : Int) : Int := whileF p s s.size i

theorem whileF_bd (p : Int → Bool) (s : ByteArray) : ∀ (m : Nat) (i : Int), i ≤ (s.size : Int) → i ≤ whileF p s m i ∧ whileF p s m i ≤ (s.size : Int)
  | 0, i, h => ⟨Int.le_refl _, h⟩
  | m + 1, i, h => by
    simp only [whileF]
    cases hb : (decide (i < (s.size : Int)) && p (byteAt s i)) with
    | false => exact ⟨Int.le_refl _, h⟩
    | true =>
      simp only [Bool.and_eq_true, decide_eq_true_eq] at hb
      have := whileF_bd p s m (i + 1) (by omega)
      exact ⟨by show i ≤ whileF p s m (i + 1); omega, this.2⟩

/-- What a loop of that form answers. -/
theorem while_run {R : Type} {p : Int → Bool} {s : ByteArray} {L : Nat → Int → Option R} {out : Int → R}
    (hL : ∀ n i, L (n + 1) i = cond (decide (i < (s.size : Int))) (cond (decide (0 ≤ i) && decide (i < (s.size : Int))) (cond (p (byteAt s i)) (L n (IntKind.wrap .i64 (i + 1))) (some (out i))) none) (some (out i)))
    (hs : s.size < 1152921504606846976) : ∀ (m n : Nat) (i : Int), 0 ≤ i → i ≤ (s.size : Int) → (s.size : Int) - i ≤ m → m < n → L n i = some (out (whileF p s m i))
  | m, 0, i, _, _, _, h => by omega
  | 0, n + 1, i, h0, h1, h2, _ => by
    rw [hL, cf (df (by omega))]
    rfl
  | m + 1, n + 1, i, h0, h1, h2, h3 => by
    rw [hL]
    simp only [whileF]
    by_cases hlt : i < (s.size : Int)
    · rw [ct (dt hlt), dt h0, dt hlt, Bool.true_and, ct rfl, Bool.true_and]
      cases hp : p (byteAt s i) with
      | false => rfl
      | true =>
        rw [ct rfl, ct rfl, wr (by omega) (by omega)]
        exact while_run hL hs m n (i + 1) (by omega) (by omega) (by omega) (by omega)
    · rw [df hlt]; rfl
end Go.W
namespace Go.W
open Go Go.Cx
theorem extract_bytes (s : ByteArray) (a b : Nat) : (s.extract a b).data.toList = (s.data.toList.drop a).take (b - a) := Lib.extract_data s a b
theorem sub_size {s : ByteArray} {a b : Int} (h0 : 0 ≤ a) (h1 : a ≤ b) (h2 : b ≤ (s.size : Int)) : (((s.extract a.toNat b.toNat).size : Nat) : Int) = b - a := by
  rw [size_eq, extract_bytes, List.length_take, List.length_drop, ← size_eq]
  omega
theorem byteAt_sub {s : ByteArray} {a b i : Int} (h0 : 0 ≤ a) (hi : 0 ≤ i) (h1 : a + i < b) (h2 : b ≤ (s.size : Int)) : byteAt (s.extract a.toNat b.toNat) i = byteAt s (a + i) := by
  unfold byteAt
  rw [extract_bytes, List.getD_eq_getElem?_getD, List.getD_eq_getElem?_getD, List.getElem?_take, if_pos (by omega), List.getElem?_drop]
  congr 4
  omega
theorem getD_byte {s : ByteArray} {i : Nat} (h : i < s.size) : (s.get! i) = s.data.toList.getD i 0 := by
  cases s with
  | mk d =>
    simp only [ByteArray.get!]
    rw [getElem!_pos d i (by simpa [ByteArray.size] using h)]
    simp [List.getD, show i < d.size by simpa [ByteArray.size] using h]
theorem decode_ascii {s : ByteArray} {i : Nat} (h : i < s.size) (hb : byteAt s (i : Int) < 128) : Utf8.decode s i = ((s.data.toList.getD i 0).toNat, 1) := by
  have e : (s.get! (i + 0)).toNat = (s.data.toList.getD i 0).toNat := by rw [Nat.add_zero, getD_byte h]
  unfold byteAt at hb
  simp only [Int.toNat_natCast] at hb
  have hlt : (s.data.toList.getD i 0).toNat < 128 := by omega
  unfold Utf8.decode
  simp only [e]
  rw [if_pos hlt]
end Go.W
namespace Go.W
theorem blt_t {i n : Nat} (h : i < n) : Nat.blt i n = true := Nat.ble_eq_true_of_le h
theorem blt_f {i n : Nat} (h : ¬ i < n) : Nat.blt i n = false := Bool.eq_false_iff.2 fun h' => h (Nat.le_of_ble_eq_true h')
end Go.W
