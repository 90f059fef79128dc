/- Bits in a row, the highest first: their number, and the bytes that they fill. Plain Lean but for the kit's 'bits'. -/
import Derived.Test.YthaceagaodjllaaOctet
namespace Go.Proofs.Ythaceagaodjllaa
open Go.RowKit

theorem snoc_rec {α : Type} {motive : List α → Prop} (l : List α) (nil : motive []) (snoc : ∀ r b, motive r → motive (r ++ [b])) : motive l := by
  have h : ∀ n (l : List α), l.length = n → motive l := by
    intro n
    induction n with
    | zero => intro l hl; rw [List.eq_nil_of_length_eq_zero hl]; exact nil
    | succ n ih =>
      intro l hl
      have hne : l ≠ [] := by intro h; simp [h] at hl
      rw [← List.dropLast_concat_getLast hne]
      exact snoc _ _ (ih _ (by simp [hl]))
  exact h _ l rfl
/-- The number of bits, the highest first. -/
def bval (l : List Bool) : Nat := l.foldl (fun n b => 2 * n + b.toNat) 0
theorem bval_snoc (l : List Bool) (b : Bool) : bval (l ++ [b]) = 2 * bval l + b.toNat := by simp [bval]
@[simp] theorem bval_nil : bval [] = 0 := rfl
theorem bval_append (l r : List Bool) : bval (l ++ r) = bval l * 2 ^ r.length + bval r := by
  induction r using snoc_rec with
  | nil => simp
  | snoc r b ih =>
    rw [← List.append_assoc, bval_snoc, bval_snoc, ih, List.length_append, List.length_singleton, Nat.pow_succ, Nat.mul_add, Nat.mul_comm (2 ^ r.length) 2, Nat.mul_left_comm]
    omega
theorem bval_lt (l : List Bool) : bval l < 2 ^ l.length := by
  induction l using snoc_rec with
  | nil => simp
  | snoc r b ih =>
    rw [bval_snoc, List.length_append, List.length_singleton, Nat.pow_succ]
    have := Bool.toNat_le b
    omega
/-- n's lowest k bits. -/
def nbits (n : Nat) : Nat → List Bool
  | 0 => []
  | k + 1 => nbits (n / 2) k ++ [decide (n % 2 = 1)]
@[simp] theorem nbits_length (n k : Nat) : (nbits n k).length = k := by
  induction k generalizing n with
  | zero => rfl
  | succ k ih => simp [nbits, ih]
theorem bval_nbits (n k : Nat) : bval (nbits n k) = n % 2 ^ k := by
  induction k generalizing n with
  | zero => simp [nbits, Nat.mod_one]
  | succ k ih =>
    rw [nbits, bval_snoc, ih, Nat.pow_succ, Nat.mul_comm (2 ^ k) 2, Nat.mod_mul]
    have : n % 2 = 0 ∨ n % 2 = 1 := by omega
    rcases this with h | h <;> simp [h] <;> omega
theorem nbits_cons (n k : Nat) : nbits n (k + 1) = decide (n / 2 ^ k % 2 = 1) :: nbits n k := by
  induction k generalizing n with
  | zero => simp [nbits]
  | succ k ih => rw [nbits, ih, nbits, Nat.div_div_eq_div_mul, Nat.pow_succ, Nat.mul_comm (2 ^ k) 2, List.cons_append]
theorem nbits_bval (l : List Bool) : nbits (bval l) l.length = l := by
  induction l using snoc_rec with
  | nil => rfl
  | snoc r b ih =>
    rw [List.length_append, List.length_singleton, nbits, bval_snoc, show (2 * bval r + b.toNat) / 2 = bval r by have := Bool.toNat_le b; omega, ih]
    congr 1
    cases b <;> simp <;> omega
theorem bval_inj {l r : List Bool} (hl : l.length = r.length) (h : bval l = bval r) : l = r := by rw [← nbits_bval l, ← nbits_bval r, hl, h]

/-- Byte i of the bits, filled with noughts. -/
def byteN (l : List Bool) (i : Nat) : Nat := bval ((l.drop (8 * i)).take 8) * 2 ^ (8 - (l.length - 8 * i))
def pack (l : List Bool) : List UInt8 := (List.range ((l.length + 7) / 8)).map fun i => UInt8.ofNat (byteN l i)
@[simp] theorem pack_length (l : List Bool) : (pack l).length = (l.length + 7) / 8 := by simp [pack]
@[simp] theorem pack_nil : pack [] = [] := rfl
theorem byteN_lt (l : List Bool) (i : Nat) : byteN l i < 256 := by
  unfold byteN
  have h := bval_lt ((l.drop (8 * i)).take 8)
  rw [List.length_take, List.length_drop] at h
  rcases Nat.lt_or_ge (l.length - 8 * i) 8 with h8 | h8
  · rw [Nat.min_eq_right (by omega)] at h
    calc _ < 2 ^ (l.length - 8 * i) * 2 ^ (8 - (l.length - 8 * i)) := Nat.mul_lt_mul_of_pos_right h (Nat.two_pow_pos _)
      _ = 256 := by rw [← Nat.pow_add, show l.length - 8 * i + (8 - (l.length - 8 * i)) = 8 by omega]
  · rw [Nat.min_eq_left (by omega)] at h
    rw [show 8 - (l.length - 8 * i) = 0 by omega]
    simpa using h
theorem byteN_other (l : List Bool) (b : Bool) (i : Nat) (h : 8 * i + 8 ≤ l.length) : byteN (l ++ [b]) i = byteN l i := by
  unfold byteN
  rw [List.drop_append_of_le_length (by omega), List.take_append_of_le_length (by rw [List.length_drop]; omega), List.length_append, List.length_singleton,
    show 8 - (l.length + 1 - 8 * i) = 0 by omega, show 8 - (l.length - 8 * i) = 0 by omega]
theorem byteN_last (l : List Bool) (b : Bool) : byteN (l ++ [b]) (l.length / 8) = byteN l (l.length / 8) + b.toNat * 2 ^ (7 - l.length % 8) := by
  unfold byteN
  have hm := Nat.div_add_mod l.length 8
  have hr : l.length % 8 < 8 := Nat.mod_lt _ (by decide)
  rw [List.drop_append_of_le_length (by omega), List.take_of_length_le (by simp; omega), List.take_of_length_le (by simp; omega), bval_snoc, List.length_append, List.length_singleton,
    show 8 - (l.length + 1 - 8 * (l.length / 8)) = 7 - l.length % 8 by omega, show 8 - (l.length - 8 * (l.length / 8)) = (7 - l.length % 8) + 1 by omega, Nat.pow_succ, Nat.add_mul]
  congr 1
  rw [Nat.mul_comm 2, Nat.mul_assoc, Nat.mul_comm 2]
theorem byteN_high (l : List Bool) : byteN l (l.length / 8) % 2 ^ (8 - l.length % 8) = 0 := by
  unfold byteN
  rw [show 8 - (l.length - 8 * (l.length / 8)) = 8 - l.length % 8 by omega]
  exact Nat.mul_mod_left _ _
theorem byteN_nil (l : List Bool) (h : l.length % 8 = 0) : byteN l (l.length / 8) = 0 := by
  unfold byteN
  rw [List.drop_of_length_le (by omega)]
  simp
theorem pack_snoc (l : List Bool) (b : Bool) : pack (l ++ [b]) = ((if l.length % 8 = 0 then pack l ++ [0] else pack l)).set (l.length / 8) (UInt8.ofNat (byteN l (l.length / 8) + b.toNat * 2 ^ (7 - l.length % 8))) := by
  have hlen : (pack (l ++ [b])).length = l.length / 8 + 1 := by simp; omega
  apply List.ext_getElem?
  intro i
  rcases Nat.lt_trichotomy i (l.length / 8) with h | h | h
  · rw [List.getElem?_set_ne (by omega)]
    have e1 : (if l.length % 8 = 0 then pack l ++ [0] else pack l)[i]? = (pack l)[i]? := by
      split
      · rw [List.getElem?_append_left (by simp; omega)]
      · rfl
    rw [e1]
    simp only [pack, List.getElem?_map, List.length_append, List.length_singleton]
    rw [List.getElem?_range (by omega), List.getElem?_range (by omega)]
    simp only [Option.map_some]
    rw [byteN_other _ _ _ (by omega)]
  · subst h
    rw [List.getElem?_set_self (by split <;> simp <;> omega), ← byteN_last]
    simp only [pack, List.getElem?_map, List.length_append, List.length_singleton]
    rw [List.getElem?_range (by omega)]
    rfl
  · rw [List.getElem?_eq_none (by omega), List.getElem?_eq_none (by rw [List.length_set]; split <;> simp <;> omega)]
/-- What the writer's '|=' makes. -/
theorem or8_add (y b r : Nat) (hr : r < 8) (hb : b ≤ 1) (hy : y < 256) (hm : y % 2 ^ (8 - r) = 0) : y ||| b * 2 ^ (7 - r) = y + b * 2 ^ (7 - r) := by
  obtain ⟨q, rfl⟩ := Nat.dvd_of_mod_eq_zero hm
  rw [Nat.two_pow_add_eq_or_of_lt]
  calc b * 2 ^ (7 - r) ≤ 1 * 2 ^ (7 - r) := Nat.mul_le_mul_right _ hb
    _ < 2 ^ (8 - r) := by rw [Nat.one_mul]; exact Nat.pow_lt_pow_right (by decide) (by omega)

/-- The bits of bytes. -/
def unpack (l : List UInt8) : List Bool := l.flatMap fun b => nbits b.toNat 8
@[simp] theorem unpack_nil : unpack [] = [] := rfl
theorem unpack_cons (b : UInt8) (l : List UInt8) : unpack (b :: l) = nbits b.toNat 8 ++ unpack l := rfl
@[simp] theorem unpack_length (l : List UInt8) : (unpack l).length = 8 * l.length := by
  induction l with
  | nil => rfl
  | cons b l ih => rw [unpack_cons, List.length_append, nbits_length, ih, List.length_cons]; omega
theorem nbits_get (n k j : Nat) (h : j < k) : (nbits n k)[j]? = some (decide (n / 2 ^ (k - 1 - j) % 2 = 1)) := by
  induction k generalizing j with
  | zero => omega
  | succ k ih =>
    rw [nbits_cons]
    cases j with
    | zero => simp
    | succ j =>
      rw [List.getElem?_cons_succ, ih j (by omega), show k + 1 - 1 - (j + 1) = k - 1 - j by omega]
theorem unpack_get (l : List UInt8) (i : Nat) (h : i < 8 * l.length) : (unpack l)[i]? = some (decide ((l[i / 8]'(by omega)).toNat / 2 ^ (7 - i % 8) % 2 = 1)) := by
  induction l generalizing i with
  | nil => simp at h
  | cons b l ih =>
    rw [unpack_cons]
    rcases Nat.lt_or_ge i 8 with h8 | h8
    · rw [List.getElem?_append_left (by simp; omega), nbits_get _ _ _ h8]
      have e : i / 8 = 0 := by omega
      simp only [e, List.getElem_cons_zero, show i % 8 = i by omega]
    · rw [List.getElem?_append_right (by simp; omega), nbits_length, ih (i - 8) (by simp at h; omega)]
      have e : i / 8 = (i - 8) / 8 + 1 := by omega
      simp only [e, List.getElem_cons_succ, show i % 8 = (i - 8) % 8 by omega]
end Go.Proofs.Ythaceagaodjllaa
