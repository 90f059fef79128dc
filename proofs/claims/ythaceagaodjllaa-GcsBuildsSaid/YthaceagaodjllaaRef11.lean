/- The reference's bits (11, 12): texts of 0 and 1, as the program's. -/
import Derived.Test.YthaceagaodjllaaStr
import Derived.Test.YthaceagaodjllaaRiceR
namespace Go.Proofs.Ythaceagaodjllaa
open Go.RowKit

/-- Bits as a text. -/
def bt (l : List Bool) : List UInt8 := l.map fun b => if b then 49 else 48
@[simp] theorem bt_length (l : List Bool) : (bt l).length = l.length := by simp [bt]
theorem bt_append (l r : List Bool) : bt (l ++ r) = bt l ++ bt r := by simp [bt]
theorem bt_drop (l : List Bool) (k : Nat) : (bt l).drop k = bt (l.drop k) := by simp [bt, List.map_drop]
theorem bt_take (l : List Bool) (k : Nat) : (bt l).take k = bt (l.take k) := by simp [bt, List.map_take]
theorem bt_get (l : List Bool) (k : Nat) (h : k < l.length) : (tx (bt l))[k]'(by show k < (bt l).length; simpa using h) = if l[k] then 49 else 48 := by
  show (bt l).toArray[k]'_ = _
  simp [bt]
theorem bt_eq49 (b : Bool) : (((if b then 49 else 48 : UInt8).toNat : Int) == 49) = b := by cases b <;> rfl

set_option maxRecDepth 20000 in
set_option maxHeartbeats 400000 in
theorem bits11_any (n k : Nat) (x y : Int) (w : World) (hx : x = (n : Int)) (hy : y = (k : Int)) (hn : n < 18446744073709551616) (hk : k ≤ 64) :
    Calls Try.prog 63 #[.int .u64 x, .int .i64 y] w fun e w' => e = .returned (.string (tx (bt (nbits n k)))) ∧ w = w' := by
  subst hx hy
  go_enter Try.func63, Try.ntmps63
  go_wp2_with fail
  go_loopg [0, 5, 6] k (fun m v s i wx => ∃ j : Nat, m = k - j ∧ j ≤ k ∧ v = .int .u64 ((n / 2 ^ j : Nat) : Int) ∧ s = .string (tx (bt (nbits n j))) ∧ i = .int .i64 (j : Int) ∧ wx = w)
  case atStart => exact ⟨0, by omega, by omega, by simp, rfl, rfl, rfl⟩
  case round =>
    obtain ⟨j, rfl, hj, rfl, rfl, rfl, rfl⟩ := hrel
    by_cases hlt : j < k
    · have hv : n / 2 ^ j < 18446744073709551616 := Nat.lt_of_le_of_lt (Nat.div_le_self _ _) hn
      have HD : Hid (n / 2 ^ (j + 1) = n / 2 ^ j / 2) := Lib.hid (by rw [Nat.div_div_eq_div_mul, Nat.pow_succ])
      have HC : Hid (nbits n (j + 1) = decide (n / 2 ^ j % 2 = 1) :: nbits n j) := Lib.hid (nbits_cons n j)
      have hcat : ∀ c wx, (Op.stringOp .add ⟨#[c]⟩ (tx (bt (nbits n j)))).run Try.prog wx = .ok (.string (tx (c :: bt (nbits n j)))) wx := fun c wx => by
        rw [run_string_add_sum wx _ _ (by show 1 + (bt (nbits n j)).length ≤ _; simp; omega)]
        rfl
      generalize n / 2 ^ j = v at *
      by_cases hb : v % 2 = 1
      · have hb' : ((v : Int) % 2 == 1) = true := by rw [beq_iff_eq]; omega
        have HB : Hid (decide (v % 2 = 1) = true) := Lib.hid (by simpa using hb)
        clear hb
        go_wp2_with fail
        go_roundg (k - (j + 1))
        case measure => omega
        case rel => exact ⟨j + 1, rfl, by omega, int_eq (by rw [HD.out]; omega), by rw [HC.out, HB.out]; rfl, by go_num, rfl⟩
      · have hb' : ((v : Int) % 2 == 1) = false := by rw [beq_eq_false_iff_ne]; omega
        have HB : Hid (decide (v % 2 = 1) = false) := Lib.hid (by simpa using hb)
        clear hb
        go_wp2_with fail
        go_roundg (k - (j + 1))
        case measure => omega
        case rel => exact ⟨j + 1, rfl, by omega, int_eq (by rw [HD.out]; omega), by rw [HC.out, HB.out]; rfl, by go_num, rfl⟩
    · obtain rfl : j = k := by omega
      go_wp2_with fail
      go_ret
      exact ⟨rfl, rfl⟩

set_option maxRecDepth 20000 in
set_option maxHeartbeats 400000 in
theorem all11_any (A : Option Addr) (c : Nat) (l : List UInt8) (w : World) (hrd : Rd w w.heap.size A (u8s l)) (hl : l.length ≤ 68719476736) :
    Calls Try.prog 39 #[.slice A l.length c] w fun e w' => e = .returned (.string (tx (bt (unpack l)))) ∧ w = w' := by
  go_enter Try.func39, Try.ntmps39
  go_wp2_with fail
  go_loopg [3, 8] l.length (fun m s i wx => ∃ j : Nat, m = l.length - j ∧ j ≤ l.length ∧ s = .string (tx (bt (unpack (l.take j)))) ∧ i = .int .i64 (j : Int) ∧ wx = w)
  case atStart => exact ⟨0, by omega, by omega, by simp [bt]; rfl, rfl, rfl⟩
  case round =>
    obtain ⟨j, rfl, hj, rfl, rfl, rfl⟩ := hrel
    by_cases hlt : j < l.length
    · obtain ⟨b, off, rfl, _, _, hcell⟩ := hrd.at (k := j) (by simpa using hlt)
      rw [u8s_get _ _ hlt] at hcell
      have hby : l[j].toNat < 256 := l[j].toNat_lt
      have HT : Hid (unpack (l.take (j + 1)) = unpack (l.take j) ++ nbits l[j].toNat 8) := Lib.hid (by
        rw [take_snoc l j hlt, unpack, List.flatMap_append, List.flatMap_cons, List.flatMap_nil, List.append_nil]; rfl)
      generalize l[j].toNat = v at *
      have hcat : ∀ wx, (Op.stringOp .add (tx (bt (unpack (l.take j)))) (tx (bt (nbits v 8)))).run Try.prog wx = .ok (.string (tx (bt (unpack (l.take j) ++ nbits v 8)))) wx := fun wx => by
        rw [run_string_add_sum wx _ _ (by simp; omega), tx_append, bt_append]
      go_wp2_with fail
      refine (bits11_any v 8 _ _ wr rfl rfl (by omega) (by omega)).mono ?_
      rintro e _ ⟨rfl, rfl⟩
      go_wp2_with fail
      go_roundg (l.length - (j + 1))
      case measure => omega
      case rel => exact ⟨j + 1, rfl, by omega, by rw [HT.out], by go_num, rfl⟩
    · obtain rfl : j = l.length := by omega
      go_wp2_with fail
      go_ret
      rw [List.take_length]
      exact ⟨rfl, rfl⟩

set_option maxRecDepth 20000 in
set_option maxHeartbeats 400000 in
theorem number11_any (l : List Bool) (w : World) (hl : l.length ≤ 63) :
    Calls Try.prog 41 #[.string (tx (bt l))] w fun e w' => e = .returned (.int .u64 (bval l : Nat)) ∧ w = w' := by
  have hsz : (tx (bt l)).size = l.length := by simp
  go_enter Try.func41, Try.ntmps41
  go_wp2_with fail
  go_loopg [3, 4] l.length (fun m v i wx => ∃ j : Nat, m = l.length - j ∧ j ≤ l.length ∧ v = .int .u64 (bval (l.take j) : Nat) ∧ i = .int .i64 (j : Int) ∧ wx = w)
  case atStart => exact ⟨0, by omega, by omega, rfl, rfl, rfl⟩
  case round =>
    obtain ⟨j, rfl, hj, rfl, rfl, rfl⟩ := hrel
    by_cases hlt : j < l.length
    · have hb2 := bt_get l j hlt
      have HT : Hid (bval (l.take (j + 1)) = 2 * bval (l.take j) + l[j].toNat) := Lib.hid (by rw [take_snoc l j hlt, bval_snoc])
      have hv := bval_take_lt l j (by omega)
      have h49 := bt_eq49 l[j]
      generalize bval (l.take j) = v at *
      cases hlj : l[j] with
      | true =>
        rw [hlj] at hb2 HT h49
        simp only [if_true] at hb2 h49
        clear hlj
        go_wp2_with fail
        go_roundg (l.length - (j + 1))
        case measure => omega
        case rel => exact ⟨j + 1, rfl, by omega, int_eq (by rw [HT.out]; simp; omega), by go_num, rfl⟩
      | false =>
        rw [hlj] at hb2 HT h49
        simp only [Bool.false_eq_true, if_false] at hb2 h49
        clear hlj
        go_wp2_with fail
        go_roundg (l.length - (j + 1))
        case measure => omega
        case rel => exact ⟨j + 1, rfl, by omega, int_eq (by rw [HT.out]; simp; omega), by go_num, rfl⟩
    · obtain rfl : j = l.length := by omega
      go_wp2_with fail
      go_ret
      rw [List.take_length]
      exact ⟨rfl, rfl⟩
theorem held12_any (w : World) : Calls Try.prog 66 #[.int .i64 19] w fun e w' => e = .returned (.int .i64 19) ∧ w = w' := by
  go_enter Try.func66, Try.ntmps66
  go_wp2_with fail
  go_ret
  exact ⟨rfl, rfl⟩
end Go.Proofs.Ythaceagaodjllaa
