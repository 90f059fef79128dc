/- The number of bytes, the lowest first: the program's and the reference's. -/
import Derived.Test.YthaceagaodjllaaProg
import Derived.Test.YthaceagaodjllaaReg
namespace Go.Proofs.Ythaceagaodjllaa
open Go.RowKit
/-- The number of bytes, the lowest first. -/
def leN : List UInt8 → Nat
  | [] => 0
  | b :: l => b.toNat + 256 * leN l
theorem leN_lt (l : List UInt8) : leN l < 256 ^ l.length := by
  induction l with
  | nil => simp [leN]
  | cons b l ih =>
    have := b.toNat_lt
    simp only [leN, List.length_cons, Nat.pow_succ]
    omega
theorem leN_append (l r : List UInt8) : leN (l ++ r) = leN l + 256 ^ l.length * leN r := by
  induction l with
  | nil => simp [leN]
  | cons b l ih =>
    simp only [leN, List.cons_append, List.length_cons, ih, Nat.pow_succ, Nat.mul_add]
    have : 256 * (256 ^ l.length * leN r) = 256 ^ l.length * 256 * leN r := by
      rw [Nat.mul_comm (256 ^ l.length) 256, Nat.mul_assoc]
    omega
theorem or64_join (i y x : Nat) (hy : y < 2 ^ i) (h : x * 2 ^ i < 18446744073709551616) (hi : y < 18446744073709551616) :
    bits BinOp.or .u64 (y : Int) (IntKind.u64.wrap ((x : Int) * 2 ^ i)) = ((y + x * 2 ^ i : Nat) : Int) := by
  have e : IntKind.u64.wrap ((x : Int) * 2 ^ i) = ((x * 2 ^ i : Nat) : Int) := by
    rw [IntKind.wrap_u64]
    have : (((x * 2 ^ i : Nat)) : Int) = (x : Int) * 2 ^ i := by simp
    rw [← this]
    omega
  rw [e, (bits_nat .u64 64 (by decide) (fun n h0 h1 => by rw [IntKind.wrap_u64]; omega) y (x * 2 ^ i) (by omega) (by omega)).2]
  rw [Nat.or_comm, Nat.mul_comm, ← Nat.two_pow_add_eq_or_of_lt hy]
  congr 1
  omega

theorem take_snoc {α : Type} (l : List α) (k : Nat) (h : k < l.length) : l.take (k + 1) = l.take k ++ [l[k]] := by
  rw [List.take_succ_eq_append_getElem h]
theorem leN_step (l : List UInt8) (k : Nat) (h : k < l.length) (h8 : k < 8) :
    bits BinOp.or .u64 ((leN (l.take k) : Nat) : Int) (IntKind.u64.wrap ((l[k].toNat : Int) * 2 ^ (8 * k))) = ((leN (l.take (k + 1)) : Nat) : Int) := by
  have hb := l[k].toNat_lt
  have hlt := leN_lt (l.take k)
  have hlen : (l.take k).length = k := by simp; omega
  rw [hlen] at hlt
  have e : (256 : Nat) ^ k = 2 ^ (8 * k) := by rw [Nat.pow_mul]
  have e2 : (2 : Nat) ^ (8 * k) * 256 ≤ 18446744073709551616 := by
    have : (2 : Nat) ^ (8 * k + 8) ≤ 2 ^ 64 := Nat.pow_le_pow_right (by decide) (by omega)
    rw [Nat.pow_add] at this
    simpa using this
  rw [or64_join (8 * k) _ _ (by rw [← e]; exact hlt) ?_ ?_]
  · rw [take_snoc l k h, leN_append, hlen, e]
    simp only [leN, Nat.mul_zero, Nat.add_zero]
    rw [Nat.mul_comm]
  · calc l[k].toNat * 2 ^ (8 * k) < 256 * 2 ^ (8 * k) := Nat.mul_lt_mul_of_pos_right hb (Nat.two_pow_pos _)
      _ ≤ _ := by rw [Nat.mul_comm]; exact e2
  · rw [e] at hlt; omega

set_option maxHeartbeats 400000 in
theorem num_any (A : Option Addr) (c : Nat) (l : List UInt8) (w : World) (hrd : Rd w w.heap.size A (u8s l)) (hl : l.length ≤ 9223372036854775807) :
    Calls Try.prog 69 #[.slice A l.length c] w fun e w' => e = .returned (.int .u64 (leN (l.take 8) : Nat)) ∧ w = w' := by
  go_enter Try.func69, Try.ntmps69
  go_wp2_with fail
  all_goals
    go_loop [3, 8] (fun n i => ∃ k : Nat, k ≤ l.length ∧ k ≤ 8 ∧ i = .int .i64 k ∧ n = .int .u64 (leN (l.take k) : Nat)) (fun _ i => 8 - (intOf i).toNat)
    case atStart => exact ⟨0, by omega, by omega, rfl, by simp [leN]⟩
    case round =>
      obtain ⟨k, hk, hk8, rfl, rfl⟩ := hrel
      by_cases hlt : k < l.length ∧ k < 8
      · obtain ⟨hlt, hlt8⟩ := hlt
        obtain ⟨b, off, rfl, _, _, hcell⟩ := hrd.at (by simpa using hlt)
        rw [u8s_get _ _ hlt] at hcell
        have hby : l[k].toNat < 256 := l[k].toNat_lt
        go_wp2
        go_round
        case rel => exact ⟨k + 1, by omega, by omega, by go_num, by rw [leN_step l k hlt hlt8]⟩
        case measure => simp [intOf]; omega
      · have hlt' : l.length ≤ k ∨ 8 ≤ k := by omega
        clear hlt
        have ht : l.take k = l.take 8 := by
          rcases Nat.lt_or_ge k 8 with h8 | h8
          · rw [List.take_of_length_le (by omega), List.take_of_length_le (by omega)]
          · rw [show k = 8 by omega]
        rw [ht]
        clear ht
        go_wp2
        go_ret
        exact ⟨rfl, rfl⟩
set_option maxHeartbeats 400000 in
theorem value_any (A : Option Addr) (c : Nat) (l : List UInt8) (w : World) (hrd : Rd w w.heap.size A (u8s l)) (hl : l.length ≤ 9223372036854775807) :
    Calls Try.prog 62 #[.slice A l.length c] w fun e w' => e = .returned (.int .u64 (leN (l.take 8) : Nat)) ∧ w = w' := by
  go_enter Try.func62, Try.ntmps62
  go_wp2_with fail
  go_loopg [3, 4] l.length (fun n s i wr => n ≤ l.length ∧ i = .int .i64 ((n : Int) - 1) ∧ s = .int .u64 (leN ((l.take 8).drop n) : Nat) ∧ wr = w)
  case atStart => exact ⟨by omega, rfl, by rw [List.drop_of_length_le (by simp; omega)]; simp [leN], rfl⟩
  case round =>
    obtain ⟨hk, rfl, rfl, rfl⟩ := hrel
    rcases Nat.eq_zero_or_pos gk with h0 | h0
    · subst h0
      go_wp2_with fail
      go_ret
      exact ⟨rfl, rfl⟩
    · have hlt : gk - 1 < l.length := by omega
      by_cases h8 : gk ≤ 8
      · obtain ⟨b, off, rfl, _, _, hcell⟩ := hrd.at (k := gk - 1) (by simpa using hlt)
        rw [u8s_get _ _ hlt] at hcell
        have hby : l[gk - 1].toNat < 256 := l[gk - 1].toNat_lt
        have hstep : leN ((l.take 8).drop (gk - 1)) = l[gk - 1].toNat + 256 * leN ((l.take 8).drop gk) := by
          rw [List.drop_eq_getElem_cons (by simp; omega)]
          simp [leN, show gk - 1 + 1 = gk by omega]
        have hb := leN_lt ((l.take 8).drop gk)
        have hb2 : 256 ^ ((l.take 8).drop gk).length ≤ 256 ^ 7 := Nat.pow_le_pow_right (by decide) (by simp; omega)
        have hb3 : leN ((l.take 8).drop gk) < 72057594037927936 := Nat.lt_of_lt_of_le hb hb2
        clear hb hb2
        have HS := Lib.hid hstep
        clear hstep
        have e1 : ((gk : Int) - 1).toNat = gk - 1 := by omega
        go_wp2_with fail
        go_roundg (gk - 1)
        case measure => omega
        case rel => exact ⟨by omega, int_eq (by omega), int_eq (by rw [HS.out]; omega), rfl⟩
      · have hd : leN ((l.take 8).drop gk) = 0 := by rw [List.drop_of_length_le (by simp; omega)]; rfl
        have hd2 : leN ((l.take 8).drop (gk - 1)) = 0 := by rw [List.drop_of_length_le (by simp; omega)]; rfl
        rw [hd]
        have HD := Lib.hid hd2
        clear hd hd2
        go_wp2_with fail
        go_roundg (gk - 1)
        case measure => omega
        case rel => exact ⟨by omega, int_eq (by omega), int_eq (by rw [HD.out]), rfl⟩
end Go.Proofs.Ythaceagaodjllaa
