/- The reference's keyed sum: turns by halves are the program's turns; the upper half of a product. No condition but that numbers are of their kinds. -/
import Derived.Test.YthaceagaodjllaaSip2
namespace Go.Proofs.Ythaceagaodjllaa
open Go.RowKit

theorem wrap_u64_in (n : Int) : 0 ≤ IntKind.u64.wrap n ∧ IntKind.u64.wrap n ≤ 18446744073709551615 := by rw [IntKind.wrap_u64]; omega
theorem bits_u64_in (op : BinOp) (a b : Int) : 0 ≤ bits op .u64 a b ∧ bits op .u64 a b ≤ 18446744073709551615 := by unfold bits; exact wrap_u64_in _
theorem rl_in (x k : Int) : 0 ≤ rl x k ∧ rl x k ≤ 18446744073709551615 := bits_u64_in _ _ _
theorem xor64_in (a b : Int) : 0 ≤ xor64 a b ∧ xor64 a b ≤ 18446744073709551615 := bits_u64_in _ _ _

def rlN (x k : Nat) : Nat := x * 2 ^ k % 18446744073709551616 + x / 2 ^ (64 - k)
theorem rl_nat (x k : Nat) (hx : x < 18446744073709551616) (hk : k < 64) : rl x k = (rlN x k : Nat) := by
  unfold rl rlN
  have e1 : IntKind.u64.wrap ((x : Int) * 2 ^ (k : Int).toNat) = ((x * 2 ^ k % 18446744073709551616 : Nat) : Int) := by
    rw [IntKind.wrap_u64, Int.toNat_natCast]
    have : ((x * 2 ^ k : Nat) : Int) = (x : Int) * 2 ^ k := by simp
    rw [← this]; omega
  have e2 : (x : Int) / 2 ^ (64 - (k : Int)).toNat = ((x / 2 ^ (64 - k) : Nat) : Int) := by
    rw [show (64 - (k : Int)).toNat = 64 - k by omega]
    simp
  rw [e1, e2]
  have hp : (2 : Nat) ^ 64 = 2 ^ (64 - k) * 2 ^ k := by rw [← Nat.pow_add]; congr 1; omega
  have hlo : x / 2 ^ (64 - k) < 2 ^ k := by
    rw [Nat.div_lt_iff_lt_mul (Nat.two_pow_pos _), Nat.mul_comm, ← hp]
    simpa using hx
  have hm : x * 2 ^ k % 18446744073709551616 % 2 ^ k = 0 := by
    have : (18446744073709551616 : Nat) = 2 ^ k * 2 ^ (64 - k) := by rw [Nat.mul_comm, ← hp]
    rw [this, Nat.mod_mul_right_mod, Nat.mul_mod_left]
  have hle : x / 2 ^ (64 - k) ≤ x := Nat.div_le_self _ _
  have h := bits_join .u64 64 (by decide) (fun n h0 h1 => by rw [IntKind.wrap_u64]; omega) k ((x * 2 ^ k % 18446744073709551616 : Nat) : Int) ((x / 2 ^ (64 - k) : Nat) : Int)
    (by omega) (by have : (((x * 2 ^ k % 18446744073709551616 % 2 ^ k : Nat)) : Int) = 0 := by rw [hm]; rfl
                   simpa using this) (by have := Nat.mod_lt (x * 2 ^ k) (show 0 < 18446744073709551616 by decide); norm_cast) (Int.natCast_nonneg _) (by exact_mod_cast hlo) (by norm_cast; omega)
  rw [h]
  omega

theorem rlN_step (x k : Nat) (hx : x < 18446744073709551616) (hk : k < 63) : rlN x (k + 1) = rlN x k % 9223372036854775808 * 2 + rlN x k / 9223372036854775808 := by
  unfold rlN
  have hq : (2 : Nat) ^ (64 - k) = 2 ^ (63 - k) * 2 := by rw [← Nat.pow_succ]; congr 1; omega
  have hq2 : 64 - (k + 1) = 63 - k := by omega
  have hpq : (2 : Nat) ^ (63 - k) * 2 ^ k = 9223372036854775808 := by rw [← Nat.pow_add, show 63 - k + k = 63 by omega]
  rw [hq2, hq, Nat.pow_succ, ← Nat.div_div_eq_div_mul]
  generalize hQ : (2 : Nat) ^ (63 - k) = q at *
  generalize hP : (2 : Nat) ^ k = p at *
  have hqpos : 0 < q := by rw [← hQ]; exact Nat.two_pow_pos _
  have hx2 : x = x / q * q + x % q := by rw [Nat.mul_comm]; exact (Nat.div_add_mod x q).symm
  have hl : x % q < q := Nat.mod_lt _ hqpos
  generalize hX : x / q = X at *
  generalize hL : x % q = l at *
  have e1 : x * p = X * 9223372036854775808 + l * p := by rw [hx2, Nat.add_mul, Nat.mul_assoc, hpq]
  have e2 : x * (p * 2) = X * 18446744073709551616 + l * p * 2 := by rw [← Nat.mul_assoc, e1]; omega
  have hlp : l * p + p ≤ 9223372036854775808 := by
    rw [← hpq, ← Nat.succ_mul]
    exact Nat.mul_le_mul_right _ hl
  rw [e1, e2]
  have hp0 : 0 < p := by rw [← hP]; exact Nat.two_pow_pos _
  generalize l * p = P at *
  have hXle : X < p * 2 := by
    rcases Nat.lt_or_ge X (p * 2) with h | h
    · exact h
    · have h1 : p * 2 * q ≤ X * q := Nat.mul_le_mul_right _ h
      have e3 : p * 2 * q = 18446744073709551616 := by rw [Nat.mul_right_comm, Nat.mul_comm p q, hpq]
      omega
  have m1 : (X * 9223372036854775808 + P) % 18446744073709551616 = X % 2 * 9223372036854775808 + P := by
    rw [show X * 9223372036854775808 + P = (X % 2 * 9223372036854775808 + P) + X / 2 * 18446744073709551616 by omega, Nat.add_mul_mod_self_right, Nat.mod_eq_of_lt (by omega)]
  have m2 : (X * 18446744073709551616 + P * 2) % 18446744073709551616 = P * 2 := by
    rw [Nat.add_comm, Nat.add_mul_mod_self_right, Nat.mod_eq_of_lt (by omega)]
  rw [m1, m2]
  clear m1 m2 e1 e2 hx2 hpq hq hq2 hQ hP hX hL
  omega
theorem rlN_zero (x : Nat) (hx : x < 18446744073709551616) : rlN x 0 = x := by unfold rlN; simp; omega
theorem rlN_lt (x k : Nat) (hx : x < 18446744073709551616) (hk : k < 64) : rlN x k < 18446744073709551616 := by
  have h := rl_nat x k hx hk
  have h2 := rl_in x k
  omega

def tw (j : Nat) : Int := 2 ^ j
theorem tw_succ (j : Nat) : tw (j + 1) = tw j * 2 := Int.pow_succ 2 j
theorem tw_in (j : Nat) (h : j ≤ 62) : 0 ≤ tw j ∧ tw j ≤ 4611686018427387904 := by
  have hp : 2 ^ j ≤ 2 ^ 62 := Nat.pow_le_pow_right (by decide) h
  have e : tw j = ((2 ^ j : Nat) : Int) := (Int.natCast_pow 2 j).symm
  rw [e]
  have e62 : (2 : Nat) ^ 62 = 4611686018427387904 := by decide
  rw [e62] at hp
  generalize 2 ^ j = m at *
  omega
theorem tw_63 : tw 63 = 9223372036854775808 := rfl
set_option maxHeartbeats 400000 in
theorem refLeft_any (x k : Int) (w : World) (hx : 0 ≤ x) (hx' : x ≤ 18446744073709551615) (hk : 0 < k) (hk' : k < 64) :
    Calls Try.prog 105 #[.int .u64 x, .int .i64 64, .int .i64 k] w fun e w' => e = .returned (.int .u64 (rl x k)) ∧ w = w' := by
  obtain ⟨x, rfl⟩ := Int.eq_ofNat_of_zero_le hx
  obtain ⟨k, rfl⟩ := Int.eq_ofNat_of_zero_le (Int.le_of_lt hk)
  rw [rl_nat x k (by omega) (by omega)]
  go_enter Try.func105, Try.ntmps105
  go_wp2_with fail
  go_loopg [7, 8] 63 (fun n s i wr => ∃ j : Nat, n = 63 - j ∧ j ≤ 63 ∧ i = .int .i64 ((j : Int) + 1) ∧ s = .int .u64 (tw j) ∧ wr = w)
  case atStart => exact ⟨0, by omega, by omega, rfl, rfl, rfl⟩
  case round =>
    obtain ⟨j, rfl, hj, rfl, rfl, rfl⟩ := hrel
    by_cases hlt : j < 63
    · have hp := tw_in j (by omega)
      obtain ⟨hp2, hp3⟩ := hp
      go_wp2_with fail
      go_roundg (63 - (j + 1))
      case measure => omega
      case rel => exact ⟨j + 1, rfl, by omega, by go_num, by rw [tw_succ], rfl⟩
    · obtain rfl : j = 63 := by omega
      rw [tw_63]
      go_wp2_with fail
      go_loopg [0, 9] k (fun n s i wx => ∃ j : Nat, n = k - j ∧ j ≤ k ∧ i = .int .i64 (j : Int) ∧ s = .int .u64 (rlN x j : Nat) ∧ wx = wr)
      case atStart => exact ⟨0, by omega, by omega, rfl, by rw [rlN_zero x (by omega)], rfl⟩
      case round =>
        obtain ⟨j, rfl, hj, rfl, rfl, rfl⟩ := hrel
        by_cases hlt : j < k
        · have hl := rlN_lt x j (by omega) (by omega)
          have hs := Lib.hid (rlN_step x j (by omega) (by omega))
          go_wp2_with fail
          go_roundg (k - (j + 1))
          case measure => omega
          case rel => exact ⟨j + 1, rfl, by omega, by go_num, by rw [hs.out]; go_num, rfl⟩
        · obtain rfl : j = k := by omega
          go_wp2_with fail
          go_ret
          exact ⟨rfl, rfl⟩
theorem left_any (x k : Int) (w : World) (hx : 0 ≤ x) (hx' : x ≤ 18446744073709551615) (hk : 0 < k) (hk' : k < 64) :
    Calls Try.prog 99 #[.int .u64 x, .int .i64 k] w fun e w' => e = .returned (.int .u64 (rl x k)) ∧ w = w' := by
  go_enter Try.func99, Try.ntmps99
  go_wp2_with (go_at_call 105; refine (refLeft_any _ _ _ hx hx' hk hk').mono ?_; rintro e w' ⟨rfl, rfl⟩)
  go_ret
  exact ⟨rfl, rfl⟩
set_option maxHeartbeats 400000 in
theorem refRound_any (a b c d : Int) (w : World) (hb : 0 ≤ b ∧ b ≤ 18446744073709551615) (hd : 0 ≤ d ∧ d ≤ 18446744073709551615) :
    Calls Try.prog 87 #[.agg #[.int .u64 a, .int .u64 b, .int .u64 c, .int .u64 d]] w fun e w' => e = .returned (q4 (sipRound a b c d)) ∧ Below w.heap.size w w' := by
  go_enter Try.func87, Try.ntmps87
  go_wp2_with fail
  go_quiet (fail)
  have H1 := Lib.hid wrap_u64_in
  have H2 := Lib.hid bits_u64_in
  have H3 := Lib.hid rl_in
  go_wp2_with (go_at_call 99; refine (left_any _ _ _ (by first | exact hb.1 | exact hd.1 | exact (wrap_u64_in _).1 | exact (bits_u64_in _ _ _).1) (by first | exact hb.2 | exact hd.2 | exact (wrap_u64_in _).2 | exact (bits_u64_in _ _ _).2) (by omega) (by omega)).mono ?_; rintro e w' ⟨rfl, rfl⟩)
  refine bodyPost_ret (by simp [results, Try.results87, go_sem]; rfl) rfl ?_
  exact ⟨rfl, by (repeat' (first | (with_reducible exact Below.refl _ _) | (with_reducible assumption) | (with_reducible refine Below.alloc ?_ ?_ _) | (with_reducible refine Below.drew ?_) | (with_reducible refine below_drewN ?_ _) | (with_reducible refine Below.setCell ?_ ?_ _) | (first | (with_reducible exact Nat.le_refl _) | (with_reducible assumption) | omega | (simp; omega) | (simp; done))))⟩
set_option maxHeartbeats 400000 in
theorem refRange_any (x n : Int) (w : World) (hx : 0 ≤ x) (hx' : x ≤ 18446744073709551615) (hy : 0 ≤ n) (hy' : n ≤ 18446744073709551615) :
    Calls Try.prog 73 #[.int .u64 x, .int .u64 n] w fun e w' => e = .returned (.int .u64 (x * n / 18446744073709551616)) ∧ Below w.heap.size w w' := by
  obtain ⟨p, hp⟩ : ∃ p, (x % 4294967296) * (n % 4294967296) = p := ⟨_, rfl⟩
  obtain ⟨q, hq⟩ : ∃ p, (x / 4294967296) * (n % 4294967296) = p := ⟨_, rfl⟩
  obtain ⟨r, hr⟩ : ∃ p, (x % 4294967296) * (n / 4294967296) = p := ⟨_, rfl⟩
  obtain ⟨s, hs⟩ : ∃ p, (x / 4294967296) * (n / 4294967296) = p := ⟨_, rfl⟩
  obtain ⟨hfin, hp0, hp1, hq0, hq1, hr0, hr1, hs0, hs1⟩ := mul_hi x n hx hx' hy hy' _ _ _ _ p q r s rfl rfl rfl rfl hp hq hr hs
  have HF := Lib.hid hfin
  clear hfin
  go_enter Try.func73, Try.ntmps73
  go_wp2_with fail
  go_quiet (fail)
  go_wp2_with fail
  go_quiet (fail)
  go_wp2_with fail
  go_quiet (fail)
  go_wp2_with fail
  go_ret
  exact ⟨ret_eq (int_eq (by rw [HF.out]; omega)), by (repeat' (first | (with_reducible exact Below.refl _ _) | (with_reducible assumption) | (with_reducible refine Below.alloc ?_ ?_ _) | (with_reducible refine Below.drew ?_) | (with_reducible refine below_drewN ?_ _) | (with_reducible refine Below.setCell ?_ ?_ _) | (first | (with_reducible exact Nat.le_refl _) | (with_reducible assumption) | omega | (simp; omega) | (simp; done))))⟩
end Go.Proofs.Ythaceagaodjllaa
