/- The upper half of a product, and the keyed sum of a text: what the program computes. No condition but that numbers are of their kinds. -/
import Derived.Test.YthaceagaodjllaaSip
import Derived.Test.YthaceagaodjllaaReg
namespace Go.Proofs.Ythaceagaodjllaa
open Go.RowKit

theorem and64_low (z : Int) (h0 : 0 ≤ z) (h1 : z ≤ 18446744073709551615) : bits BinOp.and IntKind.u64 z 4294967295 = z % 4294967296 :=
  bits_mask .u64 64 (by decide) (fun n h0 h1 => by rw [IntKind.wrap_u64]; omega) 32 (by decide) z h0 (by omega)
theorem prod_le (a b : Int) (ha : 0 ≤ a) (ha' : a ≤ 4294967295) (hb : 0 ≤ b) (hb' : b ≤ 4294967295) : 0 ≤ a * b ∧ a * b ≤ 18446744065119617025 :=
  ⟨Int.mul_nonneg ha hb, by
    calc a * b ≤ 4294967295 * b := Int.mul_le_mul_of_nonneg_right ha' hb
      _ ≤ _ := by omega⟩
theorem hi_parts (a b c d p q r s : Int) (hp : b * d = p) (hq : a * d = q) (hr : b * c = r) (hs : a * c = s) :
    (a * 4294967296 + b) * (c * 4294967296 + d) = s * 18446744073709551616 + (q + r) * 4294967296 + p := by
  subst hp hq hr hs
  simp only [Int.add_mul, Int.mul_add]
  have e1 : a * 4294967296 * (c * 4294967296) = a * c * 18446744073709551616 := by
    rw [Int.mul_assoc, Int.mul_left_comm 4294967296, ← Int.mul_assoc, show (4294967296 : Int) * 4294967296 = 18446744073709551616 from by decide]
  have e2 : a * 4294967296 * d = a * d * 4294967296 := by rw [Int.mul_right_comm]
  have e3 : b * (c * 4294967296) = b * c * 4294967296 := by rw [Int.mul_assoc]
  omega
theorem mul_hi (x y : Int) (hx : 0 ≤ x) (hx' : x ≤ 18446744073709551615) (hy : 0 ≤ y) (hy' : y ≤ 18446744073709551615) (a b c d p q r s : Int)
    (ha : x / 4294967296 = a) (hb : x % 4294967296 = b) (hc : y / 4294967296 = c) (hd : y % 4294967296 = d)
    (hp : b * d = p) (hq : a * d = q) (hr : b * c = r) (hs : a * c = s) :
    x * y / 18446744073709551616 = s + (q + p / 4294967296) / 4294967296 + ((q + p / 4294967296) % 4294967296 + r) / 4294967296 ∧
    0 ≤ p ∧ p ≤ 18446744065119617025 ∧ 0 ≤ q ∧ q ≤ 18446744065119617025 ∧ 0 ≤ r ∧ r ≤ 18446744065119617025 ∧ 0 ≤ s ∧ s ≤ 18446744065119617025 := by
  have hpp := prod_le b d (by omega) (by omega) (by omega) (by omega)
  have hqq := prod_le a d (by omega) (by omega) (by omega) (by omega)
  have hrr := prod_le b c (by omega) (by omega) (by omega) (by omega)
  have hss := prod_le a c (by omega) (by omega) (by omega) (by omega)
  have hall := hi_parts a b c d p q r s hp hq hr hs
  have hx2 : x = a * 4294967296 + b := by omega
  have hy2 : y = c * 4294967296 + d := by omega
  rw [← hx2, ← hy2] at hall
  rw [hall]
  rw [hp] at hpp; rw [hq] at hqq; rw [hr] at hrr; rw [hs] at hss
  refine ⟨by omega, hpp.1, hpp.2, hqq.1, hqq.2, hrr.1, hrr.2, hss.1, hss.2⟩

theorem mul64_any (x y : Int) (w : World) (hx : 0 ≤ x) (hx' : x ≤ 18446744073709551615) (hy : 0 ≤ y) (hy' : y ≤ 18446744073709551615) :
    Calls Try.prog 67 #[.int .u64 x, .int .u64 y] w fun e w' => e = .returned (.tuple #[.int .u64 (x * y / 18446744073709551616), .int .u64 (IntKind.u64.wrap (x * y))]) ∧ w = w' := by
  obtain ⟨p, hp⟩ : ∃ p, (x % 4294967296) * (y % 4294967296) = p := ⟨_, rfl⟩
  obtain ⟨q, hq⟩ : ∃ p, (x / 4294967296) * (y % 4294967296) = p := ⟨_, rfl⟩
  obtain ⟨r, hr⟩ : ∃ p, (x % 4294967296) * (y / 4294967296) = p := ⟨_, rfl⟩
  obtain ⟨s, hs⟩ : ∃ p, (x / 4294967296) * (y / 4294967296) = p := ⟨_, rfl⟩
  obtain ⟨hfin, hp0, hp1, hq0, hq1, hr0, hr1, hs0, hs1⟩ := mul_hi x y hx hx' hy hy' _ _ _ _ p q r s rfl rfl rfl rfl hp hq hr hs
  have HF := Lib.hid hfin
  clear hfin
  have e1 := and64_low x hx hx'
  have e2 := and64_low y hy hy'
  have e3 := and64_low (q + p / 4294967296) (by omega) (by omega)
  go_enter Try.func67, Try.ntmps67
  go_wp2
  go_ret2
  rw [HF.out]
  refine ⟨?_, rfl⟩
  simp
theorem range_any (x n : Int) (w : World) (hx : 0 ≤ x) (hx' : x ≤ 18446744073709551615) (hy : 0 ≤ n) (hy' : n ≤ 18446744073709551615) :
    Calls Try.prog 42 #[.int .u64 x, .int .u64 n] w fun e w' => e = .returned (.int .u64 (x * n / 18446744073709551616)) ∧ w = w' := by
  go_enter Try.func42, Try.ntmps42
  go_wp2_with (go_at_call 67; refine (mul64_any _ _ _ hx hx' hy hy').mono ?_; rintro e w' ⟨rfl, rfl⟩)
  go_ret
  exact ⟨rfl, rfl⟩

def q4l (v : Int × Int × Int × Int) : List Value := [.int .u64 v.1, .int .u64 v.2.1, .int .u64 v.2.2.1, .int .u64 v.2.2.2]
theorem q4l_eq (v : Int × Int × Int × Int) : q4l v = [.int .u64 v.1, .int .u64 v.2.1, .int .u64 v.2.2.1, .int .u64 v.2.2.2] := rfl
theorem q4_eq (v : Int × Int × Int × Int) : q4 v = .agg #[.int .u64 v.1, .int .u64 v.2.1, .int .u64 v.2.2.1, .int .u64 v.2.2.2] := rfl
def sipStart (k0 k1 : Int) : Int × Int × Int × Int := (xor64 k0 8317987319222330741, xor64 k1 7237128888997146477, xor64 k0 7816392313619706465, xor64 k1 8387220255154660723)
def sipN (v : Int × Int × Int × Int) (l : List UInt8) : Nat → Int × Int × Int × Int
  | 0 => v
  | j + 1 => sipTake (sipN v l j) (leN ((l.drop (8 * j)).take 8) : Nat)
def sipLast (l : List UInt8) : Int := bits BinOp.or .u64 ((l.length : Int) % 256 * 72057594037927936) (leN (l.drop (8 * (l.length / 8))) : Nat)
def sipMid (v : Int × Int × Int × Int) : Int × Int × Int × Int := (v.1, v.2.1, xor64 v.2.2.1 255, v.2.2.2)
theorem sipMid_l (V : Int × Int × Int × Int) : q4l (sipMid V) = [.int .u64 V.1, .int .u64 V.2.1, .int .u64 (bits BinOp.xor IntKind.u64 V.2.2.1 255), .int .u64 V.2.2.2] := rfl
def sipRk (v : Int × Int × Int × Int) : Nat → Int × Int × Int × Int
  | 0 => v
  | k + 1 => sipR (sipRk v k)
def sipOut (r : Int × Int × Int × Int) : Int := xor64 (xor64 (xor64 r.1 r.2.1) r.2.2.1) r.2.2.2
def sipEnd (v : Int × Int × Int × Int) : Int := sipOut (sipRk (sipMid v) 4)
def sipHash (k0 k1 : Int) (l : List UInt8) : Int := sipEnd (sipTake (sipN (sipStart k0 k1) l (l.length / 8)) (sipLast l))

set_option maxHeartbeats 800000 in
theorem hash_any (k0 k1 : Int) (A : Option Addr) (c : Nat) (l : List UInt8) (w : World) (hrd : Rd w w.heap.size A (u8s l)) (hl : l.length ≤ c) (hcap : c ≤ 9223372036854775807) :
    Calls Try.prog 43 #[.agg #[.int .u64 k0, .int .u64 k1], .slice A l.length c] w fun e w' => e = .returned (.int .u64 (sipHash k0 k1 l)) ∧ Below w.heap.size w w' := by
  go_enter Try.func43, Try.ntmps43
  go_wp2_with fail
  refine absw (fun x => Row x (w.heap.size + 1) 115 (q4l (sipStart k0 k1)) ∧ Rd x w.heap.size A (u8s l) ∧ Below w.heap.size w x)
    ⟨?_, (hrd.alloc _).alloc _, by (repeat' (first | (with_reducible exact Below.refl _ _) | (with_reducible assumption) | (with_reducible refine Below.alloc ?_ ?_ _) | (with_reducible refine Below.drew ?_) | (with_reducible refine below_drewN ?_ _) | (with_reducible refine Below.setCell ?_ ?_ _) | (first | (with_reducible exact Nat.le_refl _) | (with_reducible assumption) | omega | (simp; omega) | (simp; done))))⟩ ?_
  · exact Row.new_eq (by simp)
  rintro w1 ⟨hr0, hrd0, hb0⟩
  go_loopg [1] l.length (fun n s wr => ∃ (j : Nat) (A' : Option Addr) (c' : Nat), n = l.length - 8 * j ∧ 8 * j ≤ l.length ∧ l.length - 8 * j ≤ c' ∧ c' ≤ c ∧ s = .slice A' (l.length - 8 * j) c' ∧ Rd wr w.heap.size A' (u8s (l.drop (8 * j))) ∧
      Row wr (w.heap.size + 1) 115 (q4l (sipN (sipStart k0 k1) l j)) ∧ Below w.heap.size w wr)
  case atStart => exact ⟨0, A, c, by omega, by omega, by omega, Nat.le_refl _, by simp, by simpa using hrd0, hr0, hb0⟩
  case round =>
    obtain ⟨j, A', c', rfl, hj, hc', hcc, rfl, hrdr, hrr, hbr⟩ := hrel
    by_cases hge : 8 ≤ l.length - 8 * j
    · obtain ⟨b, off, rfl, hb1, hb2, hcell⟩ := hrdr.at (k := 0) (by simp; omega)
      clear hcell
      have hc : ∀ p i, (grw wr p).cell? ⟨w.heap.size + 1, i, none⟩ = (q4l (sipN (sipStart k0 k1) l j))[i]? := fun p => (hrr.grw p).cell
      simp only [q4l] at hc
      have hn : ∀ p, Calls Try.prog 69 #[.slice (some ⟨b, off, none⟩) (l.length - 8 * j) c'] (grw wr p) fun e w' => e = .returned (.int .u64 (leN ((l.drop (8 * j)).take 8) : Nat)) ∧ grw wr p = w' := fun p => by
        have := num_any (some ⟨b, off, none⟩) c' (l.drop (8 * j)) (grw wr p) ((hrdr.grw p).top) (by simp; omega)
        simpa using this
      have HN := Lib.hid hn
      clear hn
      go_wp2_with fail
      refine wp_region_grw_tail 4 (by kernel_rfl) (by kernel_rfl) ?_
      simp only [List.take_succ_cons, List.take_zero, List.drop_succ_cons, List.drop_zero]
      repeat (go_big_quiet_step ((first | (go_at_call 69; exact Calls.of_grw_same (HN.out _)) | (go_at_call 68; exact Calls.of_grw (take_any _ _ _ _ _ _)))))
      refine wpQuiet_nil ?_
      rintro _ ⟨p, rfl⟩
      have e1 : q4 (sipTake ((sipN (sipStart k0 k1) l j).1, (sipN (sipStart k0 k1) l j).2.1, (sipN (sipStart k0 k1) l j).2.2.1, (sipN (sipStart k0 k1) l j).2.2.2) (leN ((l.drop (8 * j)).take 8) : Nat)) = q4 (sipN (sipStart k0 k1) l (j + 1)) := rfl
      rw [e1]
      clear e1 hc
      refine absw (fun x => Row x (w.heap.size + 1) 115 (q4l (sipN (sipStart k0 k1) l j)) ∧ Rd x w.heap.size (some ⟨b, off, none⟩) (u8s (l.drop (8 * j))) ∧ Below w.heap.size w x)
        ⟨hrr.grw p, hrdr.grw p, bgrw hbr hbr.size p⟩ ?_
      rintro w2 ⟨hr2, hrd2, hb3⟩
      clear hrr hrdr hbr
      have hc2 := hr2.cell
      have hf2 := hr2.frozen
      simp only [q4l] at hc2
      simp only [q4]
      go_wp2_with fail
      all_goals
        go_roundg (l.length - 8 * (j + 1))
        case measure => omega
        case rel =>
          refine ⟨j + 1, _, _, rfl, ?_, ?_, ?_, slice_eq (show l.length - 8 * j - 8 = l.length - 8 * (j + 1) by omega), ?_, ?_, ?_⟩
          · omega
          · omega
          · omega
          · first
              | exact Rd.len0 (by simp; omega)
              | (refine Rd.setCell (Rd.setCell (Rd.setCell (Rd.setCell ?_ (by simp) _) (by simp) _) (by simp) _) (by simp) _
                 have := hrd2.shift 8
                 rwa [u8s_drop, List.drop_drop, show 8 * j + 8 = 8 * (j + 1) by omega] at this)
          · simp only [q4l] at hr2 ⊢
            ((repeat' (first | (with_reducible assumption) | (with_reducible apply Row.set_eq) | ((with_reducible apply Row.far); rotate_left; focus (first | (simp; done) | (simp; omega) | omega)) | (with_reducible apply Row.drew) | (with_reducible apply Row.drewN) | (with_reducible apply Row.alloc))) <;> rfl)
          · (repeat' (first | (with_reducible exact Below.refl _ _) | (with_reducible assumption) | (with_reducible refine Below.alloc ?_ ?_ _) | (with_reducible refine Below.drew ?_) | (with_reducible refine below_drewN ?_ _) | (with_reducible refine Below.setCell ?_ ?_ _) | (first | (with_reducible exact Nat.le_refl _) | (with_reducible assumption) | omega | (simp; omega) | (simp; done))))
    · have HJ : Hid (j = l.length / 8) := by show j = l.length / 8; omega
      have hlt : ((l.length - 8 * j : Nat) : Int) < 8 := by omega
      have hn : ∀ p, Calls Try.prog 69 #[.slice A' (l.length - 8 * j) c'] (grw wr p) fun e w' => e = .returned (.int .u64 (leN (l.drop (8 * j)) : Nat)) ∧ grw wr p = w' := fun p => by
        have := num_any A' c' (l.drop (8 * j)) (grw wr p) ((hrdr.grw p).top) (by simp; omega)
        rw [List.take_of_length_le (by simp; omega)] at this
        simpa using this
      have HN := Lib.hid hn
      clear hn
      have hc : ∀ p i, (grw wr p).cell? ⟨w.heap.size + 1, i, none⟩ = (q4l (sipN (sipStart k0 k1) l j))[i]? := fun p => (hrr.grw p).cell
      simp only [q4l] at hc
      go_wp2_with fail
      refine wp_region_grw_tail 6 (by kernel_rfl) (by kernel_rfl) ?_
      simp only [List.take_succ_cons, List.take_zero, List.drop_succ_cons, List.drop_zero]
      repeat (go_big_quiet_step ((first | (go_at_call 69; exact Calls.of_grw_same (HN.out _)) | (go_at_call 68; exact Calls.of_grw (take_any _ _ _ _ _ _)))))
      refine wpQuiet_nil ?_
      rintro _ ⟨p, rfl⟩
      clear hc
      refine absw (fun x => Row x (w.heap.size + 1) 115 (q4l (sipN (sipStart k0 k1) l j)) ∧ Below w.heap.size w x)
        ⟨hrr.grw p, bgrw hbr hbr.size p⟩ ?_
      rintro w2 ⟨hr2, hb3⟩
      clear hrr hrdr hbr
      have hc2 := hr2.cell
      have hf2 := hr2.frozen
      simp only [q4l] at hc2
      have eL : sipTake ((sipN (sipStart k0 k1) l j).1, (sipN (sipStart k0 k1) l j).2.1, (sipN (sipStart k0 k1) l j).2.2.1, (sipN (sipStart k0 k1) l j).2.2.2) (bits BinOp.or IntKind.u64 ((l.length : Int) % 256 * 72057594037927936) (leN (l.drop (8 * j)) : Nat))
          = sipTake (sipN (sipStart k0 k1) l (l.length / 8)) (sipLast l) := by rw [sipLast, ← HJ.out]
      rw [eL]
      clear eL
      generalize hV : sipTake (sipN (sipStart k0 k1) l (l.length / 8)) (sipLast l) = V
      have HV := Lib.hid hV
      clear hV
      simp only [q4]
      go_wp2_with fail
      refine absw (fun x => Row x (w.heap.size + 1) 115 (q4l (sipMid V)) ∧ Below w.heap.size w x) ⟨?_, by (repeat' (first | (with_reducible exact Below.refl _ _) | (with_reducible assumption) | (with_reducible refine Below.alloc ?_ ?_ _) | (with_reducible refine Below.drew ?_) | (with_reducible refine below_drewN ?_ _) | (with_reducible refine Below.setCell ?_ ?_ _) | (first | (with_reducible exact Nat.le_refl _) | (with_reducible assumption) | omega | (simp; omega) | (simp; done))))⟩ ?_
      · rw [sipMid_l]
        simp only [q4l] at hr2
        ((repeat' (first | (with_reducible assumption) | (with_reducible apply Row.set_eq) | ((with_reducible apply Row.far); rotate_left; focus (first | (simp; done) | (simp; omega) | omega)) | (with_reducible apply Row.drew) | (with_reducible apply Row.drewN) | (with_reducible apply Row.alloc))) <;> rfl)
      rintro w3 ⟨hr3, hb4⟩
      clear hr2 hc2 hf2 hb3
      go_loopg [44] 4 (fun n s wr => ∃ k : Nat, n = 4 - k ∧ k ≤ 4 ∧ s = .int .i64 k ∧ Row wr (w.heap.size + 1) 115 (q4l (sipRk (sipMid V) k)) ∧ Below w.heap.size w wr)
      case atStart => exact ⟨0, by omega, by omega, rfl, hr3, hb4⟩
      case round =>
        obtain ⟨k, rfl, hk, rfl, hrk, hbk⟩ := hrel
        have hck := hrk.cell
        have hfk := hrk.frozen
        simp only [q4l] at hck
        by_cases hlt4 : k < 4
        · go_wp2_with fail
          refine (round_any _ _ _ _ _).mono ?_
          rintro e w4 ⟨rfl, hb5⟩
          have e1 : q4 (sipRound (sipRk (sipMid V) k).1 (sipRk (sipMid V) k).2.1 (sipRk (sipMid V) k).2.2.1 (sipRk (sipMid V) k).2.2.2) = q4 (sipRk (sipMid V) (k + 1)) := rfl
          rw [e1]
          clear e1
          have hr5 := hrk.below hb5 hrk.lt
          have hb6 := hbk.trans (hb5.mono hbk.size)
          clear hck hfk hrk hb5 hbk
          have hck := hr5.cell
          have hfk := hr5.frozen
          simp only [q4l] at hck
          simp only [q4]
          go_wp2_with fail
          go_roundg (4 - (k + 1))
          case measure => omega
          case rel =>
            refine ⟨k + 1, rfl, by omega, by go_num, ?_, by (repeat' (first | (with_reducible exact Below.refl _ _) | (with_reducible assumption) | (with_reducible refine Below.alloc ?_ ?_ _) | (with_reducible refine Below.drew ?_) | (with_reducible refine below_drewN ?_ _) | (with_reducible refine Below.setCell ?_ ?_ _) | (first | (with_reducible exact Nat.le_refl _) | (with_reducible assumption) | omega | (simp; omega) | (simp; done))))⟩
            simp only [q4l] at hr5 ⊢
            ((repeat' (first | (with_reducible assumption) | (with_reducible apply Row.set_eq) | ((with_reducible apply Row.far); rotate_left; focus (first | (simp; done) | (simp; omega) | omega)) | (with_reducible apply Row.drew) | (with_reducible apply Row.drewN) | (with_reducible apply Row.alloc))) <;> rfl)
        · obtain rfl : k = 4 := by omega
          go_wp2_with fail
          go_ret
          refine ⟨?_, by (repeat' (first | (with_reducible exact Below.refl _ _) | (with_reducible assumption) | (with_reducible refine Below.alloc ?_ ?_ _) | (with_reducible refine Below.drew ?_) | (with_reducible refine below_drewN ?_ _) | (with_reducible refine Below.setCell ?_ ?_ _) | (first | (with_reducible exact Nat.le_refl _) | (with_reducible assumption) | omega | (simp; omega) | (simp; done))))⟩
          simp only [sipHash, HV.out, sipEnd, sipOut, xor64]
          rfl
end Go.Proofs.Ythaceagaodjllaa
