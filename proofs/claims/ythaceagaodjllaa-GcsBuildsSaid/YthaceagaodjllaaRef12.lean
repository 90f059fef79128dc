/- The reference's Run, Take, Get (11, 12): the program's. -/
import Derived.Test.YthaceagaodjllaaRef11
namespace Go.Proofs.Ythaceagaodjllaa
open Go.RowKit

set_option maxRecDepth 20000 in
set_option maxHeartbeats 1000000 in
theorem run11_any (l : List UInt8) (at_ M : Nat) (k : Int) (w : World) (hat : at_ ≤ 8 * l.length) (hl : l.length ≤ 68719476736) (hk : k = (M : Int)) (hM : M ≤ 1099511627776) :
    Calls Try.prog 64 #[.string (tx (bt (bleft l at_))), .int .i64 k] w fun e w' => e = .returned (.tuple #[.string (tx (bt (bleft l (bRun l at_ M).2.1))), .int .i64 ((bRun l at_ M).1 : Int), .int .i64 ((bRun l at_ M).2.2 : Int)]) ∧ w = w' := by
  subst hk
  have hlen := bleft_length l at_
  have hbd : (bleft l at_).length ≤ 549755813888 := by omega
  have hdr : ∀ k, (bleft l at_).drop k = bleft l (at_ + k) := bleft_drop l at_
  have HE : Hid (∀ n a e, bRun l at_ M = (n, a, e) → bRun l at_ M = (n, a, e)) := Lib.hid (fun _ _ _ h => h)
  have HR : Hid (bRun l at_ M = if M < bOnes (bleft l at_) then (0, at_, 4) else if bOnes (bleft l at_) = (bleft l at_).length then (0, at_, 2) else (bOnes (bleft l at_), at_ + bOnes (bleft l at_) + 1, 0)) := rfl
  clear hlen HE
  generalize hbs : bleft l at_ = bs at *
  have HBS := Lib.hid hbs
  clear hbs
  have hsz : (tx (bt bs)).size = bs.length := by simp
  have hone := bOnes_le bs
  go_enter Try.func64, Try.ntmps64
  go_wp2_with fail
  go_loopg [7] bs.length (fun m i wx => ∃ j : Nat, m = bs.length - j ∧ j ≤ bs.length ∧ i = .int .i64 (j : Int) ∧ (∀ q, q < j → bs[q]? = some true) ∧ wx = w)
  case atStart => exact ⟨0, by omega, by omega, rfl, fun q hq => absurd hq (by omega), rfl⟩
  case round =>
    obtain ⟨j, rfl, hj, rfl, hones, rfl⟩ := hrel
    have HO := Lib.hid hones
    clear hones
    by_cases hlt : j < bs.length
    · have hb2 := bt_get bs j hlt
      have h49 := bt_eq49 bs[j]
      have hget : bs[j]? = some bs[j] := List.getElem?_eq_getElem hlt
      cases hbj : bs[j] with
      | true =>
        rw [hbj] at hb2 h49 hget
        simp only [if_true] at hb2 h49
        clear hbj
        have HG := Lib.hid hget
        clear hget
        go_wp2_with fail
        go_roundg (bs.length - (j + 1))
        case measure => omega
        case rel =>
          refine ⟨j + 1, rfl, by omega, by go_num, fun q hq => ?_, rfl⟩
          rcases Nat.lt_or_ge q j with h | h
          · exact HO.out q h
          · rw [show q = j by omega]; exact HG.out
      | false =>
        rw [hbj] at hb2 h49 hget
        simp only [Bool.false_eq_true, if_false] at hb2 h49
        clear hbj
        have h1 : bOnes bs = j := bOnes_eq _ _ HO.out (by rw [hget]; simp)
        rw [h1] at HR
        clear hget h1
        by_cases hm : M < j
        · have HV : Hid (bRun l at_ M = (0, at_, 4)) := Lib.hid (by rw [HR.out, if_pos hm])
          go_wp2_with fail
          go_ret3
          rw [HV.out]
          simp only
          rw [HBS.out]
          exact ⟨by first | trivial | rfl, by first | trivial | rfl⟩
        · have hmb : decide (M < j) = false := by rw [decide_eq_false_iff_not]; exact hm
          have HV : Hid (bRun l at_ M = (j, at_ + j + 1, 0)) := Lib.hid (by rw [HR.out, if_neg hm, if_neg (by omega)])
          have hex : (tx (bt bs)).extract (j + 1) bs.length = tx (bt (bs.drop (j + 1))) := by rw [tx_extract, List.take_of_length_le (by simp), bt_drop]
          have HD := Lib.hid (hdr (j + 1))
          clear hm hdr
          go_wp2_with fail
          go_ret3
          rw [HV.out]
          simp only
          rw [show at_ + j + 1 = at_ + (j + 1) by omega, ← HD.out]
          exact ⟨by first | trivial | rfl, by first | trivial | rfl⟩
    · obtain rfl : j = bs.length := by omega
      have h1 : bOnes bs = bs.length := bOnes_eq _ _ HO.out (by simp)
      rw [h1] at HR
      clear h1 hone
      by_cases hm : M < bs.length
      · have HV : Hid (bRun l at_ M = (0, at_, 4)) := Lib.hid (by rw [HR.out, if_pos hm])
        go_wp2_with fail
        go_ret3
        rw [HV.out]
        simp only
        rw [HBS.out]
        exact ⟨by first | trivial | rfl, by first | trivial | rfl⟩
      · have hmb : decide (M < bs.length) = false := by rw [decide_eq_false_iff_not]; exact hm
        have HV : Hid (bRun l at_ M = (0, at_, 2)) := Lib.hid (by rw [HR.out, if_neg hm, if_pos rfl])
        clear hm
        go_wp2_with fail
        go_ret3
        rw [HV.out]
        simp only
        rw [HBS.out]
        exact ⟨by first | trivial | rfl, by first | trivial | rfl⟩

set_option maxRecDepth 20000 in
set_option maxHeartbeats 1000000 in
theorem take11_any (l : List UInt8) (at_ n : Nat) (k : Int) (w : World) (hat : at_ ≤ 8 * l.length) (hl : l.length ≤ 68719476736) (hk : k = (n : Int)) (hn : n ≤ 63) :
    Calls Try.prog 65 #[.string (tx (bt (bleft l at_))), .int .i64 k] w fun e w' => e = .returned (.tuple #[.string (tx (bt (bleft l (bTake l at_ n).2.1))), .int .u64 ((bTake l at_ n).1 : Int), .int .i64 ((bTake l at_ n).2.2 : Int)]) ∧ Below w.heap.size w w' := by
  subst hk
  have hlen := bleft_length l at_
  have hbd : (bleft l at_).length ≤ 549755813888 := by omega
  have hdr := bleft_drop l at_ n
  have HR : Hid (bTake l at_ n = if (bleft l at_).length < n then (0, at_, 2) else (bval ((bleft l at_).take n), at_ + n, 0)) := rfl
  clear hlen
  generalize hbs : bleft l at_ = bs at *
  have HBS := Lib.hid hbs
  clear hbs
  have hsz : (tx (bt bs)).size = bs.length := by simp
  by_cases hlt : bs.length < n
  · have HV : Hid (bTake l at_ n = (0, at_, 2)) := Lib.hid (by rw [HR.out, if_pos hlt])
    clear hdr
    go_enter Try.func65, Try.ntmps65
    go_wp2_with fail
    go_ret3
    rw [HV.out]
    simp only
    rw [HBS.out]
    exact ⟨rfl, Below.refl _ _⟩
  · have hlb : decide (bs.length < n) = false := by rw [decide_eq_false_iff_not]; exact hlt
    have hle : n ≤ bs.length := by omega
    have HV : Hid (bTake l at_ n = (bval (bs.take n), at_ + n, 0)) := Lib.hid (by rw [HR.out, if_neg hlt])
    have hex : (tx (bt bs)).extract n bs.length = tx (bt (bs.drop n)) := by rw [tx_extract, List.take_of_length_le (by simp), bt_drop]
    have hex0 : (tx (bt bs)).extract 0 n = tx (bt (bs.take n)) := by rw [tx_extract, bt_take]; rfl
    have HD := Lib.hid hdr
    have hnum := fun w => number11_any (bs.take n) w (by simp; omega)
    have HNUM := Lib.hid hnum
    clear hlt hdr hnum
    go_enter Try.func65, Try.ntmps65
    go_wp2_with fail
    refine wp_region_grw (by kernel_rfl) (by kernel_rfl) ?_
    repeat (go_big_quiet_step ((go_at_call 41; exact Calls.of_grw_same (HNUM.out _))))
    refine wpQuiet_nil ?_
    rintro _ ⟨p, rfl⟩
    go_wp2_with fail
    go_ret3
    rw [HV.out]
    simp only
    rw [← HD.out]
    exact ⟨by first | trivial | rfl, below_grw w p⟩

def dbl (q : Nat) : Nat → Nat
  | 0 => q
  | j + 1 => dbl q j * 2
theorem dbl_eq (q : Nat) : dbl q 19 = q * 524288 := by simp only [dbl]; omega
theorem dbl_le (q j : Nat) (hq : q ≤ 65536) (hj : j ≤ 19) : dbl q j ≤ 34359738368 := by
  have h : dbl q j = q * 2 ^ j := by
    clear hj
    induction j with
    | zero => simp [dbl]
    | succ j ih => rw [dbl, ih, Nat.pow_succ, Nat.mul_assoc]
  rw [h]
  calc q * 2 ^ j ≤ 65536 * 2 ^ 19 := Nat.mul_le_mul hq (Nat.pow_le_pow_right (by decide) hj)
    _ = 34359738368 := by decide

theorem bRun_at (l : List UInt8) (at_ M : Nat) (h : at_ ≤ 8 * l.length) : (bRun l at_ M).2.1 ≤ 8 * l.length := by
  have h1 := bOnes_le (bleft l at_)
  have h2 := bleft_length l at_
  unfold bRun
  split
  · exact h
  · split
    · exact h
    · simp only; omega

set_option maxRecDepth 20000 in
set_option maxHeartbeats 1000000 in
theorem get12_any (l : List UInt8) (at_ : Nat) (w : World) (hat : at_ ≤ 8 * l.length) (hl : l.length ≤ 68719476736) :
    Calls Try.prog 40 #[.string (tx (bt (bleft l at_))), .int .i64 19, .int .i64 65536] w fun e w' => e = .returned (.tuple #[.string (tx (bt (bleft l (bGet l at_).2.1))), .int .u64 ((bGet l at_).1 : Int), .int .i64 ((bGet l at_).2.2 : Int)]) ∧ Below w.heap.size w w' := by
  have hrun := run11_any l at_ 65536 65536 w hat hl rfl (by omega)
  have hq := bRun_le l at_ 65536
  have ha1 := bRun_at l at_ 65536 hat
  have HG : Hid (bGet l at_ = if (bRun l at_ 65536).2.2 ≠ 0 then (0, at_, (bRun l at_ 65536).2.2)
      else if (bTake l (bRun l at_ 65536).2.1 19).2.2 ≠ 0 then (0, at_, (bTake l (bRun l at_ 65536).2.1 19).2.2)
      else ((bRun l at_ 65536).1 * 524288 + (bTake l (bRun l at_ 65536).2.1 19).1, (bTake l (bRun l at_ 65536).2.1 19).2.1, 0)) := rfl
  rcases hbr : bRun l at_ 65536 with ⟨q, a1, e1⟩
  rw [hbr] at hrun hq ha1 HG
  clear hbr
  simp only at hrun hq ha1 HG
  have HRUN := Lib.hid hrun
  have htake := fun w => take11_any l a1 19 19 w ha1 hl rfl (by omega)
  have hx := bTake_lt l a1 19
  rcases hbt : bTake l a1 19 with ⟨x, a2, e2⟩
  rw [hbt] at hx HG
  simp only [hbt] at htake
  clear hbt
  simp only [show (2 : Nat) ^ 19 = 524288 from rfl] at hx HG
  have HT := Lib.hid htake
  clear hrun htake
  go_enter Try.func40, Try.ntmps40
  go_wp2_with fail
  refine HRUN.out.mono ?_
  rintro e _ ⟨rfl, rfl⟩
  by_cases he : e1 = 0
  · subst he
    go_wp2_with fail
    refine (held12_any _).mono ?_
    rintro e _ ⟨rfl, rfl⟩
    go_wp2_with fail
    refine (HT.out w).mono ?_
    rintro e w2 ⟨rfl, hb2⟩
    by_cases he2 : e2 = 0
    · subst he2
      have HV : Hid (bGet l at_ = (q * 524288 + x, a2, 0)) := Lib.hid (by rw [HG.out, if_neg (by simp), if_neg (by simp)])
      go_wp2_with fail
      go_loopg [15, 16] 19 (fun m v i wx => ∃ j : Nat, m = 19 - j ∧ j ≤ 19 ∧ v = .int .u64 (dbl q j : Nat) ∧ i = .int .i64 (j : Int) ∧ wx = w2)
      case atStart => exact ⟨0, by omega, by omega, by first | rfl | exact int_eq (by simp [dbl]; omega), rfl, rfl⟩
      case round =>
        obtain ⟨j, rfl, hj, rfl, rfl, rfl⟩ := hrel
        by_cases hlt : j < 19
        · have hv := dbl_le q j hq (by omega)
          have HS : Hid (dbl q (j + 1) = dbl q j * 2) := rfl
          generalize dbl q j = v at *
          go_wp2_with fail
          refine (held12_any _).mono ?_
          rintro e _ ⟨rfl, rfl⟩
          go_wp2_with fail
          go_roundg (19 - (j + 1))
          case measure => omega
          case rel => exact ⟨j + 1, rfl, by omega, int_eq (by rw [HS.out]; omega), by go_num, rfl⟩
        · obtain rfl : j = 19 := by omega
          rw [dbl_eq]
          go_wp2_with fail
          refine (held12_any _).mono ?_
          rintro e _ ⟨rfl, rfl⟩
          go_wp2_with fail
          go_ret3
          rw [HV.out]
          refine ⟨?_, hb2⟩
          rw [show ((q * 524288 + x : Nat) : Int) = (q : Int) * 524288 + (x : Int) by omega]
          rfl
    · have he2' : ((e2 : Int) != 0) = true := by rw [bne_iff_ne]; omega
      have HV : Hid (bGet l at_ = (0, at_, e2)) := Lib.hid (by rw [HG.out, if_neg (by simp), if_pos he2])
      go_wp2_with fail
      go_ret3
      rw [HV.out]
      exact ⟨rfl, hb2⟩
  · have he' : ((e1 : Int) != 0) = true := by rw [bne_iff_ne]; omega
    have HV : Hid (bGet l at_ = (0, at_, e1)) := Lib.hid (by rw [HG.out, if_pos he])
    go_wp2_with fail
    go_ret3
    rw [HV.out]
    exact ⟨rfl, Below.refl _ _⟩
end Go.Proofs.Ythaceagaodjllaa
