/- The reader of bits. Bytes up to 2^36. -/
import Derived.Test.YthaceagaodjllaaBitW
namespace Go.Proofs.Ythaceagaodjllaa
open Go.RowKit

/-- The reader at block g: its bytes, where it stands. -/
structure Brd (w : World) (B g : Nat) (l : List UInt8) (at_ : Nat) : Prop where
  ex : ∃ A c, Row w g 104 [.slice A l.length c, .int .i64 (at_ : Int)] ∧ Rd w B A (u8s l)
  le : at_ ≤ 8 * l.length
  bg : B ≤ g
theorem Brd.lt {w : World} {B g : Nat} {l : List UInt8} {at_ : Nat} (h : Brd w B g l at_) : g < w.heap.size := by
  obtain ⟨A, c, hr, _⟩ := h.ex
  exact hr.lt
theorem Brd.keep {w w' : World} {B g : Nat} {l : List UInt8} {at_ C : Nat} (h : Brd w B g l at_) (hb : Below C w w') (hg : g < C) : Brd w' B g l at_ := by
  obtain ⟨A, c, hr, hd⟩ := h.ex
  exact ⟨⟨A, c, hr.below hb hg, hd.below (hb.mono (by have := h.bg; omega))⟩, h.le, h.bg⟩
/-- What is left. -/
def bleft (l : List UInt8) (at_ : Nat) : List Bool := (unpack l).drop at_
theorem bleft_length (l : List UInt8) (at_ : Nat) : (bleft l at_).length = 8 * l.length - at_ := by simp [bleft]
theorem bleft_drop (l : List UInt8) (at_ k : Nat) : (bleft l at_).drop k = bleft l (at_ + k) := by simp [bleft, Nat.add_comm]

set_option maxHeartbeats 400000 in
theorem of_any_b (A : Option Addr) (c : Nat) (l : List UInt8) (w : World) (hrd : Rd w w.heap.size A (u8s l)) (hl : l.length ≤ 1099511627776) :
    Calls Try.prog 32 #[.slice A l.length c] w fun e w' => ∃ g, e = .returned (.pointer (some ⟨g, 0, none⟩)) ∧ w.heap.size ≤ g ∧ Brd w' g g l 0 ∧ Below w.heap.size w w' := by
  go_enter Try.func32, Try.ntmps32
  go_wp2_with fail
  refine (clone_any A c l _ hrd hl).mono ?_
  rintro e w1 ⟨A', c', rfl, hown, hb⟩
  go_wp2_with fail
  go_ret
  exact ⟨w1.heap.size, rfl, hb.size, ⟨⟨A', c', Row.new _ _ _, (own_rd hown).alloc _⟩, Nat.zero_le _, Nat.le_refl _⟩, hb.alloc hb.size _⟩

theorem left_any_b (B g : Nat) (l : List UInt8) (at_ : Nat) (w : World) (hr : Brd w B g l at_) (hl : l.length ≤ 68719476736) :
    Calls Try.prog 36 #[.pointer (some ⟨g, 0, none⟩)] w fun e' w' => e' = .returned (.int .i64 ((bleft l at_).length : Int)) ∧ Below w.heap.size w w' := by
  obtain ⟨A, c, hrow, hrd⟩ := hr.ex
  have hc := hrow.cell
  have hle := hr.le
  have h2 : ((8 * l.length - at_ : Nat) : Int) = 8 * (l.length : Int) - (at_ : Int) := by omega
  rw [bleft_length, h2]
  clear h2
  go_enter Try.func36, Try.ntmps36
  go_wp2_with fail
  go_quiet (fail)
  go_wp2_with fail
  go_ret
  exact ⟨rfl, by (repeat' (first | (with_reducible exact Below.refl _ _) | (with_reducible assumption) | (with_reducible refine Below.alloc ?_ ?_ _) | (with_reducible refine Below.drew ?_) | (with_reducible refine below_drewN ?_ _) | (with_reducible refine Below.setCell ?_ ?_ _) | (first | (with_reducible exact Nat.le_refl _) | (with_reducible assumption) | omega | (simp; omega) | (simp; done))))⟩

theorem bit_val (b : Nat) (r : Nat) (hb : b < 256) : bits .and .u64 (IntKind.u64.wrap ((b : Int) / 2 ^ r)) 1 = ((decide (b / 2 ^ r % 2 = 1)).toNat : Int) := by
  have e : ((b : Int) / 2 ^ r) = ((b / 2 ^ r : Nat) : Int) := by simp
  have hd : b / 2 ^ r ≤ b := Nat.div_le_self _ _
  rw [e]
  clear e
  generalize b / 2 ^ r = q at *
  rw [show IntKind.u64.wrap (q : Int) = (q : Int) by rw [IntKind.wrap_u64]; omega, and64_one _ (by omega)]
  have : q % 2 = 0 ∨ q % 2 = 1 := by omega
  rcases this with h | h <;> simp [h]

set_option maxHeartbeats 400000 in
theorem bit_any_b (B g : Nat) (l : List UInt8) (at_ i : Nat) (k : Int) (w : World) (hr : Brd w B g l at_) (hl : l.length ≤ 68719476736) (hk : k = (i : Int)) (hi : i < 8 * l.length) :
    Calls Try.prog 61 #[.pointer (some ⟨g, 0, none⟩), .int .i64 k] w fun e' w' => e' = .returned (.int .u64 ((((unpack l)[i]'(by simpa using hi)).toNat : Nat) : Int)) ∧ w = w' := by
  subst hk
  obtain ⟨A, c, hrow, hrd⟩ := hr.ex
  have hc := hrow.cell
  obtain ⟨b, off, rfl, _, _, hcell⟩ := hrd.at (k := i / 8) (by simp; omega)
  rw [u8s_get _ _ (by omega)] at hcell
  have hby : l[i / 8].toNat < 256 := l[i / 8].toNat_lt
  have hu := unpack_get l i hi
  rw [List.getElem?_eq_getElem (by simpa using hi)] at hu
  injection hu with hu
  rw [hu]
  have HV := Lib.hid (bit_val l[i / 8].toNat (7 - i % 8) hby)
  have hi1 : (0 : Int) ≤ (i : Int) / 8 := by omega
  have hi2 : (i : Int) / 8 < (l.length : Int) := by omega
  have hi3 : ((i : Int) / 8).toNat = i / 8 := by omega
  have hi4 : (0 : Int) ≤ 7 - (i : Int) % 8 := by omega
  have hi5 : (7 - (i : Int) % 8).toNat = 7 - i % 8 := by omega
  clear hu
  generalize l[i / 8].toNat = v at *
  go_enter Try.func61, Try.ntmps61
  go_wp2_with fail
  go_ret
  exact ⟨ret_eq (int_eq HV.out), rfl⟩

theorem or64_bit (x b : Nat) (hx : 2 * x + b < 18446744073709551616) (hb : b < 2) : bits .or .u64 (IntKind.u64.wrap ((x : Int) * 2)) (b : Int) = ((2 * x + b : Nat) : Int) := by
  rw [show IntKind.u64.wrap ((x : Int) * 2) = ((2 * x : Nat) : Int) by rw [IntKind.wrap_u64]; omega,
    (bits_nat .u64 64 (by decide) (fun n h0 h1 => by rw [IntKind.wrap_u64]; omega) (2 * x) b (by omega) (by omega)).2]
  have := Nat.two_pow_add_eq_or_of_lt (i := 1) (b := b) (by omega) x
  rw [Nat.pow_one] at this
  rw [this]

/-- What Take hands back, and what it leaves. -/
def bTake (l : List UInt8) (at_ k : Nat) : Nat × Nat × Nat := if (bleft l at_).length < k then (0, at_, 2) else (bval ((bleft l at_).take k), at_ + k, 0)
/-- What Run hands back, and what it leaves. -/
def bOnes (l : List Bool) : Nat := (l.takeWhile id).length
def bRun (l : List UInt8) (at_ most : Nat) : Nat × Nat × Nat :=
  if most < bOnes (bleft l at_) then (0, at_, 4) else if bOnes (bleft l at_) = (bleft l at_).length then (0, at_, 2) else (bOnes (bleft l at_), at_ + bOnes (bleft l at_) + 1, 0)

theorem bval_take_lt (l : List Bool) (k : Nat) (hk : k ≤ 63) : bval (l.take k) < 9223372036854775808 := by
  have h := bval_lt (l.take k)
  calc bval (l.take k) < 2 ^ (l.take k).length := h
    _ ≤ 2 ^ 63 := Nat.pow_le_pow_right (by decide) (by simp; omega)

set_option maxHeartbeats 1000000 in
theorem take_any_b (B g : Nat) (l : List UInt8) (at_ n : Nat) (k : Int) (w : World) (hr : Brd w B g l at_) (hl : l.length ≤ 68719476736) (hk : k = (n : Int)) (hn : n ≤ 64) :
    Calls Try.prog 60 #[.pointer (some ⟨g, 0, none⟩), .int .i64 k] w fun e w' => e = .returned (.tuple #[.int .u64 ((bTake l at_ n).1 : Int), .int .i64 ((bTake l at_ n).2.2 : Int)]) ∧ Brd w' B g l (bTake l at_ n).2.1 ∧ w.grownBy w' (some g) := by
  subst hk
  by_cases hlt : (bleft l at_).length < n
  · have HT := Lib.hid (show bTake l at_ n = (0, at_, 2) by rw [bTake, if_pos hlt])
    go_enter Try.func60, Try.ntmps60
    go_wp2_with fail
    refine (left_any_b B g l at_ w hr hl).mono ?_
    rintro e w1 ⟨rfl, hb1⟩
    go_wp2_with fail
    go_ret2
    rw [HT.out]
    exact ⟨rfl, hr.keep hb1 hr.lt, gr_below hb1⟩
  · have HT := Lib.hid (show bTake l at_ n = (bval ((bleft l at_).take n), at_ + n, 0) by rw [bTake, if_neg hlt])
    have hle : n ≤ (bleft l at_).length := by omega
    have hdl : decide ((bleft l at_).length < n) = false := by rw [decide_eq_false_iff_not]; exact hlt
    clear hlt
    go_enter Try.func60, Try.ntmps60
    go_wp2_with fail
    refine (left_any_b B g l at_ w hr hl).mono ?_
    rintro e w1 ⟨rfl, hb1⟩
    have hr1 := hr.keep hb1 hr.lt
    go_wp2_with fail
    go_loopg [6, 15] n (fun m s i wx => ∃ j, m = n - j ∧ j ≤ n ∧ s = .int .u64 (bval ((bleft l at_).take j) : Nat) ∧ i = .int .i64 (j : Int) ∧ Brd wx B g l (at_ + j) ∧ w.grownBy wx (some g))
    case atStart => exact ⟨0, by omega, by omega, rfl, rfl, hr1, gr_below hb1⟩
    case round =>
      obtain ⟨j, rfl, hj, rfl, rfl, hbr, hgr⟩ := hrel
      by_cases hlt : j < n
      · have hlen := bleft_length l at_
        have hidx : at_ + j < 8 * l.length := by omega
        obtain ⟨A, c, hrow, hrd⟩ := hbr.ex
        have hc := hrow.cell
        have hf := hrow.frozen
        have hbit := bit_any_b B g l (at_ + j) (at_ + j) ((at_ : Int) + (j : Int)) wr hbr hl (by omega) hidx
        have hget : (bleft l at_)[j]'(by omega) = (unpack l)[at_ + j]'(by simpa using hidx) := by simp [bleft]
        have HS : Hid (bval ((bleft l at_).take (j + 1)) = 2 * bval ((bleft l at_).take j) + ((unpack l)[at_ + j]'(by simpa using hidx)).toNat) := by
          show bval _ = _
          rw [take_snoc _ j (by omega), bval_snoc, hget]
        have hbl := bval_take_lt (bleft l at_) j (by omega)
        have hb2 := Bool.toNat_lt ((unpack l)[at_ + j]'(by simpa using hidx))
        generalize ((unpack l)[at_ + j]'(by simpa using hidx)).toNat = b at *
        generalize bval ((bleft l at_).take j) = x at *
        have HO := Lib.hid (or64_bit x b (by omega) hb2)
        have HB := Lib.hid hbit
        have HI := Lib.hid hidx
        have HL := Lib.hid hl
        have hsm : at_ + j ≤ 549755813888 := by omega
        clear hlen hbit hget hidx hl hbl hb2
        go_wp2_with fail
        refine HB.out.mono ?_
        rintro e _ ⟨rfl, rfl⟩
        go_wp2_with fail
        have hg := hrow.lt
        refine absw (fun x => Row x g 104 [.slice A l.length c, .int .i64 ((at_ + (j + 1) : Nat) : Int)] ∧ Rd x B A (u8s l) ∧ w.grownBy x (some g)) ?_ ?_
        · refine ⟨?_, hrd.setCell hr.bg _, gr_trans hgr (gr_set _ 1 _)⟩
          rw [show ((at_ + (j + 1) : Nat) : Int) = (at_ : Int) + (j : Int) + 1 by omega]
          ((repeat' (first | (with_reducible assumption) | (with_reducible apply Row.set_eq) | ((with_reducible apply Row.far); rotate_left; focus (first | (simp; done) | (simp; omega) | omega)) | (with_reducible apply Row.drew) | (with_reducible apply Row.drewN) | (with_reducible apply Row.alloc))) <;> rfl)
        rintro wA ⟨hrowA, hrdA, hgA⟩
        go_roundg (n - (j + 1))
        case measure => omega
        case rel => exact ⟨j + 1, rfl, by omega, int_eq (by rw [HS.out, HO.out]), int_eq (by omega), ⟨⟨A, c, hrowA, hrdA⟩, by have := HI.out; omega, hr.bg⟩, hgA⟩
      · obtain rfl : j = n := by omega
        go_wp2_with fail
        go_ret2
        rw [HT.out]
        exact ⟨rfl, hbr, hgr⟩

theorem bOnes_cons (b : Bool) (l : List Bool) : bOnes (b :: l) = if b then bOnes l + 1 else 0 := by cases b <;> simp [bOnes]
theorem bOnes_le (l : List Bool) : bOnes l ≤ l.length := by
  induction l with
  | nil => simp [bOnes]
  | cons b l ih => rw [bOnes_cons, List.length_cons]; split <;> omega
theorem bOnes_eq (l : List Bool) (n : Nat) (h : ∀ j, j < n → l[j]? = some true) (hn : l[n]? ≠ some true) : bOnes l = n := by
  induction l generalizing n with
  | nil =>
    cases n with
    | zero => rfl
    | succ n => have := h 0 (by omega); simp at this
  | cons b l ih =>
    rw [bOnes_cons]
    cases n with
    | zero =>
      have : b = false := by simpa using hn
      simp [this]
    | succ n =>
      have hb := h 0 (by omega)
      simp at hb
      rw [if_pos hb, ih n (fun j hj => by have := h (j + 1) (by omega); simpa using this) (by simpa using hn)]
theorem bOnes_ge (l : List Bool) (n : Nat) (h : ∀ j, j < n → l[j]? = some true) : n ≤ bOnes l := by
  induction l generalizing n with
  | nil =>
    cases n with
    | zero => omega
    | succ n => have := h 0 (by omega); simp at this
  | cons b l ih =>
    rw [bOnes_cons]
    cases n with
    | zero => omega
    | succ n =>
      have hb := h 0 (by omega)
      simp at hb
      rw [if_pos hb]
      have := ih n (fun j hj => by have := h (j + 1) (by omega); simpa using this)
      omega

set_option maxRecDepth 20000 in
set_option maxHeartbeats 1000000 in
theorem run_any_b (B g : Nat) (l : List UInt8) (at_ M : Nat) (k : Int) (w : World) (hr : Brd w B g l at_) (hl : l.length ≤ 68719476736) (hk : k = (M : Int)) (hM : M ≤ 1099511627776) :
    Calls Try.prog 59 #[.pointer (some ⟨g, 0, none⟩), .int .i64 k] w fun e w' => e = .returned (.tuple #[.int .i64 ((bRun l at_ M).1 : Int), .int .i64 ((bRun l at_ M).2.2 : Int)]) ∧ Brd w' B g l (bRun l at_ M).2.1 ∧ w.grownBy w' (some g) := by
  subst hk
  have hlen := bleft_length l at_
  have hat := hr.le
  go_enter Try.func59, Try.ntmps59
  go_wp2_with fail
  go_loopg [6] ((bleft l at_).length + 1) (fun m i wx => ∃ j : Nat, m = (bleft l at_).length + 1 - j ∧ j ≤ (bleft l at_).length ∧ j ≤ M ∧ i = .int .i64 (j : Int) ∧ (∀ q, q < j → (bleft l at_)[q]? = some true) ∧ Brd wx B g l at_ ∧ Below w.heap.size w wx)
  case atStart => exact ⟨0, by omega, by omega, by omega, rfl, fun q hq => absurd hq (by omega), hr, Below.refl _ _⟩
  case round =>
    obtain ⟨j, rfl, hj, hjM, rfl, hones, hbr, hbl⟩ := hrel
    go_wp2_with fail
    refine (left_any_b B g l at_ wr hbr hl).mono ?_
    rintro e w1 ⟨rfl, hb1⟩
    have hbr1 := hbr.keep hb1 hbr.lt
    have hbl1 := hbl.trans (hb1.mono hbl.size)
    by_cases hlt : j < (bleft l at_).length
    · have hidx : at_ + j < 8 * l.length := by omega
      obtain ⟨A, c, hrow, hrd⟩ := hbr1.ex
      have hc := hrow.cell
      have hf := hrow.frozen
      have hbit := bit_any_b B g l at_ (at_ + j) ((at_ : Int) + (j : Int)) w1 hbr1 hl (by omega) hidx
      have hget : (bleft l at_)[j]? = some ((unpack l)[at_ + j]'(by simpa using hidx)) := by
        rw [List.getElem?_eq_getElem hlt]; simp [bleft]
      generalize ((unpack l)[at_ + j]'(by simpa using hidx)) = b at *
      have hsm : at_ + j ≤ 549755813888 := by omega
      have HB := Lib.hid hbit
      have HG := Lib.hid hget
      have HO := Lib.hid hones
      have HL := Lib.hid hl
      clear hbit hget hones hlen hl
      cases b with
      | false =>
        have H1 : Hid (bOnes (bleft l at_) = j) := Lib.hid (bOnes_eq _ _ HO.out (by rw [HG.out]; simp))
        have HR : Hid (bRun l at_ M = (j, at_ + j + 1, 0)) := by
          show bRun l at_ M = _
          rw [bRun, H1.out, if_neg (by omega), if_neg (by omega)]
        go_wp2_with fail
        refine HB.out.mono ?_
        rintro e _ ⟨rfl, rfl⟩
        go_wp2_with fail
        go_ret2
        rw [HR.out]
        refine ⟨rfl, ⟨⟨A, c, ?_, hrd.setCell hr.bg _⟩, by simp only; omega, hr.bg⟩, gr_trans (gr_below hbl1) (gr_set _ 1 _)⟩
        simp only
        rw [show ((at_ + j + 1 : Nat) : Int) = (at_ : Int) + ((j : Int) + 1) by omega]
        ((repeat' (first | (with_reducible assumption) | (with_reducible apply Row.set_eq) | ((with_reducible apply Row.far); rotate_left; focus (first | (simp; done) | (simp; omega) | omega)) | (with_reducible apply Row.drew) | (with_reducible apply Row.drewN) | (with_reducible apply Row.alloc))) <;> rfl)
      | true =>
        by_cases hm : j = M
        · subst hm
          have H1 : Hid (j < bOnes (bleft l at_)) := Lib.hid (by
            have := bOnes_ge (bleft l at_) (j + 1) (fun q hq => by
              rcases Nat.lt_or_ge q j with h | h
              · exact HO.out q h
              · rw [show q = j by omega]; exact HG.out)
            omega)
          have HR : Hid (bRun l at_ j = (0, at_, 4)) := by
            show bRun l at_ j = _
            rw [bRun, if_pos H1.out]
          go_wp2_with fail
          refine HB.out.mono ?_
          rintro e _ ⟨rfl, rfl⟩
          go_wp2_with fail
          go_ret2
          rw [HR.out]
          exact ⟨rfl, hbr1, gr_below hbl1⟩
        · have hm' : ((j : Int) == (M : Int)) = false := by rw [beq_eq_false_iff_ne]; omega
          go_wp2_with fail
          refine HB.out.mono ?_
          rintro e _ ⟨rfl, rfl⟩
          go_wp2_with fail
          go_roundg ((bleft l at_).length + 1 - (j + 1))
          case measure => omega
          case rel =>
            refine ⟨j + 1, rfl, by omega, by omega, by go_num, fun q hq => ?_, hbr1, hbl1⟩
            rcases Nat.lt_or_ge q j with h | h
            · exact HO.out q h
            · rw [show q = j by omega]; exact HG.out
    · obtain rfl : j = (bleft l at_).length := by omega
      have H1 : Hid (bOnes (bleft l at_) = (bleft l at_).length) := Lib.hid (bOnes_eq _ _ hones (by simp))
      have HR : Hid (bRun l at_ M = (0, at_, 2)) := by
        show bRun l at_ M = _
        rw [bRun, H1.out, if_neg (by omega), if_pos rfl]
      go_wp2_with fail
      go_ret2
      rw [HR.out]
      exact ⟨rfl, hbr1, gr_below hbl1⟩
end Go.Proofs.Ythaceagaodjllaa
