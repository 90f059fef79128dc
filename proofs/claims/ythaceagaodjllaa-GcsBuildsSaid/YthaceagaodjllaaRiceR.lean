/- Clean of the reader of bits; numbers as bits (rice), width 19, read. Bytes up to 2^36. -/
import Derived.Test.YthaceagaodjllaaBitR
import Derived.Test.YthaceagaodjllaaRiceW
namespace Go.Proofs.Ythaceagaodjllaa
open Go.RowKit

def bClean (l : List Bool) : Bool := decide (l.length < 8) && l.all (fun b => !b)
set_option maxRecDepth 20000 in
set_option maxHeartbeats 1000000 in
theorem clean_any_b (B g : Nat) (l : List UInt8) (at_ : Nat) (w : World) (hr : Brd w B g l at_) (hl : l.length ≤ 68719476736) :
    Calls Try.prog 37 #[.pointer (some ⟨g, 0, none⟩)] w fun e w' => e = .returned (.bool (bClean (bleft l at_))) ∧ Below w.heap.size w w' := by
  have hlen := bleft_length l at_
  have hat := hr.le
  by_cases h8 : 8 ≤ (bleft l at_).length
  · have HR : Hid (bClean (bleft l at_) = false) := by show bClean _ = _; rw [bClean, decide_eq_false (by omega)]; rfl
    clear hlen
    go_enter Try.func37, Try.ntmps37
    go_wp2_with fail
    refine (left_any_b B g l at_ w hr hl).mono ?_
    rintro e w1 ⟨rfl, hb1⟩
    go_wp2_with fail
    go_ret
    rw [HR.out]
    exact ⟨rfl, hb1⟩
  · have h8' : decide (8 ≤ (bleft l at_).length) = false := by rw [decide_eq_false_iff_not]; exact h8
    have H8 := Lib.hid h8
    have HLEN := Lib.hid hlen
    clear hlen
    go_enter Try.func37, Try.ntmps37
    go_wp2_with fail
    refine (left_any_b B g l at_ w hr hl).mono ?_
    rintro e w1 ⟨rfl, hb1⟩
    have hr1 := hr.keep hb1 hr.lt
    go_wp2_with fail
    refine (left_any_b B g l at_ w1 hr1 hl).mono ?_
    rintro e w2 ⟨rfl, hb2⟩
    have hr2 := hr1.keep hb2 hr1.lt
    have hb2' := hb1.trans (hb2.mono hb1.size)
    clear hb1 hb2 hr1
    go_wp2_with fail
    go_loopg [9] (bleft l at_).length (fun m i wx => ∃ j : Nat, m = (bleft l at_).length - j ∧ j ≤ (bleft l at_).length ∧ i = .int .i64 (j : Int) ∧ (∀ q, q < j → (bleft l at_)[q]? = some false) ∧ wx = w2)
    case atStart => exact ⟨0, by omega, by omega, rfl, fun q hq => absurd hq (by omega), rfl⟩
    case round =>
      obtain ⟨j, rfl, hj, rfl, hones, rfl⟩ := hrel
      by_cases hlt : j < (bleft l at_).length
      · have hlen := HLEN.out
        have hidx : at_ + j < 8 * l.length := by omega
        obtain ⟨A, c, hrow, hrd⟩ := hr2.ex
        have hc := hrow.cell
        have hbit := bit_any_b B g l at_ (at_ + j) ((at_ : Int) + (j : Int)) wr hr2 hl (by omega) hidx
        have hget : (bleft l at_)[j]? = some ((unpack l)[at_ + j]'(by simpa using hidx)) := by
          rw [List.getElem?_eq_getElem hlt]; simp [bleft]
        generalize ((unpack l)[at_ + j]'(by simpa using hidx)) = b at *
        have hsm : at_ + j ≤ 549755813888 := by omega
        have HB := Lib.hid hbit
        have HG := Lib.hid hget
        have HO := Lib.hid hones
        have HL := Lib.hid hl
        clear hbit hget hones hlen hl
        cases b with
        | false =>
          go_wp2_with fail
          refine HB.out.mono ?_
          rintro e _ ⟨rfl, rfl⟩
          go_wp2_with fail
          go_roundg ((bleft l at_).length - (j + 1))
          case measure => omega
          case rel =>
            refine ⟨j + 1, rfl, by omega, by go_num, fun q hq => ?_, rfl⟩
            rcases Nat.lt_or_ge q j with h | h
            · exact HO.out q h
            · rw [show q = j by omega]; exact HG.out
        | true =>
          have HR : Hid (bClean (bleft l at_) = false) := by
            show bClean _ = _
            have : (bleft l at_).all (fun b => !b) = false := by
              rw [List.all_eq_false]
              exact ⟨true, List.mem_of_getElem? HG.out, by simp⟩
            rw [bClean, this, Bool.and_false]
          go_wp2_with fail
          refine HB.out.mono ?_
          rintro e _ ⟨rfl, rfl⟩
          go_wp2_with fail
          go_ret
          rw [HR.out]
          exact ⟨rfl, hb2'⟩
      · obtain rfl : j = (bleft l at_).length := by omega
        have HR : Hid (bClean (bleft l at_) = true) := by
          show bClean _ = _
          have h8 := H8.out
          rw [bClean, decide_eq_true (by omega), Bool.true_and, List.all_eq_true]
          intro b hb
          obtain ⟨q, hq, rfl⟩ := List.getElem_of_mem hb
          have := hones q hq
          rw [List.getElem?_eq_getElem hq] at this
          injection this with this
          rw [this]; rfl
        clear hones
        go_wp2_with fail
        go_ret
        rw [HR.out]
        exact ⟨rfl, hb2'⟩

/-- What Get hands back, and what it leaves. -/
def bGet (l : List UInt8) (at_ : Nat) : Nat × Nat × Nat :=
  if (bRun l at_ 65536).2.2 ≠ 0 then (0, at_, (bRun l at_ 65536).2.2)
  else if (bTake l (bRun l at_ 65536).2.1 19).2.2 ≠ 0 then (0, at_, (bTake l (bRun l at_ 65536).2.1 19).2.2)
  else ((bRun l at_ 65536).1 * 524288 + (bTake l (bRun l at_ 65536).2.1 19).1, (bTake l (bRun l at_ 65536).2.1 19).2.1, 0)

theorem bRun_le (l : List UInt8) (at_ M : Nat) : (bRun l at_ M).1 ≤ M := by
  unfold bRun
  split
  · exact Nat.zero_le _
  · split
    · exact Nat.zero_le _
    · simp only; omega
theorem bTake_lt (l : List UInt8) (at_ k : Nat) : (bTake l at_ k).1 < 2 ^ k := by
  unfold bTake
  split
  · exact Nat.two_pow_pos _
  · have h := bval_lt ((bleft l at_).take k)
    calc _ < 2 ^ ((bleft l at_).take k).length := h
      _ ≤ 2 ^ k := Nat.pow_le_pow_right (by decide) (by simp; omega)
theorem or64_low (q x : Nat) (hq : q ≤ 65536) (hx : x < 524288) : bits .or .u64 ((q : Int) * 524288) (x : Int) = ((q * 524288 + x : Nat) : Int) := by
  rw [show (q : Int) * 524288 = ((q * 524288 : Nat) : Int) by omega,
    (bits_nat .u64 64 (by decide) (fun n h0 h1 => by rw [IntKind.wrap_u64]; omega) (q * 524288) x (by omega) (by omega)).2]
  have := Nat.two_pow_add_eq_or_of_lt (i := 19) (b := x) (by omega) q
  rw [show (2 : Nat) ^ 19 = 524288 from rfl] at this
  rw [Nat.mul_comm q, this]
theorem below_new {w w2 : World} {o : Obj} (h : (w.alloc o).grownBy w2 (some w.heap.size)) : Below w.heap.size w w2 :=
  ((Below.refl _ w).alloc (Nat.le_refl _) o).trans (below_gr h (Nat.le_refl _) (by simp))

set_option maxRecDepth 20000 in
set_option maxHeartbeats 1000000 in
theorem get_any (B g : Nat) (l : List UInt8) (at_ : Nat) (w : World) (hr : Brd w B g l at_) (hl : l.length ≤ 68719476736) :
    Calls Try.prog 35 #[.pointer (some ⟨g, 0, none⟩), .int .i64 19, .int .i64 65536] w fun e w' => e = .returned (.tuple #[.int .u64 ((bGet l at_).1 : Int), .int .i64 ((bGet l at_).2.2 : Int)]) ∧ Brd w' B g l (bGet l at_).2.1 ∧ w.grownBy w' (some g) := by
  obtain ⟨A, c, hrow, hrd⟩ := hr.ex
  have hc := hrow.cell
  have hg := hrow.lt
  go_enter Try.func35, Try.ntmps35
  go_wp2_with fail
  refine (held_any _).mono ?_
  rintro e _ ⟨rfl, rfl⟩
  go_wp2_with fail
  have hrowA := hrow.alloc (.cells #[.slice A l.length c, .int .i64 (at_ : Int)] 104)
  have hrA : Brd (w.alloc (.cells #[.slice A l.length c, .int .i64 (at_ : Int)] 104)) B w.heap.size l at_ := ⟨⟨A, c, Row.new _ _ _, hrd.alloc _⟩, hr.le, by have := hr.bg; omega⟩
  refine (run_any_b B _ l at_ 65536 _ _ hrA hl rfl (by omega)).mono ?_
  have hq := bRun_le l at_ 65536
  rcases hbr : bRun l at_ 65536 with ⟨q, a1, e1⟩
  rw [hbr] at hq
  simp only at hq ⊢
  rintro e w2 ⟨rfl, hr2, hg2⟩
  have hrow2 := hrowA.grown hg2 (by intro h; injection h with h; omega)
  have hb2 := below_new hg2
  clear hc hrowA hrA
  have HB := Lib.hid hbr
  clear hbr
  by_cases he : e1 = 0
  · subst he
    go_wp2_with fail
    refine (take_any_b B _ l a1 19 _ w2 hr2 hl rfl (by omega)).mono ?_
    have hx := bTake_lt l a1 19
    rcases hbt : bTake l a1 19 with ⟨x, a2, e2⟩
    rw [hbt] at hx
    simp only [show (2 : Nat) ^ 19 = 524288 from rfl] at hx ⊢
    rintro e w3 ⟨rfl, hr3, hg3⟩
    have hrow3 := hrow2.grown hg3 (by intro h; injection h with h; omega)
    have hb3 := hb2.trans (below_gr hg3 (Nat.le_refl _) hr2.lt)
    have HT := Lib.hid hbt
    clear hbt
    by_cases he2 : e2 = 0
    · subst he2
      have HR : Hid (bGet l at_ = (q * 524288 + x, a2, 0)) := by
        show bGet l at_ = _
        unfold bGet
        rw [HB.out]
        simp only
        rw [HT.out]
        rfl
      obtain ⟨A', c', hrowc, hrdc⟩ := hr3.ex
      have hc3 := hrowc.cell
      have hf3 := hrow3.frozen
      have hc4 := hrow3.cell
      have HO := Lib.hid (or64_low q x hq hx)
      go_wp2_with fail
      go_ret2
      rw [HR.out]
      have hne : w.heap.size ≠ g := by omega
      refine ⟨?_, ⟨⟨A', c', ?_, (hrdc.setCell hr.bg _).setCell hr.bg _⟩, hr3.le, hr.bg⟩, gr_trans (gr_below hb3) (gr_trans (gr_set _ _ _) (gr_set _ _ _))⟩
      · refine Eq.trans ?_ (ret_eq (congrArg (fun v => Value.tuple #[Value.int .u64 v, .int .i64 ((0 : Nat) : Int)]) HO.out))
        rfl
      · ((repeat' (first | (with_reducible assumption) | (with_reducible apply Row.set_eq) | ((with_reducible apply Row.far); rotate_left; focus (first | (simp; done) | (simp; omega) | omega)) | (with_reducible apply Row.drew) | (with_reducible apply Row.drewN) | (with_reducible apply Row.alloc))) <;> rfl)
    · have he2' : ((e2 : Int) != 0) = true := by rw [bne_iff_ne]; omega
      have HR : Hid (bGet l at_ = (0, at_, e2)) := by
        show bGet l at_ = _
        unfold bGet
        rw [HB.out]
        simp only
        rw [HT.out]
        simp [he2]
      go_wp2_with fail
      go_ret2
      rw [HR.out]
      exact ⟨rfl, hr.keep (hb3.trans (Below.refl _ _)) hg, gr_below hb3⟩
  · have he' : ((e1 : Int) != 0) = true := by rw [bne_iff_ne]; omega
    have HR : Hid (bGet l at_ = (0, at_, e1)) := by
      show bGet l at_ = _
      unfold bGet
      rw [HB.out]
      simp [he]
    go_wp2_with fail
    go_ret2
    rw [HR.out]
    exact ⟨rfl, hr.keep hb2 hg, gr_below hb2⟩
end Go.Proofs.Ythaceagaodjllaa
