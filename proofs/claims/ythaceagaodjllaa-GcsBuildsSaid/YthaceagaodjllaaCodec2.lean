/- The reader of bytes (codec): Num, Var, Left, Err. Texts of up to 2^40 bytes. -/
import Derived.Test.YthaceagaodjllaaCodec
namespace Go.Proofs.Ythaceagaodjllaa
open Go.RowKit

theorem rTake_len (l : List UInt8) (at_ e n : Nat) : (rTake l at_ e n).1.length ≤ n := by
  unfold rTake
  split
  · simp
  · split
    · simp
    · simp; omega
theorem rTake_at (l : List UInt8) (at_ e n : Nat) (h : at_ ≤ l.length) : (rTake l at_ e n).2.1 ≤ l.length := by
  unfold rTake
  split
  · exact h
  · split
    · exact h
    · simp; omega

set_option maxHeartbeats 400000 in
theorem num_any_r (g : Nat) (l : List UInt8) (at_ e n : Nat) (k : Int) (w : World) (hr : Rdr w g l at_ e) (hk : k = (n : Int)) (hn : n ≤ 8) (ha : at_ ≤ l.length) (hl : l.length ≤ 1099511627776) :
    Calls Try.prog 56 #[.pointer (some ⟨g, 0, none⟩), .int .i64 k] w fun e' w' => e' = .returned (.int .u64 ((rNum l at_ e n).1 : Nat)) ∧
      Rdr w' g l (rNum l at_ e n).2.1 (rNum l at_ e n).2.2 ∧ w.grownBy w' (some g) := by
  subst hk
  have hg := hr.lt
  go_enter Try.func56, Try.ntmps56
  go_wp2_with fail
  all_goals
    refine (take_any_r g l at_ e n _ w hr (by omega) (by omega) ha hl).mono ?_
    rintro e' w1 ⟨A', c', rfl, hown, hr1, hg1⟩
    have hlen := rTake_len l at_ e n
    have hnum := num_any A' c' (rTake l at_ e n).1 w1 (own_rd hown) (by omega)
    rw [List.take_of_length_le (by omega)] at hnum
    go_wp2_with fail
    refine hnum.mono ?_
    rintro e' w2 ⟨rfl, rfl⟩
    go_wp2_with fail
    go_ret
    exact ⟨rfl, hr1, hg1⟩

theorem left_any_r (g : Nat) (l : List UInt8) (at_ e : Nat) (w : World) (hr : Rdr w g l at_ e) (ha : at_ ≤ l.length) (hl : l.length ≤ 1099511627776) :
    Calls Try.prog 34 #[.pointer (some ⟨g, 0, none⟩)] w fun e' w' => e' = .returned (.int .i64 ((l.length : Int) - at_)) ∧ Below w.heap.size w w' := by
  obtain ⟨A, c, hrow, hrd, h1, h2⟩ := hr.ex
  have hc := hrow.cell
  go_enter Try.func34, Try.ntmps34
  go_wp2_with fail
  go_quiet (fail)
  go_wp2_with fail
  go_ret
  exact ⟨rfl, by (repeat' (first | (with_reducible exact Below.refl _ _) | (with_reducible assumption) | (with_reducible refine Below.alloc ?_ ?_ _) | (with_reducible refine Below.drew ?_) | (with_reducible refine below_drewN ?_ _) | (with_reducible refine Below.setCell ?_ ?_ _) | (first | (with_reducible exact Nat.le_refl _) | (with_reducible assumption) | omega | (simp; omega) | (simp; done))))⟩
theorem err_any_r (g : Nat) (l : List UInt8) (at_ e : Nat) (w : World) (hr : Rdr w g l at_ e) :
    Calls Try.prog 31 #[.pointer (some ⟨g, 0, none⟩)] w fun e' w' => e' = .returned (.int .i64 (e : Int)) ∧ w = w' := by
  obtain ⟨A, c, hrow, hrd, h1, h2⟩ := hr.ex
  have hc := hrow.cell
  go_enter Try.func31, Try.ntmps31
  go_wp2_with fail
  go_ret
  exact ⟨rfl, rfl⟩

/-- What stands behind the first byte of a count: how many bytes more, and the least number that may stand there. -/
def rWide (l : List UInt8) (at_ : Nat) (r : Nat × Nat × Nat) : (Nat × Nat × Nat) × Nat :=
  if r.1 = 253 then (rNum l r.2.1 r.2.2 2, 253) else if r.1 = 254 then (rNum l r.2.1 r.2.2 4, 65536) else if r.1 = 255 then (rNum l r.2.1 r.2.2 8, 4294967296) else (r, 0)
def rEnd (at_ most : Nat) (x : (Nat × Nat × Nat) × Nat) : Nat × Nat × Nat :=
  if x.1.2.2 ≠ 0 then (0, at_, x.1.2.2) else if x.1.1 < x.2 then (0, at_, 3) else if most < x.1.1 then (0, at_, 4) else (x.1.1, x.1.2.1, 0)
def rVar (l : List UInt8) (at_ e most : Nat) : Nat × Nat × Nat := rEnd at_ most (rWide l at_ (rNum l at_ e 1))
theorem rNum_lt (l : List UInt8) (at_ e n : Nat) : (rNum l at_ e n).1 < 256 ^ n := Nat.lt_of_lt_of_le (leN_lt _) (Nat.pow_le_pow_right (by decide) (rTake_len l at_ e n))

set_option maxRecDepth 100000 in
set_option maxHeartbeats 1000000 in
theorem var_any_r (g : Nat) (l : List UInt8) (at_ e most : Nat) (k : Int) (w : World) (hr : Rdr w g l at_ e) (hk : k = (most : Int)) (hm : most ≤ 1099511627776) (ha : at_ ≤ l.length) (hl : l.length ≤ 1099511627776) :
    Calls Try.prog 30 #[.pointer (some ⟨g, 0, none⟩), .int .u64 k] w fun e' w' => e' = .returned (.int .u64 ((rVar l at_ e most).1 : Nat)) ∧
      Rdr w' g l (rVar l at_ e most).2.1 (rVar l at_ e most).2.2 ∧ w.grownBy w' (some g) := by
  subst hk
  have hg := hr.lt
  obtain ⟨A, c, hrow, hrd, h1, h2⟩ := hr.ex
  have hc := hrow.cell
  go_enter Try.func30, Try.ntmps30
  go_wp2_with fail
  refine (num_any_r g l at_ e 1 _ w hr rfl (by omega) ha hl).mono ?_
  rintro e' w1 ⟨rfl, hr1, hg1⟩
  have hat := rTake_at l at_ e 1 ha
  have hlt := rNum_lt l at_ e 1
  have HV : Hid (rVar l at_ e most = rEnd at_ most (rWide l at_ (rNum l at_ e 1))) := rfl
  change (rNum l at_ e 1).2.1 ≤ l.length at hat
  generalize rNum l at_ e 1 = r at *
  obtain ⟨n, a1, e1⟩ := r
  dsimp only at hr1 hat hlt ⊢
  clear hc hrow hrd
  by_cases h253 : n = 253
  · subst h253
    have hat2 := rTake_at l a1 e1 2 hat
    have HW : Hid (rWide l at_ (253, a1, e1) = (rNum l a1 e1 2, 253)) := rfl
    change (rNum l a1 e1 2).2.1 ≤ l.length at hat2
    go_wp2_with fail
    refine (num_any_r g l a1 e1 2 _ w1 hr1 rfl (by omega) hat hl).mono ?_
    rintro e' w2 ⟨rfl, hr2, hg2⟩
    replace hg2 := gr_trans hg1 hg2
    generalize rNum l a1 e1 2 = r2 at *
    obtain ⟨m, a2, e2⟩ := r2
    dsimp only at hr2 hat2 ⊢
    obtain ⟨A2, c2, hrow2, hrd2, h12, h22⟩ := hr2.ex
    have hc2 := hrow2.cell
    have hf2 := hrow2.frozen
    rcases Nat.eq_zero_or_pos e2 with h0 | h0
    · subst h0
      have hne2 : (((0 : Nat) : Int) != 0) = false := rfl
      by_cases hlt1 : m < 253
      · have hE : rEnd at_ most ((m, a2, 0), 253) = (0, at_, 3) := by simp only [rEnd]; rw [if_neg (by simp), if_pos hlt1]
        have HE := Lib.hid hE
        clear hE
        have hlt2 : (m : Int) < 253 := by omega
        go_wp2_with fail
        refine (fail_any g l a2 0 _ _ at_ 3 _ hr2 rfl rfl).mono ?_
        rintro e' w5 ⟨rfl, hr5, hg5⟩
        go_wp2_with fail
        go_ret
        refine ⟨ret_eq (int_eq (by rw [HV.out, HW.out, HE.out]; rfl)), ?_, gr_trans hg2 hg5⟩
        rw [HV.out, HW.out, HE.out]
        exact hr5
      · by_cases hgt : most < m
        · have hE : rEnd at_ most ((m, a2, 0), 253) = (0, at_, 4) := by simp only [rEnd]; rw [if_neg (by simp), if_neg hlt1, if_pos hgt]
          have HE := Lib.hid hE
          clear hE
          have hlt2 : decide ((m : Int) < 253) = false := by rw [decide_eq_false_iff_not]; omega
          have hgt2 : (most : Int) < m := by omega
          clear hlt1 hgt
          go_wp2_with fail
          refine (fail_any g l a2 0 _ _ at_ 4 _ hr2 rfl rfl).mono ?_
          rintro e' w5 ⟨rfl, hr5, hg5⟩
          go_wp2_with fail
          go_ret
          refine ⟨ret_eq (int_eq (by rw [HV.out, HW.out, HE.out]; rfl)), ?_, gr_trans hg2 hg5⟩
          rw [HV.out, HW.out, HE.out]
          exact hr5
        · have hE : rEnd at_ most ((m, a2, 0), 253) = (m, a2, 0) := by simp only [rEnd]; rw [if_neg (by simp), if_neg hlt1, if_neg hgt]
          have HE := Lib.hid hE
          clear hE
          have hlt2 : decide ((m : Int) < 253) = false := by rw [decide_eq_false_iff_not]; omega
          clear hlt1
          go_wp2_with fail
          go_ret
          refine ⟨ret_eq (int_eq (by rw [HV.out, HW.out, HE.out])), ?_, hg2⟩
          rw [HV.out, HW.out, HE.out]
          exact hr2
    · have hne2 : ((e2 : Int) != 0) = true := by rw [bne_iff_ne]; omega
      have hE : rEnd at_ most ((m, a2, e2), 253) = (0, at_, e2) := by simp only [rEnd]; rw [if_pos (by omega)]
      have HE := Lib.hid hE
      clear hE
      go_wp2_with fail
      go_ret
      refine ⟨ret_eq (int_eq (by rw [HV.out, HW.out, HE.out]; rfl)), ?_, gr_trans hg2 (gr_set _ _ _)⟩
      rw [HV.out, HW.out, HE.out]
      refine ⟨A2, c2, ?_, hrd2.setCell (Nat.le_refl _) _, h12, h22⟩
      ((repeat' (first | (with_reducible assumption) | (with_reducible apply Row.set_eq) | ((with_reducible apply Row.far); rotate_left; focus (first | (simp; done) | (simp; omega) | omega)) | (with_reducible apply Row.drew) | (with_reducible apply Row.drewN) | (with_reducible apply Row.alloc))) <;> rfl)
  by_cases h254 : n = 254
  · subst h254
    have hat2 := rTake_at l a1 e1 4 hat
    have HW : Hid (rWide l at_ (254, a1, e1) = (rNum l a1 e1 4, 65536)) := rfl
    change (rNum l a1 e1 4).2.1 ≤ l.length at hat2
    go_wp2_with fail
    refine (num_any_r g l a1 e1 4 _ w1 hr1 rfl (by omega) hat hl).mono ?_
    rintro e' w2 ⟨rfl, hr2, hg2⟩
    replace hg2 := gr_trans hg1 hg2
    generalize rNum l a1 e1 4 = r2 at *
    obtain ⟨m, a2, e2⟩ := r2
    dsimp only at hr2 hat2 ⊢
    obtain ⟨A2, c2, hrow2, hrd2, h12, h22⟩ := hr2.ex
    have hc2 := hrow2.cell
    have hf2 := hrow2.frozen
    rcases Nat.eq_zero_or_pos e2 with h0 | h0
    · subst h0
      have hne2 : (((0 : Nat) : Int) != 0) = false := rfl
      by_cases hlt1 : m < 65536
      · have hE : rEnd at_ most ((m, a2, 0), 65536) = (0, at_, 3) := by simp only [rEnd]; rw [if_neg (by simp), if_pos hlt1]
        have HE := Lib.hid hE
        clear hE
        have hlt2 : (m : Int) < 65536 := by omega
        go_wp2_with fail
        refine (fail_any g l a2 0 _ _ at_ 3 _ hr2 rfl rfl).mono ?_
        rintro e' w5 ⟨rfl, hr5, hg5⟩
        go_wp2_with fail
        go_ret
        refine ⟨ret_eq (int_eq (by rw [HV.out, HW.out, HE.out]; rfl)), ?_, gr_trans hg2 hg5⟩
        rw [HV.out, HW.out, HE.out]
        exact hr5
      · by_cases hgt : most < m
        · have hE : rEnd at_ most ((m, a2, 0), 65536) = (0, at_, 4) := by simp only [rEnd]; rw [if_neg (by simp), if_neg hlt1, if_pos hgt]
          have HE := Lib.hid hE
          clear hE
          have hlt2 : decide ((m : Int) < 65536) = false := by rw [decide_eq_false_iff_not]; omega
          have hgt2 : (most : Int) < m := by omega
          clear hlt1 hgt
          go_wp2_with fail
          refine (fail_any g l a2 0 _ _ at_ 4 _ hr2 rfl rfl).mono ?_
          rintro e' w5 ⟨rfl, hr5, hg5⟩
          go_wp2_with fail
          go_ret
          refine ⟨ret_eq (int_eq (by rw [HV.out, HW.out, HE.out]; rfl)), ?_, gr_trans hg2 hg5⟩
          rw [HV.out, HW.out, HE.out]
          exact hr5
        · have hE : rEnd at_ most ((m, a2, 0), 65536) = (m, a2, 0) := by simp only [rEnd]; rw [if_neg (by simp), if_neg hlt1, if_neg hgt]
          have HE := Lib.hid hE
          clear hE
          have hlt2 : decide ((m : Int) < 65536) = false := by rw [decide_eq_false_iff_not]; omega
          clear hlt1
          go_wp2_with fail
          go_ret
          refine ⟨ret_eq (int_eq (by rw [HV.out, HW.out, HE.out])), ?_, hg2⟩
          rw [HV.out, HW.out, HE.out]
          exact hr2
    · have hne2 : ((e2 : Int) != 0) = true := by rw [bne_iff_ne]; omega
      have hE : rEnd at_ most ((m, a2, e2), 65536) = (0, at_, e2) := by simp only [rEnd]; rw [if_pos (by omega)]
      have HE := Lib.hid hE
      clear hE
      go_wp2_with fail
      go_ret
      refine ⟨ret_eq (int_eq (by rw [HV.out, HW.out, HE.out]; rfl)), ?_, gr_trans hg2 (gr_set _ _ _)⟩
      rw [HV.out, HW.out, HE.out]
      refine ⟨A2, c2, ?_, hrd2.setCell (Nat.le_refl _) _, h12, h22⟩
      ((repeat' (first | (with_reducible assumption) | (with_reducible apply Row.set_eq) | ((with_reducible apply Row.far); rotate_left; focus (first | (simp; done) | (simp; omega) | omega)) | (with_reducible apply Row.drew) | (with_reducible apply Row.drewN) | (with_reducible apply Row.alloc))) <;> rfl)
  by_cases h255 : n = 255
  · subst h255
    have hat2 := rTake_at l a1 e1 8 hat
    have HW : Hid (rWide l at_ (255, a1, e1) = (rNum l a1 e1 8, 4294967296)) := rfl
    change (rNum l a1 e1 8).2.1 ≤ l.length at hat2
    go_wp2_with fail
    refine (num_any_r g l a1 e1 8 _ w1 hr1 rfl (by omega) hat hl).mono ?_
    rintro e' w2 ⟨rfl, hr2, hg2⟩
    replace hg2 := gr_trans hg1 hg2
    generalize rNum l a1 e1 8 = r2 at *
    obtain ⟨m, a2, e2⟩ := r2
    dsimp only at hr2 hat2 ⊢
    obtain ⟨A2, c2, hrow2, hrd2, h12, h22⟩ := hr2.ex
    have hc2 := hrow2.cell
    have hf2 := hrow2.frozen
    rcases Nat.eq_zero_or_pos e2 with h0 | h0
    · subst h0
      have hne2 : (((0 : Nat) : Int) != 0) = false := rfl
      by_cases hlt1 : m < 4294967296
      · have hE : rEnd at_ most ((m, a2, 0), 4294967296) = (0, at_, 3) := by simp only [rEnd]; rw [if_neg (by simp), if_pos hlt1]
        have HE := Lib.hid hE
        clear hE
        have hlt2 : (m : Int) < 4294967296 := by omega
        go_wp2_with fail
        refine (fail_any g l a2 0 _ _ at_ 3 _ hr2 rfl rfl).mono ?_
        rintro e' w5 ⟨rfl, hr5, hg5⟩
        go_wp2_with fail
        go_ret
        refine ⟨ret_eq (int_eq (by rw [HV.out, HW.out, HE.out]; rfl)), ?_, gr_trans hg2 hg5⟩
        rw [HV.out, HW.out, HE.out]
        exact hr5
      · by_cases hgt : most < m
        · have hE : rEnd at_ most ((m, a2, 0), 4294967296) = (0, at_, 4) := by simp only [rEnd]; rw [if_neg (by simp), if_neg hlt1, if_pos hgt]
          have HE := Lib.hid hE
          clear hE
          have hlt2 : decide ((m : Int) < 4294967296) = false := by rw [decide_eq_false_iff_not]; omega
          have hgt2 : (most : Int) < m := by omega
          clear hlt1 hgt
          go_wp2_with fail
          refine (fail_any g l a2 0 _ _ at_ 4 _ hr2 rfl rfl).mono ?_
          rintro e' w5 ⟨rfl, hr5, hg5⟩
          go_wp2_with fail
          go_ret
          refine ⟨ret_eq (int_eq (by rw [HV.out, HW.out, HE.out]; rfl)), ?_, gr_trans hg2 hg5⟩
          rw [HV.out, HW.out, HE.out]
          exact hr5
        · have hE : rEnd at_ most ((m, a2, 0), 4294967296) = (m, a2, 0) := by simp only [rEnd]; rw [if_neg (by simp), if_neg hlt1, if_neg hgt]
          have HE := Lib.hid hE
          clear hE
          have hlt2 : decide ((m : Int) < 4294967296) = false := by rw [decide_eq_false_iff_not]; omega
          clear hlt1
          go_wp2_with fail
          go_ret
          refine ⟨ret_eq (int_eq (by rw [HV.out, HW.out, HE.out])), ?_, hg2⟩
          rw [HV.out, HW.out, HE.out]
          exact hr2
    · have hne2 : ((e2 : Int) != 0) = true := by rw [bne_iff_ne]; omega
      have hE : rEnd at_ most ((m, a2, e2), 4294967296) = (0, at_, e2) := by simp only [rEnd]; rw [if_pos (by omega)]
      have HE := Lib.hid hE
      clear hE
      go_wp2_with fail
      go_ret
      refine ⟨ret_eq (int_eq (by rw [HV.out, HW.out, HE.out]; rfl)), ?_, gr_trans hg2 (gr_set _ _ _)⟩
      rw [HV.out, HW.out, HE.out]
      refine ⟨A2, c2, ?_, hrd2.setCell (Nat.le_refl _) _, h12, h22⟩
      ((repeat' (first | (with_reducible assumption) | (with_reducible apply Row.set_eq) | ((with_reducible apply Row.far); rotate_left; focus (first | (simp; done) | (simp; omega) | omega)) | (with_reducible apply Row.drew) | (with_reducible apply Row.drewN) | (with_reducible apply Row.alloc))) <;> rfl)
  have b1 : ((n : Int) == 253) = false := by rw [beq_eq_false_iff_ne]; omega
  have b2 : ((n : Int) == 254) = false := by rw [beq_eq_false_iff_ne]; omega
  have b3 : ((n : Int) == 255) = false := by rw [beq_eq_false_iff_ne]; omega
  have HW : Hid (rWide l at_ (n, a1, e1) = ((n, a1, e1), 0)) := by
    show rWide l at_ (n, a1, e1) = ((n, a1, e1), 0)
    simp only [rWide]
    rw [if_neg h253, if_neg h254, if_neg h255]
  clear h253 h254 h255
  have hr2 := hr1
  have hg2 := hg1
  obtain ⟨A2, c2, hrow2, hrd2, h12, h22⟩ := hr2.ex
  have hc2 := hrow2.cell
  have hf2 := hrow2.frozen
  rcases Nat.eq_zero_or_pos e1 with h0 | h0
  · subst h0
    have hne2 : (((0 : Nat) : Int) != 0) = false := rfl
    by_cases hlt1 : n < 0
    · exact absurd hlt1 (by omega)
    · by_cases hgt : most < n
      · have hE : rEnd at_ most ((n, a1, 0), 0) = (0, at_, 4) := by simp only [rEnd]; rw [if_neg (by simp), if_neg hlt1, if_pos hgt]
        have HE := Lib.hid hE
        clear hE
        have hlt2 : decide ((n : Int) < 0) = false := by rw [decide_eq_false_iff_not]; omega
        have hgt2 : (most : Int) < n := by omega
        clear hlt1 hgt
        go_wp2_with fail
        refine (fail_any g l a1 0 _ _ at_ 4 _ hr2 rfl rfl).mono ?_
        rintro e' w5 ⟨rfl, hr5, hg5⟩
        go_wp2_with fail
        go_ret
        refine ⟨ret_eq (int_eq (by rw [HV.out, HW.out, HE.out]; rfl)), ?_, gr_trans hg2 hg5⟩
        rw [HV.out, HW.out, HE.out]
        exact hr5
      · have hE : rEnd at_ most ((n, a1, 0), 0) = (n, a1, 0) := by simp only [rEnd]; rw [if_neg (by simp), if_neg hlt1, if_neg hgt]
        have HE := Lib.hid hE
        clear hE
        have hlt2 : decide ((n : Int) < 0) = false := by rw [decide_eq_false_iff_not]; omega
        clear hlt1
        go_wp2_with fail
        go_ret
        refine ⟨ret_eq (int_eq (by rw [HV.out, HW.out, HE.out])), ?_, hg2⟩
        rw [HV.out, HW.out, HE.out]
        exact hr2
  · have hne2 : ((e1 : Int) != 0) = true := by rw [bne_iff_ne]; omega
    have hE : rEnd at_ most ((n, a1, e1), 0) = (0, at_, e1) := by simp only [rEnd]; rw [if_pos (by omega)]
    have HE := Lib.hid hE
    clear hE
    go_wp2_with fail
    go_ret
    refine ⟨ret_eq (int_eq (by rw [HV.out, HW.out, HE.out]; rfl)), ?_, gr_trans hg2 (gr_set _ _ _)⟩
    rw [HV.out, HW.out, HE.out]
    refine ⟨A2, c2, ?_, hrd2.setCell (Nat.le_refl _) _, h12, h22⟩
    ((repeat' (first | (with_reducible assumption) | (with_reducible apply Row.set_eq) | ((with_reducible apply Row.far); rotate_left; focus (first | (simp; done) | (simp; omega) | omega)) | (with_reducible apply Row.drew) | (with_reducible apply Row.drewN) | (with_reducible apply Row.alloc))) <;> rfl)
end Go.Proofs.Ythaceagaodjllaa
