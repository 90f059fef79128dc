/- The library's sort of uint64s: the pivot, the patterns. What they give is told by its bounds alone. Slices of fewer than 2^60. -/
import Derived.Test.YthaceagaodjllaaSort4
import Derived.Test.YthaceagaodjllaaShort
namespace Go.Proofs.Ythaceagaodjllaa
open Go.RowKit Go.Sort

section
variable {W w w' : World} {base g c n sb : Nat} {d : Array Int}
/-- A store into a block of the call's own beside the array. -/
theorem Arr.aside (h : Arr W base g c n d w) (hne : sb ≠ g) (hW : W.heap.size ≤ sb) (i : Nat) (u : Value) : Arr W base g c n d (w.setCell ⟨sb, i, none⟩ u) :=
  ⟨ownsRow_setCell_other h.own (by simp [Value.ownBlock]; exact Ne.symm hne) u,
   ⟨h.gr.os, h.gr.tape, h.gr.output, by simpa using h.gr.size, fun k hk hne2 => (Below.heap_setCell w ⟨sb, i, none⟩ u k (by simp; omega)).trans (h.gr.block k hk hne2)⟩, h.sz⟩
theorem Arr.size (h : Arr W base g c n d w) : W.heap.size ≤ w.heap.size := h.gr.size
end
/-- In w the counter lies at block sb, beside the array. -/
structure Swp (W : World) (base g c n sb : Nat) (d : Array Int) (s : Nat) (w : World) : Prop where
  arr : Arr W base g c n d w
  row : Row w sb 3 [.int .i64 (s : Int)]
  ne : sb ≠ g
  le : W.heap.size ≤ sb
section
variable {W w w' : World} {base g c n sb s : Nat} {d : Array Int}
theorem Swp.grw (h : Swp W base g c n sb d s w) (p : Grw) : Swp W base g c n sb d s (grw w p) := ⟨h.arr.grw p, h.row.grw p, h.ne, h.le⟩
theorem Swp.inc (h : Swp W base g c n sb d s w) : Swp W base g c n sb d (s + 1) (w.setCell ⟨sb, 0, none⟩ (.int .i64 ((s : Int) + 1))) :=
  ⟨h.arr.aside h.ne h.le _ _, h.row.set_eq (by simp), h.ne, h.le⟩
end
def Ord2 (W : World) (base g c n sb : Nat) (d : Array Int) (s lo hi : Nat) (e : Ending) (w' : World) : Prop :=
  ∃ x y s' : Nat, e = .returned (.tuple #[.int .i64 (x : Int), .int .i64 (y : Int)]) ∧ (lo ≤ x ∧ x < hi) ∧ (lo ≤ y ∧ y < hi) ∧ s' ≤ s + 1 ∧ Swp W base g c n sb d s' w'
set_option maxRecDepth 100000 in
set_option maxHeartbeats 4000000 in
theorem ord2_any (W : World) (base g c n sb s a b lo hi : Nat) (d : Array Int) (w : World) (h : Swp W base g c n sb d s w) (ha : lo ≤ a ∧ a < hi) (hb : lo ≤ b ∧ b < hi) (hh : hi ≤ n) (hs : s < 1152921504606846976) (hn : n < 1152921504606846976) :
    Calls Try.prog 106 #[.slice (some ⟨g, 0, none⟩) n c, .int .i64 a, .int .i64 b, .pointer (some ⟨sb, 0, none⟩)] w (Ord2 W base g c n sb d s lo hi) := by
  have hca := fun p => (h.arr.grw p).cell a (by omega)
  have hcb := fun p => (h.arr.grw p).cell b (by omega)
  generalize d[a]! = x at *
  generalize d[b]! = y at *
  go_enter Try.func106, Try.ntmps106
  go_wp2_with fail
  refine wp_region_grw (by kernel_rfl) (by kernel_rfl) ?_
  repeat (go_big_quiet_step ((go_at_call 71; exact Calls.of_grw_same (less_any _ _ _))))
  refine wpQuiet_nil ?_
  rintro _ ⟨p, rfl⟩
  have hS := h.grw p
  have hcs := hS.row.cell 0
  have hfs := hS.row.frozen 0
  simp only [List.getElem?_cons_zero] at hcs
  cases hyx : decide (y < x) with
  | true =>
    go_wp2_with fail
    go_ret2
    exact ⟨b, a, s + 1, rfl, hb, ha, Nat.le_refl _, hS.inc⟩
  | false =>
    go_wp2_with fail
    go_ret2
    exact ⟨a, b, s, rfl, ha, hb, by omega, hS⟩
def Med (W : World) (base g c n sb : Nat) (d : Array Int) (s lo hi : Nat) (e : Ending) (w' : World) : Prop :=
  ∃ x s' : Nat, e = .returned (.int .i64 (x : Int)) ∧ (lo ≤ x ∧ x < hi) ∧ s' ≤ s + 3 ∧ Swp W base g c n sb d s' w'
set_option maxRecDepth 100000 in
set_option maxHeartbeats 4000000 in
theorem med_any (W : World) (base g c n sb s lo hi a b k : Nat) (xa xb xk : Int) (d : Array Int) (w : World) (h : Swp W base g c n sb d s w) (hxa : xa = (a : Int)) (hxb : xb = (b : Int)) (hxk : xk = (k : Int))
    (ha : lo ≤ a ∧ a < hi) (hb : lo ≤ b ∧ b < hi) (hk : lo ≤ k ∧ k < hi) (hh : hi ≤ n) (hs : s + 3 < 1152921504606846976) (hn : n < 1152921504606846976) :
    Calls Try.prog 104 #[.slice (some ⟨g, 0, none⟩) n c, .int .i64 xa, .int .i64 xb, .int .i64 xk, .pointer (some ⟨sb, 0, none⟩)] w (Med W base g c n sb d s lo hi) := by
  subst hxa hxb hxk
  go_enter Try.func104, Try.ntmps104
  go_wp2_with fail
  refine (ord2_any W base g c n sb s a b lo hi d w h ha hb hh (by omega) hn).mono ?_
  rintro e w1 ⟨x1, y1, s1, rfl, hx1, hy1, hs1, h1⟩
  go_wp2_with fail
  refine (ord2_any W base g c n sb s1 y1 k lo hi d w1 h1 hy1 hk hh (by omega) hn).mono ?_
  rintro e w2 ⟨x2, y2, s2, rfl, hx2, hy2, hs2, h2⟩
  go_wp2_with fail
  refine (ord2_any W base g c n sb s2 x1 x2 lo hi d w2 h2 hx1 hx2 hh (by omega) hn).mono ?_
  rintro e w3 ⟨x3, y3, s3, rfl, hx3, hy3, hs3, h3⟩
  go_wp2_with fail
  go_ret
  exact ⟨y3, s3, rfl, hy3, by omega, h3⟩
set_option maxRecDepth 100000 in
set_option maxHeartbeats 4000000 in
theorem meda_any (W : World) (base g c n sb s lo hi a : Nat) (xa : Int) (d : Array Int) (w : World) (h : Swp W base g c n sb d s w) (hxa : xa = (a : Int))
    (ha : lo + 1 ≤ a ∧ a + 1 < hi) (hh : hi ≤ n) (hs : s + 3 < 1152921504606846976) (hn : n < 1152921504606846976) :
    Calls Try.prog 103 #[.slice (some ⟨g, 0, none⟩) n c, .int .i64 xa, .pointer (some ⟨sb, 0, none⟩)] w (Med W base g c n sb d s lo hi) := by
  subst hxa
  go_enter Try.func103, Try.ntmps103
  go_wp2_with fail
  refine (med_any W base g c n sb s lo hi (a - 1) a (a + 1) _ _ _ d w h (by omega) rfl (by omega) (by omega) (by omega) (by omega) hh hs hn).mono ?_
  rintro e w3 ⟨x3, s3, rfl, hx3, hs3, h3⟩
  go_wp2_with fail
  go_ret
  exact ⟨x3, s3, rfl, hx3, hs3, h3⟩
def Piv (W : World) (base g c n : Nat) (d : Array Int) (lo hi : Nat) (e : Ending) (w' : World) : Prop :=
  ∃ x h : Nat, e = .returned (.tuple #[.int .i64 (x : Int), .int .i64 (h : Int)]) ∧ (lo ≤ x ∧ x < hi) ∧ h ≤ 2 ∧ Arr W base g c n d w'
set_option maxRecDepth 100000 in
set_option maxHeartbeats 8000000 in
theorem piv_any (W : World) (base g c n a b : Nat) (d : Array Int) (w : World) (h : Arr W base g c n d w) (hab : a < b) (hb : b ≤ n) (hn : n < 1152921504606846976) :
    Calls Try.prog 92 #[.slice (some ⟨g, 0, none⟩) n c, .int .i64 a, .int .i64 b] w (Piv W base g c n d a b) := by
  have hS0 : Swp W base g c n w.heap.size d 0 (w.alloc (.cells #[.int .i64 0] 3)) := ⟨h.up ((Below.refl _ w).alloc (Nat.le_refl _) _), Row.new w _ [.int .i64 ((0 : Nat) : Int)], by have := h.lt; omega, h.size⟩
  by_cases h8 : 8 ≤ b - a
  · by_cases h50 : 50 ≤ b - a
    · go_enter Try.func92, Try.ntmps92
      go_wp2_with fail
      refine (meda_any W base g c n w.heap.size 0 a b (a + (b - a) / 4) _ d _ hS0 (by omega) (by omega) hb (by omega) hn).mono ?_
      rintro e w1 ⟨x1, s1, rfl, hx1, hs1, h1⟩
      go_wp2_with fail
      refine (meda_any W base g c n w.heap.size s1 a b (a + (b - a) / 4 * 2) _ d _ h1 (by omega) (by omega) hb (by omega) hn).mono ?_
      rintro e w2 ⟨x2, s2, rfl, hx2, hs2, h2⟩
      go_wp2_with fail
      refine (meda_any W base g c n w.heap.size s2 a b (a + (b - a) / 4 * 3) _ d _ h2 (by omega) (by omega) hb (by omega) hn).mono ?_
      rintro e w3 ⟨x3, s3, rfl, hx3, hs3, h3⟩
      go_wp2_with fail
      refine (med_any W base g c n w.heap.size s3 a b x1 x2 x3 _ _ _ d w3 h3 rfl rfl rfl hx1 hx2 hx3 hb (by omega) hn).mono ?_
      rintro e w4 ⟨x4, s4, rfl, hx4, hs4, h4⟩
      have hcs := h4.row.cell 0
      simp only [List.getElem?_cons_zero] at hcs
      have harr := h4.arr
      rcases Nat.eq_zero_or_pos s4 with hs0 | hs0
      · subst hs0
        go_wp2_with fail
        go_ret2
        exact ⟨x4, 1, by first | rfl | exact ret_eq (by simp; omega), by omega, by omega, harr⟩
      · by_cases hs12 : s4 = 12
        · subst hs12
          go_wp2_with fail
          go_ret2
          exact ⟨x4, 2, by first | rfl | exact ret_eq (by simp; omega), by omega, by omega, harr⟩
        · have hz0 : ((s4 : Int) == 0) = false := by rw [beq_eq_false_iff_ne]; omega
          have hz12 : ((s4 : Int) == 12) = false := by rw [beq_eq_false_iff_ne]; omega
          go_wp2_with fail
          go_ret2
          exact ⟨x4, 0, by first | rfl | exact ret_eq (by simp; omega), by omega, by omega, harr⟩
    · go_enter Try.func92, Try.ntmps92
      go_wp2_with fail
      refine (med_any W base g c n w.heap.size 0 a b (a + (b - a) / 4) (a + (b - a) / 4 * 2) (a + (b - a) / 4 * 3) _ _ _ d _ hS0 (by omega) (by omega) (by omega) (by omega) (by omega) (by omega) hb (by omega) hn).mono ?_
      rintro e w4 ⟨x4, s4, rfl, hx4, hs4, h4⟩
      have hcs := h4.row.cell 0
      simp only [List.getElem?_cons_zero] at hcs
      have harr := h4.arr
      rcases Nat.eq_zero_or_pos s4 with hs0 | hs0
      · subst hs0
        go_wp2_with fail
        go_ret2
        exact ⟨x4, 1, by first | rfl | exact ret_eq (by simp; omega), by omega, by omega, harr⟩
      · by_cases hs12 : s4 = 12
        · subst hs12
          go_wp2_with fail
          go_ret2
          exact ⟨x4, 2, by first | rfl | exact ret_eq (by simp; omega), by omega, by omega, harr⟩
        · have hz0 : ((s4 : Int) == 0) = false := by rw [beq_eq_false_iff_ne]; omega
          have hz12 : ((s4 : Int) == 12) = false := by rw [beq_eq_false_iff_ne]; omega
          go_wp2_with fail
          go_ret2
          exact ⟨x4, 0, by first | rfl | exact ret_eq (by simp; omega), by omega, by omega, harr⟩
  · have hA := hS0.arr
    go_enter Try.func92, Try.ntmps92
    go_wp2_with fail
    go_ret2
    exact ⟨a + (b - a) / 4 * 2, 1, by
      have e : (a : Int) + ((b : Int) - (a : Int)) / 4 * 2 = ((a + (b - a) / 4 * 2 : Nat) : Int) := by omega
      first | rfl | (rw [← e]; rfl), by omega, by omega, hA⟩

theorem and_le (x m : Nat) (hx : x < 18446744073709551616) (hm : m < 18446744073709551616) : ∃ v : Nat, bits .and .u64 (x : Int) (m : Int) = (v : Int) ∧ v ≤ m :=
  ⟨x &&& m, (bits_nat .u64 64 (by decide) (fun n h0 h1 => by rw [IntKind.wrap_u64]; omega) x m (by omega) (by omega)).1, Nat.and_le_right⟩

/-- In w the generator lies at block rb, beside the array. -/
structure Rng (W : World) (base g c n rb : Nat) (d : Array Int) (w : World) : Prop where
  arr : Arr W base g c n d w
  row : ∃ r : Int, (0 ≤ r ∧ r ≤ 18446744073709551615) ∧ Row w rb 142 [.int .u64 r]
  ne : rb ≠ g
  le : W.heap.size ≤ rb
def Nxt (W : World) (base g c n rb : Nat) (d : Array Int) (e : Ending) (w' : World) : Prop := ∃ r : Nat, e = .returned (.int .u64 (r : Int)) ∧ r < 18446744073709551616 ∧ Rng W base g c n rb d w'
theorem Rng.step {W w : World} {base g c n rb : Nat} {d : Array Int} (h : Rng W base g c n rb d w) (x y : Int) : Rng W base g c n rb d ((w.setCell ⟨rb, 0, none⟩ (.int .u64 (bits .xor .u64 x y))).drew) := by
  obtain ⟨r, _, hr⟩ := h.row
  exact ⟨(h.arr.aside h.ne h.le _ _).drew, ⟨_, bits_u64_in .xor x y, (hr.set_eq rfl).drew⟩, h.ne, h.le⟩
set_option maxRecDepth 100000 in
set_option maxHeartbeats 4000000 in
theorem next_any (W : World) (base g c n rb : Nat) (d : Array Int) (w : World) (h : Rng W base g c n rb d w) :
    Calls Try.prog 102 #[.pointer (some ⟨rb, 0, none⟩)] w (Nxt W base g c n rb d) := by
  obtain ⟨r, hr, hrow⟩ := h.row
  have hc := hrow.cell 0
  have hf := hrow.frozen 0
  simp only [List.getElem?_cons_zero] at hc
  go_enter Try.func102, Try.ntmps102
  go_wp2_with fail
  go_region
  refine absw (fun x => Rng W base g c n rb d x) (h.step _ _) ?_
  clear hc hf hrow
  rintro w1 h1
  obtain ⟨r1, hr1, hrow1⟩ := h1.row
  have hc := hrow1.cell 0
  have hf := hrow1.frozen 0
  simp only [List.getElem?_cons_zero] at hc
  go_wp2_with fail
  go_region
  refine absw (fun x => Rng W base g c n rb d x) (h1.step _ _) ?_
  clear hc hf hrow1
  rintro w2 h2
  obtain ⟨r2, hr2, hrow2⟩ := h2.row
  have hc := hrow2.cell 0
  have hf := hrow2.frozen 0
  simp only [List.getElem?_cons_zero] at hc
  go_wp2_with fail
  go_region
  refine absw (fun x => Rng W base g c n rb d x) (h2.step _ _) ?_
  clear hc hf hrow2
  rintro w3 h3
  obtain ⟨r3, hr3, hrow3⟩ := h3.row
  have hc := hrow3.cell 0
  simp only [List.getElem?_cons_zero] at hc
  obtain ⟨k, rfl⟩ : ∃ k : Nat, r3 = (k : Int) := ⟨r3.toNat, by omega⟩
  go_wp2_with fail
  go_ret
  exact ⟨k, rfl, by omega, h3⟩

theorem npow_any (l : Nat) (w : World) (hl : 0 < l) (hn : l < 1152921504606846976) :
    Calls Try.prog 101 #[.int .i64 l] w fun e w' => e = .returned (.int .u64 ((2 ^ bitsLen l : Nat) : Int)) ∧ w = w' := by
  have hle := two_pow_bitsLen_le hl
  have hk : bitsLen l ≤ 64 := bitsLen_le l (by omega)
  have hk2 : bitsLen l ≤ 60 := (bitsLen_le_iff l 60).2 (by omega)
  have HP : Hid (IntKind.u64.wrap ((2 : Int) ^ bitsLen l) = ((2 ^ bitsLen l : Nat) : Int)) := Lib.hid (by
    have e : (2 : Int) ^ bitsLen l = ((2 ^ bitsLen l : Nat) : Int) := by simp
    rw [e, IntKind.wrap_u64]
    generalize 2 ^ bitsLen l = m at *
    omega)
  have hcall := len_any l (l : Int) w rfl (by omega)
  have HL := Lib.hid hle
  have HC := Lib.hid hcall
  clear hle hcall
  generalize bitsLen l = k at *
  go_enter Try.func101, Try.ntmps101
  go_wp2_with fail
  refine HC.out.mono ?_
  rintro e _ ⟨rfl, rfl⟩
  go_wp2_with fail
  go_ret
  exact ⟨ret_eq (int_eq (by first | exact HP.out | (rw [← HP.out]; simp))), rfl⟩
theorem Rng.swap {W w : World} {base g c n rb : Nat} {d : Array Int} {i j : Nat} {x y : Int} (h : Rng W base g c n rb d w) (hx : d[j]! = x) (hy : d[i]! = y) : Rng W base g c n rb (swp d i j) ((w.setCell ⟨g, i, none⟩ (.int .u64 x)).setCell ⟨g, j, none⟩ (.int .u64 y)).drew := by
  obtain ⟨r, hr, hrow⟩ := h.row
  exact ⟨h.arr.swpd hx hy, ⟨r, hr, ((hrow.far h.ne _).far h.ne _).drew⟩, h.ne, h.le⟩
def Brk (W : World) (base g c n a b : Nat) (d : Array Int) (e : Ending) (w' : World) : Prop := e = .returned (.tuple #[]) ∧ ∃ d', PermIn a b d d' ∧ Arr W base g c n d' w'
set_option maxRecDepth 100000 in
set_option maxHeartbeats 8000000 in
theorem brk_any (W : World) (base g c n a b : Nat) (d : Array Int) (w : World) (h : Arr W base g c n d w) (hab : a < b) (hb : b ≤ n) (hn : n < 1152921504606846976) :
    Calls Try.prog 91 #[.slice (some ⟨g, 0, none⟩) n c, .int .i64 a, .int .i64 b] w (Brk W base g c n a b d) := by
  by_cases h8 : 8 ≤ b - a
  · have hnp := fun w => npow_any (b - a) w (by omega) (by omega)
    rw [show ((b - a : Nat) : Int) = (b : Int) - (a : Int) by omega] at hnp
    have hm2 := two_pow_bitsLen_le (n := b - a) (by omega)
    have hm1 : 1 ≤ 2 ^ bitsLen (b - a) := Nat.one_le_two_pow
    generalize 2 ^ bitsLen (b - a) = m at *
    have HNP := Lib.hid hnp
    clear hnp
    go_enter Try.func91, Try.ntmps91
    go_wp2_with fail
    refine (HNP.out _).mono ?_
    rintro e w1 ⟨rfl, rfl⟩
    have hR0 : Rng W base g c n w.heap.size d (w.alloc (.cells #[.int .u64 ((b : Int) - (a : Int))] 142)) := ⟨h.up ((Below.refl _ w).alloc (Nat.le_refl _) _), ⟨_, by omega, Row.new w _ [.int .u64 ((b : Int) - (a : Int))]⟩, by have := h.lt; omega, h.size⟩
    go_wp2_with fail
    go_loopg [9] 3 (fun k s wx => ∃ dk : Array Int, k ≤ 3 ∧ s = .int .i64 ((a : Int) + ((b : Int) - (a : Int)) / 4 * 2 + 2 - (k : Int)) ∧ PermIn a b d dk ∧ Rng W base g c n w.heap.size dk wx)
    case atStart => exact ⟨d, by omega, int_eq (by omega), permIn_refl d a b, hR0⟩
    case round =>
      obtain ⟨dk, hk3, rfl, hP, hR⟩ := hrel
      clear hR0
      rcases Nat.eq_zero_or_pos gk with h0 | h0
      · subst h0
        have hA := hR.arr
        go_wp2_with fail
        first | go_end0 | ((try simp only [Exit.inBlock, Exit.then]); refine bodyPost_ret (results_none rfl _ _ _) rfl ?_)
        exact ⟨rfl, dk, hP, hA⟩
      · go_wp2_with fail
        refine (next_any W base g c n w.heap.size dk wr hR).mono ?_
        rintro e w2 ⟨r, rfl, hr, hR2⟩
        obtain ⟨v, hv, hvm⟩ := and_le r (m - 1) hr (by omega)
        rw [show ((m - 1 : Nat) : Int) = (m : Int) - 1 by omega] at hv
        by_cases hov : b - a ≤ v
        · skip
          have hI1 : a ≤ a + (b - a) / 4 * 2 + 2 - gk := by omega
          have hI2 : a + (b - a) / 4 * 2 + 2 - gk < b := by omega
          have hJ2 : a + (v - (b - a)) < b := by omega
          have hci := hR2.arr.cell (a + (b - a) / 4 * 2 + 2 - gk) (by omega)
          have hcj := hR2.arr.cell (a + (v - (b - a))) (by omega)
          have hfi := hR2.arr.frozen (a + (b - a) / 4 * 2 + 2 - gk)
          have hfj := hR2.arr.frozen (a + (v - (b - a)))
          generalize hsu : dk[a + (b - a) / 4 * 2 + 2 - gk]! = su at hci
          generalize hsv : dk[a + (v - (b - a))]! = sv at hcj
          have HSU := Lib.hid hsu
          have HSV := Lib.hid hsv
          obtain ⟨vx, hyy⟩ := cell_set_some ⟨g, a + (b - a) / 4 * 2 + 2 - gk, none⟩ (.int .u64 sv) hcj
          clear hsu hsv
          go_wp2_with fail
          have i0a : 0 ≤ (a : Int) + ((b : Int) - (a : Int)) / 4 * 2 + 2 - (gk : Int) := by omega
          have i0b : (a : Int) + ((b : Int) - (a : Int)) / 4 * 2 + 2 - (gk : Int) < (n : Int) := by omega
          have i0c : ((a : Int) + ((b : Int) - (a : Int)) / 4 * 2 + 2 - (gk : Int)).toNat = a + (b - a) / 4 * 2 + 2 - gk := by omega
          have i0d : IntKind.i64.wrap ((a : Int) + ((b : Int) - (a : Int)) / 4 * 2 + 2 - (gk : Int)) = (a : Int) + ((b : Int) - (a : Int)) / 4 * 2 + 2 - (gk : Int) := IntWalk.i64_in _ (by omega)
          have j0a : 0 ≤ (a : Int) + ((v : Int) - ((b : Int) - (a : Int))) := by omega
          have j0b : (a : Int) + ((v : Int) - ((b : Int) - (a : Int))) < (n : Int) := by omega
          have j0c : ((a : Int) + ((v : Int) - ((b : Int) - (a : Int)))).toNat = a + (v - (b - a)) := by omega
          have j0d : IntKind.i64.wrap ((a : Int) + ((v : Int) - ((b : Int) - (a : Int)))) = (a : Int) + ((v : Int) - ((b : Int) - (a : Int))) := IntWalk.i64_in _ (by omega)
          go_region
          clear i0a i0b i0c i0d j0a j0b j0c j0d
          clear hci hcj hfi hfj hyy
          have hRN : Rng W base g c n w.heap.size (swp dk (a + (b - a) / 4 * 2 + 2 - gk) (a + (v - (b - a)))) ((w2.setCell ⟨g, a + (b - a) / 4 * 2 + 2 - gk, none⟩ (.int .u64 sv)).setCell ⟨g, a + (v - (b - a)), none⟩ (.int .u64 su)).drew := hR2.swap HSV.out HSU.out
          refine absw (fun x => Rng W base g c n w.heap.size (swp dk (a + (b - a) / 4 * 2 + 2 - gk) (a + (v - (b - a)))) x) hRN ?_
          clear HSU HSV hRN
          rintro w5 hR5
          go_wp2_with fail
          go_roundg (gk - 1)
          case measure => omega
          case rel => exact ⟨_, by omega, int_eq (by omega), permIn_trans _ _ _ a b hP (swp_permIn _ _ _ _ _ (by omega) (by omega) (by omega) (by omega) (by rw [hR2.arr.sz]; omega)), hR5⟩
        · skip
          have hI1 : a ≤ a + (b - a) / 4 * 2 + 2 - gk := by omega
          have hI2 : a + (b - a) / 4 * 2 + 2 - gk < b := by omega
          have hJ2 : a + v < b := by omega
          have hci := hR2.arr.cell (a + (b - a) / 4 * 2 + 2 - gk) (by omega)
          have hcj := hR2.arr.cell (a + v) (by omega)
          have hfi := hR2.arr.frozen (a + (b - a) / 4 * 2 + 2 - gk)
          have hfj := hR2.arr.frozen (a + v)
          generalize hsu : dk[a + (b - a) / 4 * 2 + 2 - gk]! = su at hci
          generalize hsv : dk[a + v]! = sv at hcj
          have HSU := Lib.hid hsu
          have HSV := Lib.hid hsv
          obtain ⟨vx, hyy⟩ := cell_set_some ⟨g, a + (b - a) / 4 * 2 + 2 - gk, none⟩ (.int .u64 sv) hcj
          clear hsu hsv
          go_wp2_with fail
          have i0a : 0 ≤ (a : Int) + ((b : Int) - (a : Int)) / 4 * 2 + 2 - (gk : Int) := by omega
          have i0b : (a : Int) + ((b : Int) - (a : Int)) / 4 * 2 + 2 - (gk : Int) < (n : Int) := by omega
          have i0c : ((a : Int) + ((b : Int) - (a : Int)) / 4 * 2 + 2 - (gk : Int)).toNat = a + (b - a) / 4 * 2 + 2 - gk := by omega
          have i0d : IntKind.i64.wrap ((a : Int) + ((b : Int) - (a : Int)) / 4 * 2 + 2 - (gk : Int)) = (a : Int) + ((b : Int) - (a : Int)) / 4 * 2 + 2 - (gk : Int) := IntWalk.i64_in _ (by omega)
          have j0a : 0 ≤ (a : Int) + (v : Int) := by omega
          have j0b : (a : Int) + (v : Int) < (n : Int) := by omega
          have j0c : ((a : Int) + (v : Int)).toNat = a + v := by omega
          have j0d : IntKind.i64.wrap ((a : Int) + (v : Int)) = (a : Int) + (v : Int) := IntWalk.i64_in _ (by omega)
          go_region
          clear i0a i0b i0c i0d j0a j0b j0c j0d
          clear hci hcj hfi hfj hyy
          have hRN : Rng W base g c n w.heap.size (swp dk (a + (b - a) / 4 * 2 + 2 - gk) (a + v)) ((w2.setCell ⟨g, a + (b - a) / 4 * 2 + 2 - gk, none⟩ (.int .u64 sv)).setCell ⟨g, a + v, none⟩ (.int .u64 su)).drew := hR2.swap HSV.out HSU.out
          refine absw (fun x => Rng W base g c n w.heap.size (swp dk (a + (b - a) / 4 * 2 + 2 - gk) (a + v)) x) hRN ?_
          clear HSU HSV hRN
          rintro w5 hR5
          go_wp2_with fail
          go_roundg (gk - 1)
          case measure => omega
          case rel => exact ⟨_, by omega, int_eq (by omega), permIn_trans _ _ _ a b hP (swp_permIn _ _ _ _ _ (by omega) (by omega) (by omega) (by omega) (by rw [hR2.arr.sz]; omega)), hR5⟩
  · go_enter Try.func91, Try.ntmps91
    go_wp2_with fail
    first | go_end0 | ((try simp only [Exit.inBlock, Exit.then]); refine bodyPost_ret (results_none rfl _ _ _) rfl ?_)
    exact ⟨rfl, d, permIn_refl d a b, h⟩
end Go.Proofs.Ythaceagaodjllaa
