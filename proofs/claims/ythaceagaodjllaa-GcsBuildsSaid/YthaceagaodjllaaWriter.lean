/- The writer of bytes (codec), and a number's bytes. No condition but that numbers are of their kinds. -/
import Derived.Test.YthaceagaodjllaaCodec
import Derived.Test.YthaceagaodjllaaPlan
namespace Go.Proofs.Ythaceagaodjllaa
open Go.RowKit

def leB (n : Nat) : Nat → List UInt8
  | 0 => []
  | k + 1 => UInt8.ofNat (n % 256) :: leB (n / 256) k
@[simp] theorem leB_length (n k : Nat) : (leB n k).length = k := by
  induction k generalizing n with
  | zero => rfl
  | succ k ih => simp [leB, ih]
theorem leB_snoc (n k : Nat) : leB n (k + 1) = leB n k ++ [UInt8.ofNat (n / 256 ^ k % 256)] := by
  induction k generalizing n with
  | zero => simp [leB]
  | succ k ih => rw [leB, ih, leB, List.cons_append, Nat.div_div_eq_div_mul, Nat.pow_succ, Nat.mul_comm (256 ^ k)]

theorem set_fill {α : Type} (xs : List α) (z u : α) (k m : Nat) (hk : xs.length = k) (h : k < m) : (xs ++ List.replicate (m - k) z).set k u = (xs ++ [u]) ++ List.replicate (m - (k + 1)) z := by
  subst hk
  obtain ⟨d, hd⟩ : ∃ d, m - xs.length = d + 1 := ⟨m - xs.length - 1, by omega⟩
  rw [hd, List.replicate_succ, List.set_append_right _ _ (Nat.le_refl _), Nat.sub_self, List.set_cons_zero, List.append_assoc, List.singleton_append, show m - (xs.length + 1) = d by omega]
set_option maxHeartbeats 400000 in
theorem little_any (n m : Nat) (x k : Int) (w : World) (hx : x = (n : Int)) (hk : k = (m : Int)) (hn : n < 18446744073709551616) (hm : m ≤ 8) :
    Calls Try.prog 75 #[.int .u64 x, .int .i64 k] w fun e w' => ∃ A c, e = .returned (.slice A m c) ∧ w'.ownsRow w.heap.size 5 1 (.slice A m c) m (u8s (leB n m)) ∧ Below w.heap.size w w' := by
  subst hx hk
  go_enter Try.func75, Try.ntmps75
  go_wp2_with ((with_reducible refine wpList_make_n el_u8 rfl (.tmp 9) (.tmp 9) rfl w.heap.size m rfl rfl (by omega) (by omega) (by omega) (by unfold maxLen; omega) (Nat.le_refl _) ?_); intro w1 hown1 hg1)
  have hr1 := own_row hown1
  rw [show (madeCells (Value.int IntKind.u8 0).cells (m * 1)).toList = List.replicate m (.int .u8 0) by rw [Nat.mul_one]; exact toList_madeCells_one _ _] at hr1
  have hb1 : Below w.heap.size w w1 := (Below.refl _ w).grown hg1 (Nat.le_refl _) (fun k hk => by cases hk)
  clear hown1 hg1
  go_loopg [13] m (fun r i wx => ∃ k : Nat, r = m - k ∧ k ≤ m ∧ i = .int .i64 (k : Int) ∧ Row wx w.heap.size 5 (u8s (leB n k) ++ List.replicate (m - k) (.int .u8 0)) ∧ Below w.heap.size w wx)
  case atStart => exact ⟨0, rfl, by omega, rfl, hr1, hb1⟩
  case round =>
    obtain ⟨k, rfl, hk, rfl, hrr, hbr⟩ := hrel
    have hfr := hrr.frozen
    by_cases hlt : k < m
    · have hcr : wr.cell? ⟨w.heap.size, k, none⟩ = some (.int .u8 0) := by
        rw [hrr.cell, List.getElem?_append_right (by simp), u8s_length, leB_length, Nat.sub_self, List.getElem?_replicate, if_pos (by omega)]
      go_wp2_with fail
      go_roundg (m - (k + 1))
      case measure => omega
      case rel =>
        refine ⟨k + 1, rfl, by omega, by go_num, ?_, by (repeat' (first | (with_reducible exact Below.refl _ _) | (with_reducible assumption) | (with_reducible refine Below.alloc ?_ ?_ _) | (with_reducible refine Below.drew ?_) | (with_reducible refine below_drewN ?_ _) | (with_reducible refine Below.setCell ?_ ?_ _) | (first | (with_reducible exact Nat.le_refl _) | (with_reducible assumption) | omega | (simp; omega) | (simp; done))))⟩
        have h := hrr.set k (.int .u8 ((n : Int) / 2 ^ (8 * k) % 256))
        rw [set_fill _ _ _ _ _ (by simp) hlt] at h
        rw [leB_snoc, u8s_append]
        have e : u8s [UInt8.ofNat (n / 256 ^ k % 256)] = [Value.int .u8 ((n : Int) / 2 ^ (8 * k) % 256)] := by
          simp only [u8s, List.map_cons, List.map_nil]
          rw [UInt8.toNat_ofNat_of_lt' (by simp [UInt8.size]; omega), show (256 : Nat) ^ k = 2 ^ (8 * k) by rw [Nat.pow_mul]]
          simp
        rw [e]
        exact h
    · obtain rfl : k = m := by omega
      go_wp2_with fail
      go_ret
      refine ⟨_, _, rfl, row_own ?_ (Nat.le_refl _) (by simp) (by unfold maxLen; omega), hbr⟩
      rw [Nat.sub_self, List.replicate_zero, List.append_nil] at hrr
      exact hrr
/-- The writer at block g: what was put; its row lies from block B on. -/
structure Wtr (w : World) (B g : Nat) (bs : List UInt8) : Prop where
  ex : ∃ A c, Row w g 87 [.slice A bs.length c] ∧ w.ownsRow B 5 1 (.slice A bs.length c) bs.length (u8s bs)
  le : B ≤ g
theorem row_own_ne {w : World} {g base n size : Nat} {t e : TypeId} {cs xs : List Value} {v : Value} (h : Row w g t cs) (ho : w.ownsRow base e size v n xs) (hne : e ≠ t) : v.ownBlock ≠ some g := by
  rcases ho.2 with ⟨rfl, _⟩ | ⟨g', cap, cur, rfl, _, hh, _⟩
  · simp [Value.ownBlock]
  · intro he
    have : g' = g := by simpa [Value.ownBlock] using he
    subst this
    rw [h.out] at hh
    injection hh with hh
    injection hh with _ ht
    exact hne ht.symm
theorem Wtr.lt {w : World} {B g : Nat} {bs : List UInt8} (h : Wtr w B g bs) : g < w.heap.size := by
  obtain ⟨A, c, hr, _⟩ := h.ex
  exact hr.lt
theorem Wtr.up {w w' : World} {B g : Nat} {bs : List UInt8} (h : Wtr w B g bs) (hb : Below w.heap.size w w') : Wtr w' B g bs := by
  obtain ⟨A, c, hr, ho⟩ := h.ex
  exact ⟨⟨A, c, hr.below hb hr.lt, own_up ho hb⟩, h.le⟩

set_option maxHeartbeats 400000 in
theorem new_any_w (w : World) : Calls Try.prog 20 #[] w fun e w' => e = .returned (.pointer (some ⟨w.heap.size, 0, none⟩)) ∧ Wtr w' w.heap.size w.heap.size [] ∧ Below w.heap.size w w' := by
  go_enter Try.func20, Try.ntmps20
  go_wp2
  go_ret
  exact ⟨rfl, ⟨⟨none, 0, Row.new _ _ _, World.ownsRow_nil _ _ _ _⟩, Nat.le_refl _⟩, by (repeat' (first | (with_reducible exact Below.refl _ _) | (with_reducible assumption) | (with_reducible refine Below.alloc ?_ ?_ _) | (with_reducible refine Below.drew ?_) | (with_reducible refine below_drewN ?_ _) | (with_reducible refine Below.setCell ?_ ?_ _) | (first | (with_reducible exact Nat.le_refl _) | (with_reducible assumption) | omega | (simp; omega) | (simp; done))))⟩

set_option maxHeartbeats 1000000 in
theorem num_any_w (B g : Nat) (bs : List UInt8) (n m : Nat) (x k : Int) (w : World) (hw : Wtr w B g bs) (hbs : bs.length ≤ 1099511627776) (hx : x = (n : Int)) (hk : k = (m : Int)) (hn : n < 18446744073709551616) (hm : m ≤ 8) :
    Calls Try.prog 46 #[.pointer (some ⟨g, 0, none⟩), .int .u64 x, .int .i64 k] w fun e w' => e = .returned (.tuple #[]) ∧ Wtr w' B g (bs ++ leB n m) ∧ Below B w w' := by
  subst hx hk
  obtain ⟨A, c, hrow, hown⟩ := hw.ex
  have hc : w.cell? ⟨g, 0, none⟩ = some (.slice A bs.length c) := hrow.cell 0
  go_enter Try.func46, Try.ntmps46
  go_wp2_with fail
  have hle := hw.le
  have hlt := hrow.lt
  clear hc
  refine wp_region_plan 9 [(0, true), (1, true), (2, true), (3, true), (4, true), (5, true), (6, true), (7, false), (8, false)] [(9, true), (10, true), (11, false)] (fun x => Row x g 87 [.slice A bs.length c]) (fun x => ∃ v, Row x g 87 [v]) (by kernel_rfl) (by kernel_rfl) (hrow.drewN 1) ?_
  refine ⟨_, ?_, rfl, Or.inl ⟨by rfl, ?_⟩, ?_⟩
  rotate_left
  · intro wS hSw
    have hcS := hSw.cell 0
    go_simp
    try with_reducible rfl
  simp only [Act.put, List.setIfInBounds_toArray, List.set_cons_zero, List.set_cons_succ]
  refine ⟨_, ?_, rfl, Or.inl ⟨by rfl, ?_⟩, ?_⟩
  rotate_left
  · intro wS hSw
    have hcS := hSw.cell 0
    go_simp
    try with_reducible rfl
  simp only [Act.put, List.setIfInBounds_toArray, List.set_cons_zero, List.set_cons_succ]
  refine ⟨_, ?_, rfl, Or.inl ⟨by rfl, ?_⟩, ?_⟩
  rotate_left
  · intro wS hSw
    have hcS := hSw.cell 0
    go_simp
    try with_reducible rfl
  simp only [Act.put, List.setIfInBounds_toArray, List.set_cons_zero, List.set_cons_succ]
  refine ⟨_, ?_, rfl, Or.inl ⟨by rfl, ?_⟩, ?_⟩
  rotate_left
  · intro wS hSw
    have hcS := hSw.cell 0
    go_simp
    try with_reducible rfl
  simp only [Act.put, List.setIfInBounds_toArray, List.set_cons_zero, List.set_cons_succ]
  refine ⟨_, ?_, rfl, Or.inl ⟨by rfl, ?_⟩, ?_⟩
  rotate_left
  · intro wS hSw
    have hcS := hSw.cell 0
    go_simp
    try with_reducible rfl
  simp only [Act.put, List.setIfInBounds_toArray, List.set_cons_zero, List.set_cons_succ]
  refine ⟨_, ?_, rfl, Or.inl ⟨by rfl, ?_⟩, ?_⟩
  rotate_left
  · intro wS hSw
    have hcS := hSw.cell 0
    go_simp
    try with_reducible rfl
  simp only [Act.put, List.setIfInBounds_toArray, List.set_cons_zero, List.set_cons_succ]
  refine ⟨_, ?_, rfl, Or.inl ⟨by rfl, ?_⟩, ?_⟩
  rotate_left
  · intro wS hSw
    have hcS := hSw.cell 0
    go_simp
    try with_reducible rfl
  simp only [Act.put, List.setIfInBounds_toArray, List.set_cons_zero, List.set_cons_succ]
  have hrow1 := hrow.drewN 1
  have hown1 : (w.drewN 1).ownsRow B 5 1 (.slice A bs.length c) bs.length (u8s bs) := own_up hown (by (repeat' (first | (with_reducible exact Below.refl _ _) | (with_reducible assumption) | (with_reducible refine Below.alloc ?_ ?_ _) | (with_reducible refine Below.drew ?_) | (with_reducible refine below_drewN ?_ _) | (with_reducible refine Below.setCell ?_ ?_ _) | (first | (with_reducible exact Nat.le_refl _) | (with_reducible assumption) | omega | (simp; omega) | (simp; done)))))
  have hb1 : Below B w (w.drewN 1) := by (repeat' (first | (with_reducible exact Below.refl _ _) | (with_reducible assumption) | (with_reducible refine Below.alloc ?_ ?_ _) | (with_reducible refine Below.drew ?_) | (with_reducible refine below_drewN ?_ _) | (with_reducible refine Below.setCell ?_ ?_ _) | (first | (with_reducible exact Nat.le_refl _) | (with_reducible assumption) | omega | (simp; omega) | (simp; done))))
  refine ⟨_, rfl, ?_⟩
  go_wp2_with fail
  refine (little_any n m _ _ _ rfl rfl hn hm).mono ?_
  rintro e w2 ⟨A1, c1, rfl, hown2, hb2⟩
  have hrow2 := hrow1.below hb2 hrow1.lt
  have hown1' := own_up hown1 hb2
  go_wp2_with fail
  refine ⟨hrow2, ?_⟩
  refine ⟨_, rfl, ?_⟩
  have hne : some g ≠ (Value.slice A bs.length c).ownBlock := Ne.symm (row_own_ne hrow2 hown1' (by decide))
  have hlb : 8 + bs.length + m ≤ 1099511627792 := by omega
  refine wpList_app el_u8 rfl (.tmp 10) (.tmp 13) rfl rfl hown1' rfl (own_rd hown2) (by simp) (u8s_one _) (by unfold maxLen; omega) (by omega) (by have := hrow2.lt; omega) ?_
  intro A3 c3 w3 hown3 hg3 hat3
  have hrow3 := hrow2.grown hg3 hne
  refine ⟨hrow3, ⟨_, hrow3⟩, ?_⟩
  refine ⟨_, ?_, rfl, Or.inl ⟨by rfl, ?_⟩, ?_⟩
  rotate_left
  · intro wS hSw
    skip
    go_simp
    try with_reducible rfl
  simp only [Act.put, List.setIfInBounds_toArray, List.set_cons_zero, List.set_cons_succ]
  refine ⟨_, ?_, rfl, Or.inl ⟨by rfl, ?_⟩, ?_⟩
  rotate_left
  · intro wS hSw
    skip
    go_simp
    try with_reducible rfl
  simp only [Act.put, List.setIfInBounds_toArray, List.set_cons_zero, List.set_cons_succ]
  have hc3 := hrow3.cell 0
  have hf3 := hrow3.frozen 0
  refine ⟨_, rfl, ?_⟩
  go_wp2_with fail
  refine ⟨⟨_, hrow3.set _ _⟩, ?_⟩
  refine NoPanic.normal ?_
  show bodyPost _ _ _ .normal _ _
  go_end0
  have hlen : (bs ++ leB n m).length = bs.length + m := by simp
  refine ⟨rfl, ⟨⟨A3, c3, ?_, ?_⟩, hle⟩, ?_⟩
  · rw [hlen]
    ((repeat' (first | (with_reducible assumption) | (with_reducible apply Row.set_eq) | ((with_reducible apply Row.far); rotate_left; focus (first | (simp; done) | (simp; omega) | omega)) | (with_reducible apply Row.drew) | (with_reducible apply Row.drewN) | (with_reducible apply Row.alloc))) <;> rfl)
  · rw [hlen, u8s_append]
    exact hown3.kept (gr_set w3 0 _) (.inr (row_own_ne hrow3 hown3 (by decide)))
  · exact ((hb1.trans (hb2.mono (by show B ≤ w.heap.size; omega))).trans (grown_below hown1' hg3 (Nat.le_refl _) (by have := hrow2.lt; omega))).setCell (by simpa using hle) _

def varB (n : Nat) : List UInt8 := if n < 253 then leB n 1 else if n ≤ 65535 then leB 253 1 ++ leB n 2 else if n ≤ 4294967295 then leB 254 1 ++ leB n 4 else leB 255 1 ++ leB n 8

set_option maxRecDepth 20000 in
set_option maxHeartbeats 1000000 in
theorem var_any_w (B g : Nat) (bs : List UInt8) (n : Nat) (x : Int) (w : World) (hw : Wtr w B g bs) (hbs : bs.length ≤ 1099511627000) (hx : x = (n : Int)) (hn : n < 65536) :
    Calls Try.prog 21 #[.pointer (some ⟨g, 0, none⟩), .int .u64 x] w fun e w' => e = .returned (.tuple #[]) ∧ Wtr w' B g (bs ++ varB n) ∧ Below B w w' := by
  subst hx
  by_cases h1 : n < 253
  · have HV : Hid (varB n = leB n 1) := by show varB n = _; rw [varB, if_pos h1]
    go_enter Try.func21, Try.ntmps21
    go_wp2_with fail
    refine (num_any_w B g bs n 1 _ _ w hw (by omega) rfl rfl (by omega) (by omega)).mono ?_
    rintro e w1 ⟨rfl, hw1, hb1⟩
    go_wp2_with fail
    go_end0
    rw [HV.out]
    exact ⟨rfl, hw1, hb1⟩
  · have HV : Hid (varB n = leB 253 1 ++ leB n 2) := by show varB n = _; rw [varB, if_neg h1, if_pos (by omega)]
    have h2 : decide ((n : Int) ≤ 65535) = true := by rw [decide_eq_true_eq]; omega
    have h3 : decide ((n : Int) < 253) = false := by rw [decide_eq_false_iff_not]; omega
    have HN := Lib.hid hn
    have HB := Lib.hid hbs
    clear h1 hn hbs
    go_enter Try.func21, Try.ntmps21
    go_wp2_with fail
    refine (num_any_w B g bs 253 1 _ _ w hw (by have := HB.out; omega) rfl rfl (by omega) (by omega)).mono ?_
    rintro e w1 ⟨rfl, hw1, hb1⟩
    go_wp2_with fail
    refine (num_any_w B g _ n 2 _ _ w1 hw1 (by have := HB.out; simp; omega) rfl rfl (by have := HN.out; omega) (by omega)).mono ?_
    rintro e w2 ⟨rfl, hw2, hb2⟩
    go_wp2_with fail
    go_end0
    rw [HV.out, ← List.append_assoc]
    exact ⟨rfl, hw2, hb1.trans hb2⟩

set_option maxHeartbeats 1000000 in
/-- Put of one text. -/
theorem put_any_w (B g : Nat) (bs : List UInt8) (A A1 : Option Addr) (c c1 : Nat) (l : List UInt8) (w : World) (hw : Wtr w B g bs) (hbs : bs.length ≤ 1099511627776) (hl : l.length ≤ 1099511627776)
    (hA : Rd w w.heap.size A [.slice A1 l.length c1]) (hrd : Rd w w.heap.size A1 (u8s l)) :
    Calls Try.prog 24 #[.pointer (some ⟨g, 0, none⟩), .slice A 1 c] w fun e w' => e = .returned (.tuple #[]) ∧ Wtr w' B g (bs ++ l) ∧ Below B w w' := by
  obtain ⟨Ar, cr, hrow, hown⟩ := hw.ex
  obtain ⟨b, off, rfl, _, _, hcell⟩ := hA.at (k := 0) (by simp)
  simp only [Nat.add_zero, List.getElem_cons_zero] at hcell
  have hc := hrow.cell
  have hle := hw.le
  have hlt := hrow.lt
  go_enter Try.func24, Try.ntmps24
  go_wp2_with fail
  refine wp_loop_rounds 2 ?_
  rw [rounds_succ]
  go_wp2_with (at_builtin; refine wpList_app el_u8 rfl (.tmp 16) (.tmp 17) rfl rfl hown rfl hrd (by simp) (u8s_one _) (by unfold maxLen; omega) (by omega) (by omega) ?_; intro A2 c2 w2 hown4 hg4 hat4; have hrow4 := hrow.grown hg4 (Ne.symm (row_own_ne hrow hown (by decide))); have hc4 := hrow4.cell; have hf4 := hrow4.frozen)
  rw [rounds_succ]
  go_wp2_with fail
  go_end0
  have hlen : (bs ++ l).length = bs.length + l.length := by simp
  refine ⟨rfl, ⟨⟨A2, c2, ?_, ?_⟩, hle⟩, ?_⟩
  · rw [hlen]
    ((repeat' (first | (with_reducible assumption) | (with_reducible apply Row.set_eq) | ((with_reducible apply Row.far); rotate_left; focus (first | (simp; done) | (simp; omega) | omega)) | (with_reducible apply Row.drew) | (with_reducible apply Row.drewN) | (with_reducible apply Row.alloc))) <;> rfl)
  · rw [hlen, u8s_append]
    exact hown4.kept (gr_set w2 0 _) (.inr (row_own_ne hrow4 hown4 (by decide)))
  · exact (grown_below hown hg4 (Nat.le_refl _) (by omega)).setCell (by simpa using hle) _
end Go.Proofs.Ythaceagaodjllaa
