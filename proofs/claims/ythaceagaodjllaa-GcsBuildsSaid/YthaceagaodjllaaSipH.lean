/- The reference's keyed sum of a text is the program's. Texts of up to 65536 bytes. -/
import Derived.Test.YthaceagaodjllaaSipR
import Derived.Test.YthaceagaodjllaaCodec
namespace Go.Proofs.Ythaceagaodjllaa
open Go.RowKit


theorem el_u64 : Elem Try.prog 35 22 (.int .u64 0) 1 8 := ⟨Try.underlying35, by kernel_rfl, rfl, by decide⟩

def padded (l : List UInt8) : List UInt8 := l ++ List.replicate (7 - l.length % 8) 0 ++ [UInt8.ofNat (l.length % 256)]
theorem padded_length (l : List UInt8) : (padded l).length = 8 * (l.length / 8 + 1) := by simp [padded]; omega
def numsTo (l : List UInt8) (k : Nat) : List Int := (List.range k).map fun i => ((leN (((padded l).drop (8 * i)).take 8) : Nat) : Int)
theorem numsTo_succ (l : List UInt8) (k : Nat) : numsTo l (k + 1) = numsTo l k ++ [((leN (((padded l).drop (8 * k)).take 8) : Nat) : Int)] := by simp [numsTo, List.range_succ]

set_option maxHeartbeats 1000000 in
theorem numbers_any (A : Option Addr) (c : Nat) (l : List UInt8) (w : World) (hrd : Rd w w.heap.size A (u8s l)) (hl : l.length ≤ 65536) :
    Calls Try.prog 86 #[.slice A l.length c] w fun e w' => ∃ A' c', e = .returned (.slice A' (l.length / 8 + 1) c') ∧
      w'.ownsRow w.heap.size 22 1 (.slice A' (l.length / 8 + 1) c') (l.length / 8 + 1) (u64s (numsTo l (l.length / 8 + 1))) ∧ Below w.heap.size w w' := by
  have hown0 : (w.alloc (.cells #[] 5)).ownsRow w.heap.size 5 1 (.slice (some ⟨w.heap.size, 0, none⟩) 0 0) 0 [] := World.ownsRow_lit w #[] 0 (Nat.le_refl _) (by decide) rfl
  go_enter Try.func86, Try.ntmps86
  go_wp2_with (at_builtin; refine wpList_app el_u8 rfl (.tmp 6) (.tmp 7) rfl rfl hown0 rfl (hrd.alloc _) (by simp) (u8s_one l) (by unfold maxLen; omega) (by omega) (by simp) ?_; intro A1 c1 w1 hown1 hg1 hat1)
  have hb1 : Below w.heap.size w w1 := ((Below.refl _ w).alloc (Nat.le_refl _) _).trans (grown_below hown0 hg1 (Nat.le_refl _) (by simp))
  clear hown0 hg1 hat1
  simp only [Nat.zero_add, List.nil_append] at hown1
  have hrd1 := hrd.below hb1
  go_loopg [4] 7 (fun n s wr => ∃ (k : Nat) (A' : Option Addr) (c' : Nat), n = 7 - k ∧ k ≤ 7 - l.length % 8 ∧ s = .slice A' (l.length + k) c' ∧ wr.ownsRow w.heap.size 5 1 (.slice A' (l.length + k) c') (l.length + k) (u8s (l ++ List.replicate k 0)) ∧ Below w.heap.size w wr)
  case atStart => exact ⟨0, A1, c1, rfl, by omega, rfl, by simpa using hown1, hb1⟩
  case round =>
    obtain ⟨k, A', c', rfl, hk, rfl, hownr, hbr⟩ := hrel
    by_cases hlt : k < 7 - l.length % 8
    · have ht : (((l.length + k : Nat) : Int) % 8 == 7) = false := by
        rw [beq_eq_false_iff_ne]; omega
      have ht2 : (((l.length + k : Nat) : Int) % 8 != 7) = true := by
        rw [bne_iff_ne]; omega
      go_wp2_with (at_builtin; refine wpList_app el_u8 rfl (.tmp 13) (.tmp 14) rfl rfl (hownr.alloc _) rfl (rd_one wr 5 (.int .u8 0)) (m := 1) (by simp) (one_int _ _) (by unfold maxLen; omega) (by omega) (by have := hbr.size; simp; omega) ?_; intro A2 c2 w2 hown2 hg2 hat2)
      have hb2 : Below w.heap.size w w2 := (hbr.alloc hbr.size _).trans (grown_below (hownr.alloc _) hg2 (Nat.le_refl _) (by have := hbr.size; simp; omega))
      go_roundg (7 - (k + 1))
      case measure => omega
      case rel =>
        refine ⟨k + 1, A2, c2, rfl, by omega, rfl, ?_, hb2⟩
        change w2.ownsRow _ _ _ _ _ (u8s (l ++ List.replicate k 0) ++ u8s [0]) at hown2
        rw [← u8s_append, List.append_assoc, show List.replicate k (0 : UInt8) ++ [0] = List.replicate (k + 1) 0 by rw [List.replicate_succ']] at hown2
        exact hown2
    · obtain rfl : k = 7 - l.length % 8 := by omega
      have ht2 : (((l.length + (7 - l.length % 8) : Nat) : Int) % 8 != 7) = false := by
        rw [bne_eq_false_iff_eq]; omega
      have hbyte : ((UInt8.ofNat (l.length % 256)).toNat : Int) = (l.length : Int) % 256 := by
        rw [UInt8.toNat_ofNat_of_lt' (by simp [UInt8.size]; omega)]; omega
      have hnew : Rd (wr.alloc (.cells #[.int .u8 ((l.length : Int) % 256)] 5)) (wr.heap.size + 1) (some ⟨wr.heap.size, 0, none⟩) (u8s [UInt8.ofNat (l.length % 256)]) := by
        simp only [u8s, List.map_cons, List.map_nil, hbyte]
        exact rd_one _ _ _
      clear hbyte
      go_wp2_with (at_builtin; refine wpList_app el_u8 rfl (.tmp 16) (.tmp 21) rfl rfl (hownr.alloc _) rfl hnew (m := 1) (by simp) (u8s_one _) (by unfold maxLen; omega) (by omega) (by have := hbr.size; simp; omega) ?_; intro A2 c2 w2 hown2 hg2 hat2)
      have hb2 : Below w.heap.size w w2 := (hbr.alloc hbr.size _).trans (grown_below (hownr.alloc _) hg2 (Nat.le_refl _) (by have := hbr.size; simp; omega))
      have eN : l.length + (7 - l.length % 8) + 1 = 8 * (l.length / 8 + 1) := by omega
      rw [← u8s_append] at hown2
      change w2.ownsRow _ _ _ _ _ (u8s (padded l)) at hown2
      rw [eN] at hown2 ⊢
      have hcap := own_cap hown2
      obtain ⟨hcap1, hcap2⟩ := hcap
      unfold maxLen at hcap2
      have hall := own_rd hown2
      clear hg2 hat2 hownr hnew eN hk hlt ht2 hown2
      have hpl := padded_length l
      have HP := Lib.hid hpl
      obtain ⟨b, off, rfl, _, _, _⟩ := hall.out (by rw [u8s_length, hpl]; omega)
      clear hpl
      go_loopg [3, 5] (l.length / 8 + 1) (fun n s i wx => ∃ (k : Nat) (A3 : Option Addr) (c3 : Nat), n = l.length / 8 + 1 - k ∧ k ≤ l.length / 8 + 1 ∧ i = .int .i64 ((8 * k : Nat) : Int) ∧ s = .slice A3 k c3 ∧
        wx.ownsRow w2.heap.size 22 1 (.slice A3 k c3) k (u64s (numsTo l k)) ∧ Below w2.heap.size w2 wx)
      case atStart => exact ⟨0, none, 0, rfl, by omega, rfl, rfl, World.ownsRow_nil _ _ _ _, Below.refl _ _⟩
      case round =>
        obtain ⟨k, A3, c3, rfl, hk, rfl, rfl, hownx, hbx⟩ := hrel
        by_cases hlt : k < l.length / 8 + 1
        · have hv := value_any (some ⟨b, off + 8 * k, none⟩) (c2 - 8 * k) (((padded l).drop (8 * k)).take 8) wr (by
            have h1 := ((hall.below hbx).shift (8 * k)).take 8
            rw [u8s_drop, u8s_take] at h1
            exact h1.top) (by simp; omega)
          rw [List.take_take, Nat.min_self, show (((padded l).drop (8 * k)).take 8).length = 8 by rw [List.length_take, List.length_drop, HP.out]; omega] at hv
          have HV := Lib.hid hv
          clear hv
          go_wp2_with (first
            | (go_at_call 62; refine (HV.out).mono ?_; rintro e w' ⟨rfl, rfl⟩)
            | (at_builtin; refine wpList_app el_u64 rfl (.tmp 29) (.tmp 36) rfl rfl (hownx.alloc _) rfl (rd_one wr 22 _) (m := 1) (by simp) (one_int _ _) (by unfold maxLen; omega) (by omega) (by have := hbx.size; simp; omega) ?_; intro A4 c4 w4 hown4 hg4 hat4))
          have hb4 : Below w2.heap.size w2 w4 := (hbx.alloc hbx.size _).trans (grown_below (hownx.alloc _) hg4 (Nat.le_refl _) (by have := hbx.size; simp; omega))
          go_roundg (l.length / 8 + 1 - (k + 1))
          case measure => omega
          case rel =>
            refine ⟨k + 1, A4, c4, rfl, by omega, int_eq (by omega), rfl, ?_, hb4⟩
            rw [numsTo_succ, u64s_append]
            exact hown4
        · obtain rfl : k = l.length / 8 + 1 := by omega
          go_wp2_with fail
          go_ret
          exact ⟨A3, c3, rfl, own_base hownx hb2.size, hb2.trans (hbx.mono hb2.size)⟩

theorem sipRound_in (a b c d : Int) : (0 ≤ (sipRound a b c d).2.1 ∧ (sipRound a b c d).2.1 ≤ 18446744073709551615) ∧ (0 ≤ (sipRound a b c d).2.2.2 ∧ (sipRound a b c d).2.2.2 ≤ 18446744073709551615) := ⟨xor64_in _ _, xor64_in _ _⟩
def sipF (v : Int × Int × Int × Int) (ms : List Int) : Nat → Int × Int × Int × Int
  | 0 => v
  | j + 1 => sipTake (sipF v ms j) (ms.getD j 0)
theorem sipF_in (v : Int × Int × Int × Int) (ms : List Int) (h : 0 ≤ v.2.1 ∧ v.2.1 ≤ 18446744073709551615) (j : Nat) : 0 ≤ (sipF v ms j).2.1 ∧ (sipF v ms j).2.1 ≤ 18446744073709551615 := by
  cases j with
  | zero => exact h
  | succ j => exact (sipRound_in _ _ _ _).1
theorem numsTo_get (l : List UInt8) (n k : Nat) (h : k < n) : (numsTo l n).getD k 0 = ((leN (((padded l).drop (8 * k)).take 8) : Nat) : Int) := by
  simp [numsTo, List.getD, h]
theorem sipF_full (v : Int × Int × Int × Int) (l : List UInt8) (j : Nat) (h : j ≤ l.length / 8) : sipF v (numsTo l (l.length / 8 + 1)) j = sipN v l j := by
  induction j with
  | zero => rfl
  | succ j ih =>
    have e : ((padded l).drop (8 * j)).take 8 = (l.drop (8 * j)).take 8 := by
      rw [padded, List.append_assoc, List.drop_append_of_le_length (by omega), List.take_append_of_le_length (by simp; omega)]
    rw [sipF, sipN, ih (by omega), numsTo_get _ _ _ (by omega), e]
theorem leN_zeros (k : Nat) (l : List UInt8) : leN (List.replicate k 0 ++ l) = 256 ^ k * leN l := by
  induction k with
  | zero => simp
  | succ k ih => rw [List.replicate_succ, List.cons_append, leN, ih, Nat.pow_succ, Nat.mul_comm (256 ^ k) 256, Nat.mul_assoc]; simp
theorem sipLast_word (l : List UInt8) (hl : l.length ≤ 65536) : ((leN (((padded l).drop (8 * (l.length / 8))).take 8) : Nat) : Int) = sipLast l := by
  have hr : (l.drop (8 * (l.length / 8))).length = l.length % 8 := by simp; omega
  have e : ((padded l).drop (8 * (l.length / 8))).take 8 = l.drop (8 * (l.length / 8)) ++ (List.replicate (7 - l.length % 8) 0 ++ [UInt8.ofNat (l.length % 256)]) := by
    rw [padded, List.append_assoc, List.drop_append_of_le_length (by omega), List.take_of_length_le (by simp; omega)]
  have hlt := leN_lt (l.drop (8 * (l.length / 8)))
  rw [hr] at hlt
  rw [e, leN_append, leN_zeros, hr, sipLast]
  have hb : leN [UInt8.ofNat (l.length % 256)] = l.length % 256 := by
    simp only [leN]
    rw [UInt8.toNat_ofNat_of_lt' (by simp [UInt8.size]; omega)]
    omega
  have hp : (256 : Nat) ^ (l.length % 8) * 256 ^ (7 - l.length % 8) = 2 ^ 56 := by
    rw [← Nat.pow_add, show l.length % 8 + (7 - l.length % 8) = 7 by omega]
  rw [hb, ← Nat.mul_assoc, hp]
  have hle : (256 : Nat) ^ (l.length % 8) ≤ 256 ^ 7 := Nat.pow_le_pow_right (by decide) (by omega)
  have hlt2 : leN (l.drop (8 * (l.length / 8))) < 2 ^ 56 := Nat.lt_of_lt_of_le hlt hle
  generalize leN (l.drop (8 * (l.length / 8))) = r at *
  have h := bits_join .u64 64 (by decide) (fun n h0 h1 => by rw [IntKind.wrap_u64]; omega) 56 ((l.length : Int) % 256 * 72057594037927936) (r : Int) (by omega) (by omega) (by omega) (by omega) (by exact_mod_cast hlt2) (by omega)
  rw [h]
  omega
theorem sipF_last (k0 k1 : Int) (l : List UInt8) (hl : l.length ≤ 65536) : sipF (sipStart k0 k1) (numsTo l (l.length / 8 + 1)) (l.length / 8 + 1) = sipTake (sipN (sipStart k0 k1) l (l.length / 8)) (sipLast l) := by
  rw [sipF, sipF_full _ _ _ (Nat.le_refl _), numsTo_get _ _ _ (by omega), sipLast_word l hl]
theorem sipR_in (u : Int × Int × Int × Int) : (0 ≤ (sipR u).2.1 ∧ (sipR u).2.1 ≤ 18446744073709551615) ∧ (0 ≤ (sipR u).2.2.2 ∧ (sipR u).2.2.2 ≤ 18446744073709551615) := by
  unfold sipR
  exact sipRound_in _ _ _ _
theorem quad_in (x a b c : Int) (h : (0 ≤ a ∧ a ≤ 18446744073709551615) ∧ (0 ≤ c ∧ c ≤ 18446744073709551615)) :
    (0 ≤ (x, a, b, c).2.1 ∧ (x, a, b, c).2.1 ≤ 18446744073709551615) ∧ (0 ≤ (x, a, b, c).2.2.2 ∧ (x, a, b, c).2.2.2 ≤ 18446744073709551615) := h
theorem sipTake_eq (v : Int × Int × Int × Int) (m : Int) : sipTake v m = (xor64 (sipR (sipR (v.1, v.2.1, v.2.2.1, xor64 v.2.2.2 m))).1 m, (sipR (sipR (v.1, v.2.1, v.2.2.1, xor64 v.2.2.2 m))).2.1,
    (sipR (sipR (v.1, v.2.1, v.2.2.1, xor64 v.2.2.2 m))).2.2.1, (sipR (sipR (v.1, v.2.1, v.2.2.1, xor64 v.2.2.2 m))).2.2.2) := rfl
theorem sipTake_in (v : Int × Int × Int × Int) (m : Int) : (0 ≤ (sipTake v m).2.1 ∧ (sipTake v m).2.1 ≤ 18446744073709551615) ∧ (0 ≤ (sipTake v m).2.2.2 ∧ (sipTake v m).2.2.2 ≤ 18446744073709551615) := by
  rw [sipTake_eq]
  exact quad_in _ _ _ _ (sipR_in _)
theorem sipMid_in (v : Int × Int × Int × Int) (m : Int) : (0 ≤ (sipMid (sipTake v m)).2.1 ∧ (sipMid (sipTake v m)).2.1 ≤ 18446744073709551615) ∧ (0 ≤ (sipMid (sipTake v m)).2.2.2 ∧ (sipMid (sipTake v m)).2.2.2 ≤ 18446744073709551615) := by
  have h := sipTake_in v m
  generalize sipTake v m = u at *
  rw [sipMid]
  exact quad_in _ _ _ _ h
theorem sipRk_in (v : Int × Int × Int × Int) (m : Int) (k : Nat) : (0 ≤ (sipRk (sipMid (sipTake v m)) k).2.1 ∧ (sipRk (sipMid (sipTake v m)) k).2.1 ≤ 18446744073709551615) ∧ (0 ≤ (sipRk (sipMid (sipTake v m)) k).2.2.2 ∧ (sipRk (sipMid (sipTake v m)) k).2.2.2 ≤ 18446744073709551615) := by
  cases k with
  | zero => rw [sipRk]; exact sipMid_in v m
  | succ k => rw [sipRk]; exact sipR_in _
set_option maxHeartbeats 1600000 in
theorem refHash_any (k0 k1 : Int) (A : Option Addr) (c : Nat) (l : List UInt8) (w : World) (hrd : Rd w w.heap.size A (u8s l)) (hl : l.length ≤ 65536) :
    Calls Try.prog 74 #[.int .u64 k0, .int .u64 k1, .slice A l.length c] w fun e w' => e = .returned (.int .u64 (sipHash k0 k1 l)) ∧ Below w.heap.size w w' := by
  go_enter Try.func74, Try.ntmps74
  go_wp2_with fail
  refine absc (fun x => Row x w.heap.size 115 (q4l (sipStart k0 k1)) ∧ x.heap.size = w.heap.size + 1 ∧ Rd x w.heap.size A (u8s l) ∧ Below w.heap.size w x)
    ⟨Row.new _ _ _, by simp, hrd.alloc _, by (repeat' (first | (with_reducible exact Below.refl _ _) | (with_reducible assumption) | (with_reducible refine Below.alloc ?_ ?_ _) | (with_reducible refine Below.drew ?_) | (with_reducible refine below_drewN ?_ _) | (with_reducible refine Below.setCell ?_ ?_ _) | (first | (with_reducible exact Nat.le_refl _) | (with_reducible assumption) | omega | (simp; omega) | (simp; done))))⟩ ?_
  rintro w1 ⟨hr0, hs1, hrd0, hb0⟩
  refine (numbers_any A c l w1 hrd0.top hl).mono ?_
  rintro e w2 ⟨A', c', rfl, hown, hb1⟩
  rw [hs1] at hown
  have hr2 := hr0.below hb1 hr0.lt
  have hb2 := hb0.trans (hb1.mono hb0.size)
  clear hr0 hs1 hrd0 hb0 hb1
  have hnl : (numsTo l (l.length / 8 + 1)).length = l.length / 8 + 1 := by simp [numsTo]
  have HF := Lib.hid (sipF_last k0 k1 l hl)
  have HS : Hid (∀ j, 0 ≤ (sipF (sipStart k0 k1) (numsTo l (l.length / 8 + 1)) j).2.1 ∧ (sipF (sipStart k0 k1) (numsTo l (l.length / 8 + 1)) j).2.1 ≤ 18446744073709551615) := sipF_in _ _ (xor64_in _ _)
  generalize hms : numsTo l (l.length / 8 + 1) = ms at *
  clear hms
  have hnl2 : l.length / 8 + 1 ≤ ms.length := by omega
  have hnl3 : ms.length ≤ l.length / 8 + 1 := by omega
  clear hnl
  go_wp2_with fail
  go_loopg [23] (l.length / 8 + 1) (fun n s wx => ∃ k : Nat, n = l.length / 8 + 1 - k ∧ k ≤ l.length / 8 + 1 ∧ s = .int .i64 (k : Int) ∧ Row wx w.heap.size 115 (q4l (sipF (sipStart k0 k1) ms k)) ∧
    wx.ownsRow (w.heap.size + 1) 22 1 (.slice A' (l.length / 8 + 1) c') (l.length / 8 + 1) (u64s ms) ∧ Below w.heap.size w wx)
  case atStart => exact ⟨0, rfl, by omega, rfl, hr2, hown, hb2⟩
  case round =>
    obtain ⟨k, rfl, hk, rfl, hrr, hownr, hbr⟩ := hrel
    have hcr := hrr.cell
    have hfr := hrr.frozen
    rw [q4l_eq] at hcr
    by_cases hlt : k < l.length / 8 + 1
    · obtain ⟨b, off, rfl, _, hbs, hcell⟩ := (own_rd hownr).at (k := k) (by simp; omega)
      rw [u64s_get _ _ (by omega)] at hcell
      generalize hV : sipF (sipStart k0 k1) ms k = V at *
      have HV := Lib.hid hV
      have hVin := HS.out k
      rw [hV] at hVin
      have HVin := Lib.hid hVin
      clear hV hVin
      obtain ⟨m, hm⟩ : ∃ m, m = ms[k] := ⟨_, rfl⟩
      rw [← hm] at hcell
      have HM : Hid (ms.getD k 0 = m) := by show ms.getD k 0 = m; rw [hm]; simp [List.getD, show k < ms.length by omega]
      clear hm
      go_wp2_with fail
      refine absc (fun x => Row x w.heap.size 115 [.int .u64 V.1, .int .u64 V.2.1, .int .u64 V.2.2.1, .int .u64 (bits BinOp.xor IntKind.u64 V.2.2.2 m)] ∧
        x.ownsRow (w.heap.size + 1) 22 1 (.slice (some ⟨b, off, none⟩) (l.length / 8 + 1) c') (l.length / 8 + 1) (u64s ms) ∧ Below w.heap.size w x) ⟨?_, ownsRow_setCell_below hownr (by simp) _, by (repeat' (first | (with_reducible exact Below.refl _ _) | (with_reducible assumption) | (with_reducible refine Below.alloc ?_ ?_ _) | (with_reducible refine Below.drew ?_) | (with_reducible refine below_drewN ?_ _) | (with_reducible refine Below.setCell ?_ ?_ _) | (first | (with_reducible exact Nat.le_refl _) | (with_reducible assumption) | omega | (simp; omega) | (simp; done))))⟩ ?_
      · rw [q4l_eq] at hrr
        ((repeat' (first | (with_reducible assumption) | (with_reducible apply Row.set_eq) | ((with_reducible apply Row.far); rotate_left; focus (first | (simp; done) | (simp; omega) | omega)) | (with_reducible apply Row.drew) | (with_reducible apply Row.drewN) | (with_reducible apply Row.alloc))) <;> rfl)
      clear hrr hownr hbr hcr hfr hcell
      rintro w4 ⟨hr4, hown4, hb4⟩
      refine (refRound_any _ _ _ _ _ HVin.out (bits_u64_in _ _ _)).mono ?_
      rintro e w5 ⟨rfl, hb5⟩
      have hr5 := hr4.below hb5 hr4.lt
      have hown5 := own_up hown4 hb5
      have hb6 := hb4.trans (hb5.mono hb4.size)
      clear hr4 hown4 hb4 hb5
      have HUin := Lib.hid (sipRound_in V.1 V.2.1 V.2.2.1 (bits BinOp.xor IntKind.u64 V.2.2.2 m))
      generalize hU : sipRound V.1 V.2.1 V.2.2.1 (bits BinOp.xor IntKind.u64 V.2.2.2 m) = U at *
      have HU := Lib.hid hU
      clear hU
      have hc5 := hr5.cell
      have hf5 := hr5.frozen
      rw [q4_eq]
      go_wp2_with fail
      refine absc (fun x => Row x w.heap.size 115 (q4l U) ∧
        x.ownsRow (w.heap.size + 1) 22 1 (.slice (some ⟨b, off, none⟩) (l.length / 8 + 1) c') (l.length / 8 + 1) (u64s ms) ∧ Below w.heap.size w x) ⟨?_, ownsRow_setCell_below (ownsRow_setCell_below (ownsRow_setCell_below (ownsRow_setCell_below hown5 (by simp) _) (by simp) _) (by simp) _) (by simp) _, by (repeat' (first | (with_reducible exact Below.refl _ _) | (with_reducible assumption) | (with_reducible refine Below.alloc ?_ ?_ _) | (with_reducible refine Below.drew ?_) | (with_reducible refine below_drewN ?_ _) | (with_reducible refine Below.setCell ?_ ?_ _) | (first | (with_reducible exact Nat.le_refl _) | (with_reducible assumption) | omega | (simp; omega) | (simp; done))))⟩ ?_
      · rw [q4l_eq]
        ((repeat' (first | (with_reducible assumption) | (with_reducible apply Row.set_eq) | ((with_reducible apply Row.far); rotate_left; focus (first | (simp; done) | (simp; omega) | omega)) | (with_reducible apply Row.drew) | (with_reducible apply Row.drewN) | (with_reducible apply Row.alloc))) <;> rfl)
      clear hr5 hown5 hb6 hc5 hf5
      rintro w6 ⟨hr6, hown6, hb6⟩
      refine (refRound_any _ _ _ _ _ HUin.out.1 HUin.out.2).mono ?_
      rintro e w7 ⟨rfl, hb7⟩
      have hr7 := hr6.below hb7 hr6.lt
      have hown7 := own_up hown6 hb7
      have hb8 := hb6.trans (hb7.mono hb6.size)
      clear hr6 hown6 hb6 hb7
      generalize hT : sipRound U.1 U.2.1 U.2.2.1 U.2.2.2 = T at *
      have HT := Lib.hid hT
      clear hT
      have hc7 := hr7.cell
      have hf7 := hr7.frozen
      rw [q4l_eq] at hc7
      rw [q4_eq]
      go_wp2_with fail
      go_roundg (l.length / 8 + 1 - (k + 1))
      case measure => omega
      case rel =>
        have eT : sipF (sipStart k0 k1) ms (k + 1) = (bits BinOp.xor IntKind.u64 T.1 m, T.2.1, T.2.2.1, T.2.2.2) := by
          rw [sipF, HV.out, HM.out, sipTake, ← HT.out, ← HU.out]
          rfl
        refine ⟨k + 1, rfl, by omega, by go_num, ?_, ownsRow_setCell_below (ownsRow_setCell_below (ownsRow_setCell_below (ownsRow_setCell_below (ownsRow_setCell_below hown7 (by simp) _) (by simp) _) (by simp) _) (by simp) _) (by simp) _, by (repeat' (first | (with_reducible exact Below.refl _ _) | (with_reducible assumption) | (with_reducible refine Below.alloc ?_ ?_ _) | (with_reducible refine Below.drew ?_) | (with_reducible refine below_drewN ?_ _) | (with_reducible refine Below.setCell ?_ ?_ _) | (first | (with_reducible exact Nat.le_refl _) | (with_reducible assumption) | omega | (simp; omega) | (simp; done))))⟩
        rw [eT, q4l_eq]
        rw [q4l_eq] at hr7
        ((repeat' (first | (with_reducible assumption) | (with_reducible apply Row.set_eq) | ((with_reducible apply Row.far); rotate_left; focus (first | (simp; done) | (simp; omega) | omega)) | (with_reducible apply Row.drew) | (with_reducible apply Row.drewN) | (with_reducible apply Row.alloc))) <;> rfl)
    · obtain rfl : k = l.length / 8 + 1 := by omega
      rw [HF.out] at hrr hcr
      have hin := sipRk_in (sipN (sipStart k0 k1) l (l.length / 8)) (sipLast l)
      generalize hV : sipTake (sipN (sipStart k0 k1) l (l.length / 8)) (sipLast l) = V at *
      have HV := Lib.hid hV
      have HIn := Lib.hid hin
      clear hV hin
      go_wp2_with fail
      refine absw (fun x => Row x w.heap.size 115 (q4l (sipMid V)) ∧ Below w.heap.size w x) ⟨?_, by (repeat' (first | (with_reducible exact Below.refl _ _) | (with_reducible assumption) | (with_reducible refine Below.alloc ?_ ?_ _) | (with_reducible refine Below.drew ?_) | (with_reducible refine below_drewN ?_ _) | (with_reducible refine Below.setCell ?_ ?_ _) | (first | (with_reducible exact Nat.le_refl _) | (with_reducible assumption) | omega | (simp; omega) | (simp; done))))⟩ ?_
      · rw [sipMid_l]
        rw [q4l_eq] at hrr
        ((repeat' (first | (with_reducible assumption) | (with_reducible apply Row.set_eq) | ((with_reducible apply Row.far); rotate_left; focus (first | (simp; done) | (simp; omega) | omega)) | (with_reducible apply Row.drew) | (with_reducible apply Row.drewN) | (with_reducible apply Row.alloc))) <;> rfl)
      rintro w3 ⟨hr3, hb4⟩
      clear hrr hcr hfr hbr
      go_loopg [10] 4 (fun n s wr => ∃ k : Nat, n = 4 - k ∧ k ≤ 4 ∧ s = .int .i64 k ∧ Row wr w.heap.size 115 (q4l (sipRk (sipMid V) k)) ∧ Below w.heap.size w wr)
      case atStart => exact ⟨0, by omega, by omega, rfl, hr3, hb4⟩
      case round =>
        obtain ⟨k, rfl, hk, rfl, hrk, hbk⟩ := hrel
        have hck := hrk.cell
        have hfk := hrk.frozen
        rw [q4l_eq] at hck
        by_cases hlt4 : k < 4
        · go_wp2_with fail
          refine (refRound_any _ _ _ _ _ (HIn.out k).1 (HIn.out k).2).mono ?_
          rintro e w4 ⟨rfl, hb5⟩
          have e1 : sipRound (sipRk (sipMid V) k).1 (sipRk (sipMid V) k).2.1 (sipRk (sipMid V) k).2.2.1 (sipRk (sipMid V) k).2.2.2 = sipRk (sipMid V) (k + 1) := rfl
          rw [e1]
          clear e1
          have hr5 := hrk.below hb5 hrk.lt
          have hb6 := hbk.trans (hb5.mono hbk.size)
          clear hck hfk hrk hb5 hbk
          have hck := hr5.cell
          have hfk := hr5.frozen
          rw [q4l_eq] at hck
          rw [q4_eq]
          go_wp2_with fail
          go_roundg (4 - (k + 1))
          case measure => omega
          case rel =>
            refine ⟨k + 1, rfl, by omega, by go_num, ?_, by (repeat' (first | (with_reducible exact Below.refl _ _) | (with_reducible assumption) | (with_reducible refine Below.alloc ?_ ?_ _) | (with_reducible refine Below.drew ?_) | (with_reducible refine below_drewN ?_ _) | (with_reducible refine Below.setCell ?_ ?_ _) | (first | (with_reducible exact Nat.le_refl _) | (with_reducible assumption) | omega | (simp; omega) | (simp; done))))⟩
            rw [q4l_eq] at hr5 ⊢
            ((repeat' (first | (with_reducible assumption) | (with_reducible apply Row.set_eq) | ((with_reducible apply Row.far); rotate_left; focus (first | (simp; done) | (simp; omega) | omega)) | (with_reducible apply Row.drew) | (with_reducible apply Row.drewN) | (with_reducible apply Row.alloc))) <;> rfl)
        · obtain rfl : k = 4 := by omega
          go_wp2_with fail
          go_ret
          refine ⟨?_, by (repeat' (first | (with_reducible exact Below.refl _ _) | (with_reducible assumption) | (with_reducible refine Below.alloc ?_ ?_ _) | (with_reducible refine Below.drew ?_) | (with_reducible refine below_drewN ?_ _) | (with_reducible refine Below.setCell ?_ ?_ _) | (first | (with_reducible exact Nat.le_refl _) | (with_reducible assumption) | omega | (simp; omega) | (simp; done))))⟩
          simp only [sipHash, HV.out, sipEnd, sipOut, xor64]
          rfl
end Go.Proofs.Ythaceagaodjllaa
