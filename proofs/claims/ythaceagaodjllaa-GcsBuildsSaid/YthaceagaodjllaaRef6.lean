/- The reference's counts (06): Digits, Num, Var, Count. -/
import Derived.Test.YthaceagaodjllaaStr
import Derived.Test.YthaceagaodjllaaCodec2
import Derived.Test.YthaceagaodjllaaWriter
namespace Go.Proofs.Ythaceagaodjllaa
open Go.RowKit

theorem el_int : Elem Try.prog 43 3 (.int .i64 0) 1 8 := ⟨Try.underlying43, by kernel_rfl, rfl, by decide⟩
theorem held01_any (n : Nat) (k : Int) (w : World) (hk : k = (n : Int)) (hn : n ≤ 8) : Calls Try.prog 83 #[.int .i64 k] w fun e w' => e = .returned (.int .i64 (n : Int)) ∧ w = w' := by
  subst hk
  go_enter Try.func83, Try.ntmps83
  go_wp2_with fail
  go_ret
  exact ⟨rfl, rfl⟩
def ints8 (l : List UInt8) : List Value := l.map fun b => .int .i64 (b.toNat : Int)
@[simp] theorem ints8_length (l : List UInt8) : (ints8 l).length = l.length := by simp [ints8]
theorem ints8_append (l r : List UInt8) : ints8 (l ++ r) = ints8 l ++ ints8 r := by simp [ints8]
theorem ints8_get (l : List UInt8) (k : Nat) (h : k < l.length) : (ints8 l)[k]'(by simpa using h) = .int .i64 (l[k].toNat : Int) := by simp [ints8]

set_option maxHeartbeats 400000 in
theorem digits_any (n m : Nat) (x k : Int) (w : World) (hx : x = (n : Int)) (hk : k = (m : Int)) (hn : n < 18446744073709551616) (hm : m ≤ 8) :
    Calls Try.prog 82 #[.int .u64 x, .int .i64 k] w fun e w' => ∃ A c, e = .returned (.slice A m c) ∧ w'.ownsRow w.heap.size 3 1 (.slice A m c) m (ints8 (leB n m)) ∧ Below w.heap.size w w' := by
  subst hx hk
  go_enter Try.func82, Try.ntmps82
  go_wp2_with fail
  go_loopg [0, 5, 6] m (fun r v out i wx => ∃ (k : Nat) (A : Option Addr) (c : Nat), r = m - k ∧ k ≤ m ∧ i = .int .i64 (k : Int) ∧ v = .int .u64 ((n / 256 ^ k : Nat) : Int) ∧ out = .slice A k c ∧ wx.ownsRow w.heap.size 3 1 (.slice A k c) k (ints8 (leB n k)) ∧ Below w.heap.size w wx)
  case atStart => exact ⟨0, none, 0, by omega, by omega, rfl, by simp, rfl, World.ownsRow_nil _ _ _ _, Below.refl _ _⟩
  case round =>
    obtain ⟨k, A, c, rfl, hk, rfl, rfl, rfl, hown, hbr⟩ := hrel
    by_cases hlt : k < m
    · have hv : n / 256 ^ k < 18446744073709551616 := Nat.lt_of_le_of_lt (Nat.div_le_self _ _) hn
      have HB : Hid (leB n (k + 1) = leB n k ++ [UInt8.ofNat (n / 256 ^ k % 256)]) := Lib.hid (leB_snoc n k)
      have HD : Hid (n / 256 ^ (k + 1) = n / 256 ^ k / 256) := Lib.hid (by rw [Nat.div_div_eq_div_mul, Nat.pow_succ])
      generalize n / 256 ^ k = v at *
      have hbs := hbr.size
      have hownA : (wr.alloc (.cells #[.int .i64 ((v : Int) % 256)] 3)).ownsRow w.heap.size 3 1 (.slice A k c) k (ints8 (leB n k)) := own_up hown (by (repeat' (first | (with_reducible exact Below.refl _ _) | (with_reducible assumption) | (with_reducible refine Below.alloc ?_ ?_ _) | (with_reducible refine Below.drew ?_) | (with_reducible refine below_drewN ?_ _) | (with_reducible refine Below.setCell ?_ ?_ _) | (first | (with_reducible exact Nat.le_refl _) | (with_reducible assumption) | omega | (simp; omega) | (simp; done)))))
      go_wp2_with (at_builtin; refine wpList_app el_int rfl (.tmp 12) (.tmp 16) rfl rfl hownA rfl (rd_one wr 3 _) (m := 1) (by simp) (one_int _ _) (by unfold maxLen; omega) (by omega) (by simp; omega) ?_; intro A3 c3 w3 hown3 hg3 hat3)
      go_roundg (m - (k + 1))
      case measure => omega
      case rel =>
        refine ⟨k + 1, A3, c3, rfl, by omega, by go_num, int_eq (by rw [HD.out]; omega), rfl, ?_, ?_⟩
        · rw [HB.out, ints8_append]
          have e : ints8 [UInt8.ofNat (v % 256)] = [Value.int .i64 ((v : Int) % 256)] := by
            simp only [ints8, List.map_cons, List.map_nil]
            rw [UInt8.toNat_ofNat_of_lt' (by simp [UInt8.size]; omega)]
            simp
          rw [e]
          exact hown3
        · exact (hbr.alloc hbs _).trans (grown_below hownA hg3 (by omega) (by simp; omega))
    · obtain rfl : k = m := by omega
      go_wp2_with fail
      go_ret
      exact ⟨_, _, rfl, hown, hbr⟩

theorem own_own_ne {w : World} {b1 b2 s1 s2 n1 n2 : Nat} {e1 e2 : TypeId} {v1 v2 : Value} {x1 x2 : List Value} (h1 : w.ownsRow b1 e1 s1 v1 n1 x1) (h2 : w.ownsRow b2 e2 s2 v2 n2 x2) (hne : e1 ≠ e2) : v1.ownBlock = none ∨ v1.ownBlock ≠ v2.ownBlock := by
  rcases h1.2 with ⟨rfl, _⟩ | ⟨g, cap, cur, rfl, _, hh, _⟩
  · exact .inl rfl
  · right
    rcases h2.2 with ⟨rfl, _⟩ | ⟨g', cap', cur', rfl, _, hh', _⟩
    · simp [Value.ownBlock]
    · intro he
      have : g = g' := by simpa [Value.ownBlock] using he
      subst this
      rw [hh] at hh'
      injection hh' with hh'
      injection hh' with _ ht
      exact hne ht

set_option maxHeartbeats 400000 in
theorem num06_any (n m : Nat) (x k : Int) (w : World) (hx : x = (n : Int)) (hk : k = (m : Int)) (hn : n < 18446744073709551616) (hm : m ≤ 8) :
    Calls Try.prog 55 #[.int .u64 x, .int .i64 k] w fun e w' => e = .returned (.string (tx (leB n m))) ∧ Below w.heap.size w w' := by
  subst hx hk
  go_enter Try.func55, Try.ntmps55
  go_wp2_with fail
  refine (held01_any m _ _ rfl hm).mono ?_
  rintro e _ ⟨rfl, rfl⟩
  go_wp2_with fail
  refine (digits_any n m _ _ _ rfl rfl hn hm).mono ?_
  rintro e w1 ⟨AD, cD, rfl, hownD, hb1⟩
  have hown0 : w1.ownsRow w.heap.size 5 1 (.slice (some ⟨w.heap.size, 0, none⟩) 0 0) 0 [] := own_below (World.ownsRow_lit w #[] 0 (Nat.le_refl _) (by decide) rfl) hb1 (fun g hg => by injection hg with hg; subst hg; simp)
  have hbw1 : Below w.heap.size w w1 := ((Below.refl _ w).alloc (Nat.le_refl _) _).trans (hb1.mono (by simp))
  have hbD := hownD
  go_wp2_with fail
  have hlen : (leB n m).length = m := leB_length n m
  have HC : ∀ wx A c, Rd wx wx.heap.size A (u8s (leB n m)) → (convert 27 9 (.slice A m c)).run Try.prog wx = .ok (.string (tx (leB n m))) wx := fun wx A c h => by
    have h2 := run_back (P := Try.prog) 27 9 5 (c := c) Try.underlying27 Try.underlying5 Try.underlying9 h
    rwa [hlen] at h2
  have HCC := Lib.hid HC
  clear HC
  generalize hDE : leB n m = D at *
  have HDE := Lib.hid hDE
  clear hDE
  have HLEN := Lib.hid hlen
  clear hlen
  go_loopg [5, 14] m (fun r out i wx => ∃ (k : Nat) (A : Option Addr) (c : Nat), r = m - k ∧ k ≤ m ∧ i = .int .i64 (k : Int) ∧ out = .slice A k c ∧ wx.ownsRow w.heap.size 5 1 (.slice A k c) k (u8s (D.take k)) ∧ wx.ownsRow (w.heap.size + 1) 3 1 (.slice AD m cD) m (ints8 D) ∧ Below w.heap.size w wx)
  case atStart => exact ⟨0, _, 0, by omega, by omega, rfl, rfl, by simpa [u8s] using hown0, own_base hownD (by simp), hbw1⟩
  case round =>
    obtain ⟨k, A, c, rfl, hk, rfl, rfl, hown, hownd, hbr⟩ := hrel
    by_cases hlt : k < m
    · have hkl : k < D.length := by have := HLEN.out; omega
      obtain ⟨b, off, rfl, _, _, hcell⟩ := (own_rd hownd).at (k := k) (by simpa using hkl)
      rw [ints8_get _ _ hkl] at hcell
      have hby : D[k].toNat < 256 := D[k].toNat_lt
      have HT : Hid (D.take (k + 1) = D.take k ++ [D[k]]) := Lib.hid (take_snoc D k hkl)
      generalize D[k] = v at *
      have hbs := hbr.size
      have hownA : (wr.alloc (.cells #[.int .u8 (v.toNat : Int)] 5)).ownsRow w.heap.size 5 1 (.slice A k c) k (u8s (D.take k)) := own_up hown (by (repeat' (first | (with_reducible exact Below.refl _ _) | (with_reducible assumption) | (with_reducible refine Below.alloc ?_ ?_ _) | (with_reducible refine Below.drew ?_) | (with_reducible refine below_drewN ?_ _) | (with_reducible refine Below.setCell ?_ ?_ _) | (first | (with_reducible exact Nat.le_refl _) | (with_reducible assumption) | omega | (simp; omega) | (simp; done)))))
      have howndA : (wr.alloc (.cells #[.int .u8 (v.toNat : Int)] 5)).ownsRow (w.heap.size + 1) 3 1 (.slice (some ⟨b, off, none⟩) m cD) m (ints8 D) := own_up hownd (by (repeat' (first | (with_reducible exact Below.refl _ _) | (with_reducible assumption) | (with_reducible refine Below.alloc ?_ ?_ _) | (with_reducible refine Below.drew ?_) | (with_reducible refine below_drewN ?_ _) | (with_reducible refine Below.setCell ?_ ?_ _) | (first | (with_reducible exact Nat.le_refl _) | (with_reducible assumption) | omega | (simp; omega) | (simp; done)))))
      go_wp2_with (at_builtin; refine wpList_app el_u8 rfl (.tmp 18) (.tmp 21) rfl rfl hownA rfl (rd_one wr 5 _) (m := 1) (by simp) (one_int _ _) (by unfold maxLen; omega) (by omega) (by simp; omega) ?_; intro A3 c3 w3 hown3 hg3 hat3)
      go_roundg (m - (k + 1))
      case measure => omega
      case rel =>
        refine ⟨k + 1, A3, c3, rfl, by omega, by go_num, rfl, ?_, howndA.kept hg3 (own_own_ne howndA hownA (by decide)), ?_⟩
        · rw [HT.out, u8s_append]
          exact hown3
        · exact (hbr.alloc hbs _).trans (grown_below hownA hg3 (by omega) (by simp; omega))
    · obtain rfl : k = m := by omega
      rw [List.take_of_length_le (by have := HLEN.out; omega)] at hown
      have hcv := HCC.out wr A c (own_rd hown)
      go_wp2_with fail
      go_ret
      rw [HDE.out]
      exact ⟨rfl, hbr⟩

/-- A count's bytes, of whatever size. -/
def varT (n : Nat) : List UInt8 := if n < 253 then leB n 1 else if n < 65536 then 253 :: leB n 2 else if n < 4294967296 then 254 :: leB n 4 else 255 :: leB n 8

set_option maxRecDepth 20000 in
set_option maxHeartbeats 400000 in
theorem var06_any (n : Nat) (x : Int) (w : World) (hx : x = (n : Int)) (hn : n < 18446744073709551616) :
    Calls Try.prog 28 #[.int .u64 x] w fun e w' => e = .returned (.string (tx (varT n))) ∧ Below w.heap.size w w' := by
  subst hx
  have HA : ∀ (b : UInt8) (l : List UInt8) (wx : World), l.length ≤ 100 → (Op.stringOp .add ⟨#[b]⟩ (tx l)).run Try.prog wx = .ok (.string (tx (b :: l))) wx := fun b l wx hl => by
    rw [run_string_add_sum wx _ _ (by show 1 + l.length ≤ _; omega)]
    rfl
  have HN := Lib.hid hn
  by_cases h1 : n < 253
  · have HV : Hid (varT n = leB n 1) := by show varT n = _; rw [varT, if_pos h1]
    clear HA
    go_enter Try.func28, Try.ntmps28
    go_wp2_with fail
    refine (num06_any n 1 _ _ _ rfl rfl HN.out (by omega)).mono ?_
    rintro e w1 ⟨rfl, hb1⟩
    go_wp2_with fail
    go_ret
    rw [HV.out]
    exact ⟨rfl, hb1⟩
  · have h1' : decide ((n : Int) < 253) = false := by rw [decide_eq_false_iff_not]; omega
    by_cases h2 : n < 65536
    · have HV : Hid (varT n = 253 :: leB n 2) := by show varT n = _; rw [varT, if_neg h1, if_pos h2]
      have h2' : decide ((n : Int) < 65536) = true := by rw [decide_eq_true_eq]; omega
      have hcat := fun wx => HA 253 (leB n 2) wx (by simp)
      clear HA h1 h2 hn
      go_enter Try.func28, Try.ntmps28
      go_wp2_with fail
      refine (num06_any n 2 _ _ _ rfl rfl HN.out (by omega)).mono ?_
      rintro e w1 ⟨rfl, hb1⟩
      go_wp2_with fail
      go_ret
      rw [HV.out]
      exact ⟨rfl, hb1⟩
    · have h2' : decide ((n : Int) < 65536) = false := by rw [decide_eq_false_iff_not]; omega
      by_cases h3 : n < 4294967296
      · have HV : Hid (varT n = 254 :: leB n 4) := by show varT n = _; rw [varT, if_neg h1, if_neg h2, if_pos h3]
        have h3' : decide ((n : Int) < 4294967296) = true := by rw [decide_eq_true_eq]; omega
        have hcat := fun wx => HA 254 (leB n 4) wx (by simp)
        clear HA h1 h2 h3 hn
        go_enter Try.func28, Try.ntmps28
        go_wp2_with fail
        refine (num06_any n 4 _ _ _ rfl rfl HN.out (by omega)).mono ?_
        rintro e w1 ⟨rfl, hb1⟩
        go_wp2_with fail
        go_ret
        rw [HV.out]
        exact ⟨rfl, hb1⟩
      · have HV : Hid (varT n = 255 :: leB n 8) := by show varT n = _; rw [varT, if_neg h1, if_neg h2, if_neg h3]
        have h3' : decide ((n : Int) < 4294967296) = false := by rw [decide_eq_false_iff_not]; omega
        have hcat := fun wx => HA 255 (leB n 8) wx (by simp)
        clear HA h1 h2 h3 hn
        go_enter Try.func28, Try.ntmps28
        go_wp2_with fail
        refine (num06_any n 8 _ _ _ rfl rfl HN.out (by omega)).mono ?_
        rintro e w1 ⟨rfl, hb1⟩
        go_wp2_with fail
        go_ret
        rw [HV.out]
        exact ⟨rfl, hb1⟩
end Go.Proofs.Ythaceagaodjllaa
