/- The reference's writing (11, 12): Ones, Bits, Bytes: the program's. -/
import Derived.Test.YthaceagaodjllaaRef12
import Derived.Test.YthaceagaodjllaaRef6
namespace Go.Proofs.Ythaceagaodjllaa
open Go.RowKit

set_option maxRecDepth 20000 in
set_option maxHeartbeats 400000 in
theorem ones12_any (n : Nat) (x : Int) (w : World) (hx : x = (n : Int)) (hn : n < 18446744073709551616) :
    Calls Try.prog 80 #[.int .i64 19, .int .u64 x] w fun e w' => e = .returned (.int .u64 ((n / 524288 : Nat) : Int)) ∧ w = w' := by
  subst hx
  go_enter Try.func80, Try.ntmps80
  go_wp2_with fail
  go_loopg [1, 5] 19 (fun m v i wx => ∃ j : Nat, m = 19 - j ∧ j ≤ 19 ∧ v = .int .u64 ((n / 2 ^ j : Nat) : Int) ∧ i = .int .i64 (j : Int) ∧ wx = w)
  case atStart => exact ⟨0, by omega, by omega, by simp, rfl, rfl⟩
  case round =>
    obtain ⟨j, rfl, hj, rfl, rfl, rfl⟩ := hrel
    by_cases hlt : j < 19
    · have hv : n / 2 ^ j < 18446744073709551616 := Nat.lt_of_le_of_lt (Nat.div_le_self _ _) hn
      have HD : Hid (n / 2 ^ (j + 1) = n / 2 ^ j / 2) := Lib.hid (by rw [Nat.div_div_eq_div_mul, Nat.pow_succ])
      generalize n / 2 ^ j = v at *
      go_wp2_with fail
      refine (held12_any _).mono ?_
      rintro e _ ⟨rfl, rfl⟩
      go_wp2_with fail
      go_roundg (19 - (j + 1))
      case measure => omega
      case rel => exact ⟨j + 1, rfl, by omega, int_eq (by rw [HD.out]; omega), by go_num, rfl⟩
    · obtain rfl : j = 19 := by omega
      rw [show (2 : Nat) ^ 19 = 524288 from rfl]
      go_wp2_with fail
      refine (held12_any _).mono ?_
      rintro e _ ⟨rfl, rfl⟩
      go_wp2_with fail
      go_ret
      exact ⟨rfl, rfl⟩

theorem bt_rep (k : Nat) : u8s (bt (List.replicate (k + 1) true)) = u8s (bt (List.replicate k true)) ++ [.int .u8 49] := by
  rw [List.replicate_succ', bt_append, u8s_append]
  rfl
set_option maxRecDepth 20000 in
set_option maxHeartbeats 400000 in
theorem ones11_any (n : Nat) (x : Int) (w : World) (hx : x = (n : Int)) (hn : n ≤ 1099511627776) :
    Calls Try.prog 81 #[.int .i64 x] w fun e w' => e = .returned (.string (tx (bt (List.replicate n true)))) ∧ Below w.heap.size w w' := by
  subst hx
  go_enter Try.func81, Try.ntmps81
  go_wp2_with fail
  have hown0 : (w.alloc (.cells #[] 5)).ownsRow w.heap.size 5 1 (.slice (some ⟨w.heap.size, 0, none⟩) 0 0) 0 [] := World.ownsRow_lit w #[] 0 (Nat.le_refl _) (by decide) rfl
  have hb0 : Below w.heap.size w (w.alloc (.cells #[] 5)) := by (repeat' (first | (with_reducible exact Below.refl _ _) | (with_reducible assumption) | (with_reducible refine Below.alloc ?_ ?_ _) | (with_reducible refine Below.drew ?_) | (with_reducible refine below_drewN ?_ _) | (with_reducible refine Below.setCell ?_ ?_ _) | (first | (with_reducible exact Nat.le_refl _) | (with_reducible assumption) | omega | (simp; omega) | (simp; done))))
  go_loopg [3, 4] n (fun m out i wx => ∃ (k : Nat) (A' : Option Addr) (c' : Nat), m = n - k ∧ k ≤ n ∧ i = .int .i64 (k : Int) ∧ out = .slice A' k c' ∧ wx.ownsRow w.heap.size 5 1 (.slice A' k c') k (u8s (bt (List.replicate k true))) ∧ Below w.heap.size w wx)
  case atStart => exact ⟨0, _, 0, by omega, by omega, rfl, rfl, hown0, hb0⟩
  case round =>
    obtain ⟨k, A', c', rfl, hk, rfl, rfl, hown, hbl⟩ := hrel
    clear hown0 hb0
    by_cases hlt : k < n
    · have hownA : (wr.alloc (.cells #[.int .u8 49] 5)).ownsRow w.heap.size 5 1 (.slice A' k c') k (u8s (bt (List.replicate k true))) := own_up hown (by (repeat' (first | (with_reducible exact Below.refl _ _) | (with_reducible assumption) | (with_reducible refine Below.alloc ?_ ?_ _) | (with_reducible refine Below.drew ?_) | (with_reducible refine below_drewN ?_ _) | (with_reducible refine Below.setCell ?_ ?_ _) | (first | (with_reducible exact Nat.le_refl _) | (with_reducible assumption) | omega | (simp; omega) | (simp; done)))))
      have hs := hbl.size
      have HT := Lib.hid (bt_rep k)
      go_wp2_with (at_builtin; refine wpList_app el_u8 rfl (.tmp 11) (.tmp 12) rfl rfl hownA rfl (rd_one wr 5 _) (m := 1) (by simp) (one_int _ _) (by unfold maxLen; omega) (by omega) (by simp; omega) ?_; intro A3 c3 w3 hown3 hg3 hat3)
      go_roundg (n - (k + 1))
      case measure => omega
      case rel =>
        refine ⟨k + 1, A3, c3, rfl, by omega, by go_num, rfl, ?_, ?_⟩
        · rw [HT.out]; exact hown3
        · exact (hbl.alloc hbl.size _).trans (grown_below hownA hg3 (by omega) (by simp; omega))
    · obtain rfl : k = n := by omega
      have hcv := run_back (P := Try.prog) 27 9 5 (c := c') Try.underlying27 Try.underlying5 Try.underlying9 (own_rd hown)
      rw [bt_length, List.length_replicate] at hcv
      go_wp2_with fail
      go_ret
      exact ⟨rfl, hbl⟩

set_option maxRecDepth 20000 in
set_option maxHeartbeats 1000000 in
theorem bits12_any (n : Nat) (x : Int) (w : World) (hx : x = (n : Int)) (hn : n ≤ 34359738368) :
    Calls Try.prog 53 #[.int .i64 19, .int .u64 x] w fun e w' => e = .returned (.tuple #[.string (tx (bt (riceB n))), .bool true]) ∧ Below w.heap.size w w' := by
  subst hx
  have hq : n / 524288 ≤ 65536 := by omega
  have h1 := ones12_any n (n : Int) w rfl (by omega)
  have hcat1 : ∀ wx, (Op.stringOp .add (tx (bt (List.replicate (n / 524288) true))) ⟨#[48]⟩).run Try.prog wx = .ok (.string (tx (bt (List.replicate (n / 524288) true ++ [false])))) wx := fun wx => by
    rw [run_string_add_sum wx _ _ (by show (bt _).length + 1 ≤ _; simp; omega), bt_append]
    exact congrArg (fun v => Result.ok (Value.string v) wx) (tx_append _ [48])
  have hcat2 : ∀ wx, (Op.stringOp .add (tx (bt (List.replicate (n / 524288) true ++ [false]))) (tx (bt (nbits n 19)))).run Try.prog wx = .ok (.string (tx (bt (riceB n)))) wx := fun wx => by
    rw [run_string_add_sum wx _ _ (by simp; omega), tx_append, ← bt_append]
    rfl
  have H1 := Lib.hid h1
  clear h1
  generalize n / 524288 = q at *
  go_enter Try.func53, Try.ntmps53
  go_wp2_with fail
  refine H1.out.mono ?_
  rintro e _ ⟨rfl, rfl⟩
  go_wp2_with fail
  refine (ones11_any q _ _ rfl (by omega)).mono ?_
  rintro e w2 ⟨rfl, hb2⟩
  go_wp2_with fail
  refine (held12_any _).mono ?_
  rintro e _ ⟨rfl, rfl⟩
  go_wp2_with fail
  refine (bits11_any n 19 _ _ _ rfl rfl (by omega) (by omega)).mono ?_
  rintro e _ ⟨rfl, rfl⟩
  go_wp2_with fail
  go_ret2
  exact ⟨rfl, hb2⟩

theorem pack_pad (l : List Bool) (h : l.length % 8 ≠ 0) : pack (l ++ [false]) = pack l := by
  rw [pack_snoc, if_neg h]
  apply List.ext_getElem?
  intro i
  by_cases hi : i = l.length / 8
  · subst hi
    rw [List.getElem?_set_self (by simp; omega)]
    simp only [pack, List.getElem?_map]
    rw [List.getElem?_range (by omega)]
    simp
  · rw [List.getElem?_set_ne (by omega)]
theorem pack_at (l : List Bool) (h : l.length % 8 = 0) (k : Nat) (hk : k < (pack l).length) : ((pack l)[k].toNat : Int) = IntKind.u8.wrap ((bval ((l.drop (8 * k)).take 8) : Nat) : Int) := by
  have h2 := hk
  rw [pack_length] at h2
  have h3 : byteN l k = bval ((l.drop (8 * k)).take 8) := by
    unfold byteN
    rw [show 8 - (l.length - 8 * k) = 0 by omega]
    simp
  have h4 := byteN_lt l k
  simp only [pack, List.getElem_map, List.getElem_range]
  rw [h3] at h4 ⊢
  rw [UInt8.toNat_ofNat', IntKind.wrap_u8]
  omega

set_option maxRecDepth 20000 in
set_option maxHeartbeats 1000000 in
theorem bytes11_any (l : List Bool) (w : World) (hl : l.length ≤ 1099511627776) :
    Calls Try.prog 54 #[.string (tx (bt l))] w fun e w' => e = .returned (.string (tx (pack l))) ∧ Below w.heap.size w w' := by
  go_enter Try.func54, Try.ntmps54
  go_wp2_with fail
  go_loopg [0] ((l.length + 7) / 8 * 8 - l.length) (fun m v wx => ∃ s : List Bool, m = (l.length + 7) / 8 * 8 - s.length ∧ l.length ≤ s.length ∧ s.length ≤ (l.length + 7) / 8 * 8 ∧ v = .string (tx (bt s)) ∧ Hid (pack s = pack l) ∧ w = wx)
  case atStart => exact ⟨l, rfl, Nat.le_refl _, by omega, rfl, rfl, rfl⟩
  case round =>
    obtain ⟨s, rfl, h1, h2, rfl, HP, rfl⟩ := hrel
    have hsz : (tx (bt s)).size = s.length := by simp
    have hb : s.length ≤ 1099511627784 := by omega
    by_cases hm : s.length % 8 = 0
    · have hmb : ((s.length : Int) % 8 != 0) = false := by rw [bne_eq_false_iff_eq]; omega
      have HPA := Lib.hid (pack_at s hm)
      have hpl : (pack s).length = s.length / 8 := by simp; omega
      go_wp2_with fail
      have hown0 : (w.alloc (.cells #[] 5)).ownsRow w.heap.size 5 1 (.slice (some ⟨w.heap.size, 0, none⟩) 0 0) 0 [] := World.ownsRow_lit w #[] 0 (Nat.le_refl _) (by decide) rfl
      have hb0 : Below w.heap.size w (w.alloc (.cells #[] 5)) := by (repeat' (first | (with_reducible exact Below.refl _ _) | (with_reducible assumption) | (with_reducible refine Below.alloc ?_ ?_ _) | (with_reducible refine Below.drew ?_) | (with_reducible refine below_drewN ?_ _) | (with_reducible refine Below.setCell ?_ ?_ _) | (first | (with_reducible exact Nat.le_refl _) | (with_reducible assumption) | omega | (simp; omega) | (simp; done))))
      go_loopg [3, 4] (s.length / 8) (fun m out i wx => ∃ (k : Nat) (A' : Option Addr) (c' : Nat), m = s.length / 8 - k ∧ k ≤ s.length / 8 ∧ i = .int .i64 (8 * (k : Int)) ∧ out = .slice A' k c' ∧ wx.ownsRow w.heap.size 5 1 (.slice A' k c') k (u8s ((pack s).take k)) ∧ Below w.heap.size w wx)
      case atStart => exact ⟨0, _, 0, by omega, by omega, rfl, rfl, hown0, hb0⟩
      case round =>
        obtain ⟨k, A', c', rfl, hk, rfl, rfl, hown, hbl⟩ := hrel
        clear hown0 hb0
        by_cases hlt : k < s.length / 8
        · have hkp : k < (pack s).length := by omega
          have hpa := HPA.out k hkp
          have HT : Hid ((pack s).take (k + 1) = (pack s).take k ++ [(pack s)[k]]) := Lib.hid (take_snoc _ k hkp)
          have hnum := fun wx => number11_any ((s.drop (8 * k)).take 8) wx (by simp; omega)
          have hex : (tx (bt s)).extract (8 * k) (8 * k + 8) = tx (bt ((s.drop (8 * k)).take 8)) := by rw [tx_extract, bt_take, bt_drop, List.drop_take, show 8 * k + 8 - 8 * k = 8 by omega]
          have ht1 : (8 * (k : Int)).toNat = 8 * k := by omega
          have ht2 : (8 * (k : Int) + 8).toNat = 8 * k + 8 := by omega
          have HNUM := Lib.hid hnum
          clear hnum
          generalize bval ((s.drop (8 * k)).take 8) = bv at *
          generalize (pack s)[k] = v at *
          go_wp2_with fail
          refine (HNUM.out _).mono ?_
          rintro e _ ⟨rfl, rfl⟩
          rw [IntKind.wrap_u8] at hpa
          have hownA : (wr.alloc (.cells #[.int .u8 ((bv : Int) % 256)] 5)).ownsRow w.heap.size 5 1 (.slice A' k c') k (u8s ((pack s).take k)) := own_up hown (by (repeat' (first | (with_reducible exact Below.refl _ _) | (with_reducible assumption) | (with_reducible refine Below.alloc ?_ ?_ _) | (with_reducible refine Below.drew ?_) | (with_reducible refine below_drewN ?_ _) | (with_reducible refine Below.setCell ?_ ?_ _) | (first | (with_reducible exact Nat.le_refl _) | (with_reducible assumption) | omega | (simp; omega) | (simp; done)))))
          have hs := hbl.size
          go_wp2_with (at_builtin; refine wpList_app el_u8 rfl (.tmp 18) (.tmp 26) rfl rfl hownA rfl (rd_one wr 5 _) (m := 1) (by simp) (one_int _ _) (by unfold maxLen; omega) (by omega) (by simp; omega) ?_; intro A3 c3 w3 hown3 hg3 hat3)
          go_roundg (s.length / 8 - (k + 1))
          case measure => omega
          case rel =>
            refine ⟨k + 1, A3, c3, rfl, by omega, by go_num, rfl, ?_, ?_⟩
            · rw [HT.out, u8s_append]
              have e1 : u8s [v] = [.int .u8 ((bv : Int) % 256)] := by simp only [u8s, List.map_cons, List.map_nil, hpa]
              rw [e1]
              exact hown3
            · exact (hbl.alloc hbl.size _).trans (grown_below hownA hg3 (by omega) (by simp; omega))
        · obtain rfl : k = s.length / 8 := by omega
          rw [List.take_of_length_le (by omega)] at hown
          have hcv := run_back (P := Try.prog) 27 9 5 (c := c') Try.underlying27 Try.underlying5 Try.underlying9 (own_rd hown)
          rw [hpl, HP.out] at hcv
          go_wp2_with fail
          go_ret
          exact ⟨rfl, hbl⟩
    · have hmb : ((s.length : Int) % 8 != 0) = true := by rw [bne_iff_ne]; omega
      have HP1 : Hid (pack (s ++ [false]) = pack l) := Lib.hid ((pack_pad s hm).trans HP.out)
      have hcat1 : ∀ wx, (Op.stringOp .add (tx (bt s)) ⟨#[48]⟩).run Try.prog wx = .ok (.string (tx (bt (s ++ [false])))) wx := fun wx => by
        rw [run_string_add_sum wx _ _ (by show (bt _).length + 1 ≤ _; simp; omega), bt_append]
        exact congrArg (fun v => Result.ok (Value.string v) wx) (tx_append _ [48])
      have HM := Lib.hid hm
      clear hm
      go_wp2_with fail
      have hm := HM.out
      go_roundg ((l.length + 7) / 8 * 8 - (s.length + 1))
      case measure => omega
      case rel => exact ⟨s ++ [false], by simp, by simp; omega, by simp; omega, rfl, HP1, rfl⟩
end Go.Proofs.Ythaceagaodjllaa
