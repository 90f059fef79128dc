/- The reference's Count (06): the program's Var. Texts up to 2^36. -/
import Derived.Test.YthaceagaodjllaaRef6
namespace Go.Proofs.Ythaceagaodjllaa
open Go.RowKit

theorem leB_leN (l : List UInt8) : leB (leN l) l.length = l := by
  induction l with
  | nil => rfl
  | cons b l ih =>
    have hb := b.toNat_lt
    rw [leN, List.length_cons, leB, show (b.toNat + 256 * leN l) / 256 = leN l by omega, ih, show (b.toNat + 256 * leN l) % 256 = b.toNat by omega]
    simp
/-- How many bytes stand behind the first. -/
def cW (b : UInt8) : Nat := if b = 253 then 2 else if b = 254 then 4 else if b = 255 then 8 else 0
def cS (b : UInt8) (t : List UInt8) : List UInt8 := if cW b = 0 then [b] else t.take (cW b)
/-- What Count hands back: the text's rest begins so far on; the error; the number. -/
def cnt (l : List UInt8) (most : Nat) : Nat × Nat × Nat :=
  match l with
  | [] => (0, 0, 2)
  | b :: t => if t.length < cW b then (0, 0, 2) else if varT (leN (cS b t)) ≠ b :: t.take (cW b) then (0, 0, 3) else if most < leN (cS b t) then (0, 0, 4) else (leN (cS b t), 1 + cW b, 0)

set_option maxRecDepth 20000 in
set_option maxHeartbeats 2000000 in
theorem count_any (l : List UInt8) (most : Nat) (k : Int) (w : World) (hk : k = (most : Int)) (hm : most ≤ 1099511627776) (hl : l.length ≤ 68719476736) :
    Calls Try.prog 38 #[.agg #[.string (tx l), .int .i64 0], .int .u64 k] w fun e w' => e = .returned (.tuple #[.agg #[.string (tx (l.drop (cnt l most).2.1)), .int .i64 ((cnt l most).2.2 : Int)], .int .u64 ((cnt l most).1 : Int)]) ∧ Below w.heap.size w w' := by
  subst hk
  cases l with
  | nil =>
    go_enter Try.func38, Try.ntmps38
    go_wp2_with fail
    refine bodyPost_ret (by simp [results, Try.results38, go_sem]; rfl) rfl ?_
    exact ⟨rfl, by (repeat' (first | (with_reducible exact Below.refl _ _) | (with_reducible assumption) | (with_reducible refine Below.alloc ?_ ?_ _) | (with_reducible refine Below.drew ?_) | (with_reducible refine below_drewN ?_ _) | (with_reducible refine Below.setCell ?_ ?_ _) | (first | (with_reducible exact Nat.le_refl _) | (with_reducible assumption) | omega | (simp; omega) | (simp; done))))⟩
  | cons b t =>
    have hlen : (tx (b :: t)).size = t.length + 1 := rfl
    have hpos : 0 < (tx (b :: t)).size := by omega
    have hidx : (tx (b :: t))[0]'hpos = b := rfl
    have hl' : t.length ≤ 68719476736 := by simp at hl; omega
    by_cases h253 : b = 253
    · have hv : ((b.toNat : Int) == 253) = true := by rw [h253]; rfl
      have hw : cW b = 2 := by rw [cW, if_pos h253]
      by_cases hsh : t.length < 2
      · have HR : Hid (cnt (b :: t) most = (0, 0, 2)) := by show cnt _ _ = _; rw [cnt, hw, if_pos hsh]
        have HSX : Hid (tx ((b :: t).drop 0) = tx (b :: t)) := rfl
        clear hl
        generalize hS : tx (b :: t) = S at *
        have HS := Lib.hid hS
        clear hS
        go_enter Try.func38, Try.ntmps38
        go_wp2_with fail
        refine bodyPost_ret (by simp [results, Try.results38, go_sem]; rfl) rfl ?_
        rw [HR.out]
        simp only
        rw [HSX.out]
        exact ⟨rfl, by (repeat' (first | (with_reducible exact Below.refl _ _) | (with_reducible assumption) | (with_reducible refine Below.alloc ?_ ?_ _) | (with_reducible refine Below.drew ?_) | (with_reducible refine below_drewN ?_ _) | (with_reducible refine Below.setCell ?_ ?_ _) | (first | (with_reducible exact Nat.le_refl _) | (with_reducible assumption) | omega | (simp; omega) | (simp; done))))⟩
      · skip
        have hcs : cS b t = t.take 2 := by rw [cS, hw]; rfl
        have hx1 : (tx (b :: t)).extract 1 3 = tx (t.take 2) := by rw [tx_extract]; simp
        have hsl : (t.take 2).length = 2 := by simp; omega
        have hx0 : (tx (b :: t)).extract 0 3 = tx (b :: t.take 2) := by rw [tx_extract]; simp
        have hxr : (tx (b :: t)).extract 3 (t.length + 1) = tx (t.drop 2) := by rw [tx_extract]; simp
        have hdr : (b :: t).drop 3 = t.drop 2 := rfl
        have HX : Hid (cnt (b :: t) most = if varT (leN (t.take 2)) ≠ b :: t.take 2 then (0, 0, 3) else if most < leN (t.take 2) then (0, 0, 4) else (leN (t.take 2), 1 + 2, 0)) := by show cnt _ _ = _; rw [cnt, if_neg (by rw [hw]; exact hsh), hw, hcs]
        clear hcs
        generalize hpf : b :: t.take 2 = pf at *
        have HPF := Lib.hid hpf
        clear hpf
        generalize hs : (t.take 2) = s at *
        generalize hS : tx (b :: t) = S at *
        have HS := Lib.hid hS
        have HSS := Lib.hid hs
        have HSL := Lib.hid hsl
        clear hS hs hsl hl
        have hsh2 : 2 ≤ t.length := by omega
        have hsh3 : decide ((t.length : Int) + 1 < 3) = false := by rw [decide_eq_false_iff_not]; omega
        go_enter Try.func38, Try.ntmps38
        go_wp2_with (refine wpList_bytes 9 27 5 rfl (.tmp 45) rfl Try.underlying9 Try.underlying27 Try.underlying5 (l := s) rfl ?_; intro A1 c1 w1 hc1 hrd1 hb1)
        have hIn : Row ((w.alloc (.cells #[.string S, .int .i64 0] 73)).alloc (.cells #[.string ⟨#[]⟩, .int .i64 0] 73)) w.heap.size 73 [.string S, .int .i64 0] := (Row.new w _ [.string S, .int .i64 0]).alloc _
        have hOut : Row ((w.alloc (.cells #[.string S, .int .i64 0] 73)).alloc (.cells #[.string ⟨#[]⟩, .int .i64 0] 73)) (w.heap.size + 1) 73 [.string ⟨#[]⟩, .int .i64 0] := Row.new_eq (cs := [.string ⟨#[]⟩, .int .i64 0]) (by simp)
        have hIn1 := hIn.below hb1 hIn.lt
        have hOut1 := hOut.below hb1 hOut.lt
        have hbw : Below w.heap.size w w1 := (((Below.refl _ w).alloc (Nat.le_refl _) _).alloc (by simp) _).trans (hb1.mono (by simp; omega))
        have hs8 : s.length ≤ 8 := by have := HSL.out; omega
        have h8 : s.take 8 = s := List.take_of_length_le hs8
        have hn : leN s < 18446744073709551616 := by
          have h1 := leN_lt s
          have h2 : 256 ^ s.length ≤ 256 ^ 8 := Nat.pow_le_pow_right (by decide) hs8
          calc _ < _ := h1
            _ ≤ _ := h2
            _ = _ := rfl
        have hval := value_any A1 c1 s w1 hrd1 (by omega)
        rw [h8] at hval
        refine hval.mono ?_
        rintro e _ ⟨rfl, rfl⟩
        generalize leN s = n at *
        have HN := Lib.hid hn
        clear hval h8 hs8 hn hIn hOut hb1 hrd1
        go_wp2_with fail
        have hci : ∀ p i, (grw w1 p).cell? ⟨w.heap.size, i, none⟩ = [Value.string S, .int .i64 0][i]? := fun p => (hIn1.grw p).cell
        refine wp_region_grw (by kernel_rfl) (by kernel_rfl) ?_
        repeat (go_big_quiet_step ((go_at_call 28; exact Calls.of_grw (var06_any _ _ _ rfl HN.out))))
        refine wpQuiet_nil ?_
        rintro _ ⟨p, rfl⟩
        have hcO := (hOut1.grw p).cell
        have hfO := (hOut1.grw p).frozen
        have HB := Lib.hid hbw
        clear hbw
        by_cases hv2 : varT n = pf
        · have hq : (!(tx (varT n)).toList == (tx pf).toList) = false := by rw [hv2, beq_self_eq_true]; rfl
          by_cases hmost : most < n
          · have HR : Hid (cnt (b :: t) most = (0, 0, 4)) := by
              show cnt _ _ = _
              rw [HX.out, if_neg (by rw [hv2]; exact fun h => h rfl), if_pos hmost]
            clear hv2
            rw [hq]
            go_wp2_with fail
            have hO1 := ((hOut1.grw p).set 0 (.string S)).cell
            have hO2 := (((hOut1.grw p).set 0 (.string S)).set 1 (.int .i64 4)).cell
            refine bodyPost_ret (by simp [results, Try.results38, go_sem, hO1, hO2]; rfl) rfl ?_
            rw [HR.out]
            refine ⟨by simp only [List.drop_zero]; rw [HS.out]; rfl, ((bgrw HB.out HB.out.size p).setCell (by simp) _).setCell (by simp) _⟩
          · have hmb : decide (most < n) = false := by rw [decide_eq_false_iff_not]; exact hmost
            have HR : Hid (cnt (b :: t) most = (n, 1 + 2, 0)) := by
              show cnt _ _ = _
              rw [HX.out, if_neg (by rw [hv2]; exact fun h => h rfl), if_neg hmost]
            clear hv2
            rw [hq]
            go_wp2_with fail
            have hO1 := ((hOut1.grw p).set 0 (.string (tx (t.drop 2)))).cell
            have hO2 := (((hOut1.grw p).set 0 (.string (tx (t.drop 2)))).set 1 (.int .i64 0)).cell
            refine bodyPost_ret (by simp [results, Try.results38, go_sem, hO1, hO2]; rfl) rfl ?_
            rw [HR.out]
            refine ⟨rfl, ((bgrw HB.out HB.out.size p).setCell (by simp) _).setCell (by simp) _⟩
        · have hq : (!(tx (varT n)).toList == (tx pf).toList) = true := by
            rw [Bool.not_eq_true', beq_eq_false_iff_ne, tx_toList, tx_toList]
            exact hv2
          have HR : Hid (cnt (b :: t) most = (0, 0, 3)) := by
            show cnt _ _ = _
            rw [HX.out, if_pos hv2]
          clear hv2
          rw [hq]
          go_wp2_with fail
          have hO1 := ((hOut1.grw p).set 0 (.string S)).cell
          have hO2 := (((hOut1.grw p).set 0 (.string S)).set 1 (.int .i64 3)).cell
          refine bodyPost_ret (by simp [results, Try.results38, go_sem, hO1, hO2]; rfl) rfl ?_
          rw [HR.out]
          refine ⟨by simp only [List.drop_zero]; rw [HS.out]; rfl, ((bgrw HB.out HB.out.size p).setCell (by simp) _).setCell (by simp) _⟩
    · have e253 : ((b.toNat : Int) == 253) = false := by
        rw [beq_eq_false_iff_ne]
        intro h
        have h2 : b.toNat = 253 := by omega
        exact h253 (UInt8.toNat_inj.1 (h2.trans rfl))
      by_cases h254 : b = 254
      · have hv : ((b.toNat : Int) == 254) = true := by rw [h254]; rfl
        have hw : cW b = 4 := by rw [cW, if_neg h253, if_pos h254]
        by_cases hsh : t.length < 4
        · have HR : Hid (cnt (b :: t) most = (0, 0, 2)) := by show cnt _ _ = _; rw [cnt, hw, if_pos hsh]
          have HSX : Hid (tx ((b :: t).drop 0) = tx (b :: t)) := rfl
          clear hl
          generalize hS : tx (b :: t) = S at *
          have HS := Lib.hid hS
          clear hS
          go_enter Try.func38, Try.ntmps38
          go_wp2_with fail
          refine bodyPost_ret (by simp [results, Try.results38, go_sem]; rfl) rfl ?_
          rw [HR.out]
          simp only
          rw [HSX.out]
          exact ⟨rfl, by (repeat' (first | (with_reducible exact Below.refl _ _) | (with_reducible assumption) | (with_reducible refine Below.alloc ?_ ?_ _) | (with_reducible refine Below.drew ?_) | (with_reducible refine below_drewN ?_ _) | (with_reducible refine Below.setCell ?_ ?_ _) | (first | (with_reducible exact Nat.le_refl _) | (with_reducible assumption) | omega | (simp; omega) | (simp; done))))⟩
        · skip
          have hcs : cS b t = t.take 4 := by rw [cS, hw]; rfl
          have hx1 : (tx (b :: t)).extract 1 5 = tx (t.take 4) := by rw [tx_extract]; simp
          have hsl : (t.take 4).length = 4 := by simp; omega
          have hx0 : (tx (b :: t)).extract 0 5 = tx (b :: t.take 4) := by rw [tx_extract]; simp
          have hxr : (tx (b :: t)).extract 5 (t.length + 1) = tx (t.drop 4) := by rw [tx_extract]; simp
          have hdr : (b :: t).drop 5 = t.drop 4 := rfl
          have HX : Hid (cnt (b :: t) most = if varT (leN (t.take 4)) ≠ b :: t.take 4 then (0, 0, 3) else if most < leN (t.take 4) then (0, 0, 4) else (leN (t.take 4), 1 + 4, 0)) := by show cnt _ _ = _; rw [cnt, if_neg (by rw [hw]; exact hsh), hw, hcs]
          clear hcs
          generalize hpf : b :: t.take 4 = pf at *
          have HPF := Lib.hid hpf
          clear hpf
          generalize hs : (t.take 4) = s at *
          generalize hS : tx (b :: t) = S at *
          have HS := Lib.hid hS
          have HSS := Lib.hid hs
          have HSL := Lib.hid hsl
          clear hS hs hsl hl
          have hsh2 : 4 ≤ t.length := by omega
          have hsh3 : decide ((t.length : Int) + 1 < 5) = false := by rw [decide_eq_false_iff_not]; omega
          go_enter Try.func38, Try.ntmps38
          go_wp2_with (refine wpList_bytes 9 27 5 rfl (.tmp 45) rfl Try.underlying9 Try.underlying27 Try.underlying5 (l := s) rfl ?_; intro A1 c1 w1 hc1 hrd1 hb1)
          have hIn : Row ((w.alloc (.cells #[.string S, .int .i64 0] 73)).alloc (.cells #[.string ⟨#[]⟩, .int .i64 0] 73)) w.heap.size 73 [.string S, .int .i64 0] := (Row.new w _ [.string S, .int .i64 0]).alloc _
          have hOut : Row ((w.alloc (.cells #[.string S, .int .i64 0] 73)).alloc (.cells #[.string ⟨#[]⟩, .int .i64 0] 73)) (w.heap.size + 1) 73 [.string ⟨#[]⟩, .int .i64 0] := Row.new_eq (cs := [.string ⟨#[]⟩, .int .i64 0]) (by simp)
          have hIn1 := hIn.below hb1 hIn.lt
          have hOut1 := hOut.below hb1 hOut.lt
          have hbw : Below w.heap.size w w1 := (((Below.refl _ w).alloc (Nat.le_refl _) _).alloc (by simp) _).trans (hb1.mono (by simp; omega))
          have hs8 : s.length ≤ 8 := by have := HSL.out; omega
          have h8 : s.take 8 = s := List.take_of_length_le hs8
          have hn : leN s < 18446744073709551616 := by
            have h1 := leN_lt s
            have h2 : 256 ^ s.length ≤ 256 ^ 8 := Nat.pow_le_pow_right (by decide) hs8
            calc _ < _ := h1
              _ ≤ _ := h2
              _ = _ := rfl
          have hval := value_any A1 c1 s w1 hrd1 (by omega)
          rw [h8] at hval
          refine hval.mono ?_
          rintro e _ ⟨rfl, rfl⟩
          generalize leN s = n at *
          have HN := Lib.hid hn
          clear hval h8 hs8 hn hIn hOut hb1 hrd1
          go_wp2_with fail
          have hci : ∀ p i, (grw w1 p).cell? ⟨w.heap.size, i, none⟩ = [Value.string S, .int .i64 0][i]? := fun p => (hIn1.grw p).cell
          refine wp_region_grw (by kernel_rfl) (by kernel_rfl) ?_
          repeat (go_big_quiet_step ((go_at_call 28; exact Calls.of_grw (var06_any _ _ _ rfl HN.out))))
          refine wpQuiet_nil ?_
          rintro _ ⟨p, rfl⟩
          have hcO := (hOut1.grw p).cell
          have hfO := (hOut1.grw p).frozen
          have HB := Lib.hid hbw
          clear hbw
          by_cases hv2 : varT n = pf
          · have hq : (!(tx (varT n)).toList == (tx pf).toList) = false := by rw [hv2, beq_self_eq_true]; rfl
            by_cases hmost : most < n
            · have HR : Hid (cnt (b :: t) most = (0, 0, 4)) := by
                show cnt _ _ = _
                rw [HX.out, if_neg (by rw [hv2]; exact fun h => h rfl), if_pos hmost]
              clear hv2
              rw [hq]
              go_wp2_with fail
              have hO1 := ((hOut1.grw p).set 0 (.string S)).cell
              have hO2 := (((hOut1.grw p).set 0 (.string S)).set 1 (.int .i64 4)).cell
              refine bodyPost_ret (by simp [results, Try.results38, go_sem, hO1, hO2]; rfl) rfl ?_
              rw [HR.out]
              refine ⟨by simp only [List.drop_zero]; rw [HS.out]; rfl, ((bgrw HB.out HB.out.size p).setCell (by simp) _).setCell (by simp) _⟩
            · have hmb : decide (most < n) = false := by rw [decide_eq_false_iff_not]; exact hmost
              have HR : Hid (cnt (b :: t) most = (n, 1 + 4, 0)) := by
                show cnt _ _ = _
                rw [HX.out, if_neg (by rw [hv2]; exact fun h => h rfl), if_neg hmost]
              clear hv2
              rw [hq]
              go_wp2_with fail
              have hO1 := ((hOut1.grw p).set 0 (.string (tx (t.drop 4)))).cell
              have hO2 := (((hOut1.grw p).set 0 (.string (tx (t.drop 4)))).set 1 (.int .i64 0)).cell
              refine bodyPost_ret (by simp [results, Try.results38, go_sem, hO1, hO2]; rfl) rfl ?_
              rw [HR.out]
              refine ⟨rfl, ((bgrw HB.out HB.out.size p).setCell (by simp) _).setCell (by simp) _⟩
          · have hq : (!(tx (varT n)).toList == (tx pf).toList) = true := by
              rw [Bool.not_eq_true', beq_eq_false_iff_ne, tx_toList, tx_toList]
              exact hv2
            have HR : Hid (cnt (b :: t) most = (0, 0, 3)) := by
              show cnt _ _ = _
              rw [HX.out, if_pos hv2]
            clear hv2
            rw [hq]
            go_wp2_with fail
            have hO1 := ((hOut1.grw p).set 0 (.string S)).cell
            have hO2 := (((hOut1.grw p).set 0 (.string S)).set 1 (.int .i64 3)).cell
            refine bodyPost_ret (by simp [results, Try.results38, go_sem, hO1, hO2]; rfl) rfl ?_
            rw [HR.out]
            refine ⟨by simp only [List.drop_zero]; rw [HS.out]; rfl, ((bgrw HB.out HB.out.size p).setCell (by simp) _).setCell (by simp) _⟩
      · have e254 : ((b.toNat : Int) == 254) = false := by
          rw [beq_eq_false_iff_ne]
          intro h
          have h2 : b.toNat = 254 := by omega
          exact h254 (UInt8.toNat_inj.1 (h2.trans rfl))
        by_cases h255 : b = 255
        · have hv : ((b.toNat : Int) == 255) = true := by rw [h255]; rfl
          have hw : cW b = 8 := by rw [cW, if_neg h253, if_neg h254, if_pos h255]
          by_cases hsh : t.length < 8
          · have HR : Hid (cnt (b :: t) most = (0, 0, 2)) := by show cnt _ _ = _; rw [cnt, hw, if_pos hsh]
            have HSX : Hid (tx ((b :: t).drop 0) = tx (b :: t)) := rfl
            clear hl
            generalize hS : tx (b :: t) = S at *
            have HS := Lib.hid hS
            clear hS
            go_enter Try.func38, Try.ntmps38
            go_wp2_with fail
            refine bodyPost_ret (by simp [results, Try.results38, go_sem]; rfl) rfl ?_
            rw [HR.out]
            simp only
            rw [HSX.out]
            exact ⟨rfl, by (repeat' (first | (with_reducible exact Below.refl _ _) | (with_reducible assumption) | (with_reducible refine Below.alloc ?_ ?_ _) | (with_reducible refine Below.drew ?_) | (with_reducible refine below_drewN ?_ _) | (with_reducible refine Below.setCell ?_ ?_ _) | (first | (with_reducible exact Nat.le_refl _) | (with_reducible assumption) | omega | (simp; omega) | (simp; done))))⟩
          · skip
            have hcs : cS b t = t.take 8 := by rw [cS, hw]; rfl
            have hx1 : (tx (b :: t)).extract 1 9 = tx (t.take 8) := by rw [tx_extract]; simp
            have hsl : (t.take 8).length = 8 := by simp; omega
            have hx0 : (tx (b :: t)).extract 0 9 = tx (b :: t.take 8) := by rw [tx_extract]; simp
            have hxr : (tx (b :: t)).extract 9 (t.length + 1) = tx (t.drop 8) := by rw [tx_extract]; simp
            have hdr : (b :: t).drop 9 = t.drop 8 := rfl
            have HX : Hid (cnt (b :: t) most = if varT (leN (t.take 8)) ≠ b :: t.take 8 then (0, 0, 3) else if most < leN (t.take 8) then (0, 0, 4) else (leN (t.take 8), 1 + 8, 0)) := by show cnt _ _ = _; rw [cnt, if_neg (by rw [hw]; exact hsh), hw, hcs]
            clear hcs
            generalize hpf : b :: t.take 8 = pf at *
            have HPF := Lib.hid hpf
            clear hpf
            generalize hs : (t.take 8) = s at *
            generalize hS : tx (b :: t) = S at *
            have HS := Lib.hid hS
            have HSS := Lib.hid hs
            have HSL := Lib.hid hsl
            clear hS hs hsl hl
            have hsh2 : 8 ≤ t.length := by omega
            have hsh3 : decide ((t.length : Int) + 1 < 9) = false := by rw [decide_eq_false_iff_not]; omega
            go_enter Try.func38, Try.ntmps38
            go_wp2_with (refine wpList_bytes 9 27 5 rfl (.tmp 45) rfl Try.underlying9 Try.underlying27 Try.underlying5 (l := s) rfl ?_; intro A1 c1 w1 hc1 hrd1 hb1)
            have hIn : Row ((w.alloc (.cells #[.string S, .int .i64 0] 73)).alloc (.cells #[.string ⟨#[]⟩, .int .i64 0] 73)) w.heap.size 73 [.string S, .int .i64 0] := (Row.new w _ [.string S, .int .i64 0]).alloc _
            have hOut : Row ((w.alloc (.cells #[.string S, .int .i64 0] 73)).alloc (.cells #[.string ⟨#[]⟩, .int .i64 0] 73)) (w.heap.size + 1) 73 [.string ⟨#[]⟩, .int .i64 0] := Row.new_eq (cs := [.string ⟨#[]⟩, .int .i64 0]) (by simp)
            have hIn1 := hIn.below hb1 hIn.lt
            have hOut1 := hOut.below hb1 hOut.lt
            have hbw : Below w.heap.size w w1 := (((Below.refl _ w).alloc (Nat.le_refl _) _).alloc (by simp) _).trans (hb1.mono (by simp; omega))
            have hs8 : s.length ≤ 8 := by have := HSL.out; omega
            have h8 : s.take 8 = s := List.take_of_length_le hs8
            have hn : leN s < 18446744073709551616 := by
              have h1 := leN_lt s
              have h2 : 256 ^ s.length ≤ 256 ^ 8 := Nat.pow_le_pow_right (by decide) hs8
              calc _ < _ := h1
                _ ≤ _ := h2
                _ = _ := rfl
            have hval := value_any A1 c1 s w1 hrd1 (by omega)
            rw [h8] at hval
            refine hval.mono ?_
            rintro e _ ⟨rfl, rfl⟩
            generalize leN s = n at *
            have HN := Lib.hid hn
            clear hval h8 hs8 hn hIn hOut hb1 hrd1
            go_wp2_with fail
            have hci : ∀ p i, (grw w1 p).cell? ⟨w.heap.size, i, none⟩ = [Value.string S, .int .i64 0][i]? := fun p => (hIn1.grw p).cell
            refine wp_region_grw (by kernel_rfl) (by kernel_rfl) ?_
            repeat (go_big_quiet_step ((go_at_call 28; exact Calls.of_grw (var06_any _ _ _ rfl HN.out))))
            refine wpQuiet_nil ?_
            rintro _ ⟨p, rfl⟩
            have hcO := (hOut1.grw p).cell
            have hfO := (hOut1.grw p).frozen
            have HB := Lib.hid hbw
            clear hbw
            by_cases hv2 : varT n = pf
            · have hq : (!(tx (varT n)).toList == (tx pf).toList) = false := by rw [hv2, beq_self_eq_true]; rfl
              by_cases hmost : most < n
              · have HR : Hid (cnt (b :: t) most = (0, 0, 4)) := by
                  show cnt _ _ = _
                  rw [HX.out, if_neg (by rw [hv2]; exact fun h => h rfl), if_pos hmost]
                clear hv2
                rw [hq]
                go_wp2_with fail
                have hO1 := ((hOut1.grw p).set 0 (.string S)).cell
                have hO2 := (((hOut1.grw p).set 0 (.string S)).set 1 (.int .i64 4)).cell
                refine bodyPost_ret (by simp [results, Try.results38, go_sem, hO1, hO2]; rfl) rfl ?_
                rw [HR.out]
                refine ⟨by simp only [List.drop_zero]; rw [HS.out]; rfl, ((bgrw HB.out HB.out.size p).setCell (by simp) _).setCell (by simp) _⟩
              · have hmb : decide (most < n) = false := by rw [decide_eq_false_iff_not]; exact hmost
                have HR : Hid (cnt (b :: t) most = (n, 1 + 8, 0)) := by
                  show cnt _ _ = _
                  rw [HX.out, if_neg (by rw [hv2]; exact fun h => h rfl), if_neg hmost]
                clear hv2
                rw [hq]
                go_wp2_with fail
                have hO1 := ((hOut1.grw p).set 0 (.string (tx (t.drop 8)))).cell
                have hO2 := (((hOut1.grw p).set 0 (.string (tx (t.drop 8)))).set 1 (.int .i64 0)).cell
                refine bodyPost_ret (by simp [results, Try.results38, go_sem, hO1, hO2]; rfl) rfl ?_
                rw [HR.out]
                refine ⟨rfl, ((bgrw HB.out HB.out.size p).setCell (by simp) _).setCell (by simp) _⟩
            · have hq : (!(tx (varT n)).toList == (tx pf).toList) = true := by
                rw [Bool.not_eq_true', beq_eq_false_iff_ne, tx_toList, tx_toList]
                exact hv2
              have HR : Hid (cnt (b :: t) most = (0, 0, 3)) := by
                show cnt _ _ = _
                rw [HX.out, if_pos hv2]
              clear hv2
              rw [hq]
              go_wp2_with fail
              have hO1 := ((hOut1.grw p).set 0 (.string S)).cell
              have hO2 := (((hOut1.grw p).set 0 (.string S)).set 1 (.int .i64 3)).cell
              refine bodyPost_ret (by simp [results, Try.results38, go_sem, hO1, hO2]; rfl) rfl ?_
              rw [HR.out]
              refine ⟨by simp only [List.drop_zero]; rw [HS.out]; rfl, ((bgrw HB.out HB.out.size p).setCell (by simp) _).setCell (by simp) _⟩
        · have e255 : ((b.toNat : Int) == 255) = false := by
            rw [beq_eq_false_iff_ne]
            intro h
            have h2 : b.toNat = 255 := by omega
            exact h255 (UInt8.toNat_inj.1 (h2.trans rfl))
          have hw : cW b = 0 := by rw [cW, if_neg h253, if_neg h254, if_neg h255]
          have hsh : ¬ t.length < 0 := by omega
          have hcs : cS b t = [b] := by rw [cS, hw]; rfl
          have hsl : ([b]).length = 1 := rfl
          have hx0 : (tx (b :: t)).extract 0 1 = tx ([b]) := by rw [tx_extract]; simp
          have hxr : (tx (b :: t)).extract 1 (t.length + 1) = tx (t.drop 0) := by rw [tx_extract]; simp
          have hdr : (b :: t).drop 1 = t.drop 0 := rfl
          have HX : Hid (cnt (b :: t) most = if varT (leN ([b])) ≠ [b] then (0, 0, 3) else if most < leN ([b]) then (0, 0, 4) else (leN ([b]), 1 + 0, 0)) := by show cnt _ _ = _; rw [cnt, if_neg (by rw [hw]; exact hsh), hw, hcs]; rfl
          clear hcs
          generalize hs : ([b]) = s at *
          generalize hS : tx (b :: t) = S at *
          have HS := Lib.hid hS
          have HSS := Lib.hid hs
          have HSL := Lib.hid hsl
          clear hS hs hsl hl
          go_enter Try.func38, Try.ntmps38
          go_wp2_with (refine wpList_bytes 9 27 5 rfl (.tmp 45) rfl Try.underlying9 Try.underlying27 Try.underlying5 (l := s) rfl ?_; intro A1 c1 w1 hc1 hrd1 hb1)
          have hIn : Row ((w.alloc (.cells #[.string S, .int .i64 0] 73)).alloc (.cells #[.string ⟨#[]⟩, .int .i64 0] 73)) w.heap.size 73 [.string S, .int .i64 0] := (Row.new w _ [.string S, .int .i64 0]).alloc _
          have hOut : Row ((w.alloc (.cells #[.string S, .int .i64 0] 73)).alloc (.cells #[.string ⟨#[]⟩, .int .i64 0] 73)) (w.heap.size + 1) 73 [.string ⟨#[]⟩, .int .i64 0] := Row.new_eq (cs := [.string ⟨#[]⟩, .int .i64 0]) (by simp)
          have hIn1 := hIn.below hb1 hIn.lt
          have hOut1 := hOut.below hb1 hOut.lt
          have hbw : Below w.heap.size w w1 := (((Below.refl _ w).alloc (Nat.le_refl _) _).alloc (by simp) _).trans (hb1.mono (by simp; omega))
          have hs8 : s.length ≤ 8 := by have := HSL.out; omega
          have h8 : s.take 8 = s := List.take_of_length_le hs8
          have hn : leN s < 18446744073709551616 := by
            have h1 := leN_lt s
            have h2 : 256 ^ s.length ≤ 256 ^ 8 := Nat.pow_le_pow_right (by decide) hs8
            calc _ < _ := h1
              _ ≤ _ := h2
              _ = _ := rfl
          have hval := value_any A1 c1 s w1 hrd1 (by omega)
          rw [h8] at hval
          refine hval.mono ?_
          rintro e _ ⟨rfl, rfl⟩
          generalize leN s = n at *
          have HN := Lib.hid hn
          clear hval h8 hs8 hn hIn hOut hb1 hrd1
          go_wp2_with fail
          have hci : ∀ p i, (grw w1 p).cell? ⟨w.heap.size, i, none⟩ = [Value.string S, .int .i64 0][i]? := fun p => (hIn1.grw p).cell
          refine wp_region_grw (by kernel_rfl) (by kernel_rfl) ?_
          repeat (go_big_quiet_step ((go_at_call 28; exact Calls.of_grw (var06_any _ _ _ rfl HN.out))))
          refine wpQuiet_nil ?_
          rintro _ ⟨p, rfl⟩
          have hcO := (hOut1.grw p).cell
          have hfO := (hOut1.grw p).frozen
          have HB := Lib.hid hbw
          clear hbw
          by_cases hv2 : varT n = s
          · have hq : (!(tx (varT n)).toList == (tx s).toList) = false := by rw [hv2, beq_self_eq_true]; rfl
            by_cases hmost : most < n
            · have HR : Hid (cnt (b :: t) most = (0, 0, 4)) := by
                show cnt _ _ = _
                rw [HX.out, if_neg (by rw [hv2]; exact fun h => h rfl), if_pos hmost]
              clear hv2
              rw [hq]
              go_wp2_with fail
              have hO1 := ((hOut1.grw p).set 0 (.string S)).cell
              have hO2 := (((hOut1.grw p).set 0 (.string S)).set 1 (.int .i64 4)).cell
              refine bodyPost_ret (by simp [results, Try.results38, go_sem, hO1, hO2]; rfl) rfl ?_
              rw [HR.out]
              refine ⟨by simp only [List.drop_zero]; rw [HS.out]; rfl, ((bgrw HB.out HB.out.size p).setCell (by simp) _).setCell (by simp) _⟩
            · have hmb : decide (most < n) = false := by rw [decide_eq_false_iff_not]; exact hmost
              have HR : Hid (cnt (b :: t) most = (n, 1 + 0, 0)) := by
                show cnt _ _ = _
                rw [HX.out, if_neg (by rw [hv2]; exact fun h => h rfl), if_neg hmost]
              clear hv2
              rw [hq]
              go_wp2_with fail
              have hO1 := ((hOut1.grw p).set 0 (.string (tx t))).cell
              have hO2 := (((hOut1.grw p).set 0 (.string (tx t))).set 1 (.int .i64 0)).cell
              refine bodyPost_ret (by simp [results, Try.results38, go_sem, hO1, hO2]; rfl) rfl ?_
              rw [HR.out]
              refine ⟨rfl, ((bgrw HB.out HB.out.size p).setCell (by simp) _).setCell (by simp) _⟩
          · have hq : (!(tx (varT n)).toList == (tx s).toList) = true := by
              rw [Bool.not_eq_true', beq_eq_false_iff_ne, tx_toList, tx_toList]
              exact hv2
            have HR : Hid (cnt (b :: t) most = (0, 0, 3)) := by
              show cnt _ _ = _
              rw [HX.out, if_pos hv2]
            clear hv2
            rw [hq]
            go_wp2_with fail
            have hO1 := ((hOut1.grw p).set 0 (.string S)).cell
            have hO2 := (((hOut1.grw p).set 0 (.string S)).set 1 (.int .i64 3)).cell
            refine bodyPost_ret (by simp [results, Try.results38, go_sem, hO1, hO2]; rfl) rfl ?_
            rw [HR.out]
            refine ⟨by simp only [List.drop_zero]; rw [HS.out]; rfl, ((bgrw HB.out HB.out.size p).setCell (by simp) _).setCell (by simp) _⟩
end Go.Proofs.Ythaceagaodjllaa
