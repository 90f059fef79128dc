/- The law GcsReads, walked: it answers true. No condition. -/
import Derived.Test.YthaceagaodjllaaAwake
import Derived.BigQuiet
namespace Go.Proofs.Ythaceagaodjllaa
open Go.RowKit

set_option maxRecDepth 20000 in
set_option maxHeartbeats 1000000 in
theorem reads_any (A : Option Addr) (c : Nat) (l : List UInt8) (w : World) (hrd : Rd w w.heap.size A (u8s l)) (hl : l.length ≤ 9223372036854775807) :
    Calls Try.prog 4 #[.slice A l.length c] w fun e w' => e = .returned (.bool true) ∧ Below w.heap.size w w' := by
  by_cases hbig : 100 < l.length
  · go_enter Try.func4, Try.ntmps4
    go_wp2_with fail
    refine (awake_any _).mono ?_
    rintro e w1 ⟨rfl, hb1⟩
    go_wp2_with fail
    go_ret
    exact ⟨rfl, hb1⟩
  · have hvl := vals_length l
    have hso := vals_sorted l
    go_enter Try.func4, Try.ntmps4
    go_wp2_with fail
    refine (values_any A c l w hrd (by omega)).mono ?_
    rintro e w1 ⟨A1, c1, rfl, hown1, hb1⟩
    have hcv := run_back (P := Try.prog) 27 9 5 (c := c) Try.underlying27 Try.underlying5 Try.underlying9 (hrd.below hb1)
    go_wp2_with fail
    refine (values13_any l w1 (by omega)).mono ?_
    rintro e w2 ⟨A2, c2, rfl, hown2, hb2⟩
    have hown1' := own_up hown1 hb2
    have hbl2 := hb1.trans (hb2.mono hb1.size)
    clear hown1 hb1 hb2
    have HSO : Hid (∀ i j (hi : i < (vals l).1.length) (hj : j < (vals l).1.length), i ≤ j → (vals l).1[i] ≤ (vals l).1[j]) := Lib.hid (fun i j hi hj hij => by
      rcases Nat.lt_or_ge i j with h | h
      · exact List.pairwise_iff_getElem.1 hso i j hi hj h
      · obtain rfl : i = j := by omega
        exact Nat.le_refl _)
    clear hso
    generalize (vals l).1 = ns at *
    generalize (vals l).2 = e1 at *
    go_wp2_with fail
    go_loopg [7, 35] ns.length (fun m o i wx => ∃ k : Nat, m = ns.length - k ∧ k ≤ ns.length ∧ i = .int .i64 (k : Int) ∧ Below w.heap.size w wx ∧ wx.ownsRow w.heap.size 22 1 (.slice A1 ns.length c1) ns.length (vnat ns) ∧ wx.ownsRow w1.heap.size 22 1 (.slice A2 ns.length c2) ns.length (vnat ns))
    case atStart => exact ⟨0, by omega, by omega, rfl, hbl2, hown1', hown2⟩
    case round =>
      obtain ⟨k, rfl, hk, rfl, hbl, ho1, ho2⟩ := hrel
      by_cases hlt : k < ns.length
      · obtain ⟨b1, o1, rfl, _, _, hc1⟩ := (own_rd ho1).at (k := k) (by simpa using hlt)
        obtain ⟨b2, o2, rfl, _, _, hc2⟩ := (own_rd ho2).at (k := k) (by simpa using hlt)
        rw [vnat_get _ _ hlt] at hc1 hc2
        have hne : ((ns[k] : Int) != (ns[k] : Int)) = false := by simp
        have hge := fun j (hj : j ≤ k) => HSO.out j k (by omega) hlt hj
        rcases Nat.eq_zero_or_pos k with h0 | h0
        · subst h0
          clear hge
          simp only [Nat.add_zero] at hc1 hc2
          generalize ns[0] = v at *
          go_wp2_with fail
          go_big_quiet (fail)
          go_wp2_with fail
          go_roundg (ns.length - (0 + 1))
          case measure => omega
          case rel => exact ⟨1, rfl, by omega, by go_num, below_drewN hbl _, ho1, ho2⟩
        · have hk1 : k - 1 < ns.length := by omega
          obtain ⟨b1', o1', e1', _, _, hc3⟩ := (own_rd ho1).at (k := k - 1) (by simpa using hk1)
          injection e1' with e1'
          injection e1' with ea eb
          subst ea eb
          rw [vnat_get _ _ hk1] at hc3
          have hle := hge (k - 1) (by omega)
          have hlt2 : ((ns[k] : Int) < (ns[k - 1] : Int)) = False := by simp; omega
          have hdl : decide ((ns[k] : Int) < (ns[k - 1] : Int)) = false := by rw [decide_eq_false_iff_not]; omega
          have hdn : decide (ns[k] < ns[k - 1]) = false := by rw [decide_eq_false_iff_not]; omega
          have hk0 : decide ((0 : Int) < (k : Int)) = true := by rw [decide_eq_true_eq]; omega
          have hkn : decide (0 < k) = true := by rw [decide_eq_true_eq]; omega
          have ek : ((k : Int) - 1).toNat = k - 1 := by omega
          have ek2 : 0 ≤ (k : Int) - 1 := by omega
          have ek3 : IntKind.i64.wrap ((k : Int) - 1) = (k : Int) - 1 := IntWalk.i64_in _ (by omega)
          generalize ns[k] = v at *
          generalize ns[k - 1] = u at *
          clear hge hlt2 hle
          go_wp2_with fail
          go_big_quiet (fail)
          clear ek ek2 ek3
          go_wp2_with fail
          go_roundg (ns.length - (k + 1))
          case measure => omega
          case rel => exact ⟨k + 1, rfl, by omega, by go_num, below_drewN hbl _, ho1, ho2⟩
      · obtain rfl : k = ns.length := by omega
        go_wp2_with fail
        refine (awake_any _).mono ?_
        rintro e w3 ⟨rfl, hb3⟩
        go_wp2_with fail
        go_ret
        exact ⟨rfl, hbl.trans (hb3.mono hbl.size)⟩
end Go.Proofs.Ythaceagaodjllaa
