/- The library's sort of uint64s: the partial insertion sort. Slices of fewer than 2^60. (Written by gen_sort4.py.) -/
import Derived.Test.YthaceagaodjllaaSort3
namespace Go.Proofs.Ythaceagaodjllaa
open Go.RowKit Go.Sort

theorem scanSo_go (d : Array Int) (b i : Nat) (h : (decide (i < b) && !ltInt d[i]! d[i - 1]!) = true) : scanSorted ltInt d b i = scanSorted ltInt d b (i + 1) := by rw [scanSorted, if_pos h]
theorem scanSo_stop (d : Array Int) (b i : Nat) (h : (decide (i < b) && !ltInt d[i]! d[i - 1]!) = false) : scanSorted ltInt d b i = i := by rw [scanSorted, if_neg (by rw [h]; decide)]
def sDn (a q : Nat) (d : Array Int) : Array Int := if q - a ≥ 2 then shiftDown ltInt (q - 1) d else d
def sUp (b q : Nat) (d : Array Int) : Array Int := if b - q ≥ 2 then shiftUp ltInt b (q + 1) d else d
theorem partialIns_end (a b s i q : Nat) (d : Array Int) (h : scanSorted ltInt d b i = q) (hq : q = b) : partialIns ltInt a b (s + 1) i d = (d, true) := by
  rw [partialIns, h]
  simp [hq]
theorem partialIns_few (a b s i q : Nat) (d : Array Int) (h : scanSorted ltInt d b i = q) (hq : ¬ q = b) (hf : b - a < 50) : partialIns ltInt a b (s + 1) i d = (d, false) := by
  rw [partialIns, h]
  simp [hq, hf]
theorem partialIns_go (a b s i q : Nat) (d : Array Int) (h : scanSorted ltInt d b i = q) (hq : ¬ q = b) (hf : ¬ b - a < 50) : partialIns ltInt a b (s + 1) i d = partialIns ltInt a b s q (sUp b q (sDn a q (swp d q (q - 1)))) := by
  rw [partialIns, h]
  simp only
  rw [if_neg hq, if_neg hf]
  rfl
theorem shiftDown_size (j : Nat) (d : Array Int) : (shiftDown ltInt j d).size = d.size := by
  induction j generalizing d with
  | zero => rw [shiftDown]
  | succ j ih => rw [shiftDown]; split <;> simp [ih, swp_size]

set_option maxRecDepth 100000 in
set_option maxHeartbeats 16000000 in
theorem par_any (W : World) (base g c n a b : Nat) (d : Array Int) (w : World) (h : Arr W base g c n d w) (hab : a < b) (hb : b ≤ n) (hn : n < 1152921504606846976) :
    Calls Try.prog 94 #[.slice (some ⟨g, 0, none⟩) n c, .int .i64 a, .int .i64 b] w fun e w' => e = .returned (.bool (partialInsertionSort ltInt d a b).2) ∧ Arr W base g c n (partialInsertionSort ltInt d a b).1 w' := by
  generalize hR : partialInsertionSort ltInt d a b = R
  have hR2 : partialIns ltInt a b 5 (a + 1) d = R := hR
  have HE := Lib.hid hR2
  clear hR hR2
  go_enter Try.func94, Try.ntmps94
  go_wp2_with fail
  go_loopg [7, 8] 5 (fun m s t wx => ∃ (i : Nat) (dk : Array Int), m ≤ 5 ∧ a + 1 ≤ i ∧ i ≤ b ∧ s = .int .i64 (i : Int) ∧ t = .int .i64 (5 - (m : Int)) ∧ Arr W base g c n dk wx ∧ partialIns ltInt a b m i dk = R)
  case atStart => exact ⟨a + 1, d, by omega, by omega, by omega, by go_num, int_eq (by omega), h, HE.out⟩
  case round =>
    obtain ⟨i, dk, hm5, hi1, hi2, rfl, rfl, hA, hR⟩ := hrel
    have HR := Lib.hid hR
    clear hR HE
    rcases Nat.eq_zero_or_pos gk with h0 | h0
    · subst h0
      have HX : Hid ((dk, false) = R) := Lib.hid (by rw [← HR.out, partialIns])
      go_wp2_with fail
      go_ret
      rw [← HX.out]
      exact ⟨rfl, hA⟩
    · obtain ⟨s, rfl⟩ : ∃ s, gk = s + 1 := ⟨gk - 1, by omega⟩
      go_wp2_with fail
      go_loopg [7] (b - i) (fun m s wx => ∃ q : Nat, m = b - q ∧ i ≤ q ∧ q ≤ b ∧ s = .int .i64 (q : Int) ∧ Arr W base g c n dk wx ∧ scanSorted ltInt dk b q = scanSorted ltInt dk b i)
      case atStart => exact ⟨i, rfl, Nat.le_refl _, hi2, rfl, hA, rfl⟩
      case round =>
        obtain ⟨q, rfl, hq1, hq2, rfl, hQ, hS⟩ := hrel
        have HS := Lib.hid hS
        clear hS hA
        go_upto_region 5 with fail
        go_cut [32] from 17 to 34 (fun s wx => s = .bool (decide (q < b) && !ltInt dk[q]! dk[q - 1]!) ∧ Arr W base g c n dk wx)
        case first =>
          by_cases hlh : q < b
          · have hcq := fun p => (hQ.grw p).cell q (by omega)
            have hca := fun p => (hQ.grw p).cell (q - 1) (by omega)
            have hga : decide ((q : Int) < (b : Int)) = true := by rw [decide_eq_true_eq]; omega
            have hgb : decide (q < b) = true := by rw [decide_eq_true_eq]; exact hlh
            generalize dk[q]! = su at *
            generalize dk[q - 1]! = sv at *
            go_wp2_with fail
            have ixa : 0 ≤ (q : Int) - 1 := by omega
            have ixb : (q : Int) - 1 < (n : Int) := by omega
            have ixc : ((q : Int) - 1).toNat = q - 1 := by omega
            have ixd : IntKind.i64.wrap ((q : Int) - 1) = (q : Int) - 1 := IntWalk.i64_in _ (by omega)
            refine wp_region_grw (by kernel_rfl) (by kernel_rfl) ?_
            repeat (go_big_quiet_step ((go_at_call 71; exact Calls.of_grw_same (less_any _ _ _))))
            refine wpQuiet_nil ?_
            rintro _ ⟨p, rfl⟩
            clear ixa ixb ixc ixd
            go_wp2_with fail
            go_meet
            case rel => exact ⟨by rw [hgb]; rfl, hQ.grw p⟩
          · have hga : decide ((q : Int) < (b : Int)) = false := by rw [decide_eq_false_iff_not]; omega
            have hgb : decide (q < b) = false := by rw [decide_eq_false_iff_not]; exact hlh
            go_wp2_with fail
            refine wp_region_grw (by kernel_rfl) (by kernel_rfl) ?_
            repeat (go_big_quiet_step ((go_at_call 71; exact Calls.of_grw_same (less_any _ _ _))))
            refine wpQuiet_nil ?_
            rintro _ ⟨p, rfl⟩
            go_wp2_with fail
            go_meet
            case rel => exact ⟨by rw [hgb]; rfl, hQ.grw p⟩
        case rest =>
          obtain ⟨rfl, hB⟩ := hcut
          clear hQ
          cases ht : (decide (q < b) && !ltInt dk[q]! dk[q - 1]!) with
          | true =>
            have hlh : q < b := by
              simp only [Bool.and_eq_true, decide_eq_true_eq] at ht
              exact ht.1
            have HN : Hid (scanSorted ltInt dk b (q + 1) = scanSorted ltInt dk b i) := Lib.hid (by rw [← HS.out]; exact (scanSo_go _ _ _ ht).symm)
            clear ht
            go_wp2_with fail
            go_roundg (b - (q + 1))
            case measure => omega
            case rel => exact ⟨q + 1, rfl, by omega, by omega, by go_num, hB, HN.out⟩
          | false =>
            have HQ : Hid (scanSorted ltInt dk b i = q) := Lib.hid (by rw [← HS.out]; exact scanSo_stop _ _ _ ht)
            clear ht HS
            by_cases hqb : q = b
            · have HX : Hid ((dk, true) = R) := Lib.hid (by rw [← HR.out]; exact (partialIns_end a b s i q dk HQ.out hqb).symm)
              have hqb' : ((q : Int) == (b : Int)) = true := by rw [beq_iff_eq]; omega
              clear hqb
              go_wp2_with fail
              go_ret
              rw [← HX.out]
              exact ⟨rfl, hB⟩
            · have hqb' : ((q : Int) == (b : Int)) = false := by rw [beq_eq_false_iff_ne]; omega
              by_cases hfew : b - a < 50
              · have HX : Hid ((dk, false) = R) := Lib.hid (by rw [← HR.out]; exact (partialIns_few a b s i q dk HQ.out hqb hfew).symm)
                go_wp2_with fail
                go_ret
                rw [← HX.out]
                exact ⟨rfl, hB⟩
              · have HX : Hid (partialIns ltInt a b s q (sUp b q (sDn a q (swp dk q (q - 1)))) = R) := Lib.hid (by rw [← HR.out]; exact (partialIns_go a b s i q dk HQ.out hqb hfew).symm)
                clear HR HQ
                have hci := hB.cell (q) (by omega)
                have hcj := hB.cell (q - 1) (by omega)
                have hfi := hB.frozen (q)
                have hfj := hB.frozen (q - 1)
                generalize hsu : dk[q]! = su at hci
                generalize hsv : dk[q - 1]! = sv at hcj
                have HSU := Lib.hid hsu
                have HSV := Lib.hid hsv
                have hnij : (q) ≠ (q - 1) := by omega
                clear hsu hsv
                go_wp2_with fail
                have ix0a : 0 ≤ (q : Int) - 1 := by omega
                have ix0b : (q : Int) - 1 < (n : Int) := by omega
                have ix0c : ((q : Int) - 1).toNat = q - 1 := by omega
                have ix0d : IntKind.i64.wrap ((q : Int) - 1) = (q : Int) - 1 := IntWalk.i64_in _ (by omega)
                go_region
                clear ix0a ix0b ix0c ix0d
                clear hci hcj hfi hfj hnij
                refine absw (fun x => Arr W base g c n (swp dk (q) (q - 1)) x) (hB.swpd HSV.out HSU.out) ?_
                clear HSU HSV
                rintro wE hE
                generalize swp dk q (q - 1) = d1 at *
                go_upto_if 61 with fail
                go_cut [9] from 13 to 132 (fun _ wx => Arr W base g c n (sDn a q d1) wx)
                case first =>
                  by_cases h2 : q - a ≥ 2
                  · have HD : Hid (sDn a q d1 = shiftDown ltInt (q - 1) d1) := Lib.hid (if_pos h2)
                    generalize sDn a q d1 = D2 at *
                    go_wp2_with fail
                    go_loopg [9] (q - 1) (fun t s wx => ∃ dt : Array Int, t ≤ q - 1 ∧ s = .int .i64 (t : Int) ∧ Arr W base g c n dt wx ∧ shiftDown ltInt t dt = D2)
                    case atStart => exact ⟨d1, Nat.le_refl _, int_eq (by omega), hE, HD.out.symm⟩
                    case round =>
                      obtain ⟨dt, ht1, rfl, hT, hR⟩ := hrel
                      have HR := Lib.hid hR
                      clear hR hE HD hB
                      rcases Nat.eq_zero_or_pos gk with h0 | h0
                      · subst h0
                        have HZ : Hid (dt = D2) := Lib.hid (by rw [← HR.out, shiftDown])
                        go_wp2_with fail
                        go_meet
                        case rel => rw [← HZ.out]; exact hT
                      · obtain ⟨t, rfl⟩ : ∃ t, gk = t + 1 := ⟨gk - 1, by omega⟩
                        have HS2 : Hid (D2 = if !ltInt dt[t + 1]! dt[t]! then dt else shiftDown ltInt t (swp dt (t + 1) t)) := Lib.hid (by rw [← HR.out, shiftDown])
                        have hcq := fun p => (hT.grw p).cell (t + 1) (by omega)
                        have hca := fun p => (hT.grw p).cell t (by omega)
                        have HT := Lib.hid hT
                        generalize hu : dt[t + 1]! = u at *
                        generalize hv : dt[t]! = v at *
                        have HU := Lib.hid hu
                        have HV := Lib.hid hv
                        clear hu hv
                        go_wp2_with fail
                        have ixd : IntKind.i64.wrap ((t : Int)) = (t : Int) := IntWalk.i64_in _ (by omega)
                        refine wp_region_grw (by kernel_rfl) (by kernel_rfl) ?_
                        repeat (go_big_quiet_step ((go_at_call 71; exact Calls.of_grw_same (less_any _ _ _))))
                        refine wpQuiet_nil ?_
                        rintro _ ⟨p, rfl⟩
                        clear ixd
                        refine absw (fun x => Arr W base g c n dt x) (HT.out.grw p) ?_
                        rintro wF hF
                        clear hcq hca HT hT
                        cases huv : decide (u < v) with
                        | true =>
                          have HN : Hid (shiftDown ltInt t (swp dt (t + 1) t) = D2) := Lib.hid (by rw [HS2.out, if_neg (by rw [← ltInt_b, huv]; decide)])
                          have hc1 := hF.cell (t + 1) (by omega)
                          have hc0 := hF.cell t (by omega)
                          rw [HU.out] at hc1
                          rw [HV.out] at hc0
                          have hf1 := hF.frozen (t + 1)
                          have hf0 := hF.frozen t
                          go_wp2_with fail
                          go_region
                          go_wp2_with fail
                          go_roundg t
                          case measure => omega
                          case rel => exact ⟨swp dt (t + 1) t, by omega, int_eq (by omega), hF.swpd HV.out HU.out, HN.out⟩
                        | false =>
                          have HZ : Hid (dt = D2) := Lib.hid (by rw [HS2.out, if_pos (by rw [← ltInt_b, huv]; decide)])
                          go_wp2_with fail
                          go_meet
                          case rel => rw [← HZ.out]; exact hF
                  · have HD : Hid (sDn a q d1 = d1) := Lib.hid (if_neg h2)
                    go_wp2_with fail
                    go_meet
                    case rel => rw [HD.out]; exact hE
                case rest =>
                  have hG := hcut
                  clear hcut hE hB
                  generalize sDn a q d1 = d2 at *
                  by_cases h2 : b - q ≥ 2
                  · have HD : Hid (sUp b q d2 = shiftUp ltInt b (q + 1) d2) := Lib.hid (if_pos h2)
                    generalize sUp b q d2 = D2 at *
                    go_wp2_with fail
                    go_loopg [10] (b - (q + 1)) (fun m s wx => ∃ (t : Nat) (dt : Array Int), m = b - t ∧ q + 1 ≤ t ∧ s = .int .i64 (t : Int) ∧ Arr W base g c n dt wx ∧ shiftUp ltInt b t dt = D2)
                    case atStart => exact ⟨q + 1, d2, rfl, Nat.le_refl _, by go_num, hG, HD.out.symm⟩
                    case round =>
                      obtain ⟨t, dt, rfl, ht1, rfl, hT, hR⟩ := hrel
                      have HR := Lib.hid hR
                      clear hR hG HD
                      by_cases htb : t < b
                      · have HS2 : Hid (D2 = if !ltInt dt[t]! dt[t - 1]! then dt else shiftUp ltInt b (t + 1) (swp dt t (t - 1))) := Lib.hid (by rw [← HR.out, shiftUp, if_pos htb])
                        have hcq := fun p => (hT.grw p).cell t (by omega)
                        have hca := fun p => (hT.grw p).cell (t - 1) (by omega)
                        have HT := Lib.hid hT
                        generalize hu : dt[t]! = u at *
                        generalize hv : dt[t - 1]! = v at *
                        have HU := Lib.hid hu
                        have HV := Lib.hid hv
                        clear hu hv
                        go_wp2_with fail
                        have ixa : 0 ≤ (t : Int) - 1 := by omega
                        have ixb : (t : Int) - 1 < (n : Int) := by omega
                        have ixc : ((t : Int) - 1).toNat = t - 1 := by omega
                        have ixd : IntKind.i64.wrap ((t : Int) - 1) = (t : Int) - 1 := IntWalk.i64_in _ (by omega)
                        refine wp_region_grw (by kernel_rfl) (by kernel_rfl) ?_
                        repeat (go_big_quiet_step ((go_at_call 71; exact Calls.of_grw_same (less_any _ _ _))))
                        refine wpQuiet_nil ?_
                        rintro _ ⟨p, rfl⟩
                        clear ixa ixb ixc ixd
                        refine absw (fun x => Arr W base g c n dt x) (HT.out.grw p) ?_
                        rintro wF hF
                        clear hcq hca HT hT
                        cases huv : decide (u < v) with
                        | true =>
                          have HN : Hid (shiftUp ltInt b (t + 1) (swp dt t (t - 1)) = D2) := Lib.hid (by rw [HS2.out, if_neg (by rw [← ltInt_b, huv]; decide)])
                          have hc1 := hF.cell t (by omega)
                          have hc0 := hF.cell (t - 1) (by omega)
                          rw [HU.out] at hc1
                          rw [HV.out] at hc0
                          have hf1 := hF.frozen t
                          have hf0 := hF.frozen (t - 1)
                          have hnij : t ≠ t - 1 := by omega
                          go_wp2_with fail
                          have ixa : 0 ≤ (t : Int) - 1 := by omega
                          have ixb : (t : Int) - 1 < (n : Int) := by omega
                          have ixc : ((t : Int) - 1).toNat = t - 1 := by omega
                          have ixd : IntKind.i64.wrap ((t : Int) - 1) = (t : Int) - 1 := IntWalk.i64_in _ (by omega)
                          go_region
                          clear ixa ixb ixc ixd
                          go_wp2_with fail
                          go_roundg (b - (t + 1))
                          case measure => omega
                          case rel => exact ⟨t + 1, swp dt t (t - 1), rfl, by omega, by go_num, hF.swpd HV.out HU.out, HN.out⟩
                        | false =>
                          have HZ : Hid (dt = D2) := Lib.hid (by rw [HS2.out, if_pos (by rw [← ltInt_b, huv]; decide)])
                          go_wp2_with fail
                          go_roundg s
                          case measure => omega
                          case rel => exact ⟨q, _, by omega, by omega, by omega, rfl, int_eq (by omega), (by rw [← HZ.out]; exact hF), HX.out⟩
                      · have HZ : Hid (dt = D2) := Lib.hid (by rw [← HR.out, shiftUp, if_neg htb])
                        go_wp2_with fail
                        go_roundg s
                        case measure => omega
                        case rel => exact ⟨q, _, by omega, by omega, by omega, rfl, int_eq (by omega), (by rw [← HZ.out]; exact hT), HX.out⟩
                  · have HD : Hid (sUp b q d2 = d2) := Lib.hid (if_neg h2)
                    go_wp2_with fail
                    go_roundg s
                    case measure => omega
                    case rel => exact ⟨q, _, by omega, by omega, by omega, rfl, int_eq (by omega), (by rw [HD.out]; exact hG), HX.out⟩
end Go.Proofs.Ythaceagaodjllaa
