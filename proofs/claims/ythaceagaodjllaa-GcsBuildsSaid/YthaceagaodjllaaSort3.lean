/- The library's sort of uint64s: the two partitions. Slices of fewer than 2^60. (Written by gen_sort3.py.) -/
import Derived.Test.YthaceagaodjllaaSort2
import Derived.Deep.Cut
import Derived.Deep.CutRange
namespace Go.Proofs.Ythaceagaodjllaa
open Go.RowKit Go.Sort

theorem cell_set_some {w : World} {q : Addr} {v : Value} (p : Addr) (x : Value) (h : w.cell? q = some v) : ∃ v', (w.setCell p x).cell? q = some v' := by
  by_cases e : p = q
  · subst e; exact ⟨x, World.cell?_setCell_same w p x h⟩
  · exact ⟨v, (World.cell?_setCell_other w p q x e).trans h⟩
section
variable (p : Int → Bool) (d : Array Int)
theorem scanUp_go (j i : Nat) (h : (decide (i ≤ j) && p d[i]!) = true) : scanUp p d j i = scanUp p d j (i + 1) := by rw [scanUp, if_pos h]
theorem scanUp_stop (j i : Nat) (h : (decide (i ≤ j) && p d[i]!) = false) : scanUp p d j i = i := by rw [scanUp, if_neg (by rw [h]; decide)]
theorem scanDown_go (i j : Nat) (h : (decide (i ≤ j) && p d[j]!) = true) (hi : 0 < j := by omega) : scanDown p d i j = scanDown p d i (j - 1) := by
  obtain ⟨k, rfl⟩ : ∃ k, j = k + 1 := ⟨j - 1, by omega⟩
  rw [scanDown, if_pos h]
  rfl
theorem scanDown_stop (i j : Nat) (h : (decide (i ≤ j) && p d[j]!) = false) : scanDown p d i j = j := by
  cases j with
  | zero => rw [scanDown]
  | succ k => rw [scanDown, if_neg (by rw [h]; decide)]
end
theorem partLoop_end (a i j : Nat) (d : Array Int) {q1 q2 : Nat} (h1 : scanUp (fun x => ltInt x d[a]!) d j i = q1) (h2 : scanDown (fun x => !ltInt x d[a]!) d q1 j = q2) (h : q2 < q1) : partLoop ltInt a i j d = (q2, d) := by
  rw [partLoop, h1, h2]
  simp [h]
theorem partLoop_go (a i j : Nat) (d : Array Int) {q1 q2 : Nat} (h1 : scanUp (fun x => ltInt x d[a]!) d j i = q1) (h2 : scanDown (fun x => !ltInt x d[a]!) d q1 j = q2) (h : ¬ q2 < q1) (h0 : 0 < q1) (hi : i ≤ q1) (hj : q2 ≤ j) :
    partLoop ltInt a i j d = partLoop ltInt a (q1 + 1) (q2 - 1) (swp d q1 q2) := by
  rw [partLoop, h1, h2]
  rw [if_neg h, dif_pos (by omega)]
theorem partEq_end (a i j : Nat) (d : Array Int) {q1 q2 : Nat} (h1 : scanUp (fun x => !ltInt d[a]! x) d j i = q1) (h2 : scanDown (fun x => ltInt d[a]! x) d q1 j = q2) (h : q2 < q1) : partEqLoop ltInt a i j d = (q1, d) := by
  rw [partEqLoop, h1, h2]
  simp [h]
theorem partEq_go (a i j : Nat) (d : Array Int) {q1 q2 : Nat} (h1 : scanUp (fun x => !ltInt d[a]! x) d j i = q1) (h2 : scanDown (fun x => ltInt d[a]! x) d q1 j = q2) (h : ¬ q2 < q1) (h0 : 0 < q1) (hi : i ≤ q1) (hj : q2 ≤ j) :
    partEqLoop ltInt a i j d = partEqLoop ltInt a (q1 + 1) (q2 - 1) (swp d q1 q2) := by
  rw [partEqLoop, h1, h2]
  rw [if_neg h, dif_pos (by omega)]

set_option maxRecDepth 100000 in
set_option maxHeartbeats 8000000 in
theorem peq_any (W : World) (base g c n a b pv : Nat) (d : Array Int) (w : World) (h : Arr W base g c n d w) (hap : a ≤ pv) (hpb : pv < b) (hb : b ≤ n) (hn : n < 1152921504606846976) :
    Calls Try.prog 95 #[.slice (some ⟨g, 0, none⟩) n c, .int .i64 a, .int .i64 b, .int .i64 pv] w fun e w' => e = .returned (.int .i64 ((partitionEqual ltInt d a b pv).1 : Nat)) ∧ Arr W base g c n (partitionEqual ltInt d a b pv).2 w' := by
  generalize hR : partitionEqual ltInt d a b pv = R
  have hR2 : partEqLoop ltInt a (a + 1) (b - 1) (swp d a pv) = R := hR
  have HE := Lib.hid hR2
  clear hR hR2
  go_enter Try.func95, Try.ntmps95
  have hci := h.cell (a) (by omega)
  have hcj := h.cell (pv) (by omega)
  have hfi := h.frozen (a)
  have hfj := h.frozen (pv)
  generalize hsu : d[a]! = su at hci
  generalize hsv : d[pv]! = sv at hcj
  have HSU := Lib.hid hsu
  have HSV := Lib.hid hsv
  obtain ⟨vx, hyy⟩ := cell_set_some ⟨g, a, none⟩ (.int .u64 sv) hcj
  clear hsu hsv
  go_wp2_with fail
  go_region
  clear hci hcj hfi hfj hyy
  refine absw (fun x => Arr W base g c n (swp d (a) (pv)) x) (h.swpd HSV.out HSU.out) ?_
  clear HSU HSV
  rintro wA hA0
  generalize swp d a pv = d0 at *
  go_wp2_with fail
  go_loopg [9, 10] (b - 1 + 1 - (a + 1)) (fun m s t wx => ∃ (i j : Nat) (dk : Array Int), m = j + 1 - i ∧ a + 1 ≤ i ∧ a ≤ j ∧ j < b ∧ i ≤ j + 2 ∧ s = .int .i64 (i : Int) ∧ t = .int .i64 (j : Int) ∧ Arr W base g c n dk wx ∧ partEqLoop ltInt a i j dk = R)
  case atStart => exact ⟨a + 1, b - 1, d0, rfl, by omega, by omega, by omega, by omega, by go_num, int_eq (by omega), hA0, HE.out⟩
  case round =>
    obtain ⟨i, j, dk, rfl, hi1, hj1, hj2, hij, rfl, rfl, hA, hR⟩ := hrel
    have HR := Lib.hid hR
    clear hR hA0 HE
    go_wp2_with fail
    go_loopg [9] (j + 1 - i) (fun m s wx => ∃ q1 : Nat, m = j + 1 - q1 ∧ i ≤ q1 ∧ (q1 ≤ j + 1 ∨ q1 = i) ∧ s = .int .i64 (q1 : Int) ∧ Arr W base g c n dk wx ∧ scanUp (fun x => !ltInt dk[a]! x) dk (j) (q1) = scanUp (fun x => !ltInt dk[a]! x) dk (j) (i))
    case atStart => exact ⟨i, rfl, Nat.le_refl _, .inr rfl, (by first | rfl | go_num | exact int_eq (by omega)), hA, rfl⟩
    case round =>
      obtain ⟨q1, rfl, hq11, hq12, rfl, hAq1, hSq1⟩ := hrel
      have HSq1 := Lib.hid hSq1
      clear hSq1
      go_upto_region 3 with fail
      go_cut [43] from 29 to 45 (fun s wx => s = .bool (decide (q1 ≤ j) && !ltInt dk[a]! dk[q1]!) ∧ Arr W base g c n dk wx)
      case first =>
        by_cases hlh : q1 ≤ j
        · have hcq := fun p => (hAq1.grw p).cell (q1) (by omega)
          have hca := fun p => (hAq1.grw p).cell a (by omega)
          have hga : decide ((q1 : Int) ≤ (j : Int)) = true := by rw [decide_eq_true_eq]; omega
          have hgb : decide (q1 ≤ j) = true := by rw [decide_eq_true_eq]; exact hlh
          generalize dk[q1]! = su at *
          generalize dk[a]! = sv at *
          go_wp2_with fail
          refine wp_region_grw (by kernel_rfl) (by kernel_rfl) ?_
          repeat (go_big_quiet_step ((go_at_call 71; exact Calls.of_grw_same (less_any _ _ _))))
          refine wpQuiet_nil ?_
          rintro _ ⟨p, rfl⟩
          go_wp2_with fail
          go_meet
          case rel => exact ⟨by rw [hgb]; rfl, hAq1.grw p⟩
        · have hga : decide ((q1 : Int) ≤ (j : Int)) = false := by rw [decide_eq_false_iff_not]; omega
          have hgb : decide (q1 ≤ j) = false := by rw [decide_eq_false_iff_not]; exact hlh
          go_wp2_with fail
          refine wp_region_grw (by kernel_rfl) (by kernel_rfl) ?_
          repeat (go_big_quiet_step ((go_at_call 71; exact Calls.of_grw_same (less_any _ _ _))))
          refine wpQuiet_nil ?_
          rintro _ ⟨p, rfl⟩
          go_wp2_with fail
          go_meet
          case rel => exact ⟨by rw [hgb]; rfl, hAq1.grw p⟩
      case rest =>
        obtain ⟨rfl, hB⟩ := hcut
        clear hAq1
        cases htq1 : (decide (q1 ≤ j) && !ltInt dk[a]! dk[q1]!) with
        | true =>
          have hlh : q1 ≤ j := by
            simp only [Bool.and_eq_true, decide_eq_true_eq] at htq1
            exact htq1.1
          have HN : Hid (scanUp (fun x => !ltInt dk[a]! x) dk (j) (q1 + 1) = scanUp (fun x => !ltInt dk[a]! x) dk (j) (i)) := Lib.hid (by rw [← HSq1.out]; exact (scanUp_go _ _ _ _ htq1).symm)
          clear htq1
          go_wp2_with fail
          go_roundg (j + 1 - (q1 + 1))
          case measure => omega
          case rel => exact ⟨q1 + 1, rfl, by omega, by omega, (by first | go_num | exact int_eq (by omega)), hB, HN.out⟩
        | false =>
          have HU : Hid (scanUp (fun x => !ltInt dk[a]! x) dk (j) (i) = q1) := Lib.hid (by rw [← HSq1.out]; exact scanUp_stop _ _ _ _ htq1)
          have hlhq1 : Hid ((decide (q1 ≤ j) && !ltInt dk[a]! dk[q1]!) = false) := Lib.hid htq1
          clear htq1 HSq1
          go_wp2_with fail
          go_loopg [10] (j + 1 - q1) (fun m s wx => ∃ q2 : Nat, m = q2 + 1 - q1 ∧ q2 ≤ j ∧ (q1 ≤ q2 + 1 ∨ q2 = j) ∧ s = .int .i64 (q2 : Int) ∧ Arr W base g c n dk wx ∧ scanDown (fun x => ltInt dk[a]! x) dk (q1) (q2) = scanDown (fun x => ltInt dk[a]! x) dk (q1) (j))
          case atStart => exact ⟨j, rfl, Nat.le_refl _, .inr rfl, (by first | rfl | go_num | exact int_eq (by omega)), hB, rfl⟩
          case round =>
            obtain ⟨q2, rfl, hq21, hq22, rfl, hAq2, hSq2⟩ := hrel
            have HSq2 := Lib.hid hSq2
            clear hSq2
            go_upto_region 5 with fail
            go_cut [59] from 46 to 61 (fun s wx => s = .bool (decide (q1 ≤ q2) && ltInt dk[a]! dk[q2]!) ∧ Arr W base g c n dk wx)
            case first =>
              by_cases hlh : q1 ≤ q2
              · have hcq := fun p => (hAq2.grw p).cell (q2) (by omega)
                have hca := fun p => (hAq2.grw p).cell a (by omega)
                have hga : decide ((q1 : Int) ≤ (q2 : Int)) = true := by rw [decide_eq_true_eq]; omega
                have hgb : decide (q1 ≤ q2) = true := by rw [decide_eq_true_eq]; exact hlh
                generalize dk[q2]! = su at *
                generalize dk[a]! = sv at *
                go_wp2_with fail
                refine wp_region_grw (by kernel_rfl) (by kernel_rfl) ?_
                repeat (go_big_quiet_step ((go_at_call 71; exact Calls.of_grw_same (less_any _ _ _))))
                refine wpQuiet_nil ?_
                rintro _ ⟨p, rfl⟩
                go_wp2_with fail
                go_meet
                case rel => exact ⟨by rw [hgb]; rfl, hAq2.grw p⟩
              · have hga : decide ((q1 : Int) ≤ (q2 : Int)) = false := by rw [decide_eq_false_iff_not]; omega
                have hgb : decide (q1 ≤ q2) = false := by rw [decide_eq_false_iff_not]; exact hlh
                go_wp2_with fail
                refine wp_region_grw (by kernel_rfl) (by kernel_rfl) ?_
                repeat (go_big_quiet_step ((go_at_call 71; exact Calls.of_grw_same (less_any _ _ _))))
                refine wpQuiet_nil ?_
                rintro _ ⟨p, rfl⟩
                go_wp2_with fail
                go_meet
                case rel => exact ⟨by rw [hgb]; rfl, hAq2.grw p⟩
            case rest =>
              obtain ⟨rfl, hC⟩ := hcut
              clear hAq2
              cases htq2 : (decide (q1 ≤ q2) && ltInt dk[a]! dk[q2]!) with
              | true =>
                have hlh : q1 ≤ q2 := by
                  simp only [Bool.and_eq_true, decide_eq_true_eq] at htq2
                  exact htq2.1
                have HN : Hid (scanDown (fun x => ltInt dk[a]! x) dk (q1) (q2 - 1) = scanDown (fun x => ltInt dk[a]! x) dk (q1) (j)) := Lib.hid (by rw [← HSq2.out]; exact (scanDown_go _ _ _ _ htq2).symm)
                clear htq2
                go_wp2_with fail
                go_roundg ((q2 - 1) + 1 - q1)
                case measure => omega
                case rel => exact ⟨q2 - 1, rfl, by omega, by omega, (by first | go_num | exact int_eq (by omega)), hC, HN.out⟩
              | false =>
                have HD : Hid (scanDown (fun x => ltInt dk[a]! x) dk (q1) (j) = q2) := Lib.hid (by rw [← HSq2.out]; exact scanDown_stop _ _ _ _ htq2)
                have hlhq2 : Hid ((decide (q1 ≤ q2) && ltInt dk[a]! dk[q2]!) = false) := Lib.hid htq2
                clear htq2 HSq2
                by_cases hgt : q2 < q1
                · have HX : Hid ((q1, dk) = R) := Lib.hid (by rw [← HR.out]; exact (partEq_end a i j dk HU.out HD.out hgt).symm)
                  go_wp2_with fail
                  go_ret
                  rw [← HX.out]
                  exact ⟨rfl, hC⟩
                · have HX : Hid (partEqLoop ltInt a (q1 + 1) (q2 - 1) (swp dk q1 q2) = R) := Lib.hid (by rw [← HR.out]; exact (partEq_go a i j dk HU.out HD.out hgt (by omega) (by omega) (by omega)).symm)
                  have hci := hC.cell (q1) (by omega)
                  have hcj := hC.cell (q2) (by omega)
                  have hfi := hC.frozen (q1)
                  have hfj := hC.frozen (q2)
                  generalize hsu : dk[q1]! = su at hci
                  generalize hsv : dk[q2]! = sv at hcj
                  have HSU := Lib.hid hsu
                  have HSV := Lib.hid hsv
                  obtain ⟨vx, hyy⟩ := cell_set_some ⟨g, q1, none⟩ (.int .u64 sv) hcj
                  clear hsu hsv
                  go_wp2_with fail
                  go_region
                  clear hci hcj hfi hfj hyy
                  refine absw (fun x => Arr W base g c n (swp dk (q1) (q2)) x) (hC.swpd HSV.out HSU.out) ?_
                  clear HSU HSV
                  rintro wE hE
                  go_wp2_with fail
                  go_roundg (q2 - 1 + 1 - (q1 + 1))
                  case measure => omega
                  case rel => exact ⟨q1 + 1, q2 - 1, _, rfl, by omega, by omega, by omega, by omega, by go_num, int_eq (by omega), hE, HX.out⟩

theorem partition_at (d : Array Int) (a b pv q1 q2 : Nat) (h1 : scanUp (fun x => ltInt x (swp d a pv)[a]!) (swp d a pv) (b - 1) (a + 1) = q1) (h2 : scanDown (fun x => !ltInt x (swp d a pv)[a]!) (swp d a pv) q1 (b - 1) = q2) :
    partition ltInt d a b pv = if q2 < q1 then (q2, true, swp (swp d a pv) q2 a) else
      ((partLoop ltInt a (q1 + 1) (q2 - 1) (swp (swp d a pv) q1 q2)).1, false, swp (partLoop ltInt a (q1 + 1) (q2 - 1) (swp (swp d a pv) q1 q2)).2 (partLoop ltInt a (q1 + 1) (q2 - 1) (swp (swp d a pv) q1 q2)).1 a) := by
  subst h1
  subst h2
  rfl

set_option maxRecDepth 100000 in
set_option maxHeartbeats 16000000 in
theorem prt_any (W : World) (base g c n a b pv : Nat) (d : Array Int) (w : World) (h : Arr W base g c n d w) (hap : a ≤ pv) (hpb : pv < b) (hb : b ≤ n) (hn : n < 1152921504606846976) :
    Calls Try.prog 96 #[.slice (some ⟨g, 0, none⟩) n c, .int .i64 a, .int .i64 b, .int .i64 pv] w fun e w' => e = .returned (.tuple #[.int .i64 ((partition ltInt d a b pv).1 : Nat), .bool (partition ltInt d a b pv).2.1]) ∧ Arr W base g c n (partition ltInt d a b pv).2.2 w' := by
  have HE := Lib.hid (partition_at d a b pv)
  generalize partition ltInt d a b pv = R at *
  go_enter Try.func96, Try.ntmps96
  have hci := h.cell (a) (by omega)
  have hcj := h.cell (pv) (by omega)
  have hfi := h.frozen (a)
  have hfj := h.frozen (pv)
  generalize hsu : d[a]! = su at hci
  generalize hsv : d[pv]! = sv at hcj
  have HSU := Lib.hid hsu
  have HSV := Lib.hid hsv
  obtain ⟨vx, hyy⟩ := cell_set_some ⟨g, a, none⟩ (.int .u64 sv) hcj
  clear hsu hsv
  go_wp2_with fail
  go_region
  clear hci hcj hfi hfj hyy
  refine absw (fun x => Arr W base g c n (swp d (a) (pv)) x) (h.swpd HSV.out HSU.out) ?_
  clear HSU HSV
  rintro wA hA0
  generalize swp d a pv = d0 at *
  have hi0 : a + 1 ≤ a + 1 := Nat.le_refl _
  go_wp2_with fail
  go_loopg [10] ((b - 1) + 1 - (a + 1)) (fun m s wx => ∃ q1 : Nat, m = (b - 1) + 1 - q1 ∧ (a + 1) ≤ q1 ∧ (q1 ≤ (b - 1) + 1 ∨ q1 = (a + 1)) ∧ s = .int .i64 (q1 : Int) ∧ Arr W base g c n d0 wx ∧ scanUp (fun x => ltInt x d0[a]!) d0 ((b - 1)) (q1) = scanUp (fun x => ltInt x d0[a]!) d0 ((b - 1)) ((a + 1)))
  case atStart => exact ⟨(a + 1), rfl, Nat.le_refl _, .inr rfl, (by first | rfl | go_num | exact int_eq (by omega)), hA0, rfl⟩
  case round =>
    obtain ⟨q1, rfl, hq11, hq12, rfl, hAq1, hSq1⟩ := hrel
    have HSq1 := Lib.hid hSq1
    clear hSq1
    go_upto_region 3 with fail
    go_cut [43] from 30 to 45 (fun s wx => s = .bool (decide (q1 ≤ (b - 1)) && ltInt d0[q1]! d0[a]!) ∧ Arr W base g c n d0 wx)
    case first =>
      by_cases hlh : q1 ≤ (b - 1)
      · have hcq := fun p => (hAq1.grw p).cell (q1) (by omega)
        have hca := fun p => (hAq1.grw p).cell a (by omega)
        have hga : decide ((q1 : Int) ≤ ((b - 1) : Int)) = true := by rw [decide_eq_true_eq]; omega
        have hgb : decide (q1 ≤ (b - 1)) = true := by rw [decide_eq_true_eq]; exact hlh
        generalize d0[q1]! = su at *
        generalize d0[a]! = sv at *
        go_wp2_with fail
        refine wp_region_grw (by kernel_rfl) (by kernel_rfl) ?_
        repeat (go_big_quiet_step ((go_at_call 71; exact Calls.of_grw_same (less_any _ _ _))))
        refine wpQuiet_nil ?_
        rintro _ ⟨p, rfl⟩
        go_wp2_with fail
        go_meet
        case rel => exact ⟨by rw [hgb]; rfl, hAq1.grw p⟩
      · have hga : decide ((q1 : Int) ≤ ((b - 1) : Int)) = false := by rw [decide_eq_false_iff_not]; omega
        have hgb : decide (q1 ≤ (b - 1)) = false := by rw [decide_eq_false_iff_not]; exact hlh
        go_wp2_with fail
        refine wp_region_grw (by kernel_rfl) (by kernel_rfl) ?_
        repeat (go_big_quiet_step ((go_at_call 71; exact Calls.of_grw_same (less_any _ _ _))))
        refine wpQuiet_nil ?_
        rintro _ ⟨p, rfl⟩
        go_wp2_with fail
        go_meet
        case rel => exact ⟨by rw [hgb]; rfl, hAq1.grw p⟩
    case rest =>
      obtain ⟨rfl, hB⟩ := hcut
      clear hAq1
      cases htq1 : (decide (q1 ≤ (b - 1)) && ltInt d0[q1]! d0[a]!) with
      | true =>
        have hlh : q1 ≤ (b - 1) := by
          simp only [Bool.and_eq_true, decide_eq_true_eq] at htq1
          exact htq1.1
        have HN : Hid (scanUp (fun x => ltInt x d0[a]!) d0 ((b - 1)) (q1 + 1) = scanUp (fun x => ltInt x d0[a]!) d0 ((b - 1)) ((a + 1))) := Lib.hid (by rw [← HSq1.out]; exact (scanUp_go _ _ _ _ htq1).symm)
        clear htq1
        go_wp2_with fail
        go_roundg ((b - 1) + 1 - (q1 + 1))
        case measure => omega
        case rel => exact ⟨q1 + 1, rfl, by omega, by omega, (by first | go_num | exact int_eq (by omega)), hB, HN.out⟩
      | false =>
        have HU : Hid (scanUp (fun x => ltInt x d0[a]!) d0 ((b - 1)) ((a + 1)) = q1) := Lib.hid (by rw [← HSq1.out]; exact scanUp_stop _ _ _ _ htq1)
        have hlhq1 : Hid ((decide (q1 ≤ (b - 1)) && ltInt d0[q1]! d0[a]!) = false) := Lib.hid htq1
        clear htq1 HSq1
        go_wp2_with fail
        go_loopg [11] ((b - 1) + 1 - q1) (fun m s wx => ∃ q2 : Nat, m = q2 + 1 - q1 ∧ q2 ≤ (b - 1) ∧ (q1 ≤ q2 + 1 ∨ q2 = (b - 1)) ∧ s = .int .i64 (q2 : Int) ∧ Arr W base g c n d0 wx ∧ scanDown (fun x => !ltInt x d0[a]!) d0 (q1) (q2) = scanDown (fun x => !ltInt x d0[a]!) d0 (q1) ((b - 1)))
        case atStart => exact ⟨(b - 1), rfl, Nat.le_refl _, .inr rfl, (by first | rfl | go_num | exact int_eq (by omega)), hB, rfl⟩
        case round =>
          obtain ⟨q2, rfl, hq21, hq22, rfl, hAq2, hSq2⟩ := hrel
          have HSq2 := Lib.hid hSq2
          clear hSq2
          go_upto_region 5 with fail
          go_cut [60] from 46 to 62 (fun s wx => s = .bool (decide (q1 ≤ q2) && !ltInt d0[q2]! d0[a]!) ∧ Arr W base g c n d0 wx)
          case first =>
            by_cases hlh : q1 ≤ q2
            · have hcq := fun p => (hAq2.grw p).cell (q2) (by omega)
              have hca := fun p => (hAq2.grw p).cell a (by omega)
              have hga : decide ((q1 : Int) ≤ (q2 : Int)) = true := by rw [decide_eq_true_eq]; omega
              have hgb : decide (q1 ≤ q2) = true := by rw [decide_eq_true_eq]; exact hlh
              generalize d0[q2]! = su at *
              generalize d0[a]! = sv at *
              go_wp2_with fail
              refine wp_region_grw (by kernel_rfl) (by kernel_rfl) ?_
              repeat (go_big_quiet_step ((go_at_call 71; exact Calls.of_grw_same (less_any _ _ _))))
              refine wpQuiet_nil ?_
              rintro _ ⟨p, rfl⟩
              go_wp2_with fail
              go_meet
              case rel => exact ⟨by rw [hgb]; rfl, hAq2.grw p⟩
            · have hga : decide ((q1 : Int) ≤ (q2 : Int)) = false := by rw [decide_eq_false_iff_not]; omega
              have hgb : decide (q1 ≤ q2) = false := by rw [decide_eq_false_iff_not]; exact hlh
              go_wp2_with fail
              refine wp_region_grw (by kernel_rfl) (by kernel_rfl) ?_
              repeat (go_big_quiet_step ((go_at_call 71; exact Calls.of_grw_same (less_any _ _ _))))
              refine wpQuiet_nil ?_
              rintro _ ⟨p, rfl⟩
              go_wp2_with fail
              go_meet
              case rel => exact ⟨by rw [hgb]; rfl, hAq2.grw p⟩
          case rest =>
            obtain ⟨rfl, hC⟩ := hcut
            clear hAq2
            cases htq2 : (decide (q1 ≤ q2) && !ltInt d0[q2]! d0[a]!) with
            | true =>
              have hlh : q1 ≤ q2 := by
                simp only [Bool.and_eq_true, decide_eq_true_eq] at htq2
                exact htq2.1
              have HN : Hid (scanDown (fun x => !ltInt x d0[a]!) d0 (q1) (q2 - 1) = scanDown (fun x => !ltInt x d0[a]!) d0 (q1) ((b - 1))) := Lib.hid (by rw [← HSq2.out]; exact (scanDown_go _ _ _ _ htq2).symm)
              clear htq2
              go_wp2_with fail
              go_roundg ((q2 - 1) + 1 - q1)
              case measure => omega
              case rel => exact ⟨q2 - 1, rfl, by omega, by omega, (by first | go_num | exact int_eq (by omega)), hC, HN.out⟩
            | false =>
              have HD : Hid (scanDown (fun x => !ltInt x d0[a]!) d0 (q1) ((b - 1)) = q2) := Lib.hid (by rw [← HSq2.out]; exact scanDown_stop _ _ _ _ htq2)
              have hlhq2 : Hid ((decide (q1 ≤ q2) && !ltInt d0[q2]! d0[a]!) = false) := Lib.hid htq2
              clear htq2 HSq2
              have HR0 := Lib.hid (HE.out q1 q2 HU.out HD.out)
              by_cases hgt : q2 < q1
              · have HX : Hid ((q2, true, swp d0 q2 a) = R) := Lib.hid (by rw [HR0.out, if_pos hgt])
                have hci := hC.cell (q2) (by omega)
                have hcj := hC.cell (a) (by omega)
                have hfi := hC.frozen (q2)
                have hfj := hC.frozen (a)
                generalize hsu : d0[q2]! = su at hci
                generalize hsv : d0[a]! = sv at hcj
                have HSU := Lib.hid hsu
                have HSV := Lib.hid hsv
                obtain ⟨vx, hyy⟩ := cell_set_some ⟨g, q2, none⟩ (.int .u64 sv) hcj
                clear hsu hsv
                go_wp2_with fail
                go_region
                clear hci hcj hfi hfj hyy
                refine absw (fun x => Arr W base g c n (swp d0 (q2) (a)) x) (hC.swpd HSV.out HSU.out) ?_
                clear HSU HSV
                rintro wE hE
                go_wp2_with fail
                go_ret2
                rw [← HX.out]
                exact ⟨rfl, hE⟩
              · have HX : Hid (R = ((partLoop ltInt a (q1 + 1) (q2 - 1) (swp d0 q1 q2)).1, false, swp (partLoop ltInt a (q1 + 1) (q2 - 1) (swp d0 q1 q2)).2 (partLoop ltInt a (q1 + 1) (q2 - 1) (swp d0 q1 q2)).1 a)) := Lib.hid (by rw [HR0.out, if_neg hgt])
                clear HR0 HE
                have hci := hC.cell (q1) (by omega)
                have hcj := hC.cell (q2) (by omega)
                have hfi := hC.frozen (q1)
                have hfj := hC.frozen (q2)
                generalize hsu : d0[q1]! = su at hci
                generalize hsv : d0[q2]! = sv at hcj
                have HSU := Lib.hid hsu
                have HSV := Lib.hid hsv
                obtain ⟨vx, hyy⟩ := cell_set_some ⟨g, q1, none⟩ (.int .u64 sv) hcj
                clear hsu hsv
                go_wp2_with fail
                go_region
                clear hci hcj hfi hfj hyy
                refine absw (fun x => Arr W base g c n (swp d0 (q1) (q2)) x) (hC.swpd HSV.out HSU.out) ?_
                clear HSU HSV
                rintro wE hE
                generalize hL : partLoop ltInt a (q1 + 1) (q2 - 1) (swp d0 q1 q2) = L at *
                have HL := Lib.hid hL
                clear hL
                generalize swp d0 q1 q2 = d1 at *
                go_wp2_with fail
                go_loopg [10, 11] (q2 - 1 + 1 - (q1 + 1)) (fun m s t wx => ∃ (i j : Nat) (dk : Array Int), m = j + 1 - i ∧ a + 1 ≤ i ∧ a ≤ j ∧ j < b ∧ i ≤ j + 2 ∧ s = .int .i64 (i : Int) ∧ t = .int .i64 (j : Int) ∧ Arr W base g c n dk wx ∧ partLoop ltInt a i j dk = L)
                case atStart => exact ⟨q1 + 1, q2 - 1, d1, rfl, by omega, by omega, by omega, by omega, by go_num, int_eq (by omega), hE, HL.out⟩
                case round =>
                  obtain ⟨i, j, dk, rfl, hi1, hj1, hj2, hij, rfl, rfl, hA, hR⟩ := hrel
                  have HR := Lib.hid hR
                  clear hR hE HL HU HD hC
                  go_wp2_with fail
                  go_loopg [10] (j + 1 - i) (fun m s wx => ∃ q3 : Nat, m = j + 1 - q3 ∧ i ≤ q3 ∧ (q3 ≤ j + 1 ∨ q3 = i) ∧ s = .int .i64 (q3 : Int) ∧ Arr W base g c n dk wx ∧ scanUp (fun x => ltInt x dk[a]!) dk (j) (q3) = scanUp (fun x => ltInt x dk[a]!) dk (j) (i))
                  case atStart => exact ⟨i, rfl, Nat.le_refl _, .inr rfl, (by first | rfl | go_num | exact int_eq (by omega)), hA, rfl⟩
                  case round =>
                    obtain ⟨q3, rfl, hq31, hq32, rfl, hAq3, hSq3⟩ := hrel
                    have HSq3 := Lib.hid hSq3
                    clear hSq3
                    go_upto_region 13 with fail
                    go_cut [112] from 99 to 114 (fun s wx => s = .bool (decide (q3 ≤ j) && ltInt dk[q3]! dk[a]!) ∧ Arr W base g c n dk wx)
                    case first =>
                      by_cases hlh : q3 ≤ j
                      · have hcq := fun p => (hAq3.grw p).cell (q3) (by omega)
                        have hca := fun p => (hAq3.grw p).cell a (by omega)
                        have hga : decide ((q3 : Int) ≤ (j : Int)) = true := by rw [decide_eq_true_eq]; omega
                        have hgb : decide (q3 ≤ j) = true := by rw [decide_eq_true_eq]; exact hlh
                        generalize dk[q3]! = su at *
                        generalize dk[a]! = sv at *
                        go_wp2_with fail
                        refine wp_region_grw (by kernel_rfl) (by kernel_rfl) ?_
                        repeat (go_big_quiet_step ((go_at_call 71; exact Calls.of_grw_same (less_any _ _ _))))
                        refine wpQuiet_nil ?_
                        rintro _ ⟨p, rfl⟩
                        go_wp2_with fail
                        go_meet
                        case rel => exact ⟨by rw [hgb]; rfl, hAq3.grw p⟩
                      · have hga : decide ((q3 : Int) ≤ (j : Int)) = false := by rw [decide_eq_false_iff_not]; omega
                        have hgb : decide (q3 ≤ j) = false := by rw [decide_eq_false_iff_not]; exact hlh
                        go_wp2_with fail
                        refine wp_region_grw (by kernel_rfl) (by kernel_rfl) ?_
                        repeat (go_big_quiet_step ((go_at_call 71; exact Calls.of_grw_same (less_any _ _ _))))
                        refine wpQuiet_nil ?_
                        rintro _ ⟨p, rfl⟩
                        go_wp2_with fail
                        go_meet
                        case rel => exact ⟨by rw [hgb]; rfl, hAq3.grw p⟩
                    case rest =>
                      obtain ⟨rfl, hB⟩ := hcut
                      clear hAq3
                      cases htq3 : (decide (q3 ≤ j) && ltInt dk[q3]! dk[a]!) with
                      | true =>
                        have hlh : q3 ≤ j := by
                          simp only [Bool.and_eq_true, decide_eq_true_eq] at htq3
                          exact htq3.1
                        have HN : Hid (scanUp (fun x => ltInt x dk[a]!) dk (j) (q3 + 1) = scanUp (fun x => ltInt x dk[a]!) dk (j) (i)) := Lib.hid (by rw [← HSq3.out]; exact (scanUp_go _ _ _ _ htq3).symm)
                        clear htq3
                        go_wp2_with fail
                        go_roundg (j + 1 - (q3 + 1))
                        case measure => omega
                        case rel => exact ⟨q3 + 1, rfl, by omega, by omega, (by first | go_num | exact int_eq (by omega)), hB, HN.out⟩
                      | false =>
                        have HU : Hid (scanUp (fun x => ltInt x dk[a]!) dk (j) (i) = q3) := Lib.hid (by rw [← HSq3.out]; exact scanUp_stop _ _ _ _ htq3)
                        have hlhq3 : Hid ((decide (q3 ≤ j) && ltInt dk[q3]! dk[a]!) = false) := Lib.hid htq3
                        clear htq3 HSq3
                        go_wp2_with fail
                        go_loopg [11] (j + 1 - q3) (fun m s wx => ∃ q4 : Nat, m = q4 + 1 - q3 ∧ q4 ≤ j ∧ (q3 ≤ q4 + 1 ∨ q4 = j) ∧ s = .int .i64 (q4 : Int) ∧ Arr W base g c n dk wx ∧ scanDown (fun x => !ltInt x dk[a]!) dk (q3) (q4) = scanDown (fun x => !ltInt x dk[a]!) dk (q3) (j))
                        case atStart => exact ⟨j, rfl, Nat.le_refl _, .inr rfl, (by first | rfl | go_num | exact int_eq (by omega)), hB, rfl⟩
                        case round =>
                          obtain ⟨q4, rfl, hq41, hq42, rfl, hAq4, hSq4⟩ := hrel
                          have HSq4 := Lib.hid hSq4
                          clear hSq4
                          go_upto_region 15 with fail
                          go_cut [129] from 115 to 131 (fun s wx => s = .bool (decide (q3 ≤ q4) && !ltInt dk[q4]! dk[a]!) ∧ Arr W base g c n dk wx)
                          case first =>
                            by_cases hlh : q3 ≤ q4
                            · have hcq := fun p => (hAq4.grw p).cell (q4) (by omega)
                              have hca := fun p => (hAq4.grw p).cell a (by omega)
                              have hga : decide ((q3 : Int) ≤ (q4 : Int)) = true := by rw [decide_eq_true_eq]; omega
                              have hgb : decide (q3 ≤ q4) = true := by rw [decide_eq_true_eq]; exact hlh
                              generalize dk[q4]! = su at *
                              generalize dk[a]! = sv at *
                              go_wp2_with fail
                              refine wp_region_grw (by kernel_rfl) (by kernel_rfl) ?_
                              repeat (go_big_quiet_step ((go_at_call 71; exact Calls.of_grw_same (less_any _ _ _))))
                              refine wpQuiet_nil ?_
                              rintro _ ⟨p, rfl⟩
                              go_wp2_with fail
                              go_meet
                              case rel => exact ⟨by rw [hgb]; rfl, hAq4.grw p⟩
                            · have hga : decide ((q3 : Int) ≤ (q4 : Int)) = false := by rw [decide_eq_false_iff_not]; omega
                              have hgb : decide (q3 ≤ q4) = false := by rw [decide_eq_false_iff_not]; exact hlh
                              go_wp2_with fail
                              refine wp_region_grw (by kernel_rfl) (by kernel_rfl) ?_
                              repeat (go_big_quiet_step ((go_at_call 71; exact Calls.of_grw_same (less_any _ _ _))))
                              refine wpQuiet_nil ?_
                              rintro _ ⟨p, rfl⟩
                              go_wp2_with fail
                              go_meet
                              case rel => exact ⟨by rw [hgb]; rfl, hAq4.grw p⟩
                          case rest =>
                            obtain ⟨rfl, hC⟩ := hcut
                            clear hAq4
                            cases htq4 : (decide (q3 ≤ q4) && !ltInt dk[q4]! dk[a]!) with
                            | true =>
                              have hlh : q3 ≤ q4 := by
                                simp only [Bool.and_eq_true, decide_eq_true_eq] at htq4
                                exact htq4.1
                              have HN : Hid (scanDown (fun x => !ltInt x dk[a]!) dk (q3) (q4 - 1) = scanDown (fun x => !ltInt x dk[a]!) dk (q3) (j)) := Lib.hid (by rw [← HSq4.out]; exact (scanDown_go _ _ _ _ htq4).symm)
                              clear htq4
                              go_wp2_with fail
                              go_roundg ((q4 - 1) + 1 - q3)
                              case measure => omega
                              case rel => exact ⟨q4 - 1, rfl, by omega, by omega, (by first | go_num | exact int_eq (by omega)), hC, HN.out⟩
                            | false =>
                              have HD : Hid (scanDown (fun x => !ltInt x dk[a]!) dk (q3) (j) = q4) := Lib.hid (by rw [← HSq4.out]; exact scanDown_stop _ _ _ _ htq4)
                              have hlhq4 : Hid ((decide (q3 ≤ q4) && !ltInt dk[q4]! dk[a]!) = false) := Lib.hid htq4
                              clear htq4 HSq4
                              by_cases hgt2 : q4 < q3
                              · have HY : Hid ((q4, dk) = L) := Lib.hid (by rw [← HR.out]; exact (partLoop_end a i j dk HU.out HD.out hgt2).symm)
                                have hci := hC.cell (q4) (by omega)
                                have hcj := hC.cell (a) (by omega)
                                have hfi := hC.frozen (q4)
                                have hfj := hC.frozen (a)
                                generalize hsu : dk[q4]! = su at hci
                                generalize hsv : dk[a]! = sv at hcj
                                have HSU := Lib.hid hsu
                                have HSV := Lib.hid hsv
                                obtain ⟨vx, hyy⟩ := cell_set_some ⟨g, q4, none⟩ (.int .u64 sv) hcj
                                clear hsu hsv
                                go_wp2_with fail
                                go_region
                                clear hci hcj hfi hfj hyy
                                refine absw (fun x => Arr W base g c n (swp dk (q4) (a)) x) (hC.swpd HSV.out HSU.out) ?_
                                clear HSU HSV
                                rintro wE hE
                                go_wp2_with fail
                                go_ret2
                                rw [HX.out, ← HY.out]
                                exact ⟨rfl, hE⟩
                              · have HY : Hid (partLoop ltInt a (q3 + 1) (q4 - 1) (swp dk q3 q4) = L) := Lib.hid (by rw [← HR.out]; exact (partLoop_go a i j dk HU.out HD.out hgt2 (by omega) (by omega) (by omega)).symm)
                                have hci := hC.cell (q3) (by omega)
                                have hcj := hC.cell (q4) (by omega)
                                have hfi := hC.frozen (q3)
                                have hfj := hC.frozen (q4)
                                generalize hsu : dk[q3]! = su at hci
                                generalize hsv : dk[q4]! = sv at hcj
                                have HSU := Lib.hid hsu
                                have HSV := Lib.hid hsv
                                obtain ⟨vx, hyy⟩ := cell_set_some ⟨g, q3, none⟩ (.int .u64 sv) hcj
                                clear hsu hsv
                                go_wp2_with fail
                                go_region
                                clear hci hcj hfi hfj hyy
                                refine absw (fun x => Arr W base g c n (swp dk (q3) (q4)) x) (hC.swpd HSV.out HSU.out) ?_
                                clear HSU HSV
                                rintro wE hE
                                go_wp2_with fail
                                go_roundg (q4 - 1 + 1 - (q3 + 1))
                                case measure => omega
                                case rel => exact ⟨q3 + 1, q4 - 1, _, rfl, by omega, by omega, by omega, by omega, by go_num, int_eq (by omega), hE, HY.out⟩
end Go.Proofs.Ythaceagaodjllaa
