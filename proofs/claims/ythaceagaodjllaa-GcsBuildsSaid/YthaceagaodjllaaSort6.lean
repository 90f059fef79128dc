/- The library's sort of uint64s: pdqsort, Sort: it sorts. Slices of fewer than 2^60. -/
import Derived.Test.YthaceagaodjllaaSort5
namespace Go.Proofs.Ythaceagaodjllaa
open Go.RowKit Go.Sort

def Pdq (W : World) (base g c n a b : Nat) (d : Array Int) (e : Ending) (w' : World) : Prop := e = .returned (.tuple #[]) ∧ ∃ d', PermIn a b d d' ∧ SortedIn ltInt a b d' ∧ Arr W base g c n d' w'
def LimOk (lim : Nat) (a b : Nat) (dk : Array Int) (W : World) (base g c n : Nat) (s : Value) (w : World) : Prop := ∃ (l : Nat) (d1 : Array Int), s = .int .i64 (l : Int) ∧ l ≤ lim ∧ PermIn a b dk d1 ∧ Arr W base g c n d1 w
def HintOk (a b : Nat) (dk : Array Int) (W : World) (base g c n : Nat) (s t : Value) (w : World) : Prop := ∃ (p h : Nat) (d1 : Array Int), s = .int .i64 (p : Int) ∧ t = .int .i64 (h : Int) ∧ (a ≤ p ∧ p < b) ∧ PermIn a b dk d1 ∧ Arr W base g c n d1 w
def PartOk (a b : Nat) (dk : Array Int) (W : World) (base g c n : Nat) (w : World) : Prop := ∃ (d1 : Array Int), PermIn a b dk d1 ∧ Arr W base g c n d1 w

set_option maxRecDepth 1000000 in
set_option maxHeartbeats 16000000 in
theorem pdq_any (W : World) (base g c n : Nat) (hn : n < 1152921504606846976) : ∀ (N a b limit : Nat) (d : Array Int) (w : World), b - a < N → Arr W base g c n d w → a ≤ b → b ≤ n → limit < 1152921504606846976 → Go.Sort.Below ltInt a b d →
    Calls Try.prog 78 #[.slice (some ⟨g, 0, none⟩) n c, .int .i64 a, .int .i64 b, .int .i64 limit] w (Pdq W base g c n a b d) := by
  intro N
  induction N with
  | zero => intro _ _ _ _ _ h; exact absurd h (Nat.not_lt_zero _)
  | succ N ih =>
    intro a b limit d w hN h hab hb hlim hB
    have IH := Lib.hid ih
    clear ih
    have HB0 := Lib.hid hB
    clear hB
    go_enter Try.func78, Try.ntmps78
    go_wp2_with fail
    go_loopg [1, 2, 3, 8, 9] (b - a) (fun k s1 s2 s3 s8 s9 wx => ∃ (x y l : Nat) (wb wp : Bool) (dk : Array Int), s1 = .int .i64 (x : Int) ∧ s2 = .int .i64 (y : Int) ∧ s3 = .int .i64 (l : Int) ∧ s8 = .bool wb ∧ s9 = .bool wp ∧
      x ≤ y ∧ y ≤ n ∧ y - x ≤ k ∧ k ≤ b - a ∧ l ≤ limit ∧ Go.Sort.Below ltInt x y dk ∧ Arr W base g c n dk wx ∧ (∀ R, PermIn x y dk R → SortedIn ltInt x y R → PermIn a b d R ∧ SortedIn ltInt a b R))
    case atStart => exact ⟨a, b, limit, true, true, d, rfl, rfl, rfl, rfl, rfl, hab, hb, Nat.le_refl _, Nat.le_refl _, Nat.le_refl _, HB0.out, h, fun R h1 h2 => ⟨h1, h2⟩⟩
    case round =>
      obtain ⟨x, y, l, wb, wp, dk, rfl, rfl, rfl, rfl, rfl, hxy, hy, hk, hkN, hl, hBel, hA, hfin⟩ := hrel
      have HF := Lib.hid hfin
      have HB := Lib.hid hBel
      clear hfin hBel h HB0
      by_cases h12 : y - x ≤ 12
      · have hp := insertionSort_holds swo_ltInt dk x y hxy (by rw [hA.sz]; exact hy)
        have HP := Lib.hid hp
        clear hp
        go_wp2_with fail
        refine (ins_any W base g c n x y dk wr hA hxy hy (by omega)).mono ?_
        rintro e w1 ⟨rfl, hA1⟩
        go_wp2_with fail
        first | go_end0 | ((try simp only [Exit.inBlock, Exit.then]); refine bodyPost_ret (results_none rfl _ _ _) rfl ?_)
        obtain ⟨h1, h2⟩ := HF.out _ HP.out.1 HP.out.2
        exact ⟨rfl, _, h1, h2, hA1⟩
      · by_cases hl0 : l = 0
        · subst hl0
          have hp := heapSort_holds swo_ltInt dk x y hxy (by rw [hA.sz]; exact hy)
          have HP := Lib.hid hp
          clear hp
          go_wp2_with fail
          refine (heap_any W base g c n x y dk wr hA (by omega) hy hn).mono ?_
          rintro e w1 ⟨rfl, hA1⟩
          go_wp2_with fail
          first | go_end0 | ((try simp only [Exit.inBlock, Exit.then]); refine bodyPost_ret (results_none rfl _ _ _) rfl ?_)
          obtain ⟨h1, h2⟩ := HF.out _ HP.out.1 HP.out.2
          exact ⟨rfl, _, h1, h2, hA1⟩
        · have hl0' : ((l : Int) == 0) = false := by rw [beq_eq_false_iff_ne]; omega
          go_upto_if 35 with fail
          go_cut [3] from 19 to 133 (fun s3 wc => LimOk l x y dk W base g c n s3 wc)
          case first =>
            cases wb with
            | false =>
              go_wp2_with fail
              refine (brk_any W base g c n x y dk wr hA (by omega) hy hn).mono ?_
              rintro e w1 ⟨rfl, d1, hP1, hA1⟩
              go_wp2_with fail
              go_meet
              case rel => exact ⟨l - 1, d1, int_eq (by omega), by omega, hP1, hA1⟩
            | true =>
              go_wp2_with fail
              go_meet
              case rel => exact ⟨l, dk, rfl, Nat.le_refl _, permIn_refl dk x y, hA⟩
          case rest =>
            obtain ⟨l1, d1, rfl, hl1, hP1, hA1⟩ := hcut
            have HP1 := Lib.hid hP1
            clear hP1 hA
            go_wp2_with fail
            refine (piv_any W base g c n x y d1 wc hA1 (by omega) hy hn).mono ?_
            rintro e w2 ⟨p, hh, rfl, hp, hhh, hA2⟩
            go_upto_if 50 with fail
            go_cut [11, 12] from 19 to 133 (fun s11 s12 wc => HintOk x y d1 W base g c n s11 s12 wc)
            case first =>
              by_cases hdec : hh = 2
              · subst hdec
                have hrv := reverseRange_holds d1 x y hxy (by rw [hA1.sz]; exact hy)
                have HRV := Lib.hid hrv
                clear hrv
                go_wp2_with fail
                refine (rev_any W base g c n x y d1 w2 hA2 (by omega) hy hn).mono ?_
                rintro e w3 ⟨rfl, hA3⟩
                go_wp2_with fail
                go_meet
                case rel => exact ⟨y - 1 - (p - x), 1, _, int_eq (by omega), rfl, by omega, HRV.out, hA3⟩
              · have hdb : ((hh : Int) == 2) = false := by rw [beq_eq_false_iff_ne]; omega
                go_wp2_with fail
                go_meet
                case rel => exact ⟨p, hh, d1, rfl, rfl, hp, permIn_refl d1 x y, hA2⟩
            case rest =>
              obtain ⟨p2, h2, d2, rfl, rfl, hp2, hP2, hA3⟩ := hcut
              have HP2 : Hid (PermIn x y dk d2) := Lib.hid (permIn_trans _ _ _ x y HP1.out hP2)
              clear HP1 hP2 hA1 hA2
              go_upto_region 15 with fail
              go_cut [68] from 19 to 133 (fun s68 wx => (∃ t : Bool, s68 = .bool t) ∧ Arr W base g c n d2 wx)
              case first =>
                cases wb <;> cases wp <;>
                  (by_cases h21 : h2 = 1
                   · subst h21
                     go_wp2_with fail
                     go_meet
                     exact ⟨⟨_, rfl⟩, hA3⟩
                   · have hib : ((h2 : Int) == 1) = false := by rw [beq_eq_false_iff_ne]; omega
                     go_wp2_with fail
                     go_meet
                     exact ⟨⟨_, rfl⟩, hA3⟩)
              case rest =>
                obtain ⟨⟨t, rfl⟩, hA4⟩ := hcut
                go_upto_if 68 with fail
                go_cut [] from 19 to 133 (fun wx => PartOk x y d2 W base g c n wx)
                case first =>
                  cases t with
                  | false =>
                    go_wp2_with fail
                    go_meet
                    case rel => exact ⟨d2, permIn_refl d2 x y, hA4⟩
                  | true =>
                    have hpi := partialInsertionSort_holds swo_ltInt d2 x y (by omega) (by rw [hA4.sz]; exact hy) (HB.out.perm (by rw [← HP2.out.1, hA4.sz]; exact hy) HP2.out)
                    have HPI := Lib.hid hpi
                    clear hpi
                    have hpa := par_any W base g c n x y d2 wc hA4 (by omega) hy hn
                    generalize partialInsertionSort ltInt d2 x y = pr at *
                    obtain ⟨d3, ok⟩ := pr
                    cases ok with
                    | true =>
                      have HPA := Lib.hid hpa
                      clear hpa
                      go_wp2_with fail
                      refine HPA.out.mono ?_
                      rintro e w4 ⟨rfl, hA5⟩
                      go_wp2_with fail
                      first | go_end0 | ((try simp only [Exit.inBlock, Exit.then]); refine bodyPost_ret (results_none rfl _ _ _) rfl ?_)
                      obtain ⟨h3, h4⟩ := HF.out d3 (permIn_trans _ _ _ x y HP2.out HPI.out.1) (by first | exact HPI.out.2 rfl | exact HPI.out.2 trivial)
                      exact ⟨rfl, d3, h3, h4, hA5⟩
                    | false =>
                      have HPA := Lib.hid hpa
                      clear hpa
                      go_wp2_with fail
                      refine HPA.out.mono ?_
                      rintro e w4 ⟨rfl, hA5⟩
                      go_wp2_with fail
                      go_meet
                      case rel => exact ⟨d3, HPI.out.1, hA5⟩
                case rest =>
                  obtain ⟨d3, hP3, hA5⟩ := hcut
                  have HP3 : Hid (PermIn x y dk d3) := Lib.hid (permIn_trans _ _ _ x y HP2.out hP3)
                  have HB3 : Hid (Go.Sort.Below ltInt x y d3) := Lib.hid (HB.out.perm (by rw [← HP3.out.1, hA5.sz]; exact hy) HP3.out)
                  clear hP3 HP2 hA3 hA4 HB
                  go_upto_region 17 with fail
                  go_cut [87] from 19 to 133 (fun s87 wx => s87 = .bool (decide (x > 0) && !ltInt d3[x - 1]! d3[p2]!) ∧ Arr W base g c n d3 wx)
                  case first =>
                    rcases Nat.eq_zero_or_pos x with hx0 | hx0
                    · subst hx0
                      go_wp2_with fail
                      refine wp_region_grw (by kernel_rfl) (by kernel_rfl) ?_
                      repeat (go_big_quiet_step ((go_at_call 71; exact Calls.of_grw_same (less_any _ _ _))))
                      refine wpQuiet_nil ?_
                      rintro _ ⟨p, rfl⟩
                      go_wp2_with fail
                      go_meet
                      case rel => exact ⟨by simp, hA5.grw p⟩
                    · have hca := fun p => (hA5.grw p).cell (x - 1) (by omega)
                      have hcb := fun p => (hA5.grw p).cell p2 (by omega)
                      have hga : decide ((0 : Int) < (x : Int)) = true := by rw [decide_eq_true_eq]; omega
                      have hgb : decide (0 < x) = true := by rw [decide_eq_true_eq]; omega
                      have hgc : decide (x > 0) = true := by rw [decide_eq_true_eq]; omega
                      generalize d3[x - 1]! = u at *
                      generalize d3[p2]! = v at *
                      go_wp2_with fail
                      have i0a : 0 ≤ (x : Int) - 1 := by omega
                      have i0b : (x : Int) - 1 < (n : Int) := by omega
                      have i0c : ((x : Int) - 1).toNat = x - 1 := by omega
                      have i0d : IntKind.i64.wrap ((x : Int) - 1) = (x : Int) - 1 := IntWalk.i64_in _ (by omega)
                      refine wp_region_grw (by kernel_rfl) (by kernel_rfl) ?_
                      repeat (go_big_quiet_step ((go_at_call 71; exact Calls.of_grw_same (less_any _ _ _))))
                      refine wpQuiet_nil ?_
                      rintro _ ⟨p, rfl⟩
                      clear i0a i0b i0c i0d
                      go_wp2_with fail
                      go_meet
                      case rel => exact ⟨by rw [hgc]; rfl, hA5.grw p⟩
                  case rest =>
                    obtain ⟨rfl, hA6⟩ := hcut
                    clear hA5
                    cases h87 : (decide (x > 0) && !ltInt d3[x - 1]! d3[p2]!) with
                    | true =>
                      simp only [Bool.and_eq_true, decide_eq_true_eq, Bool.not_eq_true'] at h87
                      obtain ⟨mid, d4, hx⟩ : ∃ mid d4, partitionEqual ltInt d3 x y p2 = (mid, d4) := ⟨_, _, rfl⟩
                      obtain ⟨r1, r2, r3, r4, r5⟩ := round_eq swo_ltInt (partitionEqual_holds _) h87.1 hp2.1 hp2.2 (by rw [hA6.sz]; exact hy) HB3.out h87.2 hx
                      have hq := peq_any W base g c n x y p2 d3 wc hA6 hp2.1 hp2.2 hy hn
                      rw [hx] at hq
                      have HQ := Lib.hid hq
                      have H4 := Lib.hid r4
                      have H5 := Lib.hid r5
                      clear hq hx h87 r3 r4 r5
                      go_wp2_with fail
                      refine HQ.out.mono ?_
                      rintro e w7 ⟨rfl, hA7⟩
                      go_wp2_with fail
                      go_roundg (y - mid)
                      case measure => omega
                      case rel =>
                        refine ⟨mid, y, l1, wb, wp, d4, rfl, rfl, rfl, rfl, rfl, r2, hy, Nat.le_refl _, by omega, by omega, H4.out, hA7, fun R h1 h2 => ?_⟩
                        obtain ⟨h3, h4⟩ := H5.out R h1 h2
                        exact HF.out R (permIn_trans _ _ _ x y HP3.out h3) h4
                    | false =>
                      clear h87
                      obtain ⟨mid, ap, d4, hx⟩ : ∃ mid ap d4, partition ltInt d3 x y p2 = (mid, ap, d4) := ⟨_, _, _, rfl⟩
                      obtain ⟨r1, r2, r3, r4, r5, r6, r7⟩ := round_part swo_ltInt (partition_holds _) hp2.1 hp2.2 (by rw [hA6.sz]; exact hy) HB3.out hx
                      have hq := prt_any W base g c n x y p2 d3 wc hA6 hp2.1 hp2.2 hy hn
                      rw [hx] at hq
                      have HQ := Lib.hid hq
                      have H4 := Lib.hid r4
                      have H5 := Lib.hid r5
                      have H6 := Lib.hid r6
                      have H7 := Lib.hid r7
                      clear hq hx r3 r4 r5 r6 r7
                      go_upto_if 113 with (go_at_call 96; refine HQ.out.mono ?_; rintro e w7 ⟨rfl, hA7⟩)
                      by_cases h4 : mid - x < y - mid
                      · have hih := IH.out x mid l1 d4 w7 (by omega) hA7 (by omega) (by omega) (by omega) H4.out
                        have HIH := Lib.hid hih
                        clear hih
                        go_wp2_with fail
                        refine HIH.out.mono ?_
                        rintro e w8 ⟨rfl, d5, hP5, hS5, hA8⟩
                        have H6b := Lib.hid (H6.out d5 hP5 hS5)
                        clear hP5 hS5
                        go_wp2_with fail
                        go_roundg (y - (mid + 1))
                        case measure => omega
                        case rel =>
                          refine ⟨mid + 1, y, l1, _, ap, d5, by go_num, rfl, rfl, rfl, rfl, by omega, hy, Nat.le_refl _, by omega, by omega, H6b.out.1, hA8, fun R h1 h2 => ?_⟩
                          obtain ⟨h3, h4⟩ := H6b.out.2 R h1 h2
                          exact HF.out R (permIn_trans _ _ _ x y HP3.out h3) h4
                      · have hih := IH.out (mid + 1) y l1 d4 w7 (by omega) hA7 (by omega) (by omega) (by omega) H5.out
                        rw [show ((mid + 1 : Nat) : Int) = (mid : Int) + 1 by omega] at hih
                        have HIH := Lib.hid hih
                        clear hih
                        go_wp2_with fail
                        refine HIH.out.mono ?_
                        rintro e w8 ⟨rfl, d5, hP5, hS5, hA8⟩
                        have H7b := Lib.hid (H7.out d5 hP5 hS5)
                        clear hP5 hS5
                        go_wp2_with fail
                        go_roundg (mid - x)
                        case measure => omega
                        case rel =>
                          refine ⟨x, mid, l1, _, ap, d5, rfl, rfl, rfl, rfl, rfl, by omega, by omega, Nat.le_refl _, by omega, by omega, H7b.out.1, hA8, fun R h1 h2 => ?_⟩
                          obtain ⟨h3, h4⟩ := H7b.out.2 R h1 h2
                          exact HF.out R (permIn_trans _ _ _ x y HP3.out h3) h4
/-- The sort sorts. -/
theorem sort_ok (n : Nat) (hn : n < 1152921504606846976) : SortOk n := by
  intro A c base xs w hxs hlt hown hb
  rcases Nat.lt_or_ge n 2 with h1 | h1
  · exact sort_short n (by omega) A c base xs w hxs hlt hown hb
  · obtain ⟨g, rfl, hg1, hg2⟩ := own_get hown (by omega)
    have hd : vnat xs = u64s ((xs.map fun (x : Nat) => (x : Int)).toArray).toList := by simp [vnat, u64s]
    have hA : Arr w base g c n (xs.map fun (x : Nat) => (x : Int)).toArray w := ⟨by rw [← hd]; exact hown, gr_refl w, by simpa using hxs⟩
    have hp := pdq_any w base g c n hn (n + 1) 0 n (bitsLen n) (xs.map fun (x : Nat) => (x : Int)).toArray w (by omega) hA (by omega) (Nat.le_refl _) (by have := bitsLen_le n (by omega); omega) (Or.inl rfl)
    have HP := Lib.hid hp
    clear hp
    go_enter Try.func50, Try.ntmps50
    go_wp2_with fail
    refine (len_any n _ w rfl (by omega)).mono ?_
    rintro e _ ⟨rfl, rfl⟩
    go_wp2_with fail
    refine HP.out.mono ?_
    rintro e w1 ⟨rfl, d', hP, hS, hA1⟩
    go_wp2_with fail
    go_end0
    refine ⟨rfl, ?_, hA1.gr⟩
    have hz : (xs.map fun (x : Nat) => (x : Int)).toArray.size = n := by simpa using hxs
    rw [← hz] at hP hS
    have hmm : (sortN xs).map (fun (x : Nat) => (x : Int)) = (xs.map fun (x : Nat) => (x : Int)).mergeSort (fun x y => !ltInt y x) :=
      List.map_mergeSort (fun a _ b _ => by simp only [ltInt]; rw [Bool.eq_iff_iff]; simp)
    have hm := sorted_unique_holds swo_ltInt (fun x y h1 h2 => by simp only [ltInt, decide_eq_false_iff_not] at h1 h2; omega) _ _ hP hS
    have e : vnat (sortN xs) = u64s d'.toList := by
      rw [hm]
      show vnat (sortN xs) = u64s ((xs.map fun (x : Nat) => (x : Int)).mergeSort (fun x y => !ltInt y x))
      rw [← hmm]
      simp [vnat, u64s]
    rw [e]
    exact hA1.own
end Go.Proofs.Ythaceagaodjllaa
